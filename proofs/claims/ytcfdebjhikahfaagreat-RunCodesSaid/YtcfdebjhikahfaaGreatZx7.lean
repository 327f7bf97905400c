import Derived.Test.YtcfdebjhikahfaaGreatZx6
set_option linter.unusedSimpArgs false
set_option linter.unusedVariables false
set_option linter.unusedSectionVars false
namespace Go.Proofs.YtcfdebjhikahfaaGreat
section
open Go.RowKit
abbrev fL:=@Tryz.call20
abbrev qL:=@Tryz.call40
abbrev dV:=@Tryz.underlying30
end
namespace B
section
open Go.RowKit
open Srt
set_option maxRecDepth 100000 in
set_option maxHeartbeats 4000000 in
theorem yZ (F:bj) (t:Tr) (fold:Bool) (s:ByteArray) (n:Int) (w:World) (hT:TrT F w t) (hP:fc t≤1000000) (hs:s.size≤900000):Calls Tryz.prog 16 #[(ta t),(aE fold),(bc s),(aj n)] w (fun e w'=>yg (ie t fold s n) w e w'):=by
 refine enter (n:=72) Tryz.func16 rfl rfl (aw rfl) ?_;intro a0 τ0 ha st0;have e0:be a0 0=(ta t):=ha 0 _ rfl;have e1:be a0 1=(aE fold):=ha 1 _ rfl;have e2:be a0 2=(bc s):=ha 2 _ rfl;have e3:be a0 3=(aj n):=ha 3 _ rfl;clear ha;have hwt:=fG t;have r8:Fz (gT (Gn F w) t) τ0 w:=TrT.inz hT st0;refine wp_seq (rg [box _ _ 1 4 (tc t),_,_,_] [0,0,2,6] st0 [jz 8 r8] ⟨hH (v:=(ta t)) rfl rfl rfl rfl rfl (fun _ _ _ _ c=>(c.p e0)),aq fun c=>ax rfl rfl,aq fun c=>ax rfl rfl,aq fun c=>ax rfl rfl,av⟩ fun ac ag ae ab aa=> ?_);obtain ⟨b1x4,e4⟩:=gx ac 4;obtain ⟨e1,e2,e3⟩:=aa.k3 e1 e2 e3;have e8:=aa.V 1;have e9:=aa.V 2;have e10:=aa.V 3;have r1:=aa.rb 0 e4 rfl;replace r8:=aa.z1 8;refine wp_seq ?_;refine wp_seq (fX ab [jb r1,jz 8 r8] ⟨aq fun c=>dY rfl az ak ((c.p e4).trans r1.ptr) (c.B 1),eE fun c=>⟨_,_,(bK rfl rfl ld (c.q 0)),uQ t _ (zs (c.iz 8 rfl)) (by omega)⟩,aq fun c=>ew rfl (c.q 1),av⟩ fun ac ag ae ab aa=> ?_);obtain ⟨e1,e2,e3,e4,e8,e9,e10⟩:=aa.k7 e1 e2 e3 e4 e8 e9 e10;have e18:=aa.V 2;replace r1:=aa.B 1;replace r8:=aa.z1 8;refine wp_cond_split e18 (fun hc1=> ?_) (fun hc1=> ?_)
 · try simp only [ar,am] at hc1
   refine wp_seq (fX ab [jb r1,jz 8 r8] ⟨aq fun c=>ax rfl rfl,aq fun c=>ax rfl rfl,aq fun c=>ax rfl rfl,av⟩ fun ac ag ae ab aa=> ?_);obtain ⟨e1,e2,e3,e4⟩:=aa.k4 e1 e2 e3 e4;have e8:=aa.V 0;have e9:=aa.V 1;have e10:=aa.V 2;replace r1:=aa.B 1;replace r8:=aa.z1 8;refine wp_ret ?_;refine rp ?_;refine qk (fn:=Tryz.f16) rfl ab.defers e8 e9 e10 ?_;have hF_:(ie t fold s n)=([],0,10):=AS (by assumption);rw [hF_];exact yg.nil ab.ext0 rfl
 try simp only [ar,am] at hc1
 refine wp_skip ?_;refine wp_seq ?_;refine aY ?_;refine bV 5 (by kernel_rfl) ?_;refine og [_,_,_,_,Ca _ 0 23 t s fold 76 38 3 (clampF n)] [0,0,0,0,15] ab [jb r1,jz 8 r8] ⟨aq fun c=>dY rfl az ak ((c.p e4).trans r1.ptr) (c.B 1),ao e1,ao e2,ao e3,wU fun {_ a_ _ _} c=>⟨_,_,(iM rfl rfl oI (c.q 0) (c.q 1) (c.q 2) (c.q 3)),c.beg (tag:=0) ab (tE _ t fold s n _ (c.iz 8 rfl) (by omega) (by omega))⟩,av⟩ fun ac ag ae ab aa=> ?_;obtain ⟨e8,e9,e10⟩:=aa.k3 e8 e9 e10;obtain ⟨C,e23,hCp,hro4,hz4⟩:=aa.bg 4 rfl;have r0:=hro4;replace r8:=aa.z1 8;have r1:=hz4;refine bW ?_;refine og [_] [0] ab [jr r0,jz 1 r1,jz 8 r8] ⟨oQ e23,av⟩ fun ac ag ae ab aa=> ?_;obtain ⟨e8,e9,e10⟩:=aa.k3 e8 e9 e10;have e11:=aa.V 0;replace r0:=aa.ir 0 rfl;obtain ⟨r1,r8⟩:=aa.z2 1 8;refine wp_seq ?_;have hmay:(cX t 512 16).2=true:=by assumption
 have hok:OkP C.m C.top:=hCp.ok hmay (by omega);have hit:C.it=3:=hCp.tys.2.2;have hrise:=hCp.rise;have hplen:=r0.b.ok.pl;have hclen:=r0.b.ok.cl;have hcz:=pN n;refine eK ab [jr r0,jz 1 r1,jz 8 r8] ⟨aq fun c=>ax rfl rfl,av⟩ fun ac ag ae ab aa=> ?_;obtain ⟨e8,e9,e10,e11⟩:=aa.k4 e8 e9 e10 e11;have e12:=aa.V 0;replace r0:=aa.ir 0 rfl;obtain ⟨r1,r8⟩:=aa.z2 1 8;refine wp_seq ?_;refine wp_seq (eK ab [jr r0,jz 1 r1,jz 8 r8] ⟨aq fun c=>ax rfl rfl,av⟩ fun ac ag ae ab aa=> ?_);obtain ⟨e8,e9,e10,e11,e12⟩:=aa.k5 e8 e9 e10 e11 e12;have e13:=aa.V 0;replace r0:=aa.ir 0 rfl;obtain ⟨r1,r8⟩:=aa.z2 1 8;refine wp_block ?_;refine wp_loop (fun a_ w_=>∃(i fui gs:Nat) (qs:Ps) (xs:List Mv) (u:Value) (τ:Nat→bj),(pi C.E (bH C.E C.top) C.m (C.E.pl.length+1) 0 (clampF n,false) []=pi C.E (bH C.E C.top) C.m gs i (fui,false) (xs.map Mv.er))∧
      (C.E.pl.length+1≤gs+i)∧
      (i≤C.E.pl.length)∧
      (fui≤20000)∧
      (xs.length≤i)∧
      St (Nw w) w 72 a_ w_ τ∧
      be a_ 12=u∧
      be a_ 13=(aj (i:Int))∧
      be a_ 11=C.rv∧
      RunR C none qs fui false 0 (gO τ w_) (τ 0) w_∧
      Fz (Bk (Gn aW w) xs) τ w_∧
      ep Dr 41 xs (τ 7) u w_∧
      Fz (oq C.top) τ w_∧
      Fz (gT (Gn F w) t) τ w_) (fun a_ _=>C.E.pl.length+1 - (intOf (be a_ 13)).toNat) ?_ ?_
 · refine ⟨0,(clampF n),(C.E.pl.length+1),List.replicate C.m ((-1:Int),(-1:Int)),[],(.slice none 0 0),ae,?_,?_,?_,?_,?_,ab,e12,(e13.trans (bB (by omega))),e11,r0,?_,?_,r1,r8⟩
   · rfl
   · omega
   · omega
   · exact pN n
   · exact dC _
   · exact Fz.mnil _ _ _
   · exact ep.nil _ _ _ _
 intro a8 w8 hI;obtain ⟨i,fui,gs,qs,xs,u,τ8,q0,q1,q2,q3,q4,st8,e12,e13,e11,r0,r6,r7,r1,r8⟩:=hI;have m13:=e13;refine wp_seq ?_;refine wp_seq (ue [0,0,2,6,14,30,63] st8 [jr r0,jz 1 r1,jz 6 r6,jo r7,jz 8 r8] ⟨ao e13,ao e11,cD 1 rfl,bS ba gI 2 rfl,aq fun c=>aI rfl ig (c.q 3) (by exact (c.ir 0 rfl).cell (j:=13) rfl),aq fun c=>dk rfl cE (c.q 4) r0.b.places.1.sl,aq fun c=>cW rfl (c.q 0) (c.q 5),av⟩ fun ac ag ae ab aa=> ?_);obtain ⟨e11,e12,e13⟩:=aa.k3 e11 e12 e13;have e30:=aa.V 6;replace r0:=aa.ir 0 rfl;obtain ⟨r1,r6,r8⟩:=aa.z3 1 6 8;replace r7:=aa.O 7;refine wp_cond_split e30 (fun hc2=> ?_) (fun hc2=> ?_)
 · try simp only [ai] at hc2
   refine wp_skip ?_;refine wp_block ?_;refine wp_seq ?_;refine aY ?_;refine bV 3 (by kernel_rfl) ?_;refine og [_,_,AM _ 0 34 C none (fun b:Sv × Ps=>b.2) ((cn C.E (bH C.E C.top) C.m C.E.pl.length i (fui,false)).2.1) ((cn C.E (bH C.E C.top) C.m C.E.pl.length i (fui,false)).2.2) 0 (fun b:Sv × Ps=> .tuple #[(.agg #[aj (aM (cn C.E (bH C.E C.top) C.m C.E.pl.length i (fui,false)).1).1,aj (aM (cn C.E (bH C.E C.top) C.m C.E.pl.length i (fui,false)).1).2,b.1.v]),aE (cn C.E (bH C.E C.top) C.m C.E.pl.length i (fui,false)).1.isSome]) (fun _=>True) (fun b:Sv × Ps=>fb cF (Gn aW w) b.1.v (bJ (cn C.E (bH C.E C.top) C.m C.E.pl.length i (fui,false)).1))] [0,0,3] ab [jr r0,jz 1 r1,jz 6 r6,jo r7,jz 8 r8] ⟨ao e11,ao e13,ye (pf:=fun b:Sv × Ps=>b.2) (f:=fun b:Sv × Ps=> .tuple #[(.agg #[aj (aM (cn C.E (bH C.E C.top) C.m C.E.pl.length i (fui,false)).1).1,aj (aM (cn C.E (bH C.E C.top) C.m C.E.pl.length i (fui,false)).1).2,b.1.v]),aE (cn C.E (bH C.E C.top) C.m C.E.pl.length i (fui,false)).1.isSome]) (Ψ:=fun _=>True) (Φ:=fun b:Sv × Ps=>fb cF (Gn aW w) b.1.v (bJ (cn C.E (bH C.E C.top) C.m C.E.pl.length i (fui,false)).1)) fun {_ a_ _ _} c=>⟨_,_,(ck rfl rfl qL (c.q 0) (c.q 1)),(yY C i qs fui false 0 _ (c.ir 0 rfl).dz ((c.ir 0 rfl).fz (c.iz 1 rfl)) hok hit (by omega) (by omega)).mono (fun e w' ⟨b_,he_,hx_,hr_,hs_,hn_⟩=>⟨b_,he_,hx_.mono (fun g _ hg=>(c.ir 0 rfl).td g hg),hr_.back (c.ir 0 rfl) hx_ (fun g hg=>lC g hg) (kk hx_.size),av,c.sns ab hx_.size ⟨hs_,hn_⟩⟩)⟩,av⟩ fun ac ag ae ab aa=> ?_;obtain ⟨e11,e12,e13,e30⟩:=aa.k4 e11 e12 e13 e30;obtain ⟨⟨mv1_,psmv1_⟩,e34,hro10,-,hz10⟩:=aa.zr 2 rfl;have e34:be ac 34=(.tuple #[(.agg #[(aj ((aM (cn C.E (bH C.E C.top) C.m C.E.pl.length i (fui,false)).1).1)),(aj ((aM (cn C.E (bH C.E C.top) C.m C.E.pl.length i (fui,false)).1).2)),mv1_.v]),(aE ((cn C.E (bH C.E C.top) C.m C.E.pl.length i (fui,false)).1.isSome))]):=e34;replace r0:=hro10;obtain ⟨r1,r6,r8⟩:=aa.z3 1 6 8;replace r7:=aa.O 7;have r2:=hz10;refine bW ?_;refine og [_,_,_,box _ _ 3 14 [(aj 0),(aj 0),(.slice none 0 0)],_,_] [0,1,3,7,15,31] ab [jr r0,jz 1 r1,jz 2 r2,jz 6 r6,jo r7,jz 8 r8] ⟨ao e34,bR 0,bR 0,bO rfl rfl rfl rfl bI rfl,ey (cx:=[(aj ((aM (cn C.E (bH C.E C.top) C.m C.E.pl.length i (fui,false)).1).1)),(aj ((aM (cn C.E (bH C.E C.top) C.m C.E.pl.length i (fui,false)).1).2)),mv1_.v]) (off:=0) rfl bi fun c=>⟨c.rb 3 rfl,(c.rb 3 rfl).ptr,(c.q 1)⟩,aK 2,av⟩ fun ac ag ae ab aa=> ?_;obtain ⟨b11x14,e14⟩:=gx ac 14;obtain ⟨e11,e12,e13,e30⟩:=aa.k4 e11 e12 e13 e30;have e15:=aa.V 5;replace r0:=aa.ir 0 rfl;obtain ⟨r1,r2⟩:=aa.z2 1 2;have r3:=aa.rb 4 e14 rfl;obtain ⟨r6,r8⟩:=aa.z2 6 8;replace r7:=aa.O 7;refine wp_seq ?_;refine wp_seq (xi ab [jr r0,jz 1 r1,jz 2 r2,jb r3,jz 6 r6,jo r7,jz 8 r8] ⟨ao e11,cD 0 rfl,bS ba cj 1 rfl,aq fun c=>aI rfl dS (c.q 2) (by exact (c.ir 0 rfl).cell (j:=16) rfl),av⟩ fun ac ag ae ab aa=> ?_);obtain ⟨e11,e12,e13,e14,e15,e30⟩:=aa.k6 e11 e12 e13 e14 e15 e30;have e40:=aa.V 3;replace r0:=aa.ir 0 rfl;obtain ⟨r1,r2,r6,r8⟩:=aa.z4 1 2 6 8;replace r3:=aa.B 3;replace r7:=aa.O 7;refine wp_cond_split e40 (fun hc3=> ?_) (fun hc3=> ?_)
   · have hd3:=hc3;skip;have hof_:((cn C.E (bH C.E C.top) C.m C.E.pl.length i (fui,false)).2.2)=true:=hc3;refine wp_seq (fX ab [jr r0,jz 1 r1,jz 2 r2,jb r3,jz 6 r6,jo r7,jz 8 r8] ⟨aq fun c=>ax rfl rfl,aq fun c=>ax rfl rfl,aq fun c=>ax rfl rfl,av⟩ fun ac ag ae ab aa=> ?_);obtain ⟨e11,e12,e13,e14,e15,e30,e40⟩:=aa.k7 e11 e12 e13 e14 e15 e30 e40;have e8:=aa.V 0;have e9:=aa.V 1;have e10:=aa.V 2;replace r0:=aa.ir 0 rfl;obtain ⟨r1,r2,r6,r8⟩:=aa.z4 1 2 6 8;replace r3:=aa.B 3;replace r7:=aa.O 7;refine wp_ret ?_;refine rp ?_;refine qk (fn:=Tryz.f16) rfl ab.defers e8 e9 e10 ?_;have hF_:(ie t fold s n)=([],0,9):=GF hCp hmay (q0.trans (wV (by omega) (by omega) hof_)) hof_;rw [hF_];exact yg.nil ab.ext0 rfl
   have hd3:=hc3;skip;have hof_:((cn C.E (bH C.E C.top) C.m C.E.pl.length i (fui,false)).2.2)=false:=hc3;replace r0:=r0.ouf hof_;have hfl_:(cn C.E (bH C.E C.top) C.m C.E.pl.length i (fui,false)).2.1≤fui:=tF (rh C.E C.top) _ _ _ _;refine wp_skip ?_;refine wp_seq ?_;refine wp_seq (eA ab [jr r0,jz 1 r1,jz 2 r2,jb r3,jz 6 r6,jo r7,jz 8 r8] ⟨ao e15,aq fun c=>ew rfl (c.q 0),av⟩ fun ac ag ae ab aa=> ?_);obtain ⟨e11,e12,e13,e14,e15,e30,e40⟩:=aa.k7 e11 e12 e13 e14 e15 e30 e40;have e42:=aa.V 1;replace r0:=aa.ir 0 rfl;obtain ⟨r1,r2,r6,r8⟩:=aa.z4 1 2 6 8;replace r3:=aa.B 3;replace r7:=aa.O 7;refine wp_cond_split e42 (fun hc4=> ?_) (fun hc4=> ?_)
   · have hd4:=hc4;try simp only [ar,am] at hd4
     have hso_:(!((cn C.E (bH C.E C.top) C.m C.E.pl.length i (fui,false)).1.isSome))=true:=hc4;refine wp_exit ?_;repeat (with_reducible refine cy ?_)
     refine ES (by decide) ?_;repeat (with_reducible refine cy ?_)
     refine cC ?_;refine wp_seq (xC [0,0,2,6,14,1,63,127] ab [jr r0,jz 1 r1,jz 2 r2,jb r3,jz 6 r6,jo r7,jz 8 r8] ⟨ao e12,ao e11,cD 1 rfl,bS ba aA 2 rfl,aq fun c=>aI rfl aN (c.q 3) (by exact (c.ir 0 rfl).cell (j:=15) rfl),aK 0,aK 4,aq fun c=>ax rfl rfl,av⟩ fun ac ag ae ab aa=> ?_);have e8:=aa.V 5;have e9:=aa.V 6;have e10:=aa.V 7;replace r0:=aa.ir 0 rfl;obtain ⟨r1,r2,r6,r8⟩:=aa.z4 1 2 6 8;replace r7:=aa.O 7;refine wp_ret ?_;refine rp ?_;refine qk (fn:=Tryz.f16) rfl ab.defers e8 e9 e10 ?_;have hF_:(ie t fold s n)=(xs.map Mv.er,(((cn C.E (bH C.E C.top) C.m C.E.pl.length i (fui,false)).2.1:Nat):Int),0):=yh hCp hmay (q0.trans ((uE (by omega) (by omega) hof_ (by revert hso_;cases (cn C.E (bH C.E C.top) C.m C.E.pl.length i (fui,false)).1.isSome <;> simp)).trans (by rw [Kb hof_])))
     rw [hF_];obtain ⟨vv_,hvv_⟩:=r7.isSl.sv;subst hvv_;exact ⟨vv_,xs,rfl,ab.ext0,r7.1.sl,fun hn=>(ab.bnd _ _ (r7.blk hn)).1,fun m hm=>⟨(r6 m hm).1,fun hn=>((r6 m hm).2 hn).2.resolve_left (fun h=>h.elim)⟩,rfl⟩
   have hd4:=hc4;try simp only [ar,am] at hd4
   have hso_:(!((cn C.E (bH C.E C.top) C.m C.E.pl.length i (fui,false)).1.isSome))=false:=hc4;refine wp_skip ?_;refine wp_seq ?_;have hs_:(cn C.E (bH C.E C.top) C.m C.E.pl.length i (fui,false)).1.isSome=true:=by revert hso_;cases (cn C.E (bH C.E C.top) C.m C.E.pl.length i (fui,false)).1.isSome <;> simp
   have hnx:=GE (i:=i) (m:=C.m) (φ:=(fui,false)) (mM C.E C.top) hplen hrise rfl hs_;refine rg [_,_,own Dr 41 _ 4 45 ([(⟨(aM (cn C.E (bH C.E C.top) C.m C.E.pl.length i (fui,false)).1).1,(aM (cn C.E (bH C.E C.top) C.m C.E.pl.length i (fui,false)).1).2,mv1_,bJ (cn C.E (bH C.E C.top) C.m C.E.pl.length i (fui,false)).1⟩:Mv)]),own _ _ _ 7 46 _,own _ _ _ 7 12 _] [0,0,2,7,15] ab [jr r0,jz 1 r1,jz 2 r2,jb r3,jz 6 r6,jo r7,jz 8 r8] ⟨ao e12,aq fun c=>dY rfl dB bi ((c.p e14).trans r3.ptr) (c.B 3),dt (cells:=#[(aj ((aM (cn C.E (bH C.E C.top) C.m C.E.pl.length i (fui,false)).1).1)),(aj ((aM (cn C.E (bH C.E C.top) C.m C.E.pl.length i (fui,false)).1).2)),mv1_.v]) rfl rfl rfl rfl dV bi bI rfl (by decide) (by decide) (fun _ _ _ _ c=>gB (c.n 1 rfl) (by kernel_rfl)) rfl,fF (t0:=12) rfl rfl rfl rfl dV (i:=Tryz.t41) rfl rfl rfl rfl (by simp only [maxLen];(try simp);omega) (by show _ * 40≤_;(try simp);omega) (fun _ _ _ _ c=>⟨c.ip 7 rfl e12,c.sm (c.n 0 rfl) e12,⟨_,rfl,(c.ro 2 rfl).1.sl⟩⟩),eP (t0:=46) rfl rfl rfl rfl rfl (.inr rfl) (fun _ _ _ _ c=>⟨c.ro 3 rfl,rfl⟩),av⟩ fun ac ag ae ab aa=> ?_;obtain ⟨b16x45,e45⟩:=gx ac 45;obtain ⟨b16x12,e12⟩:=gx ac 12;obtain ⟨e11,e13,e14,e15,e30,e40,e42⟩:=aa.k7 e11 e13 e14 e15 e30 e40 e42;replace r0:=aa.ir 0 rfl;obtain ⟨r1,r2⟩:=aa.z2 1 2;replace r3:=aa.B 3;have r4:=aa.ro 2 e45 rfl;obtain ⟨r6,r8⟩:=aa.z2 6 8;replace r7:=aa.ro 4 e12 rfl;refine wp_seq ?_;refine zG [0,1,3,7,0,16,48,127,255,511,511,1023] ab [jr r0,jz 1 r1,jz 2 r2,jb r3,jo r4,jz 6 r6,jo r7,jz 8 r8] ⟨ao e11,cD 0 rfl,bS ba gI 1 rfl,aq fun c=>aI rfl ig (c.q 2) (by exact (c.ir 0 rfl).cell (j:=13) rfl),cK bd aT e14 r3.ptr,bS cw aA 4 rfl,aq fun c=>aI rfl aN (c.q 5) (by rw [add_add];exact (c.ib 3 rfl).cell (j:=1) rfl),eE fun c=>⟨_,_,(ck rfl rfl oJ (c.q 3) (c.q 6)),tC C.lv.v C.E.pl ((aM (cn C.E (bH C.E C.top) C.m C.E.pl.length i (fui,false)).1).2) _ ((c.ir 0 rfl).b.places).1 hrise (by omega)⟩,bD 7,bR 8,bR 8,aK 9,av⟩ fun ac ag ae ab aa=> ?_;obtain ⟨e11,e12,e14,e15,e30,e40,e42⟩:=aa.k7 e11 e12 e14 e15 e30 e40 e42;have e13:=aa.V 11;replace r0:=aa.ir 0 rfl;obtain ⟨r1,r2,r6,r8⟩:=aa.z4 1 2 6 8;replace r3:=aa.B 3;replace r4:=aa.O 4;replace r7:=aa.O 7;refine wp_seq ?_;refine ue [0,1,3,0,8,24,63] ab [jr r0,jz 1 r1,jz 2 r2,jb r3,jo r4,jz 6 r6,jo r7,jz 8 r8] ⟨cK bd aT e14 r3.ptr,bS cw aA 0 rfl,aq fun c=>aI rfl aN (c.q 1) (by rw [add_add];exact (c.ib 3 rfl).cell (j:=0) rfl),cK bd aT e14 r3.ptr,bS cw aA 3 rfl,aq fun c=>aI rfl aN (c.q 4) (by rw [add_add];exact (c.ib 3 rfl).cell (j:=1) rfl),aq fun c=>cY rfl (c.q 2) (c.q 5),av⟩ fun ac ag ae ab aa=> ?_;obtain ⟨e11,e12,e13,e14,e15,e30,e40,e42⟩:=aa.k8 e11 e12 e13 e14 e15 e30 e40 e42;have e64:=aa.V 6;replace r0:=aa.ir 0 rfl;obtain ⟨r1,r2,r6,r8⟩:=aa.z4 1 2 6 8;replace r3:=aa.B 3;replace r4:=aa.O 4;replace r7:=aa.O 7;refine wp_cond_split e64 (fun hc5=> ?_) (fun hc5=> ?_)
   · try simp only [ai] at hc5
     refine fX ab [jr r0,jz 1 r1,jz 2 r2,jb r3,jo r4,jz 6 r6,jo r7,jz 8 r8] ⟨ao e13,aq fun c=>cN rfl (c.q 0) rfl (by omega),aK 1,av⟩ fun ac ag ae ab aa=> ?_;obtain ⟨e11,e12,e14,e15,e30,e40,e42,e64⟩:=aa.k8 e11 e12 e14 e15 e30 e40 e42 e64;have e13:=aa.V 2;replace r0:=aa.ir 0 rfl;obtain ⟨r1,r2,r6,r8⟩:=aa.z4 1 2 6 8;replace r3:=aa.B 3;replace r4:=aa.O 4;replace r7:=aa.O 7;show _;refine ⟨⟨(plcF C.E.pl ((aM (cn C.E (bH C.E C.top) C.m C.E.pl.length i (fui,false)).1).2)+1),(cn C.E (bH C.E C.top) C.m C.E.pl.length i (fui,false)).2.1,(gs - 1),psmv1_,xs++ [(⟨(aM (cn C.E (bH C.E C.top) C.m C.E.pl.length i (fui,false)).1).1,(aM (cn C.E (bH C.E C.top) C.m C.E.pl.length i (fui,false)).1).2,mv1_,bJ (cn C.E (bH C.E C.top) C.m C.E.pl.length i (fui,false)).1⟩:Mv)],b16x12,ae,?_,?_,?_,?_,?_,ab,e12,(e13.trans (bB (by omega))),e11,r0,?_,?_,r1,r8⟩,?_⟩
     · rw [q0,rS rfl (by omega) (by omega) hof_ hs_];first | (rw [if_pos (by assumption)];simp [Mv.er]) | (rw [if_neg (by assumption)];simp [Mv.er])
     · first | (rw [if_pos (by assumption)] at hnx;omega) | (rw [if_neg (by assumption)] at hnx;omega)
     · first | (rw [if_pos (by assumption)] at hnx;omega) | (rw [if_neg (by assumption)] at hnx;omega)
     · omega
     · simp only [aQ,ay,aC];first | (rw [if_pos (by assumption)] at hnx;omega) | (rw [if_neg (by assumption)] at hnx;omega)
     · exact Fz.msnoc r6 r2
     · exact r7.cast (by rfl)
     · (first | rw [if_pos (by assumption)] at hnx | rw [if_neg (by assumption)] at hnx);simp only [m13,e13,intOf];omega
   try simp only [ah] at hc5
   refine wp_skip ?_;show _;refine ⟨⟨(plcF C.E.pl ((aM (cn C.E (bH C.E C.top) C.m C.E.pl.length i (fui,false)).1).2)),(cn C.E (bH C.E C.top) C.m C.E.pl.length i (fui,false)).2.1,(gs - 1),psmv1_,xs++ [(⟨(aM (cn C.E (bH C.E C.top) C.m C.E.pl.length i (fui,false)).1).1,(aM (cn C.E (bH C.E C.top) C.m C.E.pl.length i (fui,false)).1).2,mv1_,bJ (cn C.E (bH C.E C.top) C.m C.E.pl.length i (fui,false)).1⟩:Mv)],b16x12,ae,?_,?_,?_,?_,?_,ab,e12,(e13.trans (bB (by omega))),e11,r0,?_,?_,r1,r8⟩,?_⟩
   · rw [q0,rS rfl (by omega) (by omega) hof_ hs_];first | (rw [if_pos (by assumption)];simp [Mv.er]) | (rw [if_neg (by assumption)];simp [Mv.er])
   · first | (rw [if_pos (by assumption)] at hnx;omega) | (rw [if_neg (by assumption)] at hnx;omega)
   · first | (rw [if_pos (by assumption)] at hnx;omega) | (rw [if_neg (by assumption)] at hnx;omega)
   · omega
   · simp only [aQ,ay,aC];first | (rw [if_pos (by assumption)] at hnx;omega) | (rw [if_neg (by assumption)] at hnx;omega)
   · exact Fz.msnoc r6 r2
   · exact r7.cast (by rfl)
   · (first | rw [if_pos (by assumption)] at hnx | rw [if_neg (by assumption)] at hnx);simp only [m13,e13,intOf];omega
 try simp only [ah,aV] at hc2
 refine wp_exit ?_;repeat (with_reducible refine cy ?_)
 refine cC ?_;refine wp_seq (xC [0,0,2,6,14,1,63,127] ab [jr r0,jz 1 r1,jz 6 r6,jo r7,jz 8 r8] ⟨ao e12,ao e11,cD 1 rfl,bS ba aA 2 rfl,aq fun c=>aI rfl aN (c.q 3) (by exact (c.ir 0 rfl).cell (j:=15) rfl),aK 0,aK 4,aq fun c=>ax rfl rfl,av⟩ fun ac ag ae ab aa=> ?_);have e8:=aa.V 5;have e9:=aa.V 6;have e10:=aa.V 7;replace r0:=aa.ir 0 rfl;obtain ⟨r1,r6,r8⟩:=aa.z3 1 6 8;replace r7:=aa.O 7;refine wp_ret ?_;refine rp ?_;refine qk (fn:=Tryz.f16) rfl ab.defers e8 e9 e10 ?_;have hF_:(ie t fold s n)=(xs.map Mv.er,((fui:Nat):Int),0):=yh hCp hmay (q0.trans (AR (by omega)));rw [hF_];obtain ⟨vv_,hvv_⟩:=r7.isSl.sv;subst hvv_;exact ⟨vv_,xs,rfl,ab.ext0,r7.1.sl,fun hn=>(ab.bnd _ _ (r7.blk hn)).1,fun m hm=>⟨(r6 m hm).1,fun hn=>((r6 m hm).2 hn).2.resolve_left (fun h=>h.elim)⟩,rfl⟩
end
section
open Go.RowKit Srt
theorem tG {t u:Tr} (h:er t=er u):grpN t=grpN u:=by unfold grpN;rw [←mK t,←mK u,h]
theorem za {t u:Tr} (h:er t=er u):cX t=cX u:=by rw [←ki t,←ki u,h]
theorem ri {t u:Tr} (h:er t=er u) (fold:Bool) (s:ByteArray) (a n:Int):dL t fold s a n=dL u fold s a n:=by
  unfold dL;rw [za h,tG h,yM _ t u 0 h]
theorem Iu {t u:Tr} (h:er t=er u) (fold:Bool) (s:ByteArray) (n:Int):ie t fold s n=ie u fold s n:=by
  unfold ie;rw [za h,tG h,yM _ t u 0 h]
theorem AT {t r:Tr} (h:er t=r):er t=er r:=by rw [←h,qz]
theorem wW {G Z:bj} {w:World} {xs:List Mv} {i:Int} (h:(Bk G xs).P Z w) (h0:0≤i) (h1:i < xs.length):(fb cF G (nth xs i).pv.v (nth xs i).ps).P Z w:=h _ (bN h0 h1)
theorem Ci {x:List Mp × Int × Int} {w w':World} {e:Ending} {G Z:bj} (h:yg x w e w') (hG:∀g,w.heap.size≤g→g < w'.heap.size→Z g∧G g):∃b:Sv × List Mv,e= .returned (.tuple #[b.1.v,.int .i64 x.2.1,.int .i64 x.2.2])∧Ext aW w w'∧b.2.map Mv.er=x.1∧((fb Dr G b.1.v b.2).and (Bk G b.2)).P Z w':=by
  obtain ⟨v,xs,he,hx,hs,hn,hm,hq⟩:=h;exact ⟨(v,xs),he,hx,hq,⟨hs,fun hne=>hG _ (hn hne) (hs.lt hne)⟩,fun m hmm=>⟨(hm m hmm).1,fun hne=>hG _ ((hm m hmm).2 hne) ((hm m hmm).1.lt hne)⟩⟩
theorem KZ {ms:List Mv} {y:Int × Int} (h:ms.map Mv.er=(([((0,1),[(0,1)]),((1,2),[(-1,-1)])]:List Mp),y).1):ms.length=2∧(nth ms 1).ps=[(-1,-1)]:=by
  have hl:ms.length=2:=by have:=congrArg List.length h;simpa using this
  match ms,hl,h with
  | [a, b], _, h =>
    simp only [aB,aH,List.cons.injEq,and_true] at h;exact ⟨rfl,congrArg Prod.snd h.2⟩
def Lp:ByteArray:=⟨#[97,42,63,98]⟩
def Lv:ByteArray:=⟨#[40,97,41,124,98]⟩
set_option maxRecDepth 100000 in
theorem La:(fun r:Mt × Int × Int=>(aM r.1,r.2)) (dL (jx Lp).1 false ⟨#[97,97,98]⟩ 0 100)=((0,3),95,0):=by decide+kernel
set_option maxRecDepth 100000 in
theorem Iv:(dL (jx Lp).1 false ⟨#[97,97,98]⟩ 0 100).1.isSome=true:=by decide+kernel
set_option maxRecDepth 100000 in
theorem Kc:ie (jx Lv).1 false ⟨#[97,98]⟩ 100=([((0,1),[(0,1)]),((1,2),[(-1,-1)])],(ie (jx Lv).1 false ⟨#[97,98]⟩ 100).2.1,0):=by decide+kernel
set_option maxRecDepth 100000 in
theorem Jh:fc (jx Lp).1≤1000∧fc (jx Lv).1≤1000:=by decide+kernel
theorem Kd {t u:Tr} {ms:List Mv} (ht:er t=(jx ⟨#[97,42,63,98]⟩).1) (hu:er u=(jx ⟨#[40,97,41,124,98]⟩).1) (hm:ms.map Mv.er=(ie u false { data:=#[97,98] } 100).1):
    ((((((((((dL t false { data:=#[97,97,98] } 0 100).1.isSome)&&(decide ((dL t false { data:=#[97,97,98] } 0 100).2.2=0)))&&(decide ((aM (dL t false { data:=#[97,97,98] } 0 100).1).1=0)))&&(decide ((aM (dL t false { data:=#[97,97,98] } 0 100).1).2=3)))&&(decide ((dL t false { data:=#[97,97,98] } 0 100).2.1=95)))&&(decide ((ie u false { data:=#[97,98] } 100).2.2=0)))&&(decide ((ms.length:Int)=2)))&&(decide (((nth ms 1).ps.length:Int)=1)))&&(decide ((nth (nth ms 1).ps 0).1= -1)))=true:=by
  have e1:(dL t false { data:=#[97,97,98] } 0 100)=dL (jx Lp).1 false ⟨#[97,97,98]⟩ 0 100:=ri (AT ht) _ _ _ _;have e2:=(Iu (AT hu) false ⟨#[97,98]⟩ 100).trans Kc;rw [e2] at hm;obtain ⟨l1,l2⟩:=KZ hm;have h1:=La;have h2:=Iv;rw [←e1] at h1 h2;simp only [Prod.mk.injEq] at h1;obtain ⟨h3,h4⟩:=h1;have h5:=congrArg Prod.fst h4;have h6:=congrArg Prod.snd h4;simp only at h5 h6;rw [h2,h3,h5,h6,e2,l1,l2];decide
end
section
open Go.RowKit
open Srt
set_option maxRecDepth 100000 in
set_option maxHeartbeats 4000000 in
theorem fO (w:World):Calls Tryz.prog 15 #[] w (fun e w'=>e= .returned (aE true)∧Ext aW w w'):=by
 refine enter (n:=81) Tryz.func15 rfl rfl (aw rfl) ?_;intro a0 τ0 ha st0;clear ha;refine wp_seq (eK st0 [] ⟨aq fun c=>ax rfl rfl,av⟩ fun ac ag ae ab aa=> ?_);have e0:=aa.V 0;refine wp_seq ?_;refine aY ?_;refine bV 1 (by kernel_rfl) ?_;refine og [gE _ 13 (fun b:Tr=> .tuple #[b.v,aj (jx (⟨#[97,42,63,98]⟩:ByteArray)).2]) (fun b:Tr=>er b=(jx (⟨#[97,42,63,98]⟩:ByteArray)).1) (fun b:Tr=>gT (Gn aW w) b)] [0] ab [] ⟨eT (f:=fun b:Tr=> .tuple #[b.v,aj (jx (⟨#[97,42,63,98]⟩:ByteArray)).2]) (Ψ:=fun b:Tr=>er b=(jx (⟨#[97,42,63,98]⟩:ByteArray)).1) (Φ:=fun b:Tr=>gT (Gn aW w) b) fun {_ a_ _ _} c=>⟨_,_,(bK rfl rfl Tryz.call14 rfl),(Ga (⟨#[97,42,63,98]⟩:ByteArray) _ (by decide+kernel)).mono (fun e w' ⟨t_,he_,hx_,ht_,hq_⟩=>⟨t_,he_,hx_,hq_,c.tn ab hx_ ht_⟩)⟩,av⟩ fun ac ag ae ab aa=> ?_;replace e0:=aa.k1 e0;obtain ⟨t1_,e13,hqt1_,hz2⟩:=aa.zd 0 rfl;have e13:be ac 13=(.tuple #[(ta t1_),(aj ((jx (⟨#[97,42,63,98]⟩:ByteArray)).2))]):=e13;have r0:=hz2;refine bW ?_;refine og [_,_,_,box _ _ 1 1 [(aj 0),(bc (⟨#[]⟩:ByteArray)),(aE false),(.slice none 0 0),(aj 0),(aj 0),(aE false),(.slice none 0 0)],_,_] [0,1,3,7,15,31] ab [jz 0 r0] ⟨ao e13,bR 0,bR 0,bO rfl rfl rfl rfl aD rfl,ey (cx:=(tc t1_)) (off:=0) rfl ak fun c=>⟨c.rb 3 rfl,(c.rb 3 rfl).ptr,(c.q 1)⟩,aK 2,av⟩ fun ac ag ae ab aa=> ?_;obtain ⟨b3x1,e1⟩:=gx ac 1;replace e0:=aa.k1 e0;replace r0:=aa.z1 0;have r1:=aa.rb 4 e1 rfl;have hwq1_:fc t1_≤1000:=by rw [Ai (AT hqt1_)];exact Jh.1
 refine wp_seq ?_;refine aY ?_;refine bV 2 (by kernel_rfl) ?_;refine og [_,gE _ 18 (fun b:Sv=> .tuple #[(.agg #[aj (aM (dL t1_ false (⟨#[97,97,98]⟩:ByteArray) 0 100).1).1,aj (aM (dL t1_ false (⟨#[97,97,98]⟩:ByteArray) 0 100).1).2,b.v]),aj (dL t1_ false (⟨#[97,97,98]⟩:ByteArray) 0 100).2.1,aE (dL t1_ false (⟨#[97,97,98]⟩:ByteArray) 0 100).1.isSome,aj (dL t1_ false (⟨#[97,97,98]⟩:ByteArray) 0 100).2.2]) (fun _=>True) (fun b:Sv=>fb cF (Gn aW w) b.v (bJ (dL t1_ false (⟨#[97,97,98]⟩:ByteArray) 0 100).1))] [0,1] ab [jz 0 r0,jb r1] ⟨aq fun c=>dY rfl az ak ((c.p e1).trans r1.ptr) (c.B 1),eT (f:=fun b:Sv=> .tuple #[(.agg #[aj (aM (dL t1_ false (⟨#[97,97,98]⟩:ByteArray) 0 100).1).1,aj (aM (dL t1_ false (⟨#[97,97,98]⟩:ByteArray) 0 100).1).2,b.v]),aj (dL t1_ false (⟨#[97,97,98]⟩:ByteArray) 0 100).2.1,aE (dL t1_ false (⟨#[97,97,98]⟩:ByteArray) 0 100).1.isSome,aj (dL t1_ false (⟨#[97,97,98]⟩:ByteArray) 0 100).2.2]) (Ψ:=fun _=>True) (Φ:=fun b:Sv=>fb cF (Gn aW w) b.v (bJ (dL t1_ false (⟨#[97,97,98]⟩:ByteArray) 0 100).1)) fun {_ a_ _ _} c=>⟨_,_,(eC rfl rfl fL (c.q 0) rfl rfl rfl rfl),(kH _ t1_ false (⟨#[97,97,98]⟩:ByteArray) 0 100 _ (c.iz 0 rfl) (by first | omega | decide) (by first | omega | decide)).mono (fun e w' ⟨b_,he_,hx_,hs_,hn_⟩=>⟨b_,he_,hx_,av,c.sns ab hx_.size ⟨hs_,hn_⟩⟩)⟩,av⟩ fun ac ag ae ab aa=> ?_;replace e0:=aa.k1 e0;obtain ⟨mv2_,e18,-,hz4⟩:=aa.zd 1 rfl;have e18:be ac 18=(.tuple #[(.agg #[(aj ((aM (dL t1_ false (⟨#[97,97,98]⟩:ByteArray) 0 100).1).1)),(aj ((aM (dL t1_ false (⟨#[97,97,98]⟩:ByteArray) 0 100).1).2)),mv2_.v]),(aj ((dL t1_ false (⟨#[97,97,98]⟩:ByteArray) 0 100).2.1)),(aE ((dL t1_ false (⟨#[97,97,98]⟩:ByteArray) 0 100).1.isSome)),(aj ((dL t1_ false (⟨#[97,97,98]⟩:ByteArray) 0 100).2.2))]):=e18;replace r0:=aa.z1 0;have r1:=hz4;refine bW ?_;refine og [_,_,_,_,_,box _ _ 2 3 [(aj 0),(aj 0),(.slice none 0 0)],_,_,_,_] [0,1,3,7,15,31,63,127,255,511] ab [jz 0 r0,jz 1 r1] ⟨ao e18,bR 0,bR 0,bR 0,bR 0,bO rfl rfl rfl rfl bI rfl,ey (cx:=[(aj ((aM (dL t1_ false (⟨#[97,97,98]⟩:ByteArray) 0 100).1).1)),(aj ((aM (dL t1_ false (⟨#[97,97,98]⟩:ByteArray) 0 100).1).2)),mv2_.v]) (off:=0) rfl bi fun c=>⟨c.rb 5 rfl,(c.rb 5 rfl).ptr,(c.q 1)⟩,aK 2,aK 3,aK 4,av⟩ fun ac ag ae ab aa=> ?_;obtain ⟨b5x3,e3⟩:=gx ac 3;replace e0:=aa.k1 e0;have e4:=aa.V 7;have e5:=aa.V 8;have e6:=aa.V 9;obtain ⟨r0,r1⟩:=aa.z2 0 1;have r2:=aa.rb 6 e3 rfl;refine wp_seq ?_;refine aY ?_;refine bV 1 (by kernel_rfl) ?_;refine og [gE _ 24 (fun b:Tr=> .tuple #[b.v,aj (jx (⟨#[40,97,41,124,98]⟩:ByteArray)).2]) (fun b:Tr=>er b=(jx (⟨#[40,97,41,124,98]⟩:ByteArray)).1) (fun b:Tr=>gT (Gn aW w) b)] [0] ab [jz 0 r0,jz 1 r1,jb r2] ⟨eT (f:=fun b:Tr=> .tuple #[b.v,aj (jx (⟨#[40,97,41,124,98]⟩:ByteArray)).2]) (Ψ:=fun b:Tr=>er b=(jx (⟨#[40,97,41,124,98]⟩:ByteArray)).1) (Φ:=fun b:Tr=>gT (Gn aW w) b) fun {_ a_ _ _} c=>⟨_,_,(bK rfl rfl Tryz.call14 rfl),(Ga (⟨#[40,97,41,124,98]⟩:ByteArray) _ (by decide+kernel)).mono (fun e w' ⟨t_,he_,hx_,ht_,hq_⟩=>⟨t_,he_,hx_,hq_,c.tn ab hx_ ht_⟩)⟩,av⟩ fun ac ag ae ab aa=> ?_;obtain ⟨e0,e3,e4,e5,e6⟩:=aa.k5 e0 e3 e4 e5 e6;obtain ⟨t3_,e24,hqt3_,hz6⟩:=aa.zd 0 rfl;have e24:be ac 24=(.tuple #[(ta t3_),(aj ((jx (⟨#[40,97,41,124,98]⟩:ByteArray)).2))]):=e24;obtain ⟨r0,r1⟩:=aa.z2 0 1;replace r2:=aa.B 2;have r3:=hz6;refine bW ?_;refine og [_,_,_,box _ _ 4 7 [(aj 0),(bc (⟨#[]⟩:ByteArray)),(aE false),(.slice none 0 0),(aj 0),(aj 0),(aE false),(.slice none 0 0)],_,_] [0,1,3,7,15,31] ab [jz 0 r0,jz 1 r1,jb r2,jz 3 r3] ⟨ao e24,bR 0,bR 0,bO rfl rfl rfl rfl aD rfl,ey (cx:=(tc t3_)) (off:=0) rfl ak fun c=>⟨c.rb 3 rfl,(c.rb 3 rfl).ptr,(c.q 1)⟩,aK 2,av⟩ fun ac ag ae ab aa=> ?_;obtain ⟨b7x7,e7⟩:=gx ac 7;obtain ⟨e0,e3,e4,e5,e6⟩:=aa.k5 e0 e3 e4 e5 e6;obtain ⟨r0,r1,r3⟩:=aa.z3 0 1 3;replace r2:=aa.B 2;have r4:=aa.rb 4 e7 rfl;have hwq3_:fc t3_≤1000:=by rw [Ai (AT hqt3_)];exact Jh.2
 refine wp_seq ?_;refine aY ?_;refine bV 2 (by kernel_rfl) ?_;refine og [_,gE _ 29 (fun b:Sv × List Mv=> .tuple #[b.1.v,aj (ie t3_ false (⟨#[97,98]⟩:ByteArray) 100).2.1,aj (ie t3_ false (⟨#[97,98]⟩:ByteArray) 100).2.2]) (fun b:Sv × List Mv=>b.2.map Mv.er=(ie t3_ false (⟨#[97,98]⟩:ByteArray) 100).1) (fun b:Sv × List Mv=>(fb Dr (Gn aW w) b.1.v b.2).and (Bk (Gn aW w) b.2))] [0,1] ab [jz 0 r0,jz 1 r1,jb r2,jz 3 r3,jb r4] ⟨aq fun c=>dY rfl az ak ((c.p e7).trans r4.ptr) (c.B 4),eT (f:=fun b:Sv × List Mv=> .tuple #[b.1.v,aj (ie t3_ false (⟨#[97,98]⟩:ByteArray) 100).2.1,aj (ie t3_ false (⟨#[97,98]⟩:ByteArray) 100).2.2]) (Ψ:=fun b:Sv × List Mv=>b.2.map Mv.er=(ie t3_ false (⟨#[97,98]⟩:ByteArray) 100).1) (Φ:=fun b:Sv × List Mv=>(fb Dr (Gn aW w) b.1.v b.2).and (Bk (Gn aW w) b.2)) fun {_ a_ _ _} c=>⟨_,_,(iM rfl rfl Tryz.call16 (c.q 0) rfl rfl rfl),(yZ _ t3_ false (⟨#[97,98]⟩:ByteArray) 100 _ (c.iz 3 rfl) (by first | omega | decide) (by first | omega | decide)).mono (fun e w' h_=>Ci h_ (fun g hg hl=>c.gz (F:=aW) (c.hW ab) (by obtain ⟨_,_,_,hx_,_⟩:=h_;exact hx_.size) g (.inr hg) hl))⟩,av⟩ fun ac ag ae ab aa=> ?_;obtain ⟨e0,e3,e4,e5,e6⟩:=aa.k5 e0 e3 e4 e5 e6;obtain ⟨⟨av4_,msav4_⟩,e29,hqav4_,hz8⟩:=aa.zd 1 rfl;have e29:be ac 29=(.tuple #[av4_.v,(aj ((ie t3_ false (⟨#[97,98]⟩:ByteArray) 100).2.1)),(aj ((ie t3_ false (⟨#[97,98]⟩:ByteArray) 100).2.2))]):=e29;obtain ⟨r0,r1,r3⟩:=aa.z3 0 1 3;replace r2:=aa.B 2;have r4:Fz (fb Dr (Gn aW w) av4_.v msav4_) ae ag:=hz8.1;have r5:Fz (Bk (Gn aW w) msav4_) ae ag:=hz8.2;refine bW ?_;refine og [_,_,_,_,_,_,_] [0,1,3,7,15,31,63] ab [jz 0 r0,jz 1 r1,jb r2,jz 3 r3,jz 4 r4,jz 5 r5] ⟨ao e29,bR 0,bR 0,bR 0,aK 1,aK 2,aK 3,av⟩ fun ac ag ae ab aa=> ?_;obtain ⟨e0,e3,e4,e5,e6⟩:=aa.k5 e0 e3 e4 e5 e6;have e9:=aa.V 4;have e11:=aa.V 6;obtain ⟨r0,r1,r3,r4,r5⟩:=aa.z5 0 1 3 4 5;replace r2:=aa.B 2;refine wp_seq ?_;refine rg [_,_,_,_,_,_,_,_,_,_,_,_,_,_,_,_,_,_,_,_,_,_,_,_,_,_,_,_,_,_,_,_,_,_,_,_,_,_,_,_,_,_,_,_,_,_,_,_,_] [0,1,3,7,15,31,63,127,255,511,1023,2047,4095,8191,16383,32767,65535,131071,262143,524287,1048575,2097151,4194303,8388607,16777215,33554431,67108863,134217727,268435455,536870911,1073741823,2147483647,4294967295,8589934591,17179869183,34359738367,68719476735,137438953471,274877906943,549755813887,1099511627775,2199023255551,4398046511103,8796093022207,17592186044415,35184372088831,70368744177663,140737488355327,281474976710655] ab [jz 0 r0,jz 1 r1,jb r2,jz 3 r3,jz 4 r4,jz 5 r5] ⟨ao e5,bD 0,aL 1 rfl fun c hpc=>aS rfl (c.p e6),aL 1 rfl fun c hpc=>cY rfl (c.M 2 hpc) rfl,bZ 1 3,bD 4,aL 5 rfl fun c hpc=>dh rfl bd aT ((c.p e3).trans r2.ptr),aL 5 rfl fun c hpc=>dh rfl cw aA (c.M 6 hpc),aL 5 rfl fun c hpc=>aI rfl aN (c.M 7 hpc) (by rw [add_add];exact (c.ib 2 rfl).cell (j:=0) rfl),aL 5 rfl fun c hpc=>cY rfl (c.M 8 hpc) rfl,bZ 5 9,bD 10,aL 11 rfl fun c hpc=>dh rfl bd aT ((c.p e3).trans r2.ptr),aL 11 rfl fun c hpc=>dh rfl cw aA (c.M 12 hpc),aL 11 rfl fun c hpc=>aI rfl aN (c.M 13 hpc) (by rw [add_add];exact (c.ib 2 rfl).cell (j:=1) rfl),aL 11 rfl fun c hpc=>cY rfl (c.M 14 hpc) rfl,bZ 11 15,bD 16,aL 17 rfl fun c hpc=>aS rfl (c.p e4),aL 17 rfl fun c hpc=>cY rfl (c.M 18 hpc) rfl,bZ 17 19,bD 20,aL 21 rfl fun c hpc=>aS rfl (c.p e11),aL 21 rfl fun c hpc=>cY rfl (c.M 22 hpc) rfl,bZ 21 23,bD 24,aL 25 rfl fun c hpc=>aS rfl (c.p e9),aL 25 rfl fun c hpc=>dk rfl dV (c.M 26 hpc) (r4).1.sl,aL 25 rfl fun c hpc=>cY rfl (c.M 27 hpc) rfl,bZ 25 28,bD 29,aL 30 rfl fun c hpc=>aS rfl (c.p e9),aL 30 rfl fun c hpc=>aX rfl dV bi (c.M 31 hpc) (r4).1.sl rfl (by have hq0:=hpc;(try simp only [au,ai] at hq0);first | omega | decide) (by have hq0:=hpc;(try simp only [au,ai] at hq0);first | omega | decide),aL 30 rfl fun c hpc=>dh rfl bd co (c.M 32 hpc),aL 30 rfl fun c hpc=>aI rfl cG (c.M 33 hpc) (((c.iz 4 rfl).1).elem (j:=2) (bF (i:=1) (by have hq0:=hpc;(try simp only [au,ai] at hq0);first | omega | decide) (by have hq0:=hpc;(try simp only [au,ai] at hq0);first | omega | decide)) rfl),aL 30 rfl fun c hpc=>dk rfl bh (c.M 34 hpc) (wW (i:=1) r5 (by have hq0:=hpc;(try simp only [au,ai] at hq0);first | omega | decide) (by have hq0:=hpc;(try simp only [au,ai] at hq0);first | omega | decide)).1.sl,aL 30 rfl fun c hpc=>cY rfl (c.M 35 hpc) rfl,bZ 30 36,bD 37,aL 38 rfl fun c hpc=>aS rfl (c.p e9),aL 38 rfl fun c hpc=>aX rfl dV bi (c.M 39 hpc) (r4).1.sl rfl (by have hq0:=hpc;(try simp only [au,ai] at hq0);first | omega | decide) (by have hq0:=hpc;(try simp only [au,ai] at hq0);first | omega | decide),aL 38 rfl fun c hpc=>dh rfl bd co (c.M 40 hpc),aL 38 rfl fun c hpc=>aI rfl cG (c.M 41 hpc) (((c.iz 4 rfl).1).elem (j:=2) (bF (i:=1) (by have hq0:=hpc;(try simp only [au,ai] at hq0);first | omega | decide) (by have hq0:=hpc;(try simp only [au,ai] at hq0);first | omega | decide)) rfl),aL 38 rfl fun c hpc=>aX rfl bh aT (c.M 42 hpc) (wW (i:=1) r5 (by have hq0:=hpc;(try simp only [au,ai] at hq0);first | omega | decide) (by have hq0:=hpc;(try simp only [au,ai] at hq0);first | omega | decide)).1.sl rfl (by have hq0:=hpc;(try simp only [au,ai] at hq0);first | omega | decide) (by have hq0:=hpc;(try simp only [au,ai] at hq0);first | omega | decide),aL 38 rfl fun c hpc=>dh rfl cw aA (c.M 43 hpc),aL 38 rfl fun c hpc=>aI rfl aN (c.M 44 hpc) (((wW (i:=1) (c.iz 5 rfl) (by have hq0:=hpc;(try simp only [au,ai] at hq0);first | omega | decide) (by have hq0:=hpc;(try simp only [au,ai] at hq0);first | omega | decide)).1).elem (j:=0) (bF (i:=0) (by have hq0:=hpc;(try simp only [au,ai] at hq0);first | omega | decide) (by have hq0:=hpc;(try simp only [au,ai] at hq0);first | omega | decide)) rfl),aL 38 rfl fun c hpc=>cY rfl (c.M 45 hpc) rfl,bZ 38 46,aK 47,av⟩ fun ac ag ae ab aa=> ?_;have e0:=aa.V 48;obtain ⟨r0,r1,r3,r4,r5⟩:=aa.z5 0 1 3 4 5;refine wp_ret ?_;refine rp ?_;refine cO (fn:=Tryz.f15) rfl ab.defers e0 ?_;refine ⟨congrArg _ (congrArg _ ?_),ab.ext0⟩;exact Kd hqt1_ hqt3_ hqav4_
end
section
open Go.RowKit Srt
section
variable {E:Env} {t:Tr} {g:Nat}
theorem Ke (h:¬t.k=5):fk t g=g:=by unfold fk;rw [if_neg h]
def Lw (t:Tr) (g i:Nat):Nat:=g+grpsN (t.kids.take i)
theorem Ev (ts:List Tr):∀i,grpsN (ts.take i)≤grpsN ts:=by
  induction ts with
  | nil => intro i; simp
  | cons t ts ih =>
    intro i;cases i with
    | zero => simp [grpsN]
    | succ i => have := ih i; simp [grpsN] at this ⊢; exact this
variable {r:fe} {lo n:Nat} {mn mx:Int} {lz:Bool} {gas times k:Nat} {K:cQ} {ps:Ps} {fu:Nat}
end
structure OkT (m:Nat) (t:Tr) (g:Nat):Prop where
  all:fq t=true
  gm:g+grpN t≤m
  wt:fc t≤1000000
theorem OkT.kid {m g:Nat} {t:Tr} (h:OkT m t g) {i:Nat} (hi:i < t.kids.length):OkT m (nth t.kids (i:Int)) (fk t g+grpsN (t.kids.take i)):=by
  have ha:=h.all;rw [gY,au,cI] at ha;have hm:nth t.kids (i:Int) ∈ t.kids:=bN (by omega) (by omega);refine ⟨ha.1 _ hm,?_,by have:=sY hm;have:=h.wt;omega⟩;have h1:=h.gm;have h2:=Ev t.kids (i+1);rw [eH hi,sH] at h2;have h3:=jn t;unfold fk;split <;> rename_i h5
  · rw [if_pos h5] at h3;omega
  · rw [if_neg h5] at h3;omega
theorem OkT.off {m g:Nat} {t:Tr} (h:OkT m t g) (h5:¬t.k=5) {i:Nat} (hi:i < t.kids.length):OkT m (nth t.kids (i:Int)) (Lw t g i):=by
  have:=h.kid hi;rwa [Ke h5] at this
end
section
open Go.RowKit Srt
structure Sm where
  d:Nat
  A:Ps
  D:Ps
  n:Nat
  T:Rs→Rs→Prop
  F:Rs→Prop
def Sm.P (S:Sm) (p q:Ps):Prop:=p=S.A++q++S.D∧q.length=S.n
def mr (d:Nat) (φ:Fl):Prop:=φ.2=true∨φ.1 < d
def Sm.R (S:Sm) (x y:Rs):Prop:=
  (y.2.2=true∧mr S.d x.2)∨(x.1=none∧y.1=none∧y.2.2=false∧x.2=(y.2.1+S.d,false))∨(x.1.isSome=true∧y.1.isSome=true∧S.T x y)∨(y.1.isSome=true∧S.F y)
def KD (K:cQ):Prop:=∀(to:Nat) (ps:Ps) (fu:Nat),(K to ps (fu,false)).2.1≤fu
def qu (r:fe):Prop:=∀(k:Nat) (K:cQ) (ps:Ps) (fu:Nat),r k K ps (fu,true)=(none,(fu,true))
def jZ (r:fe):Prop:=RP r∧qu r
def Sm.K (S:Sm) (B:Nat) (K1 K2:cQ):Prop:=∀(to:Nat) (p q:Ps) (fu:Nat),S.P p q→fu < B→S.R (K1 to p (fu+S.d,false)) (K2 to q (fu,false))
theorem Sm.K.less {S:Sm} {B B':Nat} {K1 K2:cQ} (h:S.K B K1 K2) (hB:B'≤B):S.K B' K1 K2:=fun to p q fu hp hf=>h to p q fu hp (by omega)
def Sm.G (S:Sm) (b:Nat) (r1 r2:fe):Prop:=∀(k B:Nat) (K1 K2:cQ),KD K1→KD K2→S.K B K1 K2→∀(p q:Ps) (fu:Nat),S.P p q→fu < B+b→S.R (r1 k K1 p (fu+S.d,false)) (r2 k K2 q (fu,false))
inductive Sm.L (S:Sm):List fe→List fe→Prop
  | nil : S.L [] []
  | cons {r1 r2 : fe} {l1 l2 : List fe} : jZ r1 → jZ r2 → S.G 0 r1 r2 → S.L l1 l2 → S.L (r1 :: l1) (r2 :: l2)
theorem Sm.R.none {S:Sm} {fu:Nat}:S.R (none,(fu+S.d,false)) (none,(fu,false)):= .inr (.inl ⟨rfl,rfl,rfl,rfl⟩)
theorem Sm.P.noneR {S:Sm} {p q:Ps} (h:S.P p q) {lo m:Nat} (hm:lo+m≤S.n):S.P (noneR p (lo+S.A.length) m) (B.noneR q lo m):=by
  obtain ⟨rfl,hl⟩:=h;refine ⟨?_,by rw [jc (by omega),hl]⟩;unfold B.noneR;have e1:(S.A++q++S.D).take (lo+S.A.length)=S.A++q.take lo:=by
    rw [dq,ke,bw (by omega),show lo+S.A.length - S.A.length=lo by omega,iP (by omega)]
  have e2:(S.A++q++S.D).drop (lo+S.A.length+m)=q.drop (lo+m)++S.D:=by
    rw [dq,mE,dX (by omega),eN,show lo+S.A.length+m - S.A.length=lo+m by omega,mV (by omega)]
  rw [e1,e2];simp [dq]
theorem Sm.P.set {S:Sm} {p q:Ps} (h:S.P p q) {lo:Nat} (hm:lo < S.n) (x:Int × Int):S.P (p.set (lo+S.A.length) x) (q.set lo x):=by
  obtain ⟨rfl,hl⟩:=h;refine ⟨?_,by rw [dx,hl]⟩;rw [dq,fI _ _ (by omega),show lo+S.A.length - S.A.length=lo by omega,List.set_append_left _ _ (by omega),dq]
theorem Sm.G.zero {S:Sm} {b:Nat} {r1 r2:fe} (h:S.G b r1 r2):S.G 0 r1 r2:=fun k B K1 K2 h1 h2 hK p q fu hp hf=>h k B K1 K2 h1 h2 hK p q fu hp (by omega)
end
end B
end Go.Proofs.YtcfdebjhikahfaaGreat
