import Derived.Test.YtcfdebjhikahfaaGreatZx4
import Derived.Laws.CopyRow
import Derived.Laws.MakeOwn
set_option linter.unusedSimpArgs false
set_option linter.unusedVariables false
set_option linter.unusedSectionVars false
namespace Go.Proofs.YtcfdebjhikahfaaGreat
section
open Go.RowKit
abbrev fK:=@List.length_replicate
abbrev es:=@Nat.min_le_right
abbrev oH:=@Tryz.call28
abbrev qJ:=@Tryz.call31
abbrev jq:=@Tryz.isAgg106
abbrev eh:=@Tryz.isAgg70
abbrev iK:=@Tryz.isAgg72
abbrev bh:=@Tryz.underlying39
abbrev fa:=@Tryz.underlying72
abbrev gU:=@Tryz.zeroValue38
end
namespace B
section
open Go.RowKit
open Srt
set_option maxRecDepth 100000 in
set_option maxHeartbeats 4000000 in
theorem If (v:Value) (cv:Sv) (cs:List ByteArray) (i:Nat) (d:Int) (w:World) (hR:RxR 98 v cv cs i d w) (hL:zt cs) (hi:i≤cs.length) (hd:0≤d∧d≤16):Calls Tryz.prog 120 #[v] w (fun e w'=>∃(t':Tr) (er_:Int) (j:Nat),e= .returned (.tuple #[t'.v,aj er_])∧Ext (bY v) w w'∧cH 98 [cv.v,aj ((j:Nat):Int),aj d] (bY v) v w'∧TrT (Gn aW w) w' t'∧(i≤j∧j≤cs.length)∧(er_=0→fU (er t') (((j:Nat):Int) - ((i:Nat):Int)) d)):=by
 refine fj (bY v) (fun g hg=>hR.box.lt g hg) (n:=54) Tryz.func120 rfl rfl (aw rfl) ?_;intro a0 τ0 ha hτ st0;have e0:=oz ha;have hL1:=hL.1.1;have r0:cH 98 [cv.v,aj ((i:Nat):Int),aj d] (τ0 0) v w:=by rw [hτ];exact hR.box
 have r9:Fz (fb gR Al cv.v cs) τ0 w:=hR.inz st0;refine wp_seq (rg [box _ _ 1 2 [(aj 0),(bc (⟨#[]⟩:ByteArray)),(aE false),(.slice none 0 0),(aj 0),(aj 0),(aE false),(.slice none 0 0)],_] [0,0] st0 [jb r0,jz 9 r9] ⟨bO rfl rfl rfl rfl aD rfl,aq fun c=>ax rfl rfl,av⟩ fun ac ag ae ab aa=> ?_);obtain ⟨b1x2,e2⟩:=gx ac 2;replace e0:=aa.k1 e0;have e3:=aa.V 1;replace r0:=aa.B 0;have r1:=aa.rb 0 e2 rfl;replace r9:=aa.z1 9;refine wp_seq ?_;refine rg [_,_,_,kG 98 _ 0 12 v [cv.v,(aj ((nxN cs i:Nat):Int)),(aj d)] (bc (de cs i)),_] [0,1,3,7,15] ab [jb r0,jb r1,jz 9 r9] ⟨ao e0,cD 0 r0.ptr,bS bo bQ 1 r0.ptr,iZ fun {_ a_ _ _} c=>⟨_,_,(bK rfl rfl pQ (c.q 2)),ja (c.B 0) (tu v cv cs i d _ (oD (c.B 0) (c.iz 9 rfl) (fun g_ h_ hz_=>hz_.2 _ h_)) hL (by first | omega | (have h_:=dp hL.1 i;omega)))⟩,aq fun c=>ax rfl (c.dv 3 rfl),av⟩ fun ac ag ae ab aa=> ?_;obtain ⟨e0,e2,e3⟩:=aa.k3 e0 e2 e3;have e4:=aa.V 4;replace r0:=aa.db 3 rfl;replace r1:=aa.B 1;replace r9:=aa.z1 9;have hnl_:=Dm hi;refine wp_seq ?_;refine wp_seq (fX ab [jb r0,jb r1,jz 9 r9] ⟨ao e4,aq fun c=>fA rfl aZ (c.q 0),aq fun c=>cY rfl (c.q 1) rfl,av⟩ fun ac ag ae ab aa=> ?_);obtain ⟨e0,e2,e3,e4⟩:=aa.k4 e0 e2 e3 e4;have e15:=aa.V 2;replace r0:=aa.B 0;replace r1:=aa.B 1;replace r9:=aa.z1 9;refine wp_cond_split e15 (fun hc1=> ?_) (fun hc1=> ?_)
 · try simp only [ai] at hc1
   refine wp_seq ?_;have hnx_:=HY (by omega:((de cs i).size:Int)=1);refine aY ?_;refine bV 3 (by kernel_rfl) ?_;refine og [_,_,gE _ 19 (fun b:Sv=> .tuple #[b.v,aE (kh (cP (de cs i) 0))]) (fun _=>True) (fun b:Sv=>fb fx (Gn aW w) b.v (gF (cP (de cs i) 0)))] [0,1,3] ab [jb r0,jb r1,jz 9 r9] ⟨ao e4,aq fun c=>li rfl aZ (c.q 0) rfl (by first | omega | (have h_:=dp hL.1 i;omega)) (by first | omega | (have h_:=dp hL.1 i;omega)),eT (f:=fun b:Sv=> .tuple #[b.v,aE (kh (cP (de cs i) 0))]) (Ψ:=fun _=>True) (Φ:=fun b:Sv=>fb fx (Gn aW w) b.v (gF (cP (de cs i) 0))) fun {_ a_ _ _} c=>⟨_,_,(bK rfl rfl Tryz.call139 (c.q 1)),(yK (cP (de cs i) 0) _).mono (fun e w' ⟨v_,he_,hx_,hn_⟩=>by obtain ⟨s_,rfl⟩:=hn_.1.sl.sl.sv;exact ⟨s_,he_,hx_,av,c.sn ab hx_ hn_⟩)⟩,av⟩ fun ac ag ae ab aa=> ?_;obtain ⟨e0,e2,e3,e4⟩:=aa.k4 e0 e2 e3 e4;obtain ⟨rn1_,e19,-,hz4⟩:=aa.zd 2 rfl;have e19:be ac 19=(.tuple #[rn1_.v,(aE (kh (cP (de cs i) 0)))]):=e19;replace r0:=aa.B 0;replace r1:=aa.B 1;replace r9:=aa.z1 9;have r2:=hz4;refine bW ?_;refine og [_,_,_,_,_] [0,1,3,7,15] ab [jb r0,jb r1,jz 2 r2,jz 9 r9] ⟨ao e19,bR 0,bR 0,aK 1,aK 2,av⟩ fun ac ag ae ab aa=> ?_;obtain ⟨e0,e2,e3,e4⟩:=aa.k4 e0 e2 e3 e4;have e5:=aa.V 3;have e6:=aa.V 4;replace r0:=aa.B 0;replace r1:=aa.B 1;obtain ⟨r2,r9⟩:=aa.z2 2 9;refine wp_seq ?_;refine wp_seq (eK ab [jb r0,jb r1,jz 2 r2,jz 9 r9] ⟨ao e6,av⟩ fun ac ag ae ab aa=> ?_);obtain ⟨e0,e2,e3,e4,e5⟩:=aa.k5 e0 e2 e3 e4 e5;have e22:=aa.V 0;replace r0:=aa.B 0;replace r1:=aa.B 1;obtain ⟨r2,r9⟩:=aa.z2 2 9;refine wp_cond_split e22 (fun hc2=> ?_) (fun hc2=> ?_)
   · skip;refine wp_seq (xi ab [jb r0,jb r1,jz 2 r2,jz 9 r9] ⟨ao e5,aq fun c=>eW (cells:=#[(aj 4),(bc (⟨#[]⟩:ByteArray)),(aE false),rn1_.v,(aj 0),(aj 0),(aE false),(.slice none 0 0)]) rfl aD (iT rfl (c.n 0 rfl) rfl),cp (cx:=[(aj 4),(bc (⟨#[]⟩:ByteArray)),(aE false),rn1_.v,(aj 0),(aj 0),(aE false),(.slice none 0 0)]) (off:=0) ak fun c=>⟨c.bp 1 rfl e2,c.ad ((c.p e2).trans r1.ptr) e2 rfl,(c.q 1)⟩,aq fun c=>ax rfl rfl,av⟩ fun ac ag ae ab aa=> ?_);obtain ⟨e0,e2,e4,e5⟩:=aa.k4 e0 e2 e4 e5;have e3:=aa.V 3;replace r0:=aa.B 0;replace r1:=aa.RB 2 e2;obtain ⟨r2,r9⟩:=aa.z2 2 9;refine wp_ret ?_;refine rp ?_;refine ek (fn:=Tryz.f120) rfl ab.defers e2 e3 r1 az ak rfl ?_;exact ⟨(nc false rn1_ (gF (cP (de cs i) 0))),0,nxN cs i,rfl,ab.extIn,r0.foot,(Fz.out (JE r2)),⟨by omega,by omega⟩,fun h_=>by rw [show er (nc false rn1_ (gF (cP (de cs i) 0)))=(nc false Sv.nil (gF (cP (de cs i) 0))) from BE _ _ _];exact AE hd.2 (by omega)⟩
   skip;refine wp_skip ?_;refine wp_seq (mG [0,1,3,7,15,31,63,127,255,511] ab [jb r0,jb r1,jz 2 r2,jz 9 r9] ⟨ao e4,aq fun c=>eI rfl (c.q 0) rfl,bD 1,bm 2 rfl fun c hpc=>aS rfl (c.p e4),bm 2 rfl fun c hpc=>eI rfl (c.M 3 hpc) rfl,dm 2 4,bD 5,bm 6 rfl fun c hpc=>aS rfl (c.p e4),bm 6 rfl fun c hpc=>eI rfl (c.M 7 hpc) rfl,dm 6 8,av⟩ fun ac ag ae ab aa=> ?_);obtain ⟨e0,e2,e3,e4,e5⟩:=aa.k5 e0 e2 e3 e4 e5;have e34:=aa.V 9;replace r0:=aa.B 0;replace r1:=aa.B 1;obtain ⟨r2,r9⟩:=aa.z2 2 9;refine wp_cond_split e34 (fun hc3=> ?_) (fun hc3=> ?_)
   · try simp only [aR] at hc3
     refine wp_seq ?_;refine aY ?_;refine bV 4 (by kernel_rfl) ?_;refine og [_,_,_,gE _ 39 (fun b:Sv=> .tuple #[b.v,aE (kh (IntKind.u8.wrap (cP (de cs i) 0+32)))]) (fun _=>True) (fun b:Sv=>fb fx (Gn aW w) b.v (gF (IntKind.u8.wrap (cP (de cs i) 0+32))))] [0,1,3,7] ab [jb r0,jb r1,jz 2 r2,jz 9 r9] ⟨ao e4,aq fun c=>li rfl aZ (c.q 0) rfl (by first | omega | (have h_:=dp hL.1 i;omega)) (by first | omega | (have h_:=dp hL.1 i;omega)),aq fun c=>EN rfl (c.q 1) rfl,eT (f:=fun b:Sv=> .tuple #[b.v,aE (kh (IntKind.u8.wrap (cP (de cs i) 0+32)))]) (Ψ:=fun _=>True) (Φ:=fun b:Sv=>fb fx (Gn aW w) b.v (gF (IntKind.u8.wrap (cP (de cs i) 0+32)))) fun {_ a_ _ _} c=>⟨_,_,(bK rfl rfl Tryz.call139 (c.q 2)),(yK (IntKind.u8.wrap (cP (de cs i) 0+32)) _).mono (fun e w' ⟨v_,he_,hx_,hn_⟩=>by obtain ⟨s_,rfl⟩:=hn_.1.sl.sl.sv;exact ⟨s_,he_,hx_,av,c.sn ab hx_ hn_⟩)⟩,av⟩ fun ac ag ae ab aa=> ?_;obtain ⟨e0,e2,e3,e4,e5⟩:=aa.k5 e0 e2 e3 e4 e5;obtain ⟨rn2_,e39,-,hz9⟩:=aa.zd 3 rfl;have e39:be ac 39=(.tuple #[rn2_.v,(aE (kh (IntKind.u8.wrap (cP (de cs i) 0+32))))]):=e39;replace r0:=aa.B 0;replace r1:=aa.B 1;obtain ⟨r2,r9⟩:=aa.z2 2 9;have r3:=hz9;refine bW ?_;refine og [_,_,_,_] [0,1,3,7] ab [jb r0,jb r1,jz 2 r2,jz 3 r3,jz 9 r9] ⟨ao e39,bR 0,bR 0,aK 1,av⟩ fun ac ag ae ab aa=> ?_;obtain ⟨e0,e2,e3,e4⟩:=aa.k4 e0 e2 e3 e4;have e5:=aa.V 3;replace r0:=aa.B 0;replace r1:=aa.B 1;obtain ⟨r2,r3,r9⟩:=aa.z3 2 3 9;refine wp_seq (xi ab [jb r0,jb r1,jz 3 r3,jz 9 r9] ⟨ao e5,aq fun c=>eW (cells:=#[(aj 4),(bc (⟨#[]⟩:ByteArray)),(aE true),rn2_.v,(aj 0),(aj 0),(aE false),(.slice none 0 0)]) rfl aD (EX rfl (c.n 0 rfl) rfl rfl),cp (cx:=[(aj 4),(bc (⟨#[]⟩:ByteArray)),(aE true),rn2_.v,(aj 0),(aj 0),(aE false),(.slice none 0 0)]) (off:=0) ak fun c=>⟨c.bp 1 rfl e2,c.ad ((c.p e2).trans r1.ptr) e2 rfl,(c.q 1)⟩,aq fun c=>ax rfl rfl,av⟩ fun ac ag ae ab aa=> ?_);obtain ⟨e0,e2,e4⟩:=aa.k3 e0 e2 e4;have e3:=aa.V 3;replace r0:=aa.B 0;replace r1:=aa.RB 2 e2;obtain ⟨r3,r9⟩:=aa.z2 3 9;refine wp_ret ?_;refine rp ?_;refine ek (fn:=Tryz.f120) rfl ab.defers e2 e3 r1 az ak rfl ?_;exact ⟨(nc true rn2_ (gF (IntKind.u8.wrap (cP (de cs i) 0+32)))),0,nxN cs i,rfl,ab.extIn,r0.foot,(Fz.out (JE r3)),⟨by omega,by omega⟩,fun h_=>by rw [show er (nc true rn2_ (gF (IntKind.u8.wrap (cP (de cs i) 0+32))))=(nc true Sv.nil (gF (IntKind.u8.wrap (cP (de cs i) 0+32)))) from BE _ _ _];exact AE hd.2 (by omega)⟩
   try simp only [aG] at hc3
   refine wp_skip ?_;refine wp_seq (ue [0,1,3,7,7,15,63] ab [jb r0,jb r1,jz 2 r2,jz 9 r9] ⟨ao e4,eE fun c=>⟨_,_,(bK rfl rfl pR (c.q 0)),rP (de cs i) _⟩,bD 1,bR 2,bR 2,aK 3,aK 4,av⟩ fun ac ag ae ab aa=> ?_);obtain ⟨e0,e2,e3⟩:=aa.k3 e0 e2 e3;have e7:=aa.V 5;have e8:=aa.V 6;replace r0:=aa.B 0;replace r1:=aa.B 1;obtain ⟨r2,r9⟩:=aa.z2 2 9;refine wp_seq ?_;refine wp_seq (eA ab [jb r0,jb r1,jz 9 r9] ⟨ao e8,aq fun c=>ew rfl (c.q 0),av⟩ fun ac ag ae ab aa=> ?_);obtain ⟨e0,e2,e3,e7⟩:=aa.k4 e0 e2 e3 e7;have e50:=aa.V 1;replace r0:=aa.B 0;replace r1:=aa.B 1;replace r9:=aa.z1 9;refine wp_cond_split e50 (fun hc4=> ?_) (fun hc4=> ?_)
   · try simp only [ar,am] at hc4
     refine wp_seq (fX ab [jb r0,jb r1,jz 9 r9] ⟨aq fun c=>eW (cells:=#[(aj 0),(bc (⟨#[]⟩:ByteArray)),(aE false),(.slice none 0 0),(aj 0),(aj 0),(aE false),(.slice none 0 0)]) rfl aD ni,cp (cx:=[(aj 0),(bc (⟨#[]⟩:ByteArray)),(aE false),(.slice none 0 0),(aj 0),(aj 0),(aE false),(.slice none 0 0)]) (off:=0) ak fun c=>⟨c.bp 1 rfl e2,c.ad ((c.p e2).trans r1.ptr) e2 rfl,(c.q 0)⟩,aq fun c=>ax rfl rfl,av⟩ fun ac ag ae ab aa=> ?_);obtain ⟨e0,e2,e7⟩:=aa.k3 e0 e2 e7;have e3:=aa.V 2;replace r0:=aa.B 0;replace r1:=aa.RB 1 e2;replace r9:=aa.z1 9;refine wp_ret ?_;refine rp ?_;refine ek (fn:=Tryz.f120) rfl ab.defers e2 e3 r1 az ak rfl ?_;exact ⟨(dQ 0 (⟨#[]⟩:ByteArray) false 0 0 false),10,nxN cs i,rfl,ab.extIn,r0.foot,(eQ _ _ _ _ _ _ _ _),⟨by omega,by omega⟩,fun h_=>absurd h_ (by decide)⟩
   try simp only [ar,am] at hc4
   refine wp_skip ?_;refine wp_seq ?_;have hnx_:=wJ (Jb (by assumption:(nx (de cs i)).2=true));refine xi ab [jb r0,jb r1,jz 9 r9] ⟨ao e7,aq fun c=>eW (cells:=#[(aj 2),(bc ((nx (de cs i)).1)),(aE false),(.slice none 0 0),(aj 0),(aj 0),(aE false),(.slice none 0 0)]) rfl aD (iT rfl (c.n 0 rfl) rfl),cp (cx:=[(aj 2),(bc ((nx (de cs i)).1)),(aE false),(.slice none 0 0),(aj 0),(aj 0),(aE false),(.slice none 0 0)]) (off:=0) ak fun c=>⟨c.bp 1 rfl e2,c.ad ((c.p e2).trans r1.ptr) e2 rfl,(c.q 1)⟩,aq fun c=>ax rfl rfl,av⟩ fun ac ag ae ab aa=> ?_;obtain ⟨e0,e2⟩:=aa.k2 e0 e2;have e3:=aa.V 3;replace r0:=aa.B 0;replace r1:=aa.RB 2 e2;replace r9:=aa.z1 9;refine wp_ret ?_;refine rp ?_;refine ek (fn:=Tryz.f120) rfl ab.defers e2 e3 r1 az ak rfl ?_;exact ⟨(dQ 2 ((nx (de cs i)).1) false 0 0 false),0,nxN cs i,rfl,ab.extIn,r0.foot,(eQ _ _ _ _ _ _ _ _),⟨by omega,by omega⟩,fun h_=>BR hd.2 (by omega) (xV (by assumption) (hL.pr (by omega))) (vA (dp hL.1 i))⟩
 try simp only [ah] at hc1
 refine wp_skip ?_;refine wp_seq (ue [0,1,3,7,7,15,63] ab [jb r0,jb r1,jz 9 r9] ⟨ao e4,eE fun c=>⟨_,_,(bK rfl rfl pR (c.q 0)),rP (de cs i) _⟩,bD 1,bR 2,bR 2,aK 3,aK 4,av⟩ fun ac ag ae ab aa=> ?_);obtain ⟨e0,e2,e3⟩:=aa.k3 e0 e2 e3;have e7:=aa.V 5;have e8:=aa.V 6;replace r0:=aa.B 0;replace r1:=aa.B 1;replace r9:=aa.z1 9;refine wp_seq ?_;refine wp_seq (eA ab [jb r0,jb r1,jz 9 r9] ⟨ao e8,aq fun c=>ew rfl (c.q 0),av⟩ fun ac ag ae ab aa=> ?_);obtain ⟨e0,e2,e3,e7⟩:=aa.k4 e0 e2 e3 e7;have e50:=aa.V 1;replace r0:=aa.B 0;replace r1:=aa.B 1;replace r9:=aa.z1 9;refine wp_cond_split e50 (fun hc5=> ?_) (fun hc5=> ?_)
 · try simp only [ar,am] at hc5
   refine wp_seq (fX ab [jb r0,jb r1,jz 9 r9] ⟨aq fun c=>eW (cells:=#[(aj 0),(bc (⟨#[]⟩:ByteArray)),(aE false),(.slice none 0 0),(aj 0),(aj 0),(aE false),(.slice none 0 0)]) rfl aD ni,cp (cx:=[(aj 0),(bc (⟨#[]⟩:ByteArray)),(aE false),(.slice none 0 0),(aj 0),(aj 0),(aE false),(.slice none 0 0)]) (off:=0) ak fun c=>⟨c.bp 1 rfl e2,c.ad ((c.p e2).trans r1.ptr) e2 rfl,(c.q 0)⟩,aq fun c=>ax rfl rfl,av⟩ fun ac ag ae ab aa=> ?_);obtain ⟨e0,e2,e7⟩:=aa.k3 e0 e2 e7;have e3:=aa.V 2;replace r0:=aa.B 0;replace r1:=aa.RB 1 e2;replace r9:=aa.z1 9;refine wp_ret ?_;refine rp ?_;refine ek (fn:=Tryz.f120) rfl ab.defers e2 e3 r1 az ak rfl ?_;exact ⟨(dQ 0 (⟨#[]⟩:ByteArray) false 0 0 false),10,nxN cs i,rfl,ab.extIn,r0.foot,(eQ _ _ _ _ _ _ _ _),⟨by omega,by omega⟩,fun h_=>absurd h_ (by decide)⟩
 try simp only [ar,am] at hc5
 refine wp_skip ?_;refine wp_seq ?_;have hnx_:=wJ (Jb (by assumption:(nx (de cs i)).2=true));refine xi ab [jb r0,jb r1,jz 9 r9] ⟨ao e7,aq fun c=>eW (cells:=#[(aj 2),(bc ((nx (de cs i)).1)),(aE false),(.slice none 0 0),(aj 0),(aj 0),(aE false),(.slice none 0 0)]) rfl aD (iT rfl (c.n 0 rfl) rfl),cp (cx:=[(aj 2),(bc ((nx (de cs i)).1)),(aE false),(.slice none 0 0),(aj 0),(aj 0),(aE false),(.slice none 0 0)]) (off:=0) ak fun c=>⟨c.bp 1 rfl e2,c.ad ((c.p e2).trans r1.ptr) e2 rfl,(c.q 1)⟩,aq fun c=>ax rfl rfl,av⟩ fun ac ag ae ab aa=> ?_;obtain ⟨e0,e2⟩:=aa.k2 e0 e2;have e3:=aa.V 3;replace r0:=aa.B 0;replace r1:=aa.RB 2 e2;replace r9:=aa.z1 9;refine wp_ret ?_;refine rp ?_;refine ek (fn:=Tryz.f120) rfl ab.defers e2 e3 r1 az ak rfl ?_;exact ⟨(dQ 2 ((nx (de cs i)).1) false 0 0 false),0,nxN cs i,rfl,ab.extIn,r0.foot,(eQ _ _ _ _ _ _ _ _),⟨by omega,by omega⟩,fun h_=>BR hd.2 (by omega) (xV (by assumption) (hL.pr (by omega))) (vA (dp hL.1 i))⟩
set_option maxRecDepth 100000 in
set_option maxHeartbeats 4000000 in
theorem Ei (v:Value) (cv:Sv) (cs:List ByteArray) (i:Nat) (d:Int) (w:World) (hR:RxR 98 v cv cs i d w) (hL:zt cs) (hi:i≤cs.length) (hd:0≤d∧d≤16) (hsub:∀(d2:Int) (j:Nat) (w2:World),RxR 98 v cv cs j d2 w2→i≤j→j≤cs.length→0≤d2∧d2≤16→Calls Tryz.prog 50 #[v] w2 (fun e w3=>∃(t':Tr) (er_:Int) (j':Nat),e= .returned (.tuple #[t'.v,aj er_])∧Ext (bY v) w2 w3∧cH 98 [cv.v,aj ((j':Nat):Int),aj d2] (bY v) v w3∧TrT (Gn aW w2) w3 t'∧(j≤j'∧j'≤cs.length)∧(er_=0→PatOk (er t') (((j':Nat):Int) - ((j:Nat):Int)) d2))):Calls Tryz.prog 118 #[v] w (fun e w'=>∃(t':Tr) (er_:Int) (j:Nat),e= .returned (.tuple #[t'.v,aj er_])∧Ext (bY v) w w'∧cH 98 [cv.v,aj ((j:Nat):Int),aj d] (bY v) v w'∧TrT (Gn aW w) w' t'∧(i≤j∧j≤cs.length)∧(er_=0→fU (er t') (((j:Nat):Int) - ((i:Nat):Int)+1) d)):=by
 refine fj (bY v) (fun g hg=>hR.box.lt g hg) (n:=56) Tryz.func118 rfl rfl (aw rfl) ?_;intro a0 τ0 ha hτ st0;have e0:=oz ha;have hL1:=hL.1.1;have r0:cH 98 [cv.v,aj ((i:Nat):Int),aj d] (τ0 0) v w:=by rw [hτ];exact hR.box
 have r9:Fz (fb gR Al cv.v cs) τ0 w:=hR.inz st0;refine wp_seq (rg [box _ _ 1 2 [(aj 0),(bc (⟨#[]⟩:ByteArray)),(aE false),(.slice none 0 0),(aj 0),(aj 0),(aE false),(.slice none 0 0)],_] [0,0] st0 [jb r0,jz 9 r9] ⟨bO rfl rfl rfl rfl aD rfl,aq fun c=>ax rfl rfl,av⟩ fun ac ag ae ab aa=> ?_);obtain ⟨b1x2,e2⟩:=gx ac 2;replace e0:=aa.k1 e0;have e3:=aa.V 1;replace r0:=aa.B 0;have r1:=aa.rb 0 e2 rfl;replace r9:=aa.z1 9;refine wp_seq ?_;refine wp_seq (xk ab [jb r0,jb r1,jz 9 r9] ⟨ao e0,cD 0 r0.ptr,bS bo aA 1 r0.ptr,fE aN 2 0 2,aq fun c=>iC rfl (c.q 3) rfl,av⟩ fun a2 w2 τ2 st2 f2=> ?_);obtain ⟨e0,e2,e3⟩:=f2.k3 e0 e2 e3;have e11:=f2.V 4;replace r0:=f2.B 0;replace r1:=f2.B 1;replace r9:=f2.z1 9;refine wp_cond_split e11 (fun hc1=> ?_) (fun hc1=> ?_)
 · try simp only [ai] at hc1
   refine wp_seq (fX st2 [jb r0,jb r1,jz 9 r9] ⟨aq fun c=>eW (cells:=#[(aj 0),(bc (⟨#[]⟩:ByteArray)),(aE false),(.slice none 0 0),(aj 0),(aj 0),(aE false),(.slice none 0 0)]) rfl aD ni,cp (cx:=[(aj 0),(bc (⟨#[]⟩:ByteArray)),(aE false),(.slice none 0 0),(aj 0),(aj 0),(aE false),(.slice none 0 0)]) (off:=0) ak fun c=>⟨c.bp 1 rfl e2,c.ad ((c.p e2).trans r1.ptr) e2 rfl,(c.q 0)⟩,aq fun c=>ax rfl rfl,av⟩ fun a3 w3 τ3 st3 f3=> ?_);obtain ⟨e0,e2⟩:=f3.k2 e0 e2;have e3:=f3.V 2;replace r0:=f3.B 0;replace r1:=f3.RB 1 e2;replace r9:=f3.z1 9;refine wp_ret ?_;refine rp ?_;refine ek (fn:=Tryz.f118) rfl st3.defers e2 e3 r1 az ak rfl ?_;exact ⟨(dQ 0 (⟨#[]⟩:ByteArray) false 0 0 false),8,i,rfl,st3.extIn,r0.foot,(eQ _ _ _ _ _ _ _ _),⟨by omega,by omega⟩,fun h_=>absurd h_ (by decide)⟩
 try simp only [ah,dD] at hc1
 refine wp_skip ?_;refine wp_seq (eK st2 [jb r0,jb r1,jz 9 r9] ⟨aq fun c=>ax rfl rfl,av⟩ fun ac ag ae ab aa=> ?_);obtain ⟨e0,e2,e3⟩:=aa.k3 e0 e2 e3;have e4:=aa.V 0;replace r0:=aa.B 0;replace r1:=aa.B 1;replace r9:=aa.z1 9;refine wp_seq ?_;refine wp_seq (rg [_,_,_,kG 98 _ 0 16 v [cv.v,(aj ((tkN cs i (⟨#[63]⟩:ByteArray):Nat):Int)),(aj d)] (aE (gj cs i (⟨#[63]⟩:ByteArray)))] [0,1,3,7] ab [jb r0,jb r1,jz 9 r9] ⟨ao e0,cD 0 r0.ptr,bS bo bQ 1 r0.ptr,iZ fun {_ a_ _ _} c=>⟨_,_,(ck rfl rfl gA (c.q 2) rfl),ja (c.B 0) (jS v cv cs i d (⟨#[63]⟩:ByteArray) _ (oD (c.B 0) (c.iz 9 rfl) (fun g_ h_ hz_=>hz_.2 _ h_)) hL (by omega) (by decide+kernel))⟩,av⟩ fun ac ag ae ab aa=> ?_);obtain ⟨e0,e2,e3,e4⟩:=aa.k4 e0 e2 e3 e4;have e16:=aa.dv 3 rfl;replace r0:=aa.db 3 rfl;replace r1:=aa.B 1;replace r9:=aa.z1 9;refine wp_cond_split e16 (fun hc2=> ?_) (fun hc2=> ?_)
 · skip;have htk2:gj cs i (⟨#[63]⟩:ByteArray)=true:=hc2;have htl2:=kx htk2;rw [na htk2] at r0;refine wp_seq ?_;refine wp_seq (rg [_,_,_,kG 98 _ 0 20 v [cv.v,(aj ((tkN cs (i+1) (⟨#[58]⟩:ByteArray):Nat):Int)),(aj d)] (aE (gj cs (i+1) (⟨#[58]⟩:ByteArray))),_] [0,1,3,7,15] ab [jb r0,jb r1,jz 9 r9] ⟨ao e0,cD 0 r0.ptr,bS bo bQ 1 r0.ptr,iZ fun {_ a_ _ _} c=>⟨_,_,(ck rfl rfl gA (c.q 2) rfl),ja (c.B 0) (jS v cv cs (i+1) d (⟨#[58]⟩:ByteArray) _ (oD (c.B 0) (c.iz 9 rfl) (fun g_ h_ hz_=>hz_.2 _ h_)) hL (by omega) (by decide+kernel))⟩,aq fun c=>ew rfl (c.dv 3 rfl),av⟩ fun ac ag ae ab aa=> ?_);obtain ⟨e0,e2,e3,e4⟩:=aa.k4 e0 e2 e3 e4;have e21:=aa.V 4;replace r0:=aa.db 3 rfl;replace r1:=aa.B 1;replace r9:=aa.z1 9;refine wp_cond_split e21 (fun hc3=> ?_) (fun hc3=> ?_)
   · try simp only [ar,am] at hc3
     have htk3:gj cs (i+1) (⟨#[58]⟩:ByteArray)=false:=by simpa using hc3
     rw [mD htk3] at r0;refine wp_seq (fX ab [jb r0,jb r1,jz 9 r9] ⟨aq fun c=>eW (cells:=#[(aj 0),(bc (⟨#[]⟩:ByteArray)),(aE false),(.slice none 0 0),(aj 0),(aj 0),(aE false),(.slice none 0 0)]) rfl aD ni,cp (cx:=[(aj 0),(bc (⟨#[]⟩:ByteArray)),(aE false),(.slice none 0 0),(aj 0),(aj 0),(aE false),(.slice none 0 0)]) (off:=0) ak fun c=>⟨c.bp 1 rfl e2,c.ad ((c.p e2).trans r1.ptr) e2 rfl,(c.q 0)⟩,aq fun c=>ax rfl rfl,av⟩ fun ac ag ae ab aa=> ?_);obtain ⟨e0,e2,e4⟩:=aa.k3 e0 e2 e4;have e3:=aa.V 2;replace r0:=aa.B 0;replace r1:=aa.RB 1 e2;replace r9:=aa.z1 9;refine wp_ret ?_;refine rp ?_;refine ek (fn:=Tryz.f118) rfl ab.defers e2 e3 r1 az ak rfl ?_;exact ⟨(dQ 0 (⟨#[]⟩:ByteArray) false 0 0 false),10,i+1,rfl,ab.extIn,r0.foot,(eQ _ _ _ _ _ _ _ _),⟨by omega,by omega⟩,fun h_=>absurd h_ (by decide)⟩
   try simp only [ar,am] at hc3
   have htk3:gj cs (i+1) (⟨#[58]⟩:ByteArray)=true:=by simpa using hc3
   have htl3:=kx htk3;rw [na htk3] at r0;refine wp_skip ?_;refine eK ab [jb r0,jb r1,jz 9 r9] ⟨aq fun c=>ax rfl rfl,av⟩ fun ac ag ae ab aa=> ?_;obtain ⟨e0,e2,e3⟩:=aa.k3 e0 e2 e3;have e4:=aa.V 0;replace r0:=aa.B 0;replace r1:=aa.B 1;replace r9:=aa.z1 9;refine wp_seq (Hn ab [jb r0,jb r1,jz 9 r9] ⟨ao e0,cD 0 r0.ptr,bS bo aA 1 r0.ptr,fE aN 2 0 2,aq fun c=>cN rfl (c.q 3) rfl (by omega),cD 0 r0.ptr,bS bo aA 5 r0.ptr,cp (cx:=[cv.v,(aj (((i+1)+1:Nat):Int)),(aj (d+1))]) aA fun c=>⟨c.bp 0 rfl e0,c.ad (c.q 6) e0 rfl,(c.q 4)⟩,av⟩ fun ac ag ae ab aa=> ?_);obtain ⟨e0,e2,e3,e4⟩:=aa.k4 e0 e2 e3 e4;replace r0:=aa.RB 7 e0;replace r1:=aa.B 1;replace r9:=aa.z1 9;refine wp_seq ?_;refine aY ?_;refine bV 2 (by kernel_rfl) ?_;refine og [_,mi 98 _ 0 32 v (fun b:Tr × Int × Nat=> [cv.v,aj ((b.2.2:Nat):Int),aj (d+1)]) (fun b:Tr × Int × Nat=> .tuple #[b.1.v,aj b.2.1]) (fun b:Tr × Int × Nat=>((i+1)+1≤b.2.2∧b.2.2≤cs.length)∧(b.2.1=0→PatOk (er b.1) (((b.2.2:Nat):Int) - (((i+1)+1:Nat):Int)) (d+1))) (fun b:Tr × Int × Nat=>gT (Gn aW w) b.1)] [0,1] ab [jb r0,jb r1,jz 9 r9] ⟨ao e0,ku (cells:=fun b:Tr × Int × Nat=> [cv.v,aj ((b.2.2:Nat):Int),aj (d+1)]) (f:=fun b:Tr × Int × Nat=> .tuple #[b.1.v,aj b.2.1]) (Ψ:=fun b:Tr × Int × Nat=>((i+1)+1≤b.2.2∧b.2.2≤cs.length)∧(b.2.1=0→PatOk (er b.1) (((b.2.2:Nat):Int) - (((i+1)+1:Nat):Int)) (d+1))) (Φ:=fun b:Tr × Int × Nat=>gT (Gn aW w) b.1) fun {_ a_ _ _} c=>⟨_,_,(bK rfl rfl Tryz.call50 (c.q 0)),(hsub (d+1) ((i+1)+1) _ (oD (c.B 0) (c.iz 9 rfl) (fun g_ h_ hz_=>hz_.2 _ h_)) (by omega) (by omega) (by omega)).mono (fun e w' ⟨h0_,h1_,h2_,he_,hx_,hb_,ht_,hp_⟩=>⟨⟨h0_,h1_,h2_⟩,he_,(c.ib 0 rfl).ext hx_,hb_.back (c.ib 0 rfl),hp_,c.tns ab hx_.size ht_⟩)⟩,av⟩ fun ac ag ae ab aa=> ?_;obtain ⟨e0,e2,e3,e4⟩:=aa.k4 e0 e2 e3 e4;obtain ⟨⟨t1_,er1_,j1_⟩,e32,hro10,hq1_,hz10⟩:=aa.zb 1 rfl;have e32:be ac 32=(.tuple #[(ta t1_),(aj er1_)]):=e32;have hq1_:((i+1)+1≤j1_∧j1_≤cs.length)∧(er1_=0→PatOk (er t1_) (((j1_:Nat):Int) - (((i+1)+1:Nat):Int)) (d+1)):=hq1_;obtain ⟨hj1_,hp1_⟩:=hq1_;replace r0:cH 98 [cv.v,(aj ((j1_:Nat):Int)),(aj (d+1))] (ae 0) v ag:=hro10;replace r1:=aa.B 1;replace r9:=aa.z1 9;have r2:=hz10;refine bW ?_;refine og [_,_,_,box _ _ 3 5 [(aj 0),(bc (⟨#[]⟩:ByteArray)),(aE false),(.slice none 0 0),(aj 0),(aj 0),(aE false),(.slice none 0 0)],_,_] [0,1,3,7,15,31] ab [jb r0,jb r1,jz 2 r2,jz 9 r9] ⟨ao e32,bR 0,bR 0,bO rfl rfl rfl rfl aD rfl,ey (cx:=(tc t1_)) (off:=0) rfl ak fun c=>⟨c.rb 3 rfl,(c.rb 3 rfl).ptr,(c.q 1)⟩,aK 2,av⟩ fun ac ag ae ab aa=> ?_;obtain ⟨b11x5,e5⟩:=gx ac 5;obtain ⟨e0,e2,e3,e4⟩:=aa.k4 e0 e2 e3 e4;have e6:=aa.V 5;replace r0:=aa.B 0;replace r1:=aa.B 1;replace r2:=aa.z1 2;have r3:=aa.rb 4 e5 rfl;replace r9:=aa.z1 9;refine wp_seq (Hn ab [jb r0,jb r1,jz 2 r2,jb r3,jz 9 r9] ⟨ao e0,cD 0 r0.ptr,bS bo aA 1 r0.ptr,fE aN 2 0 2,aq fun c=>gd rfl (c.q 3) rfl (by omega),cD 0 r0.ptr,bS bo aA 5 r0.ptr,cp (cx:=[cv.v,(aj ((j1_:Nat):Int)),(aj (d+1 - 1))]) aA fun c=>⟨c.bp 0 rfl e0,c.ad (c.q 6) e0 rfl,(c.q 4)⟩,av⟩ fun ac ag ae ab aa=> ?_);obtain ⟨e0,e2,e3,e4,e5,e6⟩:=aa.k6 e0 e2 e3 e4 e5 e6;replace r0:=aa.RB 7 e0;replace r1:=aa.B 1;obtain ⟨r2,r9⟩:=aa.z2 2 9;replace r3:=aa.B 3;replace r0:cH 98 [cv.v,(aj ((j1_:Nat):Int)),aj d] (ae 0) v ag:=by rw [show (d:Int)=d+1 - 1 from by omega];exact r0
   refine wp_seq ?_;refine wp_seq (eA ab [jb r0,jb r1,jz 2 r2,jb r3,jz 9 r9] ⟨ao e6,aq fun c=>fh rfl (c.q 0) rfl,av⟩ fun ac ag ae ab aa=> ?_);obtain ⟨e0,e2,e3,e4,e5,e6⟩:=aa.k6 e0 e2 e3 e4 e5 e6;have e43:=aa.V 1;replace r0:=aa.B 0;replace r1:=aa.B 1;obtain ⟨r2,r9⟩:=aa.z2 2 9;replace r3:=aa.B 3;refine wp_cond_split e43 (fun hc4=> ?_) (fun hc4=> ?_)
   · try simp only [ar,am,ai,ah] at hc4
     refine wp_seq (lr [0,0,1,7] ab [jb r0,jb r1,jz 2 r2,jb r3,jz 9 r9] ⟨aq fun c=>eW (cells:=#[(aj 0),(bc (⟨#[]⟩:ByteArray)),(aE false),(.slice none 0 0),(aj 0),(aj 0),(aE false),(.slice none 0 0)]) rfl aD ni,ao e6,cp (cx:=[(aj 0),(bc (⟨#[]⟩:ByteArray)),(aE false),(.slice none 0 0),(aj 0),(aj 0),(aE false),(.slice none 0 0)]) (off:=0) ak fun c=>⟨c.bp 1 rfl e2,c.ad ((c.p e2).trans r1.ptr) e2 rfl,(c.q 0)⟩,aK 1,av⟩ fun ac ag ae ab aa=> ?_);obtain ⟨e0,e2,e4,e5⟩:=aa.k4 e0 e2 e4 e5;have e3:=aa.V 3;replace r0:=aa.B 0;replace r1:=aa.RB 2 e2;obtain ⟨r2,r9⟩:=aa.z2 2 9;replace r3:=aa.B 3;refine wp_ret ?_;refine rp ?_;refine ek (fn:=Tryz.f118) rfl ab.defers e2 e3 r1 az ak rfl ?_;exact ⟨(dQ 0 (⟨#[]⟩:ByteArray) false 0 0 false),er1_,j1_,rfl,ab.extIn,r0.foot,(eQ _ _ _ _ _ _ _ _),⟨by omega,by omega⟩,fun h_=>absurd h_ (by assumption)⟩
   try simp only [ar,am,ai,ah] at hc4
   refine wp_skip ?_;refine wp_seq ?_;refine wp_seq (rg [_,_,_,kG 98 _ 0 49 v [cv.v,(aj ((tkN cs j1_ (⟨#[41]⟩:ByteArray):Nat):Int)),(aj d)] (aE (gj cs j1_ (⟨#[41]⟩:ByteArray))),_] [0,1,3,7,15] ab [jb r0,jb r1,jz 2 r2,jb r3,jz 9 r9] ⟨ao e0,cD 0 r0.ptr,bS bo bQ 1 r0.ptr,iZ fun {_ a_ _ _} c=>⟨_,_,(ck rfl rfl gA (c.q 2) rfl),ja (c.B 0) (jS v cv cs j1_ d (⟨#[41]⟩:ByteArray) _ (oD (c.B 0) (c.iz 9 rfl) (fun g_ h_ hz_=>hz_.2 _ h_)) hL (by omega) (by decide+kernel))⟩,aq fun c=>ew rfl (c.dv 3 rfl),av⟩ fun ac ag ae ab aa=> ?_);obtain ⟨e0,e2,e3,e4,e5⟩:=aa.k5 e0 e2 e3 e4 e5;have e50:=aa.V 4;replace r0:=aa.db 3 rfl;replace r1:=aa.B 1;obtain ⟨r2,r9⟩:=aa.z2 2 9;replace r3:=aa.B 3;refine wp_cond_split e50 (fun hc5=> ?_) (fun hc5=> ?_)
   · try simp only [ar,am] at hc5
     have htk5:gj cs j1_ (⟨#[41]⟩:ByteArray)=false:=by simpa using hc5
     rw [mD htk5] at r0;refine wp_seq (fX ab [jb r0,jb r1,jz 2 r2,jb r3,jz 9 r9] ⟨aq fun c=>eW (cells:=#[(aj 0),(bc (⟨#[]⟩:ByteArray)),(aE false),(.slice none 0 0),(aj 0),(aj 0),(aE false),(.slice none 0 0)]) rfl aD ni,cp (cx:=[(aj 0),(bc (⟨#[]⟩:ByteArray)),(aE false),(.slice none 0 0),(aj 0),(aj 0),(aE false),(.slice none 0 0)]) (off:=0) ak fun c=>⟨c.bp 1 rfl e2,c.ad ((c.p e2).trans r1.ptr) e2 rfl,(c.q 0)⟩,aq fun c=>ax rfl rfl,av⟩ fun ac ag ae ab aa=> ?_);obtain ⟨e0,e2,e4,e5⟩:=aa.k4 e0 e2 e4 e5;have e3:=aa.V 2;replace r0:=aa.B 0;replace r1:=aa.RB 1 e2;obtain ⟨r2,r9⟩:=aa.z2 2 9;replace r3:=aa.B 3;refine wp_ret ?_;refine rp ?_;refine ek (fn:=Tryz.f118) rfl ab.defers e2 e3 r1 az ak rfl ?_;exact ⟨(dQ 0 (⟨#[]⟩:ByteArray) false 0 0 false),10,j1_,rfl,ab.extIn,r0.foot,(eQ _ _ _ _ _ _ _ _),⟨by omega,by omega⟩,fun h_=>absurd h_ (by decide)⟩
   try simp only [ar,am] at hc5
   have htk5:gj cs j1_ (⟨#[41]⟩:ByteArray)=true:=by simpa using hc5
   have htl5:=kx htk5;rw [na htk5] at r0;refine wp_skip ?_;refine wp_seq ?_;refine aY ?_;refine bV 3 (by kernel_rfl) ?_;refine og [_,_,iA _ 54 True (fun b:Sv=>b.v) (fun _=>True) (fun b:Sv=>fb lY (Gn aW w) b.v [t1_])] [0,0,2] ab [jb r0,jb r1,jz 2 r2,jb r3,jz 9 r9] ⟨ao e4,aq fun c=>dY rfl az ak ((c.p e5).trans r3.ptr) (c.B 3),oR (E:=lY) (xs:=[t1_]) (cells:=#[(aj t1_.k),(bc t1_.ch),(aE t1_.ng),t1_.rv.v,(aj t1_.mn),(aj t1_.mx),(aE t1_.lz),t1_.kv.v]) ab sP rfl aU ak aD (by decide) (by decide) rfl rfl fun c hpc=>gB (c.n 1 rfl) (by kernel_rfl),av⟩ fun ac ag ae ab aa=> ?_;obtain ⟨e0,e2,e3⟩:=aa.k3 e0 e2 e3;have e52:=aa.V 0;obtain ⟨kv2_,e54,-,hz17⟩:=aa.gzd 2 rfl trivial;replace r0:=aa.B 0;replace r1:=aa.B 1;obtain ⟨r2,r9⟩:=aa.z2 2 9;have r3:=hz17;refine bW ?_;refine og [_,_,_] [0,1,3] ab [jb r0,jb r1,jz 2 r2,jz 3 r3,jz 9 r9] ⟨aq fun c=>eW (cells:=#[(aj 6),(bc (⟨#[]⟩:ByteArray)),(aE false),(.slice none 0 0),(aj 0),(aj 0),(aE false),kv2_.v]) rfl aD (iT (c.p e52) (c.p e54) rfl),cp (cx:=[(aj 6),(bc (⟨#[]⟩:ByteArray)),(aE false),(.slice none 0 0),(aj 0),(aj 0),(aE false),kv2_.v]) (off:=0) ak fun c=>⟨c.bp 1 rfl e2,c.ad ((c.p e2).trans r1.ptr) e2 rfl,(c.q 0)⟩,aq fun c=>ax rfl rfl,av⟩ fun ac ag ae ab aa=> ?_;obtain ⟨e0,e2⟩:=aa.k2 e0 e2;have e3:=aa.V 2;replace r0:=aa.B 0;replace r1:=aa.RB 1 e2;obtain ⟨r2,r3,r9⟩:=aa.z3 2 3 9;refine wp_ret ?_;refine rp ?_;refine ek (fn:=Tryz.f118) rfl ab.defers e2 e3 r1 az ak rfl ?_;exact ⟨(eF 6 (⟨#[]⟩:ByteArray) false 0 0 false kv2_ [t1_]),0,j1_+1,rfl,ab.extIn,r0.foot,(Fz.out (qA r3 (ly r2 qh))),⟨by omega,by omega⟩,fun h_=>by rw [show er (eF 6 (⟨#[]⟩:ByteArray) false 0 0 false kv2_ [t1_])=(eF 6 (⟨#[]⟩:ByteArray) false 0 0 false Sv.nil [er t1_]) from lJ _ _ _ _ _ _ _ _];exact Gj (.inr rfl) (hp1_ (by omega)) (by omega) (by omega)⟩
 skip;have htk5:gj cs i (⟨#[63]⟩:ByteArray)=false:=hc2;rw [mD htk5] at r0;refine wp_skip ?_;refine wp_seq (Hn ab [jb r0,jb r1,jz 9 r9] ⟨ao e0,cD 0 r0.ptr,bS bo aA 1 r0.ptr,fE aN 2 0 2,aq fun c=>cN rfl (c.q 3) rfl (by omega),cD 0 r0.ptr,bS bo aA 5 r0.ptr,cp (cx:=[cv.v,(aj ((i:Nat):Int)),(aj (d+1))]) aA fun c=>⟨c.bp 0 rfl e0,c.ad (c.q 6) e0 rfl,(c.q 4)⟩,av⟩ fun ac ag ae ab aa=> ?_);obtain ⟨e0,e2,e3,e4⟩:=aa.k4 e0 e2 e3 e4;replace r0:=aa.RB 7 e0;replace r1:=aa.B 1;replace r9:=aa.z1 9;refine wp_seq ?_;refine aY ?_;refine bV 2 (by kernel_rfl) ?_;refine og [_,mi 98 _ 0 32 v (fun b:Tr × Int × Nat=> [cv.v,aj ((b.2.2:Nat):Int),aj (d+1)]) (fun b:Tr × Int × Nat=> .tuple #[b.1.v,aj b.2.1]) (fun b:Tr × Int × Nat=>(i≤b.2.2∧b.2.2≤cs.length)∧(b.2.1=0→PatOk (er b.1) (((b.2.2:Nat):Int) - ((i:Nat):Int)) (d+1))) (fun b:Tr × Int × Nat=>gT (Gn aW w) b.1)] [0,1] ab [jb r0,jb r1,jz 9 r9] ⟨ao e0,ku (cells:=fun b:Tr × Int × Nat=> [cv.v,aj ((b.2.2:Nat):Int),aj (d+1)]) (f:=fun b:Tr × Int × Nat=> .tuple #[b.1.v,aj b.2.1]) (Ψ:=fun b:Tr × Int × Nat=>(i≤b.2.2∧b.2.2≤cs.length)∧(b.2.1=0→PatOk (er b.1) (((b.2.2:Nat):Int) - ((i:Nat):Int)) (d+1))) (Φ:=fun b:Tr × Int × Nat=>gT (Gn aW w) b.1) fun {_ a_ _ _} c=>⟨_,_,(bK rfl rfl Tryz.call50 (c.q 0)),(hsub (d+1) i _ (oD (c.B 0) (c.iz 9 rfl) (fun g_ h_ hz_=>hz_.2 _ h_)) (by omega) (by omega) (by omega)).mono (fun e w' ⟨h0_,h1_,h2_,he_,hx_,hb_,ht_,hp_⟩=>⟨⟨h0_,h1_,h2_⟩,he_,(c.ib 0 rfl).ext hx_,hb_.back (c.ib 0 rfl),hp_,c.tns ab hx_.size ht_⟩)⟩,av⟩ fun ac ag ae ab aa=> ?_;obtain ⟨e0,e2,e3,e4⟩:=aa.k4 e0 e2 e3 e4;obtain ⟨⟨t3_,er3_,j3_⟩,e32,hro20,hq3_,hz20⟩:=aa.zb 1 rfl;have e32:be ac 32=(.tuple #[(ta t3_),(aj er3_)]):=e32;have hq3_:(i≤j3_∧j3_≤cs.length)∧(er3_=0→PatOk (er t3_) (((j3_:Nat):Int) - ((i:Nat):Int)) (d+1)):=hq3_;obtain ⟨hj3_,hp3_⟩:=hq3_;replace r0:cH 98 [cv.v,(aj ((j3_:Nat):Int)),(aj (d+1))] (ae 0) v ag:=hro20;replace r1:=aa.B 1;replace r9:=aa.z1 9;have r2:=hz20;refine bW ?_;refine og [_,_,_,box _ _ 3 5 [(aj 0),(bc (⟨#[]⟩:ByteArray)),(aE false),(.slice none 0 0),(aj 0),(aj 0),(aE false),(.slice none 0 0)],_,_] [0,1,3,7,15,31] ab [jb r0,jb r1,jz 2 r2,jz 9 r9] ⟨ao e32,bR 0,bR 0,bO rfl rfl rfl rfl aD rfl,ey (cx:=(tc t3_)) (off:=0) rfl ak fun c=>⟨c.rb 3 rfl,(c.rb 3 rfl).ptr,(c.q 1)⟩,aK 2,av⟩ fun ac ag ae ab aa=> ?_;obtain ⟨b21x5,e5⟩:=gx ac 5;obtain ⟨e0,e2,e3,e4⟩:=aa.k4 e0 e2 e3 e4;have e6:=aa.V 5;replace r0:=aa.B 0;replace r1:=aa.B 1;replace r2:=aa.z1 2;have r3:=aa.rb 4 e5 rfl;replace r9:=aa.z1 9;refine wp_seq (Hn ab [jb r0,jb r1,jz 2 r2,jb r3,jz 9 r9] ⟨ao e0,cD 0 r0.ptr,bS bo aA 1 r0.ptr,fE aN 2 0 2,aq fun c=>gd rfl (c.q 3) rfl (by omega),cD 0 r0.ptr,bS bo aA 5 r0.ptr,cp (cx:=[cv.v,(aj ((j3_:Nat):Int)),(aj (d+1 - 1))]) aA fun c=>⟨c.bp 0 rfl e0,c.ad (c.q 6) e0 rfl,(c.q 4)⟩,av⟩ fun ac ag ae ab aa=> ?_);obtain ⟨e0,e2,e3,e4,e5,e6⟩:=aa.k6 e0 e2 e3 e4 e5 e6;replace r0:=aa.RB 7 e0;replace r1:=aa.B 1;obtain ⟨r2,r9⟩:=aa.z2 2 9;replace r3:=aa.B 3;replace r0:cH 98 [cv.v,(aj ((j3_:Nat):Int)),aj d] (ae 0) v ag:=by rw [show (d:Int)=d+1 - 1 from by omega];exact r0
 refine wp_seq ?_;refine wp_seq (eA ab [jb r0,jb r1,jz 2 r2,jb r3,jz 9 r9] ⟨ao e6,aq fun c=>fh rfl (c.q 0) rfl,av⟩ fun ac ag ae ab aa=> ?_);obtain ⟨e0,e2,e3,e4,e5,e6⟩:=aa.k6 e0 e2 e3 e4 e5 e6;have e43:=aa.V 1;replace r0:=aa.B 0;replace r1:=aa.B 1;obtain ⟨r2,r9⟩:=aa.z2 2 9;replace r3:=aa.B 3;refine wp_cond_split e43 (fun hc6=> ?_) (fun hc6=> ?_)
 · try simp only [ar,am,ai,ah] at hc6
   refine wp_seq (lr [0,0,1,7] ab [jb r0,jb r1,jz 2 r2,jb r3,jz 9 r9] ⟨aq fun c=>eW (cells:=#[(aj 0),(bc (⟨#[]⟩:ByteArray)),(aE false),(.slice none 0 0),(aj 0),(aj 0),(aE false),(.slice none 0 0)]) rfl aD ni,ao e6,cp (cx:=[(aj 0),(bc (⟨#[]⟩:ByteArray)),(aE false),(.slice none 0 0),(aj 0),(aj 0),(aE false),(.slice none 0 0)]) (off:=0) ak fun c=>⟨c.bp 1 rfl e2,c.ad ((c.p e2).trans r1.ptr) e2 rfl,(c.q 0)⟩,aK 1,av⟩ fun ac ag ae ab aa=> ?_);obtain ⟨e0,e2,e4,e5⟩:=aa.k4 e0 e2 e4 e5;have e3:=aa.V 3;replace r0:=aa.B 0;replace r1:=aa.RB 2 e2;obtain ⟨r2,r9⟩:=aa.z2 2 9;replace r3:=aa.B 3;refine wp_ret ?_;refine rp ?_;refine ek (fn:=Tryz.f118) rfl ab.defers e2 e3 r1 az ak rfl ?_;exact ⟨(dQ 0 (⟨#[]⟩:ByteArray) false 0 0 false),er3_,j3_,rfl,ab.extIn,r0.foot,(eQ _ _ _ _ _ _ _ _),⟨by omega,by omega⟩,fun h_=>absurd h_ (by assumption)⟩
 try simp only [ar,am,ai,ah] at hc6
 refine wp_skip ?_;refine wp_seq ?_;refine wp_seq (rg [_,_,_,kG 98 _ 0 49 v [cv.v,(aj ((tkN cs j3_ (⟨#[41]⟩:ByteArray):Nat):Int)),(aj d)] (aE (gj cs j3_ (⟨#[41]⟩:ByteArray))),_] [0,1,3,7,15] ab [jb r0,jb r1,jz 2 r2,jb r3,jz 9 r9] ⟨ao e0,cD 0 r0.ptr,bS bo bQ 1 r0.ptr,iZ fun {_ a_ _ _} c=>⟨_,_,(ck rfl rfl gA (c.q 2) rfl),ja (c.B 0) (jS v cv cs j3_ d (⟨#[41]⟩:ByteArray) _ (oD (c.B 0) (c.iz 9 rfl) (fun g_ h_ hz_=>hz_.2 _ h_)) hL (by omega) (by decide+kernel))⟩,aq fun c=>ew rfl (c.dv 3 rfl),av⟩ fun ac ag ae ab aa=> ?_);obtain ⟨e0,e2,e3,e4,e5⟩:=aa.k5 e0 e2 e3 e4 e5;have e50:=aa.V 4;replace r0:=aa.db 3 rfl;replace r1:=aa.B 1;obtain ⟨r2,r9⟩:=aa.z2 2 9;replace r3:=aa.B 3;refine wp_cond_split e50 (fun hc7=> ?_) (fun hc7=> ?_)
 · try simp only [ar,am] at hc7
   have htk7:gj cs j3_ (⟨#[41]⟩:ByteArray)=false:=by simpa using hc7
   rw [mD htk7] at r0;refine wp_seq (fX ab [jb r0,jb r1,jz 2 r2,jb r3,jz 9 r9] ⟨aq fun c=>eW (cells:=#[(aj 0),(bc (⟨#[]⟩:ByteArray)),(aE false),(.slice none 0 0),(aj 0),(aj 0),(aE false),(.slice none 0 0)]) rfl aD ni,cp (cx:=[(aj 0),(bc (⟨#[]⟩:ByteArray)),(aE false),(.slice none 0 0),(aj 0),(aj 0),(aE false),(.slice none 0 0)]) (off:=0) ak fun c=>⟨c.bp 1 rfl e2,c.ad ((c.p e2).trans r1.ptr) e2 rfl,(c.q 0)⟩,aq fun c=>ax rfl rfl,av⟩ fun ac ag ae ab aa=> ?_);obtain ⟨e0,e2,e4,e5⟩:=aa.k4 e0 e2 e4 e5;have e3:=aa.V 2;replace r0:=aa.B 0;replace r1:=aa.RB 1 e2;obtain ⟨r2,r9⟩:=aa.z2 2 9;replace r3:=aa.B 3;refine wp_ret ?_;refine rp ?_;refine ek (fn:=Tryz.f118) rfl ab.defers e2 e3 r1 az ak rfl ?_;exact ⟨(dQ 0 (⟨#[]⟩:ByteArray) false 0 0 false),10,j3_,rfl,ab.extIn,r0.foot,(eQ _ _ _ _ _ _ _ _),⟨by omega,by omega⟩,fun h_=>absurd h_ (by decide)⟩
 try simp only [ar,am] at hc7
 have htk7:gj cs j3_ (⟨#[41]⟩:ByteArray)=true:=by simpa using hc7
 have htl7:=kx htk7;rw [na htk7] at r0;refine wp_skip ?_;refine wp_seq ?_;refine aY ?_;refine bV 3 (by kernel_rfl) ?_;refine og [_,_,iA _ 54 True (fun b:Sv=>b.v) (fun _=>True) (fun b:Sv=>fb lY (Gn aW w) b.v [t3_])] [0,0,2] ab [jb r0,jb r1,jz 2 r2,jb r3,jz 9 r9] ⟨ao e4,aq fun c=>dY rfl az ak ((c.p e5).trans r3.ptr) (c.B 3),oR (E:=lY) (xs:=[t3_]) (cells:=#[(aj t3_.k),(bc t3_.ch),(aE t3_.ng),t3_.rv.v,(aj t3_.mn),(aj t3_.mx),(aE t3_.lz),t3_.kv.v]) ab sP rfl aU ak aD (by decide) (by decide) rfl rfl fun c hpc=>gB (c.n 1 rfl) (by kernel_rfl),av⟩ fun ac ag ae ab aa=> ?_;obtain ⟨e0,e2,e3⟩:=aa.k3 e0 e2 e3;have e52:=aa.V 0;obtain ⟨kv4_,e54,-,hz27⟩:=aa.gzd 2 rfl trivial;replace r0:=aa.B 0;replace r1:=aa.B 1;obtain ⟨r2,r9⟩:=aa.z2 2 9;have r3:=hz27;refine bW ?_;refine og [_,_,_] [0,1,3] ab [jb r0,jb r1,jz 2 r2,jz 3 r3,jz 9 r9] ⟨aq fun c=>eW (cells:=#[(aj 5),(bc (⟨#[]⟩:ByteArray)),(aE false),(.slice none 0 0),(aj 0),(aj 0),(aE false),kv4_.v]) rfl aD (iT (c.p e52) (c.p e54) rfl),cp (cx:=[(aj 5),(bc (⟨#[]⟩:ByteArray)),(aE false),(.slice none 0 0),(aj 0),(aj 0),(aE false),kv4_.v]) (off:=0) ak fun c=>⟨c.bp 1 rfl e2,c.ad ((c.p e2).trans r1.ptr) e2 rfl,(c.q 0)⟩,aq fun c=>ax rfl rfl,av⟩ fun ac ag ae ab aa=> ?_;obtain ⟨e0,e2⟩:=aa.k2 e0 e2;have e3:=aa.V 2;replace r0:=aa.B 0;replace r1:=aa.RB 1 e2;obtain ⟨r2,r3,r9⟩:=aa.z3 2 3 9;refine wp_ret ?_;refine rp ?_;refine ek (fn:=Tryz.f118) rfl ab.defers e2 e3 r1 az ak rfl ?_;exact ⟨(eF 5 (⟨#[]⟩:ByteArray) false 0 0 false kv4_ [t3_]),0,j3_+1,rfl,ab.extIn,r0.foot,(Fz.out (qA r3 (ly r2 qh))),⟨by omega,by omega⟩,fun h_=>by rw [show er (eF 5 (⟨#[]⟩:ByteArray) false 0 0 false kv4_ [t3_])=(eF 5 (⟨#[]⟩:ByteArray) false 0 0 false Sv.nil [er t3_]) from lJ _ _ _ _ _ _ _ _];exact Gj (.inl rfl) (hp3_ (by omega)) (by omega) (by omega)⟩
set_option maxRecDepth 100000 in
set_option maxHeartbeats 4000000 in
theorem wN (v:Value) (cv:Sv) (cs:List ByteArray) (i:Nat) (d:Int) (w:World) (hR:RxR 98 v cv cs i d w) (hL:zt cs) (hi:i≤cs.length) (hd:0≤d∧d≤16) (hsub:∀(d2:Int) (j:Nat) (w2:World),RxR 98 v cv cs j d2 w2→i+1≤j→j≤cs.length→0≤d2∧d2≤16→Calls Tryz.prog 50 #[v] w2 (fun e w3=>∃(t':Tr) (er_:Int) (j':Nat),e= .returned (.tuple #[t'.v,aj er_])∧Ext (bY v) w2 w3∧cH 98 [cv.v,aj ((j':Nat):Int),aj d2] (bY v) v w3∧TrT (Gn aW w2) w3 t'∧(j≤j'∧j'≤cs.length)∧(er_=0→PatOk (er t') (((j':Nat):Int) - ((j:Nat):Int)) d2))):Calls Tryz.prog 97 #[v] w (fun e w'=>∃(t':Tr) (er_:Int) (j:Nat),e= .returned (.tuple #[t'.v,aj er_])∧Ext (bY v) w w'∧cH 98 [cv.v,aj ((j:Nat):Int),aj d] (bY v) v w'∧TrT (Gn aW w) w' t'∧(i≤j∧j≤cs.length)∧(er_=0→(fU (er t') (((j:Nat):Int) - ((i:Nat):Int)) d∧((i:Nat):Int) < ((j:Nat):Int)))):=by
 refine fj (bY v) (fun g hg=>hR.box.lt g hg) (n:=44) Tryz.func97 rfl rfl (aw rfl) ?_;intro a0 τ0 ha hτ st0;have e0:=oz ha;have hL1:=hL.1.1;have r0:cH 98 [cv.v,aj ((i:Nat):Int),aj d] (τ0 0) v w:=by rw [hτ];exact hR.box
 have r9:Fz (fb gR Al cv.v cs) τ0 w:=hR.inz st0;refine wp_seq (rg [box _ _ 1 2 [(aj 0),(bc (⟨#[]⟩:ByteArray)),(aE false),(.slice none 0 0),(aj 0),(aj 0),(aE false),(.slice none 0 0)],_] [0,0] st0 [jb r0,jz 9 r9] ⟨bO rfl rfl rfl rfl aD rfl,aq fun c=>ax rfl rfl,av⟩ fun ac ag ae ab aa=> ?_);obtain ⟨b1x2,e2⟩:=gx ac 2;replace e0:=aa.k1 e0;have e3:=aa.V 1;replace r0:=aa.B 0;have r1:=aa.rb 0 e2 rfl;replace r9:=aa.z1 9;refine wp_seq ?_;refine rg [_,_,_,kG 98 _ 0 8 v [cv.v,(aj ((nxN cs i:Nat):Int)),(aj d)] (bc (de cs i)),_] [0,1,3,7,15] ab [jb r0,jb r1,jz 9 r9] ⟨ao e0,cD 0 r0.ptr,bS bo bQ 1 r0.ptr,iZ fun {_ a_ _ _} c=>⟨_,_,(bK rfl rfl pQ (c.q 2)),ja (c.B 0) (tu v cv cs i d _ (oD (c.B 0) (c.iz 9 rfl) (fun g_ h_ hz_=>hz_.2 _ h_)) hL (by first | omega | (have h_:=dp hL.1 i;omega)))⟩,aq fun c=>ax rfl (c.dv 3 rfl),av⟩ fun a2 w2 τ2 st2 f2=> ?_;obtain ⟨e0,e2,e3⟩:=f2.k3 e0 e2 e3;have e4:=f2.V 4;replace r0:=f2.db 3 rfl;replace r1:=f2.B 1;replace r9:=f2.z1 9;have hnl_:=Dm hi;refine wp_seq (eK st2 [jb r0,jb r1,jz 9 r9] ⟨ao e4,av⟩ fun a3 w3 τ3 st3 f3=> ?_);obtain ⟨e0,e2,e3,e4⟩:=f3.k4 e0 e2 e3 e4;have e9:=f3.V 0;replace r0:=f3.B 0;replace r1:=f3.B 1;replace r9:=f3.z1 9;refine wp_block ?_;refine wp_seq (eA st3 [jb r0,jb r1,jz 9 r9] ⟨aq fun c=>eI rfl (c.p e9) rfl,aK 0,av⟩ fun ac ag ae ab aa=> ?_);obtain ⟨e0,e2,e3,e4,e9⟩:=aa.k5 e0 e2 e3 e4 e9;have e12:=aa.V 1;replace r0:=aa.B 0;replace r1:=aa.B 1;replace r9:=aa.z1 9;refine wp_cond_split e12 (fun hc1=> ?_) (fun hc1=> ?_)
 · skip;refine wp_seq ?_;have hnx_:=jR (by assumption:gM (de cs i) (⟨#[46]⟩:ByteArray)=true) (by decide+kernel);refine fX ab [jb r0,jb r1,jz 9 r9] ⟨aq fun c=>eW (cells:=#[(aj 3),(bc (⟨#[]⟩:ByteArray)),(aE false),(.slice none 0 0),(aj 0),(aj 0),(aE false),(.slice none 0 0)]) rfl aD (gB rfl rfl),cp (cx:=[(aj 3),(bc (⟨#[]⟩:ByteArray)),(aE false),(.slice none 0 0),(aj 0),(aj 0),(aE false),(.slice none 0 0)]) (off:=0) ak fun c=>⟨c.bp 1 rfl e2,c.ad ((c.p e2).trans r1.ptr) e2 rfl,(c.q 0)⟩,aq fun c=>ax rfl rfl,av⟩ fun ac ag ae ab aa=> ?_;obtain ⟨e0,e2,e4,e9⟩:=aa.k4 e0 e2 e4 e9;have e3:=aa.V 2;replace r0:=aa.B 0;replace r1:=aa.RB 1 e2;replace r9:=aa.z1 9;refine wp_ret ?_;refine rp ?_;refine ek (fn:=Tryz.f97) rfl ab.defers e2 e3 r1 az ak rfl ?_;exact ⟨(dQ 3 (⟨#[]⟩:ByteArray) false 0 0 false),0,nxN cs i,rfl,ab.extIn,r0.foot,(eQ _ _ _ _ _ _ _ _),⟨by omega,by omega⟩,fun h_=>⟨JR hd.2 (by omega),by omega⟩⟩
 skip;refine wp_seq (eA ab [jb r0,jb r1,jz 9 r9] ⟨aq fun c=>eI rfl (c.p e9) rfl,aK 0,av⟩ fun ac ag ae ab aa=> ?_);obtain ⟨e0,e2,e3,e4,e9⟩:=aa.k5 e0 e2 e3 e4 e9;have e15:=aa.V 1;replace r0:=aa.B 0;replace r1:=aa.B 1;replace r9:=aa.z1 9;refine wp_cond_split e15 (fun hc2=> ?_) (fun hc2=> ?_)
 · skip;refine wp_seq ?_;have hnx_:=jR (by assumption:gM (de cs i) (⟨#[40]⟩:ByteArray)=true) (by decide+kernel);refine aY ?_;refine bV 2 (by kernel_rfl) ?_;refine og [_,mi 98 _ 0 18 v (fun b:Tr × Int × Nat=> [cv.v,aj ((b.2.2:Nat):Int),aj d]) (fun b:Tr × Int × Nat=> .tuple #[b.1.v,aj b.2.1]) (fun b:Tr × Int × Nat=>(nxN cs i≤b.2.2∧b.2.2≤cs.length)∧(b.2.1=0→fU (er b.1) (((b.2.2:Nat):Int) - ((nxN cs i:Nat):Int)+1) d)) (fun b:Tr × Int × Nat=>gT (Gn aW w) b.1)] [0,1] ab [jb r0,jb r1,jz 9 r9] ⟨ao e0,ku (cells:=fun b:Tr × Int × Nat=> [cv.v,aj ((b.2.2:Nat):Int),aj d]) (f:=fun b:Tr × Int × Nat=> .tuple #[b.1.v,aj b.2.1]) (Ψ:=fun b:Tr × Int × Nat=>(nxN cs i≤b.2.2∧b.2.2≤cs.length)∧(b.2.1=0→fU (er b.1) (((b.2.2:Nat):Int) - ((nxN cs i:Nat):Int)+1) d)) (Φ:=fun b:Tr × Int × Nat=>gT (Gn aW w) b.1) fun {_ a_ _ _} c=>⟨_,_,(bK rfl rfl Tryz.call118 (c.q 0)),(Ei v cv cs (nxN cs i) d _ (oD (c.B 0) (c.iz 9 rfl) (fun g_ h_ hz_=>hz_.2 _ h_)) hL (by first | omega | (have h_:=dp hL.1 i;omega)) hd (fun d2_ j_ w2_ hR_ hij_ hjl_ hd_=>hsub d2_ j_ w2_ hR_ (by omega) hjl_ hd_)).mono (fun e w' ⟨h0_,h1_,h2_,he_,hx_,hb_,ht_,hp_⟩=>⟨⟨h0_,h1_,h2_⟩,he_,(c.ib 0 rfl).ext hx_,hb_.back (c.ib 0 rfl),hp_,c.tns ab hx_.size ht_⟩)⟩,av⟩ fun ac ag ae ab aa=> ?_;obtain ⟨e0,e2,e3,e4,e9⟩:=aa.k5 e0 e2 e3 e4 e9;obtain ⟨⟨t1_,er1_,j1_⟩,e18,hro7,hq1_,hz7⟩:=aa.zb 1 rfl;have e18:be ac 18=(.tuple #[(ta t1_),(aj er1_)]):=e18;have hq1_:(nxN cs i≤j1_∧j1_≤cs.length)∧(er1_=0→fU (er t1_) (((j1_:Nat):Int) - ((nxN cs i:Nat):Int)+1) d):=hq1_;obtain ⟨hj1_,hp1_⟩:=hq1_;replace r0:cH 98 [cv.v,(aj ((j1_:Nat):Int)),(aj d)] (ae 0) v ag:=hro7;replace r1:=aa.B 1;replace r9:=aa.z1 9;have r2:=hz7;refine bW ?_;refine og [_,_,_,_] [0,1,3,7] ab [jb r0,jb r1,jz 2 r2,jz 9 r9] ⟨jG e18,jG e18,cp (cx:=(tc t1_)) (off:=0) ak fun c=>⟨c.bp 1 rfl e2,c.ad ((c.p e2).trans r1.ptr) e2 rfl,(c.q 0)⟩,aK 1,av⟩ fun ac ag ae ab aa=> ?_;obtain ⟨e0,e2,e4,e9⟩:=aa.k4 e0 e2 e4 e9;have e3:=aa.V 3;replace r0:=aa.B 0;replace r1:=aa.RB 2 e2;obtain ⟨r2,r9⟩:=aa.z2 2 9;refine wp_ret ?_;refine rp ?_;refine ek (fn:=Tryz.f97) rfl ab.defers e2 e3 r1 az ak rfl ?_;exact ⟨t1_,er1_,j1_,rfl,ab.extIn,r0.foot,r2.out,⟨by omega,by omega⟩,fun h_=>⟨(hp1_ h_).less (by omega),by omega⟩⟩
 skip;refine wp_seq (eA ab [jb r0,jb r1,jz 9 r9] ⟨aq fun c=>eI rfl (c.p e9) rfl,aK 0,av⟩ fun ac ag ae ab aa=> ?_);obtain ⟨e0,e2,e3,e4,e9⟩:=aa.k5 e0 e2 e3 e4 e9;have e21:=aa.V 1;replace r0:=aa.B 0;replace r1:=aa.B 1;replace r9:=aa.z1 9;refine wp_cond_split e21 (fun hc3=> ?_) (fun hc3=> ?_)
 · skip;refine wp_seq ?_;have hnx_:=jR (by assumption:gM (de cs i) (⟨#[91]⟩:ByteArray)=true) (by decide+kernel);refine aY ?_;refine bV 2 (by kernel_rfl) ?_;refine og [_,mi 98 _ 0 24 v (fun b:Tr × Int × Nat=> [cv.v,aj ((b.2.2:Nat):Int),aj d]) (fun b:Tr × Int × Nat=> .tuple #[b.1.v,aj b.2.1]) (fun b:Tr × Int × Nat=>(nxN cs i≤b.2.2∧b.2.2≤cs.length)∧(b.2.1=0→fU (er b.1) (((b.2.2:Nat):Int) - ((nxN cs i:Nat):Int)) d)) (fun b:Tr × Int × Nat=>gT (Gn aW w) b.1)] [0,1] ab [jb r0,jb r1,jz 9 r9] ⟨ao e0,ku (cells:=fun b:Tr × Int × Nat=> [cv.v,aj ((b.2.2:Nat):Int),aj d]) (f:=fun b:Tr × Int × Nat=> .tuple #[b.1.v,aj b.2.1]) (Ψ:=fun b:Tr × Int × Nat=>(nxN cs i≤b.2.2∧b.2.2≤cs.length)∧(b.2.1=0→fU (er b.1) (((b.2.2:Nat):Int) - ((nxN cs i:Nat):Int)) d)) (Φ:=fun b:Tr × Int × Nat=>gT (Gn aW w) b.1) fun {_ a_ _ _} c=>⟨_,_,(bK rfl rfl Tryz.call119 (c.q 0)),(Eh v cv cs (nxN cs i) d _ (oD (c.B 0) (c.iz 9 rfl) (fun g_ h_ hz_=>hz_.2 _ h_)) hL (by first | omega | (have h_:=dp hL.1 i;omega)) hd).mono (fun e w' ⟨h0_,h1_,h2_,he_,hx_,hb_,ht_,hp_⟩=>⟨⟨h0_,h1_,h2_⟩,he_,(c.ib 0 rfl).ext hx_,hb_.back (c.ib 0 rfl),hp_,c.tns ab hx_.size ht_⟩)⟩,av⟩ fun ac ag ae ab aa=> ?_;obtain ⟨e0,e2,e3,e4,e9⟩:=aa.k5 e0 e2 e3 e4 e9;obtain ⟨⟨t2_,er2_,j2_⟩,e24,hro10,hq2_,hz10⟩:=aa.zb 1 rfl;have e24:be ac 24=(.tuple #[(ta t2_),(aj er2_)]):=e24;have hq2_:(nxN cs i≤j2_∧j2_≤cs.length)∧(er2_=0→fU (er t2_) (((j2_:Nat):Int) - ((nxN cs i:Nat):Int)) d):=hq2_;obtain ⟨hj2_,hp2_⟩:=hq2_;replace r0:cH 98 [cv.v,(aj ((j2_:Nat):Int)),(aj d)] (ae 0) v ag:=hro10;replace r1:=aa.B 1;replace r9:=aa.z1 9;have r2:=hz10;refine bW ?_;refine og [_,_,_,_] [0,1,3,7] ab [jb r0,jb r1,jz 2 r2,jz 9 r9] ⟨jG e24,jG e24,cp (cx:=(tc t2_)) (off:=0) ak fun c=>⟨c.bp 1 rfl e2,c.ad ((c.p e2).trans r1.ptr) e2 rfl,(c.q 0)⟩,aK 1,av⟩ fun ac ag ae ab aa=> ?_;obtain ⟨e0,e2,e4,e9⟩:=aa.k4 e0 e2 e4 e9;have e3:=aa.V 3;replace r0:=aa.B 0;replace r1:=aa.RB 2 e2;obtain ⟨r2,r9⟩:=aa.z2 2 9;refine wp_ret ?_;refine rp ?_;refine ek (fn:=Tryz.f97) rfl ab.defers e2 e3 r1 az ak rfl ?_;exact ⟨t2_,er2_,j2_,rfl,ab.extIn,r0.foot,r2.out,⟨by omega,by omega⟩,fun h_=>⟨(hp2_ h_).less (by omega),by omega⟩⟩
 skip;refine wp_seq (eA ab [jb r0,jb r1,jz 9 r9] ⟨aq fun c=>eI rfl (c.p e9) rfl,aK 0,av⟩ fun ac ag ae ab aa=> ?_);obtain ⟨e0,e2,e3,e4,e9⟩:=aa.k5 e0 e2 e3 e4 e9;have e27:=aa.V 1;replace r0:=aa.B 0;replace r1:=aa.B 1;replace r9:=aa.z1 9;refine wp_cond_split e27 (fun hc4=> ?_) (fun hc4=> ?_)
 · skip;refine wp_seq ?_;have hnx_:=jR (by assumption:gM (de cs i) (⟨#[92]⟩:ByteArray)=true) (by decide+kernel);refine aY ?_;refine bV 2 (by kernel_rfl) ?_;refine og [_,mi 98 _ 0 30 v (fun b:Tr × Int × Nat=> [cv.v,aj ((b.2.2:Nat):Int),aj d]) (fun b:Tr × Int × Nat=> .tuple #[b.1.v,aj b.2.1]) (fun b:Tr × Int × Nat=>(nxN cs i≤b.2.2∧b.2.2≤cs.length)∧(b.2.1=0→fU (er b.1) (((b.2.2:Nat):Int) - ((nxN cs i:Nat):Int)) d)) (fun b:Tr × Int × Nat=>gT (Gn aW w) b.1)] [0,1] ab [jb r0,jb r1,jz 9 r9] ⟨ao e0,ku (cells:=fun b:Tr × Int × Nat=> [cv.v,aj ((b.2.2:Nat):Int),aj d]) (f:=fun b:Tr × Int × Nat=> .tuple #[b.1.v,aj b.2.1]) (Ψ:=fun b:Tr × Int × Nat=>(nxN cs i≤b.2.2∧b.2.2≤cs.length)∧(b.2.1=0→fU (er b.1) (((b.2.2:Nat):Int) - ((nxN cs i:Nat):Int)) d)) (Φ:=fun b:Tr × Int × Nat=>gT (Gn aW w) b.1) fun {_ a_ _ _} c=>⟨_,_,(bK rfl rfl Tryz.call120 (c.q 0)),(If v cv cs (nxN cs i) d _ (oD (c.B 0) (c.iz 9 rfl) (fun g_ h_ hz_=>hz_.2 _ h_)) hL (by first | omega | (have h_:=dp hL.1 i;omega)) hd).mono (fun e w' ⟨h0_,h1_,h2_,he_,hx_,hb_,ht_,hp_⟩=>⟨⟨h0_,h1_,h2_⟩,he_,(c.ib 0 rfl).ext hx_,hb_.back (c.ib 0 rfl),hp_,c.tns ab hx_.size ht_⟩)⟩,av⟩ fun ac ag ae ab aa=> ?_;obtain ⟨e0,e2,e3,e4,e9⟩:=aa.k5 e0 e2 e3 e4 e9;obtain ⟨⟨t3_,er3_,j3_⟩,e30,hro13,hq3_,hz13⟩:=aa.zb 1 rfl;have e30:be ac 30=(.tuple #[(ta t3_),(aj er3_)]):=e30;have hq3_:(nxN cs i≤j3_∧j3_≤cs.length)∧(er3_=0→fU (er t3_) (((j3_:Nat):Int) - ((nxN cs i:Nat):Int)) d):=hq3_;obtain ⟨hj3_,hp3_⟩:=hq3_;replace r0:cH 98 [cv.v,(aj ((j3_:Nat):Int)),(aj d)] (ae 0) v ag:=hro13;replace r1:=aa.B 1;replace r9:=aa.z1 9;have r2:=hz13;refine bW ?_;refine og [_,_,_,_] [0,1,3,7] ab [jb r0,jb r1,jz 2 r2,jz 9 r9] ⟨jG e30,jG e30,cp (cx:=(tc t3_)) (off:=0) ak fun c=>⟨c.bp 1 rfl e2,c.ad ((c.p e2).trans r1.ptr) e2 rfl,(c.q 0)⟩,aK 1,av⟩ fun ac ag ae ab aa=> ?_;obtain ⟨e0,e2,e4,e9⟩:=aa.k4 e0 e2 e4 e9;have e3:=aa.V 3;replace r0:=aa.B 0;replace r1:=aa.RB 2 e2;obtain ⟨r2,r9⟩:=aa.z2 2 9;refine wp_ret ?_;refine rp ?_;refine ek (fn:=Tryz.f97) rfl ab.defers e2 e3 r1 az ak rfl ?_;exact ⟨t3_,er3_,j3_,rfl,ab.extIn,r0.foot,r2.out,⟨by omega,by omega⟩,fun h_=>⟨(hp3_ h_).less (by omega),by omega⟩⟩
 skip;refine wp_seq ?_;refine wp_seq (eA ab [jb r0,jb r1,jz 9 r9] ⟨aq fun c=>eI rfl (c.p e9) rfl,aK 0,av⟩ fun ac ag ae ab aa=> ?_);obtain ⟨e0,e2,e3,e4,e9⟩:=aa.k5 e0 e2 e3 e4 e9;have e33:=aa.V 1;replace r0:=aa.B 0;replace r1:=aa.B 1;replace r9:=aa.z1 9;refine wp_cond_split e33 (fun hc5=> ?_) (fun hc5=> ?_)
 · have hd5:=hc5;skip;refine wp_skip ?_;refine wp_cond_true (e33.trans (congrArg _ hc5)) ?_;refine wp_seq (fX ab [jb r0,jb r1,jz 9 r9] ⟨aq fun c=>eW (cells:=#[(aj 0),(bc (⟨#[]⟩:ByteArray)),(aE false),(.slice none 0 0),(aj 0),(aj 0),(aE false),(.slice none 0 0)]) rfl aD ni,cp (cx:=[(aj 0),(bc (⟨#[]⟩:ByteArray)),(aE false),(.slice none 0 0),(aj 0),(aj 0),(aE false),(.slice none 0 0)]) (off:=0) ak fun c=>⟨c.bp 1 rfl e2,c.ad ((c.p e2).trans r1.ptr) e2 rfl,(c.q 0)⟩,aq fun c=>ax rfl rfl,av⟩ fun ac ag ae ab aa=> ?_);obtain ⟨e0,e2,e4⟩:=aa.k3 e0 e2 e4;have e3:=aa.V 2;replace r0:=aa.B 0;replace r1:=aa.RB 1 e2;replace r9:=aa.z1 9;refine wp_ret ?_;refine rp ?_;refine ek (fn:=Tryz.f97) rfl ab.defers e2 e3 r1 az ak rfl ?_;exact ⟨(dQ 0 (⟨#[]⟩:ByteArray) false 0 0 false),10,nxN cs i,rfl,ab.extIn,r0.foot,(eQ _ _ _ _ _ _ _ _),⟨by omega,by omega⟩,fun h_=>absurd h_ (by decide)⟩
 have hd6:=hc5;skip;refine wp_seq (eA ab [jb r0,jb r1,jz 9 r9] ⟨aq fun c=>eI rfl (c.p e9) rfl,aK 0,av⟩ fun ac ag ae ab aa=> ?_);obtain ⟨e0,e2,e3,e4,e9⟩:=aa.k5 e0 e2 e3 e4 e9;have e33:=aa.V 1;replace r0:=aa.B 0;replace r1:=aa.B 1;replace r9:=aa.z1 9;refine wp_cond_split e33 (fun hc7=> ?_) (fun hc7=> ?_)
 · have hd7:=hc7;skip;refine wp_skip ?_;refine wp_cond_true (e33.trans (congrArg _ hc7)) ?_;refine wp_seq (fX ab [jb r0,jb r1,jz 9 r9] ⟨aq fun c=>eW (cells:=#[(aj 0),(bc (⟨#[]⟩:ByteArray)),(aE false),(.slice none 0 0),(aj 0),(aj 0),(aE false),(.slice none 0 0)]) rfl aD ni,cp (cx:=[(aj 0),(bc (⟨#[]⟩:ByteArray)),(aE false),(.slice none 0 0),(aj 0),(aj 0),(aE false),(.slice none 0 0)]) (off:=0) ak fun c=>⟨c.bp 1 rfl e2,c.ad ((c.p e2).trans r1.ptr) e2 rfl,(c.q 0)⟩,aq fun c=>ax rfl rfl,av⟩ fun ac ag ae ab aa=> ?_);obtain ⟨e0,e2,e4⟩:=aa.k3 e0 e2 e4;have e3:=aa.V 2;replace r0:=aa.B 0;replace r1:=aa.RB 1 e2;replace r9:=aa.z1 9;refine wp_ret ?_;refine rp ?_;refine ek (fn:=Tryz.f97) rfl ab.defers e2 e3 r1 az ak rfl ?_;exact ⟨(dQ 0 (⟨#[]⟩:ByteArray) false 0 0 false),10,nxN cs i,rfl,ab.extIn,r0.foot,(eQ _ _ _ _ _ _ _ _),⟨by omega,by omega⟩,fun h_=>absurd h_ (by decide)⟩
 have hd8:=hc7;skip;refine wp_seq (eA ab [jb r0,jb r1,jz 9 r9] ⟨aq fun c=>eI rfl (c.p e9) rfl,aK 0,av⟩ fun ac ag ae ab aa=> ?_);obtain ⟨e0,e2,e3,e4,e9⟩:=aa.k5 e0 e2 e3 e4 e9;have e33:=aa.V 1;replace r0:=aa.B 0;replace r1:=aa.B 1;replace r9:=aa.z1 9;refine wp_cond_split e33 (fun hc9=> ?_) (fun hc9=> ?_)
 · have hd9:=hc9;skip;refine wp_skip ?_;refine wp_cond_true (e33.trans (congrArg _ hc9)) ?_;refine wp_seq (fX ab [jb r0,jb r1,jz 9 r9] ⟨aq fun c=>eW (cells:=#[(aj 0),(bc (⟨#[]⟩:ByteArray)),(aE false),(.slice none 0 0),(aj 0),(aj 0),(aE false),(.slice none 0 0)]) rfl aD ni,cp (cx:=[(aj 0),(bc (⟨#[]⟩:ByteArray)),(aE false),(.slice none 0 0),(aj 0),(aj 0),(aE false),(.slice none 0 0)]) (off:=0) ak fun c=>⟨c.bp 1 rfl e2,c.ad ((c.p e2).trans r1.ptr) e2 rfl,(c.q 0)⟩,aq fun c=>ax rfl rfl,av⟩ fun ac ag ae ab aa=> ?_);obtain ⟨e0,e2,e4⟩:=aa.k3 e0 e2 e4;have e3:=aa.V 2;replace r0:=aa.B 0;replace r1:=aa.RB 1 e2;replace r9:=aa.z1 9;refine wp_ret ?_;refine rp ?_;refine ek (fn:=Tryz.f97) rfl ab.defers e2 e3 r1 az ak rfl ?_;exact ⟨(dQ 0 (⟨#[]⟩:ByteArray) false 0 0 false),10,nxN cs i,rfl,ab.extIn,r0.foot,(eQ _ _ _ _ _ _ _ _),⟨by omega,by omega⟩,fun h_=>absurd h_ (by decide)⟩
 have hd10:=hc9;skip;refine wp_seq (eA ab [jb r0,jb r1,jz 9 r9] ⟨aq fun c=>eI rfl (c.p e9) rfl,aK 0,av⟩ fun ac ag ae ab aa=> ?_);obtain ⟨e0,e2,e3,e4,e9⟩:=aa.k5 e0 e2 e3 e4 e9;have e33:=aa.V 1;replace r0:=aa.B 0;replace r1:=aa.B 1;replace r9:=aa.z1 9;refine wp_cond_split e33 (fun hc11=> ?_) (fun hc11=> ?_)
 · have hd11:=hc11;skip;refine wp_skip ?_;refine wp_cond_true (e33.trans (congrArg _ hc11)) ?_;refine wp_seq (fX ab [jb r0,jb r1,jz 9 r9] ⟨aq fun c=>eW (cells:=#[(aj 0),(bc (⟨#[]⟩:ByteArray)),(aE false),(.slice none 0 0),(aj 0),(aj 0),(aE false),(.slice none 0 0)]) rfl aD ni,cp (cx:=[(aj 0),(bc (⟨#[]⟩:ByteArray)),(aE false),(.slice none 0 0),(aj 0),(aj 0),(aE false),(.slice none 0 0)]) (off:=0) ak fun c=>⟨c.bp 1 rfl e2,c.ad ((c.p e2).trans r1.ptr) e2 rfl,(c.q 0)⟩,aq fun c=>ax rfl rfl,av⟩ fun ac ag ae ab aa=> ?_);obtain ⟨e0,e2,e4⟩:=aa.k3 e0 e2 e4;have e3:=aa.V 2;replace r0:=aa.B 0;replace r1:=aa.RB 1 e2;replace r9:=aa.z1 9;refine wp_ret ?_;refine rp ?_;refine ek (fn:=Tryz.f97) rfl ab.defers e2 e3 r1 az ak rfl ?_;exact ⟨(dQ 0 (⟨#[]⟩:ByteArray) false 0 0 false),10,nxN cs i,rfl,ab.extIn,r0.foot,(eQ _ _ _ _ _ _ _ _),⟨by omega,by omega⟩,fun h_=>absurd h_ (by decide)⟩
 have hd12:=hc11;skip;refine wp_seq (eA ab [jb r0,jb r1,jz 9 r9] ⟨aq fun c=>eI rfl (c.p e9) rfl,aK 0,av⟩ fun ac ag ae ab aa=> ?_);obtain ⟨e0,e2,e3,e4,e9⟩:=aa.k5 e0 e2 e3 e4 e9;have e33:=aa.V 1;replace r0:=aa.B 0;replace r1:=aa.B 1;replace r9:=aa.z1 9;refine wp_cond_split e33 (fun hc13=> ?_) (fun hc13=> ?_)
 · have hd13:=hc13;skip;refine wp_skip ?_;refine wp_cond_true (e33.trans (congrArg _ hc13)) ?_;refine wp_seq (fX ab [jb r0,jb r1,jz 9 r9] ⟨aq fun c=>eW (cells:=#[(aj 0),(bc (⟨#[]⟩:ByteArray)),(aE false),(.slice none 0 0),(aj 0),(aj 0),(aE false),(.slice none 0 0)]) rfl aD ni,cp (cx:=[(aj 0),(bc (⟨#[]⟩:ByteArray)),(aE false),(.slice none 0 0),(aj 0),(aj 0),(aE false),(.slice none 0 0)]) (off:=0) ak fun c=>⟨c.bp 1 rfl e2,c.ad ((c.p e2).trans r1.ptr) e2 rfl,(c.q 0)⟩,aq fun c=>ax rfl rfl,av⟩ fun ac ag ae ab aa=> ?_);obtain ⟨e0,e2,e4⟩:=aa.k3 e0 e2 e4;have e3:=aa.V 2;replace r0:=aa.B 0;replace r1:=aa.RB 1 e2;replace r9:=aa.z1 9;refine wp_ret ?_;refine rp ?_;refine ek (fn:=Tryz.f97) rfl ab.defers e2 e3 r1 az ak rfl ?_;exact ⟨(dQ 0 (⟨#[]⟩:ByteArray) false 0 0 false),10,nxN cs i,rfl,ab.extIn,r0.foot,(eQ _ _ _ _ _ _ _ _),⟨by omega,by omega⟩,fun h_=>absurd h_ (by decide)⟩
 have hd14:=hc13;skip;refine wp_seq (eA ab [jb r0,jb r1,jz 9 r9] ⟨aq fun c=>eI rfl (c.p e9) rfl,aK 0,av⟩ fun ac ag ae ab aa=> ?_);obtain ⟨e0,e2,e3,e4,e9⟩:=aa.k5 e0 e2 e3 e4 e9;have e33:=aa.V 1;replace r0:=aa.B 0;replace r1:=aa.B 1;replace r9:=aa.z1 9;refine wp_cond_split e33 (fun hc15=> ?_) (fun hc15=> ?_)
 · have hd15:=hc15;skip;refine wp_skip ?_;refine wp_cond_true (e33.trans (congrArg _ hc15)) ?_;refine wp_seq (fX ab [jb r0,jb r1,jz 9 r9] ⟨aq fun c=>eW (cells:=#[(aj 0),(bc (⟨#[]⟩:ByteArray)),(aE false),(.slice none 0 0),(aj 0),(aj 0),(aE false),(.slice none 0 0)]) rfl aD ni,cp (cx:=[(aj 0),(bc (⟨#[]⟩:ByteArray)),(aE false),(.slice none 0 0),(aj 0),(aj 0),(aE false),(.slice none 0 0)]) (off:=0) ak fun c=>⟨c.bp 1 rfl e2,c.ad ((c.p e2).trans r1.ptr) e2 rfl,(c.q 0)⟩,aq fun c=>ax rfl rfl,av⟩ fun ac ag ae ab aa=> ?_);obtain ⟨e0,e2,e4⟩:=aa.k3 e0 e2 e4;have e3:=aa.V 2;replace r0:=aa.B 0;replace r1:=aa.RB 1 e2;replace r9:=aa.z1 9;refine wp_ret ?_;refine rp ?_;refine ek (fn:=Tryz.f97) rfl ab.defers e2 e3 r1 az ak rfl ?_;exact ⟨(dQ 0 (⟨#[]⟩:ByteArray) false 0 0 false),10,nxN cs i,rfl,ab.extIn,r0.foot,(eQ _ _ _ _ _ _ _ _),⟨by omega,by omega⟩,fun h_=>absurd h_ (by decide)⟩
 have hd16:=hc15;skip;refine wp_seq (eA ab [jb r0,jb r1,jz 9 r9] ⟨aq fun c=>eI rfl (c.p e9) rfl,aK 0,av⟩ fun ac ag ae ab aa=> ?_);obtain ⟨e0,e2,e3,e4,e9⟩:=aa.k5 e0 e2 e3 e4 e9;have e33:=aa.V 1;replace r0:=aa.B 0;replace r1:=aa.B 1;replace r9:=aa.z1 9;refine wp_cond_split e33 (fun hc17=> ?_) (fun hc17=> ?_)
 · have hd17:=hc17;skip;refine wp_skip ?_;refine wp_cond_true (e33.trans (congrArg _ hc17)) ?_;refine wp_seq (fX ab [jb r0,jb r1,jz 9 r9] ⟨aq fun c=>eW (cells:=#[(aj 0),(bc (⟨#[]⟩:ByteArray)),(aE false),(.slice none 0 0),(aj 0),(aj 0),(aE false),(.slice none 0 0)]) rfl aD ni,cp (cx:=[(aj 0),(bc (⟨#[]⟩:ByteArray)),(aE false),(.slice none 0 0),(aj 0),(aj 0),(aE false),(.slice none 0 0)]) (off:=0) ak fun c=>⟨c.bp 1 rfl e2,c.ad ((c.p e2).trans r1.ptr) e2 rfl,(c.q 0)⟩,aq fun c=>ax rfl rfl,av⟩ fun ac ag ae ab aa=> ?_);obtain ⟨e0,e2,e4⟩:=aa.k3 e0 e2 e4;have e3:=aa.V 2;replace r0:=aa.B 0;replace r1:=aa.RB 1 e2;replace r9:=aa.z1 9;refine wp_ret ?_;refine rp ?_;refine ek (fn:=Tryz.f97) rfl ab.defers e2 e3 r1 az ak rfl ?_;exact ⟨(dQ 0 (⟨#[]⟩:ByteArray) false 0 0 false),10,nxN cs i,rfl,ab.extIn,r0.foot,(eQ _ _ _ _ _ _ _ _),⟨by omega,by omega⟩,fun h_=>absurd h_ (by decide)⟩
 have hd18:=hc17;skip;refine wp_seq (eA ab [jb r0,jb r1,jz 9 r9] ⟨aq fun c=>eI rfl (c.p e9) rfl,aK 0,av⟩ fun ac ag ae ab aa=> ?_);obtain ⟨e0,e2,e3,e4,e9⟩:=aa.k5 e0 e2 e3 e4 e9;have e33:=aa.V 1;replace r0:=aa.B 0;replace r1:=aa.B 1;replace r9:=aa.z1 9;refine wp_cond_split e33 (fun hc19=> ?_) (fun hc19=> ?_)
 · have hd19:=hc19;skip;refine wp_skip ?_;refine wp_cond_true (e33.trans (congrArg _ hc19)) ?_;refine wp_seq (fX ab [jb r0,jb r1,jz 9 r9] ⟨aq fun c=>eW (cells:=#[(aj 0),(bc (⟨#[]⟩:ByteArray)),(aE false),(.slice none 0 0),(aj 0),(aj 0),(aE false),(.slice none 0 0)]) rfl aD ni,cp (cx:=[(aj 0),(bc (⟨#[]⟩:ByteArray)),(aE false),(.slice none 0 0),(aj 0),(aj 0),(aE false),(.slice none 0 0)]) (off:=0) ak fun c=>⟨c.bp 1 rfl e2,c.ad ((c.p e2).trans r1.ptr) e2 rfl,(c.q 0)⟩,aq fun c=>ax rfl rfl,av⟩ fun ac ag ae ab aa=> ?_);obtain ⟨e0,e2,e4⟩:=aa.k3 e0 e2 e4;have e3:=aa.V 2;replace r0:=aa.B 0;replace r1:=aa.RB 1 e2;replace r9:=aa.z1 9;refine wp_ret ?_;refine rp ?_;refine ek (fn:=Tryz.f97) rfl ab.defers e2 e3 r1 az ak rfl ?_;exact ⟨(dQ 0 (⟨#[]⟩:ByteArray) false 0 0 false),10,nxN cs i,rfl,ab.extIn,r0.foot,(eQ _ _ _ _ _ _ _ _),⟨by omega,by omega⟩,fun h_=>absurd h_ (by decide)⟩
 have hd20:=hc19;skip;refine eA ab [jb r0,jb r1,jz 9 r9] ⟨aq fun c=>eI rfl (c.p e9) rfl,aK 0,av⟩ fun ac ag ae ab aa=> ?_;obtain ⟨e0,e2,e3,e4⟩:=aa.k4 e0 e2 e3 e4;have e33:=aa.V 1;replace r0:=aa.B 0;replace r1:=aa.B 1;replace r9:=aa.z1 9;refine wp_cond_split e33 (fun hc21=> ?_) (fun hc21=> ?_)
 · have hd21:=hc21;skip;refine wp_seq (fX ab [jb r0,jb r1,jz 9 r9] ⟨aq fun c=>eW (cells:=#[(aj 0),(bc (⟨#[]⟩:ByteArray)),(aE false),(.slice none 0 0),(aj 0),(aj 0),(aE false),(.slice none 0 0)]) rfl aD ni,cp (cx:=[(aj 0),(bc (⟨#[]⟩:ByteArray)),(aE false),(.slice none 0 0),(aj 0),(aj 0),(aE false),(.slice none 0 0)]) (off:=0) ak fun c=>⟨c.bp 1 rfl e2,c.ad ((c.p e2).trans r1.ptr) e2 rfl,(c.q 0)⟩,aq fun c=>ax rfl rfl,av⟩ fun ac ag ae ab aa=> ?_);obtain ⟨e0,e2,e4⟩:=aa.k3 e0 e2 e4;have e3:=aa.V 2;replace r0:=aa.B 0;replace r1:=aa.RB 1 e2;replace r9:=aa.z1 9;refine wp_ret ?_;refine rp ?_;refine ek (fn:=Tryz.f97) rfl ab.defers e2 e3 r1 az ak rfl ?_;exact ⟨(dQ 0 (⟨#[]⟩:ByteArray) false 0 0 false),10,nxN cs i,rfl,ab.extIn,r0.foot,(eQ _ _ _ _ _ _ _ _),⟨by omega,by omega⟩,fun h_=>absurd h_ (by decide)⟩
 have hd21:=hc21;skip;refine wp_seq ?_;have hnx_:=wJ (by assumption:gM (de cs i) (⟨#[]⟩:ByteArray)=false);refine xi ab [jb r0,jb r1,jz 9 r9] ⟨ao e4,aq fun c=>eW (cells:=#[(aj 2),(bc (de cs i)),(aE false),(.slice none 0 0),(aj 0),(aj 0),(aE false),(.slice none 0 0)]) rfl aD (iT rfl (c.n 0 rfl) rfl),cp (cx:=[(aj 2),(bc (de cs i)),(aE false),(.slice none 0 0),(aj 0),(aj 0),(aE false),(.slice none 0 0)]) (off:=0) ak fun c=>⟨c.bp 1 rfl e2,c.ad ((c.p e2).trans r1.ptr) e2 rfl,(c.q 1)⟩,aq fun c=>ax rfl rfl,av⟩ fun ac ag ae ab aa=> ?_;obtain ⟨e0,e2⟩:=aa.k2 e0 e2;have e3:=aa.V 3;replace r0:=aa.B 0;replace r1:=aa.RB 2 e2;replace r9:=aa.z1 9;refine wp_ret ?_;refine rp ?_;refine ek (fn:=Tryz.f97) rfl ab.defers e2 e3 r1 az ak rfl ?_;exact ⟨(dQ 2 (de cs i) false 0 0 false),0,nxN cs i,rfl,ab.extIn,r0.foot,(eQ _ _ _ _ _ _ _ _),⟨by omega,by omega⟩,fun h_=>⟨BR hd.2 (by omega) (hL.pr (by omega)) (dp hL.1 i),by omega⟩⟩
end
section
open Go.RowKit
open Srt
set_option maxRecDepth 100000 in
set_option maxHeartbeats 4000000 in
theorem Gr (v:Value) (cv:Sv) (cs:List ByteArray) (i:Nat) (d:Int) (w:World) (hR:RxR 98 v cv cs i d w) (hL:zt cs) (hi:i≤cs.length) (hd:0≤d∧d≤16) (hsub:∀(d2:Int) (j:Nat) (w2:World),RxR 98 v cv cs j d2 w2→i+1≤j→j≤cs.length→0≤d2∧d2≤16→Calls Tryz.prog 50 #[v] w2 (fun e w3=>∃(t':Tr) (er_:Int) (j':Nat),e= .returned (.tuple #[t'.v,aj er_])∧Ext (bY v) w2 w3∧cH 98 [cv.v,aj ((j':Nat):Int),aj d2] (bY v) v w3∧TrT (Gn aW w2) w3 t'∧(j≤j'∧j'≤cs.length)∧(er_=0→PatOk (er t') (((j':Nat):Int) - ((j:Nat):Int)) d2))):Calls Tryz.prog 76 #[v] w (fun e w'=>∃(t':Tr) (er_:Int) (j:Nat),e= .returned (.tuple #[t'.v,aj er_])∧Ext (bY v) w w'∧cH 98 [cv.v,aj ((j:Nat):Int),aj d] (bY v) v w'∧TrT (Gn aW w) w' t'∧(i≤j∧j≤cs.length)∧(er_=0→(TermOk (er t') (((j:Nat):Int) - ((i:Nat):Int)) d∧((i:Nat):Int) < ((j:Nat):Int)))):=by
 refine fj (bY v) (fun g hg=>hR.box.lt g hg) (n:=102) Tryz.func76 rfl rfl (aw rfl) ?_;intro a0 τ0 ha hτ st0;have e0:=oz ha;have hL1:=hL.1.1;have r0:cH 98 [cv.v,aj ((i:Nat):Int),aj d] (τ0 0) v w:=by rw [hτ];exact hR.box
 have r9:Fz (fb gR Al cv.v cs) τ0 w:=hR.inz st0;refine wp_seq (rg [box _ _ 1 2 [(aj 0),(bc (⟨#[]⟩:ByteArray)),(aE false),(.slice none 0 0),(aj 0),(aj 0),(aE false),(.slice none 0 0)],_] [0,0] st0 [jb r0,jz 9 r9] ⟨bO rfl rfl rfl rfl aD rfl,aq fun c=>ax rfl rfl,av⟩ fun ac ag ae ab aa=> ?_);obtain ⟨b1x2,e2⟩:=gx ac 2;replace e0:=aa.k1 e0;have e3:=aa.V 1;replace r0:=aa.B 0;have r1:=aa.rb 0 e2 rfl;replace r9:=aa.z1 9;refine wp_seq ?_;refine wp_seq (xk ab [jb r0,jb r1,jz 9 r9] ⟨ao e0,cD 0 r0.ptr,bS bo bQ 1 r0.ptr,eE fun c=>⟨_,_,(bK rfl rfl kr (c.q 2)),oU v cv cs i d _ (oD (c.B 0) (c.iz 9 rfl) (fun g_ h_ hz_=>hz_.2 _ h_))⟩,aK 3,av⟩ fun a2 w2 τ2 st2 f2=> ?_);obtain ⟨e0,e2,e3⟩:=f2.k3 e0 e2 e3;have e4:=f2.V 4;replace r0:=f2.B 0;replace r1:=f2.B 1;replace r9:=f2.z1 9;refine wp_seq (eK st2 [jb r0,jb r1,jz 9 r9] ⟨ao e4,av⟩ fun a3 w3 τ3 st3 f3=> ?_);obtain ⟨e0,e2,e3⟩:=f3.k3 e0 e2 e3;have e11:=f3.V 0;replace r0:=f3.B 0;replace r1:=f3.B 1;replace r9:=f3.z1 9;refine wp_block ?_;refine wp_seq (eA st3 [jb r0,jb r1,jz 9 r9] ⟨aq fun c=>eI rfl (c.p e11) rfl,aK 0,av⟩ fun ac ag ae ab aa=> ?_);obtain ⟨e0,e2,e3,e11⟩:=aa.k4 e0 e2 e3 e11;have e12:=aa.V 1;replace r0:=aa.B 0;replace r1:=aa.B 1;replace r9:=aa.z1 9;refine wp_cond_split e12 (fun hc1=> ?_) (fun hc1=> ?_)
 · skip;refine wp_seq ?_;have hnx_:=jR (by assumption:gM (de cs i) (⟨#[94]⟩:ByteArray)=true) (by decide+kernel);refine mG [0,1,3,7,15,31,63,127,255,511] ab [jb r0,jb r1,jz 9 r9] ⟨ao e0,cD 0 r0.ptr,bS bo bQ 1 r0.ptr,bS bU aA 2 rfl,aq fun c=>aI rfl aN (c.q 3) (by rw [add_add];exact (c.ib 0 rfl).cell (j:=1) rfl),aq fun c=>cN rfl (c.q 4) rfl (by first | omega | (have h_:=jR (by assumption:gM (de cs i) (⟨#[92]⟩:ByteArray)=true) (by decide+kernel);omega)),cD 0 r0.ptr,bS bo bQ 6 r0.ptr,bS bU aA 7 rfl,cp (cx:=[cv.v,(aj (((i:Nat):Int)+1)),(aj d)]) aA fun c=>⟨c.bp 0 rfl e0,c.ad (c.q 8) e0 rfl,(c.q 5)⟩,av⟩ fun ac ag ae ab aa=> ?_;obtain ⟨e0,e2,e3,e11⟩:=aa.k4 e0 e2 e3 e11;replace r0:=aa.RB 9 e0;replace r1:=aa.B 1;replace r9:=aa.z1 9;replace r0:cH 98 [cv.v,aj ((i+1:Nat):Int),aj d] (ae 0) v ag:=by rw [show ((i+1:Nat):Int)=((i:Nat):Int)+1 from by omega];exact r0
   refine wp_seq (fX ab [jb r0,jb r1,jz 9 r9] ⟨aq fun c=>eW (cells:=#[(aj 8),(bc (⟨#[]⟩:ByteArray)),(aE false),(.slice none 0 0),(aj 0),(aj 0),(aE false),(.slice none 0 0)]) rfl aD (gB rfl rfl),cp (cx:=[(aj 8),(bc (⟨#[]⟩:ByteArray)),(aE false),(.slice none 0 0),(aj 0),(aj 0),(aE false),(.slice none 0 0)]) (off:=0) ak fun c=>⟨c.bp 1 rfl e2,c.ad ((c.p e2).trans r1.ptr) e2 rfl,(c.q 0)⟩,aq fun c=>ax rfl rfl,av⟩ fun ac ag ae ab aa=> ?_);obtain ⟨e0,e2,e11⟩:=aa.k3 e0 e2 e11;have e3:=aa.V 2;replace r0:=aa.B 0;replace r1:=aa.RB 1 e2;replace r9:=aa.z1 9;refine wp_ret ?_;refine rp ?_;refine ek (fn:=Tryz.f76) rfl ab.defers e2 e3 r1 az ak rfl ?_;exact ⟨(dQ 8 (⟨#[]⟩:ByteArray) false 0 0 false),0,i+1,rfl,ab.extIn,r0.foot,(eQ _ _ _ _ _ _ _ _),⟨by omega,by omega⟩,fun h_=>⟨rO hd.2 (by omega) (by decide),by omega⟩⟩
 skip;refine wp_seq (eA ab [jb r0,jb r1,jz 9 r9] ⟨aq fun c=>eI rfl (c.p e11) rfl,aK 0,av⟩ fun ac ag ae ab aa=> ?_);obtain ⟨e0,e2,e3,e11⟩:=aa.k4 e0 e2 e3 e11;have e24:=aa.V 1;replace r0:=aa.B 0;replace r1:=aa.B 1;replace r9:=aa.z1 9;refine wp_cond_split e24 (fun hc2=> ?_) (fun hc2=> ?_)
 · skip;refine wp_seq ?_;have hnx_:=jR (by assumption:gM (de cs i) (⟨#[36]⟩:ByteArray)=true) (by decide+kernel);refine mG [0,1,3,7,15,31,63,127,255,511] ab [jb r0,jb r1,jz 9 r9] ⟨ao e0,cD 0 r0.ptr,bS bo bQ 1 r0.ptr,bS bU aA 2 rfl,aq fun c=>aI rfl aN (c.q 3) (by rw [add_add];exact (c.ib 0 rfl).cell (j:=1) rfl),aq fun c=>cN rfl (c.q 4) rfl (by first | omega | (have h_:=jR (by assumption:gM (de cs i) (⟨#[92]⟩:ByteArray)=true) (by decide+kernel);omega)),cD 0 r0.ptr,bS bo bQ 6 r0.ptr,bS bU aA 7 rfl,cp (cx:=[cv.v,(aj (((i:Nat):Int)+1)),(aj d)]) aA fun c=>⟨c.bp 0 rfl e0,c.ad (c.q 8) e0 rfl,(c.q 5)⟩,av⟩ fun ac ag ae ab aa=> ?_;obtain ⟨e0,e2,e3,e11⟩:=aa.k4 e0 e2 e3 e11;replace r0:=aa.RB 9 e0;replace r1:=aa.B 1;replace r9:=aa.z1 9;replace r0:cH 98 [cv.v,aj ((i+1:Nat):Int),aj d] (ae 0) v ag:=by rw [show ((i+1:Nat):Int)=((i:Nat):Int)+1 from by omega];exact r0
   refine wp_seq (fX ab [jb r0,jb r1,jz 9 r9] ⟨aq fun c=>eW (cells:=#[(aj 9),(bc (⟨#[]⟩:ByteArray)),(aE false),(.slice none 0 0),(aj 0),(aj 0),(aE false),(.slice none 0 0)]) rfl aD (gB rfl rfl),cp (cx:=[(aj 9),(bc (⟨#[]⟩:ByteArray)),(aE false),(.slice none 0 0),(aj 0),(aj 0),(aE false),(.slice none 0 0)]) (off:=0) ak fun c=>⟨c.bp 1 rfl e2,c.ad ((c.p e2).trans r1.ptr) e2 rfl,(c.q 0)⟩,aq fun c=>ax rfl rfl,av⟩ fun ac ag ae ab aa=> ?_);obtain ⟨e0,e2,e11⟩:=aa.k3 e0 e2 e11;have e3:=aa.V 2;replace r0:=aa.B 0;replace r1:=aa.RB 1 e2;replace r9:=aa.z1 9;refine wp_ret ?_;refine rp ?_;refine ek (fn:=Tryz.f76) rfl ab.defers e2 e3 r1 az ak rfl ?_;exact ⟨(dQ 9 (⟨#[]⟩:ByteArray) false 0 0 false),0,i+1,rfl,ab.extIn,r0.foot,(eQ _ _ _ _ _ _ _ _),⟨by omega,by omega⟩,fun h_=>⟨rO hd.2 (by omega) (by decide),by omega⟩⟩
 skip;refine wp_seq (eA ab [jb r0,jb r1,jz 9 r9] ⟨aq fun c=>eI rfl (c.p e11) rfl,aK 0,av⟩ fun ac ag ae ab aa=> ?_);obtain ⟨e0,e2,e3⟩:=aa.k3 e0 e2 e3;have e36:=aa.V 1;replace r0:=aa.B 0;replace r1:=aa.B 1;replace r9:=aa.z1 9;refine wp_cond_split e36 (fun hc3=> ?_) (fun hc3=> ?_)
 · skip;refine wp_seq ?_;refine rg [_,_,_,_,_,_,_,_,_,_,_,_,_] [0,1,3,7,15,31,0,64,192,448,960,1984,4095] ab [jb r0,jb r1,jz 9 r9] ⟨ao e0,cD 0 r0.ptr,bS bo bQ 1 r0.ptr,bS bU aA 2 rfl,aq fun c=>aI rfl aN (c.q 3) (by rw [add_add];exact (c.ib 0 rfl).cell (j:=1) rfl),aq fun c=>cN rfl (c.q 4) rfl (by first | omega | (have h_:=jR (by assumption:gM (de cs i) (⟨#[92]⟩:ByteArray)=true) (by decide+kernel);omega)),ao e0,cD 6 r0.ptr,bS bo bQ 7 r0.ptr,bS bU cS 8 rfl,aq fun c=>aI rfl dw (c.q 9) (by rw [add_add];exact (c.ib 0 rfl).cell (j:=0) rfl),aq fun c=>dk rfl bL (c.q 10) (r9).1.sl,aq fun c=>cW rfl (c.q 5) (c.q 11),av⟩ fun ac ag ae ab aa=> ?_;obtain ⟨e0,e2,e3⟩:=aa.k3 e0 e2 e3;have e50:=aa.V 12;replace r0:=aa.B 0;replace r1:=aa.B 1;replace r9:=aa.z1 9;refine wp_cond_split e50 (fun hc4=> ?_) (fun hc4=> ?_)
   · try simp only [ai] at hc4
     refine wp_seq ?_;refine rg [_,_,_,_,_,_,_,_,_,_,_,_,_] [0,1,3,7,15,0,32,96,224,480,992,2047,4095] ab [jb r0,jb r1,jz 9 r9] ⟨ao e0,cD 0 r0.ptr,bS bo bQ 1 r0.ptr,bS bU cS 2 rfl,aq fun c=>aI rfl dw (c.q 3) (by rw [add_add];exact (c.ib 0 rfl).cell (j:=0) rfl),ao e0,cD 5 r0.ptr,bS bo bQ 6 r0.ptr,bS bU aA 7 rfl,aq fun c=>aI rfl aN (c.q 8) (by rw [add_add];exact (c.ib 0 rfl).cell (j:=1) rfl),aq fun c=>cN rfl (c.q 9) rfl (by first | omega | (have h_:=jR (by assumption:gM (de cs i) (⟨#[92]⟩:ByteArray)=true) (by decide+kernel);omega)),aq fun c=>aX rfl bL cf (c.q 4) (r9).1.sl (c.q 10) (by first | omega | (have h_:=jR (by assumption:gM (de cs i) (⟨#[92]⟩:ByteArray)=true) (by decide+kernel);omega)) (by first | omega | (have h_:=jR (by assumption:gM (de cs i) (⟨#[92]⟩:ByteArray)=true) (by decide+kernel);omega)),aq fun c=>aI rfl cJ (c.q 11) (((c.iz 9 rfl).1).elem (j:=0) (bF (i:=((i:Nat):Int)+1) (by first | omega | (have h_:=jR (by assumption:gM (de cs i) (⟨#[92]⟩:ByteArray)=true) (by decide+kernel);omega)) (by first | omega | (have h_:=jR (by assumption:gM (de cs i) (⟨#[92]⟩:ByteArray)=true) (by decide+kernel);omega))) rfl),av⟩ fun ac ag ae ab aa=> ?_;obtain ⟨e0,e2,e3⟩:=aa.k3 e0 e2 e3;have e63:=aa.V 12;replace r0:=aa.B 0;replace r1:=aa.B 1;replace r9:=aa.z1 9;refine wp_block ?_;refine wp_seq (eA ab [jb r0,jb r1,jz 9 r9] ⟨aq fun c=>eI rfl (c.p e63) rfl,aK 0,av⟩ fun ac ag ae ab aa=> ?_);obtain ⟨e0,e2,e3,e63⟩:=aa.k4 e0 e2 e3 e63;have e64:=aa.V 1;replace r0:=aa.B 0;replace r1:=aa.B 1;replace r9:=aa.z1 9;refine wp_cond_split e64 (fun hc5=> ?_) (fun hc5=> ?_)
     · skip;refine wp_seq ?_;refine mG [0,1,3,7,15,31,63,127,255,511] ab [jb r0,jb r1,jz 9 r9] ⟨ao e0,cD 0 r0.ptr,bS bo bQ 1 r0.ptr,bS bU aA 2 rfl,aq fun c=>aI rfl aN (c.q 3) (by rw [add_add];exact (c.ib 0 rfl).cell (j:=1) rfl),aq fun c=>cN rfl (c.q 4) rfl (by first | omega | (have h_:=jR (by assumption:gM (de cs i) (⟨#[92]⟩:ByteArray)=true) (by decide+kernel);omega)),cD 0 r0.ptr,bS bo bQ 6 r0.ptr,bS bU aA 7 rfl,cp (cx:=[cv.v,(aj (((i:Nat):Int)+2)),(aj d)]) aA fun c=>⟨c.bp 0 rfl e0,c.ad (c.q 8) e0 rfl,(c.q 5)⟩,av⟩ fun ac ag ae ab aa=> ?_;obtain ⟨e0,e2,e3,e63⟩:=aa.k4 e0 e2 e3 e63;replace r0:=aa.RB 9 e0;replace r1:=aa.B 1;replace r9:=aa.z1 9;replace r0:cH 98 [cv.v,aj ((i+2:Nat):Int),aj d] (ae 0) v ag:=by rw [show ((i+2:Nat):Int)=((i:Nat):Int)+2 from by omega];exact r0
       refine wp_seq (fX ab [jb r0,jb r1,jz 9 r9] ⟨aq fun c=>eW (cells:=#[(aj 10),(bc (⟨#[]⟩:ByteArray)),(aE false),(.slice none 0 0),(aj 0),(aj 0),(aE false),(.slice none 0 0)]) rfl aD (gB rfl rfl),cp (cx:=[(aj 10),(bc (⟨#[]⟩:ByteArray)),(aE false),(.slice none 0 0),(aj 0),(aj 0),(aE false),(.slice none 0 0)]) (off:=0) ak fun c=>⟨c.bp 1 rfl e2,c.ad ((c.p e2).trans r1.ptr) e2 rfl,(c.q 0)⟩,aq fun c=>ax rfl rfl,av⟩ fun ac ag ae ab aa=> ?_);obtain ⟨e0,e2,e63⟩:=aa.k3 e0 e2 e63;have e3:=aa.V 2;replace r0:=aa.B 0;replace r1:=aa.RB 1 e2;replace r9:=aa.z1 9;refine wp_ret ?_;refine rp ?_;refine ek (fn:=Tryz.f76) rfl ab.defers e2 e3 r1 az ak rfl ?_;exact ⟨(dQ 10 (⟨#[]⟩:ByteArray) false 0 0 false),0,i+2,rfl,ab.extIn,r0.foot,(eQ _ _ _ _ _ _ _ _),⟨by omega,by omega⟩,fun h_=>⟨rO hd.2 (by omega) (by decide),by omega⟩⟩
     skip;refine wp_seq (eA ab [jb r0,jb r1,jz 9 r9] ⟨aq fun c=>eI rfl (c.p e63) rfl,aK 0,av⟩ fun ac ag ae ab aa=> ?_);obtain ⟨e0,e2,e3⟩:=aa.k3 e0 e2 e3;have e76:=aa.V 1;replace r0:=aa.B 0;replace r1:=aa.B 1;replace r9:=aa.z1 9;refine wp_cond_split e76 (fun hc6=> ?_) (fun hc6=> ?_)
     · skip;refine wp_seq ?_;refine mG [0,1,3,7,15,31,63,127,255,511] ab [jb r0,jb r1,jz 9 r9] ⟨ao e0,cD 0 r0.ptr,bS bo bQ 1 r0.ptr,bS bU aA 2 rfl,aq fun c=>aI rfl aN (c.q 3) (by rw [add_add];exact (c.ib 0 rfl).cell (j:=1) rfl),aq fun c=>cN rfl (c.q 4) rfl (by first | omega | (have h_:=jR (by assumption:gM (de cs i) (⟨#[92]⟩:ByteArray)=true) (by decide+kernel);omega)),cD 0 r0.ptr,bS bo bQ 6 r0.ptr,bS bU aA 7 rfl,cp (cx:=[cv.v,(aj (((i:Nat):Int)+2)),(aj d)]) aA fun c=>⟨c.bp 0 rfl e0,c.ad (c.q 8) e0 rfl,(c.q 5)⟩,av⟩ fun ac ag ae ab aa=> ?_;obtain ⟨e0,e2,e3⟩:=aa.k3 e0 e2 e3;replace r0:=aa.RB 9 e0;replace r1:=aa.B 1;replace r9:=aa.z1 9;replace r0:cH 98 [cv.v,aj ((i+2:Nat):Int),aj d] (ae 0) v ag:=by rw [show ((i+2:Nat):Int)=((i:Nat):Int)+2 from by omega];exact r0
       refine wp_seq (fX ab [jb r0,jb r1,jz 9 r9] ⟨aq fun c=>eW (cells:=#[(aj 11),(bc (⟨#[]⟩:ByteArray)),(aE false),(.slice none 0 0),(aj 0),(aj 0),(aE false),(.slice none 0 0)]) rfl aD (gB rfl rfl),cp (cx:=[(aj 11),(bc (⟨#[]⟩:ByteArray)),(aE false),(.slice none 0 0),(aj 0),(aj 0),(aE false),(.slice none 0 0)]) (off:=0) ak fun c=>⟨c.bp 1 rfl e2,c.ad ((c.p e2).trans r1.ptr) e2 rfl,(c.q 0)⟩,aq fun c=>ax rfl rfl,av⟩ fun ac ag ae ab aa=> ?_);obtain ⟨e0,e2⟩:=aa.k2 e0 e2;have e3:=aa.V 2;replace r0:=aa.B 0;replace r1:=aa.RB 1 e2;replace r9:=aa.z1 9;refine wp_ret ?_;refine rp ?_;refine ek (fn:=Tryz.f76) rfl ab.defers e2 e3 r1 az ak rfl ?_;exact ⟨(dQ 11 (⟨#[]⟩:ByteArray) false 0 0 false),0,i+2,rfl,ab.extIn,r0.foot,(eQ _ _ _ _ _ _ _ _),⟨by omega,by omega⟩,fun h_=>⟨rO hd.2 (by omega) (by decide),by omega⟩⟩
     skip;refine wp_skip ?_;show _;show _;refine wp_seq ?_;refine aY ?_;refine bV 2 (by kernel_rfl) ?_;refine og [_,mi 98 _ 0 90 v (fun b:Tr × Int × Nat=> [cv.v,aj ((b.2.2:Nat):Int),aj d]) (fun b:Tr × Int × Nat=> .tuple #[b.1.v,aj b.2.1]) (fun b:Tr × Int × Nat=>(i≤b.2.2∧b.2.2≤cs.length)∧(b.2.1=0→(fU (er b.1) (((b.2.2:Nat):Int) - ((i:Nat):Int)) d∧((i:Nat):Int) < ((b.2.2:Nat):Int)))) (fun b:Tr × Int × Nat=>gT (Gn aW w) b.1)] [0,1] ab [jb r0,jb r1,jz 9 r9] ⟨ao e0,ku (cells:=fun b:Tr × Int × Nat=> [cv.v,aj ((b.2.2:Nat):Int),aj d]) (f:=fun b:Tr × Int × Nat=> .tuple #[b.1.v,aj b.2.1]) (Ψ:=fun b:Tr × Int × Nat=>(i≤b.2.2∧b.2.2≤cs.length)∧(b.2.1=0→(fU (er b.1) (((b.2.2:Nat):Int) - ((i:Nat):Int)) d∧((i:Nat):Int) < ((b.2.2:Nat):Int)))) (Φ:=fun b:Tr × Int × Nat=>gT (Gn aW w) b.1) fun {_ a_ _ _} c=>⟨_,_,(bK rfl rfl Tryz.call97 (c.q 0)),(wN v cv cs i d _ (oD (c.B 0) (c.iz 9 rfl) (fun g_ h_ hz_=>hz_.2 _ h_)) hL (by first | omega | (have h_:=jR (by assumption:gM (de cs i) (⟨#[92]⟩:ByteArray)=true) (by decide+kernel);omega)) hd (fun d2_ j_ w2_ hR_ hij_ hjl_ hd_=>hsub d2_ j_ w2_ hR_ (by omega) hjl_ hd_)).mono (fun e w' ⟨h0_,h1_,h2_,he_,hx_,hb_,ht_,hp_⟩=>⟨⟨h0_,h1_,h2_⟩,he_,(c.ib 0 rfl).ext hx_,hb_.back (c.ib 0 rfl),hp_,c.tns ab hx_.size ht_⟩)⟩,av⟩ fun ac ag ae ab aa=> ?_;obtain ⟨e0,e2,e3⟩:=aa.k3 e0 e2 e3;obtain ⟨⟨t1_,er1_,j1_⟩,e90,hro19,hq1_,hz19⟩:=aa.zb 1 rfl;have e90:be ac 90=(.tuple #[(ta t1_),(aj er1_)]):=e90;have hq1_:(i≤j1_∧j1_≤cs.length)∧(er1_=0→(fU (er t1_) (((j1_:Nat):Int) - ((i:Nat):Int)) d∧((i:Nat):Int) < ((j1_:Nat):Int))):=hq1_;obtain ⟨hj1_,hp1_⟩:=hq1_;replace r0:cH 98 [cv.v,(aj ((j1_:Nat):Int)),(aj d)] (ae 0) v ag:=hro19;replace r1:=aa.B 1;replace r9:=aa.z1 9;have r2:=hz19;refine bW ?_;refine og [_,_,_,box _ _ 3 5 [(aj 0),(bc (⟨#[]⟩:ByteArray)),(aE false),(.slice none 0 0),(aj 0),(aj 0),(aE false),(.slice none 0 0)],_,_] [0,1,3,7,15,31] ab [jb r0,jb r1,jz 2 r2,jz 9 r9] ⟨ao e90,bR 0,bR 0,bO rfl rfl rfl rfl aD rfl,ey (cx:=(tc t1_)) (off:=0) rfl ak fun c=>⟨c.rb 3 rfl,(c.rb 3 rfl).ptr,(c.q 1)⟩,aK 2,av⟩ fun ac ag ae ab aa=> ?_;obtain ⟨b20x5,e5⟩:=gx ac 5;obtain ⟨e0,e2,e3⟩:=aa.k3 e0 e2 e3;have e6:=aa.V 5;replace r0:=aa.B 0;replace r1:=aa.B 1;replace r2:=aa.z1 2;have r3:=aa.rb 4 e5 rfl;replace r9:=aa.z1 9;refine wp_seq ?_;refine wp_seq (eA ab [jb r0,jb r1,jz 2 r2,jb r3,jz 9 r9] ⟨ao e6,aq fun c=>fh rfl (c.q 0) rfl,av⟩ fun ac ag ae ab aa=> ?_);obtain ⟨e0,e2,e3,e5,e6⟩:=aa.k5 e0 e2 e3 e5 e6;have e94:=aa.V 1;replace r0:=aa.B 0;replace r1:=aa.B 1;obtain ⟨r2,r9⟩:=aa.z2 2 9;replace r3:=aa.B 3;refine wp_cond_split e94 (fun hc7=> ?_) (fun hc7=> ?_)
     · try simp only [ar,am,ai,ah] at hc7
       refine wp_seq (lr [0,0,1,7] ab [jb r0,jb r1,jz 2 r2,jb r3,jz 9 r9] ⟨aq fun c=>dY rfl az ak ((c.p e5).trans r3.ptr) (c.B 3),ao e6,cp (cx:=(tc t1_)) (off:=0) ak fun c=>⟨c.bp 1 rfl e2,c.ad ((c.p e2).trans r1.ptr) e2 rfl,(c.q 0)⟩,aK 1,av⟩ fun ac ag ae ab aa=> ?_);obtain ⟨e0,e2,e5⟩:=aa.k3 e0 e2 e5;have e3:=aa.V 3;replace r0:=aa.B 0;replace r1:=aa.RB 2 e2;obtain ⟨r2,r9⟩:=aa.z2 2 9;replace r3:=aa.B 3;refine wp_ret ?_;refine rp ?_;refine ek (fn:=Tryz.f76) rfl ab.defers e2 e3 r1 az ak rfl ?_;exact ⟨t1_,er1_,j1_,rfl,ab.extIn,r0.foot,r2.out,⟨by omega,by omega⟩,fun h_=>(by first | exact absurd h_ (by assumption) | exact ⟨(hp1_ h_).less (by omega),by omega⟩)⟩
     try simp only [ar,am,ai,ah] at hc7
     refine wp_skip ?_;refine wp_seq ?_;have hqe_:=hp1_ (by omega);refine aY ?_;refine bV 3 (by kernel_rfl) ?_;refine og [_,_,mi 98 _ 0 99 v (fun b:Tr × Int × Nat=> [cv.v,aj ((b.2.2:Nat):Int),aj d]) (fun b:Tr × Int × Nat=> .tuple #[b.1.v,aj b.2.1]) (fun b:Tr × Int × Nat=>(j1_≤b.2.2∧b.2.2≤cs.length)∧(b.2.1=0→TermOk (er b.1) (((j1_:Nat):Int) - ((i:Nat):Int)+(((b.2.2:Nat):Int) - ((j1_:Nat):Int))) d)) (fun b:Tr × Int × Nat=>gT (Gn aW w) b.1)] [0,0,3] ab [jb r0,jb r1,jz 2 r2,jb r3,jz 9 r9] ⟨ao e0,aq fun c=>dY rfl az ak ((c.p e5).trans r3.ptr) (c.B 3),ku (cells:=fun b:Tr × Int × Nat=> [cv.v,aj ((b.2.2:Nat):Int),aj d]) (f:=fun b:Tr × Int × Nat=> .tuple #[b.1.v,aj b.2.1]) (Ψ:=fun b:Tr × Int × Nat=>(j1_≤b.2.2∧b.2.2≤cs.length)∧(b.2.1=0→TermOk (er b.1) (((j1_:Nat):Int) - ((i:Nat):Int)+(((b.2.2:Nat):Int) - ((j1_:Nat):Int))) d)) (Φ:=fun b:Tr × Int × Nat=>gT (Gn aW w) b.1) fun {_ a_ _ _} c=>⟨_,_,(ck rfl rfl Tryz.call98 (c.q 0) (c.q 1)),(uz _ v cv cs j1_ d t1_ (((j1_:Nat):Int) - ((i:Nat):Int)) _ (oD (c.B 0) (c.iz 9 rfl) (fun g_ h_ hz_=>hz_.2 _ h_)) hL (by first | omega | (have h_:=jR (by assumption:gM (de cs i) (⟨#[92]⟩:ByteArray)=true) (by decide+kernel);omega)) (c.iz 2 rfl) (fun g_ h_ hp_=>h_.1.2 _ ((c.ib 0 rfl).own hp_)) hd hqe_.1 (by omega)).mono (fun e w' ⟨h0_,h1_,h2_,he_,hx_,hb_,ht_,hp_⟩=>⟨⟨h0_,h1_,h2_⟩,he_,(c.ib 0 rfl).ext hx_,hb_.back (c.ib 0 rfl),hp_,c.tzs ab hx_.size ht_⟩)⟩,av⟩ fun ac ag ae ab aa=> ?_;obtain ⟨e0,e2,e3⟩:=aa.k3 e0 e2 e3;obtain ⟨⟨t2_,er2_,j2_⟩,e99,hro23,hq2_,hz23⟩:=aa.zb 2 rfl;have e99:be ac 99=(.tuple #[(ta t2_),(aj er2_)]):=e99;have hq2_:(j1_≤j2_∧j2_≤cs.length)∧(er2_=0→TermOk (er t2_) (((j1_:Nat):Int) - ((i:Nat):Int)+(((j2_:Nat):Int) - ((j1_:Nat):Int))) d):=hq2_;obtain ⟨hj2_,hp2_⟩:=hq2_;replace r0:cH 98 [cv.v,(aj ((j2_:Nat):Int)),(aj d)] (ae 0) v ag:=hro23;replace r1:=aa.B 1;obtain ⟨r2,r9⟩:=aa.z2 2 9;have r3:=hz23;refine bW ?_;refine og [_,_,_,_] [0,1,3,7] ab [jb r0,jb r1,jz 2 r2,jz 3 r3,jz 9 r9] ⟨jG e99,jG e99,cp (cx:=(tc t2_)) (off:=0) ak fun c=>⟨c.bp 1 rfl e2,c.ad ((c.p e2).trans r1.ptr) e2 rfl,(c.q 0)⟩,aK 1,av⟩ fun ac ag ae ab aa=> ?_;obtain ⟨e0,e2⟩:=aa.k2 e0 e2;have e3:=aa.V 3;replace r0:=aa.B 0;replace r1:=aa.RB 2 e2;obtain ⟨r2,r3,r9⟩:=aa.z3 2 3 9;refine wp_ret ?_;refine rp ?_;refine ek (fn:=Tryz.f76) rfl ab.defers e2 e3 r1 az ak rfl ?_;exact ⟨t2_,er2_,j2_,rfl,ab.extIn,r0.foot,r3.out,⟨by omega,by omega⟩,fun h_=>(by first | exact absurd h_ (by assumption) | exact ⟨(hp2_ h_).less (by omega),by omega⟩)⟩
   try simp only [ah,aV] at hc4
   refine wp_skip ?_;show _;refine wp_seq ?_;refine aY ?_;refine bV 2 (by kernel_rfl) ?_;refine og [_,mi 98 _ 0 90 v (fun b:Tr × Int × Nat=> [cv.v,aj ((b.2.2:Nat):Int),aj d]) (fun b:Tr × Int × Nat=> .tuple #[b.1.v,aj b.2.1]) (fun b:Tr × Int × Nat=>(i≤b.2.2∧b.2.2≤cs.length)∧(b.2.1=0→(fU (er b.1) (((b.2.2:Nat):Int) - ((i:Nat):Int)) d∧((i:Nat):Int) < ((b.2.2:Nat):Int)))) (fun b:Tr × Int × Nat=>gT (Gn aW w) b.1)] [0,1] ab [jb r0,jb r1,jz 9 r9] ⟨ao e0,ku (cells:=fun b:Tr × Int × Nat=> [cv.v,aj ((b.2.2:Nat):Int),aj d]) (f:=fun b:Tr × Int × Nat=> .tuple #[b.1.v,aj b.2.1]) (Ψ:=fun b:Tr × Int × Nat=>(i≤b.2.2∧b.2.2≤cs.length)∧(b.2.1=0→(fU (er b.1) (((b.2.2:Nat):Int) - ((i:Nat):Int)) d∧((i:Nat):Int) < ((b.2.2:Nat):Int)))) (Φ:=fun b:Tr × Int × Nat=>gT (Gn aW w) b.1) fun {_ a_ _ _} c=>⟨_,_,(bK rfl rfl Tryz.call97 (c.q 0)),(wN v cv cs i d _ (oD (c.B 0) (c.iz 9 rfl) (fun g_ h_ hz_=>hz_.2 _ h_)) hL (by first | omega | (have h_:=jR (by assumption:gM (de cs i) (⟨#[92]⟩:ByteArray)=true) (by decide+kernel);omega)) hd (fun d2_ j_ w2_ hR_ hij_ hjl_ hd_=>hsub d2_ j_ w2_ hR_ (by omega) hjl_ hd_)).mono (fun e w' ⟨h0_,h1_,h2_,he_,hx_,hb_,ht_,hp_⟩=>⟨⟨h0_,h1_,h2_⟩,he_,(c.ib 0 rfl).ext hx_,hb_.back (c.ib 0 rfl),hp_,c.tns ab hx_.size ht_⟩)⟩,av⟩ fun ac ag ae ab aa=> ?_;obtain ⟨e0,e2,e3⟩:=aa.k3 e0 e2 e3;obtain ⟨⟨t3_,er3_,j3_⟩,e90,hro25,hq3_,hz25⟩:=aa.zb 1 rfl;have e90:be ac 90=(.tuple #[(ta t3_),(aj er3_)]):=e90;have hq3_:(i≤j3_∧j3_≤cs.length)∧(er3_=0→(fU (er t3_) (((j3_:Nat):Int) - ((i:Nat):Int)) d∧((i:Nat):Int) < ((j3_:Nat):Int))):=hq3_;obtain ⟨hj3_,hp3_⟩:=hq3_;replace r0:cH 98 [cv.v,(aj ((j3_:Nat):Int)),(aj d)] (ae 0) v ag:=hro25;replace r1:=aa.B 1;replace r9:=aa.z1 9;have r2:=hz25;refine bW ?_;refine og [_,_,_,box _ _ 3 5 [(aj 0),(bc (⟨#[]⟩:ByteArray)),(aE false),(.slice none 0 0),(aj 0),(aj 0),(aE false),(.slice none 0 0)],_,_] [0,1,3,7,15,31] ab [jb r0,jb r1,jz 2 r2,jz 9 r9] ⟨ao e90,bR 0,bR 0,bO rfl rfl rfl rfl aD rfl,ey (cx:=(tc t3_)) (off:=0) rfl ak fun c=>⟨c.rb 3 rfl,(c.rb 3 rfl).ptr,(c.q 1)⟩,aK 2,av⟩ fun ac ag ae ab aa=> ?_;obtain ⟨b26x5,e5⟩:=gx ac 5;obtain ⟨e0,e2,e3⟩:=aa.k3 e0 e2 e3;have e6:=aa.V 5;replace r0:=aa.B 0;replace r1:=aa.B 1;replace r2:=aa.z1 2;have r3:=aa.rb 4 e5 rfl;replace r9:=aa.z1 9;refine wp_seq ?_;refine wp_seq (eA ab [jb r0,jb r1,jz 2 r2,jb r3,jz 9 r9] ⟨ao e6,aq fun c=>fh rfl (c.q 0) rfl,av⟩ fun ac ag ae ab aa=> ?_);obtain ⟨e0,e2,e3,e5,e6⟩:=aa.k5 e0 e2 e3 e5 e6;have e94:=aa.V 1;replace r0:=aa.B 0;replace r1:=aa.B 1;obtain ⟨r2,r9⟩:=aa.z2 2 9;replace r3:=aa.B 3;refine wp_cond_split e94 (fun hc8=> ?_) (fun hc8=> ?_)
   · try simp only [ar,am,ai,ah] at hc8
     refine wp_seq (lr [0,0,1,7] ab [jb r0,jb r1,jz 2 r2,jb r3,jz 9 r9] ⟨aq fun c=>dY rfl az ak ((c.p e5).trans r3.ptr) (c.B 3),ao e6,cp (cx:=(tc t3_)) (off:=0) ak fun c=>⟨c.bp 1 rfl e2,c.ad ((c.p e2).trans r1.ptr) e2 rfl,(c.q 0)⟩,aK 1,av⟩ fun ac ag ae ab aa=> ?_);obtain ⟨e0,e2,e5⟩:=aa.k3 e0 e2 e5;have e3:=aa.V 3;replace r0:=aa.B 0;replace r1:=aa.RB 2 e2;obtain ⟨r2,r9⟩:=aa.z2 2 9;replace r3:=aa.B 3;refine wp_ret ?_;refine rp ?_;refine ek (fn:=Tryz.f76) rfl ab.defers e2 e3 r1 az ak rfl ?_;exact ⟨t3_,er3_,j3_,rfl,ab.extIn,r0.foot,r2.out,⟨by omega,by omega⟩,fun h_=>(by first | exact absurd h_ (by assumption) | exact ⟨(hp3_ h_).less (by omega),by omega⟩)⟩
   try simp only [ar,am,ai,ah] at hc8
   refine wp_skip ?_;refine wp_seq ?_;have hqe_:=hp3_ (by omega);refine aY ?_;refine bV 3 (by kernel_rfl) ?_;refine og [_,_,mi 98 _ 0 99 v (fun b:Tr × Int × Nat=> [cv.v,aj ((b.2.2:Nat):Int),aj d]) (fun b:Tr × Int × Nat=> .tuple #[b.1.v,aj b.2.1]) (fun b:Tr × Int × Nat=>(j3_≤b.2.2∧b.2.2≤cs.length)∧(b.2.1=0→TermOk (er b.1) (((j3_:Nat):Int) - ((i:Nat):Int)+(((b.2.2:Nat):Int) - ((j3_:Nat):Int))) d)) (fun b:Tr × Int × Nat=>gT (Gn aW w) b.1)] [0,0,3] ab [jb r0,jb r1,jz 2 r2,jb r3,jz 9 r9] ⟨ao e0,aq fun c=>dY rfl az ak ((c.p e5).trans r3.ptr) (c.B 3),ku (cells:=fun b:Tr × Int × Nat=> [cv.v,aj ((b.2.2:Nat):Int),aj d]) (f:=fun b:Tr × Int × Nat=> .tuple #[b.1.v,aj b.2.1]) (Ψ:=fun b:Tr × Int × Nat=>(j3_≤b.2.2∧b.2.2≤cs.length)∧(b.2.1=0→TermOk (er b.1) (((j3_:Nat):Int) - ((i:Nat):Int)+(((b.2.2:Nat):Int) - ((j3_:Nat):Int))) d)) (Φ:=fun b:Tr × Int × Nat=>gT (Gn aW w) b.1) fun {_ a_ _ _} c=>⟨_,_,(ck rfl rfl Tryz.call98 (c.q 0) (c.q 1)),(uz _ v cv cs j3_ d t3_ (((j3_:Nat):Int) - ((i:Nat):Int)) _ (oD (c.B 0) (c.iz 9 rfl) (fun g_ h_ hz_=>hz_.2 _ h_)) hL (by first | omega | (have h_:=jR (by assumption:gM (de cs i) (⟨#[92]⟩:ByteArray)=true) (by decide+kernel);omega)) (c.iz 2 rfl) (fun g_ h_ hp_=>h_.1.2 _ ((c.ib 0 rfl).own hp_)) hd hqe_.1 (by omega)).mono (fun e w' ⟨h0_,h1_,h2_,he_,hx_,hb_,ht_,hp_⟩=>⟨⟨h0_,h1_,h2_⟩,he_,(c.ib 0 rfl).ext hx_,hb_.back (c.ib 0 rfl),hp_,c.tzs ab hx_.size ht_⟩)⟩,av⟩ fun ac ag ae ab aa=> ?_;obtain ⟨e0,e2,e3⟩:=aa.k3 e0 e2 e3;obtain ⟨⟨t4_,er4_,j4_⟩,e99,hro29,hq4_,hz29⟩:=aa.zb 2 rfl;have e99:be ac 99=(.tuple #[(ta t4_),(aj er4_)]):=e99;have hq4_:(j3_≤j4_∧j4_≤cs.length)∧(er4_=0→TermOk (er t4_) (((j3_:Nat):Int) - ((i:Nat):Int)+(((j4_:Nat):Int) - ((j3_:Nat):Int))) d):=hq4_;obtain ⟨hj4_,hp4_⟩:=hq4_;replace r0:cH 98 [cv.v,(aj ((j4_:Nat):Int)),(aj d)] (ae 0) v ag:=hro29;replace r1:=aa.B 1;obtain ⟨r2,r9⟩:=aa.z2 2 9;have r3:=hz29;refine bW ?_;refine og [_,_,_,_] [0,1,3,7] ab [jb r0,jb r1,jz 2 r2,jz 3 r3,jz 9 r9] ⟨jG e99,jG e99,cp (cx:=(tc t4_)) (off:=0) ak fun c=>⟨c.bp 1 rfl e2,c.ad ((c.p e2).trans r1.ptr) e2 rfl,(c.q 0)⟩,aK 1,av⟩ fun ac ag ae ab aa=> ?_;obtain ⟨e0,e2⟩:=aa.k2 e0 e2;have e3:=aa.V 3;replace r0:=aa.B 0;replace r1:=aa.RB 2 e2;obtain ⟨r2,r3,r9⟩:=aa.z3 2 3 9;refine wp_ret ?_;refine rp ?_;refine ek (fn:=Tryz.f76) rfl ab.defers e2 e3 r1 az ak rfl ?_;exact ⟨t4_,er4_,j4_,rfl,ab.extIn,r0.foot,r3.out,⟨by omega,by omega⟩,fun h_=>(by first | exact absurd h_ (by assumption) | exact ⟨(hp4_ h_).less (by omega),by omega⟩)⟩
 skip;refine wp_skip ?_;show _;refine wp_seq ?_;refine aY ?_;refine bV 2 (by kernel_rfl) ?_;refine og [_,mi 98 _ 0 90 v (fun b:Tr × Int × Nat=> [cv.v,aj ((b.2.2:Nat):Int),aj d]) (fun b:Tr × Int × Nat=> .tuple #[b.1.v,aj b.2.1]) (fun b:Tr × Int × Nat=>(i≤b.2.2∧b.2.2≤cs.length)∧(b.2.1=0→(fU (er b.1) (((b.2.2:Nat):Int) - ((i:Nat):Int)) d∧((i:Nat):Int) < ((b.2.2:Nat):Int)))) (fun b:Tr × Int × Nat=>gT (Gn aW w) b.1)] [0,1] ab [jb r0,jb r1,jz 9 r9] ⟨ao e0,ku (cells:=fun b:Tr × Int × Nat=> [cv.v,aj ((b.2.2:Nat):Int),aj d]) (f:=fun b:Tr × Int × Nat=> .tuple #[b.1.v,aj b.2.1]) (Ψ:=fun b:Tr × Int × Nat=>(i≤b.2.2∧b.2.2≤cs.length)∧(b.2.1=0→(fU (er b.1) (((b.2.2:Nat):Int) - ((i:Nat):Int)) d∧((i:Nat):Int) < ((b.2.2:Nat):Int)))) (Φ:=fun b:Tr × Int × Nat=>gT (Gn aW w) b.1) fun {_ a_ _ _} c=>⟨_,_,(bK rfl rfl Tryz.call97 (c.q 0)),(wN v cv cs i d _ (oD (c.B 0) (c.iz 9 rfl) (fun g_ h_ hz_=>hz_.2 _ h_)) hL (by first | omega | (have h_:=jR (by assumption:gM (de cs i) (⟨#[92]⟩:ByteArray)=true) (by decide+kernel);omega)) hd (fun d2_ j_ w2_ hR_ hij_ hjl_ hd_=>hsub d2_ j_ w2_ hR_ (by omega) hjl_ hd_)).mono (fun e w' ⟨h0_,h1_,h2_,he_,hx_,hb_,ht_,hp_⟩=>⟨⟨h0_,h1_,h2_⟩,he_,(c.ib 0 rfl).ext hx_,hb_.back (c.ib 0 rfl),hp_,c.tns ab hx_.size ht_⟩)⟩,av⟩ fun ac ag ae ab aa=> ?_;obtain ⟨e0,e2,e3⟩:=aa.k3 e0 e2 e3;obtain ⟨⟨t5_,er5_,j5_⟩,e90,hro31,hq5_,hz31⟩:=aa.zb 1 rfl;have e90:be ac 90=(.tuple #[(ta t5_),(aj er5_)]):=e90;have hq5_:(i≤j5_∧j5_≤cs.length)∧(er5_=0→(fU (er t5_) (((j5_:Nat):Int) - ((i:Nat):Int)) d∧((i:Nat):Int) < ((j5_:Nat):Int))):=hq5_;obtain ⟨hj5_,hp5_⟩:=hq5_;replace r0:cH 98 [cv.v,(aj ((j5_:Nat):Int)),(aj d)] (ae 0) v ag:=hro31;replace r1:=aa.B 1;replace r9:=aa.z1 9;have r2:=hz31;refine bW ?_;refine og [_,_,_,box _ _ 3 5 [(aj 0),(bc (⟨#[]⟩:ByteArray)),(aE false),(.slice none 0 0),(aj 0),(aj 0),(aE false),(.slice none 0 0)],_,_] [0,1,3,7,15,31] ab [jb r0,jb r1,jz 2 r2,jz 9 r9] ⟨ao e90,bR 0,bR 0,bO rfl rfl rfl rfl aD rfl,ey (cx:=(tc t5_)) (off:=0) rfl ak fun c=>⟨c.rb 3 rfl,(c.rb 3 rfl).ptr,(c.q 1)⟩,aK 2,av⟩ fun ac ag ae ab aa=> ?_;obtain ⟨b32x5,e5⟩:=gx ac 5;obtain ⟨e0,e2,e3⟩:=aa.k3 e0 e2 e3;have e6:=aa.V 5;replace r0:=aa.B 0;replace r1:=aa.B 1;replace r2:=aa.z1 2;have r3:=aa.rb 4 e5 rfl;replace r9:=aa.z1 9;refine wp_seq ?_;refine wp_seq (eA ab [jb r0,jb r1,jz 2 r2,jb r3,jz 9 r9] ⟨ao e6,aq fun c=>fh rfl (c.q 0) rfl,av⟩ fun ac ag ae ab aa=> ?_);obtain ⟨e0,e2,e3,e5,e6⟩:=aa.k5 e0 e2 e3 e5 e6;have e94:=aa.V 1;replace r0:=aa.B 0;replace r1:=aa.B 1;obtain ⟨r2,r9⟩:=aa.z2 2 9;replace r3:=aa.B 3;refine wp_cond_split e94 (fun hc9=> ?_) (fun hc9=> ?_)
 · try simp only [ar,am,ai,ah] at hc9
   refine wp_seq (lr [0,0,1,7] ab [jb r0,jb r1,jz 2 r2,jb r3,jz 9 r9] ⟨aq fun c=>dY rfl az ak ((c.p e5).trans r3.ptr) (c.B 3),ao e6,cp (cx:=(tc t5_)) (off:=0) ak fun c=>⟨c.bp 1 rfl e2,c.ad ((c.p e2).trans r1.ptr) e2 rfl,(c.q 0)⟩,aK 1,av⟩ fun ac ag ae ab aa=> ?_);obtain ⟨e0,e2,e5⟩:=aa.k3 e0 e2 e5;have e3:=aa.V 3;replace r0:=aa.B 0;replace r1:=aa.RB 2 e2;obtain ⟨r2,r9⟩:=aa.z2 2 9;replace r3:=aa.B 3;refine wp_ret ?_;refine rp ?_;refine ek (fn:=Tryz.f76) rfl ab.defers e2 e3 r1 az ak rfl ?_;exact ⟨t5_,er5_,j5_,rfl,ab.extIn,r0.foot,r2.out,⟨by omega,by omega⟩,fun h_=>(by first | exact absurd h_ (by assumption) | exact ⟨(hp5_ h_).less (by omega),by omega⟩)⟩
 try simp only [ar,am,ai,ah] at hc9
 refine wp_skip ?_;refine wp_seq ?_;have hqe_:=hp5_ (by omega);refine aY ?_;refine bV 3 (by kernel_rfl) ?_;refine og [_,_,mi 98 _ 0 99 v (fun b:Tr × Int × Nat=> [cv.v,aj ((b.2.2:Nat):Int),aj d]) (fun b:Tr × Int × Nat=> .tuple #[b.1.v,aj b.2.1]) (fun b:Tr × Int × Nat=>(j5_≤b.2.2∧b.2.2≤cs.length)∧(b.2.1=0→TermOk (er b.1) (((j5_:Nat):Int) - ((i:Nat):Int)+(((b.2.2:Nat):Int) - ((j5_:Nat):Int))) d)) (fun b:Tr × Int × Nat=>gT (Gn aW w) b.1)] [0,0,3] ab [jb r0,jb r1,jz 2 r2,jb r3,jz 9 r9] ⟨ao e0,aq fun c=>dY rfl az ak ((c.p e5).trans r3.ptr) (c.B 3),ku (cells:=fun b:Tr × Int × Nat=> [cv.v,aj ((b.2.2:Nat):Int),aj d]) (f:=fun b:Tr × Int × Nat=> .tuple #[b.1.v,aj b.2.1]) (Ψ:=fun b:Tr × Int × Nat=>(j5_≤b.2.2∧b.2.2≤cs.length)∧(b.2.1=0→TermOk (er b.1) (((j5_:Nat):Int) - ((i:Nat):Int)+(((b.2.2:Nat):Int) - ((j5_:Nat):Int))) d)) (Φ:=fun b:Tr × Int × Nat=>gT (Gn aW w) b.1) fun {_ a_ _ _} c=>⟨_,_,(ck rfl rfl Tryz.call98 (c.q 0) (c.q 1)),(uz _ v cv cs j5_ d t5_ (((j5_:Nat):Int) - ((i:Nat):Int)) _ (oD (c.B 0) (c.iz 9 rfl) (fun g_ h_ hz_=>hz_.2 _ h_)) hL (by first | omega | (have h_:=jR (by assumption:gM (de cs i) (⟨#[92]⟩:ByteArray)=true) (by decide+kernel);omega)) (c.iz 2 rfl) (fun g_ h_ hp_=>h_.1.2 _ ((c.ib 0 rfl).own hp_)) hd hqe_.1 (by omega)).mono (fun e w' ⟨h0_,h1_,h2_,he_,hx_,hb_,ht_,hp_⟩=>⟨⟨h0_,h1_,h2_⟩,he_,(c.ib 0 rfl).ext hx_,hb_.back (c.ib 0 rfl),hp_,c.tzs ab hx_.size ht_⟩)⟩,av⟩ fun ac ag ae ab aa=> ?_;obtain ⟨e0,e2,e3⟩:=aa.k3 e0 e2 e3;obtain ⟨⟨t6_,er6_,j6_⟩,e99,hro35,hq6_,hz35⟩:=aa.zb 2 rfl;have e99:be ac 99=(.tuple #[(ta t6_),(aj er6_)]):=e99;have hq6_:(j5_≤j6_∧j6_≤cs.length)∧(er6_=0→TermOk (er t6_) (((j5_:Nat):Int) - ((i:Nat):Int)+(((j6_:Nat):Int) - ((j5_:Nat):Int))) d):=hq6_;obtain ⟨hj6_,hp6_⟩:=hq6_;replace r0:cH 98 [cv.v,(aj ((j6_:Nat):Int)),(aj d)] (ae 0) v ag:=hro35;replace r1:=aa.B 1;obtain ⟨r2,r9⟩:=aa.z2 2 9;have r3:=hz35;refine bW ?_;refine og [_,_,_,_] [0,1,3,7] ab [jb r0,jb r1,jz 2 r2,jz 3 r3,jz 9 r9] ⟨jG e99,jG e99,cp (cx:=(tc t6_)) (off:=0) ak fun c=>⟨c.bp 1 rfl e2,c.ad ((c.p e2).trans r1.ptr) e2 rfl,(c.q 0)⟩,aK 1,av⟩ fun ac ag ae ab aa=> ?_;obtain ⟨e0,e2⟩:=aa.k2 e0 e2;have e3:=aa.V 3;replace r0:=aa.B 0;replace r1:=aa.RB 2 e2;obtain ⟨r2,r3,r9⟩:=aa.z3 2 3 9;refine wp_ret ?_;refine rp ?_;refine ek (fn:=Tryz.f76) rfl ab.defers e2 e3 r1 az ak rfl ?_;exact ⟨t6_,er6_,j6_,rfl,ab.extIn,r0.foot,r3.out,⟨by omega,by omega⟩,fun h_=>(by first | exact absurd h_ (by assumption) | exact ⟨(hp6_ h_).less (by omega),by omega⟩)⟩
end
section
open Go.RowKit
open Srt
set_option maxRecDepth 100000 in
set_option maxHeartbeats 4000000 in
theorem BV (v:Value) (cv:Sv) (cs:List ByteArray) (hL:zt cs) (i:Nat) (hsub:∀(d2:Int) (j:Nat) (w2:World),RxR 98 v cv cs j d2 w2→i+1≤j→j≤cs.length→0≤d2∧d2≤16→Calls Tryz.prog 50 #[v] w2 (fun e w3=>∃(t':Tr) (er_:Int) (j':Nat),e= .returned (.tuple #[t'.v,aj er_])∧Ext (bY v) w2 w3∧cH 98 [cv.v,aj ((j':Nat):Int),aj d2] (bY v) v w3∧TrT (Gn aW w2) w3 t'∧(j≤j'∧j'≤cs.length)∧(er_=0→PatOk (er t') (((j':Nat):Int) - ((j:Nat):Int)) d2))) (d:Int) (w:World) (hR:RxR 98 v cv cs i d w) (hi:i≤cs.length) (hd:0≤d∧d≤16):Calls Tryz.prog 50 #[v] w (fun e w'=>∃(t':Tr) (er_:Int) (j:Nat),e= .returned (.tuple #[t'.v,aj er_])∧Ext (bY v) w w'∧cH 98 [cv.v,aj ((j:Nat):Int),aj d] (bY v) v w'∧TrT (Gn aW w) w' t'∧(i≤j∧j≤cs.length)∧(er_=0→PatOk (er t') (((j:Nat):Int) - ((i:Nat):Int)) d)):=by
 refine fj (bY v) (fun g hg=>hR.box.lt g hg) (n:=52) Tryz.func50 rfl rfl (aw rfl) ?_;intro a0 τ0 ha hτ st0;have e0:=oz ha;have hL1:=hL.1.1;have r0:cH 98 [cv.v,aj ((i:Nat):Int),aj d] (τ0 0) v w:=by rw [hτ];exact hR.box
 have r9:Fz (fb gR Al cv.v cs) τ0 w:=hR.inz st0;refine wp_seq (rg [box _ _ 1 2 [(aj 0),(bc (⟨#[]⟩:ByteArray)),(aE false),(.slice none 0 0),(aj 0),(aj 0),(aE false),(.slice none 0 0)],_] [0,0] st0 [jb r0,jz 9 r9] ⟨bO rfl rfl rfl rfl aD rfl,aq fun c=>ax rfl rfl,av⟩ fun ac ag ae ab aa=> ?_);obtain ⟨b1x2,e2⟩:=gx ac 2;replace e0:=aa.k1 e0;have e3:=aa.V 1;replace r0:=aa.B 0;have r1:=aa.rb 0 e2 rfl;replace r9:=aa.z1 9;refine wp_seq (eA ab [jb r0,jb r1,jz 9 r9] ⟨aq fun c=>ax rfl rfl,aq fun c=>ax rfl rfl,av⟩ fun a2 w2 τ2 st2 f2=> ?_);obtain ⟨e0,e2,e3⟩:=f2.k3 e0 e2 e3;have e4:=f2.V 0;have e5:=f2.V 1;replace r0:=f2.B 0;replace r1:=f2.B 1;replace r9:=f2.z1 9;refine wp_block ?_;refine wp_loop (fun a_ w_=>∃(m:Nat) (u y:Value) (al ts:List Tr) (τ:Nat→bj),(i≤m∧m≤cs.length)∧
      True∧
      (SoFar (al.map er) (ts.map er) i m d)∧
      St (fun k=>bY v k∨w.heap.size≤k) w 52 a_ w_ τ∧
      be a_ 4=u∧
      be a_ 5=y∧
      be a_ 0=v∧
      be a_ 2=b1x2∧
      cH 98 [cv.v,(aj ((m:Nat):Int)),(aj d)] (τ 0) v w_∧
      ep lY 25 al (τ 5) u w_∧
      Fz (oA (Gn aW w) al) τ w_∧
      ep lY 25 ts (τ 7) y w_∧
      Fz (oA (Gn aW w) ts) τ w_∧
      cH 25 [(aj 0),(bc (⟨#[]⟩:ByteArray)),(aE false),(.slice none 0 0),(aj 0),(aj 0),(aE false),(.slice none 0 0)] (τ 1) b1x2 w_∧
      Fz (fb gR Al cv.v cs) τ w_) (fun a_ w_=>cs.length+10 - Aw v w_) ?_ ?_
 · refine ⟨i,(.slice none 0 0),(.slice none 0 0),[],[],τ2,?_,?_,?_,st2,e4,e5,e0,e2,r0,?_,?_,?_,?_,r1,r9⟩
   · omega
   · trivial
   · exact SoFar.start i d
   · exact ep.nil _ _ _ _
   · exact Fz.tn _ _ _
   · exact ep.nil _ _ _ _
   · exact Fz.tn _ _ _
 intro a3 w3 hI;obtain ⟨m,u,y,al,ts,τ3,q0,q1,q2,st3,e4,e5,e0,e2,r0,r5,r6,r7,r8,r1,r9⟩:=hI;have hm0:=qt r0;have hwt:=q2.wt;rw [uq,uq] at hwt;have hw1:=vx al;have hw2:=vx ts;have hpl:=q2.parts;have hla:(al.length:Int)≤dH (al.map fc):=yL al;have hlt2:(ts.length:Int)≤dH (ts.map fc):=yL ts;refine wp_block ?_;refine wp_seq (xk st3 [jb r0,jb r1,jo r5,jz 6 r6,jo r7,jz 8 r8,jz 9 r9] ⟨ao e0,cD 0 r0.ptr,bS bo bQ 1 r0.ptr,eE fun c=>⟨_,_,(bK rfl rfl kr (c.q 2)),oU v cv cs m d _ (oD (c.B 0) (c.iz 9 rfl) (fun g_ h_ hz_=>hz_.2 _ h_))⟩,aK 3,av⟩ fun ac ag ae ab aa=> ?_);obtain ⟨e0,e2,e4,e5⟩:=aa.k4 e0 e2 e4 e5;have e6:=aa.V 4;replace r0:=aa.B 0;replace r1:=aa.B 1;replace r5:=aa.O 5;obtain ⟨r6,r8,r9⟩:=aa.z3 6 8 9;replace r7:=aa.O 7;refine wp_seq (eK ab [jb r0,jb r1,jo r5,jz 6 r6,jo r7,jz 8 r8,jz 9 r9] ⟨ao e6,av⟩ fun ac ag ae ab aa=> ?_);obtain ⟨e0,e2,e4,e5,e6⟩:=aa.k5 e0 e2 e4 e5 e6;have e13:=aa.V 0;replace r0:=aa.B 0;replace r1:=aa.B 1;replace r5:=aa.O 5;obtain ⟨r6,r8,r9⟩:=aa.z3 6 8 9;replace r7:=aa.O 7;refine wp_block ?_;refine wp_seq ?_;refine wp_seq (eA ab [jb r0,jb r1,jo r5,jz 6 r6,jo r7,jz 8 r8,jz 9 r9] ⟨aq fun c=>eI rfl (c.p e13) rfl,aK 0,av⟩ fun ac ag ae ab aa=> ?_);obtain ⟨e0,e2,e4,e5,e6,e13⟩:=aa.k6 e0 e2 e4 e5 e6 e13;have e27:=aa.V 1;replace r0:=aa.B 0;replace r1:=aa.B 1;replace r5:=aa.O 5;obtain ⟨r6,r8,r9⟩:=aa.z3 6 8 9;replace r7:=aa.O 7;refine wp_cond_split e27 (fun hc1=> ?_) (fun hc1=> ?_)
 · have hd1:=hc1;skip;refine wp_skip ?_;refine wp_cond_true (e27.trans (congrArg _ hc1)) ?_;refine wp_seq ?_;refine aY ?_;refine bV 3 (by kernel_rfl) ?_;refine og [_,_,gE _ 32 (fun b:Tr=>b.v) (fun b:Tr=>er b=jQ (ts.map er)) (fun b:Tr=>gT (Gn aW w) b)] [0,0,2] ab [jb r0,jb r1,jo r5,jz 6 r6,jo r7,jz 8 r8,jz 9 r9] ⟨ao e4,ao e5,eT (f:=fun b:Tr=>b.v) (Ψ:=fun b:Tr=>er b=jQ (ts.map er)) (Φ:=fun b:Tr=>gT (Gn aW w) b) fun {_ a_ _ _} c=>⟨_,_,(bK rfl rfl oH (c.q 1)),(Ao y ts _ (zl (c.iz 8 rfl) (c.io 7 rfl).1.sl) (by first | omega | (simp only [aP,aB,aH,cu,bk,bC];omega))).mono (fun e w' ⟨t_,he_,hx_,ht_,hq_⟩=>⟨t_,he_,hx_,hq_,c.tn ab hx_ ht_⟩)⟩,av⟩ fun ac ag ae ab aa=> ?_;obtain ⟨e0,e2,e4,e5,e6,e13,e27⟩:=aa.k7 e0 e2 e4 e5 e6 e13 e27;have e30:=aa.V 0;obtain ⟨t1_,e32,hqt1_,hz7⟩:=aa.zd 2 rfl;have e32:be ac 32=(ta t1_):=e32;have hwt1_:=rJ hqt1_;replace r0:=aa.B 0;replace r1:=aa.B 1;replace r5:=aa.O 5;obtain ⟨r6,r8,r9⟩:=aa.z3 6 8 9;replace r7:=aa.O 7;have r2:=hz7;refine bW ?_;refine bV 3 (by kernel_rfl) ?_;refine og [own lY 25 _ 3 33 ([t1_]),own _ _ _ 5 34 _,gE _ 35 (fun b:Tr=>b.v) (fun b:Tr=>er b=lP ((al++ [t1_]).map er)) (fun b:Tr=>gT (Gn aW w) b)] [0,1,3] ab [jb r0,jb r1,jz 2 r2,jo r5,jz 6 r6,jo r7,jz 8 r8,jz 9 r9] ⟨dt (cells:=#[(aj t1_.k),(bc t1_.ch),(aE t1_.ng),t1_.rv.v,(aj t1_.mn),(aj t1_.mx),(aE t1_.lz),t1_.kv.v]) rfl rfl rfl rfl aU ak aD rfl (by decide) (by decide) (fun _ _ _ _ c=>gB (c.p e32) (by kernel_rfl)) rfl,fF (t0:=4) rfl rfl rfl rfl aU (i:=Tryz.t25) rfl rfl rfl rfl (by simp only [maxLen];(try simp);omega) (by show _ * 104≤_;(try simp);omega) (fun _ _ _ _ c=>⟨c.ip 5 rfl e4,c.sm (c.p e30) e4,⟨_,rfl,(c.ro 0 rfl).1.sl⟩⟩),eT (f:=fun b:Tr=>b.v) (Ψ:=fun b:Tr=>er b=lP ((al++ [t1_]).map er)) (Φ:=fun b:Tr=>gT (Gn aW w) b) fun {_ a_ _ _} c=>⟨_,_,(bK rfl rfl Tryz.call35 (mg _ 34)),(FE _ (al++ [t1_]) _ (zl (FT (c.iz 6 rfl) (ly (c.iz 2 rfl) qh)) (c.ro 1 rfl).1.sl) (by first | omega | (simp only [aP,aB,aH,cu,bk,bC];omega))).mono (fun e w' ⟨t_,he_,hx_,ht_,hq_⟩=>⟨t_,he_,hx_,hq_,c.tn ab hx_ ht_⟩)⟩,av⟩ fun ac ag ae ab aa=> ?_;obtain ⟨b8x33,e33⟩:=gx ac 33;obtain ⟨b8x34,e34⟩:=gx ac 34;obtain ⟨e0,e2,e4,e5,e6,e13,e27⟩:=aa.k7 e0 e2 e4 e5 e6 e13 e27;obtain ⟨t2_,e35,hqt2_,hz8⟩:=aa.zd 2 rfl;have e35:be ac 35=(ta t2_):=e35;have hwt2_:=vo hqt2_;replace r0:=aa.B 0;replace r1:=aa.B 1;replace r2:=aa.z1 2;have r3:=aa.ro 0 e33 rfl;replace r5:=aa.ro 1 e34 rfl;obtain ⟨r6,r8,r9⟩:=aa.z3 6 8 9;replace r7:=aa.O 7;have r4:=hz8;refine bW ?_;refine og [_,_] [0,1] ab [jb r0,jb r1,jz 2 r2,jo r3,jz 4 r4,jo r5,jz 6 r6,jo r7,jz 8 r8,jz 9 r9] ⟨cp (cx:=(tc t2_)) (off:=0) ak fun c=>⟨c.bp 1 rfl e2,c.ad ((c.p e2).trans r1.ptr) e2 rfl,(c.p e35)⟩,aq fun c=>ax rfl rfl,av⟩ fun ac ag ae ab aa=> ?_;obtain ⟨e0,e2,e4,e5,e6,e13,e27⟩:=aa.k7 e0 e2 e4 e5 e6 e13 e27;have e3:=aa.V 1;replace r0:=aa.B 0;replace r1:=aa.RB 0 e2;obtain ⟨r2,r4,r6,r8,r9⟩:=aa.z5 2 4 6 8 9;replace r3:=aa.O 3;replace r5:=aa.O 5;replace r7:=aa.O 7;refine wp_ret ?_;refine rp ?_;refine ek (fn:=Tryz.f50) rfl ab.defers e2 e3 r1 az ak rfl ?_;have hqf_:PatOk (er t2_) ((m:Int) - (i:Int)) d:=by rw [hqt2_,lj,hqt1_];exact q2.fin hd.2
   exact ⟨t2_,0,m,rfl,ab.extIn,r0.foot,r4.out,⟨by omega,by omega⟩,fun h_=>hqf_⟩
 have hd2:=hc1;skip;refine eA ab [jb r0,jb r1,jo r5,jz 6 r6,jo r7,jz 8 r8,jz 9 r9] ⟨aq fun c=>eI rfl (c.p e13) rfl,aK 0,av⟩ fun ac ag ae ab aa=> ?_;obtain ⟨e0,e2,e4,e5,e6,e13⟩:=aa.k6 e0 e2 e4 e5 e6 e13;have e27:=aa.V 1;replace r0:=aa.B 0;replace r1:=aa.B 1;replace r5:=aa.O 5;obtain ⟨r6,r8,r9⟩:=aa.z3 6 8 9;replace r7:=aa.O 7;refine wp_cond_split e27 (fun hc3=> ?_) (fun hc3=> ?_)
 · have hd3:=hc3;skip;refine wp_seq ?_;refine aY ?_;refine bV 3 (by kernel_rfl) ?_;refine og [_,_,gE _ 32 (fun b:Tr=>b.v) (fun b:Tr=>er b=jQ (ts.map er)) (fun b:Tr=>gT (Gn aW w) b)] [0,0,2] ab [jb r0,jb r1,jo r5,jz 6 r6,jo r7,jz 8 r8,jz 9 r9] ⟨ao e4,ao e5,eT (f:=fun b:Tr=>b.v) (Ψ:=fun b:Tr=>er b=jQ (ts.map er)) (Φ:=fun b:Tr=>gT (Gn aW w) b) fun {_ a_ _ _} c=>⟨_,_,(bK rfl rfl oH (c.q 1)),(Ao y ts _ (zl (c.iz 8 rfl) (c.io 7 rfl).1.sl) (by first | omega | (simp only [aP,aB,aH,cu,bk,bC];omega))).mono (fun e w' ⟨t_,he_,hx_,ht_,hq_⟩=>⟨t_,he_,hx_,hq_,c.tn ab hx_ ht_⟩)⟩,av⟩ fun ac ag ae ab aa=> ?_;obtain ⟨e0,e2,e4,e5,e6,e13,e27⟩:=aa.k7 e0 e2 e4 e5 e6 e13 e27;have e30:=aa.V 0;obtain ⟨t3_,e32,hqt3_,hz11⟩:=aa.zd 2 rfl;have e32:be ac 32=(ta t3_):=e32;have hwt3_:=rJ hqt3_;replace r0:=aa.B 0;replace r1:=aa.B 1;replace r5:=aa.O 5;obtain ⟨r6,r8,r9⟩:=aa.z3 6 8 9;replace r7:=aa.O 7;have r2:=hz11;refine bW ?_;refine bV 3 (by kernel_rfl) ?_;refine og [own lY 25 _ 3 33 ([t3_]),own _ _ _ 5 34 _,gE _ 35 (fun b:Tr=>b.v) (fun b:Tr=>er b=lP ((al++ [t3_]).map er)) (fun b:Tr=>gT (Gn aW w) b)] [0,1,3] ab [jb r0,jb r1,jz 2 r2,jo r5,jz 6 r6,jo r7,jz 8 r8,jz 9 r9] ⟨dt (cells:=#[(aj t3_.k),(bc t3_.ch),(aE t3_.ng),t3_.rv.v,(aj t3_.mn),(aj t3_.mx),(aE t3_.lz),t3_.kv.v]) rfl rfl rfl rfl aU ak aD rfl (by decide) (by decide) (fun _ _ _ _ c=>gB (c.p e32) (by kernel_rfl)) rfl,fF (t0:=4) rfl rfl rfl rfl aU (i:=Tryz.t25) rfl rfl rfl rfl (by simp only [maxLen];(try simp);omega) (by show _ * 104≤_;(try simp);omega) (fun _ _ _ _ c=>⟨c.ip 5 rfl e4,c.sm (c.p e30) e4,⟨_,rfl,(c.ro 0 rfl).1.sl⟩⟩),eT (f:=fun b:Tr=>b.v) (Ψ:=fun b:Tr=>er b=lP ((al++ [t3_]).map er)) (Φ:=fun b:Tr=>gT (Gn aW w) b) fun {_ a_ _ _} c=>⟨_,_,(bK rfl rfl Tryz.call35 (mg _ 34)),(FE _ (al++ [t3_]) _ (zl (FT (c.iz 6 rfl) (ly (c.iz 2 rfl) qh)) (c.ro 1 rfl).1.sl) (by first | omega | (simp only [aP,aB,aH,cu,bk,bC];omega))).mono (fun e w' ⟨t_,he_,hx_,ht_,hq_⟩=>⟨t_,he_,hx_,hq_,c.tn ab hx_ ht_⟩)⟩,av⟩ fun ac ag ae ab aa=> ?_;obtain ⟨b12x33,e33⟩:=gx ac 33;obtain ⟨b12x34,e34⟩:=gx ac 34;obtain ⟨e0,e2,e4,e5,e6,e13,e27⟩:=aa.k7 e0 e2 e4 e5 e6 e13 e27;obtain ⟨t4_,e35,hqt4_,hz12⟩:=aa.zd 2 rfl;have e35:be ac 35=(ta t4_):=e35;have hwt4_:=vo hqt4_;replace r0:=aa.B 0;replace r1:=aa.B 1;replace r2:=aa.z1 2;have r3:=aa.ro 0 e33 rfl;replace r5:=aa.ro 1 e34 rfl;obtain ⟨r6,r8,r9⟩:=aa.z3 6 8 9;replace r7:=aa.O 7;have r4:=hz12;refine bW ?_;refine og [_,_] [0,1] ab [jb r0,jb r1,jz 2 r2,jo r3,jz 4 r4,jo r5,jz 6 r6,jo r7,jz 8 r8,jz 9 r9] ⟨cp (cx:=(tc t4_)) (off:=0) ak fun c=>⟨c.bp 1 rfl e2,c.ad ((c.p e2).trans r1.ptr) e2 rfl,(c.p e35)⟩,aq fun c=>ax rfl rfl,av⟩ fun ac ag ae ab aa=> ?_;obtain ⟨e0,e2,e4,e5,e6,e13,e27⟩:=aa.k7 e0 e2 e4 e5 e6 e13 e27;have e3:=aa.V 1;replace r0:=aa.B 0;replace r1:=aa.RB 0 e2;obtain ⟨r2,r4,r6,r8,r9⟩:=aa.z5 2 4 6 8 9;replace r3:=aa.O 3;replace r5:=aa.O 5;replace r7:=aa.O 7;refine wp_ret ?_;refine rp ?_;refine ek (fn:=Tryz.f50) rfl ab.defers e2 e3 r1 az ak rfl ?_;have hqf_:PatOk (er t4_) ((m:Int) - (i:Int)) d:=by rw [hqt4_,lj,hqt3_];exact q2.fin hd.2
   exact ⟨t4_,0,m,rfl,ab.extIn,r0.foot,r4.out,⟨by omega,by omega⟩,fun h_=>hqf_⟩
 have hd3:=hc3;skip;refine wp_seq (eA ab [jb r0,jb r1,jo r5,jz 6 r6,jo r7,jz 8 r8,jz 9 r9] ⟨aq fun c=>eI rfl (c.p e13) rfl,aK 0,av⟩ fun ac ag ae ab aa=> ?_);obtain ⟨e0,e2,e4,e5,e6,e13,e27⟩:=aa.k7 e0 e2 e4 e5 e6 e13 e27;have e36:=aa.V 1;replace r0:=aa.B 0;replace r1:=aa.B 1;replace r5:=aa.O 5;obtain ⟨r6,r8,r9⟩:=aa.z3 6 8 9;replace r7:=aa.O 7;refine wp_cond_split e36 (fun hc4=> ?_) (fun hc4=> ?_)
 · skip;refine wp_seq ?_;have hnx_:=jR (by assumption:gM (de cs m) (⟨#[124]⟩:ByteArray)=true) (by decide+kernel);refine mG [0,1,3,7,15,31,63,127,255,511] ab [jb r0,jb r1,jo r5,jz 6 r6,jo r7,jz 8 r8,jz 9 r9] ⟨ao e0,cD 0 r0.ptr,bS bo bQ 1 r0.ptr,bS bU aA 2 rfl,aq fun c=>aI rfl aN (c.q 3) (by rw [add_add];exact (c.ib 0 rfl).cell (j:=1) rfl),aq fun c=>cN rfl (c.q 4) rfl (by first | omega | (simp only [aP,aB,aH,cu,bk,bC];omega)),cD 0 r0.ptr,bS bo bQ 6 r0.ptr,bS bU aA 7 rfl,cp (cx:=[cv.v,(aj (((m:Nat):Int)+1)),(aj d)]) aA fun c=>⟨c.bp 0 rfl e0,c.ad (c.q 8) e0 rfl,(c.q 5)⟩,av⟩ fun ac ag ae ab aa=> ?_;obtain ⟨e0,e2,e4,e5,e6,e13,e27,e36⟩:=aa.k8 e0 e2 e4 e5 e6 e13 e27 e36;replace r0:=aa.RB 9 e0;replace r1:=aa.B 1;replace r5:=aa.O 5;obtain ⟨r6,r8,r9⟩:=aa.z3 6 8 9;replace r7:=aa.O 7;replace r0:cH 98 [cv.v,aj ((m+1:Nat):Int),aj d] (ae 0) v ag:=by rw [show ((m+1:Nat):Int)=((m:Nat):Int)+1 from by omega];exact r0
   refine aY ?_;refine bV 3 (by kernel_rfl) ?_;refine og [_,_,gE _ 49 (fun b:Tr=>b.v) (fun b:Tr=>er b=jQ (ts.map er)) (fun b:Tr=>gT (Gn aW w) b)] [0,0,2] ab [jb r0,jb r1,jo r5,jz 6 r6,jo r7,jz 8 r8,jz 9 r9] ⟨ao e4,ao e5,eT (f:=fun b:Tr=>b.v) (Ψ:=fun b:Tr=>er b=jQ (ts.map er)) (Φ:=fun b:Tr=>gT (Gn aW w) b) fun {_ a_ _ _} c=>⟨_,_,(bK rfl rfl oH (c.q 1)),(Ao y ts _ (zl (c.iz 8 rfl) (c.io 7 rfl).1.sl) (by first | omega | (simp only [aP,aB,aH,cu,bk,bC];omega))).mono (fun e w' ⟨t_,he_,hx_,ht_,hq_⟩=>⟨t_,he_,hx_,hq_,c.tn ab hx_ ht_⟩)⟩,av⟩ fun ac ag ae ab aa=> ?_;obtain ⟨e0,e2,e4,e5,e6,e13,e27,e36⟩:=aa.k8 e0 e2 e4 e5 e6 e13 e27 e36;have e47:=aa.V 0;obtain ⟨t5_,e49,hqt5_,hz16⟩:=aa.zd 2 rfl;have e49:be ac 49=(ta t5_):=e49;have hwt5_:=rJ hqt5_;replace r0:=aa.B 0;replace r1:=aa.B 1;replace r5:=aa.O 5;obtain ⟨r6,r8,r9⟩:=aa.z3 6 8 9;replace r7:=aa.O 7;have r2:=hz16;refine bW ?_;refine og [own lY 25 _ 3 50 ([t5_]),own _ _ _ 5 51 _,own _ _ _ 5 4 _,_] [0,1,3,7] ab [jb r0,jb r1,jz 2 r2,jo r5,jz 6 r6,jo r7,jz 8 r8,jz 9 r9] ⟨dt (cells:=#[(aj t5_.k),(bc t5_.ch),(aE t5_.ng),t5_.rv.v,(aj t5_.mn),(aj t5_.mx),(aE t5_.lz),t5_.kv.v]) rfl rfl rfl rfl aU ak aD rfl (by decide) (by decide) (fun _ _ _ _ c=>gB (c.p e49) (by kernel_rfl)) rfl,fF (t0:=4) rfl rfl rfl rfl aU (i:=Tryz.t25) rfl rfl rfl rfl (by simp only [maxLen];(try simp);omega) (by show _ * 104≤_;(try simp);omega) (fun _ _ _ _ c=>⟨c.ip 5 rfl e4,c.sm (c.p e47) e4,⟨_,rfl,(c.ro 0 rfl).1.sl⟩⟩),eP (t0:=51) rfl rfl rfl rfl rfl (.inr rfl) (fun _ _ _ _ c=>⟨c.ro 1 rfl,rfl⟩),aq fun c=>ax rfl rfl,av⟩ fun ac ag ae ab aa=> ?_;obtain ⟨b17x50,e50⟩:=gx ac 50;obtain ⟨b17x4,e4⟩:=gx ac 4;obtain ⟨e0,e2,e6,e13,e27,e36⟩:=aa.k6 e0 e2 e6 e13 e27 e36;have e5:=aa.V 3;replace r0:=aa.B 0;replace r1:=aa.B 1;replace r2:=aa.z1 2;have r3:=aa.ro 0 e50 rfl;replace r5:=aa.ro 2 e4 rfl;obtain ⟨r6,r8,r9⟩:=aa.z3 6 8 9;replace r7:=aa.O 7;have hqs_:=hqt5_;show _;show _;refine ⟨⟨m+1,b17x4,(.slice none 0 0),al++ [t5_],[],ae,?_,?_,?_,ab,e4,e5,e0,e2,r0,?_,?_,?_,?_,r1,r9⟩,?_⟩
   · omega
   · trivial
   · first | (rw [lj];exact q2.term hqe_.1 (by omega)) | (rw [lj,hqs_];exact q2.alt hd.2)
   · exact r5.cast (by rfl)
   · exact Fz.snoc r6 r2
   · exact ep.nil _ _ _ _
   · exact Fz.tn _ _ _
   · rw [hm0,qt r0];omega
 skip;refine wp_seq ?_;refine aY ?_;refine bV 2 (by kernel_rfl) ?_;refine og [_,mi 98 _ 0 16 v (fun b:Tr × Int × Nat=> [cv.v,aj ((b.2.2:Nat):Int),aj d]) (fun b:Tr × Int × Nat=> .tuple #[b.1.v,aj b.2.1]) (fun b:Tr × Int × Nat=>(m≤b.2.2∧b.2.2≤cs.length)∧(b.2.1=0→(TermOk (er b.1) (((b.2.2:Nat):Int) - ((m:Nat):Int)) d∧((m:Nat):Int) < ((b.2.2:Nat):Int)))) (fun b:Tr × Int × Nat=>gT (Gn aW w) b.1)] [0,1] ab [jb r0,jb r1,jo r5,jz 6 r6,jo r7,jz 8 r8,jz 9 r9] ⟨ao e0,ku (cells:=fun b:Tr × Int × Nat=> [cv.v,aj ((b.2.2:Nat):Int),aj d]) (f:=fun b:Tr × Int × Nat=> .tuple #[b.1.v,aj b.2.1]) (Ψ:=fun b:Tr × Int × Nat=>(m≤b.2.2∧b.2.2≤cs.length)∧(b.2.1=0→(TermOk (er b.1) (((b.2.2:Nat):Int) - ((m:Nat):Int)) d∧((m:Nat):Int) < ((b.2.2:Nat):Int)))) (Φ:=fun b:Tr × Int × Nat=>gT (Gn aW w) b.1) fun {_ a_ _ _} c=>⟨_,_,(bK rfl rfl Tryz.call76 (c.q 0)),(Gr v cv cs m d _ (oD (c.B 0) (c.iz 9 rfl) (fun g_ h_ hz_=>hz_.2 _ h_)) hL (by first | omega | (simp only [aP,aB,aH,cu,bk,bC];omega)) hd (fun d2_ j_ w2_ hR_ hij_ hjl_ hd_=>hsub d2_ j_ w2_ hR_ (by omega) hjl_ hd_)).mono (fun e w' ⟨h0_,h1_,h2_,he_,hx_,hb_,ht_,hp_⟩=>⟨⟨h0_,h1_,h2_⟩,he_,(c.ib 0 rfl).ext hx_,hb_.back (c.ib 0 rfl),hp_,c.tns ab hx_.size ht_⟩)⟩,av⟩ fun ac ag ae ab aa=> ?_;obtain ⟨e0,e2,e4,e5,e6,e13,e27,e36⟩:=aa.k8 e0 e2 e4 e5 e6 e13 e27 e36;obtain ⟨⟨t6_,er6_,j6_⟩,e16,hro18,hq6_,hz18⟩:=aa.zb 1 rfl;have e16:be ac 16=(.tuple #[(ta t6_),(aj er6_)]):=e16;have hq6_:(m≤j6_∧j6_≤cs.length)∧(er6_=0→(TermOk (er t6_) (((j6_:Nat):Int) - ((m:Nat):Int)) d∧((m:Nat):Int) < ((j6_:Nat):Int))):=hq6_;obtain ⟨hj6_,hp6_⟩:=hq6_;replace r0:cH 98 [cv.v,(aj ((j6_:Nat):Int)),(aj d)] (ae 0) v ag:=hro18;replace r1:=aa.B 1;replace r5:=aa.O 5;obtain ⟨r6,r8,r9⟩:=aa.z3 6 8 9;replace r7:=aa.O 7;have r2:=hz18;refine bW ?_;refine og [_,_,_,box _ _ 3 7 [(aj 0),(bc (⟨#[]⟩:ByteArray)),(aE false),(.slice none 0 0),(aj 0),(aj 0),(aE false),(.slice none 0 0)],_,_] [0,1,3,7,15,31] ab [jb r0,jb r1,jz 2 r2,jo r5,jz 6 r6,jo r7,jz 8 r8,jz 9 r9] ⟨ao e16,bR 0,bR 0,bO rfl rfl rfl rfl aD rfl,ey (cx:=(tc t6_)) (off:=0) rfl ak fun c=>⟨c.rb 3 rfl,(c.rb 3 rfl).ptr,(c.q 1)⟩,aK 2,av⟩ fun ac ag ae ab aa=> ?_;obtain ⟨b19x7,e7⟩:=gx ac 7;obtain ⟨e0,e2,e4,e5,e6,e13,e27,e36⟩:=aa.k8 e0 e2 e4 e5 e6 e13 e27 e36;have e8:=aa.V 5;replace r0:=aa.B 0;replace r1:=aa.B 1;replace r2:=aa.z1 2;have r3:=aa.rb 4 e7 rfl;replace r5:=aa.O 5;obtain ⟨r6,r8,r9⟩:=aa.z3 6 8 9;replace r7:=aa.O 7;refine wp_seq ?_;refine wp_seq (eA ab [jb r0,jb r1,jz 2 r2,jb r3,jo r5,jz 6 r6,jo r7,jz 8 r8,jz 9 r9] ⟨ao e8,aq fun c=>fh rfl (c.q 0) rfl,av⟩ fun ac ag ae ab aa=> ?_);obtain ⟨e0,e2,e4,e5,e6,e7,e8,e13,e27,e36⟩:=aa.k10 e0 e2 e4 e5 e6 e7 e8 e13 e27 e36;have e20:=aa.V 1;replace r0:=aa.B 0;replace r1:=aa.B 1;obtain ⟨r2,r6,r8,r9⟩:=aa.z4 2 6 8 9;replace r3:=aa.B 3;replace r5:=aa.O 5;replace r7:=aa.O 7;refine wp_cond_split e20 (fun hc5=> ?_) (fun hc5=> ?_)
 · try simp only [ar,am,ai,ah] at hc5
   refine wp_seq (lr [0,0,1,7] ab [jb r0,jb r1,jz 2 r2,jb r3,jo r5,jz 6 r6,jo r7,jz 8 r8,jz 9 r9] ⟨aq fun c=>eW (cells:=#[(aj 0),(bc (⟨#[]⟩:ByteArray)),(aE false),(.slice none 0 0),(aj 0),(aj 0),(aE false),(.slice none 0 0)]) rfl aD ni,ao e8,cp (cx:=[(aj 0),(bc (⟨#[]⟩:ByteArray)),(aE false),(.slice none 0 0),(aj 0),(aj 0),(aE false),(.slice none 0 0)]) (off:=0) ak fun c=>⟨c.bp 1 rfl e2,c.ad ((c.p e2).trans r1.ptr) e2 rfl,(c.q 0)⟩,aK 1,av⟩ fun ac ag ae ab aa=> ?_);obtain ⟨e0,e2,e4,e5,e6,e7,e8,e13,e20,e27,e36⟩:=aa.k11 e0 e2 e4 e5 e6 e7 e8 e13 e20 e27 e36;have e3:=aa.V 3;replace r0:=aa.B 0;replace r1:=aa.RB 2 e2;obtain ⟨r2,r6,r8,r9⟩:=aa.z4 2 6 8 9;replace r3:=aa.B 3;replace r5:=aa.O 5;replace r7:=aa.O 7;refine wp_ret ?_;refine rp ?_;refine ek (fn:=Tryz.f50) rfl ab.defers e2 e3 r1 az ak rfl ?_;exact ⟨(dQ 0 (⟨#[]⟩:ByteArray) false 0 0 false),er6_,j6_,rfl,ab.extIn,r0.foot,(eQ _ _ _ _ _ _ _ _),⟨by omega,by omega⟩,fun h_=>absurd h_ (by assumption)⟩
 try simp only [ar,am,ai,ah] at hc5
 refine wp_skip ?_;have hqe_:=hp6_ (by omega);refine rg [_,_,own lY 25 _ 4 25 ([t6_]),own _ _ _ 7 26 _,own _ _ _ 7 5 _] [0,0,2,7,15] ab [jb r0,jb r1,jz 2 r2,jb r3,jo r5,jz 6 r6,jo r7,jz 8 r8,jz 9 r9] ⟨ao e5,aq fun c=>dY rfl az ak ((c.p e7).trans r3.ptr) (c.B 3),dt (cells:=#[(aj t6_.k),(bc t6_.ch),(aE t6_.ng),t6_.rv.v,(aj t6_.mn),(aj t6_.mx),(aE t6_.lz),t6_.kv.v]) rfl rfl rfl rfl aU ak aD rfl (by decide) (by decide) (fun _ _ _ _ c=>gB (c.n 1 rfl) (by kernel_rfl)) rfl,fF (t0:=5) rfl rfl rfl rfl aU (i:=Tryz.t25) rfl rfl rfl rfl (by simp only [maxLen];(try simp);omega) (by show _ * 104≤_;(try simp);omega) (fun _ _ _ _ c=>⟨c.ip 7 rfl e5,c.sm (c.n 0 rfl) e5,⟨_,rfl,(c.ro 2 rfl).1.sl⟩⟩),eP (t0:=26) rfl rfl rfl rfl rfl (.inr rfl) (fun _ _ _ _ c=>⟨c.ro 3 rfl,rfl⟩),av⟩ fun ac ag ae ab aa=> ?_;obtain ⟨b22x25,e25⟩:=gx ac 25;obtain ⟨b22x5,e5⟩:=gx ac 5;obtain ⟨e0,e2,e4,e6,e7,e8,e13,e20,e27,e36⟩:=aa.k10 e0 e2 e4 e6 e7 e8 e13 e20 e27 e36;replace r0:=aa.B 0;replace r1:=aa.B 1;replace r2:=aa.z1 2;replace r3:=aa.B 3;have r4:=aa.ro 2 e25 rfl;replace r5:=aa.O 5;obtain ⟨r6,r8,r9⟩:=aa.z3 6 8 9;replace r7:=aa.ro 4 e5 rfl;show _;show _;refine ⟨⟨j6_,u,b22x5,al,ts++ [t6_],ae,?_,?_,?_,ab,e4,e5,e0,e2,r0,?_,?_,?_,?_,r1,r9⟩,?_⟩
 · omega
 · trivial
 · first | (rw [lj];exact q2.term hqe_.1 (by omega)) | (rw [lj,hqs_];exact q2.alt hd.2)
 · exact r5.cast (by rfl)
 · exact r6
 · exact r7.cast (by rfl)
 · exact Fz.snoc r8 r2
 · rw [hm0,qt r0];omega
theorem xW (v:Value) (cv:Sv) (cs:List ByteArray) (hL:zt cs):∀(n i:Nat) (d:Int) (w:World),cs.length < n+i→RxR 98 v cv cs i d w→i≤cs.length→0≤d∧d≤16→Calls Tryz.prog 50 #[v] w (fun e w'=>∃(t':Tr) (er_:Int) (j:Nat),e= .returned (.tuple #[t'.v,.int .i64 er_])∧Ext (bY v) w w'∧cH 98 [cv.v,.int .i64 ((j:Nat):Int),.int .i64 d] (bY v) v w'∧TrT (Gn aW w) w' t'∧(i≤j∧j≤cs.length)∧(er_=0→PatOk (er t') (((j:Nat):Int) - ((i:Nat):Int)) d))
  | 0, i, d, w, hn, hR, hi, hd => by omega
  | n + 1, i, d, w, hn, hR, hi, hd => BV v cv cs hL i (fun d2 j w2 hR2 hij hj hd2 => xW v cv cs hL n j d2 w2 (by omega) hR2 hj hd2) d w hR hi hd
end
section
open Go.RowKit Srt
inductive PtT (F:bj) (w:World):Pt→Prop
  | mk {p : Pt} : TrT F w p.t → SlT Bj w p.pv.v p.ps → (p.ps ≠ [] → F (ee p.pv.v).block) → (∀ q ∈ p.ps, PtT F w q) → PtT F w p
section
variable {F F':bj} {w w':World} {p q:Pt}
theorem PtT.tree (h:PtT F w p):TrT F w p.t:=by cases h;assumption
theorem PtT.sl (h:PtT F w p):SlT Bj w p.pv.v p.ps:=by cases h;assumption
theorem PtT.slF (h:PtT F w p):p.ps≠ []→F (ee p.pv.v).block:=by cases h;assumption
theorem PtT.kid (h:PtT F w p) (hq:q ∈ p.ps):PtT F w q:=by cases h;rename_i h1;exact h1 q hq
theorem PtT.keep (h:PtT F w p) {M:Nat→Prop} (he:Ext M w w') (hm:∀g,F g→¬M g):PtT F w' p:=by
  induction h with
  | mk h1 h2 h3 h4 ih => exact .mk (h1.keep he hm) (h2.keep he fun hn => hm _ (h3 hn)) h3 ih
theorem PtT.mono (h:PtT F w p) (hf:∀g,F g→g < w.heap.size→F' g):PtT F' w p:=by
  induction h with
  | mk h1 h2 h3 h4 ih => exact .mk (h1.mono hf) h2 (fun hn => hf _ (h3 hn) (h2.lt hn)) ih
end
def oq (p:Pt):ZP:=⟨fun Z w=>PtT Z w p,fun hz he h=>(PtT.keep h he fun g hg hn=>hn hg).mono fun g hg _=>hz g hg⟩
def xX (v:Sv) (l:List Pt):ZP:=⟨fun Z w=>(SlT Bj w v.v l∧(l≠ []→Z (ee v.v).block))∧∀p ∈ l,PtT Z w p,fun hz he h=>⟨⟨h.1.1.keep he fun hn hm=>hm (h.1.2 hn),fun hn=>hz _ (h.1.2 hn)⟩,fun p hp=>(oq p).st hz he (h.2 p hp)⟩⟩
def eY (p:Addr) (vs:List Value):ZP:=⟨fun Z w=>Z p.block∧∀j u,vs[j]? =some u→w.cell? (p.add j)=some u,fun hz he h=>⟨hz _ h.1,fun j u hu=>he.cell_some (h.2 j u hu) fun hn=>hn (by rw [nX];exact h.1)⟩⟩
section
variable {Z:bj} {w:World} {p:Pt} {v:Sv} {l:List Pt}
theorem oq.kids (h:(oq p).P Z w):(xX p.pv p.ps).P Z w:=⟨⟨PtT.sl h,PtT.slF h⟩,fun q hq=>PtT.kid h hq⟩
theorem xX.at (h:(xX v l).P Z w) {i:Int} (h0:0≤i) (h1:i < l.length):(oq (nth l i)).P Z w:=h.2 _ (bN h0 h1)
theorem xX.tail {n:Nat} (h:(xX v l).P Z w) (hn:n≤l.length) {u:Sv} (hu:u.v=iF v.v n l.length 11):(xX u (l.drop n)).P Z w:=by
  have hs:=SlT.sub h.1.1 (lo:=n) (hi:=l.length) hn (bz _);rw [bw (by simp)] at hs;refine ⟨⟨?_,fun hne=> ?_⟩,fun q hq=>h.2 q (gl hq)⟩
  · rw [hu];exact hs
  · have hl:l≠ []:=by rintro rfl;simp at hne
    have hb:(ee (iF v.v n l.length 11)).block=(ee v.v).block:=by
      rcases h.1.1.sl with ⟨e,hl0⟩ | ⟨b,cap,e,h1,h2⟩
      · exact absurd (cg hl0) hl
      · rw [e];simp only [iF];split <;> simp [ee,nX]
    rw [hu,hb];exact h.1.2 hl
end
inductive OkP (m:Nat):Pt→Prop
  | mk {p : Pt} : (0 ≤ p.lo ∧ p.lo ≤ p.hi ∧ p.hi ≤ (m : Int)) → (p.t.k = 5 → p.lo < p.hi) → (p.t.k = 5 ∨ p.t.k = 6 ∨ p.t.k = 7 → p.ps.length = 1) → (p.t.k = 7 → lk (nth p.ps 0).t.k = true) → fc p.t ≤ 1000000 → p.ps.length ≤ 1000000 → (∀ q ∈ p.ps, OkP m q) → OkP m p
theorem OkP.kid {m:Nat} {p q:Pt} (h:OkP m p) (hq:q ∈ p.ps):OkP m q:=by cases h;rename_i h1;exact h1 q hq
theorem OkP.facts {m:Nat} {p:Pt} (h:OkP m p):(0≤p.lo∧p.lo≤p.hi∧p.hi≤(m:Int))∧(p.t.k=5→p.lo < p.hi)∧(p.t.k=5∨p.t.k=6∨p.t.k=7→p.ps.length=1)∧(p.t.k=7→lk (nth p.ps 0).t.k=true)∧fc p.t≤1000000∧p.ps.length≤1000000:=by
  cases h;rename_i h1 h2 h3 h4 h5 h6 h7;exact ⟨h1,h2,h3,h4,h5,h6⟩
structure Cfg where
  rt:Nat
  st:Nat
  it:Nat
  g:Nat
  top:Pt
  E:Env
  cv:Sv
  lv:Sv
  pv:Sv
  m:Nat
def Cfg.ad (C:Cfg):Addr:=⟨C.g,0,none⟩
def Cfg.rv (C:Cfg):Value:= .pointer (some C.ad)
def Cfg.cells (C:Cfg) (fu:Nat) (ou:Bool):List Value:=Bj.cells C.top++ [.bool C.E.fold,C.cv.v,C.lv.v,C.pv.v,.int .i64 (fu:Int),.bool ou]
structure Cfg.Ok (C:Cfg):Prop where
  pg:∀b,C.pv.v.ownBlock=some b→b≠C.g
  pl:C.E.pl.length=C.E.cs.length+1
  cl:C.E.cs.length≤1000000
  ml:C.m≤1000000
  cz:∀x ∈ C.E.cs,x.size≤1000000
structure RunB (C:Cfg) (ps:Ps) (fu:Nat) (ou:Bool) (Z T:bj) (w:World):Prop where
  ok:C.Ok
  len:ps.length=C.m
  lt:C.g < w.heap.size
  own:T C.g
  at':w.heap[C.g]? =some (.cells (C.cells fu ou).toArray C.rt (0,0))
  parts:ep cF C.st ps T C.pv.v w
  chars:(fb gR Al C.cv.v C.E.cs).P Z w
  places:(fb lM Al C.lv.v C.E.pl).P Z w
section
variable {C:Cfg} {ps ps':Ps} {fu fu':Nat} {ou ou':Bool} {tv tv':Int} {tb:Option Nat} {Z Z' T T' N:bj} {w w':World}
theorem RunB.mono (h:RunB C ps fu ou Z T w) (hZ:∀g,Z g→Z' g) (hT:∀g,T g→T' g):RunB C ps fu ou Z' T' w:=
  ⟨h.ok,h.len,h.lt,hT _ h.own,h.at',⟨h.parts.1,fun g hg=>hT _ (h.parts.2 g hg)⟩,⟨h.chars.1,fun hn=>⟨hZ _ (h.chars.2 hn).1,av⟩⟩,⟨h.places.1,fun hn=>⟨hZ _ (h.places.2 hn).1,av⟩⟩⟩
theorem RunB.loc (hz:∀g,Z g→Z' g) (he:Ext (fun g=>N g∧¬T g∧¬Z g) w w') (h:RunB C ps fu ou Z T w):RunB C ps fu ou Z' T w':=
  ⟨h.ok,h.len,dM h.lt he.size,h.own,by rw [he.block _ h.lt fun hn=>hn.2.1 h.own];exact h.at',mY (N:=N) T _ w w' he.less h.parts,
    (fb gR Al C.cv.v C.E.cs).st hz (he.mono fun _ _ h=>h.2.2) h.chars,(fb lM Al C.lv.v C.E.pl).st hz (he.mono fun _ _ h=>h.2.2) h.places⟩
theorem RunB.cell (h:RunB C ps fu ou Z T w) {j:Nat} {u:Value} (hu:(C.cells fu ou)[j]? =some u):w.cell? (C.ad.add j)=some u:=by
  have hb:cH C.rt (C.cells fu ou) T C.rv w:=⟨C.g,rfl,h.lt,h.own,h.at'⟩;exact hb.cell hu
theorem RunB.sl (h:RunB C ps fu ou Z T w):SlT cF w C.pv.v ps:=h.parts.1.sl
structure RunR (C:Cfg) (tb:Option Nat) (ps:Ps) (fu:Nat) (ou:Bool) (tv:Int) (Z T:bj) (w:World):Prop where
  b:RunB C ps fu ou Z T w
  to:∀q,tb=some q→cH C.it [.int .i64 tv] T (.pointer (some ⟨q,0,none⟩)) w
  tg:∀q,tb=some q→q≠C.g∧∀b,C.pv.v.ownBlock=some b→b≠q
theorem RunR.mono (h:RunR C tb ps fu ou tv Z T w) (hZ:∀g,Z g→Z' g) (hT:∀g,T g→T' g):RunR C tb ps fu ou tv Z' T' w:=
  ⟨h.b.mono hZ hT,fun q hq=>by obtain ⟨g,e,h1,h2,h3⟩:=h.to q hq;exact ⟨g,e,h1,hT _ h2,h3⟩,h.tg⟩
theorem RunR.loc (hz:∀g,Z g→Z' g) (he:Ext (fun g=>N g∧¬T g∧¬Z g) w w') (h:RunR C tb ps fu ou tv Z T w):RunR C tb ps fu ou tv Z' T w':=
  ⟨h.b.loc hz he,fun q hq=>nY (N:=N) T _ w w' he.less (h.to q hq),h.tg⟩
theorem RunR.cell (h:RunR C tb ps fu ou tv Z T w) {j:Nat} {u:Value} (hu:(C.cells fu ou)[j]? =some u):w.cell? (C.ad.add j)=some u:=h.b.cell hu
theorem RunR.sl (h:RunR C tb ps fu ou tv Z T w):SlT cF w C.pv.v ps:=h.b.sl
def Td (C:Cfg) (tb:Option Nat):bj:=fun b=>b=C.g∨C.pv.v.ownBlock=some b∨tb=some b
theorem RunB.r (h:RunB C ps fu ou Z T w):RunR C none ps fu ou tv Z T w:=⟨h,fun _ hq=>(by cases hq),fun _ hq=>(by cases hq)⟩
def Fr (C:Cfg) (tb:Option Nat) (w:World):bj:=fun b=>b < w.heap.size∧¬Td C tb b
def jH (C:Cfg) (tb:Option Nat) (ps:Ps) (fu:Nat) (ou:Bool) (tv:Int) (w:World):Prop:=RunR C tb ps fu ou tv (Fr C tb w) (Td C tb) w
theorem RunR.td (h:RunR C tb ps fu ou tv Z T w):∀b,Td C tb b→T b:=by
  rintro b (rfl | hb | hb)
  · exact h.b.own
  · exact h.b.parts.2 _ hb
  · obtain ⟨g,e,_,hT,_⟩:=h.to b hb;simp at e;rw [e];exact hT
theorem RunR.tdlt (h:RunR C tb ps fu ou tv Z T w):∀b,Td C tb b→b < w.heap.size:=by
  rintro b (rfl | hb | hb)
  · exact h.b.lt
  · exact h.b.parts.1.lt _ hb
  · obtain ⟨g,e,hl,_,_⟩:=h.to b hb;simp at e;omega
theorem RunR.d (h:RunR C tb ps fu ou tv Z T w) (hd:∀g,T g→¬Z g) (hl:∀g,Z g→g < w.heap.size):jH C tb ps fu ou tv w:=by
  have hZ:∀g,Z g→Fr C tb w g:=fun g hg=>⟨hl g hg,fun ht=>hd _ (h.td _ ht) hg⟩;obtain ⟨⟨h1,h2,h3,h4,h5,h6,h7,h8⟩,h9,h10⟩:=h;refine ⟨⟨h1,h2,h3,.inl rfl,h5,⟨h6.1,fun g hg=> .inr (.inl hg)⟩,⟨h7.1,fun hn=>⟨hZ _ (h7.2 hn).1,av⟩⟩,⟨h8.1,fun hn=>⟨hZ _ (h8.2 hn).1,av⟩⟩⟩,fun q hq=> ?_,h10⟩;obtain ⟨g,e,k1,k2,k3⟩:=h9 q hq;exact ⟨g,e,k1,by simp at e;exact .inr (.inr (e ▸ hq)),k3⟩
theorem RunR.fr (h:RunR C tb ps fu ou tv Z T w) (hd:∀g,T g→¬Z g) (hl:∀g,Z g→g < w.heap.size) {Φ:ZP} (hz:Φ.P Z w):Φ.P (Fr C tb w) w:=
  Φ.st (fun g hg=>⟨hl g hg,fun ht=>hd _ (h.td _ ht) hg⟩) (Ext.refl _ w) hz
theorem jH.back (h':jH C tb ps' fu' ou' tv' w') (h:RunR C tb ps fu ou tv Z T w) (hx:Ext (Td C tb) w w') (hd:∀g,T g→¬Z g) (hZ:∀g,Z g→Z' g):RunR C tb ps' fu' ou' tv' Z' T w':=by
  have hm:Ext (fun g=>¬Z g) w w':=hx.mono fun g _ hg hz=>hd _ (h.td _ hg) hz;obtain ⟨⟨h1,h2,h3,h4,h5,h6,h7,h8⟩,h9,h10⟩:=h';refine ⟨⟨h1,h2,h3,h.b.own,h5,⟨h6.1,h.b.parts.2⟩,(fb gR Al C.cv.v C.E.cs).st hZ hm h.b.chars,(fb lM Al C.lv.v C.E.pl).st hZ hm h.b.places⟩,fun q hq=> ?_,h10⟩;obtain ⟨g,e,k1,k2,k3⟩:=h9 q hq;obtain ⟨g',e',j1,j2,j3⟩:=h.to q hq;refine ⟨g,e,k1,?_,k3⟩;simp at e e';rw [←e,e'];exact j2
end
section
variable {N:bj}
def lB (N:bj) (tag t:Nat) (C:Cfg) (tb:Option Nat) (ps:Ps) (fu:Nat) (ou:Bool) (tv:Int) (v:Value):Spec N:=⟨some tag,t,fun Z T u w=>u=v∧RunR C tb ps fu ou tv Z T w,fun Z Z' T u w w' hz he h=>⟨h.1,RunR.loc hz he h.2⟩,fun u=>u=v,fun _ _ _ _ h=>h.1⟩
def ot (N:bj) (tag t:Nat) (C:Cfg) (tb:Option Nat) (ps:Ps) (fu:Nat) (ou:Bool) (tv:Int):Spec N:=⟨some tag,t,fun Z T u w=>RunR C tb ps fu ou tv Z T w,fun Z Z' T u w w' hz he h=>RunR.loc hz he h,fun _=>True,fun _ _ _ _ _=>trivial⟩
def Ig (N:bj) (C:Cfg) (tb:Option Nat) (ps:Ps) (fu:Nat) (ou:Bool) (tv:Int):Ini N:=⟨fun Z T w=>RunR C tb ps fu ou tv Z T w,fun Z Z' T w w' hz he h=>RunR.loc hz he h⟩
abbrev ir {N:bj} {C:Cfg} {tb:Option Nat} {ps:Ps} {fu:Nat} {ou:Bool} {tv:Int} {Z T:bj} {w:World} (_:RunR C tb ps fu ou tv Z T w):Ini N:=Ig N C tb ps fu ou tv
end
theorem BW {τ:Nat→bj} {w:World}:∀g,gO τ w g→g < w.heap.size:=fun _ h=>h.1
theorem lC {τ:Nat→bj} {w:World} {t:Nat}:∀g,τ t g→¬gO τ w g:=fun g h hz=>hz.2 _ h
theorem kk {τ:Nat→bj} {w w':World} (h:w.heap.size≤w'.heap.size):∀g,gO τ w g→gO τ w' g:=fun _ hz=>⟨dM hz.1 h,hz.2⟩
section
variable {N:bj} {P:Program} {ops:Array Oper} {sp:List (Spec N)} {In:Nat→Ini N} {a0:Act} {w0:World} {bf:List Nat} {j:Nat} {o:Oper} {s:Spec N} {done:Nat→Bool} {a:Act} {w:World} {τ:Nat→bj} {C:Cfg} {tb:Option Nat} {ps ps':Ps} {fu fu':Nat} {ou ou':Bool} {tv tv':Int}
theorem Cx.ir (c:Cx ops sp In a0 w0 bf j o done a w τ) (t:Nat) (hI:In t=Ig N C tb ps fu ou tv) (hl:cr (sp.map (·.tag)) t j=none:=by exact rfl) (hord:lX (sp.map (·.tag)) bf t j=true:=by kernel_rfl):RunR C tb ps fu ou tv (gO τ w) (τ t) w:=c.ini t _ hI hl hord
theorem Cx.rr {t slot:Nat} {v:Value} (c:Cx ops sp In a0 w0 bf j o done a w τ) (i:Nat) (hs:sp[i]? =some (lB N t slot C tb ps fu ou tv v)) (hl:cr (sp.map (·.tag)) t j=some i:=by exact rfl) (hord:lX (sp.map (·.tag)) bf t j=true:=by kernel_rfl):RunR C tb ps fu ou tv (gO τ w) (τ t) w:=(c.res i t _ hs hl hord).2
theorem Cx.rv {t slot:Nat} {v:Value} (c:Cx ops sp In a0 w0 bf j o done a w τ) (i:Nat) (hs:sp[i]? =some (lB N t slot C tb ps fu ou tv v)) (hb:(bf.getD j 0).testBit i=true:=by exact rfl):a.eval (.tmp slot)=v:=c.J.pur i _ hs (c.pre i hb)
theorem kO {tag t:Nat} {v:Value} (h:∀{done a w τ},Cx ops sp In a0 w0 bf j o done a w τ→∃g args,hN P a o w g args∧Calls P g args w (fun e w'=>e= .returned v∧Ext (τ tag) w w'∧RunR C tb ps fu ou tv (gO τ w') (τ tag) w'))
    (hs:s=lB N tag t C tb ps fu ou tv v:=by exact rfl) (hg:o.guard=none:=by exact rfl) (hd:o.dst=some t:=by exact rfl):Ob ops sp In a0 w0 P bf j o s:=by
  subst hs;refine mh (tag:=tag) hg rfl fun done a w τ c=> ?_;obtain ⟨g,args,h1,h2⟩:=h c;refine ⟨g,args,h1,h2.mono fun e w' ⟨he,hx,hb⟩=>⟨v,he,hx,τ tag,fun g h=> .inl h,?_,hb.mono (mQ fun _ h=>h) fun _ h=>h⟩⟩;show be (a.put o.dst v) t=v;rw [hd,eJ a t t _ (c.lt t hd),if_pos rfl]
theorem BX {tag t:Nat} (h:∀{done a w τ},Cx ops sp In a0 w0 bf j o done a w τ→∃g args v,hN P a o w g args∧Calls P g args w (fun e w'=>e= .returned v∧Ext (τ tag) w w'∧RunR C tb ps fu ou tv (gO τ w') (τ tag) w'))
    (hs:s=ot N tag t C tb ps fu ou tv:=by exact rfl) (hg:o.guard=none:=by exact rfl):Ob ops sp In a0 w0 P bf j o s:=by
  subst hs;refine mh (tag:=tag) hg rfl fun done a w τ c=> ?_;obtain ⟨g,args,v,h1,h2⟩:=h c;exact ⟨g,args,h1,h2.mono fun e w' ⟨he,hx,hb⟩=>⟨v,he,hx,τ tag,fun g h=> .inl h,hb.mono (mQ fun _ h=>h) fun _ h=>h⟩⟩
theorem oV {tag t tt off:Nat} {x y:Operand} {v:Value} (hs:s=ot N tag t C tb ps fu' ou' tv) (hg:o.guard=none) (hd:o.dst=none) (ho:o.op= .store tt x y) (hsz:∀w,(sizeOf tt).run P w= .ok 1 w)
    (hv:v.cells=#[v]) (h1:v.oneCell'=true) (hfit:off+1≤17) (hc:C.cells fu' ou'=(C.cells fu ou).take off++ [v]++(C.cells fu ou).drop (off+1))
    (hp:∀{done a w τ},Cx ops sp In a0 w0 bf j o done a w τ→RunR C tb ps fu ou tv (gO τ w) (τ tag) w∧a.eval x= .pointer (some (C.ad.add off))∧a.eval y=v):Ob ops sp In a0 w0 P bf j o s:=by
  subst hs;refine fP hg rfl fun done a w τ c=> ?_;obtain ⟨hR,hx,hy⟩:=hp c;have hr:=run_store (P:=P) (t:=tt) (v:=v) (off:=off) hR.b.at' (by rw [hv];exact hsz) (by rw [hv];simpa [Cfg.cells,Bj] using hfit) (by rw [hv];simpa using h1);rw [hv] at hr;have hr':(execOp a.eval o).run P w= .ok .skip (w.setRow C.g (C.cells fu' ou').toArray):=by
    simp only [execOp,ho,hx,hy,Sem.run_bind];have e:C.ad.add off=⟨C.g,off,none⟩:=oN C.g off;rw [e,hr,hc];rfl
  have hext:=kB w C.g (C.cells fu' ou').toArray;refine kC hr' ⟨_,rfl,hext.mono fun k _ hk=>by subst hk;exact hR.b.own,τ tag,fun g h=> .inl h,?_⟩;have hm:Ext (fun g=>¬gO τ w g) w (w.setRow C.g (C.cells fu' ou').toArray):=hext.mono fun k _ hk=>by subst hk;exact lC _ hR.b.own
  have hsz2:w.heap.size≤(w.setRow C.g (C.cells fu' ou').toArray).heap.size:=hext.size;have hzz:∀g,gO τ w g→gO (qF τ tag (τ tag)) (w.setRow C.g (C.cells fu' ou').toArray) g:=fun g hz=>mQ (fun _ h=>h) g (kk hsz2 g hz);obtain ⟨⟨k1,k2,k3,k4,k5,k6,k7,k8⟩,k9,k10⟩:=hR;refine ⟨⟨k1,k2,by simpa [World.setRow] using k3,k4,?_,⟨iD.keep k6.1 hext fun g hg he=>k1.pg g hg he,k6.2⟩,(fb gR Al C.cv.v C.E.cs).st hzz hm k7,(fb lM Al C.lv.v C.E.pl).st hzz hm k8⟩,fun q hq=> ?_,k10⟩
  · exact setRow_heap w C.g _ _ C.rt _ k5
  · obtain ⟨g,e,l1,l2,l3⟩:=k9 q hq;refine ⟨g,e,dM l1 hsz2,l2,?_⟩;rw [hext.block g l1 (by simp at e;intro he;exact (k10 q hq).1 (by rw [e,he]))];exact l3
end
section
variable {N:bj} {l:List Oper} {sp:List (Spec N)} {il:List (Ini N)} {a0 a:Act} {w:World} {τ:Nat→bj} {C:Cfg} {tb:Option Nat} {ps:Ps} {fu:Nat} {ou:Bool} {tv:Int}
theorem Fin.ir (h:Fin l sp il a0 a w τ) (t:Nat) (hI:gJ il t=Ig N C tb ps fu ou tv) (hl:cr (sp.map (·.tag)) t sp.length=none:=by exact rfl):RunR C tb ps fu ou tv (gO τ w) (τ t) w:=by
  have:=h.ini t hl;rw [hI] at this;exact this
theorem Fin.rv {t slot:Nat} {v:Value} (h:Fin l sp il a0 a w τ) (j:Nat) (hs:sp[j]? =some (lB N t slot C tb ps fu ou tv v)) (hl:cr (sp.map (·.tag)) t sp.length=some j:=by exact rfl):be a slot=v:=(h.res j t _ hs rfl hl).1
theorem Fin.rr {t slot:Nat} {v:Value} (h:Fin l sp il a0 a w τ) (j:Nat) (hs:sp[j]? =some (lB N t slot C tb ps fu ou tv v)) (hl:cr (sp.map (·.tag)) t sp.length=some j:=by exact rfl):RunR C tb ps fu ou tv (gO τ w) (τ t) w:=(h.res j t _ hs rfl hl).2
theorem Fin.r0 {t slot:Nat} (h:Fin l sp il a0 a w τ) (j:Nat) (hs:sp[j]? =some (ot N t slot C tb ps fu ou tv)) (hl:cr (sp.map (·.tag)) t sp.length=some j:=by exact rfl):RunR C tb ps fu ou tv (gO τ w) (τ t) w:=h.res j t _ hs rfl hl
end
end
section
open Go.RowKit
abbrev jr {N:bj} {τ:Nat→bj} {w:World} {C:Cfg} {tb:Option Nat} {ps:Ps} {fu t:Nat} {ou:Bool} {tv:Int} (h:RunR C tb ps fu ou tv (gO τ w) (τ t) w):IE N τ w:=⟨Ig N C tb ps fu ou tv,t,h⟩
end
section
open Go.RowKit Srt
section
variable {P:Program} {a:Act} {o:Oper} {w:World}
theorem JS {x x1:Operand} {ts:Array TypeId} {v1:Value} {f:FuncId} {caps:Array Value} (ho:o.op= .call { callee:= .value x,args:=#[x1],argTypes:=ts }) (hx:a.eval x= .func (.func f) #[] caps) (hcall:∀args w,(callFunc f args).run P w= .ok (.enter f args) w) (h1:a.eval x1=v1):hN P a o w f (#[v1]++caps):=
  pV ho hx hcall (by simp [h1])
theorem uV {f:FuncId} {x1 x2 x3 x4 x5:Operand} {v1 v2 v3 v4 v5:Value} (ho:o.op= .makeFunc (.func f) #[] #[x1,x2,x3,x4,x5]) (h1:a.eval x1=v1) (h2:a.eval x2=v2) (h3:a.eval x3=v3) (h4:a.eval x4=v4) (h5:a.eval x5=v5):cA P a o w (.func (.func f) #[] #[v1,v2,v3,v4,v5]):=by
  subst h1 h2 h3 h4 h5;simp [cA,execOp,ho,Instr.makeFunc]
theorem BY {t e:TypeId} {x y:Operand} {v:Value} {n m lo hi i:Nat} {k:IntKind} (ho:o.op= .indexAddr t x y) (ht:P.underlying t=some (.slice e)) (hz:∀w,(sizeOf e).run P w= .ok m w) (hx:a.eval x=iF v lo hi m) (hv:pw v n) (hy:a.eval y= .int k (i:Int)) (h1:lo+i < hi) (h2:hi≤n):
    cA P a o w (.pointer (some ((ee v).add ((lo+i) * m)))):=by
  rcases hv with ⟨_,rfl⟩ | ⟨b,cap,rfl,hc,_⟩
  · omega
  · have hne:¬cap=lo:=by omega
    have h3:(i:Int) < ((hi - lo:Nat):Int):=by omega
    have h0:(0:Int)≤(i:Int):=by omega
    have e2:iF (.slice (some b) n cap) lo hi m= .slice (some (b.add (lo * m))) (hi - lo) (cap - lo):=by simp [iF,hne]
    rw [e2] at hx;have hq:=aX (w:=w) (n:=hi - lo) ho ht hz hx (.inr ⟨_,_,rfl,by omega,by omega⟩) hy h0 h3;have e3:ee (.slice (some (b.add (lo * m))) (hi - lo) (cap - lo))=b.add (lo * m):=rfl;rw [e3,add_add,gG,←ix] at hq;exact hq
theorem xY {v:Value} {n lo hi m:Nat} (hv:pw v n) (h1:lo≤hi) (h2:hi≤n):pw (iF v lo hi m) (hi - lo):=by
  rcases hv with ⟨rfl,rfl⟩ | ⟨b,cap,rfl,hc,hm⟩
  · left;simp [iF];omega
  · right;exact ⟨if cap=lo then b else b.add (lo * m),cap - lo,by simp only [iF];split <;> rfl,by omega,by omega⟩
theorem xZ {dT sT ty elem:TypeId} {g o' dLen dCap:Nat} {sa:Option Addr} {sLen sCap m:Nat} {cur:Array Value} {t:TypeId} {cs:List Value}
    (hu:P.underlying dT=some (.slice elem)) (hs:(P.info? elem).map (·.size)=some m)
    (hg:w.heap[g]? =some (.cells cur t (0,0))) (hn:cs.length=Nat.min sLen dLen * m)
    (hsrc:∀ad,sa=some ad→∀j v,cs[j]? =some v→w.cell? (ad.add j)=some v) (hsn:sa=none→cs=[]) (hfit:o'+cs.length≤cur.size) (h1:∀v ∈ cs,v.oneCell'=true):
    (Builtin.copy_ #[dT,sT] ty #[.slice (some ⟨g,o',none⟩) dLen dCap,.slice sa sLen sCap]).run P w=
      .ok (goInt (Nat.min sLen dLen)) (w.setRow g (cur.toList.take o'++cs++cur.toList.drop (o'+cs.length)).toArray):=by
  have hst:=run_storeCells_at P g o' t cs 0 cur w hg (by simpa using hfit) h1;cases hq:P.info? elem with
  | none => simp [hq] at hs
  | some i =>
    have hi:i.size=m:=by simpa [hq] using hs
    cases sa with
    | none =>
      have hc:=hsn rfl;subst hc;simp only [ls] at hst;simp [Builtin.copy_,run_underlying hu,Builtin.lenOf,Builtin.firstCells,sizeOf,typeInfo,hq,hi,hst]
    | some ad =>
      have hl:=run_loadCells_list (P:=P) w ad cs (hsrc ad rfl);rw [hn] at hl;simp only [ls] at hst;simp [Builtin.copy_,run_underlying hu,Builtin.lenOf,Builtin.firstCells,sizeOf,typeInfo,hq,hi,hl,hst]
end
section
variable {α:Type} {E:Enc α} {ty:Nat} {P:Program} {w:World}
theorem uW {dT sT rt elem:TypeId} {v u:Value} {xs ys:List α} {lo hi:Nat} (h:iD E ty w v xs) (hu:SlT E w u ys) (hdT:P.underlying dT=some (.slice elem)) (hsz:(P.info? elem).map (·.size)=some E.sz)
    (h1:lo≤hi) (h2:hi≤xs.length) (hl:ys.length=hi - lo):
    ∃w',(Builtin.copy_ #[dT,sT] rt #[iF v lo hi E.sz,u]).run P w= .ok (goInt ys.length) w'∧iD E ty w' v (xs.take lo++ys++xs.drop hi)∧Ext (fun k=>v.ownBlock=some k) w w':=by
  have hpos:=E.pos;have hxl:(xs.take lo++ys++xs.drop hi).length=xs.length:=by simp;omega
  rcases h.2 with ⟨rfl,h0⟩ | ⟨g,cap,cur,rfl,hb,hg,g2,g3,g4,g5⟩
  · obtain rfl:hi=0:=by omega
    obtain rfl:lo=0:=by omega
    have hy:ys=[]:=cg (by omega);have hx:xs=[]:=cg (by omega);subst hy;subst hx;refine ⟨w,?_,by simpa using h,Ext.refl _ _⟩;cases hq:P.info? elem with
    | none => simp [hq] at hsz
    | some i =>
      rcases hu.sl with ⟨rfl,_⟩ | ⟨b,cap,rfl,_⟩
      · simp [iF,Builtin.copy_,run_underlying hdT,Builtin.lenOf,Builtin.firstCells,sizeOf,typeInfo,hq]
      · have hl0:(loadCells b 0).run P w= .ok #[] w:=by simpa using run_loadCells_list (P:=P) w b [] (by simp)
        simp [iF,Builtin.copy_,run_underlying hdT,Builtin.lenOf,Builtin.firstCells,sizeOf,typeInfo,hq,hl0]
  · have hcs:(E.row ys).length=ys.length * E.sz:=E.row_length _;have hm1:hi * E.sz≤xs.length * E.sz:=jL _ h2;have hm2:xs.length * E.sz≤cap * E.sz:=jL _ g2;have hm3:lo * E.sz+ys.length * E.sz=hi * E.sz:=by rw [←ix];congr 1;omega
    obtain ⟨sa,sCap,hue,hsa,hsn⟩:∃sa sCap,u= .slice sa ys.length sCap∧(∀ad,sa=some ad→∀j x,(E.row ys)[j]? =some x→w.cell? (ad.add j)=some x)∧(sa=none→E.row ys=[]):=by
      rcases hu.sl with ⟨e,h0⟩ | ⟨b,cap2,e,_⟩
      · refine ⟨none,0,by rw [e,h0],fun _ h=>(by cases h),fun _=> ?_⟩;rw [cg h0];rfl
      · refine ⟨some b,cap2,e,fun ad h j x hj=> ?_,fun h=>by cases h⟩;cases h
        have:=hu.cell j x hj;rw [e] at this;exact this
    subst hue;by_cases hc:cap=lo
    · obtain rfl:hi=lo:=by omega
      have hy:ys=[]:=cg (by omega);subst hy;have hr:=xZ (P:=P) (sT:=sT) (ty:=rt) (o':=0) (dLen:=0) (dCap:=0) (sa:=sa) (sLen:=0) (sCap:=sCap) (cs:=[]) hdT hsz hg (by simp) (fun _ _ j v hj=>by simp at hj) (fun _=>rfl) (by simp) (by simp);have hw:w.setRow g (cur.toList.take 0++ []++cur.toList.drop (0+([]:List Value).length)).toArray=w:=by
        simp only [List.take_zero,eN,aC,ls,nU,Array.toArray_toList];exact setRow_self w g cur ty (0,0) hg
      rw [hw] at hr;refine ⟨w,?_,by simpa using h,Ext.refl _ _⟩;have e2:iF (.slice (some ⟨g,0,none⟩) xs.length cap) hi hi E.sz= .slice (some ⟨g,0,none⟩) 0 0:=by simp [iF,hc]
      rw [e2];simpa using hr
    · have e2:iF (.slice (some ⟨g,0,none⟩) xs.length cap) lo hi E.sz= .slice (some ⟨g,lo * E.sz,none⟩) (hi - lo) (cap - lo):=by
        simp [iF,hc,oN]
      have hmin:Nat.min ys.length (hi - lo)=ys.length:=by rw [hl];exact Nat.min_self _
      have hr:=xZ (P:=P) (sT:=sT) (ty:=rt) (o':=lo * E.sz) (dLen:=hi - lo) (dCap:=cap - lo) (sa:=sa) (sLen:=ys.length) (sCap:=sCap) (cs:=E.row ys) hdT hsz hg (by rw [hmin,hcs]) hsa hsn (by rw [hcs];omega) E.row_one;rw [hmin] at hr;rw [e2];refine ⟨_,hr,⟨by rw [E.row_length],.inr ⟨g,cap,_,by rw [hxl],hb,setRow_heap w g cur _ ty _ hg,by rw [hxl];exact g2,g3,?_,?_⟩⟩,(kB w g _).mono fun k _ h=>by rw [h];rfl⟩
      · simp only [aF,aQ,ed,fw,gD,hcs];omega
      · rw [hxl];have e3:E.row (xs.take lo++ys++xs.drop hi)=(E.row xs).take (lo * E.sz)++E.row ys++(E.row xs).drop (hi * E.sz):=by
          rw [E.row_append,E.row_append,E.row_take,E.row_drop]
        rw [e3,←g5,List.take_take,List.drop_take,hcs,hm3];have e4:min (lo * E.sz) (xs.length * E.sz)=lo * E.sz:=by omega
        rw [e4];have hA:(cur.toList.take (lo * E.sz)++E.row ys).length=hi * E.sz:=by simp [hcs];omega
        show (cur.toList.take (lo * E.sz)++E.row ys++cur.toList.drop (hi * E.sz)).take (xs.length * E.sz)=_;rw [ke,hA,bw (by omega)]
end
section
variable {C:Cfg} {ps ps':Ps} {fu:Nat} {ou:Bool} {tv:Int} {tb:Option Nat} {Z Z' T:bj} {w w':World}
theorem RunB.turn (h:RunB C ps fu ou Z T w) (hx:Ext (fun k=>C.pv.v.ownBlock=some k) w w') (ho:iD cF C.st w' C.pv.v ps') (hl:ps'.length=ps.length) (hZ:∀g,Z g→Z' g) (hd:∀g,T g→¬Z g):RunB C ps' fu ou Z' T w':=by
  have hm:Ext (fun g=>¬Z g) w w':=hx.mono fun g _ hg hz=>hd _ (h.parts.2 g hg) hz;obtain ⟨k1,k2,k3,k4,k5,k6,k7,k8⟩:=h;refine ⟨k1,hl.trans k2,dM k3 hx.size,k4,?_,⟨ho,k6.2⟩,(fb gR Al C.cv.v C.E.cs).st hZ hm k7,(fb lM Al C.lv.v C.E.pl).st hZ hm k8⟩;rw [hx.block C.g k3 fun hb=>k1.pg _ hb rfl];exact k5
theorem RunR.turn (h:RunR C tb ps fu ou tv Z T w) (hx:Ext (fun k=>C.pv.v.ownBlock=some k) w w') (ho:iD cF C.st w' C.pv.v ps') (hl:ps'.length=ps.length) (hZ:∀g,Z g→Z' g) (hd:∀g,T g→¬Z g):RunR C tb ps' fu ou tv Z' T w':=by
  refine ⟨h.b.turn hx ho hl hZ hd,fun q hq=> ?_,h.tg⟩;obtain ⟨g,e,l1,l2,l3⟩:=h.to q hq;refine ⟨g,e,dM l1 hx.size,l2,?_⟩;rw [hx.block g l1 fun hb=>(h.tg q hq).2 _ hb (by simp at e;exact e.symm)];exact l3
theorem jc {ps:Ps} {lo n:Nat} (h:lo+n≤ps.length):(noneR ps lo n).length=ps.length:=by
  simp [noneR];omega
end
section
variable {N:bj} {P:Program} {ops:Array Oper} {sp:List (Spec N)} {In:Nat→Ini N} {a0:Act} {w0:World} {bf:List Nat} {j:Nat} {o:Oper} {s:Spec N} {done:Nat→Bool} {a:Act} {w:World} {τ:Nat→bj} {C:Cfg} {tb:Option Nat} {ps ps':Ps} {fu fu':Nat} {ou ou':Bool} {tv tv':Int} {pc:Prop}
theorem jA {ty t:Nat} {cells:List Value} {x:Operand} {v:Value} (hgd:zF ops sp bf j o pc) (ho:o.op= .box ty x) (hc:v.cells=cells.toArray)
    (h:∀{done a w τ},Cx ops sp In a0 w0 bf j o done a w τ→pc→a.eval x=v)
    (hs:s=iA N t pc (fun b:Nat=> .pointer (some ⟨b,0,none⟩)) (fun _=>True) (fun b=>eY ⟨b,0,none⟩ cells):=by exact rfl) (hd:o.dst=some t:=by exact rfl):Ob ops sp In a0 w0 P bf j o s:=by
  subst hs;intro done a w τ c;refine ⟨fun hw=> ?_,fun hw=>⟨Ext.refl _ _,fun hp=>by rw [(hgd.known c).2 hp] at hw;cases hw⟩⟩;have hp:=(hgd.known c).1 hw;have hr:(execOp a.eval o).run P w= .ok (.value (.pointer (some ⟨w.heap.size,0,none⟩))) (w.alloc (.cells cells.toArray ty)):=by
    simp only [execOp,ho,h c hp,Instr.box,newVar,newRow,newObj,hc];rfl
  refine iu hr ⟨_,rfl,Ext.alloc _ _ _,fun _=>⟨w.heap.size,?_,av,⟨⟨by simp,fun t ht=> ?_⟩,fun j u hu=> ?_⟩⟩⟩
  · show be (a.put o.dst _) t=_;rw [hd,eJ a t t _ (c.lt t hd),if_pos rfl]
  · have:=(c.J.bnd t _ ht).2;exact absurd this (Nat.lt_irrefl _)
  · exact (yl (ty:=ty) (cells:=cells) (w:=w)).cell hu
def JT {α:Type} (E:Enc α) (ty:Nat) (N:bj) (tag t:Nat) (v:Value) (xs:List α):Spec N:=⟨some tag,t,fun _ T _ w=>ep E ty xs T v w,fun _ _ T u w w' _ h hr=>mY T v w w' h.less hr,fun _=>True,fun _ _ _ _ _=>trivial⟩
theorem Ej {α:Type} {E:Enc α} {ty tag t tt i:Nat} {v:Value} {xs:List α} {x x':α} {p q:Operand} {u:Value} (hs:s=JT E ty N tag t v (xs.set i x')) (hg:o.guard=none) (hd:o.dst=none) (ho:o.op= .store tt p q) (hsz:∀w,(sizeOf tt).run P w= .ok u.cells.size w)
    (hx:xs[i]? =some x) (hl:0+u.cells.size≤E.sz) (h1:∀c ∈ u.cells.toList,c.oneCell'=true) (hc:E.cells x'=lh (E.cells x) 0 u.cells.toList)
    (hp:∀{done a w τ},Cx ops sp In a0 w0 bf j o done a w τ→ep E ty xs (τ tag) v w∧a.eval p= .pointer (some ((ee v).add (i * E.sz)))∧a.eval q=u):Ob ops sp In a0 w0 P bf j o s:=by
  subst hs;refine fP hg rfl fun done a w τ c=> ?_;obtain ⟨⟨hown,hT⟩,hp',hq⟩:=hp c;obtain ⟨w',hr,h2,h3⟩:=oY (P:=P) (tt:=tt) hown hx hsz hl h1 hc;have hr':(execOp a.eval o).run P w= .ok .skip w':=by
    have hr2:(Instr.storeAt tt (.pointer (some ((ee v).add (i * E.sz)))) u).run P w= .ok () w':=hr;simp only [execOp,ho,hp',hq,Sem.run_bind,hr2];rfl
  exact kC hr' ⟨_,rfl,h3.mono fun k _ hk=>hT k hk,τ tag,fun g h=> .inl h,h2,hT⟩
theorem wO {tag t tt i:Nat} {x x':Int × Int} {p q:Operand} (hs:s=ot N tag t C tb (ps.set i x') fu ou tv) (hg:o.guard=none) (hd:o.dst=none) (ho:o.op= .store tt p q) (hsz:∀w,(sizeOf tt).run P w= .ok 2 w)
    (hx:ps[i]? =some x)
    (hp:∀{done a w τ},Cx ops sp In a0 w0 bf j o done a w τ→RunR C tb ps fu ou tv (gO τ w) (τ tag) w∧a.eval p= .pointer (some ((ee C.pv.v).add (i * 2)))∧a.eval q=fB x'):Ob ops sp In a0 w0 P bf j o s:=by
  subst hs;refine fP hg rfl fun done a w τ c=> ?_;obtain ⟨hR,hp',hq⟩:=hp c;obtain ⟨w',hr,h2,h3⟩:=oY (P:=P) (tt:=tt) (u:=fB x') (off:=0) (x':=x') hR.b.parts.1 hx (by exact hsz) (by exact bz _) (by simp [fB,Value.cells,Value.oneCell']) (by
    simp [cF,fB,Value.cells,lh])
  have hr':(execOp a.eval o).run P w= .ok .skip w':=by
    have hr2:(Instr.storeAt tt (.pointer (some ((ee C.pv.v).add (i * 2)))) (fB x')).run P w= .ok () w':=hr;simp only [execOp,ho,hp',hq,Sem.run_bind,hr2];rfl
  exact kC hr' ⟨_,rfl,h3.mono fun k _ hk=>hR.b.parts.2 k hk,τ tag,fun g h=> .inl h,hR.turn h3 h2 (by simp) (fun g hz=>mQ (fun _ h=>h) g (kk h3.size g hz)) fun g h=>lC g h⟩
theorem wP {tag t dT sT e lo hi:Nat} {ys:Ps} {x y:Operand} (hs:s=lB N tag t C tb (ps.take lo++ys++ps.drop hi) fu ou tv (.int .i64 (ys.length:Int))) (hg:o.guard=none) (hd:o.dst=some t)
    (ho:o.op= .call { callee:= .builtin .copy,args:=#[x,y],argTypes:=#[dT,sT] }) (hdT:P.underlying dT=some (.slice e)) (hsz:(P.info? e).map (·.size)=some 2)
    (h1:lo≤hi) (h2:hi≤ps.length) (hl:ys.length=hi - lo)
    (hp:∀{done a w τ},Cx ops sp In a0 w0 bf j o done a w τ→RunR C tb ps fu ou tv (gO τ w) (τ tag) w∧a.eval x=iF C.pv.v lo hi 2∧∃u,a.eval y=u∧SlT cF w u ys):Ob ops sp In a0 w0 P bf j o s:=by
  subst hs;refine fP hg rfl fun done a w τ c=> ?_;obtain ⟨hR,hx,u,hy,hu⟩:=hp c;obtain ⟨w',hr,k2,k3⟩:=uW (P:=P) (sT:=sT) (rt:=o.type) hR.b.parts.1 hu hdT hsz h1 h2 hl;have hr':(execOp a.eval o).run P w= .ok (.value (.int .i64 (ys.length:Int))) w':=by
    have hr2:(Builtin.copy_ #[dT,sT] o.type #[iF C.pv.v lo hi 2,u]).run P w= .ok (goInt ys.length) w':=hr;simp only [execOp,ho,resolve,invoke,builtin,Sem.run_bind,Sem.run_pure,Result.andThen_ok,fZ,aB,aH,hx,hy,hr2];rfl
  refine iu hr' ⟨_,rfl,k3.mono fun k _ hk=>hR.b.parts.2 k hk,τ tag,fun g h=> .inl h,?_,hR.turn k3 k2 (by simp;omega) (fun g hz=>mQ (fun _ h=>h) g (kk k3.size g hz)) fun g h=>lC g h⟩;show be (a.put o.dst _) t=_;rw [hd,eJ a t t _ (c.lt t hd),if_pos rfl]
theorem tA {α:Type} {E:Enc α} {ty e tag t:Nat} {ys:List α} {y:Operand} {z:Value} {i:TypeInfo} (hs:s=own E e N tag t ys) (hg:o.guard=none) (hd:o.dst=some t)
    (ho:o.op= .call { callee:= .builtin .append,args:=#[.const (.slice none 0 0),y],argTypes:=#[ty,ty] })
    (hty:P.underlying ty=some (.slice e)) (hi:P.info? e=some i) (hz:i.zero=some z) (hsize:i.size=E.sz) (hzs:z.cells.size=E.sz)
    (h63:ys.length≤maxLen) (hby:ys.length * i.bytes≤140737488355328)
    (hp:∀{done a w τ},Cx ops sp In a0 w0 bf j o done a w τ→∃u,a.eval y=u∧SlT E w u ys):Ob ops sp In a0 w0 P bf j o s:=by
  subst hs;refine fP hg rfl fun done a w τ c=> ?_;obtain ⟨u,hy,hsl⟩:=hp c;obtain ⟨v',w',hr,h2,h3,h4⟩:=ss (P:=P) (E:=E) ty o.type e i z hty hi hz hsize hzs (iD.nil E e w) hsl (by simpa using h63) (by simpa using hby);have hr':(execOp a.eval o).run P w= .ok (.value v') w':=by
    simp only [execOp,ho,resolve,invoke,builtin,Sem.run_bind,Sem.run_pure,Result.andThen_ok,fZ,aB,aH,hy];have hr2:(Builtin.append_ #[ty,ty] o.type #[a.eval (.const (.slice none 0 0)),u]).run P w= .ok v' w':=hr;simp only [hr2];rfl
  rw [eN] at h2;refine iu hr' ⟨_,rfl,h3.mono (fun k _ h=>by simp [Value.ownBlock] at h),fun g=>v'.ownBlock=some g,fun g hg=>(h4 g hg).elim (fun h=>by simp [Value.ownBlock] at h) (fun h=> .inr h),?_⟩;show ep E e ys _ (be (a.put o.dst _) t) _;rw [hd,eJ a t t _ (c.lt t hd),if_pos rfl];exact ⟨h2,fun g h=>h⟩
end
section
variable {N:bj} {l:List Oper} {sp:List (Spec N)} {il:List (Ini N)} {a0 a:Act} {w:World} {τ:Nat→bj}
theorem Fin.ov {α:Type} {E:Enc α} {ty t slot:Nat} {v:Value} {xs:List α} (h:Fin l sp il a0 a w τ) (j:Nat) (hs:sp[j]? =some (JT E ty N t slot v xs)) (hl:cr (sp.map (·.tag)) t sp.length=some j:=by exact rfl):ep E ty xs (τ t) v w:=h.res j t _ hs rfl hl
end
def jm (ps:Ps) (x:Rs):Ps:=match x.1 with
  | some y => y.2
  | none => ps
def jj (tv:Int) (x:Rs):Int:=match x.1 with
  | some y => (y.1 : Int)
  | none => tv
def pL (C:Cfg) (tb:Option Nat) (ps:Ps) (tv:Int) (x:Rs) (w:World) (e:Ending) (w':World):Prop:=e= .returned (.bool x.1.isSome)∧Ext (Td C tb) w w'∧jH C tb (jm ps x) x.2.1 x.2.2 (jj tv x) w'
def Lo (P:Program) (C:Cfg) (tb:Option Nat) (B:Nat) (K:cQ) (kf:Value) (Z:bj) (w:World):Prop:=∃f caps,kf= .func (.func f) #[] caps∧(∀args w,(callFunc f args).run P w= .ok (.enter f args) w)∧
  ∀(to:Nat) (ps:Ps) (fu:Nat) (tv:Int) (w2:World),Ext (fun g=>¬Z g) w w2→jH C tb ps fu false tv w2→to≤C.E.cs.length→fu < B→fu≤1000000→(∀g,Z g→Fr C tb w2 g)→Calls P f (#[.int .i64 (to:Int)]++caps) w2 (pL C tb ps tv (K to ps (fu,false)) w2)
def zK (P:Program) (C:Cfg) (tb:Option Nat) (B:Nat) (K:cQ) (kf:Value):ZP:=⟨fun Z w=>Lo P C tb B K kf Z w,fun hz he ⟨f,caps,h1,h2,h3⟩=>⟨f,caps,h1,h2,fun to ps fu tv w2 hx hR ht hf hm hfr=>h3 to ps fu tv w2 (he.trans (hx.mono fun g _ hn hg=>hn (hz g hg))) hR ht hf hm fun g hg=>hfr g (hz g hg)⟩⟩
section
variable {C:Cfg} {ps ps':Ps} {fu fu' B B':Nat} {ou ou':Bool} {tv tv':Int} {tb:Option Nat} {Z Z' T:bj} {w w':World} {P:Program} {K:cQ} {kf:Value}
theorem Lo.less (h:Lo P C tb B K kf Z w) (hB:B'≤B):Lo P C tb B' K kf Z w:=by
  obtain ⟨f,caps,h1,h2,h3⟩:=h;exact ⟨f,caps,h1,h2,fun to ps fu tv w2 hx hR ht hf=>h3 to ps fu tv w2 hx hR ht (by omega)⟩
theorem BZ (h:(zK P C tb B K kf).P Z w):kf.cells=#[kf]:=by obtain ⟨f,caps,rfl,_⟩:=h;rfl
theorem jH.in {n:Nat} {a:Act} {τ:Nat→bj} (h:jH C tb ps fu ou tv w) (hτ:τ 0=Td C tb) (st:St (fun k=>Td C tb k∨w.heap.size≤k) w n a w τ):RunR C tb ps fu ou tv (gO τ w) (τ 0) w:=
  h.mono (fun g hg=>⟨hg.1,fun t ht=>(st.bnd t g ht).1.elim (fun h=>hg.2 h) (fun h=>by have:=hg.1;omega)⟩) (fun g hg=>by rw [hτ];exact hg)
theorem mN {n:Nat} {a:Act} {τ:Nat→bj} {Φ:ZP} (h:Φ.P (Fr C tb w) w) (st:St (fun k=>Td C tb k∨w.heap.size≤k) w n a w τ):Fz Φ τ w:=
  Φ.st (fun g hg=>⟨hg.1,fun t ht=>(st.bnd t g ht).1.elim (fun h=>hg.2 h) (fun h=>by have:=hg.1;omega)⟩) (Ext.refl _ w) h
theorem jH.tdlt (h:jH C tb ps fu ou tv w):∀g,Td C tb g→g < w.heap.size:=RunR.tdlt h
theorem pM {τ:Nat→bj} {f:FuncId} {args:Array Value} {x:Rs} (h:RunR C tb ps fu ou tv (gO τ w) (τ 0) w) (hc:Calls P f args w (pL C tb ps tv x w)):
    Calls P f args w (fun e w'=>e= .returned (.bool x.1.isSome)∧Ext (τ 0) w w'∧RunR C tb (jm ps x) x.2.1 x.2.2 (jj tv x) (gO τ w') (τ 0) w'):=
  hc.mono fun e w' ⟨h1,h2,h3⟩=>⟨h1,h2.mono fun g _ hg=>h.td g hg,h3.back h h2 (fun g hg=>lC g hg) (kk h2.size)⟩
theorem Jc {τ:Nat→bj} {f:FuncId} {args:Array Value} {v:Value} (h:RunR C tb ps fu ou tv (gO τ w) (τ 0) w) (hc:Calls P f args w (fun e w'=>e= .returned v∧Ext (Td C tb) w w'∧jH C tb ps' fu' ou' tv' w')):
    Calls P f args w (fun e w'=>e= .returned v∧Ext (τ 0) w w'∧RunR C tb ps' fu' ou' tv' (gO τ w') (τ 0) w'):=
  hc.mono fun e w' ⟨h1,h2,h3⟩=>⟨h1,h2.mono fun g _ hg=>h.td g hg,h3.back h h2 (fun g hg=>lC g hg) (kk h2.size)⟩
theorem nO {x:Rs} (h:x.1.isSome=false):jm ps x=ps:=by
  unfold jm;cases hx:x.1 with
  | none => rfl
  | some y => rw [hx] at h; cases h
theorem uA {x:Rs} (h:x.1.isSome=false):jj tv x=tv:=by
  unfold jj;cases hx:x.1 with
  | none => rfl
  | some y => rw [hx] at h; cases h
theorem ya {x:Rs} (h:x.1.isSome=true):jm ps x=jm ps' x:=by
  unfold jm;cases hx:x.1 with
  | none => rw [hx] at h; cases h
  | some y => rfl
theorem RunR.nope {x:Rs} (h:RunR C tb (jm ps x) fu ou (jj tv x) Z T w) (hx:x.1.isSome=false):RunR C tb ps fu ou tv Z T w:=by rwa [nO hx,uA hx] at h
theorem RunR.yep {x:Rs} (h:RunR C tb (jm ps x) fu ou (jj tv x) Z T w) (hx:x.1.isSome=true):RunR C tb (jm ps' x) fu ou (jj tv x) Z T w:=by rwa [ya hx] at h
theorem RunR.ouf (h:RunR C tb ps fu ou tv Z T w) (ho:ou=false):RunR C tb ps fu false tv Z T w:=ho ▸ h
theorem RunR.psc (h:RunR C tb ps fu ou tv Z T w) (e:ps'=ps):RunR C tb ps' fu ou tv Z T w:=e ▸ h
theorem tB {x:Rs} (h:x.1.isSome=false):x=(Option.none,x.2):=by
  obtain ⟨a,b⟩:=x;cases a with
  | none => rfl
  | some y => cases h
theorem Dq {v:Value} {lo hi m:Nat} (h:lo≤hi):iF v lo hi m=iF v lo (lo+(hi - lo)) m:=by rw [show lo+(hi - lo)=hi by omega]
theorem sG {τ:Nat→bj} {f:FuncId} {args:Array Value} {v:Value} (h:RunR C tb ps fu ou tv (gO τ w) (τ 0) w) (hl:ps'.length=ps.length) (hc:Calls P f args w (fun e w'=>e= .returned v∧iD cF C.st w' C.pv.v ps'∧Ext (fun k=>C.pv.v.ownBlock=some k) w w')):
    Calls P f args w (fun e w'=>e= .returned v∧Ext (τ 0) w w'∧RunR C tb ps' fu ou tv (gO τ w') (τ 0) w'):=
  hc.mono fun e w' ⟨h1,h2,h3⟩=>⟨h1,h3.mono fun g _ hg=>h.b.parts.2 g hg,h.turn h3 h2 hl (kk h3.size) fun g hg=>lC g hg⟩
theorem RunR.dz {τ:Nat→bj} (h:RunR C tb ps fu ou tv (gO τ w) (τ 0) w):jH C tb ps fu ou tv w:=h.d (fun g hg=>lC g hg) BW
theorem RunR.fz {τ:Nat→bj} {Φ:ZP} (h:RunR C tb ps fu ou tv (gO τ w) (τ 0) w) (hz:Φ.P (gO τ w) w):Φ.P (Fr C tb w) w:=h.fr (fun g hg=>lC g hg) BW hz
theorem ow {τ:Nat→bj} {a:Act} {o:Oper} {x x1:Operand} {ts:Array TypeId} {to:Nat} (h:RunR C tb ps fu false tv (gO τ w) (τ 0) w) (hk:(zK P C tb B K kf).P (gO τ w) w) (ht:to≤C.E.cs.length) (hf:fu < B) (hm:fu≤1000000)
    (ho:o.op= .call { callee:= .value x,args:=#[x1],argTypes:=ts }) (hx:a.eval x=kf) (h1:a.eval x1= .int .i64 (to:Int)):
    ∃g args,hN P a o w g args∧Calls P g args w (fun e w'=>e= .returned (.bool (K to ps (fu,false)).1.isSome)∧Ext (τ 0) w w'∧RunR C tb (jm ps (K to ps (fu,false))) (K to ps (fu,false)).2.1 (K to ps (fu,false)).2.2 (jj tv (K to ps (fu,false))) (gO τ w') (τ 0) w'):=by
  obtain ⟨f,caps,e1,e2,e3⟩:=hk;exact ⟨f,_,JS ho (hx.trans e1) e2 h1,pM h (e3 to ps fu tv w (Ext.refl _ _) h.dz ht hf hm fun g hg=>⟨BW g hg,fun ht=>lC g (h.td g ht) hg⟩)⟩
end
end
section
open Go.RowKit
open Srt
set_option maxRecDepth 100000 in
theorem AI (x:Int) (w:World):Calls Tryz.prog 84 #[aj x] w (fun e w'=>e= .returned (aE false)∧Ext aW w w'):=by
 refine enter (n:=6) Tryz.func84 rfl rfl (aw rfl) ?_;intro a0 τ0 ha st0;have e0:=oz ha;refine wp_seq (eK st0 [] ⟨aq fun c=>ax rfl rfl,av⟩ fun ac ag ae ab aa=> ?_);replace e0:=aa.k1 e0;have e2:=aa.V 0;refine wp_seq (lr [0,0,3,7] ab [] ⟨ao e0,ao e0,aq fun c=>fh rfl (c.q 0) (c.q 1),aK 2,av⟩ fun ac ag ae ab aa=> ?_);have e2:=aa.V 3;refine wp_ret ?_;refine rp ?_;refine cO (fn:=Tryz.f84) rfl ab.defers e2 ?_;exact ⟨by simp,ab.ext0⟩
set_option maxRecDepth 100000 in
theorem JU (x y:Int) (w:World):Calls Tryz.prog 83 #[aj x,aj y] w (fun e w'=>e= .returned (aE (decide (x < y)))∧Ext aW w w'):=by
 refine enter (n:=17) Tryz.func83 rfl rfl (aw rfl) ?_;intro a0 τ0 ha st0;obtain ⟨e0,e1⟩:=qG ha;refine wp_seq (eK st0 [] ⟨aq fun c=>ax rfl rfl,av⟩ fun ac ag ae ab aa=> ?_);obtain ⟨e0,e1⟩:=aa.k2 e0 e1;have e4:=aa.V 0;refine wp_seq (rg [_,_,_,js _ 8,js _ 9,js _ 10,_,_,_,_,_,_,_] [0,1,3,7,15,31,63,127,255,255,1023,2047,4095] ab [] ⟨ao e0,eE fun c=>⟨_,_,(bK rfl rfl Tryz.call109 (c.q 0)),Hx x _⟩,bD 1,dK 2,dK 2,dK 2,aq fun c=>fg rfl (c.q 2) (fun h=>by cases h) (fun _=>rfl),bD 6,dg 7 (ao e0),dg 7 (ao e1),dg 7 (aq fun c=>cW rfl (c.q 8) (c.q 9)),aq fun c=>fg rfl (c.q 7) (fun h=>by cases h) (fun _=>c.n 10 rfl),aK 11,av⟩ fun ac ag ae ab aa=> ?_);have e4:=aa.V 12;refine wp_ret ?_;refine rp ?_;refine cO (fn:=Tryz.f83) rfl ab.defers e4 ?_;exact ⟨congrArg _ (congrArg _ (by simp)),ab.ext0⟩
def mO (xs:List Int) (x:Int):Bool:=decide ((plcF xs x:Int) < (xs.length:Int))&&decide (nth xs (plcF xs x:Int)=x)
theorem Jd {xs:List Int} {x:Int} {i h:Nat} (hp:xs.Pairwise (· < ·)) (hh:h < xs.length) (hl:nth xs (h:Int) < x):∀t:Nat,t < h+1→nth xs (t:Int) < x:=fun t ht=>by
  by_cases e:t=h
  · rw [e];exact hl
  · exact Int.lt_trans (ll hp (by omega) hh) hl
theorem Je {xs:List Int} {x:Int} {h:Nat} (hp:xs.Pairwise (· < ·)) (hl:¬nth xs (h:Int) < x):∀t:Nat,h≤t→t < xs.length→x≤nth xs (t:Int):=fun t ht htl=>by
  by_cases e:t=h
  · rw [e];omega
  · have:=ll hp (i:=h) (j:=t) (by omega) htl;omega
set_option maxRecDepth 100000 in
theorem Ek (v:Value) (xs:List Int) (x:Int) (w:World) (hS:SlT lM w v xs) (hp:xs.Pairwise (· < ·)) (hb:xs.length≤1000000000):Calls Tryz.prog 65 #[v,(aj x)] w (fun e w'=>e= .returned (.tuple #[aj (plcF xs x:Int),aE (mO xs x)])∧Ext aW w w'):=by
 refine enter (n:=54) Tryz.func65 rfl rfl (aw rfl) ?_;intro a0 τ0 ha st0;obtain ⟨e0,e1⟩:=qG ha;refine wp_seq (eA st0 [] ⟨aq fun c=>ax rfl rfl,aq fun c=>ax rfl rfl,av⟩ fun ac ag ae ab aa=> ?_);obtain ⟨e0,e1⟩:=aa.k2 e0 e1;have e4:=aa.V 0;have e5:=aa.V 1;refine wp_seq (fX ab [] ⟨ao e0,aq fun c=>dk rfl cE (c.q 0) hS.sl,aK 1,av⟩ fun ac ag ae ab aa=> ?_);obtain ⟨e0,e1,e4,e5⟩:=aa.k4 e0 e1 e4 e5;have e6:=aa.V 2;refine wp_seq (sf [0,0,3] ab [] ⟨ao e6,aq fun c=>ax rfl rfl,aK 0,av⟩ fun ac ag ae ab aa=> ?_);obtain ⟨e0,e1,e4,e5,e6⟩:=aa.k5 e0 e1 e4 e5 e6;have e7:=aa.V 1;have e8:=aa.V 2;refine wp_seq ?_;refine wp_block ?_;refine wp_loop (fun a_ w_=>∃(i j:Nat) (τ:Nat→bj),(i≤j)∧
      (j≤xs.length)∧
      (∀t:Nat,t < i→nth xs (t:Int) < x)∧
      (∀t:Nat,j≤t→t < xs.length→x≤nth xs (t:Int))∧
      St (Nw w) w 54 a_ w_ τ∧
      be a_ 7=(aj (i:Int))∧
      be a_ 8=(aj (j:Int))∧
      be a_ 0=v∧
      be a_ 1=(aj x)∧
      be a_ 4=(aj 0)∧
      be a_ 5=(aE false)∧
      be a_ 6=(aj (xs.length:Int))) (fun a_ _=>(intOf (be a_ 8)).toNat - (intOf (be a_ 7)).toNat) ?_ ?_
 · refine ⟨0,xs.length,ae,?_,?_,?_,?_,ab,(e7.trans (bB (by omega))),(e8.trans (bB (by omega))),e0,e1,e4,e5,e6⟩
   · omega
   · omega
   · intro t ht;omega
   · intro t h1 h2;omega
 intro a4 w4 hI;obtain ⟨i,j,τ4,q0,q1,q2,q3,st4,e7,e8,e0,e1,e4,e5,e6⟩:=hI;have m7:=e7;have m8:=e8;refine wp_seq ?_;refine wp_seq (sf [0,0,3] st4 [] ⟨ao e7,ao e8,aq fun c=>cW rfl (c.q 0) (c.q 1),av⟩ fun ac ag ae ab aa=> ?_);obtain ⟨e0,e1,e4,e5,e6,e7,e8⟩:=aa.k7 e0 e1 e4 e5 e6 e7 e8;have e15:=aa.V 2;refine wp_cond_split e15 (fun hc1=> ?_) (fun hc1=> ?_)
 · try simp only [ai] at hc1
   refine wp_skip ?_;refine wp_block ?_;refine wp_seq (ue [0,0,3,7,15,31,63] ab [] ⟨ao e7,ao e8,aq fun c=>cN rfl (c.q 0) (c.q 1) (by omega),aq fun c=>jw rfl bX cB (c.q 2) (by omega) (by omega) (by decide),aq fun c=>uc rfl (c.q 3) rfl,aq fun c=>jw rfl cB bX (c.q 4) (by omega) (by omega) (by decide),aK 5,av⟩ fun ac ag ae ab aa=> ?_);obtain ⟨e0,e1,e4,e5,e6,e7,e8,e15⟩:=aa.k8 e0 e1 e4 e5 e6 e7 e8 e15;have e9:=aa.V 6;obtain ⟨h,hh⟩:∃x_:Nat,((i:Int)+(j:Int)) / 2=(x_:Int):=⟨(i+j) / 2,by omega⟩;replace e9:=e9.trans (bB hh);refine wp_seq (Hm [0,0,3,7,0,31] ab [] ⟨ao e0,ao e9,aq fun c=>aX rfl cE aA (c.q 0) hS.sl (c.q 1) (by omega) (by omega),aq fun c=>aI rfl aN (c.q 2) ((hS.at (ab.ext.trans c.J.ext)).elem (j:=0) (bF (i:=(h:Int)) (by omega) (by omega)) rfl),ao e1,eE fun c=>⟨_,_,(ck rfl rfl Tryz.call83 (c.q 3) (c.q 4)),JU (nth xs (h:Int)) x _⟩,av⟩ fun ac ag ae ab aa=> ?_);obtain ⟨e0,e1,e4,e5,e6,e7,e8,e9,e15⟩:=aa.k9 e0 e1 e4 e5 e6 e7 e8 e9 e15;have e27:=aa.V 5;refine wp_cond_split e27 (fun hc2=> ?_) (fun hc2=> ?_)
   · have hd2:=hc2;try simp only [ai] at hd2
     refine fX ab [] ⟨ao e9,aq fun c=>cN rfl (c.q 0) rfl (by omega),aK 1,av⟩ fun ac ag ae ab aa=> ?_;obtain ⟨e0,e1,e4,e5,e6,e8,e9,e15,e27⟩:=aa.k9 e0 e1 e4 e5 e6 e8 e9 e15 e27;have e7:=aa.V 2;show _;refine ⟨⟨h+1,j,ae,?_,?_,?_,?_,ab,(e7.trans (bB (by omega))),(e8.trans (bB (by omega))),e0,e1,e4,e5,e6⟩,?_⟩
     · omega
     · omega
     · first | exact q2 | exact Jd (i:=i) hp (by omega) (bt (by assumption))
     · first | exact q3 | exact Je hp (bn (by assumption))
     · simp only [m7,m8,e7,e8,intOf];omega
   have hd2:=hc2;try simp only [ah,aV] at hd2
   refine eA ab [] ⟨ao e9,aK 0,av⟩ fun ac ag ae ab aa=> ?_;obtain ⟨e0,e1,e4,e5,e6,e7,e9,e15,e27⟩:=aa.k9 e0 e1 e4 e5 e6 e7 e9 e15 e27;have e8:=aa.V 1;show _;refine ⟨⟨i,h,ae,?_,?_,?_,?_,ab,(e7.trans (bB (by omega))),(e8.trans (bB (by omega))),e0,e1,e4,e5,e6⟩,?_⟩
   · omega
   · omega
   · first | exact q2 | exact Jd (i:=i) hp (by omega) (bt (by assumption))
   · first | exact q3 | exact Je hp (bn (by assumption))
   · simp only [m7,m8,e7,e8,intOf];omega
 try simp only [ah,aV] at hc1
 refine wp_exit ?_;repeat (with_reducible refine cy ?_)
 refine cC ?_;refine wp_seq ?_;refine rg [_,_,_,_,_,_,_,_,_,_,_,_,_,_,_,_,_,_,_,_,_,_,_,_,_] [0,0,0,6,14,30,30,126,254,30,1022,2046,4094,4094,16382,32766,65534,131070,262142,524286,1048574,2097150,4194302,1048575,16777215] ab [] ⟨ao e7,ao e7,ao e6,aq fun c=>cW rfl (c.q 1) (c.q 2),bD 3,aL 4 rfl fun c hpc=>aS rfl (c.p e0),aL 4 rfl fun c hpc=>aS rfl (c.p e7),aL 4 rfl fun c hpc=>aX rfl cE aA (c.M 5 hpc) hS.sl (c.M 6 hpc) (by have hq0:=bt hpc;omega) (by have hq0:=bt hpc;omega),aL 4 rfl fun c hpc=>aI rfl aN (c.M 7 hpc) ((hS.at (ab.ext.trans c.J.ext)).elem (j:=0) (bF (i:=(i:Int)) (by have hq0:=bt hpc;omega) (by have hq0:=bt hpc;omega)) rfl),aL 4 rfl fun c hpc=>aS rfl (c.p e1),aL 4 rfl fun c hpc=>cY rfl (c.M 8 hpc) (c.M 9 hpc),aL 4 rfl fun c hpc=>aS rfl (c.M 10 hpc),dj 11 false rfl fun c hpc=>aS rfl (c.p e0),dj 11 false rfl fun c hpc=>aS rfl (c.p e7),dj 11 false rfl fun c hpc=>aX rfl cE aA (c.M 12 hpc) hS.sl (c.M 13 hpc) (by have hq0:=bn hpc.2;have hq1:=bt hpc.1;omega) (by have hq0:=bn hpc.2;have hq1:=bt hpc.1;omega),dj 11 false rfl fun c hpc=>aI rfl aN (c.M 14 hpc) ((hS.at (ab.ext.trans c.J.ext)).elem (j:=0) (bF (i:=(i:Int)) (by have hq0:=bn hpc.2;have hq1:=bt hpc.1;omega) (by have hq0:=bn hpc.2;have hq1:=bt hpc.1;omega)) rfl),qR 11 false rfl fun c hpc=>⟨_,_,(bK rfl rfl Tryz.call84 (c.M 15 hpc)),AI (nth xs (i:Int)) _⟩,dj 11 false rfl fun c hpc=>aS rfl (c.M 16 hpc),dj 17 true rfl fun c hpc=>aS rfl (c.p e1),qR 17 true rfl fun c hpc=>⟨_,_,(bK rfl rfl Tryz.call84 (c.M 18 hpc)),AI x _⟩,dj 11 false rfl fun c hpc=>fg rfl (c.M 17 hpc) (fun h=>by cases h) (fun _=>rfl),aL 4 rfl fun c hpc=>pT rfl (c.M 11 hpc) (fun h=>c.m 20 rfl (And.intro hpc h)),bZ 4 21,aK 0,aK 22,av⟩ fun ac ag ae ab aa=> ?_;have e4:=aa.V 23;have e5:=aa.V 24;refine wp_ret ?_;refine rp ?_;refine nZ (fn:=Tryz.f65) rfl ab.defers e4 e5 ?_;obtain rfl:i=j:=by omega
 have hq:=pK hp (i:=i) (x:=x) (by omega) q2 (fun hi=>q3 i (bz _) hi);exact ⟨congrArg _ (show (Value.tuple #[(aj (i:Int)),(aE ((decide ((i:Int) < (xs.length:Int)))&&((decide ((nth xs (i:Int))=x)) || false)))])=(.tuple #[aj (plcF xs x:Int),aE (mO xs x)]) from by unfold mO;rw [hq];simp),ab.ext0⟩
set_option maxRecDepth 100000 in
theorem tC (v:Value) (xs:List Int) (x:Int) (w:World) (hS:SlT lM w v xs) (hp:xs.Pairwise (· < ·)) (hb:xs.length≤1000000000):Calls Tryz.prog 41 #[v,(aj x)] w (fun e w'=>e= .returned (.tuple #[aj (plcF xs x:Int),aE (mO xs x)])∧Ext aW w w'):=by
 refine enter (n:=11) Tryz.func41 rfl rfl (aw rfl) ?_;intro a0 τ0 ha st0;obtain ⟨e0,e1⟩:=qG ha;refine wp_seq (eA st0 [] ⟨aq fun c=>ax rfl rfl,aq fun c=>ax rfl rfl,av⟩ fun ac ag ae ab aa=> ?_);obtain ⟨e0,e1⟩:=aa.k2 e0 e1;have e4:=aa.V 0;have e5:=aa.V 1;refine wp_seq (ue [0,0,3,7,7,31,63] ab [] ⟨ao e0,ao e1,eE fun c=>⟨_,_,(ck rfl rfl Tryz.call65 (c.q 0) (c.q 1)),Ek v xs x _ (hS.at (ab.ext.trans c.J.ext)) hp (by omega)⟩,bR 2,bR 2,aK 3,aK 4,av⟩ fun ac ag ae ab aa=> ?_);have e4:=aa.V 5;have e5:=aa.V 6;refine wp_ret ?_;refine rp ?_;refine nZ (fn:=Tryz.f41) rfl ab.defers e4 e5 ?_;exact ⟨rfl,ab.ext0⟩
set_option maxRecDepth 100000 in
theorem yS (v:Value) (xs:List (Int × Int)) (w:World) (hS:SlT cF w v xs) (hb:xs.length≤1000000000):Calls Tryz.prog 73 #[v] w (fun e w'=>∃v',e= .returned v'∧Ext aW w w'∧su cF 38 w w' v' xs):=by
 refine enter (n:=8) Tryz.func73 rfl rfl (aw rfl) ?_;intro a0 τ0 ha st0;have e0:=oz ha;have hle:=hS.le;refine wp_seq (eK st0 [] ⟨aq fun c=>ax rfl rfl,av⟩ fun ac ag ae ab aa=> ?_);replace e0:=aa.k1 e0;have e2:=aa.V 0;refine wp_seq ?_;refine wp_seq (eA ab [] ⟨ao e0,aq fun c=>Ct rfl bh (c.q 0) hS.sl,av⟩ fun ac ag ae ab aa=> ?_);obtain ⟨e0,e2⟩:=aa.k2 e0 e2;have e4:=aa.V 1;refine wp_cond_split e4 (fun hc1=> ?_) (fun hc1=> ?_)
 · skip;refine wp_seq (eK ab [] ⟨aq fun c=>ax rfl rfl,av⟩ fun ac ag ae ab aa=> ?_);replace e0:=aa.k1 e0;have e2:=aa.V 0;refine wp_ret ?_;refine rp ?_;refine cO (fn:=Tryz.f73) rfl ab.defers e2 ?_;have hnil:xs=[]:=hS.isNil (by assumption);subst hnil;exact ⟨_,rfl,ab.ext0,iD.nil _ _ _,fun g_ h_=>by simp [Value.ownBlock] at h_⟩
 skip;refine wp_skip ?_;refine wp_seq ?_;refine rg [own cF 38 _ 0 5 ([]),_,own _ _ _ 0 7 _,own _ _ _ 0 2 _] [0,0,3,7] ab [] ⟨rZ rfl rfl rfl rfl bh aT,ao e0,fF (t0:=5) rfl rfl rfl rfl bh (i:=Tryz.t38) rfl rfl rfl rfl (by simp only [maxLen];(try simp);omega) (by show _ * 16≤_;(try simp);omega) (fun _ _ _ _ c=>⟨c.ro 0 rfl,rfl,⟨_,(c.n 1 rfl),(hS.at (ab.ext.trans c.J.ext))⟩⟩),eP (t0:=7) rfl rfl rfl rfl rfl (.inr rfl) (fun _ _ _ _ c=>⟨c.ro 2 rfl,rfl⟩),av⟩ fun ac ag ae ab aa=> ?_;obtain ⟨b4x2,e2⟩:=gx ac 2;have r0:=aa.ro 3 e2 rfl;refine wp_ret ?_;refine rp ?_;refine cO (fn:=Tryz.f73) rfl ab.defers e2 ?_;rw [eN] at r0;exact ⟨_,rfl,ab.ext0,r0.1,fun g_ h_=>(ab.bnd _ g_ (r0.2 g_ h_)).1⟩
end
section
open Go.RowKit
open Srt
theorem jK {s:ByteArray} (h:gM s (⟨#[]⟩:ByteArray)=false):(0:Int) < ((bA s).length:Int):=by
  have h0:=pF h;obtain ⟨n,hn⟩:∃n,s.size=n+1:=⟨s.size - 1,by omega⟩;have h1:bA s≠ []:=by
    unfold bA;rw [hn,kq,np];split
    · simp
    · rename_i hc;exfalso;apply hc;simp [hn]
  have h2:0 < (bA s).length:=List.length_pos_iff.2 h1
  omega
theorem El {s:ByteArray} (hs:s.size≤256) (h:(!(gM s ⟨#[]⟩)&& !(fY (nth (bA s) 0)))=false):zt (bA s):=by
  refine ⟨nd hs,?_⟩;cases h0:gM s (⟨#[]⟩:ByteArray) with
  | true => intro x hx; rw [BP h0, show bA (⟨#[]⟩ : ByteArray) = [] from rfl] at hx; cases hx
  | false =>
    rw [h0] at h;simp only [ma,jY,am] at h;intro x hx;obtain ⟨i,hi,rfl⟩:=lA hx;have e:nth (bA s) (i:Int)=(bA s)[i]:=by rw [jO];simp [List.getD,hi]
    rw [←e];by_cases hz:i=0
    · subst hz;exact h
    · exact tj s i (by omega) hi
theorem PatOk.less {x:Tr} {n m d:Int} (h:PatOk x n d) (hm:n≤m):PatOk x m d:=⟨by have:=h.wt;omega,by have:=h.parts;omega,h.deep,h.all⟩
set_option maxRecDepth 100000 in
set_option maxHeartbeats 4000000 in
theorem lG (s:ByteArray) (w:World):Calls Tryz.prog 25 #[(bc s)] w (fun e w'=>∃(t':Tr) (er_:Int),e= .returned (.tuple #[t'.v,aj er_])∧Ext aW w w'∧TrT (Gn aW w) w' t'∧(er_=0→PatOk (er t') (s.size:Int) 0)∧fc t'≤2200 * (s.size:Int)+2∧fc t'≤600000):=by
 refine enter (n:=49) Tryz.func25 rfl rfl (aw rfl) ?_;intro a0 τ0 ha st0;have e0:=oz ha;refine wp_seq (rg [box _ _ 0 2 [(aj 0),(bc (⟨#[]⟩:ByteArray)),(aE false),(.slice none 0 0),(aj 0),(aj 0),(aE false),(.slice none 0 0)],_] [0,0] st0 [] ⟨bO rfl rfl rfl rfl aD rfl,aq fun c=>ax rfl rfl,av⟩ fun ac ag ae ab aa=> ?_);obtain ⟨b1x2,e2⟩:=gx ac 2;replace e0:=aa.k1 e0;have e3:=aa.V 1;have r0:=aa.rb 0 e2 rfl;refine wp_seq ?_;refine wp_seq (fX ab [jb r0] ⟨ao e0,aq fun c=>fA rfl aZ (c.q 0),aq fun c=>ii rfl (c.q 1) rfl,av⟩ fun ac ag ae ab aa=> ?_);obtain ⟨e0,e2,e3⟩:=aa.k3 e0 e2 e3;have e9:=aa.V 2;replace r0:=aa.B 0;refine wp_cond_split e9 (fun hc1=> ?_) (fun hc1=> ?_)
 · try simp only [ai] at hc1
   refine wp_seq (fX ab [jb r0] ⟨aq fun c=>eW (cells:=#[(aj 0),(bc (⟨#[]⟩:ByteArray)),(aE false),(.slice none 0 0),(aj 0),(aj 0),(aE false),(.slice none 0 0)]) rfl aD ni,cp (cx:=[(aj 0),(bc (⟨#[]⟩:ByteArray)),(aE false),(.slice none 0 0),(aj 0),(aj 0),(aE false),(.slice none 0 0)]) (off:=0) ak fun c=>⟨c.bp 0 rfl e2,c.ad ((c.p e2).trans r0.ptr) e2 rfl,(c.q 0)⟩,aq fun c=>ax rfl rfl,av⟩ fun ac ag ae ab aa=> ?_);obtain ⟨e0,e2⟩:=aa.k2 e0 e2;have e3:=aa.V 2;replace r0:=aa.RB 1 e2;refine wp_ret ?_;refine rp ?_;refine ek (fn:=Tryz.f25) rfl ab.defers e2 e3 r0 az ak rfl ?_;exact ⟨(dQ 0 (⟨#[]⟩:ByteArray) false 0 0 false),4,rfl,ab.ext0,(eQ _ _ _ _ _ _ _ _),fun h_=>absurd h_ (by decide),(by have h_:=bM 0 (⟨#[]⟩:ByteArray) false 0 0 false;rw [show ((⟨#[]⟩:ByteArray).size:Int)=0 from rfl] at h_;exact ⟨by omega,by omega⟩)⟩
 try simp only [ah,aV] at hc1
 refine wp_skip ?_;refine wp_seq ?_;have hsl_:=(ux s s.size (bz _)).1;have hsl2_:(bA s).length=(kq s s.size).1.length:=rfl;refine aY ?_;refine bV 2 (by kernel_rfl) ?_;refine og [_,gE _ 12 (fun b:Sv=>b.v) (fun _=>True) (fun b:Sv=>fb gR Al b.v (bA s))] [0,1] ab [jb r0] ⟨ao e0,eT (f:=fun b:Sv=>b.v) (Ψ:=fun _=>True) (Φ:=fun b:Sv=>fb gR Al b.v (bA s)) fun {_ a_ _ _} c=>⟨_,_,(bK rfl rfl qJ (c.q 0)),(tq s _ (by first | omega | exact jK (by assumption) | exact bE ((nd (by omega)).2 _ (bN (by omega) (jK (by assumption)))) (by decide))).mono (fun e w' ⟨v_,he_,hx_,hn_⟩=>by obtain ⟨s_,rfl⟩:=hn_.1.sl.sl.sv;exact ⟨s_,he_,hx_,av,(c.sn ab hx_ hn_:(fb gR (Gn aW w) _ _).P _ _).1,fun h_=>⟨((c.sn ab hx_ hn_:(fb gR (Gn aW w) _ _).P _ _).2 h_).1,av⟩⟩)⟩,av⟩ fun ac ag ae ab aa=> ?_;obtain ⟨e0,e2,e3⟩:=aa.k3 e0 e2 e3;obtain ⟨kv1_,e12,-,hz4⟩:=aa.zd 1 rfl;have e12:be ac 12=kv1_.v:=e12;replace r0:=aa.B 0;have r1:=hz4;refine bW ?_;refine og [_,_,box _ _ 2 15 [kv1_.v,(aj 0),(aj 0)],box _ _ 2 4 [kv1_.v,(aj 0),(aj 0)]] [0,1,3,7] ab [jb r0,jz 1 r1] ⟨aq fun c=>KJ (cells:=#[kv1_.v,(aj 0)]) rfl Tryz.zeroValue96 (gB (c.p e12) rfl),aq fun c=>KK (cells:=#[kv1_.v,(aj 0),(aj 0)]) rfl Tryz.zeroValue98 (gB (c.n 0 rfl) rfl),hH (v:=(.agg #[kv1_.v,(aj 0),(aj 0)])) rfl rfl rfl rfl rfl (fun _ _ _ _ c=>(c.q 1)),eP (t0:=15) rfl rfl rfl rfl rfl (.inr rfl) (fun _ _ _ _ c=>⟨c.rb 2 rfl,rfl⟩),av⟩ fun ac ag ae ab aa=> ?_;obtain ⟨b5x4,e4⟩:=gx ac 4;obtain ⟨e0,e2,e3⟩:=aa.k3 e0 e2 e3;replace r0:=aa.B 0;replace r1:=aa.z1 1;have r2:=aa.rb 3 e4 rfl;refine wp_seq ?_;refine wp_seq ?_;refine rg [_,_,_,_,_,_,_,_,_,_,_,_,_] [0,1,3,7,15,31,63,127,255,511,1023,2047,4095] ab [jb r0,jz 1 r1,jb r2] ⟨ao e0,aq fun c=>oa rfl (c.q 0) rfl,bD 1,aL 2 rfl fun c hpc=>aS rfl (c.p e4),aL 2 rfl fun c hpc=>eR rfl (c.M 3 hpc) r2.ptr,aL 2 rfl fun c hpc=>dh rfl bo bQ ((c.M 4 hpc).trans r2.ptr),aL 2 rfl fun c hpc=>dh rfl bU cS (c.M 5 hpc),aL 2 rfl fun c hpc=>aI rfl dw (c.M 6 hpc) (by rw [add_add];exact (c.ib 2 rfl).cell (j:=0) rfl),aL 2 rfl fun c hpc=>aX rfl bL cf (c.M 7 hpc) (r1).1.sl rfl (by have hq0:=hpc;(try simp only [ar,am] at hq0);first | omega | exact jK (by assumption) | exact bE ((nd (by omega)).2 _ (bN (by omega) (jK (by assumption)))) (by decide)) (by have hq0:=hpc;(try simp only [ar,am] at hq0);first | omega | exact jK (by assumption) | exact bE ((nd (by omega)).2 _ (bN (by omega) (jK (by assumption)))) (by decide)),aL 2 rfl fun c hpc=>aI rfl cJ (c.M 8 hpc) (((c.iz 1 rfl).1).elem (j:=0) (bF (i:=0) (by have hq0:=hpc;(try simp only [ar,am] at hq0);first | omega | exact jK (by assumption) | exact bE ((nd (by omega)).2 _ (bN (by omega) (jK (by assumption)))) (by decide)) (by have hq0:=hpc;(try simp only [ar,am] at hq0);first | omega | exact jK (by assumption) | exact bE ((nd (by omega)).2 _ (bN (by omega) (jK (by assumption)))) (by decide))) rfl),fC 2 true rfl fun c hpc=>⟨_,_,(bK rfl rfl oE (c.M 9 hpc)),qZ (nth (bA s) 0) _ (by have hq0:=hpc;(try simp only [ar,am] at hq0);first | omega | exact jK (by assumption) | exact bE ((nd (by omega)).2 _ (bN (by omega) (jK (by assumption)))) (by decide))⟩,aL 2 rfl fun c hpc=>ew rfl (c.M 10 hpc),bZ 2 11,av⟩ fun ac ag ae ab aa=> ?_;obtain ⟨e2,e3,e4⟩:=aa.k3 e2 e3 e4;have e28:=aa.V 12;replace r0:=aa.B 0;replace r1:=aa.z1 1;replace r2:=aa.B 2;refine wp_cond_split e28 (fun hc2=> ?_) (fun hc2=> ?_)
 · have hd2:=hc2;try simp only [au,bl,ar,am] at hd2
   refine wp_seq (fX ab [jb r0,jz 1 r1,jb r2] ⟨aq fun c=>eW (cells:=#[(aj 0),(bc (⟨#[]⟩:ByteArray)),(aE false),(.slice none 0 0),(aj 0),(aj 0),(aE false),(.slice none 0 0)]) rfl aD ni,cp (cx:=[(aj 0),(bc (⟨#[]⟩:ByteArray)),(aE false),(.slice none 0 0),(aj 0),(aj 0),(aE false),(.slice none 0 0)]) (off:=0) ak fun c=>⟨c.bp 0 rfl e2,c.ad ((c.p e2).trans r0.ptr) e2 rfl,(c.q 0)⟩,aq fun c=>ax rfl rfl,av⟩ fun ac ag ae ab aa=> ?_);obtain ⟨e2,e4⟩:=aa.k2 e2 e4;have e3:=aa.V 2;replace r0:=aa.RB 1 e2;replace r1:=aa.z1 1;replace r2:=aa.B 2;refine wp_ret ?_;refine rp ?_;refine ek (fn:=Tryz.f25) rfl ab.defers e2 e3 r0 az ak rfl ?_;exact ⟨(dQ 0 (⟨#[]⟩:ByteArray) false 0 0 false),10,rfl,ab.ext0,(eQ _ _ _ _ _ _ _ _),fun h_=>absurd h_ (by decide),(by have h_:=bM 0 (⟨#[]⟩:ByteArray) false 0 0 false;rw [show ((⟨#[]⟩:ByteArray).size:Int)=0 from rfl] at h_;exact ⟨by omega,by omega⟩)⟩
 have hd2:=hc2;try simp only [au,bl,ar,am] at hd2
 have hCA:=El (by omega) hc2;refine wp_skip ?_;refine wp_seq ?_;refine aY ?_;refine bV 2 (by kernel_rfl) ?_;refine og [_,mi 98 _ 2 32 b5x4 (fun b:Tr × Int × Nat=> [kv1_.v,aj ((b.2.2:Nat):Int),aj 0]) (fun b:Tr × Int × Nat=> .tuple #[b.1.v,aj b.2.1]) (fun b:Tr × Int × Nat=>(0≤b.2.2∧b.2.2≤(bA s).length)∧(b.2.1=0→PatOk (er b.1) (((b.2.2:Nat):Int) - ((0:Nat):Int)) 0)) (fun b:Tr × Int × Nat=>gT (Gn aW w) b.1)] [0,1] ab [jb r0,jz 1 r1,jb r2] ⟨ao e4,ku (cells:=fun b:Tr × Int × Nat=> [kv1_.v,aj ((b.2.2:Nat):Int),aj 0]) (f:=fun b:Tr × Int × Nat=> .tuple #[b.1.v,aj b.2.1]) (Ψ:=fun b:Tr × Int × Nat=>(0≤b.2.2∧b.2.2≤(bA s).length)∧(b.2.1=0→PatOk (er b.1) (((b.2.2:Nat):Int) - ((0:Nat):Int)) 0)) (Φ:=fun b:Tr × Int × Nat=>gT (Gn aW w) b.1) fun {_ a_ _ _} c=>⟨_,_,(bK rfl rfl Tryz.call50 (c.q 0)),(xW b5x4 kv1_ (bA s) hCA ((bA s).length+1) 0 0 _ (by omega) (oD (i:=0) (c.ib 2 rfl) (c.iz 1 rfl) (fun g_ h_ hz_=>hz_.2 _ h_)) (dC _) (by omega)).mono (fun e w' ⟨h0_,h1_,h2_,he_,hx_,hb_,ht_,hp_⟩=>⟨⟨h0_,h1_,h2_⟩,he_,(c.ib 2 rfl).ext hx_,hb_.back (c.ib 2 rfl),hp_,c.tns ab hx_.size ht_⟩)⟩,av⟩ fun ac ag ae ab aa=> ?_;obtain ⟨e2,e3,e4⟩:=aa.k3 e2 e3 e4;obtain ⟨⟨t2_,er2_,j2_⟩,e32,hro8,hq2_,hz8⟩:=aa.zb 1 rfl;have e32:be ac 32=(.tuple #[(ta t2_),(aj er2_)]):=e32;have hq2_:(0≤j2_∧j2_≤(bA s).length)∧(er2_=0→PatOk (er t2_) (((j2_:Nat):Int) - ((0:Nat):Int)) 0):=hq2_;obtain ⟨hj2_,hp2_⟩:=hq2_;replace r0:=aa.B 0;replace r1:=aa.z1 1;replace r2:cH 98 [kv1_.v,(aj ((j2_:Nat):Int)),(aj 0)] (ae 2) b5x4 ag:=hro8;have r3:=hz8;refine bW ?_;refine og [_,_,_,box _ _ 4 5 [(aj 0),(bc (⟨#[]⟩:ByteArray)),(aE false),(.slice none 0 0),(aj 0),(aj 0),(aE false),(.slice none 0 0)],_,_] [0,1,3,7,15,31] ab [jb r0,jz 1 r1,jb r2,jz 3 r3] ⟨ao e32,bR 0,bR 0,bO rfl rfl rfl rfl aD rfl,ey (cx:=(tc t2_)) (off:=0) rfl ak fun c=>⟨c.rb 3 rfl,(c.rb 3 rfl).ptr,(c.q 1)⟩,aK 2,av⟩ fun ac ag ae ab aa=> ?_;obtain ⟨b9x5,e5⟩:=gx ac 5;obtain ⟨e2,e3,e4⟩:=aa.k3 e2 e3 e4;have e6:=aa.V 5;replace r0:=aa.B 0;obtain ⟨r1,r3⟩:=aa.z2 1 3;replace r2:=aa.B 2;have r4:=aa.rb 4 e5 rfl;refine wp_seq ?_;refine wp_seq (xD [0,1,3,7,15,31,63,127,255] ab [jb r0,jz 1 r1,jb r2,jz 3 r3,jb r4] ⟨ao e6,aq fun c=>cY rfl (c.q 0) rfl,bD 1,aL 2 rfl fun c hpc=>aS rfl (c.p e4),aL 2 rfl fun c hpc=>eR rfl (c.M 3 hpc) r2.ptr,aL 2 rfl fun c hpc=>dh rfl bo bQ ((c.M 4 hpc).trans r2.ptr),fC 2 true rfl fun c hpc=>⟨_,_,(bK rfl rfl kr (c.M 5 hpc)),oU b5x4 kv1_ (bA s) j2_ 0 _ (oD (c.B 2) (c.iz 1 rfl) (fun g_ h_ hz_=>hz_.2 _ h_))⟩,aL 2 rfl fun c hpc=>oa rfl (c.M 6 hpc) rfl,bZ 2 7,av⟩ fun ac ag ae ab aa=> ?_);obtain ⟨e2,e3,e5,e6⟩:=aa.k4 e2 e3 e5 e6;have e43:=aa.V 8;replace r0:=aa.B 0;obtain ⟨r1,r3⟩:=aa.z2 1 3;replace r4:=aa.B 4;refine wp_cond_split e43 (fun hc3=> ?_) (fun hc3=> ?_)
 · try simp only [au,bl,ar,am,ai,ah] at hc3
   refine eK ab [jb r0,jz 3 r3,jb r4] ⟨aq fun c=>ax rfl rfl,av⟩ fun ac ag ae ab aa=> ?_;obtain ⟨e2,e3,e5⟩:=aa.k3 e2 e3 e5;have e6:=aa.V 0;replace r0:=aa.B 0;replace r3:=aa.z1 3;replace r4:=aa.B 4;refine wp_seq ?_;refine wp_seq (eA ab [jb r0,jz 3 r3,jb r4] ⟨ao e6,aq fun c=>fh rfl (c.q 0) rfl,av⟩ fun ac ag ae ab aa=> ?_);obtain ⟨e2,e3,e5,e6⟩:=aa.k4 e2 e3 e5 e6;have e45:=aa.V 1;replace r0:=aa.B 0;replace r3:=aa.z1 3;replace r4:=aa.B 4;refine wp_cond_split e45 (fun hc4=> ?_) (fun hc4=> ?_)
   · try simp only [ar,am,ai,ah] at hc4
     refine wp_seq (lr [0,0,1,7] ab [jb r0,jz 3 r3,jb r4] ⟨aq fun c=>eW (cells:=#[(aj 0),(bc (⟨#[]⟩:ByteArray)),(aE false),(.slice none 0 0),(aj 0),(aj 0),(aE false),(.slice none 0 0)]) rfl aD ni,ao e6,cp (cx:=[(aj 0),(bc (⟨#[]⟩:ByteArray)),(aE false),(.slice none 0 0),(aj 0),(aj 0),(aE false),(.slice none 0 0)]) (off:=0) ak fun c=>⟨c.bp 0 rfl e2,c.ad ((c.p e2).trans r0.ptr) e2 rfl,(c.q 0)⟩,aK 1,av⟩ fun ac ag ae ab aa=> ?_);obtain ⟨e2,e5⟩:=aa.k2 e2 e5;have e3:=aa.V 3;replace r0:=aa.RB 2 e2;replace r3:=aa.z1 3;replace r4:=aa.B 4;refine wp_ret ?_;refine rp ?_;refine ek (fn:=Tryz.f25) rfl ab.defers e2 e3 r0 az ak rfl ?_;exact ⟨(dQ 0 (⟨#[]⟩:ByteArray) false 0 0 false),10,rfl,ab.ext0,(eQ _ _ _ _ _ _ _ _),fun h_=>absurd h_ (by decide),(by have h_:=bM 0 (⟨#[]⟩:ByteArray) false 0 0 false;rw [show ((⟨#[]⟩:ByteArray).size:Int)=0 from rfl] at h_;exact ⟨by omega,by omega⟩)⟩
   try simp only [ar,am,ai,ah] at hc4
   refine wp_skip ?_;refine wp_seq (fX ab [jb r0,jz 3 r3,jb r4] ⟨aq fun c=>dY rfl az ak ((c.p e5).trans r4.ptr) (c.B 4),cp (cx:=(tc t2_)) (off:=0) ak fun c=>⟨c.bp 0 rfl e2,c.ad ((c.p e2).trans r0.ptr) e2 rfl,(c.q 0)⟩,aq fun c=>ax rfl rfl,av⟩ fun ac ag ae ab aa=> ?_);replace e2:=aa.k1 e2;have e3:=aa.V 2;replace r0:=aa.RB 1 e2;replace r3:=aa.z1 3;refine wp_ret ?_;refine rp ?_;refine ek (fn:=Tryz.f25) rfl ab.defers e2 e3 r0 az ak rfl ?_;exact ⟨t2_,0,rfl,ab.ext0,r3.out,fun _=>(by have h_:=hp2_ (by omega);have hl_:=(ux s s.size (bz _)).1;rw [show (bA s).length=(kq s s.size).1.length from rfl] at hj2_;exact h_.less (by omega)),(by have h_:=(hp2_ (by omega)).wt;rw [Ai (qz t2_)] at h_;have hl_:=(ux s s.size (bz _)).1;rw [show (bA s).length=(kq s s.size).1.length from rfl] at hj2_;exact ⟨by omega,by omega⟩)⟩
 try simp only [au,bl,ar,am,ai,ah] at hc3
 refine wp_skip ?_;refine wp_seq ?_;refine wp_seq (eA ab [jb r0,jz 3 r3,jb r4] ⟨ao e6,aq fun c=>fh rfl (c.q 0) rfl,av⟩ fun ac ag ae ab aa=> ?_);obtain ⟨e2,e3,e5,e6⟩:=aa.k4 e2 e3 e5 e6;have e45:=aa.V 1;replace r0:=aa.B 0;replace r3:=aa.z1 3;replace r4:=aa.B 4;refine wp_cond_split e45 (fun hc5=> ?_) (fun hc5=> ?_)
 · try simp only [ar,am,ai,ah] at hc5
   refine wp_seq (lr [0,0,1,7] ab [jb r0,jz 3 r3,jb r4] ⟨aq fun c=>eW (cells:=#[(aj 0),(bc (⟨#[]⟩:ByteArray)),(aE false),(.slice none 0 0),(aj 0),(aj 0),(aE false),(.slice none 0 0)]) rfl aD ni,ao e6,cp (cx:=[(aj 0),(bc (⟨#[]⟩:ByteArray)),(aE false),(.slice none 0 0),(aj 0),(aj 0),(aE false),(.slice none 0 0)]) (off:=0) ak fun c=>⟨c.bp 0 rfl e2,c.ad ((c.p e2).trans r0.ptr) e2 rfl,(c.q 0)⟩,aK 1,av⟩ fun ac ag ae ab aa=> ?_);obtain ⟨e2,e5⟩:=aa.k2 e2 e5;have e3:=aa.V 3;replace r0:=aa.RB 2 e2;replace r3:=aa.z1 3;replace r4:=aa.B 4;refine wp_ret ?_;refine rp ?_;refine ek (fn:=Tryz.f25) rfl ab.defers e2 e3 r0 az ak rfl ?_;exact ⟨(dQ 0 (⟨#[]⟩:ByteArray) false 0 0 false),er2_,rfl,ab.ext0,(eQ _ _ _ _ _ _ _ _),fun h_=>absurd h_ (by assumption),(by have h_:=bM 0 (⟨#[]⟩:ByteArray) false 0 0 false;rw [show ((⟨#[]⟩:ByteArray).size:Int)=0 from rfl] at h_;exact ⟨by omega,by omega⟩)⟩
 try simp only [ar,am,ai,ah] at hc5
 refine wp_skip ?_;refine wp_seq (fX ab [jb r0,jz 3 r3,jb r4] ⟨aq fun c=>dY rfl az ak ((c.p e5).trans r4.ptr) (c.B 4),cp (cx:=(tc t2_)) (off:=0) ak fun c=>⟨c.bp 0 rfl e2,c.ad ((c.p e2).trans r0.ptr) e2 rfl,(c.q 0)⟩,aq fun c=>ax rfl rfl,av⟩ fun ac ag ae ab aa=> ?_);replace e2:=aa.k1 e2;have e3:=aa.V 2;replace r0:=aa.RB 1 e2;replace r3:=aa.z1 3;refine wp_ret ?_;refine rp ?_;refine ek (fn:=Tryz.f25) rfl ab.defers e2 e3 r0 az ak rfl ?_;exact ⟨t2_,0,rfl,ab.ext0,r3.out,fun _=>(by have h_:=hp2_ (by omega);have hl_:=(ux s s.size (bz _)).1;rw [show (bA s).length=(kq s s.size).1.length from rfl] at hj2_;exact h_.less (by omega)),(by have h_:=(hp2_ (by omega)).wt;rw [Ai (qz t2_)] at h_;have hl_:=(ux s s.size (bz _)).1;rw [show (bA s).length=(kq s s.size).1.length from rfl] at hj2_;exact ⟨by omega,by omega⟩)⟩
end
section
open Go.RowKit Srt
def zu (G:bj) (p:Pt):ZP:=⟨fun Z w=>PtT (fun g=>Z g∧G g) w p,fun hz he h=>(PtT.keep h he fun g hg hn=>hn hg.1).mono fun g hg _=>⟨hz g hg.1,hg.2⟩⟩
def Em (G:bj) (l:List Pt):ZP:=⟨fun Z w=>∀p ∈ l,PtT (fun g=>Z g∧G g) w p,fun hz he h p hp=>(zu G p).st hz he (h p hp)⟩
section
variable {G F Z:bj} {τ:Nat→bj} {w w':World} {p:Pt} {l:List Pt}
theorem Fz.pn (G:bj) (τ:Nat→bj) (w:World):Fz (Em G []) τ w:=fun p hp=>by simp at hp
theorem Fz.psnoc (h:Fz (Em G l) τ w) (h2:Fz (zu G p) τ w):Fz (Em G (l++ [p])) τ w:=fun q hq=>(List.mem_append.1 hq).elim (h q) fun hq=>by simp at hq;rw [hq];exact h2
theorem Fz.pouts (h:Fz (Em G l) τ w):∀p ∈ l,PtT G w p:=fun p hp=>PtT.mono (h p hp) fun g hg _=>hg.2
end
section
variable {N:bj} {P:Program} {ops:Array Oper} {sp:List (Spec N)} {In:Nat→Ini N} {a0:Act} {w0 W:World} {bf:List Nat} {j:Nat} {o:Oper} {s:Spec N} {done:Nat→Bool} {a:Act} {w:World} {τ:Nat→bj} {β:Type} {pc:Prop}
theorem Cx.zbx (c:Cx ops sp In a0 w0 bf j o done a w τ) (i:Nat) {ty t slot:Nat} {p:Value} {cells:β→List Value} {f:β→Value} {Ψ:β→Prop} {Φ:β→ZP} (hs:sp[i]? =some (mi ty N t slot p cells f Ψ Φ)) (hl:cr (sp.map (·.tag)) t j=some i:=by exact rfl) (hord:lX (sp.map (·.tag)) bf t j=true:=by kernel_rfl):
    ∃b,a.eval (.tmp slot)=f b∧cH ty (cells b) (τ t) p w∧Ψ b∧(Φ b).P (gO τ w) w:=c.res i t _ hs hl hord
theorem Cx.pz {p:Pt} {F:bj} {n:Nat} {a1:Act} {τ0:Nat→bj} {w':World} (c:Cx ops sp In a0 w0 bf j o done a w τ) (st:St N W n a1 w0 τ0) (hx:w.heap.size≤w'.heap.size) (h:PtT (Gn (fun g=>gO τ w g∧Gn F W g) w) w' p):(zu (Gn F W) p).P (gO τ w') w':=PtT.mono h (c.gz (c.hW st) hx)
theorem AJ {α:Type} {E:Enc α} {ty e tag t:Nat} {xs:List α} {ys:β→List α} {Ψ:β→Prop} {Φ:β→ZP} {x y:Operand} {z:Value} {i:TypeInfo} (hg:o.guard=none)
    (ho:o.op= .call { callee:= .builtin .append,args:=#[x,y],argTypes:=#[ty,ty] })
    (hty:P.underlying ty=some (.slice e)) (hi:P.info? e=some i) (hz:i.zero=some z) (hsize:i.size=E.sz) (hzs:z.cells.size=E.sz)
    (h63:∀b,xs.length+(ys b).length≤maxLen) (hby:∀b,(xs.length+(ys b).length) * i.bytes≤140737488355328)
    (hp:∀{done a w τ},Cx ops sp In a0 w0 bf j o done a w τ→∃v b,ep E e xs (τ tag) v w∧a.eval x=v∧Ψ b∧(Φ b).P (gO τ w) w∧∃u,a.eval y=u∧SlT E w u (ys b))
    (hs:s=uN E e N tag t True (fun b=>xs++ys b) Ψ Φ:=by exact rfl) (hd:o.dst=some t:=by exact rfl):Ob ops sp In a0 w0 P bf j o s:=by
  subst hs;refine fP hg rfl fun done a w τ c=> ?_;obtain ⟨v,b,⟨hown,hT⟩,hx,hq,hzz,u,hy,hsl⟩:=hp c;obtain ⟨v',w',hr,h2,h3,h4⟩:=ss (P:=P) (E:=E) ty o.type e i z hty hi hz hsize hzs hown hsl (h63 b) (hby b);have hr':(execOp a.eval o).run P w= .ok (.value v') w':=by
    simp only [execOp,ho,resolve,invoke,builtin,Sem.run_bind,Sem.run_pure,Result.andThen_ok,fZ,aB,aH,hx,hy,hr]
  refine iu hr' ⟨_,rfl,h3.mono (fun k _ h=>hT k h),fun g=>v'.ownBlock=some g,fun g hg=>(h4 g hg).elim (fun h=> .inl (hT g h)) (fun h=> .inr h),fun _=>⟨b,?_,hq,?_⟩⟩
  · show ep E e (xs++ys b) _ (be (a.put o.dst _) t) _;rw [hd,eJ a t t _ (c.lt t hd),if_pos rfl];exact ⟨h2,fun g h=>h⟩
  · refine (Φ b).st (fun g hg=>⟨dM hg.1 h3.size,fun t' ht=> ?_⟩) (h3.mono fun g _ hg hZ=>hZ.2 tag (hT g hg)) hzz;unfold qF at ht;split at ht
    · rcases h4 g ht with h | h
      · exact hg.2 tag (hT g h)
      · exact absurd hg.1 (by omega)
    · exact hg.2 t' ht
theorem yT {x y:Operand} {t t':TypeId} {p:Int} (ho:o.op= .binOp .and t x y t') (hx:a.eval x= .int .u64 p) (hy:a.eval y= .int .u64 4294967295) (h0:0≤p) (h1:p < 4294967296):cA P a o w (.int .u64 p):=by
  obtain ⟨n,rfl⟩:=gh h0;have hn:n < 4294967296:=by omega
  have e1:(BitVec.ofInt 64 (n:Int)).toNat=n:=by
    rw [BitVec.toNat_ofInt];omega
  have e:n&&&4294967295=n:=by
    have:=Nat.and_two_pow_sub_one_eq_mod n 32;rw [show (2 ^ 32 - 1:Nat)=4294967295 from rfl] at this
    rw [this];exact Nat.mod_eq_of_lt hn
  have e3:IntKind.u64.wrap (n:Int)=n:=by simp [IntKind.wrap,IntKind.signed,IntKind.bits];omega
  have e5:(BitVec.ofInt 64 4294967295).toNat=4294967295:=by decide
  have hr:(Op.intBits .and .u64 (n:Int) 4294967295).run P w= .ok (.int .u64 n) w:=by
    have e6:(BitVec.ofInt (IntKind.bits .u64) (n:Int)&&&BitVec.ofInt (IntKind.bits .u64) 4294967295).toNat=n:=by
      rw [BitVec.toNat_and];show (BitVec.ofInt 64 (n:Int)).toNat&&&(BitVec.ofInt 64 4294967295).toNat=n;rw [e1,e5,e]
    unfold Op.intBits;simp only [e6,e3];rfl
  simp only [cA,execOp,ho,hx,hy];simp [eqGuard,binOp,hr]
theorem tD {x y:Operand} {t t':TypeId} {p:Int} (ho:o.op= .binOp .shr t x y t') (hx:a.eval x= .int .u64 p) (hy:a.eval y= .int .u64 32) (h0:0≤p) (h1:p < 4294967296):cA P a o w (.int .u64 0):=by
  have e:p.fdiv 4294967296=0:=by
    rw [nR p (by omega)];exact Int.ediv_eq_zero_of_lt h0 h1
  simp [cA,execOp,ho,hx,hy,eqGuard,binOp,Op.shift,IntKind.bits];exact e
theorem wQ {x y:Operand} {t t':TypeId} {p q r:Int} (ho:o.op= .binOp .mul t x y t') (hx:a.eval x= .int .u64 p) (hy:a.eval y= .int .u64 q) (e:p * q=r) (h0:0≤r) (h1:r < 18446744073709551616):cA P a o w (.int .u64 r):=by
  have e2:IntKind.u64.wrap r=r:=by simp [IntKind.wrap,IntKind.signed,IntKind.bits];omega
  simp [cA,execOp,ho,hx,hy,eqGuard,binOp,Op.intArith,e,e2]
theorem yU {x y:Operand} {t t':TypeId} {p q r:Int} (ho:o.op= .binOp .add t x y t') (hx:a.eval x= .int .u64 p) (hy:a.eval y= .int .u64 q) (e:p+q=r) (h0:0≤r) (h1:r < 18446744073709551616):cA P a o w (.int .u64 r):=by
  have e2:IntKind.u64.wrap r=r:=by simp [IntKind.wrap,IntKind.signed,IntKind.bits];omega
  simp [cA,execOp,ho,hx,hy,eqGuard,binOp,Op.intArith,e,e2]
theorem Ih {α:Type} {E:Enc α} {ty e tag t n:Nat} {x y:Operand} {z:Value} {i:TypeInfo} {x0:α} (hs:s=own E e N tag t (List.replicate n x0)) (hg:o.guard=none) (hd:o.dst=some t) (ho:o.op= .makeSlice ty x y)
    (hty:P.underlying ty=some (.slice e)) (hi:P.info? e=some i) (hz:i.zero=some z) (hsize:i.size=E.sz) (hc:z.cells.toList=E.cells x0) (hby:i.bytes * n≤281474976710656) (h63:n≤maxLen)
    (hp:∀{done a w τ},Cx ops sp In a0 w0 bf j o done a w τ→a.eval x= .int .i64 (n:Int)∧a.eval y= .int .i64 (n:Int)):Ob ops sp In a0 w0 P bf j o s:=by
  subst hs;refine fP hg rfl fun done a w τ c=> ?_;obtain ⟨hx,hy⟩:=hp c;have h63':(n:Int)≤9223372036854775807:=by
    have h:=h63;simp only [maxLen] at h;omega
  have hb':(i.bytes:Int) * (n:Int)≤281474976710656:=by
    have h:((i.bytes * n:Nat):Int)≤281474976710656:=by omega
    rwa [Int.natCast_mul] at h
  have hr:=run_make (P:=P) w ty e i z hty hi hz .i64 .i64 n n (by omega) (fJ _) hb' h63';simp only [gG] at hr;have hr':(execOp a.eval o).run P w= .ok (.value (.slice (some ⟨w.heap.size,0,none⟩) n n)) (w.alloc (.cells (madeCells z.cells (n * i.size)) e)):=by
    simp only [execOp,ho,hx,hy,Sem.run_bind,hr];rfl
  have hzs:z.cells.size=E.sz:=by rw [←gD,hc,E.len]
  have hrow:(madeCells z.cells (n * i.size)).toList=E.row (List.replicate n x0):=by
    apply List.ext_getElem?;intro q;rw [hsize];have hl:(E.row (List.replicate n x0)).length=n * E.sz:=by rw [E.row_length,fK]
    by_cases hq:q < n * E.sz
    · have hdiv:q / E.sz < n:=Nat.div_lt_of_lt_mul (by rwa [Nat.mul_comm] at hq)
      have hmod:q % E.sz < E.sz:=Nat.mod_lt _ E.pos
      have h1:=E.row_get (xs:=List.replicate n x0) (i:=q / E.sz) (j:=q % E.sz) (x:=x0) (by rw [List.getElem?_replicate,if_pos hdiv]) hmod;rw [show q / E.sz * E.sz+q % E.sz=q from Nat.div_add_mod' q E.sz] at h1;rw [h1,←hc];have hm2:q % E.sz < z.cells.size:=by omega
      simp only [madeCells,Array.toList_map,List.getElem?_map,Array.toList_range,List.getElem?_range hq,Option.map_some,hzs];rw [getElem!_pos z.cells _ hm2,cd (by simpa using hm2),Array.getElem_toList]
    · rw [mC (by simp [madeCells];omega),mC (by omega)]
  refine iu hr' ⟨_,rfl,Ext.alloc _ _ _,fun g=>g=w.heap.size,fun g hg=> .inr (by subst hg;simp),?_⟩;show ep E e _ _ (be (a.put o.dst _) t) _;rw [hd,eJ a t t _ (c.lt t hd),if_pos rfl];refine ⟨⟨E.row_length _,.inr ⟨w.heap.size,n,_,by rw [fK],dC _,heap_alloc_new w _,by rw [fK];exact bz _,h63,by rw [size_madeCells,hsize],?_⟩⟩,fun g h=> ?_⟩
  · rw [hrow,fK];exact bw (by rw [E.row_length,fK];exact bz _)
  · simp only [Value.ownBlock,Option.some.injEq] at h;exact h.symm
end
section
variable {N:bj} {l:List Oper} {sp:List (Spec N)} {il:List (Ini N)} {a0 a:Act} {w:World} {τ:Nat→bj} {β:Type} {pc:Prop}
theorem Fin.gzo (h:Fin l sp il a0 a w τ) {α:Type} {E:Enc α} {ty t slot:Nat} {xs:β→List α} {Ψ:β→Prop} {Φ:β→ZP} (j:Nat) {v:Value} (hv:be a slot=v) (hs:sp[j]? =some (uN E ty N t slot True xs Ψ Φ)) (hl:cr (sp.map (·.tag)) t sp.length=some j:=by exact rfl):∃b,ep E ty (xs b) (τ t) v w∧Ψ b∧Fz (Φ b) τ w:=
  hv ▸ h.res j t _ hs rfl hl trivial
end
section
variable {α:Type} {E:Enc α} {ty:Nat} {P:Program} {w:World}
theorem Gs {dT sT rt elem:TypeId} {d:Option Addr} {dl dc:Nat} {u u':Value} {ys:List α} (hu:SlT E w u ys) (hdT:P.underlying dT=some (.slice elem)) (hsz:(P.info? elem).map (·.size)=some E.sz) (hu':u'=iF u 0 (Nat.min ys.length dl) E.sz):
    (Builtin.copy_ #[dT,sT] rt #[.slice d dl dc,u]).run P w=(Builtin.copy_ #[dT,sT] rt #[.slice d (Nat.min ys.length dl) dc,u']).run P w:=by
  subst hu';cases hq:P.info? elem with
  | none => simp [hq] at hsz
  | some i =>
    have hi:i.size=E.sz:=by simpa [hq] using hsz
    rcases hu.sl with ⟨rfl,h0⟩ | ⟨b,cap,rfl,hc,hm⟩
    · rw [h0];simp [iF,Builtin.copy_,run_underlying hdT,Builtin.lenOf,Builtin.firstCells,sizeOf,typeInfo,hq,hi]
    · have e:iF (.slice (some b) ys.length cap) 0 (Nat.min ys.length dl) E.sz= .slice (some b) (Nat.min ys.length dl) cap:=by
        simp only [iF];split
        · simp_all
        · simp [Addr.add]
      rw [e];simp [Builtin.copy_,run_underlying hdT,Builtin.lenOf,Builtin.firstCells,sizeOf,typeInfo,hq,hi]
end
section
variable {α:Type} {E:Enc α} {ty:Nat} {P:Program} {w:World}
theorem yb {v:Value} {xs:List α} (h:iD E ty w v xs):iF v 0 xs.length E.sz=v:=by
  rcases h.2 with ⟨rfl,h0⟩ | ⟨g,cap,cur,rfl,hb,hg,g2,g3,g4,g5⟩
  · rw [h0];rfl
  · simp only [iF];split
    · simp
    · simp [Addr.add]
theorem AK {dT sT rt elem:TypeId} {v u:Value} {xs ys:List α} {lo hi:Nat} (h:iD E ty w v xs) (hu:SlT E w u ys) (hdT:P.underlying dT=some (.slice elem)) (hsz:(P.info? elem).map (·.size)=some E.sz)
    (h1:lo≤hi) (h2:hi≤xs.length):
    ∃w',(Builtin.copy_ #[dT,sT] rt #[iF v lo hi E.sz,u]).run P w= .ok (goInt (Nat.min ys.length (hi - lo))) w'∧iD E ty w' v (xs.take lo++ys.take (Nat.min ys.length (hi - lo))++xs.drop (lo+Nat.min ys.length (hi - lo)))∧Ext (fun k=>v.ownBlock=some k) w w':=by
  have hm1:Nat.min ys.length (hi - lo)≤ys.length:=Nat.min_le_left _ _;have hm2:Nat.min ys.length (hi - lo)≤hi - lo:=es _ _;have hsl:=SlT.sub hu (lo:=0) (hi:=Nat.min ys.length (hi - lo)) (dC _) hm1;rw [nU,Nat.sub_zero] at hsl;obtain ⟨w',hr,k2,k3⟩:=uW (P:=P) (dT:=dT) (sT:=sT) (rt:=rt) (lo:=lo) (hi:=lo+Nat.min ys.length (hi - lo)) h hsl hdT hsz (by omega) (by omega) (by rw [ed];omega);rw [ed,Nat.min_eq_left hm1] at hr;refine ⟨w',?_,k2,k3⟩;have hsub:∃d dc,iF v lo hi E.sz= .slice d (hi - lo) dc∧iF v lo (lo+Nat.min ys.length (hi - lo)) E.sz= .slice d (Nat.min ys.length (hi - lo)) dc:=by
    rcases h.2 with ⟨rfl,h0⟩ | ⟨g,cap,cur,rfl,hb,hg,g2,g3,g4,g5⟩
    · exact ⟨none,0 - lo,by simp [iF],by simp [iF]⟩
    · exact ⟨if cap=lo then some ⟨g,0,none⟩ else some ((⟨g,0,none⟩:Addr).add (lo * E.sz)),cap - lo,by simp only [iF];split <;> rfl,by simp only [iF,Nat.add_sub_cancel_left];split <;> rfl⟩
  obtain ⟨d,dc,e1,e2⟩:=hsub;rw [e2] at hr;rw [e1,Gs (sT:=sT) (rt:=rt) hu hdT hsz rfl];exact hr
end
section
variable {N:bj} {P:Program} {ops:Array Oper} {sp:List (Spec N)} {In:Nat→Ini N} {a0:Act} {w0 W:World} {bf:List Nat} {j:Nat} {o:Oper} {s:Spec N} {done:Nat→Bool} {a:Act} {w:World} {τ:Nat→bj}
def En {α:Type} (E:Enc α) (ty:Nat) (N:bj) (tag t:Nat) (v:Value) (xs:List α) (k:Value):Spec N:=⟨some tag,t,fun _ T u w=>u=k∧ep E ty xs T v w,fun _ _ T u w w' _ h hr=>⟨hr.1,mY T v w w' h.less hr.2⟩,fun u=>u=k,fun _ _ _ _ h=>h.1⟩
theorem Cx.oc {α:Type} {E:Enc α} {ty t slot:Nat} {v k:Value} {xs:List α} (c:Cx ops sp In a0 w0 bf j o done a w τ) (i:Nat) (hs:sp[i]? =some (En E ty N t slot v xs k)) (hb:(bf.getD j 0).testBit i=true:=by exact rfl):a.eval (.tmp slot)=k:=c.J.pur i _ hs (c.pre i hb)
theorem wR {α:Type} {E:Enc α} {ty tag t dT sT e lo hi:Nat} {v:Value} {xs ys:List α} {x y:Operand} (hs:s=En E ty N tag t v (xs.take lo++ys.take (Nat.min ys.length (hi - lo))++xs.drop (lo+Nat.min ys.length (hi - lo))) (.int .i64 ((Nat.min ys.length (hi - lo):Nat):Int))) (hg:o.guard=none) (hd:o.dst=some t)
    (ho:o.op= .call { callee:= .builtin .copy,args:=#[x,y],argTypes:=#[dT,sT] }) (hdT:P.underlying dT=some (.slice e)) (hsz:(P.info? e).map (·.size)=some E.sz)
    (h1:lo≤hi) (h2:hi≤xs.length)
    (hp:∀{done a w τ},Cx ops sp In a0 w0 bf j o done a w τ→ep E ty xs (τ tag) v w∧a.eval x=iF v lo hi E.sz∧∃u,a.eval y=u∧SlT E w u ys):Ob ops sp In a0 w0 P bf j o s:=by
  subst hs;refine fP hg rfl fun done a w τ c=> ?_;obtain ⟨⟨hown,hT⟩,hx,u,hy,hu⟩:=hp c;obtain ⟨w',hr,k2,k3⟩:=AK (P:=P) (sT:=sT) (rt:=o.type) hown hu hdT hsz h1 h2;have hr':(execOp a.eval o).run P w= .ok (.value (.int .i64 ((Nat.min ys.length (hi - lo):Nat):Int))) w':=by
    have hr2:(Builtin.copy_ #[dT,sT] o.type #[iF v lo hi E.sz,u]).run P w= .ok (goInt (Nat.min ys.length (hi - lo))) w':=hr;simp only [execOp,ho,resolve,invoke,builtin,Sem.run_bind,Sem.run_pure,Result.andThen_ok,fZ,aB,aH,hx,hy,hr2];rfl
  refine iu hr' ⟨_,rfl,k3.mono fun k _ hk=>hT k hk,τ tag,fun g h=> .inl h,?_,k2,hT⟩;show be (a.put o.dst _) t=_;rw [hd,eJ a t t _ (c.lt t hd),if_pos rfl]
end
section
variable {N:bj} {l:List Oper} {sp:List (Spec N)} {il:List (Ini N)} {a0 a:Act} {w:World} {τ:Nat→bj}
theorem Fin.oc {α:Type} {E:Enc α} {ty t slot:Nat} {v k:Value} {xs:List α} (h:Fin l sp il a0 a w τ) (j:Nat) (hs:sp[j]? =some (En E ty N t slot v xs k)) (hl:cr (sp.map (·.tag)) t sp.length=some j:=by exact rfl):be a slot=k:=(h.res j t _ hs rfl hl).1
theorem Fin.or {α:Type} {E:Enc α} {ty t slot:Nat} {v k:Value} {xs:List α} (h:Fin l sp il a0 a w τ) (j:Nat) (hs:sp[j]? =some (En E ty N t slot v xs k)) (hl:cr (sp.map (·.tag)) t sp.length=some j:=by exact rfl):ep E ty xs (τ t) v w:=(h.res j t _ hs rfl hl).2
end
def grpsN (l:List Tr):Nat:=(l.map grpN).sum
theorem sH (l:List Tr) (t:Tr):grpsN (l++ [t])=grpsN l+grpN t:=by simp [grpsN]
theorem Eo (l:List Tr):((grpsN l:Nat):Int)=dH (l.map cL):=by
  induction l with
  | nil => rfl
  | cons t l ih =>
    have h1:=(iN t).1;rw [aB,bk,←ih];have:grpsN (t::l)=grpN t+grpsN l:=by simp [grpsN]
    rw [this];unfold grpN;omega
theorem uB {t:Tr}:∀{ps:List Pt} {ts:List Tr} {g:Nat} {p:Pt},LayL ps ts g→Lay p t (g+grpsN ts)→LayL (ps++ [p]) (ts++ [t]) g
  | [], [], g, p, h, h2 => by
    have e:g+grpsN []=g:=rfl;rw [e] at h2;exact .cons h2 .nil
  | [], _ :: _, g, p, h, h2 => by cases h
  | _ :: _, [], g, p, h, h2 => by cases h
  | q :: ps, u :: ts, g, p, h, h2 => by
    cases h with
    | cons h3 h4 =>
      have e:g+grpsN (u::ts)=g+grpN u+grpsN ts:=by simp [grpsN];omega
      rw [e] at h2;exact .cons h3 (uB h4 h2)
theorem jn (t:Tr):grpN t=(if t.k=5 then 1 else 0)+grpsN t.kids:=by
  have h1:=mJ t;have h2:=Eo t.kids;have h3:=(iN t).1;unfold grpN;rw [h1,←h2];split <;> omega
theorem yV (t:Tr) (g:Nat):fk t g=g+(if t.k=5 then 1 else 0):=by
  unfold fk;split <;> omega
theorem lH (t:Tr):((grpN t:Nat):Int)=cL t:=by
  have:=(iN t).1;unfold grpN;omega
theorem uC (t:Tr):(grpN t:Int)≤fc t:=by
  have h1:=(iN t).2;have h2:=wo t;rw [lH];omega
theorem Ii (l:List Tr):(grpsN l:Int)≤dH (l.map fc):=by
  induction l with
  | nil => exact fJ _
  | cons t l ih =>
    have h1:=uC t;have e:grpsN (t::l)=grpN t+grpsN l:=by simp [grpsN]
    rw [aB,bk,e];omega
theorem AL {t:Tr} {k:Nat} (h:k < t.kids.length):(grpsN (t.kids.take k):Int)+fc (nth t.kids (k:Int))+1≤fc t:=by
  have h1:=Ii (t.kids.take k);have h2:=pE (f:=fc) h;have h3:=(pd (f:=fc) (ts:=t.kids) (fun q _=>by have:=nF q;omega) (k+1)).2;have h4:=ns t;have h5:=rI t.rows;omega
end
section
open Go.RowKit Srt
def K0:cQ:=fun to ps φ=>(some (to,ps),φ)
theorem Jf (B:Nat):KP B K0:=fun to ps fu hf=>bz _
def eS (r:fe) (m k:Nat) (φ:Fl):Rs:=r k K0 (List.replicate m ((-1:Int),(-1:Int))) φ
abbrev Mt:=Option ((Int × Int) × Ps)
def eu (E:Env) (r:fe) (m k:Nat) (φ:Fl):Mt × Fl:=
  if (decide (jj (-1) (eS r m k φ) < 0) || (eS r m k φ).2.2)=true then (none,(eS r m k φ).2)
  else (some ((nth E.pl (k:Int),nth E.pl (jj (-1) (eS r m k φ))),jm [] (eS r m k φ)),(eS r m k φ).2)
def cn (E:Env) (r:fe) (m:Nat):Nat→Nat→Fl→Mt × Fl
  | 0, _, φ => (none, φ)
  | n + 1, k, φ => if (decide ((k : Int) < (E.pl.length : Int)) && !φ.2) = true then
      (if (eu E r m k φ).1.isSome=true then eu E r m k φ else cn E r m n (k+1) (eu E r m k φ).2)
    else (none,φ)
def aM (o:Mt):Int × Int:=match o with
  | some y => y.1
  | none => (0, 0)
def bJ (o:Mt):Ps:=match o with
  | some y => y.2
  | none => []
def clampF (n:Int):Nat:=(min (max n 0) 20000).toNat
theorem pN (n:Int):clampF n≤20000:=by unfold clampF;omega
theorem jT {E:Env} {r:fe} (hr:RQ E.cs.length r) {m k:Nat} {φ:Fl} (hk:k≤E.cs.length):jj (-1) (eS r m k φ)≤(E.cs.length:Int)∧∀y,(eS r m k φ).1=some y→k≤y.1∧y.1≤E.cs.length:=by
  have h1:∀y,(eS r m k φ).1=some y→k≤y.1∧y.1≤E.cs.length:=hr k K0 _ φ (fun y=>k≤y.1∧y.1≤E.cs.length) hk fun to ps φ a1 a2 y hy=>by cases hy;exact ⟨a1,a2⟩
  refine ⟨?_,h1⟩;unfold jj;cases hx:(eS r m k φ).1 with
  | none => simp
  | some y => have := (h1 y hx).2; simp; omega
theorem ph {E:Env} {r:fe} {m k:Nat} {φ:Fl} (h:(decide (jj (-1) (eS r m k φ) < 0) || (eS r m k φ).2.2)=true):eu E r m k φ=(none,(eS r m k φ).2):=by unfold eu;rw [if_pos h]
theorem oW {E:Env} {r:fe} {m k:Nat} {φ:Fl} (h:(decide (jj (-1) (eS r m k φ) < 0) || (eS r m k φ).2.2)=false):eu E r m k φ=(some ((nth E.pl (k:Int),nth E.pl (jj (-1) (eS r m k φ))),jm [] (eS r m k φ)),(eS r m k φ).2):=by unfold eu;rw [if_neg (by rw [h];decide)]
theorem lm {E:Env} {r:fe} {m k:Nat} {φ:Fl}:(eu E r m k φ).2=(eS r m k φ).2:=by unfold eu;split <;> rfl
theorem wS {r:fe} (hr:RP r) {E:Env} {m k fu:Nat} {ou:Bool}:(eu E r m k (fu,ou)).2.1≤fu:=by rw [lm];exact hr k (fu+1) K0 (Jf _) _ fu ou (by omega)
theorem wT {E:Env} {r:fe} {m n k:Nat} {φ:Fl} (h:(decide ((k:Int) < (E.pl.length:Int))&& !φ.2)=false):cn E r m n k φ=(none,φ):=by
  cases n with
  | zero => rfl
  | succ n => rw [cn, if_neg (by rw [h]; decide)]
theorem Gt {E:Env} {r:fe} {m n k:Nat} {φ:Fl} (h:(decide ((k:Int) < (E.pl.length:Int))&& !φ.2)=true) (hn:E.pl.length≤n+k) (hs:(eu E r m k φ).1.isSome=true):cn E r m n k φ=eu E r m k φ:=by
  cases n with
  | zero => simp at h; omega
  | succ n => rw [cn, if_pos h, if_pos hs]
theorem Ij {E:Env} {r:fe} {m n k:Nat} {φ:Fl} (h:(decide ((k:Int) < (E.pl.length:Int))&& !φ.2)=true) (hn:E.pl.length≤n+k) (hs:(eu E r m k φ).1.isSome=false):cn E r m n k φ=cn E r m (n - 1) (k+1) (eu E r m k φ).2:=by
  cases n with
  | zero => simp at h; omega
  | succ n => rw [cn, if_pos h, if_neg (by rw [hs]; decide)]; rfl
theorem yc (ps:Ps):noneR ps 0 (ps.length - 0)=List.replicate ps.length ((-1:Int),(-1:Int)):=by
  simp [noneR]
def lQ (τ:Nat→bj) (i j:Nat):Nat→bj:=fun t g=>if t=i then τ i g∨τ j g else if t=j then False else τ t g
theorem St.merge {N:bj} {W:World} {n:Nat} {a:Act} {w:World} {τ:Nat→bj} (h:St N W n a w τ) (i j:Nat) (hij:i≠j):St N W n a w (lQ τ i j):=by
  refine ⟨h.defers,h.size,h.ext,h.big,fun s t g hs ht=> ?_,fun t g ht=> ?_⟩
  · have key:∀t,lQ τ i j t g→∃u,τ u g∧(u=t∨(u=j∧t=i)):=by
      intro t ht;unfold lQ at ht;split at ht
      · rename_i e;rcases ht with h1 | h1
        · exact ⟨i,h1,.inl e.symm⟩
        · exact ⟨j,h1,.inr ⟨rfl,e⟩⟩
      · split at ht
        · exact ht.elim
        · exact ⟨t,ht,.inl rfl⟩
    have nj:∀t,lQ τ i j t g→t≠j:=by
      intro t ht e;subst e;unfold lQ at ht;rw [if_neg (fun h=>hij h.symm),if_pos rfl] at ht;exact ht
    obtain ⟨u,hu,hu2⟩:=key s hs;obtain ⟨u',hu',hu2'⟩:=key t ht;have e:=h.disj u u' g hu hu';have n1:=nj s hs;have n2:=nj t ht;rcases hu2 with rfl | ⟨rfl,rfl⟩ <;> rcases hu2' with rfl | ⟨rfl,rfl⟩ <;> simp_all
  · unfold lQ at ht;split at ht
    · exact ht.elim (h.bnd _ g) (h.bnd _ g)
    · split at ht
      · exact ht.elim
      · exact h.bnd _ g ht
theorem yd {τ:Nat→bj} {w:World} {i j:Nat}:∀g,gO τ w g→gO (lQ τ i j) w g:=fun g h=>⟨h.1,fun t ht=>by
  unfold lQ at ht;split at ht
  · exact ht.elim (h.2 _) (h.2 _)
  · split at ht
    · exact ht
    · exact h.2 _ ht⟩
theorem Fz.merge {Φ:ZP} {τ:Nat→bj} {w:World} (h:Fz Φ τ w) (i j:Nat):Fz Φ (lQ τ i j) w:=Φ.st yd (Ext.refl _ w) h
section
variable {C:Cfg} {ps ps':Ps} {fu fu':Nat} {ou ou':Bool} {tv tv':Int} {tb:Option Nat} {Z Z' T:bj} {w w':World} {τ:Nat→bj}
theorem RunR.join {N:bj} {W:World} {n:Nat} {a:Act} (h:RunR C none ps fu ou tv (gO τ w) (τ 0) w) {j q:Nat} {x:Int} (hb:cH C.it [.int .i64 x] (τ j) (.pointer (some ⟨q,0,none⟩)) w) (st:St N W n a w τ) (hj:0≠j):RunR C (some q) ps fu ou x (gO (lQ τ 0 j) w) (lQ τ 0 j 0) w:=by
  have hm:∀g,τ 0 g→lQ τ 0 j 0 g:=fun g hg=>by unfold lQ;rw [if_pos rfl];exact .inl hg
  refine ⟨h.b.mono yd hm,fun q' hq=> ?_,fun q' hq=> ?_⟩
  · cases hq
    obtain ⟨g,e,h1,h2,h3⟩:=hb;exact ⟨g,e,h1,by unfold lQ;rw [if_pos rfl];exact .inr h2,h3⟩
  · cases hq
    obtain ⟨g,e,h1,h2,h3⟩:=hb;simp at e;subst e;exact ⟨fun e=>hj (st.disj 0 j _ (e ▸ h.b.own) h2),fun b hbk e=>hj (st.disj 0 j _ (h.b.parts.2 b hbk) (e ▸ h2))⟩
theorem RunR.b' (h:RunR C tb ps fu ou tv Z T w):RunR C none ps fu ou 0 Z T w:=h.b.r
end
section
variable {N:bj} {P:Program} {ops:Array Oper} {sp:List (Spec N)} {In:Nat→Ini N} {a0:Act} {w0 W:World} {bf:List Nat} {j:Nat} {o:Oper} {s:Spec N} {done:Nat→Bool} {a:Act} {w:World} {τ:Nat→bj} {C:Cfg} {q:Nat} {ps ps':Ps} {fu fu':Nat} {ou ou':Bool} {tv tv':Int} {β:Type}
theorem Gu {tag t tt:Nat} {x y:Operand} (hs:s=ot N tag t C (some q) ps fu ou tv') (hg:o.guard=none) (hd:o.dst=none) (ho:o.op= .store tt x y) (hsz:∀w,(sizeOf tt).run P w= .ok 1 w)
    (hp:∀{done a w τ},Cx ops sp In a0 w0 bf j o done a w τ→RunR C (some q) ps fu ou tv (gO τ w) (τ tag) w∧a.eval x= .pointer (some ⟨q,0,none⟩)∧a.eval y= .int .i64 tv'):Ob ops sp In a0 w0 P bf j o s:=by
  subst hs;refine fP hg rfl fun done a w τ c=> ?_;obtain ⟨hR,hx,hy⟩:=hp c;obtain ⟨g,e,l1,l2,l3⟩:=hR.to q rfl;simp at e;subst e;have hr:=run_store (P:=P) (t:=tt) (v:= .int .i64 tv') (off:=0) l3 (by exact hsz) (by simp [Value.cells]) (by simp [Value.cells,Value.oneCell']);have hr':(execOp a.eval o).run P w= .ok .skip (w.setRow q #[.int .i64 tv']):=by
    simp only [execOp,ho,hx,hy,Sem.run_bind];rw [hr];rfl
  have hext:=kB w q #[.int .i64 tv'];refine kC hr' ⟨_,rfl,hext.mono fun k _ hk=>by subst hk;exact l2,τ tag,fun g h=> .inl h,?_⟩;have hm:Ext (fun g=>¬gO τ w g) w (w.setRow q #[.int .i64 tv']):=hext.mono fun k _ hk=>by subst hk;exact lC _ l2
  have hzz:∀g,gO τ w g→gO (qF τ tag (τ tag)) (w.setRow q #[.int .i64 tv']) g:=fun g hz=>mQ (fun _ h=>h) g (kk hext.size g hz);have hqg:=hR.tg q rfl;obtain ⟨⟨k1,k2,k3,k4,k5,k6,k7,k8⟩,k9,k10⟩:=hR;refine ⟨⟨k1,k2,dM k3 hext.size,k4,?_,⟨iD.keep k6.1 hext fun g hg he=>hqg.2 g hg he,k6.2⟩,(fb gR Al C.cv.v C.E.cs).st hzz hm k7,(fb lM Al C.lv.v C.E.pl).st hzz hm k8⟩,fun q' hq'=> ?_,k10⟩
  · rw [hext.block C.g k3 fun e=>hqg.1 e.symm];exact k5
  · cases hq'
    exact ⟨q,rfl,dM l1 hext.size,l2,setRow_heap w q _ _ C.it _ l3⟩
def AM (N:bj) (tag t:Nat) (C:Cfg) (tb:Option Nat) (ps:β→Ps) (fu:Nat) (ou:Bool) (tv:Int) (f:β→Value) (Ψ:β→Prop) (Φ:β→ZP):Spec N:=⟨some tag,t,fun Z T v w=>∃b,v=f b∧RunR C tb (ps b) fu ou tv Z T w∧Ψ b∧(Φ b).P Z w,fun Z Z' T v w w' hz he ⟨b,h0,h1,h2,h3⟩=>⟨b,h0,RunR.loc hz he h1,h2,(Φ b).st hz (he.mono fun _ _ h=>h.2.2) h3⟩,fun _=>True,fun _ _ _ _ _=>trivial⟩
theorem ye {tb:Option Nat} {tag t:Nat} {pf:β→Ps} {f:β→Value} {Ψ:β→Prop} {Φ:β→ZP} (h:∀{done a w τ},Cx ops sp In a0 w0 bf j o done a w τ→∃g args,hN P a o w g args∧Calls P g args w (fun e w'=>∃b,e= .returned (f b)∧Ext (τ tag) w w'∧RunR C tb (pf b) fu ou tv (gO τ w') (τ tag) w'∧Ψ b∧(Φ b).P (gO τ w') w'))
    (hs:s=AM N tag t C tb pf fu ou tv f Ψ Φ:=by exact rfl) (hg:o.guard=none:=by exact rfl) (hd:o.dst=some t:=by exact rfl):Ob ops sp In a0 w0 P bf j o s:=by
  subst hs;refine mh (tag:=tag) hg rfl fun done a w τ c=> ?_;obtain ⟨g,args,h1,h2⟩:=h c;refine ⟨g,args,h1,h2.mono fun e w' ⟨b,he,hx,hb,hq,hz⟩=>⟨f b,he,hx,τ tag,fun g h=> .inl h,?_⟩⟩;refine ⟨b,?_,hb.mono (mQ fun _ h=>h) fun _ h=>h,hq,(Φ b).st (mQ fun _ h=>h) (Ext.refl _ _) hz⟩;show be (a.put o.dst (f b)) t=f b;rw [hd,eJ a t t _ (c.lt t hd),if_pos rfl]
end
section
variable {N:bj} {l:List Oper} {sp:List (Spec N)} {il:List (Ini N)} {a0 a:Act} {w:World} {τ:Nat→bj} {C:Cfg} {fu:Nat} {ou:Bool} {tv:Int} {β:Type}
theorem Fin.zr (h:Fin l sp il a0 a w τ) {tb:Option Nat} {t slot:Nat} {pf:β→Ps} {f:β→Value} {Ψ:β→Prop} {Φ:β→ZP} (j:Nat) (hs:sp[j]? =some (AM N t slot C tb pf fu ou tv f Ψ Φ)) (hl:cr (sp.map (·.tag)) t sp.length=some j:=by exact rfl):∃b,be a slot=f b∧RunR C tb (pf b) fu ou tv (gO τ w) (τ t) w∧Ψ b∧Fz (Φ b) τ w:=h.res j t _ hs rfl hl
end
structure BegP (t:Tr) (s:ByteArray) (fold:Bool) (C:Cfg) (rt st it:Nat):Prop where
  env:C.E=⟨bA s,aO s,fold⟩
  tys:C.rt=rt∧C.st=st∧C.it=it
  m:C.m=grpN t
  lay:Lay C.top t 0
structure Begun (t:Tr) (s:ByteArray) (fold:Bool) (C:Cfg) (rt st it fu:Nat) (G:bj) (w w':World):Prop where
  p:BegP t s fold C rt st it
  run:RunR C none (List.replicate C.m ((-1:Int),(-1:Int))) fu false 0 (fun b=>(b < w'.heap.size∧¬Td C none b)∧G b) (Td C none) w'
  top:(oq C.top).P (fun b=>(b < w'.heap.size∧¬Td C none b)∧G b) w'
  new:∀g,Td C none g→w.heap.size≤g∧g < w'.heap.size
theorem Gv (s:ByteArray) (n:Nat) (hn:n≤s.size):(kq s n).1.length≤n∧(kq s n).2≤n∧∀x ∈ (kq s n).1,x.size≤s.size:=by
  induction n with
  | zero => exact ⟨bz _, bz _, fun x hx => by simp [kq] at hx⟩
  | succ n ih =>
    obtain ⟨h1,h2,h3⟩:=ih (by omega);rw [kq,np];split
    · refine ⟨by simp;omega,bz _,fun x hx=> ?_⟩;rcases List.mem_append.1 hx with hx | hx
      · exact h3 x hx
      · simp at hx;subst hx;rw [ByteArray.size_extract];omega
    · exact ⟨by omega,by omega,h3⟩
theorem Gw {t:Tr} {s:ByteArray} {fold:Bool} {rt sty it fu m tR tP n:Nat} {cells:List Value} {p:Pt} {cv lv pv:Sv} {a:Act} {w w':World} {τ:Nat→bj} {vR:Value} {G:bj} (st:St (Nw w) w n a w' τ) (hR:cH rt cells (τ tR) vR w')
    (hcells:cells=Bj.cells p++ [.bool fold,cv.v,lv.v,pv.v,.int .i64 (fu:Int),.bool false]) (hP:ep cF sty (List.replicate m ((-1:Int),(-1:Int))) (τ tP) pv.v w') (hne:tP≠tR)
    (hc:Fz (fb gR G cv.v (bA s)) τ w') (hl:Fz (fb lM G lv.v (aO s)) τ w') (hp:Fz (zu G p) τ w') (hlay:Lay p t 0) (hm:m=grpN t) (hs:s.size≤900000) (hm6:m≤1000000):
    ∃C:Cfg,vR=C.rv∧Ext aW w w'∧Begun t s fold C rt sty it fu G w w':=by
  obtain ⟨g,e,hlt,hT,hg⟩:=hR;subst hcells;have hsz:=Gv s s.size (bz _);have hpl:=BT s;have hdis:∀b,pv.v.ownBlock=some b→b≠g:=fun b hb he=>hne (st.disj tP tR b (hP.2 b hb) (he ▸ hT));have hok:Cfg.Ok ⟨rt,sty,it,g,p,⟨bA s,aO s,fold⟩,cv,lv,pv,m⟩:=⟨hdis,hpl,bE hsz.1 (by omega),hm6,fun x hx=>bE (hsz.2.2 x hx) (by omega)⟩;have hZ:∀b,gO τ w' b→b < w'.heap.size∧¬Td ⟨rt,sty,it,g,p,⟨bA s,aO s,fold⟩,cv,lv,pv,m⟩ none b:=fun b hb=>⟨hb.1,fun ht=>by
    rcases ht with h | h | h
    · exact hb.2 tR (h ▸ hT)
    · exact hb.2 tP (hP.2 b h)
    · cases h⟩
  refine ⟨⟨rt,sty,it,g,p,⟨bA s,aO s,fold⟩,cv,lv,pv,m⟩,e,st.ext0,⟨⟨rfl,⟨rfl,rfl,rfl⟩,hm,hlay⟩,RunB.r ⟨hok,by simp,hlt,.inl rfl,hg,⟨hP.1,fun b hb=> .inr (.inl hb)⟩,?_,?_⟩,?_,?_⟩⟩
  · exact ⟨hc.1,fun hn=>⟨⟨hZ _ (hc.2 hn).1,(hc.2 hn).2⟩,av⟩⟩
  · exact ⟨hl.1,fun hn=>⟨⟨hZ _ (hl.2 hn).1,(hl.2 hn).2⟩,av⟩⟩
  · exact PtT.mono hp fun b hb _=>⟨hZ b hb.1,hb.2⟩
  · intro b hb;rcases hb with h | h | h
    · rw [h];exact st.bnd tR g hT
    · exact st.bnd tP b (hP.2 b h)
    · cases h
section
variable {N:bj} {P:Program} {ops:Array Oper} {sp:List (Spec N)} {In:Nat→Ini N} {a0:Act} {w0 W:World} {bf:List Nat} {j:Nat} {o:Oper} {s:Spec N} {done:Nat→Bool} {a:Act} {w w':World} {τ:Nat→bj}
def Ca (N:bj) (tag t:Nat) (tr:Tr) (x:ByteArray) (fold:Bool) (rt st it fu:Nat):Spec N:=⟨some tag,t,fun Z T v w=>∃C:Cfg,v=C.rv∧BegP tr x fold C rt st it∧RunR C none (List.replicate C.m ((-1:Int),(-1:Int))) fu false 0 Z T w∧(oq C.top).P Z w,
  fun Z Z' T v w w' hz he ⟨C,h0,h1,h2,h3⟩=>⟨C,h0,h1,RunR.loc hz he h2,(oq C.top).st hz (he.mono fun _ _ h=>h.2.2) h3⟩,fun _=>True,fun _ _ _ _ _=>trivial⟩
theorem wU {tag t rt st it fu:Nat} {tr:Tr} {x:ByteArray} {fold:Bool} (h:∀{done a w τ},Cx ops sp In a0 w0 bf j o done a w τ→∃g args,hN P a o w g args∧Calls P g args w (fun e w'=>∃C:Cfg,e= .returned C.rv∧Ext aW w w'∧BegP tr x fold C rt st it∧∃T':bj,(∀g,T' g→w.heap.size≤g∧g < w'.heap.size)∧RunR C none (List.replicate C.m ((-1:Int),(-1:Int))) fu false 0 (gO (qF τ tag T') w') T' w'∧(oq C.top).P (gO (qF τ tag T') w') w'))
    (hs:s=Ca N tag t tr x fold rt st it fu:=by exact rfl) (hg:o.guard=none:=by exact rfl) (hd:o.dst=some t:=by exact rfl):Ob ops sp In a0 w0 P bf j o s:=by
  subst hs;refine mh (tag:=tag) hg rfl fun done a w τ c=> ?_;obtain ⟨g,args,h1,h2⟩:=h c;refine ⟨g,args,h1,h2.mono fun e w' ⟨C,he,hx,hp,T',hT,hr,hz⟩=>⟨C.rv,he,hx.mono fun _ _ h=>h.elim,T',fun g hg=> .inr (hT g hg),C,?_,hp,hr,hz⟩⟩;show be (a.put o.dst C.rv) t=C.rv;rw [hd,eJ a t t _ (c.lt t hd),if_pos rfl]
theorem Cx.beg {F:bj} {n0:Nat} {a1:Act} {τ0:Nat→bj} {tag rt st it fu:Nat} {tr:Tr} {x:ByteArray} {fold:Bool} {f:FuncId} {args:Array Value} (c:Cx ops sp In a0 w0 bf j o done a w τ) (hst:St N W n0 a1 w0 τ0)
    (h:Calls P f args w (fun e w'=>∃C:Cfg,e= .returned C.rv∧Ext aW w w'∧Begun tr x fold C rt st it fu (Gn (fun g=>gO τ w g∧Gn F W g) w) w w')):
    Calls P f args w (fun e w'=>∃C:Cfg,e= .returned C.rv∧Ext aW w w'∧BegP tr x fold C rt st it∧∃T':bj,(∀g,T' g→w.heap.size≤g∧g < w'.heap.size)∧RunR C none (List.replicate C.m ((-1:Int),(-1:Int))) fu false 0 (gO (qF τ tag T') w') T' w'∧(oq C.top).P (gO (qF τ tag T') w') w'):=
  h.mono fun e w' ⟨C,he,hx,hb⟩=>⟨C,he,hx,hb.p,Td C none,hb.new,hb.run.mono (fun g hg=>⟨hg.1.1,fun t ht=>by
      unfold qF at ht;split at ht
      · exact hg.1.2 ht
      · exact (c.gz (F:=F) (c.hW hst) hx.size g hg.2 hg.1.1).1.2 t ht⟩) (fun _ h=>h),(oq C.top).st (fun g hg=>⟨hg.1.1,fun t ht=>by
      unfold qF at ht;split at ht
      · exact hg.1.2 ht
      · exact (c.gz (F:=F) (c.hW hst) hx.size g hg.2 hg.1.1).1.2 t ht⟩) (Ext.refl _ _) hb.top⟩
end
section
variable {N:bj} {l:List Oper} {sp:List (Spec N)} {il:List (Ini N)} {a0 a:Act} {w:World} {τ:Nat→bj}
theorem Fin.bg (h:Fin l sp il a0 a w τ) {t slot rt st it fu:Nat} {tr:Tr} {x:ByteArray} {fold:Bool} (j:Nat) (hs:sp[j]? =some (Ca N t slot tr x fold rt st it fu)) (hl:cr (sp.map (·.tag)) t sp.length=some j:=by exact rfl):
    ∃C:Cfg,be a slot=C.rv∧BegP tr x fold C rt st it∧RunR C none (List.replicate C.m ((-1:Int),(-1:Int))) fu false 0 (gO τ w) (τ t) w∧Fz (oq C.top) τ w:=h.res j t _ hs rfl hl
end
def gQ (may hit:Bool) (x:Mt × Fl):Mt × Int × Int:=if may=false then (none,0,10) else if hit=false then (none,0,3) else if x.2.2=true then (none,0,9) else (x.1,(x.2.1:Int),0)
def dL (t:Tr) (fold:Bool) (s:ByteArray) (at' fuel:Int):Mt × Int × Int:=gQ (cX t 512 16).2 (mO (aO s) at') (eu ⟨bA s,aO s,fold⟩ (cM ⟨bA s,aO s,fold⟩ t 0) (grpN t) (plcF (aO s) at') (clampF fuel,false))
theorem JV {m:Nat} (t:Tr):∀(p:Pt) (g:Nat),Lay p t g→fq t=true→g+grpN t≤m→fc t≤1000000→OkP m p:=by
  induction t using Tr.ind with
  | h t ih =>
    intro p g h ha hg hw;cases h with
    | mk h1 h2 h3 h4 =>
      have hf:=pJ h1;have hwp:fc p.t=fc t:=Ai h1;rw [gY,au,cI] at ha;obtain ⟨hk,hfl⟩:=ha;have hlen:p.ps.length=t.kids.length:=by
        have key:∀(ts:List Tr) (ps:List Pt) (g:Nat),LayL ps ts g→ps.length=ts.length:=by
          intro ts;induction ts with
          | nil => intro ps g h; cases h; rfl
          | cons u ts ih2 => intro ps g h; cases h with
            | cons h5 h6 => simp [ih2 _ _ h6]
        exact key _ _ _ h4
      have hgt:=jn t;have hgb:=lH t;have hall:∀(ts:List Tr) (ps:List Pt) (g':Nat),(∀k ∈ ts,k ∈ t.kids)→LayL ps ts g'→g'+grpsN ts≤m→∀q ∈ ps,OkP m q:=by
        intro ts;induction ts with
        | nil => intro ps g' _ h _ q hq; cases h; simp at hq
        | cons u ts ih2 =>
          intro ps g' hm h hgm q hq;cases h with
          | cons h5 h6 =>
            have hs:grpsN (u::ts)=grpN u+grpsN ts:=by simp [grpsN]
            rcases List.mem_cons.1 hq with rfl | hq
            · exact ih u (hm u (by simp)) q g' h5 (hk u (hm u (by simp))) (by omega) (by have:=sY (hm u (by simp));omega)
            · exact ih2 _ _ (fun x hx=>hm x (by simp [hx])) h6 (by omega) q hq
      have hkg:fk t g+grpsN t.kids=g+grpN t:=by rw [yV,hgt];omega
      have hone:t.k=5∨t.k=6∨t.k=7→t.kids.length=1:=by
        intro hk5;unfold dZ at hfl;rcases hk5 with h | h | h
        · rw [if_neg (by omega),if_neg (by omega),if_neg (by omega),if_neg (by omega),if_neg (by omega),if_pos (by omega)] at hfl;simp at hfl;omega
        · rw [if_neg (by omega),if_neg (by omega),if_neg (by omega),if_neg (by omega),if_neg (by omega),if_pos (by omega)] at hfl;simp at hfl;omega
        · rw [if_neg (by omega),if_neg (by omega),if_pos (by omega)] at hfl;simp at hfl;omega
      refine .mk ⟨by omega,by omega,by omega⟩ (fun h5=> ?_) (fun h5=> ?_) (fun h7=> ?_) (by omega) ?_ (hall t.kids p.ps (fk t g) (fun _ h=>h) h4 (by omega))
      · rw [hf.1] at h5;rw [if_pos h5] at hgt;omega
      · rw [hf.1] at h5;rw [hlen];exact hone h5
      · rw [hf.1] at h7;have h1k:=hone (.inr (.inr h7));have hrep:qg (nth t.kids 0).k=true:=by
          unfold dZ at hfl;rw [if_neg (by omega),if_neg (by omega),if_pos h7] at hfl;simp only [au] at hfl;exact hfl.1.1.1.2
        have hk0:(nth p.ps 0).t.k=(nth t.kids 0).k:=by
          cases hps:p.ps with
          | nil => rw [hps] at hlen; simp at hlen; omega
          | cons q ps =>
            cases hts:t.kids with
            | nil => rw [hts] at h1k; simp at h1k
            | cons u ts =>
              rw [hps,hts] at h4;cases h4 with
              | cons h5 h6 => cases h5 with
                | mk a1 a2 a3 a4 => exact (pJ a1).1
        rw [hk0];unfold qg at hrep;unfold lk;simp only [aR,ai] at hrep;simp;omega
      · rw [hlen];have:=(fG t).1;omega
end
section
open Go.RowKit
open Srt
theorem Cb (xs:Ps) (lo:Nat):noneR xs lo 0=xs:=by simp [noneR]
theorem Cc {xs:Ps} {lo i:Nat} (h:lo+i < xs.length):(noneR xs lo i).set (lo+i) ((-1:Int),(-1:Int))=noneR xs lo (i+1):=by
  unfold noneR;have h1:(xs.take lo++List.replicate i ((-1:Int),(-1:Int))).length=lo+i:=by simp;omega
  rw [fI _ _ (by omega),h1,mb,fo (by omega),nT,List.replicate_succ'];simp [Nat.add_assoc]
set_option maxRecDepth 100000 in
theorem Cd (ty:Nat) (v:Value) (xs:Ps) (lo n:Nat) (w:World) (ho:iD cF ty w v xs) (h1:lo+n≤xs.length):Calls Tryz.prog 70 #[(iF v lo (lo+n) 2)] w (fun e w'=>e= .returned (.tuple #[])∧iD cF ty w' v (noneR xs lo n)∧Ext (fun k=>v.ownBlock=some k) w w'):=by
 refine fj (fun g=>v.ownBlock=some g) (fun g hg=>ho.lt g hg) (n:=13) Tryz.func70 rfl rfl (aw rfl) ?_;intro a0 τ0 ha hτ st0;have e0:=oz ha;have r0:ep cF ty xs (τ0 0) v w:=⟨ho,fun g hg=>by rw [hτ];exact hg⟩;have hle:=r0.le;refine wp_seq ?_;refine sf [0,1,0] st0 [jo r0] ⟨ao e0,aq fun c=>dk rfl bh (c.q 0) (xY r0.isSl (by first | omega | (simp only [jc (ps:=xs) (lo:=lo) (n:=i) (by omega)];omega)) (by first | omega | (simp only [jc (ps:=xs) (lo:=lo) (n:=i) (by omega)];omega))),aq fun c=>aS rfl rfl,av⟩ fun ac ag ae ab aa=> ?_;replace e0:=aa.k1 e0;have e4:=aa.V 1;have e5:=aa.V 2;replace r0:=aa.O 0;refine wp_block ?_;refine wp_loop (fun a_ w_=>∃(i:Nat) (τ:Nat→bj),(i≤n)∧
      St (fun k=>v.ownBlock=some k∨w.heap.size≤k) w 13 a_ w_ τ∧
      be a_ 5=(aj (i:Int))∧
      be a_ 0=(iF v lo (lo+n) 2)∧
      be a_ 4=(aj (((lo+n) - lo:Nat):Int))∧
      ep cF ty (noneR xs lo i) (τ 0) v w_) (fun a_ _=>n - (intOf (be a_ 5)).toNat) ?_ ?_
 · refine ⟨0,ae,?_,ab,(e5.trans (bB (by omega))),e0,e4,?_⟩
   · omega
   · exact r0.cast (by exact Cb _ _)
 intro a2 w2 hI;obtain ⟨i,τ2,q0,st2,e5,e0,e4,r0⟩:=hI;have hnl:=jc (ps:=xs) (lo:=lo) (n:=i) (by omega);have m5:=e5;refine wp_seq (eK st2 [jo r0] ⟨aq fun c=>cW rfl (c.p e5) (c.p e4),av⟩ fun ac ag ae ab aa=> ?_);obtain ⟨e0,e4,e5⟩:=aa.k3 e0 e4 e5;have e6:=aa.V 0;replace r0:=aa.O 0;refine wp_seq ?_;refine wp_cond_split e6 (fun hc1=> ?_) (fun hc1=> ?_)
 · try simp only [ai] at hc1
   refine wp_skip ?_;refine wp_seq ?_;refine wp_block ?_;refine wp_seq (eA ab [jo r0] ⟨ao e5,aK 0,av⟩ fun ac ag ae ab aa=> ?_);obtain ⟨e0,e4,e5,e6⟩:=aa.k4 e0 e4 e5 e6;have e2:=aa.V 1;replace r0:=aa.O 0;refine rg [_,_,_,_,JT cF ty _ 0 3 v ((noneR xs lo i).set (lo+i) ((-1),(-1)))] [0,0,0,7,15] ab [jo r0] ⟨ao e0,ao e2,aq fun c=>xE (cells:=#[(aj (-1)),(aj (-1))]) rfl gU (iT rfl rfl rfl),aq fun c=>BY (i:=i) rfl bh aT (c.q 0) r0.isSl (c.q 1) (by first | omega | (simp only [jc (ps:=xs) (lo:=lo) (n:=i) (by omega)];omega)) (by first | omega | (simp only [jc (ps:=xs) (lo:=lo) (n:=i) (by omega)];omega)),Ej (E:=cF) (i:=lo+i) (u:=(.agg #[(aj (-1)),(aj (-1))])) (x:=nth (noneR xs lo i) ((lo+i:Nat):Int)) (x':=((-1),(-1))) rfl rfl rfl rfl aT (bF (i:=((lo+i:Nat):Int)) (by (try simp only [dx]);omega) (by (try simp only [dx]);omega)) (aw rfl) (by simp [Value.cells,Value.oneCell',Sv.v]) rfl fun c=>⟨c.io 0 rfl,(c.n 3 rfl),(c.n 2 rfl)⟩,av⟩ fun ac ag ae ab aa=> ?_;obtain ⟨e0,e2,e4,e5,e6⟩:=aa.k5 e0 e2 e4 e5 e6;replace r0:=aa.ov 4 rfl;show _;refine eA ab [jo r0] ⟨aq fun c=>cN rfl (c.p e5) rfl (by first | omega | (simp only [jc (ps:=xs) (lo:=lo) (n:=i) (by omega)];omega)),bD 0,av⟩ fun ac ag ae ab aa=> ?_;obtain ⟨e0,e2,e4,e6⟩:=aa.k4 e0 e2 e4 e6;have e5:=aa.V 1;replace r0:=aa.O 0;refine ⟨⟨i+1,ae,?_,ab,(e5.trans (bB (by omega))),e0,e4,?_⟩,?_⟩
   · omega
   · exact r0.cast (by exact (Cc (by omega)).symm)
   · simp only [m5,e5,intOf];omega
 try simp only [ah,aV] at hc1
 refine wp_exit ?_;repeat (with_reducible refine cy ?_)
 refine cC ?_;refine oC (fn:=Tryz.f70) rfl ab.defers ?_;obtain rfl:i=n:=by omega
 exact ⟨rfl,r0.1,ab.extIn⟩
end
section
open Go.RowKit
open Srt
set_option maxRecDepth 100000 in
theorem Ik (C:Cfg) (tb:Option Nat) (ps:Ps) (fu:Nat) (tv:Int) (w:World) (hR:jH C tb ps fu false tv w) (hf:fu=0) (hfb:fu≤1000000):Calls Tryz.prog 91 #[C.rv] w (fun e w'=>e= .returned (aE false)∧Ext (Td C tb) w w'∧jH C tb ps fu true tv w'):=by
 refine fj (Td C tb) (fun g hg=>hR.tdlt g hg) (n:=18) Tryz.func91 rfl rfl (aw rfl) ?_;intro a0 τ0 ha hτ st0;have e0:=oz ha;have r0:RunR C tb ps fu false tv (gO τ0 w) (τ0 0) w:=hR.in hτ st0;refine wp_seq (eK st0 [jr r0] ⟨aq fun c=>ax rfl rfl,av⟩ fun ac ag ae ab aa=> ?_);replace e0:=aa.k1 e0;have e2:=aa.V 0;replace r0:=aa.ir 0 rfl;refine wp_seq ?_;refine wp_seq (xk ab [jr r0] ⟨ao e0,cD 0 rfl,bS ba aA 1 rfl,aq fun c=>aI rfl aN (c.q 2) (by exact (c.ir 0 rfl).cell (j:=15) rfl),aq fun c=>cY rfl (c.q 3) rfl,av⟩ fun ac ag ae ab aa=> ?_);obtain ⟨e0,e2⟩:=aa.k2 e0 e2;have e7:=aa.V 4;replace r0:=aa.ir 0 rfl;refine wp_cond_split e7 (fun hc1=> ?_) (fun hc1=> ?_)
 · try simp only [ai] at hc1
   refine wp_seq (rg [_,_,_,ot _ 0 0 C tb ps fu true tv] [0,1,3,7] ab [jr r0] ⟨ao e0,cD 0 rfl,bS ba cj 1 rfl,oV (off:=16) (v:=aE true) rfl rfl rfl rfl cj rfl rfl (by decide) rfl fun c=>⟨(c.ir 0 rfl),(c.n 2 rfl),rfl⟩,av⟩ fun ac ag ae ab aa=> ?_);obtain ⟨e0,e2⟩:=aa.k2 e0 e2;replace r0:=aa.r0 3 rfl;refine wp_seq (eK ab [jr r0] ⟨aq fun c=>ax rfl rfl,av⟩ fun ac ag ae ab aa=> ?_);replace e0:=aa.k1 e0;have e2:=aa.V 0;replace r0:=aa.ir 0 rfl;refine wp_ret ?_;refine rp ?_;refine cO (fn:=Tryz.f91) rfl ab.defers e2 ?_;first | exact ⟨rfl,ab.extIn,r0.dz⟩ | (exfalso;omega)
 try simp only [ah] at hc1
 refine wp_skip ?_;refine wp_seq (rg [_,_,_,_,_,_,_,ot _ 0 0 C tb ps (fu - 1) false tv] [0,1,3,7,15,31,63,127] ab [jr r0] ⟨ao e0,cD 0 rfl,bS ba aA 1 rfl,aq fun c=>aI rfl aN (c.q 2) (by exact (c.ir 0 rfl).cell (j:=15) rfl),aq fun c=>gd rfl (c.q 3) rfl (by omega),cD 0 rfl,bS ba aA 5 rfl,oV (off:=15) (v:=aj ((fu - 1:Nat):Int)) rfl rfl rfl rfl aA rfl rfl (by decide) rfl fun c=>⟨(c.ir 0 rfl),(c.n 6 rfl),(c.n 4 rfl).trans (bB (by omega))⟩,av⟩ fun ac ag ae ab aa=> ?_);replace e2:=aa.k1 e2;replace r0:=aa.r0 7 rfl;refine wp_seq (eK ab [jr r0] ⟨aq fun c=>ax rfl rfl,av⟩ fun ac ag ae ab aa=> ?_);have e2:=aa.V 0;replace r0:=aa.ir 0 rfl;refine wp_ret ?_;refine rp ?_;refine cO (fn:=Tryz.f91) rfl ab.defers e2 ?_;first | exact ⟨rfl,ab.extIn,r0.dz⟩ | (exfalso;omega)
set_option maxRecDepth 100000 in
theorem Il (C:Cfg) (tb:Option Nat) (ps:Ps) (fu:Nat) (tv:Int) (w:World) (hR:jH C tb ps fu false tv w) (hf:¬fu=0) (hfb:fu≤1000000):Calls Tryz.prog 91 #[C.rv] w (fun e w'=>e= .returned (aE true)∧Ext (Td C tb) w w'∧jH C tb ps (fu - 1) false tv w'):=by
 refine fj (Td C tb) (fun g hg=>hR.tdlt g hg) (n:=18) Tryz.func91 rfl rfl (aw rfl) ?_;intro a0 τ0 ha hτ st0;have e0:=oz ha;have r0:RunR C tb ps fu false tv (gO τ0 w) (τ0 0) w:=hR.in hτ st0;refine wp_seq (eK st0 [jr r0] ⟨aq fun c=>ax rfl rfl,av⟩ fun ac ag ae ab aa=> ?_);replace e0:=aa.k1 e0;have e2:=aa.V 0;replace r0:=aa.ir 0 rfl;refine wp_seq ?_;refine wp_seq (xk ab [jr r0] ⟨ao e0,cD 0 rfl,bS ba aA 1 rfl,aq fun c=>aI rfl aN (c.q 2) (by exact (c.ir 0 rfl).cell (j:=15) rfl),aq fun c=>cY rfl (c.q 3) rfl,av⟩ fun ac ag ae ab aa=> ?_);obtain ⟨e0,e2⟩:=aa.k2 e0 e2;have e7:=aa.V 4;replace r0:=aa.ir 0 rfl;refine wp_cond_split e7 (fun hc1=> ?_) (fun hc1=> ?_)
 · try simp only [ai] at hc1
   refine wp_seq (rg [_,_,_,ot _ 0 0 C tb ps fu true tv] [0,1,3,7] ab [jr r0] ⟨ao e0,cD 0 rfl,bS ba cj 1 rfl,oV (off:=16) (v:=aE true) rfl rfl rfl rfl cj rfl rfl (by decide) rfl fun c=>⟨(c.ir 0 rfl),(c.n 2 rfl),rfl⟩,av⟩ fun ac ag ae ab aa=> ?_);obtain ⟨e0,e2⟩:=aa.k2 e0 e2;replace r0:=aa.r0 3 rfl;refine wp_seq (eK ab [jr r0] ⟨aq fun c=>ax rfl rfl,av⟩ fun ac ag ae ab aa=> ?_);replace e0:=aa.k1 e0;have e2:=aa.V 0;replace r0:=aa.ir 0 rfl;refine wp_ret ?_;refine rp ?_;refine cO (fn:=Tryz.f91) rfl ab.defers e2 ?_;first | exact ⟨rfl,ab.extIn,r0.dz⟩ | (exfalso;omega)
 try simp only [ah] at hc1
 refine wp_skip ?_;refine wp_seq (rg [_,_,_,_,_,_,_,ot _ 0 0 C tb ps (fu - 1) false tv] [0,1,3,7,15,31,63,127] ab [jr r0] ⟨ao e0,cD 0 rfl,bS ba aA 1 rfl,aq fun c=>aI rfl aN (c.q 2) (by exact (c.ir 0 rfl).cell (j:=15) rfl),aq fun c=>gd rfl (c.q 3) rfl (by omega),cD 0 rfl,bS ba aA 5 rfl,oV (off:=15) (v:=aj ((fu - 1:Nat):Int)) rfl rfl rfl rfl aA rfl rfl (by decide) rfl fun c=>⟨(c.ir 0 rfl),(c.n 6 rfl),(c.n 4 rfl).trans (bB (by omega))⟩,av⟩ fun ac ag ae ab aa=> ?_);replace e2:=aa.k1 e2;replace r0:=aa.r0 7 rfl;refine wp_seq (eK ab [jr r0] ⟨aq fun c=>ax rfl rfl,av⟩ fun ac ag ae ab aa=> ?_);have e2:=aa.V 0;replace r0:=aa.ir 0 rfl;refine wp_ret ?_;refine rp ?_;refine cO (fn:=Tryz.f91) rfl ab.defers e2 ?_;first | exact ⟨rfl,ab.extIn,r0.dz⟩ | (exfalso;omega)
set_option maxRecDepth 100000 in
theorem rQ (C:Cfg) (t:Tr) (x:ByteArray) (w:World) (hm:w.cell? (C.ad.add 11)=some (aE C.E.fold)) (hT:oO w t) (hP:fc t≤1000000) (hx:x.size≤1000000):Calls Tryz.prog 93 #[(.pointer (some C.ad)),(ta t),(bc x)] w (fun e w'=>e= .returned (aE (kj C.E.fold t x))∧Ext aW w w'):=by
 refine enter (n:=43) Tryz.func93 rfl rfl (aw rfl) ?_;intro a0 τ0 ha st0;have e0:be a0 0=(.pointer (some C.ad)):=ha 0 _ rfl;have e1:be a0 1=(ta t):=ha 1 _ rfl;have e2:be a0 2=(bc x):=ha 2 _ rfl;clear ha;have hwt:=fG t;refine wp_seq (rg [box _ _ 0 4 (tc t),_] [0,0] st0 [] ⟨hH (v:=(ta t)) rfl rfl rfl rfl rfl (fun _ _ _ _ c=>(c.p e1)),aq fun c=>ax rfl rfl,av⟩ fun ac ag ae ab aa=> ?_);obtain ⟨b1x4,e4⟩:=gx ac 4;obtain ⟨e0,e2⟩:=aa.k2 e0 e2;have e6:=aa.V 1;have r0:=aa.rb 0 e4 rfl;refine wp_seq ?_;refine wp_seq (eA ab [jb r0] ⟨cK aJ aA e4 r0.ptr,fE aN 0 0 0,av⟩ fun ac ag ae ab aa=> ?_);obtain ⟨e0,e2,e4,e6⟩:=aa.k4 e0 e2 e4 e6;have e8:=aa.V 1;replace r0:=aa.B 0;refine wp_block ?_;refine wp_seq (eA ab [jb r0] ⟨aq fun c=>cY rfl (c.p e8) rfl,aK 0,av⟩ fun ac ag ae ab aa=> ?_);obtain ⟨e0,e2,e4,e6,e8⟩:=aa.k5 e0 e2 e4 e6 e8;have e9:=aa.V 1;replace r0:=aa.B 0;refine wp_cond_split e9 (fun hc1=> ?_) (fun hc1=> ?_)
 · try simp only [ai] at hc1
   refine wp_seq ?_;refine rg [_,_,_,_,_,_,_,_,_,_,_,_,_,_,_,_,_,_,_] [0,0,2,7,15,31,63,127,255,511,1023,2047,1023,5119,16383,32767,65535,131071,262143] ab [jb r0] ⟨ao e2,cK aJ cf e4 r0.ptr,fE cJ 1 0 1,aq fun c=>eI rfl (c.q 0) (c.q 2),bD 3,bm 4 rfl fun c hpc=>aS rfl (c.p e0),bm 4 rfl fun c hpc=>eR rfl (c.M 5 hpc) rfl,bm 4 rfl fun c hpc=>dh rfl ba cj (c.M 6 hpc),bm 4 rfl fun c hpc=>aI rfl dS (c.M 7 hpc) ((ab.ext.trans c.J.ext).cellAt hm),bm 4 rfl fun c hpc=>aS rfl (c.M 8 hpc),dj 9 true rfl fun c hpc=>aS rfl (c.p e2),qR 9 true rfl fun c hpc=>⟨_,_,(bK rfl rfl oG (c.M 10 hpc)),wM x _ (by have hq0:=hpc.2;have hq1:=hpc.1;omega)⟩,dj 9 true rfl fun c hpc=>dh rfl aJ cf ((c.p e4).trans r0.ptr),dj 9 true rfl fun c hpc=>aI rfl cJ (c.M 12 hpc) ((c.B 0).cell (j:=1) rfl),qR 9 true rfl fun c hpc=>⟨_,_,(bK rfl rfl oG (c.M 13 hpc)),wM t.ch _ (by have hq0:=hpc.2;have hq1:=hpc.1;omega)⟩,dj 9 true rfl fun c hpc=>eI rfl (c.M 11 hpc) (c.M 14 hpc),bm 4 rfl fun c hpc=>oK rfl (c.M 9 hpc) (fun h=>c.m 15 rfl (And.intro hpc h)),dm 4 16,aK 17,av⟩ fun ac ag ae ab aa=> ?_;obtain ⟨e0,e2,e4,e8⟩:=aa.k4 e0 e2 e4 e8;have e6:=aa.V 18;replace r0:=aa.B 0;refine wp_ret ?_;refine rp ?_;refine cO (fn:=Tryz.f93) rfl ab.defers e6 ?_;exact ⟨congrArg _ (congrArg _ (by unfold kj;(repeat (first | rw [if_pos (by assumption)] | rw [if_neg (by assumption)])))),ab.ext0⟩
 try simp only [ah] at hc1
 refine wp_seq (eA ab [jb r0] ⟨aq fun c=>cY rfl (c.p e8) rfl,aK 0,av⟩ fun ac ag ae ab aa=> ?_);obtain ⟨e0,e2,e4,e6⟩:=aa.k4 e0 e2 e4 e6;have e29:=aa.V 1;replace r0:=aa.B 0;refine wp_cond_split e29 (fun hc2=> ?_) (fun hc2=> ?_)
 · try simp only [ai] at hc2
   refine wp_seq (fX ab [jb r0] ⟨ao e2,aq fun c=>oa rfl (c.q 0) rfl,aK 1,av⟩ fun ac ag ae ab aa=> ?_);obtain ⟨e0,e2,e4⟩:=aa.k3 e0 e2 e4;have e6:=aa.V 2;replace r0:=aa.B 0;refine wp_ret ?_;refine rp ?_;refine cO (fn:=Tryz.f93) rfl ab.defers e6 ?_;exact ⟨congrArg _ (congrArg _ (by unfold kj;(repeat (first | rw [if_pos (by assumption)] | rw [if_neg (by assumption)])))),ab.ext0⟩
 try simp only [ah] at hc2
 refine wp_skip ?_;show _;refine wp_seq (uf [0,1,0,4,0,16,48,112,0,511,1023] ab [jb r0] ⟨cK aJ fl e4 r0.ptr,fE jk 0 0 3,cK aJ cj e4 r0.ptr,fE dS 2 0 2,ao e0,cD 4 rfl,bS ba cj 5 rfl,aq fun c=>aI rfl dS (c.q 6) ((ab.ext.trans c.J.ext).cellAt hm),ao e2,eE fun c=>⟨_,_,(iM rfl rfl Tryz.call113 (c.q 1) (c.q 3) (c.q 7) (c.q 8)),KU t.rv.v t.rows t.ng C.E.fold x _ (hT.at (ab.ext.trans c.J.ext)).rows (by omega)⟩,aK 9,av⟩ fun ac ag ae ab aa=> ?_);have e6:=aa.V 10;refine wp_ret ?_;refine rp ?_;refine cO (fn:=Tryz.f93) rfl ab.defers e6 ?_;exact ⟨congrArg _ (congrArg _ (by unfold kj;(repeat (first | rw [if_pos (by assumption)] | rw [if_neg (by assumption)])))),ab.ext0⟩
set_option maxRecDepth 100000 in
theorem AN (C:Cfg) (kd:Int) (k:Nat) (w:World) (hm:w.cell? (C.ad.add 12)=some C.cv.v) (hS:SlT gR w C.cv.v C.E.cs) (hk:k≤C.E.cs.length):Calls Tryz.prog 94 #[(.pointer (some C.ad)),(aj kd),(aj (k:Int))] w (fun e w'=>e= .returned (aE (kW C.E.cs kd (k:Int)))∧Ext aW w w'):=by
 refine enter (n:=59) Tryz.func94 rfl rfl (aw rfl) ?_;intro a0 τ0 ha st0;obtain ⟨e0,e1,e2⟩:=Ll ha;have hle:=hS.le;refine wp_seq (eK st0 [] ⟨aq fun c=>ax rfl rfl,av⟩ fun ac ag ae ab aa=> ?_);obtain ⟨e0,e1,e2⟩:=aa.k3 e0 e1 e2;have e6:=aa.V 0;refine wp_seq ?_;refine wp_seq (eK ab [] ⟨ao e1,av⟩ fun ac ag ae ab aa=> ?_);obtain ⟨e0,e1,e2,e6⟩:=aa.k4 e0 e1 e2 e6;have e9:=aa.V 0;refine wp_block ?_;refine wp_seq (eA ab [] ⟨aq fun c=>cY rfl (c.p e9) rfl,aK 0,av⟩ fun ac ag ae ab aa=> ?_);obtain ⟨e0,e1,e2,e6,e9⟩:=aa.k5 e0 e1 e2 e6 e9;have e10:=aa.V 1;refine wp_cond_split e10 (fun hc1=> ?_) (fun hc1=> ?_)
 · try simp only [ai] at hc1
   refine wp_seq (fX ab [] ⟨ao e2,aq fun c=>cY rfl (c.q 0) rfl,aK 1,av⟩ fun ac ag ae ab aa=> ?_);obtain ⟨e0,e1,e2,e9⟩:=aa.k4 e0 e1 e2 e9;have e6:=aa.V 2;refine wp_ret ?_;refine rp ?_;refine cO (fn:=Tryz.f94) rfl ab.defers e6 ?_;exact ⟨congrArg _ (congrArg _ (by unfold kW;(repeat (first | rw [if_pos (by assumption)] | rw [if_neg (by assumption)]));(try rfl))),ab.ext0⟩
 try simp only [ah] at hc1
 refine wp_seq (eA ab [] ⟨aq fun c=>cY rfl (c.p e9) rfl,aK 0,av⟩ fun ac ag ae ab aa=> ?_);obtain ⟨e0,e1,e2,e6⟩:=aa.k4 e0 e1 e2 e6;have e14:=aa.V 1;refine wp_cond_split e14 (fun hc2=> ?_) (fun hc2=> ?_)
 · try simp only [ai] at hc2
   refine wp_seq (xC [0,0,2,6,14,30,63,127] ab [] ⟨ao e2,ao e0,cD 1 rfl,bS ba cS 2 rfl,aq fun c=>aI rfl dw (c.q 3) ((ab.ext.trans c.J.ext).cellAt hm),aq fun c=>dk rfl bL (c.q 4) hS.sl,aq fun c=>cY rfl (c.q 0) (c.q 5),aK 6,av⟩ fun ac ag ae ab aa=> ?_);obtain ⟨e0,e1,e2⟩:=aa.k3 e0 e1 e2;have e6:=aa.V 7;refine wp_ret ?_;refine rp ?_;refine cO (fn:=Tryz.f94) rfl ab.defers e6 ?_;exact ⟨congrArg _ (congrArg _ (by unfold kW;(repeat (first | rw [if_pos (by assumption)] | rw [if_neg (by assumption)]));(try rfl))),ab.ext0⟩
 try simp only [ah] at hc2
 refine wp_skip ?_;show _;refine wp_seq ?_;refine rg [_,_,_,_,_,_,_,_,_,_,_,_,_,_] [0,1,3,7,15,31,63,7,135,511,1023,2047,4095,8191] ab [] ⟨ao e2,aq fun c=>ii rfl (c.q 0) rfl,bD 1,aL 2 rfl fun c hpc=>aS rfl (c.p e0),aL 2 rfl fun c hpc=>eR rfl (c.M 3 hpc) rfl,aL 2 rfl fun c hpc=>dh rfl ba cS (c.M 4 hpc),aL 2 rfl fun c hpc=>aI rfl dw (c.M 5 hpc) ((ab.ext.trans c.J.ext).cellAt hm),aL 2 rfl fun c hpc=>aS rfl (c.p e2),aL 2 rfl fun c hpc=>gd rfl (c.M 7 hpc) rfl (by have hq0:=bt hpc;omega),aL 2 rfl fun c hpc=>aX rfl bL cf (c.M 6 hpc) hS.sl (c.M 8 hpc) (by have hq0:=bt hpc;omega) (by have hq0:=bt hpc;omega),aL 2 rfl fun c hpc=>aI rfl cJ (c.M 9 hpc) ((hS.at (ab.ext.trans c.J.ext)).elem (j:=0) (bF (i:=(k:Int) - 1) (by have hq0:=bt hpc;omega) (by have hq0:=bt hpc;omega)) rfl),fC 2 true rfl fun c hpc=>⟨_,_,(bK rfl rfl Tryz.call114 (c.M 10 hpc)),BU (nth C.E.cs ((k:Int) - 1)) _⟩,bZ 2 11,aK 12,av⟩ fun ac ag ae ab aa=> ?_;obtain ⟨e0,e1,e2,e6⟩:=aa.k4 e0 e1 e2 e6;have e7:=aa.V 13;refine wp_seq ?_;refine rg [_,_,_,_,_,_,_,_,_,_,_,_,_,_,_,_,_,_] [0,0,2,6,14,30,63,127,255,511,1023,2047,255,8191,16383,32767,65535,131071] ab [] ⟨ao e2,ao e0,cD 1 rfl,bS ba cS 2 rfl,aq fun c=>aI rfl dw (c.q 3) ((ab.ext.trans c.J.ext).cellAt hm),aq fun c=>dk rfl bL (c.q 4) hS.sl,aq fun c=>cW rfl (c.q 0) (c.q 5),bD 6,aL 7 rfl fun c hpc=>aS rfl (c.p e0),aL 7 rfl fun c hpc=>eR rfl (c.M 8 hpc) rfl,aL 7 rfl fun c hpc=>dh rfl ba cS (c.M 9 hpc),aL 7 rfl fun c hpc=>aI rfl dw (c.M 10 hpc) ((ab.ext.trans c.J.ext).cellAt hm),aL 7 rfl fun c hpc=>aS rfl (c.p e2),aL 7 rfl fun c hpc=>aX rfl bL cf (c.M 11 hpc) hS.sl (c.M 12 hpc) (by have hq0:=bt hpc;omega) (by have hq0:=bt hpc;omega),aL 7 rfl fun c hpc=>aI rfl cJ (c.M 13 hpc) ((hS.at (ab.ext.trans c.J.ext)).elem (j:=0) (bF (i:=(k:Int)) (by have hq0:=bt hpc;omega) (by have hq0:=bt hpc;omega)) rfl),fC 7 true rfl fun c hpc=>⟨_,_,(bK rfl rfl Tryz.call114 (c.M 14 hpc)),BU (nth C.E.cs (k:Int)) _⟩,bZ 7 15,aK 16,av⟩ fun ac ag ae ab aa=> ?_;obtain ⟨e1,e6,e7⟩:=aa.k3 e1 e6 e7;have e8:=aa.V 17;refine wp_seq (ue [0,0,3,0,8,31,63] ab [] ⟨ao e7,ao e8,aq fun c=>qO rfl cT (c.q 0) (c.q 1),ao e1,aq fun c=>cY rfl (c.q 3) rfl,aq fun c=>Bn rfl cT (c.q 2) (c.q 4),aK 5,av⟩ fun ac ag ae ab aa=> ?_);have e6:=aa.V 6;refine wp_ret ?_;refine rp ?_;refine cO (fn:=Tryz.f94) rfl ab.defers e6 ?_;exact ⟨congrArg _ (congrArg _ (by unfold kW;(repeat (first | rw [if_pos (by assumption)] | rw [if_neg (by assumption)]));(try rfl))),ab.ext0⟩
end
section
open Go.RowKit
open Srt
theorem Im {P:Program} {f:FuncId} {x1 x2 x2' x3 x4:Value} {w:World} {R:Ending→World→Prop} (e:x2=x2') (h:Calls P f #[x1,x2',x3,x4] w R):Calls P f #[x1,x2,x3,x4] w R:=e ▸ h
def Ce (C:Cfg) (tb:Option Nat) (p:Pt):Prop:=∀(k B:Nat) (K:cQ) (kf:Value) (ps:Ps) (fu:Nat) (ou:Bool) (tv:Int) (w:World),jH C tb ps fu ou tv w→(oq p).P (Fr C tb w) w→OkP C.m p→(zK Tryz.prog C tb B K kf).P (Fr C tb w) w→KP B K→k≤C.E.cs.length→fu≤1000000→(lk p.t.k=false→fu < B)→fu < B+1→
  Calls Tryz.prog 71 #[C.rv,p.v,.int .i64 (k:Int),kf] w (pL C tb ps tv (bH C.E p k K ps (fu,ou)) w)
def Io (C:Cfg) (tb:Option Nat) (l:List Pt):Prop:=∀(v:Sv) (k B:Nat) (K:cQ) (kf:Value) (ps:Ps) (fu:Nat) (tv:Int) (w:World),jH C tb ps fu false tv w→(xX v l).P (Fr C tb w) w→(∀q ∈ l,OkP C.m q)→(zK Tryz.prog C tb B K kf).P (Fr C tb w) w→KP B K→k≤C.E.cs.length→fu≤1000000→fu < B→
  Calls Tryz.prog 89 #[C.rv,v.v,.int .i64 (k:Int),kf] w (pL C tb ps tv (ge (l.map (bH C.E)) k K ps (fu,false)) w)
def yW (C:Cfg) (tb:Option Nat) (p:Pt) (g:Nat):Prop:=∀(k times B:Nat) (K:cQ) (kf:Value) (ps:Ps) (fu:Nat) (tv:Int) (w:World),jH C tb ps fu false tv w→(oq p).P (Fr C tb w) w→OkP C.m p→p.t.k=7→(zK Tryz.prog C tb B K kf).P (Fr C tb w) w→KP B K→k≤C.E.cs.length→fu≤1000000→fu < B→fu < g→times+fu≤2000000→
  Calls Tryz.prog 90 #[C.rv,p.v,.int .i64 (k:Int),.int .i64 (times:Int),kf] w (pL C tb ps tv (ea (bH C.E (nth p.ps 0)) p.lo.toNat (p.hi - p.lo).toNat p.t.mn p.t.mx p.t.lz g times k K ps (fu,false)) w)
theorem OkP.one {m:Nat} {p:Pt} (h:OkP m p) (hk:p.t.k=5∨p.t.k=6∨p.t.k=7):(0:Int) < (p.ps.length:Int)∧OkP m (nth p.ps 0):=by
  have h1:=h.facts.2.2.1 hk;exact ⟨by omega,h.kid (bN (by omega) (by omega))⟩
set_option maxRecDepth 100000 in
theorem JW (C:Cfg) (tb:Option Nat) (v:Sv) (l:List Pt) (b4:Nat) (b5:Nat) (b7:Nat) (to B:Nat) (K:cQ) (kf:Value) (ps:Ps) (fu:Nat) (tv:Int) (w:World) (hR:jH C tb ps fu false tv w) (h4:(eY ⟨b4,0,none⟩ [C.rv]).P (Fr C tb w) w) (h5:(eY ⟨b5,0,none⟩ [v.v]).P (Fr C tb w) w) (h7:(eY ⟨b7,0,none⟩ [kf]).P (Fr C tb w) w) (hl:(xX v l).P (Fr C tb w) w) (hk:(zK Tryz.prog C tb B K kf).P (Fr C tb w) w) (hs:Io C tb (l.drop 1)) (hne:1≤l.length) (hok:∀q ∈ l,OkP C.m q) (hp:KP B K) (ht:to≤C.E.cs.length) (hfu:fu≤1000000) (hfb:fu < B):Calls Tryz.prog 110 #[(aj (to:Int)),(.pointer (some (⟨b4,0,none⟩:Addr))),(.pointer (some (⟨b5,0,none⟩:Addr))),(.pointer (some (⟨b7,0,none⟩:Addr)))] w (fun e w'=>pL C tb ps tv (ge ((l.drop 1).map (bH C.E)) to K ps (fu,false)) w e w'):=by
 refine fj (Td C tb) (fun g hg=>hR.tdlt g hg) (n:=12) Tryz.func110 rfl rfl (aw rfl) ?_;intro a0 τ0 ha hτ st0;obtain ⟨e0,e1,e2,e3⟩:=KF ha;have r0:RunR C tb ps fu false tv (gO τ0 w) (τ0 0) w:=hR.in hτ st0;have r1:Fz (eY ⟨b4,0,none⟩ [C.rv]) τ0 w:=mN h4 st0;have r2:Fz (eY ⟨b5,0,none⟩ [v.v]) τ0 w:=mN h5 st0;have r3:Fz (eY ⟨b7,0,none⟩ [kf]) τ0 w:=mN h7 st0;have r4:Fz (xX v l) τ0 w:=mN hl st0;have r5:Fz (zK Tryz.prog C tb B K kf) τ0 w:=mN hk st0;refine wp_seq (eK st0 [jr r0,jz 1 r1,jz 2 r2,jz 3 r3,jz 4 r4,jz 5 r5] ⟨aq fun c=>ax rfl rfl,av⟩ fun ac ag ae ab aa=> ?_);obtain ⟨e0,e1,e2,e3⟩:=aa.k4 e0 e1 e2 e3;have e5:=aa.V 0;replace r0:=aa.ir 0 rfl;obtain ⟨r1,r2,r3,r4,r5⟩:=aa.z5 1 2 3 4 5;refine wp_seq ?_;refine rg [_,_,_,_,_,lB _ 0 11 C tb (jm ps (ge ((l.drop 1).map (bH C.E)) to K ps (fu,false))) ((ge ((l.drop 1).map (bH C.E)) to K ps (fu,false)).2.1) ((ge ((l.drop 1).map (bH C.E)) to K ps (fu,false)).2.2) (jj tv (ge ((l.drop 1).map (bH C.E)) to K ps (fu,false))) (aE ((ge ((l.drop 1).map (bH C.E)) to K ps (fu,false)).1.isSome)),_] [0,0,2,0,0,31,63] ab [jr r0,jz 1 r1,jz 2 r2,jz 3 r3,jz 4 r4,jz 5 r5] ⟨aq fun c=>aI rfl eh (c.p e1) (by exact (c.iz 1 rfl).2 0 _ rfl),aq fun c=>aI rfl iK (c.p e2) (by exact (c.iz 2 rfl).2 0 _ rfl),aq fun c=>ru rfl fa df (c.q 1) (r4).1.1.sl rfl (by omega) (by omega),ao e0,aq fun c=>aI rfl jq (c.p e3) (by exact (c.iz 3 rfl).2 0 _ rfl),kO fun {_ a_ _ _} c=>⟨_,_,(iM rfl rfl Tryz.call89 (c.q 0) (c.q 2) (c.q 3) (c.q 4)),by obtain ⟨u_,hu_⟩:=(xY (m:=11) (c.iz 4 rfl).1.1.sl (by omega) (bz _)).sv;exact Im hu_ (pM (c.ir 0 rfl) (hs u_ to B K kf ps fu tv _ (c.ir 0 rfl).dz ((c.ir 0 rfl).fz (xX.tail (c.iz 4 rfl) (by omega) hu_.symm)) (fun q hq=>hok q (gl hq)) ((c.ir 0 rfl).fz (c.iz 5 rfl)) hp (by omega) (by omega) (by omega)))⟩,aq fun c=>ax rfl (c.rv 5 rfl),av⟩ fun ac ag ae ab aa=> ?_;have e5:=aa.V 6;replace r0:=aa.rr 5 rfl;obtain ⟨r1,r2,r3,r4,r5⟩:=aa.z5 1 2 3 4 5;refine wp_ret ?_;refine rp ?_;refine cO (fn:=Tryz.f110) rfl ab.defers e5 ?_;exact ⟨rfl,ab.extIn,r0.dz⟩
theorem JX {C:Cfg} {tb:Option Nat} {v:Sv} {l:List Pt} {b4 b5 b7 B:Nat} {K:cQ} {kf:Value} {Z:bj} {w:World} (hs:Io C tb (l.drop 1)) (h4:(eY ⟨b4,0,none⟩ [C.rv]).P Z w) (h5:(eY ⟨b5,0,none⟩ [v.v]).P Z w) (h7:(eY ⟨b7,0,none⟩ [kf]).P Z w) (hl:(xX v l).P Z w) (hne:1≤l.length) (hok:∀q ∈ l,OkP C.m q) (hk:(zK Tryz.prog C tb B K kf).P Z w) (hp:KP B K):
    (zK Tryz.prog C tb B (fun to ps φ=>ge ((l.drop 1).map (bH C.E)) to K ps φ) (.func (.func 110) #[] #[.pointer (some ⟨b4,0,none⟩),.pointer (some ⟨b5,0,none⟩),.pointer (some ⟨b7,0,none⟩)])).P Z w:=
  ⟨110,_,rfl,Tryz.call110,fun to ps fu tv w2 hx hR ht hf hm hfr=>JW C tb v l b4 b5 b7 to B K kf ps fu tv w2 hR ((eY _ _).st hfr hx h4) ((eY _ _).st hfr hx h5) ((eY _ _).st hfr hx h7) ((xX _ _).st hfr hx hl) ((zK _ _ _ _ _ _).st hfr hx hk) hs hne hok hp ht hm hf⟩
end
end B
end Go.Proofs.YtcfdebjhikahfaaGreat
