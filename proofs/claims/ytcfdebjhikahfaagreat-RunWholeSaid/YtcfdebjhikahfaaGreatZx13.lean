/-
  Proved here: the given statement RunWholeSaid of chapter 16, that is: the law RunWhole answers true for every two texts.
  Conditions: none beyond the statement. Own texts, put together and shortened by programs.
-/
import Derived.Test.YtcfdebjhikahfaaGreatZx7
import Derived.Test.YtcfdebjhikahfaaGreatRows
import Derived.ChangeMaps5
set_option linter.unusedSimpArgs false
set_option linter.unusedVariables false
set_option linter.unusedSectionVars false
namespace Go.Proofs.YtcfdebjhikahfaaGreat
section
open Go.RowKit
abbrev iL:=@List.eq_of_mem_replicate
abbrev jI:=@List.mem_or_eq_of_mem_set
abbrev dE:=@Nat.lt_of_le_of_lt
abbrev dN:=@Tryz.call15
abbrev qM:=@Tryz.call23
abbrev jM:=@Tryz.call25
end
namespace B
section
open Go.RowKit Srt
section
variable {G F:bj} {Z:bj} {τ:Nat→bj} {w w':World} {t:Tr} {ts us:List Tr} {v:Value}
end
section
variable {α:Type} {N:bj} {P:Program} {ops:Array Oper} {sp:List (Spec N)} {In:Nat→Ini N} {a0:Act} {w0:World} {bf:List Nat} {j:Nat} {o:Oper} {done:Nat→Bool} {a:Act} {w w' W:World} {τ τ0:Nat→bj} {F:bj} {t:Tr} {ts:List Tr} {n:Nat} {a1:Act}
end
theorem Dv (G Z:bj) (w:World) (k:Int) (ch:ByteArray) (ng:Bool) (mn mx:Int) (lz:Bool):(gT G (dQ k ch ng mn mx lz)).P Z w:=eQ _ w k ch ng mn mx lz
section
variable {N:bj} {P:Program} {ops:Array Oper} {sp:List (Spec N)} {In:Nat→Ini N} {a0:Act} {w0 W:World} {bf:List Nat} {j:Nat} {o:Oper} {s:Spec N} {pc:Prop} {n0:Nat} {a1:Act} {τ0:Nat→bj} {F:bj} {β:Type}
end
end
section
open Srt
theorem tT {E:Env}:∀(l:List Tr) (g:Nat),(∀k ∈ l,∀g,RQ E.cs.length (cM E k g))→∀r ∈ dy E l g,RQ E.cs.length r
  | [], g, h, r, hr => by simp [dy] at hr
  | t :: l, g, h, r, hr => by
    rw [dy] at hr;rcases List.mem_cons.1 hr with rfl | hr
    · exact h t (by simp) g
    · exact tT l (g+grpN t) (fun k hk=>h k (by simp [hk])) r hr
theorem tU (E:Env) (t:Tr):∀g,RQ E.cs.length (cM E t g):=by
  induction t using Tr.ind with
  | h t ih =>
    intro g;rw [eO];exact yR (tT t.kids _ ih)
end
section
open Go.RowKit Srt
section
variable {P:Program} {a:Act} {o:Oper} {w:World}
end
section
variable {α:Type} {E:Enc α} {ty:Nat} {P:Program} {w:World}
end
section
variable {C:Cfg} {ps ps':Ps} {fu:Nat} {ou:Bool} {tv:Int} {tb:Option Nat} {Z Z' T:bj} {w w':World}
end
section
variable {N:bj} {P:Program} {ops:Array Oper} {sp:List (Spec N)} {In:Nat→Ini N} {a0:Act} {w0:World} {bf:List Nat} {j:Nat} {o:Oper} {s:Spec N} {done:Nat→Bool} {a:Act} {w:World} {τ:Nat→bj} {C:Cfg} {tb:Option Nat} {ps ps':Ps} {fu fu':Nat} {ou ou':Bool} {tv tv':Int} {pc:Prop}
end
section
variable {N:bj} {l:List Oper} {sp:List (Spec N)} {il:List (Ini N)} {a0 a:Act} {w:World} {τ:Nat→bj}
end
section
variable {C:Cfg} {ps ps':Ps} {fu fu' B B':Nat} {ou ou':Bool} {tv tv':Int} {tb:Option Nat} {Z Z' T:bj} {w w':World} {P:Program} {K:cQ} {kf:Value}
theorem rV {α:Type} {x:Option α} (h:x.isSome=false):x=none:=by cases x <;> first | rfl | cases h
end
end
section
open Go.RowKit Srt
section
variable {C:Cfg} {ps ps':Ps} {fu fu':Nat} {ou ou':Bool} {tv tv':Int} {tb:Option Nat} {Z Z' T:bj} {w w':World} {τ:Nat→bj}
end
section
variable {N:bj} {P:Program} {ops:Array Oper} {sp:List (Spec N)} {In:Nat→Ini N} {a0:Act} {w0 W:World} {bf:List Nat} {j:Nat} {o:Oper} {s:Spec N} {done:Nat→Bool} {a:Act} {w:World} {τ:Nat→bj} {C:Cfg} {q:Nat} {ps ps':Ps} {fu fu':Nat} {ou ou':Bool} {tv tv':Int} {β:Type}
end
section
variable {N:bj} {l:List Oper} {sp:List (Spec N)} {il:List (Ini N)} {a0 a:Act} {w:World} {τ:Nat→bj} {C:Cfg} {fu:Nat} {ou:Bool} {tv:Int} {β:Type}
end
section
variable {N:bj} {P:Program} {ops:Array Oper} {sp:List (Spec N)} {In:Nat→Ini N} {a0:Act} {w0 W:World} {bf:List Nat} {j:Nat} {o:Oper} {s:Spec N} {done:Nat→Bool} {a:Act} {w w':World} {τ:Nat→bj}
end
section
variable {N:bj} {l:List Oper} {sp:List (Spec N)} {il:List (Ini N)} {a0 a:Act} {w:World} {τ:Nat→bj}
end
def dI (t:Tr) (fold:Bool) (s:ByteArray) (at' fuel:Int):Mt × Int × Int:=gQ (cX t 512 16).2 (mO (aO s) at') (cn ⟨bA s,aO s,fold⟩ (cM ⟨bA s,aO s,fold⟩ t 0) (grpN t) (aO s).length (plcF (aO s) at') (clampF fuel,false))
end
section
open Go.RowKit Srt
theorem BegP.fnd {t:Tr} {s:ByteArray} {fold:Bool} {C:Cfg} {rt st it:Nat} (h:BegP t s fold C rt st it) (n k:Nat) (φ:Fl):cn C.E (bH C.E C.top) C.m n k φ=cn ⟨bA s,aO s,fold⟩ (cM ⟨bA s,aO s,fold⟩ t 0) (grpN t) n k φ:=by
  rw [tk _ _ _ _ h.lay,h.env,h.m]
end
section
open Go.RowKit
open Srt
set_option maxRecDepth 100000 in
set_option maxHeartbeats 4000000 in
theorem tL (F:bj) (t:Tr) (fold:Bool) (s:ByteArray) (at_ n:Int) (w:World) (hT:TrT F w t) (hP:fc t≤1000000) (hs:s.size≤900000):Calls Tryz.prog 46 #[(ta t),(aE fold),(bc s),(aj at_),(aj n),(.func (.func 40) #[] #[])] w (fun e w'=>∃mv:Sv,e= .returned (.tuple #[(.agg #[aj (aM (dI t fold s at_ n).1).1,aj (aM (dI t fold s at_ n).1).2,mv.v]),aj (dI t fold s at_ n).2.1,aE (dI t fold s at_ n).1.isSome,aj (dI t fold s at_ n).2.2])∧Ext aW w w'∧SlT cF w' mv.v (bJ (dI t fold s at_ n).1)∧(bJ (dI t fold s at_ n).1≠ []→w.heap.size≤(ee mv.v).block)):=by
 refine enter (n:=59) Tryz.func46 rfl rfl (aw rfl) ?_;intro a0 τ0 ha st0;have e0:be a0 0=(ta t):=ha 0 _ rfl;have e1:be a0 1=(aE fold):=ha 1 _ rfl;have e2:be a0 2=(bc s):=ha 2 _ rfl;have e3:be a0 3=(aj at_):=ha 3 _ rfl;have e4:be a0 4=(aj n):=ha 4 _ rfl;have e5:be a0 5=(.func (.func 40) #[] #[]):=ha 5 _ rfl;clear ha;have hwt:=fG t;have r8:Fz (gT (Gn F w) t) τ0 w:=TrT.inz hT st0;refine wp_seq (rg [box _ _ 1 6 (tc t),box _ _ 2 12 [(aj 0),(aj 0),(.slice none 0 0)],_,_,_] [0,0,0,4,12] st0 [jz 8 r8] ⟨hH (v:=(ta t)) rfl rfl rfl rfl rfl (fun _ _ _ _ c=>(c.p e0)),bO rfl rfl rfl rfl bI rfl,aq fun c=>ax rfl rfl,aq fun c=>ax rfl rfl,aq fun c=>ax rfl rfl,av⟩ fun ac ag ae ab aa=> ?_);obtain ⟨b1x6,e6⟩:=gx ac 6;obtain ⟨b1x12,e12⟩:=gx ac 12;obtain ⟨e1,e2,e3,e4,e5⟩:=aa.k5 e1 e2 e3 e4 e5;have e13:=aa.V 2;have e14:=aa.V 3;have e15:=aa.V 4;have r1:=aa.rb 0 e6 rfl;have r2:=aa.rb 1 e12 rfl;replace r8:=aa.z1 8;refine wp_seq ?_;refine wp_seq (fX ab [jb r1,jb r2,jz 8 r8] ⟨aq fun c=>dY rfl az ak ((c.p e6).trans r1.ptr) (c.B 1),eE fun c=>⟨_,_,(bK rfl rfl ld (c.q 0)),uQ t _ (zs (c.iz 8 rfl)) (by omega)⟩,aq fun c=>ew rfl (c.q 1),av⟩ fun ac ag ae ab aa=> ?_);obtain ⟨e1,e2,e3,e4,e5,e6,e12,e13,e14,e15⟩:=aa.k10 e1 e2 e3 e4 e5 e6 e12 e13 e14 e15;have e22:=aa.V 2;replace r1:=aa.B 1;replace r2:=aa.B 2;replace r8:=aa.z1 8;refine wp_cond_split e22 (fun hc1=> ?_) (fun hc1=> ?_)
 · try simp only [ar,am] at hc1
   refine wp_seq (xk ab [jb r1,jb r2,jz 8 r8] ⟨aq fun c=>od (cells:=#[(aj 0),(aj 0),(.slice none 0 0)]) rfl bI ni,cp (cx:=[(aj 0),(aj 0),(.slice none 0 0)]) (off:=0) bi fun c=>⟨c.bp 2 rfl e12,c.ad ((c.p e12).trans r2.ptr) e12 rfl,(c.q 0)⟩,aq fun c=>ax rfl rfl,aq fun c=>ax rfl rfl,aq fun c=>ax rfl rfl,av⟩ fun ac ag ae ab aa=> ?_);obtain ⟨e1,e2,e3,e4,e5,e6,e12⟩:=aa.k7 e1 e2 e3 e4 e5 e6 e12;have e13:=aa.V 2;have e14:=aa.V 3;have e15:=aa.V 4;replace r1:=aa.B 1;replace r2:=aa.RB 1 e12;replace r8:=aa.z1 8;refine wp_ret ?_;refine rp ?_;refine lW (fn:=Tryz.f46) rfl ab.defers e12 e13 e14 e15 r2 dB bi rfl ?_;have hF_:(dI t fold s at_ n)=(none,0,10):=by unfold dI;exact rR (by assumption)
   rw [hF_];exact ⟨Sv.nil,rfl,ab.ext0,SlT.nil _ _,fun h=>absurd rfl h⟩
 try simp only [ar,am] at hc1
 refine wp_skip ?_;refine wp_seq ?_;refine aY ?_;refine bV 5 (by kernel_rfl) ?_;refine og [_,_,_,_,Ca _ 0 28 t s fold 76 38 3 (clampF n)] [0,0,0,0,15] ab [jb r1,jb r2,jz 8 r8] ⟨aq fun c=>dY rfl az ak ((c.p e6).trans r1.ptr) (c.B 1),ao e1,ao e2,ao e4,wU fun {_ a_ _ _} c=>⟨_,_,(iM rfl rfl oI (c.q 0) (c.q 1) (c.q 2) (c.q 3)),c.beg (tag:=0) ab (tE _ t fold s n _ (c.iz 8 rfl) (by omega) (by omega))⟩,av⟩ fun ac ag ae ab aa=> ?_;obtain ⟨e3,e5,e12,e13,e14,e15⟩:=aa.k6 e3 e5 e12 e13 e14 e15;obtain ⟨C,e28,hCp,hro4,hz4⟩:=aa.bg 4 rfl;have r0:=hro4;replace r2:=aa.B 2;replace r8:=aa.z1 8;have r1:=hz4;refine bW ?_;refine og [_] [0] ab [jr r0,jz 1 r1,jb r2,jz 8 r8] ⟨oQ e28,av⟩ fun ac ag ae ab aa=> ?_;obtain ⟨e3,e5,e12,e13,e14,e15⟩:=aa.k6 e3 e5 e12 e13 e14 e15;have e16:=aa.V 0;replace r0:=aa.ir 0 rfl;obtain ⟨r1,r8⟩:=aa.z2 1 8;replace r2:=aa.B 2;refine wp_seq ?_;have hmay:(cX t 512 16).2=true:=by assumption
 have hok:OkP C.m C.top:=hCp.ok hmay (by omega);have hit:C.it=3:=hCp.tys.2.2;have hrise:=hCp.rise;have hplen:=r0.b.ok.pl;have hclen:=r0.b.ok.cl;have hcz:=pN n;refine uf [0,1,3,7,0,31,63,127,127,255,1023] ab [jr r0,jz 1 r1,jb r2,jz 8 r8] ⟨ao e16,cD 0 rfl,bS ba gI 1 rfl,aq fun c=>aI rfl ig (c.q 2) (by exact (c.ir 0 rfl).cell (j:=13) rfl),ao e3,eE fun c=>⟨_,_,(ck rfl rfl oJ (c.q 3) (c.q 4)),tC C.lv.v C.E.pl at_ _ ((c.ir 0 rfl).b.places).1 hrise (by omega)⟩,bD 5,bR 6,bR 6,aK 7,aK 8,av⟩ fun ac ag ae ab aa=> ?_;obtain ⟨e5,e12,e13,e14,e15,e16⟩:=aa.k6 e5 e12 e13 e14 e15 e16;have e17:=aa.V 9;have e18:=aa.V 10;replace r0:=aa.ir 0 rfl;obtain ⟨r1,r8⟩:=aa.z2 1 8;replace r2:=aa.B 2;refine wp_seq ?_;refine wp_seq (eA ab [jr r0,jz 1 r1,jb r2,jz 8 r8] ⟨ao e18,aq fun c=>ew rfl (c.q 0),av⟩ fun ac ag ae ab aa=> ?_);obtain ⟨e5,e12,e13,e14,e15,e16,e17,e18⟩:=aa.k8 e5 e12 e13 e14 e15 e16 e17 e18;have e39:=aa.V 1;replace r0:=aa.ir 0 rfl;obtain ⟨r1,r8⟩:=aa.z2 1 8;replace r2:=aa.B 2;refine wp_cond_split e39 (fun hc2=> ?_) (fun hc2=> ?_)
 · try simp only [ar,am] at hc2
   refine wp_seq (xk ab [jr r0,jz 1 r1,jb r2,jz 8 r8] ⟨aq fun c=>od (cells:=#[(aj 0),(aj 0),(.slice none 0 0)]) rfl bI ni,cp (cx:=[(aj 0),(aj 0),(.slice none 0 0)]) (off:=0) bi fun c=>⟨c.bp 2 rfl e12,c.ad ((c.p e12).trans r2.ptr) e12 rfl,(c.q 0)⟩,aq fun c=>ax rfl rfl,aq fun c=>ax rfl rfl,aq fun c=>ax rfl rfl,av⟩ fun ac ag ae ab aa=> ?_);obtain ⟨e5,e12,e16,e17,e18⟩:=aa.k5 e5 e12 e16 e17 e18;have e13:=aa.V 2;have e14:=aa.V 3;have e15:=aa.V 4;replace r0:=aa.ir 0 rfl;obtain ⟨r1,r8⟩:=aa.z2 1 8;replace r2:=aa.RB 1 e12;refine wp_ret ?_;refine rp ?_;refine lW (fn:=Tryz.f46) rfl ab.defers e12 e13 e14 e15 r2 dB bi rfl ?_;have hF_:(dI t fold s at_ n)=(none,0,3):=by unfold dI;exact vC hmay (by rw [←hCp.pl];assumption)
   rw [hF_];exact ⟨Sv.nil,rfl,ab.ext0,SlT.nil _ _,fun h=>absurd rfl h⟩
 try simp only [ar,am] at hc2
 refine wp_skip ?_;refine wp_seq ?_;have hlt_:=uD (by assumption:mO C.E.pl at_=true);refine aY ?_;refine bV 4 (by kernel_rfl) ?_;refine og [_,_,_,AM _ 0 45 C none (fun b:Sv × Ps=>b.2) ((cn C.E (bH C.E C.top) C.m C.E.pl.length (plcF C.E.pl at_) ((clampF n),false)).2.1) ((cn C.E (bH C.E C.top) C.m C.E.pl.length (plcF C.E.pl at_) ((clampF n),false)).2.2) 0 (fun b:Sv × Ps=> .tuple #[(.agg #[aj (aM (cn C.E (bH C.E C.top) C.m C.E.pl.length (plcF C.E.pl at_) ((clampF n),false)).1).1,aj (aM (cn C.E (bH C.E C.top) C.m C.E.pl.length (plcF C.E.pl at_) ((clampF n),false)).1).2,b.1.v]),aE (cn C.E (bH C.E C.top) C.m C.E.pl.length (plcF C.E.pl at_) ((clampF n),false)).1.isSome]) (fun _=>True) (fun b:Sv × Ps=>fb cF (Gn aW w) b.1.v (bJ (cn C.E (bH C.E C.top) C.m C.E.pl.length (plcF C.E.pl at_) ((clampF n),false)).1))] [0,0,0,7] ab [jr r0,jz 1 r1,jb r2,jz 8 r8] ⟨ao e5,ao e16,ao e17,ye (pf:=fun b:Sv × Ps=>b.2) (f:=fun b:Sv × Ps=> .tuple #[(.agg #[aj (aM (cn C.E (bH C.E C.top) C.m C.E.pl.length (plcF C.E.pl at_) ((clampF n),false)).1).1,aj (aM (cn C.E (bH C.E C.top) C.m C.E.pl.length (plcF C.E.pl at_) ((clampF n),false)).1).2,b.1.v]),aE (cn C.E (bH C.E C.top) C.m C.E.pl.length (plcF C.E.pl at_) ((clampF n),false)).1.isSome]) (Ψ:=fun _=>True) (Φ:=fun b:Sv × Ps=>fb cF (Gn aW w) b.1.v (bJ (cn C.E (bH C.E C.top) C.m C.E.pl.length (plcF C.E.pl at_) ((clampF n),false)).1)) fun {_ a_ _ _} c=>⟨_,_,(ck rfl (c.q 0) qL (c.q 1) (c.q 2)),(yY C (plcF C.E.pl at_) (List.replicate C.m ((-1:Int),(-1:Int))) (clampF n) false 0 _ (c.ir 0 rfl).dz ((c.ir 0 rfl).fz (c.iz 1 rfl)) hok hit (by omega) (by omega)).mono (fun e w' ⟨b_,he_,hx_,hr_,hs_,hn_⟩=>⟨b_,he_,hx_.mono (fun g _ hg=>(c.ir 0 rfl).td g hg),hr_.back (c.ir 0 rfl) hx_ (fun g hg=>lC g hg) (kk hx_.size),av,c.sns ab hx_.size ⟨hs_,hn_⟩⟩)⟩,av⟩ fun ac ag ae ab aa=> ?_;obtain ⟨e12,e13,e14,e15,e16,e18⟩:=aa.k6 e12 e13 e14 e15 e16 e18;obtain ⟨⟨mv1_,psmv1_⟩,e45,hro9,-,hz9⟩:=aa.zr 3 rfl;have e45:be ac 45=(.tuple #[(.agg #[(aj ((aM (cn C.E (bH C.E C.top) C.m C.E.pl.length (plcF C.E.pl at_) ((clampF n),false)).1).1)),(aj ((aM (cn C.E (bH C.E C.top) C.m C.E.pl.length (plcF C.E.pl at_) ((clampF n),false)).1).2)),mv1_.v]),(aE ((cn C.E (bH C.E C.top) C.m C.E.pl.length (plcF C.E.pl at_) ((clampF n),false)).1.isSome))]):=e45;replace r0:=hro9;obtain ⟨r1,r8⟩:=aa.z2 1 8;replace r2:=aa.B 2;have r3:=hz9;refine bW ?_;refine og [_,_,_,box _ _ 4 19 [(aj 0),(aj 0),(.slice none 0 0)],_,_] [0,1,3,7,15,31] ab [jr r0,jz 1 r1,jb r2,jz 3 r3,jz 8 r8] ⟨ao e45,bR 0,bR 0,bO rfl rfl rfl rfl bI rfl,ey (cx:=[(aj ((aM (cn C.E (bH C.E C.top) C.m C.E.pl.length (plcF C.E.pl at_) ((clampF n),false)).1).1)),(aj ((aM (cn C.E (bH C.E C.top) C.m C.E.pl.length (plcF C.E.pl at_) ((clampF n),false)).1).2)),mv1_.v]) (off:=0) rfl bi fun c=>⟨c.rb 3 rfl,(c.rb 3 rfl).ptr,(c.q 1)⟩,aK 2,av⟩ fun ac ag ae ab aa=> ?_;obtain ⟨b10x19,e19⟩:=gx ac 19;obtain ⟨e12,e13,e14,e15,e16⟩:=aa.k5 e12 e13 e14 e15 e16;have e18:=aa.V 5;replace r0:=aa.ir 0 rfl;obtain ⟨r1,r3⟩:=aa.z2 1 3;replace r2:=aa.B 2;have r4:=aa.rb 4 e19 rfl;replace r8:=aa.z1 8;refine wp_seq ?_;refine wp_seq (xi ab [jr r0,jz 1 r1,jb r2,jz 3 r3,jb r4,jz 8 r8] ⟨ao e16,cD 0 rfl,bS ba cj 1 rfl,aq fun c=>aI rfl dS (c.q 2) (by exact (c.ir 0 rfl).cell (j:=16) rfl),av⟩ fun ac ag ae ab aa=> ?_);obtain ⟨e12,e13,e14,e15,e16,e18,e19⟩:=aa.k7 e12 e13 e14 e15 e16 e18 e19;have e51:=aa.V 3;replace r0:=aa.ir 0 rfl;obtain ⟨r1,r3,r8⟩:=aa.z3 1 3 8;replace r2:=aa.B 2;replace r4:=aa.B 4;refine wp_cond_split e51 (fun hc3=> ?_) (fun hc3=> ?_)
 · skip;refine wp_seq (xk ab [jr r0,jz 1 r1,jb r2,jz 3 r3,jb r4,jz 8 r8] ⟨aq fun c=>od (cells:=#[(aj 0),(aj 0),(.slice none 0 0)]) rfl bI ni,cp (cx:=[(aj 0),(aj 0),(.slice none 0 0)]) (off:=0) bi fun c=>⟨c.bp 2 rfl e12,c.ad ((c.p e12).trans r2.ptr) e12 rfl,(c.q 0)⟩,aq fun c=>ax rfl rfl,aq fun c=>ax rfl rfl,aq fun c=>ax rfl rfl,av⟩ fun ac ag ae ab aa=> ?_);obtain ⟨e12,e16,e18,e19⟩:=aa.k4 e12 e16 e18 e19;have e13:=aa.V 2;have e14:=aa.V 3;have e15:=aa.V 4;replace r0:=aa.ir 0 rfl;obtain ⟨r1,r3,r8⟩:=aa.z3 1 3 8;replace r2:=aa.RB 1 e12;replace r4:=aa.B 4;refine wp_ret ?_;refine rp ?_;refine lW (fn:=Tryz.f46) rfl ab.defers e12 e13 e14 e15 r2 dB bi rfl ?_;have hF_:(dI t fold s at_ n)=(none,0,9):=by unfold dI;rw [←hCp.fnd _,←hCp.pl];exact km hmay (by assumption) (by assumption)
   rw [hF_];exact ⟨Sv.nil,rfl,ab.ext0,SlT.nil _ _,fun h=>absurd rfl h⟩
 skip;refine wp_skip ?_;refine wp_seq (mG [0,0,2,6,14,0,1,95,255,511] ab [jr r0,jz 1 r1,jb r2,jz 3 r3,jb r4,jz 8 r8] ⟨aq fun c=>dY rfl dB bi ((c.p e19).trans r4.ptr) (c.B 4),ao e16,cD 1 rfl,bS ba aA 2 rfl,aq fun c=>aI rfl aN (c.q 3) (by exact (c.ir 0 rfl).cell (j:=15) rfl),ao e18,cp (cx:=[(aj ((aM (cn C.E (bH C.E C.top) C.m C.E.pl.length (plcF C.E.pl at_) ((clampF n),false)).1).1)),(aj ((aM (cn C.E (bH C.E C.top) C.m C.E.pl.length (plcF C.E.pl at_) ((clampF n),false)).1).2)),mv1_.v]) (off:=0) bi fun c=>⟨c.bp 2 rfl e12,c.ad ((c.p e12).trans r2.ptr) e12 rfl,(c.q 0)⟩,aK 4,aK 5,aq fun c=>ax rfl rfl,av⟩ fun ac ag ae ab aa=> ?_);replace e12:=aa.k1 e12;have e13:=aa.V 7;have e14:=aa.V 8;have e15:=aa.V 9;replace r0:=aa.ir 0 rfl;obtain ⟨r1,r3,r8⟩:=aa.z3 1 3 8;replace r2:=aa.RB 6 e12;refine wp_ret ?_;refine rp ?_;refine lW (fn:=Tryz.f46) rfl ab.defers e12 e13 e14 e15 r2 dB bi rfl ?_;have hF_:(dI t fold s at_ n)=((cn C.E (bH C.E C.top) C.m C.E.pl.length (plcF C.E.pl at_) (clampF n,false)).1,((cn C.E (bH C.E C.top) C.m C.E.pl.length (plcF C.E.pl at_) (clampF n,false)).2.1:Int),0):=by unfold dI;rw [←hCp.fnd _,←hCp.pl];exact fm hmay (by assumption) (by assumption)
 rw [hF_];exact ⟨mv1_,rfl,ab.ext0,r3.1,fun hn=>(r3.2 hn).2.resolve_left (fun h=>h.elim)⟩
end
section
open Go.RowKit
open Srt
set_option maxRecDepth 100000 in
theorem pO (F:bj) (t:Tr) (fold:Bool) (s:ByteArray) (at_ n:Int) (w:World) (hT:TrT F w t) (hP:fc t≤1000000) (hs:s.size≤900000):Calls Tryz.prog 23 #[(ta t),(aE fold),(bc s),(aj at_),(aj n)] w (fun e w'=>∃mv:Sv,e= .returned (.tuple #[(.agg #[aj (aM (dI t fold s at_ n).1).1,aj (aM (dI t fold s at_ n).1).2,mv.v]),aj (dI t fold s at_ n).2.1,aE (dI t fold s at_ n).1.isSome,aj (dI t fold s at_ n).2.2])∧Ext aW w w'∧SlT cF w' mv.v (bJ (dI t fold s at_ n).1)∧(bJ (dI t fold s at_ n).1≠ []→w.heap.size≤(ee mv.v).block)):=by
 refine enter (n:=24) Tryz.func23 rfl rfl (aw rfl) ?_;intro a0 τ0 ha st0;have e0:be a0 0=(ta t):=ha 0 _ rfl;have e1:be a0 1=(aE fold):=ha 1 _ rfl;have e2:be a0 2=(bc s):=ha 2 _ rfl;have e3:be a0 3=(aj at_):=ha 3 _ rfl;have e4:be a0 4=(aj n):=ha 4 _ rfl;clear ha;have r8:Fz (gT (Gn F w) t) τ0 w:=TrT.inz hT st0;refine wp_seq (rg [box _ _ 0 5 (tc t),box _ _ 1 10 [(aj 0),(aj 0),(.slice none 0 0)],_,_,_] [0,0,0,4,12] st0 [jz 8 r8] ⟨hH (v:=(ta t)) rfl rfl rfl rfl rfl (fun _ _ _ _ c=>(c.p e0)),bO rfl rfl rfl rfl bI rfl,aq fun c=>ax rfl rfl,aq fun c=>ax rfl rfl,aq fun c=>ax rfl rfl,av⟩ fun ac ag ae ab aa=> ?_);obtain ⟨b1x5,e5⟩:=gx ac 5;obtain ⟨b1x10,e10⟩:=gx ac 10;obtain ⟨e1,e2,e3,e4⟩:=aa.k4 e1 e2 e3 e4;have e11:=aa.V 2;have e12:=aa.V 3;have e13:=aa.V 4;have r0:=aa.rb 0 e5 rfl;have r1:=aa.rb 1 e10 rfl;replace r8:=aa.z1 8;refine wp_seq ?_;refine aY ?_;refine bV 6 (by kernel_rfl) ?_;refine og [_,_,_,_,_,gE _ 19 (fun b:Sv=> .tuple #[(.agg #[aj (aM (dI t fold s at_ n).1).1,aj (aM (dI t fold s at_ n).1).2,b.v]),aj (dI t fold s at_ n).2.1,aE (dI t fold s at_ n).1.isSome,aj (dI t fold s at_ n).2.2]) (fun _=>True) (fun b:Sv=>fb cF (Gn aW w) b.v (bJ (dI t fold s at_ n).1))] [0,0,0,0,0,31] ab [jb r0,jb r1,jz 8 r8] ⟨aq fun c=>dY rfl az ak ((c.p e5).trans r0.ptr) (c.B 0),ao e1,ao e2,ao e3,ao e4,eT (f:=fun b:Sv=> .tuple #[(.agg #[aj (aM (dI t fold s at_ n).1).1,aj (aM (dI t fold s at_ n).1).2,b.v]),aj (dI t fold s at_ n).2.1,aE (dI t fold s at_ n).1.isSome,aj (dI t fold s at_ n).2.2]) (Ψ:=fun _=>True) (Φ:=fun b:Sv=>fb cF (Gn aW w) b.v (bJ (dI t fold s at_ n).1)) fun {_ a_ _ _} c=>⟨_,_,(vD rfl rfl qK (c.q 0) (c.q 1) (c.q 2) (c.q 3) (c.q 4) rfl),(tL _ t fold s at_ n _ (c.iz 8 rfl) (by omega) (by omega)).mono (fun e w' ⟨b_,he_,hx_,hs_,hn_⟩=>⟨b_,he_,hx_,av,c.sns ab hx_.size ⟨hs_,hn_⟩⟩)⟩,av⟩ fun ac ag ae ab aa=> ?_;obtain ⟨e10,e11,e12,e13⟩:=aa.k4 e10 e11 e12 e13;obtain ⟨mv1_,e19,-,hz2⟩:=aa.zd 5 rfl;have e19:be ac 19=(.tuple #[(.agg #[(aj ((aM (dI t fold s at_ n).1).1)),(aj ((aM (dI t fold s at_ n).1).2)),mv1_.v]),(aj ((dI t fold s at_ n).2.1)),(aE ((dI t fold s at_ n).1.isSome)),(aj ((dI t fold s at_ n).2.2))]):=e19;replace r1:=aa.B 1;replace r8:=aa.z1 8;have r0:=hz2;refine bW ?_;refine og [_,_,_,_,_,_,_,_] [0,1,3,7,15,31,63,127] ab [jz 0 r0,jb r1,jz 8 r8] ⟨jG e19,jG e19,jG e19,jG e19,cp (cx:=[(aj ((aM (dI t fold s at_ n).1).1)),(aj ((aM (dI t fold s at_ n).1).2)),mv1_.v]) (off:=0) bi fun c=>⟨c.bp 1 rfl e10,c.ad ((c.p e10).trans r1.ptr) e10 rfl,(c.q 0)⟩,aK 1,aK 2,aK 3,av⟩ fun ac ag ae ab aa=> ?_;replace e10:=aa.k1 e10;have e11:=aa.V 5;have e12:=aa.V 6;have e13:=aa.V 7;obtain ⟨r0,r8⟩:=aa.z2 0 8;replace r1:=aa.RB 4 e10;refine wp_ret ?_;refine rp ?_;refine lW (fn:=Tryz.f23) rfl ab.defers e10 e11 e12 e13 r1 dB bi rfl ?_;exact ⟨mv1_,rfl,ab.ext0,r0.1,fun hn=>(r0.2 hn).2.resolve_left (fun h=>h.elim)⟩
end
section
open Go.RowKit Srt
theorem IL {t u:Tr} (h:er t=er u) (fold:Bool) (s:ByteArray) (a n:Int):dI t fold s a n=dI u fold s a n:=by
  unfold dI;rw [za h,tG h,yM _ t u 0 h]
end
section
open Go.RowKit Srt
section
variable {E:Env} {t:Tr} {g:Nat}
theorem iX (h:∀q ∈ t.kids,∀g,RP (cM E q g)):∀(ts:List Tr) (g:Nat),(∀q ∈ ts,q ∈ t.kids)→∀r ∈ dy E ts g,RP r
  | [], _, _, r, hr => by simp [dy] at hr
  | u :: ts, g, hm, r, hr => by
    rw [dy] at hr;rcases List.mem_cons.1 hr with rfl | hr
    · exact h u (hm u (by simp)) g
    · exact iX h ts _ (fun x hx=>hm x (by simp [hx])) r hr
theorem kc (E:Env) (t:Tr):∀g,RP (cM E t g):=by
  induction t using Tr.ind with
  | h t ih =>
    intro g;rw [eO];exact qq (iX ih t.kids _ fun _ h=>h)
variable {r:fe} {lo n:Nat} {mn mx:Int} {lz:Bool} {gas times k:Nat} {K:cQ} {ps:Ps} {fu:Nat}
end
end
section
open Go.RowKit Srt
theorem nu {φ:Fl} (h:φ.2=false):φ=(φ.1,false):=by obtain ⟨a,b⟩:=φ;cases h;rfl
theorem jp (E:Env) (t:Tr) (lo n:Nat) (l:List fe) (k:Nat) (K:cQ) (ps:Ps) (f:Nat):im E t lo n l k K ps (f,false)=if t.k=0 then ge l k K ps (f,false) else if t.k=1 then fv l k K ps (f,false) else if t.k=7 then ea (jh l) lo n t.mn t.mx t.lz (f+1) 0 k K ps (f,false) else if f=0 then (none,(0,true)) else ji E t lo l k K ps (f - 1,false):=rfl
theorem KD.kp {K:cQ} (h:KD K) (B:Nat):KP B K:=fun to ps fu _=>h to ps fu
theorem kY {E:Env} {t:Tr} {g:Nat}:qu (cM E t g):=fun k K ps fu=>by
  rw [eO];unfold im;rw [if_pos rfl]
theorem fS (E:Env) (t:Tr) (g:Nat):jZ (cM E t g):=⟨kc E t g,kY⟩
theorem jZ.bad {r:fe} (h:jZ r) {d k:Nat} {K:cQ} (hK:KD K) {ps:Ps} {φ:Fl} (hb:mr d φ):mr d (r k K ps φ).2:=by
  obtain ⟨f,o⟩:=φ;cases o with
  | true => rw [h.2]; exact .inl rfl
  | false =>
    rcases hb with hb | hb
    · cases hb
    · exact .inr (dE (h.1 k (f+1) K (hK.kp _) ps f false (bT _)) hb)
theorem gZ:∀(l:List fe),(∀r ∈ l,jZ r)→qu (fv l)
  | [], _ => fun k K ps fu => rfl
  | r :: l, h => fun k K ps fu => by
    rw [fv,(h r (by simp)).2,if_neg (by simp)];exact gZ l (fun x hx=>h x (by simp [hx])) k K ps fu
theorem ox {l:List fe} (h:∀r ∈ l,jZ r):jZ (fv l):=⟨fun k B K hK ps fu ou hf=>rf l (fun r hr=>(h r hr).1) k B K hK ps fu ou hf,gZ l h⟩
theorem kT {l:List fe} (h:∀r ∈ l,jZ r) {K:cQ} (hK:KD K):KD (fun to ps φ=>ge l to K ps φ):=fun to ps fu=>qo l (fun r hr=>(h r hr).1) to (fu+1) K (hK.kp _) ps fu (bT _)
theorem fD {r:fe} (hr:RP r) {lo n:Nat} {mn mx:Int} {lz:Bool} {g times k:Nat} {K:cQ} (hK:KD K):KD (eB r lo n mn mx lz g times k K):=fun to ps fu=>lF hr (hK.kp (fu+1)) to ps fu (bT _)
theorem iE {E:Env} {lo k:Nat} {K:cQ} (hK:KD K):KD (ia E lo k K):=fun to ps fu=>hK to _ fu
theorem mt:KD K0:=fun to ps fu=>bz _
theorem gp {mn:Int} {lz:Bool} {times k d:Nat} {K:cQ} (hK:KD K) {ps:Ps} {φ:Fl} (hb:mr d φ):mr d (em mn lz times k K ps φ).2:=by
  obtain ⟨f,o⟩:=φ;unfold em;split
  · rename_i h;cases o with
    | true => simp at h
    | false =>
      rcases hb with hb | hb
      · cases hb
      · exact .inr (dE (hK k ps f) hb)
  · exact hb
theorem gq {mn:Int} {lz:Bool} {times k:Nat} {K:cQ} {ps:Ps} {fu:Nat}:em mn lz times k K ps (fu,true)=(none,(fu,true)):=by
  unfold em;rw [if_neg (by simp)]
theorem ln {r:fe} (h:jZ r) {lo n:Nat} {mn mx:Int} {lz:Bool} {g times k d:Nat} {K:cQ} (hK:KD K) {ps:Ps} {φ:Fl} (hb:mr d φ):mr d (dW r lo n mn mx lz g times k K ps φ).2:=by
  have h1:mr d (fV r lo n mn mx lz g times k K ps φ).2:=h.bad (fD h.1 hK) hb;unfold dW;split
  · split
    · exact h1
    · exact gp hK h1
  · exact gp hK hb
theorem lp {r:fe} (h:qu r) {lo n:Nat} {mn mx:Int} {lz:Bool} {g times k:Nat} {K:cQ} {ps:Ps} {fu:Nat}:dW r lo n mn mx lz g times k K ps (fu,true)=(none,(fu,true)):=by
  have e:fV r lo n mn mx lz g times k K ps (fu,true)=(none,(fu,true)):=h _ _ _ _;unfold dW;rw [e];split
  · rw [if_neg (by simp)];exact gq
  · exact gq
theorem Sm.L.ok1 {S:Sm} {l1 l2:List fe} (h:S.L l1 l2):(∀r ∈ l1,jZ r)∧∀r ∈ l2,jZ r:=by
  induction h with
  | nil => simp
  | cons a b c d ih =>
    constructor
    · intro r hr;rcases List.mem_cons.1 hr with rfl | hr
      · exact a
      · exact ih.1 r hr
    · intro r hr;rcases List.mem_cons.1 hr with rfl | hr
      · exact b
      · exact ih.2 r hr
theorem mu {S:Sm} {l1 l2:List fe} (h:S.L l1 l2):S.G 0 (ge l1) (ge l2):=by
  induction h with
  | nil => exact fun k B K1 K2 h1 h2 hK p q fu hp hf => hK k p q fu hp hf
  | cons a b c d ih => exact fun k B K1 K2 h1 h2 hK p q fu hp hf => c k B _ _ (kT d.ok1.1 h1) (kT d.ok1.2 h2) (fun to p q fu hp hf => ih to B K1 K2 h1 h2 hK p q fu hp hf) p q fu hp hf
theorem jD {S:Sm} {x y:Rs} {f1 f2:Fl→Rs} (h:S.R x y) (h1:∀φ,mr S.d φ→mr S.d (f1 φ).2) (h2:∀fu,f2 (fu,true)=(none,(fu,true))) (hn:y.2.2=false→x.2=(y.2.1+S.d,false)→S.R (f1 x.2) (f2 y.2)):
    S.R (if x.1.isSome=true then x else f1 x.2) (if y.1.isSome=true then y else f2 y.2):=by
  rcases h with ⟨a,b⟩ | ⟨a,b,c,d⟩ | ⟨a,b,c⟩ | ⟨a,b⟩
  · refine .inl ⟨?_,?_⟩
    · split
      · exact a
      · rw [show y.2=(y.2.1,true) from by rw [←a],h2]
    · split
      · exact b
      · exact h1 _ b
  · rw [if_neg (by rw [a];decide),if_neg (by rw [b];decide)];exact hn c d
  · rw [if_pos a,if_pos b];exact .inr (.inr (.inl ⟨a,b,c⟩))
  · rw [if_pos a];exact .inr (.inr (.inr ⟨a,b⟩))
theorem mw {S:Sm} {l1 l2:List fe} (h:S.L l1 l2):S.G 0 (fv l1) (fv l2):=by
  induction h with
  | nil => exact fun k B K1 K2 h1 h2 hK p q fu hp hf => .none
  | @cons r1 r2 l1 l2 a b c d ih =>
    intro k B K1 K2 h1 h2 hK p q fu hp hf;rw [fv,fv];refine jD (f1:=fv l1 k K1 p) (f2:=fv l2 k K2 q) (c k B K1 K2 h1 h2 hK p q fu hp hf) (fun φ hb=>(ox d.ok1.1).bad h1 hb) (fun fu=>gZ l2 d.ok1.2 k K2 q fu) fun e1 e2=> ?_;have hle:=b.1 k (fu+1) K2 (h2.kp _) q fu false (bT _);rw [e2,nu e1];exact ih k B K1 K2 h1 h2 hK p q _ hp (by omega)
theorem gV (r:fe) (lo n:Nat) (mn mx:Int) (lz:Bool) (g times k:Nat) (K:cQ) (ps:Ps) (φ:Fl):ea r lo n mn mx lz (g+1) times k K ps φ=if (eD mn lz times k K ps φ).1.isSome=true then eD mn lz times k K ps φ else dW r lo n mn mx lz g times k K ps (eD mn lz times k K ps φ).2:=rfl
theorem lq {S:Sm} {r1 r2:fe} (ok1:jZ r1) (ok2:jZ r2) (hG:S.G 1 r1 r2) {lo m:Nat} (hm:lo+m≤S.n) {mn mx:Int} {lz:Bool} {g1 g2 times k B:Nat} {K1 K2:cQ} (h1:KD K1) (h2:KD K2) (hK:S.K B K1 K2) {p q:Ps} {fu:Nat} (hp:S.P p q) (hf:fu < B)
    (ih:S.K fu (eB r1 (lo+S.A.length) m mn mx lz g1 times k K1) (eB r2 lo m mn mx lz g2 times k K2)):
    S.R (dW r1 (lo+S.A.length) m mn mx lz g1 times k K1 p (fu+S.d,false)) (dW r2 lo m mn mx lz g2 times k K2 q (fu,false)):=by
  have rest:∀{f:Nat},f < B→S.R (em mn lz times k K1 p (f+S.d,false)) (em mn lz times k K2 q (f,false)):=fun {f} hf=>by
    unfold em;by_cases hc:((decide (mn≤(times:Int))&& !lz)&& !false)=true
    · rw [if_pos hc,if_pos hc];exact hK k p q f hp hf
    · rw [if_neg hc,if_neg hc];exact .none
  unfold dW;split
  · have hx:S.R (fV r1 (lo+S.A.length) m mn mx lz g1 times k K1 p (fu+S.d,false)) (fV r2 lo m mn mx lz g2 times k K2 q (fu,false)):=hG k fu _ _ (fD ok1.1 h1) (fD ok2.1 h2) ih _ _ fu (hp.noneR hm) (bT _);refine jD (f1:=em mn lz times k K1 p) (f2:=em mn lz times k K2 q) hx (fun φ hb=>gp h1 hb) (fun fu=>gq) fun e1 e2=> ?_;have hle:(fV r2 lo m mn mx lz g2 times k K2 q (fu,false)).2.1≤fu:=ok2.1 k (fu+1) _ ((fD ok2.1 h2).kp _) _ fu false (bT _);rw [e2,nu e1];exact rest (by omega)
  · exact rest hf
theorem gW {S:Sm} {r1 r2:fe} (ok1:jZ r1) (ok2:jZ r2) (hG:S.G 1 r1 r2) {lo m:Nat} (hm:lo+m≤S.n) {mn mx:Int} {lz:Bool}:∀(g2 g1 times k B:Nat) (K1 K2:cQ),KD K1→KD K2→S.K B K1 K2→∀(p q:Ps) (fu:Nat),S.P p q→fu < B→fu+S.d < g1→fu < g2→
    S.R (ea r1 (lo+S.A.length) m mn mx lz g1 times k K1 p (fu+S.d,false)) (ea r2 lo m mn mx lz g2 times k K2 q (fu,false))
  | 0, _, _, _, _, _, _, _, _, _, _, _, _, _, _, _, h => by omega
  | _ + 1, 0, _, _, _, _, _, _, _, _, _, _, _, _, _, h, _ => by omega
  | g2 + 1, g1 + 1, times, k, B, K1, K2, h1, h2, hK, p, q, fu, hp, hf, hg1, hg2 => by
    rw [gV,gV];have hx:S.R (eD mn lz times k K1 p (fu+S.d,false)) (eD mn lz times k K2 q (fu,false)):=by
      unfold eD;split
      · exact hK k p q fu hp hf
      · exact .none
    refine jD (f1:=dW r1 (lo+S.A.length) m mn mx lz g1 times k K1 p) (f2:=dW r2 lo m mn mx lz g2 times k K2 q) hx (fun φ hb=>ln ok1 h1 hb) (fun fu=>lp ok2.2) fun e1 e2=> ?_;have hle:(eD mn lz times k K2 q (fu,false)).2.1≤fu:=qp (h2.kp (fu+1)) (bT _);rw [e2,nu e1];refine lq ok1 ok2 hG hm h1 h2 hK hp (by omega) fun to p q f hp hf=> ?_;unfold eB;split
    · exact gW ok1 ok2 hG hm g2 g1 (times+1) to B K1 K2 h1 h2 hK p q f hp (by omega) (by omega) (by omega)
    · exact .none
theorem Kj {k:Int} (h:lk k=true):¬k=0∧¬k=1∧¬k=7:=by
  simp only [lk,ar,aG,ah] at h;exact ⟨h.1.1,h.1.2,h.2⟩
theorem iY {S:Sm} {E:Env}:∀(l:List Tr) (g:Nat),(∀t ∈ l,∀g,g+grpN t≤S.n→S.G (if lk t.k then 1 else 0) (cM E t (g+S.A.length)) (cM E t g))→g+grpsN l≤S.n→S.L (dy E l (g+S.A.length)) (dy E l g)
  | [], _, _, _ => .nil
  | t :: l, g, h, hn => by
    rw [dy,dy,show g+S.A.length+grpN t=g+grpN t+S.A.length by omega];have hs:grpsN (t::l)=grpN t+grpsN l:=rfl;exact .cons (fS _ _ _) (fS _ _ _) (h t (by simp) g (by omega)).zero (iY l (g+grpN t) (fun x hx=>h x (by simp [hx])) (by omega))
theorem iq {t k:Tr} (h:fq t=true) (hk:k ∈ t.kids):fq k=true:=by
  rw [gY,au,cI] at h;exact h.1 k hk
theorem jE {t:Tr} (h:fq t=true):(t.k=5∨t.k=6∨t.k=7→t.kids.length=1)∧(t.k=7→lk (nth t.kids 0).k=true):=by
  have ha:=h;rw [gY,au,cI] at ha;have hfl:=ha.2;unfold dZ at hfl;refine ⟨fun hk=> ?_,fun h7=> ?_⟩
  · rcases hk with h | h | h
    · rw [if_neg (by omega),if_neg (by omega),if_neg (by omega),if_neg (by omega),if_neg (by omega),if_pos (by omega)] at hfl;simp at hfl;omega
    · rw [if_neg (by omega),if_neg (by omega),if_neg (by omega),if_neg (by omega),if_neg (by omega),if_pos (by omega)] at hfl;simp at hfl;omega
    · rw [if_neg (by omega),if_neg (by omega),if_pos (by omega)] at hfl;simp at hfl;omega
  · rw [if_neg (by omega),if_neg (by omega),if_pos h7] at hfl;simp only [au,aR,ai] at hfl;have hr:=hfl.1.1.1.2;unfold qg at hr;unfold lk;simp only [aR,ai] at hr;simp;omega
theorem jV {l:List Tr} (h:l.length=1):l=[nth l 0]:=by
  match l,h with
  | [x], _ => rfl
theorem lL {S:Sm} {E:Env} (t:Tr):fq t=true→∀g,g+grpN t≤S.n→S.G (if lk t.k then 1 else 0) (cM E t (g+S.A.length)) (cM E t g):=by
  induction t using Tr.ind with
  | h t ih =>
    intro ha g hg;have hgn:=jn t;have hkg:fk t (g+S.A.length)=fk t g+S.A.length:=by unfold fk;split <;> omega
    have hkn:fk t g+grpsN t.kids≤S.n:=by unfold fk;split <;> rename_i h5 <;> simp only [h5] at hgn <;> simp at hgn <;> omega
    have hl:=iY (E:=E) t.kids (fk t g) (fun k hk g hg=>ih k hk (iq ha hk) g hg) hkn;obtain ⟨hf1,hf7⟩:=jE ha;intro k B K1 K2 h1 h2 hK p q fu hp hf;rw [eO,eO,hkg,jp,jp];by_cases k0:t.k=0
    · rw [if_pos k0,if_pos k0];rw [k0,if_neg (by decide)] at hf;exact mu hl k B K1 K2 h1 h2 hK p q fu hp hf
    rw [if_neg k0,if_neg k0];by_cases k1:t.k=1
    · rw [if_pos k1,if_pos k1];rw [k1,if_neg (by decide)] at hf;exact mw hl k B K1 K2 h1 h2 hK p q fu hp hf
    rw [if_neg k1,if_neg k1];by_cases k7:t.k=7
    · rw [if_pos k7,if_pos k7];rw [k7,if_neg (by decide)] at hf;have hk1:=jV (hf1 (by omega));have hm:nth t.kids 0 ∈ t.kids:=by rw [hk1];simp [nth]
      have hkg7:fk t g=g:=by unfold fk;rw [if_neg (by omega)]
      have hgs:grpsN t.kids=grpN (nth t.kids 0):=by rw [hk1];simp [grpsN,nth]
      have hG:=ih _ hm (iq ha hm) g (by omega);rw [hf7 k7,if_pos rfl] at hG;have e1:∀g',jh (dy E t.kids g')=cM E (nth t.kids 0) g':=fun g'=>by rw [hk1];rfl
      rw [e1,e1,hkg7];exact gW (fS _ _ _) (fS _ _ _) hG (by omega) (fu+1) (fu+S.d+1) 0 k B K1 K2 h1 h2 hK p q fu hp hf (by omega) (by omega)
    rw [if_neg k7,if_neg k7];by_cases f0:fu=0
    · subst f0;rw [if_pos (show (0:Nat)=0 from rfl)];refine .inl ⟨rfl,?_⟩;split
      · exact .inl rfl
      · rename_i hd;refine .inr (dE (oT (fun r hr=>(hl.ok1.1 r hr).1) (h1.kp (0+S.d)) (by omega)) (by omega))
    rw [if_neg (show ¬fu+S.d=0 by omega),if_neg f0];have hfb:fu - 1 < B:=by split at hf <;> omega
    rw [show fu+S.d - 1=fu - 1+S.d by omega];unfold ji;have head:∀{K1 K2:cQ},t.k=5∨t.k=6→KD K1→KD K2→S.K B K1 K2→S.R (jh (dy E t.kids (fk t g+S.A.length)) k K1 p (fu - 1+S.d,false)) (jh (dy E t.kids (fk t g)) k K2 q (fu - 1,false)):=fun {K1 K2} h56 h1 h2 hK=>by
      have hk1:=jV (hf1 (by omega));rw [hk1] at hl ⊢;cases hl with
      | cons a b c d => exact c k B K1 K2 h1 h2 hK p q _ hp hfb
    by_cases k5:t.k=5
    · rw [if_pos k5,if_pos k5];simp only [k5,if_pos] at hgn;exact head (.inl k5) (iE h1) (iE h2) fun to p q f hp hf=>hK to _ _ f (hp.set (by omega) _) hf
    rw [if_neg k5,if_neg k5];by_cases k6:t.k=6
    · rw [if_pos k6,if_pos k6];exact head (.inr k6) h1 h2 hK
    rw [if_neg k6,if_neg k6];by_cases k2:t.k=2∨t.k=3∨t.k=4
    · rw [if_pos k2,if_pos k2];split
      · exact hK _ p q _ hp hfb
      · exact .none
    rw [if_neg k2,if_neg k2];split
    · exact hK _ p q _ hp hfb
    · exact .none
end
section
open Go.RowKit Srt
abbrev nP (n:Nat):Ps:=List.replicate n ((-1:Int),(-1:Int))
theorem eL {E:Env} {r:fe} {m k to f:Nat} {ps:Ps} {φ:Fl} (h:eS r m k φ=(some (to,ps),(f,false))):eu E r m k φ=(some ((nth E.pl (k:Int),nth E.pl (to:Int)),ps),(f,false)):=by
  rw [oW (by rw [h];show (decide ((to:Int) < 0) || false)=false;simp),h];rfl
theorem eM {E:Env} {r:fe} {m k:Nat} {φ φ':Fl} (h:eS r m k φ=(none,φ')):eu E r m k φ=(none,φ'):=by
  rw [ph (by rw [h];rfl),h]
theorem nQ {E:Env} {r:fe} {m k:Nat} {φ:Fl} (h:(eS r m k φ).2.2=true):eu E r m k φ=(none,(eS r m k φ).2):=ph (by rw [h];simp)
theorem jF (x:Rs):x.2.2=true∨(∃f,x=(none,(f,false)))∨∃to ps f,x=(some (to,ps),(f,false)):=by
  obtain ⟨o,f,u⟩:=x;cases u with
  | true => exact .inl rfl
  | false => cases o with
    | none => exact .inr (.inl ⟨f, rfl⟩)
    | some y => obtain ⟨to, ps⟩ := y; exact .inr (.inr ⟨to, ps, f, rfl⟩)
theorem kI {may hit:Bool} {x:Mt × Fl} (h:(gQ may hit x).2.2=0):may=true∧hit=true∧x.2.2=false:=by
  unfold gQ at h;split at h
  · exact absurd h (by decide)
  · split at h
    · exact absurd h (by decide)
    · split at h
      · exact absurd h (by decide)
      · simp_all
theorem kZ {t:Tr} (h:(cX t 512 16).2=true):fq t=true:=by
  rw [kF] at h;unfold rd at h;simp only [au] at h;exact h.2
section
variable {t:Tr} {fold:Bool} {s:ByteArray} {k u v:Int}
theorem my {may hit:Bool} {x:Mt × Fl} (h:¬(gQ may hit x).2.2=0):(gQ may hit x).1=none∧(gQ may hit x).2.1=0:=by
  unfold gQ at h ⊢;split
  · exact ⟨rfl,rfl⟩
  · split
    · exact ⟨rfl,rfl⟩
    · split
      · exact ⟨rfl,rfl⟩
      · rename_i h1 h2 h3;rw [if_neg h1,if_neg h2,if_neg h3] at h;exact absurd rfl h
end
section
variable {t:Tr} {fold:Bool} {s:ByteArray} {k u v:Int} {x y z:Mt × Int × Int}
theorem xa {α:Type} {x:α × Fl} {o:α} {b:Bool} (h:x.1=o) (h2:x.2.2=b):x=(o,(x.2.1,b)):=by obtain ⟨a,c,d⟩:=x;cases h;cases h2;rfl
end
section
variable {x z:Mt × Int × Int} {n:Nat} {g1 g2:Int}
end
end
section
open Go.RowKit Srt
def rq (fold:Bool) (x w:ByteArray):Bool:=gM x w || (fold&&gM (mo x) (mo w))
theorem pk {xs:List Int} (h:xs.Pairwise (· < ·)) {i:Nat} (hi:i < xs.length):plcF xs (nth xs (i:Int))=i∧mO xs (nth xs (i:Int))=true:=by
  have hp:plcF xs (nth xs (i:Int))=i:=pK h (by omega) (fun j hj=>ll h hj hi) (fun _=>by omega);refine ⟨hp,?_⟩;unfold mO;rw [hp];simp;omega
end
section
open Go.RowKit Srt
def VQ (E:Env) (k0 to:Nat) (ps:Ps):Prop:=∀p ∈ ps,p=(-1,-1)∨∃a b:Nat,k0≤a∧a≤b∧b≤to∧p=(nth E.pl (a:Int),nth E.pl (b:Int))
theorem VQ.up {E:Env} {k0 k k':Nat} {ps:Ps} (h:VQ E k0 k ps) (hk:k≤k'):VQ E k0 k' ps:=fun p hp=>(h p hp).imp id fun ⟨a,b,h1,h2,h3,h4⟩=>⟨a,b,h1,h2,by omega,h4⟩
theorem VQ.set {E:Env} {k0 k to lo:Nat} {ps:Ps} (h:VQ E k0 to ps) (h0:k0≤k) (h1:k≤to):VQ E k0 to (ps.set lo (nth E.pl (k:Int),nth E.pl (to:Int))):=fun p hp=>by
  rcases jI hp with hp | rfl
  · exact h p hp
  · exact .inr ⟨k,to,h0,h1,bz _,rfl⟩
theorem VQ.none {E:Env} {k0 to lo n:Nat} {ps:Ps} (h:VQ E k0 to ps):VQ E k0 to (noneR ps lo n):=fun p hp=>by
  unfold noneR at hp;rcases List.mem_append.1 hp with hp | hp
  · rcases List.mem_append.1 hp with hp | hp
    · exact h p (iR hp)
    · exact .inl (iL hp)
  · exact h p (gl hp)
def KV (E:Env) (k0 k:Nat) (Q:Nat × Ps→Prop) (K:cQ):Prop:=∀(to:Nat) (ps:Ps) (φ:Fl),k≤to→to≤E.cs.length→VQ E k0 to ps→∀y,(K to ps φ).1=some y→Q y
theorem KV.up {E:Env} {k0 k k':Nat} {Q:Nat × Ps→Prop} {K:cQ} (h:KV E k0 k Q K) (hk:k≤k'):KV E k0 k' Q K:=fun to ps φ h1 h2=>h to ps φ (by omega) h2
section
variable {E:Env} {k0:Nat}
end
section
variable {t:Tr} {fold:Bool} {s:ByteArray} {k u:Int} {x:Mt × Int × Int}
theorem gX (s:ByteArray):(aO s).Pairwise (· < ·):=(oo s s.size).1
end
end
section
open Go.RowKit Srt
theorem uY (s:ByteArray):nth (aO s) ((bA s).length:Int)=(s.size:Int):=by
  have h1:∀k,nth (wL s k) ((kq s k).1.length:Int)=((kq s k).2:Int):=fun k=>by
    induction k with
    | zero => rfl
    | succ k ih =>
      cases hb:tm s ((k:Int)+1) with
      | true =>
        have hl:=lK s k;rw [vB hb,yP hb];simp only [aQ,ay,aC];rw [jO,lc,jv (by omega)];rw [show (kq s k).1.length+(0+1) - (wL s k).length=0 by omega];simp
      | false => rw [tp hb, BS hb]; exact ih
  have h2:(kq s s.size).2=s.size:=by
    rcases kz s.size with h | h
    · rw [h];rfl
    · obtain ⟨n,hn⟩:∃n,s.size=n+1:=⟨s.size - 1,by omega⟩;rw [hn,yP (by unfold tm;rw [aR,ai];left;omega)]
  have h3:=h1 s.size;rw [h2] at h3;exact h3
theorem tV (s:ByteArray):nth (aO s) 0=0:=by
  have:=(oo s s.size).2.2;exact mH (k:=0) this
abbrev uH (k:Int):Tr:=dQ k ⟨#[]⟩ false 0 0 false
theorem tW {E:Env} {m:Int} (hm:m=8∨m=9) (g k:Nat) (K:cQ) (ps:Ps) (f:Nat):cM E (uH m) g k K ps (f+1,false)=if kW E.cs m (k:Int)=true then K k ps (f,false) else (none,(f,false)):=by
  have hk:(uH m).k=m:=rfl;rw [eO,jp,if_neg (by rw [hk];omega),if_neg (by rw [hk];omega),if_neg (by rw [hk];omega),if_neg (by omega)];unfold ji;rw [hk,if_neg (by omega),if_neg (by omega),if_neg (by omega)];rfl
theorem xd {E:Env} {t:Tr} (h:lk t.k=true) (g k:Nat) (K:cQ) (ps:Ps):cM E t g k K ps (0,false)=(none,(0,true)):=by
  have hk:=Kj h;rw [eO,jp,if_neg hk.1,if_neg hk.2.1,if_neg hk.2.2,if_pos rfl]
abbrev si (a:Tr):Tr:=eF 6 ⟨#[]⟩ false 0 0 false Sv.nil [a]
theorem xe (E:Env) (a:Tr) (g k:Nat) (K:cQ) (ps:Ps) (f:Nat):cM E (si a) g k K ps (f+1,false)=cM E a g k K ps (f,false):=by
  have hk:(si a).k=6:=rfl;rw [eO,jp,if_neg (by rw [hk];decide),if_neg (by rw [hk];decide),if_neg (by rw [hk];decide),if_neg (by omega)];unfold ji;rw [hk,if_neg (by decide),if_pos rfl];show cM E a (fk (si a) g) k K ps (f+1 - 1,false)=_;rw [show fk (si a) g=g from by unfold fk;rw [hk,if_neg (by decide)]];rfl
theorem tX (a:Tr):grpN (si a)=grpN a:=by rw [jn,if_neg (by show ¬(6:Int)=5;decide)];simp [eF,grpsN]
theorem xf {a:Tr} (h:fq (si a)=true):fq a=true:=iq h (by simp [eF])
abbrev sj (a:Tr):Tr:=lE 0 [uH 8,si a,uH 9]
theorem xg (m:Int) (hm:¬m=5):grpN (uH m)=0:=by rw [jn,if_neg (by show ¬m=5;exact hm)];rfl
theorem Kk (a:Tr):jQ [uH 8,si a,uH 9]=sj a:=by
  unfold jQ;rw [vt fun x hx=> ?_];simp only [List.mem_cons,List.not_mem_nil,or_false] at hx;rcases hx with rfl | rfl | rfl
  · show ¬(8:Int)=0;decide
  · show ¬(6:Int)=0;decide
  · show ¬(9:Int)=0;decide
def K9 (E:Env) (g:Nat) (K:cQ):cQ:=fun to ps φ=>ge [cM E (uH 9) g] to K ps φ
theorem xh (E:Env) (a:Tr) (k:Nat) (K:cQ) (ps:Ps) (f:Nat):cM E (sj a) 0 k K ps (f,false)=cM E (uH 8) 0 k (fun to ps φ=>cM E (si a) 0 to (K9 E (grpN a) K) ps φ) ps (f,false):=by
  rw [eO,jp,if_pos (show (sj a).k=0 from rfl)];show ge (dy E [uH 8,si a,uH 9] (fk (sj a) 0)) k K ps (f,false)=_;rw [show fk (sj a) 0=0 from rfl];show ge [cM E (uH 8) 0,cM E (si a) (0+grpN (uH 8)),cM E (uH 9) (0+grpN (uH 8)+grpN (si a))] k K ps (f,false)=_;rw [xg 8 (by decide),tX,gw];rfl
theorem Kl (a:Tr):grpN (sj a)=grpN a:=by
  have h:grpsN [uH 8,si a,uH 9]=grpN a:=by simp [grpsN,xg 8 (by decide),xg 9 (by decide),tX]
  rw [jn,if_neg (by show ¬(0:Int)=5;decide),←h];show 0+grpsN [uH 8,si a,uH 9]=_;omega
theorem Lf (E:Env) (a:Tr) (m k:Nat) (hk:1≤k) (φ:Fl):(eu E (cM E (sj a) 0) m k φ).1=none:=by
  obtain ⟨f,o⟩:=φ;cases o with
  | true => rw [nQ (by unfold eS; rw [kY])]
  | false =>
    cases f with
    | zero => rw [nQ (by unfold eS; rw [xh, xd (by decide)])]
    | succ f =>
      have:eS (cM E (sj a) 0) m k (f+1,false)=(none,(f,false)):=by
        unfold eS;rw [xh,tW (.inl rfl),if_neg (by unfold kW;rw [if_pos rfl];simp;omega)]
      rw [eM this]
theorem Dw (E:Env) (a:Tr) (m:Nat):∀n k φ,1≤k→(cn E (cM E (sj a) 0) m n k φ).1=none
  | 0, _, _, _ => rfl
  | n + 1, k, φ, hk => by
    rw [cn];split
    · rw [Lf E a m k hk,if_neg (by simp)];exact Dw E a m n (k+1) _ (by omega)
    · rfl
theorem Lg (E:Env) (g to:Nat) (p:Ps) (f:Nat):K9 E g K0 to p (f+1,false)=if (to:Int)=(E.cs.length:Int) then (some (to,p),(f,false)) else (none,(f,false)):=by
  show cM E (uH 9) g to (fun to ps φ=>ge [] to K0 ps φ) p (f+1,false)=_;rw [tW (.inr rfl),show kW E.cs 9 (to:Int)=decide ((to:Int)=(E.cs.length:Int)) from rfl];simp only [ai];rfl
theorem Ly (E:Env) (g k:Nat):KQ E.cs.length k (fun y=>y.1=E.cs.length) (K9 E g K0):=fun to ps φ h1 h2 y hy=>by
  obtain ⟨f,o⟩:=φ;cases o with
  | true => rw [show K9 E g K0 to ps (f, true) = cM E (uH 9) g to (fun to ps φ => ge [] to K0 ps φ) ps (f, true) from rfl, kY] at hy; cases hy
  | false =>
    cases f with
    | zero => rw [show K9 E g K0 to ps (0, false) = cM E (uH 9) g to (fun to ps φ => ge [] to K0 ps φ) ps (0, false) from rfl, xd (by decide)] at hy; cases hy
    | succ f =>
      rw [Lg] at hy;split at hy
      · cases hy;simp only;omega
      · cases hy
theorem Km {E:Env} {a:Tr} {m to f':Nat} {ps:Ps} {φ:Fl} (h:eS (cM E (sj a) 0) m 0 φ=(some (to,ps),(f',false))):to=E.cs.length:=by
  obtain ⟨f,o⟩:=φ;unfold eS at h;cases o with
  | true => rw [kY] at h; cases h
  | false =>
    cases f with
    | zero => rw [xh, xd (by decide)] at h; cases h
    | succ f =>
      rw [xh,tW (.inl rfl),if_pos (by unfold kW;rw [if_pos rfl];rfl)] at h;exact tU E (si a) 0 0 (K9 E (grpN a) K0) _ _ (fun y=>y.1=E.cs.length) (dC _) (Ly E _ 0) (to,ps) (by rw [h])
def Ky (E:Env) (d n:Nat):Sm:=⟨d,[],[],n,fun x y=>x.2.2=false,fun y=>∃to ps φ,y=(some (to,ps),φ)∧¬(to:Int)=(E.cs.length:Int)⟩
theorem Kn {E:Env} {a:Tr} (ha:fq a=true) {to f:Nat} {ps:Ps} (h:eS (cM E a 0) (grpN a) 0 (2000,false)=(some (to,ps),(f,false))) (hto:to=E.cs.length):(eu E (cM E (sj a) 0) (grpN (sj a)) 0 (5000,false)).1.isSome=true∧(eu E (cM E (sj a) 0) (grpN (sj a)) 0 (5000,false)).2.2=false:=by
  have hs:=lL (S:=Ky E 2998 (grpN a)) (E:=E) a ha 0 (by show 0+grpN a≤grpN a;omega) 0 2001 (K9 E (grpN a) K0) K0 (kT (l:=[cM E (uH 9) (grpN a)]) (fun r hr=>by simp at hr;subst hr;exact fS _ _ _) mt) mt (fun to p q fu hp hf=>by
    show (Ky E 2998 (grpN a)).R (K9 E (grpN a) K0 to p (fu+2997+1,false)) (K0 to q (fu,false));rw [Lg];split
    · exact .inr (.inr (.inl ⟨rfl,rfl,rfl⟩))
    · rename_i hn;exact .inr (.inr (.inr ⟨rfl,to,q,_,rfl,hn⟩))) (nP (grpN a)) (nP (grpN a)) 2000 ⟨by simp [Ky],by simp [Ky]⟩ (by omega)
  have e:eS (cM E (sj a) 0) (grpN (sj a)) 0 (5000,false)=cM E a (0+(Ky E 2998 (grpN a)).A.length) 0 (K9 E (grpN a) K0) (nP (grpN a)) (2000+(Ky E 2998 (grpN a)).d,false):=by
    unfold eS;rw [xh,show (5000:Nat)=4999+1 from rfl,tW (.inl rfl),if_pos (by unfold kW;rw [if_pos rfl];rfl)];show cM E (si a) 0 0 (K9 E (grpN a) K0) (nP (grpN (sj a))) (4998+1,false)=_;rw [xe,Kl];rfl
  rw [←e,show cM E a 0 0 K0 (nP (grpN a)) (2000,false)=eS (cM E a 0) (grpN a) 0 (2000,false) from rfl,h] at hs;rcases hs with ⟨b,_⟩ | ⟨_,b,_,_⟩ | ⟨b,_,c⟩ | ⟨_,to',ps',φ,b,c⟩
  · cases b
  · cases b
  · obtain ⟨⟨to2,ps2⟩,hm⟩:=Option.isSome_iff_exists.1 b;have:=eL (E:=E) (xa hm c);rw [this];exact ⟨rfl,rfl⟩
  · cases b;exact absurd (by rw [hto]) c
section
variable {t r:Tr} {fold:Bool} {s:ByteArray} {x y:Mt × Int × Int} {kv:Sv}
theorem GW (hr:er r=jQ ([uH 8,eF 6 ⟨#[]⟩ false 0 0 false kv [t],uH 9].map er)) (hm:(cX r 512 16).2=true) (hx:x=dI r fold s 0 5000) (hy:y=dL t fold s 0 2000):
    (x.1.isSome=true→x.2.2=0∧(aM x.1).1=0∧(aM x.1).2=(s.size:Int))∧(y.2.2=0→y.1.isSome=true→(s.size:Int)≤(aM y.1).2→x.1.isSome=true)∧(x.2.2=0∨x.2.2=9):=by
  have hW:er r=sj (er t):=by
    rw [hr,←Kk];show jQ [er (uH 8),er (eF 6 ⟨#[]⟩ false 0 0 false kv [t]),er (uH 9)]=_;rw [lJ];rfl
  rw [IL (show er r=er (sj (er t)) by rw [←hW,qz])] at hx;rw [ri (qz t).symm] at hy;have hm2:(cX (sj (er t)) 512 16).2=true:=by rw [←hW,ki];exact hm
  have haW:=kZ hm2;have haB:fq (si (er t))=true:=iq haW (by simp [lE]);have ha:=xf haB;have hp:=pk (gX s) (i:=0) (by have:=lK s s.size;show 0 < (wL s s.size).length;omega);rw [show nth (aO s) ((0:Nat):Int)=0 from tV s] at hp;have hE:∀{to:Nat} {f:Nat} {ps:Ps} {φ:Fl},eS (cM ⟨bA s,aO s,fold⟩ (sj (er t)) 0) (grpN (sj (er t))) 0 φ=(some (to,ps),(f,false))→to=(bA s).length:=fun h=>Km h;have hfind:∀φ,(cn ⟨bA s,aO s,fold⟩ (cM ⟨bA s,aO s,fold⟩ (sj (er t)) 0) (grpN (sj (er t))) (aO s).length 0 (φ,false)).1=(eu ⟨bA s,aO s,fold⟩ (cM ⟨bA s,aO s,fold⟩ (sj (er t)) 0) (grpN (sj (er t))) 0 (φ,false)).1:=fun φ=>by
    have hl:(aO s).length=(bA s).length+1:=lK s s.size;rw [hl,cn,if_pos (by simp [hl])];split
    · rfl
    · rename_i hn;exact (Dw _ _ _ _ _ _ (by omega)).trans (rV (by simpa using hn)).symm
  have h5:clampF 5000=5000:=by decide
  have h2:clampF 2000=2000:=by decide
  unfold dI at hx;rw [hm2,hp.2,hp.1,h5] at hx;have hc:x.2.2=0∨x.2.2=9:=by
    rw [hx];unfold gQ;rw [if_neg (by decide),if_neg (by decide)];split
    · exact .inr rfl
    · exact .inl rfl
  have oz:x.1.isSome=true→x.2.2=0∧x.1=(eu ⟨bA s,aO s,fold⟩ (cM ⟨bA s,aO s,fold⟩ (sj (er t)) 0) (grpN (sj (er t))) 0 (5000,false)).1:=fun hs=>by
    have h0:x.2.2=0:=Classical.byContradiction fun hn=>by
      rw [hx] at hn hs;rw [(my hn).1] at hs;cases hs
    refine ⟨h0,?_⟩;have ho:=(kI (by rw [←hx];exact h0)).2.2;rw [hx,fm rfl rfl ho];exact hfind 5000
  refine ⟨fun hs=> ?_,fun hy0 hys hyl=> ?_,hc⟩
  · obtain ⟨h0,h1⟩:=oz hs;refine ⟨h0,?_⟩;rw [h1] at hs ⊢;rcases jF (eS (cM ⟨bA s,aO s,fold⟩ (sj (er t)) 0) (grpN (sj (er t))) 0 (5000,false)) with h3 | ⟨f,h3⟩ | ⟨to,ps,f,h3⟩
    · rw [nQ h3] at hs;cases hs
    · rw [eM h3] at hs;cases hs
    · rw [eL h3];show nth (aO s) ((0:Nat):Int)=0∧nth (aO s) (to:Int)=(s.size:Int);rw [hE h3];exact ⟨tV s,uY s⟩
  · unfold dL at hy;rw [hp.2,hp.1,h2] at hy;have hma:(cX (er t) 512 16).2=true:=(kI (by rw [←hy];exact hy0)).1;rw [hma] at hy;have ho:=(kI (by rw [←hy];exact hy0)).2.2;rw [fm rfl rfl ho] at hy;rw [hy] at hys hyl;rcases jF (eS (cM ⟨bA s,aO s,fold⟩ (er t) 0) (grpN (er t)) 0 (2000,false)) with h3 | ⟨f,h3⟩ | ⟨to,ps,f,h3⟩
    · rw [lm,h3] at ho;cases ho
    · rw [eM h3] at hys;cases hys
    · rw [eL h3] at hyl;have hyl:(s.size:Int)≤nth (aO s) (to:Int):=hyl;have hle:=(jT (tU ⟨bA s,aO s,fold⟩ (er t) 0) (m:=grpN (er t)) (φ:=(2000,false)) (dC _)).2 (to,ps) (by rw [h3]);have hle2:to≤(bA s).length:=hle.2;have hl:(aO s).length=(bA s).length+1:=lK s s.size;have hto:to=(bA s).length:=by
        rcases pS to (bA s).length with hlt | hge
        · have:=ll (gX s) hlt (by omega);rw [uY] at this;omega
        · omega
      obtain ⟨a1,a2⟩:=Kn (E:=⟨bA s,aO s,fold⟩) ha h3 hto;have hf:=hfind 5000;have hfo:(cn ⟨bA s,aO s,fold⟩ (cM ⟨bA s,aO s,fold⟩ (sj (er t)) 0) (grpN (sj (er t))) (aO s).length 0 (5000,false)).2.2=false:=by
        rw [hl,cn,if_pos (by simp [hl]),if_pos a1];exact a2
      rw [hx,fm rfl rfl hfo,hf];exact a1
end
theorem IM {x y:Mt × Int × Int} {n:Int} (h:y.2.2=0→y.1.isSome=true→n≤(aM y.1).2→x.1.isSome=true) (h3:x.2.2=0∨x.2.2=9):((((((!decide (y.2.2=0)) || (!y.1.isSome)) || (decide ((aM y.1).2 < n))) || x.1.isSome)&&((decide (x.2.2=0)) || (decide (x.2.2=9))))&&true)=true:=by
  have h0:(decide (x.2.2=0) || decide (x.2.2=9))=true:=by simpa using h3
  rw [h0];by_cases a:y.2.2=0
  · by_cases b:y.1.isSome=true
    · by_cases c:(aM y.1).2 < n
      · simp [c]
      · rw [h a b (by omega)];simp
    · simp [b]
  · simp [a]
def mB (fold:Bool) (cs ws:List ByteArray) (k j:Nat):Prop:=∀i:Nat,i < j→(k:Int)+(i:Int) < (cs.length:Int)∧rq fold (nth cs ((k:Int)+(i:Int))) (nth ws (i:Int))=true
theorem mB.zero (fold:Bool) (cs ws:List ByteArray) (k:Nat):mB fold cs ws k 0:=fun i h=>by omega
theorem mB.snoc {fold:Bool} {cs ws:List ByteArray} {k j:Nat} (h:mB fold cs ws k j) (h2:(k:Int)+(j:Int) < (cs.length:Int)) (h3:rq fold (nth cs ((k:Int)+(j:Int))) (nth ws (j:Int))=true):mB fold cs ws k (j+1):=fun i hi=>by
  by_cases e:i=j
  · subst e;exact ⟨h2,h3⟩
  · exact h i (by omega)
theorem mB.le {fold:Bool} {cs ws:List ByteArray} {k j:Nat} (h:mB fold cs ws k j) (hk:k≤cs.length):k+j≤cs.length:=by
  rcases kz j with rfl | hj
  · omega
  · have:=(h (j - 1) (by omega)).1;omega
theorem mB.tail {fold:Bool} {cs:List ByteArray} {w:ByteArray} {ws:List ByteArray} {k j:Nat} (h:mB fold cs (w::ws) k (j+1)):mB fold cs ws (k+1) j:=fun i hi=>by
  have:=h (i+1) (by omega);have e1:(((k+1:Nat):Int)+(i:Int))=(k:Int)+((i+1:Nat):Int):=by omega
  rw [e1];have e2:nth (w::ws) ((i+1:Nat):Int)=nth ws (i:Int):=by rw [jO,jO];simp
  rw [←e2];exact this
section
variable {t r:Tr} {fold:Bool} {s p:ByteArray} {x y:Mt × Int × Int} {kv:Sv} {k j:Nat}
end
end
section
open Go.RowKit
open Srt
set_option maxRecDepth 100000 in
set_option maxHeartbeats 4000000 in
theorem Cm (p:ByteArray) (fold:Bool) (s:ByteArray) (w:World):Calls Tryz.prog 9 #[(bc p),(aE fold),(bc s)] w (fun e w'=>e= .returned (aE true)∧Ext aW w w'):=by
 refine enter (n:=112) Tryz.func9 rfl rfl (aw rfl) ?_;intro a0 τ0 ha st0;obtain ⟨e0,e1,e2⟩:=Ll ha;refine wp_seq (eK st0 [] ⟨aq fun c=>ax rfl rfl,av⟩ fun ac ag ae ab aa=> ?_);obtain ⟨e0,e1,e2⟩:=aa.k3 e0 e1 e2;have e6:=aa.V 0;refine wp_seq ?_;refine aY ?_;refine bV 2 (by kernel_rfl) ?_;refine og [_,gE _ 20 (fun b:Tr × Int=> .tuple #[b.1.v,aj b.2]) (fun b:Tr × Int=>(b.2=0→PatOk (er b.1) (p.size:Int) 0)∧fc b.1≤2200 * (p.size:Int)+2∧fc b.1≤600000) (fun b:Tr × Int=>gT (Gn aW w) b.1)] [0,1] ab [] ⟨ao e0,eT (f:=fun b:Tr × Int=> .tuple #[b.1.v,aj b.2]) (Ψ:=fun b:Tr × Int=>(b.2=0→PatOk (er b.1) (p.size:Int) 0)∧fc b.1≤2200 * (p.size:Int)+2∧fc b.1≤600000) (Φ:=fun b:Tr × Int=>gT (Gn aW w) b.1) fun {_ a_ _ _} c=>⟨_,_,(bK rfl rfl jM (c.q 0)),(lG p _).mono (fun e w' ⟨t_,r_,he_,hx_,ht_,hp_⟩=>⟨⟨t_,r_⟩,he_,hx_,hp_,c.tn ab hx_ ht_⟩)⟩,av⟩ fun ac ag ae ab aa=> ?_;obtain ⟨e0,e1,e2,e6⟩:=aa.k4 e0 e1 e2 e6;obtain ⟨⟨t1_,er1_⟩,e20,hqt1_,hz2⟩:=aa.zd 1 rfl;have e20:be ac 20=(.tuple #[(ta t1_),(aj er1_)]):=e20;have hqt1_:(er1_=0→PatOk (er t1_) (p.size:Int) 0)∧fc t1_≤2200 * (p.size:Int)+2∧fc t1_≤600000:=hqt1_;obtain ⟨hpt1_,hwt1_⟩:=hqt1_;have hbt1_:=fG t1_;have r0:=hz2;refine bW ?_;refine og [_,_,_,box _ _ 1 7 [(aj 0),(bc (⟨#[]⟩:ByteArray)),(aE false),(.slice none 0 0),(aj 0),(aj 0),(aE false),(.slice none 0 0)],_,_] [0,1,3,7,15,31] ab [jz 0 r0] ⟨ao e20,bR 0,bR 0,bO rfl rfl rfl rfl aD rfl,ey (cx:=(tc t1_)) (off:=0) rfl ak fun c=>⟨c.rb 3 rfl,(c.rb 3 rfl).ptr,(c.q 1)⟩,aK 2,av⟩ fun ac ag ae ab aa=> ?_;obtain ⟨b3x7,e7⟩:=gx ac 7;obtain ⟨e0,e1,e2,e6⟩:=aa.k4 e0 e1 e2 e6;have e8:=aa.V 5;replace r0:=aa.z1 0;have r1:=aa.rb 4 e7 rfl;refine wp_seq ?_;refine wp_seq (zG [0,1,3,7,15,31,63,127,255,511,1023,2047] ab [jz 0 r0,jb r1] ⟨ao e0,aq fun c=>fA rfl aZ (c.q 0),aq fun c=>ii rfl (c.q 1) rfl,bD 2,bm 3 rfl fun c hpc=>aS rfl (c.p e2),bm 3 rfl fun c hpc=>fA rfl aZ (c.M 4 hpc),bm 3 rfl fun c hpc=>ii rfl (c.M 5 hpc) rfl,dm 3 6,bD 7,bm 8 rfl fun c hpc=>aS rfl (c.p e8),bm 8 rfl fun c hpc=>fh rfl (c.M 9 hpc) rfl,dm 8 10,av⟩ fun ac ag ae ab aa=> ?_);obtain ⟨e1,e2,e6,e7⟩:=aa.k4 e1 e2 e6 e7;have e34:=aa.V 11;replace r0:=aa.z1 0;replace r1:=aa.B 1;refine wp_cond_split e34 (fun hc1=> ?_) (fun hc1=> ?_)
 · try simp only [aR,aG,ar,am,ai,ah,aV] at hc1
   refine wp_seq (eA ab [jz 0 r0,jb r1] ⟨eE fun c=>⟨_,_,(fN rfl rfl dN),fO _⟩,aK 0,av⟩ fun ac ag ae ab aa=> ?_);obtain ⟨e1,e2,e7⟩:=aa.k3 e1 e2 e7;have e6:=aa.V 1;replace r0:=aa.z1 0;replace r1:=aa.B 1;refine wp_ret ?_;refine rp ?_;refine cO (fn:=Tryz.f9) rfl ab.defers e6 ?_;refine ⟨congrArg _ (congrArg _ ?_),ab.ext0⟩;rfl
 try simp only [aR,aG,ar,am,ai,ah,aV] at hc1
 refine wp_skip ?_;refine wp_seq ?_;refine aY ?_;refine bV 3 (by kernel_rfl) ?_;refine og [_,_,iA _ 38 True (fun b:Sv=>b.v) (fun _=>True) (fun b:Sv=>fb lY (Gn aW w) b.v [t1_])] [0,0,2] ab [jz 0 r0,jb r1] ⟨aq fun c=>eW (cells:=#[(aj 8),(bc (⟨#[]⟩:ByteArray)),(aE false),(.slice none 0 0),(aj 0),(aj 0),(aE false),(.slice none 0 0)]) rfl aD (gB rfl rfl),aq fun c=>dY rfl az ak ((c.p e7).trans r1.ptr) (c.B 1),oR (E:=lY) (xs:=[t1_]) (cells:=#[(aj t1_.k),(bc t1_.ch),(aE t1_.ng),t1_.rv.v,(aj t1_.mn),(aj t1_.mx),(aE t1_.lz),t1_.kv.v]) ab sP rfl aU ak aD (by decide) (by decide) rfl rfl fun c hpc=>gB (c.n 1 rfl) (by kernel_rfl),av⟩ fun ac ag ae ab aa=> ?_;obtain ⟨e1,e2,e6,e7⟩:=aa.k4 e1 e2 e6 e7;have e36:=aa.V 0;obtain ⟨kv2_,e38,-,hz6⟩:=aa.gzd 2 rfl trivial;replace r0:=aa.z1 0;replace r1:=aa.B 1;have r2:=hz6;refine bW ?_;refine bV 4 (by kernel_rfl) ?_;refine og [_,_,own lY 25 _ 3 41 ([(dQ 8 (⟨#[]⟩:ByteArray) false 0 0 false),(eF 6 (⟨#[]⟩:ByteArray) false 0 0 false kv2_ [t1_]),(dQ 9 (⟨#[]⟩:ByteArray) false 0 0 false)]),gE _ 42 (fun b:Tr=>b.v) (fun b:Tr=>er b=jQ ([(dQ 8 (⟨#[]⟩:ByteArray) false 0 0 false),(eF 6 (⟨#[]⟩:ByteArray) false 0 0 false kv2_ [t1_]),(dQ 9 (⟨#[]⟩:ByteArray) false 0 0 false)].map er)) (fun b:Tr=>gT (Gn aW w) b)] [0,1,3,7] ab [jz 0 r0,jb r1,jz 2 r2] ⟨aq fun c=>eW (cells:=#[(aj 6),(bc (⟨#[]⟩:ByteArray)),(aE false),(.slice none 0 0),(aj 0),(aj 0),(aE false),kv2_.v]) rfl aD (iT rfl (c.p e38) rfl),aq fun c=>eW (cells:=#[(aj 9),(bc (⟨#[]⟩:ByteArray)),(aE false),(.slice none 0 0),(aj 0),(aj 0),(aE false),(.slice none 0 0)]) rfl aD (gB rfl rfl),dt (cells:=#[(aj 8),(bc (⟨#[]⟩:ByteArray)),(aE false),(.slice none 0 0),(aj 0),(aj 0),(aE false),(.slice none 0 0),(aj 6),(bc (⟨#[]⟩:ByteArray)),(aE false),(.slice none 0 0),(aj 0),(aj 0),(aE false),kv2_.v,(aj 9),(bc (⟨#[]⟩:ByteArray)),(aE false),(.slice none 0 0),(aj 0),(aj 0),(aE false),(.slice none 0 0)]) rfl rfl rfl rfl aU ak aD rfl (by decide) (by decide) (fun _ _ _ _ c=>EX (c.p e36) (c.n 0 rfl) (c.n 1 rfl) (by kernel_rfl)) rfl,eT (f:=fun b:Tr=>b.v) (Ψ:=fun b:Tr=>er b=jQ ([(dQ 8 (⟨#[]⟩:ByteArray) false 0 0 false),(eF 6 (⟨#[]⟩:ByteArray) false 0 0 false kv2_ [t1_]),(dQ 9 (⟨#[]⟩:ByteArray) false 0 0 false)].map er)) (Φ:=fun b:Tr=>gT (Gn aW w) b) fun {_ a_ _ _} c=>⟨_,_,(bK rfl rfl oH (mg _ 41)),(Ao _ [(dQ 8 (⟨#[]⟩:ByteArray) false 0 0 false),(eF 6 (⟨#[]⟩:ByteArray) false 0 0 false kv2_ [t1_]),(dQ 9 (⟨#[]⟩:ByteArray) false 0 0 false)] _ (zl (ly (Dv _ _ _ _ _ _ _ _ _) (ly (qA (c.iz 2 rfl) (ly (c.iz 0 rfl) qh)) (ly (Dv _ _ _ _ _ _ _ _ _) qh))) (c.ro 2 rfl).1.sl) (by first | omega | decide | (simp only [aB,aH,bk,bC,bM,bP,ByteArray.size,aF,ay,aC] at *;omega))).mono (fun e w' ⟨t_,he_,hx_,ht_,hq_⟩=>⟨t_,he_,hx_,hq_,c.tn ab hx_ ht_⟩)⟩,av⟩ fun ac ag ae ab aa=> ?_;obtain ⟨b7x41,e41⟩:=gx ac 41;obtain ⟨e1,e2,e6,e7⟩:=aa.k4 e1 e2 e6 e7;obtain ⟨t3_,e42,hqt3_,hz7⟩:=aa.zd 3 rfl;have e42:be ac 42=(ta t3_):=e42;have hwt3_:=rJ hqt3_;obtain ⟨r0,r2⟩:=aa.z2 0 2;replace r1:=aa.B 1;have r4:=hz7;refine bW ?_;refine og [box _ _ 2 9 [(aj 0),(bc (⟨#[]⟩:ByteArray)),(aE false),(.slice none 0 0),(aj 0),(aj 0),(aE false),(.slice none 0 0)],_] [0,1] ab [jz 0 r0,jb r1,jz 4 r4] ⟨bO rfl rfl rfl rfl aD rfl,ey (cx:=(tc t3_)) (off:=0) rfl ak fun c=>⟨c.rb 0 rfl,(c.rb 0 rfl).ptr,(c.p e42)⟩,av⟩ fun ac ag ae ab aa=> ?_;obtain ⟨b8x9,e9⟩:=gx ac 9;obtain ⟨e1,e2,e6,e7⟩:=aa.k4 e1 e2 e6 e7;replace r0:=aa.z1 0;replace r1:=aa.B 1;have r2:=aa.rb 1 e9 rfl;replace r4:=aa.z1 4;refine wp_seq ?_;refine wp_seq ?_;refine fX ab [jz 0 r0,jb r1,jb r2,jz 4 r4] ⟨aq fun c=>dY rfl az ak ((c.p e9).trans r2.ptr) (c.B 2),eE fun c=>⟨_,_,(bK rfl rfl ld (c.q 0)),uQ t3_ _ (zs (c.iz 4 rfl)) (by first | omega | decide | (simp only [aB,aH,bk,bC,bM,bP,ByteArray.size,aF,ay,aC] at *;omega))⟩,aq fun c=>ew rfl (c.q 1),av⟩ fun ac ag ae ab aa=> ?_;obtain ⟨e1,e2,e6,e7,e9⟩:=aa.k5 e1 e2 e6 e7 e9;have e45:=aa.V 2;obtain ⟨r0,r4⟩:=aa.z2 0 4;replace r1:=aa.B 1;replace r2:=aa.B 2;refine wp_cond_split e45 (fun hc2=> ?_) (fun hc2=> ?_)
 · try simp only [ar,am] at hc2
   refine wp_seq (eA ab [jz 0 r0,jb r1,jb r2,jz 4 r4] ⟨eE fun c=>⟨_,_,(fN rfl rfl dN),fO _⟩,aK 0,av⟩ fun ac ag ae ab aa=> ?_);obtain ⟨e1,e2,e7,e9⟩:=aa.k4 e1 e2 e7 e9;have e6:=aa.V 1;obtain ⟨r0,r4⟩:=aa.z2 0 4;replace r1:=aa.B 1;replace r2:=aa.B 2;refine wp_ret ?_;refine rp ?_;refine cO (fn:=Tryz.f9) rfl ab.defers e6 ?_;refine ⟨congrArg _ (congrArg _ ?_),ab.ext0⟩;rfl
 try simp only [ar,am] at hc2
 refine wp_skip ?_;refine wp_seq ?_;refine aY ?_;refine bV 4 (by kernel_rfl) ?_;refine og [_,_,_,gE _ 51 (fun b:Sv × (Mt × Int × Int)=> .tuple #[(.agg #[aj (aM b.2.1).1,aj (aM b.2.1).2,b.1.v]),aj b.2.2.1,aE b.2.1.isSome,aj b.2.2.2]) (fun b:Sv × (Mt × Int × Int)=>b.2=dI t3_ fold s 0 5000) (fun b:Sv × (Mt × Int × Int)=>fb cF (Gn aW w) b.1.v (bJ b.2.1))] [0,0,0,7] ab [jz 0 r0,jb r1,jb r2,jz 4 r4] ⟨aq fun c=>dY rfl az ak ((c.p e9).trans r2.ptr) (c.B 2),ao e1,ao e2,eT (f:=fun b:Sv × (Mt × Int × Int)=> .tuple #[(.agg #[aj (aM b.2.1).1,aj (aM b.2.1).2,b.1.v]),aj b.2.2.1,aE b.2.1.isSome,aj b.2.2.2]) (Ψ:=fun b:Sv × (Mt × Int × Int)=>b.2=dI t3_ fold s 0 5000) (Φ:=fun b:Sv × (Mt × Int × Int)=>fb cF (Gn aW w) b.1.v (bJ b.2.1)) fun {_ a_ _ _} c=>⟨_,_,(eC rfl rfl qM (c.q 0) (c.q 1) (c.q 2) rfl rfl),(pO _ t3_ fold s 0 5000 _ (c.iz 4 rfl) (by first | omega | decide | (simp only [aB,aH,bk,bC,bM,bP,ByteArray.size,aF,ay,aC] at *;omega)) (by first | omega | decide | (simp only [aB,aH,bk,bC,bM,bP,ByteArray.size,aF,ay,aC] at *;omega))).mono (fun e w' ⟨b_,he_,hx_,hs_,hn_⟩=>⟨⟨b_,_⟩,he_,hx_,rfl,c.sns ab hx_.size ⟨hs_,hn_⟩⟩)⟩,av⟩ fun ac ag ae ab aa=> ?_;obtain ⟨e1,e2,e6,e7⟩:=aa.k4 e1 e2 e6 e7;obtain ⟨⟨mv4_,at4_⟩,e51,hqat4_,hz11⟩:=aa.zd 3 rfl;have e51:be ac 51=(.tuple #[(.agg #[(aj ((aM at4_.1).1)),(aj ((aM at4_.1).2)),mv4_.v]),(aj at4_.2.1),(aE at4_.1.isSome),(aj at4_.2.2)]):=e51;have hqat4_:at4_=dI t3_ fold s 0 5000:=hqat4_;obtain ⟨r0,r4⟩:=aa.z2 0 4;replace r1:=aa.B 1;have r2:=hz11;refine bW ?_;refine og [_,_,_,_,_,box _ _ 3 10 [(aj 0),(aj 0),(.slice none 0 0)],_,_,_,_] [0,1,3,7,15,31,63,127,255,511] ab [jz 0 r0,jb r1,jz 2 r2,jz 4 r4] ⟨ao e51,bR 0,bR 0,bR 0,bR 0,bO rfl rfl rfl rfl bI rfl,ey (cx:=[(aj ((aM at4_.1).1)),(aj ((aM at4_.1).2)),mv4_.v]) (off:=0) rfl bi fun c=>⟨c.rb 5 rfl,(c.rb 5 rfl).ptr,(c.q 1)⟩,aK 2,aK 3,aK 4,av⟩ fun ac ag ae ab aa=> ?_;obtain ⟨b12x10,e10⟩:=gx ac 10;obtain ⟨e1,e2,e6,e7⟩:=aa.k4 e1 e2 e6 e7;have e12:=aa.V 8;have e13:=aa.V 9;obtain ⟨r0,r2⟩:=aa.z2 0 2;replace r1:=aa.B 1;have r3:=aa.rb 6 e10 rfl;replace r4:=aa.z1 4;refine wp_seq ?_;refine aY ?_;refine bV 4 (by kernel_rfl) ?_;refine og [_,_,_,gE _ 60 (fun b:Sv × (Mt × Int × Int)=> .tuple #[(.agg #[aj (aM b.2.1).1,aj (aM b.2.1).2,b.1.v]),aj b.2.2.1,aE b.2.1.isSome,aj b.2.2.2]) (fun b:Sv × (Mt × Int × Int)=>b.2=dL t1_ fold s 0 2000) (fun b:Sv × (Mt × Int × Int)=>fb cF (Gn aW w) b.1.v (bJ b.2.1))] [0,0,0,7] ab [jz 0 r0,jb r1,jz 2 r2,jb r3,jz 4 r4] ⟨aq fun c=>dY rfl az ak ((c.p e7).trans r1.ptr) (c.B 1),ao e1,ao e2,eT (f:=fun b:Sv × (Mt × Int × Int)=> .tuple #[(.agg #[aj (aM b.2.1).1,aj (aM b.2.1).2,b.1.v]),aj b.2.2.1,aE b.2.1.isSome,aj b.2.2.2]) (Ψ:=fun b:Sv × (Mt × Int × Int)=>b.2=dL t1_ fold s 0 2000) (Φ:=fun b:Sv × (Mt × Int × Int)=>fb cF (Gn aW w) b.1.v (bJ b.2.1)) fun {_ a_ _ _} c=>⟨_,_,(eC rfl rfl fL (c.q 0) (c.q 1) (c.q 2) rfl rfl),(kH _ t1_ fold s 0 2000 _ (c.iz 0 rfl) (by first | omega | decide | (simp only [aB,aH,bk,bC,bM,bP,ByteArray.size,aF,ay,aC] at *;omega)) (by first | omega | decide | (simp only [aB,aH,bk,bC,bM,bP,ByteArray.size,aF,ay,aC] at *;omega))).mono (fun e w' ⟨b_,he_,hx_,hs_,hn_⟩=>⟨⟨b_,_⟩,he_,hx_,rfl,c.sns ab hx_.size ⟨hs_,hn_⟩⟩)⟩,av⟩ fun ac ag ae ab aa=> ?_;obtain ⟨e2,e6,e10,e12,e13⟩:=aa.k5 e2 e6 e10 e12 e13;obtain ⟨⟨mv5_,at5_⟩,e60,hqat5_,hz13⟩:=aa.zd 3 rfl;have e60:be ac 60=(.tuple #[(.agg #[(aj ((aM at5_.1).1)),(aj ((aM at5_.1).2)),mv5_.v]),(aj at5_.2.1),(aE at5_.1.isSome),(aj at5_.2.2)]):=e60;have hqat5_:at5_=dL t1_ fold s 0 2000:=hqat5_;obtain ⟨r0,r2,r4⟩:=aa.z3 0 2 4;replace r3:=aa.B 3;have r1:=hz13;refine bW ?_;refine og [_,_,_,_,_,box _ _ 5 14 [(aj 0),(aj 0),(.slice none 0 0)],_,_,_,_] [0,1,3,7,15,31,63,127,255,511] ab [jz 0 r0,jz 1 r1,jz 2 r2,jb r3,jz 4 r4] ⟨ao e60,bR 0,bR 0,bR 0,bR 0,bO rfl rfl rfl rfl bI rfl,ey (cx:=[(aj ((aM at5_.1).1)),(aj ((aM at5_.1).2)),mv5_.v]) (off:=0) rfl bi fun c=>⟨c.rb 5 rfl,(c.rb 5 rfl).ptr,(c.q 1)⟩,aK 2,aK 3,aK 4,av⟩ fun ac ag ae ab aa=> ?_;obtain ⟨b14x14,e14⟩:=gx ac 14;obtain ⟨e2,e6,e10,e12,e13⟩:=aa.k5 e2 e6 e10 e12 e13;have e16:=aa.V 8;have e17:=aa.V 9;obtain ⟨r0,r1,r2,r4⟩:=aa.z4 0 1 2 4;replace r3:=aa.B 3;have r5:=aa.rb 6 e14 rfl;refine wp_seq ?_;refine wp_seq ?_;obtain ⟨hw1_,hw2_,hw3_⟩:=GW hqt3_ (by assumption) hqat4_ hqat5_;refine rg [_,_,_,_,_,_,_,_,_,_,_,_,_,_,_,_,_,_,_] [0,1,3,7,15,31,63,127,255,511,1023,2047,4095,8191,2047,18431,65535,131071,262143] ab [jz 0 r0,jz 1 r1,jz 2 r2,jb r3,jz 4 r4,jb r5] ⟨ao e12,bD 0,aL 1 rfl fun c hpc=>aS rfl (c.p e13),aL 1 rfl fun c hpc=>fh rfl (c.M 2 hpc) rfl,aL 1 rfl fun c hpc=>aS rfl (c.M 3 hpc),dj 4 false rfl fun c hpc=>dh rfl bd aT ((c.p e10).trans r3.ptr),dj 4 false rfl fun c hpc=>dh rfl cw aA (c.M 5 hpc),dj 4 false rfl fun c hpc=>aI rfl aN (c.M 6 hpc) (by rw [add_add];exact (c.ib 3 rfl).cell (j:=0) rfl),dj 4 false rfl fun c hpc=>fh rfl (c.M 7 hpc) rfl,aL 1 rfl fun c hpc=>pT rfl (c.M 4 hpc) (fun h=>c.m 8 rfl (And.intro hpc h)),aL 1 rfl fun c hpc=>aS rfl (c.M 9 hpc),dj 10 false rfl fun c hpc=>dh rfl bd aT ((c.p e10).trans r3.ptr),dj 10 false rfl fun c hpc=>dh rfl cw aA (c.M 11 hpc),dj 10 false rfl fun c hpc=>aI rfl aN (c.M 12 hpc) (by rw [add_add];exact (c.ib 3 rfl).cell (j:=1) rfl),dj 10 false rfl fun c hpc=>aS rfl (c.p e2),dj 10 false rfl fun c hpc=>fA rfl aZ (c.M 14 hpc),dj 10 false rfl fun c hpc=>fh rfl (c.M 13 hpc) (c.M 15 hpc),aL 1 rfl fun c hpc=>pT rfl (c.M 10 hpc) (fun h=>c.m 16 rfl (And.intro hpc h)),aq (v:=(aE false)) fun c=>cA.isB (b:=at4_.1.isSome&&(((!decide (at4_.2.2=0)) || (!decide ((aM at4_.1).1=0))) || (!decide ((aM at4_.1).2=(s.size:Int))))) (oK rfl (c.q 1) (fun h=>c.M 17 h)) (by rcases cU at4_.1.isSome with hz_ | hz_;(obtain ⟨h1_,h2_,h3_⟩:=hw1_ hz_;rw [h1_,h2_,h3_];simp);(rw [hz_];rfl)),av⟩ fun ac ag ae ab aa=> ?_;obtain ⟨e2,e6,e12,e13,e14,e16,e17⟩:=aa.k7 e2 e6 e12 e13 e14 e16 e17;have e83:=aa.V 18;obtain ⟨r0,r1,r2,r4⟩:=aa.z4 0 1 2 4;replace r5:=aa.B 5;refine wp_cond_false e83 ?_;refine wp_skip ?_;refine wp_seq ?_;refine rg [_,_,_,_,_,_,_,_,_,_,_,_,_,_,_,_,_,_,_,_,_,_,_,_,_,_,_,_,_] [0,1,3,7,15,31,63,127,255,511,127,1151,4095,8191,16383,32767,65535,131071,262143,524287,1048575,2097151,4194303,8388607,16777215,33554431,67108863,134217727,268435455] ab [jz 0 r0,jz 1 r1,jz 4 r4,jb r5] ⟨ao e17,aq fun c=>fh rfl (c.q 0) rfl,bD 1,bm 2 rfl fun c hpc=>aS rfl (c.p e16),bm 2 rfl fun c hpc=>ew rfl (c.M 3 hpc),dm 2 4,bD 5,bm 6 rfl fun c hpc=>dh rfl bd aT ((c.p e14).trans r5.ptr),bm 6 rfl fun c hpc=>dh rfl cw aA (c.M 7 hpc),bm 6 rfl fun c hpc=>aI rfl aN (c.M 8 hpc) (by rw [add_add];exact (c.ib 5 rfl).cell (j:=1) rfl),bm 6 rfl fun c hpc=>aS rfl (c.p e2),bm 6 rfl fun c hpc=>fA rfl aZ (c.M 10 hpc),bm 6 rfl fun c hpc=>cW rfl (c.M 9 hpc) (c.M 11 hpc),dm 6 12,bD 13,bm 14 rfl fun c hpc=>aS rfl (c.p e12),dm 14 15,bD 16,aL 17 rfl fun c hpc=>aS rfl (c.p e13),aL 17 rfl fun c hpc=>cY rfl (c.M 18 hpc) rfl,aL 17 rfl fun c hpc=>aS rfl (c.M 19 hpc),dj 20 false rfl fun c hpc=>aS rfl (c.p e13),dj 20 false rfl fun c hpc=>cY rfl (c.M 21 hpc) rfl,aL 17 rfl fun c hpc=>pT rfl (c.M 20 hpc) (fun h=>c.m 22 rfl (And.intro hpc h)),bZ 17 23,bD 24,fC 25 true rfl fun c hpc=>⟨_,_,(fN rfl rfl dN),fO _⟩,bZ 25 26,aK 27,av⟩ fun ac ag ae ab aa=> ?_;have e6:=aa.V 28;obtain ⟨r0,r1,r4⟩:=aa.z3 0 1 4;refine wp_ret ?_;refine rp ?_;refine cO (fn:=Tryz.f9) rfl ab.defers e6 ?_;refine ⟨congrArg _ (congrArg _ ?_),ab.ext0⟩;exact IM hw2_ hw3_
end
end B
end Go.Proofs.YtcfdebjhikahfaaGreat
namespace Go.Proofs.YtcfdebjhikahfaaGreat
open Go.ChangeShapes Go.WideShapes Go.ChangeAt Go.RowKit
namespace B
theorem sK:ownKnob Tryz.prog.godebug=none:=by kernel_rfl
theorem kJ:laidOutB Tryz.prog=true:=by kernel_rfl
set_option maxRecDepth 100000 in
theorem tY (H:Type) (enc:TypeId × Value→H) (W:World) (base:Nat) (args:Array Value) (ds gs:List (DataW H)) (before:List MemPlace)
    (hval:∀(j:Nat) t v,Tryz.f9.params[j]? =some t→args[j]? =some v→Value.okWide Tryz.prog W .any base t v)
    (hW:DataW.Whole enc Tryz.prog Tryz.f9.params.toList Rows.runWholeSpec.vars false W args.toList ds gs before):
    Calls Tryz.prog 9 args W fun e W'=>∃v,e= .returned v∧Rows.runWholeSpec.post enc Tryz.prog Tryz.f9 false true false false W args v W':=by
  have hW':=hW;obtain ⟨p,q,hA0,hV,rfl,hfz,hnd⟩:=hW;have hA:DataW.TrodAll enc Tryz.prog W 0 (fun _=>true) true Tryz.f9.params.toList args.toList ds p:=hA0;rw [Tryz.params9] at hA hval;obtain ⟨v0,vs0,d0,ds0,p0,q0,hargs0,rfl,rfl,h0,r0⟩:=trodAll_cons hA;obtain ⟨v1,vs1,d1,ds1,p1,q1,hargs1,rfl,rfl,h1,r1⟩:=trodAll_cons r0;obtain ⟨v2,vs2,d2,ds2,p2,q2,hargs2,rfl,rfl,h2,r2⟩:=trodAll_cons r1;obtain ⟨rfl,rfl,rfl⟩:=trodAll_nil r2;subst hargs2;subst hargs1;obtain rfl:args=#[v0,v1,v2]:=by first | exact Array.ext' hargs0 | (cases args;simp_all)
  obtain ⟨x0,rfl,rfl,rfl,b0⟩:=Go.ChangeMaps.open_string aZ (hval 0 9 v0 rfl rfl) h0;obtain ⟨x1,rfl,rfl,rfl⟩:=open_bool cT (hval 1 4 v1 rfl rfl) h1;obtain ⟨x2,rfl,rfl,rfl,b2⟩:=Go.ChangeMaps.open_string aZ (hval 2 9 v2 rfl rfl) h2;exact (Cm x0 x1 x2 W).mono fun e W' ⟨he,hx⟩=>⟨_,he,lU kJ hW' rfl (by kernel_rfl) rfl rfl cT hx⟩
set_option maxRecDepth 100000 in
theorem vi (os:Os) (started:os.Started) (H:Type) (enc:TypeId × Value→H):
    ReturnsInHanded {} Tryz.checked os 9 .any (Rows.runWholeSpec.pre6 enc Tryz.prog Tryz.f9 Rows.runWholeRow.domain false) (Rows.runWholeSpec.post enc Tryz.prog Tryz.f9 false true false false):=by
  refine returnsInHanded_of_change (C:=Tryz.checked) sK started (by kernel_rfl) Tryz.func9
    (ChangeSpec.witness6 (enc:=enc) (C:=Tryz.checked) false ⟨#[],#[.string ⟨#[]⟩,.bool false,.string ⟨#[]⟩],[]⟩ 8 (by kernel_rfl) (by kernel_rfl) (by kernel_rfl) (by kernel_rfl)) ?_
  intro W base args ds gs before hval hW _ _;exact tY H enc W base args ds gs before hval hW
theorem runWhole_holds:Rows.RunWholeSaid:=
  OpenClaim.holds_of_wide 9 Tryz.f9 rfl rfl rfl rfl rfl rfl rfl ⟨rfl,rfl,rfl,rfl,rfl⟩ rfl rfl rfl rfl rfl (by kernel_rfl) Tryz.func9 (by kernel_rfl)
    (of_decide_eq_true (by kernel_rfl)) (by unfold Func.isWrapper;first | (rw [if_pos (by decide+kernel)];kernel_rfl) | (rw [if_neg (by decide+kernel)];exact ⟨rfl,rfl⟩))
    (fun os started H enc _=>vi os started H enc)
end B
end Go.Proofs.YtcfdebjhikahfaaGreat
