/-
  Proved here: the given statement AllRisesSaid of chapter 16, that is: the law AllRises answers true for every two texts.
  Conditions: none beyond the statement. Own texts, put together and shortened by programs.
-/
import Derived.Test.YtcfdebjhikahfaaGreatZx7
import Derived.Test.YtcfdebjhikahfaaGreatRows
import Derived.ChangeMaps5
set_option linter.unusedSimpArgs false
set_option linter.unusedVariables false
set_option linter.unusedSectionVars false
namespace Go.Proofs.YtcfdebjhikahfaaGreat
section
open Go.RowKit
abbrev iL:=@List.eq_of_mem_replicate
abbrev jI:=@List.mem_or_eq_of_mem_set
abbrev dE:=@Nat.lt_of_le_of_lt
abbrev dN:=@Tryz.call15
abbrev qM:=@Tryz.call23
abbrev jM:=@Tryz.call25
abbrev kt:=@Tryz.call26
end
namespace B
section
open Go.RowKit
theorem kn {α:Type} [Inhabited α] {xs ys:List α} {k:Nat} (h:k < xs.length) (h':k < ys.length) (hq:xs.take k=ys.take k) (h0:nth xs (k:Int)=nth ys (k:Int)):xs.take (k+1)=ys.take (k+1):=by
  rw [eH h,eH h',hq,h0]
theorem jC {α:Type} [Inhabited α] {xs ys:List α} {i:Int} (h:¬nth xs i=nth ys i):¬xs=ys:=fun e=>h (by rw [e])
theorem go {α:Type} {xs ys:List α} {k:Nat} (hl:xs.length=ys.length) (hk:k≤xs.length) (hq:xs.take k=ys.take k) (h:(xs.length:Int)≤k):xs=ys:=by
  rwa [bw (by omega),bw (by omega)] at hq
def dA (p q:Int × Int):Bool:=decide (p=q)
theorem ko (p q:Int × Int):dA p q=(decide (p.1=q.1)&&decide (p.2=q.2)):=by
  rw [eZ];simp [dA,Prod.ext_iff]
set_option maxRecDepth 100000 in
theorem iW (p q:Int × Int) (w:World):(Op.equal 38 (fB p) (fB q)).run Tryz.prog w= .ok (dA p q) w:=by
  rw [ko];have h:=run_equalIn_struct (P:=Tryz.prog) w 9999 38 #[.int .i64 p.1,.int .i64 p.2] #[.int .i64 q.1,.int .i64 q.2] rfl Tryz.stoodInHeld38;simp only [Op.equal,Op.maxDepth,fB,h];simp [Program.fieldsOf,Op.eqFields,part,go_sem];by_cases h1:p.1=q.1 <;> by_cases h2:p.2=q.2 <;> simp [h1,h2]
theorem jU {a:Act} {o:Oper} {w:World} {x y:Operand} {t':TypeId} {p q:Int × Int} (ho:o.op= .binOp .neq 38 x y t') (hx:a.eval x=fB p) (hy:a.eval y=fB q):cA Tryz.prog a o w (.bool (!dA p q)):=by
  have h:=iW p q w;simp only [fB] at h hx hy;simp [cA,execOp,ho,hx,hy,eqGuard,binOp,h]
set_option maxRecDepth 100000 in
theorem kX (v u:Value) (xs ys:List (Int × Int)) (w:World) (hS:SlT cF w v xs) (hU:SlT cF w u ys):Calls Tryz.prog 26 #[v,u] w (fun e w'=>e= .returned (aE (decide (xs=ys)))∧Ext aW w w'):=by
 refine enter (n:=26) Tryz.func26 rfl rfl (aw rfl) ?_;intro a0 τ0 ha st0;obtain ⟨e0,e1⟩:=qG ha;have hle:=hS.le;have hle2:=hU.le;refine wp_seq (eK st0 [] ⟨aq fun c=>ax rfl rfl,av⟩ fun ac ag ae ab aa=> ?_);obtain ⟨e0,e1⟩:=aa.k2 e0 e1;have e4:=aa.V 0;refine wp_seq ?_;refine wp_seq (vO [0,1,0,4,15] ab [] ⟨ao e0,aq fun c=>dk rfl bh (c.q 0) hS.sl,ao e1,aq fun c=>dk rfl bh (c.q 2) hU.sl,aq fun c=>fh rfl (c.q 1) (c.q 3),av⟩ fun ac ag ae ab aa=> ?_);obtain ⟨e0,e1,e4⟩:=aa.k3 e0 e1 e4;have e10:=aa.V 4;refine wp_cond_split e10 (fun hc1=> ?_) (fun hc1=> ?_)
 · try simp only [ar,am,ai,ah] at hc1
   refine wp_seq (eK ab [] ⟨aq fun c=>ax rfl rfl,av⟩ fun ac ag ae ab aa=> ?_);obtain ⟨e0,e1⟩:=aa.k2 e0 e1;have e4:=aa.V 0;refine wp_ret ?_;refine rp ?_;refine cO (fn:=Tryz.f26) rfl ab.defers e4 ?_;exact ⟨congrArg _ (congrArg _ (by first | (symm;exact decide_eq_false (fun h=>by subst h;omega)) | (symm;exact decide_eq_false (jC (by assumption))) | (symm;exact decide_eq_true (go q1 q0 q2 (by assumption))))),ab.ext0⟩
 try simp only [ar,am,ai,ah] at hc1
 refine wp_skip ?_;refine wp_seq ?_;refine wp_seq (eK ab [] ⟨aq fun c=>ax rfl rfl,av⟩ fun ac ag ae ab aa=> ?_);obtain ⟨e0,e1,e4⟩:=aa.k3 e0 e1 e4;have e5:=aa.V 0;refine wp_block ?_;refine wp_loop (fun a_ w_=>∃(k:Nat) (τ:Nat→bj),(k≤xs.length)∧
      (xs.length=ys.length)∧
      (xs.take k=ys.take k)∧
      St (Nw w) w 26 a_ w_ τ∧
      be a_ 5=(aj (k:Int))∧
      be a_ 0=v∧
      be a_ 1=u) (fun a_ _=>xs.length - (intOf (be a_ 5)).toNat) ?_ ?_
 · refine ⟨0,ae,?_,?_,?_,ab,(e5.trans (bB (by omega))),e0,e1⟩
   · omega
   · omega
   · simp
 intro a5 w5 hI;obtain ⟨k,τ5,q0,q1,q2,st5,e5,e0,e1⟩:=hI;have m5:=e5;refine wp_seq ?_;refine wp_seq (lr [0,0,2,7] st5 [] ⟨ao e5,ao e0,aq fun c=>dk rfl bh (c.q 1) hS.sl,aq fun c=>cW rfl (c.q 0) (c.q 2),av⟩ fun ac ag ae ab aa=> ?_);obtain ⟨e0,e1,e5⟩:=aa.k3 e0 e1 e5;have e14:=aa.V 3;refine wp_cond_split e14 (fun hc2=> ?_) (fun hc2=> ?_)
 · try simp only [ai] at hc2
   refine wp_skip ?_;refine wp_seq ?_;refine wp_block ?_;refine wp_seq (xD [0,0,3,7,0,0,48,112,255] ab [] ⟨ao e0,ao e5,aq fun c=>aX rfl bh aT (c.q 0) hS.sl (c.q 1) (by omega) (by omega),aq fun c=>cq (vs:=[(aj ((nth xs (k:Int)).1)),(aj ((nth xs (k:Int)).2))]) rfl cV aT (c.q 2) rfl (fun _ _ hj=>(hS.at (ab.ext.trans c.J.ext)).elem (bF (i:=(k:Int)) (by omega) (by omega)) hj),ao e1,ao e5,aq fun c=>aX rfl bh aT (c.q 4) hU.sl (c.q 5) (by omega) (by omega),aq fun c=>cq (vs:=[(aj ((nth ys (k:Int)).1)),(aj ((nth ys (k:Int)).2))]) rfl cV aT (c.q 6) rfl (fun _ _ hj=>(hU.at (ab.ext.trans c.J.ext)).elem (bF (i:=(k:Int)) (by omega) (by omega)) hj),aq fun c=>jU rfl (c.q 3) (c.q 7),av⟩ fun ac ag ae ab aa=> ?_);obtain ⟨e0,e1,e5,e14⟩:=aa.k4 e0 e1 e5 e14;have e25:=aa.V 8;refine wp_cond_split e25 (fun hc3=> ?_) (fun hc3=> ?_)
   · try simp only [ar,am,ai,ah,dA] at hc3
     refine wp_seq (eK ab [] ⟨aq fun c=>ax rfl rfl,av⟩ fun ac ag ae ab aa=> ?_);obtain ⟨e0,e1,e5,e14,e25⟩:=aa.k5 e0 e1 e5 e14 e25;have e4:=aa.V 0;refine wp_ret ?_;refine rp ?_;refine cO (fn:=Tryz.f26) rfl ab.defers e4 ?_;exact ⟨congrArg _ (congrArg _ (by first | (symm;exact decide_eq_false (fun h=>by subst h;omega)) | (symm;exact decide_eq_false (jC (by assumption))) | (symm;exact decide_eq_true (go q1 q0 q2 (by assumption))))),ab.ext0⟩
   try simp only [ar,am,ai,ah,dA] at hc3
   refine wp_skip ?_;show _;refine fX ab [] ⟨ao e5,aq fun c=>cN rfl (c.q 0) rfl (by omega),aK 1,av⟩ fun ac ag ae ab aa=> ?_;obtain ⟨e0,e1,e14,e25⟩:=aa.k4 e0 e1 e14 e25;have e5:=aa.V 2;refine ⟨⟨k+1,ae,?_,?_,?_,ab,(e5.trans (bB (by omega))),e0,e1⟩,?_⟩
   · omega
   · omega
   · exact kn (by omega) (by omega) q2 (by assumption)
   · simp only [m5,e5,intOf];omega
 try simp only [ah,aV] at hc2
 refine wp_exit ?_;repeat (with_reducible refine cy ?_)
 refine cC ?_;refine wp_seq (eK ab [] ⟨aq fun c=>ax rfl rfl,av⟩ fun ac ag ae ab aa=> ?_);have e4:=aa.V 0;refine wp_ret ?_;refine rp ?_;refine cO (fn:=Tryz.f26) rfl ab.defers e4 ?_;exact ⟨congrArg _ (congrArg _ (by first | (symm;exact decide_eq_false (fun h=>by subst h;omega)) | (symm;exact decide_eq_false (jC (by assumption))) | (symm;exact decide_eq_true (go q1 q0 q2 (by assumption))))),ab.ext0⟩
end
section
open Srt
theorem tT {E:Env}:∀(l:List Tr) (g:Nat),(∀k ∈ l,∀g,RQ E.cs.length (cM E k g))→∀r ∈ dy E l g,RQ E.cs.length r
  | [], g, h, r, hr => by simp [dy] at hr
  | t :: l, g, h, r, hr => by
    rw [dy] at hr;rcases List.mem_cons.1 hr with rfl | hr
    · exact h t (by simp) g
    · exact tT l (g+grpN t) (fun k hk=>h k (by simp [hk])) r hr
theorem tU (E:Env) (t:Tr):∀g,RQ E.cs.length (cM E t g):=by
  induction t using Tr.ind with
  | h t ih =>
    intro g;rw [eO];exact yR (tT t.kids _ ih)
end
section
open Go.RowKit Srt
section
variable {C:Cfg} {ps ps':Ps} {fu fu':Nat} {ou ou':Bool} {tv tv':Int} {tb:Option Nat} {Z Z' T:bj} {w w':World} {τ:Nat→bj}
end
section
variable {N:bj} {P:Program} {ops:Array Oper} {sp:List (Spec N)} {In:Nat→Ini N} {a0:Act} {w0 W:World} {bf:List Nat} {j:Nat} {o:Oper} {s:Spec N} {done:Nat→Bool} {a:Act} {w:World} {τ:Nat→bj} {C:Cfg} {q:Nat} {ps ps':Ps} {fu fu':Nat} {ou ou':Bool} {tv tv':Int} {β:Type}
end
section
variable {N:bj} {l:List Oper} {sp:List (Spec N)} {il:List (Ini N)} {a0 a:Act} {w:World} {τ:Nat→bj} {C:Cfg} {fu:Nat} {ou:Bool} {tv:Int} {β:Type}
end
section
variable {N:bj} {P:Program} {ops:Array Oper} {sp:List (Spec N)} {In:Nat→Ini N} {a0:Act} {w0 W:World} {bf:List Nat} {j:Nat} {o:Oper} {s:Spec N} {done:Nat→Bool} {a:Act} {w w':World} {τ:Nat→bj}
end
section
variable {N:bj} {l:List Oper} {sp:List (Spec N)} {il:List (Ini N)} {a0 a:Act} {w:World} {τ:Nat→bj}
end
def dI (t:Tr) (fold:Bool) (s:ByteArray) (at' fuel:Int):Mt × Int × Int:=gQ (cX t 512 16).2 (mO (aO s) at') (cn ⟨bA s,aO s,fold⟩ (cM ⟨bA s,aO s,fold⟩ t 0) (grpN t) (aO s).length (plcF (aO s) at') (clampF fuel,false))
end
section
open Go.RowKit Srt
theorem BegP.fnd {t:Tr} {s:ByteArray} {fold:Bool} {C:Cfg} {rt st it:Nat} (h:BegP t s fold C rt st it) (n k:Nat) (φ:Fl):cn C.E (bH C.E C.top) C.m n k φ=cn ⟨bA s,aO s,fold⟩ (cM ⟨bA s,aO s,fold⟩ t 0) (grpN t) n k φ:=by
  rw [tk _ _ _ _ h.lay,h.env,h.m]
end
section
open Go.RowKit
open Srt
set_option maxRecDepth 100000 in
set_option maxHeartbeats 4000000 in
theorem tL (F:bj) (t:Tr) (fold:Bool) (s:ByteArray) (at_ n:Int) (w:World) (hT:TrT F w t) (hP:fc t≤1000000) (hs:s.size≤900000):Calls Tryz.prog 46 #[(ta t),(aE fold),(bc s),(aj at_),(aj n),(.func (.func 40) #[] #[])] w (fun e w'=>∃mv:Sv,e= .returned (.tuple #[(.agg #[aj (aM (dI t fold s at_ n).1).1,aj (aM (dI t fold s at_ n).1).2,mv.v]),aj (dI t fold s at_ n).2.1,aE (dI t fold s at_ n).1.isSome,aj (dI t fold s at_ n).2.2])∧Ext aW w w'∧SlT cF w' mv.v (bJ (dI t fold s at_ n).1)∧(bJ (dI t fold s at_ n).1≠ []→w.heap.size≤(ee mv.v).block)):=by
 refine enter (n:=59) Tryz.func46 rfl rfl (aw rfl) ?_;intro a0 τ0 ha st0;have e0:be a0 0=(ta t):=ha 0 _ rfl;have e1:be a0 1=(aE fold):=ha 1 _ rfl;have e2:be a0 2=(bc s):=ha 2 _ rfl;have e3:be a0 3=(aj at_):=ha 3 _ rfl;have e4:be a0 4=(aj n):=ha 4 _ rfl;have e5:be a0 5=(.func (.func 40) #[] #[]):=ha 5 _ rfl;clear ha;have hwt:=fG t;have r8:Fz (gT (Gn F w) t) τ0 w:=TrT.inz hT st0;refine wp_seq (rg [box _ _ 1 6 (tc t),box _ _ 2 12 [(aj 0),(aj 0),(.slice none 0 0)],_,_,_] [0,0,0,4,12] st0 [jz 8 r8] ⟨hH (v:=(ta t)) rfl rfl rfl rfl rfl (fun _ _ _ _ c=>(c.p e0)),bO rfl rfl rfl rfl bI rfl,aq fun c=>ax rfl rfl,aq fun c=>ax rfl rfl,aq fun c=>ax rfl rfl,av⟩ fun ac ag ae ab aa=> ?_);obtain ⟨b1x6,e6⟩:=gx ac 6;obtain ⟨b1x12,e12⟩:=gx ac 12;obtain ⟨e1,e2,e3,e4,e5⟩:=aa.k5 e1 e2 e3 e4 e5;have e13:=aa.V 2;have e14:=aa.V 3;have e15:=aa.V 4;have r1:=aa.rb 0 e6 rfl;have r2:=aa.rb 1 e12 rfl;replace r8:=aa.z1 8;refine wp_seq ?_;refine wp_seq (fX ab [jb r1,jb r2,jz 8 r8] ⟨aq fun c=>dY rfl az ak ((c.p e6).trans r1.ptr) (c.B 1),eE fun c=>⟨_,_,(bK rfl rfl ld (c.q 0)),uQ t _ (zs (c.iz 8 rfl)) (by omega)⟩,aq fun c=>ew rfl (c.q 1),av⟩ fun ac ag ae ab aa=> ?_);obtain ⟨e1,e2,e3,e4,e5,e6,e12,e13,e14,e15⟩:=aa.k10 e1 e2 e3 e4 e5 e6 e12 e13 e14 e15;have e22:=aa.V 2;replace r1:=aa.B 1;replace r2:=aa.B 2;replace r8:=aa.z1 8;refine wp_cond_split e22 (fun hc1=> ?_) (fun hc1=> ?_)
 · try simp only [ar,am] at hc1
   refine wp_seq (xk ab [jb r1,jb r2,jz 8 r8] ⟨aq fun c=>od (cells:=#[(aj 0),(aj 0),(.slice none 0 0)]) rfl bI ni,cp (cx:=[(aj 0),(aj 0),(.slice none 0 0)]) (off:=0) bi fun c=>⟨c.bp 2 rfl e12,c.ad ((c.p e12).trans r2.ptr) e12 rfl,(c.q 0)⟩,aq fun c=>ax rfl rfl,aq fun c=>ax rfl rfl,aq fun c=>ax rfl rfl,av⟩ fun ac ag ae ab aa=> ?_);obtain ⟨e1,e2,e3,e4,e5,e6,e12⟩:=aa.k7 e1 e2 e3 e4 e5 e6 e12;have e13:=aa.V 2;have e14:=aa.V 3;have e15:=aa.V 4;replace r1:=aa.B 1;replace r2:=aa.RB 1 e12;replace r8:=aa.z1 8;refine wp_ret ?_;refine rp ?_;refine lW (fn:=Tryz.f46) rfl ab.defers e12 e13 e14 e15 r2 dB bi rfl ?_;have hF_:(dI t fold s at_ n)=(none,0,10):=by unfold dI;exact rR (by assumption)
   rw [hF_];exact ⟨Sv.nil,rfl,ab.ext0,SlT.nil _ _,fun h=>absurd rfl h⟩
 try simp only [ar,am] at hc1
 refine wp_skip ?_;refine wp_seq ?_;refine aY ?_;refine bV 5 (by kernel_rfl) ?_;refine og [_,_,_,_,Ca _ 0 28 t s fold 76 38 3 (clampF n)] [0,0,0,0,15] ab [jb r1,jb r2,jz 8 r8] ⟨aq fun c=>dY rfl az ak ((c.p e6).trans r1.ptr) (c.B 1),ao e1,ao e2,ao e4,wU fun {_ a_ _ _} c=>⟨_,_,(iM rfl rfl oI (c.q 0) (c.q 1) (c.q 2) (c.q 3)),c.beg (tag:=0) ab (tE _ t fold s n _ (c.iz 8 rfl) (by omega) (by omega))⟩,av⟩ fun ac ag ae ab aa=> ?_;obtain ⟨e3,e5,e12,e13,e14,e15⟩:=aa.k6 e3 e5 e12 e13 e14 e15;obtain ⟨C,e28,hCp,hro4,hz4⟩:=aa.bg 4 rfl;have r0:=hro4;replace r2:=aa.B 2;replace r8:=aa.z1 8;have r1:=hz4;refine bW ?_;refine og [_] [0] ab [jr r0,jz 1 r1,jb r2,jz 8 r8] ⟨oQ e28,av⟩ fun ac ag ae ab aa=> ?_;obtain ⟨e3,e5,e12,e13,e14,e15⟩:=aa.k6 e3 e5 e12 e13 e14 e15;have e16:=aa.V 0;replace r0:=aa.ir 0 rfl;obtain ⟨r1,r8⟩:=aa.z2 1 8;replace r2:=aa.B 2;refine wp_seq ?_;have hmay:(cX t 512 16).2=true:=by assumption
 have hok:OkP C.m C.top:=hCp.ok hmay (by omega);have hit:C.it=3:=hCp.tys.2.2;have hrise:=hCp.rise;have hplen:=r0.b.ok.pl;have hclen:=r0.b.ok.cl;have hcz:=pN n;refine uf [0,1,3,7,0,31,63,127,127,255,1023] ab [jr r0,jz 1 r1,jb r2,jz 8 r8] ⟨ao e16,cD 0 rfl,bS ba gI 1 rfl,aq fun c=>aI rfl ig (c.q 2) (by exact (c.ir 0 rfl).cell (j:=13) rfl),ao e3,eE fun c=>⟨_,_,(ck rfl rfl oJ (c.q 3) (c.q 4)),tC C.lv.v C.E.pl at_ _ ((c.ir 0 rfl).b.places).1 hrise (by omega)⟩,bD 5,bR 6,bR 6,aK 7,aK 8,av⟩ fun ac ag ae ab aa=> ?_;obtain ⟨e5,e12,e13,e14,e15,e16⟩:=aa.k6 e5 e12 e13 e14 e15 e16;have e17:=aa.V 9;have e18:=aa.V 10;replace r0:=aa.ir 0 rfl;obtain ⟨r1,r8⟩:=aa.z2 1 8;replace r2:=aa.B 2;refine wp_seq ?_;refine wp_seq (eA ab [jr r0,jz 1 r1,jb r2,jz 8 r8] ⟨ao e18,aq fun c=>ew rfl (c.q 0),av⟩ fun ac ag ae ab aa=> ?_);obtain ⟨e5,e12,e13,e14,e15,e16,e17,e18⟩:=aa.k8 e5 e12 e13 e14 e15 e16 e17 e18;have e39:=aa.V 1;replace r0:=aa.ir 0 rfl;obtain ⟨r1,r8⟩:=aa.z2 1 8;replace r2:=aa.B 2;refine wp_cond_split e39 (fun hc2=> ?_) (fun hc2=> ?_)
 · try simp only [ar,am] at hc2
   refine wp_seq (xk ab [jr r0,jz 1 r1,jb r2,jz 8 r8] ⟨aq fun c=>od (cells:=#[(aj 0),(aj 0),(.slice none 0 0)]) rfl bI ni,cp (cx:=[(aj 0),(aj 0),(.slice none 0 0)]) (off:=0) bi fun c=>⟨c.bp 2 rfl e12,c.ad ((c.p e12).trans r2.ptr) e12 rfl,(c.q 0)⟩,aq fun c=>ax rfl rfl,aq fun c=>ax rfl rfl,aq fun c=>ax rfl rfl,av⟩ fun ac ag ae ab aa=> ?_);obtain ⟨e5,e12,e16,e17,e18⟩:=aa.k5 e5 e12 e16 e17 e18;have e13:=aa.V 2;have e14:=aa.V 3;have e15:=aa.V 4;replace r0:=aa.ir 0 rfl;obtain ⟨r1,r8⟩:=aa.z2 1 8;replace r2:=aa.RB 1 e12;refine wp_ret ?_;refine rp ?_;refine lW (fn:=Tryz.f46) rfl ab.defers e12 e13 e14 e15 r2 dB bi rfl ?_;have hF_:(dI t fold s at_ n)=(none,0,3):=by unfold dI;exact vC hmay (by rw [←hCp.pl];assumption)
   rw [hF_];exact ⟨Sv.nil,rfl,ab.ext0,SlT.nil _ _,fun h=>absurd rfl h⟩
 try simp only [ar,am] at hc2
 refine wp_skip ?_;refine wp_seq ?_;have hlt_:=uD (by assumption:mO C.E.pl at_=true);refine aY ?_;refine bV 4 (by kernel_rfl) ?_;refine og [_,_,_,AM _ 0 45 C none (fun b:Sv × Ps=>b.2) ((cn C.E (bH C.E C.top) C.m C.E.pl.length (plcF C.E.pl at_) ((clampF n),false)).2.1) ((cn C.E (bH C.E C.top) C.m C.E.pl.length (plcF C.E.pl at_) ((clampF n),false)).2.2) 0 (fun b:Sv × Ps=> .tuple #[(.agg #[aj (aM (cn C.E (bH C.E C.top) C.m C.E.pl.length (plcF C.E.pl at_) ((clampF n),false)).1).1,aj (aM (cn C.E (bH C.E C.top) C.m C.E.pl.length (plcF C.E.pl at_) ((clampF n),false)).1).2,b.1.v]),aE (cn C.E (bH C.E C.top) C.m C.E.pl.length (plcF C.E.pl at_) ((clampF n),false)).1.isSome]) (fun _=>True) (fun b:Sv × Ps=>fb cF (Gn aW w) b.1.v (bJ (cn C.E (bH C.E C.top) C.m C.E.pl.length (plcF C.E.pl at_) ((clampF n),false)).1))] [0,0,0,7] ab [jr r0,jz 1 r1,jb r2,jz 8 r8] ⟨ao e5,ao e16,ao e17,ye (pf:=fun b:Sv × Ps=>b.2) (f:=fun b:Sv × Ps=> .tuple #[(.agg #[aj (aM (cn C.E (bH C.E C.top) C.m C.E.pl.length (plcF C.E.pl at_) ((clampF n),false)).1).1,aj (aM (cn C.E (bH C.E C.top) C.m C.E.pl.length (plcF C.E.pl at_) ((clampF n),false)).1).2,b.1.v]),aE (cn C.E (bH C.E C.top) C.m C.E.pl.length (plcF C.E.pl at_) ((clampF n),false)).1.isSome]) (Ψ:=fun _=>True) (Φ:=fun b:Sv × Ps=>fb cF (Gn aW w) b.1.v (bJ (cn C.E (bH C.E C.top) C.m C.E.pl.length (plcF C.E.pl at_) ((clampF n),false)).1)) fun {_ a_ _ _} c=>⟨_,_,(ck rfl (c.q 0) qL (c.q 1) (c.q 2)),(yY C (plcF C.E.pl at_) (List.replicate C.m ((-1:Int),(-1:Int))) (clampF n) false 0 _ (c.ir 0 rfl).dz ((c.ir 0 rfl).fz (c.iz 1 rfl)) hok hit (by omega) (by omega)).mono (fun e w' ⟨b_,he_,hx_,hr_,hs_,hn_⟩=>⟨b_,he_,hx_.mono (fun g _ hg=>(c.ir 0 rfl).td g hg),hr_.back (c.ir 0 rfl) hx_ (fun g hg=>lC g hg) (kk hx_.size),av,c.sns ab hx_.size ⟨hs_,hn_⟩⟩)⟩,av⟩ fun ac ag ae ab aa=> ?_;obtain ⟨e12,e13,e14,e15,e16,e18⟩:=aa.k6 e12 e13 e14 e15 e16 e18;obtain ⟨⟨mv1_,psmv1_⟩,e45,hro9,-,hz9⟩:=aa.zr 3 rfl;have e45:be ac 45=(.tuple #[(.agg #[(aj ((aM (cn C.E (bH C.E C.top) C.m C.E.pl.length (plcF C.E.pl at_) ((clampF n),false)).1).1)),(aj ((aM (cn C.E (bH C.E C.top) C.m C.E.pl.length (plcF C.E.pl at_) ((clampF n),false)).1).2)),mv1_.v]),(aE ((cn C.E (bH C.E C.top) C.m C.E.pl.length (plcF C.E.pl at_) ((clampF n),false)).1.isSome))]):=e45;replace r0:=hro9;obtain ⟨r1,r8⟩:=aa.z2 1 8;replace r2:=aa.B 2;have r3:=hz9;refine bW ?_;refine og [_,_,_,box _ _ 4 19 [(aj 0),(aj 0),(.slice none 0 0)],_,_] [0,1,3,7,15,31] ab [jr r0,jz 1 r1,jb r2,jz 3 r3,jz 8 r8] ⟨ao e45,bR 0,bR 0,bO rfl rfl rfl rfl bI rfl,ey (cx:=[(aj ((aM (cn C.E (bH C.E C.top) C.m C.E.pl.length (plcF C.E.pl at_) ((clampF n),false)).1).1)),(aj ((aM (cn C.E (bH C.E C.top) C.m C.E.pl.length (plcF C.E.pl at_) ((clampF n),false)).1).2)),mv1_.v]) (off:=0) rfl bi fun c=>⟨c.rb 3 rfl,(c.rb 3 rfl).ptr,(c.q 1)⟩,aK 2,av⟩ fun ac ag ae ab aa=> ?_;obtain ⟨b10x19,e19⟩:=gx ac 19;obtain ⟨e12,e13,e14,e15,e16⟩:=aa.k5 e12 e13 e14 e15 e16;have e18:=aa.V 5;replace r0:=aa.ir 0 rfl;obtain ⟨r1,r3⟩:=aa.z2 1 3;replace r2:=aa.B 2;have r4:=aa.rb 4 e19 rfl;replace r8:=aa.z1 8;refine wp_seq ?_;refine wp_seq (xi ab [jr r0,jz 1 r1,jb r2,jz 3 r3,jb r4,jz 8 r8] ⟨ao e16,cD 0 rfl,bS ba cj 1 rfl,aq fun c=>aI rfl dS (c.q 2) (by exact (c.ir 0 rfl).cell (j:=16) rfl),av⟩ fun ac ag ae ab aa=> ?_);obtain ⟨e12,e13,e14,e15,e16,e18,e19⟩:=aa.k7 e12 e13 e14 e15 e16 e18 e19;have e51:=aa.V 3;replace r0:=aa.ir 0 rfl;obtain ⟨r1,r3,r8⟩:=aa.z3 1 3 8;replace r2:=aa.B 2;replace r4:=aa.B 4;refine wp_cond_split e51 (fun hc3=> ?_) (fun hc3=> ?_)
 · skip;refine wp_seq (xk ab [jr r0,jz 1 r1,jb r2,jz 3 r3,jb r4,jz 8 r8] ⟨aq fun c=>od (cells:=#[(aj 0),(aj 0),(.slice none 0 0)]) rfl bI ni,cp (cx:=[(aj 0),(aj 0),(.slice none 0 0)]) (off:=0) bi fun c=>⟨c.bp 2 rfl e12,c.ad ((c.p e12).trans r2.ptr) e12 rfl,(c.q 0)⟩,aq fun c=>ax rfl rfl,aq fun c=>ax rfl rfl,aq fun c=>ax rfl rfl,av⟩ fun ac ag ae ab aa=> ?_);obtain ⟨e12,e16,e18,e19⟩:=aa.k4 e12 e16 e18 e19;have e13:=aa.V 2;have e14:=aa.V 3;have e15:=aa.V 4;replace r0:=aa.ir 0 rfl;obtain ⟨r1,r3,r8⟩:=aa.z3 1 3 8;replace r2:=aa.RB 1 e12;replace r4:=aa.B 4;refine wp_ret ?_;refine rp ?_;refine lW (fn:=Tryz.f46) rfl ab.defers e12 e13 e14 e15 r2 dB bi rfl ?_;have hF_:(dI t fold s at_ n)=(none,0,9):=by unfold dI;rw [←hCp.fnd _,←hCp.pl];exact km hmay (by assumption) (by assumption)
   rw [hF_];exact ⟨Sv.nil,rfl,ab.ext0,SlT.nil _ _,fun h=>absurd rfl h⟩
 skip;refine wp_skip ?_;refine wp_seq (mG [0,0,2,6,14,0,1,95,255,511] ab [jr r0,jz 1 r1,jb r2,jz 3 r3,jb r4,jz 8 r8] ⟨aq fun c=>dY rfl dB bi ((c.p e19).trans r4.ptr) (c.B 4),ao e16,cD 1 rfl,bS ba aA 2 rfl,aq fun c=>aI rfl aN (c.q 3) (by exact (c.ir 0 rfl).cell (j:=15) rfl),ao e18,cp (cx:=[(aj ((aM (cn C.E (bH C.E C.top) C.m C.E.pl.length (plcF C.E.pl at_) ((clampF n),false)).1).1)),(aj ((aM (cn C.E (bH C.E C.top) C.m C.E.pl.length (plcF C.E.pl at_) ((clampF n),false)).1).2)),mv1_.v]) (off:=0) bi fun c=>⟨c.bp 2 rfl e12,c.ad ((c.p e12).trans r2.ptr) e12 rfl,(c.q 0)⟩,aK 4,aK 5,aq fun c=>ax rfl rfl,av⟩ fun ac ag ae ab aa=> ?_);replace e12:=aa.k1 e12;have e13:=aa.V 7;have e14:=aa.V 8;have e15:=aa.V 9;replace r0:=aa.ir 0 rfl;obtain ⟨r1,r3,r8⟩:=aa.z3 1 3 8;replace r2:=aa.RB 6 e12;refine wp_ret ?_;refine rp ?_;refine lW (fn:=Tryz.f46) rfl ab.defers e12 e13 e14 e15 r2 dB bi rfl ?_;have hF_:(dI t fold s at_ n)=((cn C.E (bH C.E C.top) C.m C.E.pl.length (plcF C.E.pl at_) (clampF n,false)).1,((cn C.E (bH C.E C.top) C.m C.E.pl.length (plcF C.E.pl at_) (clampF n,false)).2.1:Int),0):=by unfold dI;rw [←hCp.fnd _,←hCp.pl];exact fm hmay (by assumption) (by assumption)
 rw [hF_];exact ⟨mv1_,rfl,ab.ext0,r3.1,fun hn=>(r3.2 hn).2.resolve_left (fun h=>h.elim)⟩
end
section
open Go.RowKit
open Srt
set_option maxRecDepth 100000 in
theorem pO (F:bj) (t:Tr) (fold:Bool) (s:ByteArray) (at_ n:Int) (w:World) (hT:TrT F w t) (hP:fc t≤1000000) (hs:s.size≤900000):Calls Tryz.prog 23 #[(ta t),(aE fold),(bc s),(aj at_),(aj n)] w (fun e w'=>∃mv:Sv,e= .returned (.tuple #[(.agg #[aj (aM (dI t fold s at_ n).1).1,aj (aM (dI t fold s at_ n).1).2,mv.v]),aj (dI t fold s at_ n).2.1,aE (dI t fold s at_ n).1.isSome,aj (dI t fold s at_ n).2.2])∧Ext aW w w'∧SlT cF w' mv.v (bJ (dI t fold s at_ n).1)∧(bJ (dI t fold s at_ n).1≠ []→w.heap.size≤(ee mv.v).block)):=by
 refine enter (n:=24) Tryz.func23 rfl rfl (aw rfl) ?_;intro a0 τ0 ha st0;have e0:be a0 0=(ta t):=ha 0 _ rfl;have e1:be a0 1=(aE fold):=ha 1 _ rfl;have e2:be a0 2=(bc s):=ha 2 _ rfl;have e3:be a0 3=(aj at_):=ha 3 _ rfl;have e4:be a0 4=(aj n):=ha 4 _ rfl;clear ha;have r8:Fz (gT (Gn F w) t) τ0 w:=TrT.inz hT st0;refine wp_seq (rg [box _ _ 0 5 (tc t),box _ _ 1 10 [(aj 0),(aj 0),(.slice none 0 0)],_,_,_] [0,0,0,4,12] st0 [jz 8 r8] ⟨hH (v:=(ta t)) rfl rfl rfl rfl rfl (fun _ _ _ _ c=>(c.p e0)),bO rfl rfl rfl rfl bI rfl,aq fun c=>ax rfl rfl,aq fun c=>ax rfl rfl,aq fun c=>ax rfl rfl,av⟩ fun ac ag ae ab aa=> ?_);obtain ⟨b1x5,e5⟩:=gx ac 5;obtain ⟨b1x10,e10⟩:=gx ac 10;obtain ⟨e1,e2,e3,e4⟩:=aa.k4 e1 e2 e3 e4;have e11:=aa.V 2;have e12:=aa.V 3;have e13:=aa.V 4;have r0:=aa.rb 0 e5 rfl;have r1:=aa.rb 1 e10 rfl;replace r8:=aa.z1 8;refine wp_seq ?_;refine aY ?_;refine bV 6 (by kernel_rfl) ?_;refine og [_,_,_,_,_,gE _ 19 (fun b:Sv=> .tuple #[(.agg #[aj (aM (dI t fold s at_ n).1).1,aj (aM (dI t fold s at_ n).1).2,b.v]),aj (dI t fold s at_ n).2.1,aE (dI t fold s at_ n).1.isSome,aj (dI t fold s at_ n).2.2]) (fun _=>True) (fun b:Sv=>fb cF (Gn aW w) b.v (bJ (dI t fold s at_ n).1))] [0,0,0,0,0,31] ab [jb r0,jb r1,jz 8 r8] ⟨aq fun c=>dY rfl az ak ((c.p e5).trans r0.ptr) (c.B 0),ao e1,ao e2,ao e3,ao e4,eT (f:=fun b:Sv=> .tuple #[(.agg #[aj (aM (dI t fold s at_ n).1).1,aj (aM (dI t fold s at_ n).1).2,b.v]),aj (dI t fold s at_ n).2.1,aE (dI t fold s at_ n).1.isSome,aj (dI t fold s at_ n).2.2]) (Ψ:=fun _=>True) (Φ:=fun b:Sv=>fb cF (Gn aW w) b.v (bJ (dI t fold s at_ n).1)) fun {_ a_ _ _} c=>⟨_,_,(vD rfl rfl qK (c.q 0) (c.q 1) (c.q 2) (c.q 3) (c.q 4) rfl),(tL _ t fold s at_ n _ (c.iz 8 rfl) (by omega) (by omega)).mono (fun e w' ⟨b_,he_,hx_,hs_,hn_⟩=>⟨b_,he_,hx_,av,c.sns ab hx_.size ⟨hs_,hn_⟩⟩)⟩,av⟩ fun ac ag ae ab aa=> ?_;obtain ⟨e10,e11,e12,e13⟩:=aa.k4 e10 e11 e12 e13;obtain ⟨mv1_,e19,-,hz2⟩:=aa.zd 5 rfl;have e19:be ac 19=(.tuple #[(.agg #[(aj ((aM (dI t fold s at_ n).1).1)),(aj ((aM (dI t fold s at_ n).1).2)),mv1_.v]),(aj ((dI t fold s at_ n).2.1)),(aE ((dI t fold s at_ n).1.isSome)),(aj ((dI t fold s at_ n).2.2))]):=e19;replace r1:=aa.B 1;replace r8:=aa.z1 8;have r0:=hz2;refine bW ?_;refine og [_,_,_,_,_,_,_,_] [0,1,3,7,15,31,63,127] ab [jz 0 r0,jb r1,jz 8 r8] ⟨jG e19,jG e19,jG e19,jG e19,cp (cx:=[(aj ((aM (dI t fold s at_ n).1).1)),(aj ((aM (dI t fold s at_ n).1).2)),mv1_.v]) (off:=0) bi fun c=>⟨c.bp 1 rfl e10,c.ad ((c.p e10).trans r1.ptr) e10 rfl,(c.q 0)⟩,aK 1,aK 2,aK 3,av⟩ fun ac ag ae ab aa=> ?_;replace e10:=aa.k1 e10;have e11:=aa.V 5;have e12:=aa.V 6;have e13:=aa.V 7;obtain ⟨r0,r8⟩:=aa.z2 0 8;replace r1:=aa.RB 4 e10;refine wp_ret ?_;refine rp ?_;refine lW (fn:=Tryz.f23) rfl ab.defers e10 e11 e12 e13 r1 dB bi rfl ?_;exact ⟨mv1_,rfl,ab.ext0,r0.1,fun hn=>(r0.2 hn).2.resolve_left (fun h=>h.elim)⟩
end
section
open Go.RowKit Srt
section
variable {E:Env} {t:Tr} {g:Nat}
theorem iX (h:∀q ∈ t.kids,∀g,RP (cM E q g)):∀(ts:List Tr) (g:Nat),(∀q ∈ ts,q ∈ t.kids)→∀r ∈ dy E ts g,RP r
  | [], _, _, r, hr => by simp [dy] at hr
  | u :: ts, g, hm, r, hr => by
    rw [dy] at hr;rcases List.mem_cons.1 hr with rfl | hr
    · exact h u (hm u (by simp)) g
    · exact iX h ts _ (fun x hx=>hm x (by simp [hx])) r hr
theorem kc (E:Env) (t:Tr):∀g,RP (cM E t g):=by
  induction t using Tr.ind with
  | h t ih =>
    intro g;rw [eO];exact qq (iX ih t.kids _ fun _ h=>h)
variable {r:fe} {lo n:Nat} {mn mx:Int} {lz:Bool} {gas times k:Nat} {K:cQ} {ps:Ps} {fu:Nat}
end
end
section
open Go.RowKit Srt
theorem nu {φ:Fl} (h:φ.2=false):φ=(φ.1,false):=by obtain ⟨a,b⟩:=φ;cases h;rfl
theorem jp (E:Env) (t:Tr) (lo n:Nat) (l:List fe) (k:Nat) (K:cQ) (ps:Ps) (f:Nat):im E t lo n l k K ps (f,false)=if t.k=0 then ge l k K ps (f,false) else if t.k=1 then fv l k K ps (f,false) else if t.k=7 then ea (jh l) lo n t.mn t.mx t.lz (f+1) 0 k K ps (f,false) else if f=0 then (none,(0,true)) else ji E t lo l k K ps (f - 1,false):=rfl
theorem KD.kp {K:cQ} (h:KD K) (B:Nat):KP B K:=fun to ps fu _=>h to ps fu
theorem kY {E:Env} {t:Tr} {g:Nat}:qu (cM E t g):=fun k K ps fu=>by
  rw [eO];unfold im;rw [if_pos rfl]
theorem fS (E:Env) (t:Tr) (g:Nat):jZ (cM E t g):=⟨kc E t g,kY⟩
theorem jZ.bad {r:fe} (h:jZ r) {d k:Nat} {K:cQ} (hK:KD K) {ps:Ps} {φ:Fl} (hb:mr d φ):mr d (r k K ps φ).2:=by
  obtain ⟨f,o⟩:=φ;cases o with
  | true => rw [h.2]; exact .inl rfl
  | false =>
    rcases hb with hb | hb
    · cases hb
    · exact .inr (dE (h.1 k (f+1) K (hK.kp _) ps f false (bT _)) hb)
theorem gZ:∀(l:List fe),(∀r ∈ l,jZ r)→qu (fv l)
  | [], _ => fun k K ps fu => rfl
  | r :: l, h => fun k K ps fu => by
    rw [fv,(h r (by simp)).2,if_neg (by simp)];exact gZ l (fun x hx=>h x (by simp [hx])) k K ps fu
theorem ox {l:List fe} (h:∀r ∈ l,jZ r):jZ (fv l):=⟨fun k B K hK ps fu ou hf=>rf l (fun r hr=>(h r hr).1) k B K hK ps fu ou hf,gZ l h⟩
theorem kT {l:List fe} (h:∀r ∈ l,jZ r) {K:cQ} (hK:KD K):KD (fun to ps φ=>ge l to K ps φ):=fun to ps fu=>qo l (fun r hr=>(h r hr).1) to (fu+1) K (hK.kp _) ps fu (bT _)
theorem fD {r:fe} (hr:RP r) {lo n:Nat} {mn mx:Int} {lz:Bool} {g times k:Nat} {K:cQ} (hK:KD K):KD (eB r lo n mn mx lz g times k K):=fun to ps fu=>lF hr (hK.kp (fu+1)) to ps fu (bT _)
theorem iE {E:Env} {lo k:Nat} {K:cQ} (hK:KD K):KD (ia E lo k K):=fun to ps fu=>hK to _ fu
theorem mt:KD K0:=fun to ps fu=>bz _
theorem gp {mn:Int} {lz:Bool} {times k d:Nat} {K:cQ} (hK:KD K) {ps:Ps} {φ:Fl} (hb:mr d φ):mr d (em mn lz times k K ps φ).2:=by
  obtain ⟨f,o⟩:=φ;unfold em;split
  · rename_i h;cases o with
    | true => simp at h
    | false =>
      rcases hb with hb | hb
      · cases hb
      · exact .inr (dE (hK k ps f) hb)
  · exact hb
theorem gq {mn:Int} {lz:Bool} {times k:Nat} {K:cQ} {ps:Ps} {fu:Nat}:em mn lz times k K ps (fu,true)=(none,(fu,true)):=by
  unfold em;rw [if_neg (by simp)]
theorem ln {r:fe} (h:jZ r) {lo n:Nat} {mn mx:Int} {lz:Bool} {g times k d:Nat} {K:cQ} (hK:KD K) {ps:Ps} {φ:Fl} (hb:mr d φ):mr d (dW r lo n mn mx lz g times k K ps φ).2:=by
  have h1:mr d (fV r lo n mn mx lz g times k K ps φ).2:=h.bad (fD h.1 hK) hb;unfold dW;split
  · split
    · exact h1
    · exact gp hK h1
  · exact gp hK hb
theorem lp {r:fe} (h:qu r) {lo n:Nat} {mn mx:Int} {lz:Bool} {g times k:Nat} {K:cQ} {ps:Ps} {fu:Nat}:dW r lo n mn mx lz g times k K ps (fu,true)=(none,(fu,true)):=by
  have e:fV r lo n mn mx lz g times k K ps (fu,true)=(none,(fu,true)):=h _ _ _ _;unfold dW;rw [e];split
  · rw [if_neg (by simp)];exact gq
  · exact gq
theorem Sm.L.ok1 {S:Sm} {l1 l2:List fe} (h:S.L l1 l2):(∀r ∈ l1,jZ r)∧∀r ∈ l2,jZ r:=by
  induction h with
  | nil => simp
  | cons a b c d ih =>
    constructor
    · intro r hr;rcases List.mem_cons.1 hr with rfl | hr
      · exact a
      · exact ih.1 r hr
    · intro r hr;rcases List.mem_cons.1 hr with rfl | hr
      · exact b
      · exact ih.2 r hr
theorem mu {S:Sm} {l1 l2:List fe} (h:S.L l1 l2):S.G 0 (ge l1) (ge l2):=by
  induction h with
  | nil => exact fun k B K1 K2 h1 h2 hK p q fu hp hf => hK k p q fu hp hf
  | cons a b c d ih => exact fun k B K1 K2 h1 h2 hK p q fu hp hf => c k B _ _ (kT d.ok1.1 h1) (kT d.ok1.2 h2) (fun to p q fu hp hf => ih to B K1 K2 h1 h2 hK p q fu hp hf) p q fu hp hf
theorem jD {S:Sm} {x y:Rs} {f1 f2:Fl→Rs} (h:S.R x y) (h1:∀φ,mr S.d φ→mr S.d (f1 φ).2) (h2:∀fu,f2 (fu,true)=(none,(fu,true))) (hn:y.2.2=false→x.2=(y.2.1+S.d,false)→S.R (f1 x.2) (f2 y.2)):
    S.R (if x.1.isSome=true then x else f1 x.2) (if y.1.isSome=true then y else f2 y.2):=by
  rcases h with ⟨a,b⟩ | ⟨a,b,c,d⟩ | ⟨a,b,c⟩ | ⟨a,b⟩
  · refine .inl ⟨?_,?_⟩
    · split
      · exact a
      · rw [show y.2=(y.2.1,true) from by rw [←a],h2]
    · split
      · exact b
      · exact h1 _ b
  · rw [if_neg (by rw [a];decide),if_neg (by rw [b];decide)];exact hn c d
  · rw [if_pos a,if_pos b];exact .inr (.inr (.inl ⟨a,b,c⟩))
  · rw [if_pos a];exact .inr (.inr (.inr ⟨a,b⟩))
theorem mw {S:Sm} {l1 l2:List fe} (h:S.L l1 l2):S.G 0 (fv l1) (fv l2):=by
  induction h with
  | nil => exact fun k B K1 K2 h1 h2 hK p q fu hp hf => .none
  | @cons r1 r2 l1 l2 a b c d ih =>
    intro k B K1 K2 h1 h2 hK p q fu hp hf;rw [fv,fv];refine jD (f1:=fv l1 k K1 p) (f2:=fv l2 k K2 q) (c k B K1 K2 h1 h2 hK p q fu hp hf) (fun φ hb=>(ox d.ok1.1).bad h1 hb) (fun fu=>gZ l2 d.ok1.2 k K2 q fu) fun e1 e2=> ?_;have hle:=b.1 k (fu+1) K2 (h2.kp _) q fu false (bT _);rw [e2,nu e1];exact ih k B K1 K2 h1 h2 hK p q _ hp (by omega)
theorem gV (r:fe) (lo n:Nat) (mn mx:Int) (lz:Bool) (g times k:Nat) (K:cQ) (ps:Ps) (φ:Fl):ea r lo n mn mx lz (g+1) times k K ps φ=if (eD mn lz times k K ps φ).1.isSome=true then eD mn lz times k K ps φ else dW r lo n mn mx lz g times k K ps (eD mn lz times k K ps φ).2:=rfl
theorem lq {S:Sm} {r1 r2:fe} (ok1:jZ r1) (ok2:jZ r2) (hG:S.G 1 r1 r2) {lo m:Nat} (hm:lo+m≤S.n) {mn mx:Int} {lz:Bool} {g1 g2 times k B:Nat} {K1 K2:cQ} (h1:KD K1) (h2:KD K2) (hK:S.K B K1 K2) {p q:Ps} {fu:Nat} (hp:S.P p q) (hf:fu < B)
    (ih:S.K fu (eB r1 (lo+S.A.length) m mn mx lz g1 times k K1) (eB r2 lo m mn mx lz g2 times k K2)):
    S.R (dW r1 (lo+S.A.length) m mn mx lz g1 times k K1 p (fu+S.d,false)) (dW r2 lo m mn mx lz g2 times k K2 q (fu,false)):=by
  have rest:∀{f:Nat},f < B→S.R (em mn lz times k K1 p (f+S.d,false)) (em mn lz times k K2 q (f,false)):=fun {f} hf=>by
    unfold em;by_cases hc:((decide (mn≤(times:Int))&& !lz)&& !false)=true
    · rw [if_pos hc,if_pos hc];exact hK k p q f hp hf
    · rw [if_neg hc,if_neg hc];exact .none
  unfold dW;split
  · have hx:S.R (fV r1 (lo+S.A.length) m mn mx lz g1 times k K1 p (fu+S.d,false)) (fV r2 lo m mn mx lz g2 times k K2 q (fu,false)):=hG k fu _ _ (fD ok1.1 h1) (fD ok2.1 h2) ih _ _ fu (hp.noneR hm) (bT _);refine jD (f1:=em mn lz times k K1 p) (f2:=em mn lz times k K2 q) hx (fun φ hb=>gp h1 hb) (fun fu=>gq) fun e1 e2=> ?_;have hle:(fV r2 lo m mn mx lz g2 times k K2 q (fu,false)).2.1≤fu:=ok2.1 k (fu+1) _ ((fD ok2.1 h2).kp _) _ fu false (bT _);rw [e2,nu e1];exact rest (by omega)
  · exact rest hf
theorem gW {S:Sm} {r1 r2:fe} (ok1:jZ r1) (ok2:jZ r2) (hG:S.G 1 r1 r2) {lo m:Nat} (hm:lo+m≤S.n) {mn mx:Int} {lz:Bool}:∀(g2 g1 times k B:Nat) (K1 K2:cQ),KD K1→KD K2→S.K B K1 K2→∀(p q:Ps) (fu:Nat),S.P p q→fu < B→fu+S.d < g1→fu < g2→
    S.R (ea r1 (lo+S.A.length) m mn mx lz g1 times k K1 p (fu+S.d,false)) (ea r2 lo m mn mx lz g2 times k K2 q (fu,false))
  | 0, _, _, _, _, _, _, _, _, _, _, _, _, _, _, _, h => by omega
  | _ + 1, 0, _, _, _, _, _, _, _, _, _, _, _, _, _, h, _ => by omega
  | g2 + 1, g1 + 1, times, k, B, K1, K2, h1, h2, hK, p, q, fu, hp, hf, hg1, hg2 => by
    rw [gV,gV];have hx:S.R (eD mn lz times k K1 p (fu+S.d,false)) (eD mn lz times k K2 q (fu,false)):=by
      unfold eD;split
      · exact hK k p q fu hp hf
      · exact .none
    refine jD (f1:=dW r1 (lo+S.A.length) m mn mx lz g1 times k K1 p) (f2:=dW r2 lo m mn mx lz g2 times k K2 q) hx (fun φ hb=>ln ok1 h1 hb) (fun fu=>lp ok2.2) fun e1 e2=> ?_;have hle:(eD mn lz times k K2 q (fu,false)).2.1≤fu:=qp (h2.kp (fu+1)) (bT _);rw [e2,nu e1];refine lq ok1 ok2 hG hm h1 h2 hK hp (by omega) fun to p q f hp hf=> ?_;unfold eB;split
    · exact gW ok1 ok2 hG hm g2 g1 (times+1) to B K1 K2 h1 h2 hK p q f hp (by omega) (by omega) (by omega)
    · exact .none
theorem iY {S:Sm} {E:Env}:∀(l:List Tr) (g:Nat),(∀t ∈ l,∀g,g+grpN t≤S.n→S.G (if lk t.k then 1 else 0) (cM E t (g+S.A.length)) (cM E t g))→g+grpsN l≤S.n→S.L (dy E l (g+S.A.length)) (dy E l g)
  | [], _, _, _ => .nil
  | t :: l, g, h, hn => by
    rw [dy,dy,show g+S.A.length+grpN t=g+grpN t+S.A.length by omega];have hs:grpsN (t::l)=grpN t+grpsN l:=rfl;exact .cons (fS _ _ _) (fS _ _ _) (h t (by simp) g (by omega)).zero (iY l (g+grpN t) (fun x hx=>h x (by simp [hx])) (by omega))
theorem iq {t k:Tr} (h:fq t=true) (hk:k ∈ t.kids):fq k=true:=by
  rw [gY,au,cI] at h;exact h.1 k hk
theorem jE {t:Tr} (h:fq t=true):(t.k=5∨t.k=6∨t.k=7→t.kids.length=1)∧(t.k=7→lk (nth t.kids 0).k=true):=by
  have ha:=h;rw [gY,au,cI] at ha;have hfl:=ha.2;unfold dZ at hfl;refine ⟨fun hk=> ?_,fun h7=> ?_⟩
  · rcases hk with h | h | h
    · rw [if_neg (by omega),if_neg (by omega),if_neg (by omega),if_neg (by omega),if_neg (by omega),if_pos (by omega)] at hfl;simp at hfl;omega
    · rw [if_neg (by omega),if_neg (by omega),if_neg (by omega),if_neg (by omega),if_neg (by omega),if_pos (by omega)] at hfl;simp at hfl;omega
    · rw [if_neg (by omega),if_neg (by omega),if_pos (by omega)] at hfl;simp at hfl;omega
  · rw [if_neg (by omega),if_neg (by omega),if_pos h7] at hfl;simp only [au,aR,ai] at hfl;have hr:=hfl.1.1.1.2;unfold qg at hr;unfold lk;simp only [aR,ai] at hr;simp;omega
theorem jV {l:List Tr} (h:l.length=1):l=[nth l 0]:=by
  match l,h with
  | [x], _ => rfl
theorem lL {S:Sm} {E:Env} (t:Tr):fq t=true→∀g,g+grpN t≤S.n→S.G (if lk t.k then 1 else 0) (cM E t (g+S.A.length)) (cM E t g):=by
  induction t using Tr.ind with
  | h t ih =>
    intro ha g hg;have hgn:=jn t;have hkg:fk t (g+S.A.length)=fk t g+S.A.length:=by unfold fk;split <;> omega
    have hkn:fk t g+grpsN t.kids≤S.n:=by unfold fk;split <;> rename_i h5 <;> simp only [h5] at hgn <;> simp at hgn <;> omega
    have hl:=iY (E:=E) t.kids (fk t g) (fun k hk g hg=>ih k hk (iq ha hk) g hg) hkn;obtain ⟨hf1,hf7⟩:=jE ha;intro k B K1 K2 h1 h2 hK p q fu hp hf;rw [eO,eO,hkg,jp,jp];by_cases k0:t.k=0
    · rw [if_pos k0,if_pos k0];rw [k0,if_neg (by decide)] at hf;exact mu hl k B K1 K2 h1 h2 hK p q fu hp hf
    rw [if_neg k0,if_neg k0];by_cases k1:t.k=1
    · rw [if_pos k1,if_pos k1];rw [k1,if_neg (by decide)] at hf;exact mw hl k B K1 K2 h1 h2 hK p q fu hp hf
    rw [if_neg k1,if_neg k1];by_cases k7:t.k=7
    · rw [if_pos k7,if_pos k7];rw [k7,if_neg (by decide)] at hf;have hk1:=jV (hf1 (by omega));have hm:nth t.kids 0 ∈ t.kids:=by rw [hk1];simp [nth]
      have hkg7:fk t g=g:=by unfold fk;rw [if_neg (by omega)]
      have hgs:grpsN t.kids=grpN (nth t.kids 0):=by rw [hk1];simp [grpsN,nth]
      have hG:=ih _ hm (iq ha hm) g (by omega);rw [hf7 k7,if_pos rfl] at hG;have e1:∀g',jh (dy E t.kids g')=cM E (nth t.kids 0) g':=fun g'=>by rw [hk1];rfl
      rw [e1,e1,hkg7];exact gW (fS _ _ _) (fS _ _ _) hG (by omega) (fu+1) (fu+S.d+1) 0 k B K1 K2 h1 h2 hK p q fu hp hf (by omega) (by omega)
    rw [if_neg k7,if_neg k7];by_cases f0:fu=0
    · subst f0;rw [if_pos (show (0:Nat)=0 from rfl)];refine .inl ⟨rfl,?_⟩;split
      · exact .inl rfl
      · rename_i hd;refine .inr (dE (oT (fun r hr=>(hl.ok1.1 r hr).1) (h1.kp (0+S.d)) (by omega)) (by omega))
    rw [if_neg (show ¬fu+S.d=0 by omega),if_neg f0];have hfb:fu - 1 < B:=by split at hf <;> omega
    rw [show fu+S.d - 1=fu - 1+S.d by omega];unfold ji;have head:∀{K1 K2:cQ},t.k=5∨t.k=6→KD K1→KD K2→S.K B K1 K2→S.R (jh (dy E t.kids (fk t g+S.A.length)) k K1 p (fu - 1+S.d,false)) (jh (dy E t.kids (fk t g)) k K2 q (fu - 1,false)):=fun {K1 K2} h56 h1 h2 hK=>by
      have hk1:=jV (hf1 (by omega));rw [hk1] at hl ⊢;cases hl with
      | cons a b c d => exact c k B K1 K2 h1 h2 hK p q _ hp hfb
    by_cases k5:t.k=5
    · rw [if_pos k5,if_pos k5];simp only [k5,if_pos] at hgn;exact head (.inl k5) (iE h1) (iE h2) fun to p q f hp hf=>hK to _ _ f (hp.set (by omega) _) hf
    rw [if_neg k5,if_neg k5];by_cases k6:t.k=6
    · rw [if_pos k6,if_pos k6];exact head (.inr k6) h1 h2 hK
    rw [if_neg k6,if_neg k6];by_cases k2:t.k=2∨t.k=3∨t.k=4
    · rw [if_pos k2,if_pos k2];split
      · exact hK _ p q _ hp hfb
      · exact .none
    rw [if_neg k2,if_neg k2];split
    · exact hK _ p q _ hp hfb
    · exact .none
end
section
open Go.RowKit Srt
def Fu {α:Type} (d:Nat) (x y:α × Fl):Prop:=(y.2.2=true∧mr d x.2)∨(x.1=y.1∧x.2=(y.2.1+d,false)∧y.2.2=false)
def Iw (d n:Nat):Sm:=⟨d,[],[],n,fun x y=>x.1=y.1∧x.2=(y.2.1+d,false)∧y.2.2=false,fun _=>False⟩
theorem Cj (d n B:Nat):(Iw d n).K B K0 K0:=fun to p q fu hp hf=>by
  obtain ⟨rfl,_⟩:=hp;refine .inr (.inr (.inl ⟨rfl,rfl,?_,rfl,rfl⟩));show some (to,[]++q++ [])=some (to,q);simp
abbrev nP (n:Nat):Ps:=List.replicate n ((-1:Int),(-1:Int))
theorem zf (E:Env) {t:Tr} (ha:fq t=true) (d k fu:Nat):Fu d (eS (cM E t 0) (grpN t) k (fu+d,false)) (eS (cM E t 0) (grpN t) k (fu,false)):=by
  have h:=lL (S:=Iw d (grpN t)) (E:=E) t ha 0 (by show 0+grpN t≤grpN t;omega) k (fu+1) K0 K0 mt mt (Cj _ _ _) (nP (grpN t)) (nP (grpN t)) fu ⟨by simp [Iw],by simp [Iw]⟩ (by omega);rcases h with h | ⟨a,b,c,d⟩ | ⟨_,_,h⟩ | ⟨_,h⟩
  · exact .inl h
  · exact .inr ⟨a.trans b.symm,d,c⟩
  · exact .inr h
  · exact h.elim
theorem eL {E:Env} {r:fe} {m k to f:Nat} {ps:Ps} {φ:Fl} (h:eS r m k φ=(some (to,ps),(f,false))):eu E r m k φ=(some ((nth E.pl (k:Int),nth E.pl (to:Int)),ps),(f,false)):=by
  rw [oW (by rw [h];show (decide ((to:Int) < 0) || false)=false;simp),h];rfl
theorem eM {E:Env} {r:fe} {m k:Nat} {φ φ':Fl} (h:eS r m k φ=(none,φ')):eu E r m k φ=(none,φ'):=by
  rw [ph (by rw [h];rfl),h]
theorem jF (x:Rs):x.2.2=true∨(∃f,x=(none,(f,false)))∨∃to ps f,x=(some (to,ps),(f,false)):=by
  obtain ⟨o,f,u⟩:=x;cases u with
  | true => exact .inl rfl
  | false => cases o with
    | none => exact .inr (.inl ⟨f, rfl⟩)
    | some y => obtain ⟨to, ps⟩ := y; exact .inr (.inr ⟨to, ps, f, rfl⟩)
theorem uX {x:Rs} {o:Option (Nat × Ps)} {φ:Fl} (h:x.1=o) (h2:x.2=φ):x=(o,φ):=by obtain ⟨a,b⟩:=x;cases h;cases h2;rfl
theorem tI (E:Env) {t:Tr} (ha:fq t=true) (d k fu:Nat):Fu d (eu E (cM E t 0) (grpN t) k (fu+d,false)) (eu E (cM E t 0) (grpN t) k (fu,false)):=by
  rcases zf E ha d k fu with ⟨a,b⟩ | ⟨a,b,c⟩
  · exact .inl ⟨by rw [lm];exact a,by rw [lm];exact b⟩
  · rcases jF (eS (cM E t 0) (grpN t) k (fu,false)) with h | ⟨f,h⟩ | ⟨to,ps,f,h⟩
    · rw [h] at c;cases c
    · rw [h] at a b;rw [eM h,eM (uX a b)];exact .inr ⟨rfl,rfl,rfl⟩
    · rw [h] at a b;rw [eL h,eL (uX a b)];exact .inr ⟨rfl,rfl,rfl⟩
theorem EJ {E:Env} {r:fe} (hr:RP r) {d m:Nat} (n k:Nat) {φ:Fl} (hb:mr d φ):mr d (cn E r m n k φ).2:=by
  obtain ⟨f,o⟩:=φ;cases o with
  | true => rw [wT (by simp)]; exact .inl rfl
  | false =>
    rcases hb with hb | hb
    · cases hb
    · exact .inr (dE (tF hr n k f false) hb)
theorem Dy (E:Env) {t:Tr} (ha:fq t=true) (d:Nat):∀n k fu,Fu d (cn E (cM E t 0) (grpN t) n k (fu+d,false)) (cn E (cM E t 0) (grpN t) n k (fu,false))
  | 0, k, fu => .inr ⟨rfl, rfl, rfl⟩
  | n + 1, k, fu => by
    rw [cn,cn];by_cases hc:(decide ((k:Int) < (E.pl.length:Int))&& !false)=true
    · rw [if_pos hc,if_pos hc];rcases tI E ha d k fu with ⟨a,b⟩ | ⟨a,b,c⟩
      · refine .inl ⟨?_,?_⟩
        · split
          · exact a
          · rw [wT (by rw [a];simp)];exact a
        · split
          · exact b
          · exact EJ (kc E t 0) n (k+1) b
      · by_cases hs:(eu E (cM E t 0) (grpN t) k (fu,false)).1.isSome=true
        · rw [if_pos (by rw [a];exact hs),if_pos hs];exact .inr ⟨a,b,c⟩
        · rw [if_neg (by rw [a];exact hs),if_neg hs,b,nu c];exact Dy E ha d n (k+1) _
    · rw [if_neg hc,if_neg hc];exact .inr ⟨rfl,rfl,rfl⟩
theorem kZ {t:Tr} (h:(cX t 512 16).2=true):fq t=true:=by
  rw [kF] at h;unfold rd at h;simp only [au] at h;exact h.2
section
variable {t:Tr} {fold:Bool} {s:ByteArray} {k u v:Int}
end
section
variable {t:Tr} {fold:Bool} {s:ByteArray} {k u v:Int} {x y z:Mt × Int × Int}
theorem mz {n:Int} (h:PatOk (er t) n 0) (hn:n≤255):(cX t 512 16).2=true:=by
  rw [←ki,kF];unfold rd;simp only [au,ai];exact ⟨⟨by have:=h.parts;omega,by have:=h.deep;omega⟩,h.all⟩
theorem xa {α:Type} {x:α × Fl} {o:α} {b:Bool} (h:x.1=o) (h2:x.2.2=b):x=(o,(x.2.1,b)):=by obtain ⟨a,c,d⟩:=x;cases h;cases h2;rfl
end
section
variable {x z:Mt × Int × Int} {n:Nat} {g1 g2:Int}
end
end
section
open Go.RowKit Srt
theorem pk {xs:List Int} (h:xs.Pairwise (· < ·)) {i:Nat} (hi:i < xs.length):plcF xs (nth xs (i:Int))=i∧mO xs (nth xs (i:Int))=true:=by
  have hp:plcF xs (nth xs (i:Int))=i:=pK h (by omega) (fun j hj=>ll h hj hi) (fun _=>by omega);refine ⟨hp,?_⟩;unfold mO;rw [hp];simp;omega
end
section
open Go.RowKit Srt
def VQ (E:Env) (k0 to:Nat) (ps:Ps):Prop:=∀p ∈ ps,p=(-1,-1)∨∃a b:Nat,k0≤a∧a≤b∧b≤to∧p=(nth E.pl (a:Int),nth E.pl (b:Int))
theorem VQ.up {E:Env} {k0 k k':Nat} {ps:Ps} (h:VQ E k0 k ps) (hk:k≤k'):VQ E k0 k' ps:=fun p hp=>(h p hp).imp id fun ⟨a,b,h1,h2,h3,h4⟩=>⟨a,b,h1,h2,by omega,h4⟩
theorem VQ.set {E:Env} {k0 k to lo:Nat} {ps:Ps} (h:VQ E k0 to ps) (h0:k0≤k) (h1:k≤to):VQ E k0 to (ps.set lo (nth E.pl (k:Int),nth E.pl (to:Int))):=fun p hp=>by
  rcases jI hp with hp | rfl
  · exact h p hp
  · exact .inr ⟨k,to,h0,h1,bz _,rfl⟩
theorem VQ.none {E:Env} {k0 to lo n:Nat} {ps:Ps} (h:VQ E k0 to ps):VQ E k0 to (noneR ps lo n):=fun p hp=>by
  unfold noneR at hp;rcases List.mem_append.1 hp with hp | hp
  · rcases List.mem_append.1 hp with hp | hp
    · exact h p (iR hp)
    · exact .inl (iL hp)
  · exact h p (gl hp)
def KV (E:Env) (k0 k:Nat) (Q:Nat × Ps→Prop) (K:cQ):Prop:=∀(to:Nat) (ps:Ps) (φ:Fl),k≤to→to≤E.cs.length→VQ E k0 to ps→∀y,(K to ps φ).1=some y→Q y
theorem KV.up {E:Env} {k0 k k':Nat} {Q:Nat × Ps→Prop} {K:cQ} (h:KV E k0 k Q K) (hk:k≤k'):KV E k0 k' Q K:=fun to ps φ h1 h2=>h to ps φ (by omega) h2
section
variable {E:Env} {k0:Nat}
end
theorem rn {xs:List Int} (h:xs.Pairwise (· < ·)) {i j:Nat} (hij:i≤j) (hj:j < xs.length):nth xs (i:Int)≤nth xs (j:Int):=by
  rcases pS i j with hlt | hge
  · exact Int.le_of_lt (ll h hlt hj)
  · rw [show i=j by omega];exact fJ _
section
variable {t:Tr} {fold:Bool} {s:ByteArray} {k u:Int} {x:Mt × Int × Int}
theorem gX (s:ByteArray):(aO s).Pairwise (· < ·):=(oo s s.size).1
end
end
section
open Go.RowKit Srt
section
variable {E:Env} {r:fe} {m:Nat}
def Kx (E:Env) (p:Mp):Nat:=plcF E.pl p.1.2+(if p.1.1=p.1.2 then 1 else 0)
def Ch (E:Env) (r:fe) (m B:Nat):Nat→List Mp→Prop
  | _, [] => True
  | i, p :: l => (∃ f f' : Nat, f ≤ B ∧ cn E r m E.pl.length i (f, false) = (some p, (f', false))) ∧ Ch E r m B (Kx E p) l
theorem Co (hr:RP r) {B:Nat}:∀(n i f:Nat) (acc out:List Mp) (f':Nat),f≤B→pi E r m n i (f,false) acc=(out,(f',false))→∃M,out=acc++M∧Ch E r m B i M
  | 0, i, f, acc, out, f', hf, h => by
    have:acc=out:=congrArg Prod.fst h;exact ⟨[],by rw [this,eG],av⟩
  | n + 1, i, f, acc, out, f', hf, h => by
    by_cases hi:(i:Int) < (E.pl.length:Int)
    · have hle:=tF hr (E:=E) (m:=m) E.pl.length i f false;cases ho:(cn E r m E.pl.length i (f,false)).2.2 with
      | true =>
        rw [wV hi (by omega) ho] at h;have:=congrArg (fun x:List Mp × Fl=>x.2.2) h;simp only at this
        rw [ho] at this;cases this
      | false =>
        cases hs:(cn E r m E.pl.length i (f,false)).1 with
        | none =>
          rw [uE hi (by omega) ho (by rw [hs];rfl)] at h;have:acc=out:=congrArg Prod.fst h;exact ⟨[],by rw [this,eG],av⟩
        | some p =>
          have hfull:=xa hs ho;rw [rS hfull hi (by omega) rfl rfl] at h;obtain ⟨M,h1,h2⟩:=Co hr n _ _ _ _ _ (bE hle hf) h;exact ⟨p::M,by rw [h1,dq];rfl,⟨f,_,hf,hfull⟩,h2⟩
    · rw [AR hi] at h;have:acc=out:=congrArg Prod.fst h;exact ⟨[],by rw [this,eG],av⟩
theorem Hb {n i f f':Nat} {out:List Mp} (hi:(i:Int) < (E.pl.length:Int)) (hn:0 < n) (h:pi E r m n i (f,false) []=(out,(f',false))) (hr:RP r):(cn E r m E.pl.length i (f,false)).2.2=false∧(cn E r m E.pl.length i (f,false)).1=out.head? :=by
  cases ho:(cn E r m E.pl.length i (f,false)).2.2 with
  | true =>
    rw [wV hi hn ho] at h;have:=congrArg (fun x:List Mp × Fl=>x.2.2) h;simp only at this
    rw [ho] at this;cases this
  | false =>
    refine ⟨rfl,?_⟩;cases hs:(cn E r m E.pl.length i (f,false)).1 with
    | none =>
      rw [uE hi hn ho (by rw [hs];rfl)] at h;have:[]=out:=congrArg Prod.fst h;rw [←this];rfl
    | some p =>
      have hfull:=xa hs ho;have hle:=tF hr (E:=E) (m:=m) E.pl.length i f false;rw [rS hfull hi hn rfl rfl] at h;obtain ⟨M,h1,h2⟩:=Co hr (n - 1) _ _ _ _ _ (bz _) h;rw [h1];rfl
theorem Jl {B:Nat}:∀(l:List Mp) (i j:Nat),Ch E r m B i l→j+1 < l.length→(∃i0 f f':Nat,cn E r m E.pl.length i0 (f,false)=(some (nth l (j:Int)),(f',false)))∧∃f f':Nat,f≤B∧cn E r m E.pl.length (Kx E (nth l (j:Int))) (f,false)=(some (nth l ((j+1:Nat):Int)),(f',false))
  | p :: q :: l, i, 0, h, _ => by
    obtain ⟨⟨f,f',h1,h2⟩,⟨g,g',h3,h4⟩,_⟩:=h;exact ⟨⟨i,f,f',h2⟩,g,g',h3,h4⟩
  | p :: l, i, j + 1, h, hj => by
    have:=Jl l _ j h.2 (by simp at hj;omega);have e:∀k:Nat,nth (p::l) ((k+1:Nat):Int)=nth l (k:Int):=fun k=>by rw [jO,jO];simp
    rw [e j,e (j+1)];exact this
  | [p], i, 0, _, hj => by simp at hj
  | [], i, j, _, hj => by simp at hj
end
section
variable {t:Tr} {fold:Bool} {s:ByteArray} {ms:List Mv}
abbrev zq (s:ByteArray) (fold:Bool):Env:=⟨bA s,aO s,fold⟩
theorem Dz (hm:(cX t 512 16).2=true) (h0:(ie t fold s 20000).2.2=0):∃f',pi (zq s fold) (cM (zq s fold) t 0) (grpN t) ((aO s).length+1) 0 (20000,false) []=((ie t fold s 20000).1,(f',false)):=by
  have hc:clampF 20000=20000:=by decide
  unfold ie at h0 ⊢;rw [if_neg (by rw [hm];decide),hc] at h0 ⊢;split at h0
  · exact absurd h0 (by decide)
  · rename_i hn;rw [if_neg hn];refine ⟨_,Prod.ext rfl (Prod.ext rfl ?_)⟩;simpa using hn
theorem Hc (hm:(cX t 512 16).2=true) (hms:ms.map Mv.er=(ie t fold s 20000).1) (h:¬(ie t fold s 20000).2.2=0):(ie t fold s 20000).2.2=9∧ms=[]∧(ie t fold s 20000).2.1=0:=by
  unfold ie at h hms ⊢;rw [if_neg (by rw [hm];decide)] at h hms ⊢;split at h
  · rename_i ho;rw [if_pos ho] at hms ⊢;exact ⟨rfl,List.map_eq_nil_iff.1 hms,rfl⟩
  · exact absurd rfl h
theorem EK {x:Mt × Int × Int} (hm:(cX t 512 16).2=true) (hms:ms.map Mv.er=(ie t fold s 20000).1) (h0:(ie t fold s 20000).2.2=0) (hx:x=dI t fold s 0 20000):x.2.2=0∧x.1=(ms.map Mv.er).head? :=by
  obtain ⟨f',h⟩:=Dz hm h0;have hl:(aO s).length=(bA s).length+1:=lK s s.size;have hp:=pk (gX s) (i:=0) (by omega);rw [show nth (aO s) ((0:Nat):Int)=0 from mH (k:=0) (oo s s.size).2.2] at hp;obtain ⟨h1,h2⟩:=Hb (E:=zq s fold) (i:=0) (by show ((0:Nat):Int) < ((aO s).length:Int);omega) (by omega) h (kc _ t 0);have hc:clampF 20000=20000:=by decide
  unfold dI at hx;rw [hm,hp.2,hp.1,hc,fm rfl rfl h1] at hx;rw [hx,hms];exact ⟨rfl,h2⟩
theorem Hd {i:Nat} {l:List Mp} (h:ms.map Mv.er=l) (hi:i < ms.length):nth l (i:Int)=(((nth ms (i:Int)).a,(nth ms (i:Int)).b),(nth ms (i:Int)).ps):=by
  rw [←h,jO,jO];simp [List.getD,cd hi,Mv.er]
theorem He {i:Nat} (hm:(cX t 512 16).2=true) (hms:ms.map Mv.er=(ie t fold s 20000).1) (h0:(ie t fold s 20000).2.2=0) (h1:1≤i) (hi:i < ms.length):
    (nth ms ((i:Int) - 1)).b≤(nth ms (i:Int)).a∧¬(nth ms (i:Int)).a=(nth ms ((i:Int) - 1)).a∧(nth ms (i:Int)).a≤(nth ms (i:Int)).b∧
    ((nth ms ((i:Int) - 1)).a < (nth ms ((i:Int) - 1)).b→∀x:Mt × Int × Int,x=dI t fold s (nth ms ((i:Int) - 1)).b 20000→x.2.2=0∧x.1=some (((nth ms (i:Int)).a,(nth ms (i:Int)).b),(nth ms (i:Int)).ps)):=by
  obtain ⟨f',h⟩:=Dz hm h0;obtain ⟨j,rfl⟩:∃j,i=j+1:=⟨i - 1,by omega⟩;rw [show (((j+1:Nat):Int) - 1)=(j:Int) by omega];obtain ⟨M,hM,hch⟩:=Co (kc _ t 0) _ _ _ _ _ _ (bz _) h;rw [eN] at hM;have hlen:(ie t fold s 20000).1.length=ms.length:=by rw [←hms,gr]
  have hpl:(aO s).length=(bA s).length+1:=lK s s.size;have hpr:=gX s;obtain ⟨⟨i0,g,g',c1⟩,k,k',hk,c2⟩:=Jl M 0 j hch (by rw [←hM];omega);rw [←hM,Hd hms (by omega)] at c1 c2;rw [Hd hms hi] at c2;generalize nth ms (j:Int)=p at c1 c2 ⊢;generalize nth ms ((j+1:Nat):Int)=q at c2 ⊢;obtain ⟨a,b,b1,b2,b3,b4⟩:=rT (tU (zq s fold) t 0) hpl _ _ _ c1;have b3:b≤(bA s).length:=b3;have b4:(p.a,p.b)=(nth (aO s) (a:Int),nth (aO s) (b:Int)):=b4;injection b4 with b4 b5
  obtain ⟨a',b',d1,d2,d3,d4⟩:=rT (tU (zq s fold) t 0) hpl _ _ _ c2;have d3:b'≤(bA s).length:=d3;have d4:(q.a,q.b)=(nth (aO s) (a':Int),nth (aO s) (b':Int)):=d4;injection d4 with d4 d5
  have hpb:=pk hpr (i:=b) (by omega);rw [←b5] at hpb;have hn:Kx (zq s fold) ((p.a,p.b),p.ps)=b+(if p.a=p.b then 1 else 0):=by
    show plcF (aO s) p.b+_=_;rw [hpb.1]
  rw [hn] at c2 d1;have u1:=rn hpr b2 (by omega);have u2:=rn hpr d2 (by omega);have u3:=rn hpr (i:=b) (j:=a') (by omega) (by omega);refine ⟨by rw [b5,d4];exact u3,?_,by rw [d4,d5];exact u2,fun hlt x hx=> ?_⟩
  · intro e;by_cases hab:p.a=p.b
    · rw [if_pos hab] at d1;have:=ll hpr (i:=b) (j:=a') (by omega) (by omega);omega
    · omega
  · rw [if_neg (by omega),ls] at c2;have hc:clampF 20000=20000:=by decide
    have hf:=Dy (zq s fold) (kZ hm) (20000 - k) (aO s).length b k;rw [show k+(20000 - k)=20000 by omega] at hf;have c3:cn (zq s fold) (cM (zq s fold) t 0) (grpN t) (aO s).length b (k,false)=(some ((q.a,q.b),q.ps),(k',false)):=c2;rw [c3] at hf;rcases hf with ⟨e,_⟩ | ⟨e1,e2,_⟩
    · cases e
    · unfold dI at hx;rw [hm,hpb.2,hpb.1,hc,fm rfl rfl (by rw [e2])] at hx;rw [hx];exact ⟨rfl,e1⟩
end
theorem IS {x:Mt × Int × Int} {ms:List Mv} (h1:x.2.2=0) (h2:x.1=(ms.map Mv.er).head?):(((!decide (x.2.2=0)) || (!(x.1.isSome==(decide ((0:Int) < (ms.length:Int)))))) || (x.1.isSome&&((!dA ((aM x.1).1,(aM x.1).2) ((nth ms 0).a,(nth ms 0).b)) || (!decide (bJ x.1=(nth ms 0).ps)))))=false:=by
  rw [h1,h2];cases ms with
  | nil => rfl
  | cons m l => simp [aM, bJ, dA, Mv.er, nth]
end
section
open Go.RowKit
open Srt
set_option maxRecDepth 100000 in
set_option maxHeartbeats 4000000 in
theorem Cp (p:ByteArray) (fold:Bool) (s:ByteArray) (w:World):Calls Tryz.prog 7 #[(bc p),(aE fold),(bc s)] w (fun e w'=>e= .returned (aE true)∧Ext aW w w'):=by
 refine enter (n:=195) Tryz.func7 rfl rfl (aw rfl) ?_;intro a0 τ0 ha st0;obtain ⟨e0,e1,e2⟩:=Ll ha;refine wp_seq (eK st0 [] ⟨aq fun c=>ax rfl rfl,av⟩ fun ac ag ae ab aa=> ?_);obtain ⟨e0,e1,e2⟩:=aa.k3 e0 e1 e2;have e6:=aa.V 0;refine wp_seq ?_;refine aY ?_;refine bV 2 (by kernel_rfl) ?_;refine og [_,gE _ 20 (fun b:Tr × Int=> .tuple #[b.1.v,aj b.2]) (fun b:Tr × Int=>(b.2=0→PatOk (er b.1) (p.size:Int) 0)∧fc b.1≤2200 * (p.size:Int)+2∧fc b.1≤600000) (fun b:Tr × Int=>gT (Gn aW w) b.1)] [0,1] ab [] ⟨ao e0,eT (f:=fun b:Tr × Int=> .tuple #[b.1.v,aj b.2]) (Ψ:=fun b:Tr × Int=>(b.2=0→PatOk (er b.1) (p.size:Int) 0)∧fc b.1≤2200 * (p.size:Int)+2∧fc b.1≤600000) (Φ:=fun b:Tr × Int=>gT (Gn aW w) b.1) fun {_ a_ _ _} c=>⟨_,_,(bK rfl rfl jM (c.q 0)),(lG p _).mono (fun e w' ⟨t_,r_,he_,hx_,ht_,hp_⟩=>⟨⟨t_,r_⟩,he_,hx_,hp_,c.tn ab hx_ ht_⟩)⟩,av⟩ fun ac ag ae ab aa=> ?_;obtain ⟨e0,e1,e2,e6⟩:=aa.k4 e0 e1 e2 e6;obtain ⟨⟨t1_,er1_⟩,e20,hqt1_,hz2⟩:=aa.zd 1 rfl;have e20:be ac 20=(.tuple #[(ta t1_),(aj er1_)]):=e20;have hqt1_:(er1_=0→PatOk (er t1_) (p.size:Int) 0)∧fc t1_≤2200 * (p.size:Int)+2∧fc t1_≤600000:=hqt1_;obtain ⟨hpt1_,hwt1_⟩:=hqt1_;have hbt1_:=fG t1_;have r0:=hz2;refine bW ?_;refine og [_,_,_,box _ _ 1 7 [(aj 0),(bc (⟨#[]⟩:ByteArray)),(aE false),(.slice none 0 0),(aj 0),(aj 0),(aE false),(.slice none 0 0)],_,_] [0,1,3,7,15,31] ab [jz 0 r0] ⟨ao e20,bR 0,bR 0,bO rfl rfl rfl rfl aD rfl,ey (cx:=(tc t1_)) (off:=0) rfl ak fun c=>⟨c.rb 3 rfl,(c.rb 3 rfl).ptr,(c.q 1)⟩,aK 2,av⟩ fun ac ag ae ab aa=> ?_;obtain ⟨b3x7,e7⟩:=gx ac 7;obtain ⟨e0,e1,e2,e6⟩:=aa.k4 e0 e1 e2 e6;have e8:=aa.V 5;replace r0:=aa.z1 0;have r1:=aa.rb 4 e7 rfl;refine wp_seq ?_;refine wp_seq (zG [0,1,3,7,15,31,63,127,255,511,1023,2047] ab [jz 0 r0,jb r1] ⟨ao e0,aq fun c=>fA rfl aZ (c.q 0),aq fun c=>ii rfl (c.q 1) rfl,bD 2,bm 3 rfl fun c hpc=>aS rfl (c.p e2),bm 3 rfl fun c hpc=>fA rfl aZ (c.M 4 hpc),bm 3 rfl fun c hpc=>ii rfl (c.M 5 hpc) rfl,dm 3 6,bD 7,bm 8 rfl fun c hpc=>aS rfl (c.p e8),bm 8 rfl fun c hpc=>fh rfl (c.M 9 hpc) rfl,dm 8 10,av⟩ fun ac ag ae ab aa=> ?_);obtain ⟨e1,e2,e6,e7⟩:=aa.k4 e1 e2 e6 e7;have e34:=aa.V 11;replace r0:=aa.z1 0;replace r1:=aa.B 1;refine wp_cond_split e34 (fun hc1=> ?_) (fun hc1=> ?_)
 · try simp only [aR,aG,ar,am,ai,ah,aV] at hc1
   refine wp_seq (eA ab [jz 0 r0,jb r1] ⟨eE fun c=>⟨_,_,(fN rfl rfl dN),fO _⟩,aK 0,av⟩ fun ac ag ae ab aa=> ?_);obtain ⟨e1,e2,e7⟩:=aa.k3 e1 e2 e7;have e6:=aa.V 1;replace r0:=aa.z1 0;replace r1:=aa.B 1;refine wp_ret ?_;refine rp ?_;refine cO (fn:=Tryz.f7) rfl ab.defers e6 ?_;refine ⟨congrArg _ (congrArg _ ?_),ab.ext0⟩;rfl
 try simp only [aR,aG,ar,am,ai,ah,aV] at hc1
 refine wp_skip ?_;refine wp_seq ?_;refine aY ?_;refine bV 4 (by kernel_rfl) ?_;refine og [_,_,_,gE _ 40 (fun b:Sv × List Mv=> .tuple #[b.1.v,aj (ie t1_ fold s 20000).2.1,aj (ie t1_ fold s 20000).2.2]) (fun b:Sv × List Mv=>b.2.map Mv.er=(ie t1_ fold s 20000).1) (fun b:Sv × List Mv=>(fb Dr (Gn aW w) b.1.v b.2).and (Bk (Gn aW w) b.2))] [0,0,0,7] ab [jz 0 r0,jb r1] ⟨aq fun c=>dY rfl az ak ((c.p e7).trans r1.ptr) (c.B 1),ao e1,ao e2,eT (f:=fun b:Sv × List Mv=> .tuple #[b.1.v,aj (ie t1_ fold s 20000).2.1,aj (ie t1_ fold s 20000).2.2]) (Ψ:=fun b:Sv × List Mv=>b.2.map Mv.er=(ie t1_ fold s 20000).1) (Φ:=fun b:Sv × List Mv=>(fb Dr (Gn aW w) b.1.v b.2).and (Bk (Gn aW w) b.2)) fun {_ a_ _ _} c=>⟨_,_,(iM rfl rfl Tryz.call16 (c.q 0) (c.q 1) (c.q 2) rfl),(yZ _ t1_ fold s 20000 _ (c.iz 0 rfl) (by first | omega | (have h_:=hlen_ (by first | assumption | exact hpc.2 | exact hpc.1.2 | simp_all);omega)) (by first | omega | (have h_:=hlen_ (by first | assumption | exact hpc.2 | exact hpc.1.2 | simp_all);omega))).mono (fun e w' h_=>Ci h_ (fun g hg hl=>c.gz (F:=aW) (c.hW ab) (by obtain ⟨_,_,_,hx_,_⟩:=h_;exact hx_.size) g (.inr hg) hl))⟩,av⟩ fun ac ag ae ab aa=> ?_;obtain ⟨e1,e2,e6,e7⟩:=aa.k4 e1 e2 e6 e7;obtain ⟨⟨av2_,msav2_⟩,e40,hqav2_,hz6⟩:=aa.zd 3 rfl;have e40:be ac 40=(.tuple #[av2_.v,(aj ((ie t1_ fold s 20000).2.1)),(aj ((ie t1_ fold s 20000).2.2))]):=e40;replace r0:=aa.z1 0;replace r1:=aa.B 1;have r2:Fz (fb Dr (Gn aW w) av2_.v msav2_) ae ag:=hz6.1;have r3:Fz (Bk (Gn aW w) msav2_) ae ag:=hz6.2;refine bW ?_;refine og [_,_,_,_,_,_,_] [0,1,3,7,15,31,63] ab [jz 0 r0,jb r1,jz 2 r2,jz 3 r3] ⟨ao e40,bR 0,bR 0,bR 0,aK 1,aK 2,aK 3,av⟩ fun ac ag ae ab aa=> ?_;obtain ⟨e1,e2,e6,e7⟩:=aa.k4 e1 e2 e6 e7;have e9:=aa.V 4;have e10:=aa.V 5;have e11:=aa.V 6;obtain ⟨r0,r2,r3⟩:=aa.z3 0 2 3;replace r1:=aa.B 1;have hqav2_:msav2_.map Mv.er=(ie t1_ fold s 20000).1:=hqav2_;refine wp_seq ?_;refine wp_seq (eA ab [jz 0 r0,jb r1,jz 2 r2,jz 3 r3] ⟨ao e11,aq fun c=>fh rfl (c.q 0) rfl,av⟩ fun ac ag ae ab aa=> ?_);obtain ⟨e1,e2,e6,e7,e9,e10,e11⟩:=aa.k7 e1 e2 e6 e7 e9 e10 e11;have e45:=aa.V 1;obtain ⟨r0,r2,r3⟩:=aa.z3 0 2 3;replace r1:=aa.B 1;refine wp_cond_split e45 (fun hc2=> ?_) (fun hc2=> ?_)
 · try simp only [ar,am,ai,ah] at hc2
   refine wp_seq (rg [_,_,_,_,_,_,_,_,_,_,_,_,_,_,_] [0,1,3,7,15,31,63,127,255,511,1023,2047,4095,8191,16383] ab [jz 0 r0,jb r1,jz 2 r2,jz 3 r3] ⟨ao e11,aq fun c=>cY rfl (c.q 0) rfl,bD 1,aL 2 rfl fun c hpc=>aS rfl (c.p e9),aL 2 rfl fun c hpc=>dk rfl dV (c.M 3 hpc) (r2).1.sl,aL 2 rfl fun c hpc=>cY rfl (c.M 4 hpc) rfl,bZ 2 5,bD 6,aL 7 rfl fun c hpc=>aS rfl (c.p e10),aL 7 rfl fun c hpc=>cY rfl (c.M 8 hpc) rfl,bZ 7 9,bD 10,fC 11 true rfl fun c hpc=>⟨_,_,(fN rfl rfl dN),fO _⟩,bZ 11 12,aK 13,av⟩ fun ac ag ae ab aa=> ?_);obtain ⟨e1,e2,e7,e9⟩:=aa.k4 e1 e2 e7 e9;have e6:=aa.V 14;obtain ⟨r0,r2,r3⟩:=aa.z3 0 2 3;replace r1:=aa.B 1;refine wp_ret ?_;refine rp ?_;refine cO (fn:=Tryz.f7) rfl ab.defers e6 ?_;refine ⟨congrArg _ (congrArg _ ?_),ab.ext0⟩;obtain ⟨h1_,h2_,h3_⟩:=Hc (mz (hpt1_ (by omega)) (by omega)) hqav2_ (by omega);rw [h1_,h2_,h3_];rfl
 try simp only [ar,am,ai,ah] at hc2
 refine wp_skip ?_;refine wp_seq ?_;refine aY ?_;refine bV 4 (by kernel_rfl) ?_;refine og [_,_,_,gE _ 64 (fun b:Sv × (Mt × Int × Int)=> .tuple #[(.agg #[aj (aM b.2.1).1,aj (aM b.2.1).2,b.1.v]),aj b.2.2.1,aE b.2.1.isSome,aj b.2.2.2]) (fun b:Sv × (Mt × Int × Int)=>b.2=dI t1_ fold s 0 20000) (fun b:Sv × (Mt × Int × Int)=>fb cF (Gn aW w) b.1.v (bJ b.2.1))] [0,0,0,7] ab [jz 0 r0,jb r1,jz 2 r2,jz 3 r3] ⟨aq fun c=>dY rfl az ak ((c.p e7).trans r1.ptr) (c.B 1),ao e1,ao e2,eT (f:=fun b:Sv × (Mt × Int × Int)=> .tuple #[(.agg #[aj (aM b.2.1).1,aj (aM b.2.1).2,b.1.v]),aj b.2.2.1,aE b.2.1.isSome,aj b.2.2.2]) (Ψ:=fun b:Sv × (Mt × Int × Int)=>b.2=dI t1_ fold s 0 20000) (Φ:=fun b:Sv × (Mt × Int × Int)=>fb cF (Gn aW w) b.1.v (bJ b.2.1)) fun {_ a_ _ _} c=>⟨_,_,(eC rfl rfl qM (c.q 0) (c.q 1) (c.q 2) rfl rfl),(pO _ t1_ fold s 0 20000 _ (c.iz 0 rfl) (by first | omega | (have h_:=hlen_ (by first | assumption | exact hpc.2 | exact hpc.1.2 | simp_all);omega)) (by first | omega | (have h_:=hlen_ (by first | assumption | exact hpc.2 | exact hpc.1.2 | simp_all);omega))).mono (fun e w' ⟨b_,he_,hx_,hs_,hn_⟩=>⟨⟨b_,_⟩,he_,hx_,rfl,c.sns ab hx_.size ⟨hs_,hn_⟩⟩)⟩,av⟩ fun ac ag ae ab aa=> ?_;obtain ⟨e1,e2,e6,e7,e9⟩:=aa.k5 e1 e2 e6 e7 e9;obtain ⟨⟨mv3_,at3_⟩,e64,hqat3_,hz10⟩:=aa.zd 3 rfl;have e64:be ac 64=(.tuple #[(.agg #[(aj ((aM at3_.1).1)),(aj ((aM at3_.1).2)),mv3_.v]),(aj at3_.2.1),(aE at3_.1.isSome),(aj at3_.2.2)]):=e64;have hqat3_:at3_=dI t1_ fold s 0 20000:=hqat3_;obtain ⟨r0,r2,r3⟩:=aa.z3 0 2 3;replace r1:=aa.B 1;have r4:=hz10;refine bW ?_;refine og [_,_,_,_,_,box _ _ 5 12 [(aj 0),(aj 0),(.slice none 0 0)],_,_,_,_] [0,1,3,7,15,31,63,127,255,511] ab [jz 0 r0,jb r1,jz 2 r2,jz 3 r3,jz 4 r4] ⟨ao e64,bR 0,bR 0,bR 0,bR 0,bO rfl rfl rfl rfl bI rfl,ey (cx:=[(aj ((aM at3_.1).1)),(aj ((aM at3_.1).2)),mv3_.v]) (off:=0) rfl bi fun c=>⟨c.rb 5 rfl,(c.rb 5 rfl).ptr,(c.q 1)⟩,aK 2,aK 3,aK 4,av⟩ fun ac ag ae ab aa=> ?_;obtain ⟨b11x12,e12⟩:=gx ac 12;obtain ⟨e1,e2,e6,e7,e9⟩:=aa.k5 e1 e2 e6 e7 e9;have e14:=aa.V 8;have e15:=aa.V 9;obtain ⟨r0,r2,r3,r4⟩:=aa.z4 0 2 3 4;replace r1:=aa.B 1;have r5:=aa.rb 6 e12 rfl;refine wp_seq ?_;refine wp_seq ?_;have hle2_:=(r2).1.le;have hle4_:=(r4).1.le;obtain ⟨hh1_,hh2_⟩:=EK (mz (hpt1_ (by omega)) (by omega)) hqav2_ (by omega) hqat3_;have hlen_:at3_.1.isSome=true→0 < msav2_.length:=fun h_=>by rw [hh2_] at h_;cases hc_:msav2_ with
   | nil => rw [hc_] at h_; cases h_
   | cons => simp
 refine rg [_,_,_,_,_,_,_,_,_,_,_,_,_,_,_,_,_,_,_,_,_,_,_,_,_,_,_,_,_,_,_] [0,1,3,7,7,23,55,127,255,511,1023,2047,4095,8191,4095,20479,53247,118783,262143,524287,1048575,2097151,1048575,5242879,13631487,30408703,67108863,134217727,268435455,536870911,1073741823] ab [jz 0 r0,jb r1,jz 2 r2,jz 3 r3,jz 4 r4,jb r5] ⟨ao e15,aq fun c=>fh rfl (c.q 0) rfl,bD 1,bm 2 rfl fun c hpc=>aS rfl (c.p e14),bm 2 rfl fun c hpc=>aS rfl (c.p e9),bm 2 rfl fun c hpc=>dk rfl dV (c.M 4 hpc) (r2).1.sl,bm 2 rfl fun c hpc=>ii rfl (c.M 5 hpc) rfl,bm 2 rfl fun c hpc=>qO rfl cT (c.M 3 hpc) (c.M 6 hpc),dm 2 7,bD 8,bm 9 rfl fun c hpc=>aS rfl (c.p e14),bm 9 rfl fun c hpc=>aS rfl (c.M 10 hpc),dj 11 true rfl fun c hpc=>dh rfl bd aT ((c.p e12).trans r5.ptr),dj 11 true rfl fun c hpc=>cq (vs:=[(aj ((aM at3_.1).1)),(aj ((aM at3_.1).2))]) rfl cV aT (c.M 12 hpc) rfl (fun j_ _ hj=>by rw [add_add];exact (c.ib 5 rfl).cell (j:=0+j_) (ei (l:=[(aj ((aM at3_.1).1)),(aj ((aM at3_.1).2)),mv3_.v]) (o:=0) (n:=2) rfl hj)),dj 11 true rfl fun c hpc=>aS rfl (c.p e9),dj 11 true rfl fun c hpc=>aX rfl dV bi (c.M 14 hpc) (r2).1.sl rfl (by have hq0:=hpc.2;have hq1:=hpc.1;(try simp only [aR,aG,ar,am,beq_iff_eq,ai,ah,aV] at hq1);first | omega | (have h_:=hlen_ (by first | assumption | exact hpc.2 | exact hpc.1.2 | simp_all);omega)) (by have hq0:=hpc.2;have hq1:=hpc.1;(try simp only [aR,aG,ar,am,beq_iff_eq,ai,ah,aV] at hq1);first | omega | (have h_:=hlen_ (by first | assumption | exact hpc.2 | exact hpc.1.2 | simp_all);omega)),dj 11 true rfl fun c hpc=>dh rfl bd aT (c.M 15 hpc),dj 11 true rfl fun c hpc=>cq (vs:=[(aj ((nth msav2_ 0).a)),(aj ((nth msav2_ 0).b))]) rfl cV aT (c.M 16 hpc) rfl (fun j_ u_ hj=>by rw [add_add,add_add];have h_:=((c.iz 2 rfl).1).elem (j:=0+j_) (bF (i:=0) (by have hq0:=hpc.2;have hq1:=hpc.1;(try simp only [aR,aG,ar,am,beq_iff_eq,ai,ah,aV] at hq1);first | omega | (have h_:=hlen_ (by first | assumption | exact hpc.2 | exact hpc.1.2 | simp_all);omega)) (by have hq0:=hpc.2;have hq1:=hpc.1;(try simp only [aR,aG,ar,am,beq_iff_eq,ai,ah,aV] at hq1);first | omega | (have h_:=hlen_ (by first | assumption | exact hpc.2 | exact hpc.1.2 | simp_all);omega))) (by revert hj;cases j_ with | zero=>exact id | succ j_=>cases j_ with | zero=>exact id | succ j_=>intro hj;simp at hj);rwa [add_add] at h_),dj 11 true rfl fun c hpc=>jU (p:=((aM at3_.1).1,(aM at3_.1).2)) (q:=((nth msav2_ 0).a,(nth msav2_ 0).b)) rfl (c.M 13 hpc) (c.M 17 hpc),dj 11 true rfl fun c hpc=>aS rfl (c.M 18 hpc),dj 19 false rfl fun c hpc=>dh rfl bd co ((c.p e12).trans r5.ptr),dj 19 false rfl fun c hpc=>aI rfl cG (c.M 20 hpc) ((c.B 5).cell (j:=2) rfl),dj 19 false rfl fun c hpc=>aS rfl (c.p e9),dj 19 false rfl fun c hpc=>aX rfl dV bi (c.M 22 hpc) (r2).1.sl rfl (by have hq0:=hpc.2;(try simp only [ar,am,ai,ah,dA] at hq0);have hq1:=hpc.1.2;have hq2:=hpc.1.1;(try simp only [aR,aG,ar,am,beq_iff_eq,ai,ah,aV] at hq2);first | omega | (have h_:=hlen_ (by first | assumption | exact hpc.2 | exact hpc.1.2 | simp_all);omega)) (by have hq0:=hpc.2;(try simp only [ar,am,ai,ah,dA] at hq0);have hq1:=hpc.1.2;have hq2:=hpc.1.1;(try simp only [aR,aG,ar,am,beq_iff_eq,ai,ah,aV] at hq2);first | omega | (have h_:=hlen_ (by first | assumption | exact hpc.2 | exact hpc.1.2 | simp_all);omega)),dj 19 false rfl fun c hpc=>dh rfl bd co (c.M 23 hpc),dj 19 false rfl fun c hpc=>aI rfl cG (c.M 24 hpc) (((c.iz 2 rfl).1).elem (j:=2) (bF (i:=0) (by have hq0:=hpc.2;(try simp only [ar,am,ai,ah,dA] at hq0);have hq1:=hpc.1.2;have hq2:=hpc.1.1;(try simp only [aR,aG,ar,am,beq_iff_eq,ai,ah,aV] at hq2);first | omega | (have h_:=hlen_ (by first | assumption | exact hpc.2 | exact hpc.1.2 | simp_all);omega)) (by have hq0:=hpc.2;(try simp only [ar,am,ai,ah,dA] at hq0);have hq1:=hpc.1.2;have hq2:=hpc.1.1;(try simp only [aR,aG,ar,am,beq_iff_eq,ai,ah,aV] at hq2);first | omega | (have h_:=hlen_ (by first | assumption | exact hpc.2 | exact hpc.1.2 | simp_all);omega))) rfl),qR 19 false rfl fun c hpc=>⟨_,_,(ck rfl rfl kt (c.M 21 hpc) (c.M 25 hpc)),kX mv3_.v ((nth msav2_ 0).pv.v) (bJ at3_.1) ((nth msav2_ 0).ps) _ (c.iz 4 rfl).1 (wW (i:=0) (c.iz 3 rfl) (by have hq0:=hpc.2;(try simp only [ar,am,ai,ah,dA] at hq0);have hq1:=hpc.1.2;have hq2:=hpc.1.1;(try simp only [aR,aG,ar,am,beq_iff_eq,ai,ah,aV] at hq2);first | omega | (have h_:=hlen_ (by first | assumption | exact hpc.2 | exact hpc.1.2 | simp_all);omega)) (by have hq0:=hpc.2;(try simp only [ar,am,ai,ah,dA] at hq0);have hq1:=hpc.1.2;have hq2:=hpc.1.1;(try simp only [aR,aG,ar,am,beq_iff_eq,ai,ah,aV] at hq2);first | omega | (have h_:=hlen_ (by first | assumption | exact hpc.2 | exact hpc.1.2 | simp_all);omega))).1⟩,dj 19 false rfl fun c hpc=>ew rfl (c.M 26 hpc),dj 11 true rfl fun c hpc=>pT rfl (c.M 19 hpc) (fun h=>c.m 27 rfl (And.intro hpc h)),bm 9 rfl fun c hpc=>oK rfl (c.M 11 hpc) (fun h=>c.m 28 rfl (And.intro hpc h)),aq (v:=(aE false)) fun c=>cA.isB (b:=((!decide (at3_.2.2=0)) || (!(at3_.1.isSome==(decide (0 < (msav2_.length:Int)))))) || (at3_.1.isSome&&((!(dA ((aM at3_.1).1,(aM at3_.1).2) ((nth msav2_ 0).a,(nth msav2_ 0).b))) || (!(decide (bJ at3_.1=(nth msav2_ 0).ps)))))) (pT rfl (c.q 9) (fun h=>c.M 29 h)) (by exact IS hh1_ hh2_),av⟩ fun ac ag ae ab aa=> ?_;obtain ⟨e1,e2,e6,e7,e9,e12,e14,e15⟩:=aa.k8 e1 e2 e6 e7 e9 e12 e14 e15;have e99:=aa.V 30;obtain ⟨r0,r2,r3,r4⟩:=aa.z4 0 2 3 4;replace r1:=aa.B 1;replace r5:=aa.B 5;refine wp_cond_false e99 ?_;refine wp_skip ?_;refine wp_seq ?_;refine wp_seq (eK ab [jz 0 r0,jb r1,jz 2 r2,jz 3 r3,jz 4 r4,jb r5] ⟨aq fun c=>ax rfl rfl,av⟩ fun ac ag ae ab aa=> ?_);obtain ⟨e1,e2,e6,e7,e9,e12,e14,e15⟩:=aa.k8 e1 e2 e6 e7 e9 e12 e14 e15;have e16:=aa.V 0;obtain ⟨r0,r2,r3,r4⟩:=aa.z4 0 2 3 4;replace r1:=aa.B 1;replace r5:=aa.B 5;refine wp_block ?_;refine wp_loop (fun a_ w_=>∃(i:Nat) (ca cb:Int) (cm:Value) (τ:Nat→bj),(1≤i)∧
      St (Nw w) w 195 a_ w_ τ∧
      be a_ 16=(aj (i:Int))∧
      be a_ 1=(aE fold)∧
      be a_ 2=(bc s)∧
      be a_ 7=b3x7∧
      be a_ 9=av2_.v∧
      be a_ 12=b11x12∧
      cH 41 [(aj ca),(aj cb),cm] (τ 5) b11x12 w_∧
      Fz (gT (Gn aW w) t1_) τ w_∧
      cH 25 (tc t1_) (τ 1) b3x7 w_∧
      Fz (fb Dr (Gn aW w) av2_.v msav2_) τ w_∧
      Fz (Bk (Gn aW w) msav2_) τ w_) (fun a_ _=>msav2_.length - (intOf (be a_ 16)).toNat) ?_ ?_
 · refine ⟨1,(aM at3_.1).1,(aM at3_.1).2,mv3_.v,ae,?_,ab,(e16.trans (bB (by omega))),e1,e2,e7,e9,e12,r5,r0,r1,r2,r3⟩
   · omega
 intro a14 w14 hI;obtain ⟨i,ca,cb,cm,τ14,q0,st14,e16,e1,e2,e7,e9,e12,r5,r0,r1,r2,r3⟩:=hI;have m16:=e16;refine wp_seq ?_;refine wp_seq (lr [0,0,2,7] st14 [jz 0 r0,jb r1,jz 2 r2,jz 3 r3,jb r5] ⟨ao e16,ao e9,aq fun c=>dk rfl dV (c.q 1) (r2).1.sl,aq fun c=>cW rfl (c.q 0) (c.q 2),av⟩ fun ac ag ae ab aa=> ?_);obtain ⟨e1,e2,e7,e9,e12,e16⟩:=aa.k6 e1 e2 e7 e9 e12 e16;have e103:=aa.V 3;obtain ⟨r0,r2,r3⟩:=aa.z3 0 2 3;replace r1:=aa.B 1;replace r5:=aa.B 5;refine wp_cond_split e103 (fun hc4=> ?_) (fun hc4=> ?_)
 · try simp only [ai] at hc4
   refine wp_skip ?_;refine wp_seq ?_;refine wp_block ?_;refine wp_seq ?_;refine rg [_,_,_,_,_,box _ _ 4 17 [(aj 0),(aj 0),(.slice none 0 0)],_] [0,0,2,7,15,0,63] ab [jz 0 r0,jb r1,jz 2 r2,jz 3 r3,jb r5] ⟨ao e9,ao e16,aq fun c=>gd rfl (c.q 1) rfl (by first | omega | (have h_:=hlen_ (by first | assumption | exact hpc.2 | exact hpc.1.2 | simp_all);omega)),aq fun c=>aX rfl dV bi (c.q 0) (r2).1.sl (c.q 2) (by first | omega | (have h_:=hlen_ (by first | assumption | exact hpc.2 | exact hpc.1.2 | simp_all);omega)) (by first | omega | (have h_:=hlen_ (by first | assumption | exact hpc.2 | exact hpc.1.2 | simp_all);omega)),aq fun c=>cq (vs:=[(aj ((nth msav2_ ((i:Int) - 1)).a)),(aj ((nth msav2_ ((i:Int) - 1)).b)),(nth msav2_ ((i:Int) - 1)).pv.v]) rfl dB bi (c.q 3) rfl (fun _ _ hj=>((c.iz 2 rfl).1).elem (bF (i:=(i:Int) - 1) (by first | omega | (have h_:=hlen_ (by first | assumption | exact hpc.2 | exact hpc.1.2 | simp_all);omega)) (by first | omega | (have h_:=hlen_ (by first | assumption | exact hpc.2 | exact hpc.1.2 | simp_all);omega))) hj),bO rfl rfl rfl rfl bI rfl,ey (cx:=[(aj ((nth msav2_ ((i:Int) - 1)).a)),(aj ((nth msav2_ ((i:Int) - 1)).b)),(nth msav2_ ((i:Int) - 1)).pv.v]) (off:=0) rfl bi fun c=>⟨c.rb 5 rfl,(c.rb 5 rfl).ptr,(c.q 4)⟩,av⟩ fun ac ag ae ab aa=> ?_;obtain ⟨b16x17,e17⟩:=gx ac 17;obtain ⟨e1,e2,e7,e9,e12,e16,e103⟩:=aa.k7 e1 e2 e7 e9 e12 e16 e103;obtain ⟨r0,r2,r3⟩:=aa.z3 0 2 3;replace r1:=aa.B 1;have r4:=aa.rb 6 e17 rfl;replace r5:=aa.B 5;refine wp_seq ?_;refine wp_seq ?_;obtain ⟨hR1_,hR2_,hR3_,hR4_⟩:=He (mz (hpt1_ (by omega)) (by omega)) hqav2_ (by omega) (i:=i) (by omega) (by omega);refine rg [_,_,_,_,_,_,_,_,_,_,_,_,_,_,_,_,_,_,_,_,_,_,_,_,_,_,_,_,_,_,_,_,_,_,_,_,_] [0,0,3,7,15,31,0,64,192,511,1023,2047,2047,8191,16383,32767,65535,2047,133119,395263,1048575,2097151,4194303,8388607,8388607,33554431,67108863,134217727,268435455,8388607,8388607,1619001343,3766484991,8061452287,16651386879,34359738367,68719476735] ab [jz 0 r0,jb r1,jz 2 r2,jz 3 r3,jb r4,jb r5] ⟨ao e9,ao e16,aq fun c=>aX rfl dV bi (c.q 0) (r2).1.sl (c.q 1) (by first | omega | (have h_:=hlen_ (by first | assumption | exact hpc.2 | exact hpc.1.2 | simp_all);omega)) (by first | omega | (have h_:=hlen_ (by first | assumption | exact hpc.2 | exact hpc.1.2 | simp_all);omega)),bS bd aT 2 rfl,bS cw aA 3 rfl,aq fun c=>aI rfl aN (c.q 4) (by have h_:=((c.iz 2 rfl).1).elem (j:=0) (bF (i:=(i:Int)) (by first | omega | (have h_:=hlen_ (by first | assumption | exact hpc.2 | exact hpc.1.2 | simp_all);omega)) (by first | omega | (have h_:=hlen_ (by first | assumption | exact hpc.2 | exact hpc.1.2 | simp_all);omega))) rfl;rw [add_add] at h_;rw [add_add,add_add];exact h_),cK bd aT e17 r4.ptr,bS cw aA 6 rfl,aq fun c=>aI rfl aN (c.q 7) (by rw [add_add];exact (c.ib 4 rfl).cell (j:=1) rfl),aq fun c=>cW rfl (c.q 5) (c.q 8),bD 9,bm 10 rfl fun c hpc=>aS rfl (c.p e9),bm 10 rfl fun c hpc=>aS rfl (c.p e16),bm 10 rfl fun c hpc=>aX rfl dV bi (c.M 11 hpc) (r2).1.sl (c.M 12 hpc) (by have hq0:=bn hpc;first | omega | (have h_:=hlen_ (by first | assumption | exact hpc.2 | exact hpc.1.2 | simp_all);omega)) (by have hq0:=bn hpc;first | omega | (have h_:=hlen_ (by first | assumption | exact hpc.2 | exact hpc.1.2 | simp_all);omega)),bm 10 rfl fun c hpc=>dh rfl bd aT (c.M 13 hpc),bm 10 rfl fun c hpc=>dh rfl cw aA (c.M 14 hpc),bm 10 rfl fun c hpc=>aI rfl aN (c.M 15 hpc) (by have h_:=((c.iz 2 rfl).1).elem (j:=0) (bF (i:=(i:Int)) (by have hq0:=bn hpc;first | omega | (have h_:=hlen_ (by first | assumption | exact hpc.2 | exact hpc.1.2 | simp_all);omega)) (by have hq0:=bn hpc;first | omega | (have h_:=hlen_ (by first | assumption | exact hpc.2 | exact hpc.1.2 | simp_all);omega))) rfl;rw [add_add] at h_;rw [add_add,add_add];exact h_),bm 10 rfl fun c hpc=>dh rfl bd aT ((c.p e17).trans r4.ptr),bm 10 rfl fun c hpc=>dh rfl cw aA (c.M 17 hpc),bm 10 rfl fun c hpc=>aI rfl aN (c.M 18 hpc) (by rw [add_add];exact (c.ib 4 rfl).cell (j:=0) rfl),bm 10 rfl fun c hpc=>cY rfl (c.M 16 hpc) (c.M 19 hpc),dm 10 20,bD 21,bm 22 rfl fun c hpc=>aS rfl (c.p e9),bm 22 rfl fun c hpc=>aS rfl (c.p e16),bm 22 rfl fun c hpc=>aX rfl dV bi (c.M 23 hpc) (r2).1.sl (c.M 24 hpc) (by have hq0:=hpc;(try simp only [aG,ah,aV] at hq0);first | omega | (have h_:=hlen_ (by first | assumption | exact hpc.2 | exact hpc.1.2 | simp_all);omega)) (by have hq0:=hpc;(try simp only [aG,ah,aV] at hq0);first | omega | (have h_:=hlen_ (by first | assumption | exact hpc.2 | exact hpc.1.2 | simp_all);omega)),bm 22 rfl fun c hpc=>dh rfl bd aT (c.M 25 hpc),bm 22 rfl fun c hpc=>dh rfl cw aA (c.M 26 hpc),bm 22 rfl fun c hpc=>aI rfl aN (c.M 27 hpc) (by have h_:=((c.iz 2 rfl).1).elem (j:=1) (bF (i:=(i:Int)) (by have hq0:=hpc;(try simp only [aG,ah,aV] at hq0);first | omega | (have h_:=hlen_ (by first | assumption | exact hpc.2 | exact hpc.1.2 | simp_all);omega)) (by have hq0:=hpc;(try simp only [aG,ah,aV] at hq0);first | omega | (have h_:=hlen_ (by first | assumption | exact hpc.2 | exact hpc.1.2 | simp_all);omega))) rfl;rw [add_add] at h_;rw [add_add,add_add];exact h_),bm 22 rfl fun c hpc=>aS rfl (c.p e9),bm 22 rfl fun c hpc=>aS rfl (c.p e16),bm 22 rfl fun c hpc=>aX rfl dV bi (c.M 29 hpc) (r2).1.sl (c.M 30 hpc) (by have hq0:=hpc;(try simp only [aG,ah,aV] at hq0);first | omega | (have h_:=hlen_ (by first | assumption | exact hpc.2 | exact hpc.1.2 | simp_all);omega)) (by have hq0:=hpc;(try simp only [aG,ah,aV] at hq0);first | omega | (have h_:=hlen_ (by first | assumption | exact hpc.2 | exact hpc.1.2 | simp_all);omega)),bm 22 rfl fun c hpc=>dh rfl bd aT (c.M 31 hpc),bm 22 rfl fun c hpc=>dh rfl cw aA (c.M 32 hpc),bm 22 rfl fun c hpc=>aI rfl aN (c.M 33 hpc) (by have h_:=((c.iz 2 rfl).1).elem (j:=0) (bF (i:=(i:Int)) (by have hq0:=hpc;(try simp only [aG,ah,aV] at hq0);first | omega | (have h_:=hlen_ (by first | assumption | exact hpc.2 | exact hpc.1.2 | simp_all);omega)) (by have hq0:=hpc;(try simp only [aG,ah,aV] at hq0);first | omega | (have h_:=hlen_ (by first | assumption | exact hpc.2 | exact hpc.1.2 | simp_all);omega))) rfl;rw [add_add] at h_;rw [add_add,add_add];exact h_),bm 22 rfl fun c hpc=>cW rfl (c.M 28 hpc) (c.M 34 hpc),aq (v:=(aE false)) fun c=>cA.isB (b:=((decide ((nth msav2_ (i:Int)).a < (nth msav2_ ((i:Int) - 1)).b)) || (decide ((nth msav2_ (i:Int)).a=(nth msav2_ ((i:Int) - 1)).a))) || (decide ((nth msav2_ (i:Int)).b < (nth msav2_ (i:Int)).a))) (pT rfl (c.q 22) (fun h=>c.M 35 h)) (by simp [aV.2 hR1_,hR2_,aV.2 hR3_]),av⟩ fun ac ag ae ab aa=> ?_;obtain ⟨e1,e2,e7,e9,e12,e16,e17,e103⟩:=aa.k8 e1 e2 e7 e9 e12 e16 e17 e103;have e147:=aa.V 36;obtain ⟨r0,r2,r3⟩:=aa.z3 0 2 3;replace r1:=aa.B 1;replace r4:=aa.B 4;replace r5:=aa.B 5;refine wp_cond_false e147 ?_;refine wp_skip ?_;refine wp_seq ?_;refine ue [0,1,3,0,8,24,63] ab [jz 0 r0,jb r1,jz 2 r2,jz 3 r3,jb r4,jb r5] ⟨cK bd aT e17 r4.ptr,bS cw aA 0 rfl,aq fun c=>aI rfl aN (c.q 1) (by rw [add_add];exact (c.ib 4 rfl).cell (j:=0) rfl),cK bd aT e17 r4.ptr,bS cw aA 3 rfl,aq fun c=>aI rfl aN (c.q 4) (by rw [add_add];exact (c.ib 4 rfl).cell (j:=1) rfl),aq fun c=>cW rfl (c.q 2) (c.q 5),av⟩ fun ac ag ae ab aa=> ?_;obtain ⟨e1,e2,e7,e9,e12,e16,e17,e103,e147⟩:=aa.k9 e1 e2 e7 e9 e12 e16 e17 e103 e147;have e154:=aa.V 6;obtain ⟨r0,r2,r3⟩:=aa.z3 0 2 3;replace r1:=aa.B 1;replace r4:=aa.B 4;replace r5:=aa.B 5;refine wp_cond_split e154 (fun hc6=> ?_) (fun hc6=> ?_)
   · try simp only [ai] at hc6
     refine wp_seq ?_;refine aY ?_;refine bV 7 (by kernel_rfl) ?_;refine og [_,_,_,_,_,_,gE _ 162 (fun b:Sv × (Mt × Int × Int)=> .tuple #[(.agg #[aj (aM b.2.1).1,aj (aM b.2.1).2,b.1.v]),aj b.2.2.1,aE b.2.1.isSome,aj b.2.2.2]) (fun b:Sv × (Mt × Int × Int)=>b.2=dI t1_ fold s ((nth msav2_ ((i:Int) - 1)).b) 20000) (fun b:Sv × (Mt × Int × Int)=>fb cF (Gn aW w) b.1.v (bJ b.2.1))] [0,0,0,0,8,24,63] ab [jz 0 r0,jb r1,jz 2 r2,jz 3 r3,jb r4,jb r5] ⟨aq fun c=>dY rfl az ak ((c.p e7).trans r1.ptr) (c.B 1),ao e1,ao e2,cK bd aT e17 r4.ptr,bS cw aA 3 rfl,aq fun c=>aI rfl aN (c.q 4) (by rw [add_add];exact (c.ib 4 rfl).cell (j:=1) rfl),eT (f:=fun b:Sv × (Mt × Int × Int)=> .tuple #[(.agg #[aj (aM b.2.1).1,aj (aM b.2.1).2,b.1.v]),aj b.2.2.1,aE b.2.1.isSome,aj b.2.2.2]) (Ψ:=fun b:Sv × (Mt × Int × Int)=>b.2=dI t1_ fold s ((nth msav2_ ((i:Int) - 1)).b) 20000) (Φ:=fun b:Sv × (Mt × Int × Int)=>fb cF (Gn aW w) b.1.v (bJ b.2.1)) fun {_ a_ _ _} c=>⟨_,_,(eC rfl rfl qM (c.q 0) (c.q 1) (c.q 2) (c.q 5) rfl),(pO _ t1_ fold s ((nth msav2_ ((i:Int) - 1)).b) 20000 _ (c.iz 0 rfl) (by first | omega | (have h_:=hlen_ (by first | assumption | exact hpc.2 | exact hpc.1.2 | simp_all);omega)) (by first | omega | (have h_:=hlen_ (by first | assumption | exact hpc.2 | exact hpc.1.2 | simp_all);omega))).mono (fun e w' ⟨b_,he_,hx_,hs_,hn_⟩=>⟨⟨b_,_⟩,he_,hx_,rfl,c.sns ab hx_.size ⟨hs_,hn_⟩⟩)⟩,av⟩ fun ac ag ae ab aa=> ?_;obtain ⟨e1,e2,e7,e9,e12,e16,e17,e103,e147,e154⟩:=aa.k10 e1 e2 e7 e9 e12 e16 e17 e103 e147 e154;obtain ⟨⟨mv4_,at4_⟩,e162,hqat4_,hz19⟩:=aa.zd 6 rfl;have e162:be ac 162=(.tuple #[(.agg #[(aj ((aM at4_.1).1)),(aj ((aM at4_.1).2)),mv4_.v]),(aj at4_.2.1),(aE at4_.1.isSome),(aj at4_.2.2)]):=e162;have hqat4_:at4_=dI t1_ fold s ((nth msav2_ ((i:Int) - 1)).b) 20000:=hqat4_;obtain ⟨r0,r2,r3⟩:=aa.z3 0 2 3;replace r1:=aa.B 1;replace r4:=aa.B 4;replace r5:=aa.B 5;have r6:=hz19;refine bW ?_;refine og [_,_,_,_,_,_,_,_] [0,1,3,7,15,31,63,127] ab [jz 0 r0,jb r1,jz 2 r2,jz 3 r3,jb r4,jb r5,jz 6 r6] ⟨ao e162,bR 0,bR 0,bR 0,bR 0,cp (cx:=[(aj ((aM at4_.1).1)),(aj ((aM at4_.1).2)),mv4_.v]) (off:=0) bi fun c=>⟨c.bp 5 rfl e12,c.ad ((c.p e12).trans r5.ptr) e12 rfl,(c.q 1)⟩,aK 3,aK 4,av⟩ fun ac ag ae ab aa=> ?_;obtain ⟨e1,e2,e7,e9,e12,e16,e17,e103,e147,e154⟩:=aa.k10 e1 e2 e7 e9 e12 e16 e17 e103 e147 e154;have e14:=aa.V 6;have e15:=aa.V 7;obtain ⟨r0,r2,r3,r6⟩:=aa.z4 0 2 3 6;replace r1:=aa.B 1;replace r4:=aa.B 4;replace r5:=aa.RB 5 e12;refine wp_seq ?_;refine rg [_,_,_,_,_,_,_,_,_,_,_,_,_,_,_,_,_,_,_,_,_,_,_,_,_,_,_] [0,1,3,7,15,31,63,127,255,127,127,1663,3711,7807,16383,32767,65535,131071,262143,131071,131071,1703935,3801087,7995391,16777215,33554431,67108863] ab [jz 0 r0,jb r1,jz 2 r2,jz 3 r3,jb r4,jb r5,jz 6 r6] ⟨ao e15,aq fun c=>fh rfl (c.q 0) rfl,bD 1,bm 2 rfl fun c hpc=>aS rfl (c.p e14),bm 2 rfl fun c hpc=>ew rfl (c.M 3 hpc),dm 2 4,bD 5,bm 6 rfl fun c hpc=>dh rfl bd aT ((c.p e12).trans r5.ptr),bm 6 rfl fun c hpc=>cq (vs:=[(aj ((aM at4_.1).1)),(aj ((aM at4_.1).2))]) rfl cV aT (c.M 7 hpc) rfl (fun j_ _ hj=>by rw [add_add];exact (c.ib 5 rfl).cell (j:=0+j_) (ei (l:=[(aj ((aM at4_.1).1)),(aj ((aM at4_.1).2)),mv4_.v]) (o:=0) (n:=2) rfl hj)),bm 6 rfl fun c hpc=>aS rfl (c.p e9),bm 6 rfl fun c hpc=>aS rfl (c.p e16),bm 6 rfl fun c hpc=>aX rfl dV bi (c.M 9 hpc) (r2).1.sl (c.M 10 hpc) (by have hq0:=hpc;(try simp only [aR,aG,ar,am,ai,ah] at hq0);first | omega | (have h_:=hlen_ (by first | assumption | exact hpc.2 | exact hpc.1.2 | simp_all);omega)) (by have hq0:=hpc;(try simp only [aR,aG,ar,am,ai,ah] at hq0);first | omega | (have h_:=hlen_ (by first | assumption | exact hpc.2 | exact hpc.1.2 | simp_all);omega)),bm 6 rfl fun c hpc=>dh rfl bd aT (c.M 11 hpc),bm 6 rfl fun c hpc=>cq (vs:=[(aj ((nth msav2_ (i:Int)).a)),(aj ((nth msav2_ (i:Int)).b))]) rfl cV aT (c.M 12 hpc) rfl (fun j_ u_ hj=>by rw [add_add,add_add];have h_:=((c.iz 2 rfl).1).elem (j:=0+j_) (bF (i:=(i:Int)) (by have hq0:=hpc;(try simp only [aR,aG,ar,am,ai,ah] at hq0);first | omega | (have h_:=hlen_ (by first | assumption | exact hpc.2 | exact hpc.1.2 | simp_all);omega)) (by have hq0:=hpc;(try simp only [aR,aG,ar,am,ai,ah] at hq0);first | omega | (have h_:=hlen_ (by first | assumption | exact hpc.2 | exact hpc.1.2 | simp_all);omega))) (by revert hj;cases j_ with | zero=>exact id | succ j_=>cases j_ with | zero=>exact id | succ j_=>intro hj;simp at hj);rwa [add_add] at h_),bm 6 rfl fun c hpc=>jU (p:=((aM at4_.1).1,(aM at4_.1).2)) (q:=((nth msav2_ (i:Int)).a,(nth msav2_ (i:Int)).b)) rfl (c.M 8 hpc) (c.M 13 hpc),dm 6 14,bD 15,bm 16 rfl fun c hpc=>dh rfl bd co ((c.p e12).trans r5.ptr),bm 16 rfl fun c hpc=>aI rfl cG (c.M 17 hpc) ((c.B 5).cell (j:=2) rfl),bm 16 rfl fun c hpc=>aS rfl (c.p e9),bm 16 rfl fun c hpc=>aS rfl (c.p e16),bm 16 rfl fun c hpc=>aX rfl dV bi (c.M 19 hpc) (r2).1.sl (c.M 20 hpc) (by have hq0:=hpc;(try simp only [aR,aG,ar,am,ai,ah,dA] at hq0);first | omega | (have h_:=hlen_ (by first | assumption | exact hpc.2 | exact hpc.1.2 | simp_all);omega)) (by have hq0:=hpc;(try simp only [aR,aG,ar,am,ai,ah,dA] at hq0);first | omega | (have h_:=hlen_ (by first | assumption | exact hpc.2 | exact hpc.1.2 | simp_all);omega)),bm 16 rfl fun c hpc=>dh rfl bd co (c.M 21 hpc),bm 16 rfl fun c hpc=>aI rfl cG (c.M 22 hpc) (((c.iz 2 rfl).1).elem (j:=2) (bF (i:=(i:Int)) (by have hq0:=hpc;(try simp only [aR,aG,ar,am,ai,ah,dA] at hq0);first | omega | (have h_:=hlen_ (by first | assumption | exact hpc.2 | exact hpc.1.2 | simp_all);omega)) (by have hq0:=hpc;(try simp only [aR,aG,ar,am,ai,ah,dA] at hq0);first | omega | (have h_:=hlen_ (by first | assumption | exact hpc.2 | exact hpc.1.2 | simp_all);omega))) rfl),fC 16 false rfl fun c hpc=>⟨_,_,(ck rfl rfl kt (c.M 18 hpc) (c.M 23 hpc)),kX mv4_.v ((nth msav2_ (i:Int)).pv.v) (bJ at4_.1) ((nth msav2_ (i:Int)).ps) _ (c.iz 6 rfl).1 (wW (i:=(i:Int)) (c.iz 3 rfl) (by have hq0:=hpc;(try simp only [aR,aG,ar,am,ai,ah,dA] at hq0);first | omega | (have h_:=hlen_ (by first | assumption | exact hpc.2 | exact hpc.1.2 | simp_all);omega)) (by have hq0:=hpc;(try simp only [aR,aG,ar,am,ai,ah,dA] at hq0);first | omega | (have h_:=hlen_ (by first | assumption | exact hpc.2 | exact hpc.1.2 | simp_all);omega))).1⟩,bm 16 rfl fun c hpc=>ew rfl (c.M 24 hpc),aq (v:=(aE false)) fun c=>cA.isB (b:=(((!decide (at4_.2.2=0)) || (!at4_.1.isSome)) || (!(dA ((aM at4_.1).1,(aM at4_.1).2) ((nth msav2_ (i:Int)).a,(nth msav2_ (i:Int)).b)))) || (!(decide (bJ at4_.1=(nth msav2_ (i:Int)).ps)))) (pT rfl (c.q 16) (fun h=>c.M 25 h)) (by obtain ⟨h1_,h2_⟩:=hR4_ (by omega) _ (by assumption);rw [h1_,h2_];simp [dA,aM,bJ]),av⟩ fun ac ag ae ab aa=> ?_;obtain ⟨e1,e2,e7,e9,e12,e14,e15,e16,e17,e103,e147,e154⟩:=aa.k12 e1 e2 e7 e9 e12 e14 e15 e16 e17 e103 e147 e154;have e193:=aa.V 26;obtain ⟨r0,r2,r3,r6⟩:=aa.z4 0 2 3 6;replace r1:=aa.B 1;replace r4:=aa.B 4;replace r5:=aa.B 5;refine wp_cond_false e193 ?_;refine wp_skip ?_;show _;refine fX ab [jz 0 r0,jb r1,jz 2 r2,jz 3 r3,jb r4,jb r5,jz 6 r6] ⟨ao e16,aq fun c=>cN rfl (c.q 0) rfl (by first | omega | (have h_:=hlen_ (by first | assumption | exact hpc.2 | exact hpc.1.2 | simp_all);omega)),aK 1,av⟩ fun ac ag ae ab aa=> ?_;obtain ⟨e1,e2,e7,e9,e12,e14,e15,e17,e103,e147,e154,e193⟩:=aa.k12 e1 e2 e7 e9 e12 e14 e15 e17 e103 e147 e154 e193;have e16:=aa.V 2;obtain ⟨r0,r2,r3,r6⟩:=aa.z4 0 2 3 6;replace r1:=aa.B 1;replace r4:=aa.B 4;replace r5:=aa.B 5;refine ⟨⟨i+1,(aM at4_.1).1,(aM at4_.1).2,mv4_.v,ae,?_,ab,(e16.trans (bB (by omega))),e1,e2,e7,e9,e12,r5,r0,r1,r2,r3⟩,?_⟩
     · omega
     · simp only [m16,e16,intOf];omega
   try simp only [ah,aV] at hc6
   refine wp_skip ?_;show _;refine fX ab [jz 0 r0,jb r1,jz 2 r2,jz 3 r3,jb r4,jb r5] ⟨ao e16,aq fun c=>cN rfl (c.q 0) rfl (by first | omega | (have h_:=hlen_ (by first | assumption | exact hpc.2 | exact hpc.1.2 | simp_all);omega)),aK 1,av⟩ fun ac ag ae ab aa=> ?_;obtain ⟨e1,e2,e7,e9,e12,e17,e103,e147,e154⟩:=aa.k9 e1 e2 e7 e9 e12 e17 e103 e147 e154;have e16:=aa.V 2;obtain ⟨r0,r2,r3⟩:=aa.z3 0 2 3;replace r1:=aa.B 1;replace r4:=aa.B 4;replace r5:=aa.B 5;refine ⟨⟨i+1,ca,cb,cm,ae,?_,ab,(e16.trans (bB (by omega))),e1,e2,e7,e9,e12,r5,r0,r1,r2,r3⟩,?_⟩
   · omega
   · simp only [m16,e16,intOf];omega
 try simp only [ah,aV] at hc4
 refine wp_exit ?_;repeat (with_reducible refine cy ?_)
 refine cC ?_;refine wp_seq (eA ab [jz 0 r0,jb r1,jz 2 r2,jz 3 r3,jb r5] ⟨eE fun c=>⟨_,_,(fN rfl rfl dN),fO _⟩,aK 0,av⟩ fun ac ag ae ab aa=> ?_);have e6:=aa.V 1;obtain ⟨r0,r2,r3⟩:=aa.z3 0 2 3;refine wp_ret ?_;refine rp ?_;refine cO (fn:=Tryz.f7) rfl ab.defers e6 ?_;refine ⟨congrArg _ (congrArg _ ?_),ab.ext0⟩;rfl
end
end B
end Go.Proofs.YtcfdebjhikahfaaGreat
namespace Go.Proofs.YtcfdebjhikahfaaGreat
open Go.ChangeShapes Go.WideShapes Go.ChangeAt Go.RowKit
namespace B
theorem sK:ownKnob Tryz.prog.godebug=none:=by kernel_rfl
theorem kJ:laidOutB Tryz.prog=true:=by kernel_rfl
set_option maxRecDepth 100000 in
theorem tZ (H:Type) (enc:TypeId × Value→H) (W:World) (base:Nat) (args:Array Value) (ds gs:List (DataW H)) (before:List MemPlace)
    (hval:∀(j:Nat) t v,Tryz.f7.params[j]? =some t→args[j]? =some v→Value.okWide Tryz.prog W .any base t v)
    (hW:DataW.Whole enc Tryz.prog Tryz.f7.params.toList Rows.allRisesSpec.vars false W args.toList ds gs before):
    Calls Tryz.prog 7 args W fun e W'=>∃v,e= .returned v∧Rows.allRisesSpec.post enc Tryz.prog Tryz.f7 false true false false W args v W':=by
  have hW':=hW;obtain ⟨p,q,hA0,hV,rfl,hfz,hnd⟩:=hW;have hA:DataW.TrodAll enc Tryz.prog W 0 (fun _=>true) true Tryz.f7.params.toList args.toList ds p:=hA0;rw [Tryz.params7] at hA hval;obtain ⟨v0,vs0,d0,ds0,p0,q0,hargs0,rfl,rfl,h0,r0⟩:=trodAll_cons hA;obtain ⟨v1,vs1,d1,ds1,p1,q1,hargs1,rfl,rfl,h1,r1⟩:=trodAll_cons r0;obtain ⟨v2,vs2,d2,ds2,p2,q2,hargs2,rfl,rfl,h2,r2⟩:=trodAll_cons r1;obtain ⟨rfl,rfl,rfl⟩:=trodAll_nil r2;subst hargs2;subst hargs1;obtain rfl:args=#[v0,v1,v2]:=by first | exact Array.ext' hargs0 | (cases args;simp_all)
  obtain ⟨x0,rfl,rfl,rfl,b0⟩:=Go.ChangeMaps.open_string aZ (hval 0 9 v0 rfl rfl) h0;obtain ⟨x1,rfl,rfl,rfl⟩:=open_bool cT (hval 1 4 v1 rfl rfl) h1;obtain ⟨x2,rfl,rfl,rfl,b2⟩:=Go.ChangeMaps.open_string aZ (hval 2 9 v2 rfl rfl) h2;exact (Cp x0 x1 x2 W).mono fun e W' ⟨he,hx⟩=>⟨_,he,lU kJ hW' rfl (by kernel_rfl) rfl rfl cT hx⟩
set_option maxRecDepth 100000 in
theorem vj (os:Os) (started:os.Started) (H:Type) (enc:TypeId × Value→H):
    ReturnsInHanded {} Tryz.checked os 7 .any (Rows.allRisesSpec.pre6 enc Tryz.prog Tryz.f7 Rows.allRisesRow.domain false) (Rows.allRisesSpec.post enc Tryz.prog Tryz.f7 false true false false):=by
  refine returnsInHanded_of_change (C:=Tryz.checked) sK started (by kernel_rfl) Tryz.func7
    (ChangeSpec.witness6 (enc:=enc) (C:=Tryz.checked) false ⟨#[],#[.string ⟨#[]⟩,.bool false,.string ⟨#[]⟩],[]⟩ 8 (by kernel_rfl) (by kernel_rfl) (by kernel_rfl) (by kernel_rfl)) ?_
  intro W base args ds gs before hval hW _ _;exact tZ H enc W base args ds gs before hval hW
theorem allRises_holds:Rows.AllRisesSaid:=
  OpenClaim.holds_of_wide 7 Tryz.f7 rfl rfl rfl rfl rfl rfl rfl ⟨rfl,rfl,rfl,rfl,rfl⟩ rfl rfl rfl rfl rfl (by kernel_rfl) Tryz.func7 (by kernel_rfl)
    (of_decide_eq_true (by kernel_rfl)) (by unfold Func.isWrapper;first | (rw [if_pos (by decide+kernel)];kernel_rfl) | (rw [if_neg (by decide+kernel)];exact ⟨rfl,rfl⟩))
    (fun os started H enc _=>vj os started H enc)
end B
end Go.Proofs.YtcfdebjhikahfaaGreat
