/-
  Proved here: the given statement RunAltSaid of chapter 16, that is: the law RunAlt answers true for every three texts and place.
  Conditions: none beyond the statement. Own texts, put together and shortened by programs.
-/
import Derived.Test.YtcfdebjhikahfaaGreatZx7
import Derived.Test.YtcfdebjhikahfaaGreatRows
import Derived.ChangeMaps5
set_option linter.unusedSimpArgs false
set_option linter.unusedVariables false
set_option linter.unusedSectionVars false
namespace Go.Proofs.YtcfdebjhikahfaaGreat
section
open Go.RowKit
abbrev dE:=@Nat.lt_of_le_of_lt
abbrev nn:=@Nat.not_lt_zero
abbrev dN:=@Tryz.call15
abbrev lf:=@Tryz.call22
abbrev jM:=@Tryz.call25
abbrev kt:=@Tryz.call26
abbrev jN:=@Tryz.call34
end
namespace B
section
open Go.RowKit
section
variable {P:Program} {a:Act} {o:Oper} {w:World}
section ints
variable {t t':TypeId} {x y:Operand} {k:IntKind} {p q:Int}
theorem tH (ho:o.op= .binOp .rem t x y t') (hx:a.eval x= .int k p) (hy:a.eval y= .int k q) (hq:q≠0):cA P a o w (.int k (p.tmod q)):=by
  simp [cA,execOp,ho,hx,hy,eqGuard,binOp,Op.intDiv,hq]
end ints
section memory
variable {t e:TypeId} {x y:Operand} {p:Addr}
end memory
end
end
section
open Go.RowKit
section
variable {N:bj} {τ:Nat→bj} {w:World}
end
section
variable {N:bj} {n:Nat} {W0 a0':World} {l:List Oper} {sp:List (Spec N)} {a0:Act} {w0:World} {τ0:Nat→bj} {bf:List Nat} {id:Nat} {draw:Bool} {Q:Exit→Act→World→Prop} {P:Program}
end
section
variable {N:bj} {l:List Oper} {sp:List (Spec N)} {il:List (Ini N)} {a0 a:Act} {w:World} {τ:Nat→bj}
theorem Fin.k13 (h:Fin l sp il a0 a w τ) {t0 t1 t2 t3 t4 t5 t6 t7 t8 t9 t10 t11 t12:Nat} {v0 v1 v2 v3 v4 v5 v6 v7 v8 v9 v10 v11 v12:Value} (e0:be a0 t0=v0) (e1:be a0 t1=v1) (e2:be a0 t2=v2) (e3:be a0 t3=v3) (e4:be a0 t4=v4) (e5:be a0 t5=v5) (e6:be a0 t6=v6) (e7:be a0 t7=v7) (e8:be a0 t8=v8) (e9:be a0 t9=v9) (e10:be a0 t10=v10) (e11:be a0 t11=v11) (e12:be a0 t12=v12) (hu:([t0,t1,t2,t3,t4,t5,t6,t7,t8,t9,t10,t11,t12].all (kU l))=true:=by kernel_rfl):be a t0=v0∧be a t1=v1∧be a t2=v2∧be a t3=v3∧be a t4=v4∧be a t5=v5∧be a t6=v6∧be a t7=v7∧be a t8=v8∧be a t9=v9∧be a t10=v10∧be a t11=v11∧be a t12=v12:=by
  simp only [ec,fy,au] at hu;exact ⟨h.old e0 hu.1,h.old e1 hu.2.1,h.old e2 hu.2.2.1,h.old e3 hu.2.2.2.1,h.old e4 hu.2.2.2.2.1,h.old e5 hu.2.2.2.2.2.1,h.old e6 hu.2.2.2.2.2.2.1,h.old e7 hu.2.2.2.2.2.2.2.1,h.old e8 hu.2.2.2.2.2.2.2.2.1,h.old e9 hu.2.2.2.2.2.2.2.2.2.1,h.old e10 hu.2.2.2.2.2.2.2.2.2.2.1,h.old e11 hu.2.2.2.2.2.2.2.2.2.2.2.1,h.old e12 hu.2.2.2.2.2.2.2.2.2.2.2.2.1⟩
theorem Fin.k14 (h:Fin l sp il a0 a w τ) {t0 t1 t2 t3 t4 t5 t6 t7 t8 t9 t10 t11 t12 t13:Nat} {v0 v1 v2 v3 v4 v5 v6 v7 v8 v9 v10 v11 v12 v13:Value} (e0:be a0 t0=v0) (e1:be a0 t1=v1) (e2:be a0 t2=v2) (e3:be a0 t3=v3) (e4:be a0 t4=v4) (e5:be a0 t5=v5) (e6:be a0 t6=v6) (e7:be a0 t7=v7) (e8:be a0 t8=v8) (e9:be a0 t9=v9) (e10:be a0 t10=v10) (e11:be a0 t11=v11) (e12:be a0 t12=v12) (e13:be a0 t13=v13) (hu:([t0,t1,t2,t3,t4,t5,t6,t7,t8,t9,t10,t11,t12,t13].all (kU l))=true:=by kernel_rfl):be a t0=v0∧be a t1=v1∧be a t2=v2∧be a t3=v3∧be a t4=v4∧be a t5=v5∧be a t6=v6∧be a t7=v7∧be a t8=v8∧be a t9=v9∧be a t10=v10∧be a t11=v11∧be a t12=v12∧be a t13=v13:=by
  simp only [ec,fy,au] at hu;exact ⟨h.old e0 hu.1,h.old e1 hu.2.1,h.old e2 hu.2.2.1,h.old e3 hu.2.2.2.1,h.old e4 hu.2.2.2.2.1,h.old e5 hu.2.2.2.2.2.1,h.old e6 hu.2.2.2.2.2.2.1,h.old e7 hu.2.2.2.2.2.2.2.1,h.old e8 hu.2.2.2.2.2.2.2.2.1,h.old e9 hu.2.2.2.2.2.2.2.2.2.1,h.old e10 hu.2.2.2.2.2.2.2.2.2.2.1,h.old e11 hu.2.2.2.2.2.2.2.2.2.2.2.1,h.old e12 hu.2.2.2.2.2.2.2.2.2.2.2.2.1,h.old e13 hu.2.2.2.2.2.2.2.2.2.2.2.2.2.1⟩
end
section
variable {N:bj} {P:Program} {ops:Array Oper} {sp:List (Spec N)} {In:Nat→Ini N} {a0:Act} {w0:World} {bf:List Nat} {j:Nat} {o:Oper} {done:Nat→Bool} {a:Act} {w:World} {τ:Nat→bj}
end
section
variable {N:bj} {P:Program} {ops:Array Oper} {sp:List (Spec N)} {In:Nat→Ini N} {a0:Act} {w0:World} {bf:List Nat} {j:Nat} {o:Oper} {s:Spec N} {t d:Nat} {v:Value}
end
section
variable {P:Program} {a:Act} {o:Oper} {w:World} {t:TypeId} {x:Operand}
end
end
section
open Go.ChangeShapes Go.WideShapes Go.ChangeAt Go.RowKit
section
variable {P:Program} {e:TypeId}
end
section
variable {P:Program} {W:World} {H:Type} {enc:TypeId × Value→H} {base:Nat} {spare:Nat→Bool} {held:Bool}
theorem jB {t:TypeId} (ht:P.underlying t=some (.int .i64)) {r:Reach} {b0:Nat} {v:Value} (hv:Value.okWide P W r b0 t v) {d:DataW H} {p:List MemPlace} (h:DataW.Trod enc P W base spare held t v d p):∃n,v= .int .i64 n∧ -9223372036854775808≤n∧n≤9223372036854775807:=by
  obtain ⟨n,rfl,_,_,hw⟩:=open_int ht hv h;simp [Lit.wf,IntKind.min,IntKind.max,IntKind.signed,IntKind.bits] at hw;exact ⟨n,rfl,hw⟩
end
end
section
open Go.RowKit
def ff (x n:Int):Int:=IntKind.i64.wrap ((IntKind.u64.wrap x).tmod (IntKind.u64.wrap n))
theorem nH {n:Int} (h:0 < n) (h2:n≤9223372036854775807):IntKind.u64.wrap n≠0:=by
  have:IntKind.u64.wrap n=n:=by simp [IntKind.wrap,IntKind.signed,IntKind.bits];omega
  omega
theorem kn {α:Type} [Inhabited α] {xs ys:List α} {k:Nat} (h:k < xs.length) (h':k < ys.length) (hq:xs.take k=ys.take k) (h0:nth xs (k:Int)=nth ys (k:Int)):xs.take (k+1)=ys.take (k+1):=by
  rw [eH h,eH h',hq,h0]
theorem jC {α:Type} [Inhabited α] {xs ys:List α} {i:Int} (h:¬nth xs i=nth ys i):¬xs=ys:=fun e=>h (by rw [e])
theorem go {α:Type} {xs ys:List α} {k:Nat} (hl:xs.length=ys.length) (hk:k≤xs.length) (hq:xs.take k=ys.take k) (h:(xs.length:Int)≤k):xs=ys:=by
  rwa [bw (by omega),bw (by omega)] at hq
def dA (p q:Int × Int):Bool:=decide (p=q)
theorem ko (p q:Int × Int):dA p q=(decide (p.1=q.1)&&decide (p.2=q.2)):=by
  rw [eZ];simp [dA,Prod.ext_iff]
set_option maxRecDepth 100000 in
theorem iW (p q:Int × Int) (w:World):(Op.equal 38 (fB p) (fB q)).run Tryz.prog w= .ok (dA p q) w:=by
  rw [ko];have h:=run_equalIn_struct (P:=Tryz.prog) w 9999 38 #[.int .i64 p.1,.int .i64 p.2] #[.int .i64 q.1,.int .i64 q.2] rfl Tryz.stoodInHeld38;simp only [Op.equal,Op.maxDepth,fB,h];simp [Program.fieldsOf,Op.eqFields,part,go_sem];by_cases h1:p.1=q.1 <;> by_cases h2:p.2=q.2 <;> simp [h1,h2]
theorem mU {a:Act} {o:Oper} {w:World} {x y:Operand} {t':TypeId} {p q:Int × Int} (ho:o.op= .binOp .eql 38 x y t') (hx:a.eval x=fB p) (hy:a.eval y=fB q):cA Tryz.prog a o w (.bool (dA p q)):=by
  have h:=iW p q w;simp only [fB] at h hx hy;simp [cA,execOp,ho,hx,hy,eqGuard,binOp,h]
theorem jU {a:Act} {o:Oper} {w:World} {x y:Operand} {t':TypeId} {p q:Int × Int} (ho:o.op= .binOp .neq 38 x y t') (hx:a.eval x=fB p) (hy:a.eval y=fB q):cA Tryz.prog a o w (.bool (!dA p q)):=by
  have h:=iW p q w;simp only [fB] at h hx hy;simp [cA,execOp,ho,hx,hy,eqGuard,binOp,h]
set_option maxRecDepth 100000 in
theorem qC (x n:Int) (w:World) (hn:0 < n) (hn2:n≤9223372036854775807):Calls Tryz.prog 22 #[aj x,aj n] w (fun e w'=>e= .returned (aj (ff x n))∧Ext aW w w'):=by
 refine enter (n:=11) Tryz.func22 rfl rfl (aw rfl) ?_;intro a0 τ0 ha st0;obtain ⟨e0,e1⟩:=qG ha;refine wp_seq (eK st0 [] ⟨aq fun c=>ax rfl rfl,av⟩ fun ac ag ae ab aa=> ?_);obtain ⟨e0,e1⟩:=aa.k2 e0 e1;have e4:=aa.V 0;refine wp_seq (ue [0,1,0,4,15,31,63] ab [] ⟨ao e0,aq fun c=>lg rfl bX cB (c.q 0),ao e1,aq fun c=>lg rfl bX cB (c.q 2),aq fun c=>tH rfl (c.q 1) (c.q 3) (by exact nH hn hn2),aq fun c=>lg rfl cB bX (c.q 4),aK 5,av⟩ fun ac ag ae ab aa=> ?_);have e4:=aa.V 6;refine wp_ret ?_;refine rp ?_;refine cO (fn:=Tryz.f22) rfl ab.defers e4 ?_;exact ⟨rfl,ab.ext0⟩
set_option maxRecDepth 100000 in
theorem kX (v u:Value) (xs ys:List (Int × Int)) (w:World) (hS:SlT cF w v xs) (hU:SlT cF w u ys):Calls Tryz.prog 26 #[v,u] w (fun e w'=>e= .returned (aE (decide (xs=ys)))∧Ext aW w w'):=by
 refine enter (n:=26) Tryz.func26 rfl rfl (aw rfl) ?_;intro a0 τ0 ha st0;obtain ⟨e0,e1⟩:=qG ha;have hle:=hS.le;have hle2:=hU.le;refine wp_seq (eK st0 [] ⟨aq fun c=>ax rfl rfl,av⟩ fun ac ag ae ab aa=> ?_);obtain ⟨e0,e1⟩:=aa.k2 e0 e1;have e4:=aa.V 0;refine wp_seq ?_;refine wp_seq (vO [0,1,0,4,15] ab [] ⟨ao e0,aq fun c=>dk rfl bh (c.q 0) hS.sl,ao e1,aq fun c=>dk rfl bh (c.q 2) hU.sl,aq fun c=>fh rfl (c.q 1) (c.q 3),av⟩ fun ac ag ae ab aa=> ?_);obtain ⟨e0,e1,e4⟩:=aa.k3 e0 e1 e4;have e10:=aa.V 4;refine wp_cond_split e10 (fun hc1=> ?_) (fun hc1=> ?_)
 · try simp only [ar,am,ai,ah] at hc1
   refine wp_seq (eK ab [] ⟨aq fun c=>ax rfl rfl,av⟩ fun ac ag ae ab aa=> ?_);obtain ⟨e0,e1⟩:=aa.k2 e0 e1;have e4:=aa.V 0;refine wp_ret ?_;refine rp ?_;refine cO (fn:=Tryz.f26) rfl ab.defers e4 ?_;exact ⟨congrArg _ (congrArg _ (by first | (symm;exact decide_eq_false (fun h=>by subst h;omega)) | (symm;exact decide_eq_false (jC (by assumption))) | (symm;exact decide_eq_true (go q1 q0 q2 (by assumption))))),ab.ext0⟩
 try simp only [ar,am,ai,ah] at hc1
 refine wp_skip ?_;refine wp_seq ?_;refine wp_seq (eK ab [] ⟨aq fun c=>ax rfl rfl,av⟩ fun ac ag ae ab aa=> ?_);obtain ⟨e0,e1,e4⟩:=aa.k3 e0 e1 e4;have e5:=aa.V 0;refine wp_block ?_;refine wp_loop (fun a_ w_=>∃(k:Nat) (τ:Nat→bj),(k≤xs.length)∧
      (xs.length=ys.length)∧
      (xs.take k=ys.take k)∧
      St (Nw w) w 26 a_ w_ τ∧
      be a_ 5=(aj (k:Int))∧
      be a_ 0=v∧
      be a_ 1=u) (fun a_ _=>xs.length - (intOf (be a_ 5)).toNat) ?_ ?_
 · refine ⟨0,ae,?_,?_,?_,ab,(e5.trans (bB (by omega))),e0,e1⟩
   · omega
   · omega
   · simp
 intro a5 w5 hI;obtain ⟨k,τ5,q0,q1,q2,st5,e5,e0,e1⟩:=hI;have m5:=e5;refine wp_seq ?_;refine wp_seq (lr [0,0,2,7] st5 [] ⟨ao e5,ao e0,aq fun c=>dk rfl bh (c.q 1) hS.sl,aq fun c=>cW rfl (c.q 0) (c.q 2),av⟩ fun ac ag ae ab aa=> ?_);obtain ⟨e0,e1,e5⟩:=aa.k3 e0 e1 e5;have e14:=aa.V 3;refine wp_cond_split e14 (fun hc2=> ?_) (fun hc2=> ?_)
 · try simp only [ai] at hc2
   refine wp_skip ?_;refine wp_seq ?_;refine wp_block ?_;refine wp_seq (xD [0,0,3,7,0,0,48,112,255] ab [] ⟨ao e0,ao e5,aq fun c=>aX rfl bh aT (c.q 0) hS.sl (c.q 1) (by omega) (by omega),aq fun c=>cq (vs:=[(aj ((nth xs (k:Int)).1)),(aj ((nth xs (k:Int)).2))]) rfl cV aT (c.q 2) rfl (fun _ _ hj=>(hS.at (ab.ext.trans c.J.ext)).elem (bF (i:=(k:Int)) (by omega) (by omega)) hj),ao e1,ao e5,aq fun c=>aX rfl bh aT (c.q 4) hU.sl (c.q 5) (by omega) (by omega),aq fun c=>cq (vs:=[(aj ((nth ys (k:Int)).1)),(aj ((nth ys (k:Int)).2))]) rfl cV aT (c.q 6) rfl (fun _ _ hj=>(hU.at (ab.ext.trans c.J.ext)).elem (bF (i:=(k:Int)) (by omega) (by omega)) hj),aq fun c=>jU rfl (c.q 3) (c.q 7),av⟩ fun ac ag ae ab aa=> ?_);obtain ⟨e0,e1,e5,e14⟩:=aa.k4 e0 e1 e5 e14;have e25:=aa.V 8;refine wp_cond_split e25 (fun hc3=> ?_) (fun hc3=> ?_)
   · try simp only [ar,am,ai,ah,dA] at hc3
     refine wp_seq (eK ab [] ⟨aq fun c=>ax rfl rfl,av⟩ fun ac ag ae ab aa=> ?_);obtain ⟨e0,e1,e5,e14,e25⟩:=aa.k5 e0 e1 e5 e14 e25;have e4:=aa.V 0;refine wp_ret ?_;refine rp ?_;refine cO (fn:=Tryz.f26) rfl ab.defers e4 ?_;exact ⟨congrArg _ (congrArg _ (by first | (symm;exact decide_eq_false (fun h=>by subst h;omega)) | (symm;exact decide_eq_false (jC (by assumption))) | (symm;exact decide_eq_true (go q1 q0 q2 (by assumption))))),ab.ext0⟩
   try simp only [ar,am,ai,ah,dA] at hc3
   refine wp_skip ?_;show _;refine fX ab [] ⟨ao e5,aq fun c=>cN rfl (c.q 0) rfl (by omega),aK 1,av⟩ fun ac ag ae ab aa=> ?_;obtain ⟨e0,e1,e14,e25⟩:=aa.k4 e0 e1 e14 e25;have e5:=aa.V 2;refine ⟨⟨k+1,ae,?_,?_,?_,ab,(e5.trans (bB (by omega))),e0,e1⟩,?_⟩
   · omega
   · omega
   · exact kn (by omega) (by omega) q2 (by assumption)
   · simp only [m5,e5,intOf];omega
 try simp only [ah,aV] at hc2
 refine wp_exit ?_;repeat (with_reducible refine cy ?_)
 refine cC ?_;refine wp_seq (eK ab [] ⟨aq fun c=>ax rfl rfl,av⟩ fun ac ag ae ab aa=> ?_);have e4:=aa.V 0;refine wp_ret ?_;refine rp ?_;refine cO (fn:=Tryz.f26) rfl ab.defers e4 ?_;exact ⟨congrArg _ (congrArg _ (by first | (symm;exact decide_eq_false (fun h=>by subst h;omega)) | (symm;exact decide_eq_false (jC (by assumption))) | (symm;exact decide_eq_true (go q1 q0 q2 (by assumption))))),ab.ext0⟩
end
section
open Go.RowKit
open Srt
set_option maxRecDepth 100000 in
theorem pj (t:Tr) (ih:∀k ∈ t.kids,∀(w:World),oO w k→di k≤1000000000→Calls Tryz.prog 34 #[k.v] w (fun e w'=>e= .returned (aj (cL k))∧Ext aW w w')) (w:World) (hT:oO w t) (hy0:di t≤1000000000):Calls Tryz.prog 34 #[t.v] w (fun e w'=>e= .returned (aj (cL t))∧Ext aW w w'):=by
 refine enter (n:=22) Tryz.func34 rfl rfl (aw rfl) ?_;intro a0 τ0 ha st0;have e0:be a0 0=(ta t):=ha 0 _ rfl;clear ha;have hle:=hT.kids.le;have hf0:∀q ∈ t.kids,0≤cL q:=fun q _=>(iN q).1;have hf1:∀q ∈ t.kids,0≤di q:=fun q _=>by have:=kE q;omega
 have hgb:=iN t;have hpe:=mJ t;have hpm:∀k:Nat,k < t.kids.length→di (nth t.kids (k:Int))≤1000000000:=fun k h_=>by
   have h1_:=mR hf1 (bN (xs:=t.kids) (i:=(k:Int)) (by omega) (by omega));have h2_:=iG t;omega
 refine wp_seq (rg [box _ _ 0 1 (tc t),_] [0,0] st0 [] ⟨hH (v:=(ta t)) rfl rfl rfl rfl rfl (fun _ _ _ _ c=>(c.p e0)),aq fun c=>ax rfl rfl,av⟩ fun ac ag ae ab aa=> ?_);obtain ⟨b1x1,e1⟩:=gx ac 1;have e2:=aa.V 1;have r0:=aa.rb 0 e1 rfl;refine wp_seq (eK ab [jb r0] ⟨aq fun c=>ax rfl rfl,av⟩ fun ac ag ae ab aa=> ?_);obtain ⟨e1,e2⟩:=aa.k2 e1 e2;have e3:=aa.V 0;replace r0:=aa.B 0;refine wp_seq ?_;refine wp_seq (fX ab [jb r0] ⟨cK aJ aA e1 r0.ptr,fE aN 0 0 0,aq fun c=>cY rfl (c.q 1) rfl,av⟩ fun ac ag ae ab aa=> ?_);obtain ⟨e1,e2,e3⟩:=aa.k3 e1 e2 e3;have e8:=aa.V 2;replace r0:=aa.B 0;refine wp_cond_split e8 (fun hc1=> ?_) (fun hc1=> ?_)
 · try simp only [ai] at hc1
   refine eK ab [jb r0] ⟨aq fun c=>ax rfl rfl,av⟩ fun ac ag ae ab aa=> ?_;obtain ⟨e1,e2⟩:=aa.k2 e1 e2;have e3:=aa.V 0;replace r0:=aa.B 0;refine wp_seq ?_;refine wp_seq (lr [0,1,3,0] ab [jb r0] ⟨cK aJ cR e1 r0.ptr,fE dG 0 0 7,aq fun c=>dk rfl aU (c.q 1) (hT.at ab.ext).tl.sl.sl,aq fun c=>aS rfl rfl,av⟩ fun ac ag ae ab aa=> ?_);obtain ⟨e2,e3⟩:=aa.k2 e2 e3;have e10:=aa.V 1;have e11:=aa.V 2;have e12:=aa.V 3;refine wp_block ?_;refine wp_loop (fun a_ w_=>∃(k:Nat) (τ:Nat→bj),(k≤t.kids.length)∧
          St (Nw w) w 22 a_ w_ τ∧
          be a_ 3=(aj ((if t.k=5 then 1 else 0)+dH ((t.kids.take k).map cL)))∧
          be a_ 12=(aj (k:Int))∧
          be a_ 2=(aj 0)∧
          be a_ 10=t.kv.v∧
          be a_ 11=(aj (t.kids.length:Int))) (fun a_ _=>t.kids.length - (intOf (be a_ 12)).toNat) ?_ ?_
   · refine ⟨0,ae,?_,ab,(e3.trans (bB (by first | omega | (rw [if_pos (by assumption)];rfl) | (rw [if_neg (by assumption)];rfl)))),(e12.trans (bB (by first | omega | (rw [if_pos (by assumption)];rfl) | (rw [if_neg (by assumption)];rfl)))),e2,e10,e11⟩
     · omega
   intro a6 w6 hI;obtain ⟨k,τ6,q0,st6,e3,e12,e2,e10,e11⟩:=hI;have hsl:=pd (f:=cL) hf0 k;have hss:k < t.kids.length→cL (nth t.kids (k:Int))≤dH (t.kids.map cL)∧dH ((t.kids.take (k+1)).map cL)=dH ((t.kids.take k).map cL)+cL (nth t.kids (k:Int)):=fun h_=>⟨mR hf0 (bN (by omega) (by omega)),pE h_⟩
   have hs2:=pd (f:=cL) hf0 (k+1);have hpk:=hpm k;have hsp:(0:Int)≤(if t.k=5 then 1 else 0)∧(if t.k=5 then (1:Int) else 0)≤1:=by split <;> omega
   have m12:=e12;refine wp_seq (eK st6 [] ⟨aq fun c=>cW rfl (c.p e12) (c.p e11),av⟩ fun ac ag ae ab aa=> ?_);obtain ⟨e2,e3,e10,e11,e12⟩:=aa.k5 e2 e3 e10 e11 e12;have e13:=aa.V 0;refine wp_seq ?_;refine wp_cond_split e13 (fun hc2=> ?_) (fun hc2=> ?_)
   · try simp only [ai] at hc2
     refine wp_skip ?_;refine wp_seq ?_;refine wp_block ?_;refine wp_seq (rg [_,_,box _ _ 0 5 [(aj 0),(bc (⟨#[]⟩:ByteArray)),(aE false),(.slice none 0 0),(aj 0),(aj 0),(aE false),(.slice none 0 0)],_] [0,1,0,7] ab [] ⟨aq fun c=>aX rfl aU ak (c.p e10) (hT.at ab.ext).tl.sl.sl (c.p e12) (by omega) (by omega),aq fun c=>cq (vs:=(tc (nth t.kids (k:Int)))) rfl az ak (c.q 0) rfl (fun _ _ hj=>((hT.at (ab.ext.trans c.J.ext)).tl.sl).elem (bF (i:=(k:Int)) (by omega) (by omega)) hj),bO rfl rfl rfl rfl aD rfl,ey (cx:=(tc (nth t.kids (k:Int)))) (off:=0) rfl ak fun c=>⟨c.rb 2 rfl,(c.rb 2 rfl).ptr,(c.q 1)⟩,av⟩ fun ac ag ae ab aa=> ?_);obtain ⟨b8x5,e5⟩:=gx ac 5;obtain ⟨e2,e3,e10,e11,e12,e13⟩:=aa.k6 e2 e3 e10 e11 e12 e13;have r0:=aa.rb 3 e5 rfl;refine vO [0,0,2,7,15] ab [jb r0] ⟨ao e3,aq fun c=>dY rfl az ak ((c.p e5).trans r0.ptr) (c.B 0),eE fun c=>⟨_,_,(bK rfl rfl jN (c.q 1)),ih _ (bN (by omega) (by omega)) _ ((hT.at (ab.ext.trans c.J.ext)).tl.el (by omega) (by omega)) (by omega)⟩,aq fun c=>cN rfl (c.q 0) (c.q 2) (by omega),aK 3,av⟩ fun ac ag ae ab aa=> ?_;obtain ⟨e2,e5,e10,e11,e12,e13⟩:=aa.k6 e2 e5 e10 e11 e12 e13;have e3:=aa.V 4;replace r0:=aa.B 0;show _;refine eA ab [jb r0] ⟨aq fun c=>cN rfl (c.p e12) rfl (by omega),bD 0,av⟩ fun ac ag ae ab aa=> ?_;obtain ⟨e2,e3,e5,e10,e11,e13⟩:=aa.k6 e2 e3 e5 e10 e11 e13;have e12:=aa.V 1;replace r0:=aa.B 0;refine ⟨⟨k+1,ae,?_,ab,(e3.trans (bB (by first | omega | (rw [if_pos (by assumption)];rfl) | (rw [if_neg (by assumption)];rfl)))),(e12.trans (bB (by first | omega | (rw [if_pos (by assumption)];rfl) | (rw [if_neg (by assumption)];rfl)))),e2,e10,e11⟩,?_⟩
     · omega
     · simp only [m12,e12,intOf];omega
   try simp only [ah,aV] at hc2
   refine wp_exit ?_;repeat (with_reducible refine cy ?_)
   refine cC ?_;refine wp_seq (eA ab [] ⟨ao e3,aK 0,av⟩ fun ac ag ae ab aa=> ?_);have e2:=aa.V 1;refine wp_ret ?_;refine rp ?_;refine cO (fn:=Tryz.f34) rfl ab.defers e2 ?_;have htk:dH ((t.kids.take k).map cL)=dH (t.kids.map cL):=by rw [bw (by omega)]
   exact ⟨congrArg _ (bB (by omega)),ab.ext0⟩
 try simp only [ah] at hc1
 refine wp_skip ?_;refine wp_seq ?_;refine wp_seq (lr [0,1,3,0] ab [jb r0] ⟨cK aJ cR e1 r0.ptr,fE dG 0 0 7,aq fun c=>dk rfl aU (c.q 1) (hT.at ab.ext).tl.sl.sl,aq fun c=>aS rfl rfl,av⟩ fun ac ag ae ab aa=> ?_);obtain ⟨e2,e3⟩:=aa.k2 e2 e3;have e10:=aa.V 1;have e11:=aa.V 2;have e12:=aa.V 3;refine wp_block ?_;refine wp_loop (fun a_ w_=>∃(k:Nat) (τ:Nat→bj),(k≤t.kids.length)∧
      St (Nw w) w 22 a_ w_ τ∧
      be a_ 3=(aj ((if t.k=5 then 1 else 0)+dH ((t.kids.take k).map cL)))∧
      be a_ 12=(aj (k:Int))∧
      be a_ 2=(aj 0)∧
      be a_ 10=t.kv.v∧
      be a_ 11=(aj (t.kids.length:Int))) (fun a_ _=>t.kids.length - (intOf (be a_ 12)).toNat) ?_ ?_
 · refine ⟨0,ae,?_,ab,(e3.trans (bB (by first | omega | (rw [if_pos (by assumption)];rfl) | (rw [if_neg (by assumption)];rfl)))),(e12.trans (bB (by first | omega | (rw [if_pos (by assumption)];rfl) | (rw [if_neg (by assumption)];rfl)))),e2,e10,e11⟩
   · omega
 intro a13 w13 hI;obtain ⟨k,τ13,q0,st13,e3,e12,e2,e10,e11⟩:=hI;have hsl:=pd (f:=cL) hf0 k;have hss:k < t.kids.length→cL (nth t.kids (k:Int))≤dH (t.kids.map cL)∧dH ((t.kids.take (k+1)).map cL)=dH ((t.kids.take k).map cL)+cL (nth t.kids (k:Int)):=fun h_=>⟨mR hf0 (bN (by omega) (by omega)),pE h_⟩
 have hs2:=pd (f:=cL) hf0 (k+1);have hpk:=hpm k;have hsp:(0:Int)≤(if t.k=5 then 1 else 0)∧(if t.k=5 then (1:Int) else 0)≤1:=by split <;> omega
 have m12:=e12;refine wp_seq (eK st13 [] ⟨aq fun c=>cW rfl (c.p e12) (c.p e11),av⟩ fun ac ag ae ab aa=> ?_);obtain ⟨e2,e3,e10,e11,e12⟩:=aa.k5 e2 e3 e10 e11 e12;have e13:=aa.V 0;refine wp_seq ?_;refine wp_cond_split e13 (fun hc3=> ?_) (fun hc3=> ?_)
 · try simp only [ai] at hc3
   refine wp_skip ?_;refine wp_seq ?_;refine wp_block ?_;refine wp_seq (rg [_,_,box _ _ 0 5 [(aj 0),(bc (⟨#[]⟩:ByteArray)),(aE false),(.slice none 0 0),(aj 0),(aj 0),(aE false),(.slice none 0 0)],_] [0,1,0,7] ab [] ⟨aq fun c=>aX rfl aU ak (c.p e10) (hT.at ab.ext).tl.sl.sl (c.p e12) (by omega) (by omega),aq fun c=>cq (vs:=(tc (nth t.kids (k:Int)))) rfl az ak (c.q 0) rfl (fun _ _ hj=>((hT.at (ab.ext.trans c.J.ext)).tl.sl).elem (bF (i:=(k:Int)) (by omega) (by omega)) hj),bO rfl rfl rfl rfl aD rfl,ey (cx:=(tc (nth t.kids (k:Int)))) (off:=0) rfl ak fun c=>⟨c.rb 2 rfl,(c.rb 2 rfl).ptr,(c.q 1)⟩,av⟩ fun ac ag ae ab aa=> ?_);obtain ⟨b15x5,e5⟩:=gx ac 5;obtain ⟨e2,e3,e10,e11,e12,e13⟩:=aa.k6 e2 e3 e10 e11 e12 e13;have r0:=aa.rb 3 e5 rfl;refine vO [0,0,2,7,15] ab [jb r0] ⟨ao e3,aq fun c=>dY rfl az ak ((c.p e5).trans r0.ptr) (c.B 0),eE fun c=>⟨_,_,(bK rfl rfl jN (c.q 1)),ih _ (bN (by omega) (by omega)) _ ((hT.at (ab.ext.trans c.J.ext)).tl.el (by omega) (by omega)) (by omega)⟩,aq fun c=>cN rfl (c.q 0) (c.q 2) (by omega),aK 3,av⟩ fun ac ag ae ab aa=> ?_;obtain ⟨e2,e5,e10,e11,e12,e13⟩:=aa.k6 e2 e5 e10 e11 e12 e13;have e3:=aa.V 4;replace r0:=aa.B 0;show _;refine eA ab [jb r0] ⟨aq fun c=>cN rfl (c.p e12) rfl (by omega),bD 0,av⟩ fun ac ag ae ab aa=> ?_;obtain ⟨e2,e3,e5,e10,e11,e13⟩:=aa.k6 e2 e3 e5 e10 e11 e13;have e12:=aa.V 1;replace r0:=aa.B 0;refine ⟨⟨k+1,ae,?_,ab,(e3.trans (bB (by first | omega | (rw [if_pos (by assumption)];rfl) | (rw [if_neg (by assumption)];rfl)))),(e12.trans (bB (by first | omega | (rw [if_pos (by assumption)];rfl) | (rw [if_neg (by assumption)];rfl)))),e2,e10,e11⟩,?_⟩
   · omega
   · simp only [m12,e12,intOf];omega
 try simp only [ah,aV] at hc3
 refine wp_exit ?_;repeat (with_reducible refine cy ?_)
 refine cC ?_;refine wp_seq (eA ab [] ⟨ao e3,aK 0,av⟩ fun ac ag ae ab aa=> ?_);have e2:=aa.V 1;refine wp_ret ?_;refine rp ?_;refine cO (fn:=Tryz.f34) rfl ab.defers e2 ?_;have htk:dH ((t.kids.take k).map cL)=dH (t.kids.map cL):=by rw [bw (by omega)]
 exact ⟨congrArg _ (bB (by omega)),ab.ext0⟩
theorem oy (t:Tr):∀(w:World),oO w t→di t≤1000000000→Calls Tryz.prog 34 #[t.v] w (fun e w'=>e= .returned (.int .i64 (cL t))∧Ext aW w w'):=Tr.ind (P:=fun t=>∀(w:World),oO w t→di t≤1000000000→Calls Tryz.prog 34 #[t.v] w (fun e w'=>e= .returned (.int .i64 (cL t))∧Ext aW w w')) pj t
end
section
open Go.RowKit Srt
section
variable {P:Program} {a:Act} {o:Oper} {w:World}
end
section
variable {α:Type} {E:Enc α} {ty:Nat} {P:Program} {w:World}
end
section
variable {C:Cfg} {ps ps':Ps} {fu:Nat} {ou:Bool} {tv:Int} {tb:Option Nat} {Z Z' T:bj} {w w':World}
end
section
variable {N:bj} {P:Program} {ops:Array Oper} {sp:List (Spec N)} {In:Nat→Ini N} {a0:Act} {w0:World} {bf:List Nat} {j:Nat} {o:Oper} {s:Spec N} {done:Nat→Bool} {a:Act} {w:World} {τ:Nat→bj} {C:Cfg} {tb:Option Nat} {ps ps':Ps} {fu fu':Nat} {ou ou':Bool} {tv tv':Int} {pc:Prop}
end
section
variable {N:bj} {l:List Oper} {sp:List (Spec N)} {il:List (Ini N)} {a0 a:Act} {w:World} {τ:Nat→bj}
end
section
variable {C:Cfg} {ps ps':Ps} {fu fu' B B':Nat} {ou ou':Bool} {tv tv':Int} {tb:Option Nat} {Z Z' T:bj} {w w':World} {P:Program} {K:cQ} {kf:Value}
theorem rV {α:Type} {x:Option α} (h:x.isSome=false):x=none:=by cases x <;> first | rfl | cases h
end
end
section
open Go.RowKit Srt
section
variable {E:Env} {t:Tr} {g:Nat}
theorem iX (h:∀q ∈ t.kids,∀g,RP (cM E q g)):∀(ts:List Tr) (g:Nat),(∀q ∈ ts,q ∈ t.kids)→∀r ∈ dy E ts g,RP r
  | [], _, _, r, hr => by simp [dy] at hr
  | u :: ts, g, hm, r, hr => by
    rw [dy] at hr;rcases List.mem_cons.1 hr with rfl | hr
    · exact h u (hm u (by simp)) g
    · exact iX h ts _ (fun x hx=>hm x (by simp [hx])) r hr
theorem kc (E:Env) (t:Tr):∀g,RP (cM E t g):=by
  induction t using Tr.ind with
  | h t ih =>
    intro g;rw [eO];exact qq (iX ih t.kids _ fun _ h=>h)
variable {r:fe} {lo n:Nat} {mn mx:Int} {lz:Bool} {gas times k:Nat} {K:cQ} {ps:Ps} {fu:Nat}
end
end
section
open Go.RowKit Srt
theorem nu {φ:Fl} (h:φ.2=false):φ=(φ.1,false):=by obtain ⟨a,b⟩:=φ;cases h;rfl
theorem jp (E:Env) (t:Tr) (lo n:Nat) (l:List fe) (k:Nat) (K:cQ) (ps:Ps) (f:Nat):im E t lo n l k K ps (f,false)=if t.k=0 then ge l k K ps (f,false) else if t.k=1 then fv l k K ps (f,false) else if t.k=7 then ea (jh l) lo n t.mn t.mx t.lz (f+1) 0 k K ps (f,false) else if f=0 then (none,(0,true)) else ji E t lo l k K ps (f - 1,false):=rfl
theorem KD.kp {K:cQ} (h:KD K) (B:Nat):KP B K:=fun to ps fu _=>h to ps fu
theorem kY {E:Env} {t:Tr} {g:Nat}:qu (cM E t g):=fun k K ps fu=>by
  rw [eO];unfold im;rw [if_pos rfl]
theorem fS (E:Env) (t:Tr) (g:Nat):jZ (cM E t g):=⟨kc E t g,kY⟩
theorem Ba (E:Env):∀(l:List Tr) (g:Nat),∀r ∈ dy E l g,jZ r
  | [], _, r, hr => by simp [dy] at hr
  | t :: l, g, r, hr => by
    rw [dy] at hr;rcases List.mem_cons.1 hr with rfl | hr
    · exact fS E t g
    · exact Ba E l _ r hr
theorem jZ.bad {r:fe} (h:jZ r) {d k:Nat} {K:cQ} (hK:KD K) {ps:Ps} {φ:Fl} (hb:mr d φ):mr d (r k K ps φ).2:=by
  obtain ⟨f,o⟩:=φ;cases o with
  | true => rw [h.2]; exact .inl rfl
  | false =>
    rcases hb with hb | hb
    · cases hb
    · exact .inr (dE (h.1 k (f+1) K (hK.kp _) ps f false (bT _)) hb)
theorem gZ:∀(l:List fe),(∀r ∈ l,jZ r)→qu (fv l)
  | [], _ => fun k K ps fu => rfl
  | r :: l, h => fun k K ps fu => by
    rw [fv,(h r (by simp)).2,if_neg (by simp)];exact gZ l (fun x hx=>h x (by simp [hx])) k K ps fu
theorem ox {l:List fe} (h:∀r ∈ l,jZ r):jZ (fv l):=⟨fun k B K hK ps fu ou hf=>rf l (fun r hr=>(h r hr).1) k B K hK ps fu ou hf,gZ l h⟩
theorem kT {l:List fe} (h:∀r ∈ l,jZ r) {K:cQ} (hK:KD K):KD (fun to ps φ=>ge l to K ps φ):=fun to ps fu=>qo l (fun r hr=>(h r hr).1) to (fu+1) K (hK.kp _) ps fu (bT _)
theorem fD {r:fe} (hr:RP r) {lo n:Nat} {mn mx:Int} {lz:Bool} {g times k:Nat} {K:cQ} (hK:KD K):KD (eB r lo n mn mx lz g times k K):=fun to ps fu=>lF hr (hK.kp (fu+1)) to ps fu (bT _)
theorem iE {E:Env} {lo k:Nat} {K:cQ} (hK:KD K):KD (ia E lo k K):=fun to ps fu=>hK to _ fu
theorem mt:KD K0:=fun to ps fu=>bz _
theorem gp {mn:Int} {lz:Bool} {times k d:Nat} {K:cQ} (hK:KD K) {ps:Ps} {φ:Fl} (hb:mr d φ):mr d (em mn lz times k K ps φ).2:=by
  obtain ⟨f,o⟩:=φ;unfold em;split
  · rename_i h;cases o with
    | true => simp at h
    | false =>
      rcases hb with hb | hb
      · cases hb
      · exact .inr (dE (hK k ps f) hb)
  · exact hb
theorem gq {mn:Int} {lz:Bool} {times k:Nat} {K:cQ} {ps:Ps} {fu:Nat}:em mn lz times k K ps (fu,true)=(none,(fu,true)):=by
  unfold em;rw [if_neg (by simp)]
theorem ln {r:fe} (h:jZ r) {lo n:Nat} {mn mx:Int} {lz:Bool} {g times k d:Nat} {K:cQ} (hK:KD K) {ps:Ps} {φ:Fl} (hb:mr d φ):mr d (dW r lo n mn mx lz g times k K ps φ).2:=by
  have h1:mr d (fV r lo n mn mx lz g times k K ps φ).2:=h.bad (fD h.1 hK) hb;unfold dW;split
  · split
    · exact h1
    · exact gp hK h1
  · exact gp hK hb
theorem lp {r:fe} (h:qu r) {lo n:Nat} {mn mx:Int} {lz:Bool} {g times k:Nat} {K:cQ} {ps:Ps} {fu:Nat}:dW r lo n mn mx lz g times k K ps (fu,true)=(none,(fu,true)):=by
  have e:fV r lo n mn mx lz g times k K ps (fu,true)=(none,(fu,true)):=h _ _ _ _;unfold dW;rw [e];split
  · rw [if_neg (by simp)];exact gq
  · exact gq
theorem Sm.L.ok1 {S:Sm} {l1 l2:List fe} (h:S.L l1 l2):(∀r ∈ l1,jZ r)∧∀r ∈ l2,jZ r:=by
  induction h with
  | nil => simp
  | cons a b c d ih =>
    constructor
    · intro r hr;rcases List.mem_cons.1 hr with rfl | hr
      · exact a
      · exact ih.1 r hr
    · intro r hr;rcases List.mem_cons.1 hr with rfl | hr
      · exact b
      · exact ih.2 r hr
theorem mu {S:Sm} {l1 l2:List fe} (h:S.L l1 l2):S.G 0 (ge l1) (ge l2):=by
  induction h with
  | nil => exact fun k B K1 K2 h1 h2 hK p q fu hp hf => hK k p q fu hp hf
  | cons a b c d ih => exact fun k B K1 K2 h1 h2 hK p q fu hp hf => c k B _ _ (kT d.ok1.1 h1) (kT d.ok1.2 h2) (fun to p q fu hp hf => ih to B K1 K2 h1 h2 hK p q fu hp hf) p q fu hp hf
theorem jD {S:Sm} {x y:Rs} {f1 f2:Fl→Rs} (h:S.R x y) (h1:∀φ,mr S.d φ→mr S.d (f1 φ).2) (h2:∀fu,f2 (fu,true)=(none,(fu,true))) (hn:y.2.2=false→x.2=(y.2.1+S.d,false)→S.R (f1 x.2) (f2 y.2)):
    S.R (if x.1.isSome=true then x else f1 x.2) (if y.1.isSome=true then y else f2 y.2):=by
  rcases h with ⟨a,b⟩ | ⟨a,b,c,d⟩ | ⟨a,b,c⟩ | ⟨a,b⟩
  · refine .inl ⟨?_,?_⟩
    · split
      · exact a
      · rw [show y.2=(y.2.1,true) from by rw [←a],h2]
    · split
      · exact b
      · exact h1 _ b
  · rw [if_neg (by rw [a];decide),if_neg (by rw [b];decide)];exact hn c d
  · rw [if_pos a,if_pos b];exact .inr (.inr (.inl ⟨a,b,c⟩))
  · rw [if_pos a];exact .inr (.inr (.inr ⟨a,b⟩))
theorem mw {S:Sm} {l1 l2:List fe} (h:S.L l1 l2):S.G 0 (fv l1) (fv l2):=by
  induction h with
  | nil => exact fun k B K1 K2 h1 h2 hK p q fu hp hf => .none
  | @cons r1 r2 l1 l2 a b c d ih =>
    intro k B K1 K2 h1 h2 hK p q fu hp hf;rw [fv,fv];refine jD (f1:=fv l1 k K1 p) (f2:=fv l2 k K2 q) (c k B K1 K2 h1 h2 hK p q fu hp hf) (fun φ hb=>(ox d.ok1.1).bad h1 hb) (fun fu=>gZ l2 d.ok1.2 k K2 q fu) fun e1 e2=> ?_;have hle:=b.1 k (fu+1) K2 (h2.kp _) q fu false (bT _);rw [e2,nu e1];exact ih k B K1 K2 h1 h2 hK p q _ hp (by omega)
theorem gV (r:fe) (lo n:Nat) (mn mx:Int) (lz:Bool) (g times k:Nat) (K:cQ) (ps:Ps) (φ:Fl):ea r lo n mn mx lz (g+1) times k K ps φ=if (eD mn lz times k K ps φ).1.isSome=true then eD mn lz times k K ps φ else dW r lo n mn mx lz g times k K ps (eD mn lz times k K ps φ).2:=rfl
theorem lq {S:Sm} {r1 r2:fe} (ok1:jZ r1) (ok2:jZ r2) (hG:S.G 1 r1 r2) {lo m:Nat} (hm:lo+m≤S.n) {mn mx:Int} {lz:Bool} {g1 g2 times k B:Nat} {K1 K2:cQ} (h1:KD K1) (h2:KD K2) (hK:S.K B K1 K2) {p q:Ps} {fu:Nat} (hp:S.P p q) (hf:fu < B)
    (ih:S.K fu (eB r1 (lo+S.A.length) m mn mx lz g1 times k K1) (eB r2 lo m mn mx lz g2 times k K2)):
    S.R (dW r1 (lo+S.A.length) m mn mx lz g1 times k K1 p (fu+S.d,false)) (dW r2 lo m mn mx lz g2 times k K2 q (fu,false)):=by
  have rest:∀{f:Nat},f < B→S.R (em mn lz times k K1 p (f+S.d,false)) (em mn lz times k K2 q (f,false)):=fun {f} hf=>by
    unfold em;by_cases hc:((decide (mn≤(times:Int))&& !lz)&& !false)=true
    · rw [if_pos hc,if_pos hc];exact hK k p q f hp hf
    · rw [if_neg hc,if_neg hc];exact .none
  unfold dW;split
  · have hx:S.R (fV r1 (lo+S.A.length) m mn mx lz g1 times k K1 p (fu+S.d,false)) (fV r2 lo m mn mx lz g2 times k K2 q (fu,false)):=hG k fu _ _ (fD ok1.1 h1) (fD ok2.1 h2) ih _ _ fu (hp.noneR hm) (bT _);refine jD (f1:=em mn lz times k K1 p) (f2:=em mn lz times k K2 q) hx (fun φ hb=>gp h1 hb) (fun fu=>gq) fun e1 e2=> ?_;have hle:(fV r2 lo m mn mx lz g2 times k K2 q (fu,false)).2.1≤fu:=ok2.1 k (fu+1) _ ((fD ok2.1 h2).kp _) _ fu false (bT _);rw [e2,nu e1];exact rest (by omega)
  · exact rest hf
theorem gW {S:Sm} {r1 r2:fe} (ok1:jZ r1) (ok2:jZ r2) (hG:S.G 1 r1 r2) {lo m:Nat} (hm:lo+m≤S.n) {mn mx:Int} {lz:Bool}:∀(g2 g1 times k B:Nat) (K1 K2:cQ),KD K1→KD K2→S.K B K1 K2→∀(p q:Ps) (fu:Nat),S.P p q→fu < B→fu+S.d < g1→fu < g2→
    S.R (ea r1 (lo+S.A.length) m mn mx lz g1 times k K1 p (fu+S.d,false)) (ea r2 lo m mn mx lz g2 times k K2 q (fu,false))
  | 0, _, _, _, _, _, _, _, _, _, _, _, _, _, _, _, h => by omega
  | _ + 1, 0, _, _, _, _, _, _, _, _, _, _, _, _, _, h, _ => by omega
  | g2 + 1, g1 + 1, times, k, B, K1, K2, h1, h2, hK, p, q, fu, hp, hf, hg1, hg2 => by
    rw [gV,gV];have hx:S.R (eD mn lz times k K1 p (fu+S.d,false)) (eD mn lz times k K2 q (fu,false)):=by
      unfold eD;split
      · exact hK k p q fu hp hf
      · exact .none
    refine jD (f1:=dW r1 (lo+S.A.length) m mn mx lz g1 times k K1 p) (f2:=dW r2 lo m mn mx lz g2 times k K2 q) hx (fun φ hb=>ln ok1 h1 hb) (fun fu=>lp ok2.2) fun e1 e2=> ?_;have hle:(eD mn lz times k K2 q (fu,false)).2.1≤fu:=qp (h2.kp (fu+1)) (bT _);rw [e2,nu e1];refine lq ok1 ok2 hG hm h1 h2 hK hp (by omega) fun to p q f hp hf=> ?_;unfold eB;split
    · exact gW ok1 ok2 hG hm g2 g1 (times+1) to B K1 K2 h1 h2 hK p q f hp (by omega) (by omega) (by omega)
    · exact .none
theorem iY {S:Sm} {E:Env}:∀(l:List Tr) (g:Nat),(∀t ∈ l,∀g,g+grpN t≤S.n→S.G (if lk t.k then 1 else 0) (cM E t (g+S.A.length)) (cM E t g))→g+grpsN l≤S.n→S.L (dy E l (g+S.A.length)) (dy E l g)
  | [], _, _, _ => .nil
  | t :: l, g, h, hn => by
    rw [dy,dy,show g+S.A.length+grpN t=g+grpN t+S.A.length by omega];have hs:grpsN (t::l)=grpN t+grpsN l:=rfl;exact .cons (fS _ _ _) (fS _ _ _) (h t (by simp) g (by omega)).zero (iY l (g+grpN t) (fun x hx=>h x (by simp [hx])) (by omega))
theorem iq {t k:Tr} (h:fq t=true) (hk:k ∈ t.kids):fq k=true:=by
  rw [gY,au,cI] at h;exact h.1 k hk
theorem jE {t:Tr} (h:fq t=true):(t.k=5∨t.k=6∨t.k=7→t.kids.length=1)∧(t.k=7→lk (nth t.kids 0).k=true):=by
  have ha:=h;rw [gY,au,cI] at ha;have hfl:=ha.2;unfold dZ at hfl;refine ⟨fun hk=> ?_,fun h7=> ?_⟩
  · rcases hk with h | h | h
    · rw [if_neg (by omega),if_neg (by omega),if_neg (by omega),if_neg (by omega),if_neg (by omega),if_pos (by omega)] at hfl;simp at hfl;omega
    · rw [if_neg (by omega),if_neg (by omega),if_neg (by omega),if_neg (by omega),if_neg (by omega),if_pos (by omega)] at hfl;simp at hfl;omega
    · rw [if_neg (by omega),if_neg (by omega),if_pos (by omega)] at hfl;simp at hfl;omega
  · rw [if_neg (by omega),if_neg (by omega),if_pos h7] at hfl;simp only [au,aR,ai] at hfl;have hr:=hfl.1.1.1.2;unfold qg at hr;unfold lk;simp only [aR,ai] at hr;simp;omega
theorem jV {l:List Tr} (h:l.length=1):l=[nth l 0]:=by
  match l,h with
  | [x], _ => rfl
theorem lL {S:Sm} {E:Env} (t:Tr):fq t=true→∀g,g+grpN t≤S.n→S.G (if lk t.k then 1 else 0) (cM E t (g+S.A.length)) (cM E t g):=by
  induction t using Tr.ind with
  | h t ih =>
    intro ha g hg;have hgn:=jn t;have hkg:fk t (g+S.A.length)=fk t g+S.A.length:=by unfold fk;split <;> omega
    have hkn:fk t g+grpsN t.kids≤S.n:=by unfold fk;split <;> rename_i h5 <;> simp only [h5] at hgn <;> simp at hgn <;> omega
    have hl:=iY (E:=E) t.kids (fk t g) (fun k hk g hg=>ih k hk (iq ha hk) g hg) hkn;obtain ⟨hf1,hf7⟩:=jE ha;intro k B K1 K2 h1 h2 hK p q fu hp hf;rw [eO,eO,hkg,jp,jp];by_cases k0:t.k=0
    · rw [if_pos k0,if_pos k0];rw [k0,if_neg (by decide)] at hf;exact mu hl k B K1 K2 h1 h2 hK p q fu hp hf
    rw [if_neg k0,if_neg k0];by_cases k1:t.k=1
    · rw [if_pos k1,if_pos k1];rw [k1,if_neg (by decide)] at hf;exact mw hl k B K1 K2 h1 h2 hK p q fu hp hf
    rw [if_neg k1,if_neg k1];by_cases k7:t.k=7
    · rw [if_pos k7,if_pos k7];rw [k7,if_neg (by decide)] at hf;have hk1:=jV (hf1 (by omega));have hm:nth t.kids 0 ∈ t.kids:=by rw [hk1];simp [nth]
      have hkg7:fk t g=g:=by unfold fk;rw [if_neg (by omega)]
      have hgs:grpsN t.kids=grpN (nth t.kids 0):=by rw [hk1];simp [grpsN,nth]
      have hG:=ih _ hm (iq ha hm) g (by omega);rw [hf7 k7,if_pos rfl] at hG;have e1:∀g',jh (dy E t.kids g')=cM E (nth t.kids 0) g':=fun g'=>by rw [hk1];rfl
      rw [e1,e1,hkg7];exact gW (fS _ _ _) (fS _ _ _) hG (by omega) (fu+1) (fu+S.d+1) 0 k B K1 K2 h1 h2 hK p q fu hp hf (by omega) (by omega)
    rw [if_neg k7,if_neg k7];by_cases f0:fu=0
    · subst f0;rw [if_pos (show (0:Nat)=0 from rfl)];refine .inl ⟨rfl,?_⟩;split
      · exact .inl rfl
      · rename_i hd;refine .inr (dE (oT (fun r hr=>(hl.ok1.1 r hr).1) (h1.kp (0+S.d)) (by omega)) (by omega))
    rw [if_neg (show ¬fu+S.d=0 by omega),if_neg f0];have hfb:fu - 1 < B:=by split at hf <;> omega
    rw [show fu+S.d - 1=fu - 1+S.d by omega];unfold ji;have head:∀{K1 K2:cQ},t.k=5∨t.k=6→KD K1→KD K2→S.K B K1 K2→S.R (jh (dy E t.kids (fk t g+S.A.length)) k K1 p (fu - 1+S.d,false)) (jh (dy E t.kids (fk t g)) k K2 q (fu - 1,false)):=fun {K1 K2} h56 h1 h2 hK=>by
      have hk1:=jV (hf1 (by omega));rw [hk1] at hl ⊢;cases hl with
      | cons a b c d => exact c k B K1 K2 h1 h2 hK p q _ hp hfb
    by_cases k5:t.k=5
    · rw [if_pos k5,if_pos k5];simp only [k5,if_pos] at hgn;exact head (.inl k5) (iE h1) (iE h2) fun to p q f hp hf=>hK to _ _ f (hp.set (by omega) _) hf
    rw [if_neg k5,if_neg k5];by_cases k6:t.k=6
    · rw [if_pos k6,if_pos k6];exact head (.inr k6) h1 h2 hK
    rw [if_neg k6,if_neg k6];by_cases k2:t.k=2∨t.k=3∨t.k=4
    · rw [if_pos k2,if_pos k2];split
      · exact hK _ p q _ hp hfb
      · exact .none
    rw [if_neg k2,if_neg k2];split
    · exact hK _ p q _ hp hfb
    · exact .none
end
section
open Go.RowKit Srt
abbrev nP (n:Nat):Ps:=List.replicate n ((-1:Int),(-1:Int))
theorem eL {E:Env} {r:fe} {m k to f:Nat} {ps:Ps} {φ:Fl} (h:eS r m k φ=(some (to,ps),(f,false))):eu E r m k φ=(some ((nth E.pl (k:Int),nth E.pl (to:Int)),ps),(f,false)):=by
  rw [oW (by rw [h];show (decide ((to:Int) < 0) || false)=false;simp),h];rfl
theorem eM {E:Env} {r:fe} {m k:Nat} {φ φ':Fl} (h:eS r m k φ=(none,φ')):eu E r m k φ=(none,φ'):=by
  rw [ph (by rw [h];rfl),h]
theorem nQ {E:Env} {r:fe} {m k:Nat} {φ:Fl} (h:(eS r m k φ).2.2=true):eu E r m k φ=(none,(eS r m k φ).2):=ph (by rw [h];simp)
theorem jF (x:Rs):x.2.2=true∨(∃f,x=(none,(f,false)))∨∃to ps f,x=(some (to,ps),(f,false)):=by
  obtain ⟨o,f,u⟩:=x;cases u with
  | true => exact .inl rfl
  | false => cases o with
    | none => exact .inr (.inl ⟨f, rfl⟩)
    | some y => obtain ⟨to, ps⟩ := y; exact .inr (.inr ⟨to, ps, f, rfl⟩)
theorem kI {may hit:Bool} {x:Mt × Fl} (h:(gQ may hit x).2.2=0):may=true∧hit=true∧x.2.2=false:=by
  unfold gQ at h;split at h
  · exact absurd h (by decide)
  · split at h
    · exact absurd h (by decide)
    · split at h
      · exact absurd h (by decide)
      · simp_all
theorem kZ {t:Tr} (h:(cX t 512 16).2=true):fq t=true:=by
  rw [kF] at h;unfold rd at h;simp only [au] at h;exact h.2
theorem jW {n:Int} (h0:0≤n) (h1:n≤20000):clampF n=n.toNat:=by unfold clampF;rw [show min (max n 0) 20000=n by omega]
section
variable {t:Tr} {fold:Bool} {s:ByteArray} {k u v:Int}
theorem my {may hit:Bool} {x:Mt × Fl} (h:¬(gQ may hit x).2.2=0):(gQ may hit x).1=none∧(gQ may hit x).2.1=0:=by
  unfold gQ at h ⊢;split
  · exact ⟨rfl,rfl⟩
  · split
    · exact ⟨rfl,rfl⟩
    · split
      · exact ⟨rfl,rfl⟩
      · rename_i h1 h2 h3;rw [if_neg h1,if_neg h2,if_neg h3] at h;exact absurd rfl h
end
def rj (A D:Ps) (n:Nat):Sm:=⟨0,A,D,n,fun x y=>∃to ps f,ps.length=n∧y=(some (to,ps),(f,false))∧x=(some (to,A++ps++D),(f,false)),fun _=>False⟩
theorem tN (A D:Ps) (n B:Nat):(rj A D n).K B K0 K0:=fun to p q fu hp hf=>by
  obtain ⟨rfl,h⟩:=hp;exact .inr (.inr (.inl ⟨rfl,rfl,to,q,fu,h,rfl,rfl⟩))
def AY (A D:Ps) (n:Nat) (x y:Rs):Prop:=(y.2.2=true∧x.2.2=true)∨(∃f,y=(none,(f,false))∧x=(none,(f,false)))∨∃to ps f,ps.length=n∧y=(some (to,ps),(f,false))∧x=(some (to,A++ps++D),(f,false))
theorem tO {A D:Ps} {n:Nat} {x y:Rs} (h:(rj A D n).R x y):AY A D n x y:=by
  rcases h with ⟨a,b⟩ | ⟨a,b,c,d⟩ | ⟨_,_,h⟩ | ⟨_,h⟩
  · rcases b with b | b
    · exact .inl ⟨a,b⟩
    · exact absurd b (nn _)
  · refine .inr (.inl ⟨y.2.1,Prod.ext b (Prod.ext rfl c),Prod.ext a d⟩)
  · exact .inr (.inr h)
  · exact h.elim
theorem qv (E:Env) {t:Tr} (ha:fq t=true) (A D:Ps) (k fu:Nat):AY A D (grpN t) (cM E t A.length k K0 (A++nP (grpN t)++D) (fu,false)) (eS (cM E t 0) (grpN t) k (fu,false)):=by
  have h:=lL (S:=rj A D (grpN t)) (E:=E) t ha 0 (by show 0+grpN t≤grpN t;omega) k (fu+1) K0 K0 mt mt (tN _ _ _ _) (A++nP (grpN t)++D) (nP (grpN t)) fu ⟨rfl,by simp [rj]⟩ (by omega);rw [show 0+(rj A D (grpN t)).A.length=A.length from gw _] at h;exact tO h
theorem rl {E:Env} {t:Tr} (ha:fq t=true) {k fu to f:Nat} {ps:Ps} (h:eS (cM E t 0) (grpN t) k (fu,false)=(some (to,ps),(f,false))):ps.length=grpN t:=by
  rcases qv E ha [] [] k fu with ⟨a,_⟩ | ⟨g,a,_⟩ | ⟨to',ps',g,a,b,_⟩
  · rw [h] at a;cases a
  · rw [h] at a;cases a
  · rw [h] at b;cases b;exact a
theorem IF (a b:List fe) (k:Nat) (K:cQ) (ps:Ps) (φ:Fl):fv (a++b) k K ps φ=if (fv a k K ps φ).1.isSome=true then fv a k K ps φ else fv b k K ps (fv a k K ps φ).2:=by
  induction a generalizing φ with
  | nil => rfl
  | cons r l ih =>
    rw [eq,fv,fv];by_cases h:(r k K ps φ).1.isSome=true
    · rw [if_pos h,if_pos h,if_pos h]
    · rw [if_neg h,if_neg h,ih]
theorem pP (E:Env):∀(l m:List Tr) (g:Nat),dy E (l++m) g=dy E l g++dy E m (g+grpsN l)
  | [], m, g => by simp [dy, grpsN]
  | t :: l, m, g => by
    rw [eq,dy,dy,pP E l m,eq];rw [show g+grpN t+grpsN l=g+grpsN (t::l) from by show _=g+(grpN t+grpsN l);omega]
def fW (x:Tr):List Tr:=if x.k=1 then x.kids else [x]
theorem rm (x:Tr):grpsN (fW x)=grpN x:=by
  unfold fW;split
  · rename_i h;rw [jn,if_neg (by omega)];omega
  · simp [grpsN]
theorem wZ (E:Env) (x:Tr) (g k:Nat) (K:cQ) (ps:Ps) (fu:Nat):fv (dy E (fW x) g) k K ps (fu,false)=cM E x g k K ps (fu,false):=by
  unfold fW;split
  · rename_i h;rw [eO];unfold im;rw [if_neg (by simp),if_neg (by omega),if_pos h,show fk x g=g from by unfold fk;rw [if_neg (by omega)]]
  · show (if (cM E x g k K ps (fu,false)).1.isSome=true then cM E x g k K ps (fu,false) else (none,(cM E x g k K ps (fu,false)).2))=_;split
    · rfl
    · rename_i h;exact (tB (by simpa using h)).symm
theorem rW {x:Tr} (h:fq x=true):fW x≠ []:=by
  unfold fW;split
  · rename_i h1;rw [gY,au] at h;have hf:=h.2;unfold dZ at hf;rw [h1,if_neg (by decide),if_neg (by decide),if_neg (by decide),if_neg (by decide),if_pos rfl] at hf;simp at hf;intro e;rw [e] at hf;simp at hf
  · simp
theorem GM (x y:Tr):iI 1 [x,y]=fW x++fW y:=by simp [iI,fW]
theorem Dt {x y:Tr} (hx:fq x=true) (hy:fq y=true):lP [x,y]=lE 1 (fW x++fW y):=by
  unfold lP;rw [GM];have h1:=rW hx;have h2:=rW hy;generalize fW x=l at h1;generalize fW y=m at h2;match l,m,h1,h2 with
  | [a], b :: m, _, _ => rfl
  | a :: c :: l, b :: m, _, _ => rfl
theorem Bb {E:Env} {x y z:Tr} (hz:z=lE 1 (fW x++fW y)) (k:Nat) (K:cQ) (ps:Ps) (fu:Nat):cM E z 0 k K ps (fu,false)=if (cM E x 0 k K ps (fu,false)).1.isSome=true then cM E x 0 k K ps (fu,false) else fv (dy E (fW y) (grpN x)) k K ps (cM E x 0 k K ps (fu,false)).2:=by
  subst hz;rw [eO];unfold im;rw [if_neg (by simp),if_neg (by show ¬(1:Int)=0;decide),if_pos (show (lE 1 (fW x++fW y)).k=1 from rfl)];show fv (dy E (fW x++fW y) (fk (lE 1 (fW x++fW y)) 0)) k K ps (fu,false)=_;rw [show fk (lE 1 (fW x++fW y)) 0=0 from by unfold fk;rw [if_neg (by show ¬(1:Int)=5;decide)],pP,IF,wZ,rm,gw]
theorem IG {x y z:Tr} (hz:z=lE 1 (fW x++fW y)):grpN z=grpN x+grpN y:=by
  subst hz;have h1:grpsN (fW x++fW y)=grpN x+grpN y:=by rw [←rm x,←rm y];simp [grpsN]
  rw [jn,if_neg (by show ¬(1:Int)=5;decide),←h1];show 0+grpsN (fW x++fW y)=_;omega
theorem Bc {E:Env} {l:List Tr} {g k:Nat} {K:cQ} {ps:Ps} {φ:Fl} (h:φ.2=true):fv (dy E l g) k K ps φ=(none,φ):=by
  obtain ⟨f,o⟩:=φ;cases h
  exact gZ _ (Ba E l g) k K ps f
theorem GN {E:Env} {x y z:Tr} (hz:z=lE 1 (fW x++fW y)) (hx:fq x=true) (hy:fq y=true) (k fu:Nat):
    ((eu E (cM E x 0) (grpN x) k (fu,false)).2.2=true→(eu E (cM E z 0) (grpN z) k (fu,false)).2.2=true)∧
    (∀p ps f,eu E (cM E x 0) (grpN x) k (fu,false)=(some (p,ps),(f,false))→ps.length=grpN x∧eu E (cM E z 0) (grpN z) k (fu,false)=(some (p,ps++nP (grpN y)),(f,false)))∧
    (∀f,eu E (cM E x 0) (grpN x) k (fu,false)=(none,(f,false))→
      ((eu E (cM E y 0) (grpN y) k (f,false)).2.2=true→(eu E (cM E z 0) (grpN z) k (fu,false)).2.2=true)∧
      ((eu E (cM E y 0) (grpN y) k (f,false)).2.2=false→(∀m,(eu E (cM E y 0) (grpN y) k (f,false)).1=some m→m.2.length=grpN y)∧eu E (cM E z 0) (grpN z) k (fu,false)=((eu E (cM E y 0) (grpN y) k (f,false)).1.map fun m=>(m.1,nP (grpN x)++m.2),(eu E (cM E y 0) (grpN y) k (f,false)).2))):=by
  have ez:eS (cM E z 0) (grpN z) k (fu,false)=_:=(Bb hz k K0 (nP (grpN z)) fu);have en:nP (grpN z)=([]:Ps)++nP (grpN x)++nP (grpN y):=by rw [IG hz,eN,mA]
  have hX:=qv E hx [] (nP (grpN y)) k fu;rw [show ([]:Ps).length=0 from rfl,←en] at hX;generalize hR:cM E x 0 k K0 (nP (grpN z)) (fu,false)=R at ez hX;have outz:R.2.2=true→(eu E (cM E z 0) (grpN z) k (fu,false)).2.2=true:=fun h=>by
    rw [lm,ez];split
    · exact h
    · rw [Bc h];exact h
  rcases hX with ⟨a,b⟩ | ⟨f,a,b⟩ | ⟨to,ps,f,l,a,b⟩
  · refine ⟨fun _=>outz b,fun p ps f h=> ?_,fun f h=> ?_⟩
    · rw [nQ a] at h;cases h
    · rw [nQ a] at h;injection h with _ h;rw [h] at a;cases a
  · refine ⟨fun h=> ?_,fun p ps f h=> ?_,fun f' h=> ?_⟩
    · rw [eM a] at h;cases h
    · rw [eM a] at h;cases h
    · rw [eM a] at h;injection h with _ h
      injection h with h _
      subst h;subst b;rw [if_neg (by simp),wZ] at ez;have hY:=qv E hy (nP (grpN x)) [] k f;have en2:nP (grpN z)=nP (grpN x)++nP (grpN y)++ []:=by rw [en];simp
      rw [show (nP (grpN x)).length=grpN x from by simp,←en2,←ez] at hY;rcases hY with ⟨c,d⟩ | ⟨q,c,d⟩ | ⟨to,ps,q,l,c,d⟩
      · exact ⟨(fun _=>by rw [lm];exact d),(fun h=>by rw [lm,c] at h;cases h)⟩
      · refine ⟨(fun h=>by rw [eM c] at h;cases h),fun _=>⟨(fun m hm=>by rw [eM c] at hm;cases hm),?_⟩⟩;rw [eM c,eM d];rfl
      · refine ⟨(fun h=>by rw [eL c] at h;cases h),fun _=>⟨(fun m hm=>by rw [eL c] at hm;injection hm with hm;subst hm;exact l),?_⟩⟩;rw [eL c,eL d];simp
  · refine ⟨fun h=> ?_,fun p ps' f' h=> ?_,fun f' h=> ?_⟩
    · rw [eL a] at h;cases h
    · rw [eL a] at h;injection h with h h2
      injection h with h
      injection h with h h3
      injection h2 with h2 _
      subst h;subst h3;subst h2;refine ⟨l,?_⟩;subst b;rw [if_pos (by rfl)] at ez;rw [eL ez];rfl
    · rw [eL a] at h;cases h
section
variable {t:Tr} {fold:Bool} {s:ByteArray} {k u v:Int} {x y z:Mt × Int × Int}
theorem sI (hq:x=dL t fold s k u) (h:¬x.2.2=0):x.1=none∧x.2.1=0:=by subst hq;exact my h
theorem mz {n:Int} (h:PatOk (er t) n 0) (hn:n≤255):(cX t 512 16).2=true:=by
  rw [←ki,kF];unfold rd;simp only [au,ai];exact ⟨⟨by have:=h.parts;omega,by have:=h.deep;omega⟩,h.all⟩
theorem qw (hq:x=dL t fold s k u):(x.1.isSome=true→((bJ x.1).length:Int)=cL t∧(cX t 512 16).2=true∧x.2.2=0)∧(x.1.isSome=false→(bJ x.1).length=0):=by
  subst hq;refine ⟨fun h=> ?_,fun h=>by cases hx:(dL t fold s k u).1 with | none=>rfl | some m=>rw [hx] at h;cases h⟩;have h0:(dL t fold s k u).2.2=0:=Classical.byContradiction fun hn=>by
    rw [(sI rfl hn).1] at h;cases h
  obtain ⟨m,hh,ho⟩:=kI h0;have e1:dL t fold s k u=_:=fm m hh ho;rw [e1] at h ⊢;refine ⟨?_,m,rfl⟩;rcases jF (eS (cM ⟨bA s,aO s,fold⟩ t 0) (grpN t) (plcF (aO s) k) (clampF u,false)) with h1 | ⟨f,h1⟩ | ⟨to,ps,f,h1⟩
  · rw [lm,h1] at ho;cases ho
  · rw [eM h1] at h;cases h
  · rw [eL h1];show ((ps.length:Nat):Int)=cL t;rw [rl (kZ m) h1,lH]
theorem xa {α:Type} {x:α × Fl} {o:α} {b:Bool} (h:x.1=o) (h2:x.2.2=b):x=(o,(x.2.1,b)):=by obtain ⟨a,c,d⟩:=x;cases h;cases h2;rfl
theorem yi {x:Tr} (h:fq x=true):(∀y ∈ fW x,fq y=true∧y.k≠1)∧dH ((fW x).map di)≤di x∧∀y ∈ fW x,eX y≤eX x:=by
  unfold fW;split
  · rename_i h1;refine ⟨fun y hy=>⟨iq h hy,?_⟩,by rw [iG];omega,fun y hy=> ?_⟩
    · have ha:=h;rw [gY,au] at ha;have hf:=ha.2;unfold dZ at hf;rw [h1,if_neg (by decide),if_neg (by decide),if_neg (by decide),if_neg (by decide),if_pos rfl] at hf;simp only [au,ar] at hf;have hk:=hf.2;rw [xN,md] at hk;have:=hk y hy;simpa using this
    · rw [mq x];have:=qX (List.mem_map_of_mem (f:=eX) hy);split <;> omega
  · rename_i h1;refine ⟨fun y hy=> ?_,by simp [dH],fun y hy=> ?_⟩
    · simp at hy;subst hy;exact ⟨h,h1⟩
    · simp at hy;subst hy;exact fJ _
theorem IH {a b:Tr} {n m:Int} (ha:PatOk a n 0) (hb:PatOk b m 0) (hn:n≤100) (hm:m≤100):(cX (lP [a,b]) 512 16).2=true:=by
  rw [Dt ha.all hb.all,kF];obtain ⟨a1,a2,a3⟩:=yi ha.all;obtain ⟨b1,b2,b3⟩:=yi hb.all;have h1:=rW ha.all;have h2:=rW hb.all;have hl1:0 < (fW a).length:=List.length_pos_iff.2 h1
  have hl2:0 < (fW b).length:=List.length_pos_iff.2 h2
  unfold rd;simp only [au,ai];refine ⟨⟨?_,?_⟩,?_⟩
  · rw [wB,aP,cu];have:=ha.parts;have:=hb.parts;omega
  · rw [yH _ _ (.inr rfl)];exact wC (by decide) fun x hx=>by
      rcases List.mem_append.1 hx with hx | hx
      · have:=a3 x hx;have:=ha.deep;omega
      · have:=b3 x hx;have:=hb.deep;omega
  · exact Dd (fun x hx=>(List.mem_append.1 hx).elim (a1 x) (b1 x)) (by rw [aQ];omega)
theorem Ki {t2 r:Tr} {n m:Int} (ha:PatOk (er t) n 0) (hb:PatOk (er t2) m 0) (hn:n≤100) (hm:m≤100) (hr:er r=lP ([t,t2].map er)) (hx:x=dL t fold s k 2000) (hy:y=dL t2 fold s k (max x.2.1 0)) (hz:z=dL r fold s k 2000):
    (¬x.2.2=0→z.2.2=x.2.2)∧(x.2.2=0→x.1.isSome=true→z=(x.1.map fun m=>(m.1,m.2++nP (grpN t2)),x.2.1,0))∧
    (x.2.2=0→x.1.isSome=false→(¬y.2.2=0→z.2.2=y.2.2)∧(y.2.2=0→z=(y.1.map fun m=>(m.1,nP (grpN t)++m.2),y.2.1,0))):=by
  have hma:(cX (er t) 512 16).2=true:=by rw [ki];exact mz ha (by omega)
  have hmb:(cX (er t2) 512 16).2=true:=by rw [ki];exact mz hb (by omega)
  have hmr:=IH ha hb hn hm;rw [ri (qz t).symm] at hx;rw [ri (qz t2).symm] at hy;rw [ri (AT hr)] at hz;rw [show ([t,t2].map er)=[er t,er t2] from rfl] at hz;have hg1:grpN (er t)=grpN t:=tG (qz t);have hg2:grpN (er t2)=grpN t2:=tG (qz t2);obtain ⟨p1,p2,p3⟩:=GN (E:=⟨bA s,aO s,fold⟩) (Dt ha.all hb.all) ha.all hb.all (plcF (aO s) k) 2000;have e2:clampF 2000=2000:=by decide
  unfold dL at hx hy hz;rw [e2] at hx hz;rw [hma] at hx;rw [hmb] at hy;rw [hmr] at hz;cases hh:mO (aO s) k with
  | false =>
    rw [hh] at hx hy hz;rw [hx,hz];exact ⟨fun _=>rfl,fun h=>absurd h (show ¬(3:Int)=0 by decide),fun h=>absurd h (show ¬(3:Int)=0 by decide)⟩
  | true =>
    rw [hh] at hx hy hz;cases ho:(eu ⟨bA s,aO s,fold⟩ (cM ⟨bA s,aO s,fold⟩ (er t) 0) (grpN (er t)) (plcF (aO s) k) (2000,false)).2.2 with
    | true =>
      rw [km rfl rfl ho] at hx;rw [km rfl rfl (p1 ho)] at hz;rw [hx,hz];exact ⟨fun _=>rfl,fun h=>absurd h (by decide),fun h=>absurd h (by decide)⟩
    | false =>
      rw [fm rfl rfl ho] at hx;refine ⟨fun h=>absurd (by rw [hx]) h,fun _ hs=> ?_,fun _ hs=> ?_⟩
      · rw [hx] at hs;obtain ⟨⟨p,ps⟩,hm⟩:=Option.isSome_iff_exists.1 hs;have hfull:=xa hm ho;obtain ⟨_,h2⟩:=p2 _ _ _ hfull;rw [fm rfl rfl (by rw [h2])] at hz;rw [hz,hx,h2,hfull,←hg2];rfl
      · rw [hx] at hs;have hm:=rV hs;have hfull:=xa hm ho;obtain ⟨h2,h3⟩:=p3 _ hfull;have hle:=wS (kc ⟨bA s,aO s,fold⟩ (er t) 0) (E:=⟨bA s,aO s,fold⟩) (m:=grpN (er t)) (k:=plcF (aO s) k) (fu:=2000) (ou:=false);have hcl:clampF (max x.2.1 0)=(eu ⟨bA s,aO s,fold⟩ (cM ⟨bA s,aO s,fold⟩ (er t) 0) (grpN (er t)) (plcF (aO s) k) (2000,false)).2.1:=by
          rw [jW (by omega) (by rw [hx];simp only;omega),hx];simp only;omega
        rw [hcl] at hy;cases hq:(eu ⟨bA s,aO s,fold⟩ (cM ⟨bA s,aO s,fold⟩ (er t2) 0) (grpN (er t2)) (plcF (aO s) k) ((eu ⟨bA s,aO s,fold⟩ (cM ⟨bA s,aO s,fold⟩ (er t) 0) (grpN (er t)) (plcF (aO s) k) (2000,false)).2.1,false)).2.2 with
        | true =>
          rw [km rfl rfl hq] at hy;rw [km rfl rfl (h2 hq)] at hz;rw [hy,hz];exact ⟨fun _=>rfl,fun h=>absurd h (by decide)⟩
        | false =>
          obtain ⟨_,h4⟩:=h3 hq;rw [fm rfl rfl hq] at hy;rw [fm rfl rfl (by rw [h4];exact hq)] at hz;refine ⟨fun h=>absurd (by rw [hy]) h,fun _=> ?_⟩;rw [hz,hy,h4,←hg1]
end
section
variable {x z:Mt × Int × Int} {n:Nat} {g1 g2:Int}
theorem Bd (hz:z=(x.1.map fun m=>(m.1,m.2++nP n),x.2.1,0)) (hs:x.1.isSome=true):((bJ z.1).length:Int)=((bJ x.1).length:Int)+n:=by
  obtain ⟨m,hm⟩:=Option.isSome_iff_exists.1 hs;rw [hz,hm];simp [bJ]
theorem Be (hz:z=(x.1.map fun m=>(m.1,nP n++m.2),x.2.1,0)) (hs:x.1.isSome=true):((bJ z.1).length:Int)=n+((bJ x.1).length:Int):=by
  obtain ⟨m,hm⟩:=Option.isSome_iff_exists.1 hs;rw [hz,hm];simp [bJ]
theorem GO (hz:z=(x.1.map fun m=>(m.1,m.2++nP n),x.2.1,0)) (hs:x.1.isSome=true) (hl:((bJ x.1).length:Int)=g1) (hn:((n:Nat):Int)=g2):
    (((((((decide (z.2.2=0))&&z.1.isSome)&&(dA ((aM z.1).1,(aM z.1).2) ((aM x.1).1,(aM x.1).2)))&&(decide (z.2.1=x.2.1)))&&(decide (((bJ z.1).length:Int)=g1+g2)))&&(decide (((bJ z.1).drop 0).take ((((bJ x.1).length:Int).toNat) - 0)=bJ x.1)))&&true)=true:=by
  have hl2:=Bd hz hs;obtain ⟨m,hm⟩:=Option.isSome_iff_exists.1 hs;rw [hl2,←hl,hn,hz,hm];simp [bJ,aM,dA]
theorem GP (hz:z=(x.1.map fun m=>(m.1,nP n++m.2),x.2.1,0)) (hs:x.1.isSome=true) (hl:((bJ x.1).length:Int)=g2) (hn:((n:Nat):Int)=g1):
    (((((((decide (z.2.2=0))&&z.1.isSome)&&(dA ((aM z.1).1,(aM z.1).2) ((aM x.1).1,(aM x.1).2)))&&(decide (z.2.1=x.2.1)))&&(decide (((bJ z.1).length:Int)=g1+g2)))&&(decide (((bJ z.1).drop ((g1).toNat)).take (((bJ z.1).length) - ((g1).toNat))=bJ x.1)))&&true)=true:=by
  have hl2:=Be hz hs;obtain ⟨m,hm⟩:=Option.isSome_iff_exists.1 hs;rw [hl2,←hl,←hn,hz,hm];simp [bJ,aM,dA]
theorem GQ {f:(Int × Int) × Ps→(Int × Int) × Ps} (hz:z=(x.1.map f,x.2.1,0)) (hs:x.1.isSome=false):((((decide (z.2.2=0))&&(!z.1.isSome))&&(decide (z.2.1=x.2.1)))&&true)=true:=by
  rw [hz];simp [rV hs]
theorem tS {a b:Int} (h:a=b):((decide (a=b))&&true)=true:=by simp [h]
end
end
section
open Go.RowKit
open Srt
set_option maxRecDepth 100000 in
set_option maxHeartbeats 4000000 in
theorem GR (p q:ByteArray) (fold:Bool) (s:ByteArray) (a:Int) (w:World):Calls Tryz.prog 12 #[(bc p),(bc q),(aE fold),(bc s),(aj a)] w (fun e w'=>e= .returned (aE true)∧Ext aW w w'):=by
 refine enter (n:=216) Tryz.func12 rfl rfl (aw rfl) ?_;intro a0 τ0 ha st0;obtain ⟨e0,e1,e2,e3,e4⟩:=Js ha;refine wp_seq (eK st0 [] ⟨aq fun c=>ax rfl rfl,av⟩ fun ac ag ae ab aa=> ?_);obtain ⟨e0,e1,e2,e3,e4⟩:=aa.k5 e0 e1 e2 e3 e4;have e10:=aa.V 0;refine wp_seq ?_;refine aY ?_;refine bV 2 (by kernel_rfl) ?_;refine og [_,gE _ 30 (fun b:Tr × Int=> .tuple #[b.1.v,aj b.2]) (fun b:Tr × Int=>(b.2=0→PatOk (er b.1) (p.size:Int) 0)∧fc b.1≤2200 * (p.size:Int)+2∧fc b.1≤600000) (fun b:Tr × Int=>gT (Gn aW w) b.1)] [0,1] ab [] ⟨ao e0,eT (f:=fun b:Tr × Int=> .tuple #[b.1.v,aj b.2]) (Ψ:=fun b:Tr × Int=>(b.2=0→PatOk (er b.1) (p.size:Int) 0)∧fc b.1≤2200 * (p.size:Int)+2∧fc b.1≤600000) (Φ:=fun b:Tr × Int=>gT (Gn aW w) b.1) fun {_ a_ _ _} c=>⟨_,_,(bK rfl rfl jM (c.q 0)),(lG p _).mono (fun e w' ⟨t_,r_,he_,hx_,ht_,hp_⟩=>⟨⟨t_,r_⟩,he_,hx_,hp_,c.tn ab hx_ ht_⟩)⟩,av⟩ fun ac ag ae ab aa=> ?_;obtain ⟨e0,e1,e2,e3,e4,e10⟩:=aa.k6 e0 e1 e2 e3 e4 e10;obtain ⟨⟨t1_,er1_⟩,e30,hqt1_,hz2⟩:=aa.zd 1 rfl;have e30:be ac 30=(.tuple #[(ta t1_),(aj er1_)]):=e30;have hqt1_:(er1_=0→PatOk (er t1_) (p.size:Int) 0)∧fc t1_≤2200 * (p.size:Int)+2∧fc t1_≤600000:=hqt1_;obtain ⟨hpt1_,hwt1_⟩:=hqt1_;have hbt1_:=fG t1_;have r0:=hz2;refine bW ?_;refine og [_,_,_,box _ _ 1 11 [(aj 0),(bc (⟨#[]⟩:ByteArray)),(aE false),(.slice none 0 0),(aj 0),(aj 0),(aE false),(.slice none 0 0)],_,_] [0,1,3,7,15,31] ab [jz 0 r0] ⟨ao e30,bR 0,bR 0,bO rfl rfl rfl rfl aD rfl,ey (cx:=(tc t1_)) (off:=0) rfl ak fun c=>⟨c.rb 3 rfl,(c.rb 3 rfl).ptr,(c.q 1)⟩,aK 2,av⟩ fun ac ag ae ab aa=> ?_;obtain ⟨b3x11,e11⟩:=gx ac 11;obtain ⟨e0,e1,e2,e3,e4,e10⟩:=aa.k6 e0 e1 e2 e3 e4 e10;have e12:=aa.V 5;replace r0:=aa.z1 0;have r1:=aa.rb 4 e11 rfl;refine wp_seq ?_;refine aY ?_;refine bV 2 (by kernel_rfl) ?_;refine og [_,gE _ 35 (fun b:Tr × Int=> .tuple #[b.1.v,aj b.2]) (fun b:Tr × Int=>(b.2=0→PatOk (er b.1) (q.size:Int) 0)∧fc b.1≤2200 * (q.size:Int)+2∧fc b.1≤600000) (fun b:Tr × Int=>gT (Gn aW w) b.1)] [0,1] ab [jz 0 r0,jb r1] ⟨ao e1,eT (f:=fun b:Tr × Int=> .tuple #[b.1.v,aj b.2]) (Ψ:=fun b:Tr × Int=>(b.2=0→PatOk (er b.1) (q.size:Int) 0)∧fc b.1≤2200 * (q.size:Int)+2∧fc b.1≤600000) (Φ:=fun b:Tr × Int=>gT (Gn aW w) b.1) fun {_ a_ _ _} c=>⟨_,_,(bK rfl rfl jM (c.q 0)),(lG q _).mono (fun e w' ⟨t_,r_,he_,hx_,ht_,hp_⟩=>⟨⟨t_,r_⟩,he_,hx_,hp_,c.tn ab hx_ ht_⟩)⟩,av⟩ fun ac ag ae ab aa=> ?_;obtain ⟨e0,e1,e2,e3,e4,e10,e11,e12⟩:=aa.k8 e0 e1 e2 e3 e4 e10 e11 e12;obtain ⟨⟨t2_,er2_⟩,e35,hqt2_,hz4⟩:=aa.zd 1 rfl;have e35:be ac 35=(.tuple #[(ta t2_),(aj er2_)]):=e35;have hqt2_:(er2_=0→PatOk (er t2_) (q.size:Int) 0)∧fc t2_≤2200 * (q.size:Int)+2∧fc t2_≤600000:=hqt2_;obtain ⟨hpt2_,hwt2_⟩:=hqt2_;have hbt2_:=fG t2_;replace r0:=aa.z1 0;replace r1:=aa.B 1;have r2:=hz4;refine bW ?_;refine og [_,_,_,box _ _ 3 13 [(aj 0),(bc (⟨#[]⟩:ByteArray)),(aE false),(.slice none 0 0),(aj 0),(aj 0),(aE false),(.slice none 0 0)],_,_] [0,1,3,7,15,31] ab [jz 0 r0,jb r1,jz 2 r2] ⟨ao e35,bR 0,bR 0,bO rfl rfl rfl rfl aD rfl,ey (cx:=(tc t2_)) (off:=0) rfl ak fun c=>⟨c.rb 3 rfl,(c.rb 3 rfl).ptr,(c.q 1)⟩,aK 2,av⟩ fun ac ag ae ab aa=> ?_;obtain ⟨b5x13,e13⟩:=gx ac 13;obtain ⟨e0,e1,e2,e3,e4,e10,e11,e12⟩:=aa.k8 e0 e1 e2 e3 e4 e10 e11 e12;have e14:=aa.V 5;obtain ⟨r0,r2⟩:=aa.z2 0 2;replace r1:=aa.B 1;have r3:=aa.rb 4 e13 rfl;refine wp_seq ?_;refine wp_seq (rg [_,_,_,_,_,_,_,_,_,_,_,_,_,_,_,_,_,_,_,_,_] [0,1,3,7,15,31,63,127,255,511,1023,2047,4095,8191,16383,32767,65535,131071,262143,524287,1048575] ab [jz 0 r0,jb r1,jz 2 r2,jb r3] ⟨ao e0,aq fun c=>fA rfl aZ (c.q 0),aq fun c=>ii rfl (c.q 1) rfl,bD 2,bm 3 rfl fun c hpc=>aS rfl (c.p e1),bm 3 rfl fun c hpc=>fA rfl aZ (c.M 4 hpc),bm 3 rfl fun c hpc=>ii rfl (c.M 5 hpc) rfl,dm 3 6,bD 7,bm 8 rfl fun c hpc=>aS rfl (c.p e3),bm 8 rfl fun c hpc=>fA rfl aZ (c.M 9 hpc),bm 8 rfl fun c hpc=>ii rfl (c.M 10 hpc) rfl,dm 8 11,bD 12,bm 13 rfl fun c hpc=>aS rfl (c.p e12),bm 13 rfl fun c hpc=>fh rfl (c.M 14 hpc) rfl,dm 13 15,bD 16,bm 17 rfl fun c hpc=>aS rfl (c.p e14),bm 17 rfl fun c hpc=>fh rfl (c.M 18 hpc) rfl,dm 17 19,av⟩ fun ac ag ae ab aa=> ?_);obtain ⟨e2,e3,e4,e10,e11,e13⟩:=aa.k6 e2 e3 e4 e10 e11 e13;have e58:=aa.V 20;obtain ⟨r0,r2⟩:=aa.z2 0 2;replace r1:=aa.B 1;replace r3:=aa.B 3;refine wp_cond_split e58 (fun hc1=> ?_) (fun hc1=> ?_)
 · try simp only [aR,aG,ar,am,ai,ah,aV] at hc1
   refine wp_seq (eA ab [jz 0 r0,jb r1,jz 2 r2,jb r3] ⟨eE fun c=>⟨_,_,(fN rfl rfl dN),fO _⟩,aK 0,av⟩ fun ac ag ae ab aa=> ?_);obtain ⟨e2,e3,e4,e11,e13⟩:=aa.k5 e2 e3 e4 e11 e13;have e10:=aa.V 1;obtain ⟨r0,r2⟩:=aa.z2 0 2;replace r1:=aa.B 1;replace r3:=aa.B 3;refine wp_ret ?_;refine rp ?_;refine cO (fn:=Tryz.f12) rfl ab.defers e10 ?_;refine ⟨congrArg _ (congrArg _ ?_),ab.ext0⟩;rfl
 try simp only [aR,aG,ar,am,ai,ah,aV] at hc1
 refine wp_skip ?_;refine wp_seq ?_;refine Hm [0,0,2,6,15,31] ab [jz 0 r0,jb r1,jz 2 r2,jb r3] ⟨ao e4,ao e3,aq fun c=>fA rfl aZ (c.q 1),aq fun c=>cN rfl (c.q 2) rfl (by first | omega | decide | (simp only [aB,aH,bk,bC,bM,bP,ByteArray.size,aF,ay,aC] at *;omega)),eE fun c=>⟨_,_,(ck rfl rfl lf (c.q 0) (c.q 3)),qC a ((s.size:Int)+1) _ (by first | omega | decide | (simp only [aB,aH,bk,bC,bM,bP,ByteArray.size,aF,ay,aC] at *;omega)) (by first | omega | decide | (simp only [aB,aH,bk,bC,bM,bP,ByteArray.size,aF,ay,aC] at *;omega))⟩,aK 4,av⟩ fun ac ag ae ab aa=> ?_;obtain ⟨e2,e3,e10,e11,e13⟩:=aa.k5 e2 e3 e10 e11 e13;have e15:=aa.V 5;obtain ⟨r0,r2⟩:=aa.z2 0 2;replace r1:=aa.B 1;replace r3:=aa.B 3;refine wp_seq ?_;refine aY ?_;refine bV 5 (by kernel_rfl) ?_;refine og [_,_,_,_,gE _ 70 (fun b:Sv × (Mt × Int × Int)=> .tuple #[(.agg #[aj (aM b.2.1).1,aj (aM b.2.1).2,b.1.v]),aj b.2.2.1,aE b.2.1.isSome,aj b.2.2.2]) (fun b:Sv × (Mt × Int × Int)=>b.2=dL t1_ fold s (ff a ((s.size:Int)+1)) 2000) (fun b:Sv × (Mt × Int × Int)=>fb cF (Gn aW w) b.1.v (bJ b.2.1))] [0,0,0,0,15] ab [jz 0 r0,jb r1,jz 2 r2,jb r3] ⟨aq fun c=>dY rfl az ak ((c.p e11).trans r1.ptr) (c.B 1),ao e2,ao e3,ao e15,eT (f:=fun b:Sv × (Mt × Int × Int)=> .tuple #[(.agg #[aj (aM b.2.1).1,aj (aM b.2.1).2,b.1.v]),aj b.2.2.1,aE b.2.1.isSome,aj b.2.2.2]) (Ψ:=fun b:Sv × (Mt × Int × Int)=>b.2=dL t1_ fold s (ff a ((s.size:Int)+1)) 2000) (Φ:=fun b:Sv × (Mt × Int × Int)=>fb cF (Gn aW w) b.1.v (bJ b.2.1)) fun {_ a_ _ _} c=>⟨_,_,(eC rfl rfl fL (c.q 0) (c.q 1) (c.q 2) (c.q 3) rfl),(kH _ t1_ fold s (ff a ((s.size:Int)+1)) 2000 _ (c.iz 0 rfl) (by first | omega | decide | (simp only [aB,aH,bk,bC,bM,bP,ByteArray.size,aF,ay,aC] at *;omega)) (by first | omega | decide | (simp only [aB,aH,bk,bC,bM,bP,ByteArray.size,aF,ay,aC] at *;omega))).mono (fun e w' ⟨b_,he_,hx_,hs_,hn_⟩=>⟨⟨b_,_⟩,he_,hx_,rfl,c.sns ab hx_.size ⟨hs_,hn_⟩⟩)⟩,av⟩ fun ac ag ae ab aa=> ?_;obtain ⟨e2,e3,e10,e11,e13,e15⟩:=aa.k6 e2 e3 e10 e11 e13 e15;obtain ⟨⟨mv3_,at3_⟩,e70,hqat3_,hz9⟩:=aa.zd 4 rfl;have e70:be ac 70=(.tuple #[(.agg #[(aj ((aM at3_.1).1)),(aj ((aM at3_.1).2)),mv3_.v]),(aj at3_.2.1),(aE at3_.1.isSome),(aj at3_.2.2)]):=e70;have hqat3_:at3_=dL t1_ fold s (ff a ((s.size:Int)+1)) 2000:=hqat3_;obtain ⟨r0,r2⟩:=aa.z2 0 2;replace r1:=aa.B 1;replace r3:=aa.B 3;have r4:=hz9;refine bW ?_;refine og [_,_,_,_,_,box _ _ 5 16 [(aj 0),(aj 0),(.slice none 0 0)],_,_,_,_] [0,1,3,7,15,31,63,127,255,511] ab [jz 0 r0,jb r1,jz 2 r2,jb r3,jz 4 r4] ⟨ao e70,bR 0,bR 0,bR 0,bR 0,bO rfl rfl rfl rfl bI rfl,ey (cx:=[(aj ((aM at3_.1).1)),(aj ((aM at3_.1).2)),mv3_.v]) (off:=0) rfl bi fun c=>⟨c.rb 5 rfl,(c.rb 5 rfl).ptr,(c.q 1)⟩,aK 2,aK 3,aK 4,av⟩ fun ac ag ae ab aa=> ?_;obtain ⟨b10x16,e16⟩:=gx ac 16;obtain ⟨e2,e3,e10,e11,e13,e15⟩:=aa.k6 e2 e3 e10 e11 e13 e15;have e17:=aa.V 7;have e18:=aa.V 8;have e19:=aa.V 9;obtain ⟨r0,r2,r4⟩:=aa.z3 0 2 4;replace r1:=aa.B 1;replace r3:=aa.B 3;have r5:=aa.rb 6 e16 rfl;refine wp_seq ?_;refine aY ?_;refine bV 7 (by kernel_rfl) ?_;refine og [_,_,_,_,_,_,gE _ 82 (fun b:Sv × (Mt × Int × Int)=> .tuple #[(.agg #[aj (aM b.2.1).1,aj (aM b.2.1).2,b.1.v]),aj b.2.2.1,aE b.2.1.isSome,aj b.2.2.2]) (fun b:Sv × (Mt × Int × Int)=>b.2=dL t2_ fold s (ff a ((s.size:Int)+1)) (max at3_.2.1 0)) (fun b:Sv × (Mt × Int × Int)=>fb cF (Gn aW w) b.1.v (bJ b.2.1))] [0,0,0,0,0,16,63] ab [jz 0 r0,jb r1,jz 2 r2,jb r3,jz 4 r4,jb r5] ⟨aq fun c=>dY rfl az ak ((c.p e13).trans r3.ptr) (c.B 3),ao e2,ao e3,ao e15,ao e17,aq fun c=>zy rfl (c.q 4) rfl,eT (f:=fun b:Sv × (Mt × Int × Int)=> .tuple #[(.agg #[aj (aM b.2.1).1,aj (aM b.2.1).2,b.1.v]),aj b.2.2.1,aE b.2.1.isSome,aj b.2.2.2]) (Ψ:=fun b:Sv × (Mt × Int × Int)=>b.2=dL t2_ fold s (ff a ((s.size:Int)+1)) (max at3_.2.1 0)) (Φ:=fun b:Sv × (Mt × Int × Int)=>fb cF (Gn aW w) b.1.v (bJ b.2.1)) fun {_ a_ _ _} c=>⟨_,_,(eC rfl rfl fL (c.q 0) (c.q 1) (c.q 2) (c.q 3) (c.q 5)),(kH _ t2_ fold s (ff a ((s.size:Int)+1)) (max at3_.2.1 0) _ (c.iz 2 rfl) (by first | omega | decide | (simp only [aB,aH,bk,bC,bM,bP,ByteArray.size,aF,ay,aC] at *;omega)) (by first | omega | decide | (simp only [aB,aH,bk,bC,bM,bP,ByteArray.size,aF,ay,aC] at *;omega))).mono (fun e w' ⟨b_,he_,hx_,hs_,hn_⟩=>⟨⟨b_,_⟩,he_,hx_,rfl,c.sns ab hx_.size ⟨hs_,hn_⟩⟩)⟩,av⟩ fun ac ag ae ab aa=> ?_;obtain ⟨e2,e3,e10,e11,e13,e15,e16,e17,e18,e19⟩:=aa.k10 e2 e3 e10 e11 e13 e15 e16 e17 e18 e19;obtain ⟨⟨mv4_,at4_⟩,e82,hqat4_,hz11⟩:=aa.zd 6 rfl;have e82:be ac 82=(.tuple #[(.agg #[(aj ((aM at4_.1).1)),(aj ((aM at4_.1).2)),mv4_.v]),(aj at4_.2.1),(aE at4_.1.isSome),(aj at4_.2.2)]):=e82;have hqat4_:at4_=dL t2_ fold s (ff a ((s.size:Int)+1)) (max at3_.2.1 0):=hqat4_;obtain ⟨r0,r2,r4⟩:=aa.z3 0 2 4;replace r1:=aa.B 1;replace r3:=aa.B 3;replace r5:=aa.B 5;have r6:=hz11;refine bW ?_;refine og [_,_,_,_,_,box _ _ 7 20 [(aj 0),(aj 0),(.slice none 0 0)],_,_,_,_] [0,1,3,7,15,31,63,127,255,511] ab [jz 0 r0,jb r1,jz 2 r2,jb r3,jz 4 r4,jb r5,jz 6 r6] ⟨ao e82,bR 0,bR 0,bR 0,bR 0,bO rfl rfl rfl rfl bI rfl,ey (cx:=[(aj ((aM at4_.1).1)),(aj ((aM at4_.1).2)),mv4_.v]) (off:=0) rfl bi fun c=>⟨c.rb 5 rfl,(c.rb 5 rfl).ptr,(c.q 1)⟩,aK 2,aK 3,aK 4,av⟩ fun ac ag ae ab aa=> ?_;obtain ⟨b12x20,e20⟩:=gx ac 20;obtain ⟨e2,e3,e10,e11,e13,e15,e16,e17,e18,e19⟩:=aa.k10 e2 e3 e10 e11 e13 e15 e16 e17 e18 e19;have e21:=aa.V 7;have e22:=aa.V 8;have e23:=aa.V 9;obtain ⟨r0,r2,r4,r6⟩:=aa.z4 0 2 4 6;replace r1:=aa.B 1;replace r3:=aa.B 3;replace r5:=aa.B 5;have r7:=aa.rb 6 e20 rfl;refine wp_seq ?_;refine aY ?_;refine bV 4 (by kernel_rfl) ?_;refine og [_,_,own lY 25 _ 8 90 ([t1_,t2_]),gE _ 91 (fun b:Tr=>b.v) (fun b:Tr=>er b=lP ([t1_,t2_].map er)) (fun b:Tr=>gT (Gn aW w) b)] [0,0,3,7] ab [jz 0 r0,jb r1,jz 2 r2,jb r3,jz 4 r4,jb r5,jz 6 r6,jb r7] ⟨aq fun c=>dY rfl az ak ((c.p e11).trans r1.ptr) (c.B 1),aq fun c=>dY rfl az ak ((c.p e13).trans r3.ptr) (c.B 3),dt (cells:=#[(aj t1_.k),(bc t1_.ch),(aE t1_.ng),t1_.rv.v,(aj t1_.mn),(aj t1_.mx),(aE t1_.lz),t1_.kv.v,(aj t2_.k),(bc t2_.ch),(aE t2_.ng),t2_.rv.v,(aj t2_.mn),(aj t2_.mx),(aE t2_.lz),t2_.kv.v]) rfl rfl rfl rfl aU ak aD rfl (by decide) (by decide) (fun _ _ _ _ c=>iT (c.n 0 rfl) (c.n 1 rfl) (by kernel_rfl)) rfl,eT (f:=fun b:Tr=>b.v) (Ψ:=fun b:Tr=>er b=lP ([t1_,t2_].map er)) (Φ:=fun b:Tr=>gT (Gn aW w) b) fun {_ a_ _ _} c=>⟨_,_,(bK rfl rfl Tryz.call35 (mg _ 90)),(FE _ [t1_,t2_] _ (zl (ly (c.iz 0 rfl) (ly (c.iz 2 rfl) qh)) (c.ro 2 rfl).1.sl) (by first | omega | decide | (simp only [aB,aH,bk,bC,bM,bP,ByteArray.size,aF,ay,aC] at *;omega))).mono (fun e w' ⟨t_,he_,hx_,ht_,hq_⟩=>⟨t_,he_,hx_,hq_,c.tn ab hx_ ht_⟩)⟩,av⟩ fun ac ag ae ab aa=> ?_;obtain ⟨b13x90,e90⟩:=gx ac 90;obtain ⟨e2,e3,e10,e11,e13,e15,e16,e17,e18,e19,e20,e21,e22,e23⟩:=aa.k14 e2 e3 e10 e11 e13 e15 e16 e17 e18 e19 e20 e21 e22 e23;obtain ⟨t5_,e91,hqt5_,hz13⟩:=aa.zd 3 rfl;have e91:be ac 91=(ta t5_):=e91;have hwt5_:=vo hqt5_;obtain ⟨r0,r2,r4,r6⟩:=aa.z4 0 2 4 6;replace r1:=aa.B 1;replace r3:=aa.B 3;replace r5:=aa.B 5;replace r7:=aa.B 7;have r9:=hz13;refine bW ?_;refine bV 4 (by kernel_rfl) ?_;refine og [_,_,_,gE _ 95 (fun b:Sv × (Mt × Int × Int)=> .tuple #[(.agg #[aj (aM b.2.1).1,aj (aM b.2.1).2,b.1.v]),aj b.2.2.1,aE b.2.1.isSome,aj b.2.2.2]) (fun b:Sv × (Mt × Int × Int)=>b.2=dL t5_ fold s (ff a ((s.size:Int)+1)) 2000) (fun b:Sv × (Mt × Int × Int)=>fb cF (Gn aW w) b.1.v (bJ b.2.1))] [0,1,3,7] ab [jz 0 r0,jb r1,jz 2 r2,jb r3,jz 4 r4,jb r5,jz 6 r6,jb r7,jz 9 r9] ⟨ao e2,ao e3,ao e15,eT (f:=fun b:Sv × (Mt × Int × Int)=> .tuple #[(.agg #[aj (aM b.2.1).1,aj (aM b.2.1).2,b.1.v]),aj b.2.2.1,aE b.2.1.isSome,aj b.2.2.2]) (Ψ:=fun b:Sv × (Mt × Int × Int)=>b.2=dL t5_ fold s (ff a ((s.size:Int)+1)) 2000) (Φ:=fun b:Sv × (Mt × Int × Int)=>fb cF (Gn aW w) b.1.v (bJ b.2.1)) fun {_ a_ _ _} c=>⟨_,_,(eC rfl rfl fL (c.p e91) (c.q 0) (c.q 1) (c.q 2) rfl),(kH _ t5_ fold s (ff a ((s.size:Int)+1)) 2000 _ (c.iz 9 rfl) (by first | omega | decide | (simp only [aB,aH,bk,bC,bM,bP,ByteArray.size,aF,ay,aC] at *;omega)) (by first | omega | decide | (simp only [aB,aH,bk,bC,bM,bP,ByteArray.size,aF,ay,aC] at *;omega))).mono (fun e w' ⟨b_,he_,hx_,hs_,hn_⟩=>⟨⟨b_,_⟩,he_,hx_,rfl,c.sns ab hx_.size ⟨hs_,hn_⟩⟩)⟩,av⟩ fun ac ag ae ab aa=> ?_;obtain ⟨e10,e11,e13,e16,e17,e18,e19,e20,e21,e22,e23⟩:=aa.k11 e10 e11 e13 e16 e17 e18 e19 e20 e21 e22 e23;obtain ⟨⟨mv6_,at6_⟩,e95,hqat6_,hz14⟩:=aa.zd 3 rfl;have e95:be ac 95=(.tuple #[(.agg #[(aj ((aM at6_.1).1)),(aj ((aM at6_.1).2)),mv6_.v]),(aj at6_.2.1),(aE at6_.1.isSome),(aj at6_.2.2)]):=e95;have hqat6_:at6_=dL t5_ fold s (ff a ((s.size:Int)+1)) 2000:=hqat6_;obtain ⟨r0,r2,r4,r6,r9⟩:=aa.z5 0 2 4 6 9;replace r1:=aa.B 1;replace r3:=aa.B 3;replace r5:=aa.B 5;replace r7:=aa.B 7;have r8:=hz14;refine bW ?_;refine og [_,_,_,_,_,box _ _ 10 24 [(aj 0),(aj 0),(.slice none 0 0)],_,_,_,_] [0,1,3,7,15,31,63,127,255,511] ab [jz 0 r0,jb r1,jz 2 r2,jb r3,jz 4 r4,jb r5,jz 6 r6,jb r7,jz 8 r8,jz 9 r9] ⟨ao e95,bR 0,bR 0,bR 0,bR 0,bO rfl rfl rfl rfl bI rfl,ey (cx:=[(aj ((aM at6_.1).1)),(aj ((aM at6_.1).2)),mv6_.v]) (off:=0) rfl bi fun c=>⟨c.rb 5 rfl,(c.rb 5 rfl).ptr,(c.q 1)⟩,aK 2,aK 3,aK 4,av⟩ fun ac ag ae ab aa=> ?_;obtain ⟨b15x24,e24⟩:=gx ac 24;obtain ⟨e10,e11,e13,e16,e17,e18,e19,e20,e21,e22,e23⟩:=aa.k11 e10 e11 e13 e16 e17 e18 e19 e20 e21 e22 e23;have e25:=aa.V 7;have e26:=aa.V 8;have e27:=aa.V 9;obtain ⟨r0,r2,r4,r6,r8,r9⟩:=aa.z6 0 2 4 6 8 9;replace r1:=aa.B 1;replace r3:=aa.B 3;replace r5:=aa.B 5;replace r7:=aa.B 7;have r10:=aa.rb 6 e24 rfl;refine wp_seq ?_;refine wp_seq ?_;have hla_:=Ki (hpt1_ (by omega)) (hpt2_ (by omega)) (by omega) (by omega) hqt5_ hqat3_ hqat4_ hqat6_;have hgi1_:=lH t1_;have hgw1_:=uC t1_;have hgi2_:=lH t2_;have hgw2_:=uC t2_;have hpl3_:=qw hqat3_;have hpl4_:=qw hqat4_;refine eA ab [jz 0 r0,jb r1,jz 2 r2,jb r3,jz 4 r4,jb r5,jz 6 r6,jb r7,jz 8 r8,jz 9 r9,jb r10] ⟨ao e19,aq fun c=>fh rfl (c.q 0) rfl,av⟩ fun ac ag ae ab aa=> ?_;obtain ⟨e10,e11,e13,e16,e17,e18,e19,e20,e21,e22,e23,e24,e25,e26,e27⟩:=aa.k15 e10 e11 e13 e16 e17 e18 e19 e20 e21 e22 e23 e24 e25 e26 e27;have e101:=aa.V 1;obtain ⟨r0,r2,r4,r6,r8,r9⟩:=aa.z6 0 2 4 6 8 9;replace r1:=aa.B 1;replace r3:=aa.B 3;replace r5:=aa.B 5;replace r7:=aa.B 7;replace r10:=aa.B 10;refine wp_cond_split e101 (fun hc2=> ?_) (fun hc2=> ?_)
 · try simp only [ar,am,ai,ah] at hc2
   refine wp_seq (ue [0,0,3,7,15,31,63] ab [jz 0 r0,jb r1,jz 2 r2,jb r3,jz 4 r4,jb r5,jz 6 r6,jb r7,jz 8 r8,jz 9 r9,jb r10] ⟨ao e27,ao e19,aq fun c=>cY rfl (c.q 0) (c.q 1),bD 2,fC 3 true rfl fun c hpc=>⟨_,_,(fN rfl rfl dN),fO _⟩,bZ 3 4,aK 5,av⟩ fun ac ag ae ab aa=> ?_);obtain ⟨e11,e13,e16,e17,e18,e20,e21,e22,e23,e24,e25,e26,e27⟩:=aa.k13 e11 e13 e16 e17 e18 e20 e21 e22 e23 e24 e25 e26 e27;have e10:=aa.V 6;obtain ⟨r0,r2,r4,r6,r8,r9⟩:=aa.z6 0 2 4 6 8 9;replace r1:=aa.B 1;replace r3:=aa.B 3;replace r5:=aa.B 5;replace r7:=aa.B 7;replace r10:=aa.B 10;refine wp_ret ?_;refine rp ?_;refine cO (fn:=Tryz.f12) rfl ab.defers e10 ?_;refine ⟨congrArg _ (congrArg _ ?_),ab.ext0⟩;first | exact tS (hla_.1 (by omega)) | exact tS ((hla_.2.2 (by omega) (by assumption)).1 (by omega))
 try simp only [ar,am,ai,ah] at hc2
 refine wp_skip ?_;refine wp_seq ?_;refine wp_seq (eK ab [jz 0 r0,jb r1,jz 2 r2,jb r3,jz 4 r4,jb r5,jz 6 r6,jb r7,jz 8 r8,jz 9 r9,jb r10] ⟨ao e18,av⟩ fun ac ag ae ab aa=> ?_);obtain ⟨e10,e11,e13,e16,e17,e20,e21,e22,e23,e24,e25,e26,e27⟩:=aa.k13 e10 e11 e13 e16 e17 e20 e21 e22 e23 e24 e25 e26 e27;have e108:=aa.V 0;obtain ⟨r0,r2,r4,r6,r8,r9⟩:=aa.z6 0 2 4 6 8 9;replace r1:=aa.B 1;replace r3:=aa.B 3;replace r5:=aa.B 5;replace r7:=aa.B 7;replace r10:=aa.B 10;refine wp_cond_split e108 (fun hc3=> ?_) (fun hc3=> ?_)
 · skip;refine wp_seq ?_;have hz_:=hla_.2.1 (by omega) (by assumption);have hpx_:=hpl3_.1 (by assumption);have hzl_:=Bd hz_ (by assumption);refine rg [_,_,_,_,_,_,_,_,_,_,_,_,_,_,_,_,_,_,_,_,_,_,_,_,_,_,_,_,_,_,_,_,_,_,_,_,_,_,_,_,_,_,_] [0,1,3,7,15,31,63,127,63,319,1023,2047,4095,8191,8191,32767,65535,131071,262143,524287,1048575,262143,2359295,262143,14942207,31719423,67108863,134217727,268435455,536870911,1073741823,536870911,2684354559,6979321855,17179869183,536870911,34896609279,137438953471,274877906943,549755813887,1099511627775,2199023255551,4398046511103] ab [jz 0 r0,jb r1,jz 2 r2,jb r3,jz 4 r4,jb r5,jz 6 r6,jb r7,jz 8 r8,jz 9 r9,jb r10] ⟨ao e27,aq fun c=>cY rfl (c.q 0) rfl,bD 1,aL 2 rfl fun c hpc=>aS rfl (c.p e26),bZ 2 3,bD 4,aL 5 rfl fun c hpc=>dh rfl bd aT ((c.p e24).trans r10.ptr),aL 5 rfl fun c hpc=>cq (vs:=[(aj ((aM at6_.1).1)),(aj ((aM at6_.1).2))]) rfl cV aT (c.M 6 hpc) rfl (fun j_ _ hj=>by rw [add_add];exact (c.ib 10 rfl).cell (j:=0+j_) (ei (l:=[(aj ((aM at6_.1).1)),(aj ((aM at6_.1).2)),mv6_.v]) (o:=0) (n:=2) rfl hj)),aL 5 rfl fun c hpc=>dh rfl bd aT ((c.p e16).trans r5.ptr),aL 5 rfl fun c hpc=>cq (vs:=[(aj ((aM at3_.1).1)),(aj ((aM at3_.1).2))]) rfl cV aT (c.M 8 hpc) rfl (fun j_ _ hj=>by rw [add_add];exact (c.ib 5 rfl).cell (j:=0+j_) (ei (l:=[(aj ((aM at3_.1).1)),(aj ((aM at3_.1).2)),mv3_.v]) (o:=0) (n:=2) rfl hj)),aL 5 rfl fun c hpc=>mU (p:=((aM at6_.1).1,(aM at6_.1).2)) (q:=((aM at3_.1).1,(aM at3_.1).2)) rfl (c.M 7 hpc) (c.M 9 hpc),bZ 5 10,bD 11,aL 12 rfl fun c hpc=>aS rfl (c.p e25),aL 12 rfl fun c hpc=>aS rfl (c.p e17),aL 12 rfl fun c hpc=>cY rfl (c.M 13 hpc) (c.M 14 hpc),bZ 12 15,bD 16,aL 17 rfl fun c hpc=>dh rfl bd co ((c.p e24).trans r10.ptr),aL 17 rfl fun c hpc=>aI rfl cG (c.M 18 hpc) ((c.B 10).cell (j:=2) rfl),aL 17 rfl fun c hpc=>dk rfl bh (c.M 19 hpc) (r8).1.sl,aL 17 rfl fun c hpc=>dY rfl az ak ((c.p e11).trans r1.ptr) (c.B 1),fC 17 true rfl fun c hpc=>⟨_,_,(bK rfl rfl jN (c.M 21 hpc)),oy t1_ _ (zs (c.iz 0 rfl)) (by have hq0:=hpc;(try simp only [au,ai,dA] at hq0);first | omega | decide | (simp only [aB,aH,bk,bC,bM,bP,ByteArray.size,aF,ay,aC] at *;omega))⟩,aL 17 rfl fun c hpc=>dY rfl az ak ((c.p e13).trans r3.ptr) (c.B 3),fC 17 true rfl fun c hpc=>⟨_,_,(bK rfl rfl jN (c.M 23 hpc)),oy t2_ _ (zs (c.iz 2 rfl)) (by have hq0:=hpc;(try simp only [au,ai,dA] at hq0);first | omega | decide | (simp only [aB,aH,bk,bC,bM,bP,ByteArray.size,aF,ay,aC] at *;omega))⟩,aL 17 rfl fun c hpc=>cN rfl (c.M 22 hpc) (c.M 24 hpc) (by have hq0:=hpc;(try simp only [au,ai,dA] at hq0);first | omega | decide | (simp only [aB,aH,bk,bC,bM,bP,ByteArray.size,aF,ay,aC] at *;omega)),aL 17 rfl fun c hpc=>cY rfl (c.M 20 hpc) (c.M 25 hpc),bZ 17 26,bD 27,aL 28 rfl fun c hpc=>dh rfl bd co ((c.p e24).trans r10.ptr),aL 28 rfl fun c hpc=>aI rfl cG (c.M 29 hpc) ((c.B 10).cell (j:=2) rfl),aL 28 rfl fun c hpc=>dh rfl bd co ((c.p e16).trans r5.ptr),aL 28 rfl fun c hpc=>aI rfl cG (c.M 31 hpc) ((c.B 5).cell (j:=2) rfl),aL 28 rfl fun c hpc=>dk rfl bh (c.M 32 hpc) (r4).1.sl,aL 28 rfl fun c hpc=>xv rfl bh aT (c.M 30 hpc) (r8).1.sl (c.M 33 hpc) (by have hq0:=hpc;(try simp only [au,ai,dA] at hq0);first | omega | decide | (simp only [aB,aH,bk,bC,bM,bP,ByteArray.size,aF,ay,aC] at *;omega)) (by have hq0:=hpc;(try simp only [au,ai,dA] at hq0);first | omega | decide | (simp only [aB,aH,bk,bC,bM,bP,ByteArray.size,aF,ay,aC] at *;omega)),aL 28 rfl fun c hpc=>dh rfl bd co ((c.p e16).trans r5.ptr),aL 28 rfl fun c hpc=>aI rfl cG (c.M 35 hpc) ((c.B 5).cell (j:=2) rfl),fC 28 true rfl fun c hpc=>⟨_,_,(ck rfl rfl kt (c.M 34 hpc) (c.M 36 hpc)),kX (iF mv6_.v 0 (((bJ at3_.1).length:Int).toNat) 2) mv3_.v (((bJ at6_.1).drop 0).take ((((bJ at3_.1).length:Int).toNat) - 0)) (bJ at3_.1) _ ((c.iz 8 rfl).1.sub (lo:=0) (hi:=((bJ at3_.1).length:Int).toNat) (by have hq0:=hpc;(try simp only [au,ai,dA] at hq0);first | omega | decide | (simp only [aB,aH,bk,bC,bM,bP,ByteArray.size,aF,ay,aC] at *;omega)) (by have hq0:=hpc;(try simp only [au,ai,dA] at hq0);first | omega | decide | (simp only [aB,aH,bk,bC,bM,bP,ByteArray.size,aF,ay,aC] at *;omega))) (c.iz 4 rfl).1⟩,bZ 28 37,bD 38,fC 39 true rfl fun c hpc=>⟨_,_,(fN rfl rfl dN),fO _⟩,bZ 39 40,aK 41,av⟩ fun ac ag ae ab aa=> ?_;obtain ⟨e11,e13,e20,e21,e22,e23,e24,e25,e26,e27⟩:=aa.k10 e11 e13 e20 e21 e22 e23 e24 e25 e26 e27;have e10:=aa.V 42;obtain ⟨r0,r2,r4,r6,r8,r9⟩:=aa.z6 0 2 4 6 8 9;replace r1:=aa.B 1;replace r3:=aa.B 3;replace r7:=aa.B 7;replace r10:=aa.B 10;refine wp_ret ?_;refine rp ?_;refine cO (fn:=Tryz.f12) rfl ab.defers e10 ?_;refine ⟨congrArg _ (congrArg _ ?_),ab.ext0⟩;exact GO hz_ (by assumption) hpx_.1 hgi2_
 skip;refine wp_skip ?_;refine wp_seq ?_;refine wp_seq (eA ab [jz 0 r0,jb r1,jz 2 r2,jb r3,jz 4 r4,jb r5,jz 6 r6,jb r7,jz 8 r8,jz 9 r9,jb r10] ⟨ao e23,aq fun c=>fh rfl (c.q 0) rfl,av⟩ fun ac ag ae ab aa=> ?_);obtain ⟨e10,e11,e13,e20,e21,e22,e23,e24,e25,e26,e27⟩:=aa.k11 e10 e11 e13 e20 e21 e22 e23 e24 e25 e26 e27;have e152:=aa.V 1;obtain ⟨r0,r2,r4,r6,r8,r9⟩:=aa.z6 0 2 4 6 8 9;replace r1:=aa.B 1;replace r3:=aa.B 3;replace r7:=aa.B 7;replace r10:=aa.B 10;refine wp_cond_split e152 (fun hc4=> ?_) (fun hc4=> ?_)
 · try simp only [ar,am,ai,ah] at hc4
   refine wp_seq (ue [0,0,3,7,15,31,63] ab [jz 0 r0,jb r1,jz 2 r2,jb r3,jz 6 r6,jb r7,jz 8 r8,jz 9 r9,jb r10] ⟨ao e27,ao e23,aq fun c=>cY rfl (c.q 0) (c.q 1),bD 2,fC 3 true rfl fun c hpc=>⟨_,_,(fN rfl rfl dN),fO _⟩,bZ 3 4,aK 5,av⟩ fun ac ag ae ab aa=> ?_);obtain ⟨e11,e13,e20,e21,e22,e24,e25,e26,e27⟩:=aa.k9 e11 e13 e20 e21 e22 e24 e25 e26 e27;have e10:=aa.V 6;obtain ⟨r0,r2,r6,r8,r9⟩:=aa.z5 0 2 6 8 9;replace r1:=aa.B 1;replace r3:=aa.B 3;replace r7:=aa.B 7;replace r10:=aa.B 10;refine wp_ret ?_;refine rp ?_;refine cO (fn:=Tryz.f12) rfl ab.defers e10 ?_;refine ⟨congrArg _ (congrArg _ ?_),ab.ext0⟩;first | exact tS (hla_.1 (by omega)) | exact tS ((hla_.2.2 (by omega) (by assumption)).1 (by omega))
 try simp only [ar,am,ai,ah] at hc4
 refine wp_skip ?_;refine wp_seq ?_;refine wp_seq ?_;have hz_:=(hla_.2.2 (by omega) (by assumption)).2 (by omega);refine eA ab [jz 0 r0,jb r1,jz 2 r2,jb r3,jz 6 r6,jb r7,jz 8 r8,jz 9 r9,jb r10] ⟨ao e22,aq fun c=>ew rfl (c.q 0),av⟩ fun ac ag ae ab aa=> ?_;obtain ⟨e10,e11,e13,e20,e21,e24,e25,e26,e27⟩:=aa.k9 e10 e11 e13 e20 e21 e24 e25 e26 e27;have e160:=aa.V 1;obtain ⟨r0,r2,r6,r8,r9⟩:=aa.z5 0 2 6 8 9;replace r1:=aa.B 1;replace r3:=aa.B 3;replace r7:=aa.B 7;replace r10:=aa.B 10;refine wp_cond_split e160 (fun hc5=> ?_) (fun hc5=> ?_)
 · try simp only [ar,am] at hc5
   refine wp_seq (rg [_,_,_,_,_,_,_,_,_,_,_,_,_,_,_] [0,1,3,7,15,31,63,127,127,511,1023,2047,4095,8191,16383] ab [jz 0 r0,jb r1,jz 2 r2,jb r3,jz 6 r6,jb r7,jz 8 r8,jz 9 r9,jb r10] ⟨ao e27,aq fun c=>cY rfl (c.q 0) rfl,bD 1,aL 2 rfl fun c hpc=>aS rfl (c.p e26),aL 2 rfl fun c hpc=>ew rfl (c.M 3 hpc),bZ 2 4,bD 5,aL 6 rfl fun c hpc=>aS rfl (c.p e25),aL 6 rfl fun c hpc=>aS rfl (c.p e21),aL 6 rfl fun c hpc=>cY rfl (c.M 7 hpc) (c.M 8 hpc),bZ 6 9,bD 10,fC 11 true rfl fun c hpc=>⟨_,_,(fN rfl rfl dN),fO _⟩,bZ 11 12,aK 13,av⟩ fun ac ag ae ab aa=> ?_);obtain ⟨e11,e13,e20,e21,e24,e25,e26,e27⟩:=aa.k8 e11 e13 e20 e21 e24 e25 e26 e27;have e10:=aa.V 14;obtain ⟨r0,r2,r6,r8,r9⟩:=aa.z5 0 2 6 8 9;replace r1:=aa.B 1;replace r3:=aa.B 3;replace r7:=aa.B 7;replace r10:=aa.B 10;refine wp_ret ?_;refine rp ?_;refine cO (fn:=Tryz.f12) rfl ab.defers e10 ?_;refine ⟨congrArg _ (congrArg _ ?_),ab.ext0⟩;exact GQ hz_ (by assumption)
 try simp only [ar,am] at hc5
 refine wp_skip ?_;refine wp_seq ?_;have hpy_:=hpl4_.1 (by assumption);have hzl_:=Be hz_ (by assumption);refine rg [_,_,_,_,_,_,_,_,_,_,_,_,_,_,_,_,_,_,_,_,_,_,_,_,_,_,_,_,_,_,_,_,_,_,_,_,_,_,_,_,_,_] [0,1,3,7,15,31,63,127,63,319,1023,2047,4095,8191,8191,32767,65535,131071,262143,524287,1048575,262143,2359295,262143,14942207,31719423,67108863,134217727,268435455,536870911,1073741823,536870911,2684354559,8589934591,536870911,17716740095,68719476735,137438953471,274877906943,549755813887,1099511627775,2199023255551] ab [jz 0 r0,jb r1,jz 2 r2,jb r3,jz 6 r6,jb r7,jz 8 r8,jz 9 r9,jb r10] ⟨ao e27,aq fun c=>cY rfl (c.q 0) rfl,bD 1,aL 2 rfl fun c hpc=>aS rfl (c.p e26),bZ 2 3,bD 4,aL 5 rfl fun c hpc=>dh rfl bd aT ((c.p e24).trans r10.ptr),aL 5 rfl fun c hpc=>cq (vs:=[(aj ((aM at6_.1).1)),(aj ((aM at6_.1).2))]) rfl cV aT (c.M 6 hpc) rfl (fun j_ _ hj=>by rw [add_add];exact (c.ib 10 rfl).cell (j:=0+j_) (ei (l:=[(aj ((aM at6_.1).1)),(aj ((aM at6_.1).2)),mv6_.v]) (o:=0) (n:=2) rfl hj)),aL 5 rfl fun c hpc=>dh rfl bd aT ((c.p e20).trans r7.ptr),aL 5 rfl fun c hpc=>cq (vs:=[(aj ((aM at4_.1).1)),(aj ((aM at4_.1).2))]) rfl cV aT (c.M 8 hpc) rfl (fun j_ _ hj=>by rw [add_add];exact (c.ib 7 rfl).cell (j:=0+j_) (ei (l:=[(aj ((aM at4_.1).1)),(aj ((aM at4_.1).2)),mv4_.v]) (o:=0) (n:=2) rfl hj)),aL 5 rfl fun c hpc=>mU (p:=((aM at6_.1).1,(aM at6_.1).2)) (q:=((aM at4_.1).1,(aM at4_.1).2)) rfl (c.M 7 hpc) (c.M 9 hpc),bZ 5 10,bD 11,aL 12 rfl fun c hpc=>aS rfl (c.p e25),aL 12 rfl fun c hpc=>aS rfl (c.p e21),aL 12 rfl fun c hpc=>cY rfl (c.M 13 hpc) (c.M 14 hpc),bZ 12 15,bD 16,aL 17 rfl fun c hpc=>dh rfl bd co ((c.p e24).trans r10.ptr),aL 17 rfl fun c hpc=>aI rfl cG (c.M 18 hpc) ((c.B 10).cell (j:=2) rfl),aL 17 rfl fun c hpc=>dk rfl bh (c.M 19 hpc) (r8).1.sl,aL 17 rfl fun c hpc=>dY rfl az ak ((c.p e11).trans r1.ptr) (c.B 1),fC 17 true rfl fun c hpc=>⟨_,_,(bK rfl rfl jN (c.M 21 hpc)),oy t1_ _ (zs (c.iz 0 rfl)) (by have hq0:=hpc;(try simp only [au,ai,dA] at hq0);first | omega | decide | (simp only [aB,aH,bk,bC,bM,bP,ByteArray.size,aF,ay,aC] at *;omega))⟩,aL 17 rfl fun c hpc=>dY rfl az ak ((c.p e13).trans r3.ptr) (c.B 3),fC 17 true rfl fun c hpc=>⟨_,_,(bK rfl rfl jN (c.M 23 hpc)),oy t2_ _ (zs (c.iz 2 rfl)) (by have hq0:=hpc;(try simp only [au,ai,dA] at hq0);first | omega | decide | (simp only [aB,aH,bk,bC,bM,bP,ByteArray.size,aF,ay,aC] at *;omega))⟩,aL 17 rfl fun c hpc=>cN rfl (c.M 22 hpc) (c.M 24 hpc) (by have hq0:=hpc;(try simp only [au,ai,dA] at hq0);first | omega | decide | (simp only [aB,aH,bk,bC,bM,bP,ByteArray.size,aF,ay,aC] at *;omega)),aL 17 rfl fun c hpc=>cY rfl (c.M 20 hpc) (c.M 25 hpc),bZ 17 26,bD 27,aL 28 rfl fun c hpc=>dh rfl bd co ((c.p e24).trans r10.ptr),aL 28 rfl fun c hpc=>aI rfl cG (c.M 29 hpc) ((c.B 10).cell (j:=2) rfl),aL 28 rfl fun c hpc=>dY rfl az ak ((c.p e11).trans r1.ptr) (c.B 1),fC 28 true rfl fun c hpc=>⟨_,_,(bK rfl rfl jN (c.M 31 hpc)),oy t1_ _ (zs (c.iz 0 rfl)) (by have hq0:=hpc;(try simp only [au,ai,dA] at hq0);first | omega | decide | (simp only [aB,aH,bk,bC,bM,bP,ByteArray.size,aF,ay,aC] at *;omega))⟩,aL 28 rfl fun c hpc=>ru rfl bh aT (c.M 30 hpc) (r8).1.sl (c.M 32 hpc) (by have hq0:=hpc;(try simp only [au,ai,dA] at hq0);first | omega | decide | (simp only [aB,aH,bk,bC,bM,bP,ByteArray.size,aF,ay,aC] at *;omega)) (by have hq0:=hpc;(try simp only [au,ai,dA] at hq0);first | omega | decide | (simp only [aB,aH,bk,bC,bM,bP,ByteArray.size,aF,ay,aC] at *;omega)),aL 28 rfl fun c hpc=>dh rfl bd co ((c.p e20).trans r7.ptr),aL 28 rfl fun c hpc=>aI rfl cG (c.M 34 hpc) ((c.B 7).cell (j:=2) rfl),fC 28 true rfl fun c hpc=>⟨_,_,(ck rfl rfl kt (c.M 33 hpc) (c.M 35 hpc)),kX (iF mv6_.v ((cL t1_).toNat) ((bJ at6_.1).length) 2) mv4_.v (((bJ at6_.1).drop ((cL t1_).toNat)).take (((bJ at6_.1).length) - ((cL t1_).toNat))) (bJ at4_.1) _ ((c.iz 8 rfl).1.sub (lo:=(cL t1_).toNat) (hi:=(bJ at6_.1).length) (by have hq0:=hpc;(try simp only [au,ai,dA] at hq0);first | omega | decide | (simp only [aB,aH,bk,bC,bM,bP,ByteArray.size,aF,ay,aC] at *;omega)) (by have hq0:=hpc;(try simp only [au,ai,dA] at hq0);first | omega | decide | (simp only [aB,aH,bk,bC,bM,bP,ByteArray.size,aF,ay,aC] at *;omega))) (c.iz 6 rfl).1⟩,bZ 28 36,bD 37,fC 38 true rfl fun c hpc=>⟨_,_,(fN rfl rfl dN),fO _⟩,bZ 38 39,aK 40,av⟩ fun ac ag ae ab aa=> ?_;have e10:=aa.V 41;obtain ⟨r0,r2,r6,r8,r9⟩:=aa.z5 0 2 6 8 9;refine wp_ret ?_;refine rp ?_;refine cO (fn:=Tryz.f12) rfl ab.defers e10 ?_;refine ⟨congrArg _ (congrArg _ ?_),ab.ext0⟩;exact GP hz_ (by assumption) hpy_.1 hgi1_
end
end B
end Go.Proofs.YtcfdebjhikahfaaGreat
namespace Go.Proofs.YtcfdebjhikahfaaGreat
open Go.ChangeShapes Go.WideShapes Go.ChangeAt Go.RowKit
namespace B
theorem sK:ownKnob Tryz.prog.godebug=none:=by kernel_rfl
theorem kJ:laidOutB Tryz.prog=true:=by kernel_rfl
set_option maxRecDepth 100000 in
theorem vg (H:Type) (enc:TypeId × Value→H) (W:World) (base:Nat) (args:Array Value) (ds gs:List (DataW H)) (before:List MemPlace)
    (hval:∀(j:Nat) t v,Tryz.f12.params[j]? =some t→args[j]? =some v→Value.okWide Tryz.prog W .any base t v)
    (hW:DataW.Whole enc Tryz.prog Tryz.f12.params.toList Rows.runAltSpec.vars false W args.toList ds gs before):
    Calls Tryz.prog 12 args W fun e W'=>∃v,e= .returned v∧Rows.runAltSpec.post enc Tryz.prog Tryz.f12 false true false false W args v W':=by
  have hW':=hW;obtain ⟨p,q,hA0,hV,rfl,hfz,hnd⟩:=hW;have hA:DataW.TrodAll enc Tryz.prog W 0 (fun _=>true) true Tryz.f12.params.toList args.toList ds p:=hA0;rw [Tryz.params12] at hA hval;obtain ⟨v0,vs0,d0,ds0,p0,q0,hargs0,rfl,rfl,h0,r0⟩:=trodAll_cons hA;obtain ⟨v1,vs1,d1,ds1,p1,q1,hargs1,rfl,rfl,h1,r1⟩:=trodAll_cons r0;obtain ⟨v2,vs2,d2,ds2,p2,q2,hargs2,rfl,rfl,h2,r2⟩:=trodAll_cons r1;obtain ⟨v3,vs3,d3,ds3,p3,q3,hargs3,rfl,rfl,h3,r3⟩:=trodAll_cons r2;obtain ⟨v4,vs4,d4,ds4,p4,q4,hargs4,rfl,rfl,h4,r4⟩:=trodAll_cons r3;obtain ⟨rfl,rfl,rfl⟩:=trodAll_nil r4;subst hargs4;subst hargs3;subst hargs2;subst hargs1;obtain rfl:args=#[v0,v1,v2,v3,v4]:=by first | exact Array.ext' hargs0 | (cases args;simp_all)
  obtain ⟨x0,rfl,rfl,rfl,b0⟩:=Go.ChangeMaps.open_string aZ (hval 0 9 v0 rfl rfl) h0;obtain ⟨x1,rfl,rfl,rfl,b1⟩:=Go.ChangeMaps.open_string aZ (hval 1 9 v1 rfl rfl) h1;obtain ⟨x2,rfl,rfl,rfl⟩:=open_bool cT (hval 2 4 v2 rfl rfl) h2;obtain ⟨x3,rfl,rfl,rfl,b3⟩:=Go.ChangeMaps.open_string aZ (hval 3 9 v3 rfl rfl) h3;obtain ⟨x4,rfl,b4⟩:=jB bX (hval 4 3 v4 rfl rfl) h4;exact (GR x0 x1 x2 x3 x4 W).mono fun e W' ⟨he,hx⟩=>⟨_,he,lU kJ hW' rfl (by kernel_rfl) rfl rfl cT hx⟩
set_option maxRecDepth 100000 in
theorem xr (os:Os) (started:os.Started) (H:Type) (enc:TypeId × Value→H):
    ReturnsInHanded {} Tryz.checked os 12 .any (Rows.runAltSpec.pre6 enc Tryz.prog Tryz.f12 Rows.runAltRow.domain false) (Rows.runAltSpec.post enc Tryz.prog Tryz.f12 false true false false):=by
  refine returnsInHanded_of_change (C:=Tryz.checked) sK started (by kernel_rfl) Tryz.func12
    (ChangeSpec.witness6 (enc:=enc) (C:=Tryz.checked) false ⟨#[],#[.string ⟨#[]⟩,.string ⟨#[]⟩,.bool false,.string ⟨#[]⟩,.int .i64 0],[]⟩ 8 (by kernel_rfl) (by kernel_rfl) (by kernel_rfl) (by kernel_rfl)) ?_
  intro W base args ds gs before hval hW _ _;exact vg H enc W base args ds gs before hval hW
theorem runAlt_holds:Rows.RunAltSaid:=
  OpenClaim.holds_of_wide 12 Tryz.f12 rfl rfl rfl rfl rfl rfl rfl ⟨rfl,rfl,rfl,rfl,rfl⟩ rfl rfl rfl rfl rfl (by kernel_rfl) Tryz.func12 (by kernel_rfl)
    (of_decide_eq_true (by kernel_rfl)) (by unfold Func.isWrapper;first | (rw [if_pos (by decide+kernel)];kernel_rfl) | (rw [if_neg (by decide+kernel)];exact ⟨rfl,rfl⟩))
    (fun os started H enc _=>xr os started H enc)
end B
end Go.Proofs.YtcfdebjhikahfaaGreat
