/-
  Proved here: the given statement RunFuelSaid of chapter 16, that is: the law RunFuel answers true for every two texts, place and fuels.
  Conditions: none beyond the statement. Own texts, put together and shortened by programs.
-/
import Derived.Test.YtcfdebjhikahfaaGreatZx7
import Derived.Test.YtcfdebjhikahfaaGreatRows
import Derived.ChangeMaps5
set_option linter.unusedSimpArgs false
set_option linter.unusedVariables false
set_option linter.unusedSectionVars false
namespace Go.Proofs.YtcfdebjhikahfaaGreat
section
open Go.RowKit
abbrev nW:=@Int.tmod_lt_of_pos
abbrev qx:=@Int.tmod_nonneg
abbrev dE:=@Nat.lt_of_le_of_lt
abbrev dN:=@Tryz.call15
abbrev lf:=@Tryz.call22
abbrev jM:=@Tryz.call25
abbrev kt:=@Tryz.call26
end
namespace B
section
open Go.RowKit
section
variable {P:Program} {a:Act} {o:Oper} {w:World}
section ints
variable {t t':TypeId} {x y:Operand} {k:IntKind} {p q:Int}
theorem tH (ho:o.op= .binOp .rem t x y t') (hx:a.eval x= .int k p) (hy:a.eval y= .int k q) (hq:q≠0):cA P a o w (.int k (p.tmod q)):=by
  simp [cA,execOp,ho,hx,hy,eqGuard,binOp,Op.intDiv,hq]
end ints
section memory
variable {t e:TypeId} {x y:Operand} {p:Addr}
end memory
end
end
section
open Go.RowKit
section
variable {N:bj} {τ:Nat→bj} {w:World}
end
section
variable {N:bj} {n:Nat} {W0 a0':World} {l:List Oper} {sp:List (Spec N)} {a0:Act} {w0:World} {τ0:Nat→bj} {bf:List Nat} {id:Nat} {draw:Bool} {Q:Exit→Act→World→Prop} {P:Program}
end
section
variable {N:bj} {l:List Oper} {sp:List (Spec N)} {il:List (Ini N)} {a0 a:Act} {w:World} {τ:Nat→bj}
theorem Fin.k14 (h:Fin l sp il a0 a w τ) {t0 t1 t2 t3 t4 t5 t6 t7 t8 t9 t10 t11 t12 t13:Nat} {v0 v1 v2 v3 v4 v5 v6 v7 v8 v9 v10 v11 v12 v13:Value} (e0:be a0 t0=v0) (e1:be a0 t1=v1) (e2:be a0 t2=v2) (e3:be a0 t3=v3) (e4:be a0 t4=v4) (e5:be a0 t5=v5) (e6:be a0 t6=v6) (e7:be a0 t7=v7) (e8:be a0 t8=v8) (e9:be a0 t9=v9) (e10:be a0 t10=v10) (e11:be a0 t11=v11) (e12:be a0 t12=v12) (e13:be a0 t13=v13) (hu:([t0,t1,t2,t3,t4,t5,t6,t7,t8,t9,t10,t11,t12,t13].all (kU l))=true:=by kernel_rfl):be a t0=v0∧be a t1=v1∧be a t2=v2∧be a t3=v3∧be a t4=v4∧be a t5=v5∧be a t6=v6∧be a t7=v7∧be a t8=v8∧be a t9=v9∧be a t10=v10∧be a t11=v11∧be a t12=v12∧be a t13=v13:=by
  simp only [ec,fy,au] at hu;exact ⟨h.old e0 hu.1,h.old e1 hu.2.1,h.old e2 hu.2.2.1,h.old e3 hu.2.2.2.1,h.old e4 hu.2.2.2.2.1,h.old e5 hu.2.2.2.2.2.1,h.old e6 hu.2.2.2.2.2.2.1,h.old e7 hu.2.2.2.2.2.2.2.1,h.old e8 hu.2.2.2.2.2.2.2.2.1,h.old e9 hu.2.2.2.2.2.2.2.2.2.1,h.old e10 hu.2.2.2.2.2.2.2.2.2.2.1,h.old e11 hu.2.2.2.2.2.2.2.2.2.2.2.1,h.old e12 hu.2.2.2.2.2.2.2.2.2.2.2.2.1,h.old e13 hu.2.2.2.2.2.2.2.2.2.2.2.2.2.1⟩
end
section
variable {N:bj} {P:Program} {ops:Array Oper} {sp:List (Spec N)} {In:Nat→Ini N} {a0:Act} {w0:World} {bf:List Nat} {j:Nat} {o:Oper} {done:Nat→Bool} {a:Act} {w:World} {τ:Nat→bj}
end
section
variable {N:bj} {P:Program} {ops:Array Oper} {sp:List (Spec N)} {In:Nat→Ini N} {a0:Act} {w0:World} {bf:List Nat} {j:Nat} {o:Oper} {s:Spec N} {t d:Nat} {v:Value}
end
section
variable {P:Program} {a:Act} {o:Oper} {w:World} {t:TypeId} {x:Operand}
end
end
section
open Go.ChangeShapes Go.WideShapes Go.ChangeAt Go.RowKit
section
variable {P:Program} {e:TypeId}
end
section
variable {P:Program} {W:World} {H:Type} {enc:TypeId × Value→H} {base:Nat} {spare:Nat→Bool} {held:Bool}
theorem jB {t:TypeId} (ht:P.underlying t=some (.int .i64)) {r:Reach} {b0:Nat} {v:Value} (hv:Value.okWide P W r b0 t v) {d:DataW H} {p:List MemPlace} (h:DataW.Trod enc P W base spare held t v d p):∃n,v= .int .i64 n∧ -9223372036854775808≤n∧n≤9223372036854775807:=by
  obtain ⟨n,rfl,_,_,hw⟩:=open_int ht hv h;simp [Lit.wf,IntKind.min,IntKind.max,IntKind.signed,IntKind.bits] at hw;exact ⟨n,rfl,hw⟩
end
end
section
open Go.RowKit
def ff (x n:Int):Int:=IntKind.i64.wrap ((IntKind.u64.wrap x).tmod (IntKind.u64.wrap n))
theorem nH {n:Int} (h:0 < n) (h2:n≤9223372036854775807):IntKind.u64.wrap n≠0:=by
  have:IntKind.u64.wrap n=n:=by simp [IntKind.wrap,IntKind.signed,IntKind.bits];omega
  omega
theorem kn {α:Type} [Inhabited α] {xs ys:List α} {k:Nat} (h:k < xs.length) (h':k < ys.length) (hq:xs.take k=ys.take k) (h0:nth xs (k:Int)=nth ys (k:Int)):xs.take (k+1)=ys.take (k+1):=by
  rw [eH h,eH h',hq,h0]
theorem jC {α:Type} [Inhabited α] {xs ys:List α} {i:Int} (h:¬nth xs i=nth ys i):¬xs=ys:=fun e=>h (by rw [e])
theorem go {α:Type} {xs ys:List α} {k:Nat} (hl:xs.length=ys.length) (hk:k≤xs.length) (hq:xs.take k=ys.take k) (h:(xs.length:Int)≤k):xs=ys:=by
  rwa [bw (by omega),bw (by omega)] at hq
def dA (p q:Int × Int):Bool:=decide (p=q)
theorem ko (p q:Int × Int):dA p q=(decide (p.1=q.1)&&decide (p.2=q.2)):=by
  rw [eZ];simp [dA,Prod.ext_iff]
set_option maxRecDepth 100000 in
theorem iW (p q:Int × Int) (w:World):(Op.equal 38 (fB p) (fB q)).run Tryz.prog w= .ok (dA p q) w:=by
  rw [ko];have h:=run_equalIn_struct (P:=Tryz.prog) w 9999 38 #[.int .i64 p.1,.int .i64 p.2] #[.int .i64 q.1,.int .i64 q.2] rfl Tryz.stoodInHeld38;simp only [Op.equal,Op.maxDepth,fB,h];simp [Program.fieldsOf,Op.eqFields,part,go_sem];by_cases h1:p.1=q.1 <;> by_cases h2:p.2=q.2 <;> simp [h1,h2]
theorem mU {a:Act} {o:Oper} {w:World} {x y:Operand} {t':TypeId} {p q:Int × Int} (ho:o.op= .binOp .eql 38 x y t') (hx:a.eval x=fB p) (hy:a.eval y=fB q):cA Tryz.prog a o w (.bool (dA p q)):=by
  have h:=iW p q w;simp only [fB] at h hx hy;simp [cA,execOp,ho,hx,hy,eqGuard,binOp,h]
theorem jU {a:Act} {o:Oper} {w:World} {x y:Operand} {t':TypeId} {p q:Int × Int} (ho:o.op= .binOp .neq 38 x y t') (hx:a.eval x=fB p) (hy:a.eval y=fB q):cA Tryz.prog a o w (.bool (!dA p q)):=by
  have h:=iW p q w;simp only [fB] at h hx hy;simp [cA,execOp,ho,hx,hy,eqGuard,binOp,h]
set_option maxRecDepth 100000 in
theorem qC (x n:Int) (w:World) (hn:0 < n) (hn2:n≤9223372036854775807):Calls Tryz.prog 22 #[aj x,aj n] w (fun e w'=>e= .returned (aj (ff x n))∧Ext aW w w'):=by
 refine enter (n:=11) Tryz.func22 rfl rfl (aw rfl) ?_;intro a0 τ0 ha st0;obtain ⟨e0,e1⟩:=qG ha;refine wp_seq (eK st0 [] ⟨aq fun c=>ax rfl rfl,av⟩ fun ac ag ae ab aa=> ?_);obtain ⟨e0,e1⟩:=aa.k2 e0 e1;have e4:=aa.V 0;refine wp_seq (ue [0,1,0,4,15,31,63] ab [] ⟨ao e0,aq fun c=>lg rfl bX cB (c.q 0),ao e1,aq fun c=>lg rfl bX cB (c.q 2),aq fun c=>tH rfl (c.q 1) (c.q 3) (by exact nH hn hn2),aq fun c=>lg rfl cB bX (c.q 4),aK 5,av⟩ fun ac ag ae ab aa=> ?_);have e4:=aa.V 6;refine wp_ret ?_;refine rp ?_;refine cO (fn:=Tryz.f22) rfl ab.defers e4 ?_;exact ⟨rfl,ab.ext0⟩
set_option maxRecDepth 100000 in
theorem kX (v u:Value) (xs ys:List (Int × Int)) (w:World) (hS:SlT cF w v xs) (hU:SlT cF w u ys):Calls Tryz.prog 26 #[v,u] w (fun e w'=>e= .returned (aE (decide (xs=ys)))∧Ext aW w w'):=by
 refine enter (n:=26) Tryz.func26 rfl rfl (aw rfl) ?_;intro a0 τ0 ha st0;obtain ⟨e0,e1⟩:=qG ha;have hle:=hS.le;have hle2:=hU.le;refine wp_seq (eK st0 [] ⟨aq fun c=>ax rfl rfl,av⟩ fun ac ag ae ab aa=> ?_);obtain ⟨e0,e1⟩:=aa.k2 e0 e1;have e4:=aa.V 0;refine wp_seq ?_;refine wp_seq (vO [0,1,0,4,15] ab [] ⟨ao e0,aq fun c=>dk rfl bh (c.q 0) hS.sl,ao e1,aq fun c=>dk rfl bh (c.q 2) hU.sl,aq fun c=>fh rfl (c.q 1) (c.q 3),av⟩ fun ac ag ae ab aa=> ?_);obtain ⟨e0,e1,e4⟩:=aa.k3 e0 e1 e4;have e10:=aa.V 4;refine wp_cond_split e10 (fun hc1=> ?_) (fun hc1=> ?_)
 · try simp only [ar,am,ai,ah] at hc1
   refine wp_seq (eK ab [] ⟨aq fun c=>ax rfl rfl,av⟩ fun ac ag ae ab aa=> ?_);obtain ⟨e0,e1⟩:=aa.k2 e0 e1;have e4:=aa.V 0;refine wp_ret ?_;refine rp ?_;refine cO (fn:=Tryz.f26) rfl ab.defers e4 ?_;exact ⟨congrArg _ (congrArg _ (by first | (symm;exact decide_eq_false (fun h=>by subst h;omega)) | (symm;exact decide_eq_false (jC (by assumption))) | (symm;exact decide_eq_true (go q1 q0 q2 (by assumption))))),ab.ext0⟩
 try simp only [ar,am,ai,ah] at hc1
 refine wp_skip ?_;refine wp_seq ?_;refine wp_seq (eK ab [] ⟨aq fun c=>ax rfl rfl,av⟩ fun ac ag ae ab aa=> ?_);obtain ⟨e0,e1,e4⟩:=aa.k3 e0 e1 e4;have e5:=aa.V 0;refine wp_block ?_;refine wp_loop (fun a_ w_=>∃(k:Nat) (τ:Nat→bj),(k≤xs.length)∧
      (xs.length=ys.length)∧
      (xs.take k=ys.take k)∧
      St (Nw w) w 26 a_ w_ τ∧
      be a_ 5=(aj (k:Int))∧
      be a_ 0=v∧
      be a_ 1=u) (fun a_ _=>xs.length - (intOf (be a_ 5)).toNat) ?_ ?_
 · refine ⟨0,ae,?_,?_,?_,ab,(e5.trans (bB (by omega))),e0,e1⟩
   · omega
   · omega
   · simp
 intro a5 w5 hI;obtain ⟨k,τ5,q0,q1,q2,st5,e5,e0,e1⟩:=hI;have m5:=e5;refine wp_seq ?_;refine wp_seq (lr [0,0,2,7] st5 [] ⟨ao e5,ao e0,aq fun c=>dk rfl bh (c.q 1) hS.sl,aq fun c=>cW rfl (c.q 0) (c.q 2),av⟩ fun ac ag ae ab aa=> ?_);obtain ⟨e0,e1,e5⟩:=aa.k3 e0 e1 e5;have e14:=aa.V 3;refine wp_cond_split e14 (fun hc2=> ?_) (fun hc2=> ?_)
 · try simp only [ai] at hc2
   refine wp_skip ?_;refine wp_seq ?_;refine wp_block ?_;refine wp_seq (xD [0,0,3,7,0,0,48,112,255] ab [] ⟨ao e0,ao e5,aq fun c=>aX rfl bh aT (c.q 0) hS.sl (c.q 1) (by omega) (by omega),aq fun c=>cq (vs:=[(aj ((nth xs (k:Int)).1)),(aj ((nth xs (k:Int)).2))]) rfl cV aT (c.q 2) rfl (fun _ _ hj=>(hS.at (ab.ext.trans c.J.ext)).elem (bF (i:=(k:Int)) (by omega) (by omega)) hj),ao e1,ao e5,aq fun c=>aX rfl bh aT (c.q 4) hU.sl (c.q 5) (by omega) (by omega),aq fun c=>cq (vs:=[(aj ((nth ys (k:Int)).1)),(aj ((nth ys (k:Int)).2))]) rfl cV aT (c.q 6) rfl (fun _ _ hj=>(hU.at (ab.ext.trans c.J.ext)).elem (bF (i:=(k:Int)) (by omega) (by omega)) hj),aq fun c=>jU rfl (c.q 3) (c.q 7),av⟩ fun ac ag ae ab aa=> ?_);obtain ⟨e0,e1,e5,e14⟩:=aa.k4 e0 e1 e5 e14;have e25:=aa.V 8;refine wp_cond_split e25 (fun hc3=> ?_) (fun hc3=> ?_)
   · try simp only [ar,am,ai,ah,dA] at hc3
     refine wp_seq (eK ab [] ⟨aq fun c=>ax rfl rfl,av⟩ fun ac ag ae ab aa=> ?_);obtain ⟨e0,e1,e5,e14,e25⟩:=aa.k5 e0 e1 e5 e14 e25;have e4:=aa.V 0;refine wp_ret ?_;refine rp ?_;refine cO (fn:=Tryz.f26) rfl ab.defers e4 ?_;exact ⟨congrArg _ (congrArg _ (by first | (symm;exact decide_eq_false (fun h=>by subst h;omega)) | (symm;exact decide_eq_false (jC (by assumption))) | (symm;exact decide_eq_true (go q1 q0 q2 (by assumption))))),ab.ext0⟩
   try simp only [ar,am,ai,ah,dA] at hc3
   refine wp_skip ?_;show _;refine fX ab [] ⟨ao e5,aq fun c=>cN rfl (c.q 0) rfl (by omega),aK 1,av⟩ fun ac ag ae ab aa=> ?_;obtain ⟨e0,e1,e14,e25⟩:=aa.k4 e0 e1 e14 e25;have e5:=aa.V 2;refine ⟨⟨k+1,ae,?_,?_,?_,ab,(e5.trans (bB (by omega))),e0,e1⟩,?_⟩
   · omega
   · omega
   · exact kn (by omega) (by omega) q2 (by assumption)
   · simp only [m5,e5,intOf];omega
 try simp only [ah,aV] at hc2
 refine wp_exit ?_;repeat (with_reducible refine cy ?_)
 refine cC ?_;refine wp_seq (eK ab [] ⟨aq fun c=>ax rfl rfl,av⟩ fun ac ag ae ab aa=> ?_);have e4:=aa.V 0;refine wp_ret ?_;refine rp ?_;refine cO (fn:=Tryz.f26) rfl ab.defers e4 ?_;exact ⟨congrArg _ (congrArg _ (by first | (symm;exact decide_eq_false (fun h=>by subst h;omega)) | (symm;exact decide_eq_false (jC (by assumption))) | (symm;exact decide_eq_true (go q1 q0 q2 (by assumption))))),ab.ext0⟩
end
section
open Go.RowKit Srt
section
variable {E:Env} {t:Tr} {g:Nat}
theorem iX (h:∀q ∈ t.kids,∀g,RP (cM E q g)):∀(ts:List Tr) (g:Nat),(∀q ∈ ts,q ∈ t.kids)→∀r ∈ dy E ts g,RP r
  | [], _, _, r, hr => by simp [dy] at hr
  | u :: ts, g, hm, r, hr => by
    rw [dy] at hr;rcases List.mem_cons.1 hr with rfl | hr
    · exact h u (hm u (by simp)) g
    · exact iX h ts _ (fun x hx=>hm x (by simp [hx])) r hr
theorem kc (E:Env) (t:Tr):∀g,RP (cM E t g):=by
  induction t using Tr.ind with
  | h t ih =>
    intro g;rw [eO];exact qq (iX ih t.kids _ fun _ h=>h)
variable {r:fe} {lo n:Nat} {mn mx:Int} {lz:Bool} {gas times k:Nat} {K:cQ} {ps:Ps} {fu:Nat}
end
end
section
open Go.RowKit Srt
theorem nu {φ:Fl} (h:φ.2=false):φ=(φ.1,false):=by obtain ⟨a,b⟩:=φ;cases h;rfl
theorem jp (E:Env) (t:Tr) (lo n:Nat) (l:List fe) (k:Nat) (K:cQ) (ps:Ps) (f:Nat):im E t lo n l k K ps (f,false)=if t.k=0 then ge l k K ps (f,false) else if t.k=1 then fv l k K ps (f,false) else if t.k=7 then ea (jh l) lo n t.mn t.mx t.lz (f+1) 0 k K ps (f,false) else if f=0 then (none,(0,true)) else ji E t lo l k K ps (f - 1,false):=rfl
theorem KD.kp {K:cQ} (h:KD K) (B:Nat):KP B K:=fun to ps fu _=>h to ps fu
theorem kY {E:Env} {t:Tr} {g:Nat}:qu (cM E t g):=fun k K ps fu=>by
  rw [eO];unfold im;rw [if_pos rfl]
theorem fS (E:Env) (t:Tr) (g:Nat):jZ (cM E t g):=⟨kc E t g,kY⟩
theorem jZ.bad {r:fe} (h:jZ r) {d k:Nat} {K:cQ} (hK:KD K) {ps:Ps} {φ:Fl} (hb:mr d φ):mr d (r k K ps φ).2:=by
  obtain ⟨f,o⟩:=φ;cases o with
  | true => rw [h.2]; exact .inl rfl
  | false =>
    rcases hb with hb | hb
    · cases hb
    · exact .inr (dE (h.1 k (f+1) K (hK.kp _) ps f false (bT _)) hb)
theorem gZ:∀(l:List fe),(∀r ∈ l,jZ r)→qu (fv l)
  | [], _ => fun k K ps fu => rfl
  | r :: l, h => fun k K ps fu => by
    rw [fv,(h r (by simp)).2,if_neg (by simp)];exact gZ l (fun x hx=>h x (by simp [hx])) k K ps fu
theorem ox {l:List fe} (h:∀r ∈ l,jZ r):jZ (fv l):=⟨fun k B K hK ps fu ou hf=>rf l (fun r hr=>(h r hr).1) k B K hK ps fu ou hf,gZ l h⟩
theorem kT {l:List fe} (h:∀r ∈ l,jZ r) {K:cQ} (hK:KD K):KD (fun to ps φ=>ge l to K ps φ):=fun to ps fu=>qo l (fun r hr=>(h r hr).1) to (fu+1) K (hK.kp _) ps fu (bT _)
theorem fD {r:fe} (hr:RP r) {lo n:Nat} {mn mx:Int} {lz:Bool} {g times k:Nat} {K:cQ} (hK:KD K):KD (eB r lo n mn mx lz g times k K):=fun to ps fu=>lF hr (hK.kp (fu+1)) to ps fu (bT _)
theorem iE {E:Env} {lo k:Nat} {K:cQ} (hK:KD K):KD (ia E lo k K):=fun to ps fu=>hK to _ fu
theorem mt:KD K0:=fun to ps fu=>bz _
theorem gp {mn:Int} {lz:Bool} {times k d:Nat} {K:cQ} (hK:KD K) {ps:Ps} {φ:Fl} (hb:mr d φ):mr d (em mn lz times k K ps φ).2:=by
  obtain ⟨f,o⟩:=φ;unfold em;split
  · rename_i h;cases o with
    | true => simp at h
    | false =>
      rcases hb with hb | hb
      · cases hb
      · exact .inr (dE (hK k ps f) hb)
  · exact hb
theorem gq {mn:Int} {lz:Bool} {times k:Nat} {K:cQ} {ps:Ps} {fu:Nat}:em mn lz times k K ps (fu,true)=(none,(fu,true)):=by
  unfold em;rw [if_neg (by simp)]
theorem ln {r:fe} (h:jZ r) {lo n:Nat} {mn mx:Int} {lz:Bool} {g times k d:Nat} {K:cQ} (hK:KD K) {ps:Ps} {φ:Fl} (hb:mr d φ):mr d (dW r lo n mn mx lz g times k K ps φ).2:=by
  have h1:mr d (fV r lo n mn mx lz g times k K ps φ).2:=h.bad (fD h.1 hK) hb;unfold dW;split
  · split
    · exact h1
    · exact gp hK h1
  · exact gp hK hb
theorem lp {r:fe} (h:qu r) {lo n:Nat} {mn mx:Int} {lz:Bool} {g times k:Nat} {K:cQ} {ps:Ps} {fu:Nat}:dW r lo n mn mx lz g times k K ps (fu,true)=(none,(fu,true)):=by
  have e:fV r lo n mn mx lz g times k K ps (fu,true)=(none,(fu,true)):=h _ _ _ _;unfold dW;rw [e];split
  · rw [if_neg (by simp)];exact gq
  · exact gq
theorem Sm.L.ok1 {S:Sm} {l1 l2:List fe} (h:S.L l1 l2):(∀r ∈ l1,jZ r)∧∀r ∈ l2,jZ r:=by
  induction h with
  | nil => simp
  | cons a b c d ih =>
    constructor
    · intro r hr;rcases List.mem_cons.1 hr with rfl | hr
      · exact a
      · exact ih.1 r hr
    · intro r hr;rcases List.mem_cons.1 hr with rfl | hr
      · exact b
      · exact ih.2 r hr
theorem mu {S:Sm} {l1 l2:List fe} (h:S.L l1 l2):S.G 0 (ge l1) (ge l2):=by
  induction h with
  | nil => exact fun k B K1 K2 h1 h2 hK p q fu hp hf => hK k p q fu hp hf
  | cons a b c d ih => exact fun k B K1 K2 h1 h2 hK p q fu hp hf => c k B _ _ (kT d.ok1.1 h1) (kT d.ok1.2 h2) (fun to p q fu hp hf => ih to B K1 K2 h1 h2 hK p q fu hp hf) p q fu hp hf
theorem jD {S:Sm} {x y:Rs} {f1 f2:Fl→Rs} (h:S.R x y) (h1:∀φ,mr S.d φ→mr S.d (f1 φ).2) (h2:∀fu,f2 (fu,true)=(none,(fu,true))) (hn:y.2.2=false→x.2=(y.2.1+S.d,false)→S.R (f1 x.2) (f2 y.2)):
    S.R (if x.1.isSome=true then x else f1 x.2) (if y.1.isSome=true then y else f2 y.2):=by
  rcases h with ⟨a,b⟩ | ⟨a,b,c,d⟩ | ⟨a,b,c⟩ | ⟨a,b⟩
  · refine .inl ⟨?_,?_⟩
    · split
      · exact a
      · rw [show y.2=(y.2.1,true) from by rw [←a],h2]
    · split
      · exact b
      · exact h1 _ b
  · rw [if_neg (by rw [a];decide),if_neg (by rw [b];decide)];exact hn c d
  · rw [if_pos a,if_pos b];exact .inr (.inr (.inl ⟨a,b,c⟩))
  · rw [if_pos a];exact .inr (.inr (.inr ⟨a,b⟩))
theorem mw {S:Sm} {l1 l2:List fe} (h:S.L l1 l2):S.G 0 (fv l1) (fv l2):=by
  induction h with
  | nil => exact fun k B K1 K2 h1 h2 hK p q fu hp hf => .none
  | @cons r1 r2 l1 l2 a b c d ih =>
    intro k B K1 K2 h1 h2 hK p q fu hp hf;rw [fv,fv];refine jD (f1:=fv l1 k K1 p) (f2:=fv l2 k K2 q) (c k B K1 K2 h1 h2 hK p q fu hp hf) (fun φ hb=>(ox d.ok1.1).bad h1 hb) (fun fu=>gZ l2 d.ok1.2 k K2 q fu) fun e1 e2=> ?_;have hle:=b.1 k (fu+1) K2 (h2.kp _) q fu false (bT _);rw [e2,nu e1];exact ih k B K1 K2 h1 h2 hK p q _ hp (by omega)
theorem gV (r:fe) (lo n:Nat) (mn mx:Int) (lz:Bool) (g times k:Nat) (K:cQ) (ps:Ps) (φ:Fl):ea r lo n mn mx lz (g+1) times k K ps φ=if (eD mn lz times k K ps φ).1.isSome=true then eD mn lz times k K ps φ else dW r lo n mn mx lz g times k K ps (eD mn lz times k K ps φ).2:=rfl
theorem lq {S:Sm} {r1 r2:fe} (ok1:jZ r1) (ok2:jZ r2) (hG:S.G 1 r1 r2) {lo m:Nat} (hm:lo+m≤S.n) {mn mx:Int} {lz:Bool} {g1 g2 times k B:Nat} {K1 K2:cQ} (h1:KD K1) (h2:KD K2) (hK:S.K B K1 K2) {p q:Ps} {fu:Nat} (hp:S.P p q) (hf:fu < B)
    (ih:S.K fu (eB r1 (lo+S.A.length) m mn mx lz g1 times k K1) (eB r2 lo m mn mx lz g2 times k K2)):
    S.R (dW r1 (lo+S.A.length) m mn mx lz g1 times k K1 p (fu+S.d,false)) (dW r2 lo m mn mx lz g2 times k K2 q (fu,false)):=by
  have rest:∀{f:Nat},f < B→S.R (em mn lz times k K1 p (f+S.d,false)) (em mn lz times k K2 q (f,false)):=fun {f} hf=>by
    unfold em;by_cases hc:((decide (mn≤(times:Int))&& !lz)&& !false)=true
    · rw [if_pos hc,if_pos hc];exact hK k p q f hp hf
    · rw [if_neg hc,if_neg hc];exact .none
  unfold dW;split
  · have hx:S.R (fV r1 (lo+S.A.length) m mn mx lz g1 times k K1 p (fu+S.d,false)) (fV r2 lo m mn mx lz g2 times k K2 q (fu,false)):=hG k fu _ _ (fD ok1.1 h1) (fD ok2.1 h2) ih _ _ fu (hp.noneR hm) (bT _);refine jD (f1:=em mn lz times k K1 p) (f2:=em mn lz times k K2 q) hx (fun φ hb=>gp h1 hb) (fun fu=>gq) fun e1 e2=> ?_;have hle:(fV r2 lo m mn mx lz g2 times k K2 q (fu,false)).2.1≤fu:=ok2.1 k (fu+1) _ ((fD ok2.1 h2).kp _) _ fu false (bT _);rw [e2,nu e1];exact rest (by omega)
  · exact rest hf
theorem gW {S:Sm} {r1 r2:fe} (ok1:jZ r1) (ok2:jZ r2) (hG:S.G 1 r1 r2) {lo m:Nat} (hm:lo+m≤S.n) {mn mx:Int} {lz:Bool}:∀(g2 g1 times k B:Nat) (K1 K2:cQ),KD K1→KD K2→S.K B K1 K2→∀(p q:Ps) (fu:Nat),S.P p q→fu < B→fu+S.d < g1→fu < g2→
    S.R (ea r1 (lo+S.A.length) m mn mx lz g1 times k K1 p (fu+S.d,false)) (ea r2 lo m mn mx lz g2 times k K2 q (fu,false))
  | 0, _, _, _, _, _, _, _, _, _, _, _, _, _, _, _, h => by omega
  | _ + 1, 0, _, _, _, _, _, _, _, _, _, _, _, _, _, h, _ => by omega
  | g2 + 1, g1 + 1, times, k, B, K1, K2, h1, h2, hK, p, q, fu, hp, hf, hg1, hg2 => by
    rw [gV,gV];have hx:S.R (eD mn lz times k K1 p (fu+S.d,false)) (eD mn lz times k K2 q (fu,false)):=by
      unfold eD;split
      · exact hK k p q fu hp hf
      · exact .none
    refine jD (f1:=dW r1 (lo+S.A.length) m mn mx lz g1 times k K1 p) (f2:=dW r2 lo m mn mx lz g2 times k K2 q) hx (fun φ hb=>ln ok1 h1 hb) (fun fu=>lp ok2.2) fun e1 e2=> ?_;have hle:(eD mn lz times k K2 q (fu,false)).2.1≤fu:=qp (h2.kp (fu+1)) (bT _);rw [e2,nu e1];refine lq ok1 ok2 hG hm h1 h2 hK hp (by omega) fun to p q f hp hf=> ?_;unfold eB;split
    · exact gW ok1 ok2 hG hm g2 g1 (times+1) to B K1 K2 h1 h2 hK p q f hp (by omega) (by omega) (by omega)
    · exact .none
theorem iY {S:Sm} {E:Env}:∀(l:List Tr) (g:Nat),(∀t ∈ l,∀g,g+grpN t≤S.n→S.G (if lk t.k then 1 else 0) (cM E t (g+S.A.length)) (cM E t g))→g+grpsN l≤S.n→S.L (dy E l (g+S.A.length)) (dy E l g)
  | [], _, _, _ => .nil
  | t :: l, g, h, hn => by
    rw [dy,dy,show g+S.A.length+grpN t=g+grpN t+S.A.length by omega];have hs:grpsN (t::l)=grpN t+grpsN l:=rfl;exact .cons (fS _ _ _) (fS _ _ _) (h t (by simp) g (by omega)).zero (iY l (g+grpN t) (fun x hx=>h x (by simp [hx])) (by omega))
theorem iq {t k:Tr} (h:fq t=true) (hk:k ∈ t.kids):fq k=true:=by
  rw [gY,au,cI] at h;exact h.1 k hk
theorem jE {t:Tr} (h:fq t=true):(t.k=5∨t.k=6∨t.k=7→t.kids.length=1)∧(t.k=7→lk (nth t.kids 0).k=true):=by
  have ha:=h;rw [gY,au,cI] at ha;have hfl:=ha.2;unfold dZ at hfl;refine ⟨fun hk=> ?_,fun h7=> ?_⟩
  · rcases hk with h | h | h
    · rw [if_neg (by omega),if_neg (by omega),if_neg (by omega),if_neg (by omega),if_neg (by omega),if_pos (by omega)] at hfl;simp at hfl;omega
    · rw [if_neg (by omega),if_neg (by omega),if_neg (by omega),if_neg (by omega),if_neg (by omega),if_pos (by omega)] at hfl;simp at hfl;omega
    · rw [if_neg (by omega),if_neg (by omega),if_pos (by omega)] at hfl;simp at hfl;omega
  · rw [if_neg (by omega),if_neg (by omega),if_pos h7] at hfl;simp only [au,aR,ai] at hfl;have hr:=hfl.1.1.1.2;unfold qg at hr;unfold lk;simp only [aR,ai] at hr;simp;omega
theorem jV {l:List Tr} (h:l.length=1):l=[nth l 0]:=by
  match l,h with
  | [x], _ => rfl
theorem lL {S:Sm} {E:Env} (t:Tr):fq t=true→∀g,g+grpN t≤S.n→S.G (if lk t.k then 1 else 0) (cM E t (g+S.A.length)) (cM E t g):=by
  induction t using Tr.ind with
  | h t ih =>
    intro ha g hg;have hgn:=jn t;have hkg:fk t (g+S.A.length)=fk t g+S.A.length:=by unfold fk;split <;> omega
    have hkn:fk t g+grpsN t.kids≤S.n:=by unfold fk;split <;> rename_i h5 <;> simp only [h5] at hgn <;> simp at hgn <;> omega
    have hl:=iY (E:=E) t.kids (fk t g) (fun k hk g hg=>ih k hk (iq ha hk) g hg) hkn;obtain ⟨hf1,hf7⟩:=jE ha;intro k B K1 K2 h1 h2 hK p q fu hp hf;rw [eO,eO,hkg,jp,jp];by_cases k0:t.k=0
    · rw [if_pos k0,if_pos k0];rw [k0,if_neg (by decide)] at hf;exact mu hl k B K1 K2 h1 h2 hK p q fu hp hf
    rw [if_neg k0,if_neg k0];by_cases k1:t.k=1
    · rw [if_pos k1,if_pos k1];rw [k1,if_neg (by decide)] at hf;exact mw hl k B K1 K2 h1 h2 hK p q fu hp hf
    rw [if_neg k1,if_neg k1];by_cases k7:t.k=7
    · rw [if_pos k7,if_pos k7];rw [k7,if_neg (by decide)] at hf;have hk1:=jV (hf1 (by omega));have hm:nth t.kids 0 ∈ t.kids:=by rw [hk1];simp [nth]
      have hkg7:fk t g=g:=by unfold fk;rw [if_neg (by omega)]
      have hgs:grpsN t.kids=grpN (nth t.kids 0):=by rw [hk1];simp [grpsN,nth]
      have hG:=ih _ hm (iq ha hm) g (by omega);rw [hf7 k7,if_pos rfl] at hG;have e1:∀g',jh (dy E t.kids g')=cM E (nth t.kids 0) g':=fun g'=>by rw [hk1];rfl
      rw [e1,e1,hkg7];exact gW (fS _ _ _) (fS _ _ _) hG (by omega) (fu+1) (fu+S.d+1) 0 k B K1 K2 h1 h2 hK p q fu hp hf (by omega) (by omega)
    rw [if_neg k7,if_neg k7];by_cases f0:fu=0
    · subst f0;rw [if_pos (show (0:Nat)=0 from rfl)];refine .inl ⟨rfl,?_⟩;split
      · exact .inl rfl
      · rename_i hd;refine .inr (dE (oT (fun r hr=>(hl.ok1.1 r hr).1) (h1.kp (0+S.d)) (by omega)) (by omega))
    rw [if_neg (show ¬fu+S.d=0 by omega),if_neg f0];have hfb:fu - 1 < B:=by split at hf <;> omega
    rw [show fu+S.d - 1=fu - 1+S.d by omega];unfold ji;have head:∀{K1 K2:cQ},t.k=5∨t.k=6→KD K1→KD K2→S.K B K1 K2→S.R (jh (dy E t.kids (fk t g+S.A.length)) k K1 p (fu - 1+S.d,false)) (jh (dy E t.kids (fk t g)) k K2 q (fu - 1,false)):=fun {K1 K2} h56 h1 h2 hK=>by
      have hk1:=jV (hf1 (by omega));rw [hk1] at hl ⊢;cases hl with
      | cons a b c d => exact c k B K1 K2 h1 h2 hK p q _ hp hfb
    by_cases k5:t.k=5
    · rw [if_pos k5,if_pos k5];simp only [k5,if_pos] at hgn;exact head (.inl k5) (iE h1) (iE h2) fun to p q f hp hf=>hK to _ _ f (hp.set (by omega) _) hf
    rw [if_neg k5,if_neg k5];by_cases k6:t.k=6
    · rw [if_pos k6,if_pos k6];exact head (.inr k6) h1 h2 hK
    rw [if_neg k6,if_neg k6];by_cases k2:t.k=2∨t.k=3∨t.k=4
    · rw [if_pos k2,if_pos k2];split
      · exact hK _ p q _ hp hfb
      · exact .none
    rw [if_neg k2,if_neg k2];split
    · exact hK _ p q _ hp hfb
    · exact .none
end
section
open Go.RowKit Srt
def Fu {α:Type} (d:Nat) (x y:α × Fl):Prop:=(y.2.2=true∧mr d x.2)∨(x.1=y.1∧x.2=(y.2.1+d,false)∧y.2.2=false)
def Iw (d n:Nat):Sm:=⟨d,[],[],n,fun x y=>x.1=y.1∧x.2=(y.2.1+d,false)∧y.2.2=false,fun _=>False⟩
theorem Cj (d n B:Nat):(Iw d n).K B K0 K0:=fun to p q fu hp hf=>by
  obtain ⟨rfl,_⟩:=hp;refine .inr (.inr (.inl ⟨rfl,rfl,?_,rfl,rfl⟩));show some (to,[]++q++ [])=some (to,q);simp
abbrev nP (n:Nat):Ps:=List.replicate n ((-1:Int),(-1:Int))
theorem zf (E:Env) {t:Tr} (ha:fq t=true) (d k fu:Nat):Fu d (eS (cM E t 0) (grpN t) k (fu+d,false)) (eS (cM E t 0) (grpN t) k (fu,false)):=by
  have h:=lL (S:=Iw d (grpN t)) (E:=E) t ha 0 (by show 0+grpN t≤grpN t;omega) k (fu+1) K0 K0 mt mt (Cj _ _ _) (nP (grpN t)) (nP (grpN t)) fu ⟨by simp [Iw],by simp [Iw]⟩ (by omega);rcases h with h | ⟨a,b,c,d⟩ | ⟨_,_,h⟩ | ⟨_,h⟩
  · exact .inl h
  · exact .inr ⟨a.trans b.symm,d,c⟩
  · exact .inr h
  · exact h.elim
theorem eL {E:Env} {r:fe} {m k to f:Nat} {ps:Ps} {φ:Fl} (h:eS r m k φ=(some (to,ps),(f,false))):eu E r m k φ=(some ((nth E.pl (k:Int),nth E.pl (to:Int)),ps),(f,false)):=by
  rw [oW (by rw [h];show (decide ((to:Int) < 0) || false)=false;simp),h];rfl
theorem eM {E:Env} {r:fe} {m k:Nat} {φ φ':Fl} (h:eS r m k φ=(none,φ')):eu E r m k φ=(none,φ'):=by
  rw [ph (by rw [h];rfl),h]
theorem jF (x:Rs):x.2.2=true∨(∃f,x=(none,(f,false)))∨∃to ps f,x=(some (to,ps),(f,false)):=by
  obtain ⟨o,f,u⟩:=x;cases u with
  | true => exact .inl rfl
  | false => cases o with
    | none => exact .inr (.inl ⟨f, rfl⟩)
    | some y => obtain ⟨to, ps⟩ := y; exact .inr (.inr ⟨to, ps, f, rfl⟩)
theorem uX {x:Rs} {o:Option (Nat × Ps)} {φ:Fl} (h:x.1=o) (h2:x.2=φ):x=(o,φ):=by obtain ⟨a,b⟩:=x;cases h;cases h2;rfl
theorem tI (E:Env) {t:Tr} (ha:fq t=true) (d k fu:Nat):Fu d (eu E (cM E t 0) (grpN t) k (fu+d,false)) (eu E (cM E t 0) (grpN t) k (fu,false)):=by
  rcases zf E ha d k fu with ⟨a,b⟩ | ⟨a,b,c⟩
  · exact .inl ⟨by rw [lm];exact a,by rw [lm];exact b⟩
  · rcases jF (eS (cM E t 0) (grpN t) k (fu,false)) with h | ⟨f,h⟩ | ⟨to,ps,f,h⟩
    · rw [h] at c;cases c
    · rw [h] at a b;rw [eM h,eM (uX a b)];exact .inr ⟨rfl,rfl,rfl⟩
    · rw [h] at a b;rw [eL h,eL (uX a b)];exact .inr ⟨rfl,rfl,rfl⟩
theorem kI {may hit:Bool} {x:Mt × Fl} (h:(gQ may hit x).2.2=0):may=true∧hit=true∧x.2.2=false:=by
  unfold gQ at h;split at h
  · exact absurd h (by decide)
  · split at h
    · exact absurd h (by decide)
    · split at h
      · exact absurd h (by decide)
      · simp_all
theorem kZ {t:Tr} (h:(cX t 512 16).2=true):fq t=true:=by
  rw [kF] at h;unfold rd at h;simp only [au] at h;exact h.2
theorem jW {n:Int} (h0:0≤n) (h1:n≤20000):clampF n=n.toNat:=by unfold clampF;rw [show min (max n 0) 20000=n by omega]
section
variable {t:Tr} {fold:Bool} {s:ByteArray} {k u v:Int}
theorem Ew (h0:0≤u) (h1:u≤v) (h2:v≤20000) (h:(dL t fold s k u).2.2=0):dL t fold s k v=((dL t fold s k u).1,(dL t fold s k u).2.1+v - u,0):=by
  obtain ⟨m,hh,ho⟩:=kI h;have e:clampF v=clampF u+(v - u).toNat:=by rw [jW h0 (by omega),jW (by omega) h2];omega
  have e1:dL t fold s k u=_:=fm m hh ho;rcases tI ⟨bA s,aO s,fold⟩ (kZ m) (v - u).toNat (plcF (aO s) k) (clampF u) with ⟨a,_⟩ | ⟨a,b,c⟩
  · rw [ho] at a;cases a
  · rw [←e] at a b;have e2:dL t fold s k v=_:=fm m hh (by rw [b]);rw [e1,e2,a,b];simp only [Prod.mk.injEq,true_and,and_true];omega
theorem GG (h0:0≤u) (h2:u≤20000) (h:(dL t fold s k u).2.2=0):0≤(dL t fold s k u).2.1∧(dL t fold s k u).2.1≤u:=by
  obtain ⟨m,hh,ho⟩:=kI h;have e1:dL t fold s k u=_:=fm m hh ho;have:=wS (kc ⟨bA s,aO s,fold⟩ t 0) (E:=⟨bA s,aO s,fold⟩) (m:=grpN t) (k:=plcF (aO s) k) (fu:=clampF u) (ou:=false);rw [e1];rw [jW h0 h2] at this ⊢
  simp only;omega
theorem Ex (h0:0≤u) (h2:u≤20000) (h:(dL t fold s k u).2.2=0):dL t fold s k (u - (dL t fold s k u).2.1)=((dL t fold s k u).1,0,0):=by
  obtain ⟨m,hh,ho⟩:=kI h;have hle:=GG h0 h2 h;have e1:dL t fold s k u=_:=fm m hh ho;generalize hn:(dL t fold s k u).2.1=n at hle;have e3:((eu ⟨bA s,aO s,fold⟩ (cM ⟨bA s,aO s,fold⟩ t 0) (grpN t) (plcF (aO s) k) (clampF u,false)).2.1:Int)=n:=by rw [←hn,e1]
  have e:clampF u=clampF (u - n)+n.toNat:=by rw [jW h0 (by omega),jW (by omega) (by omega)];omega
  rw [e] at e1 e3 ho;rcases tI ⟨bA s,aO s,fold⟩ (kZ m) n.toNat (plcF (aO s) k) (clampF (u - n)) with ⟨a,b⟩ | ⟨a,b,c⟩
  · rcases b with b | b
    · rw [ho] at b;cases b
    · omega
  · have e2:dL t fold s k (u - n)=_:=fm m hh c;rw [b] at e3;rw [e1,e2,a];simp only [Prod.mk.injEq,true_and,and_true];simp only at e3;omega
theorem Ey (h0:0≤u) (h2:u≤20000) (h:(dL t fold s k u).2.2=0) (hlt:(dL t fold s k u).2.1 < u):(dL t fold s k (u - (dL t fold s k u).2.1 - 1)).2.2=9:=by
  obtain ⟨m,hh,ho⟩:=kI h;have hle:=GG h0 h2 h;have e1:dL t fold s k u=_:=fm m hh ho;generalize hn:(dL t fold s k u).2.1=n at hle hlt;have e3:((eu ⟨bA s,aO s,fold⟩ (cM ⟨bA s,aO s,fold⟩ t 0) (grpN t) (plcF (aO s) k) (clampF u,false)).2.1:Int)=n:=by rw [←hn,e1]
  have e:clampF u=clampF (u - n - 1)+(n+1).toNat:=by rw [jW h0 (by omega),jW (by omega) (by omega)];omega
  rw [e] at e3 ho;rcases tI ⟨bA s,aO s,fold⟩ (kZ m) (n+1).toNat (plcF (aO s) k) (clampF (u - n - 1)) with ⟨a,b⟩ | ⟨a,b,c⟩
  · have e2:dL t fold s k (u - n - 1)=_:=km m hh a;rw [e2]
  · rw [b] at e3;simp only at e3;omega
theorem my {may hit:Bool} {x:Mt × Fl} (h:¬(gQ may hit x).2.2=0):(gQ may hit x).1=none∧(gQ may hit x).2.1=0:=by
  unfold gQ at h ⊢;split
  · exact ⟨rfl,rfl⟩
  · split
    · exact ⟨rfl,rfl⟩
    · split
      · exact ⟨rfl,rfl⟩
      · rename_i h1 h2 h3;rw [if_neg h1,if_neg h2,if_neg h3] at h;exact absurd rfl h
end
section
variable {t:Tr} {fold:Bool} {s:ByteArray} {k u v:Int} {x y z:Mt × Int × Int}
theorem sI (hq:x=dL t fold s k u) (h:¬x.2.2=0):x.1=none∧x.2.1=0:=by subst hq;exact my h
theorem Lb (hq:x=dL t fold s k u) (h0:0≤u) (h2:u≤20000) (h:x.2.2=0):0≤x.2.1∧x.2.1≤u:=by subst hq;exact GG h0 h2 h
theorem Kf (hq:x=dL t fold s k u) (hy:y=dL t fold s k v) (hz:z=dL t fold s k (u - x.2.1)) (h0:0≤u) (h1:u≤v) (h2:v≤20000) (h:x.2.2=0):y=(x.1,x.2.1+v - u,0)∧z=(x.1,0,0):=by
  subst hq;subst hy;subst hz;exact ⟨Ew h0 h1 h2 h,Ex h0 (by omega) h⟩
theorem Ix (hq:x=dL t fold s k u) (hy:y=dL t fold s k (u - x.2.1 - 1)) (h0:0≤u) (h2:u≤20000) (h:x.2.2=0) (hlt:x.2.1 < u):y.2.2=9:=by
  subst hq;subst hy;exact Ey h0 h2 h hlt
end
section
variable {x z:Mt × Int × Int} {n:Nat} {g1 g2:Int}
end
end
section
open Go.RowKit Srt
theorem sJ (x:Int) {n:Int} (h0:0 < n) (h1:n≤1000000):0≤ff x n∧ff x n < n:=by
  have h:IntKind.u64.wrap n=n:=by simp [IntKind.wrap,IntKind.signed,IntKind.bits];omega
  have h0:0≤IntKind.u64.wrap x:=by simp [IntKind.wrap,IntKind.signed,IntKind.bits];omega
  unfold ff;rw [h];have h1:=qx n h0;have h2:=nW (IntKind.u64.wrap x) (show (0:Int) < n by omega);rw [IntWalk.i64_in _ (by omega)];exact ⟨h1,h2⟩
end
section
open Go.RowKit
open Srt
set_option maxRecDepth 100000 in
set_option maxHeartbeats 4000000 in
theorem Ez (p:ByteArray) (fold:Bool) (s:ByteArray) (a n m:Int) (w:World):Calls Tryz.prog 6 #[(bc p),(aE fold),(bc s),(aj a),(aj n),(aj m)] w (fun e w'=>e= .returned (aE true)∧Ext aW w w'):=by
 refine enter (n:=191) Tryz.func6 rfl rfl (aw rfl) ?_;intro a0 τ0 ha st0;obtain ⟨e0,e1,e2,e3,e4,e5⟩:=LA ha;refine wp_seq (eK st0 [] ⟨aq fun c=>ax rfl rfl,av⟩ fun ac ag ae ab aa=> ?_);obtain ⟨e0,e1,e2,e3,e4,e5⟩:=aa.k6 e0 e1 e2 e3 e4 e5;have e12:=aa.V 0;refine wp_seq ?_;refine aY ?_;refine bV 2 (by kernel_rfl) ?_;refine og [_,gE _ 32 (fun b:Tr × Int=> .tuple #[b.1.v,aj b.2]) (fun b:Tr × Int=>(b.2=0→PatOk (er b.1) (p.size:Int) 0)∧fc b.1≤2200 * (p.size:Int)+2∧fc b.1≤600000) (fun b:Tr × Int=>gT (Gn aW w) b.1)] [0,1] ab [] ⟨ao e0,eT (f:=fun b:Tr × Int=> .tuple #[b.1.v,aj b.2]) (Ψ:=fun b:Tr × Int=>(b.2=0→PatOk (er b.1) (p.size:Int) 0)∧fc b.1≤2200 * (p.size:Int)+2∧fc b.1≤600000) (Φ:=fun b:Tr × Int=>gT (Gn aW w) b.1) fun {_ a_ _ _} c=>⟨_,_,(bK rfl rfl jM (c.q 0)),(lG p _).mono (fun e w' ⟨t_,r_,he_,hx_,ht_,hp_⟩=>⟨⟨t_,r_⟩,he_,hx_,hp_,c.tn ab hx_ ht_⟩)⟩,av⟩ fun ac ag ae ab aa=> ?_;obtain ⟨e0,e1,e2,e3,e4,e5,e12⟩:=aa.k7 e0 e1 e2 e3 e4 e5 e12;obtain ⟨⟨t1_,er1_⟩,e32,hqt1_,hz2⟩:=aa.zd 1 rfl;have e32:be ac 32=(.tuple #[(ta t1_),(aj er1_)]):=e32;have hqt1_:(er1_=0→PatOk (er t1_) (p.size:Int) 0)∧fc t1_≤2200 * (p.size:Int)+2∧fc t1_≤600000:=hqt1_;obtain ⟨hpt1_,hwt1_⟩:=hqt1_;have hbt1_:=fG t1_;have r0:=hz2;refine bW ?_;refine og [_,_,_,box _ _ 1 13 [(aj 0),(bc (⟨#[]⟩:ByteArray)),(aE false),(.slice none 0 0),(aj 0),(aj 0),(aE false),(.slice none 0 0)],_,_] [0,1,3,7,15,31] ab [jz 0 r0] ⟨ao e32,bR 0,bR 0,bO rfl rfl rfl rfl aD rfl,ey (cx:=(tc t1_)) (off:=0) rfl ak fun c=>⟨c.rb 3 rfl,(c.rb 3 rfl).ptr,(c.q 1)⟩,aK 2,av⟩ fun ac ag ae ab aa=> ?_;obtain ⟨b3x13,e13⟩:=gx ac 13;obtain ⟨e0,e1,e2,e3,e4,e5,e12⟩:=aa.k7 e0 e1 e2 e3 e4 e5 e12;have e14:=aa.V 5;replace r0:=aa.z1 0;have r1:=aa.rb 4 e13 rfl;refine wp_seq ?_;refine wp_seq (zG [0,1,3,7,15,31,63,127,255,511,1023,2047] ab [jz 0 r0,jb r1] ⟨ao e0,aq fun c=>fA rfl aZ (c.q 0),aq fun c=>ii rfl (c.q 1) rfl,bD 2,bm 3 rfl fun c hpc=>aS rfl (c.p e2),bm 3 rfl fun c hpc=>fA rfl aZ (c.M 4 hpc),bm 3 rfl fun c hpc=>ii rfl (c.M 5 hpc) rfl,dm 3 6,bD 7,bm 8 rfl fun c hpc=>aS rfl (c.p e14),bm 8 rfl fun c hpc=>fh rfl (c.M 9 hpc) rfl,dm 8 10,av⟩ fun ac ag ae ab aa=> ?_);obtain ⟨e1,e2,e3,e4,e5,e12,e13⟩:=aa.k7 e1 e2 e3 e4 e5 e12 e13;have e46:=aa.V 11;replace r0:=aa.z1 0;replace r1:=aa.B 1;refine wp_cond_split e46 (fun hc1=> ?_) (fun hc1=> ?_)
 · try simp only [aR,aG,ar,am,ai,ah,aV] at hc1
   refine wp_seq (eA ab [jz 0 r0,jb r1] ⟨eE fun c=>⟨_,_,(fN rfl rfl dN),fO _⟩,aK 0,av⟩ fun ac ag ae ab aa=> ?_);obtain ⟨e1,e2,e3,e4,e5,e13⟩:=aa.k6 e1 e2 e3 e4 e5 e13;have e12:=aa.V 1;replace r0:=aa.z1 0;replace r1:=aa.B 1;refine wp_ret ?_;refine rp ?_;refine cO (fn:=Tryz.f6) rfl ab.defers e12 ?_;refine ⟨congrArg _ (congrArg _ ?_),ab.ext0⟩;rfl
 try simp only [aR,aG,ar,am,ai,ah,aV] at hc1
 refine wp_skip ?_;refine wp_seq (fX ab [jz 0 r0,jb r1] ⟨ao e4,eE fun c=>⟨_,_,(ck rfl rfl lf (c.q 0) rfl),qC n 3001 _ (by omega) (by omega)⟩,aK 1,av⟩ fun ac ag ae ab aa=> ?_);obtain ⟨e1,e2,e3,e5,e12,e13⟩:=aa.k6 e1 e2 e3 e5 e12 e13;have e15:=aa.V 2;replace r0:=aa.z1 0;replace r1:=aa.B 1;have hlu_:=sJ n (n:=3001) (by decide) (by decide);refine wp_seq ?_;have hlv0_:=sJ m (n:=3001) (by decide) (by decide);refine vO [0,0,2,7,15] ab [jz 0 r0,jb r1] ⟨ao e15,ao e5,eE fun c=>⟨_,_,(ck rfl rfl lf (c.q 1) rfl),qC m 3001 _ (by omega) (by omega)⟩,aq fun c=>cN rfl (c.q 0) (c.q 2) (by omega),aK 3,av⟩ fun ac ag ae ab aa=> ?_;obtain ⟨e1,e2,e3,e12,e13,e15⟩:=aa.k6 e1 e2 e3 e12 e13 e15;have e16:=aa.V 4;replace r0:=aa.z1 0;replace r1:=aa.B 1;have hlv_:=sJ m (n:=3001) (by decide) (by decide);refine wp_seq (Hm [0,0,2,6,15,31] ab [jz 0 r0,jb r1] ⟨ao e3,ao e2,aq fun c=>fA rfl aZ (c.q 1),aq fun c=>cN rfl (c.q 2) rfl (by omega),eE fun c=>⟨_,_,(ck rfl rfl lf (c.q 0) (c.q 3)),qC a ((s.size:Int)+1) _ (by omega) (by omega)⟩,aK 4,av⟩ fun ac ag ae ab aa=> ?_);obtain ⟨e1,e2,e12,e13,e15,e16⟩:=aa.k6 e1 e2 e12 e13 e15 e16;have e17:=aa.V 5;replace r0:=aa.z1 0;replace r1:=aa.B 1;refine wp_seq ?_;refine aY ?_;refine bV 6 (by kernel_rfl) ?_;refine og [_,_,_,_,_,gE _ 65 (fun b:Sv × (Mt × Int × Int)=> .tuple #[(.agg #[aj (aM b.2.1).1,aj (aM b.2.1).2,b.1.v]),aj b.2.2.1,aE b.2.1.isSome,aj b.2.2.2]) (fun b:Sv × (Mt × Int × Int)=>b.2=dL t1_ fold s (ff a ((s.size:Int)+1)) (ff n 3001)) (fun b:Sv × (Mt × Int × Int)=>fb cF (Gn aW w) b.1.v (bJ b.2.1))] [0,0,0,0,0,31] ab [jz 0 r0,jb r1] ⟨aq fun c=>dY rfl az ak ((c.p e13).trans r1.ptr) (c.B 1),ao e1,ao e2,ao e17,ao e15,eT (f:=fun b:Sv × (Mt × Int × Int)=> .tuple #[(.agg #[aj (aM b.2.1).1,aj (aM b.2.1).2,b.1.v]),aj b.2.2.1,aE b.2.1.isSome,aj b.2.2.2]) (Ψ:=fun b:Sv × (Mt × Int × Int)=>b.2=dL t1_ fold s (ff a ((s.size:Int)+1)) (ff n 3001)) (Φ:=fun b:Sv × (Mt × Int × Int)=>fb cF (Gn aW w) b.1.v (bJ b.2.1)) fun {_ a_ _ _} c=>⟨_,_,(eC rfl rfl fL (c.q 0) (c.q 1) (c.q 2) (c.q 3) (c.q 4)),(kH _ t1_ fold s (ff a ((s.size:Int)+1)) (ff n 3001) _ (c.iz 0 rfl) (by omega) (by omega)).mono (fun e w' ⟨b_,he_,hx_,hs_,hn_⟩=>⟨⟨b_,_⟩,he_,hx_,rfl,c.sns ab hx_.size ⟨hs_,hn_⟩⟩)⟩,av⟩ fun ac ag ae ab aa=> ?_;obtain ⟨e1,e2,e12,e13,e15,e16,e17⟩:=aa.k7 e1 e2 e12 e13 e15 e16 e17;obtain ⟨⟨mv2_,at2_⟩,e65,hqat2_,hz9⟩:=aa.zd 5 rfl;have e65:be ac 65=(.tuple #[(.agg #[(aj ((aM at2_.1).1)),(aj ((aM at2_.1).2)),mv2_.v]),(aj at2_.2.1),(aE at2_.1.isSome),(aj at2_.2.2)]):=e65;have hqat2_:at2_=dL t1_ fold s (ff a ((s.size:Int)+1)) (ff n 3001):=hqat2_;replace r0:=aa.z1 0;replace r1:=aa.B 1;have r2:=hz9;refine bW ?_;refine og [_,_,_,_,_,box _ _ 3 18 [(aj 0),(aj 0),(.slice none 0 0)],_,_,_,_] [0,1,3,7,15,31,63,127,255,511] ab [jz 0 r0,jb r1,jz 2 r2] ⟨ao e65,bR 0,bR 0,bR 0,bR 0,bO rfl rfl rfl rfl bI rfl,ey (cx:=[(aj ((aM at2_.1).1)),(aj ((aM at2_.1).2)),mv2_.v]) (off:=0) rfl bi fun c=>⟨c.rb 5 rfl,(c.rb 5 rfl).ptr,(c.q 1)⟩,aK 2,aK 3,aK 4,av⟩ fun ac ag ae ab aa=> ?_;obtain ⟨b10x18,e18⟩:=gx ac 18;obtain ⟨e1,e2,e12,e13,e15,e16,e17⟩:=aa.k7 e1 e2 e12 e13 e15 e16 e17;have e19:=aa.V 7;have e20:=aa.V 8;have e21:=aa.V 9;obtain ⟨r0,r2⟩:=aa.z2 0 2;replace r1:=aa.B 1;have r3:=aa.rb 6 e18 rfl;refine wp_seq ?_;refine wp_seq (eA ab [jz 0 r0,jb r1,jz 2 r2,jb r3] ⟨ao e21,aq fun c=>fh rfl (c.q 0) rfl,av⟩ fun ac ag ae ab aa=> ?_);obtain ⟨e1,e2,e12,e13,e15,e16,e17,e18,e19,e20⟩:=aa.k10 e1 e2 e12 e13 e15 e16 e17 e18 e19 e20;have e71:=aa.V 1;obtain ⟨r0,r2⟩:=aa.z2 0 2;replace r1:=aa.B 1;replace r3:=aa.B 3;refine wp_cond_split e71 (fun hc2=> ?_) (fun hc2=> ?_)
 · try simp only [ar,am,ai,ah] at hc2
   refine wp_seq ?_;refine rg [_,_,_,_,_,_,_,_,_,_,_,_,_,_,_,_,_,_,_,_,_,_] [0,1,3,7,15,31,63,127,255,511,1023,2047,4095,8191,16383,8191,65535,131071,262143,524287,1048575,2097151] ab [jz 0 r0,jb r1,jz 2 r2,jb r3] ⟨ao e19,aq fun c=>cY rfl (c.q 0) rfl,bD 1,aL 2 rfl fun c hpc=>aS rfl (c.p e20),aL 2 rfl fun c hpc=>ew rfl (c.M 3 hpc),bZ 2 4,bD 5,aL 6 rfl fun c hpc=>dh rfl bd co ((c.p e18).trans r3.ptr),aL 6 rfl fun c hpc=>aI rfl cG (c.M 7 hpc) ((c.B 3).cell (j:=2) rfl),aL 6 rfl fun c hpc=>dk rfl bh (c.M 8 hpc) (r2).1.sl,aL 6 rfl fun c hpc=>cY rfl (c.M 9 hpc) rfl,bZ 6 10,bD 11,aL 12 rfl fun c hpc=>dh rfl bd aT ((c.p e18).trans r3.ptr),aL 12 rfl fun c hpc=>cq (vs:=[(aj ((aM at2_.1).1)),(aj ((aM at2_.1).2))]) rfl cV aT (c.M 13 hpc) rfl (fun j_ _ hj=>by rw [add_add];exact (c.ib 3 rfl).cell (j:=0+j_) (ei (l:=[(aj ((aM at2_.1).1)),(aj ((aM at2_.1).2)),mv2_.v]) (o:=0) (n:=2) rfl hj)),aL 12 rfl fun c hpc=>xE (cells:=#[(aj 0),(aj 0)]) rfl gU ni,aL 12 rfl fun c hpc=>mU (p:=((aM at2_.1).1,(aM at2_.1).2)) (q:=(0,0)) rfl (c.M 14 hpc) (c.M 15 hpc),bZ 12 16,bD 17,fC 18 true rfl fun c hpc=>⟨_,_,(fN rfl rfl dN),fO _⟩,bZ 18 19,aK 20,av⟩ fun ac ag ae ab aa=> ?_;obtain ⟨e1,e2,e13,e15,e16,e17,e18,e19,e20⟩:=aa.k9 e1 e2 e13 e15 e16 e17 e18 e19 e20;have e12:=aa.V 21;obtain ⟨r0,r2⟩:=aa.z2 0 2;replace r1:=aa.B 1;replace r3:=aa.B 3;refine wp_ret ?_;refine rp ?_;refine cO (fn:=Tryz.f6) rfl ab.defers e12 ?_;refine ⟨congrArg _ (congrArg _ ?_),ab.ext0⟩;obtain ⟨h1_,h2_⟩:=sI hqat2_ (by omega);rw [h1_,h2_];rfl
 try simp only [ar,am,ai,ah] at hc2
 refine wp_skip ?_;refine wp_seq ?_;refine aY ?_;refine bV 6 (by kernel_rfl) ?_;refine og [_,_,_,_,_,gE _ 99 (fun b:Sv × (Mt × Int × Int)=> .tuple #[(.agg #[aj (aM b.2.1).1,aj (aM b.2.1).2,b.1.v]),aj b.2.2.1,aE b.2.1.isSome,aj b.2.2.2]) (fun b:Sv × (Mt × Int × Int)=>b.2=dL t1_ fold s (ff a ((s.size:Int)+1)) (ff n 3001+(ff m 3001))) (fun b:Sv × (Mt × Int × Int)=>fb cF (Gn aW w) b.1.v (bJ b.2.1))] [0,0,0,0,0,31] ab [jz 0 r0,jb r1,jz 2 r2,jb r3] ⟨aq fun c=>dY rfl az ak ((c.p e13).trans r1.ptr) (c.B 1),ao e1,ao e2,ao e17,ao e16,eT (f:=fun b:Sv × (Mt × Int × Int)=> .tuple #[(.agg #[aj (aM b.2.1).1,aj (aM b.2.1).2,b.1.v]),aj b.2.2.1,aE b.2.1.isSome,aj b.2.2.2]) (Ψ:=fun b:Sv × (Mt × Int × Int)=>b.2=dL t1_ fold s (ff a ((s.size:Int)+1)) (ff n 3001+(ff m 3001))) (Φ:=fun b:Sv × (Mt × Int × Int)=>fb cF (Gn aW w) b.1.v (bJ b.2.1)) fun {_ a_ _ _} c=>⟨_,_,(eC rfl rfl fL (c.q 0) (c.q 1) (c.q 2) (c.q 3) (c.q 4)),(kH _ t1_ fold s (ff a ((s.size:Int)+1)) (ff n 3001+(ff m 3001)) _ (c.iz 0 rfl) (by omega) (by omega)).mono (fun e w' ⟨b_,he_,hx_,hs_,hn_⟩=>⟨⟨b_,_⟩,he_,hx_,rfl,c.sns ab hx_.size ⟨hs_,hn_⟩⟩)⟩,av⟩ fun ac ag ae ab aa=> ?_;obtain ⟨e1,e2,e12,e13,e15,e16,e17,e18,e19,e20⟩:=aa.k10 e1 e2 e12 e13 e15 e16 e17 e18 e19 e20;obtain ⟨⟨mv3_,at3_⟩,e99,hqat3_,hz13⟩:=aa.zd 5 rfl;have e99:be ac 99=(.tuple #[(.agg #[(aj ((aM at3_.1).1)),(aj ((aM at3_.1).2)),mv3_.v]),(aj at3_.2.1),(aE at3_.1.isSome),(aj at3_.2.2)]):=e99;have hqat3_:at3_=dL t1_ fold s (ff a ((s.size:Int)+1)) (ff n 3001+(ff m 3001)):=hqat3_;obtain ⟨r0,r2⟩:=aa.z2 0 2;replace r1:=aa.B 1;replace r3:=aa.B 3;have r4:=hz13;refine bW ?_;refine og [_,_,_,_,_,box _ _ 5 22 [(aj 0),(aj 0),(.slice none 0 0)],_,_,_,_] [0,1,3,7,15,31,63,127,255,511] ab [jz 0 r0,jb r1,jz 2 r2,jb r3,jz 4 r4] ⟨ao e99,bR 0,bR 0,bR 0,bR 0,bO rfl rfl rfl rfl bI rfl,ey (cx:=[(aj ((aM at3_.1).1)),(aj ((aM at3_.1).2)),mv3_.v]) (off:=0) rfl bi fun c=>⟨c.rb 5 rfl,(c.rb 5 rfl).ptr,(c.q 1)⟩,aK 2,aK 3,aK 4,av⟩ fun ac ag ae ab aa=> ?_;obtain ⟨b14x22,e22⟩:=gx ac 22;obtain ⟨e1,e2,e12,e13,e15,e16,e17,e18,e19,e20⟩:=aa.k10 e1 e2 e12 e13 e15 e16 e17 e18 e19 e20;have e23:=aa.V 7;have e24:=aa.V 8;have e25:=aa.V 9;obtain ⟨r0,r2,r4⟩:=aa.z3 0 2 4;replace r1:=aa.B 1;replace r3:=aa.B 3;have r5:=aa.rb 6 e22 rfl;refine wp_seq ?_;have hle_:=Lb hqat2_ (by omega) (by omega) (by omega);refine aY ?_;refine bV 8 (by kernel_rfl) ?_;refine og [_,_,_,_,_,_,_,gE _ 112 (fun b:Sv × (Mt × Int × Int)=> .tuple #[(.agg #[aj (aM b.2.1).1,aj (aM b.2.1).2,b.1.v]),aj b.2.2.1,aE b.2.1.isSome,aj b.2.2.2]) (fun b:Sv × (Mt × Int × Int)=>b.2=dL t1_ fold s (ff a ((s.size:Int)+1)) (ff n 3001 - at2_.2.1)) (fun b:Sv × (Mt × Int × Int)=>fb cF (Gn aW w) b.1.v (bJ b.2.1))] [0,0,0,0,0,0,48,127] ab [jz 0 r0,jb r1,jz 2 r2,jb r3,jz 4 r4,jb r5] ⟨aq fun c=>dY rfl az ak ((c.p e13).trans r1.ptr) (c.B 1),ao e1,ao e2,ao e17,ao e15,ao e19,aq fun c=>gd rfl (c.q 4) (c.q 5) (by omega),eT (f:=fun b:Sv × (Mt × Int × Int)=> .tuple #[(.agg #[aj (aM b.2.1).1,aj (aM b.2.1).2,b.1.v]),aj b.2.2.1,aE b.2.1.isSome,aj b.2.2.2]) (Ψ:=fun b:Sv × (Mt × Int × Int)=>b.2=dL t1_ fold s (ff a ((s.size:Int)+1)) (ff n 3001 - at2_.2.1)) (Φ:=fun b:Sv × (Mt × Int × Int)=>fb cF (Gn aW w) b.1.v (bJ b.2.1)) fun {_ a_ _ _} c=>⟨_,_,(eC rfl rfl fL (c.q 0) (c.q 1) (c.q 2) (c.q 3) (c.q 6)),(kH _ t1_ fold s (ff a ((s.size:Int)+1)) (ff n 3001 - at2_.2.1) _ (c.iz 0 rfl) (by omega) (by omega)).mono (fun e w' ⟨b_,he_,hx_,hs_,hn_⟩=>⟨⟨b_,_⟩,he_,hx_,rfl,c.sns ab hx_.size ⟨hs_,hn_⟩⟩)⟩,av⟩ fun ac ag ae ab aa=> ?_;obtain ⟨e1,e2,e12,e13,e15,e16,e17,e18,e19,e20,e22,e23,e24,e25⟩:=aa.k14 e1 e2 e12 e13 e15 e16 e17 e18 e19 e20 e22 e23 e24 e25;obtain ⟨⟨mv4_,at4_⟩,e112,hqat4_,hz15⟩:=aa.zd 7 rfl;have e112:be ac 112=(.tuple #[(.agg #[(aj ((aM at4_.1).1)),(aj ((aM at4_.1).2)),mv4_.v]),(aj at4_.2.1),(aE at4_.1.isSome),(aj at4_.2.2)]):=e112;have hqat4_:at4_=dL t1_ fold s (ff a ((s.size:Int)+1)) (ff n 3001 - at2_.2.1):=hqat4_;obtain ⟨r0,r2,r4⟩:=aa.z3 0 2 4;replace r1:=aa.B 1;replace r3:=aa.B 3;replace r5:=aa.B 5;have r6:=hz15;refine bW ?_;refine og [_,_,_,_,_,box _ _ 7 26 [(aj 0),(aj 0),(.slice none 0 0)],_,_,_,_] [0,1,3,7,15,31,63,127,255,511] ab [jz 0 r0,jb r1,jz 2 r2,jb r3,jz 4 r4,jb r5,jz 6 r6] ⟨ao e112,bR 0,bR 0,bR 0,bR 0,bO rfl rfl rfl rfl bI rfl,ey (cx:=[(aj ((aM at4_.1).1)),(aj ((aM at4_.1).2)),mv4_.v]) (off:=0) rfl bi fun c=>⟨c.rb 5 rfl,(c.rb 5 rfl).ptr,(c.q 1)⟩,aK 2,aK 3,aK 4,av⟩ fun ac ag ae ab aa=> ?_;obtain ⟨b16x26,e26⟩:=gx ac 26;obtain ⟨e1,e2,e12,e13,e15,e16,e17,e18,e19,e20,e22,e23,e24,e25⟩:=aa.k14 e1 e2 e12 e13 e15 e16 e17 e18 e19 e20 e22 e23 e24 e25;have e27:=aa.V 7;have e28:=aa.V 8;have e29:=aa.V 9;obtain ⟨r0,r2,r4,r6⟩:=aa.z4 0 2 4 6;replace r1:=aa.B 1;replace r3:=aa.B 3;replace r5:=aa.B 5;have r7:=aa.rb 6 e26 rfl;refine wp_seq ?_;refine wp_seq ?_;refine rg [_,_,_,_,_,_,_,_,_,_,_,_,_,_,_,_,_,_,_,_,_,_,_,_,_,_,_,_,_,_,_,_,_,_,_,_,_,_,_,_,_,_,_,_,_,_,_,_,_,_,_] [0,1,3,7,7,31,63,127,255,255,255,1791,255,7935,16383,32767,65535,131071,262143,131071,655359,2097151,4194303,8388607,16777215,33554431,16777215,83886079,268435455,536870911,1073741823,2147483647,4294967295,8589934591,17179869183,34359738367,68719476735,137438953471,274877906943,549755813887,1099511627775,1099511627775,4398046511103,8796093022207,17592186044415,35184372088831,70368744177663,35184372088831,175921860444159,562949953421311,1125899906842623] ab [jz 0 r0,jb r1,jz 2 r2,jb r3,jz 4 r4,jb r5,jz 6 r6,jb r7] ⟨ao e25,aq fun c=>fh rfl (c.q 0) rfl,bD 1,bm 2 rfl fun c hpc=>aS rfl (c.p e20),bm 2 rfl fun c hpc=>aS rfl (c.p e24),bm 2 rfl fun c hpc=>qO rfl cT (c.M 3 hpc) (c.M 4 hpc),dm 2 5,bD 6,bm 7 rfl fun c hpc=>aS rfl (c.p e23),bm 7 rfl fun c hpc=>aS rfl (c.p e19),bm 7 rfl fun c hpc=>aS rfl (c.p e16),bm 7 rfl fun c hpc=>cN rfl (c.M 9 hpc) (c.M 10 hpc) (by have hq0:=hpc;(try simp only [aR,aG,ar,am,beq_iff_eq,ai,ah] at hq0);omega),bm 7 rfl fun c hpc=>aS rfl (c.p e15),bm 7 rfl fun c hpc=>gd rfl (c.M 11 hpc) (c.M 12 hpc) (by have hq0:=hpc;(try simp only [aR,aG,ar,am,beq_iff_eq,ai,ah] at hq0);omega),bm 7 rfl fun c hpc=>fh rfl (c.M 8 hpc) (c.M 13 hpc),dm 7 14,bD 15,bm 16 rfl fun c hpc=>dh rfl bd aT ((c.p e18).trans r3.ptr),bm 16 rfl fun c hpc=>cq (vs:=[(aj ((aM at2_.1).1)),(aj ((aM at2_.1).2))]) rfl cV aT (c.M 17 hpc) rfl (fun j_ _ hj=>by rw [add_add];exact (c.ib 3 rfl).cell (j:=0+j_) (ei (l:=[(aj ((aM at2_.1).1)),(aj ((aM at2_.1).2)),mv2_.v]) (o:=0) (n:=2) rfl hj)),bm 16 rfl fun c hpc=>dh rfl bd aT ((c.p e22).trans r5.ptr),bm 16 rfl fun c hpc=>cq (vs:=[(aj ((aM at3_.1).1)),(aj ((aM at3_.1).2))]) rfl cV aT (c.M 19 hpc) rfl (fun j_ _ hj=>by rw [add_add];exact (c.ib 5 rfl).cell (j:=0+j_) (ei (l:=[(aj ((aM at3_.1).1)),(aj ((aM at3_.1).2)),mv3_.v]) (o:=0) (n:=2) rfl hj)),bm 16 rfl fun c hpc=>jU (p:=((aM at2_.1).1,(aM at2_.1).2)) (q:=((aM at3_.1).1,(aM at3_.1).2)) rfl (c.M 18 hpc) (c.M 20 hpc),dm 16 21,bD 22,bm 23 rfl fun c hpc=>dh rfl bd co ((c.p e18).trans r3.ptr),bm 23 rfl fun c hpc=>aI rfl cG (c.M 24 hpc) ((c.B 3).cell (j:=2) rfl),bm 23 rfl fun c hpc=>dh rfl bd co ((c.p e22).trans r5.ptr),bm 23 rfl fun c hpc=>aI rfl cG (c.M 26 hpc) ((c.B 5).cell (j:=2) rfl),fC 23 false rfl fun c hpc=>⟨_,_,(ck rfl rfl kt (c.M 25 hpc) (c.M 27 hpc)),kX mv2_.v mv3_.v (bJ at2_.1) (bJ at3_.1) _ (c.iz 2 rfl).1 (c.iz 4 rfl).1⟩,bm 23 rfl fun c hpc=>ew rfl (c.M 28 hpc),dm 23 29,bD 30,bm 31 rfl fun c hpc=>aS rfl (c.p e29),bm 31 rfl fun c hpc=>fh rfl (c.M 32 hpc) rfl,dm 31 33,bD 34,bm 35 rfl fun c hpc=>aS rfl (c.p e27),bm 35 rfl fun c hpc=>fh rfl (c.M 36 hpc) rfl,dm 35 37,bD 38,bm 39 rfl fun c hpc=>aS rfl (c.p e28),bm 39 rfl fun c hpc=>aS rfl (c.p e20),bm 39 rfl fun c hpc=>qO rfl cT (c.M 40 hpc) (c.M 41 hpc),dm 39 42,bD 43,bm 44 rfl fun c hpc=>dh rfl bd aT ((c.p e26).trans r7.ptr),bm 44 rfl fun c hpc=>cq (vs:=[(aj ((aM at4_.1).1)),(aj ((aM at4_.1).2))]) rfl cV aT (c.M 45 hpc) rfl (fun j_ _ hj=>by rw [add_add];exact (c.ib 7 rfl).cell (j:=0+j_) (ei (l:=[(aj ((aM at4_.1).1)),(aj ((aM at4_.1).2)),mv4_.v]) (o:=0) (n:=2) rfl hj)),bm 44 rfl fun c hpc=>dh rfl bd aT ((c.p e18).trans r3.ptr),bm 44 rfl fun c hpc=>cq (vs:=[(aj ((aM at2_.1).1)),(aj ((aM at2_.1).2))]) rfl cV aT (c.M 47 hpc) rfl (fun j_ _ hj=>by rw [add_add];exact (c.ib 3 rfl).cell (j:=0+j_) (ei (l:=[(aj ((aM at2_.1).1)),(aj ((aM at2_.1).2)),mv2_.v]) (o:=0) (n:=2) rfl hj)),bm 44 rfl fun c hpc=>jU (p:=((aM at4_.1).1,(aM at4_.1).2)) (q:=((aM at2_.1).1,(aM at2_.1).2)) rfl (c.M 46 hpc) (c.M 48 hpc),aq (v:=(aE false)) fun c=>cA.isB (b:=((((((((!decide (at3_.2.2=0)) || (!(at2_.1.isSome==at3_.1.isSome))) || (!decide (at3_.2.1=at2_.2.1+(ff n 3001+(ff m 3001)) - (ff n 3001)))) || (!(dA ((aM at2_.1).1,(aM at2_.1).2) ((aM at3_.1).1,(aM at3_.1).2)))) || (!(decide (bJ at2_.1=bJ at3_.1)))) || (!decide (at4_.2.2=0))) || (!decide (at4_.2.1=0))) || (!(at4_.1.isSome==at2_.1.isSome))) || (!(dA ((aM at4_.1).1,(aM at4_.1).2) ((aM at2_.1).1,(aM at2_.1).2)))) (pT rfl (c.q 44) (fun h=>c.M 49 h)) (by obtain ⟨h3_,h4_⟩:=Kf hqat2_ hqat3_ hqat4_ (by omega) (by omega) (by omega) (by omega);rw [h3_,h4_];simp [dA, *]),av⟩ fun ac ag ae ab aa=> ?_;obtain ⟨e1,e2,e12,e13,e15,e17,e19,e29⟩:=aa.k8 e1 e2 e12 e13 e15 e17 e19 e29;have e167:=aa.V 50;obtain ⟨r0,r2,r4,r6⟩:=aa.z4 0 2 4 6;replace r1:=aa.B 1;refine wp_cond_false e167 ?_;refine wp_skip ?_;refine wp_seq ?_;refine wp_seq (sf [0,0,3] ab [jz 0 r0,jb r1] ⟨ao e15,ao e19,aq fun c=>ii rfl (c.q 0) (c.q 1),av⟩ fun ac ag ae ab aa=> ?_);obtain ⟨e1,e2,e12,e13,e15,e17,e19,e29⟩:=aa.k8 e1 e2 e12 e13 e15 e17 e19 e29;have e170:=aa.V 2;replace r0:=aa.z1 0;replace r1:=aa.B 1;refine wp_cond_split e170 (fun hc4=> ?_) (fun hc4=> ?_)
 · try simp only [ai] at hc4
   refine wp_seq ?_;refine aY ?_;refine bV 9 (by kernel_rfl) ?_;refine og [_,_,_,_,_,_,_,_,gE _ 180 (fun b:Sv × (Mt × Int × Int)=> .tuple #[(.agg #[aj (aM b.2.1).1,aj (aM b.2.1).2,b.1.v]),aj b.2.2.1,aE b.2.1.isSome,aj b.2.2.2]) (fun b:Sv × (Mt × Int × Int)=>b.2=dL t1_ fold s (ff a ((s.size:Int)+1)) (ff n 3001 - at2_.2.1 - 1)) (fun b:Sv × (Mt × Int × Int)=>fb cF (Gn aW w) b.1.v (bJ b.2.1))] [0,0,0,0,0,0,48,112,255] ab [jz 0 r0,jb r1] ⟨aq fun c=>dY rfl az ak ((c.p e13).trans r1.ptr) (c.B 1),ao e1,ao e2,ao e17,ao e15,ao e19,aq fun c=>gd rfl (c.q 4) (c.q 5) (by omega),aq fun c=>gd rfl (c.q 6) rfl (by omega),eT (f:=fun b:Sv × (Mt × Int × Int)=> .tuple #[(.agg #[aj (aM b.2.1).1,aj (aM b.2.1).2,b.1.v]),aj b.2.2.1,aE b.2.1.isSome,aj b.2.2.2]) (Ψ:=fun b:Sv × (Mt × Int × Int)=>b.2=dL t1_ fold s (ff a ((s.size:Int)+1)) (ff n 3001 - at2_.2.1 - 1)) (Φ:=fun b:Sv × (Mt × Int × Int)=>fb cF (Gn aW w) b.1.v (bJ b.2.1)) fun {_ a_ _ _} c=>⟨_,_,(eC rfl rfl fL (c.q 0) (c.q 1) (c.q 2) (c.q 3) (c.q 7)),(kH _ t1_ fold s (ff a ((s.size:Int)+1)) (ff n 3001 - at2_.2.1 - 1) _ (c.iz 0 rfl) (by omega) (by omega)).mono (fun e w' ⟨b_,he_,hx_,hs_,hn_⟩=>⟨⟨b_,_⟩,he_,hx_,rfl,c.sns ab hx_.size ⟨hs_,hn_⟩⟩)⟩,av⟩ fun ac ag ae ab aa=> ?_;obtain ⟨e12,e29⟩:=aa.k2 e12 e29;obtain ⟨⟨mv5_,at5_⟩,e180,hqat5_,hz19⟩:=aa.zd 8 rfl;have e180:be ac 180=(.tuple #[(.agg #[(aj ((aM at5_.1).1)),(aj ((aM at5_.1).2)),mv5_.v]),(aj at5_.2.1),(aE at5_.1.isSome),(aj at5_.2.2)]):=e180;have hqat5_:at5_=dL t1_ fold s (ff a ((s.size:Int)+1)) (ff n 3001 - at2_.2.1 - 1):=hqat5_;replace r0:=aa.z1 0;have r1:=hz19;refine bW ?_;refine og [_,_,_,_,_,_] [0,1,3,7,15,31] ab [jz 0 r0,jz 1 r1] ⟨ao e180,bR 0,bR 0,bR 0,bR 0,aK 4,av⟩ fun ac ag ae ab aa=> ?_;replace e12:=aa.k1 e12;have e29:=aa.V 5;obtain ⟨r0,r1⟩:=aa.z2 0 1;refine wp_seq (KE ab [jz 0 r0] ⟨ao e29,aq fun c=>cY rfl (c.q 0) rfl,bD 1,fC 2 true rfl fun c hpc=>⟨_,_,(fN rfl rfl dN),fO _⟩,bZ 2 3,aK 4,av⟩ fun ac ag ae ab aa=> ?_);have e12:=aa.V 5;replace r0:=aa.z1 0;refine wp_ret ?_;refine rp ?_;refine cO (fn:=Tryz.f6) rfl ab.defers e12 ?_;refine ⟨congrArg _ (congrArg _ ?_),ab.ext0⟩;have h5_:=Ix hqat2_ hqat5_ (by omega) (by omega) (by omega) (by omega);rw [h5_];rfl
 try simp only [ah,aV] at hc4
 refine wp_skip ?_;refine wp_seq (eA ab [jz 0 r0,jb r1] ⟨eE fun c=>⟨_,_,(fN rfl rfl dN),fO _⟩,aK 0,av⟩ fun ac ag ae ab aa=> ?_);have e12:=aa.V 1;replace r0:=aa.z1 0;refine wp_ret ?_;refine rp ?_;refine cO (fn:=Tryz.f6) rfl ab.defers e12 ?_;refine ⟨congrArg _ (congrArg _ ?_),ab.ext0⟩;rfl
end
end B
end Go.Proofs.YtcfdebjhikahfaaGreat
namespace Go.Proofs.YtcfdebjhikahfaaGreat
open Go.ChangeShapes Go.WideShapes Go.ChangeAt Go.RowKit
namespace B
theorem sK:ownKnob Tryz.prog.godebug=none:=by kernel_rfl
theorem kJ:laidOutB Tryz.prog=true:=by kernel_rfl
set_option maxRecDepth 100000 in
theorem uF (H:Type) (enc:TypeId × Value→H) (W:World) (base:Nat) (args:Array Value) (ds gs:List (DataW H)) (before:List MemPlace)
    (hval:∀(j:Nat) t v,Tryz.f6.params[j]? =some t→args[j]? =some v→Value.okWide Tryz.prog W .any base t v)
    (hW:DataW.Whole enc Tryz.prog Tryz.f6.params.toList Rows.runFuelSpec.vars false W args.toList ds gs before):
    Calls Tryz.prog 6 args W fun e W'=>∃v,e= .returned v∧Rows.runFuelSpec.post enc Tryz.prog Tryz.f6 false true false false W args v W':=by
  have hW':=hW;obtain ⟨p,q,hA0,hV,rfl,hfz,hnd⟩:=hW;have hA:DataW.TrodAll enc Tryz.prog W 0 (fun _=>true) true Tryz.f6.params.toList args.toList ds p:=hA0;rw [Tryz.params6] at hA hval;obtain ⟨v0,vs0,d0,ds0,p0,q0,hargs0,rfl,rfl,h0,r0⟩:=trodAll_cons hA;obtain ⟨v1,vs1,d1,ds1,p1,q1,hargs1,rfl,rfl,h1,r1⟩:=trodAll_cons r0;obtain ⟨v2,vs2,d2,ds2,p2,q2,hargs2,rfl,rfl,h2,r2⟩:=trodAll_cons r1;obtain ⟨v3,vs3,d3,ds3,p3,q3,hargs3,rfl,rfl,h3,r3⟩:=trodAll_cons r2;obtain ⟨v4,vs4,d4,ds4,p4,q4,hargs4,rfl,rfl,h4,r4⟩:=trodAll_cons r3;obtain ⟨v5,vs5,d5,ds5,p5,q5,hargs5,rfl,rfl,h5,r5⟩:=trodAll_cons r4;obtain ⟨rfl,rfl,rfl⟩:=trodAll_nil r5;subst hargs5;subst hargs4;subst hargs3;subst hargs2;subst hargs1;obtain rfl:args=#[v0,v1,v2,v3,v4,v5]:=by first | exact Array.ext' hargs0 | (cases args;simp_all)
  obtain ⟨x0,rfl,rfl,rfl,b0⟩:=Go.ChangeMaps.open_string aZ (hval 0 9 v0 rfl rfl) h0;obtain ⟨x1,rfl,rfl,rfl⟩:=open_bool cT (hval 1 4 v1 rfl rfl) h1;obtain ⟨x2,rfl,rfl,rfl,b2⟩:=Go.ChangeMaps.open_string aZ (hval 2 9 v2 rfl rfl) h2;obtain ⟨x3,rfl,b3⟩:=jB bX (hval 3 3 v3 rfl rfl) h3;obtain ⟨x4,rfl,b4⟩:=jB bX (hval 4 3 v4 rfl rfl) h4;obtain ⟨x5,rfl,b5⟩:=jB bX (hval 5 3 v5 rfl rfl) h5;exact (Ez x0 x1 x2 x3 x4 x5 W).mono fun e W' ⟨he,hx⟩=>⟨_,he,lU kJ hW' rfl (by kernel_rfl) rfl rfl cT hx⟩
set_option maxRecDepth 100000 in
theorem wX (os:Os) (started:os.Started) (H:Type) (enc:TypeId × Value→H):
    ReturnsInHanded {} Tryz.checked os 6 .any (Rows.runFuelSpec.pre6 enc Tryz.prog Tryz.f6 Rows.runFuelRow.domain false) (Rows.runFuelSpec.post enc Tryz.prog Tryz.f6 false true false false):=by
  refine returnsInHanded_of_change (C:=Tryz.checked) sK started (by kernel_rfl) Tryz.func6
    (ChangeSpec.witness6 (enc:=enc) (C:=Tryz.checked) false ⟨#[],#[.string ⟨#[]⟩,.bool false,.string ⟨#[]⟩,.int .i64 0,.int .i64 0,.int .i64 0],[]⟩ 8 (by kernel_rfl) (by kernel_rfl) (by kernel_rfl) (by kernel_rfl)) ?_
  intro W base args ds gs before hval hW _ _;exact uF H enc W base args ds gs before hval hW
theorem runFuel_holds:Rows.RunFuelSaid:=
  OpenClaim.holds_of_wide 6 Tryz.f6 rfl rfl rfl rfl rfl rfl rfl ⟨rfl,rfl,rfl,rfl,rfl⟩ rfl rfl rfl rfl rfl (by kernel_rfl) Tryz.func6 (by kernel_rfl)
    (of_decide_eq_true (by kernel_rfl)) (by unfold Func.isWrapper;first | (rw [if_pos (by decide+kernel)];kernel_rfl) | (rw [if_neg (by decide+kernel)];exact ⟨rfl,rfl⟩))
    (fun os started H enc _=>wX os started H enc)
end B
end Go.Proofs.YtcfdebjhikahfaaGreat
