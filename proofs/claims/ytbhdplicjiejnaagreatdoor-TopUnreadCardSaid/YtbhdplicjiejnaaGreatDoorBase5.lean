/-
  A function's beginning and end; elements of lists; the makes of elements that this program has. Over any program.
-/
import Derived.Test.YtbhdplicjiejnaaGreatDoorBase4
namespace Go.Proofs.YtbhdplicjiejnaaGreatDoor
namespace B
open Go.RowKit

/-- own territory: what is new since the call began -/
def Nw (w : World) : Foot := fun k => w.heap.size ≤ k

theorem enter {P : Program} {f : FuncId} {fn : Func} {c : Code} {args : Array Value} {w : World} {R : Ending → World → Prop} {n : Nat} (hf : P.funcs[f]? = some fn) (hb : fn.body = some c) (hn : fn.ntmps = n) (hle : args.size ≤ n)
    (h : ∀ a τ, (∀ i v, args[i]? = some v → get a i = v) → St (Nw w) w n a w τ → c.wp P (bodyPost P fn R) a w) : Calls P f args w R := by
  refine calls_of_wp hf hb (h _ (fun _ _ => False) (fun i v hi => ?_) ⟨rfl, ?_, Ext.refl _ _, fun k hk => hk, fun s t g h => h.elim, fun t g h => h.elim⟩)
  · unfold get
    have hlt : i < args.size := (Array.getElem?_eq_some_iff.1 hi).1
    rw [Array.getD_eq_getD_getElem?, Array.getElem?_append_left hlt, hi]
    rfl
  · simp [hn]; omega
/-- the same for a function that turns memory that it was handed -/
theorem enterIn {P : Program} {f : FuncId} {fn : Func} {c : Code} {args : Array Value} {w : World} {R : Ending → World → Prop} {n : Nat} (T : Foot) (hT : ∀ g, T g → g < w.heap.size) (hf : P.funcs[f]? = some fn) (hb : fn.body = some c) (hn : fn.ntmps = n) (hle : args.size ≤ n)
    (h : ∀ a τ, (∀ i v, args[i]? = some v → get a i = v) → τ 0 = T → St (fun k => T k ∨ w.heap.size ≤ k) w n a w τ → c.wp P (bodyPost P fn R) a w) : Calls P f args w R := by
  refine calls_of_wp hf hb (h _ (fun t g => t = 0 ∧ T g) (fun i v hi => ?_) (by funext g; simp) ⟨rfl, ?_, Ext.refl _ _, fun k hk => .inr hk, fun s t g h1 h2 => by rw [h1.1, h2.1], fun t g h => ⟨.inl h.2, hT g h.2⟩⟩)
  · unfold get
    have hlt : i < args.size := (Array.getElem?_eq_some_iff.1 hi).1
    rw [Array.getD_eq_getD_getElem?, Array.getElem?_append_left hlt, hi]
    rfl
  · simp [hn]; omega

theorem ret1 {P : Program} {fn : Func} {R : Ending → World → Prop} {a : Act} {w : World} {t : Nat} {v : Value} (hr : fn.results = #[.tmp t]) (hd : a.defers = []) (hv : get a t = v) (h : R (.returned v) w) : bodyPost P fn R .ret a w :=
  bodyPost_ret (v := v) (by rw [results_tmp hr]; exact congrArg (fun v => Result.ok v w) hv) hd h
theorem end0 {P : Program} {fn : Func} {R : Ending → World → Prop} {a : Act} {w : World} (hr : fn.results = #[]) (hd : a.defers = []) (h : R (.returned (.tuple #[])) w) : bodyPost P fn R .normal a w :=
  bodyPost_end (results_none hr _ _ _) hd h
theorem ret2 {P : Program} {fn : Func} {R : Ending → World → Prop} {a : Act} {w : World} {t t' : Nat} {v v' : Value} (hr : fn.results = #[.tmp t, .tmp t']) (hd : a.defers = []) (hv : get a t = v) (hv' : get a t' = v') (h : R (.returned (.tuple #[v, v'])) w) : bodyPost P fn R .ret a w :=
  bodyPost_ret (v := .tuple #[v, v']) (by rw [results_tmp2 hr]; exact (by rw [← hv, ← hv']; rfl)) hd h

theorem St.ext0 {n : Nat} {W : World} {a : Act} {w : World} {τ : Nat → Foot} (h : St (Nw W) W n a w τ) : Ext none' W w :=
  ⟨h.ext.os, h.ext.tape, h.ext.output, h.ext.size, fun k hk _ => h.ext.block k hk (fun hn : W.heap.size ≤ k => by omega)⟩

/-- what came in reads as it did -/
theorem SlT.at {α : Type} {E : Enc α} {W w : World} {v : Value} {xs : List α} (h : SlT E W v xs) (he : Ext (Nw W) W w) : SlT E w v xs :=
  h.keep he fun hne hn => by have := h.lt hne; simp only [Nw] at hn; omega

def nth {α : Type} [Inhabited α] (xs : List α) (i : Int) : α := xs.getD i.toNat default
theorem nth_some {α : Type} [Inhabited α] {xs : List α} {i : Int} (h0 : 0 ≤ i) (h1 : i < xs.length) : xs[i.toNat]? = some (nth xs i) := by
  have : i.toNat < xs.length := by omega
  simp [nth, List.getD, List.getElem?_eq_getElem this]
theorem nth_nat {α : Type} [Inhabited α] (xs : List α) (k : Nat) : nth xs (k : Int) = xs.getD k default := rfl

section
variable {N : Foot} {P : Program} {ops : Array Oper} {sp : List (Spec N)} {In : Nat → Ini N} {a0 : Act} {w0 : World} {bf : List Nat} {j : Nat} {o : Oper} {done : Nat → Bool} {a : Act} {w : World} {τ : Nat → Foot}
theorem Cx.ev (c : Cx ops sp In a0 w0 bf j o done a w τ) (i : Nat) {t : Nat} {val : Value} (hs : sp[i]? = some (B.det N t val)) (hb : (bf.getD j 0).testBit i = true) : a.eval (.tmp t) = val := c.v i hs hb
theorem Cx.eg (c : Cx ops sp In a0 w0 bf j o done a w τ) (i : Nat) {t : Nat} {pc : Prop} {val : Value} (hs : sp[i]? = some (B.gdet N t pc val)) (hb : (bf.getD j 0).testBit i = true) (hpc : pc) : a.eval (.tmp t) = val := c.g i hs hb hpc
theorem Cx.eo (c : Cx ops sp In a0 w0 bf j o done a w τ) {t : Nat} {val : Value} (h0 : get a0 t = val) (h : unB ops bf j t = true) : a.eval (.tmp t) = val := c.old h0 h
theorem Cx.ibox {ty : Nat} {v : Value} {cells : List Value} (c : Cx ops sp In a0 w0 bf j o done a w τ) (t : Nat) (hI : In t = B.ibox ty N v cells) (hl : lastTag (sp.map (·.tag)) t j = none) (hord : ordB (sp.map (·.tag)) bf t j = true) : boxR ty cells (τ t) v w :=
  c.ini t _ hI hl hord
theorem Cx.iown {α : Type} {E : Enc α} {ty : Nat} {v : Value} {xs : List α} (c : Cx ops sp In a0 w0 bf j o done a w τ) (t : Nat) (hI : In t = B.iown E ty N v xs) (hl : lastTag (sp.map (·.tag)) t j = none) (hord : ordB (sp.map (·.tag)) bf t j = true) : ownR E ty xs (τ t) v w :=
  c.ini t _ hI hl hord
theorem Cx.rbox {ty t slot : Nat} {cells : List Value} (c : Cx ops sp In a0 w0 bf j o done a w τ) (i : Nat) (hs : sp[i]? = some (B.box ty N t slot cells)) (hl : lastTag (sp.map (·.tag)) t j = some i) (hord : ordB (sp.map (·.tag)) bf t j = true) : boxR ty cells (τ t) (get a slot) w :=
  c.res i t _ hs hl hord
theorem Cx.rown {α : Type} {E : Enc α} {ty t slot : Nat} {xs : List α} (c : Cx ops sp In a0 w0 bf j o done a w τ) (i : Nat) (hs : sp[i]? = some (B.own E ty N t slot xs)) (hl : lastTag (sp.map (·.tag)) t j = some i) (hord : ordB (sp.map (·.tag)) bf t j = true) : ownR E ty xs (τ t) (get a slot) w :=
  c.res i t _ hs hl hord
end
section
variable {N : Foot} {l : List Oper} {sp : List (Spec N)} {il : List (Ini N)} {a0 a : Act} {w : World} {τ : Nat → Foot}
theorem Fin.rbox (h : Fin l sp il a0 a w τ) {ty t slot : Nat} {cells : List Value} (j : Nat) (hs : sp[j]? = some (B.box ty N t slot cells)) (hl : lastTag (sp.map (·.tag)) t sp.length = some j) {v : Value} (hv : get a slot = v) : boxR ty cells (τ t) v w :=
  hv ▸ h.res j t _ hs rfl hl
theorem Fin.rown (h : Fin l sp il a0 a w τ) {α : Type} {E : Enc α} {ty t slot : Nat} {xs : List α} (j : Nat) (hs : sp[j]? = some (B.own E ty N t slot xs)) (hl : lastTag (sp.map (·.tag)) t sp.length = some j) {v : Value} (hv : get a slot = v) : ownR E ty xs (τ t) v w :=
  hv ▸ h.res j t _ hs rfl hl
theorem Fin.ibox (h : Fin l sp il a0 a w τ) {ty : Nat} {v : Value} {cells : List Value} (t : Nat) (hI : iniOf il t = B.ibox ty N v cells) (hl : lastTag (sp.map (·.tag)) t sp.length = none) : boxR ty cells (τ t) v w := by
  have := h.ini t hl
  rw [hI] at this
  exact this
theorem Fin.iown (h : Fin l sp il a0 a w τ) {α : Type} {E : Enc α} {ty : Nat} {v : Value} {xs : List α} (t : Nat) (hI : iniOf il t = B.iown E ty N v xs) (hl : lastTag (sp.map (·.tag)) t sp.length = none) : ownR E ty xs (τ t) v w := by
  have := h.ini t hl
  rw [hI] at this
  exact this
end
theorem ownR.cast {α : Type} {E : Enc α} {ty : Nat} {xs ys : List α} {T : Foot} {v : Value} {w : World} (h : ownR E ty xs T v w) (e : ys = xs) : ownR E ty ys T v w := e ▸ h
theorem ownR.nil {α : Type} (E : Enc α) (ty : Nat) (T : Foot) (w : World) : ownR E ty ([] : List α) T (.slice none 0 0) w := ⟨OwnT.nil E ty w, fun g h => by simp [Value.ownBlock] at h⟩
theorem ownR.isSl {α : Type} {E : Enc α} {ty : Nat} {xs : List α} {T : Foot} {v : Value} {w : World} (h : ownR E ty xs T v w) : IsSl v xs.length := h.1.sl.sl
theorem SlT.le {α : Type} {E : Enc α} {xs : List α} {v : Value} {w : World} (h : SlT E w v xs) : xs.length ≤ 9223372036854775807 := h.sl.le
theorem ownR.le {α : Type} {E : Enc α} {ty : Nat} {xs : List α} {T : Foot} {v : Value} {w : World} (h : ownR E ty xs T v w) : xs.length ≤ 9223372036854775807 := h.1.sl.sl.le
theorem exit_here {id : Nat} {Q : Exit → Act → World → Prop} {a : Act} {w : World} (h : Q .normal a w) : Exit.inBlock id Q (.exit id) a w := by simpa [Exit.inBlock] using h
theorem exit_out {id id' : Nat} {Q : Exit → Act → World → Prop} {a : Act} {w : World} (hne : id' ≠ id) (h : Q (.exit id') a w) : Exit.inBlock id Q (.exit id') a w := by simpa [Exit.inBlock, hne] using h
theorem int_eq {k : IntKind} {p q : Int} (h : p = q) : Value.int k p = Value.int k q := h ▸ rfl
section
variable {P : Program} {a : Act} {o : Oper} {w : World} {x : Operand} {ts : Array TypeId} {f : FuncId}
theorem e_call0 (ho : o.op = .call { callee := .value x, args := #[], argTypes := ts }) (hx : a.eval x = .func (.func f) #[] #[]) (hcall : ∀ args w, (callFunc f args).run P w = .ok (.enter f args) w) : Enters P a o w f #[] :=
  e_call ho hx hcall (by simp)
theorem e_call1 {x1 : Operand} {v1 : Value} (ho : o.op = .call { callee := .value x, args := #[x1], argTypes := ts }) (hx : a.eval x = .func (.func f) #[] #[]) (hcall : ∀ args w, (callFunc f args).run P w = .ok (.enter f args) w) (h1 : a.eval x1 = v1) : Enters P a o w f #[v1] :=
  e_call ho hx hcall (by simp [h1])
theorem e_call2 {x1 x2 : Operand} {v1 v2 : Value} (ho : o.op = .call { callee := .value x, args := #[x1, x2], argTypes := ts }) (hx : a.eval x = .func (.func f) #[] #[]) (hcall : ∀ args w, (callFunc f args).run P w = .ok (.enter f args) w) (h1 : a.eval x1 = v1) (h2 : a.eval x2 = v2) : Enters P a o w f #[v1, v2] :=
  e_call ho hx hcall (by simp [h1, h2])
theorem e_call3 {x1 x2 x3 : Operand} {v1 v2 v3 : Value} (ho : o.op = .call { callee := .value x, args := #[x1, x2, x3], argTypes := ts }) (hx : a.eval x = .func (.func f) #[] #[]) (hcall : ∀ args w, (callFunc f args).run P w = .ok (.enter f args) w) (h1 : a.eval x1 = v1) (h2 : a.eval x2 = v2) (h3 : a.eval x3 = v3) : Enters P a o w f #[v1, v2, v3] :=
  e_call ho hx hcall (by simp [h1, h2, h3])
theorem e_call4 {x1 x2 x3 x4 : Operand} {v1 v2 v3 v4 : Value} (ho : o.op = .call { callee := .value x, args := #[x1, x2, x3, x4], argTypes := ts }) (hx : a.eval x = .func (.func f) #[] #[]) (hcall : ∀ args w, (callFunc f args).run P w = .ok (.enter f args) w) (h1 : a.eval x1 = v1) (h2 : a.eval x2 = v2) (h3 : a.eval x3 = v3) (h4 : a.eval x4 = v4) : Enters P a o w f #[v1, v2, v3, v4] :=
  e_call ho hx hcall (by simp [h1, h2, h3, h4])
theorem e_call5 {x1 x2 x3 x4 x5 : Operand} {v1 v2 v3 v4 v5 : Value} (ho : o.op = .call { callee := .value x, args := #[x1, x2, x3, x4, x5], argTypes := ts }) (hx : a.eval x = .func (.func f) #[] #[]) (hcall : ∀ args w, (callFunc f args).run P w = .ok (.enter f args) w) (h1 : a.eval x1 = v1) (h2 : a.eval x2 = v2) (h3 : a.eval x3 = v3) (h4 : a.eval x4 = v4) (h5 : a.eval x5 = v5) : Enters P a o w f #[v1, v2, v3, v4, v5] :=
  e_call ho hx hcall (by simp [h1, h2, h3, h4, h5])
end
def SpanE : Enc (Int × Int) := ⟨fun p => [.int .i64 p.1, .int .i64 p.2], 2, by decide, fun _ => rfl, fun x u hu => by simp at hu; rcases hu with rfl | rfl <;> rfl⟩
def IntE : Enc Int := ⟨fun p => [.int .i64 p], 1, by decide, fun _ => rfl, fun x u hu => by simp at hu; rcases hu with rfl; rfl⟩
def BoolE : Enc Bool := ⟨fun p => [.bool p], 1, by decide, fun _ => rfl, fun x u hu => by simp at hu; rcases hu with rfl; rfl⟩
def StrE : Enc ByteArray := ⟨fun p => [.string p], 1, by decide, fun _ => rfl, fun x u hu => by simp at hu; rcases hu with rfl; rfl⟩
def RowE : Enc (ByteArray × ByteArray) := ⟨fun p => [.string p.1, .string p.2], 2, by decide, fun _ => rfl, fun x u hu => by simp at hu; rcases hu with rfl | rfl <;> rfl⟩
def EditE : Enc (Int × Int × ByteArray) := ⟨fun p => [.int .i64 p.1, .int .i64 p.2.1, .string p.2.2], 3, by decide, fun _ => rfl, fun x u hu => by simp at hu; rcases hu with rfl | rfl | rfl <;> rfl⟩
def spanV (p : Int × Int) : Value := .agg #[.int .i64 p.1, .int .i64 p.2]
end B
end Go.Proofs.YtbhdplicjiejnaaGreatDoor
