/-
  Parts of slices; marks that change their names; operations whose guard is known to hold. Over any program.
-/
import Derived.Test.YtbhdplicjiejnaaGreatDoorBase6
import Derived.Lib.SliceRun
set_option linter.unusedSimpArgs false
set_option linter.unusedVariables false
namespace Go.Proofs.YtbhdplicjiejnaaGreatDoor
namespace B
open Go.RowKit

/-- v[lo:hi], elements of m cells -/
def subV (v : Value) (lo hi m : Nat) : Value := match v with
  | .slice a _ cap => .slice (if cap = lo then a else a.map (·.add (lo * m))) (hi - lo) (cap - lo)
  | v => v
def isNil (v : Value) : Bool := match v with
  | .slice none _ _ => true
  | _ => false
section
variable {α : Type} {E : Enc α} {w : World} {v : Value} {xs : List α}
theorem Enc.row_drop (E : Enc α) : ∀ (xs : List α) (n : Nat), E.row (xs.drop n) = (E.row xs).drop (n * E.sz)
  | xs, 0 => by simp
  | [], n + 1 => by simp [Enc.row]
  | x :: xs, n + 1 => by
    have e : E.row (x :: xs) = E.cells x ++ E.row xs := by simp [Enc.row]
    rw [List.drop_succ_cons, E.row_drop xs n, e, List.drop_append, E.len, List.drop_of_length_le (l := E.cells x) (by rw [E.len, Nat.add_mul]; omega), Nat.add_mul, List.nil_append]
    congr 1; omega
theorem Enc.row_take (E : Enc α) : ∀ (xs : List α) (n : Nat), E.row (xs.take n) = (E.row xs).take (n * E.sz)
  | xs, 0 => by simp [Enc.row]
  | [], n + 1 => by simp [Enc.row]
  | x :: xs, n + 1 => by
    have e : E.row (x :: xs) = E.cells x ++ E.row xs := by simp [Enc.row]
    have e' : E.row (x :: xs.take n) = E.cells x ++ E.row (xs.take n) := by simp [Enc.row]
    rw [List.take_succ_cons, e', E.row_take xs n, e, List.take_append, E.len, List.take_of_length_le (l := E.cells x) (by rw [E.len, Nat.add_mul]; omega), Nat.add_mul]
    congr 2; omega
theorem SlT.sub (h : SlT E w v xs) {lo hi : Nat} (h1 : lo ≤ hi) (h2 : hi ≤ xs.length) : SlT E w (subV v lo hi E.sz) ((xs.drop lo).take (hi - lo)) := by
  have hl : ((xs.drop lo).take (hi - lo)).length = hi - lo := by simp; omega
  rcases h.sl with ⟨rfl, h0⟩ | ⟨b, cap, rfl, hc, hm⟩
  · obtain rfl : hi = 0 := by omega
    obtain rfl : lo = 0 := by omega
    exact ⟨.inl ⟨by simp [subV], by simp⟩, fun j u hj => by simp [Enc.row] at hj⟩
  · refine ⟨.inr ⟨if cap = lo then b else b.add (lo * E.sz), cap - lo, ?_, by rw [hl]; omega, by omega⟩, fun j u hj => ?_⟩
    · rw [hl]; simp only [subV]; split <;> rfl
    · have hne : ¬ cap = lo := fun e => by
        have : (xs.drop lo).take (hi - lo) = [] := List.eq_nil_of_length_eq_zero (by omega)
        rw [this] at hj; simp [Enc.row] at hj
      have hp : ptrOf (subV (.slice (some b) xs.length cap) lo hi E.sz) = b.add (lo * E.sz) := by simp [subV, hne, ptrOf]
      rw [hp, add_add]
      refine h.cell (lo * E.sz + j) u ?_
      rw [E.row_take, E.row_drop] at hj
      have hlt : j < (hi - lo) * E.sz := by
        have := (List.getElem?_eq_some_iff.1 hj).1
        simp only [List.length_take] at this; omega
      rw [List.getElem?_take_of_lt hlt, List.getElem?_drop] at hj
      exact hj
theorem SlT.isNil (h : SlT E w v xs) (hn : isNil v = true) : xs = [] := by
  rcases h.sl with ⟨rfl, h0⟩ | ⟨b, cap, rfl, _⟩
  · exact List.eq_nil_of_length_eq_zero h0
  · simp [B.isNil] at hn
end
section
variable {P : Program} {a : Act} {o : Oper} {w : World} {t e : TypeId} {x y z : Operand} {v : Value} {n m : Nat} {k k' : IntKind} {p q : Int}
theorem r_sliceHi (ho : o.op = .slice t x none (some y) none) (ht : P.underlying t = some (.slice e)) (hz : ∀ w, (sizeOf e).run P w = .ok m w) (hx : a.eval x = v) (hv : IsSl v n) (hy : a.eval y = .int k p) (h0 : 0 ≤ p) (h1 : p ≤ n) : Runs P a o w (subV v 0 p.toNat m) := by
  rcases hv with ⟨rfl, rfl⟩ | ⟨b, cap, rfl, hc, _⟩
  · obtain rfl : p = 0 := by omega
    simp [Runs, execOp, ho, hx, hy, Instr.sliceAt, Instr.slice, run_underlying ht, Instr.sliceBounds, Instr.sliceBound, asIntOf, hz, subV]
  · have h2 : p ≤ cap := by omega
    simp [Runs, execOp, ho, hx, hy, Instr.sliceAt, Instr.slice, run_underlying ht, Instr.sliceBounds, Instr.sliceBound, asIntOf, hz, subV, h0, h2]
theorem r_sliceLo (ho : o.op = .slice t x (some y) none none) (ht : P.underlying t = some (.slice e)) (hz : ∀ w, (sizeOf e).run P w = .ok m w) (hx : a.eval x = v) (hv : IsSl v n) (hy : a.eval y = .int k p) (h0 : 0 ≤ p) (h1 : p ≤ n) : Runs P a o w (subV v p.toNat n m) := by
  rcases hv with ⟨rfl, rfl⟩ | ⟨b, cap, rfl, hc, _⟩
  · obtain rfl : p = 0 := by omega
    simp [Runs, execOp, ho, hx, hy, Instr.sliceAt, Instr.slice, run_underlying ht, Instr.sliceBounds, Instr.sliceBound, asIntOf, hz, subV]
  · simp [Runs, execOp, ho, hx, hy, Instr.sliceAt, Instr.slice, run_underlying ht, Instr.sliceBounds, Instr.sliceBound, asIntOf, hz, subV, h0, h1]
theorem r_sliceLH (ho : o.op = .slice t x (some y) (some z) none) (ht : P.underlying t = some (.slice e)) (hz : ∀ w, (sizeOf e).run P w = .ok m w) (hx : a.eval x = v) (hv : IsSl v n) (hy : a.eval y = .int k p) (hq : a.eval z = .int k' q) (h0 : 0 ≤ p) (h1 : p ≤ q) (h2 : q ≤ n) : Runs P a o w (subV v p.toNat q.toNat m) := by
  rcases hv with ⟨rfl, rfl⟩ | ⟨b, cap, rfl, hc, _⟩
  · obtain rfl : p = 0 := by omega
    obtain rfl : q = 0 := by omega
    simp [Runs, execOp, ho, hx, hy, hq, Instr.sliceAt, Instr.slice, run_underlying ht, Instr.sliceBounds, Instr.sliceBound, asIntOf, hz, subV]
  · have h3 : q ≤ cap := by omega
    have h4 : 0 ≤ q := by omega
    have h5 : p ≤ max q 0 := by omega
    simp [Runs, execOp, ho, hx, hy, hq, Instr.sliceAt, Instr.slice, run_underlying ht, Instr.sliceBounds, Instr.sliceBound, asIntOf, hz, subV, h0, h3, h4, h1]
    intro h6; omega
theorem r_isNil {t' : TypeId} (ho : o.op = .binOp .eql t x (.const (.slice none 0 0)) t') (ht : P.underlying t = some (.slice e)) (hx : a.eval x = v) (hv : IsSl v n) : Runs P a o w (.bool (isNil v)) := by
  rcases hv with ⟨rfl, rfl⟩ | ⟨b, cap, rfl, hc, _⟩
  · have := Lib.run_eql_slice_nil (P := P) w t e none 0 0 0 0 ht
    simp [Runs, execOp, ho, hx, eqGuard, isNil, show a.eval (.const (.slice none 0 0)) = .slice none 0 0 from rfl]
    simp only [this, Result.andThen_ok]
    rfl
  · have := Lib.run_eql_slice_nil (P := P) w t e (some b) n cap 0 0 ht
    simp [Runs, execOp, ho, hx, eqGuard, isNil, show a.eval (.const (.slice none 0 0)) = .slice none 0 0 from rfl]
    simp only [this, Result.andThen_ok]
    rfl
theorem r_isNot {t' : TypeId} (ho : o.op = .binOp .neq t x (.const (.slice none 0 0)) t') (ht : P.underlying t = some (.slice e)) (hx : a.eval x = v) (hv : IsSl v n) : Runs P a o w (.bool (!isNil v)) := by
  rcases hv with ⟨rfl, rfl⟩ | ⟨b, cap, rfl, hc, _⟩
  · have := run_neq_slice_nil_any (P := P) w t e none 0 0 0 0 ht
    simp [Runs, execOp, ho, hx, eqGuard, isNil, show a.eval (.const (.slice none 0 0)) = .slice none 0 0 from rfl]
    simp only [this, Result.andThen_ok]
    rfl
  · have := run_neq_slice_nil_any (P := P) w t e (some b) n cap 0 0 ht
    simp [Runs, execOp, ho, hx, eqGuard, isNil, show a.eval (.const (.slice none 0 0)) = .slice none 0 0 from rfl]
    simp only [this, Result.andThen_ok]
    rfl
theorem r_indexArr {k0 : Nat} (ho : o.op = .indexAddr t x y) (ht : P.underlying t = some (.array n e)) (hz : ∀ w, (sizeOf e).run P w = .ok m w) {ad : Addr} (hx : a.eval x = .pointer (some ad)) (hy : a.eval y = .int k (k0 : Int)) (h0 : (0 : Int) ≤ (k0 : Int)) (h1 : (k0 : Int) < n) :
    Runs P a o w (.pointer (some (ad.add (k0 * m)))) := by
  simp [Runs, execOp, ho, hx, hy, Instr.indexAt, Instr.sureAddr, run_underlying ht, hz, asIntOf, h0, h1]
  intro h; omega
theorem part_cells {l vs : List Value} {o n : Nat} (hv : vs = (l.drop o).take n) {j : Nat} {u : Value} (hj : vs[j]? = some u) : l[o + j]? = some u := by
  subst hv
  have hlt : j < n := by
    have := (List.getElem?_eq_some_iff.1 hj).1
    simp only [List.length_take] at this; omega
  rw [List.getElem?_take_of_lt hlt, List.getElem?_drop] at hj
  exact hj
theorem r_field {fs : Array Field} {f : Nat} {fd : Field} {cs : Array Value} {u : Value} (ho : o.op = .field t x f) (ht : P.underlying t = some (.struct fs)) (hf : fs[f]? = some fd) (hz : ∀ w, (isAgg fd.type).run P w = .ok false w) (hx : a.eval x = .agg cs) (hc : cs[fd.offset]? = some u) : Runs P a o w u := by
  simp [Runs, execOp, ho, Instr.field, run_underlying ht, hf, part, hz, hx, asAgg, hc]
theorem Runs.isB {b b' : Bool} (h : Runs P a o w (.bool b)) (e : b = b') : Runs P a o w (.bool b') := e ▸ h
end
section
variable {N : Foot} {W : World} {n : Nat} {a : Act} {w : World} {τ : Nat → Foot}
/-- marks renamed: (new, old) -/
def retag (τ : Nat → Foot) (l : List (Nat × Nat)) (t : Nat) : Foot := match l.lookup t with
  | some j => τ j
  | none => none'
theorem lookup_mem {l : List (Nat × Nat)} {t j : Nat} (h : l.lookup t = some j) : (t, j) ∈ l := by
  induction l with
  | nil => simp at h
  | cons p l ih =>
    obtain ⟨a, b⟩ := p
    simp only [List.lookup_cons] at h
    split at h
    · rename_i heq
      simp at heq h
      subst heq; subst h
      exact List.mem_cons_self ..
    · exact List.mem_cons_of_mem _ (ih h)
theorem retag_some {l : List (Nat × Nat)} {t g : Nat} (h : retag τ l t g) : ∃ j, l.lookup t = some j ∧ τ j g := by
  unfold retag at h
  cases hj : l.lookup t with
  | none => rw [hj] at h; exact h.elim
  | some j => rw [hj] at h; exact ⟨j, rfl, h⟩
theorem St.retag (h : St N W n a w τ) (l : List (Nat × Nat)) (hl : (l.all fun p => l.all fun q => p.2 != q.2 || p.1 == q.1) = true) : St N W n a w (retag τ l) := by
  refine ⟨h.defers, h.size, h.ext, h.big, fun s t g h1 h2 => ?_, fun t g h1 => ?_⟩
  · obtain ⟨j, hj, h1⟩ := retag_some h1
    obtain ⟨j', hj', h2⟩ := retag_some h2
    have e := h.disj j j' g h1 h2
    subst e
    rw [List.all_eq_true] at hl
    have := hl _ (lookup_mem hj)
    rw [List.all_eq_true] at this
    have := this _ (lookup_mem hj')
    simpa using this
  · obtain ⟨j, hj, h1⟩ := retag_some h1
    exact h.bnd _ g h1
end
section
variable {N : Foot} {P : Program} {ops : Array Oper} {sp : List (Spec N)} {In : Nat → Ini N} {a0 : Act} {w0 : World} {bf : List Nat} {j : Nat} {o : Oper} {s : Spec N}
/-- an operation whose guard is known to hold -/
theorem Ob.live {gi tg : Nat} {want : Bool} (hg : o.guard = some (gi, want)) (hgd : ((ops[gi]?).bind (·.dst)) = some tg) (hgs : sp[gi]? = some (B.det N tg (.bool want))) (hb : (bf.getD j 0).testBit gi = true)
    (h : Ob ops sp In a0 w0 P bf j { o with guard := none } s) : Ob ops sp In a0 w0 P bf j o s := by
  intro done a w τ c
  have c' : Cx ops sp In a0 w0 bf j { o with guard := none } done a w τ := ⟨c.J, c.hj, c.pre, c.post, c.lt⟩
  have hw := (h done a w τ c').1 (wanted_none rfl _)
  refine ⟨fun _ => hw, fun hn => ?_⟩
  have hv : get a tg = .bool want := c.v gi hgs hb
  have : a.tmps[tg]? = some (.bool want) := by
    unfold get at hv
    rw [Array.getD_eq_getD_getElem?] at hv
    cases h' : a.tmps[tg]? with
    | none => rw [h'] at hv; simp [undef] at hv
    | some u => rw [h'] at hv; simp at hv; rw [hv]
  exfalso
  cases want <;> simp [Region.wanted, hg, yielded, hgd, this] at hn
/-- .. to fail: nothing is done -/
theorem Ob.dead {gi tg t : Nat} {want b : Bool} (hs : s = unk N t) (hg : o.guard = some (gi, want)) (hgd : ((ops[gi]?).bind (·.dst)) = some tg) (hgs : sp[gi]? = some (B.det N tg (.bool b))) (hb : (bf.getD j 0).testBit gi = true) (hne : b ≠ want) : Ob ops sp In a0 w0 P bf j o s := by
  intro done a w τ c
  subst hs
  have hv : get a tg = .bool b := c.v gi hgs hb
  have : a.tmps[tg]? = some (.bool b) := by
    unfold get at hv
    rw [Array.getD_eq_getD_getElem?] at hv
    cases h' : a.tmps[tg]? with
    | none => rw [h'] at hv; simp [undef] at hv
    | some u => rw [h'] at hv; simp at hv; rw [hv]
  refine ⟨fun hn => ?_, fun _ => ⟨Ext.refl _ _, trivial⟩⟩
  exfalso
  cases want <;> cases b <;> simp [Region.wanted, hg, yielded, hgd, this] at hn hne
end
/-- a result that lies in a variable of the call's own -/
theorem load_box {P : Program} {w : World} {ty : Nat} {cells : List Value} {T : Foot} {v : Value} {m : Nat} (hb : boxR ty cells T v w) (hz : ∀ w, (isAgg ty).run P w = .ok true w) (hm : ∀ w, (sizeOf ty).run P w = .ok m w) (hl : cells.length = m) :
    (loadVar ty (ptrOf v)).run P w = .ok (.agg cells.toArray) w := by
  subst hl
  simp only [loadVar, Sem.run_bind, hz, Result.andThen_ok, if_true, hm, loadCells]
  rw [run_loadCellsFrom cells (ptrOf v) 0 #[] (fun j u hj => by rw [Nat.zero_add]; exact hb.cell hj)]
  simp
theorem ret1c {P : Program} {fn : Func} {R : Ending → World → Prop} {a : Act} {w : World} {t ty m : Nat} {v : Value} {cells : List Value} {T : Foot} (hr : fn.results = #[.cell t ty]) (hd : a.defers = []) (hv : get a t = v) (hb : boxR ty cells T v w)
    (hz : ∀ w, (isAgg ty).run P w = .ok true w) (hm : ∀ w, (sizeOf ty).run P w = .ok m w) (hl : cells.length = m) (h : R (.returned (.agg cells.toArray)) w) : bodyPost P fn R .ret a w :=
  bodyPost_ret (v := .agg cells.toArray) (by
    have hp := hb.ptr
    have hv' : (a.tmps[t]?).getD undef = .pointer (some (ptrOf v)) := by rw [← Array.getD_eq_getD_getElem?]; exact hv.trans hp
    simp only [results, hr]
    simp [hv', asAddr, load_box hb hz hm hl]) hd h
theorem ret2c {P : Program} {fn : Func} {R : Ending → World → Prop} {a : Act} {w : World} {t t' ty m : Nat} {v v' : Value} {cells : List Value} {T : Foot} (hr : fn.results = #[.cell t ty, .tmp t']) (hd : a.defers = []) (hv : get a t = v) (hv2 : get a t' = v') (hb : boxR ty cells T v w)
    (hz : ∀ w, (isAgg ty).run P w = .ok true w) (hm : ∀ w, (sizeOf ty).run P w = .ok m w) (hl : cells.length = m) (h : R (.returned (.tuple #[.agg cells.toArray, v'])) w) : bodyPost P fn R .ret a w :=
  bodyPost_ret (v := .tuple #[.agg cells.toArray, v']) (by
    have hp := hb.ptr
    have hv' : (a.tmps[t]?).getD undef = .pointer (some (ptrOf v)) := by rw [← Array.getD_eq_getD_getElem?]; exact hv.trans hp
    have hv3 : (a.tmps[t']?).getD undef = v' := by rw [← Array.getD_eq_getD_getElem?]; exact hv2
    simp only [results, hr]
    simp [hv', hv3, asAddr, load_box hb hz hm hl]) hd h
/-- a slice of the call's own, where pc holds -/
def gownR {α : Type} (E : Enc α) (ty : Nat) (pc : Prop) (xs : List α) (T : Foot) (v : Value) (w : World) : Prop := pc → ownR E ty xs T v w
def gown {α : Type} (pc : Prop) (E : Enc α) (ty : Nat) (N : Foot) (tag t : Nat) (xs : List α) : Spec N := ⟨some tag, t, fun _ => gownR E ty pc xs, fun _ _ T v w w' _ h hr hp => ownR_loc T v w w' h.less (hr hp), fun _ => True, fun _ _ _ _ _ => trivial⟩
section
variable {N : Foot} {P : Program} {ops : Array Oper} {sp : List (Spec N)} {In : Nat → Ini N} {a0 : Act} {w0 : World} {bf : List Nat} {j : Nat} {o : Oper} {s : Spec N} {done : Nat → Bool} {a : Act} {w : World} {τ : Nat → Foot}
/-- what makes a slice, under a guard whose value is known -/
theorem Ob.gown {α : Type} {E : Enc α} {ty tag t gi tg : Nat} {want b : Bool} {pc : Prop} {xs : List α} (hs : s = B.gown pc E ty N tag t xs) (hg : o.guard = some (gi, want)) (hd : o.dst = some t) (hgd : ((ops[gi]?).bind (·.dst)) = some tg)
    (hgs : sp[gi]? = some (B.det N tg (.bool b))) (hb : (bf.getD j 0).testBit gi = true) (hpc : pc ↔ b = want)
    (h : pc → Ob ops sp In a0 w0 P bf j { o with guard := none } (own E ty N tag t xs)) : Ob ops sp In a0 w0 P bf j o s := by
  intro done a w τ c
  subst hs
  have c' : Cx ops sp In a0 w0 bf j { o with guard := none } done a w τ := ⟨c.J, c.hj, c.pre, c.post, c.lt⟩
  have hv : get a tg = .bool b := c.v gi hgs hb
  have hw : Region.wanted o (yielded ops a.tmps) = (b == want) := by
    have : a.tmps[tg]? = some (.bool b) := by
      unfold get at hv
      rw [Array.getD_eq_getD_getElem?] at hv
      cases h' : a.tmps[tg]? with
      | none => rw [h'] at hv; simp [undef] at hv
      | some u => rw [h'] at hv; simp at hv; rw [hv]
    cases b <;> cases want <;> simp [Region.wanted, hg, yielded, hgd, this]
  refine ⟨fun hw' => ?_, fun hw' => ?_⟩
  · rw [hw] at hw'
    have hp : pc := hpc.2 (by simpa using hw')
    have hw2 : o.wp P a w (fun a' w' => ∃ v, a' = a.put o.dst v ∧ StepOk (own E ty N tag t xs) a' τ w w') (fun _ _ _ => False) := (h hp done a w τ c').1 (wanted_none rfl _)
    refine Oper.wp_mono ?_ hw2
    intro a' w' hK
    obtain ⟨v, ha, hx, T', hT, hr⟩ := hK
    exact ⟨v, ha, hx, T', hT, fun _ => hr⟩
  · rw [hw] at hw'
    have hp : ¬ pc := fun hp => by rw [hpc.1 hp] at hw'; simp at hw'
    exact ⟨Ext.refl _ _, τ tag, fun g h => .inl h, fun hp' => absurd hp' hp⟩
theorem Cx.rgown {α : Type} {E : Enc α} {ty t slot : Nat} {pc : Prop} {xs : List α} (c : Cx ops sp In a0 w0 bf j o done a w τ) (i : Nat) (hs : sp[i]? = some (B.gown pc E ty N t slot xs)) (hl : lastTag (sp.map (·.tag)) t j = some i) (hord : ordB (sp.map (·.tag)) bf t j = true) (hp : pc) : ownR E ty xs (τ t) (get a slot) w :=
  c.res i t _ hs hl hord hp
end
/-- a pair whose first part is a slice of the call's own, the second one is known -/
def tupR {α : Type} (E : Enc α) (ty : Nat) (xs : List α) (k : Value) (T : Foot) (v : Value) (w : World) : Prop := ∃ u, v = .tuple #[u, k] ∧ ownR E ty xs T u w
def tup {α : Type} (E : Enc α) (ty : Nat) (N : Foot) (tag t : Nat) (xs : List α) (k : Value) : Spec N := ⟨some tag, t, fun _ => tupR E ty xs k, fun _ _ T v w w' _ h ⟨u, hv, hr⟩ => ⟨u, hv, ownR_loc T u w w' h.less hr⟩, fun v => ∃ u, v = .tuple #[u, k], fun _ _ _ _ ⟨u, hv, _⟩ => ⟨u, hv⟩⟩
section
variable {N : Foot} {P : Program} {ops : Array Oper} {sp : List (Spec N)} {In : Nat → Ini N} {a0 : Act} {w0 : World} {bf : List Nat} {j : Nat} {o : Oper} {s : Spec N} {done : Nat → Bool} {a : Act} {w : World} {τ : Nat → Foot}
theorem Ob.callTup {α : Type} {E : Enc α} {ty tag t : Nat} {xs : List α} {k : Value} (hs : s = tup E ty N tag t xs k) (hg : o.guard = none) (hd : o.dst = some t)
    (h : ∀ done a w τ, Cx ops sp In a0 w0 bf j o done a w τ → ∃ f args, Enters P a o w f args ∧ Calls P f args w (fun e w' => ∃ v, e = .returned (.tuple #[v, k]) ∧ Ext none' w w' ∧ NewT E ty w w' v xs)) : Ob ops sp In a0 w0 P bf j o s := by
  subst hs
  refine Ob.callT (tag := tag) hg rfl fun done a w τ c => ?_
  obtain ⟨f, args, h1, h2⟩ := h done a w τ c
  refine ⟨f, args, h1, h2.mono fun e w' ⟨v, he, hx, ho⟩ => ⟨.tuple #[v, k], he, hx.mono (fun _ _ h => h.elim), fun g => v.ownBlock = some g, fun g hg => .inr ⟨ho.2 g hg, ho.1.lt g hg⟩, ?_⟩⟩
  show tupR E ty xs k _ (get (a.put o.dst _) t) w'
  rw [hd, get_put a t t _ (c.lt t hd), if_pos rfl]
  exact ⟨v, rfl, ho.1, fun g h => h⟩
theorem Cx.rtup {α : Type} {E : Enc α} {ty t slot : Nat} {xs : List α} {k : Value} (c : Cx ops sp In a0 w0 bf j o done a w τ) (i : Nat) (hs : sp[i]? = some (B.tup E ty N t slot xs k)) (hl : lastTag (sp.map (·.tag)) t j = some i) (hord : ordB (sp.map (·.tag)) bf t j = true) : tupR E ty xs k (τ t) (get a slot) w :=
  c.res i t _ hs hl hord
/-- the first part comes out -/
theorem Ob.part0 {α : Type} {E : Enc α} {ty tag t t0 : Nat} {xs : List α} {k : Value} (hs : s = own E ty N tag t xs) (hg : o.guard = none) (hd : o.dst = some t) (ho : o.op = .extract (.tmp t0) 0)
    (hp : ∀ done a w τ, Cx ops sp In a0 w0 bf j o done a w τ → tupR E ty xs k (τ tag) (get a t0) w) : Ob ops sp In a0 w0 P bf j o s := by
  subst hs
  refine Ob.tagged hg rfl fun done a w τ c => ?_
  obtain ⟨u, hu, hr⟩ := hp done a w τ c
  refine wp_of_runs (v := u) (r_extract ho hu rfl) ⟨_, rfl, Ext.refl _ _, τ tag, fun g h => .inl h, ?_⟩
  show ownR E ty xs _ (get (a.put o.dst u) t) w
  rw [hd, get_put a t t _ (c.lt t hd), if_pos rfl]
  exact hr
/-- the second part -/
theorem Cx.part1 {α : Type} {E : Enc α} {ty tag t0 : Nat} {xs : List α} {k : Value} (c : Cx ops sp In a0 w0 bf j o done a w τ) (i : Nat) (hs : sp[i]? = some (B.tup E ty N tag t0 xs k)) (hb : (bf.getD j 0).testBit i = true) (ho : o.op = .extract (.tmp t0) 1) : Runs P a o w k := by
  obtain ⟨u, hu⟩ := c.J.pur i _ hs (c.pre i hb)
  exact r_extract ho hu rfl
end
theorem Calls.isB {P : Program} {f : FuncId} {args : Array Value} {w : World} {b b' : Bool} {M : Nat → Prop} (h : Calls P f args w (fun e w' => e = .returned (.bool b) ∧ Ext M w w')) (e : b = b') : Calls P f args w (fun e w' => e = .returned (.bool b') ∧ Ext M w w') := e ▸ h
end B
end Go.Proofs.YtbhdplicjiejnaaGreatDoor
