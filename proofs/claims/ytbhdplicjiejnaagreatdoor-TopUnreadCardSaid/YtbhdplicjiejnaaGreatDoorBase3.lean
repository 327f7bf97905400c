/-
  Memory as lists of things of one make; the forms in which operations are shown inside a region; a function's state between its regions. Over any program.
-/
import Derived.Test.YtbhdplicjiejnaaGreatDoorBase2
namespace Go.Proofs.YtbhdplicjiejnaaGreatDoor
namespace B
open Go.RowKit

/-- a make of elements: so many cells each -/
structure Enc (α : Type) where
  cells : α → List Value
  sz : Nat
  pos : 0 < sz
  len : ∀ x, (cells x).length = sz
  one : ∀ x u, u ∈ cells x → u.oneCell' = true

section lists
variable {α : Type}
def Enc.row (E : Enc α) (xs : List α) : List Value := xs.flatMap E.cells
theorem Enc.row_length (E : Enc α) (xs : List α) : (E.row xs).length = xs.length * E.sz := by
  induction xs with
  | nil => simp [Enc.row]
  | cons x xs ih =>
    simp only [Enc.row, List.flatMap_cons, List.length_append, E.len, List.length_cons] at ih ⊢
    rw [ih, Nat.add_mul]; omega
theorem Enc.row_append (E : Enc α) (xs ys : List α) : E.row (xs ++ ys) = E.row xs ++ E.row ys := by
  simp [Enc.row]
theorem Enc.row_get (E : Enc α) {xs : List α} {i j : Nat} {x : α} (hx : xs[i]? = some x) (hj : j < E.sz) : (E.row xs)[i * E.sz + j]? = (E.cells x)[j]? := by
  induction xs generalizing i with
  | nil => simp at hx
  | cons y ys ih =>
    have e : E.row (y :: ys) = E.cells y ++ E.row ys := by simp [Enc.row]
    rw [e]
    cases i with
    | zero =>
      simp at hx; subst hx
      rw [List.getElem?_append_left (by rw [E.len]; omega)]
      congr 1; omega
    | succ i =>
      rw [List.getElem?_append_right (by rw [E.len, Nat.add_mul]; omega), E.len]
      rw [show (i + 1) * E.sz + j - E.sz = i * E.sz + j by rw [Nat.add_mul]; omega]
      exact ih (by simpa using hx)
theorem Enc.row_one (E : Enc α) {xs : List α} : ∀ u ∈ E.row xs, u.oneCell' = true := by
  intro u hu
  simp only [Enc.row, List.mem_flatMap] at hu
  obtain ⟨x, _, h⟩ := hu
  exact E.one x u h
end lists

section mem
variable {α : Type} {E : Enc α} {w w' : World} {v : Value} {xs : List α}

theorem IsSl.le {v : Value} {n : Nat} (h : IsSl v n) : n ≤ maxLen := by
  rcases h with ⟨_, rfl⟩ | ⟨b, cap, _, h1, h2⟩
  · exact Nat.zero_le _
  · omega

/-- v is a slice whose elements are xs: to be read -/
structure SlT (E : Enc α) (w : World) (v : Value) (xs : List α) : Prop where
  sl : IsSl v xs.length
  cell : ∀ j u, (E.row xs)[j]? = some u → w.cell? ((ptrOf v).add j) = some u
theorem SlT.nil (E : Enc α) (w : World) : SlT E w (.slice none 0 0) ([] : List α) := ⟨.inl ⟨rfl, rfl⟩, fun j u h => by simp [Enc.row] at h⟩

theorem addr_block (p : Addr) (j : Nat) : (p.add j).block = p.block := by unfold Addr.add; split <;> rfl
theorem add_add (p : Addr) (i j : Nat) : (p.add i).add j = p.add (i + j) := Deep.add_add p i j

theorem SlT.elem (h : SlT E w v xs) {i j : Nat} {x : α} {u : Value} (hx : xs[i]? = some x) (hu : (E.cells x)[j]? = some u) : w.cell? (((ptrOf v).add (i * E.sz)).add j) = some u := by
  rw [add_add]
  have hj : j < E.sz := by rw [← E.len x]; exact (List.getElem?_eq_some_iff.1 hu).1
  exact h.cell _ u (by rw [E.row_get hx hj]; exact hu)
/-- blocks of what is read -/
theorem SlT.lt (h : SlT E w v xs) (hne : xs ≠ []) : (ptrOf v).block < w.heap.size := by
  obtain ⟨x, hx⟩ : ∃ x, xs[0]? = some x := by cases xs with | nil => exact absurd rfl hne | cons x _ => exact ⟨x, rfl⟩
  obtain ⟨u, hu⟩ : ∃ u, (E.cells x)[0]? = some u := ⟨(E.cells x)[0]'(by rw [E.len]; exact E.pos), by simp⟩
  have := World.block_lt_of_cell? w _ (h.elem hx hu)
  rwa [addr_block, addr_block] at this
theorem SlT.keep {M : Nat → Prop} (h : SlT E w v xs) (he : Ext M w w') (hm : xs ≠ [] → ¬ M (ptrOf v).block) : SlT E w' v xs := by
  refine ⟨h.sl, fun j u hj => ?_⟩
  have hne : xs ≠ [] := fun e => by subst e; simp [Enc.row] at hj
  exact he.cell_some (h.cell j u hj) (by rw [addr_block]; exact hm hne)

/-- v is a slice of the call's own: nobody else holds its array -/
def OwnT (E : Enc α) (ty : Nat) (w : World) (v : Value) (xs : List α) : Prop := w.ownsRow 0 ty E.sz v xs.length (E.row xs)
variable {ty : Nat}
theorem OwnT.nil (E : Enc α) (ty : Nat) (w : World) : OwnT E ty w (.slice none 0 0) ([] : List α) := World.ownsRow_nil w 0 ty E.sz
theorem OwnT.sl (h : OwnT E ty w v xs) : SlT E w v xs := by
  refine ⟨?_, fun j u hj => ?_⟩
  · rcases h.2 with ⟨h1, h2⟩ | ⟨g, cap, cur, hv, _, _, h3, h4, _⟩
    · exact .inl ⟨h1, h2⟩
    · exact .inr ⟨_, cap, hv, h3, h4⟩
  · rcases h.2 with ⟨h1, h2⟩ | ⟨g, cap, cur, hv, hb, hg, h3, h4, h5, h6⟩
    · have : xs = [] := List.eq_nil_of_length_eq_zero h2
      subst this; simp [Enc.row] at hj
    · have := World.ownsRow.cells h (g := g) (by rw [hv]; rfl) j u hj
      rw [hv]
      exact this
theorem OwnT.keep {M : Nat → Prop} (h : OwnT E ty w v xs) (he : Ext M w w') (hm : ∀ g, v.ownBlock = some g → ¬ M g) : OwnT E ty w' v xs := by
  refine ⟨h.1, ?_⟩
  rcases h.2 with h | ⟨g, cap, cur, hv, hb, hg, r⟩
  · exact .inl h
  · exact .inr ⟨g, cap, cur, hv, hb, by rw [he.block g (Array.getElem?_eq_some_iff.1 hg).1 (hm g (by rw [hv]; rfl))]; exact hg, r⟩
theorem OwnT.lt (h : OwnT E ty w v xs) : ∀ g, v.ownBlock = some g → g < w.heap.size := fun g hg => (World.ownsRow.lt h g hg).2
theorem OwnT.le (h : OwnT E ty w v xs) : xs.length ≤ maxLen := h.sl.sl.le
end mem

/-! ### What operations leave -/
section specs
variable {N : Foot}
/-- a known value -/
def det (N : Foot) (t : Nat) (v : Value) : Spec N := ⟨none, t, fun _ _ u _ => u = v, fun _ _ _ _ _ _ _ _ h => h, fun _ => True, fun _ _ _ _ _ => trivial⟩
/-- a known value where pc holds; else nothing was done -/
def gdet (N : Foot) (t : Nat) (pc : Prop) (v : Value) : Spec N := ⟨none, t, fun _ _ u _ => (pc → u = v) ∧ (¬ pc → u = undef), fun _ _ _ _ _ _ _ _ h => h, fun _ => True, fun _ _ _ _ _ => trivial⟩
/-- whatever -/
def unk (N : Foot) (t : Nat) : Spec N := ⟨none, t, fun _ _ _ _ => True, fun _ _ _ _ _ _ _ _ h => h, fun _ => True, fun _ _ _ _ _ => trivial⟩
def ownR {α : Type} (E : Enc α) (ty : Nat) (xs : List α) (T : Foot) (v : Value) (w : World) : Prop := OwnT E ty w v xs ∧ ∀ g, v.ownBlock = some g → T g
theorem ownR_loc {N : Foot} {α : Type} {E : Enc α} {ty : Nat} {xs : List α} (T : Foot) (v : Value) (w w' : World) (h : Ext (fun g => N g ∧ ¬ T g) w w') (hr : ownR E ty xs T v w) : ownR E ty xs T v w' :=
  ⟨hr.1.keep h fun g hg hn => hn.2 (hr.2 g hg), hr.2⟩
/-- a slice of the call's own -/
def own {α : Type} (E : Enc α) (ty : Nat) (N : Foot) (tag t : Nat) (xs : List α) : Spec N := ⟨some tag, t, fun _ => ownR E ty xs, fun _ _ T v w w' _ h hr => ownR_loc T v w w' h.less hr, fun _ => True, fun _ _ _ _ _ => trivial⟩
def iown {α : Type} (E : Enc α) (ty : Nat) (N : Foot) (v : Value) (xs : List α) : Ini N := ⟨fun _ T w => ownR E ty xs T v w, fun _ _ T w w' _ h => ownR_loc T v w w' h.less⟩
/-- a variable of the call's own -/
def boxR (ty : Nat) (cells : List Value) (T : Foot) (v : Value) (w : World) : Prop := ∃ g, v = .pointer (some ⟨g, 0, none⟩) ∧ g < w.heap.size ∧ T g ∧ w.heap[g]? = some (.cells cells.toArray ty (0, 0))
theorem boxR_loc {N : Foot} {ty : Nat} {cells : List Value} (T : Foot) (v : Value) (w w' : World) (h : Ext (fun g => N g ∧ ¬ T g) w w') (hr : boxR ty cells T v w) : boxR ty cells T v w' := by
  obtain ⟨g, hv, hlt, hT, hg⟩ := hr
  exact ⟨g, hv, Nat.lt_of_lt_of_le hlt h.size, hT, by rw [h.block g hlt (fun hn => hn.2 hT)]; exact hg⟩
def box (ty : Nat) (N : Foot) (tag t : Nat) (cells : List Value) : Spec N := ⟨some tag, t, fun _ => boxR ty cells, fun _ _ T v w w' _ h hr => boxR_loc T v w w' h.less hr, fun _ => True, fun _ _ _ _ _ => trivial⟩
def ibox (ty : Nat) (N : Foot) (v : Value) (cells : List Value) : Ini N := ⟨fun _ T w => boxR ty cells T v w, fun _ _ T w w' _ h => boxR_loc T v w w' h.less⟩
theorem boxR.cell {ty : Nat} {cells : List Value} {T : Foot} {v : Value} {w : World} (h : boxR ty cells T v w) {j : Nat} {u : Value} (hu : cells[j]? = some u) : w.cell? ((ptrOf v).add j) = some u := by
  obtain ⟨g, rfl, _, _, hg⟩ := h
  simp only [ptrOf]
  have : ((⟨g, 0, none⟩ : Addr).add j) = ⟨g, j, none⟩ := by unfold Addr.add; split <;> simp_all
  rw [this]
  simp [World.cell?, hg, hu]
theorem boxR.ptr {ty : Nat} {cells : List Value} {T : Foot} {v : Value} {w : World} (h : boxR ty cells T v w) : v = .pointer (some (ptrOf v)) := by
  obtain ⟨g, rfl, _⟩ := h
  rfl
end specs

section obs
variable {N : Foot} {P : Program} {ops : Array Oper} {sp : List (Spec N)} {In : Nat → Ini N} {a0 : Act} {w0 : World} {bf : List Nat} {j : Nat} {o : Oper} {s : Spec N} {done : Nat → Bool} {a : Act} {w : World} {τ : Nat → Foot}

/-- the value of an operation ahead of this one -/
theorem Cx.v (c : Cx ops sp In a0 w0 bf j o done a w τ) (i : Nat) {t : Nat} {val : Value} (hs : sp[i]? = some (det N t val)) (hb : (bf.getD j 0).testBit i = true) : get a t = val :=
  c.J.det i _ hs rfl (c.pre i hb)
theorem Cx.g (c : Cx ops sp In a0 w0 bf j o done a w τ) (i : Nat) {t : Nat} {pc : Prop} {val : Value} (hs : sp[i]? = some (gdet N t pc val)) (hb : (bf.getD j 0).testBit i = true) (hpc : pc) : get a t = val :=
  (c.J.det i _ hs rfl (c.pre i hb)).1 hpc
theorem Cx.old (c : Cx ops sp In a0 w0 bf j o done a w τ) {t : Nat} {val : Value} (h0 : get a0 t = val) (h : unB ops bf j t = true) : get a t = val :=
  (c.J.old c.hj c.post t h).trans h0
/-- memory of the call's own as an operation ahead has left it -/
theorem Cx.res (c : Cx ops sp In a0 w0 bf j o done a w τ) (i t : Nat) (s' : Spec N) (hs : sp[i]? = some s') (hl : lastTag (sp.map (·.tag)) t j = some i) (hord : ordB (sp.map (·.tag)) bf t j = true) : s'.R (Zof τ w) (τ t) (get a s'.slot) w :=
  c.J.cur c.hj c.post c.pre t i s' hl hord hs
theorem Cx.ini (c : Cx ops sp In a0 w0 bf j o done a w τ) (t : Nat) (I : Ini N) (hI : In t = I) (hl : lastTag (sp.map (·.tag)) t j = none) (hord : ordB (sp.map (·.tag)) bf t j = true) : I.I (Zof τ w) (τ t) w := by
  rw [← hI]; exact c.J.cur0 c.hj c.post t hl hord

theorem wanted_none (hg : o.guard = none) (f : Nat → Option Bool) : Region.wanted o f = true := by simp [Region.wanted, hg]

theorem Ob.mk0 (hg : o.guard = none) (h : ∀ done a w τ, Cx ops sp In a0 w0 bf j o done a w τ → o.wp P a w (fun a' w' => ∃ v, a' = a.put o.dst v ∧ StepOk s a' τ w w') (fun _ _ _ => False)) : Ob ops sp In a0 w0 P bf j o s :=
  fun done a w τ c => ⟨fun _ => h done a w τ c, fun hw => by rw [wanted_none hg] at hw; cases hw⟩

theorem wp_of_runs {K : Act → World → Prop} {Q : Exit → Act → World → Prop} {v : Value} (h : Runs P a o w v) (hK : K (a.put o.dst v) w) : o.wp P a w K Q := by
  unfold Oper.wp
  rw [h]
  exact hK

/-- an operation that only computes or reads -/
theorem Ob.det {t : Nat} {v : Value} (hs : s = B.det N t v) (hg : o.guard = none) (hd : o.dst = some t) (h : ∀ done a w τ, Cx ops sp In a0 w0 bf j o done a w τ → Runs P a o w v) : Ob ops sp In a0 w0 P bf j o s :=
  Ob.mk0 hg fun done a w τ c => wp_of_runs (h done a w τ c) ⟨v, rfl, by
    subst hs
    refine ⟨Ext.refl _ _, ?_⟩
    show get (a.put o.dst v) t = v
    rw [hd, get_put a t t v (c.lt t hd), if_pos rfl]⟩

/-- the same under a guard whose value is known -/
theorem Ob.gdet {t gi tg : Nat} {want b : Bool} {pc : Prop} {v : Value} (hs : s = B.gdet N t pc v) (hg : o.guard = some (gi, want)) (hd : o.dst = some t) (hgd : ((ops[gi]?).bind (·.dst)) = some tg)
    (hgs : sp[gi]? = some (B.det N tg (.bool b))) (hb : (bf.getD j 0).testBit gi = true) (hpc : pc ↔ b = want)
    (h : ∀ done a w τ, Cx ops sp In a0 w0 bf j o done a w τ → pc → Runs P a o w v) : Ob ops sp In a0 w0 P bf j o s := by
  intro done a w τ c
  have hv : get a tg = .bool b := c.v gi hgs hb
  have hw : Region.wanted o (yielded ops a.tmps) = (b == want) := by
    have : a.tmps[tg]? = some (.bool b) := by
      unfold get at hv
      rw [Array.getD_eq_getD_getElem?] at hv
      cases h' : a.tmps[tg]? with
      | none => rw [h'] at hv; simp [undef] at hv
      | some u => rw [h'] at hv; simp at hv; rw [hv]
    cases b <;> cases want <;> simp [Region.wanted, hg, yielded, hgd, this]
  subst hs
  refine ⟨fun hw' => ?_, fun hw' => ?_⟩
  · rw [hw] at hw'
    have hp : pc := hpc.2 (by simpa using hw')
    refine wp_of_runs (h done a w τ c hp) ⟨v, rfl, Ext.refl _ _, ?_⟩
    show (pc → get (a.put o.dst v) t = v) ∧ (¬ pc → get (a.put o.dst v) t = undef)
    rw [hd, get_put a t t v (c.lt t hd), if_pos rfl]
    exact ⟨fun _ => rfl, fun hn => absurd hp hn⟩
  · rw [hw] at hw'
    have hp : ¬ pc := fun hp => by rw [hpc.1 hp] at hw'; simp at hw'
    refine ⟨Ext.refl _ _, ?_⟩
    show (pc → get (a.put o.dst undef) t = v) ∧ (¬ pc → get (a.put o.dst undef) t = undef)
    rw [hd, get_put a t t undef (c.lt t hd), if_pos rfl]
    exact ⟨fun h => absurd h hp, fun _ => rfl⟩
/-- .. under a guard that is itself guarded -/
theorem Ob.ggdet {t gi tg : Nat} {want b : Bool} {pc pg : Prop} {v : Value} (hs : s = B.gdet N t pc v) (hg : o.guard = some (gi, want)) (hd : o.dst = some t) (hgd : ((ops[gi]?).bind (·.dst)) = some tg)
    (hgs : sp[gi]? = some (B.gdet N tg pg (.bool b))) (hb : (bf.getD j 0).testBit gi = true) (hpc : pc ↔ (pg ∧ b = want))
    (h : ∀ done a w τ, Cx ops sp In a0 w0 bf j o done a w τ → pc → Runs P a o w v) : Ob ops sp In a0 w0 P bf j o s := by
  intro done a w τ c
  have hv := c.J.det gi _ hgs rfl (c.pre gi hb)
  have hv : (pg → get a tg = .bool b) ∧ (¬ pg → get a tg = undef) := hv
  subst hs
  by_cases hpg : pg
  · have hv' := hv.1 hpg
    have hw : Region.wanted o (yielded ops a.tmps) = (b == want) := by
      have : a.tmps[tg]? = some (.bool b) := by
        unfold get at hv'
        rw [Array.getD_eq_getD_getElem?] at hv'
        cases h' : a.tmps[tg]? with
        | none => rw [h'] at hv'; simp [undef] at hv'
        | some u => rw [h'] at hv'; simp at hv'; rw [hv']
      cases b <;> cases want <;> simp [Region.wanted, hg, yielded, hgd, this]
    refine ⟨fun hw' => ?_, fun hw' => ?_⟩
    · rw [hw] at hw'
      have hp : pc := hpc.2 ⟨hpg, by simpa using hw'⟩
      refine wp_of_runs (h done a w τ c hp) ⟨v, rfl, Ext.refl _ _, ?_⟩
      show (pc → get (a.put o.dst v) t = v) ∧ (¬ pc → get (a.put o.dst v) t = undef)
      rw [hd, get_put a t t v (c.lt t hd), if_pos rfl]
      exact ⟨fun _ => rfl, fun hn => absurd hp hn⟩
    · rw [hw] at hw'
      have hp : ¬ pc := fun hp => by rw [(hpc.1 hp).2] at hw'; simp at hw'
      refine ⟨Ext.refl _ _, ?_⟩
      show (pc → get (a.put o.dst undef) t = v) ∧ (¬ pc → get (a.put o.dst undef) t = undef)
      rw [hd, get_put a t t undef (c.lt t hd), if_pos rfl]
      exact ⟨fun h => absurd h hp, fun _ => rfl⟩
  · have hv' := hv.2 hpg
    have hw : Region.wanted o (yielded ops a.tmps) = false := by
      have : ∀ bb, a.tmps[tg]? ≠ some (.bool bb) := by
        intro bb h'
        unfold get at hv'
        rw [Array.getD_eq_getD_getElem?, h'] at hv'
        simp [undef] at hv'
      have hy : yielded ops a.tmps gi = none := by
        cases h' : a.tmps[tg]? with
        | none => simp [yielded, hgd, h']
        | some u => cases u <;> first | exact absurd h' (this _) | simp [yielded, hgd, h']
      simp [Region.wanted, hg, hy]
    have hp : ¬ pc := fun hp => hpg (hpc.1 hp).1
    refine ⟨fun hw' => (by rw [hw] at hw'; cases hw'), fun _ => ?_⟩
    refine ⟨Ext.refl _ _, ?_⟩
    show (pc → get (a.put o.dst undef) t = v) ∧ (¬ pc → get (a.put o.dst undef) t = undef)
    rw [hd, get_put a t t undef (c.lt t hd), if_pos rfl]
    exact ⟨fun h => absurd h hp, fun _ => rfl⟩
end obs
end B
end Go.Proofs.YtbhdplicjiejnaaGreatDoor
