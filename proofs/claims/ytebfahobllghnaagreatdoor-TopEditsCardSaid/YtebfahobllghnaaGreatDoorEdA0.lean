/-
  TopEdits: Base1, Base2, Base3.
-/
import Derived.WalkKit
import Derived.WalkSpells
import Derived.WalkLawsBesides
import Derived.Deep.Draws
import Derived.Lib.Slices
import Derived.Deep.Slices
set_option linter.unusedSimpArgs false
set_option linter.unusedVariables false
namespace Go.Proofs.YtebfahobllghnaaGreatDoor
namespace B
open Go.RowKit
def get (a : Act) (t : Nat) : Value := a.tmps.getD t undef
abbrev Foot := Nat → Prop
structure Ext (M : Nat → Prop) (w w' : World) : Prop where
  os : w'.os = w.os
  tape : w'.tape = w.tape
  output : w'.output = w.output
  size : w.heap.size ≤ w'.heap.size
  block : ∀ k, k < w.heap.size → ¬ M k → w'.heap[k]? = w.heap[k]?
def none' : Nat → Prop := fun _ => False
theorem Ext.refl (M : Nat → Prop) (w : World) : Ext M w w := ⟨rfl, rfl, rfl, Nat.le_refl _, fun _ _ _ => rfl⟩
theorem Ext.trans {M : Nat → Prop} {a b c : World} (h : Ext M a b) (k : Ext M b c) : Ext M a c :=
  ⟨k.os.trans h.os, k.tape.trans h.tape, k.output.trans h.output, Nat.le_trans h.size k.size,
    fun i hi hm => (k.block i (Nat.lt_of_lt_of_le hi h.size) hm).trans (h.block i hi hm)⟩
theorem Ext.mono {M M' : Nat → Prop} {a b : World} (h : Ext M a b) (hm : ∀ k, k < a.heap.size → M k → M' k) : Ext M' a b :=
  ⟨h.os, h.tape, h.output, h.size, fun i hi hn => h.block i hi (fun hM => hn (hm i hi hM))⟩
theorem Ext.drew {M : Nat → Prop} {a b : World} (h : Ext M a b) : Ext M a b.drew := ⟨h.os, h.tape, h.output, h.size, h.block⟩
theorem Ext.alloc (M : Nat → Prop) (w : World) (o : Obj) : Ext M w (w.alloc o) :=
  ⟨rfl, rfl, rfl, by simp, fun k hk _ => by show (w.heap.push o)[k]? = _; rw [Array.getElem?_push, if_neg (by omega)]⟩
theorem Ext.cell {M : Nat → Prop} {w w' : World} (h : Ext M w w') {p : Addr} (hp : p.block < w.heap.size) (hm : ¬ M p.block) : w'.cell? p = w.cell? p :=
  World.cell?_of_block (w := w) (h.block p.block hp hm)
theorem Ext.cell_some {M : Nat → Prop} {w w' : World} (h : Ext M w w') {p : Addr} {v : Value} (hc : w.cell? p = some v) (hm : ¬ M p.block) : w'.cell? p = some v :=
  (h.cell (World.block_lt_of_cell? w p hc) hm).trans hc
theorem Ext.below {w w' : World} (h : Ext none' w w') : Below w.heap.size w w' :=
  ⟨h.os, h.tape, h.output, h.size, fun k hk => h.block k hk (fun x => x)⟩
theorem get_put (a : Act) (d t : Nat) (v : Value) (hd : d < a.tmps.size) : get (a.put (some d) v) t = if t = d then v else get a t := by
  unfold get Act.put
  simp only [Array.getD_eq_getD_getElem?, Array.getElem?_setIfInBounds]
  by_cases h : d = t
  · subst h; simp [hd]
  · rw [if_neg h, if_neg (fun e => h e.symm)]
theorem get_put_none (a : Act) (t : Nat) (v : Value) : get (a.put none v) t = get a t := rfl
theorem size_put (a : Act) (d : Option Nat) (v : Value) : (a.put d v).tmps.size = a.tmps.size := by
  cases d <;> simp [Act.put]
theorem defers_put (a : Act) (d : Option Nat) (v : Value) : (a.put d v).defers = a.defers := by
  cases d <;> simp [Act.put]
theorem eval_tmp (a : Act) (t : Nat) : a.eval (.tmp t) = get a t := rfl
structure Spec (N : Foot) where
  tag : Option Nat
  slot : Nat
  R : Foot → Foot → Value → World → Prop
  loc : ∀ Z Z' T v w w', (∀ g, Z g → Z' g) → Ext (fun g => N g ∧ ¬ T g ∧ ¬ Z g) w w' → R Z T v w → R Z' T v w'
  pur : Value → Prop := fun _ => True
  fit : ∀ Z T v w, R Z T v w → pur v := by exact fun _ _ _ _ _ => trivial
structure Ini (N : Foot) where
  I : Foot → Foot → World → Prop
  loc : ∀ Z Z' T w w', (∀ g, Z g → Z' g) → Ext (fun g => N g ∧ ¬ T g ∧ ¬ Z g) w w' → I Z T w → I Z' T w'
def Ini.any (N : Foot) : Ini N := ⟨fun _ _ _ => True, fun _ _ _ _ _ _ _ h => h⟩
def Zof (τ : Nat → Foot) (w : World) : Foot := fun g => g < w.heap.size ∧ ∀ t, ¬ τ t g
def upd (τ : Nat → Foot) (t0 : Nat) (T' : Foot) : Nat → Foot := fun t g => if t = t0 then T' g else τ t g
theorem Ext.less {N T Z : Foot} {w w' : World} (h : Ext (fun g => N g ∧ ¬ T g ∧ ¬ Z g) w w') : Ext (fun g => N g ∧ ¬ T g) w w' := h.mono fun _ _ h => ⟨h.1, h.2.1⟩
section
variable {N : Foot} {P : Program} (ops : Array Oper) (sp : List (Spec N)) (ini : Nat → Ini N) (a0 : Act) (w0 : World)
structure J (done : Nat → Bool) (a : Act) (w : World) (τ : Nat → Foot) : Prop where
  defers : a.defers = a0.defers
  size : a.tmps.size = a0.tmps.size
  un : ∀ t, (∀ i o, ops[i]? = some o → o.dst = some t → done i = false) → get a t = get a0 t
  ext : Ext N w0 w
  big : ∀ k, w.heap.size ≤ k → N k
  disj : ∀ s t g, τ s g → τ t g → s = t
  bnd : ∀ t g, τ t g → N g ∧ g < w.heap.size
  det : ∀ (j : Nat) (s : Spec N), sp[j]? = some s → s.tag = none → done j = true → s.R (Zof τ w) none' (get a s.slot) w
  res : ∀ (j : Nat) (s : Spec N) (t : Nat), sp[j]? = some s → s.tag = some t → done j = true → (∀ (k : Nat) (s' : Spec N), sp[k]? = some s' → j < k → s'.tag = some t → done k = false) → s.R (Zof τ w) (τ t) (get a s.slot) w
  ini : ∀ t, (∀ (k : Nat) (s' : Spec N), sp[k]? = some s' → s'.tag = some t → done k = false) → (ini t).I (Zof τ w) (τ t) w
  pur : ∀ (j : Nat) (s : Spec N), sp[j]? = some s → done j = true → s.pur (get a s.slot)
def StepOk (s : Spec N) (a' : Act) (τ : Nat → Foot) (w w' : World) : Prop :=
  match s.tag with
  | none => Ext none' w w' ∧ s.R (Zof τ w') none' (get a' s.slot) w'
  | some t => Ext (τ t) w w' ∧ ∃ T' : Foot, (∀ g, T' g → τ t g ∨ (w.heap.size ≤ g ∧ g < w'.heap.size)) ∧ s.R (Zof (upd τ t T') w') T' (get a' s.slot) w'
structure Cx (bf : List Nat) (j : Nat) (o : Oper) (done : Nat → Bool) (a : Act) (w : World) (τ : Nat → Foot) : Prop where
  J : J ops sp ini a0 w0 done a w τ
  hj : done j = false
  pre : ∀ i, (bf.getD j 0).testBit i = true → done i = true
  post : ∀ k, (bf.getD k 0).testBit j = true → done k = false
  lt : ∀ d, o.dst = some d → d < a.tmps.size
def Ob (P : Program) (bf : List Nat) (j : Nat) (o : Oper) (s : Spec N) : Prop :=
  ∀ done a w τ, Cx ops sp ini a0 w0 bf j o done a w τ →
    (Region.wanted o (yielded ops a.tmps) = true → o.wp P a w (fun a' w' => ∃ v, a' = a.put o.dst v ∧ StepOk s a' τ w w') (fun _ _ _ => False)) ∧
    (Region.wanted o (yielded ops a.tmps) = false → StepOk s (a.put o.dst undef) τ w w)
def ObList (P : Program) (bf : List Nat) : Nat → List Oper → List (Spec N) → Prop
  | _, [], [] => True
  | j, o :: l, s :: r => Ob ops sp ini a0 w0 P bf j o s ∧ ObList P bf (j + 1) l r
  | _, _, _ => False
def okOps (ops : Array Oper) (n : Nat) : Bool :=
  (List.range ops.size).all fun j => match ops[j]? with
    | none => false
    | some o => o.after.all (fun e => !Region.binds .any e || e.on < j) &&
      (match o.dst with
       | none => true
       | some d => d < n && (List.range ops.size).all fun i => i == j || (match ops[i]? with | some o' => o'.dst != some d | none => true))
def okBf (ops : Array Oper) (bf : List Nat) : Bool :=
  bf.length == ops.size && (List.range ops.size).all fun j => decide (bf.getD j 0 < 2 ^ j) && match ops[j]? with
    | none => false
    | some o => (List.range ops.size).all fun i => !(bf.getD j 0).testBit i || o.after.any fun e => Region.binds .any e && (e.on == i || (bf.getD e.on 0).testBit i)
def okSp (ops : Array Oper) (bf : List Nat) (slots : List Nat) (tags : List (Option Nat)) : Bool :=
  slots.length == ops.size && tags.length == ops.size &&
  (List.range ops.size).all fun j => (List.range ops.size).all fun k =>
    (k == j || (match ops[k]? with | some o => o.dst != some (slots.getD j 0) || (bf.getD j 0).testBit k | none => true)) &&
    (!(j < k) || (match tags.getD j none with | none => true | some t => tags.getD k none != some t || (bf.getD k 0).testBit j))
def lastTag (tags : List (Option Nat)) (t : Nat) : Nat → Option Nat
  | 0 => none
  | j + 1 => if tags.getD j none = some t then some j else lastTag tags t j
def ordB (tags : List (Option Nat)) (bf : List Nat) (t j : Nat) : Bool :=
  (List.range tags.length).all fun k => tags.getD k none != some t || k == j || (k < j && (bf.getD j 0).testBit k) || (j < k && (bf.getD k 0).testBit j)
theorem lastTag_some {tags : List (Option Nat)} {t : Nat} : ∀ {j i : Nat}, lastTag tags t j = some i → i < j ∧ tags.getD i none = some t ∧ ∀ k, i < k → k < j → tags.getD k none ≠ some t
  | 0, i, h => by simp [lastTag] at h
  | j + 1, i, h => by
    unfold lastTag at h
    split at h
    · rename_i ht
      obtain rfl : j = i := by simpa using h
      exact ⟨Nat.lt_succ_self _, ht, fun k h1 h2 => by omega⟩
    · rename_i ht
      obtain ⟨h1, h2, h3⟩ := lastTag_some h
      refine ⟨by omega, h2, fun k hk hk' => ?_⟩
      by_cases e : k = j
      · subst e; exact ht
      · exact h3 k hk (by omega)
theorem lastTag_none {tags : List (Option Nat)} {t : Nat} : ∀ {j : Nat}, lastTag tags t j = none → ∀ k, k < j → tags.getD k none ≠ some t
  | 0, _, k, hk => by omega
  | j + 1, h, k, hk => by
    unfold lastTag at h
    split at h
    · cases h
    · rename_i ht
      by_cases e : k = j
      · subst e; exact ht
      · exact lastTag_none h k (by omega)
end
section
variable {N : Foot} {P : Program} {ops : Array Oper} {sp : List (Spec N)} {ini : Nat → Ini N} {a0 : Act} {w0 : World} {done : Nat → Bool} {a : Act} {w : World} {τ : Nat → Foot} {bf : List Nat} {j : Nat}
theorem tag_getD {k : Nat} {s : Spec N} (h : sp[k]? = some s) : (sp.map (·.tag)).getD k none = s.tag := by
  simp [List.getD, h]
theorem ordB_spec {t : Nat} (h : ordB (sp.map (·.tag)) bf t j = true) {k : Nat} {s : Spec N} (hs : sp[k]? = some s) (ht : s.tag = some t) :
    k = j ∨ (k < j ∧ (bf.getD j 0).testBit k = true) ∨ (j < k ∧ (bf.getD k 0).testBit j = true) := by
  unfold ordB at h
  rw [List.all_eq_true] at h
  have hk : k < sp.length := (List.getElem?_eq_some_iff.1 hs).1
  have := h k (by simpa using hk)
  rw [tag_getD hs, ht] at this
  simp only [bne_self_eq_false, Bool.false_or, Bool.or_eq_true, Bool.and_eq_true, decide_eq_true_eq, beq_iff_eq] at this
  rcases this with (h | h) | h
  · exact .inl h
  · exact .inr (.inl h)
  · exact .inr (.inr h)
theorem J.cur (hJ : J ops sp ini a0 w0 done a w τ) (hj : done j = false) (hpost : ∀ k, (bf.getD k 0).testBit j = true → done k = false) (hpre : ∀ i, (bf.getD j 0).testBit i = true → done i = true)
    (t i : Nat) (s : Spec N) (hi : lastTag (sp.map (·.tag)) t j = some i) (hord : ordB (sp.map (·.tag)) bf t j = true) (hs : sp[i]? = some s) : s.R (Zof τ w) (τ t) (get a s.slot) w := by
  obtain ⟨h1, h2, h3⟩ := lastTag_some hi
  have ht : s.tag = some t := by rw [← tag_getD hs]; exact h2
  refine hJ.res i s t hs ht ?_ ?_
  · rcases ordB_spec hord hs ht with h | ⟨_, h⟩ | ⟨h, _⟩
    · omega
    · exact hpre _ h
    · omega
  · intro k s' hs' hk ht'
    rcases ordB_spec hord hs' ht' with h | ⟨h, _⟩ | ⟨_, h⟩
    · subst h; exact hj
    · exact absurd (by rw [tag_getD hs']; exact ht') (h3 k hk h)
    · exact hpost _ h
theorem J.cur0 (hJ : J ops sp ini a0 w0 done a w τ) (hj : done j = false) (hpost : ∀ k, (bf.getD k 0).testBit j = true → done k = false)
    (t : Nat) (hi : lastTag (sp.map (·.tag)) t j = none) (hord : ordB (sp.map (·.tag)) bf t j = true) : (ini t).I (Zof τ w) (τ t) w := by
  refine hJ.ini t fun k s' hs' ht' => ?_
  rcases ordB_spec hord hs' ht' with h | ⟨h, _⟩ | ⟨_, h⟩
  · subst h; exact hj
  · exact absurd (by rw [tag_getD hs']; exact ht') (lastTag_none hi k h)
  · exact hpost _ h
def unB (ops : Array Oper) (bf : List Nat) (j t : Nat) : Bool :=
  (List.range ops.size).all fun k => match ops[k]? with | some o => o.dst != some t || k == j || (bf.getD k 0).testBit j | none => true
theorem J.old (hJ : J ops sp ini a0 w0 done a w τ) (hj : done j = false) (hpost : ∀ k, (bf.getD k 0).testBit j = true → done k = false) (t : Nat) (h : unB ops bf j t = true) : get a t = get a0 t := by
  refine hJ.un t fun i o hi hd => ?_
  unfold unB at h
  rw [List.all_eq_true] at h
  have := h i (by simpa using (Array.getElem?_eq_some_iff.1 hi).1)
  simp only [hi, hd, bne_self_eq_false, Bool.false_or, Bool.or_eq_true, beq_iff_eq] at this
  rcases this with h | h
  · subst h; exact hj
  · exact hpost _ h
end
section
variable {N : Foot} {P : Program} {ops : Array Oper} {sp : List (Spec N)} {ini : Nat → Ini N} {a0 : Act} {w0 : World} {bf : List Nat} {n : Nat}
theorem okOps_spec (h : okOps ops n = true) {j : Nat} {o : Oper} (ho : ops[j]? = some o) :
    (∀ e ∈ o.after, Region.binds .any e = true → e.on < j) ∧ ∀ d, o.dst = some d → d < n ∧ ∀ (i : Nat) (o' : Oper), ops[i]? = some o' → i ≠ j → o'.dst ≠ some d := by
  unfold okOps at h
  rw [List.all_eq_true] at h
  have := h j (by simpa using (Array.getElem?_eq_some_iff.1 ho).1)
  simp only [ho, Bool.and_eq_true, Array.all_eq_true_iff_forall_mem, Bool.or_eq_true, Bool.not_eq_true', decide_eq_true_eq] at this
  refine ⟨fun e he hb => (this.1 e he).resolve_left (by simp [hb]), fun d hd => ?_⟩
  have h2 := this.2
  simp only [hd, Bool.and_eq_true, decide_eq_true_eq, List.all_eq_true, List.mem_range, Bool.or_eq_true, beq_iff_eq] at h2
  refine ⟨h2.1, fun i o' hi hne hd' => ?_⟩
  have := h2.2 i (Array.getElem?_eq_some_iff.1 hi).1
  simp [hi, hd', hne] at this
theorem okBf_spec (h : okBf ops bf = true) {j i : Nat} (hb : (bf.getD j 0).testBit i = true) :
    i < j ∧ j < ops.size ∧ ∃ o, ops[j]? = some o ∧ ∃ e ∈ o.after, Region.binds .any e = true ∧ (e.on = i ∨ (bf.getD e.on 0).testBit i = true) := by
  unfold okBf at h
  rw [Bool.and_eq_true, List.all_eq_true, beq_iff_eq] at h
  have hj : j < ops.size := by
    rw [← h.1]
    apply Nat.lt_of_not_le
    intro hle
    rw [List.getD, List.getElem?_eq_none hle] at hb
    simp at hb
  have := h.2 j (by simpa using hj)
  rw [Bool.and_eq_true, decide_eq_true_eq] at this
  obtain ⟨hlt, this⟩ := this
  have hi : i < j := by
    apply Nat.lt_of_not_le
    intro hle
    have : (bf.getD j 0).testBit i = false := Nat.testBit_lt_two_pow (Nat.lt_of_lt_of_le hlt (Nat.pow_le_pow_right (by omega) hle))
    rw [this] at hb; cases hb
  refine ⟨hi, hj, ?_⟩
  split at this
  · cases this
  · rename_i o ho
    refine ⟨o, ho, ?_⟩
    rw [List.all_eq_true] at this
    have := this i (by simp; omega)
    simp only [hb, Bool.not_true, Bool.false_or] at this
    rw [← Array.any_toList, List.any_eq_true] at this
    obtain ⟨e, he, h2⟩ := this
    simp only [Bool.and_eq_true, Bool.or_eq_true, beq_iff_eq] at h2
    exact ⟨e, by simpa using he, h2⟩
theorem okSp_spec (h : okSp ops bf (sp.map (·.slot)) (sp.map (·.tag)) = true) {j k : Nat} {s : Spec N} (hj : j < ops.size) (hk : k < ops.size) (hs : sp[j]? = some s) :
    (∀ o, ops[k]? = some o → o.dst = some s.slot → k ≠ j → (bf.getD j 0).testBit k = true) ∧
    (∀ s' t, j < k → sp[k]? = some s' → s.tag = some t → s'.tag = some t → (bf.getD k 0).testBit j = true) := by
  unfold okSp at h
  rw [Bool.and_eq_true, List.all_eq_true] at h
  have := h.2 j (by simpa using hj)
  rw [List.all_eq_true] at this
  have := this k (by simpa using hk)
  rw [Bool.and_eq_true] at this
  obtain ⟨h1, h2⟩ := this
  refine ⟨fun o ho hd hne => ?_, fun s' t hlt hs' ht ht' => ?_⟩
  · simpa [ho, hd, List.getD, hs, hne] using h1
  · rw [tag_getD hs, ht] at h2
    simp only [hlt, decide_true, Bool.not_true, Bool.false_or] at h2
    rw [tag_getD hs', ht'] at h2
    simpa using h2
def Closed (ops : Array Oper) (done : Nat → Bool) : Prop := ∀ (j : Nat) (o : Oper), ops[j]? = some o → done j = true → ∀ e ∈ o.after, Region.binds .any e = true → done e.on = true
theorem pre_of_closed (hok : okOps ops n = true) (hbf : okBf ops bf = true) {done : Nat → Bool} (hc : Closed ops done) :
    ∀ (m j : Nat), j ≤ m → (∀ o, ops[j]? = some o → ∀ e ∈ o.after, Region.binds .any e = true → done e.on = true) → ∀ i, (bf.getD j 0).testBit i = true → done i = true := by
  intro m
  induction m with
  | zero =>
    intro j hj h i hb
    have := (okBf_spec hbf hb).1
    omega
  | succ m ih =>
    intro j hj h i hb
    obtain ⟨_, _, o, ho, e, he, hbi, h2⟩ := okBf_spec hbf hb
    have hd := h o ho e he hbi
    rcases h2 with h2 | h2
    · rw [← h2]; exact hd
    · have hlt := (okOps_spec hok ho).1 e he hbi
      exact ih e.on (by omega) (fun o' ho' => hc e.on o' ho' hd) i h2
theorem J.step (hok : okOps ops a0.tmps.size = true) (hbf : okBf ops bf = true) (hsp : okSp ops bf (sp.map (·.slot)) (sp.map (·.tag)) = true)
    {done : Nat → Bool} {a : Act} {w w' : World} {τ : Nat → Foot} {j : Nat} {o : Oper} {s : Spec N} {v : Value}
    (hJ : J ops sp ini a0 w0 done a w τ) (hc : Closed ops done) (hj : done j = false) (ho : ops[j]? = some o) (hs : sp[j]? = some s)
    (hstep : StepOk s (a.put o.dst v) τ w w') : ∃ τ', J ops sp ini a0 w0 (fun i => i == j || done i) (a.put o.dst v) w' τ' := by
  have hjs : j < ops.size := (Array.getElem?_eq_some_iff.1 ho).1
  have clos : ∀ i k, done i = true → (bf.getD i 0).testBit k = true → done k = true := fun i k hd hb =>
    pre_of_closed hok hbf hc i i (Nat.le_refl _) (fun o' ho' => hc i o' ho' hd) k hb
  -- a place of another operation is not written
  have keep : ∀ i s', sp[i]? = some s' → i < ops.size → done i = true → get (a.put o.dst v) s'.slot = get a s'.slot := by
    intro i s' hs' hi hd
    cases hdst : o.dst with
    | none => rfl
    | some d =>
      have hlt := ((okOps_spec hok ho).2 d hdst).1
      rw [get_put a d s'.slot v (by rw [hJ.size]; exact hlt)]
      rw [if_neg]
      intro e
      have := (okSp_spec hsp hi hjs hs').1 o ho (by rw [hdst, e]) (fun e' => by rw [e', hd] at hj; cases hj)
      rw [clos i j hd this] at hj
      cases hj
  have hlen : sp.length = ops.size := by
    unfold okSp at hsp
    simp only [Bool.and_eq_true, List.length_map, beq_iff_eq] at hsp
    exact hsp.1.1
  have spl : ∀ i s', sp[i]? = some s' → i < ops.size := fun i s' h => by
    rw [← hlen]; exact (List.getElem?_eq_some_iff.1 h).1
  have un' : ∀ t, (∀ i o', ops[i]? = some o' → o'.dst = some t → (i == j || done i) = false) → get (a.put o.dst v) t = get a0 t := by
    intro t ht
    have hne : o.dst ≠ some t := fun e => by have := ht j o ho e; simp at this
    rw [← hJ.un t (fun i o' hi hd => by have := ht i o' hi hd; simp at this; exact this.2)]
    cases hdst : o.dst with
    | none => rfl
    | some d =>
      have hlt := ((okOps_spec hok ho).2 d hdst).1
      rw [get_put a d t v (by rw [hJ.size]; exact hlt), if_neg (fun e => hne (by rw [hdst, e]))]
  have dn : ∀ k, (k == j || done k) = false → done k = false := fun k h => by simp at h; exact h.2
  have purR : (True → s.pur (get (a.put o.dst v) s.slot)) → ∀ (i : Nat) (s' : Spec N), sp[i]? = some s' → (i == j || done i) = true → s'.pur (get (a.put o.dst v) s'.slot) := by
    intro hp i s' hs' hd
    by_cases e : i = j
    · subst e
      rw [hs] at hs'; cases hs'
      exact hp trivial
    · have hd' : done i = true := by simpa [e] using hd
      rw [keep i s' hs' (spl i s' hs') hd']
      exact hJ.pur i s' hs' hd'
  unfold StepOk at hstep
  cases htag : s.tag with
  | none =>
    rw [htag] at hstep
    obtain ⟨he, hR⟩ := hstep
    have hzz : ∀ g, Zof τ w g → Zof τ w' g := fun g h => ⟨Nat.lt_of_lt_of_le h.1 he.size, h.2⟩
    refine ⟨τ, (defers_put _ _ _).trans hJ.defers, (size_put _ _ _).trans hJ.size, un', hJ.ext.trans (he.mono fun _ _ h => h.elim), fun k hk => hJ.big k (Nat.le_trans he.size hk), hJ.disj,
      fun t g h => ⟨(hJ.bnd t g h).1, Nat.lt_of_lt_of_le (hJ.bnd t g h).2 he.size⟩, ?_, ?_, ?_, purR (fun T => s.fit _ _ _ _ hR)⟩
    · intro i s' hs' ht' hd
      by_cases e : i = j
      · subst e
        rw [hs] at hs'; cases hs'
        exact hR
      · have hd' : done i = true := by simpa [e] using hd
        rw [keep i s' hs' (spl i s' hs') hd']
        exact s'.loc _ _ _ _ _ _ hzz (he.mono fun _ _ h => h.elim) (hJ.det i s' hs' ht' hd')
    · intro i s' t hs' ht' hd hcur
      have e : i ≠ j := fun e => by subst e; rw [hs] at hs'; cases hs'; rw [htag] at ht'; cases ht'
      have hd' : done i = true := by simpa [e] using hd
      rw [keep i s' hs' (spl i s' hs') hd']
      exact s'.loc _ _ _ _ _ _ hzz (he.mono fun _ _ h => h.elim) (hJ.res i s' t hs' ht' hd' (fun k s'' hk hlt hkt => dn k (hcur k s'' hk hlt hkt)))
    · intro t hcur
      exact (ini t).loc _ _ _ _ _ hzz (he.mono fun _ _ h => h.elim) (hJ.ini t (fun k s' hk hkt => dn k (hcur k s' hk hkt)))
  | some t0 =>
    rw [htag] at hstep
    obtain ⟨he, T', hT', hR⟩ := hstep
    have stab : ∀ t, t ≠ t0 → Ext (fun g => N g ∧ ¬ τ t g ∧ ¬ Zof τ w g) w w' := fun t hne => he.mono fun k _ h => ⟨(hJ.bnd t0 k h).1, fun h' => hne (hJ.disj t t0 k h' h), fun hz => hz.2 t0 h⟩
    have hzz : ∀ g, Zof τ w g → Zof (upd τ t0 T') w' g := fun g h => ⟨Nat.lt_of_lt_of_le h.1 he.size, fun t ht => by
      unfold upd at ht
      split at ht
      · rcases hT' g ht with h' | h'
        · exact h.2 t0 h'
        · have := h.1; omega
      · exact h.2 t ht⟩
    refine ⟨upd τ t0 T', (defers_put _ _ _).trans hJ.defers, (size_put _ _ _).trans hJ.size, un', hJ.ext.trans (he.mono fun k _ h => (hJ.bnd t0 k h).1), fun k hk => hJ.big k (Nat.le_trans he.size hk), ?_, ?_, ?_, ?_, ?_, purR (fun T => s.fit _ _ _ _ hR)⟩
    · intro s1 s2 g h1 h2
      by_cases e1 : s1 = t0 <;> by_cases e2 : s2 = t0
      · rw [e1, e2]
      · simp only [upd, e1, e2, if_true, if_false] at h1 h2
        rcases hT' g h1 with h | h
        · rw [e1]; exact hJ.disj t0 s2 g h h2
        · have := (hJ.bnd s2 g h2).2; omega
      · simp only [upd, e1, e2, if_true, if_false] at h1 h2
        rcases hT' g h2 with h | h
        · rw [e2]; exact hJ.disj s1 t0 g h1 h
        · have := (hJ.bnd s1 g h1).2; omega
      · simp only [upd, e1, e2, if_false] at h1 h2
        exact hJ.disj s1 s2 g h1 h2
    · intro t g h
      by_cases e : t = t0
      · simp only [upd, e, if_true] at h
        rcases hT' g h with h | h
        · exact ⟨(hJ.bnd t0 g h).1, Nat.lt_of_lt_of_le (hJ.bnd t0 g h).2 he.size⟩
        · exact ⟨hJ.big g h.1, h.2⟩
      · simp only [upd, e, if_false] at h
        exact ⟨(hJ.bnd t g h).1, Nat.lt_of_lt_of_le (hJ.bnd t g h).2 he.size⟩
    · intro i s' hs' ht' hd
      have e : i ≠ j := fun e => by subst e; rw [hs] at hs'; cases hs'; rw [htag] at ht'; cases ht'
      have hd' : done i = true := by simpa [e] using hd
      rw [keep i s' hs' (spl i s' hs') hd']
      exact s'.loc _ _ _ _ _ _ hzz (he.mono fun k _ h => ⟨(hJ.bnd t0 k h).1, fun x => x, fun hz => hz.2 t0 h⟩) (hJ.det i s' hs' ht' hd')
    · intro i s' t hs' ht' hd hcur
      by_cases e : i = j
      · subst e
        rw [hs] at hs'; cases hs'
        rw [htag] at ht'; cases ht'
        have e1 : upd τ t0 T' t0 = T' := by funext g; simp [upd]
        rw [e1]; exact hR
      · have hd' : done i = true := by simpa [e] using hd
        have hne : t ≠ t0 := by
          intro et
          subst et
          rcases Nat.lt_trichotomy i j with h | h | h
          · have := hcur j s hs h htag; simp at this
          · exact e h
          · have := (okSp_spec hsp hjs (spl i s' hs') hs).2 s' t h hs' htag ht'
            rw [clos i j hd' this] at hj; cases hj
        rw [keep i s' hs' (spl i s' hs') hd']
        have e1 : upd τ t0 T' t = τ t := by funext g; simp [upd, hne]
        rw [e1]
        exact s'.loc _ _ _ _ _ _ hzz (stab t hne) (hJ.res i s' t hs' ht' hd' (fun k s'' hk hlt hkt => dn k (hcur k s'' hk hlt hkt)))
    · intro t hcur
      have hne : t ≠ t0 := fun et => by have := hcur j s hs (by rw [htag, et]); simp at this
      have e1 : upd τ t0 T' t = τ t := by funext g; simp [upd, hne]
      rw [e1]
      exact (ini t).loc _ _ _ _ _ hzz (stab t hne) (hJ.ini t (fun k s' hk hkt => dn k (hcur k s' hk hkt)))
theorem wp_weaken {o : Oper} {a : Act} {w : World} {K K' : Act → World → Prop} {Q : Exit → Act → World → Prop} (h : ∀ a w, K a w → K' a w)
    (hh : o.wp P a w K (fun _ _ _ => False)) : o.wp P a w K' Q := by
  unfold Oper.wp at *
  generalize (execOp a.eval o).run P w = r at *
  cases r with
  | ok n w' =>
    cases n <;> simp only [Oper.upon] at hh ⊢ <;>
      first
        | exact h _ _ hh
        | exact Calls.mono hh (fun e w'' he => by
            cases e with
            | returned v => exact h _ _ he
            | panicked c => exact he.elim
            | outgrown => obtain ⟨_, _, h'⟩ := he; exact h'.elim)
        | exact Rows.mono hh (fun _ _ he => h _ _ he)
  | halt x w' => cases x <;> simp only [Oper.upon] at hh
theorem wpOp_of_Ob (hok : okOps ops a0.tmps.size = true) (hbf : okBf ops bf = true) (hsp : okSp ops bf (sp.map (·.slot)) (sp.map (·.tag)) = true)
    {Q : Exit → Act → World → Prop} {done : Nat → Bool} {a : Act} {w : World} {τ : Nat → Foot} {j : Nat} {o : Oper} {s : Spec N} {K : Act → World → Prop}
    (hJ : J ops sp ini a0 w0 done a w τ) (hc : Closed ops done) (hj : done j = false) (ho : ops[j]? = some o) (hs : sp[j]? = some s)
    (hpre : ∀ e ∈ o.after, Region.binds .any e = true → done e.on = true) (hob : Ob ops sp ini a0 w0 P bf j o s)
    (hK : ∀ a' w' τ', J ops sp ini a0 w0 (fun i => i == j || done i) a' w' τ' → K a' w') : wpOp P ops Q j K a w := by
  have p1 : ∀ i, (bf.getD j 0).testBit i = true → done i = true := pre_of_closed hok hbf hc j j (Nat.le_refl _) (fun o' ho' => by rw [ho] at ho'; cases ho'; exact hpre)
  have p2 : ∀ k, (bf.getD k 0).testBit j = true → done k = false := fun k hb => by
    cases hd : done k with
    | false => rfl
    | true =>
      have := pre_of_closed hok hbf hc k k (Nat.le_refl _) (fun o' ho' => hc k o' ho' hd) j hb
      rw [hj] at this; cases this
  obtain ⟨h1, h2⟩ := hob done a w τ ⟨hJ, hj, p1, p2, fun d hd => by rw [hJ.size]; exact ((okOps_spec hok ho).2 d hd).1⟩
  unfold wpOp
  rw [ho]
  simp only []
  by_cases hw : Region.wanted o (yielded ops a.tmps) = true
  · rw [if_pos hw]
    refine .inl (wp_weaken (fun a' w' hh => ?_) (h1 hw))
    obtain ⟨v, rfl, hstep⟩ := hh
    obtain ⟨τ', hJ'⟩ := hJ.step hok hbf hsp hc hj ho hs hstep
    exact hK _ _ _ hJ'
  · rw [if_neg hw]
    obtain ⟨τ', hJ'⟩ := hJ.step hok hbf hsp hc hj ho hs (h2 (by simpa using hw))
    exact hK _ _ _ hJ'
theorem ObList_get : ∀ {l : List Oper} {r : List (Spec N)} {k : Nat}, ObList ops sp ini a0 w0 P bf k l r → ∀ (i : Nat) (o : Oper) (s : Spec N), l[i]? = some o → r[i]? = some s → Ob ops sp ini a0 w0 P bf (k + i) o s
  | [], [], _, _, i, o, s, ho, _ => by simp at ho
  | o' :: l, s' :: r, k, h, 0, o, s, ho, hs => by
    simp at ho hs
    subst ho; subst hs
    exact h.1
  | o' :: l, s' :: r, k, h, i + 1, o, s, ho, hs => by
    have := ObList_get h.2 i o s (by simpa using ho) (by simpa using hs)
    rwa [show k + (i + 1) = k + 1 + i by omega]
theorem closed_add {done : Nat → Bool} {j : Nat} {o : Oper} (hc : Closed ops done) (ho : ops[j]? = some o) (hpre : ∀ e ∈ o.after, Region.binds .any e = true → done e.on = true) : Closed ops (fun i => i == j || done i) := by
  intro i o' hi hd e he hb
  show (e.on == j || done e.on) = true
  by_cases h : i = j
  · subst h
    rw [ho] at hi; cases hi
    simp [hpre e he hb]
  · have : done i = true := by simpa [h] using hd
    simp [hc i o' hi this e he hb]
theorem J_any (hok : okOps ops a0.tmps.size = true) (hbf : okBf ops bf = true) (hsp : okSp ops bf (sp.map (·.slot)) (sp.map (·.tag)) = true)
    {Q : Exit → Act → World → Prop} (obs : ∀ (j : Nat) (o : Oper) (s : Spec N), ops[j]? = some o → sp[j]? = some s → Ob ops sp ini a0 w0 P bf j o s)
    (fin : ∀ a w τ, J ops sp ini a0 w0 (fun _ => true) a w τ → Q .normal a w) : ∀ (fuel : Nat) (listed : Array Bool) (a : Act) (w : World) (τ : Nat → Foot),
      (List.range ops.size).countP (fun i => !listed.getD i true) ≤ fuel → listed.size = ops.size → J ops sp ini a0 w0 (fun i => listed.getD i true) a w τ → Closed ops (fun i => listed.getD i true) → wpAny P .any ops Q fuel listed a w := by
  have hlen : sp.length = ops.size := by
    unfold okSp at hsp
    simp only [Bool.and_eq_true, List.length_map, beq_iff_eq] at hsp
    exact hsp.1.1
  have allDone : ∀ (listed : Array Bool), listed.size = ops.size → Region.ready .any ops listed = [] → ∀ m i, i ≤ m → listed.getD i true = true := by
    intro listed hsz hr m
    induction m with
    | zero =>
      intro i hi
      by_cases hlt : i < ops.size
      · cases hg : listed.getD i true with
        | true => rfl
        | false =>
          exfalso
          have : i ∈ Region.ready .any ops listed := mem_ready.2 ⟨hg, ops[i], by simp [hlt], fun e he hb => by
            have := (okOps_spec hok (j := i) (o := ops[i]) (by simp [hlt])).1 e he hb; omega⟩
          rw [hr] at this; cases this
      · simp [Array.getD_eq_getD_getElem?, Array.getElem?_eq_none (show listed.size ≤ i by omega)]
    | succ m ih =>
      intro i hi
      by_cases hlt : i < ops.size
      · cases hg : listed.getD i true with
        | true => rfl
        | false =>
          exfalso
          have : i ∈ Region.ready .any ops listed := mem_ready.2 ⟨hg, ops[i], by simp [hlt], fun e he hb => by
            have h1 := (okOps_spec hok (j := i) (o := ops[i]) (by simp [hlt])).1 e he hb
            have h2 := ih e.on (by omega)
            rw [Array.getD_eq_getD_getElem?] at h2 ⊢
            have h3 : e.on < listed.size := by omega
            simpa [Array.getElem?_eq_getElem h3] using h2⟩
          rw [hr] at this; cases this
      · simp [Array.getD_eq_getD_getElem?, Array.getElem?_eq_none (show listed.size ≤ i by omega)]
  have finish : ∀ (listed : Array Bool) (a : Act) (w : World) (τ : Nat → Foot), listed.size = ops.size → Region.ready .any ops listed = [] → J ops sp ini a0 w0 (fun i => listed.getD i true) a w τ → Q .normal a w := by
    intro listed a w τ hsz hr hJ
    refine fin a w τ ?_
    rwa [show (fun i => listed.getD i true) = (fun _ => true) from funext fun i => allDone listed hsz hr i i (Nat.le_refl _)] at hJ
  intro fuel
  induction fuel with
  | zero =>
    intro listed a w τ hcount hsz hJ hc
    have hr : Region.ready .any ops listed = [] := by
      cases hrr : Region.ready .any ops listed with
      | nil => rfl
      | cons x xs =>
        exfalso
        have hx : x ∈ Region.ready .any ops listed := by rw [hrr]; exact List.mem_cons_self
        obtain ⟨h1, o, ho, _⟩ := mem_ready.1 hx
        have hpos : 0 < (List.range ops.size).countP (fun i => !listed.getD i true) :=
          List.countP_pos_iff.2 ⟨x, by simpa using (Array.getElem?_eq_some_iff.1 ho).1, by simp only [h1, Bool.not_false]⟩
        omega
    exact ⟨hr, finish listed a w τ hsz hr hJ⟩
  | succ fuel ih =>
    intro listed a w τ hcount hsz hJ hc
    refine ⟨fun hr => finish listed a w τ hsz hr hJ, fun j hjr => ?_⟩
    obtain ⟨hj, o, ho, hpre⟩ := mem_ready.1 hjr
    have hjs : j < ops.size := (Array.getElem?_eq_some_iff.1 ho).1
    have hpre' : ∀ e ∈ o.after, Region.binds .any e = true → listed.getD e.on true = true := fun e he hb => by
      have h1 := hpre e he hb
      have h2 := (okOps_spec hok ho).1 e he hb
      rw [Array.getD_eq_getD_getElem?] at h1 ⊢
      have h3 : e.on < listed.size := by omega
      simpa [Array.getElem?_eq_getElem h3] using h1
    have hset : (fun i => (listed.setIfInBounds j true).getD i true) = (fun i => i == j || listed.getD i true) := by
      funext i
      simp only [Array.getD_eq_getD_getElem?, Array.getElem?_setIfInBounds]
      by_cases h : j = i
      · subst h; simp [hsz, hjs]
      · have : (i == j) = false := by simp; exact fun e => h e.symm
        simp [h, this]
    refine wpOp_of_Ob hok hbf hsp hJ hc hj ho (s := sp[j]'(by omega)) (by simp [hlen, hjs]) hpre' (obs j o _ ho (by simp [hlen, hjs])) ?_
    intro a' w' τ' hJ'
    refine ih _ a' w' τ' ?_ (by simpa using hsz) (by rw [hset]; exact hJ') (by rw [hset]; exact closed_add hc ho hpre')
    have hlt : (List.range ops.size).countP (fun i => !(listed.setIfInBounds j true).getD i true) < (List.range ops.size).countP (fun i => !listed.getD i true) := by
      have e1 : (fun i => !(listed.setIfInBounds j true).getD i true) = (fun i => !(i == j || listed.getD i true)) := by
        funext i; rw [congrFun hset i]
      rw [e1]
      have hjm : j ∈ List.range ops.size := by simpa using hjs
      generalize List.range ops.size = l at hjm
      clear hcount ih
      induction l with
      | nil => cases hjm
      | cons x l ihl =>
        simp only [List.countP_cons]
        have hle : l.countP (fun i => !(i == j || listed.getD i true)) ≤ l.countP (fun i => !listed.getD i true) :=
          List.countP_mono_left fun y _ hy => by
            simp only [Bool.not_eq_true', Bool.or_eq_false_iff] at hy ⊢; exact hy.2
        by_cases hx : x = j
        · subst hx
          simp only [beq_self_eq_true, Bool.true_or, Bool.not_true, hj, Bool.not_false, if_true]
          simp only [Bool.false_eq_true, if_false]
          omega
        · have hjl : j ∈ l := by
            rcases List.mem_cons.1 hjm with h | h
            · exact absurd h.symm hx
            · exact h
          have := ihl hjl
          have hb : (x == j) = false := by simp [hx]
          simp only [hb, Bool.false_or]
          split <;> omega
    omega
theorem J_range (hok : okOps ops a0.tmps.size = true) (hbf : okBf ops bf = true) (hsp : okSp ops bf (sp.map (·.slot)) (sp.map (·.tag)) = true)
    {Q : Exit → Act → World → Prop} (obs : ∀ (j : Nat) (o : Oper) (s : Spec N), ops[j]? = some o → sp[j]? = some s → Ob ops sp ini a0 w0 P bf j o s)
    (fin : ∀ a w τ, J ops sp ini a0 w0 (fun i => decide (i < ops.size)) a w τ → Q .normal a w) : ∀ (m k : Nat) (a : Act) (w : World) (τ : Nat → Foot), m + k = ops.size → J ops sp ini a0 w0 (fun i => decide (i < k)) a w τ → wpOps P ops Q (List.range' k m) a w := by
  have hlen : sp.length = ops.size := by
    unfold okSp at hsp
    simp only [Bool.and_eq_true, List.length_map, beq_iff_eq] at hsp
    exact hsp.1.1
  intro m
  induction m with
  | zero =>
    intro k a w τ hk hJ
    simp only [List.range'_zero, wpOps]
    exact fin a w τ (by rwa [show ops.size = k by omega])
  | succ m ih =>
    intro k a w τ hk hJ
    have hks : k < ops.size := by omega
    rw [List.range'_succ, wpOps_cons]
    have ho : ops[k]? = some ops[k] := by simp [hks]
    have hpre : ∀ e ∈ ops[k].after, Region.binds .any e = true → decide (e.on < k) = true := fun e he hb => by simpa using (okOps_spec hok ho).1 e he hb
    have hc : Closed ops (fun i => decide (i < k)) := fun i o' hi hd e he hb => by
      have := (okOps_spec hok hi).1 e he hb
      simp only [decide_eq_true_eq] at hd ⊢; omega
    refine wpOp_of_Ob hok hbf hsp hJ hc (by simp) ho (s := sp[k]'(by omega)) (by simp [hlen, hks]) hpre (obs k _ _ ho (by simp [hlen, hks])) ?_
    intro a' w' τ' hJ'
    refine ih (k + 1) a' w' τ' (by omega) ?_
    rwa [show (fun i => decide (i < k + 1)) = (fun i => i == k || decide (i < k)) from funext fun i => by
      rw [Bool.eq_iff_iff]; simp; omega]
theorem J.start {τ : Nat → Foot} (hb : ∀ k, w0.heap.size ≤ k → N k) (hdis : ∀ s t g, τ s g → τ t g → s = t) (hbnd : ∀ t g, τ t g → N g ∧ g < w0.heap.size)
    (hini : ∀ t, (ini t).I (Zof τ w0) (τ t) w0) {w : World} (hw : w = w0 ∨ w = w0.drew) {done : Nat → Bool} (hd : ∀ i, i < sp.length → done i = false) : J ops sp ini a0 w0 done a0 w τ := by
  have hx : Ext N w0 w0 := Ext.refl _ _
  have no : ∀ (j : Nat) (s : Spec N), sp[j]? = some s → done j = true → False := fun j s hs hd' => by
    rw [hd j (List.getElem?_eq_some_iff.1 hs).1] at hd'; cases hd'
  rcases hw with rfl | rfl
  · exact ⟨rfl, rfl, fun _ _ => rfl, hx, hb, hdis, hbnd, fun j s hs _ h => (no j s hs h).elim, fun j s _ hs _ h => (no j s hs h).elim, fun t _ => hini t, fun j s hs h => (no j s hs h).elim⟩
  · exact ⟨rfl, rfl, fun _ _ => rfl, hx.drew, hb, hdis, hbnd, fun j s hs _ h => (no j s hs h).elim, fun j s _ hs _ h => (no j s hs h).elim, fun t _ => (ini t).loc _ _ _ _ _ (fun _ h => h) (Ext.refl _ _).drew (hini t), fun j s hs h => (no j s hs h).elim⟩
end
section
variable {N : Foot} {P : Program} {l : List Oper} {sp : List (Spec N)} {ini : Nat → Ini N} {a0 : Act} {w0 : World} {bf : List Nat}
theorem region_J {id : Nat} {draw : Bool} (hm : P.follows .mixedOrders = true) (hok : (okOps l.toArray a0.tmps.size && okBf l.toArray bf && okSp l.toArray bf (sp.map (·.slot)) (sp.map (·.tag))) = true)
    {Q : Exit → Act → World → Prop} {τ : Nat → Foot} (hb : ∀ k, w0.heap.size ≤ k → N k) (hdis : ∀ s t g, τ s g → τ t g → s = t) (hbnd : ∀ t g, τ t g → N g ∧ g < w0.heap.size) (hini : ∀ t, (ini t).I (Zof τ w0) (τ t) w0)
    (obs : ObList l.toArray sp ini a0 w0 P bf 0 l sp)
    (fin : ∀ done a w τ, (∀ i, i < l.length → done i = true) → J l.toArray sp ini a0 w0 done a w τ → Q .normal a w) : (Code.region id l.toArray draw).wp P Q a0 w0 := by
  rw [Bool.and_eq_true, Bool.and_eq_true] at hok
  obtain ⟨⟨h1, h2⟩, h3⟩ := hok
  have obs' : ∀ (j : Nat) (o : Oper) (s : Spec N), l.toArray[j]? = some o → sp[j]? = some s → Ob l.toArray sp ini a0 w0 P bf j o s := fun j o s ho hs => by
    have := ObList_get obs j o s (by simpa using ho) hs
    rwa [Nat.zero_add] at this
  cases draw with
  | true =>
    refine wp_region_any hm ?_
    refine J_any h1 h2 h3 obs' (fun a w τ hJ => fin _ a w τ (fun _ _ => rfl) hJ) l.toArray.size _ a0 _ τ ?_ (by simp) ?_ ?_
    · have := List.countP_le_length (p := fun i => !(Array.replicate l.toArray.size false).getD i true) (l := List.range l.toArray.size)
      simpa using this
    · refine J.start hb hdis hbnd hini (.inr rfl) fun i hi => ?_
      unfold okSp at h3
      simp only [Bool.and_eq_true, List.length_map, beq_iff_eq] at h3
      have : i < l.length := by have := h3.1.1; simp at this; omega
      simp [Array.getD_eq_getD_getElem?, this]
    · intro j o ho hd
      have hlt : j < l.length := by simpa using (Array.getElem?_eq_some_iff.1 ho).1
      simp [Array.getD_eq_getD_getElem?, hlt] at hd
  | false =>
    refine wp_region ?_
    rw [List.range_eq_range']
    refine J_range h1 h2 h3 obs' (fun a w τ hJ => fin _ a w τ (fun i hi => by simpa using hi) hJ) l.toArray.size 0 a0 w0 τ rfl ?_
    exact J.start hb hdis hbnd hini (.inl rfl) fun i _ => by simp
end
end B
end Go.Proofs.YtebfahobllghnaaGreatDoor
namespace Go.Proofs.YtebfahobllghnaaGreatDoor
namespace B
open Go.RowKit
def Runs (P : Program) (a : Act) (o : Oper) (w : World) (v : Value) : Prop := (execOp a.eval o).run P w = .ok (.value v) w
def ptrOf : Value → Addr
  | .slice (some a) _ _ => a
  | .pointer (some a) => a
  | _ => ⟨0, 0, none⟩
def IsSl (v : Value) (n : Nat) : Prop := (v = .slice none 0 0 ∧ n = 0) ∨ ∃ b cap, v = .slice (some b) n cap ∧ n ≤ cap ∧ cap ≤ maxLen
section
variable {P : Program} {a : Act} {o : Oper} {w : World}
theorem r_move {x : Operand} {v : Value} (ho : o.op = .move x) (h : a.eval x = v) : Runs P a o w v := by
  subst h; simp [Runs, execOp, ho]
theorem r_assign {x : Operand} {v : Value} (ho : o.op = .assign x) (h : a.eval x = v) : Runs P a o w v := by
  subst h; simp [Runs, execOp, ho]
theorem r_pick {c x y : Operand} {b : Bool} {v : Value} (ho : o.op = .pick c x y) (hc : a.eval c = .bool b) (h1 : b = true → a.eval x = v) (h2 : b = false → a.eval y = v) : Runs P a o w v := by
  cases b
  · simp [Runs, execOp, ho, hc, asBool, h2]
  · simp [Runs, execOp, ho, hc, asBool, h1]
theorem r_and {c x : Operand} {b b' : Bool} (ho : o.op = .pick c x (.const (.bool false))) (hc : a.eval c = .bool b) (h1 : b = true → a.eval x = .bool b') : Runs P a o w (.bool (b && b')) :=
  r_pick ho hc (fun h => by rw [h1 h, h, Bool.true_and]) (fun h => by rw [h, Bool.false_and]; rfl)
section ints
variable {t t' : TypeId} {x y : Operand} {k : IntKind} {p q : Int}
theorem r_lss (ho : o.op = .binOp .lss t x y t') (hx : a.eval x = .int k p) (hy : a.eval y = .int k q) : Runs P a o w (.bool (decide (p < q))) := by
  simp [Runs, execOp, ho, hx, hy, eqGuard, binOp, Op.intCmp]
theorem r_geq (ho : o.op = .binOp .geq t x y t') (hx : a.eval x = .int k p) (hy : a.eval y = .int k q) : Runs P a o w (.bool (decide (q ≤ p))) := by
  simp [Runs, execOp, ho, hx, hy, eqGuard, binOp, Op.intCmp]
theorem r_eql (ho : o.op = .binOp .eql t x y t') (hx : a.eval x = .int k p) (hy : a.eval y = .int k q) : Runs P a o w (.bool (decide (p = q))) := by
  have : (p == q) = decide (p = q) := rfl
  simp [Runs, execOp, ho, hx, hy, eqGuard, binOp, Op.intCmp, this]
theorem r_add (ho : o.op = .binOp .add t x y t') (hx : a.eval x = .int .i64 p) (hy : a.eval y = .int .i64 q) (hb : -9223372036854775808 ≤ p + q ∧ p + q ≤ 9223372036854775807) : Runs P a o w (.int .i64 (p + q)) := by
  simp [Runs, execOp, ho, hx, hy, eqGuard, binOp, Op.intArith]
  rw [IntWalk.i64_in _ hb]
theorem r_sub (ho : o.op = .binOp .sub t x y t') (hx : a.eval x = .int .i64 p) (hy : a.eval y = .int .i64 q) (hb : -9223372036854775808 ≤ p - q ∧ p - q ≤ 9223372036854775807) : Runs P a o w (.int .i64 (p - q)) := by
  simp [Runs, execOp, ho, hx, hy, eqGuard, binOp, Op.intArith]
  rw [IntWalk.i64_in _ hb]
theorem r_conv {src dst : TypeId} {ks kd : IntKind} (ho : o.op = .convert src dst x) (hs : P.underlying src = some (.int ks)) (hd : P.underlying dst = some (.int kd)) (hx : a.eval x = .int k p) : Runs P a o w (.int kd (kd.wrap p)) := by
  simp [Runs, execOp, ho, hx, convert, run_underlying hs, run_underlying hd, Conv.intToInt]
theorem r_not {b : Bool} (ho : o.op = .unOp .not t x) (hx : a.eval x = .bool b) : Runs P a o w (.bool (!b)) := by
  simp [Runs, execOp, ho, hx, Op.unary]
theorem eq_bool {b c : Bool} (ht : P.underlying t = some .bool) (d : Nat) : (Op.equalIn (d + 1) t (.bool b) (.bool c)).run P w = .ok (b == c) w := by
  simp [Op.equalIn, run_underlying ht]
theorem r_max (hc : o.op = .call { callee := .builtin .max, args := #[x, y], argTypes := #[t, t'] }) (hx : a.eval x = .int k p) (hy : a.eval y = .int k q) : Runs P a o w (.int k (max p q)) := by
  have e : (if q > p then q else p) = max p q := by omega
  simp [Runs, execOp, hc, resolve, invoke, builtin, Builtin.max_, Builtin.max2, hx, hy]
  exact e
theorem r_min (hc : o.op = .call { callee := .builtin .min, args := #[x, y], argTypes := #[t, t'] }) (hx : a.eval x = .int k p) (hy : a.eval y = .int k q) : Runs P a o w (.int k (min p q)) := by
  have e : (if q < p then q else p) = min p q := by omega
  simp [Runs, execOp, hc, resolve, invoke, builtin, Builtin.min_, Builtin.min2, hx, hy]
  exact e
end ints
section memory
variable {t e : TypeId} {x y : Operand} {p : Addr}
theorem r_fieldAddr {f off : Nat} {fs : Array Field} {fd : Field} {m : Nat} (ho : o.op = .fieldAddr t x f) (ht : P.underlying t = some (.struct fs)) (hf : fs[f]? = some fd) (hoff : fd.offset = off) (hz : ∀ w, (sizeOf fd.type).run P w = .ok (m + 1) w) (hx : a.eval x = .pointer (some p)) :
    Runs P a o w (.pointer (some (p.add off))) := by
  subst hoff
  simp [Runs, execOp, ho, hx, Instr.fieldAt, run_underlying ht, hf, Instr.sureAddr, fieldPlace, hz]
theorem r_indexAddr {k : IntKind} {i : Int} {v : Value} {n m : Nat} (ho : o.op = .indexAddr t x y) (ht : P.underlying t = some (.slice e)) (hz : ∀ w, (sizeOf e).run P w = .ok m w) (hx : a.eval x = v) (hv : IsSl v n) (hy : a.eval y = .int k i) (h0 : 0 ≤ i) (h1 : i < n) :
    Runs P a o w (.pointer (some ((ptrOf v).add (i.toNat * m)))) := by
  rcases hv with ⟨_, rfl⟩ | ⟨b, cap, rfl, _⟩
  · omega
  · simp [Runs, execOp, ho, hx, hy, Instr.indexAt, run_underlying ht, hz, asIntOf, h0, h1, ptrOf]
theorem r_load1 {v : Value} (ho : o.op = .load t x) (hz : ∀ w, (isAgg t).run P w = .ok false w) (hx : a.eval x = .pointer (some p)) (hc : w.cell? p = some v) : Runs P a o w v := by
  simp [Runs, execOp, ho, hx, Instr.loadAt, Instr.sureAddr, loadVar, hz, load, Sem.run, hc]
theorem run_loadCellsFrom (vs : List Value) : ∀ (p : Addr) (i : Nat) (acc : Array Value), (∀ j u, vs[j]? = some u → w.cell? (p.add (i + j)) = some u) →
    (loadCellsFrom p i vs.length acc).run P w = .ok (acc ++ vs.toArray) w := by
  induction vs with
  | nil => intro p i acc _; simp [loadCellsFrom]
  | cons v vs ih =>
    intro p i acc h
    have h0 := h 0 v rfl
    rw [Nat.add_zero] at h0
    simp only [List.length_cons, loadCellsFrom]
    simp only [load, Sem.run_bind, Sem.run, h0, Result.andThen_ok]
    rw [ih p (i + 1) (acc.push v) (fun j u hj => by rw [show i + 1 + j = i + (j + 1) by omega]; exact h (j + 1) u (by simpa using hj))]
    simp
theorem r_loadN {vs : List Value} {m : Nat} (ho : o.op = .load t x) (hz : ∀ w, (isAgg t).run P w = .ok true w) (hm : ∀ w, (sizeOf t).run P w = .ok m w) (hx : a.eval x = .pointer (some p)) (hl : vs.length = m)
    (hc : ∀ j u, vs[j]? = some u → w.cell? (p.add j) = some u) : Runs P a o w (.agg vs.toArray) := by
  subst hl
  simp only [Runs, execOp, ho, hx, Instr.loadAt, Instr.sureAddr, loadVar, Sem.run_bind, Sem.run_pure, Result.andThen_ok, hz, if_true, hm, loadCells]
  rw [run_loadCellsFrom vs p 0 #[] (fun j u hj => by rw [Nat.zero_add]; exact hc j u hj)]
  simp
theorem r_len {v : Value} {n : Nat} (hc : o.op = .call { callee := .builtin .len, args := #[x], argTypes := #[t] }) (ht : P.underlying t = some (.slice e)) (hx : a.eval x = v) (hv : IsSl v n) : Runs P a o w (.int .i64 n) := by
  rcases hv with ⟨rfl, rfl⟩ | ⟨b, cap, rfl, _⟩
  · simp [Runs, execOp, hc, resolve, invoke, builtin, Builtin.len_, hx, run_underlying ht, goInt]
  · simp [Runs, execOp, hc, resolve, invoke, builtin, Builtin.len_, hx, run_underlying ht, goInt]
theorem r_lenS {s : ByteArray} (hc : o.op = .call { callee := .builtin .len, args := #[x], argTypes := #[t] }) (ht : P.underlying t = some .string) (hx : a.eval x = .string s) : Runs P a o w (.int .i64 s.size) := by
  simp [Runs, execOp, hc, resolve, invoke, builtin, Builtin.len_, hx, run_underlying ht, goInt]
theorem r_extract {vs : Array Value} {i : Nat} {v : Value} (ho : o.op = .extract x i) (hx : a.eval x = .tuple vs) (hi : vs[i]? = some v) : Runs P a o w v := by
  simp [Runs, execOp, ho, hx, Instr.extract, hi]
theorem r_build {parts : Array (Nat × Operand)} {fs : Array Field} {z : Value} {pl : Array (Nat × Nat)} {cells : Array Value} (ho : o.op = .build t parts) (ht : P.underlying t = some (.struct fs)) (hz : ∀ w, (zeroValue t).run P w = .ok z w)
    (hp : ∀ w, (fs.mapM fun f => (do pure (f.offset, ← sizeOf f.type) : Sem (Nat × Nat))).run P w = .ok pl w) (hf : Instr.fill (pl[·]?) z.cells (parts.map fun (i, x) => (i, a.eval x)).toList = some cells) : Runs P a o w (.agg cells) := by
  simp only [Runs, execOp, ho, Instr.build, Sem.run_bind, hz, Result.andThen_ok, run_underlying ht, hp, hf]
  rfl
end memory
end
end B
end Go.Proofs.YtebfahobllghnaaGreatDoor
namespace Go.Proofs.YtebfahobllghnaaGreatDoor
namespace B
open Go.RowKit
structure Enc (α : Type) where
  cells : α → List Value
  sz : Nat
  pos : 0 < sz
  len : ∀ x, (cells x).length = sz
  one : ∀ x u, u ∈ cells x → u.oneCell' = true
section lists
variable {α : Type}
def Enc.row (E : Enc α) (xs : List α) : List Value := xs.flatMap E.cells
theorem Enc.row_length (E : Enc α) (xs : List α) : (E.row xs).length = xs.length * E.sz := by
  induction xs with
  | nil => simp [Enc.row]
  | cons x xs ih =>
    simp only [Enc.row, List.flatMap_cons, List.length_append, E.len, List.length_cons] at ih ⊢
    rw [ih, Nat.add_mul]; omega
theorem Enc.row_append (E : Enc α) (xs ys : List α) : E.row (xs ++ ys) = E.row xs ++ E.row ys := by
  simp [Enc.row]
theorem Enc.row_get (E : Enc α) {xs : List α} {i j : Nat} {x : α} (hx : xs[i]? = some x) (hj : j < E.sz) : (E.row xs)[i * E.sz + j]? = (E.cells x)[j]? := by
  induction xs generalizing i with
  | nil => simp at hx
  | cons y ys ih =>
    have e : E.row (y :: ys) = E.cells y ++ E.row ys := by simp [Enc.row]
    rw [e]
    cases i with
    | zero =>
      simp at hx; subst hx
      rw [List.getElem?_append_left (by rw [E.len]; omega)]
      congr 1; omega
    | succ i =>
      rw [List.getElem?_append_right (by rw [E.len, Nat.add_mul]; omega), E.len]
      rw [show (i + 1) * E.sz + j - E.sz = i * E.sz + j by rw [Nat.add_mul]; omega]
      exact ih (by simpa using hx)
theorem Enc.row_one (E : Enc α) {xs : List α} : ∀ u ∈ E.row xs, u.oneCell' = true := by
  intro u hu
  simp only [Enc.row, List.mem_flatMap] at hu
  obtain ⟨x, _, h⟩ := hu
  exact E.one x u h
end lists
section mem
variable {α : Type} {E : Enc α} {w w' : World} {v : Value} {xs : List α}
theorem IsSl.le {v : Value} {n : Nat} (h : IsSl v n) : n ≤ maxLen := by
  rcases h with ⟨_, rfl⟩ | ⟨b, cap, _, h1, h2⟩
  · exact Nat.zero_le _
  · omega
structure SlT (E : Enc α) (w : World) (v : Value) (xs : List α) : Prop where
  sl : IsSl v xs.length
  cell : ∀ j u, (E.row xs)[j]? = some u → w.cell? ((ptrOf v).add j) = some u
theorem SlT.nil (E : Enc α) (w : World) : SlT E w (.slice none 0 0) ([] : List α) := ⟨.inl ⟨rfl, rfl⟩, fun j u h => by simp [Enc.row] at h⟩
theorem addr_block (p : Addr) (j : Nat) : (p.add j).block = p.block := by unfold Addr.add; split <;> rfl
theorem add_add (p : Addr) (i j : Nat) : (p.add i).add j = p.add (i + j) := Deep.add_add p i j
theorem SlT.elem (h : SlT E w v xs) {i j : Nat} {x : α} {u : Value} (hx : xs[i]? = some x) (hu : (E.cells x)[j]? = some u) : w.cell? (((ptrOf v).add (i * E.sz)).add j) = some u := by
  rw [add_add]
  have hj : j < E.sz := by rw [← E.len x]; exact (List.getElem?_eq_some_iff.1 hu).1
  exact h.cell _ u (by rw [E.row_get hx hj]; exact hu)
theorem SlT.lt (h : SlT E w v xs) (hne : xs ≠ []) : (ptrOf v).block < w.heap.size := by
  obtain ⟨x, hx⟩ : ∃ x, xs[0]? = some x := by cases xs with | nil => exact absurd rfl hne | cons x _ => exact ⟨x, rfl⟩
  obtain ⟨u, hu⟩ : ∃ u, (E.cells x)[0]? = some u := ⟨(E.cells x)[0]'(by rw [E.len]; exact E.pos), by simp⟩
  have := World.block_lt_of_cell? w _ (h.elem hx hu)
  rwa [addr_block, addr_block] at this
theorem SlT.keep {M : Nat → Prop} (h : SlT E w v xs) (he : Ext M w w') (hm : xs ≠ [] → ¬ M (ptrOf v).block) : SlT E w' v xs := by
  refine ⟨h.sl, fun j u hj => ?_⟩
  have hne : xs ≠ [] := fun e => by subst e; simp [Enc.row] at hj
  exact he.cell_some (h.cell j u hj) (by rw [addr_block]; exact hm hne)
def OwnT (E : Enc α) (ty : Nat) (w : World) (v : Value) (xs : List α) : Prop := w.ownsRow 0 ty E.sz v xs.length (E.row xs)
variable {ty : Nat}
theorem OwnT.nil (E : Enc α) (ty : Nat) (w : World) : OwnT E ty w (.slice none 0 0) ([] : List α) := World.ownsRow_nil w 0 ty E.sz
theorem OwnT.sl (h : OwnT E ty w v xs) : SlT E w v xs := by
  refine ⟨?_, fun j u hj => ?_⟩
  · rcases h.2 with ⟨h1, h2⟩ | ⟨g, cap, cur, hv, _, _, h3, h4, _⟩
    · exact .inl ⟨h1, h2⟩
    · exact .inr ⟨_, cap, hv, h3, h4⟩
  · rcases h.2 with ⟨h1, h2⟩ | ⟨g, cap, cur, hv, hb, hg, h3, h4, h5, h6⟩
    · have : xs = [] := List.eq_nil_of_length_eq_zero h2
      subst this; simp [Enc.row] at hj
    · have := World.ownsRow.cells h (g := g) (by rw [hv]; rfl) j u hj
      rw [hv]
      exact this
theorem OwnT.keep {M : Nat → Prop} (h : OwnT E ty w v xs) (he : Ext M w w') (hm : ∀ g, v.ownBlock = some g → ¬ M g) : OwnT E ty w' v xs := by
  refine ⟨h.1, ?_⟩
  rcases h.2 with h | ⟨g, cap, cur, hv, hb, hg, r⟩
  · exact .inl h
  · exact .inr ⟨g, cap, cur, hv, hb, by rw [he.block g (Array.getElem?_eq_some_iff.1 hg).1 (hm g (by rw [hv]; rfl))]; exact hg, r⟩
theorem OwnT.lt (h : OwnT E ty w v xs) : ∀ g, v.ownBlock = some g → g < w.heap.size := fun g hg => (World.ownsRow.lt h g hg).2
theorem OwnT.le (h : OwnT E ty w v xs) : xs.length ≤ maxLen := h.sl.sl.le
end mem
section specs
variable {N : Foot}
def det (N : Foot) (t : Nat) (v : Value) : Spec N := ⟨none, t, fun _ _ u _ => u = v, fun _ _ _ _ _ _ _ _ h => h, fun _ => True, fun _ _ _ _ _ => trivial⟩
def gdet (N : Foot) (t : Nat) (pc : Prop) (v : Value) : Spec N := ⟨none, t, fun _ _ u _ => (pc → u = v) ∧ (¬ pc → u = undef), fun _ _ _ _ _ _ _ _ h => h, fun _ => True, fun _ _ _ _ _ => trivial⟩
def unk (N : Foot) (t : Nat) : Spec N := ⟨none, t, fun _ _ _ _ => True, fun _ _ _ _ _ _ _ _ h => h, fun _ => True, fun _ _ _ _ _ => trivial⟩
def ownR {α : Type} (E : Enc α) (ty : Nat) (xs : List α) (T : Foot) (v : Value) (w : World) : Prop := OwnT E ty w v xs ∧ ∀ g, v.ownBlock = some g → T g
theorem ownR_loc {N : Foot} {α : Type} {E : Enc α} {ty : Nat} {xs : List α} (T : Foot) (v : Value) (w w' : World) (h : Ext (fun g => N g ∧ ¬ T g) w w') (hr : ownR E ty xs T v w) : ownR E ty xs T v w' :=
  ⟨hr.1.keep h fun g hg hn => hn.2 (hr.2 g hg), hr.2⟩
def own {α : Type} (E : Enc α) (ty : Nat) (N : Foot) (tag t : Nat) (xs : List α) : Spec N := ⟨some tag, t, fun _ => ownR E ty xs, fun _ _ T v w w' _ h hr => ownR_loc T v w w' h.less hr, fun _ => True, fun _ _ _ _ _ => trivial⟩
def boxR (ty : Nat) (cells : List Value) (T : Foot) (v : Value) (w : World) : Prop := ∃ g, v = .pointer (some ⟨g, 0, none⟩) ∧ g < w.heap.size ∧ T g ∧ w.heap[g]? = some (.cells cells.toArray ty (0, 0))
theorem boxR_loc {N : Foot} {ty : Nat} {cells : List Value} (T : Foot) (v : Value) (w w' : World) (h : Ext (fun g => N g ∧ ¬ T g) w w') (hr : boxR ty cells T v w) : boxR ty cells T v w' := by
  obtain ⟨g, hv, hlt, hT, hg⟩ := hr
  exact ⟨g, hv, Nat.lt_of_lt_of_le hlt h.size, hT, by rw [h.block g hlt (fun hn => hn.2 hT)]; exact hg⟩
def box (ty : Nat) (N : Foot) (tag t : Nat) (cells : List Value) : Spec N := ⟨some tag, t, fun _ => boxR ty cells, fun _ _ T v w w' _ h hr => boxR_loc T v w w' h.less hr, fun _ => True, fun _ _ _ _ _ => trivial⟩
def ibox (ty : Nat) (N : Foot) (v : Value) (cells : List Value) : Ini N := ⟨fun _ T w => boxR ty cells T v w, fun _ _ T w w' _ h => boxR_loc T v w w' h.less⟩
theorem boxR.cell {ty : Nat} {cells : List Value} {T : Foot} {v : Value} {w : World} (h : boxR ty cells T v w) {j : Nat} {u : Value} (hu : cells[j]? = some u) : w.cell? ((ptrOf v).add j) = some u := by
  obtain ⟨g, rfl, _, _, hg⟩ := h
  simp only [ptrOf]
  have : ((⟨g, 0, none⟩ : Addr).add j) = ⟨g, j, none⟩ := by unfold Addr.add; split <;> simp_all
  rw [this]
  simp [World.cell?, hg, hu]
theorem boxR.ptr {ty : Nat} {cells : List Value} {T : Foot} {v : Value} {w : World} (h : boxR ty cells T v w) : v = .pointer (some (ptrOf v)) := by
  obtain ⟨g, rfl, _⟩ := h
  rfl
end specs
section obs
variable {N : Foot} {P : Program} {ops : Array Oper} {sp : List (Spec N)} {In : Nat → Ini N} {a0 : Act} {w0 : World} {bf : List Nat} {j : Nat} {o : Oper} {s : Spec N} {done : Nat → Bool} {a : Act} {w : World} {τ : Nat → Foot}
theorem Cx.v (c : Cx ops sp In a0 w0 bf j o done a w τ) (i : Nat) {t : Nat} {val : Value} (hs : sp[i]? = some (det N t val)) (hb : (bf.getD j 0).testBit i = true) : get a t = val :=
  c.J.det i _ hs rfl (c.pre i hb)
theorem Cx.g (c : Cx ops sp In a0 w0 bf j o done a w τ) (i : Nat) {t : Nat} {pc : Prop} {val : Value} (hs : sp[i]? = some (gdet N t pc val)) (hb : (bf.getD j 0).testBit i = true) (hpc : pc) : get a t = val :=
  (c.J.det i _ hs rfl (c.pre i hb)).1 hpc
theorem Cx.old (c : Cx ops sp In a0 w0 bf j o done a w τ) {t : Nat} {val : Value} (h0 : get a0 t = val) (h : unB ops bf j t = true) : get a t = val :=
  (c.J.old c.hj c.post t h).trans h0
theorem Cx.res (c : Cx ops sp In a0 w0 bf j o done a w τ) (i t : Nat) (s' : Spec N) (hs : sp[i]? = some s') (hl : lastTag (sp.map (·.tag)) t j = some i) (hord : ordB (sp.map (·.tag)) bf t j = true) : s'.R (Zof τ w) (τ t) (get a s'.slot) w :=
  c.J.cur c.hj c.post c.pre t i s' hl hord hs
theorem Cx.ini (c : Cx ops sp In a0 w0 bf j o done a w τ) (t : Nat) (I : Ini N) (hI : In t = I) (hl : lastTag (sp.map (·.tag)) t j = none) (hord : ordB (sp.map (·.tag)) bf t j = true) : I.I (Zof τ w) (τ t) w := by
  rw [← hI]; exact c.J.cur0 c.hj c.post t hl hord
theorem wanted_none (hg : o.guard = none) (f : Nat → Option Bool) : Region.wanted o f = true := by simp [Region.wanted, hg]
theorem Ob.mk0 (hg : o.guard = none) (h : ∀ done a w τ, Cx ops sp In a0 w0 bf j o done a w τ → o.wp P a w (fun a' w' => ∃ v, a' = a.put o.dst v ∧ StepOk s a' τ w w') (fun _ _ _ => False)) : Ob ops sp In a0 w0 P bf j o s :=
  fun done a w τ c => ⟨fun _ => h done a w τ c, fun hw => by rw [wanted_none hg] at hw; cases hw⟩
theorem wp_of_runs {K : Act → World → Prop} {Q : Exit → Act → World → Prop} {v : Value} (h : Runs P a o w v) (hK : K (a.put o.dst v) w) : o.wp P a w K Q := by
  unfold Oper.wp
  rw [h]
  exact hK
theorem Ob.det {t : Nat} {v : Value} (hs : s = B.det N t v) (hg : o.guard = none) (hd : o.dst = some t) (h : ∀ done a w τ, Cx ops sp In a0 w0 bf j o done a w τ → Runs P a o w v) : Ob ops sp In a0 w0 P bf j o s :=
  Ob.mk0 hg fun done a w τ c => wp_of_runs (h done a w τ c) ⟨v, rfl, by
    subst hs
    refine ⟨Ext.refl _ _, ?_⟩
    show get (a.put o.dst v) t = v
    rw [hd, get_put a t t v (c.lt t hd), if_pos rfl]⟩
theorem Ob.gdet {t gi tg : Nat} {want b : Bool} {pc : Prop} {v : Value} (hs : s = B.gdet N t pc v) (hg : o.guard = some (gi, want)) (hd : o.dst = some t) (hgd : ((ops[gi]?).bind (·.dst)) = some tg)
    (hgs : sp[gi]? = some (B.det N tg (.bool b))) (hb : (bf.getD j 0).testBit gi = true) (hpc : pc ↔ b = want)
    (h : ∀ done a w τ, Cx ops sp In a0 w0 bf j o done a w τ → pc → Runs P a o w v) : Ob ops sp In a0 w0 P bf j o s := by
  intro done a w τ c
  have hv : get a tg = .bool b := c.v gi hgs hb
  have hw : Region.wanted o (yielded ops a.tmps) = (b == want) := by
    have : a.tmps[tg]? = some (.bool b) := by
      unfold get at hv
      rw [Array.getD_eq_getD_getElem?] at hv
      cases h' : a.tmps[tg]? with
      | none => rw [h'] at hv; simp [undef] at hv
      | some u => rw [h'] at hv; simp at hv; rw [hv]
    cases b <;> cases want <;> simp [Region.wanted, hg, yielded, hgd, this]
  subst hs
  refine ⟨fun hw' => ?_, fun hw' => ?_⟩
  · rw [hw] at hw'
    have hp : pc := hpc.2 (by simpa using hw')
    refine wp_of_runs (h done a w τ c hp) ⟨v, rfl, Ext.refl _ _, ?_⟩
    show (pc → get (a.put o.dst v) t = v) ∧ (¬ pc → get (a.put o.dst v) t = undef)
    rw [hd, get_put a t t v (c.lt t hd), if_pos rfl]
    exact ⟨fun _ => rfl, fun hn => absurd hp hn⟩
  · rw [hw] at hw'
    have hp : ¬ pc := fun hp => by rw [hpc.1 hp] at hw'; simp at hw'
    refine ⟨Ext.refl _ _, ?_⟩
    show (pc → get (a.put o.dst undef) t = v) ∧ (¬ pc → get (a.put o.dst undef) t = undef)
    rw [hd, get_put a t t undef (c.lt t hd), if_pos rfl]
    exact ⟨fun h => absurd h hp, fun _ => rfl⟩
theorem Ob.ggdet {t gi tg : Nat} {want b : Bool} {pc pg : Prop} {v : Value} (hs : s = B.gdet N t pc v) (hg : o.guard = some (gi, want)) (hd : o.dst = some t) (hgd : ((ops[gi]?).bind (·.dst)) = some tg)
    (hgs : sp[gi]? = some (B.gdet N tg pg (.bool b))) (hb : (bf.getD j 0).testBit gi = true) (hpc : pc ↔ (pg ∧ b = want))
    (h : ∀ done a w τ, Cx ops sp In a0 w0 bf j o done a w τ → pc → Runs P a o w v) : Ob ops sp In a0 w0 P bf j o s := by
  intro done a w τ c
  have hv := c.J.det gi _ hgs rfl (c.pre gi hb)
  have hv : (pg → get a tg = .bool b) ∧ (¬ pg → get a tg = undef) := hv
  subst hs
  by_cases hpg : pg
  · have hv' := hv.1 hpg
    have hw : Region.wanted o (yielded ops a.tmps) = (b == want) := by
      have : a.tmps[tg]? = some (.bool b) := by
        unfold get at hv'
        rw [Array.getD_eq_getD_getElem?] at hv'
        cases h' : a.tmps[tg]? with
        | none => rw [h'] at hv'; simp [undef] at hv'
        | some u => rw [h'] at hv'; simp at hv'; rw [hv']
      cases b <;> cases want <;> simp [Region.wanted, hg, yielded, hgd, this]
    refine ⟨fun hw' => ?_, fun hw' => ?_⟩
    · rw [hw] at hw'
      have hp : pc := hpc.2 ⟨hpg, by simpa using hw'⟩
      refine wp_of_runs (h done a w τ c hp) ⟨v, rfl, Ext.refl _ _, ?_⟩
      show (pc → get (a.put o.dst v) t = v) ∧ (¬ pc → get (a.put o.dst v) t = undef)
      rw [hd, get_put a t t v (c.lt t hd), if_pos rfl]
      exact ⟨fun _ => rfl, fun hn => absurd hp hn⟩
    · rw [hw] at hw'
      have hp : ¬ pc := fun hp => by rw [(hpc.1 hp).2] at hw'; simp at hw'
      refine ⟨Ext.refl _ _, ?_⟩
      show (pc → get (a.put o.dst undef) t = v) ∧ (¬ pc → get (a.put o.dst undef) t = undef)
      rw [hd, get_put a t t undef (c.lt t hd), if_pos rfl]
      exact ⟨fun h => absurd h hp, fun _ => rfl⟩
  · have hv' := hv.2 hpg
    have hw : Region.wanted o (yielded ops a.tmps) = false := by
      have : ∀ bb, a.tmps[tg]? ≠ some (.bool bb) := by
        intro bb h'
        unfold get at hv'
        rw [Array.getD_eq_getD_getElem?, h'] at hv'
        simp [undef] at hv'
      have hy : yielded ops a.tmps gi = none := by
        cases h' : a.tmps[tg]? with
        | none => simp [yielded, hgd, h']
        | some u => cases u <;> first | exact absurd h' (this _) | simp [yielded, hgd, h']
      simp [Region.wanted, hg, hy]
    have hp : ¬ pc := fun hp => hpg (hpc.1 hp).1
    refine ⟨fun hw' => (by rw [hw] at hw'; cases hw'), fun _ => ?_⟩
    refine ⟨Ext.refl _ _, ?_⟩
    show (pc → get (a.put o.dst undef) t = v) ∧ (¬ pc → get (a.put o.dst undef) t = undef)
    rw [hd, get_put a t t undef (c.lt t hd), if_pos rfl]
    exact ⟨fun h => absurd h hp, fun _ => rfl⟩
end obs
end B
end Go.Proofs.YtebfahobllghnaaGreatDoor
