/-
  Own texts, put together by a program (flat.py): Base1, Base2, Base3, Base4, Base5, Base6, Base7, Base8, Base9, BaseS, BaseY, Sort, Sort2, Sort3, Str, SelA, Tree, Ref, TreeF, TrB.
-/
import Derived.WalkKit
import Derived.WalkSpells
import Derived.WalkLawsBesides
import Derived.Deep.Draws
import Derived.Lib.Slices
import Derived.Deep.Slices
import Derived.Lib.SliceRun
import Derived.ProofKit
import Derived.WideKeyArgs
import Derived.OpenShut
import Derived.Lib.AppendStr
import Derived.Lib.ConvBytes
import Derived.Laws.Strings
import Derived.Laws.IdiomStrings
import Derived.Test.YtocmchlhbniloaaChecked
set_option linter.unusedSimpArgs false
set_option linter.unusedVariables false
set_option linter.unusedSectionVars false
namespace Go.Proofs.Ytocmchlhbniloaa
namespace B
open Go.RowKit
def get (a : Act) (t : Nat) : Value := a.tmps.getD t undef
abbrev Foot := Nat → Prop
structure Ext (M : Nat → Prop) (w w' : World) : Prop where
  os : w'.os = w.os
  tape : w'.tape = w.tape
  output : w'.output = w.output
  size : w.heap.size ≤ w'.heap.size
  block : ∀ k, k < w.heap.size → ¬ M k → w'.heap[k]? = w.heap[k]?
def none' : Nat → Prop := fun _ => False
theorem Ext.refl (M : Nat → Prop) (w : World) : Ext M w w := ⟨rfl, rfl, rfl, Nat.le_refl _, fun _ _ _ => rfl⟩
theorem Ext.trans {M : Nat → Prop} {a b c : World} (h : Ext M a b) (k : Ext M b c) : Ext M a c :=
  ⟨k.os.trans h.os, k.tape.trans h.tape, k.output.trans h.output, Nat.le_trans h.size k.size,
    fun i hi hm => (k.block i (Nat.lt_of_lt_of_le hi h.size) hm).trans (h.block i hi hm)⟩
theorem Ext.mono {M M' : Nat → Prop} {a b : World} (h : Ext M a b) (hm : ∀ k, k < a.heap.size → M k → M' k) : Ext M' a b :=
  ⟨h.os, h.tape, h.output, h.size, fun i hi hn => h.block i hi (fun hM => hn (hm i hi hM))⟩
theorem Ext.drew {M : Nat → Prop} {a b : World} (h : Ext M a b) : Ext M a b.drew := ⟨h.os, h.tape, h.output, h.size, h.block⟩
theorem Ext.alloc (M : Nat → Prop) (w : World) (o : Obj) : Ext M w (w.alloc o) :=
  ⟨rfl, rfl, rfl, by simp, fun k hk _ => by show (w.heap.push o)[k]? = _; rw [Array.getElem?_push, if_neg (by omega)]⟩
theorem Ext.cell {M : Nat → Prop} {w w' : World} (h : Ext M w w') {p : Addr} (hp : p.block < w.heap.size) (hm : ¬ M p.block) : w'.cell? p = w.cell? p :=
  World.cell?_of_block (w := w) (h.block p.block hp hm)
theorem Ext.cell_some {M : Nat → Prop} {w w' : World} (h : Ext M w w') {p : Addr} {v : Value} (hc : w.cell? p = some v) (hm : ¬ M p.block) : w'.cell? p = some v :=
  (h.cell (World.block_lt_of_cell? w p hc) hm).trans hc
theorem Ext.below {w w' : World} (h : Ext none' w w') : Below w.heap.size w w' :=
  ⟨h.os, h.tape, h.output, h.size, fun k hk => h.block k hk (fun x => x)⟩
theorem get_put (a : Act) (d t : Nat) (v : Value) (hd : d < a.tmps.size) : get (a.put (some d) v) t = if t = d then v else get a t := by
  unfold get Act.put
  simp only [Array.getD_eq_getD_getElem?, Array.getElem?_setIfInBounds]
  by_cases h : d = t
  · subst h; simp [hd]
  · rw [if_neg h, if_neg (fun e => h e.symm)]
theorem get_put_none (a : Act) (t : Nat) (v : Value) : get (a.put none v) t = get a t := rfl
theorem size_put (a : Act) (d : Option Nat) (v : Value) : (a.put d v).tmps.size = a.tmps.size := by
  cases d <;> simp [Act.put]
theorem defers_put (a : Act) (d : Option Nat) (v : Value) : (a.put d v).defers = a.defers := by
  cases d <;> simp [Act.put]
theorem eval_tmp (a : Act) (t : Nat) : a.eval (.tmp t) = get a t := rfl
structure Spec (N : Foot) where
  tag : Option Nat
  slot : Nat
  R : Foot → Foot → Value → World → Prop
  loc : ∀ Z Z' T v w w', (∀ g, Z g → Z' g) → Ext (fun g => N g ∧ ¬ T g ∧ ¬ Z g) w w' → R Z T v w → R Z' T v w'
  pur : Value → Prop := fun _ => True
  fit : ∀ Z T v w, R Z T v w → pur v := by exact fun _ _ _ _ _ => trivial
structure Ini (N : Foot) where
  I : Foot → Foot → World → Prop
  loc : ∀ Z Z' T w w', (∀ g, Z g → Z' g) → Ext (fun g => N g ∧ ¬ T g ∧ ¬ Z g) w w' → I Z T w → I Z' T w'
def Ini.any (N : Foot) : Ini N := ⟨fun _ _ _ => True, fun _ _ _ _ _ _ _ h => h⟩
def Zof (τ : Nat → Foot) (w : World) : Foot := fun g => g < w.heap.size ∧ ∀ t, ¬ τ t g
def upd (τ : Nat → Foot) (t0 : Nat) (T' : Foot) : Nat → Foot := fun t g => if t = t0 then T' g else τ t g
theorem Ext.less {N T Z : Foot} {w w' : World} (h : Ext (fun g => N g ∧ ¬ T g ∧ ¬ Z g) w w') : Ext (fun g => N g ∧ ¬ T g) w w' := h.mono fun _ _ h => ⟨h.1, h.2.1⟩
section
variable {N : Foot} {P : Program} (ops : Array Oper) (sp : List (Spec N)) (ini : Nat → Ini N) (a0 : Act) (w0 : World)
structure J (done : Nat → Bool) (a : Act) (w : World) (τ : Nat → Foot) : Prop where
  defers : a.defers = a0.defers
  size : a.tmps.size = a0.tmps.size
  un : ∀ t, (∀ i o, ops[i]? = some o → o.dst = some t → done i = false) → get a t = get a0 t
  ext : Ext N w0 w
  big : ∀ k, w.heap.size ≤ k → N k
  disj : ∀ s t g, τ s g → τ t g → s = t
  bnd : ∀ t g, τ t g → N g ∧ g < w.heap.size
  det : ∀ (j : Nat) (s : Spec N), sp[j]? = some s → s.tag = none → done j = true → s.R (Zof τ w) none' (get a s.slot) w
  res : ∀ (j : Nat) (s : Spec N) (t : Nat), sp[j]? = some s → s.tag = some t → done j = true → (∀ (k : Nat) (s' : Spec N), sp[k]? = some s' → j < k → s'.tag = some t → done k = false) → s.R (Zof τ w) (τ t) (get a s.slot) w
  ini : ∀ t, (∀ (k : Nat) (s' : Spec N), sp[k]? = some s' → s'.tag = some t → done k = false) → (ini t).I (Zof τ w) (τ t) w
  pur : ∀ (j : Nat) (s : Spec N), sp[j]? = some s → done j = true → s.pur (get a s.slot)
def StepOk (s : Spec N) (a' : Act) (τ : Nat → Foot) (w w' : World) : Prop :=
  match s.tag with
  | none => Ext none' w w' ∧ s.R (Zof τ w') none' (get a' s.slot) w'
  | some t => Ext (τ t) w w' ∧ ∃ T' : Foot, (∀ g, T' g → τ t g ∨ (w.heap.size ≤ g ∧ g < w'.heap.size)) ∧ s.R (Zof (upd τ t T') w') T' (get a' s.slot) w'
structure Cx (bf : List Nat) (j : Nat) (o : Oper) (done : Nat → Bool) (a : Act) (w : World) (τ : Nat → Foot) : Prop where
  J : J ops sp ini a0 w0 done a w τ
  hj : done j = false
  pre : ∀ i, (bf.getD j 0).testBit i = true → done i = true
  post : ∀ k, (bf.getD k 0).testBit j = true → done k = false
  lt : ∀ d, o.dst = some d → d < a.tmps.size
def Ob (P : Program) (bf : List Nat) (j : Nat) (o : Oper) (s : Spec N) : Prop :=
  ∀ done a w τ, Cx ops sp ini a0 w0 bf j o done a w τ →
    (Region.wanted o (yielded ops a.tmps) = true → o.wp P a w (fun a' w' => ∃ v, a' = a.put o.dst v ∧ StepOk s a' τ w w') (fun _ _ _ => False)) ∧
    (Region.wanted o (yielded ops a.tmps) = false → StepOk s (a.put o.dst undef) τ w w)
def ObList (P : Program) (bf : List Nat) : Nat → List Oper → List (Spec N) → Prop
  | _, [], [] => True
  | j, o :: l, s :: r => Ob ops sp ini a0 w0 P bf j o s ∧ ObList P bf (j + 1) l r
  | _, _, _ => False
def okOps (ops : Array Oper) (n : Nat) : Bool :=
  (List.range ops.size).all fun j => match ops[j]? with
    | none => false
    | some o => o.after.all (fun e => !Region.binds .any e || e.on < j) &&
      (match o.dst with
       | none => true
       | some d => d < n && (List.range ops.size).all fun i => i == j || (match ops[i]? with | some o' => o'.dst != some d | none => true))
def okBf (ops : Array Oper) (bf : List Nat) : Bool :=
  bf.length == ops.size && (List.range ops.size).all fun j => decide (bf.getD j 0 < 2 ^ j) && match ops[j]? with
    | none => false
    | some o => (List.range ops.size).all fun i => !(bf.getD j 0).testBit i || o.after.any fun e => Region.binds .any e && (e.on == i || (bf.getD e.on 0).testBit i)
def okSp (ops : Array Oper) (bf : List Nat) (slots : List Nat) (tags : List (Option Nat)) : Bool :=
  slots.length == ops.size && tags.length == ops.size &&
  (List.range ops.size).all fun j => (List.range ops.size).all fun k =>
    (k == j || (match ops[k]? with | some o => o.dst != some (slots.getD j 0) || (bf.getD j 0).testBit k | none => true)) &&
    (!(j < k) || (match tags.getD j none with | none => true | some t => tags.getD k none != some t || (bf.getD k 0).testBit j))
def lastTag (tags : List (Option Nat)) (t : Nat) : Nat → Option Nat
  | 0 => none
  | j + 1 => if tags.getD j none = some t then some j else lastTag tags t j
def ordB (tags : List (Option Nat)) (bf : List Nat) (t j : Nat) : Bool :=
  (List.range tags.length).all fun k => tags.getD k none != some t || k == j || (k < j && (bf.getD j 0).testBit k) || (j < k && (bf.getD k 0).testBit j)
theorem lastTag_some {tags : List (Option Nat)} {t : Nat} : ∀ {j i : Nat}, lastTag tags t j = some i → i < j ∧ tags.getD i none = some t ∧ ∀ k, i < k → k < j → tags.getD k none ≠ some t
  | 0, i, h => by simp [lastTag] at h
  | j + 1, i, h => by
    unfold lastTag at h
    split at h
    · rename_i ht
      obtain rfl : j = i := by simpa using h
      exact ⟨Nat.lt_succ_self _, ht, fun k h1 h2 => by omega⟩
    · rename_i ht
      obtain ⟨h1, h2, h3⟩ := lastTag_some h
      refine ⟨by omega, h2, fun k hk hk' => ?_⟩
      by_cases e : k = j
      · subst e; exact ht
      · exact h3 k hk (by omega)
theorem lastTag_none {tags : List (Option Nat)} {t : Nat} : ∀ {j : Nat}, lastTag tags t j = none → ∀ k, k < j → tags.getD k none ≠ some t
  | 0, _, k, hk => by omega
  | j + 1, h, k, hk => by
    unfold lastTag at h
    split at h
    · cases h
    · rename_i ht
      by_cases e : k = j
      · subst e; exact ht
      · exact lastTag_none h k (by omega)
end
section
variable {N : Foot} {P : Program} {ops : Array Oper} {sp : List (Spec N)} {ini : Nat → Ini N} {a0 : Act} {w0 : World} {done : Nat → Bool} {a : Act} {w : World} {τ : Nat → Foot} {bf : List Nat} {j : Nat}
theorem tag_getD {k : Nat} {s : Spec N} (h : sp[k]? = some s) : (sp.map (·.tag)).getD k none = s.tag := by
  simp [List.getD, h]
theorem ordB_spec {t : Nat} (h : ordB (sp.map (·.tag)) bf t j = true) {k : Nat} {s : Spec N} (hs : sp[k]? = some s) (ht : s.tag = some t) :
    k = j ∨ (k < j ∧ (bf.getD j 0).testBit k = true) ∨ (j < k ∧ (bf.getD k 0).testBit j = true) := by
  unfold ordB at h
  rw [List.all_eq_true] at h
  have hk : k < sp.length := (List.getElem?_eq_some_iff.1 hs).1
  have := h k (by simpa using hk)
  rw [tag_getD hs, ht] at this
  simp only [bne_self_eq_false, Bool.false_or, Bool.or_eq_true, Bool.and_eq_true, decide_eq_true_eq, beq_iff_eq] at this
  rcases this with (h | h) | h
  · exact .inl h
  · exact .inr (.inl h)
  · exact .inr (.inr h)
theorem J.cur (hJ : J ops sp ini a0 w0 done a w τ) (hj : done j = false) (hpost : ∀ k, (bf.getD k 0).testBit j = true → done k = false) (hpre : ∀ i, (bf.getD j 0).testBit i = true → done i = true)
    (t i : Nat) (s : Spec N) (hi : lastTag (sp.map (·.tag)) t j = some i) (hord : ordB (sp.map (·.tag)) bf t j = true) (hs : sp[i]? = some s) : s.R (Zof τ w) (τ t) (get a s.slot) w := by
  obtain ⟨h1, h2, h3⟩ := lastTag_some hi
  have ht : s.tag = some t := by rw [← tag_getD hs]; exact h2
  refine hJ.res i s t hs ht ?_ ?_
  · rcases ordB_spec hord hs ht with h | ⟨_, h⟩ | ⟨h, _⟩
    · omega
    · exact hpre _ h
    · omega
  · intro k s' hs' hk ht'
    rcases ordB_spec hord hs' ht' with h | ⟨h, _⟩ | ⟨_, h⟩
    · subst h; exact hj
    · exact absurd (by rw [tag_getD hs']; exact ht') (h3 k hk h)
    · exact hpost _ h
theorem J.cur0 (hJ : J ops sp ini a0 w0 done a w τ) (hj : done j = false) (hpost : ∀ k, (bf.getD k 0).testBit j = true → done k = false)
    (t : Nat) (hi : lastTag (sp.map (·.tag)) t j = none) (hord : ordB (sp.map (·.tag)) bf t j = true) : (ini t).I (Zof τ w) (τ t) w := by
  refine hJ.ini t fun k s' hs' ht' => ?_
  rcases ordB_spec hord hs' ht' with h | ⟨h, _⟩ | ⟨_, h⟩
  · subst h; exact hj
  · exact absurd (by rw [tag_getD hs']; exact ht') (lastTag_none hi k h)
  · exact hpost _ h
def unB (ops : Array Oper) (bf : List Nat) (j t : Nat) : Bool :=
  (List.range ops.size).all fun k => match ops[k]? with | some o => o.dst != some t || k == j || (bf.getD k 0).testBit j | none => true
theorem J.old (hJ : J ops sp ini a0 w0 done a w τ) (hj : done j = false) (hpost : ∀ k, (bf.getD k 0).testBit j = true → done k = false) (t : Nat) (h : unB ops bf j t = true) : get a t = get a0 t := by
  refine hJ.un t fun i o hi hd => ?_
  unfold unB at h
  rw [List.all_eq_true] at h
  have := h i (by simpa using (Array.getElem?_eq_some_iff.1 hi).1)
  simp only [hi, hd, bne_self_eq_false, Bool.false_or, Bool.or_eq_true, beq_iff_eq] at this
  rcases this with h | h
  · subst h; exact hj
  · exact hpost _ h
end
section
variable {N : Foot} {P : Program} {ops : Array Oper} {sp : List (Spec N)} {ini : Nat → Ini N} {a0 : Act} {w0 : World} {bf : List Nat} {n : Nat}
theorem okOps_spec (h : okOps ops n = true) {j : Nat} {o : Oper} (ho : ops[j]? = some o) :
    (∀ e ∈ o.after, Region.binds .any e = true → e.on < j) ∧ ∀ d, o.dst = some d → d < n ∧ ∀ (i : Nat) (o' : Oper), ops[i]? = some o' → i ≠ j → o'.dst ≠ some d := by
  unfold okOps at h
  rw [List.all_eq_true] at h
  have := h j (by simpa using (Array.getElem?_eq_some_iff.1 ho).1)
  simp only [ho, Bool.and_eq_true, Array.all_eq_true_iff_forall_mem, Bool.or_eq_true, Bool.not_eq_true', decide_eq_true_eq] at this
  refine ⟨fun e he hb => (this.1 e he).resolve_left (by simp [hb]), fun d hd => ?_⟩
  have h2 := this.2
  simp only [hd, Bool.and_eq_true, decide_eq_true_eq, List.all_eq_true, List.mem_range, Bool.or_eq_true, beq_iff_eq] at h2
  refine ⟨h2.1, fun i o' hi hne hd' => ?_⟩
  have := h2.2 i (Array.getElem?_eq_some_iff.1 hi).1
  simp [hi, hd', hne] at this
theorem okBf_spec (h : okBf ops bf = true) {j i : Nat} (hb : (bf.getD j 0).testBit i = true) :
    i < j ∧ j < ops.size ∧ ∃ o, ops[j]? = some o ∧ ∃ e ∈ o.after, Region.binds .any e = true ∧ (e.on = i ∨ (bf.getD e.on 0).testBit i = true) := by
  unfold okBf at h
  rw [Bool.and_eq_true, List.all_eq_true, beq_iff_eq] at h
  have hj : j < ops.size := by
    rw [← h.1]
    apply Nat.lt_of_not_le
    intro hle
    rw [List.getD, List.getElem?_eq_none hle] at hb
    simp at hb
  have := h.2 j (by simpa using hj)
  rw [Bool.and_eq_true, decide_eq_true_eq] at this
  obtain ⟨hlt, this⟩ := this
  have hi : i < j := by
    apply Nat.lt_of_not_le
    intro hle
    have : (bf.getD j 0).testBit i = false := Nat.testBit_lt_two_pow (Nat.lt_of_lt_of_le hlt (Nat.pow_le_pow_right (by omega) hle))
    rw [this] at hb; cases hb
  refine ⟨hi, hj, ?_⟩
  split at this
  · cases this
  · rename_i o ho
    refine ⟨o, ho, ?_⟩
    rw [List.all_eq_true] at this
    have := this i (by simp; omega)
    simp only [hb, Bool.not_true, Bool.false_or] at this
    rw [← Array.any_toList, List.any_eq_true] at this
    obtain ⟨e, he, h2⟩ := this
    simp only [Bool.and_eq_true, Bool.or_eq_true, beq_iff_eq] at h2
    exact ⟨e, by simpa using he, h2⟩
theorem okSp_spec (h : okSp ops bf (sp.map (·.slot)) (sp.map (·.tag)) = true) {j k : Nat} {s : Spec N} (hj : j < ops.size) (hk : k < ops.size) (hs : sp[j]? = some s) :
    (∀ o, ops[k]? = some o → o.dst = some s.slot → k ≠ j → (bf.getD j 0).testBit k = true) ∧
    (∀ s' t, j < k → sp[k]? = some s' → s.tag = some t → s'.tag = some t → (bf.getD k 0).testBit j = true) := by
  unfold okSp at h
  rw [Bool.and_eq_true, List.all_eq_true] at h
  have := h.2 j (by simpa using hj)
  rw [List.all_eq_true] at this
  have := this k (by simpa using hk)
  rw [Bool.and_eq_true] at this
  obtain ⟨h1, h2⟩ := this
  refine ⟨fun o ho hd hne => ?_, fun s' t hlt hs' ht ht' => ?_⟩
  · simpa [ho, hd, List.getD, hs, hne] using h1
  · rw [tag_getD hs, ht] at h2
    simp only [hlt, decide_true, Bool.not_true, Bool.false_or] at h2
    rw [tag_getD hs', ht'] at h2
    simpa using h2
def Closed (ops : Array Oper) (done : Nat → Bool) : Prop := ∀ (j : Nat) (o : Oper), ops[j]? = some o → done j = true → ∀ e ∈ o.after, Region.binds .any e = true → done e.on = true
theorem pre_of_closed (hok : okOps ops n = true) (hbf : okBf ops bf = true) {done : Nat → Bool} (hc : Closed ops done) :
    ∀ (m j : Nat), j ≤ m → (∀ o, ops[j]? = some o → ∀ e ∈ o.after, Region.binds .any e = true → done e.on = true) → ∀ i, (bf.getD j 0).testBit i = true → done i = true := by
  intro m
  induction m with
  | zero =>
    intro j hj h i hb
    have := (okBf_spec hbf hb).1
    omega
  | succ m ih =>
    intro j hj h i hb
    obtain ⟨_, _, o, ho, e, he, hbi, h2⟩ := okBf_spec hbf hb
    have hd := h o ho e he hbi
    rcases h2 with h2 | h2
    · rw [← h2]; exact hd
    · have hlt := (okOps_spec hok ho).1 e he hbi
      exact ih e.on (by omega) (fun o' ho' => hc e.on o' ho' hd) i h2
theorem J.step (hok : okOps ops a0.tmps.size = true) (hbf : okBf ops bf = true) (hsp : okSp ops bf (sp.map (·.slot)) (sp.map (·.tag)) = true)
    {done : Nat → Bool} {a : Act} {w w' : World} {τ : Nat → Foot} {j : Nat} {o : Oper} {s : Spec N} {v : Value}
    (hJ : J ops sp ini a0 w0 done a w τ) (hc : Closed ops done) (hj : done j = false) (ho : ops[j]? = some o) (hs : sp[j]? = some s)
    (hstep : StepOk s (a.put o.dst v) τ w w') : ∃ τ', J ops sp ini a0 w0 (fun i => i == j || done i) (a.put o.dst v) w' τ' := by
  have hjs : j < ops.size := (Array.getElem?_eq_some_iff.1 ho).1
  have clos : ∀ i k, done i = true → (bf.getD i 0).testBit k = true → done k = true := fun i k hd hb =>
    pre_of_closed hok hbf hc i i (Nat.le_refl _) (fun o' ho' => hc i o' ho' hd) k hb
  -- a place of another operation is not written
  have keep : ∀ i s', sp[i]? = some s' → i < ops.size → done i = true → get (a.put o.dst v) s'.slot = get a s'.slot := by
    intro i s' hs' hi hd
    cases hdst : o.dst with
    | none => rfl
    | some d =>
      have hlt := ((okOps_spec hok ho).2 d hdst).1
      rw [get_put a d s'.slot v (by rw [hJ.size]; exact hlt)]
      rw [if_neg]
      intro e
      have := (okSp_spec hsp hi hjs hs').1 o ho (by rw [hdst, e]) (fun e' => by rw [e', hd] at hj; cases hj)
      rw [clos i j hd this] at hj
      cases hj
  have hlen : sp.length = ops.size := by
    unfold okSp at hsp
    simp only [Bool.and_eq_true, List.length_map, beq_iff_eq] at hsp
    exact hsp.1.1
  have spl : ∀ i s', sp[i]? = some s' → i < ops.size := fun i s' h => by
    rw [← hlen]; exact (List.getElem?_eq_some_iff.1 h).1
  have un' : ∀ t, (∀ i o', ops[i]? = some o' → o'.dst = some t → (i == j || done i) = false) → get (a.put o.dst v) t = get a0 t := by
    intro t ht
    have hne : o.dst ≠ some t := fun e => by have := ht j o ho e; simp at this
    rw [← hJ.un t (fun i o' hi hd => by have := ht i o' hi hd; simp at this; exact this.2)]
    cases hdst : o.dst with
    | none => rfl
    | some d =>
      have hlt := ((okOps_spec hok ho).2 d hdst).1
      rw [get_put a d t v (by rw [hJ.size]; exact hlt), if_neg (fun e => hne (by rw [hdst, e]))]
  have dn : ∀ k, (k == j || done k) = false → done k = false := fun k h => by simp at h; exact h.2
  have purR : (True → s.pur (get (a.put o.dst v) s.slot)) → ∀ (i : Nat) (s' : Spec N), sp[i]? = some s' → (i == j || done i) = true → s'.pur (get (a.put o.dst v) s'.slot) := by
    intro hp i s' hs' hd
    by_cases e : i = j
    · subst e
      rw [hs] at hs'; cases hs'
      exact hp trivial
    · have hd' : done i = true := by simpa [e] using hd
      rw [keep i s' hs' (spl i s' hs') hd']
      exact hJ.pur i s' hs' hd'
  unfold StepOk at hstep
  cases htag : s.tag with
  | none =>
    rw [htag] at hstep
    obtain ⟨he, hR⟩ := hstep
    have hzz : ∀ g, Zof τ w g → Zof τ w' g := fun g h => ⟨Nat.lt_of_lt_of_le h.1 he.size, h.2⟩
    refine ⟨τ, (defers_put _ _ _).trans hJ.defers, (size_put _ _ _).trans hJ.size, un', hJ.ext.trans (he.mono fun _ _ h => h.elim), fun k hk => hJ.big k (Nat.le_trans he.size hk), hJ.disj,
      fun t g h => ⟨(hJ.bnd t g h).1, Nat.lt_of_lt_of_le (hJ.bnd t g h).2 he.size⟩, ?_, ?_, ?_, purR (fun T => s.fit _ _ _ _ hR)⟩
    · intro i s' hs' ht' hd
      by_cases e : i = j
      · subst e
        rw [hs] at hs'; cases hs'
        exact hR
      · have hd' : done i = true := by simpa [e] using hd
        rw [keep i s' hs' (spl i s' hs') hd']
        exact s'.loc _ _ _ _ _ _ hzz (he.mono fun _ _ h => h.elim) (hJ.det i s' hs' ht' hd')
    · intro i s' t hs' ht' hd hcur
      have e : i ≠ j := fun e => by subst e; rw [hs] at hs'; cases hs'; rw [htag] at ht'; cases ht'
      have hd' : done i = true := by simpa [e] using hd
      rw [keep i s' hs' (spl i s' hs') hd']
      exact s'.loc _ _ _ _ _ _ hzz (he.mono fun _ _ h => h.elim) (hJ.res i s' t hs' ht' hd' (fun k s'' hk hlt hkt => dn k (hcur k s'' hk hlt hkt)))
    · intro t hcur
      exact (ini t).loc _ _ _ _ _ hzz (he.mono fun _ _ h => h.elim) (hJ.ini t (fun k s' hk hkt => dn k (hcur k s' hk hkt)))
  | some t0 =>
    rw [htag] at hstep
    obtain ⟨he, T', hT', hR⟩ := hstep
    have stab : ∀ t, t ≠ t0 → Ext (fun g => N g ∧ ¬ τ t g ∧ ¬ Zof τ w g) w w' := fun t hne => he.mono fun k _ h => ⟨(hJ.bnd t0 k h).1, fun h' => hne (hJ.disj t t0 k h' h), fun hz => hz.2 t0 h⟩
    have hzz : ∀ g, Zof τ w g → Zof (upd τ t0 T') w' g := fun g h => ⟨Nat.lt_of_lt_of_le h.1 he.size, fun t ht => by
      unfold upd at ht
      split at ht
      · rcases hT' g ht with h' | h'
        · exact h.2 t0 h'
        · have := h.1; omega
      · exact h.2 t ht⟩
    refine ⟨upd τ t0 T', (defers_put _ _ _).trans hJ.defers, (size_put _ _ _).trans hJ.size, un', hJ.ext.trans (he.mono fun k _ h => (hJ.bnd t0 k h).1), fun k hk => hJ.big k (Nat.le_trans he.size hk), ?_, ?_, ?_, ?_, ?_, purR (fun T => s.fit _ _ _ _ hR)⟩
    · intro s1 s2 g h1 h2
      by_cases e1 : s1 = t0 <;> by_cases e2 : s2 = t0
      · rw [e1, e2]
      · simp only [upd, e1, e2, if_true, if_false] at h1 h2
        rcases hT' g h1 with h | h
        · rw [e1]; exact hJ.disj t0 s2 g h h2
        · have := (hJ.bnd s2 g h2).2; omega
      · simp only [upd, e1, e2, if_true, if_false] at h1 h2
        rcases hT' g h2 with h | h
        · rw [e2]; exact hJ.disj s1 t0 g h1 h
        · have := (hJ.bnd s1 g h1).2; omega
      · simp only [upd, e1, e2, if_false] at h1 h2
        exact hJ.disj s1 s2 g h1 h2
    · intro t g h
      by_cases e : t = t0
      · simp only [upd, e, if_true] at h
        rcases hT' g h with h | h
        · exact ⟨(hJ.bnd t0 g h).1, Nat.lt_of_lt_of_le (hJ.bnd t0 g h).2 he.size⟩
        · exact ⟨hJ.big g h.1, h.2⟩
      · simp only [upd, e, if_false] at h
        exact ⟨(hJ.bnd t g h).1, Nat.lt_of_lt_of_le (hJ.bnd t g h).2 he.size⟩
    · intro i s' hs' ht' hd
      have e : i ≠ j := fun e => by subst e; rw [hs] at hs'; cases hs'; rw [htag] at ht'; cases ht'
      have hd' : done i = true := by simpa [e] using hd
      rw [keep i s' hs' (spl i s' hs') hd']
      exact s'.loc _ _ _ _ _ _ hzz (he.mono fun k _ h => ⟨(hJ.bnd t0 k h).1, fun x => x, fun hz => hz.2 t0 h⟩) (hJ.det i s' hs' ht' hd')
    · intro i s' t hs' ht' hd hcur
      by_cases e : i = j
      · subst e
        rw [hs] at hs'; cases hs'
        rw [htag] at ht'; cases ht'
        have e1 : upd τ t0 T' t0 = T' := by funext g; simp [upd]
        rw [e1]; exact hR
      · have hd' : done i = true := by simpa [e] using hd
        have hne : t ≠ t0 := by
          intro et
          subst et
          rcases Nat.lt_trichotomy i j with h | h | h
          · have := hcur j s hs h htag; simp at this
          · exact e h
          · have := (okSp_spec hsp hjs (spl i s' hs') hs).2 s' t h hs' htag ht'
            rw [clos i j hd' this] at hj; cases hj
        rw [keep i s' hs' (spl i s' hs') hd']
        have e1 : upd τ t0 T' t = τ t := by funext g; simp [upd, hne]
        rw [e1]
        exact s'.loc _ _ _ _ _ _ hzz (stab t hne) (hJ.res i s' t hs' ht' hd' (fun k s'' hk hlt hkt => dn k (hcur k s'' hk hlt hkt)))
    · intro t hcur
      have hne : t ≠ t0 := fun et => by have := hcur j s hs (by rw [htag, et]); simp at this
      have e1 : upd τ t0 T' t = τ t := by funext g; simp [upd, hne]
      rw [e1]
      exact (ini t).loc _ _ _ _ _ hzz (stab t hne) (hJ.ini t (fun k s' hk hkt => dn k (hcur k s' hk hkt)))
theorem wp_weaken {o : Oper} {a : Act} {w : World} {K K' : Act → World → Prop} {Q : Exit → Act → World → Prop} (h : ∀ a w, K a w → K' a w)
    (hh : o.wp P a w K (fun _ _ _ => False)) : o.wp P a w K' Q := by
  unfold Oper.wp at *
  generalize (execOp a.eval o).run P w = r at *
  cases r with
  | ok n w' =>
    cases n <;> simp only [Oper.upon] at hh ⊢ <;>
      first
        | exact h _ _ hh
        | exact Calls.mono hh (fun e w'' he => by
            cases e with
            | returned v => exact h _ _ he
            | panicked c => exact he.elim
            | outgrown => obtain ⟨_, _, h'⟩ := he; exact h'.elim)
        | exact Rows.mono hh (fun _ _ he => h _ _ he)
  | halt x w' => cases x <;> simp only [Oper.upon] at hh
theorem wpOp_of_Ob (hok : okOps ops a0.tmps.size = true) (hbf : okBf ops bf = true) (hsp : okSp ops bf (sp.map (·.slot)) (sp.map (·.tag)) = true)
    {Q : Exit → Act → World → Prop} {done : Nat → Bool} {a : Act} {w : World} {τ : Nat → Foot} {j : Nat} {o : Oper} {s : Spec N} {K : Act → World → Prop}
    (hJ : J ops sp ini a0 w0 done a w τ) (hc : Closed ops done) (hj : done j = false) (ho : ops[j]? = some o) (hs : sp[j]? = some s)
    (hpre : ∀ e ∈ o.after, Region.binds .any e = true → done e.on = true) (hob : Ob ops sp ini a0 w0 P bf j o s)
    (hK : ∀ a' w' τ', J ops sp ini a0 w0 (fun i => i == j || done i) a' w' τ' → K a' w') : wpOp P ops Q j K a w := by
  have p1 : ∀ i, (bf.getD j 0).testBit i = true → done i = true := pre_of_closed hok hbf hc j j (Nat.le_refl _) (fun o' ho' => by rw [ho] at ho'; cases ho'; exact hpre)
  have p2 : ∀ k, (bf.getD k 0).testBit j = true → done k = false := fun k hb => by
    cases hd : done k with
    | false => rfl
    | true =>
      have := pre_of_closed hok hbf hc k k (Nat.le_refl _) (fun o' ho' => hc k o' ho' hd) j hb
      rw [hj] at this; cases this
  obtain ⟨h1, h2⟩ := hob done a w τ ⟨hJ, hj, p1, p2, fun d hd => by rw [hJ.size]; exact ((okOps_spec hok ho).2 d hd).1⟩
  unfold wpOp
  rw [ho]
  simp only []
  by_cases hw : Region.wanted o (yielded ops a.tmps) = true
  · rw [if_pos hw]
    refine .inl (wp_weaken (fun a' w' hh => ?_) (h1 hw))
    obtain ⟨v, rfl, hstep⟩ := hh
    obtain ⟨τ', hJ'⟩ := hJ.step hok hbf hsp hc hj ho hs hstep
    exact hK _ _ _ hJ'
  · rw [if_neg hw]
    obtain ⟨τ', hJ'⟩ := hJ.step hok hbf hsp hc hj ho hs (h2 (by simpa using hw))
    exact hK _ _ _ hJ'
theorem ObList_get : ∀ {l : List Oper} {r : List (Spec N)} {k : Nat}, ObList ops sp ini a0 w0 P bf k l r → ∀ (i : Nat) (o : Oper) (s : Spec N), l[i]? = some o → r[i]? = some s → Ob ops sp ini a0 w0 P bf (k + i) o s
  | [], [], _, _, i, o, s, ho, _ => by simp at ho
  | o' :: l, s' :: r, k, h, 0, o, s, ho, hs => by
    simp at ho hs
    subst ho; subst hs
    exact h.1
  | o' :: l, s' :: r, k, h, i + 1, o, s, ho, hs => by
    have := ObList_get h.2 i o s (by simpa using ho) (by simpa using hs)
    rwa [show k + (i + 1) = k + 1 + i by omega]
theorem closed_add {done : Nat → Bool} {j : Nat} {o : Oper} (hc : Closed ops done) (ho : ops[j]? = some o) (hpre : ∀ e ∈ o.after, Region.binds .any e = true → done e.on = true) : Closed ops (fun i => i == j || done i) := by
  intro i o' hi hd e he hb
  show (e.on == j || done e.on) = true
  by_cases h : i = j
  · subst h
    rw [ho] at hi; cases hi
    simp [hpre e he hb]
  · have : done i = true := by simpa [h] using hd
    simp [hc i o' hi this e he hb]
theorem J_any (hok : okOps ops a0.tmps.size = true) (hbf : okBf ops bf = true) (hsp : okSp ops bf (sp.map (·.slot)) (sp.map (·.tag)) = true)
    {Q : Exit → Act → World → Prop} (obs : ∀ (j : Nat) (o : Oper) (s : Spec N), ops[j]? = some o → sp[j]? = some s → Ob ops sp ini a0 w0 P bf j o s)
    (fin : ∀ a w τ, J ops sp ini a0 w0 (fun _ => true) a w τ → Q .normal a w) : ∀ (fuel : Nat) (listed : Array Bool) (a : Act) (w : World) (τ : Nat → Foot),
      (List.range ops.size).countP (fun i => !listed.getD i true) ≤ fuel → listed.size = ops.size → J ops sp ini a0 w0 (fun i => listed.getD i true) a w τ → Closed ops (fun i => listed.getD i true) → wpAny P .any ops Q fuel listed a w := by
  have hlen : sp.length = ops.size := by
    unfold okSp at hsp
    simp only [Bool.and_eq_true, List.length_map, beq_iff_eq] at hsp
    exact hsp.1.1
  have allDone : ∀ (listed : Array Bool), listed.size = ops.size → Region.ready .any ops listed = [] → ∀ m i, i ≤ m → listed.getD i true = true := by
    intro listed hsz hr m
    induction m with
    | zero =>
      intro i hi
      by_cases hlt : i < ops.size
      · cases hg : listed.getD i true with
        | true => rfl
        | false =>
          exfalso
          have : i ∈ Region.ready .any ops listed := mem_ready.2 ⟨hg, ops[i], by simp [hlt], fun e he hb => by
            have := (okOps_spec hok (j := i) (o := ops[i]) (by simp [hlt])).1 e he hb; omega⟩
          rw [hr] at this; cases this
      · simp [Array.getD_eq_getD_getElem?, Array.getElem?_eq_none (show listed.size ≤ i by omega)]
    | succ m ih =>
      intro i hi
      by_cases hlt : i < ops.size
      · cases hg : listed.getD i true with
        | true => rfl
        | false =>
          exfalso
          have : i ∈ Region.ready .any ops listed := mem_ready.2 ⟨hg, ops[i], by simp [hlt], fun e he hb => by
            have h1 := (okOps_spec hok (j := i) (o := ops[i]) (by simp [hlt])).1 e he hb
            have h2 := ih e.on (by omega)
            rw [Array.getD_eq_getD_getElem?] at h2 ⊢
            have h3 : e.on < listed.size := by omega
            simpa [Array.getElem?_eq_getElem h3] using h2⟩
          rw [hr] at this; cases this
      · simp [Array.getD_eq_getD_getElem?, Array.getElem?_eq_none (show listed.size ≤ i by omega)]
  have finish : ∀ (listed : Array Bool) (a : Act) (w : World) (τ : Nat → Foot), listed.size = ops.size → Region.ready .any ops listed = [] → J ops sp ini a0 w0 (fun i => listed.getD i true) a w τ → Q .normal a w := by
    intro listed a w τ hsz hr hJ
    refine fin a w τ ?_
    rwa [show (fun i => listed.getD i true) = (fun _ => true) from funext fun i => allDone listed hsz hr i i (Nat.le_refl _)] at hJ
  intro fuel
  induction fuel with
  | zero =>
    intro listed a w τ hcount hsz hJ hc
    have hr : Region.ready .any ops listed = [] := by
      cases hrr : Region.ready .any ops listed with
      | nil => rfl
      | cons x xs =>
        exfalso
        have hx : x ∈ Region.ready .any ops listed := by rw [hrr]; exact List.mem_cons_self
        obtain ⟨h1, o, ho, _⟩ := mem_ready.1 hx
        have hpos : 0 < (List.range ops.size).countP (fun i => !listed.getD i true) :=
          List.countP_pos_iff.2 ⟨x, by simpa using (Array.getElem?_eq_some_iff.1 ho).1, by simp only [h1, Bool.not_false]⟩
        omega
    exact ⟨hr, finish listed a w τ hsz hr hJ⟩
  | succ fuel ih =>
    intro listed a w τ hcount hsz hJ hc
    refine ⟨fun hr => finish listed a w τ hsz hr hJ, fun j hjr => ?_⟩
    obtain ⟨hj, o, ho, hpre⟩ := mem_ready.1 hjr
    have hjs : j < ops.size := (Array.getElem?_eq_some_iff.1 ho).1
    have hpre' : ∀ e ∈ o.after, Region.binds .any e = true → listed.getD e.on true = true := fun e he hb => by
      have h1 := hpre e he hb
      have h2 := (okOps_spec hok ho).1 e he hb
      rw [Array.getD_eq_getD_getElem?] at h1 ⊢
      have h3 : e.on < listed.size := by omega
      simpa [Array.getElem?_eq_getElem h3] using h1
    have hset : (fun i => (listed.setIfInBounds j true).getD i true) = (fun i => i == j || listed.getD i true) := by
      funext i
      simp only [Array.getD_eq_getD_getElem?, Array.getElem?_setIfInBounds]
      by_cases h : j = i
      · subst h; simp [hsz, hjs]
      · have : (i == j) = false := by simp; exact fun e => h e.symm
        simp [h, this]
    refine wpOp_of_Ob hok hbf hsp hJ hc hj ho (s := sp[j]'(by omega)) (by simp [hlen, hjs]) hpre' (obs j o _ ho (by simp [hlen, hjs])) ?_
    intro a' w' τ' hJ'
    refine ih _ a' w' τ' ?_ (by simpa using hsz) (by rw [hset]; exact hJ') (by rw [hset]; exact closed_add hc ho hpre')
    have hlt : (List.range ops.size).countP (fun i => !(listed.setIfInBounds j true).getD i true) < (List.range ops.size).countP (fun i => !listed.getD i true) := by
      have e1 : (fun i => !(listed.setIfInBounds j true).getD i true) = (fun i => !(i == j || listed.getD i true)) := by
        funext i; rw [congrFun hset i]
      rw [e1]
      have hjm : j ∈ List.range ops.size := by simpa using hjs
      generalize List.range ops.size = l at hjm
      clear hcount ih
      induction l with
      | nil => cases hjm
      | cons x l ihl =>
        simp only [List.countP_cons]
        have hle : l.countP (fun i => !(i == j || listed.getD i true)) ≤ l.countP (fun i => !listed.getD i true) :=
          List.countP_mono_left fun y _ hy => by
            simp only [Bool.not_eq_true', Bool.or_eq_false_iff] at hy ⊢; exact hy.2
        by_cases hx : x = j
        · subst hx
          simp only [beq_self_eq_true, Bool.true_or, Bool.not_true, hj, Bool.not_false, if_true]
          simp only [Bool.false_eq_true, if_false]
          omega
        · have hjl : j ∈ l := by
            rcases List.mem_cons.1 hjm with h | h
            · exact absurd h.symm hx
            · exact h
          have := ihl hjl
          have hb : (x == j) = false := by simp [hx]
          simp only [hb, Bool.false_or]
          split <;> omega
    omega
theorem J_range (hok : okOps ops a0.tmps.size = true) (hbf : okBf ops bf = true) (hsp : okSp ops bf (sp.map (·.slot)) (sp.map (·.tag)) = true)
    {Q : Exit → Act → World → Prop} (obs : ∀ (j : Nat) (o : Oper) (s : Spec N), ops[j]? = some o → sp[j]? = some s → Ob ops sp ini a0 w0 P bf j o s)
    (fin : ∀ a w τ, J ops sp ini a0 w0 (fun i => decide (i < ops.size)) a w τ → Q .normal a w) : ∀ (m k : Nat) (a : Act) (w : World) (τ : Nat → Foot), m + k = ops.size → J ops sp ini a0 w0 (fun i => decide (i < k)) a w τ → wpOps P ops Q (List.range' k m) a w := by
  have hlen : sp.length = ops.size := by
    unfold okSp at hsp
    simp only [Bool.and_eq_true, List.length_map, beq_iff_eq] at hsp
    exact hsp.1.1
  intro m
  induction m with
  | zero =>
    intro k a w τ hk hJ
    simp only [List.range'_zero, wpOps]
    exact fin a w τ (by rwa [show ops.size = k by omega])
  | succ m ih =>
    intro k a w τ hk hJ
    have hks : k < ops.size := by omega
    rw [List.range'_succ, wpOps_cons]
    have ho : ops[k]? = some ops[k] := by simp [hks]
    have hpre : ∀ e ∈ ops[k].after, Region.binds .any e = true → decide (e.on < k) = true := fun e he hb => by simpa using (okOps_spec hok ho).1 e he hb
    have hc : Closed ops (fun i => decide (i < k)) := fun i o' hi hd e he hb => by
      have := (okOps_spec hok hi).1 e he hb
      simp only [decide_eq_true_eq] at hd ⊢; omega
    refine wpOp_of_Ob hok hbf hsp hJ hc (by simp) ho (s := sp[k]'(by omega)) (by simp [hlen, hks]) hpre (obs k _ _ ho (by simp [hlen, hks])) ?_
    intro a' w' τ' hJ'
    refine ih (k + 1) a' w' τ' (by omega) ?_
    rwa [show (fun i => decide (i < k + 1)) = (fun i => i == k || decide (i < k)) from funext fun i => by
      rw [Bool.eq_iff_iff]; simp; omega]
theorem J.start {τ : Nat → Foot} (hb : ∀ k, w0.heap.size ≤ k → N k) (hdis : ∀ s t g, τ s g → τ t g → s = t) (hbnd : ∀ t g, τ t g → N g ∧ g < w0.heap.size)
    (hini : ∀ t, (ini t).I (Zof τ w0) (τ t) w0) {w : World} (hw : w = w0 ∨ w = w0.drew) {done : Nat → Bool} (hd : ∀ i, i < sp.length → done i = false) : J ops sp ini a0 w0 done a0 w τ := by
  have hx : Ext N w0 w0 := Ext.refl _ _
  have no : ∀ (j : Nat) (s : Spec N), sp[j]? = some s → done j = true → False := fun j s hs hd' => by
    rw [hd j (List.getElem?_eq_some_iff.1 hs).1] at hd'; cases hd'
  rcases hw with rfl | rfl
  · exact ⟨rfl, rfl, fun _ _ => rfl, hx, hb, hdis, hbnd, fun j s hs _ h => (no j s hs h).elim, fun j s _ hs _ h => (no j s hs h).elim, fun t _ => hini t, fun j s hs h => (no j s hs h).elim⟩
  · exact ⟨rfl, rfl, fun _ _ => rfl, hx.drew, hb, hdis, hbnd, fun j s hs _ h => (no j s hs h).elim, fun j s _ hs _ h => (no j s hs h).elim, fun t _ => (ini t).loc _ _ _ _ _ (fun _ h => h) (Ext.refl _ _).drew (hini t), fun j s hs h => (no j s hs h).elim⟩
end
section
variable {N : Foot} {P : Program} {l : List Oper} {sp : List (Spec N)} {ini : Nat → Ini N} {a0 : Act} {w0 : World} {bf : List Nat}
theorem region_J {id : Nat} {draw : Bool} (hm : P.follows .mixedOrders = true) (hok : (okOps l.toArray a0.tmps.size && okBf l.toArray bf && okSp l.toArray bf (sp.map (·.slot)) (sp.map (·.tag))) = true)
    {Q : Exit → Act → World → Prop} {τ : Nat → Foot} (hb : ∀ k, w0.heap.size ≤ k → N k) (hdis : ∀ s t g, τ s g → τ t g → s = t) (hbnd : ∀ t g, τ t g → N g ∧ g < w0.heap.size) (hini : ∀ t, (ini t).I (Zof τ w0) (τ t) w0)
    (obs : ObList l.toArray sp ini a0 w0 P bf 0 l sp)
    (fin : ∀ done a w τ, (∀ i, i < l.length → done i = true) → J l.toArray sp ini a0 w0 done a w τ → Q .normal a w) : (Code.region id l.toArray draw).wp P Q a0 w0 := by
  rw [Bool.and_eq_true, Bool.and_eq_true] at hok
  obtain ⟨⟨h1, h2⟩, h3⟩ := hok
  have obs' : ∀ (j : Nat) (o : Oper) (s : Spec N), l.toArray[j]? = some o → sp[j]? = some s → Ob l.toArray sp ini a0 w0 P bf j o s := fun j o s ho hs => by
    have := ObList_get obs j o s (by simpa using ho) hs
    rwa [Nat.zero_add] at this
  cases draw with
  | true =>
    refine wp_region_any hm ?_
    refine J_any h1 h2 h3 obs' (fun a w τ hJ => fin _ a w τ (fun _ _ => rfl) hJ) l.toArray.size _ a0 _ τ ?_ (by simp) ?_ ?_
    · have := List.countP_le_length (p := fun i => !(Array.replicate l.toArray.size false).getD i true) (l := List.range l.toArray.size)
      simpa using this
    · refine J.start hb hdis hbnd hini (.inr rfl) fun i hi => ?_
      unfold okSp at h3
      simp only [Bool.and_eq_true, List.length_map, beq_iff_eq] at h3
      have : i < l.length := by have := h3.1.1; simp at this; omega
      simp [Array.getD_eq_getD_getElem?, this]
    · intro j o ho hd
      have hlt : j < l.length := by simpa using (Array.getElem?_eq_some_iff.1 ho).1
      simp [Array.getD_eq_getD_getElem?, hlt] at hd
  | false =>
    refine wp_region ?_
    rw [List.range_eq_range']
    refine J_range h1 h2 h3 obs' (fun a w τ hJ => fin _ a w τ (fun i hi => by simpa using hi) hJ) l.toArray.size 0 a0 w0 τ rfl ?_
    exact J.start hb hdis hbnd hini (.inl rfl) fun i _ => by simp
end
end B
end Go.Proofs.Ytocmchlhbniloaa
namespace Go.Proofs.Ytocmchlhbniloaa
namespace B
open Go.RowKit
def Runs (P : Program) (a : Act) (o : Oper) (w : World) (v : Value) : Prop := (execOp a.eval o).run P w = .ok (.value v) w
def ptrOf : Value → Addr
  | .slice (some a) _ _ => a
  | .pointer (some a) => a
  | _ => ⟨0, 0, none⟩
def IsSl (v : Value) (n : Nat) : Prop := (v = .slice none 0 0 ∧ n = 0) ∨ ∃ b cap, v = .slice (some b) n cap ∧ n ≤ cap ∧ cap ≤ maxLen
section
variable {P : Program} {a : Act} {o : Oper} {w : World}
theorem r_move {x : Operand} {v : Value} (ho : o.op = .move x) (h : a.eval x = v) : Runs P a o w v := by
  subst h; simp [Runs, execOp, ho]
theorem r_assign {x : Operand} {v : Value} (ho : o.op = .assign x) (h : a.eval x = v) : Runs P a o w v := by
  subst h; simp [Runs, execOp, ho]
theorem r_pick {c x y : Operand} {b : Bool} {v : Value} (ho : o.op = .pick c x y) (hc : a.eval c = .bool b) (h1 : b = true → a.eval x = v) (h2 : b = false → a.eval y = v) : Runs P a o w v := by
  cases b
  · simp [Runs, execOp, ho, hc, asBool, h2]
  · simp [Runs, execOp, ho, hc, asBool, h1]
theorem r_and {c x : Operand} {b b' : Bool} (ho : o.op = .pick c x (.const (.bool false))) (hc : a.eval c = .bool b) (h1 : b = true → a.eval x = .bool b') : Runs P a o w (.bool (b && b')) :=
  r_pick ho hc (fun h => by rw [h1 h, h, Bool.true_and]) (fun h => by rw [h, Bool.false_and]; rfl)
theorem r_or {c x : Operand} {b b' : Bool} (ho : o.op = .pick c (.const (.bool true)) x) (hc : a.eval c = .bool b) (h1 : b = false → a.eval x = .bool b') : Runs P a o w (.bool (b || b')) :=
  r_pick ho hc (fun h => by rw [h, Bool.true_or]; rfl) (fun h => by rw [h1 h, h, Bool.false_or])
section ints
variable {t t' : TypeId} {x y : Operand} {k : IntKind} {p q : Int}
theorem r_lss (ho : o.op = .binOp .lss t x y t') (hx : a.eval x = .int k p) (hy : a.eval y = .int k q) : Runs P a o w (.bool (decide (p < q))) := by
  simp [Runs, execOp, ho, hx, hy, eqGuard, binOp, Op.intCmp]
theorem r_leq (ho : o.op = .binOp .leq t x y t') (hx : a.eval x = .int k p) (hy : a.eval y = .int k q) : Runs P a o w (.bool (decide (p ≤ q))) := by
  simp [Runs, execOp, ho, hx, hy, eqGuard, binOp, Op.intCmp]
theorem r_gtr (ho : o.op = .binOp .gtr t x y t') (hx : a.eval x = .int k p) (hy : a.eval y = .int k q) : Runs P a o w (.bool (decide (q < p))) := by
  simp [Runs, execOp, ho, hx, hy, eqGuard, binOp, Op.intCmp]
theorem r_geq (ho : o.op = .binOp .geq t x y t') (hx : a.eval x = .int k p) (hy : a.eval y = .int k q) : Runs P a o w (.bool (decide (q ≤ p))) := by
  simp [Runs, execOp, ho, hx, hy, eqGuard, binOp, Op.intCmp]
theorem r_eql (ho : o.op = .binOp .eql t x y t') (hx : a.eval x = .int k p) (hy : a.eval y = .int k q) : Runs P a o w (.bool (decide (p = q))) := by
  have : (p == q) = decide (p = q) := rfl
  simp [Runs, execOp, ho, hx, hy, eqGuard, binOp, Op.intCmp, this]
theorem r_neq (ho : o.op = .binOp .neq t x y t') (hx : a.eval x = .int k p) (hy : a.eval y = .int k q) : Runs P a o w (.bool (!decide (p = q))) := by
  have : (p != q) = !decide (p = q) := rfl
  simp [Runs, execOp, ho, hx, hy, eqGuard, binOp, Op.intCmp, this]
theorem r_add (ho : o.op = .binOp .add t x y t') (hx : a.eval x = .int .i64 p) (hy : a.eval y = .int .i64 q) (hb : -9223372036854775808 ≤ p + q ∧ p + q ≤ 9223372036854775807) : Runs P a o w (.int .i64 (p + q)) := by
  simp [Runs, execOp, ho, hx, hy, eqGuard, binOp, Op.intArith]
  rw [IntWalk.i64_in _ hb]
theorem r_sub (ho : o.op = .binOp .sub t x y t') (hx : a.eval x = .int .i64 p) (hy : a.eval y = .int .i64 q) (hb : -9223372036854775808 ≤ p - q ∧ p - q ≤ 9223372036854775807) : Runs P a o w (.int .i64 (p - q)) := by
  simp [Runs, execOp, ho, hx, hy, eqGuard, binOp, Op.intArith]
  rw [IntWalk.i64_in _ hb]
theorem r_mul (ho : o.op = .binOp .mul t x y t') (hx : a.eval x = .int .i64 p) (hy : a.eval y = .int .i64 q) (hb : -9223372036854775808 ≤ p * q ∧ p * q ≤ 9223372036854775807) : Runs P a o w (.int .i64 (p * q)) := by
  simp [Runs, execOp, ho, hx, hy, eqGuard, binOp, Op.intArith]
  rw [IntWalk.i64_in _ hb]
theorem r_addW (ho : o.op = .binOp .add t x y t') (hx : a.eval x = .int k p) (hy : a.eval y = .int k q) : Runs P a o w (.int k (k.wrap (p + q))) := by
  simp [Runs, execOp, ho, hx, hy, eqGuard, binOp, Op.intArith]
theorem r_subW (ho : o.op = .binOp .sub t x y t') (hx : a.eval x = .int k p) (hy : a.eval y = .int k q) : Runs P a o w (.int k (k.wrap (p - q))) := by
  simp [Runs, execOp, ho, hx, hy, eqGuard, binOp, Op.intArith]
theorem r_rem (ho : o.op = .binOp .rem t x y t') (hx : a.eval x = .int k p) (hy : a.eval y = .int k q) (hq : q ≠ 0) : Runs P a o w (.int k (p.tmod q)) := by
  simp [Runs, execOp, ho, hx, hy, eqGuard, binOp, Op.intDiv, hq]
theorem r_conv {src dst : TypeId} {ks kd : IntKind} (ho : o.op = .convert src dst x) (hs : P.underlying src = some (.int ks)) (hd : P.underlying dst = some (.int kd)) (hx : a.eval x = .int k p) : Runs P a o w (.int kd (kd.wrap p)) := by
  simp [Runs, execOp, ho, hx, convert, run_underlying hs, run_underlying hd, Conv.intToInt]
theorem r_not {b : Bool} (ho : o.op = .unOp .not t x) (hx : a.eval x = .bool b) : Runs P a o w (.bool (!b)) := by
  simp [Runs, execOp, ho, hx, Op.unary]
theorem eq_bool {b c : Bool} (ht : P.underlying t = some .bool) (d : Nat) : (Op.equalIn (d + 1) t (.bool b) (.bool c)).run P w = .ok (b == c) w := by
  simp [Op.equalIn, run_underlying ht]
theorem r_beql {b c : Bool} (ho : o.op = .binOp .eql t x y t') (ht : P.underlying t = some .bool) (hx : a.eval x = .bool b) (hy : a.eval y = .bool c) : Runs P a o w (.bool (b == c)) := by
  have h := eq_bool (P := P) (w := w) (b := b) (c := c) ht 9999
  simp [Runs, execOp, ho, hx, hy, eqGuard, binOp, Op.equal, Op.maxDepth, h]
theorem r_max (hc : o.op = .call { callee := .builtin .max, args := #[x, y], argTypes := #[t, t'] }) (hx : a.eval x = .int k p) (hy : a.eval y = .int k q) : Runs P a o w (.int k (max p q)) := by
  have e : (if q > p then q else p) = max p q := by omega
  simp [Runs, execOp, hc, resolve, invoke, builtin, Builtin.max_, Builtin.max2, hx, hy]
  exact e
end ints
section memory
variable {t e : TypeId} {x y : Operand} {p : Addr}
theorem r_fieldAddr {f off : Nat} {fs : Array Field} {fd : Field} {m : Nat} (ho : o.op = .fieldAddr t x f) (ht : P.underlying t = some (.struct fs)) (hf : fs[f]? = some fd) (hoff : fd.offset = off) (hz : ∀ w, (sizeOf fd.type).run P w = .ok (m + 1) w) (hx : a.eval x = .pointer (some p)) :
    Runs P a o w (.pointer (some (p.add off))) := by
  subst hoff
  simp [Runs, execOp, ho, hx, Instr.fieldAt, run_underlying ht, hf, Instr.sureAddr, fieldPlace, hz]
theorem r_indexAddr {k : IntKind} {i : Int} {v : Value} {n m : Nat} (ho : o.op = .indexAddr t x y) (ht : P.underlying t = some (.slice e)) (hz : ∀ w, (sizeOf e).run P w = .ok m w) (hx : a.eval x = v) (hv : IsSl v n) (hy : a.eval y = .int k i) (h0 : 0 ≤ i) (h1 : i < n) :
    Runs P a o w (.pointer (some ((ptrOf v).add (i.toNat * m)))) := by
  rcases hv with ⟨_, rfl⟩ | ⟨b, cap, rfl, _⟩
  · omega
  · simp [Runs, execOp, ho, hx, hy, Instr.indexAt, run_underlying ht, hz, asIntOf, h0, h1, ptrOf]
theorem r_load1 {v : Value} (ho : o.op = .load t x) (hz : ∀ w, (isAgg t).run P w = .ok false w) (hx : a.eval x = .pointer (some p)) (hc : w.cell? p = some v) : Runs P a o w v := by
  simp [Runs, execOp, ho, hx, Instr.loadAt, Instr.sureAddr, loadVar, hz, load, Sem.run, hc]
theorem run_loadCellsFrom (vs : List Value) : ∀ (p : Addr) (i : Nat) (acc : Array Value), (∀ j u, vs[j]? = some u → w.cell? (p.add (i + j)) = some u) →
    (loadCellsFrom p i vs.length acc).run P w = .ok (acc ++ vs.toArray) w := by
  induction vs with
  | nil => intro p i acc _; simp [loadCellsFrom]
  | cons v vs ih =>
    intro p i acc h
    have h0 := h 0 v rfl
    rw [Nat.add_zero] at h0
    simp only [List.length_cons, loadCellsFrom]
    simp only [load, Sem.run_bind, Sem.run, h0, Result.andThen_ok]
    rw [ih p (i + 1) (acc.push v) (fun j u hj => by rw [show i + 1 + j = i + (j + 1) by omega]; exact h (j + 1) u (by simpa using hj))]
    simp
theorem r_loadN {vs : List Value} {m : Nat} (ho : o.op = .load t x) (hz : ∀ w, (isAgg t).run P w = .ok true w) (hm : ∀ w, (sizeOf t).run P w = .ok m w) (hx : a.eval x = .pointer (some p)) (hl : vs.length = m)
    (hc : ∀ j u, vs[j]? = some u → w.cell? (p.add j) = some u) : Runs P a o w (.agg vs.toArray) := by
  subst hl
  simp only [Runs, execOp, ho, hx, Instr.loadAt, Instr.sureAddr, loadVar, Sem.run_bind, Sem.run_pure, Result.andThen_ok, hz, if_true, hm, loadCells]
  rw [run_loadCellsFrom vs p 0 #[] (fun j u hj => by rw [Nat.zero_add]; exact hc j u hj)]
  simp
theorem r_len {v : Value} {n : Nat} (hc : o.op = .call { callee := .builtin .len, args := #[x], argTypes := #[t] }) (ht : P.underlying t = some (.slice e)) (hx : a.eval x = v) (hv : IsSl v n) : Runs P a o w (.int .i64 n) := by
  rcases hv with ⟨rfl, rfl⟩ | ⟨b, cap, rfl, _⟩
  · simp [Runs, execOp, hc, resolve, invoke, builtin, Builtin.len_, hx, run_underlying ht, goInt]
  · simp [Runs, execOp, hc, resolve, invoke, builtin, Builtin.len_, hx, run_underlying ht, goInt]
theorem r_lenS {s : ByteArray} (hc : o.op = .call { callee := .builtin .len, args := #[x], argTypes := #[t] }) (ht : P.underlying t = some .string) (hx : a.eval x = .string s) : Runs P a o w (.int .i64 s.size) := by
  simp [Runs, execOp, hc, resolve, invoke, builtin, Builtin.len_, hx, run_underlying ht, goInt]
theorem r_extract {vs : Array Value} {i : Nat} {v : Value} (ho : o.op = .extract x i) (hx : a.eval x = .tuple vs) (hi : vs[i]? = some v) : Runs P a o w v := by
  simp [Runs, execOp, ho, hx, Instr.extract, hi]
theorem r_build {parts : Array (Nat × Operand)} {fs : Array Field} {z : Value} {pl : Array (Nat × Nat)} {cells : Array Value} (ho : o.op = .build t parts) (ht : P.underlying t = some (.struct fs)) (hz : ∀ w, (zeroValue t).run P w = .ok z w)
    (hp : ∀ w, (fs.mapM fun f => (do pure (f.offset, ← sizeOf f.type) : Sem (Nat × Nat))).run P w = .ok pl w) (hf : Instr.fill (pl[·]?) z.cells (parts.map fun (i, x) => (i, a.eval x)).toList = some cells) : Runs P a o w (.agg cells) := by
  simp only [Runs, execOp, ho, Instr.build, Sem.run_bind, hz, Result.andThen_ok, run_underlying ht, hp, hf]
  rfl
end memory
end
end B
end Go.Proofs.Ytocmchlhbniloaa
namespace Go.Proofs.Ytocmchlhbniloaa
namespace B
open Go.RowKit
structure Enc (α : Type) where
  cells : α → List Value
  sz : Nat
  pos : 0 < sz
  len : ∀ x, (cells x).length = sz
  one : ∀ x u, u ∈ cells x → u.oneCell' = true
section lists
variable {α : Type}
def Enc.row (E : Enc α) (xs : List α) : List Value := xs.flatMap E.cells
theorem Enc.row_length (E : Enc α) (xs : List α) : (E.row xs).length = xs.length * E.sz := by
  induction xs with
  | nil => simp [Enc.row]
  | cons x xs ih =>
    simp only [Enc.row, List.flatMap_cons, List.length_append, E.len, List.length_cons] at ih ⊢
    rw [ih, Nat.add_mul]; omega
theorem Enc.row_append (E : Enc α) (xs ys : List α) : E.row (xs ++ ys) = E.row xs ++ E.row ys := by
  simp [Enc.row]
theorem Enc.row_get (E : Enc α) {xs : List α} {i j : Nat} {x : α} (hx : xs[i]? = some x) (hj : j < E.sz) : (E.row xs)[i * E.sz + j]? = (E.cells x)[j]? := by
  induction xs generalizing i with
  | nil => simp at hx
  | cons y ys ih =>
    have e : E.row (y :: ys) = E.cells y ++ E.row ys := by simp [Enc.row]
    rw [e]
    cases i with
    | zero =>
      simp at hx; subst hx
      rw [List.getElem?_append_left (by rw [E.len]; omega)]
      congr 1; omega
    | succ i =>
      rw [List.getElem?_append_right (by rw [E.len, Nat.add_mul]; omega), E.len]
      rw [show (i + 1) * E.sz + j - E.sz = i * E.sz + j by rw [Nat.add_mul]; omega]
      exact ih (by simpa using hx)
theorem Enc.row_one (E : Enc α) {xs : List α} : ∀ u ∈ E.row xs, u.oneCell' = true := by
  intro u hu
  simp only [Enc.row, List.mem_flatMap] at hu
  obtain ⟨x, _, h⟩ := hu
  exact E.one x u h
end lists
section mem
variable {α : Type} {E : Enc α} {w w' : World} {v : Value} {xs : List α}
theorem IsSl.le {v : Value} {n : Nat} (h : IsSl v n) : n ≤ maxLen := by
  rcases h with ⟨_, rfl⟩ | ⟨b, cap, _, h1, h2⟩
  · exact Nat.zero_le _
  · omega
structure SlT (E : Enc α) (w : World) (v : Value) (xs : List α) : Prop where
  sl : IsSl v xs.length
  cell : ∀ j u, (E.row xs)[j]? = some u → w.cell? ((ptrOf v).add j) = some u
theorem SlT.nil (E : Enc α) (w : World) : SlT E w (.slice none 0 0) ([] : List α) := ⟨.inl ⟨rfl, rfl⟩, fun j u h => by simp [Enc.row] at h⟩
theorem addr_block (p : Addr) (j : Nat) : (p.add j).block = p.block := by unfold Addr.add; split <;> rfl
theorem add_add (p : Addr) (i j : Nat) : (p.add i).add j = p.add (i + j) := Deep.add_add p i j
theorem SlT.elem (h : SlT E w v xs) {i j : Nat} {x : α} {u : Value} (hx : xs[i]? = some x) (hu : (E.cells x)[j]? = some u) : w.cell? (((ptrOf v).add (i * E.sz)).add j) = some u := by
  rw [add_add]
  have hj : j < E.sz := by rw [← E.len x]; exact (List.getElem?_eq_some_iff.1 hu).1
  exact h.cell _ u (by rw [E.row_get hx hj]; exact hu)
theorem SlT.lt (h : SlT E w v xs) (hne : xs ≠ []) : (ptrOf v).block < w.heap.size := by
  obtain ⟨x, hx⟩ : ∃ x, xs[0]? = some x := by cases xs with | nil => exact absurd rfl hne | cons x _ => exact ⟨x, rfl⟩
  obtain ⟨u, hu⟩ : ∃ u, (E.cells x)[0]? = some u := ⟨(E.cells x)[0]'(by rw [E.len]; exact E.pos), by simp⟩
  have := World.block_lt_of_cell? w _ (h.elem hx hu)
  rwa [addr_block, addr_block] at this
theorem SlT.keep {M : Nat → Prop} (h : SlT E w v xs) (he : Ext M w w') (hm : xs ≠ [] → ¬ M (ptrOf v).block) : SlT E w' v xs := by
  refine ⟨h.sl, fun j u hj => ?_⟩
  have hne : xs ≠ [] := fun e => by subst e; simp [Enc.row] at hj
  exact he.cell_some (h.cell j u hj) (by rw [addr_block]; exact hm hne)
def OwnT (E : Enc α) (ty : Nat) (w : World) (v : Value) (xs : List α) : Prop := w.ownsRow 0 ty E.sz v xs.length (E.row xs)
variable {ty : Nat}
theorem OwnT.nil (E : Enc α) (ty : Nat) (w : World) : OwnT E ty w (.slice none 0 0) ([] : List α) := World.ownsRow_nil w 0 ty E.sz
theorem OwnT.sl (h : OwnT E ty w v xs) : SlT E w v xs := by
  refine ⟨?_, fun j u hj => ?_⟩
  · rcases h.2 with ⟨h1, h2⟩ | ⟨g, cap, cur, hv, _, _, h3, h4, _⟩
    · exact .inl ⟨h1, h2⟩
    · exact .inr ⟨_, cap, hv, h3, h4⟩
  · rcases h.2 with ⟨h1, h2⟩ | ⟨g, cap, cur, hv, hb, hg, h3, h4, h5, h6⟩
    · have : xs = [] := List.eq_nil_of_length_eq_zero h2
      subst this; simp [Enc.row] at hj
    · have := World.ownsRow.cells h (g := g) (by rw [hv]; rfl) j u hj
      rw [hv]
      exact this
theorem OwnT.keep {M : Nat → Prop} (h : OwnT E ty w v xs) (he : Ext M w w') (hm : ∀ g, v.ownBlock = some g → ¬ M g) : OwnT E ty w' v xs := by
  refine ⟨h.1, ?_⟩
  rcases h.2 with h | ⟨g, cap, cur, hv, hb, hg, r⟩
  · exact .inl h
  · exact .inr ⟨g, cap, cur, hv, hb, by rw [he.block g (Array.getElem?_eq_some_iff.1 hg).1 (hm g (by rw [hv]; rfl))]; exact hg, r⟩
theorem OwnT.lt (h : OwnT E ty w v xs) : ∀ g, v.ownBlock = some g → g < w.heap.size := fun g hg => (World.ownsRow.lt h g hg).2
theorem OwnT.le (h : OwnT E ty w v xs) : xs.length ≤ maxLen := h.sl.sl.le
end mem
section specs
variable {N : Foot}
def det (N : Foot) (t : Nat) (v : Value) : Spec N := ⟨none, t, fun _ _ u _ => u = v, fun _ _ _ _ _ _ _ _ h => h, fun _ => True, fun _ _ _ _ _ => trivial⟩
def gdet (N : Foot) (t : Nat) (pc : Prop) (v : Value) : Spec N := ⟨none, t, fun _ _ u _ => (pc → u = v) ∧ (¬ pc → u = undef), fun _ _ _ _ _ _ _ _ h => h, fun _ => True, fun _ _ _ _ _ => trivial⟩
def ownR {α : Type} (E : Enc α) (ty : Nat) (xs : List α) (T : Foot) (v : Value) (w : World) : Prop := OwnT E ty w v xs ∧ ∀ g, v.ownBlock = some g → T g
theorem ownR_loc {N : Foot} {α : Type} {E : Enc α} {ty : Nat} {xs : List α} (T : Foot) (v : Value) (w w' : World) (h : Ext (fun g => N g ∧ ¬ T g) w w') (hr : ownR E ty xs T v w) : ownR E ty xs T v w' :=
  ⟨hr.1.keep h fun g hg hn => hn.2 (hr.2 g hg), hr.2⟩
def own {α : Type} (E : Enc α) (ty : Nat) (N : Foot) (tag t : Nat) (xs : List α) : Spec N := ⟨some tag, t, fun _ => ownR E ty xs, fun _ _ T v w w' _ h hr => ownR_loc T v w w' h.less hr, fun _ => True, fun _ _ _ _ _ => trivial⟩
def iown {α : Type} (E : Enc α) (ty : Nat) (N : Foot) (v : Value) (xs : List α) : Ini N := ⟨fun _ T w => ownR E ty xs T v w, fun _ _ T w w' _ h => ownR_loc T v w w' h.less⟩
def boxR (ty : Nat) (cells : List Value) (T : Foot) (v : Value) (w : World) : Prop := ∃ g, v = .pointer (some ⟨g, 0, none⟩) ∧ g < w.heap.size ∧ T g ∧ w.heap[g]? = some (.cells cells.toArray ty (0, 0))
theorem boxR_loc {N : Foot} {ty : Nat} {cells : List Value} (T : Foot) (v : Value) (w w' : World) (h : Ext (fun g => N g ∧ ¬ T g) w w') (hr : boxR ty cells T v w) : boxR ty cells T v w' := by
  obtain ⟨g, hv, hlt, hT, hg⟩ := hr
  exact ⟨g, hv, Nat.lt_of_lt_of_le hlt h.size, hT, by rw [h.block g hlt (fun hn => hn.2 hT)]; exact hg⟩
def box (ty : Nat) (N : Foot) (tag t : Nat) (cells : List Value) : Spec N := ⟨some tag, t, fun _ => boxR ty cells, fun _ _ T v w w' _ h hr => boxR_loc T v w w' h.less hr, fun _ => True, fun _ _ _ _ _ => trivial⟩
def ibox (ty : Nat) (N : Foot) (v : Value) (cells : List Value) : Ini N := ⟨fun _ T w => boxR ty cells T v w, fun _ _ T w w' _ h => boxR_loc T v w w' h.less⟩
theorem boxR.cell {ty : Nat} {cells : List Value} {T : Foot} {v : Value} {w : World} (h : boxR ty cells T v w) {j : Nat} {u : Value} (hu : cells[j]? = some u) : w.cell? ((ptrOf v).add j) = some u := by
  obtain ⟨g, rfl, _, _, hg⟩ := h
  simp only [ptrOf]
  have : ((⟨g, 0, none⟩ : Addr).add j) = ⟨g, j, none⟩ := by unfold Addr.add; split <;> simp_all
  rw [this]
  simp [World.cell?, hg, hu]
theorem boxR.ptr {ty : Nat} {cells : List Value} {T : Foot} {v : Value} {w : World} (h : boxR ty cells T v w) : v = .pointer (some (ptrOf v)) := by
  obtain ⟨g, rfl, _⟩ := h
  rfl
end specs
section obs
variable {N : Foot} {P : Program} {ops : Array Oper} {sp : List (Spec N)} {In : Nat → Ini N} {a0 : Act} {w0 : World} {bf : List Nat} {j : Nat} {o : Oper} {s : Spec N} {done : Nat → Bool} {a : Act} {w : World} {τ : Nat → Foot}
theorem Cx.v (c : Cx ops sp In a0 w0 bf j o done a w τ) (i : Nat) {t : Nat} {val : Value} (hs : sp[i]? = some (det N t val)) (hb : (bf.getD j 0).testBit i = true) : get a t = val :=
  c.J.det i _ hs rfl (c.pre i hb)
theorem Cx.g (c : Cx ops sp In a0 w0 bf j o done a w τ) (i : Nat) {t : Nat} {pc : Prop} {val : Value} (hs : sp[i]? = some (gdet N t pc val)) (hb : (bf.getD j 0).testBit i = true) (hpc : pc) : get a t = val :=
  (c.J.det i _ hs rfl (c.pre i hb)).1 hpc
theorem Cx.old (c : Cx ops sp In a0 w0 bf j o done a w τ) {t : Nat} {val : Value} (h0 : get a0 t = val) (h : unB ops bf j t = true) : get a t = val :=
  (c.J.old c.hj c.post t h).trans h0
theorem Cx.res (c : Cx ops sp In a0 w0 bf j o done a w τ) (i t : Nat) (s' : Spec N) (hs : sp[i]? = some s') (hl : lastTag (sp.map (·.tag)) t j = some i) (hord : ordB (sp.map (·.tag)) bf t j = true) : s'.R (Zof τ w) (τ t) (get a s'.slot) w :=
  c.J.cur c.hj c.post c.pre t i s' hl hord hs
theorem Cx.ini (c : Cx ops sp In a0 w0 bf j o done a w τ) (t : Nat) (I : Ini N) (hI : In t = I) (hl : lastTag (sp.map (·.tag)) t j = none) (hord : ordB (sp.map (·.tag)) bf t j = true) : I.I (Zof τ w) (τ t) w := by
  rw [← hI]; exact c.J.cur0 c.hj c.post t hl hord
theorem wanted_none (hg : o.guard = none) (f : Nat → Option Bool) : Region.wanted o f = true := by simp [Region.wanted, hg]
theorem Ob.mk0 (hg : o.guard = none) (h : ∀ done a w τ, Cx ops sp In a0 w0 bf j o done a w τ → o.wp P a w (fun a' w' => ∃ v, a' = a.put o.dst v ∧ StepOk s a' τ w w') (fun _ _ _ => False)) : Ob ops sp In a0 w0 P bf j o s :=
  fun done a w τ c => ⟨fun _ => h done a w τ c, fun hw => by rw [wanted_none hg] at hw; cases hw⟩
theorem wp_of_runs {K : Act → World → Prop} {Q : Exit → Act → World → Prop} {v : Value} (h : Runs P a o w v) (hK : K (a.put o.dst v) w) : o.wp P a w K Q := by
  unfold Oper.wp
  rw [h]
  exact hK
theorem Ob.det {t : Nat} {v : Value} (hs : s = B.det N t v) (hg : o.guard = none) (hd : o.dst = some t) (h : ∀ done a w τ, Cx ops sp In a0 w0 bf j o done a w τ → Runs P a o w v) : Ob ops sp In a0 w0 P bf j o s :=
  Ob.mk0 hg fun done a w τ c => wp_of_runs (h done a w τ c) ⟨v, rfl, by
    subst hs
    refine ⟨Ext.refl _ _, ?_⟩
    show get (a.put o.dst v) t = v
    rw [hd, get_put a t t v (c.lt t hd), if_pos rfl]⟩
theorem Ob.gdet {t gi tg : Nat} {want b : Bool} {pc : Prop} {v : Value} (hs : s = B.gdet N t pc v) (hg : o.guard = some (gi, want)) (hd : o.dst = some t) (hgd : ((ops[gi]?).bind (·.dst)) = some tg)
    (hgs : sp[gi]? = some (B.det N tg (.bool b))) (hb : (bf.getD j 0).testBit gi = true) (hpc : pc ↔ b = want)
    (h : ∀ done a w τ, Cx ops sp In a0 w0 bf j o done a w τ → pc → Runs P a o w v) : Ob ops sp In a0 w0 P bf j o s := by
  intro done a w τ c
  have hv : get a tg = .bool b := c.v gi hgs hb
  have hw : Region.wanted o (yielded ops a.tmps) = (b == want) := by
    have : a.tmps[tg]? = some (.bool b) := by
      unfold get at hv
      rw [Array.getD_eq_getD_getElem?] at hv
      cases h' : a.tmps[tg]? with
      | none => rw [h'] at hv; simp [undef] at hv
      | some u => rw [h'] at hv; simp at hv; rw [hv]
    cases b <;> cases want <;> simp [Region.wanted, hg, yielded, hgd, this]
  subst hs
  refine ⟨fun hw' => ?_, fun hw' => ?_⟩
  · rw [hw] at hw'
    have hp : pc := hpc.2 (by simpa using hw')
    refine wp_of_runs (h done a w τ c hp) ⟨v, rfl, Ext.refl _ _, ?_⟩
    show (pc → get (a.put o.dst v) t = v) ∧ (¬ pc → get (a.put o.dst v) t = undef)
    rw [hd, get_put a t t v (c.lt t hd), if_pos rfl]
    exact ⟨fun _ => rfl, fun hn => absurd hp hn⟩
  · rw [hw] at hw'
    have hp : ¬ pc := fun hp => by rw [hpc.1 hp] at hw'; simp at hw'
    refine ⟨Ext.refl _ _, ?_⟩
    show (pc → get (a.put o.dst undef) t = v) ∧ (¬ pc → get (a.put o.dst undef) t = undef)
    rw [hd, get_put a t t undef (c.lt t hd), if_pos rfl]
    exact ⟨fun h => absurd h hp, fun _ => rfl⟩
theorem Ob.ggdet {t gi tg : Nat} {want b : Bool} {pc pg : Prop} {v : Value} (hs : s = B.gdet N t pc v) (hg : o.guard = some (gi, want)) (hd : o.dst = some t) (hgd : ((ops[gi]?).bind (·.dst)) = some tg)
    (hgs : sp[gi]? = some (B.gdet N tg pg (.bool b))) (hb : (bf.getD j 0).testBit gi = true) (hpc : pc ↔ (pg ∧ b = want))
    (h : ∀ done a w τ, Cx ops sp In a0 w0 bf j o done a w τ → pc → Runs P a o w v) : Ob ops sp In a0 w0 P bf j o s := by
  intro done a w τ c
  have hv := c.J.det gi _ hgs rfl (c.pre gi hb)
  have hv : (pg → get a tg = .bool b) ∧ (¬ pg → get a tg = undef) := hv
  subst hs
  by_cases hpg : pg
  · have hv' := hv.1 hpg
    have hw : Region.wanted o (yielded ops a.tmps) = (b == want) := by
      have : a.tmps[tg]? = some (.bool b) := by
        unfold get at hv'
        rw [Array.getD_eq_getD_getElem?] at hv'
        cases h' : a.tmps[tg]? with
        | none => rw [h'] at hv'; simp [undef] at hv'
        | some u => rw [h'] at hv'; simp at hv'; rw [hv']
      cases b <;> cases want <;> simp [Region.wanted, hg, yielded, hgd, this]
    refine ⟨fun hw' => ?_, fun hw' => ?_⟩
    · rw [hw] at hw'
      have hp : pc := hpc.2 ⟨hpg, by simpa using hw'⟩
      refine wp_of_runs (h done a w τ c hp) ⟨v, rfl, Ext.refl _ _, ?_⟩
      show (pc → get (a.put o.dst v) t = v) ∧ (¬ pc → get (a.put o.dst v) t = undef)
      rw [hd, get_put a t t v (c.lt t hd), if_pos rfl]
      exact ⟨fun _ => rfl, fun hn => absurd hp hn⟩
    · rw [hw] at hw'
      have hp : ¬ pc := fun hp => by rw [(hpc.1 hp).2] at hw'; simp at hw'
      refine ⟨Ext.refl _ _, ?_⟩
      show (pc → get (a.put o.dst undef) t = v) ∧ (¬ pc → get (a.put o.dst undef) t = undef)
      rw [hd, get_put a t t undef (c.lt t hd), if_pos rfl]
      exact ⟨fun h => absurd h hp, fun _ => rfl⟩
  · have hv' := hv.2 hpg
    have hw : Region.wanted o (yielded ops a.tmps) = false := by
      have : ∀ bb, a.tmps[tg]? ≠ some (.bool bb) := by
        intro bb h'
        unfold get at hv'
        rw [Array.getD_eq_getD_getElem?, h'] at hv'
        simp [undef] at hv'
      have hy : yielded ops a.tmps gi = none := by
        cases h' : a.tmps[tg]? with
        | none => simp [yielded, hgd, h']
        | some u => cases u <;> first | exact absurd h' (this _) | simp [yielded, hgd, h']
      simp [Region.wanted, hg, hy]
    have hp : ¬ pc := fun hp => hpg (hpc.1 hp).1
    refine ⟨fun hw' => (by rw [hw] at hw'; cases hw'), fun _ => ?_⟩
    refine ⟨Ext.refl _ _, ?_⟩
    show (pc → get (a.put o.dst undef) t = v) ∧ (¬ pc → get (a.put o.dst undef) t = undef)
    rw [hd, get_put a t t undef (c.lt t hd), if_pos rfl]
    exact ⟨fun h => absurd h hp, fun _ => rfl⟩
end obs
end B
end Go.Proofs.Ytocmchlhbniloaa
namespace Go.Proofs.Ytocmchlhbniloaa
namespace B
open Go.RowKit
section run
variable {P : Program} {w : World} {α : Type} {E : Enc α}
theorem setRow_ext (w : World) (g : Nat) (cs : Array Value) : Ext (fun k => k = g) w (w.setRow g cs) :=
  ⟨rfl, rfl, rfl, by simp [World.setRow], fun k _ h => setRow_other w g k cs h⟩
theorem run_append (t ty e : TypeId) (i : TypeInfo) (z : Value) (ht : P.underlying t = some (.slice e)) (hi : P.info? e = some i) (hz : i.zero = some z) (hsize : i.size = E.sz) (hzs : z.cells.size = E.sz)
    {v u : Value} {xs ys : List α} (hown : OwnT E e w v xs) (hu : SlT E w u ys) (h63 : xs.length + ys.length ≤ maxLen) (hby : (xs.length + ys.length) * i.bytes ≤ 140737488355328) :
    ∃ v' w', (Builtin.append_ #[t, t] ty #[v, u]).run P w = .ok v' w' ∧ OwnT E e w' v' (xs ++ ys) ∧ Ext (fun k => v.ownBlock = some k) w w' ∧ (∀ g, v'.ownBlock = some g → v.ownBlock = some g ∨ (w.heap.size ≤ g ∧ g < w'.heap.size)) := by
  have hy1 : ∀ x ∈ E.row ys, x.oneCell' = true := E.row_one
  have hyl : (E.row ys).length = ys.length * i.size := by rw [E.row_length, hsize]
  have hpos := E.pos
  simp only [maxLen] at h63
  have hrow : E.row xs ++ E.row ys = E.row (xs ++ ys) := (E.row_append xs ys).symm
  have newb : ∀ (old : Nat), OwnT E e (w.drew.alloc (.cells ((E.row xs).toArray ++ (E.row ys).toArray ++ Builtin.zeroCells z.cells (grownCap w (xs.length + ys.length) old e - (xs.length + ys.length))) e))
      (.slice (some ⟨w.heap.size, 0, none⟩) (xs.length + ys.length) (grownCap w (xs.length + ys.length) old e)) (xs ++ ys) := by
    intro old
    have hge := grownCap_ge w (xs.length + ys.length) old e
    have hcm : grownCap w (xs.length + ys.length) old e ≤ maxLen := grownCap_le_maxLen w _ old e (by simp only [maxLen]; omega)
    refine ⟨E.row_length _, .inr ⟨w.heap.size, _, _, by rw [List.length_append], Nat.zero_le _, heap_alloc_new w.drew _, by rw [List.length_append]; exact hge, hcm, ?_, ?_⟩⟩
    · simp only [Array.size_append, List.size_toArray, size_zeroCells, hzs, E.row_length, ← Nat.add_mul]
      congr 1; omega
    · simp only [Array.toList_append, List.append_assoc]
      rw [← List.append_assoc, hrow, ← E.row_length]
      exact List.take_left
  have newe : ∀ (o : Obj), Ext (fun k => v.ownBlock = some k) w (w.drew.alloc o) := fun o => (Ext.refl _ w).drew.trans (Ext.alloc _ _ _)
  rcases hu.sl with ⟨rfl, hu0⟩ | ⟨b, cap, rfl, hle, hcap⟩
  · have hys : ys = [] := List.eq_nil_of_length_eq_zero hu0
    subst hys
    refine ⟨v, w, ?_, by rw [List.append_nil]; exact hown, Ext.refl _ _, fun g h => .inl h⟩
    have hl := hown.sl.sl
    rcases hl with ⟨rfl, _⟩ | ⟨b, cap, rfl, h1, h2⟩
    · simp [Builtin.append_, run_underlying ht, sizeOf, typeInfo, hi, Builtin.lenOf, Builtin.firstCells]
    · simp [Builtin.append_, run_underlying ht, sizeOf, typeInfo, hi, Builtin.lenOf, Builtin.firstCells, h1, storeCells]
  · have hcell : ∀ j x, (E.row ys)[j]? = some x → w.cell? (b.add j) = some x := hu.cell
    rcases hown.2 with ⟨rfl, hx0⟩ | ⟨g, c, cur, rfl, hb, hg, h1, h2, h3, h4⟩
    · have hxs : xs = [] := List.eq_nil_of_length_eq_zero hx0
      subst hxs
      by_cases h0 : ys.length = 0
      · have : ys = [] := List.eq_nil_of_length_eq_zero h0
        subst this
        refine ⟨_, w, ?_, hown, Ext.refl _ _, fun g h => .inl h⟩
        simp [Builtin.append_, run_underlying ht, sizeOf, typeInfo, hi, Builtin.lenOf, Builtin.firstCells, loadCells, loadCellsFrom]
      · have hr := run_append_nil (P := P) w t ty e i z ht hi hz b ys.length cap (E.row ys) hyl hcell (by omega) (by omega) (by simp at hby; omega)
        have hnew := newb 0
        simp only [List.length_nil, Nat.zero_add, List.nil_append, show (E.row ([] : List α)) = [] from rfl, Array.empty_append] at hnew ⊢
        refine ⟨_, _, hr, hnew, newe _, fun g hg => .inr ?_⟩
        simp only [Value.ownBlock, Option.some.injEq] at hg
        subst hg
        simp
    · by_cases hroom : xs.length + ys.length ≤ c
      · have hfit : xs.length * i.size + (E.row ys).length ≤ cur.size := by rw [hyl, h3, hsize, ← Nat.add_mul]; exact Nat.mul_le_mul_right _ hroom
        have hr := run_append_room (P := P) w t ty e i ht hi g xs.length c cur hg b ys.length cap (E.row ys) hyl hcell hy1 hroom hfit
        refine ⟨_, _, hr, ⟨E.row_length _, .inr ⟨g, c, _, by rw [List.length_append], hb, setRow_heap w g cur _ e _ hg, by rw [List.length_append]; exact hroom, h2, ?_, ?_⟩⟩, ?_, fun k hk => .inl hk⟩
        · simp only [List.size_toArray, List.length_append, List.length_take, List.length_drop, Array.length_toList]
          omega
        · simp only [hsize]
          rw [h4, hrow, ← E.row_length]
          exact List.take_left
        · exact (setRow_ext w g _).mono fun k _ h => by rw [h]; rfl
      · have holds : ∀ j x, (E.row xs)[j]? = some x → w.cell? ((⟨g, 0, none⟩ : Addr).add j) = some x := World.ownsRow.cells hown (g := g) rfl
        have hr := run_append_grow (P := P) w t ty e i z ht hi hz ⟨g, 0, none⟩ xs.length c (E.row xs) (by rw [E.row_length, hsize]) holds b ys.length cap (E.row ys) hyl hcell (by omega) (by omega) (growslice_fits (by omega) hby)
        refine ⟨_, _, hr, newb c, newe _, fun k hk => .inr ?_⟩
        simp only [Value.ownBlock, Option.some.injEq] at hk
        subst hk
        simp
end run
def NewT {α : Type} (E : Enc α) (ty : Nat) (w w' : World) (v : Value) (xs : List α) : Prop := OwnT E ty w' v xs ∧ ∀ g, v.ownBlock = some g → w.heap.size ≤ g
section obs
variable {N : Foot} {P : Program} {ops : Array Oper} {sp : List (Spec N)} {In : Nat → Ini N} {a0 : Act} {w0 : World} {bf : List Nat} {j : Nat} {o : Oper} {s : Spec N}
theorem Ob.tagged {tag : Nat} (hg : o.guard = none) (ht : s.tag = some tag)
    (h : ∀ done a w τ, Cx ops sp In a0 w0 bf j o done a w τ → o.wp P a w (fun a' w' => ∃ v, a' = a.put o.dst v ∧ Ext (τ tag) w w' ∧ ∃ T' : Foot, (∀ g, T' g → τ tag g ∨ (w.heap.size ≤ g ∧ g < w'.heap.size)) ∧ s.R (Zof (upd τ tag T') w') T' (get a' s.slot) w') (fun _ _ _ => False)) : Ob ops sp In a0 w0 P bf j o s :=
  Ob.mk0 hg fun done a w τ c => by
    have := h done a w τ c
    unfold StepOk
    rw [ht]
    exact this
theorem wp_of_run {P : Program} {o : Oper} {a : Act} {w w' : World} {K : Act → World → Prop} {Q : Exit → Act → World → Prop} {v : Value} (h : (execOp a.eval o).run P w = .ok (.value v) w') (hK : K (a.put o.dst v) w') : o.wp P a w K Q := by
  unfold Oper.wp
  rw [h]
  exact hK
theorem wp_of_skip {P : Program} {o : Oper} {a : Act} {w w' : World} {K : Act → World → Prop} {Q : Exit → Act → World → Prop} (h : (execOp a.eval o).run P w = .ok .skip w') (hK : K (a.put o.dst undef) w') : o.wp P a w K Q := by
  unfold Oper.wp
  rw [h]
  exact hK
theorem box_new {ty : Nat} {cells : List Value} {w : World} : boxR ty cells (fun g => g = w.heap.size) (.pointer (some ⟨w.heap.size, 0, none⟩)) (w.alloc (.cells cells.toArray ty)) :=
  ⟨w.heap.size, rfl, by simp, rfl, heap_alloc_new w _⟩
theorem Ob.box {ty tag t : Nat} {cells : List Value} {x : Operand} {v : Value} (hs : s = B.box ty N tag t cells) (hg : o.guard = none) (hd : o.dst = some t) (ho : o.op = .box ty x) (hc : v.cells = cells.toArray)
    (h : ∀ done a w τ, Cx ops sp In a0 w0 bf j o done a w τ → a.eval x = v) : Ob ops sp In a0 w0 P bf j o s := by
  subst hs
  refine Ob.tagged hg rfl fun done a w τ c => ?_
  have hr : (execOp a.eval o).run P w = .ok (.value (.pointer (some ⟨w.heap.size, 0, none⟩))) (w.alloc (.cells cells.toArray ty)) := by
    simp only [execOp, ho, h done a w τ c, Instr.box, newVar, newRow, newObj, hc]
    rfl
  refine wp_of_run hr ⟨_, rfl, Ext.alloc _ _ _, fun g => g = w.heap.size, fun g hg => .inr (by subst hg; simp), ?_⟩
  show boxR ty cells _ (get (a.put o.dst _) t) _
  rw [hd, get_put a t t _ (c.lt t hd), if_pos rfl]
  exact box_new
theorem Ob.alloc {ty tag t : Nat} {cells : List Value} {z : Value} (hs : s = B.box ty N tag t cells) (hg : o.guard = none) (hd : o.dst = some t) (ho : o.op = .alloc ty) (hz : ∀ w, (zeroValue ty).run P w = .ok z w) (hc : z.cells = cells.toArray) : Ob ops sp In a0 w0 P bf j o s := by
  subst hs
  refine Ob.tagged hg rfl fun done a w τ c => ?_
  have hr : (execOp a.eval o).run P w = .ok (.value (.pointer (some ⟨w.heap.size, 0, none⟩))) (w.alloc (.cells cells.toArray ty)) := by
    simp only [execOp, ho, Instr.alloc, Sem.run_bind, hz, Result.andThen_ok, newVar, newRow, newObj, hc]
    rfl
  refine wp_of_run hr ⟨_, rfl, Ext.alloc _ _ _, fun g => g = w.heap.size, fun g hg => .inr (by subst hg; simp), ?_⟩
  show boxR ty cells _ (get (a.put o.dst _) t) _
  rw [hd, get_put a t t _ (c.lt t hd), if_pos rfl]
  exact box_new
theorem run_store {P : Program} {w : World} {t ty g off : Nat} {cur : Array Value} {v : Value} (hg : w.heap[g]? = some (.cells cur ty (0, 0))) (hsz : ∀ w, (sizeOf t).run P w = .ok v.cells.size w) (hfit : off + v.cells.size ≤ cur.size) (h1 : ∀ u ∈ v.cells.toList, u.oneCell' = true) :
    (Instr.storeAt t (.pointer (some ⟨g, off, none⟩)) v).run P w = .ok () (w.setRow g (cur.toList.take off ++ v.cells.toList ++ cur.toList.drop (off + v.cells.size)).toArray) := by
  have h := run_storeCells_at P g off ty v.cells.toList 0 cur w hg (by simpa using hfit) h1
  simp only [Nat.add_zero, Array.length_toList] at h
  simp only [Instr.storeAt, Instr.sureAddr, Sem.run_bind, Sem.run_pure, Result.andThen_ok, storeVar, hsz, ne_eq, not_true_eq_false, if_false]
  exact h
theorem addr_at (g k : Nat) : ((⟨g, 0, none⟩ : Addr).add k) = ⟨g, k, none⟩ := by unfold Addr.add; split <;> simp_all
theorem Ob.storeBox {ty tag t tt off : Nat} {cells cells' : List Value} {x y : Operand} {v : Value} (hs : s = B.box ty N tag t cells') (hg : o.guard = none) (hd : o.dst = none) (ho : o.op = .store tt x y) (hsz : ∀ w, (sizeOf tt).run P w = .ok v.cells.size w)
    (hfit : off + v.cells.size ≤ cells.length) (h1 : ∀ u ∈ v.cells.toList, u.oneCell' = true) (hc : cells' = cells.take off ++ v.cells.toList ++ cells.drop (off + v.cells.size))
    (hp : ∀ done a w τ, Cx ops sp In a0 w0 bf j o done a w τ → boxR ty cells (τ tag) (get a t) w ∧ a.eval x = .pointer (some ((ptrOf (get a t)).add off)) ∧ a.eval y = v) : Ob ops sp In a0 w0 P bf j o s := by
  subst hs
  refine Ob.tagged hg rfl fun done a w τ c => ?_
  obtain ⟨⟨g, hv, hlt, hT, hgg⟩, hx, hy⟩ := hp done a w τ c
  have hx' : a.eval x = .pointer (some ⟨g, off, none⟩) := by rw [hx, hv]; simp only [ptrOf, addr_at]
  have hr := run_store (P := P) (t := tt) (off := off) hgg hsz (by simpa using hfit) h1
  have hr' : (execOp a.eval o).run P w = .ok .skip (w.setRow g cells'.toArray) := by
    simp only [execOp, ho, hx', hy, Sem.run_bind, hr, Result.andThen_ok]
    rw [hc]
    rfl
  refine wp_of_skip hr' ⟨undef, rfl, (setRow_ext w g _).mono (fun k _ h => by rw [h]; exact hT), τ tag, fun g h => .inl h, ?_⟩
  show boxR ty cells' _ (get (a.put o.dst _) t) _
  rw [hd, get_put_none]
  exact ⟨g, hv, by simp [World.setRow, hlt], hT, setRow_heap w g _ _ ty _ hgg⟩
theorem Ob.buildSlice {α : Type} {E : Enc α} {ty e tag t n : Nat} {xs : List α} {parts : Array (Nat × Operand)} {z : Value} {cells : Array Value} (hs : s = own E e N tag t xs) (hg : o.guard = none) (hd : o.dst = some t) (ho : o.op = .buildSlice ty n parts)
    (hty : P.underlying ty = some (.slice e)) (hsz : ∀ w, (sizeOf e).run P w = .ok E.sz w) (hz : ∀ w, (zeroValue e).run P w = .ok z w) (hn : n = xs.length) (hn0 : 0 < n) (hsmall : n * E.sz ≤ 16777216)
    (hf : ∀ done a w τ, Cx ops sp In a0 w0 bf j o done a w τ → Instr.fill (fun i => some (i * E.sz, E.sz)) ((Array.range (n * E.sz)).map (z.cells[· % z.cells.size]!)) (parts.map fun (i, x) => (i, a.eval x)).toList = some cells)
    (hc : cells.toList = E.row xs) : Ob ops sp In a0 w0 P bf j o s := by
  subst hs
  refine Ob.tagged hg rfl fun done a w τ c => ?_
  have h2 : ¬ (n * E.sz > 2 ^ 24) := by omega
  have h0 : ¬ (n * E.sz = 0) := by have := Nat.mul_pos hn0 E.pos; omega
  have hr : (execOp a.eval o).run P w = .ok (.value (.slice (some ⟨w.heap.size, 0, none⟩) n n)) (w.alloc (.cells cells e)) := by
    have hfz := hf done a w τ c
    simp only [execOp, ho, Instr.buildSlice, Sem.run_bind, run_underlying hty, Result.andThen_ok, hsz, h2, if_false, Sem.run_pure, h0, hz]
    rw [hfz]
    rfl
  have hl : cells.size = n * E.sz := by rw [← Array.length_toList, hc, E.row_length, hn]
  refine wp_of_run hr ⟨_, rfl, Ext.alloc _ _ _, fun g => g = w.heap.size, fun g hg => .inr (by subst hg; simp), ?_⟩
  show ownR E e xs _ (get (a.put o.dst _) t) _
  rw [hd, get_put a t t _ (c.lt t hd), if_pos rfl]
  refine ⟨⟨E.row_length xs, .inr ⟨w.heap.size, n, cells, by rw [hn], Nat.zero_le _, heap_alloc_new w _, by omega, ?_, hl, ?_⟩⟩, fun g h => ?_⟩
  · have := Nat.le_mul_of_pos_right n E.pos; simp only [maxLen]; omega
  · rw [hc, ← E.row_length]; exact List.take_length
  · simp only [Value.ownBlock, Option.some.injEq] at h; exact h.symm
theorem Ob.buildEmpty {α : Type} {E : Enc α} {ty e tag t : Nat} (hs : s = own E e N tag t ([] : List α)) (hg : o.guard = none) (hd : o.dst = some t) (ho : o.op = .buildSlice ty 0 #[])
    (hty : P.underlying ty = some (.slice e)) (hsz : ∀ w, (sizeOf e).run P w = .ok E.sz w) : Ob ops sp In a0 w0 P bf j o s := by
  subst hs
  refine Ob.tagged hg rfl fun done a w τ c => ?_
  have hr : (execOp a.eval o).run P w = .ok (.value (.slice (some ⟨w.heap.size, 0, none⟩) 0 0)) (w.alloc (.cells #[] e)) := by
    have e0 : Array.range 0 = #[] := Array.eq_empty_of_size_eq_zero (by simp)
    simp [execOp, ho, Instr.buildSlice, run_underlying hty, hsz, Instr.fill, newRow, newObj, e0]
    rfl
  refine wp_of_run hr ⟨_, rfl, Ext.alloc _ _ _, fun g => g = w.heap.size, fun g hg => .inr (by subst hg; simp), ?_⟩
  show ownR E e [] _ (get (a.put o.dst _) t) _
  rw [hd, get_put a t t _ (c.lt t hd), if_pos rfl]
  refine ⟨⟨E.row_length [], .inr ⟨w.heap.size, 0, #[], rfl, Nat.zero_le _, heap_alloc_new w _, Nat.le_refl _, Nat.zero_le _, by simp, by simp [Enc.row]⟩⟩, fun g h => ?_⟩
  simp only [Value.ownBlock, Option.some.injEq] at h; exact h.symm
theorem Ob.append {α : Type} {E : Enc α} {ty e tag t t0 : Nat} {xs ys : List α} {x y : Operand} {z : Value} {i : TypeInfo} (hs : s = own E e N tag t (xs ++ ys)) (hg : o.guard = none) (hd : o.dst = some t)
    (ho : o.op = .call { callee := .builtin .append, args := #[x, y], argTypes := #[ty, ty] })
    (hty : P.underlying ty = some (.slice e)) (hi : P.info? e = some i) (hz : i.zero = some z) (hsize : i.size = E.sz) (hzs : z.cells.size = E.sz)
    (h63 : xs.length + ys.length ≤ maxLen) (hby : (xs.length + ys.length) * i.bytes ≤ 140737488355328)
    (hp : ∀ done a w τ, Cx ops sp In a0 w0 bf j o done a w τ → ownR E e xs (τ tag) (get a t0) w ∧ a.eval x = get a t0 ∧ ∃ u, a.eval y = u ∧ SlT E w u ys) : Ob ops sp In a0 w0 P bf j o s := by
  subst hs
  refine Ob.tagged hg rfl fun done a w τ c => ?_
  obtain ⟨⟨hown, hT⟩, hx, u, hy, hsl⟩ := hp done a w τ c
  obtain ⟨v', w', hr, h2, h3, h4⟩ := run_append (P := P) (E := E) ty o.type e i z hty hi hz hsize hzs hown hsl h63 hby
  have hr' : (execOp a.eval o).run P w = .ok (.value v') w' := by
    simp only [execOp, ho, resolve, invoke, builtin, Sem.run_bind, Sem.run_pure, Result.andThen_ok, List.map_toArray, List.map_cons, List.map_nil, hx, hy, hr]
  refine wp_of_run hr' ⟨_, rfl, h3.mono (fun k _ h => hT k h), fun g => v'.ownBlock = some g, fun g hg => (h4 g hg).elim (fun h => .inl (hT g h)) (fun h => .inr h), ?_⟩
  show ownR E e (xs ++ ys) _ (get (a.put o.dst _) t) _
  rw [hd, get_put a t t _ (c.lt t hd), if_pos rfl]
  exact ⟨h2, fun g h => h⟩
theorem Ob.moveT {tag t t0 : Nat} {R : Foot → Foot → Value → World → Prop} {x : Operand} (ht : s.tag = some tag) (hsl : s.slot = t) (hR : s.R = R) (hg : o.guard = none) (hd : o.dst = some t) (ho : o.op = .move x ∨ o.op = .assign x)
    (hp : ∀ done a w τ, Cx ops sp In a0 w0 bf j o done a w τ → R (Zof τ w) (τ tag) (get a t0) w ∧ a.eval x = get a t0) : Ob ops sp In a0 w0 P bf j o s := by
  refine Ob.tagged hg ht fun done a w τ c => ?_
  obtain ⟨h1, hx⟩ := hp done a w τ c
  have hr : Runs P a o w (get a t0) := by
    rcases ho with ho | ho
    · exact r_move ho hx
    · exact r_assign ho hx
  refine wp_of_run hr ⟨_, rfl, Ext.refl _ _, τ tag, fun g h => .inl h, ?_⟩
  rw [hsl, hd, get_put a t t _ (c.lt t hd), if_pos rfl]
  have e1 : upd τ tag (τ tag) = τ := by
    funext t g
    unfold upd
    split
    · rename_i e; rw [e]
    · rfl
  rw [e1, hR]
  exact h1
def Enters (P : Program) (a : Act) (o : Oper) (w : World) (f : FuncId) (args : Array Value) : Prop := (execOp a.eval o).run P w = .ok (.enter f args) w
theorem e_call {a : Act} {w : World} {x : Operand} {as0 : Array Operand} {ts : Array TypeId} {f : FuncId} {caps args : Array Value} (ho : o.op = .call { callee := .value x, args := as0, argTypes := ts }) (hx : a.eval x = .func (.func f) #[] caps)
    (hcall : ∀ args w, (callFunc f args).run P w = .ok (.enter f args) w) (has : as0.map a.eval ++ caps = args) : Enters P a o w f args := by
  subst has
  simp only [Enters, execOp, ho, resolve, hx, Deferred.ofValue, Sem.run_bind, Sem.run_pure, Result.andThen_ok, invoke, hcall]
  simp
theorem Ob.call {t : Nat} {v : Value} (hs : s = B.det N t v) (hg : o.guard = none) (hd : o.dst = some t)
    (h : ∀ done a w τ, Cx ops sp In a0 w0 bf j o done a w τ → ∃ f args, Enters P a o w f args ∧ Calls P f args w (fun e w' => e = .returned v ∧ Ext none' w w')) : Ob ops sp In a0 w0 P bf j o s :=
  Ob.mk0 hg fun done a w τ c => by
    obtain ⟨f, args, h1, h2⟩ := h done a w τ c
    subst hs
    unfold Oper.wp
    rw [h1]
    refine h2.mono fun e w' ⟨he, hx⟩ => ?_
    subst he
    refine ⟨v, rfl, hx, ?_⟩
    show get (a.put o.dst v) t = v
    rw [hd, get_put a t t v (c.lt t hd), if_pos rfl]
theorem Ob.gcall {t gi tg : Nat} {want b : Bool} {pc : Prop} {v : Value} (hs : s = B.gdet N t pc v) (hg : o.guard = some (gi, want)) (hd : o.dst = some t) (hgd : ((ops[gi]?).bind (·.dst)) = some tg)
    (hgs : sp[gi]? = some (B.det N tg (.bool b))) (hb : (bf.getD j 0).testBit gi = true) (hpc : pc ↔ b = want)
    (h : ∀ done a w τ, Cx ops sp In a0 w0 bf j o done a w τ → pc → ∃ f args, Enters P a o w f args ∧ Calls P f args w (fun e w' => e = .returned v ∧ Ext none' w w')) : Ob ops sp In a0 w0 P bf j o s := by
  intro done a w τ c
  have hv : get a tg = .bool b := c.v gi hgs hb
  have hw : Region.wanted o (yielded ops a.tmps) = (b == want) := by
    have : a.tmps[tg]? = some (.bool b) := by
      unfold get at hv
      rw [Array.getD_eq_getD_getElem?] at hv
      cases h' : a.tmps[tg]? with
      | none => rw [h'] at hv; simp [undef] at hv
      | some u => rw [h'] at hv; simp at hv; rw [hv]
    cases b <;> cases want <;> simp [Region.wanted, hg, yielded, hgd, this]
  subst hs
  refine ⟨fun hw' => ?_, fun hw' => ?_⟩
  · rw [hw] at hw'
    have hp : pc := hpc.2 (by simpa using hw')
    obtain ⟨f, args, h1, h2⟩ := h done a w τ c hp
    unfold Oper.wp
    rw [h1]
    refine h2.mono fun e w' ⟨he, hx⟩ => ?_
    subst he
    refine ⟨v, rfl, hx, ?_⟩
    show (pc → get (a.put o.dst v) t = v) ∧ (¬ pc → get (a.put o.dst v) t = undef)
    rw [hd, get_put a t t v (c.lt t hd), if_pos rfl]
    exact ⟨fun _ => rfl, fun hn => absurd hp hn⟩
  · rw [hw] at hw'
    have hp : ¬ pc := fun hp => by rw [hpc.1 hp] at hw'; simp at hw'
    refine ⟨Ext.refl _ _, ?_⟩
    show (pc → get (a.put o.dst undef) t = v) ∧ (¬ pc → get (a.put o.dst undef) t = undef)
    rw [hd, get_put a t t undef (c.lt t hd), if_pos rfl]
    exact ⟨fun h => absurd h hp, fun _ => rfl⟩
theorem Ob.ggcall {t gi tg : Nat} {want b : Bool} {pc pg : Prop} {v : Value} (hs : s = B.gdet N t pc v) (hg : o.guard = some (gi, want)) (hd : o.dst = some t) (hgd : ((ops[gi]?).bind (·.dst)) = some tg)
    (hgs : sp[gi]? = some (B.gdet N tg pg (.bool b))) (hb : (bf.getD j 0).testBit gi = true) (hpc : pc ↔ (pg ∧ b = want))
    (h : ∀ done a w τ, Cx ops sp In a0 w0 bf j o done a w τ → pc → ∃ f args, Enters P a o w f args ∧ Calls P f args w (fun e w' => e = .returned v ∧ Ext none' w w')) : Ob ops sp In a0 w0 P bf j o s := by
  intro done a w τ c
  have hv : (pg → get a tg = .bool b) ∧ (¬ pg → get a tg = undef) := c.J.det gi _ hgs rfl (c.pre gi hb)
  subst hs
  by_cases hpg : pg
  · have hv' := hv.1 hpg
    have hw : Region.wanted o (yielded ops a.tmps) = (b == want) := by
      have : a.tmps[tg]? = some (.bool b) := by
        unfold get at hv'
        rw [Array.getD_eq_getD_getElem?] at hv'
        cases h' : a.tmps[tg]? with
        | none => rw [h'] at hv'; simp [undef] at hv'
        | some u => rw [h'] at hv'; simp at hv'; rw [hv']
      cases b <;> cases want <;> simp [Region.wanted, hg, yielded, hgd, this]
    refine ⟨fun hw' => ?_, fun hw' => ?_⟩
    · rw [hw] at hw'
      have hp : pc := hpc.2 ⟨hpg, by simpa using hw'⟩
      obtain ⟨f, args, h1, h2⟩ := h done a w τ c hp
      unfold Oper.wp
      rw [h1]
      refine h2.mono fun e w' ⟨he, hx⟩ => ?_
      subst he
      refine ⟨v, rfl, hx, ?_⟩
      show (pc → get (a.put o.dst v) t = v) ∧ (¬ pc → get (a.put o.dst v) t = undef)
      rw [hd, get_put a t t v (c.lt t hd), if_pos rfl]
      exact ⟨fun _ => rfl, fun hn => absurd hp hn⟩
    · rw [hw] at hw'
      have hp : ¬ pc := fun hp => by rw [(hpc.1 hp).2] at hw'; simp at hw'
      refine ⟨Ext.refl _ _, ?_⟩
      show (pc → get (a.put o.dst undef) t = v) ∧ (¬ pc → get (a.put o.dst undef) t = undef)
      rw [hd, get_put a t t undef (c.lt t hd), if_pos rfl]
      exact ⟨fun h => absurd h hp, fun _ => rfl⟩
  · have hv' := hv.2 hpg
    have hw : Region.wanted o (yielded ops a.tmps) = false := by
      have : ∀ bb, a.tmps[tg]? ≠ some (.bool bb) := by
        intro bb h'
        unfold get at hv'
        rw [Array.getD_eq_getD_getElem?, h'] at hv'
        simp [undef] at hv'
      have hy : yielded ops a.tmps gi = none := by
        cases h' : a.tmps[tg]? with
        | none => simp [yielded, hgd, h']
        | some u => cases u <;> first | exact absurd h' (this _) | simp [yielded, hgd, h']
      simp [Region.wanted, hg, hy]
    have hp : ¬ pc := fun hp => hpg (hpc.1 hp).1
    refine ⟨fun hw' => (by rw [hw] at hw'; cases hw'), fun _ => ⟨Ext.refl _ _, ?_⟩⟩
    show (pc → get (a.put o.dst undef) t = v) ∧ (¬ pc → get (a.put o.dst undef) t = undef)
    rw [hd, get_put a t t undef (c.lt t hd), if_pos rfl]
    exact ⟨fun h => absurd h hp, fun _ => rfl⟩
theorem Ob.callT {tag : Nat} (hg : o.guard = none) (ht : s.tag = some tag)
    (h : ∀ done a w τ, Cx ops sp In a0 w0 bf j o done a w τ → ∃ f args, Enters P a o w f args ∧ Calls P f args w (fun e w' => ∃ v, e = .returned v ∧ Ext (τ tag) w w' ∧ ∃ T' : Foot, (∀ g, T' g → τ tag g ∨ (w.heap.size ≤ g ∧ g < w'.heap.size)) ∧ s.R (Zof (upd τ tag T') w') T' (get (a.put o.dst v) s.slot) w')) : Ob ops sp In a0 w0 P bf j o s :=
  Ob.tagged hg ht fun done a w τ c => by
    obtain ⟨f, args, h1, h2⟩ := h done a w τ c
    unfold Oper.wp
    rw [h1]
    refine h2.mono fun e w' ⟨v, he, h3⟩ => ?_
    subst he
    exact ⟨v, rfl, h3⟩
theorem Ob.callOwn {α : Type} {E : Enc α} {ty tag t : Nat} {xs : List α} (hs : s = own E ty N tag t xs) (hg : o.guard = none) (hd : o.dst = some t)
    (h : ∀ done a w τ, Cx ops sp In a0 w0 bf j o done a w τ → ∃ f args, Enters P a o w f args ∧ Calls P f args w (fun e w' => ∃ v, e = .returned v ∧ Ext none' w w' ∧ NewT E ty w w' v xs)) : Ob ops sp In a0 w0 P bf j o s := by
  subst hs
  refine Ob.callT (tag := tag) hg rfl fun done a w τ c => ?_
  obtain ⟨f, args, h1, h2⟩ := h done a w τ c
  refine ⟨f, args, h1, h2.mono fun e w' ⟨v, he, hx, ho⟩ => ⟨v, he, hx.mono (fun _ _ h => h.elim), fun g => v.ownBlock = some g, fun g hg => .inr ⟨ho.2 g hg, ho.1.lt g hg⟩, ?_⟩⟩
  show ownR E ty xs _ (get (a.put o.dst v) t) w'
  rw [hd, get_put a t t v (c.lt t hd), if_pos rfl]
  exact ⟨ho.1, fun g h => h⟩
end obs
structure St (N : Foot) (W0 : World) (n : Nat) (a : Act) (w : World) (τ : Nat → Foot) : Prop where
  defers : a.defers = []
  size : a.tmps.size = n
  ext : Ext N W0 w
  big : ∀ k, w.heap.size ≤ k → N k
  disj : ∀ s t g, τ s g → τ t g → s = t
  bnd : ∀ t g, τ t g → N g ∧ g < w.heap.size
def iniOf {N : Foot} (l : List (Ini N)) (t : Nat) : Ini N := l.getD t (Ini.any N)
def IniAll {N : Foot} (τ : Nat → Foot) (w : World) : Nat → List (Ini N) → Prop
  | _, [] => True
  | k, i :: l => i.I (Zof τ w) (τ k) w ∧ IniAll τ w (k + 1) l
theorem iniAll_spec {N : Foot} {τ : Nat → Foot} {w : World} : ∀ {l : List (Ini N)} {k : Nat}, IniAll τ w k l → ∀ t, (l.getD t (Ini.any N)).I (Zof τ w) (τ (k + t)) w
  | [], _, _, t => trivial
  | i :: l, k, h, 0 => h.1
  | i :: l, k, h, t + 1 => by
    have := iniAll_spec h.2 t
    rwa [show k + (t + 1) = k + 1 + t by omega]
def unAll (ops : List Oper) (t : Nat) : Bool := ops.all fun o => o.dst != some t
structure Fin {N : Foot} (l : List Oper) (sp : List (Spec N)) (il : List (Ini N)) (a0 a : Act) (w : World) (τ : Nat → Foot) : Prop where
  same : ∀ t, unAll l t = true → get a t = get a0 t
  det : ∀ (j : Nat) (s : Spec N), sp[j]? = some s → s.tag = none → s.R (Zof τ w) none' (get a s.slot) w
  res : ∀ (j t : Nat) (s : Spec N), sp[j]? = some s → s.tag = some t → lastTag (sp.map (·.tag)) t sp.length = some j → s.R (Zof τ w) (τ t) (get a s.slot) w
  ini : ∀ t, lastTag (sp.map (·.tag)) t sp.length = none → (iniOf il t).I (Zof τ w) (τ t) w
theorem Fin.old {N : Foot} {l : List Oper} {sp : List (Spec N)} {il : List (Ini N)} {a0 a : Act} {w : World} {τ : Nat → Foot} (h : Fin l sp il a0 a w τ) {t : Nat} {v : Value} (h0 : get a0 t = v) (hu : unAll l t = true) : get a t = v := (h.same t hu).trans h0
theorem Fin.v {N : Foot} {l : List Oper} {sp : List (Spec N)} {il : List (Ini N)} {a0 a : Act} {w : World} {τ : Nat → Foot} (h : Fin l sp il a0 a w τ) (j : Nat) {t : Nat} {v : Value} (hs : sp[j]? = some (B.det N t v)) : get a t = v := h.det j _ hs rfl
theorem region_St {N : Foot} {n : Nat} {W0 : World} {P : Program} {l : List Oper} {sp : List (Spec N)} (il : List (Ini N)) {a0 : Act} {w0 : World} {τ0 : Nat → Foot} {bf : List Nat} {id : Nat} {draw : Bool} (hm : P.follows .mixedOrders = true)
    {Q : Exit → Act → World → Prop} (hst : St N W0 n a0 w0 τ0) (hok : (okOps l.toArray n && okBf l.toArray bf && okSp l.toArray bf (sp.map (·.slot)) (sp.map (·.tag))) = true)
    (hini : IniAll τ0 w0 0 il) (obs : ObList l.toArray sp (iniOf il) a0 w0 P bf 0 l sp)
    (fin : ∀ a w τ, St N W0 n a w τ → Fin l sp il a0 a w τ → Q .normal a w) : (Code.region id l.toArray draw).wp P Q a0 w0 := by
  have hlen : sp.length = l.length := by
    simp only [Bool.and_eq_true] at hok
    have h3 := hok.2
    unfold okSp at h3
    simp only [Bool.and_eq_true, List.length_map, beq_iff_eq] at h3
    simpa using h3.1.1
  refine region_J (N := N) (ini := iniOf il) (τ := τ0) hm (by rw [hst.size]; exact hok) hst.big hst.disj hst.bnd (fun t => ?_) obs fun done a w τ hd hJ => ?_
  · have := iniAll_spec hini t
    rwa [Nat.zero_add] at this
  · refine fin a w τ ⟨hJ.defers.trans hst.defers, hJ.size.trans hst.size, hst.ext.trans hJ.ext, hJ.big, hJ.disj, hJ.bnd⟩ ⟨fun t ht => ?_, fun j s hs ht => ?_, fun j t s hs ht hl => ?_, fun t hl => ?_⟩
    · refine hJ.un t fun i o hi hdst => ?_
      exfalso
      unfold unAll at ht
      rw [List.all_eq_true] at ht
      have := ht o (List.mem_of_getElem? (by simpa using hi))
      simp [hdst] at this
    · exact hJ.det j s hs ht (hd j (by rw [← hlen]; exact (List.getElem?_eq_some_iff.1 hs).1))
    · obtain ⟨h1, h2, h3⟩ := lastTag_some hl
      refine hJ.res j s t hs ht (hd j (by omega)) fun k s' hk hlt hkt => ?_
      exact absurd (by rw [tag_getD hk]; exact hkt) (h3 k hlt (List.getElem?_eq_some_iff.1 hk).1)
    · refine hJ.ini t fun k s' hk hkt => ?_
      exact absurd (by rw [tag_getD hk]; exact hkt) (lastTag_none hl k (List.getElem?_eq_some_iff.1 hk).1)
end B
end Go.Proofs.Ytocmchlhbniloaa
namespace Go.Proofs.Ytocmchlhbniloaa
namespace B
open Go.RowKit
def Nw (w : World) : Foot := fun k => w.heap.size ≤ k
theorem enter {P : Program} {f : FuncId} {fn : Func} {c : Code} {args : Array Value} {w : World} {R : Ending → World → Prop} {n : Nat} (hf : P.funcs[f]? = some fn) (hb : fn.body = some c) (hn : fn.ntmps = n) (hle : args.size ≤ n)
    (h : ∀ a τ, (∀ i v, args[i]? = some v → get a i = v) → St (Nw w) w n a w τ → c.wp P (bodyPost P fn R) a w) : Calls P f args w R := by
  refine calls_of_wp hf hb (h _ (fun _ _ => False) (fun i v hi => ?_) ⟨rfl, ?_, Ext.refl _ _, fun k hk => hk, fun s t g h => h.elim, fun t g h => h.elim⟩)
  · unfold get
    have hlt : i < args.size := (Array.getElem?_eq_some_iff.1 hi).1
    rw [Array.getD_eq_getD_getElem?, Array.getElem?_append_left hlt, hi]
    rfl
  · simp [hn]; omega
theorem enterIn {P : Program} {f : FuncId} {fn : Func} {c : Code} {args : Array Value} {w : World} {R : Ending → World → Prop} {n : Nat} (T : Foot) (hT : ∀ g, T g → g < w.heap.size) (hf : P.funcs[f]? = some fn) (hb : fn.body = some c) (hn : fn.ntmps = n) (hle : args.size ≤ n)
    (h : ∀ a τ, (∀ i v, args[i]? = some v → get a i = v) → τ 0 = T → St (fun k => T k ∨ w.heap.size ≤ k) w n a w τ → c.wp P (bodyPost P fn R) a w) : Calls P f args w R := by
  refine calls_of_wp hf hb (h _ (fun t g => t = 0 ∧ T g) (fun i v hi => ?_) (by funext g; simp) ⟨rfl, ?_, Ext.refl _ _, fun k hk => .inr hk, fun s t g h1 h2 => by rw [h1.1, h2.1], fun t g h => ⟨.inl h.2, hT g h.2⟩⟩)
  · unfold get
    have hlt : i < args.size := (Array.getElem?_eq_some_iff.1 hi).1
    rw [Array.getD_eq_getD_getElem?, Array.getElem?_append_left hlt, hi]
    rfl
  · simp [hn]; omega
theorem ret1 {P : Program} {fn : Func} {R : Ending → World → Prop} {a : Act} {w : World} {t : Nat} {v : Value} (hr : fn.results = #[.tmp t]) (hd : a.defers = []) (hv : get a t = v) (h : R (.returned v) w) : bodyPost P fn R .ret a w :=
  bodyPost_ret (v := v) (by rw [results_tmp hr]; exact congrArg (fun v => Result.ok v w) hv) hd h
theorem ret2 {P : Program} {fn : Func} {R : Ending → World → Prop} {a : Act} {w : World} {t t' : Nat} {v v' : Value} (hr : fn.results = #[.tmp t, .tmp t']) (hd : a.defers = []) (hv : get a t = v) (hv' : get a t' = v') (h : R (.returned (.tuple #[v, v'])) w) : bodyPost P fn R .ret a w :=
  bodyPost_ret (v := .tuple #[v, v']) (by rw [results_tmp2 hr]; exact (by rw [← hv, ← hv']; rfl)) hd h
theorem St.ext0 {n : Nat} {W : World} {a : Act} {w : World} {τ : Nat → Foot} (h : St (Nw W) W n a w τ) : Ext none' W w :=
  ⟨h.ext.os, h.ext.tape, h.ext.output, h.ext.size, fun k hk _ => h.ext.block k hk (fun hn : W.heap.size ≤ k => by omega)⟩
theorem SlT.at {α : Type} {E : Enc α} {W w : World} {v : Value} {xs : List α} (h : SlT E W v xs) (he : Ext (Nw W) W w) : SlT E w v xs :=
  h.keep he fun hne hn => by have := h.lt hne; simp only [Nw] at hn; omega
def nth {α : Type} [Inhabited α] (xs : List α) (i : Int) : α := xs.getD i.toNat default
theorem nth_some {α : Type} [Inhabited α] {xs : List α} {i : Int} (h0 : 0 ≤ i) (h1 : i < xs.length) : xs[i.toNat]? = some (nth xs i) := by
  have : i.toNat < xs.length := by omega
  simp [nth, List.getD, List.getElem?_eq_getElem this]
section
variable {N : Foot} {P : Program} {ops : Array Oper} {sp : List (Spec N)} {In : Nat → Ini N} {a0 : Act} {w0 : World} {bf : List Nat} {j : Nat} {o : Oper} {done : Nat → Bool} {a : Act} {w : World} {τ : Nat → Foot}
theorem Cx.ev (c : Cx ops sp In a0 w0 bf j o done a w τ) (i : Nat) {t : Nat} {val : Value} (hs : sp[i]? = some (B.det N t val)) (hb : (bf.getD j 0).testBit i = true) : a.eval (.tmp t) = val := c.v i hs hb
theorem Cx.eg (c : Cx ops sp In a0 w0 bf j o done a w τ) (i : Nat) {t : Nat} {pc : Prop} {val : Value} (hs : sp[i]? = some (B.gdet N t pc val)) (hb : (bf.getD j 0).testBit i = true) (hpc : pc) : a.eval (.tmp t) = val := c.g i hs hb hpc
theorem Cx.eo (c : Cx ops sp In a0 w0 bf j o done a w τ) {t : Nat} {val : Value} (h0 : get a0 t = val) (h : unB ops bf j t = true) : a.eval (.tmp t) = val := c.old h0 h
theorem Cx.ibox {ty : Nat} {v : Value} {cells : List Value} (c : Cx ops sp In a0 w0 bf j o done a w τ) (t : Nat) (hI : In t = B.ibox ty N v cells) (hl : lastTag (sp.map (·.tag)) t j = none) (hord : ordB (sp.map (·.tag)) bf t j = true) : boxR ty cells (τ t) v w :=
  c.ini t _ hI hl hord
theorem Cx.iown {α : Type} {E : Enc α} {ty : Nat} {v : Value} {xs : List α} (c : Cx ops sp In a0 w0 bf j o done a w τ) (t : Nat) (hI : In t = B.iown E ty N v xs) (hl : lastTag (sp.map (·.tag)) t j = none) (hord : ordB (sp.map (·.tag)) bf t j = true) : ownR E ty xs (τ t) v w :=
  c.ini t _ hI hl hord
theorem Cx.rbox {ty t slot : Nat} {cells : List Value} (c : Cx ops sp In a0 w0 bf j o done a w τ) (i : Nat) (hs : sp[i]? = some (B.box ty N t slot cells)) (hl : lastTag (sp.map (·.tag)) t j = some i) (hord : ordB (sp.map (·.tag)) bf t j = true) : boxR ty cells (τ t) (get a slot) w :=
  c.res i t _ hs hl hord
theorem Cx.rown {α : Type} {E : Enc α} {ty t slot : Nat} {xs : List α} (c : Cx ops sp In a0 w0 bf j o done a w τ) (i : Nat) (hs : sp[i]? = some (B.own E ty N t slot xs)) (hl : lastTag (sp.map (·.tag)) t j = some i) (hord : ordB (sp.map (·.tag)) bf t j = true) : ownR E ty xs (τ t) (get a slot) w :=
  c.res i t _ hs hl hord
end
section
variable {N : Foot} {l : List Oper} {sp : List (Spec N)} {il : List (Ini N)} {a0 a : Act} {w : World} {τ : Nat → Foot}
theorem Fin.rbox (h : Fin l sp il a0 a w τ) {ty t slot : Nat} {cells : List Value} (j : Nat) (hs : sp[j]? = some (B.box ty N t slot cells)) (hl : lastTag (sp.map (·.tag)) t sp.length = some j) {v : Value} (hv : get a slot = v) : boxR ty cells (τ t) v w :=
  hv ▸ h.res j t _ hs rfl hl
theorem Fin.rown (h : Fin l sp il a0 a w τ) {α : Type} {E : Enc α} {ty t slot : Nat} {xs : List α} (j : Nat) (hs : sp[j]? = some (B.own E ty N t slot xs)) (hl : lastTag (sp.map (·.tag)) t sp.length = some j) {v : Value} (hv : get a slot = v) : ownR E ty xs (τ t) v w :=
  hv ▸ h.res j t _ hs rfl hl
theorem Fin.ibox (h : Fin l sp il a0 a w τ) {ty : Nat} {v : Value} {cells : List Value} (t : Nat) (hI : iniOf il t = B.ibox ty N v cells) (hl : lastTag (sp.map (·.tag)) t sp.length = none) : boxR ty cells (τ t) v w := by
  have := h.ini t hl
  rw [hI] at this
  exact this
theorem Fin.iown (h : Fin l sp il a0 a w τ) {α : Type} {E : Enc α} {ty : Nat} {v : Value} {xs : List α} (t : Nat) (hI : iniOf il t = B.iown E ty N v xs) (hl : lastTag (sp.map (·.tag)) t sp.length = none) : ownR E ty xs (τ t) v w := by
  have := h.ini t hl
  rw [hI] at this
  exact this
end
theorem ownR.cast {α : Type} {E : Enc α} {ty : Nat} {xs ys : List α} {T : Foot} {v : Value} {w : World} (h : ownR E ty xs T v w) (e : ys = xs) : ownR E ty ys T v w := e ▸ h
theorem ownR.nil {α : Type} (E : Enc α) (ty : Nat) (T : Foot) (w : World) : ownR E ty ([] : List α) T (.slice none 0 0) w := ⟨OwnT.nil E ty w, fun g h => by simp [Value.ownBlock] at h⟩
theorem ownR.isSl {α : Type} {E : Enc α} {ty : Nat} {xs : List α} {T : Foot} {v : Value} {w : World} (h : ownR E ty xs T v w) : IsSl v xs.length := h.1.sl.sl
theorem SlT.le {α : Type} {E : Enc α} {xs : List α} {v : Value} {w : World} (h : SlT E w v xs) : xs.length ≤ 9223372036854775807 := h.sl.le
theorem ownR.le {α : Type} {E : Enc α} {ty : Nat} {xs : List α} {T : Foot} {v : Value} {w : World} (h : ownR E ty xs T v w) : xs.length ≤ 9223372036854775807 := h.1.sl.sl.le
theorem exit_here {id : Nat} {Q : Exit → Act → World → Prop} {a : Act} {w : World} (h : Q .normal a w) : Exit.inBlock id Q (.exit id) a w := by simpa [Exit.inBlock] using h
theorem int_eq {k : IntKind} {p q : Int} (h : p = q) : Value.int k p = Value.int k q := h ▸ rfl
section
variable {P : Program} {a : Act} {o : Oper} {w : World} {x : Operand} {ts : Array TypeId} {f : FuncId}
theorem e_call0 (ho : o.op = .call { callee := .value x, args := #[], argTypes := ts }) (hx : a.eval x = .func (.func f) #[] #[]) (hcall : ∀ args w, (callFunc f args).run P w = .ok (.enter f args) w) : Enters P a o w f #[] :=
  e_call ho hx hcall (by simp)
theorem e_call1 {x1 : Operand} {v1 : Value} (ho : o.op = .call { callee := .value x, args := #[x1], argTypes := ts }) (hx : a.eval x = .func (.func f) #[] #[]) (hcall : ∀ args w, (callFunc f args).run P w = .ok (.enter f args) w) (h1 : a.eval x1 = v1) : Enters P a o w f #[v1] :=
  e_call ho hx hcall (by simp [h1])
theorem e_call2 {x1 x2 : Operand} {v1 v2 : Value} (ho : o.op = .call { callee := .value x, args := #[x1, x2], argTypes := ts }) (hx : a.eval x = .func (.func f) #[] #[]) (hcall : ∀ args w, (callFunc f args).run P w = .ok (.enter f args) w) (h1 : a.eval x1 = v1) (h2 : a.eval x2 = v2) : Enters P a o w f #[v1, v2] :=
  e_call ho hx hcall (by simp [h1, h2])
theorem e_call3 {x1 x2 x3 : Operand} {v1 v2 v3 : Value} (ho : o.op = .call { callee := .value x, args := #[x1, x2, x3], argTypes := ts }) (hx : a.eval x = .func (.func f) #[] #[]) (hcall : ∀ args w, (callFunc f args).run P w = .ok (.enter f args) w) (h1 : a.eval x1 = v1) (h2 : a.eval x2 = v2) (h3 : a.eval x3 = v3) : Enters P a o w f #[v1, v2, v3] :=
  e_call ho hx hcall (by simp [h1, h2, h3])
end
def IntE : Enc Int := ⟨fun p => [.int .i64 p], 1, by decide, fun _ => rfl, fun x u hu => by simp at hu; rcases hu with rfl; rfl⟩
def StrE : Enc ByteArray := ⟨fun p => [.string p], 1, by decide, fun _ => rfl, fun x u hu => by simp at hu; rcases hu with rfl; rfl⟩
def RowE : Enc (ByteArray × ByteArray) := ⟨fun p => [.string p.1, .string p.2], 2, by decide, fun _ => rfl, fun x u hu => by simp at hu; rcases hu with rfl | rfl <;> rfl⟩
end B
end Go.Proofs.Ytocmchlhbniloaa
namespace Go.Proofs.Ytocmchlhbniloaa
namespace B
open Go.RowKit
def splice (l : List Value) (o : Nat) (vs : List Value) : List Value := l.take o ++ vs ++ l.drop (o + vs.length)
theorem splice_head {l r vs : List Value} {o : Nat} (h : o + vs.length ≤ l.length) : splice (l ++ r) o vs = splice l o vs ++ r := by
  unfold splice
  rw [List.take_append_of_le_length (by omega), List.drop_append_of_le_length (by omega)]
  simp
theorem splice_tail {l r vs : List Value} {o : Nat} : splice (l ++ r) (l.length + o) vs = l ++ splice r o vs := by
  unfold splice
  rw [List.take_append, List.drop_append]
  rw [List.take_of_length_le (by omega), List.drop_of_length_le (by omega), show l.length + o - l.length = o by omega, show l.length + o + vs.length - l.length = o + vs.length by omega]
  simp
theorem Enc.row_set {α : Type} (E : Enc α) {xs : List α} {i off : Nat} {x x' : α} {vs : List Value} (hx : xs[i]? = some x) (hl : off + vs.length ≤ E.sz) (hc : E.cells x' = splice (E.cells x) off vs) : splice (E.row xs) (i * E.sz + off) vs = E.row (xs.set i x') := by
  induction xs generalizing i with
  | nil => simp at hx
  | cons y ys ih =>
    have e : E.row (y :: ys) = E.cells y ++ E.row ys := by simp [Enc.row]
    cases i with
    | zero =>
      simp at hx; subst hx
      rw [e, show 0 * E.sz + off = off by omega, splice_head (by rw [E.len]; exact hl), ← hc]
      simp [Enc.row]
    | succ i =>
      rw [e, show (i + 1) * E.sz + off = (E.cells y).length + (i * E.sz + off) by rw [E.len, Nat.add_mul]; omega, splice_tail, ih (by simpa using hx)]
      simp [Enc.row]
theorem splice_take {l vs : List Value} {o n : Nat} (h : o + vs.length ≤ n) (hn : n ≤ l.length) : (splice l o vs).take n = splice (l.take n) o vs := by
  have e : l = l.take n ++ l.drop n := (List.take_append_drop n l).symm
  have hl : (l.take n).length = n := by simp; omega
  conv => lhs; rw [e]
  rw [splice_head (by omega)]
  have h2 : (splice (l.take n) o vs).length = n := by simp [splice]; omega
  rw [List.take_append_of_le_length (by omega), List.take_of_length_le (by omega)]
section
variable {α : Type} {E : Enc α} {ty : Nat} {P : Program} {w : World}
theorem run_storeElem {v u : Value} {xs : List α} {i off tt : Nat} {x x' : α} (h : OwnT E ty w v xs) (hx : xs[i]? = some x) (hsz : ∀ w, (sizeOf tt).run P w = .ok u.cells.size w) (hl : off + u.cells.size ≤ E.sz) (h1 : ∀ c ∈ u.cells.toList, c.oneCell' = true)
    (hc : E.cells x' = splice (E.cells x) off u.cells.toList) :
    ∃ w', (Instr.storeAt tt (.pointer (some ((ptrOf v).add (i * E.sz + off)))) u).run P w = .ok () w' ∧ OwnT E ty w' v (xs.set i x') ∧ Ext (fun k => v.ownBlock = some k) w w' := by
  have hi : i < xs.length := (List.getElem?_eq_some_iff.1 hx).1
  rcases h.2 with ⟨rfl, h0⟩ | ⟨g, cap, cur, rfl, hb, hg, h2, h3, h4, h5⟩
  · omega
  · have hmul : (i + 1) * E.sz ≤ xs.length * E.sz := Nat.mul_le_mul_right _ hi
    have hmul2 : xs.length * E.sz ≤ cap * E.sz := Nat.mul_le_mul_right _ h2
    rw [Nat.add_mul] at hmul
    have hfit : i * E.sz + off + u.cells.size ≤ cur.size := by omega
    have hr := run_store (P := P) (t := tt) (off := i * E.sz + off) hg hsz hfit h1
    refine ⟨_, by simp only [ptrOf, addr_at]; exact hr, ⟨by rw [E.row_length, List.length_set], .inr ⟨g, cap, _, by rw [List.length_set], hb, setRow_heap w g cur _ ty _ hg, by rw [List.length_set]; exact h2, h3, ?_, ?_⟩⟩, ?_⟩
    · simp only [List.size_toArray, List.length_append, List.length_take, List.length_drop, Array.length_toList]
      omega
    · rw [List.length_set, ← E.row_set hx (by simpa using hl) hc, ← h5]
      have := splice_take (l := cur.toList) (vs := u.cells.toList) (o := i * E.sz + off) (n := xs.length * E.sz) (by simp; omega) (by simp; omega)
      rw [← this]
      simp [splice]
    · exact (setRow_ext w g _).mono fun k _ h => by rw [h]; rfl
end
section obs
variable {N : Foot} {P : Program} {ops : Array Oper} {sp : List (Spec N)} {In : Nat → Ini N} {a0 : Act} {w0 : World} {bf : List Nat} {j : Nat} {o : Oper} {s : Spec N}
theorem Ob.storeElem {α : Type} {E : Enc α} {ty tag t tt i off : Nat} {xs : List α} {x x' : α} {p q : Operand} {u : Value} (hs : s = own E ty N tag t (xs.set i x')) (hg : o.guard = none) (hd : o.dst = none) (ho : o.op = .store tt p q) (hsz : ∀ w, (sizeOf tt).run P w = .ok u.cells.size w)
    (hx : xs[i]? = some x) (hl : off + u.cells.size ≤ E.sz) (h1 : ∀ c ∈ u.cells.toList, c.oneCell' = true) (hc : E.cells x' = splice (E.cells x) off u.cells.toList)
    (hp : ∀ done a w τ, Cx ops sp In a0 w0 bf j o done a w τ → ownR E ty xs (τ tag) (get a t) w ∧ a.eval p = .pointer (some ((ptrOf (get a t)).add (i * E.sz + off))) ∧ a.eval q = u) : Ob ops sp In a0 w0 P bf j o s := by
  subst hs
  refine Ob.tagged hg rfl fun done a w τ c => ?_
  obtain ⟨⟨hown, hT⟩, hp', hq⟩ := hp done a w τ c
  obtain ⟨w', hr, h2, h3⟩ := run_storeElem (P := P) (tt := tt) hown hx hsz hl h1 hc
  have hr' : (execOp a.eval o).run P w = .ok .skip w' := by
    simp only [execOp, ho, hp', hq, Sem.run_bind, hr, Result.andThen_ok]
    rfl
  refine wp_of_skip hr' ⟨undef, rfl, h3.mono (fun k _ h => hT k h), τ tag, fun g h => .inl h, ?_⟩
  show ownR E ty (xs.set i x') _ (get (a.put o.dst _) t) _
  rw [hd, get_put_none]
  exact ⟨h2, hT⟩
end obs
theorem then_ret {K : Act → World → Prop} {Q : Exit → Act → World → Prop} {a : Act} {w : World} (h : Q .ret a w) : Exit.then K Q .ret a w := h
theorem block_ret {id : Nat} {Q : Exit → Act → World → Prop} {a : Act} {w : World} (h : Q .ret a w) : Exit.inBlock id Q .ret a w := h
theorem then_exit {id : Nat} {K : Act → World → Prop} {Q : Exit → Act → World → Prop} {a : Act} {w : World} (h : Q (.exit id) a w) : Exit.then K Q (.exit id) a w := h
theorem St.extIn {n : Nat} {T : Foot} {W : World} {a : Act} {w : World} {τ : Nat → Foot} (h : St (fun k => T k ∨ W.heap.size ≤ k) W n a w τ) : Ext T W w :=
  h.ext.mono fun k hk hn => hn.resolve_right (by omega)
end B
end Go.Proofs.Ytocmchlhbniloaa
namespace Go.Proofs.Ytocmchlhbniloaa
namespace B
open Go.RowKit
def subV (v : Value) (lo hi m : Nat) : Value := match v with
  | .slice a _ cap => .slice (if cap = lo then a else a.map (·.add (lo * m))) (hi - lo) (cap - lo)
  | v => v
def isNil (v : Value) : Bool := match v with
  | .slice none _ _ => true
  | _ => false
section
variable {α : Type} {E : Enc α} {w : World} {v : Value} {xs : List α}
theorem Enc.row_drop (E : Enc α) : ∀ (xs : List α) (n : Nat), E.row (xs.drop n) = (E.row xs).drop (n * E.sz)
  | xs, 0 => by simp
  | [], n + 1 => by simp [Enc.row]
  | x :: xs, n + 1 => by
    have e : E.row (x :: xs) = E.cells x ++ E.row xs := by simp [Enc.row]
    rw [List.drop_succ_cons, E.row_drop xs n, e, List.drop_append, E.len, List.drop_of_length_le (l := E.cells x) (by rw [E.len, Nat.add_mul]; omega), Nat.add_mul, List.nil_append]
    congr 1; omega
theorem Enc.row_take (E : Enc α) : ∀ (xs : List α) (n : Nat), E.row (xs.take n) = (E.row xs).take (n * E.sz)
  | xs, 0 => by simp [Enc.row]
  | [], n + 1 => by simp [Enc.row]
  | x :: xs, n + 1 => by
    have e : E.row (x :: xs) = E.cells x ++ E.row xs := by simp [Enc.row]
    have e' : E.row (x :: xs.take n) = E.cells x ++ E.row (xs.take n) := by simp [Enc.row]
    rw [List.take_succ_cons, e', E.row_take xs n, e, List.take_append, E.len, List.take_of_length_le (l := E.cells x) (by rw [E.len, Nat.add_mul]; omega), Nat.add_mul]
    congr 2; omega
theorem SlT.sub (h : SlT E w v xs) {lo hi : Nat} (h1 : lo ≤ hi) (h2 : hi ≤ xs.length) : SlT E w (subV v lo hi E.sz) ((xs.drop lo).take (hi - lo)) := by
  have hl : ((xs.drop lo).take (hi - lo)).length = hi - lo := by simp; omega
  rcases h.sl with ⟨rfl, h0⟩ | ⟨b, cap, rfl, hc, hm⟩
  · obtain rfl : hi = 0 := by omega
    obtain rfl : lo = 0 := by omega
    exact ⟨.inl ⟨by simp [subV], by simp⟩, fun j u hj => by simp [Enc.row] at hj⟩
  · refine ⟨.inr ⟨if cap = lo then b else b.add (lo * E.sz), cap - lo, ?_, by rw [hl]; omega, by omega⟩, fun j u hj => ?_⟩
    · rw [hl]; simp only [subV]; split <;> rfl
    · have hne : ¬ cap = lo := fun e => by
        have : (xs.drop lo).take (hi - lo) = [] := List.eq_nil_of_length_eq_zero (by omega)
        rw [this] at hj; simp [Enc.row] at hj
      have hp : ptrOf (subV (.slice (some b) xs.length cap) lo hi E.sz) = b.add (lo * E.sz) := by simp [subV, hne, ptrOf]
      rw [hp, add_add]
      refine h.cell (lo * E.sz + j) u ?_
      rw [E.row_take, E.row_drop] at hj
      have hlt : j < (hi - lo) * E.sz := by
        have := (List.getElem?_eq_some_iff.1 hj).1
        simp only [List.length_take] at this; omega
      rw [List.getElem?_take_of_lt hlt, List.getElem?_drop] at hj
      exact hj
theorem SlT.isNil (h : SlT E w v xs) (hn : isNil v = true) : xs = [] := by
  rcases h.sl with ⟨rfl, h0⟩ | ⟨b, cap, rfl, _⟩
  · exact List.eq_nil_of_length_eq_zero h0
  · simp [B.isNil] at hn
end
section
variable {P : Program} {a : Act} {o : Oper} {w : World} {t e : TypeId} {x y z : Operand} {v : Value} {n m : Nat} {k k' : IntKind} {p q : Int}
theorem r_sliceHi (ho : o.op = .slice t x none (some y) none) (ht : P.underlying t = some (.slice e)) (hz : ∀ w, (sizeOf e).run P w = .ok m w) (hx : a.eval x = v) (hv : IsSl v n) (hy : a.eval y = .int k p) (h0 : 0 ≤ p) (h1 : p ≤ n) : Runs P a o w (subV v 0 p.toNat m) := by
  rcases hv with ⟨rfl, rfl⟩ | ⟨b, cap, rfl, hc, _⟩
  · obtain rfl : p = 0 := by omega
    simp [Runs, execOp, ho, hx, hy, Instr.sliceAt, Instr.slice, run_underlying ht, Instr.sliceBounds, Instr.sliceBound, asIntOf, hz, subV]
  · have h2 : p ≤ cap := by omega
    simp [Runs, execOp, ho, hx, hy, Instr.sliceAt, Instr.slice, run_underlying ht, Instr.sliceBounds, Instr.sliceBound, asIntOf, hz, subV, h0, h2]
theorem r_sliceLo (ho : o.op = .slice t x (some y) none none) (ht : P.underlying t = some (.slice e)) (hz : ∀ w, (sizeOf e).run P w = .ok m w) (hx : a.eval x = v) (hv : IsSl v n) (hy : a.eval y = .int k p) (h0 : 0 ≤ p) (h1 : p ≤ n) : Runs P a o w (subV v p.toNat n m) := by
  rcases hv with ⟨rfl, rfl⟩ | ⟨b, cap, rfl, hc, _⟩
  · obtain rfl : p = 0 := by omega
    simp [Runs, execOp, ho, hx, hy, Instr.sliceAt, Instr.slice, run_underlying ht, Instr.sliceBounds, Instr.sliceBound, asIntOf, hz, subV]
  · simp [Runs, execOp, ho, hx, hy, Instr.sliceAt, Instr.slice, run_underlying ht, Instr.sliceBounds, Instr.sliceBound, asIntOf, hz, subV, h0, h1]
theorem r_isNil {t' : TypeId} (ho : o.op = .binOp .eql t x (.const (.slice none 0 0)) t') (ht : P.underlying t = some (.slice e)) (hx : a.eval x = v) (hv : IsSl v n) : Runs P a o w (.bool (isNil v)) := by
  rcases hv with ⟨rfl, rfl⟩ | ⟨b, cap, rfl, hc, _⟩
  · have := Lib.run_eql_slice_nil (P := P) w t e none 0 0 0 0 ht
    simp [Runs, execOp, ho, hx, eqGuard, isNil, show a.eval (.const (.slice none 0 0)) = .slice none 0 0 from rfl]
    simp only [this, Result.andThen_ok]
    rfl
  · have := Lib.run_eql_slice_nil (P := P) w t e (some b) n cap 0 0 ht
    simp [Runs, execOp, ho, hx, eqGuard, isNil, show a.eval (.const (.slice none 0 0)) = .slice none 0 0 from rfl]
    simp only [this, Result.andThen_ok]
    rfl
end
section
variable {N : Foot} {W : World} {n : Nat} {a : Act} {w : World} {τ : Nat → Foot}
def retag (τ : Nat → Foot) (l : List (Nat × Nat)) (t : Nat) : Foot := match l.lookup t with
  | some j => τ j
  | none => none'
theorem lookup_mem {l : List (Nat × Nat)} {t j : Nat} (h : l.lookup t = some j) : (t, j) ∈ l := by
  induction l with
  | nil => simp at h
  | cons p l ih =>
    obtain ⟨a, b⟩ := p
    simp only [List.lookup_cons] at h
    split at h
    · rename_i heq
      simp at heq h
      subst heq; subst h
      exact List.mem_cons_self ..
    · exact List.mem_cons_of_mem _ (ih h)
theorem retag_some {l : List (Nat × Nat)} {t g : Nat} (h : retag τ l t g) : ∃ j, l.lookup t = some j ∧ τ j g := by
  unfold retag at h
  cases hj : l.lookup t with
  | none => rw [hj] at h; exact h.elim
  | some j => rw [hj] at h; exact ⟨j, rfl, h⟩
theorem St.retag (h : St N W n a w τ) (l : List (Nat × Nat)) (hl : (l.all fun p => l.all fun q => p.2 != q.2 || p.1 == q.1) = true) : St N W n a w (retag τ l) := by
  refine ⟨h.defers, h.size, h.ext, h.big, fun s t g h1 h2 => ?_, fun t g h1 => ?_⟩
  · obtain ⟨j, hj, h1⟩ := retag_some h1
    obtain ⟨j', hj', h2⟩ := retag_some h2
    have e := h.disj j j' g h1 h2
    subst e
    rw [List.all_eq_true] at hl
    have := hl _ (lookup_mem hj)
    rw [List.all_eq_true] at this
    have := this _ (lookup_mem hj')
    simpa using this
  · obtain ⟨j, hj, h1⟩ := retag_some h1
    exact h.bnd _ g h1
end
section
variable {N : Foot} {P : Program} {ops : Array Oper} {sp : List (Spec N)} {In : Nat → Ini N} {a0 : Act} {w0 : World} {bf : List Nat} {j : Nat} {o : Oper} {s : Spec N}
theorem Ob.live {gi tg : Nat} {want : Bool} (hg : o.guard = some (gi, want)) (hgd : ((ops[gi]?).bind (·.dst)) = some tg) (hgs : sp[gi]? = some (B.det N tg (.bool want))) (hb : (bf.getD j 0).testBit gi = true)
    (h : Ob ops sp In a0 w0 P bf j { o with guard := none } s) : Ob ops sp In a0 w0 P bf j o s := by
  intro done a w τ c
  have c' : Cx ops sp In a0 w0 bf j { o with guard := none } done a w τ := ⟨c.J, c.hj, c.pre, c.post, c.lt⟩
  have hw := (h done a w τ c').1 (wanted_none rfl _)
  refine ⟨fun _ => hw, fun hn => ?_⟩
  have hv : get a tg = .bool want := c.v gi hgs hb
  have : a.tmps[tg]? = some (.bool want) := by
    unfold get at hv
    rw [Array.getD_eq_getD_getElem?] at hv
    cases h' : a.tmps[tg]? with
    | none => rw [h'] at hv; simp [undef] at hv
    | some u => rw [h'] at hv; simp at hv; rw [hv]
  exfalso
  cases want <;> simp [Region.wanted, hg, yielded, hgd, this] at hn
end
theorem load_box {P : Program} {w : World} {ty : Nat} {cells : List Value} {T : Foot} {v : Value} {m : Nat} (hb : boxR ty cells T v w) (hz : ∀ w, (isAgg ty).run P w = .ok true w) (hm : ∀ w, (sizeOf ty).run P w = .ok m w) (hl : cells.length = m) :
    (loadVar ty (ptrOf v)).run P w = .ok (.agg cells.toArray) w := by
  subst hl
  simp only [loadVar, Sem.run_bind, hz, Result.andThen_ok, if_true, hm, loadCells]
  rw [run_loadCellsFrom cells (ptrOf v) 0 #[] (fun j u hj => by rw [Nat.zero_add]; exact hb.cell hj)]
  simp
theorem ret1c {P : Program} {fn : Func} {R : Ending → World → Prop} {a : Act} {w : World} {t ty m : Nat} {v : Value} {cells : List Value} {T : Foot} (hr : fn.results = #[.cell t ty]) (hd : a.defers = []) (hv : get a t = v) (hb : boxR ty cells T v w)
    (hz : ∀ w, (isAgg ty).run P w = .ok true w) (hm : ∀ w, (sizeOf ty).run P w = .ok m w) (hl : cells.length = m) (h : R (.returned (.agg cells.toArray)) w) : bodyPost P fn R .ret a w :=
  bodyPost_ret (v := .agg cells.toArray) (by
    have hp := hb.ptr
    have hv' : (a.tmps[t]?).getD undef = .pointer (some (ptrOf v)) := by rw [← Array.getD_eq_getD_getElem?]; exact hv.trans hp
    simp only [results, hr]
    simp [hv', asAddr, load_box hb hz hm hl]) hd h
theorem ret2c {P : Program} {fn : Func} {R : Ending → World → Prop} {a : Act} {w : World} {t t' ty m : Nat} {v v' : Value} {cells : List Value} {T : Foot} (hr : fn.results = #[.cell t ty, .tmp t']) (hd : a.defers = []) (hv : get a t = v) (hv2 : get a t' = v') (hb : boxR ty cells T v w)
    (hz : ∀ w, (isAgg ty).run P w = .ok true w) (hm : ∀ w, (sizeOf ty).run P w = .ok m w) (hl : cells.length = m) (h : R (.returned (.tuple #[.agg cells.toArray, v'])) w) : bodyPost P fn R .ret a w :=
  bodyPost_ret (v := .tuple #[.agg cells.toArray, v']) (by
    have hp := hb.ptr
    have hv' : (a.tmps[t]?).getD undef = .pointer (some (ptrOf v)) := by rw [← Array.getD_eq_getD_getElem?]; exact hv.trans hp
    have hv3 : (a.tmps[t']?).getD undef = v' := by rw [← Array.getD_eq_getD_getElem?]; exact hv2
    simp only [results, hr]
    simp [hv', hv3, asAddr, load_box hb hz hm hl]) hd h
def gownR {α : Type} (E : Enc α) (ty : Nat) (pc : Prop) (xs : List α) (T : Foot) (v : Value) (w : World) : Prop := pc → ownR E ty xs T v w
def gown {α : Type} (pc : Prop) (E : Enc α) (ty : Nat) (N : Foot) (tag t : Nat) (xs : List α) : Spec N := ⟨some tag, t, fun _ => gownR E ty pc xs, fun _ _ T v w w' _ h hr hp => ownR_loc T v w w' h.less (hr hp), fun _ => True, fun _ _ _ _ _ => trivial⟩
section
variable {N : Foot} {P : Program} {ops : Array Oper} {sp : List (Spec N)} {In : Nat → Ini N} {a0 : Act} {w0 : World} {bf : List Nat} {j : Nat} {o : Oper} {s : Spec N} {done : Nat → Bool} {a : Act} {w : World} {τ : Nat → Foot}
theorem Ob.gown {α : Type} {E : Enc α} {ty tag t gi tg : Nat} {want b : Bool} {pc : Prop} {xs : List α} (hs : s = B.gown pc E ty N tag t xs) (hg : o.guard = some (gi, want)) (hd : o.dst = some t) (hgd : ((ops[gi]?).bind (·.dst)) = some tg)
    (hgs : sp[gi]? = some (B.det N tg (.bool b))) (hb : (bf.getD j 0).testBit gi = true) (hpc : pc ↔ b = want)
    (h : pc → Ob ops sp In a0 w0 P bf j { o with guard := none } (own E ty N tag t xs)) : Ob ops sp In a0 w0 P bf j o s := by
  intro done a w τ c
  subst hs
  have c' : Cx ops sp In a0 w0 bf j { o with guard := none } done a w τ := ⟨c.J, c.hj, c.pre, c.post, c.lt⟩
  have hv : get a tg = .bool b := c.v gi hgs hb
  have hw : Region.wanted o (yielded ops a.tmps) = (b == want) := by
    have : a.tmps[tg]? = some (.bool b) := by
      unfold get at hv
      rw [Array.getD_eq_getD_getElem?] at hv
      cases h' : a.tmps[tg]? with
      | none => rw [h'] at hv; simp [undef] at hv
      | some u => rw [h'] at hv; simp at hv; rw [hv]
    cases b <;> cases want <;> simp [Region.wanted, hg, yielded, hgd, this]
  refine ⟨fun hw' => ?_, fun hw' => ?_⟩
  · rw [hw] at hw'
    have hp : pc := hpc.2 (by simpa using hw')
    have hw2 : o.wp P a w (fun a' w' => ∃ v, a' = a.put o.dst v ∧ StepOk (own E ty N tag t xs) a' τ w w') (fun _ _ _ => False) := (h hp done a w τ c').1 (wanted_none rfl _)
    refine Oper.wp_mono ?_ hw2
    intro a' w' hK
    obtain ⟨v, ha, hx, T', hT, hr⟩ := hK
    exact ⟨v, ha, hx, T', hT, fun _ => hr⟩
  · rw [hw] at hw'
    have hp : ¬ pc := fun hp => by rw [hpc.1 hp] at hw'; simp at hw'
    exact ⟨Ext.refl _ _, τ tag, fun g h => .inl h, fun hp' => absurd hp' hp⟩
theorem Cx.rgown {α : Type} {E : Enc α} {ty t slot : Nat} {pc : Prop} {xs : List α} (c : Cx ops sp In a0 w0 bf j o done a w τ) (i : Nat) (hs : sp[i]? = some (B.gown pc E ty N t slot xs)) (hl : lastTag (sp.map (·.tag)) t j = some i) (hord : ordB (sp.map (·.tag)) bf t j = true) (hp : pc) : ownR E ty xs (τ t) (get a slot) w :=
  c.res i t _ hs hl hord hp
end
def tupR {α : Type} (E : Enc α) (ty : Nat) (xs : List α) (k : Value) (T : Foot) (v : Value) (w : World) : Prop := ∃ u, v = .tuple #[u, k] ∧ ownR E ty xs T u w
def tup {α : Type} (E : Enc α) (ty : Nat) (N : Foot) (tag t : Nat) (xs : List α) (k : Value) : Spec N := ⟨some tag, t, fun _ => tupR E ty xs k, fun _ _ T v w w' _ h ⟨u, hv, hr⟩ => ⟨u, hv, ownR_loc T u w w' h.less hr⟩, fun v => ∃ u, v = .tuple #[u, k], fun _ _ _ _ ⟨u, hv, _⟩ => ⟨u, hv⟩⟩
section
variable {N : Foot} {P : Program} {ops : Array Oper} {sp : List (Spec N)} {In : Nat → Ini N} {a0 : Act} {w0 : World} {bf : List Nat} {j : Nat} {o : Oper} {s : Spec N} {done : Nat → Bool} {a : Act} {w : World} {τ : Nat → Foot}
theorem Ob.callTup {α : Type} {E : Enc α} {ty tag t : Nat} {xs : List α} {k : Value} (hs : s = tup E ty N tag t xs k) (hg : o.guard = none) (hd : o.dst = some t)
    (h : ∀ done a w τ, Cx ops sp In a0 w0 bf j o done a w τ → ∃ f args, Enters P a o w f args ∧ Calls P f args w (fun e w' => ∃ v, e = .returned (.tuple #[v, k]) ∧ Ext none' w w' ∧ NewT E ty w w' v xs)) : Ob ops sp In a0 w0 P bf j o s := by
  subst hs
  refine Ob.callT (tag := tag) hg rfl fun done a w τ c => ?_
  obtain ⟨f, args, h1, h2⟩ := h done a w τ c
  refine ⟨f, args, h1, h2.mono fun e w' ⟨v, he, hx, ho⟩ => ⟨.tuple #[v, k], he, hx.mono (fun _ _ h => h.elim), fun g => v.ownBlock = some g, fun g hg => .inr ⟨ho.2 g hg, ho.1.lt g hg⟩, ?_⟩⟩
  show tupR E ty xs k _ (get (a.put o.dst _) t) w'
  rw [hd, get_put a t t _ (c.lt t hd), if_pos rfl]
  exact ⟨v, rfl, ho.1, fun g h => h⟩
theorem Cx.rtup {α : Type} {E : Enc α} {ty t slot : Nat} {xs : List α} {k : Value} (c : Cx ops sp In a0 w0 bf j o done a w τ) (i : Nat) (hs : sp[i]? = some (B.tup E ty N t slot xs k)) (hl : lastTag (sp.map (·.tag)) t j = some i) (hord : ordB (sp.map (·.tag)) bf t j = true) : tupR E ty xs k (τ t) (get a slot) w :=
  c.res i t _ hs hl hord
theorem Ob.part0 {α : Type} {E : Enc α} {ty tag t t0 : Nat} {xs : List α} {k : Value} (hs : s = own E ty N tag t xs) (hg : o.guard = none) (hd : o.dst = some t) (ho : o.op = .extract (.tmp t0) 0)
    (hp : ∀ done a w τ, Cx ops sp In a0 w0 bf j o done a w τ → tupR E ty xs k (τ tag) (get a t0) w) : Ob ops sp In a0 w0 P bf j o s := by
  subst hs
  refine Ob.tagged hg rfl fun done a w τ c => ?_
  obtain ⟨u, hu, hr⟩ := hp done a w τ c
  refine wp_of_runs (v := u) (r_extract ho hu rfl) ⟨_, rfl, Ext.refl _ _, τ tag, fun g h => .inl h, ?_⟩
  show ownR E ty xs _ (get (a.put o.dst u) t) w
  rw [hd, get_put a t t _ (c.lt t hd), if_pos rfl]
  exact hr
theorem Cx.part1 {α : Type} {E : Enc α} {ty tag t0 : Nat} {xs : List α} {k : Value} (c : Cx ops sp In a0 w0 bf j o done a w τ) (i : Nat) (hs : sp[i]? = some (B.tup E ty N tag t0 xs k)) (hb : (bf.getD j 0).testBit i = true) (ho : o.op = .extract (.tmp t0) 1) : Runs P a o w k := by
  obtain ⟨u, hu⟩ := c.J.pur i _ hs (c.pre i hb)
  exact r_extract ho hu rfl
end
end B
end Go.Proofs.Ytocmchlhbniloaa
namespace Go.Proofs.Ytocmchlhbniloaa
namespace B
open Go.ChangeShapes Go.WideShapes Go.ChangeAt Go.RowKit
def Reads {α : Type} (P : Program) (e : TypeId) (E : Enc α) : Prop :=
  ∀ (H : Type) (enc : TypeId × Value → H) (w : World) (base : Nat) (spare : Nat → Bool) (held : Bool) (n : Nat) (cs : List Value) (y : DataW H × List MemPlace), DataW.trod enc P w base spare held n e cs = some y → ∃ x : α, cs = E.cells x
section
variable {P : Program} {e : TypeId}
theorem reads_str (he : P.underlying e = some .string) : Reads P e StrE := fun H enc w base spare held n cs y h => by
  obtain ⟨k, rfl, _⟩ := DataW.trod_string he h
  exact ⟨k, rfl⟩
end
section
variable {P : Program} {W : World} {H : Type} {enc : TypeId × Value → H} {base : Nat} {spare : Nat → Bool} {held : Bool}
theorem cells_slice (a : Option Addr) (l c : Nat) : (Value.slice a l c).cells = #[.slice a l c] := rfl
theorem open_sl {α : Type} [Inhabited α] {E : Enc α} {t e : TypeId} (ht : P.underlying t = some (.slice e)) (hC : P.cellsOf e = E.sz) (hE : Reads P e E) {r : Reach} {b0 : Nat} {v : Value} {d : DataW H} {p : List MemPlace} (hv : Value.okWide P W r b0 t v)
    (h : DataW.Trod enc P W base spare held t v d p) : ∃ xs : List α, SlT E W v xs := by
  obtain ⟨a, len, cap, rfl⟩ := okWide_slice ht hv
  obtain ⟨fuel, hf⟩ := h
  rw [cells_slice] at hf
  rcases Deep.open_slice ht hf with ⟨h0, _⟩ | ⟨a', len', cap', m, n, D, Pl, h0, hb, hl, hm, hmm, _, hx⟩
  · simp only [List.cons.injEq, Value.slice.injEq, and_true] at h0
    obtain ⟨rfl, rfl, rfl⟩ := h0
    exact ⟨[], SlT.nil _ _⟩
  · simp only [List.cons.injEq, Value.slice.injEq, and_true] at h0
    obtain ⟨rfl, rfl, rfl⟩ := h0
    have hlm : len ≤ m := by rw [hmm]; split <;> omega
    have each : ∀ i, i < len → ∃ x : α, W.cells? base (a'.add (i * P.cellsOf e)) (P.cellsOf e) = some (E.cells x) := by
      intro i hi
      obtain ⟨cs, h1, h2⟩ := hx i (by omega)
      obtain ⟨x, rfl⟩ := hE _ _ _ _ _ _ _ _ _ h2
      exact ⟨x, h1⟩
    obtain ⟨X, hX⟩ := Deep.choose_lt each
    refine ⟨(List.range len).map X, .inr ⟨a', cap, by simp, by simpa using hl, hm⟩, fun j u hj => ?_⟩
    have hlen : j < len * E.sz := by
      have := (List.getElem?_eq_some_iff.1 hj).1
      rw [E.row_length] at this
      simpa using this
    have hi : j / E.sz < len := Nat.div_lt_of_lt_mul (by rw [Nat.mul_comm]; exact hlen)
    have hr : j % E.sz < E.sz := Nat.mod_lt _ E.pos
    have hj' : j = j / E.sz * E.sz + j % E.sz := by rw [Nat.mul_comm]; exact (Nat.div_add_mod j E.sz).symm
    have hx' : ((List.range len).map X)[j / E.sz]? = some (X (j / E.sz)) := by simp [hi]
    rw [hj', E.row_get hx' hr] at hj
    obtain ⟨_, _, hc⟩ := World.cells?_some (hX _ hi)
    rw [hC] at hc
    have := hc (j % E.sz) hr
    rw [hj] at this
    rw [hj', ← add_add]
    exact this
theorem open_i64 {t : TypeId} (ht : P.underlying t = some (.int .i64)) {r : Reach} {b0 : Nat} {v : Value} (hv : Value.okWide P W r b0 t v) {d : DataW H} {p : List MemPlace} (h : DataW.Trod enc P W base spare held t v d p) : ∃ n, v = .int .i64 n ∧ -9223372036854775808 ≤ n ∧ n ≤ 9223372036854775807 := by
  obtain ⟨n, rfl, _, _, hw⟩ := open_int ht hv h
  simp [Lit.wf, IntKind.min, IntKind.max, IntKind.signed, IntKind.bits] at hw
  exact ⟨n, rfl, hw⟩
theorem trodAll_stay (hl : laidOutB P = true) {W' : World} {sp : Nat → Bool} : ∀ {ts : List TypeId} {vs : List Value} {ds : List (DataW H)} {p : List MemPlace}, (ts.all fun t => P.readableRec t && decide (t < P.types.size)) = true →
    DataW.TrodAll enc P W 0 (fun _ => true) true ts vs ds p → (∀ x ∈ p, W.sameAt W' x) → (∀ x ∈ p, sp x.block = true) → DataW.TrodAll enc P W' 0 sp true ts vs ds p
  | [], [], [], _, _, h, _, _ => h
  | [], [], _ :: _, _, _, h, _, _ => h.elim
  | [], _ :: _, _, _, _, h, _, _ => h.elim
  | _ :: _, [], _, _, _, h, _, _ => h.elim
  | _ :: _, _ :: _, [], _, _, h, _, _ => h.elim
  | t :: ts, v :: vs, d :: ds, p, hr, h, h1, h2 => by
    obtain ⟨q, q', a, b, rfl⟩ := h
    simp only [List.all_cons, Bool.and_eq_true, decide_eq_true_eq] at hr
    exact ⟨q, q', WideElems.Trod_stays hl hr.1.1 hr.1.2 a (fun x hx => h1 x (by simp [hx])) (fun x hx => h2 x (by simp [hx])), trodAll_stay hl hr.2 b (fun x hx => h1 x (by simp [hx])) (fun x hx => h2 x (by simp [hx])), rfl⟩
theorem post_true {f : Func} {s : ChangeSpec} {apart handsOn : Bool} {W' : World} {args : Array Value} {ds gs : List (DataW H)} {before : List MemPlace} {t : TypeId} (hl : laidOutB P = true)
    (hW : DataW.Whole enc P f.params.toList s.vars apart W args.toList ds gs before) (hvars : s.vars = []) (hread : (f.params.toList.all fun t => P.readableRec t && decide (t < P.types.size)) = true)
    (hfn : s.fn H ds = { results := [.lit (.bool true)], args := ds }) (hrt : f.resultTypes = #[t]) (ht : P.underlying t = some .bool) (hx : Ext none' W W') : s.post enc P f apart true handsOn false W args (.bool true) W' := by
  have hlt := hW.lt
  have hW' := hW
  obtain ⟨p, q, hA, hV, rfl, hz, hn⟩ := hW
  rw [hvars] at hV
  have hgq : gs = [] ∧ q = [] := by
    cases gs with
    | nil => exact ⟨rfl, hV⟩
    | cons g gs => exact hV.elim
  obtain ⟨rfl, rfl⟩ := hgq
  have hb := hx.below
  refine ⟨ds, [], p ++ [], [], p, [], hW', ?_, ?_, ?_, hb.frame _, fun h => by cases h⟩
  · rw [List.append_nil, hfn, hrt]
    exact trodAll_mk1 (shut_bool ht true)
  · rw [List.append_nil, hfn]
    exact trodAll_stay hl hread hA (fun x hx => hb.same (hlt x (by simp [hx]))) (fun x hx => by simpa using hlt x (by simp [hx]))
  · rw [List.append_nil, hfn, hvars]
    exact rfl
end
end B
end Go.Proofs.Ytocmchlhbniloaa
namespace Go.Proofs.Ytocmchlhbniloaa
namespace B
open Go.RowKit
def ltT (x y : ByteArray) : Bool := Op.bytesLess x.toList y.toList
def eqT (x y : ByteArray) : Bool := x.toList == y.toList
def leT (x y : ByteArray) : Bool := ltT x y || eqT x y
section
variable {P : Program} {a : Act} {o : Oper} {w : World} {t t' : TypeId} {x y z : Operand} {s u : ByteArray} {k k' : IntKind} {p q : Int}
theorem r_slss (ho : o.op = .binOp .lss t x y t') (hx : a.eval x = .string s) (hy : a.eval y = .string u) : Runs P a o w (.bool (ltT s u)) := by
  simp [Runs, execOp, ho, hx, hy, eqGuard, binOp, Op.stringOp, ltT]
theorem r_sleq (ho : o.op = .binOp .leq t x y t') (hx : a.eval x = .string s) (hy : a.eval y = .string u) : Runs P a o w (.bool (ltT s u || eqT s u)) := by
  simp [Runs, execOp, ho, hx, hy, eqGuard, binOp, Op.stringOp, ltT, eqT]
theorem r_sgtr (ho : o.op = .binOp .gtr t x y t') (hx : a.eval x = .string s) (hy : a.eval y = .string u) : Runs P a o w (.bool (!(ltT s u || eqT s u))) := by
  simp [Runs, execOp, ho, hx, hy, eqGuard, binOp, Op.stringOp, ltT, eqT]
theorem r_seql (ho : o.op = .binOp .eql t x y t') (hx : a.eval x = .string s) (hy : a.eval y = .string u) : Runs P a o w (.bool (eqT s u)) := by
  simp [Runs, execOp, ho, hx, hy, eqGuard, binOp, Op.stringOp, eqT]
theorem r_sneq (ho : o.op = .binOp .neq t x y t') (hx : a.eval x = .string s) (hy : a.eval y = .string u) : Runs P a o w (.bool (!eqT s u)) := by
  simp [Runs, execOp, ho, hx, hy, eqGuard, binOp, Op.stringOp, eqT]
theorem r_sub2 (ho : o.op = .slice t x (some y) (some z) none) (ht : P.underlying t = some .string) (hx : a.eval x = .string s) (hy : a.eval y = .int k p) (hz : a.eval z = .int k' q) (h0 : 0 ≤ p) (h1 : p ≤ q) (h2 : q ≤ s.size) : Runs P a o w (.string (s.extract p.toNat q.toNat)) := by
  have h4 : 0 ≤ q := by omega
  have h5 : p ≤ max q 0 := by omega
  simp [Runs, execOp, ho, hx, hy, hz, Instr.sliceAt, Instr.slice, run_underlying ht, Instr.sliceBounds, Instr.sliceBound, asIntOf, h0, h2, h4, h1]
  intro h6; omega
end
def byteAt (s : ByteArray) (i : Int) : Int := ((s.data.toList.getD i.toNat 0).toNat : Int)
theorem byteAt_range (s : ByteArray) (i : Int) : 0 ≤ byteAt s i ∧ byteAt s i ≤ 255 := by
  unfold byteAt
  have := (s.data.toList.getD i.toNat 0).toNat_lt
  omega
theorem r_sindex {P : Program} {a : Act} {o : Oper} {w : World} {t : TypeId} {x y : Operand} {s : ByteArray} {k : IntKind} {p : Int} (ho : o.op = .index t x y) (ht : P.underlying t = some .string) (hx : a.eval x = .string s) (hy : a.eval y = .int k p) (h0 : 0 ≤ p) (h1 : p < s.size) : Runs P a o w (.int .u8 (byteAt s p)) := by
  have hlt : p.toNat < s.size := by omega
  have e : s[p.toNat]? = some (s.data.toList.getD p.toNat 0) := by
    rw [getElem?_pos s p.toNat hlt]
    have h2 : s.data.toList.getD p.toNat 0 = s.data.toList[p.toNat]'(by simpa using hlt) := by
      rw [List.getD_eq_getElem?_getD, List.getElem?_eq_getElem (by simpa using hlt)]; rfl
    rw [h2]
    rfl
  simp [Runs, execOp, ho, hx, hy, Instr.index, run_underlying ht, asIntOf, h0, e, byteAt]
theorem eqT_iff {s u : ByteArray} : eqT s u = true ↔ s = u := by
  unfold eqT
  rw [beq_iff_eq, ByteArray.toList_eq, ByteArray.toList_eq]
  constructor
  · intro h
    cases s; cases u
    congr 1
    exact Array.ext' h
  · rintro rfl; rfl
theorem eqT_eq (s u : ByteArray) : eqT s u = decide (s.data.toList = u.data.toList) := by
  unfold eqT
  rw [ByteArray.toList_eq, ByteArray.toList_eq, Bool.eq_iff_iff]
  simp
def ByteE : Enc UInt8 := ⟨fun p => [.int .u8 p.toNat], 1, by decide, fun _ => rfl, fun x u hu => by simp at hu; rcases hu with rfl; rfl⟩
theorem byte_row (l : List UInt8) : ByteE.row l = l.map fun b => Value.int .u8 b.toNat := by
  induction l with
  | nil => rfl
  | cons b l ih =>
    have e : ByteE.row (b :: l) = ByteE.cells b ++ ByteE.row l := by simp [Enc.row]
    rw [e, ih]; rfl
section
variable {N : Foot} {P : Program} {ops : Array Oper} {sp : List (Spec N)} {In : Nat → Ini N} {a0 : Act} {w0 : World} {bf : List Nat} {j : Nat} {o : Oper} {s : Spec N}
end
theorem r_ofBytes {P : Program} {a : Act} {o : Oper} {w : World} {src dst e : TypeId} {x : Operand} {v : Value} {xs : List UInt8} (ho : o.op = .convert src dst x) (hs : P.underlying src = some (.slice e)) (he : P.underlying e = some (.int .u8)) (hd : P.underlying dst = some .string) (hx : a.eval x = v) (h : SlT ByteE w v xs) : Runs P a o w (.string ⟨xs.toArray⟩) := by
  rcases h.sl with ⟨rfl, h0⟩ | ⟨b, cap, rfl, _⟩
  · obtain rfl := List.eq_nil_of_length_eq_zero h0
    simp [Runs, execOp, ho, hx, convert, run_underlying hs, run_underlying hd, run_underlying he, Conv.bytesToString]
    rfl
  · have hc : ∀ j u, (xs.map fun b => Value.int .u8 b.toNat)[j]? = some u → w.cell? (b.add j) = some u := fun j u hj => h.cell j u (by rw [byte_row]; exact hj)
    have hr := run_convert_bytes_back (P := P) w src dst e b cap xs hs he hd (fun j hj => hc j _ (by simp [List.getElem?_eq_getElem hj]))
    simp only [Runs, execOp, ho, hx]
    simp [hr]
end B
end Go.Proofs.Ytocmchlhbniloaa
namespace Go.Proofs.Ytocmchlhbniloaa
namespace B
open Go.RowKit
section
variable {N : Foot} {P : Program} {ops : Array Oper} {sp : List (Spec N)} {In : Nat → Ini N} {a0 : Act} {w0 : World} {bf : List Nat} {j : Nat} {o : Oper} {s : Spec N}
theorem Ob.d {t : Nat} {v : Value} (h : ∀ {done a w τ}, Cx ops sp In a0 w0 bf j o done a w τ → Runs P a o w v) (hs : s = B.det N t v := by exact rfl) (hg : o.guard = none := by exact rfl) (hd : o.dst = some t := by exact rfl) : Ob ops sp In a0 w0 P bf j o s :=
  Ob.det hs hg hd fun _ _ _ _ c => h c
theorem Ob.c {t : Nat} {v : Value} (h : ∀ {done a w τ}, Cx ops sp In a0 w0 bf j o done a w τ → ∃ f args, Enters P a o w f args ∧ Calls P f args w (fun e w' => e = .returned v ∧ Ext none' w w')) (hs : s = B.det N t v := by exact rfl) (hg : o.guard = none := by exact rfl) (hd : o.dst = some t := by exact rfl) : Ob ops sp In a0 w0 P bf j o s :=
  Ob.call hs hg hd fun _ _ _ _ c => h c
theorem Ob.g {t tg : Nat} {b : Bool} {v : Value} (gi : Nat) (want : Bool) (hgs : sp[gi]? = some (B.det N tg (.bool b))) (h : ∀ {done a w τ}, Cx ops sp In a0 w0 bf j o done a w τ → b = want → Runs P a o w v)
    (hs : s = B.gdet N t (b = want) v := by exact rfl) (hg : o.guard = some (gi, want) := by exact rfl) (hd : o.dst = some t := by exact rfl) (hgd : ((ops[gi]?).bind (·.dst)) = some tg := by exact rfl) (hb : (bf.getD j 0).testBit gi = true := by exact rfl) : Ob ops sp In a0 w0 P bf j o s :=
  Ob.gdet hs hg hd hgd hgs hb Iff.rfl fun _ _ _ _ c => h c
theorem Ob.gg {t tg : Nat} {b : Bool} {pg : Prop} {v : Value} (gi : Nat) (want : Bool) (hgs : sp[gi]? = some (B.gdet N tg pg (.bool b))) (h : ∀ {done a w τ}, Cx ops sp In a0 w0 bf j o done a w τ → (pg ∧ b = want) → Runs P a o w v)
    (hs : s = B.gdet N t (pg ∧ b = want) v := by exact rfl) (hg : o.guard = some (gi, want) := by exact rfl) (hd : o.dst = some t := by exact rfl) (hgd : ((ops[gi]?).bind (·.dst)) = some tg := by exact rfl) (hb : (bf.getD j 0).testBit gi = true := by exact rfl) : Ob ops sp In a0 w0 P bf j o s :=
  Ob.ggdet hs hg hd hgd hgs hb Iff.rfl fun _ _ _ _ c => h c
theorem Ob.gc {t tg : Nat} {b : Bool} {v : Value} (gi : Nat) (want : Bool) (hgs : sp[gi]? = some (B.det N tg (.bool b))) (h : ∀ {done a w τ}, Cx ops sp In a0 w0 bf j o done a w τ → b = want → ∃ f args, Enters P a o w f args ∧ Calls P f args w (fun e w' => e = .returned v ∧ Ext none' w w'))
    (hs : s = B.gdet N t (b = want) v := by exact rfl) (hg : o.guard = some (gi, want) := by exact rfl) (hd : o.dst = some t := by exact rfl) (hgd : ((ops[gi]?).bind (·.dst)) = some tg := by exact rfl) (hb : (bf.getD j 0).testBit gi = true := by exact rfl) : Ob ops sp In a0 w0 P bf j o s :=
  Ob.gcall hs hg hd hgd hgs hb Iff.rfl fun _ _ _ _ c => h c
theorem Ob.ggc {t tg : Nat} {b : Bool} {pg : Prop} {v : Value} (gi : Nat) (want : Bool) (hgs : sp[gi]? = some (B.gdet N tg pg (.bool b))) (h : ∀ {done a w τ}, Cx ops sp In a0 w0 bf j o done a w τ → (pg ∧ b = want) → ∃ f args, Enters P a o w f args ∧ Calls P f args w (fun e w' => e = .returned v ∧ Ext none' w w'))
    (hs : s = B.gdet N t (pg ∧ b = want) v := by exact rfl) (hg : o.guard = some (gi, want) := by exact rfl) (hd : o.dst = some t := by exact rfl) (hgd : ((ops[gi]?).bind (·.dst)) = some tg := by exact rfl) (hb : (bf.getD j 0).testBit gi = true := by exact rfl) : Ob ops sp In a0 w0 P bf j o s :=
  Ob.ggcall hs hg hd hgd hgs hb Iff.rfl fun _ _ _ _ c => h c
theorem Ob.lv (gi : Nat) {tg : Nat} {want : Bool} (h : Ob ops sp In a0 w0 P bf j { o with guard := none } s) (hgs : sp[gi]? = some (B.det N tg (.bool want)) := by exact rfl) (hg : o.guard = some (gi, want) := by exact rfl) (hgd : ((ops[gi]?).bind (·.dst)) = some tg := by exact rfl) (hb : (bf.getD j 0).testBit gi = true := by exact rfl) : Ob ops sp In a0 w0 P bf j o s :=
  Ob.live hg hgd hgs hb h
end
section
variable {N : Foot} {P : Program} {ops : Array Oper} {sp : List (Spec N)} {In : Nat → Ini N} {a0 : Act} {w0 : World} {bf : List Nat} {j : Nat} {o : Oper} {done : Nat → Bool} {a : Act} {w : World} {τ : Nat → Foot}
theorem Cx.n (c : Cx ops sp In a0 w0 bf j o done a w τ) (i : Nat) {t : Nat} {val : Value} (hs : sp[i]? = some (B.det N t val)) (hb : (bf.getD j 0).testBit i = true := by exact rfl) : a.eval (.tmp t) = val := c.ev i hs hb
theorem Cx.m (c : Cx ops sp In a0 w0 bf j o done a w τ) (i : Nat) {t : Nat} {pc : Prop} {val : Value} (hs : sp[i]? = some (B.gdet N t pc val)) (hpc : pc) (hb : (bf.getD j 0).testBit i = true := by exact rfl) : a.eval (.tmp t) = val := c.eg i hs hb hpc
theorem Cx.p (c : Cx ops sp In a0 w0 bf j o done a w τ) {t : Nat} {val : Value} (h0 : get a0 t = val) (h : unB ops bf j t = true := by kernel_rfl) : a.eval (.tmp t) = val := c.eo h0 h
theorem Cx.ib {ty : Nat} {v : Value} {cells : List Value} (c : Cx ops sp In a0 w0 bf j o done a w τ) (t : Nat) (hI : In t = B.ibox ty N v cells) (hl : lastTag (sp.map (·.tag)) t j = none := by exact rfl) (hord : ordB (sp.map (·.tag)) bf t j = true := by kernel_rfl) : boxR ty cells (τ t) v w := c.ibox t hI hl hord
theorem Cx.io {α : Type} {E : Enc α} {ty : Nat} {v : Value} {xs : List α} (c : Cx ops sp In a0 w0 bf j o done a w τ) (t : Nat) (hI : In t = B.iown E ty N v xs) (hl : lastTag (sp.map (·.tag)) t j = none := by exact rfl) (hord : ordB (sp.map (·.tag)) bf t j = true := by kernel_rfl) : ownR E ty xs (τ t) v w := c.iown t hI hl hord
theorem Cx.rb {ty t slot : Nat} {cells : List Value} (c : Cx ops sp In a0 w0 bf j o done a w τ) (i : Nat) (hs : sp[i]? = some (B.box ty N t slot cells)) (hl : lastTag (sp.map (·.tag)) t j = some i := by exact rfl) (hord : ordB (sp.map (·.tag)) bf t j = true := by kernel_rfl) : boxR ty cells (τ t) (get a slot) w := c.rbox i hs hl hord
theorem Cx.ro {α : Type} {E : Enc α} {ty t slot : Nat} {xs : List α} (c : Cx ops sp In a0 w0 bf j o done a w τ) (i : Nat) (hs : sp[i]? = some (B.own E ty N t slot xs)) (hl : lastTag (sp.map (·.tag)) t j = some i := by exact rfl) (hord : ordB (sp.map (·.tag)) bf t j = true := by kernel_rfl) : ownR E ty xs (τ t) (get a slot) w := c.rown i hs hl hord
theorem Cx.rg {α : Type} {E : Enc α} {ty t slot : Nat} {pc : Prop} {xs : List α} (c : Cx ops sp In a0 w0 bf j o done a w τ) (i : Nat) (hs : sp[i]? = some (B.gown pc E ty N t slot xs)) (hp : pc) (hl : lastTag (sp.map (·.tag)) t j = some i := by exact rfl) (hord : ordB (sp.map (·.tag)) bf t j = true := by kernel_rfl) : ownR E ty xs (τ t) (get a slot) w := c.rgown i hs hl hord hp
theorem Cx.ip {α : Type} {E : Enc α} {ty slot : Nat} {v : Value} {xs : List α} (c : Cx ops sp In a0 w0 bf j o done a w τ) (t : Nat) (hI : In t = B.iown E ty N v xs) (e : get a0 slot = v) (hl : lastTag (sp.map (·.tag)) t j = none := by exact rfl) (hord : ordB (sp.map (·.tag)) bf t j = true := by kernel_rfl) (h : unB ops bf j slot = true := by kernel_rfl) : ownR E ty xs (τ t) (get a slot) w := by
  rw [show get a slot = v from c.old e h]; exact c.iown t hI hl hord
theorem Cx.bp {ty slot : Nat} {v : Value} {cells : List Value} (c : Cx ops sp In a0 w0 bf j o done a w τ) (t : Nat) (hI : In t = B.ibox ty N v cells) (e : get a0 slot = v) (hl : lastTag (sp.map (·.tag)) t j = none := by exact rfl) (hord : ordB (sp.map (·.tag)) bf t j = true := by kernel_rfl) (h : unB ops bf j slot = true := by kernel_rfl) : boxR ty cells (τ t) (get a slot) w := by
  rw [show get a slot = v from c.old e h]; exact c.ibox t hI hl hord
theorem Cx.sm {slot : Nat} {v : Value} {x : Operand} (c : Cx ops sp In a0 w0 bf j o done a w τ) (px : a.eval x = v) (e : get a0 slot = v) (h : unB ops bf j slot = true := by kernel_rfl) : a.eval x = get a slot := px.trans (c.old e h).symm
theorem Cx.ad {slot k : Nat} {v : Value} {x : Operand} {p : Addr} (c : Cx ops sp In a0 w0 bf j o done a w τ) (px : a.eval x = .pointer (some p)) (e : get a0 slot = v) (hp : p = (ptrOf v).add k) (h : unB ops bf j slot = true := by kernel_rfl) : a.eval x = .pointer (some ((ptrOf (get a slot)).add k)) := by
  rw [show get a slot = v from c.old e h, px, hp]
end
section
variable {N : Foot} {l : List Oper} {sp : List (Spec N)} {il : List (Ini N)} {a0 a : Act} {w : World} {τ : Nat → Foot}
def Alls (a : Act) : List (Nat × Value) → Prop
  | [] => True
  | p :: l => get a p.1 = p.2 ∧ Alls a l
theorem Fin.olds (h : Fin l sp il a0 a w τ) : ∀ (L : List (Nat × Value)) (_ : Alls a0 L) (_ : (L.all fun p => unAll l p.1) = true), Alls a L
  | [], _, _ => trivial
  | p :: L, hE, hu => by
    rw [List.all_cons, Bool.and_eq_true] at hu
    exact ⟨h.old hE.1 hu.1, h.olds L hE.2 hu.2⟩
theorem Fin.ks (h : Fin l sp il a0 a w τ) (L : List (Nat × Value)) (hE : Alls a0 L) (hu : (L.all fun p => unAll l p.1) = true := by kernel_rfl) : Alls a L := h.olds L hE hu
theorem Fin.ib (h : Fin l sp il a0 a w τ) {ty : Nat} {v : Value} {cells : List Value} (t : Nat) (hI : iniOf il t = B.ibox ty N v cells) (hl : lastTag (sp.map (·.tag)) t sp.length = none := by exact rfl) : boxR ty cells (τ t) v w := h.ibox t hI hl
theorem Fin.io (h : Fin l sp il a0 a w τ) {α : Type} {E : Enc α} {ty : Nat} {v : Value} {xs : List α} (t : Nat) (hI : iniOf il t = B.iown E ty N v xs) (hl : lastTag (sp.map (·.tag)) t sp.length = none := by exact rfl) : ownR E ty xs (τ t) v w := h.iown t hI hl
theorem Fin.rb (h : Fin l sp il a0 a w τ) {ty t slot : Nat} {cells : List Value} (j : Nat) {v : Value} (hv : get a slot = v) (hs : sp[j]? = some (B.box ty N t slot cells)) (hl : lastTag (sp.map (·.tag)) t sp.length = some j := by exact rfl) : boxR ty cells (τ t) v w := h.rbox j hs hl hv
theorem Fin.ro (h : Fin l sp il a0 a w τ) {α : Type} {E : Enc α} {ty t slot : Nat} {xs : List α} (j : Nat) {v : Value} (hv : get a slot = v) (hs : sp[j]? = some (B.own E ty N t slot xs)) (hl : lastTag (sp.map (·.tag)) t sp.length = some j := by exact rfl) : ownR E ty xs (τ t) v w := h.rown j hs hl hv
abbrev io {N : Foot} {α : Type} {E : Enc α} {ty : Nat} {xs : List α} {T : Foot} {v : Value} {w : World} (_ : ownR E ty xs T v w) : Ini N := iown E ty N v xs
abbrev ib {N : Foot} {ty : Nat} {cells : List Value} {T : Foot} {v : Value} {w : World} (_ : boxR ty cells T v w) : Ini N := ibox ty N v cells
end
theorem fill1 {a : Act} {f : Nat → Option (Nat × Nat)} {z cells : Array Value} {i0 : Nat} {x0 : Operand} {v0 : Value} (h0 : a.eval x0 = v0) (hf : Instr.fill f z [(i0, v0)] = some cells) : Instr.fill f z ((#[(i0, x0)]).map fun (i, x) => (i, a.eval x)).toList = some cells := by
  subst h0
  simp only [List.map_toArray, List.map_cons, List.map_nil]
  exact hf
theorem fill2 {a : Act} {f : Nat → Option (Nat × Nat)} {z cells : Array Value} {i0 i1 : Nat} {x0 x1 : Operand} {v0 v1 : Value} (h0 : a.eval x0 = v0) (h1 : a.eval x1 = v1) (hf : Instr.fill f z [(i0, v0), (i1, v1)] = some cells) : Instr.fill f z ((#[(i0, x0), (i1, x1)]).map fun (i, x) => (i, a.eval x)).toList = some cells := by
  subst h0 h1
  simp only [List.map_toArray, List.map_cons, List.map_nil]
  exact hf
theorem fill3 {a : Act} {f : Nat → Option (Nat × Nat)} {z cells : Array Value} {i0 i1 i2 : Nat} {x0 x1 x2 : Operand} {v0 v1 v2 : Value} (h0 : a.eval x0 = v0) (h1 : a.eval x1 = v1) (h2 : a.eval x2 = v2) (hf : Instr.fill f z [(i0, v0), (i1, v1), (i2, v2)] = some cells) : Instr.fill f z ((#[(i0, x0), (i1, x1), (i2, x2)]).map fun (i, x) => (i, a.eval x)).toList = some cells := by
  subst h0 h1 h2
  simp only [List.map_toArray, List.map_cons, List.map_nil]
  exact hf
theorem fill4 {a : Act} {f : Nat → Option (Nat × Nat)} {z cells : Array Value} {i0 i1 i2 i3 : Nat} {x0 x1 x2 x3 : Operand} {v0 v1 v2 v3 : Value} (h0 : a.eval x0 = v0) (h1 : a.eval x1 = v1) (h2 : a.eval x2 = v2) (h3 : a.eval x3 = v3) (hf : Instr.fill f z [(i0, v0), (i1, v1), (i2, v2), (i3, v3)] = some cells) : Instr.fill f z ((#[(i0, x0), (i1, x1), (i2, x2), (i3, x3)]).map fun (i, x) => (i, a.eval x)).toList = some cells := by
  subst h0 h1 h2 h3
  simp only [List.map_toArray, List.map_cons, List.map_nil]
  exact hf
theorem bt {p : Prop} [Decidable p] (h : decide p = true) : p := of_decide_eq_true h
theorem bn {p : Prop} [Decidable p] (h : decide p = false) : ¬ p := of_decide_eq_false h
end B
end Go.Proofs.Ytocmchlhbniloaa
namespace Go.Proofs.Ytocmchlhbniloaa
namespace B
open Go.RowKit
def YT (e : Nat) (w : World) (v : Value) (xs : List UInt8) : Prop := ∃ g cap cur k, v = .slice (some ⟨g, 0, none⟩) xs.length cap ∧ w.heap[g]? = some (.cells cur e (k, k + 1)) ∧ xs.length ≤ cap ∧ cap ≤ maxLen ∧ cap ≤ k ∧ cap ≤ cur.size ∧ cur.toList.take xs.length = ByteE.row xs
theorem YT.sl {e : Nat} {w : World} {v : Value} {xs : List UInt8} (h : YT e w v xs) : SlT ByteE w v xs := by
  obtain ⟨g, cap, cur, k, rfl, hg, h1, h2, h3, h4, h5⟩ := h
  refine ⟨.inr ⟨_, cap, rfl, h1, h2⟩, fun j u hj => ?_⟩
  have hlt : j < xs.length := by
    have := (List.getElem?_eq_some_iff.1 hj).1
    rw [ByteE.row_length] at this
    simpa [ByteE] using this
  rw [← h5, List.getElem?_take_of_lt hlt] at hj
  simp only [ptrOf, addr_at]
  simp [World.cell?, hg]
  simpa using hj
theorem YT.keep {e : Nat} {M : Nat → Prop} {w w' : World} {v : Value} {xs : List UInt8} (h : YT e w v xs) (he : Ext M w w') (hm : ∀ g, v.ownBlock = some g → ¬ M g) : YT e w' v xs := by
  obtain ⟨g, cap, cur, k, rfl, hg, r⟩ := h
  exact ⟨g, cap, cur, k, rfl, by rw [he.block g (Array.getElem?_eq_some_iff.1 hg).1 (hm g rfl)]; exact hg, r⟩
def bytR (e : Nat) (xs : List UInt8) (T : Foot) (v : Value) (w : World) : Prop := YT e w v xs ∧ ∀ g, v.ownBlock = some g → T g
theorem bytR_loc {N : Foot} {e : Nat} {xs : List UInt8} (T : Foot) (v : Value) (w w' : World) (h : Ext (fun g => N g ∧ ¬ T g) w w') (hr : bytR e xs T v w) : bytR e xs T v w' :=
  ⟨hr.1.keep h fun g hg hn => hn.2 (hr.2 g hg), hr.2⟩
def byt (e : Nat) (N : Foot) (tag t : Nat) (xs : List UInt8) : Spec N := ⟨some tag, t, fun _ => bytR e xs, fun _ _ T v w w' _ h hr => bytR_loc T v w w' h.less hr, fun _ => True, fun _ _ _ _ _ => trivial⟩
def ibyt (e : Nat) (N : Foot) (v : Value) (xs : List UInt8) : Ini N := ⟨fun _ T w => bytR e xs T v w, fun _ _ T w w' _ h => bytR_loc T v w w' h.less⟩
theorem bytR.isSl {e : Nat} {xs : List UInt8} {T : Foot} {v : Value} {w : World} (h : bytR e xs T v w) : IsSl v xs.length := h.1.sl.sl
theorem bytR.cast {e : Nat} {xs ys : List UInt8} {T : Foot} {v : Value} {w : World} (h : bytR e xs T v w) (q : ys = xs) : bytR e ys T v w := q ▸ h
theorem bytR.le {e : Nat} {xs : List UInt8} {T : Foot} {v : Value} {w : World} (h : bytR e xs T v w) : xs.length ≤ 9223372036854775807 := h.1.sl.sl.le
section
variable {N : Foot} {P : Program} {ops : Array Oper} {sp : List (Spec N)} {In : Nat → Ini N} {a0 : Act} {w0 : World} {bf : List Nat} {j : Nat} {o : Oper} {s : Spec N}
theorem Ob.toBytes {src dst e : TypeId} {tag t : Nat} {x : Operand} {u : ByteArray} (hs : s = byt e N tag t u.data.toList) (hg : o.guard = none) (hd : o.dst = some t) (ho : o.op = .convert src dst x)
    (hsrc : P.underlying src = some .string) (hdst : P.underlying dst = some (.slice e)) (he : P.underlying e = some (.int .u8)) (hle : u.size ≤ 140737488355328)
    (h : ∀ {done a w τ}, Cx ops sp In a0 w0 bf j o done a w τ → a.eval x = .string u) : Ob ops sp In a0 w0 P bf j o s := by
  subst hs
  refine Ob.tagged hg rfl fun done a w τ c => ?_
  have hr : (execOp a.eval o).run P w = .ok (.value (.slice (some ⟨w.heap.size, 0, none⟩) u.size (grownCap w u.size 0 e))) (Lib.bytesWorld w e u) := by
    have := Lib.run_convert_string_bytes (P := P) w src dst e u hsrc hdst he
    simp only [execOp, ho, h c, Sem.run_bind, this, Result.andThen_ok]
    rfl
  have hge := grownCap_ge w u.size 0 e
  have hcm : grownCap w u.size 0 e ≤ maxLen := grownCap_le_maxLen w _ 0 e (by simp only [maxLen]; omega)
  have hl : u.data.toList.length = u.size := by simp
  have hcs : (Lib.bytesCells w e u).size = grownCap w u.size 0 e := by
    simp only [Lib.bytesCells, Array.size_append, Array.size_map, Array.size_replicate]
    have : u.data.size = u.size := rfl
    omega
  refine wp_of_run hr ⟨_, rfl, ⟨rfl, rfl, rfl, by rw [Lib.bytesWorld_size]; omega, fun k hk _ => Lib.bytesWorld_at_old w e u k hk⟩, fun g => g = w.heap.size, fun g hg => .inr (by subst hg; rw [Lib.bytesWorld_size]; omega), ?_⟩
  show bytR e u.data.toList _ (get (a.put o.dst _) t) _
  rw [hd, get_put a t t _ (c.lt t hd), if_pos rfl]
  refine ⟨⟨w.heap.size, _, _, _, by rw [hl], Lib.bytesWorld_at_new w e u, by rw [hl]; exact hge, hcm, by rw [hcs]; omega, by rw [hcs]; omega, ?_⟩, fun g h => ?_⟩
  · rw [hl, byte_row, Lib.bytesCells, Array.toList_append, Array.toList_map, List.take_append_of_le_length (by simp), List.take_of_length_le (by simp)]
  · simp only [Value.ownBlock, Option.some.injEq] at h; exact h.symm
theorem run_storeY {P : Program} {w : World} {e tt : Nat} {v : Value} {xs : List UInt8} {i : Nat} {n : Int} (h : YT e w v xs) (hi : i < xs.length) (hsz : ∀ w, (sizeOf tt).run P w = .ok 1 w) (h0 : 0 ≤ n) (h1 : n ≤ 255) :
    ∃ w', (Instr.storeAt tt (.pointer (some ((ptrOf v).add (i * 1)))) (.int .u8 n)).run P w = .ok () w' ∧ YT e w' v (xs.set i (UInt8.ofNat n.toNat)) ∧ Ext (fun k => v.ownBlock = some k) w w' := by
  obtain ⟨g, cap, cur, k, rfl, hg, h2, h3, h4, h5, h6⟩ := h
  have hi' : i < cur.size := by omega
  have hcell : w.cell? ⟨g, i, none⟩ = some cur[i] := by simp [World.cell?, hg, hi']
  have hfro : w.frozen? ⟨g, i, none⟩ = false := by
    simp only [World.frozen?, hg, Bool.and_eq_false_iff, decide_eq_false_iff_not]
    left; omega
  have hst : (store ⟨g, i, none⟩ (.int .u8 n)).run P w = .ok () (w.setRow g (cur.setIfInBounds i (.int .u8 n))) := by
    rw [Go.run_store P w _ (.int .u8 n) _ rfl, hcell]
    simp [hfro, setCell_eq_setRow w g i cur e (k, k + 1) (.int .u8 n) hg]
  have hr : (Instr.storeAt tt (.pointer (some ⟨g, i, none⟩)) (.int .u8 n)).run P w = .ok () (w.setRow g (cur.setIfInBounds i (.int .u8 n))) := by
    have hc : (Value.int IntKind.u8 n).cells = #[.int .u8 n] := rfl
    have ha : ((⟨g, i, none⟩ : Addr).add 0) = ⟨g, i, none⟩ := rfl
    simp only [Instr.storeAt, Instr.sureAddr, Sem.run_bind, Sem.run_pure, Result.andThen_ok, storeVar, hsz, hc]
    simp [storeCells, ha, hst]
  refine ⟨_, by simp only [ptrOf, addr_at, Nat.mul_one]; exact hr, ⟨g, cap, cur.setIfInBounds i (.int .u8 n), k, by rw [List.length_set], setRow_heap w g cur _ e _ hg, by rw [List.length_set]; exact h2, h3, h4, by simpa using h5, ?_⟩, (setRow_ext w g _).mono fun k _ h => by rw [h]; rfl⟩
  rw [List.length_set, Array.toList_setIfInBounds, List.take_set, h6, byte_row, byte_row, List.map_set]
  congr 2
  have e1 : (UInt8.ofNat n.toNat).toNat = n.toNat := by
    rw [UInt8.toNat_ofNat']
    exact Nat.mod_eq_of_lt (by omega)
  rw [e1]; omega
theorem Ob.storeY {e tag t tt i : Nat} {xs : List UInt8} {p q : Operand} {n : Int} (hs : s = byt e N tag t (xs.set i (UInt8.ofNat n.toNat))) (hg : o.guard = none) (hd : o.dst = none) (ho : o.op = .store tt p q) (hsz : ∀ w, (sizeOf tt).run P w = .ok 1 w)
    (hi : i < xs.length) (h0 : 0 ≤ n) (h1 : n ≤ 255)
    (hp : ∀ {done a w τ}, Cx ops sp In a0 w0 bf j o done a w τ → bytR e xs (τ tag) (get a t) w ∧ a.eval p = .pointer (some ((ptrOf (get a t)).add (i * 1))) ∧ a.eval q = .int .u8 n) : Ob ops sp In a0 w0 P bf j o s := by
  subst hs
  refine Ob.tagged hg rfl fun done a w τ c => ?_
  obtain ⟨⟨hown, hT⟩, hp', hq⟩ := hp c
  obtain ⟨w', hr, h2, h3⟩ := run_storeY (P := P) (tt := tt) hown hi hsz h0 h1
  have hr' : (execOp a.eval o).run P w = .ok .skip w' := by
    simp only [execOp, ho, hp', hq, Sem.run_bind, hr, Result.andThen_ok]
    rfl
  refine wp_of_skip hr' ⟨undef, rfl, h3.mono (fun k _ h => hT k h), τ tag, fun g h => .inl h, ?_⟩
  show bytR e (xs.set i _) _ (get (a.put o.dst _) t) _
  rw [hd, get_put_none]
  exact ⟨h2, hT⟩
end
section
variable {N : Foot} {P : Program} {ops : Array Oper} {sp : List (Spec N)} {In : Nat → Ini N} {a0 : Act} {w0 : World} {bf : List Nat} {j : Nat} {o : Oper} {done : Nat → Bool} {a : Act} {w : World} {τ : Nat → Foot}
theorem Cx.iy {e : Nat} {v : Value} {xs : List UInt8} (c : Cx ops sp In a0 w0 bf j o done a w τ) (t : Nat) (hI : In t = ibyt e N v xs) (hl : lastTag (sp.map (·.tag)) t j = none := by exact rfl) (hord : ordB (sp.map (·.tag)) bf t j = true := by kernel_rfl) : bytR e xs (τ t) v w := c.ini t _ hI hl hord
theorem Cx.ry {e t slot : Nat} {xs : List UInt8} (c : Cx ops sp In a0 w0 bf j o done a w τ) (i : Nat) (hs : sp[i]? = some (byt e N t slot xs)) (hl : lastTag (sp.map (·.tag)) t j = some i := by exact rfl) (hord : ordB (sp.map (·.tag)) bf t j = true := by kernel_rfl) : bytR e xs (τ t) (get a slot) w := c.res i t _ hs hl hord
theorem Cx.yp {e slot : Nat} {v : Value} {xs : List UInt8} (c : Cx ops sp In a0 w0 bf j o done a w τ) (t : Nat) (hI : In t = ibyt e N v xs) (q : get a0 slot = v) (hl : lastTag (sp.map (·.tag)) t j = none := by exact rfl) (hord : ordB (sp.map (·.tag)) bf t j = true := by kernel_rfl) (h : unB ops bf j slot = true := by kernel_rfl) : bytR e xs (τ t) (get a slot) w := by
  rw [show get a slot = v from c.old q h]; exact c.iy t hI hl hord
end
section
variable {N : Foot} {l : List Oper} {sp : List (Spec N)} {il : List (Ini N)} {a0 a : Act} {w : World} {τ : Nat → Foot}
theorem Fin.iy (h : Fin l sp il a0 a w τ) {e : Nat} {v : Value} {xs : List UInt8} (t : Nat) (hI : iniOf il t = ibyt e N v xs) (hl : lastTag (sp.map (·.tag)) t sp.length = none := by exact rfl) : bytR e xs (τ t) v w := by
  have := h.ini t hl
  rw [hI] at this
  exact this
theorem Fin.ry (h : Fin l sp il a0 a w τ) {e t slot : Nat} {xs : List UInt8} (j : Nat) {v : Value} (hv : get a slot = v) (hs : sp[j]? = some (byt e N t slot xs)) (hl : lastTag (sp.map (·.tag)) t sp.length = some j := by exact rfl) : bytR e xs (τ t) v w := hv ▸ h.res j t _ hs rfl hl
abbrev iy {N : Foot} {e : Nat} {xs : List UInt8} {T : Foot} {v : Value} {w : World} (_ : bytR e xs T v w) : Ini N := ibyt e N v xs
end
section
variable {P : Program} {a : Act} {o : Oper} {w : World} {x y : Operand} {t t' : TypeId} {s u : ByteArray}
def maxT (x y : ByteArray) : ByteArray := if ltT x y = true then y else x
theorem r_smax (hc : o.op = .call { callee := .builtin .max, args := #[x, y], argTypes := #[t, t'] }) (hx : a.eval x = .string s) (hy : a.eval y = .string u) : Runs P a o w (.string (maxT s u)) := by
  have h : (Builtin.max_ #[t, t'] o.type #[.string s, .string u]).run P w = .ok (.string (maxT s u)) w := by
    cases hb : Op.bytesLess s.toList u.toList <;> simp [Builtin.max_, Builtin.max2, Op.stringOp, asBool, maxT, ltT, hb]
  simp only [Runs, execOp, hc, resolve, invoke, builtin, Sem.run_bind, Sem.run_pure, Result.andThen_ok, List.map_toArray, List.map_cons, List.map_nil, hx, hy, h]
end
end B
end Go.Proofs.Ytocmchlhbniloaa
namespace Go.Proofs.Ytocmchlhbniloaa
namespace Srt
open B
variable {α : Type}
def seg (xs : List α) (i j : Nat) : List α := (xs.drop i).take (j - i)
section order
variable (lt : α → α → Bool)
structure Swo : Prop where
  asym : ∀ x y, lt x y = true → lt y x = false
  neg : ∀ x y z, lt x y = false → lt y z = false → lt x z = false
variable {lt}
def Sorted (lt : α → α → Bool) (xs : List α) : Prop := xs.Pairwise fun x y => lt y x = false
def insRev (lt : α → α → Bool) (x : α) : List α → List α
  | [] => [x]
  | y :: ys => if lt x y then y :: insRev lt x ys else x :: y :: ys
def ins (lt : α → α → Bool) (x : α) (ys : List α) : List α := (insRev lt x ys.reverse).reverse
def isort (lt : α → α → Bool) (xs : List α) : List α := xs.foldl (fun acc x => ins lt x acc) []
theorem insRev_split {x : α} : ∀ {Q P : List α}, (∀ q ∈ Q, lt x q = true) → (∀ p, P.head? = some p → lt x p = false) → insRev lt x (Q ++ P) = Q ++ x :: P
  | [], [], _, _ => rfl
  | [], p :: P, _, h => by simp [insRev, h p rfl]
  | q :: Q, P, h1, h2 => by
    rw [List.cons_append, insRev, if_pos (h1 q (by simp)), insRev_split (fun q hq => h1 q (by simp [hq])) h2, List.cons_append]
theorem ins_split {x : α} {P Q : List α} (h1 : ∀ q ∈ Q, lt x q = true) (h2 : ∀ p, P.getLast? = some p → lt x p = false) : ins lt x (P ++ Q) = P ++ x :: Q := by
  unfold ins
  rw [List.reverse_append, insRev_split (fun q hq => h1 q (by simpa using hq)) (fun p hp => h2 p (by simpa using hp))]
  simp
theorem isort_snoc (xs : List α) (x : α) : isort lt (xs ++ [x]) = ins lt x (isort lt xs) := by simp [isort]
theorem insRev_perm (x : α) : ∀ ys : List α, (insRev lt x ys).Perm (x :: ys)
  | [] => List.Perm.refl _
  | y :: ys => by
    rw [insRev]
    split
    · exact (List.Perm.cons y (insRev_perm x ys)).trans (List.Perm.swap x y ys)
    · exact List.Perm.refl _
theorem ins_perm (x : α) (ys : List α) : (ins lt x ys).Perm (x :: ys) := by
  unfold ins
  refine (List.reverse_perm _).trans ((insRev_perm x _).trans ?_)
  exact List.Perm.cons x (List.reverse_perm ys)
theorem snoc_ind {motive : List α → Prop} (h0 : motive []) (h1 : ∀ xs x, motive xs → motive (xs ++ [x])) (xs : List α) : motive xs := by
  rw [← List.reverse_reverse xs]
  generalize xs.reverse = ys
  induction ys with
  | nil => exact h0
  | cons y ys ih => rw [List.reverse_cons]; exact h1 _ _ ih
theorem isort_perm (xs : List α) : (isort lt xs).Perm xs := by
  induction xs using snoc_ind with
  | h0 => exact List.Perm.refl _
  | h1 xs x ih =>
    rw [isort_snoc]
    exact (ins_perm x _).trans ((List.Perm.cons x ih).trans (List.perm_append_singleton x xs).symm)
theorem isort_length (xs : List α) : (isort lt xs).length = xs.length := (isort_perm xs).length_eq
theorem parted (hw : Swo lt) (x : α) {xs : List α} (hs : Sorted lt xs) : ∃ P Q, xs = P ++ Q ∧ (∀ p ∈ P, lt x p = false) ∧ (∀ q ∈ Q, lt x q = true) := by
  induction xs with
  | nil => exact ⟨[], [], rfl, by simp, by simp⟩
  | cons y ys ih =>
    obtain ⟨P, Q, rfl, h1, h2⟩ := ih (List.pairwise_cons.1 hs).2
    by_cases h : lt x y = true
    · refine ⟨[], y :: (P ++ Q), rfl, by simp, fun q hq => ?_⟩
      rcases List.mem_cons.1 hq with rfl | hq
      · exact h
      · rcases List.mem_append.1 hq with hq | hq
        · cases hc : lt x q with
          | true => rfl
          | false =>
            have := hw.neg x q y hc ((List.pairwise_cons.1 hs).1 q (by simp [hq]))
            rw [h] at this; cases this
        · exact h2 q hq
    · refine ⟨y :: P, Q, rfl, fun p hp => ?_, h2⟩
      rcases List.mem_cons.1 hp with rfl | hp
      · simpa using h
      · exact h1 p hp
theorem ins_parted {x : α} {P Q : List α} (h1 : ∀ p ∈ P, lt x p = false) (h2 : ∀ q ∈ Q, lt x q = true) : ins lt x (P ++ Q) = P ++ x :: Q :=
  ins_split h2 fun p hp => h1 p (List.mem_of_getLast? hp)
theorem ins_sorted (hw : Swo lt) {x : α} {xs : List α} (hs : Sorted lt xs) : Sorted lt (ins lt x xs) := by
  obtain ⟨P, Q, rfl, h1, h2⟩ := parted hw x hs
  rw [ins_parted h1 h2]
  have h3 := List.pairwise_append.1 hs
  refine List.pairwise_append.2 ⟨h3.1, List.pairwise_cons.2 ⟨fun q hq => hw.asym x q (h2 q hq), h3.2.1⟩, fun p hp q hq => ?_⟩
  rcases List.mem_cons.1 hq with rfl | hq
  · exact h1 p hp
  · exact h3.2.2 p hp q hq
theorem isort_sorted (hw : Swo lt) (xs : List α) : Sorted lt (isort lt xs) := by
  induction xs using snoc_ind with
  | h0 => exact List.Pairwise.nil
  | h1 xs x ih => rw [isort_snoc]; exact ins_sorted hw ih
end order
end Srt
end Go.Proofs.Ytocmchlhbniloaa
namespace Go.Proofs.Ytocmchlhbniloaa
namespace Srt
open B
variable {α : Type} [Inhabited α]
theorem nth_app {A B : List α} {x : α} {i : Int} (h : A.length = i.toNat) : nth (A ++ x :: B) i = x := by
  simp [nth, List.getD, List.getElem?_append_right (show A.length ≤ i.toNat by omega), h]
theorem drop_cons {xs : List α} {n : Nat} (h : n < xs.length) : xs.drop n = nth xs (n : Int) :: xs.drop (n + 1) := by
  rw [List.drop_eq_getElem_cons h]
  simp [nth, List.getD, List.getElem?_eq_getElem h]
theorem take_snoc' {xs : List α} {k : Nat} (h : k < xs.length) : xs.take (k + 1) = xs.take k ++ [nth xs (k : Int)] := by
  rw [List.take_succ_eq_append_getElem h]
  simp [nth, List.getD, List.getElem?_eq_getElem h]
section order
variable (lt : α → α → Bool)
variable {lt}
variable (lt)
variable {lt}
end order
end Srt
end Go.Proofs.Ytocmchlhbniloaa
namespace Go.Proofs.Ytocmchlhbniloaa
namespace Srt
open B
variable {α : Type} [Inhabited α]
theorem nth_of {xs : List α} {k : Nat} {x : α} (h : xs[k]? = some x) : nth xs (k : Int) = x := by
  simp [nth, List.getD, h]
theorem nth_lt {xs : List α} {k : Nat} (h : k < xs.length) : xs[k]? = some (nth xs (k : Int)) := by
  simp [nth, List.getD, List.getElem?_eq_getElem h]
section order
variable {lt : α → α → Bool}
theorem Swo.pos (hw : Swo lt) {x y z : α} (h : lt x z = true) (h1 : lt x y = false) : lt y z = true := by
  cases h2 : lt y z with
  | true => rfl
  | false => have := hw.neg x y z h1 h2; rw [h] at this; cases this
section sym
variable {xs ys zs us : List α} {a s m e b mid : Nat}
end sym
variable {bs : Nat} {xs xs0 : List α} {a : Nat}
section pass
end pass
end order
end Srt
end Go.Proofs.Ytocmchlhbniloaa
namespace Go.Proofs.Ytocmchlhbniloaa
namespace B
open Srt
def bs (s : ByteArray) : List UInt8 := s.data.toList
def tx (l : List UInt8) : ByteArray := ⟨l.toArray⟩
theorem tx_bs (s : ByteArray) : tx (bs s) = s := by cases s; simp [bs, tx]
theorem bs_len (s : ByteArray) : (bs s).length = s.size := by simp [bs]
theorem bs_inj {s u : ByteArray} (h : bs s = bs u) : s = u := by rw [← tx_bs s, h, tx_bs]
theorem bs_extract (s : ByteArray) (i j : Nat) : bs (s.extract i j) = seg (bs s) i j := by
  simp [bs, seg, ByteArray.data_extract]
theorem byteAt_eq {s : ByteArray} {k : Nat} {b : UInt8} (h : (bs s)[k]? = some b) : byteAt s (k : Int) = b.toNat := by
  unfold byteAt
  have e : s.data.toList = bs s := rfl
  rw [e, Int.toNat_natCast, List.getD_eq_getElem?_getD, h]; rfl
theorem less_irr : ∀ x : List UInt8, Op.bytesLess x x = false
  | [] => rfl
  | a :: x => by
    rw [Op.bytesLess, less_irr x, Bool.and_false, Bool.or_false]
    simp
theorem u8_lt {a b : UInt8} : (decide (a < b) = true) ↔ a.toNat < b.toNat := by rw [decide_eq_true_eq]; exact UInt8.lt_iff_toNat_lt
theorem u8_eq {a b : UInt8} : ((a == b) = true) ↔ a.toNat = b.toNat := by rw [beq_iff_eq]; exact UInt8.toNat_inj.symm
theorem less_cons {a b : UInt8} {x y : List UInt8} : Op.bytesLess (a :: x) (b :: y) = true ↔ a.toNat < b.toNat ∨ (a.toNat = b.toNat ∧ Op.bytesLess x y = true) := by
  rw [Op.bytesLess, Bool.or_eq_true, Bool.and_eq_true, u8_lt, u8_eq]
theorem less_trans : ∀ {x y z : List UInt8}, Op.bytesLess x y = true → Op.bytesLess y z = true → Op.bytesLess x z = true
  | x, y, [], _, h => by cases y <;> simp [Op.bytesLess] at h
  | x, [], c :: z, h, _ => by cases x <;> simp [Op.bytesLess] at h
  | [], b :: y, c :: z, _, _ => by simp [Op.bytesLess]
  | a :: x, b :: y, c :: z, h1, h2 => by
    rw [less_cons] at h1 h2 ⊢
    rcases h1 with h1 | ⟨h1, h1'⟩
    · rcases h2 with h2 | ⟨h2, _⟩ <;> left <;> omega
    · rcases h2 with h2 | ⟨h2, h2'⟩
      · left; omega
      · exact .inr ⟨by omega, less_trans h1' h2'⟩
theorem less_tri : ∀ x y : List UInt8, Op.bytesLess x y = true ∨ x = y ∨ Op.bytesLess y x = true
  | [], [] => .inr (.inl rfl)
  | [], b :: y => .inl (by simp [Op.bytesLess])
  | a :: x, [] => .inr (.inr (by simp [Op.bytesLess]))
  | a :: x, b :: y => by
    rw [less_cons, less_cons]
    rcases Nat.lt_trichotomy a.toNat b.toNat with h | h | h
    · exact .inl (.inl h)
    · rcases less_tri x y with h' | h' | h'
      · exact .inl (.inr ⟨h, h'⟩)
      · exact .inr (.inl (by rw [UInt8.toNat_inj.1 h, h']))
      · exact .inr (.inr (.inr ⟨h.symm, h'⟩))
    · exact .inr (.inr (.inl h))
theorem toList_bs (s : ByteArray) : s.toList = bs s := ByteArray.toList_eq s
theorem ltT_irr (x : ByteArray) : ltT x x = false := less_irr _
theorem ltT_trans {x y z : ByteArray} (h1 : ltT x y = true) (h2 : ltT y z = true) : ltT x z = true := less_trans h1 h2
theorem ltT_tri (x y : ByteArray) : ltT x y = true ∨ x = y ∨ ltT y x = true := by
  rcases less_tri x.toList y.toList with h | h | h
  · exact .inl h
  · rw [toList_bs, toList_bs] at h; exact .inr (.inl (bs_inj h))
  · exact .inr (.inr h)
theorem ltT_asymm {x y : ByteArray} (h : ltT x y = true) : ltT y x = false := by
  cases hb : ltT y x with
  | false => rfl
  | true => have := ltT_trans h hb; rw [ltT_irr] at this; cases this
theorem leT_iff {x y : ByteArray} : leT x y = true ↔ ltT y x = false := by
  unfold leT
  rw [Bool.or_eq_true, eqT_iff]
  constructor
  · rintro (h | rfl)
    · exact ltT_asymm h
    · exact ltT_irr _
  · intro h
    rcases ltT_tri x y with h' | h' | h'
    · exact .inl h'
    · exact .inr h'
    · rw [h] at h'; cases h'
def rk (S : List ByteArray) (x : ByteArray) : Int := ((S.countP fun z => ltT z x : Nat) : Int)
theorem rk_lt {S : List ByteArray} {x y : ByteArray} (hx : x ∈ S) (h : ltT x y = true) : rk S x < rk S y := by
  unfold rk
  have key : ∀ L : List ByteArray, L.countP (fun z => ltT z x) ≤ L.countP (fun z => ltT z y) := fun L => List.countP_mono_left fun z _ hz => ltT_trans hz h
  have : S.countP (fun z => ltT z x) < S.countP (fun z => ltT z y) := by
    induction S with
    | nil => cases hx
    | cons a S ih =>
      rw [List.countP_cons, List.countP_cons]
      rcases List.mem_cons.1 hx with rfl | hx
      · rw [ltT_irr, h]
        have := key S
        simp; omega
      · have := ih hx
        cases ha : ltT a x with
        | false => simp; split <;> omega
        | true => rw [ltT_trans ha h]; simp; omega
  omega
theorem rk_iff {S : List ByteArray} {x y : ByteArray} (hx : x ∈ S) (hy : y ∈ S) : ltT x y = true ↔ rk S x < rk S y := by
  constructor
  · exact rk_lt hx
  · intro h
    rcases ltT_tri x y with h' | h' | h'
    · exact h'
    · subst h'; omega
    · have := rk_lt hy h'; omega
theorem rk_le {S : List ByteArray} {x y : ByteArray} (hx : x ∈ S) (hy : y ∈ S) : leT x y = true ↔ rk S x ≤ rk S y := by
  rw [leT_iff, ← Bool.not_eq_true, rk_iff hy hx]; omega
theorem rk_inj {S : List ByteArray} {x y : ByteArray} (hx : x ∈ S) (hy : y ∈ S) (h : rk S x = rk S y) : x = y := by
  rcases ltT_tri x y with h' | h' | h'
  · have := rk_lt hx h'; omega
  · exact h'
  · have := rk_lt hy h'; omega
theorem maxT_mem {S : List ByteArray} {x y : ByteArray} (hx : x ∈ S) (hy : y ∈ S) : maxT x y ∈ S ∧ rk S (maxT x y) = max (rk S x) (rk S y) := by
  unfold maxT
  split
  · rename_i h; rw [rk_iff hx hy] at h; exact ⟨hy, by omega⟩
  · rename_i h; rw [rk_iff hx hy] at h; exact ⟨hx, by omega⟩
def cmpT (x y : ByteArray) : Int := if ltT x y = true then -1 else if ltT y x = true then 1 else 0
def inB (n : Int) : Bool := decide (128 ≤ n) && decide (n ≤ 191)
def inU (b : UInt8) : Bool := inB (b.toNat : Int)
def tw (s : ByteArray) (k : Nat) : Nat := (((bs s).drop k).takeWhile inU).length
def endF (s : ByteArray) (at' : Nat) : Nat := at' + 1 + tw s (at' + 1)
theorem tw_step {s : ByteArray} {k : Nat} (h : k < s.size) (hb : inB (byteAt s (k : Int)) = true) : k + tw s k = k + 1 + tw s (k + 1) := by
  obtain ⟨b, hk⟩ : ∃ b, (bs s)[k]? = some b := ⟨_, List.getElem?_eq_getElem (by rw [bs_len]; exact h)⟩
  have hd : (bs s).drop k = b :: (bs s).drop (k + 1) := by
    have hlt : k < (bs s).length := by rw [bs_len]; exact h
    rw [List.drop_eq_getElem_cons hlt]
    rw [List.getElem?_eq_getElem hlt] at hk
    cases hk; rfl
  unfold tw
  have hb' : inU b = true := by unfold inU; rw [← byteAt_eq hk]; exact hb
  rw [hd, List.takeWhile_cons, if_pos hb', List.length_cons]; omega
theorem tw_stop {s : ByteArray} {k : Nat} (h : s.size ≤ k ∨ inB (byteAt s (k : Int)) = false) : tw s k = 0 := by
  unfold tw
  by_cases hk : k < s.size
  · have hlt : k < (bs s).length := by rw [bs_len]; exact hk
    rw [List.drop_eq_getElem_cons hlt]
    have hb : inB (byteAt s (k : Int)) = false := h.resolve_left (by omega)
    rw [byteAt_eq (List.getElem?_eq_getElem hlt)] at hb
    rw [List.takeWhile_cons, if_neg (by unfold inU; rw [hb]; decide)]; rfl
  · rw [List.drop_of_length_le (by rw [bs_len]; omega)]; rfl
def properB (s : ByteArray) : Bool := match bs s with
  | [] => false
  | b :: l => !inU b && l.all inU
theorem all_tw {l : List UInt8} : (l.takeWhile inU).length = l.length ↔ l.all inU = true := by
  induction l with
  | nil => simp
  | cons b l ih =>
    rw [List.takeWhile_cons, List.all_cons]
    cases hb : inU b with
    | false => simp
    | true => simp [ih]
theorem proper_eq (s : ByteArray) : ((!eqT s (⟨#[]⟩ : ByteArray) && !inB (byteAt s (0 : Int))) && decide ((endF s 0 : Int) = (s.size : Int))) = properB s := by
  have hl := bs_len s
  have e0 : eqT s (⟨#[]⟩ : ByteArray) = decide (bs s = []) := eqT_eq s _
  have et : endF s 0 = 1 + (((bs s).drop 1).takeWhile inU).length := by unfold endF tw; simp
  unfold properB
  rw [e0, et]
  cases hb : bs s with
  | nil => simp
  | cons b l =>
    have e1 : byteAt s (0 : Int) = b.toNat := byteAt_eq (k := 0) (by rw [hb]; rfl)
    rw [e1]
    rw [hb] at hl
    simp only [List.length_cons] at hl
    have e2 : decide (((1 + ((List.drop 1 (b :: l)).takeWhile inU).length : Nat) : Int) = (s.size : Int)) = l.all inU := by
      rw [Bool.eq_iff_iff, decide_eq_true_eq, ← all_tw]
      simp only [List.drop_succ_cons, List.drop_zero]
      omega
    rw [e2]
    simp [inU]
def leadB (n : Int) : Bool := decide (n < 128) || decide (191 < n)
theorem lead_eq (n : Int) : leadB n = !inB n := by
  unfold leadB inB
  by_cases h1 : n < 128 <;> by_cases h2 : 191 < n <;> simp [h1, h2] <;> omega
def spStep (s : ByteArray) (st : List ByteArray × Nat) (i : Nat) : List ByteArray × Nat :=
  if (decide ((i : Int) = (s.size : Int)) || leadB (byteAt s (i : Int))) = true then (st.1 ++ [s.extract st.2 i], i) else st
def spS (s : ByteArray) : Nat → List ByteArray × Nat
  | 0 => ([], 0)
  | k + 1 => spStep s (spS s k) (k + 1)
def splitF (s : ByteArray) : List ByteArray := (spS s s.size).1
theorem spS_from (s : ByteArray) (k : Nat) : (spS s k).2 ≤ k := by
  induction k with
  | zero => exact Nat.le_refl _
  | succ k ih =>
    rw [spS, spStep]
    split
    · exact Nat.le_refl _
    · exact Nat.le_succ_of_le ih
theorem spS_len (s : ByteArray) (k : Nat) : (spS s k).1.length ≤ k := by
  induction k with
  | zero => exact Nat.le_refl _
  | succ k ih =>
    rw [spS, spStep]
    split
    · simp only [List.length_append, List.length_cons, List.length_nil]; omega
    · exact Nat.le_succ_of_le ih
theorem spS_one {s : ByteArray} {k : Nat} (hk : k < s.size) : (spS s k).1 = [] ↔ ∀ i, 1 ≤ i → i ≤ k → inB (byteAt s (i : Int)) = true := by
  induction k with
  | zero => constructor
            · intro _ i h1 h2; omega
            · intro _; rfl
  | succ k ih =>
    have ih := ih (by omega)
    rw [spS, spStep, lead_eq, decide_eq_false (by omega), Bool.false_or]
    cases hb : inB (byteAt s ((k + 1 : Nat) : Int)) with
    | false =>
      simp only [Bool.not_false, if_true]
      constructor
      · intro h; simp at h
      · intro h; have := h (k + 1) (by omega) (by omega); rw [hb] at this; cases this
    | true =>
      simp only [Bool.not_true, Bool.false_eq_true, if_false]
      rw [ih]
      constructor
      · intro h i h1 h2
        by_cases e : i = k + 1
        · subst e; exact hb
        · exact h i h1 (by omega)
      · intro h i h1 h2; exact h i h1 (by omega)
theorem splitF_one {s : ByteArray} (h : 0 < s.size) : (splitF s).length = 1 ↔ ∀ i, 1 ≤ i → i < s.size → inB (byteAt s (i : Int)) = true := by
  unfold splitF
  obtain ⟨k, hk⟩ : ∃ k, s.size = k + 1 := ⟨s.size - 1, by omega⟩
  rw [hk, spS, spStep, decide_eq_true (by omega), Bool.true_or, if_pos rfl, List.length_append]
  have h1 := spS_one (s := s) (k := k) (by omega)
  constructor
  · intro hl i h2 h3
    have : (spS s k).1 = [] := List.eq_nil_of_length_eq_zero (by simp only [List.length_cons, List.length_nil] at hl; omega)
    exact h1.1 this i h2 (by omega)
  · intro hq
    rw [h1.2 fun i h2 h3 => hq i h2 (by omega)]; rfl
theorem refProper_eq (s : ByteArray) : ((decide ((0 : Int) < (s.size : Int)) && leadB (byteAt s (0 : Int))) && decide (((splitF s).length : Int) = 1)) = properB s := by
  have hl := bs_len s
  unfold properB
  cases hb : bs s with
  | nil => rw [hb] at hl; simp at hl; rw [decide_eq_false (by omega)]; simp
  | cons b l =>
    rw [hb] at hl
    simp only [List.length_cons] at hl
    have e1 : byteAt s (0 : Int) = b.toNat := byteAt_eq (k := 0) (by rw [hb]; rfl)
    rw [decide_eq_true (by omega), Bool.true_and, e1, lead_eq]
    congr 1
    rw [Bool.eq_iff_iff, decide_eq_true_eq, List.all_eq_true]
    have h1 := splitF_one (s := s) (by omega)
    constructor
    · intro h x hx
      obtain ⟨i, hi, rfl⟩ := List.getElem_of_mem hx
      have := h1.1 (by omega) (i + 1) (by omega) (by omega)
      rw [byteAt_eq (k := i + 1) (b := l[i]) (by rw [hb, List.getElem?_cons_succ, List.getElem?_eq_getElem hi])] at this
      exact this
    · intro h
      have : (splitF s).length = 1 := h1.2 fun i h2 h3 => by
        match i, h2 with
        | j + 1, _ =>
          have hj : j < l.length := by omega
          rw [byteAt_eq (k := j + 1) (b := l[j]) (by rw [hb, List.getElem?_cons_succ, List.getElem?_eq_getElem hj])]
          exact h _ (List.getElem_mem hj)
      omega
def foldU (b : UInt8) : UInt8 := if (decide ((65 : Int) ≤ (b.toNat : Int)) && decide ((b.toNat : Int) ≤ 90)) = true then UInt8.ofNat (IntKind.u8.wrap ((b.toNat : Int) + 32)).toNat else b
def foldT (s : ByteArray) : ByteArray := ⟨((bs s).map foldU).toArray⟩
theorem u8w (n : Int) : 0 ≤ IntKind.u8.wrap n ∧ IntKind.u8.wrap n ≤ 255 := by
  simp [IntKind.wrap, IntKind.signed, IntKind.bits]; omega
def mapTo (f : UInt8 → UInt8) (xs : List UInt8) (k : Nat) : List UInt8 := (xs.take k).map f ++ xs.drop k
theorem mapTo_len (f : UInt8 → UInt8) (xs : List UInt8) (k : Nat) : (mapTo f xs k).length = xs.length := by
  simp [mapTo]; omega
theorem mapTo_nth {f : UInt8 → UInt8} {xs : List UInt8} {k : Nat} (h : k < xs.length) : nth (mapTo f xs k) (k : Int) = nth xs (k : Int) := by
  unfold mapTo
  rw [drop_cons h]
  exact nth_app (by simp; omega)
theorem mapTo_hit {f : UInt8 → UInt8} {xs : List UInt8} {k : Nat} (h : k < xs.length) {v : UInt8} (hv : f (nth xs (k : Int)) = v) : mapTo f xs (k + 1) = (mapTo f xs k).set (k : Int).toNat v := by
  unfold mapTo
  rw [drop_cons h, take_snoc' h, Int.toNat_natCast, List.map_append]
  have hl : (List.map f (xs.take k)).length = k := by simp; omega
  rw [List.set_append_right _ _ (by omega), hl, Nat.sub_self]
  simp [hv]
theorem mapTo_miss {f : UInt8 → UInt8} {xs : List UInt8} {k : Nat} (h : k < xs.length) (hv : f (nth xs (k : Int)) = nth xs (k : Int)) : mapTo f xs (k + 1) = mapTo f xs k := by
  unfold mapTo
  rw [drop_cons h, take_snoc' h, List.map_append]
  simp [hv]
theorem mapTo_zero (f : UInt8 → UInt8) (xs : List UInt8) : mapTo f xs 0 = xs := by simp [mapTo]
theorem mapTo_all {f : UInt8 → UInt8} {xs : List UInt8} {k : Nat} (h : xs.length ≤ k) : mapTo f xs k = xs.map f := by
  unfold mapTo
  rw [List.take_of_length_le h, List.drop_of_length_le h, List.append_nil]
end B
end Go.Proofs.Ytocmchlhbniloaa
namespace Go.Proofs.Ytocmchlhbniloaa
namespace B
open Go.RowKit
theorem mixed : Try.prog.follows .mixedOrders = true := by kernel_rfl
def touchB (p q : Int × Int) : Bool := decide (max p.1 q.1 ≤ min p.2 q.2)
def cmpI (x y : Int) : Int := if x < y then -1 else if y < x then 1 else 0
def orF (xs : List Int) : Int := (xs.find? (fun x => x != 0)).getD 0
def cmpS (p q : Int × Int) : Int := orF [cmpI p.1 q.1, cmpI p.2 q.2]
def lowF (x n : Int) : Int := IntKind.i64.wrap ((IntKind.u64.wrap x).tmod (IntKind.u64.wrap n))
theorem u64_pos {n : Int} (h : 0 < n) (h2 : n ≤ 9223372036854775807) : IntKind.u64.wrap n ≠ 0 := by
  have : IntKind.u64.wrap n = n := by simp [IntKind.wrap, IntKind.signed, IntKind.bits]; omega
  omega
theorem take_snoc {α : Type} [Inhabited α] {xs : List α} {k : Nat} (h : k < xs.length) : xs.take (k + 1) = xs.take k ++ [nth xs k] := by
  rw [List.take_succ_eq_append_getElem h]
  simp [nth, List.getD, List.getElem?_eq_getElem h]
theorem take_same {α : Type} [Inhabited α] {xs ys : List α} {k : Nat} (h : k < xs.length) (h' : k < ys.length) (hq : xs.take k = ys.take k) (h0 : nth xs (k : Int) = nth ys (k : Int)) : xs.take (k + 1) = ys.take (k + 1) := by
  rw [take_snoc h, take_snoc h', hq, h0]
theorem differ {α : Type} [Inhabited α] {xs ys : List α} {i : Int} (h : ¬ nth xs i = nth ys i) : ¬ xs = ys := fun e => h (by rw [e])
theorem all_same {α : Type} {xs ys : List α} {k : Nat} (hl : xs.length = ys.length) (hk : k ≤ xs.length) (hq : xs.take k = ys.take k) (h : (xs.length : Int) ≤ k) : xs = ys := by
  rwa [List.take_of_length_le (by omega), List.take_of_length_le (by omega)] at hq
theorem tn (m i : Nat) : ((m : Int) - (i : Int)).toNat = m - i := by omega
set_option maxRecDepth 100000 in
theorem low_c (x n : Int) (w : World) (hn : 0 < n) (hn2 : n ≤ 9223372036854775807) : Calls Try.prog 21 #[.int .i64 x, .int .i64 n] w (fun e w' => e = .returned (.int .i64 (lowF x n)) ∧ Ext none' w w') := by
 refine enter (n := 11) Try.func21 rfl rfl (Nat.le_of_ble_eq_true rfl) ?_
 intro a0 τ0 ha st0
 have e0 : get a0 0 = (.int .i64 (x)) := ha 0 _ rfl
 have e1 : get a0 1 = (.int .i64 (n)) := ha 1 _ rfl
 clear ha
 refine wp_seq ?_
 refine region_St (bf := [0]) (sp := [det _ 4 _]) [] mixed st0 (by kernel_rfl) trivial
  ⟨Ob.d fun c => r_assign rfl rfl, trivial⟩ ?_
 intro a1 w1 τ1 st1 f1
 obtain ⟨e0, e1, -⟩ := f1.ks [(0, _), (1, _)] ⟨e0, e1, trivial⟩
 have e4 : get a1 4 = (.int .i64 (0)) := f1.v 0 rfl
 clear f1
 show Code.wp _ _ _ a1 w1
 refine wp_seq ?_
 refine region_St (bf := [0, 1, 0, 4, 15, 31, 63]) (sp := [det _ 5 _, det _ 6 _, det _ 7 _, det _ 8 _, det _ 9 _, det _ 10 _, det _ 4 _]) [] mixed st1 (by kernel_rfl) trivial
  ⟨Ob.d fun c => r_move rfl (c.p e0),
  Ob.d fun c => r_conv rfl Try.underlying3 Try.underlying52 (c.n 0 rfl),
  Ob.d fun c => r_move rfl (c.p e1),
  Ob.d fun c => r_conv rfl Try.underlying3 Try.underlying52 (c.n 2 rfl),
  Ob.d fun c => r_rem rfl (c.n 1 rfl) (c.n 3 rfl) (by exact u64_pos hn hn2),
  Ob.d fun c => r_conv rfl Try.underlying52 Try.underlying3 (c.n 4 rfl),
  Ob.d fun c => r_assign rfl (c.n 5 rfl), trivial⟩ ?_
 intro a2 w2 τ2 st2 f2
 have e4 : get a2 4 = (.int .i64 (IntKind.i64.wrap ((IntKind.u64.wrap (x)).tmod (IntKind.u64.wrap (n))))) := f2.v 6 rfl
 clear f2
 show Code.wp _ _ _ a2 w2
 refine wp_ret ?_
 repeat (first | with_reducible refine then_ret ?_ | with_reducible refine block_ret ?_)
 refine ret1 (fn := Try.f21) rfl st2.defers e4 ?_
 exact ⟨rfl, st2.ext0⟩
end B
end Go.Proofs.Ytocmchlhbniloaa
namespace Go.Proofs.Ytocmchlhbniloaa
namespace B
structure Sv where
  a : Option Addr
  l : Nat
  c : Nat
def Sv.v (s : Sv) : Value := .slice s.a s.l s.c
def Sv.nil : Sv := ⟨none, 0, 0⟩
structure Tr where
  k : Int
  ch : ByteArray
  ng : Bool
  rv : Sv
  rows : List (ByteArray × ByteArray)
  mn : Int
  mx : Int
  lz : Bool
  kv : Sv
  kids : List Tr
instance : Inhabited Tr := ⟨⟨0, ⟨#[]⟩, false, Sv.nil, [], 0, 0, false, Sv.nil, []⟩⟩
theorem Tr.kid_lt {t k : Tr} (h : k ∈ t.kids) : SizeOf.sizeOf k < SizeOf.sizeOf t := by
  have := List.sizeOf_lt_of_mem h
  cases t
  simp at this ⊢
  omega
theorem Tr.ind {P : Tr → Prop} (h : ∀ t, (∀ k ∈ t.kids, P k) → P t) (t : Tr) : P t := h t fun k hk => Tr.ind h k
termination_by SizeOf.sizeOf t
decreasing_by exact Tr.kid_lt hk
def TrE : Enc Tr := ⟨fun t => [.int .i64 t.k, .string t.ch, .bool t.ng, t.rv.v, .int .i64 t.mn, .int .i64 t.mx, .bool t.lz, t.kv.v], 8, by decide, fun _ => rfl, fun x u hu => by
  simp at hu; rcases hu with rfl | rfl | rfl | rfl | rfl | rfl | rfl | rfl <;> rfl⟩
def Tr.v (t : Tr) : Value := .agg #[.int .i64 t.k, .string t.ch, .bool t.ng, t.rv.v, .int .i64 t.mn, .int .i64 t.mx, .bool t.lz, t.kv.v]
inductive TrT (F : Foot) (w : World) : Tr → Prop
  | mk {t : Tr} : SlT RowE w t.rv.v t.rows → (t.rows ≠ [] → F (ptrOf t.rv.v).block) → SlT TrE w t.kv.v t.kids → (t.kids ≠ [] → F (ptrOf t.kv.v).block) → (∀ k ∈ t.kids, TrT F w k) → TrT F w t
section
variable {F F' : Foot} {w w' : World} {t : Tr}
theorem TrT.rows (h : TrT F w t) : SlT RowE w t.rv.v t.rows := by cases h; assumption
theorem TrT.rowsF (h : TrT F w t) : t.rows ≠ [] → F (ptrOf t.rv.v).block := by cases h; assumption
theorem TrT.kids (h : TrT F w t) : SlT TrE w t.kv.v t.kids := by cases h; assumption
theorem TrT.kidsF (h : TrT F w t) : t.kids ≠ [] → F (ptrOf t.kv.v).block := by cases h; assumption
theorem TrT.kid (h : TrT F w t) {k : Tr} (hk : k ∈ t.kids) : TrT F w k := by cases h; rename_i h; exact h k hk
theorem TrT.keep (h : TrT F w t) {M : Nat → Prop} (he : Ext M w w') (hm : ∀ g, F g → ¬ M g) : TrT F w' t := by
  induction t using Tr.ind with
  | h t ih => exact .mk (h.rows.keep he fun hn => hm _ (h.rowsF hn)) h.rowsF (h.kids.keep he fun hn => hm _ (h.kidsF hn)) h.kidsF fun k hk => ih k hk (h.kid hk)
theorem TrT.mono (h : TrT F w t) (hf : ∀ g, F g → g < w.heap.size → F' g) : TrT F' w t := by
  induction t using Tr.ind with
  | h t ih => exact .mk h.rows (fun hn => hf _ (h.rowsF hn) (h.rows.lt hn)) h.kids (fun hn => hf _ (h.kidsF hn) (h.kids.lt hn)) fun k hk => ih k hk (h.kid hk)
def TrS (w : World) (t : Tr) : Prop := TrT (fun g => g < w.heap.size) w t
theorem TrT.s (h : TrT F w t) : TrS w t := h.mono fun _ _ h => h
theorem TrS.at (h : TrS w t) (he : Ext (Nw w) w w') : TrS w' t := (TrT.keep h he fun g hg hn => by simp only [Nw] at hn; omega).s
theorem TrS.keep (h : TrS w t) (he : Ext none' w w') : TrS w' t := (TrT.keep h he fun _ _ hn => hn).s
structure TlS (w : World) (v : Value) (ts : List Tr) : Prop where
  sl : SlT TrE w v ts
  all : ∀ t ∈ ts, TrS w t
theorem TrS.tl (h : TrS w t) : TlS w t.kv.v t.kids := ⟨h.kids, fun k hk => (h.kid hk)⟩
theorem TlS.el {v : Value} {ts : List Tr} (h : TlS w v ts) {i : Int} (h0 : 0 ≤ i) (h1 : i < ts.length) : TrS w (nth ts i) := h.all _ (by
  obtain ⟨k, rfl⟩ : ∃ k : Nat, i = (k : Int) := ⟨i.toNat, by omega⟩
  have hk : k < ts.length := by omega
  have : nth ts (k : Int) = ts[k] := by simp [B.nth, List.getD, List.getElem?_eq_getElem hk]
  rw [this]; exact List.getElem_mem hk)
end
mutual
def er : Tr → Tr
  | ⟨k, ch, ng, _, rows, mn, mx, lz, _, kids⟩ => ⟨k, ch, ng, Sv.nil, rows, mn, mx, lz, Sv.nil, ers kids⟩
def ers : List Tr → List Tr
  | [] => []
  | t :: ts => er t :: ers ts
end
theorem ers_map (ts : List Tr) : ers ts = ts.map er := by
  induction ts with
  | nil => rfl
  | cons t ts ih => rw [ers, ih]; rfl
theorem er_kids (t : Tr) : (er t).kids = t.kids.map er := by cases t; simp [er, ers_map]
theorem er_eq (t : Tr) : er t = ⟨t.k, t.ch, t.ng, Sv.nil, t.rows, t.mn, t.mx, t.lz, Sv.nil, t.kids.map er⟩ := by cases t; simp [er, ers_map]
theorem er_er (t : Tr) : er (er t) = er t := by
  induction t using Tr.ind with
  | h t ih =>
    rw [er_eq t, er_eq]
    congr 1
    rw [List.map_map]
    exact List.map_congr_left fun k hk => ih k hk
end B
end Go.Proofs.Ytocmchlhbniloaa
namespace Go.Proofs.Ytocmchlhbniloaa
namespace Srt
open B
theorem take_snocP {α : Type} [Inhabited α] {xs : List α} {k : Nat} (h : k < xs.length) : xs.take (k + 1) = xs.take k ++ [nth xs (k : Int)] := take_snoc' h
theorem down_step {α : Type} [Inhabited α] {lt : α → α → Bool} {x : α} {out : List α} {k : Nat} (h : 0 < k) (hk : k ≤ out.length) (hq : ∀ q ∈ out.drop k, lt x q = true) (hc : lt x (nth out ((k : Int) - 1)) = true) : ∀ q ∈ out.drop (k - 1), lt x q = true := by
  rw [drop_cons (show k - 1 < out.length by omega), show k - 1 + 1 = k by omega]
  intro q hm
  rcases List.mem_cons.1 hm with rfl | hm
  · rwa [show ((k - 1 : Nat) : Int) = (k : Int) - 1 by omega]
  · exact hq q hm
theorem insRef {α : Type} [Inhabited α] {lt : α → α → Bool} {O : List α} {x : α} {k : Nat} (hk : k ≤ O.length) (hq : ∀ q ∈ O.drop k, lt x q = true)
    (hc : (decide ((0 : Int) < (k : Int)) && lt x (nth O ((k : Int) - 1))) = false) :
    ins lt x O = (([] ++ (O.drop 0).take (k - 0)) ++ [x]) ++ (O.drop k).take (O.length - k) := by
  have e : O = O.take k ++ O.drop k := (List.take_append_drop k O).symm
  conv => lhs; rw [e]
  rw [ins_split hq]
  · rw [List.take_of_length_le (l := O.drop k) (by simp)]; simp
  · intro p hp
    by_cases h0 : k = 0
    · subst h0; simp at hp
    · have hlast : (O.take k).getLast? = some (nth O ((k : Int) - 1)) := by
        have := take_snocP (xs := O) (k := k - 1) (by omega)
        rw [show k - 1 + 1 = k by omega] at this
        rw [this, List.getLast?_append, show ((k - 1 : Nat) : Int) = (k : Int) - 1 by omega]; rfl
      rw [hlast] at hp
      cases hp
      have h1 : decide ((0 : Int) < (k : Int)) = true := decide_eq_true (by omega)
      rw [h1, Bool.true_and] at hc
      exact hc
end Srt
end Go.Proofs.Ytocmchlhbniloaa
namespace Go.Proofs.Ytocmchlhbniloaa
namespace B
open Srt
theorem TlS.at {w w' : World} {v : Value} {ts : List Tr} (h : TlS w v ts) (he : Ext (Nw w) w w') : TlS w' v ts :=
  ⟨h.sl.keep he fun hn hk => (by have := h.sl.lt hn; simp only [Nw] at hk; omega), fun t ht => (h.all t ht).at he⟩
theorem nth_memI {α : Type} [Inhabited α] {xs : List α} {i : Int} (h0 : 0 ≤ i) (h1 : i < xs.length) : nth xs i ∈ xs := by
  obtain ⟨k, rfl⟩ : ∃ k : Nat, i = (k : Int) := ⟨i.toNat, by omega⟩
  exact List.mem_of_getElem? (nth_lt (by omega))
def sumL (xs : List Int) : Int := xs.foldl (· + ·) 0
theorem sumL_snoc (xs : List Int) (x : Int) : sumL (xs ++ [x]) = sumL xs + x := by simp [sumL]
theorem sumL_pos {xs : List Int} (h : ∀ x ∈ xs, 0 ≤ x) : 0 ≤ sumL xs := by
  induction xs using snoc_ind with
  | h0 => exact Int.le_refl _
  | h1 xs x ih =>
    rw [sumL_snoc]
    have := ih fun y hy => h y (by simp [hy])
    have := h x (by simp)
    omega
theorem sumL_app (xs ys : List Int) : sumL (xs ++ ys) = sumL xs + sumL ys := by
  induction ys using snoc_ind with
  | h0 => simp [sumL]
  | h1 ys y ih => rw [← List.append_assoc, sumL_snoc, ih, sumL_snoc]; omega
theorem sumL_le {xs : List Int} (h : ∀ x ∈ xs, 0 ≤ x) (k : Nat) : 0 ≤ sumL (xs.take k) ∧ sumL (xs.take k) ≤ sumL xs := by
  have h1 : 0 ≤ sumL (xs.take k) := sumL_pos fun x hx => h x (List.mem_of_mem_take hx)
  have h2 : 0 ≤ sumL (xs.drop k) := sumL_pos fun x hx => h x (List.mem_of_mem_drop hx)
  have h3 := sumL_app (xs.take k) (xs.drop k)
  rw [List.take_append_drop] at h3
  omega
theorem sumL_mem {xs : List Int} (h : ∀ x ∈ xs, 0 ≤ x) {x : Int} (hx : x ∈ xs) : x ≤ sumL xs := by
  obtain ⟨A, B, rfl⟩ := List.append_of_mem hx
  rw [show A ++ x :: B = (A ++ [x]) ++ B by simp, sumL_app, sumL_snoc]
  have h1 : 0 ≤ sumL A := sumL_pos fun y hy => h y (by simp [hy])
  have h2 : 0 ≤ sumL B := sumL_pos fun y hy => h y (by simp [hy])
  omega
section
variable {β : Type}
mutual
def foldF (g : Tr → List β → β) : Tr → β
  | ⟨k, ch, ng, rv, rows, mn, mx, lz, kv, kids⟩ => g ⟨k, ch, ng, rv, rows, mn, mx, lz, kv, kids⟩ (foldL g kids)
def foldL (g : Tr → List β → β) : List Tr → List β
  | [] => []
  | t :: ts => foldF g t :: foldL g ts
end
theorem foldL_map (g : Tr → List β → β) (ts : List Tr) : foldL g ts = ts.map (foldF g) := by
  induction ts with
  | nil => rfl
  | cons t ts ih => rw [foldL, ih]; rfl
theorem foldF_eq (g : Tr → List β → β) (t : Tr) : foldF g t = g t (t.kids.map (foldF g)) := by cases t; simp [foldF, foldL_map]
theorem foldF_er {g : Tr → List β → β} (hg : ∀ t l, g (er t) l = g t l) (t : Tr) : foldF g (er t) = foldF g t := by
  induction t using Tr.ind with
  | h t ih =>
    rw [foldF_eq, foldF_eq g t, er_kids, List.map_map, hg]
    congr 1
    exact List.map_congr_left ih
end
def partsF : Tr → Int := foldF fun _ l => 1 + sumL l
theorem partsF_eq (t : Tr) : partsF t = 1 + sumL (t.kids.map partsF) := foldF_eq _ t
def grpB (t : Tr) : Bool := decide (t.k = 5) || decide (t.k = 6)
def groupsF : Tr → Int := foldF fun t l => (if t.k = 5 then 1 else 0) + sumL l
theorem groupsF_eq (t : Tr) : groupsF t = (if t.k = 5 then 1 else 0) + sumL (t.kids.map groupsF) := foldF_eq _ t
def maxL (xs : List Int) : Int := xs.foldl max 0
theorem maxL_snoc (xs : List Int) (x : Int) : maxL (xs ++ [x]) = max (maxL xs) x := by simp [maxL]
def deepF : Tr → Int := foldF fun t l => maxL l + if grpB t = true then 1 else 0
theorem deepF_eq (t : Tr) : deepF t = maxL (t.kids.map deepF) + if grpB t = true then 1 else 0 := foldF_eq _ t
theorem partsF_pos (t : Tr) : 1 ≤ partsF t := by
  induction t using Tr.ind with
  | h t ih =>
    rw [partsF_eq]
    have : 0 ≤ sumL (t.kids.map partsF) := sumL_pos fun x hx => by
      obtain ⟨k, hk, rfl⟩ := List.mem_map.1 hx
      have := ih k hk; omega
    omega
theorem er_k (t : Tr) : (er t).k = t.k := by cases t; rfl
theorem partsF_er (t : Tr) : partsF (er t) = partsF t := foldF_er (fun _ _ => rfl) t
theorem groupsF_er (t : Tr) : groupsF (er t) = groupsF t := foldF_er (fun t l => by simp only [er_k]) t
theorem deepF_er (t : Tr) : deepF (er t) = deepF t := foldF_er (fun t l => by rw [show grpB (er t) = grpB t by unfold grpB; rw [er_k]]) t
theorem maxL_pos (xs : List Int) : 0 ≤ maxL xs := by
  induction xs using snoc_ind with
  | h0 => exact Int.le_refl _
  | h1 xs x ih => rw [maxL_snoc]; omega
theorem maxL_le {xs : List Int} {n : Int} (h0 : 0 ≤ n) (h : ∀ x ∈ xs, x ≤ n) : maxL xs ≤ n := by
  induction xs using snoc_ind with
  | h0 => exact h0
  | h1 xs x ih =>
    rw [maxL_snoc]
    have := ih fun y hy => h y (by simp [hy])
    have := h x (by simp)
    omega
theorem maxL_mem {xs : List Int} {x : Int} (h : x ∈ xs) : x ≤ maxL xs := by
  induction xs using snoc_ind with
  | h0 => cases h
  | h1 xs y ih =>
    rw [maxL_snoc]
    rcases List.mem_append.1 h with h | h
    · have := ih h; omega
    · simp at h; subst h; omega
theorem maxL_step {f : Tr → Int} {ts : List Tr} {k : Nat} (h : k < ts.length) : maxL ((ts.take (k + 1)).map f) = max (maxL ((ts.take k).map f)) (f (nth ts (k : Int))) := by
  rw [take_snoc h, List.map_append, List.map_cons, List.map_nil, maxL_snoc]
theorem groupsF_bound (t : Tr) : 0 ≤ groupsF t ∧ groupsF t ≤ partsF t := by
  induction t using Tr.ind with
  | h t ih =>
    rw [groupsF_eq, partsF_eq]
    have h1 : ∀ ks : List Tr, (∀ k ∈ ks, 0 ≤ groupsF k ∧ groupsF k ≤ partsF k) → 0 ≤ sumL (ks.map groupsF) ∧ sumL (ks.map groupsF) ≤ sumL (ks.map partsF) := by
      intro ks
      induction ks using snoc_ind with
      | h0 => intro _; exact ⟨Int.le_refl _, Int.le_refl _⟩
      | h1 ks x ih2 =>
        intro h
        rw [List.map_append, List.map_append, List.map_cons, List.map_nil, List.map_cons, List.map_nil, sumL_snoc, sumL_snoc]
        have := ih2 fun k hk => h k (by simp [hk])
        have := h x (by simp)
        omega
    have := h1 t.kids ih
    split <;> omega
theorem deepF_bound (t : Tr) : 0 ≤ deepF t ∧ deepF t ≤ partsF t := by
  induction t using Tr.ind with
  | h t ih =>
    rw [deepF_eq, partsF_eq]
    have hp : ∀ k ∈ t.kids, 0 ≤ partsF k := fun k _ => by have := partsF_pos k; omega
    have h0 := maxL_pos (t.kids.map deepF)
    have h1 : maxL (t.kids.map deepF) ≤ sumL (t.kids.map partsF) := maxL_le (sumL_pos fun x hx => by obtain ⟨k, hk, rfl⟩ := List.mem_map.1 hx; exact hp k hk) fun x hx => by
      obtain ⟨k, hk, rfl⟩ := List.mem_map.1 hx
      have := (ih k hk).2
      have : partsF k ≤ sumL (t.kids.map partsF) := sumL_mem (fun x hx => by obtain ⟨k, hk, rfl⟩ := List.mem_map.1 hx; exact hp k hk) (List.mem_map.2 ⟨k, hk, rfl⟩)
      omega
    split <;> omega
def ixF {α : Type} (f : α → Bool) (xs : List α) : Int := if xs.any f = true then ((xs.takeWhile fun y => !f y).length : Int) else -1
theorem ix_hit {α : Type} [Inhabited α] {f : α → Bool} {xs : List α} {k : Nat} (h : k < xs.length) (hq : ∀ y ∈ xs.take k, f y = false) (hc : f (nth xs (k : Int)) = true) : ixF f xs = (k : Int) := by
  unfold ixF
  rw [if_pos (List.any_eq_true.2 ⟨_, nth_memI (by omega) (by omega), hc⟩)]
  have e : xs = xs.take k ++ nth xs (k : Int) :: xs.drop (k + 1) := by rw [← drop_cons h, List.take_append_drop]
  have e2 : xs.takeWhile (fun y => !f y) = xs.take k := by
    conv => lhs; rw [e]
    rw [List.takeWhile_append_of_pos (fun y hy => by rw [hq y hy]; rfl), List.takeWhile_cons, if_neg (by rw [hc]; decide), List.append_nil]
  rw [e2, List.length_take]; omega
theorem ix_miss {α : Type} [Inhabited α] {f : α → Bool} {xs : List α} {k : Nat} (h : xs.length ≤ k) (hq : ∀ y ∈ xs.take k, f y = false) : ixF f xs = -1 := by
  rw [List.take_of_length_le h] at hq
  unfold ixF
  rw [if_neg]
  rw [List.any_eq_true]
  rintro ⟨y, hy, hf⟩
  rw [hq y hy] at hf; cases hf
theorem ix_step {α : Type} [Inhabited α] {f : α → Bool} {xs : List α} {k : Nat} (h : k < xs.length) (hq : ∀ y ∈ xs.take k, f y = false) (hc : f (nth xs (k : Int)) = false) : ∀ y ∈ xs.take (k + 1), f y = false := by
  rw [take_snoc h]
  intro y hy
  rcases List.mem_append.1 hy with hy | hy
  · exact hq y hy
  · simp at hy; rw [hy]; exact hc
theorem ix_any {α : Type} (f : α → Bool) (xs : List α) : decide (0 ≤ ixF f xs) = xs.any f := by
  unfold ixF
  cases xs.any f <;> simp
theorem nth_map' {α β : Type} [Inhabited α] [Inhabited β] {f : α → β} {xs : List α} {k : Nat} (h : k < xs.length) : nth (xs.map f) (k : Int) = f (nth xs (k : Int)) :=
  nth_of (by rw [List.getElem?_map, nth_lt h]; rfl)
open Classical in
noncomputable def sameF (a b : Tr) : Bool := decide (er a = er b)
open Classical in
noncomputable def samesF (a b : List Tr) : Bool := decide (a.map er = b.map er)
theorem sameF_iff {a b : Tr} : sameF a b = true ↔ er a = er b := by simp [sameF]
theorem samesF_iff {a b : List Tr} : samesF a b = true ↔ a.map er = b.map er := by simp [samesF]
theorem sameF_parts (a b : Tr) : sameF a b = true ↔ a.k = b.k ∧ a.ch = b.ch ∧ a.ng = b.ng ∧ a.rows = b.rows ∧ a.mn = b.mn ∧ a.mx = b.mx ∧ a.lz = b.lz ∧ samesF a.kids b.kids = true := by
  rw [sameF_iff, er_eq a, er_eq b, samesF_iff]
  constructor
  · intro h; injection h with h1 h2 h3 h4 h5 h6 h7 h8 h9 h10; exact ⟨h1, h2, h3, h5, h6, h7, h8, h10⟩
  · rintro ⟨h1, h2, h3, h5, h6, h7, h8, h10⟩; rw [h1, h2, h3, h5, h6, h7, h8, h10]
theorem samesF_len {ts us : List Tr} (h : ¬ (ts.length : Int) = us.length) : samesF ts us = false := by
  rw [← Bool.not_eq_true, samesF_iff]
  intro e
  have := congrArg List.length e
  simp at this
  omega
theorem samesF_no {ts us : List Tr} {k : Nat} (h : k < ts.length) (h2 : k < us.length) (hd : sameF (nth ts (k : Int)) (nth us (k : Int)) = false) : samesF ts us = false := by
  rw [← Bool.not_eq_true, samesF_iff]
  intro e
  have e1 := congrArg (fun l => nth l (k : Int)) e
  simp only [nth_map' h, nth_map' h2] at e1
  rw [sameF_iff.2 e1] at hd; cases hd
theorem samesF_yes {ts us : List Tr} {k : Nat} (hl : ts.length = us.length) (h : ts.length ≤ k) (hq : (ts.take k).map er = (us.take k).map er) : samesF ts us = true := by
  rw [List.take_of_length_le h, List.take_of_length_le (by omega)] at hq
  exact samesF_iff.2 hq
theorem samesF_step {ts us : List Tr} {k : Nat} (h : k < ts.length) (h2 : k < us.length) (hq : (ts.take k).map er = (us.take k).map er) (hd : sameF (nth ts (k : Int)) (nth us (k : Int)) = true) : (ts.take (k + 1)).map er = (us.take (k + 1)).map er := by
  rw [take_snoc h, take_snoc h2, List.map_append, List.map_append, hq, List.map_cons, List.map_cons, sameF_iff.1 hd, List.map_nil]
theorem sameF_self (a : Tr) : sameF a a = true := sameF_iff.2 rfl
theorem sum_step {f : Tr → Int} {ts : List Tr} {k : Nat} (h : k < ts.length) : sumL ((ts.take (k + 1)).map f) = sumL ((ts.take k).map f) + f (nth ts (k : Int)) := by
  rw [take_snoc h, List.map_append, List.map_cons, List.map_nil, sumL_snoc]
theorem sum_le {f : Tr → Int} {ts : List Tr} (hf : ∀ t ∈ ts, 0 ≤ f t) (k : Nat) : 0 ≤ sumL ((ts.take k).map f) ∧ sumL ((ts.take k).map f) ≤ sumL (ts.map f) := by
  rw [List.map_take]
  exact sumL_le (fun x hx => by obtain ⟨t, ht, rfl⟩ := List.mem_map.1 hx; exact hf t ht) k
theorem sum_mem {f : Tr → Int} {ts : List Tr} (hf : ∀ t ∈ ts, 0 ≤ f t) {t : Tr} (ht : t ∈ ts) : f t ≤ sumL (ts.map f) :=
  sumL_mem (fun x hx => by obtain ⟨t, ht, rfl⟩ := List.mem_map.1 hx; exact hf t ht) (List.mem_map.2 ⟨t, ht, rfl⟩)
end B
end Go.Proofs.Ytocmchlhbniloaa
namespace Go.Proofs.Ytocmchlhbniloaa
namespace B
open Go.RowKit
open Srt
set_option maxRecDepth 100000 in
theorem parts_c_step (t : Tr) (ih : ∀ k ∈ t.kids, ∀ (w : World), TrS w k → partsF k ≤ 1000000000 → Calls Try.prog 19 #[k.v] w (fun e w' => e = .returned (.int .i64 (partsF k)) ∧ Ext none' w w')) (w : World) (hT : TrS w t) (hy0 : partsF t ≤ 1000000000) : Calls Try.prog 19 #[t.v] w (fun e w' => e = .returned (.int .i64 (partsF t)) ∧ Ext none' w w') := by
 refine enter (n := 19) Try.func19 rfl rfl (Nat.le_of_ble_eq_true rfl) ?_
 intro a0 τ0 ha st0
 have e0 : get a0 0 = (.agg #[(.int .i64 (t.k)), (.string (t.ch)), (.bool (t.ng)), t.rv.v, (.int .i64 (t.mn)), (.int .i64 (t.mx)), (.bool (t.lz)), t.kv.v]) := ha 0 _ rfl
 clear ha
 have hle := hT.kids.le
 have hf0 : ∀ q ∈ t.kids, 0 ≤ partsF q := fun q _ => by have := partsF_pos q; omega
 have hpe := partsF_eq t
 refine wp_seq ?_
 refine region_St (bf := [0, 0]) (sp := [box _ _ 0 1 [(.int .i64 (t.k)), (.string (t.ch)), (.bool (t.ng)), t.rv.v, (.int .i64 (t.mn)), (.int .i64 (t.mx)), (.bool (t.lz)), t.kv.v], det _ 2 _]) [] mixed st0 (by kernel_rfl) trivial
  ⟨Ob.box (v := (.agg #[(.int .i64 (t.k)), (.string (t.ch)), (.bool (t.ng)), t.rv.v, (.int .i64 (t.mn)), (.int .i64 (t.mx)), (.bool (t.lz)), t.kv.v])) rfl rfl rfl rfl rfl (fun _ _ _ _ c => (c.p e0)),
  Ob.d fun c => r_assign rfl rfl, trivial⟩ ?_
 intro a1 w1 τ1 st1 f1
 obtain ⟨b1x1, e1⟩ : ∃ b, get a1 1 = b := ⟨_, rfl⟩
 have e2 : get a1 2 = (.int .i64 (0)) := f1.v 1 rfl
 have r0 : boxR 25 [(.int .i64 (t.k)), (.string (t.ch)), (.bool (t.ng)), t.rv.v, (.int .i64 (t.mn)), (.int .i64 (t.mx)), (.bool (t.lz)), t.kv.v] (τ1 0) b1x1 w1 := f1.rb 0 e1 rfl
 clear f1
 show Code.wp _ _ _ a1 w1
 refine wp_seq ?_
 refine region_St (bf := [0]) (sp := [det _ 3 _]) [ib r0] mixed st1 (by kernel_rfl) ⟨r0, trivial⟩
  ⟨Ob.d fun c => r_assign rfl rfl, trivial⟩ ?_
 intro a2 w2 τ2 st2 f2
 obtain ⟨e1, e2, -⟩ := f2.ks [(1, _), (2, _)] ⟨e1, e2, trivial⟩
 have e3 : get a2 3 = (.int .i64 (1)) := f2.v 0 rfl
 replace r0 := f2.ib 0 rfl
 clear f2
 show Code.wp _ _ _ a2 w2
 refine wp_seq ?_
 refine wp_seq ?_
 refine region_St (bf := [0, 1, 3, 0]) (sp := [det _ 6 _, det _ 7 _, det _ 8 _, det _ 9 _]) [ib r0] mixed st2 (by kernel_rfl) ⟨r0, trivial⟩
  ⟨Ob.d fun c => r_fieldAddr rfl Try.underlying25 rfl rfl Try.sizeOf23 ((c.p e1).trans r0.ptr),
  Ob.d fun c => r_load1 rfl Try.isAgg23 (c.n 0 rfl) ((c.ib 0 rfl).cell (j := 7) rfl),
  Ob.d fun c => r_len rfl Try.underlying23 (c.n 1 rfl) (hT.at st2.ext).tl.sl.sl,
  Ob.d fun c => r_move rfl rfl, trivial⟩ ?_
 intro a3 w3 τ3 st3 f3
 obtain ⟨e2, e3, -⟩ := f3.ks [(2, _), (3, _)] ⟨e2, e3, trivial⟩
 have e7 : get a3 7 = t.kv.v := f3.v 1 rfl
 have e8 : get a3 8 = (.int .i64 ((t.kids.length : Int))) := f3.v 2 rfl
 have e9 : get a3 9 = (.int .i64 (0)) := f3.v 3 rfl
 clear f3
 show Code.wp _ _ _ a3 w3
 refine wp_block ?_
 refine wp_loop (fun a_ w_ => ∃ (k : Nat) (τ : Nat → Foot), (k ≤ t.kids.length) ∧
      St (Nw w) w 19 a_ w_ τ ∧
      get a_ 3 = (.int .i64 (1 + sumL ((t.kids.take k).map partsF))) ∧
      get a_ 9 = (.int .i64 ((k : Int))) ∧
      get a_ 2 = (.int .i64 (0)) ∧
      get a_ 7 = t.kv.v ∧
      get a_ 8 = (.int .i64 ((t.kids.length : Int)))) (fun a_ _ => t.kids.length - (intOf (get a_ 9)).toNat) ?_ ?_
 · refine ⟨0, τ3, ?_, st3, (e3.trans (int_eq (by first | omega | rfl | (rw [sum_step (by omega)]; omega)))), (e9.trans (int_eq (by first | omega | rfl | (rw [sum_step (by omega)]; omega)))), e2, e7, e8⟩
   · omega
 intro a4 w4 hI
 obtain ⟨k, τ4, q0, st4, e3, e9, e2, e7, e8⟩ := hI
 have hsl := sum_le (f := partsF) hf0 k
 have hss : k < t.kids.length → partsF (nth t.kids (k : Int)) ≤ sumL (t.kids.map partsF) ∧ sumL ((t.kids.take (k + 1)).map partsF) = sumL ((t.kids.take k).map partsF) + partsF (nth t.kids (k : Int)) := fun h_ => ⟨sum_mem hf0 (nth_memI (by omega) (by omega)), sum_step h_⟩
 have hs2 := sum_le (f := partsF) hf0 (k + 1)
 have m9 := e9
 refine wp_seq ?_
 refine region_St (bf := [0]) (sp := [det _ 10 _]) [] mixed st4 (by kernel_rfl) trivial
  ⟨Ob.d fun c => r_lss rfl (c.p e9) (c.p e8), trivial⟩ ?_
 intro a5 w5 τ5 st5 f5
 obtain ⟨e2, e3, e7, e8, e9, -⟩ := f5.ks [(2, _), (3, _), (7, _), (8, _), (9, _)] ⟨e2, e3, e7, e8, e9, trivial⟩
 have e10 : get a5 10 = (.bool (decide ((k : Int) < (t.kids.length : Int)))) := f5.v 0 rfl
 clear f5
 show Code.wp _ _ _ a5 w5
 refine wp_seq ?_
 refine wp_cond_split (t := decide ((k : Int) < (t.kids.length : Int))) e10 (fun hc1 => ?_) (fun hc1 => ?_)
 · try simp only [decide_eq_true_eq] at hc1
   refine wp_skip ?_
   show Code.wp _ _ _ a5 w5
   refine wp_seq ?_
   refine wp_block ?_
   refine wp_seq ?_
   refine region_St (bf := [0, 1, 0, 7]) (sp := [det _ 11 _, det _ 12 _, box _ _ 0 5 [(.int .i64 (0)), (.string ((⟨#[]⟩ : ByteArray))), (.bool (false)), (.slice none 0 0), (.int .i64 (0)), (.int .i64 (0)), (.bool (false)), (.slice none 0 0)], box _ _ 0 5 [(.int .i64 ((nth t.kids ((k : Int))).k)), (.string ((nth t.kids ((k : Int))).ch)), (.bool ((nth t.kids ((k : Int))).ng)), (nth t.kids ((k : Int))).rv.v, (.int .i64 ((nth t.kids ((k : Int))).mn)), (.int .i64 ((nth t.kids ((k : Int))).mx)), (.bool ((nth t.kids ((k : Int))).lz)), (nth t.kids ((k : Int))).kv.v]]) [] mixed st5 (by kernel_rfl) trivial
    ⟨Ob.d fun c => r_indexAddr rfl Try.underlying23 Try.sizeOf25 (c.p e7) (hT.at st5.ext).tl.sl.sl (c.p e9) (by omega) (by omega),
    Ob.d fun c => r_loadN (vs := [(.int .i64 ((nth t.kids ((k : Int))).k)), (.string ((nth t.kids ((k : Int))).ch)), (.bool ((nth t.kids ((k : Int))).ng)), (nth t.kids ((k : Int))).rv.v, (.int .i64 ((nth t.kids ((k : Int))).mn)), (.int .i64 ((nth t.kids ((k : Int))).mx)), (.bool ((nth t.kids ((k : Int))).lz)), (nth t.kids ((k : Int))).kv.v]) rfl Try.isAgg25 Try.sizeOf25 (c.n 0 rfl) rfl (fun _ _ hj => ((hT.at (st5.ext.trans c.J.ext)).tl.sl).elem (nth_some (i := (k : Int)) (by omega) (by omega)) hj),
    Ob.alloc rfl rfl rfl rfl Try.zeroValue25 rfl,
    Ob.storeBox (off := 0) (v := (.agg #[(.int .i64 ((nth t.kids ((k : Int))).k)), (.string ((nth t.kids ((k : Int))).ch)), (.bool ((nth t.kids ((k : Int))).ng)), (nth t.kids ((k : Int))).rv.v, (.int .i64 ((nth t.kids ((k : Int))).mn)), (.int .i64 ((nth t.kids ((k : Int))).mx)), (.bool ((nth t.kids ((k : Int))).lz)), (nth t.kids ((k : Int))).kv.v])) rfl rfl rfl rfl Try.sizeOf25 (Nat.le_of_ble_eq_true rfl) (by simp [Value.cells, Value.oneCell', Sv.v]) rfl (fun _ _ _ _ c => ⟨c.rb 2 rfl, (c.rb 2 rfl).ptr, (c.n 1 rfl)⟩), trivial⟩ ?_
   intro a6 w6 τ6 st6 f6
   obtain ⟨b6x5, e5⟩ : ∃ b, get a6 5 = b := ⟨_, rfl⟩
   obtain ⟨e2, e3, e7, e8, e9, e10, -⟩ := f6.ks [(2, _), (3, _), (7, _), (8, _), (9, _), (10, _)] ⟨e2, e3, e7, e8, e9, e10, trivial⟩
   have r0 : boxR 25 [(.int .i64 ((nth t.kids ((k : Int))).k)), (.string ((nth t.kids ((k : Int))).ch)), (.bool ((nth t.kids ((k : Int))).ng)), (nth t.kids ((k : Int))).rv.v, (.int .i64 ((nth t.kids ((k : Int))).mn)), (.int .i64 ((nth t.kids ((k : Int))).mx)), (.bool ((nth t.kids ((k : Int))).lz)), (nth t.kids ((k : Int))).kv.v] (τ6 0) b6x5 w6 := f6.rb 3 e5 rfl
   clear f6
   show Code.wp _ _ _ a6 w6
   refine region_St (bf := [0, 0, 2, 7, 15]) (sp := [det _ 13 _, det _ 14 _, det _ 15 _, det _ 16 _, det _ 3 _]) [ib r0] mixed st6 (by kernel_rfl) ⟨r0, trivial⟩
    ⟨Ob.d fun c => r_move rfl (c.p e3),
    Ob.d fun c => r_loadN (vs := [(.int .i64 ((nth t.kids ((k : Int))).k)), (.string ((nth t.kids ((k : Int))).ch)), (.bool ((nth t.kids ((k : Int))).ng)), (nth t.kids ((k : Int))).rv.v, (.int .i64 ((nth t.kids ((k : Int))).mn)), (.int .i64 ((nth t.kids ((k : Int))).mx)), (.bool ((nth t.kids ((k : Int))).lz)), (nth t.kids ((k : Int))).kv.v]) rfl Try.isAgg25 Try.sizeOf25 ((c.p e5).trans r0.ptr) rfl (fun _ _ hj => (c.ib 0 rfl).cell hj),
    Ob.c fun c => ⟨_, _, (e_call1 rfl rfl Try.call19 (c.n 1 rfl)), ih _ (nth_memI (by omega) (by omega)) _ ((hT.at (st6.ext.trans c.J.ext)).tl.el (by omega) (by omega)) (by omega)⟩,
    Ob.d fun c => r_add rfl (c.n 0 rfl) (c.n 2 rfl) (by omega),
    Ob.d fun c => r_assign rfl (c.n 3 rfl), trivial⟩ ?_
   intro a7 w7 τ7 st7 f7
   obtain ⟨e2, e5, e7, e8, e9, e10, -⟩ := f7.ks [(2, _), (5, _), (7, _), (8, _), (9, _), (10, _)] ⟨e2, e5, e7, e8, e9, e10, trivial⟩
   have e3 : get a7 3 = (.int .i64 (1 + sumL ((t.kids.take k).map partsF) + (partsF (nth t.kids ((k : Int)))))) := f7.v 4 rfl
   replace r0 := f7.ib 0 rfl
   clear f7
   show _
   show Code.wp _ _ _ a7 w7
   refine region_St (bf := [0, 1]) (sp := [det _ 17 _, det _ 9 _]) [ib r0] mixed st7 (by kernel_rfl) ⟨r0, trivial⟩
    ⟨Ob.d fun c => r_add rfl (c.p e9) rfl (by omega),
    Ob.d fun c => r_move rfl (c.n 0 rfl), trivial⟩ ?_
   intro a8 w8 τ8 st8 f8
   obtain ⟨e2, e3, e5, e7, e8, e10, -⟩ := f8.ks [(2, _), (3, _), (5, _), (7, _), (8, _), (10, _)] ⟨e2, e3, e5, e7, e8, e10, trivial⟩
   have e9 : get a8 9 = (.int .i64 ((k : Int) + 1)) := f8.v 1 rfl
   replace r0 := f8.ib 0 rfl
   clear f8
   refine ⟨⟨k + 1, τ8, ?_, st8, (e3.trans (int_eq (by first | omega | rfl | (rw [sum_step (by omega)]; omega)))), (e9.trans (int_eq (by first | omega | rfl | (rw [sum_step (by omega)]; omega)))), e2, e7, e8⟩, ?_⟩
   · omega
   · simp only [m9, e9, intOf]; omega
 try simp only [decide_eq_false_iff_not, Int.not_lt] at hc1
 refine wp_exit ?_
 repeat (with_reducible refine then_exit ?_)
 refine exit_here ?_
 show Code.wp _ _ _ a5 w5
 refine wp_seq ?_
 refine region_St (bf := [0, 1]) (sp := [det _ 18 _, det _ 2 _]) [] mixed st5 (by kernel_rfl) trivial
  ⟨Ob.d fun c => r_move rfl (c.p e3),
  Ob.d fun c => r_assign rfl (c.n 0 rfl), trivial⟩ ?_
 intro a9 w9 τ9 st9 f9
 have e2 : get a9 2 = (.int .i64 (1 + sumL ((t.kids.take k).map partsF))) := f9.v 1 rfl
 clear f9
 show Code.wp _ _ _ a9 w9
 refine wp_ret ?_
 repeat (first | with_reducible refine then_ret ?_ | with_reducible refine block_ret ?_)
 refine ret1 (fn := Try.f19) rfl st9.defers e2 ?_
 have htk : sumL ((t.kids.take k).map partsF) = sumL (t.kids.map partsF) := by rw [List.take_of_length_le (by omega)]
 exact ⟨congrArg _ (int_eq (by omega)), st9.ext0⟩
theorem parts_c (t : Tr) : ∀ (w : World), TrS w t → partsF t ≤ 1000000000 → Calls Try.prog 19 #[t.v] w (fun e w' => e = .returned (.int .i64 (partsF t)) ∧ Ext none' w w') := Tr.ind (P := fun t => ∀ (w : World), TrS w t → partsF t ≤ 1000000000 → Calls Try.prog 19 #[t.v] w (fun e w' => e = .returned (.int .i64 (partsF t)) ∧ Ext none' w w')) parts_c_step t
set_option maxRecDepth 100000 in
theorem groups_c_step (t : Tr) (ih : ∀ k ∈ t.kids, ∀ (w : World), TrS w k → partsF k ≤ 1000000000 → Calls Try.prog 26 #[k.v] w (fun e w' => e = .returned (.int .i64 (groupsF k)) ∧ Ext none' w w')) (w : World) (hT : TrS w t) (hy0 : partsF t ≤ 1000000000) : Calls Try.prog 26 #[t.v] w (fun e w' => e = .returned (.int .i64 (groupsF t)) ∧ Ext none' w w') := by
 refine enter (n := 22) Try.func26 rfl rfl (Nat.le_of_ble_eq_true rfl) ?_
 intro a0 τ0 ha st0
 have e0 : get a0 0 = (.agg #[(.int .i64 (t.k)), (.string (t.ch)), (.bool (t.ng)), t.rv.v, (.int .i64 (t.mn)), (.int .i64 (t.mx)), (.bool (t.lz)), t.kv.v]) := ha 0 _ rfl
 clear ha
 have hle := hT.kids.le
 have hf0 : ∀ q ∈ t.kids, 0 ≤ groupsF q := fun q _ => (groupsF_bound q).1
 have hf1 : ∀ q ∈ t.kids, 0 ≤ partsF q := fun q _ => by have := partsF_pos q; omega
 have hgb := groupsF_bound t
 have hpe := groupsF_eq t
 have hpm : ∀ k : Nat, k < t.kids.length → partsF (nth t.kids (k : Int)) ≤ 1000000000 := fun k h_ => by
   have h1_ := sum_mem hf1 (nth_memI (xs := t.kids) (i := (k : Int)) (by omega) (by omega))
   have h2_ := partsF_eq t
   omega
 refine wp_seq ?_
 refine region_St (bf := [0, 0]) (sp := [box _ _ 0 1 [(.int .i64 (t.k)), (.string (t.ch)), (.bool (t.ng)), t.rv.v, (.int .i64 (t.mn)), (.int .i64 (t.mx)), (.bool (t.lz)), t.kv.v], det _ 2 _]) [] mixed st0 (by kernel_rfl) trivial
  ⟨Ob.box (v := (.agg #[(.int .i64 (t.k)), (.string (t.ch)), (.bool (t.ng)), t.rv.v, (.int .i64 (t.mn)), (.int .i64 (t.mx)), (.bool (t.lz)), t.kv.v])) rfl rfl rfl rfl rfl (fun _ _ _ _ c => (c.p e0)),
  Ob.d fun c => r_assign rfl rfl, trivial⟩ ?_
 intro a1 w1 τ1 st1 f1
 obtain ⟨b1x1, e1⟩ : ∃ b, get a1 1 = b := ⟨_, rfl⟩
 have e2 : get a1 2 = (.int .i64 (0)) := f1.v 1 rfl
 have r0 : boxR 25 [(.int .i64 (t.k)), (.string (t.ch)), (.bool (t.ng)), t.rv.v, (.int .i64 (t.mn)), (.int .i64 (t.mx)), (.bool (t.lz)), t.kv.v] (τ1 0) b1x1 w1 := f1.rb 0 e1 rfl
 clear f1
 show Code.wp _ _ _ a1 w1
 refine wp_seq ?_
 refine region_St (bf := [0]) (sp := [det _ 3 _]) [ib r0] mixed st1 (by kernel_rfl) ⟨r0, trivial⟩
  ⟨Ob.d fun c => r_assign rfl rfl, trivial⟩ ?_
 intro a2 w2 τ2 st2 f2
 obtain ⟨e1, e2, -⟩ := f2.ks [(1, _), (2, _)] ⟨e1, e2, trivial⟩
 have e3 : get a2 3 = (.int .i64 (0)) := f2.v 0 rfl
 replace r0 := f2.ib 0 rfl
 clear f2
 show Code.wp _ _ _ a2 w2
 refine wp_seq ?_
 refine wp_seq ?_
 refine region_St (bf := [0, 1, 3]) (sp := [det _ 6 _, det _ 7 _, det _ 8 _]) [ib r0] mixed st2 (by kernel_rfl) ⟨r0, trivial⟩
  ⟨Ob.d fun c => r_fieldAddr rfl Try.underlying25 rfl rfl Try.sizeOf3 ((c.p e1).trans r0.ptr),
  Ob.d fun c => r_load1 rfl Try.isAgg3 (c.n 0 rfl) ((c.ib 0 rfl).cell (j := 0) rfl),
  Ob.d fun c => r_eql rfl (c.n 1 rfl) rfl, trivial⟩ ?_
 intro a3 w3 τ3 st3 f3
 obtain ⟨e1, e2, e3, -⟩ := f3.ks [(1, _), (2, _), (3, _)] ⟨e1, e2, e3, trivial⟩
 have e8 : get a3 8 = (.bool (decide (t.k = 5))) := f3.v 2 rfl
 replace r0 := f3.ib 0 rfl
 clear f3
 show Code.wp _ _ _ a3 w3
 refine wp_cond_split (t := decide (t.k = 5)) e8 (fun hc1 => ?_) (fun hc1 => ?_)
 · try simp only [decide_eq_true_eq] at hc1
   refine region_St (bf := [0]) (sp := [det _ 3 _]) [ib r0] mixed st3 (by kernel_rfl) ⟨r0, trivial⟩
    ⟨Ob.d fun c => r_assign rfl rfl, trivial⟩ ?_
   intro a4 w4 τ4 st4 f4
   obtain ⟨e1, e2, -⟩ := f4.ks [(1, _), (2, _)] ⟨e1, e2, trivial⟩
   have e3 : get a4 3 = (.int .i64 (1)) := f4.v 0 rfl
   replace r0 := f4.ib 0 rfl
   clear f4
   show Code.wp _ _ _ a4 w4
   refine wp_seq ?_
   refine wp_seq ?_
   refine region_St (bf := [0, 1, 3, 0]) (sp := [det _ 9 _, det _ 10 _, det _ 11 _, det _ 12 _]) [ib r0] mixed st4 (by kernel_rfl) ⟨r0, trivial⟩
    ⟨Ob.d fun c => r_fieldAddr rfl Try.underlying25 rfl rfl Try.sizeOf23 ((c.p e1).trans r0.ptr),
    Ob.d fun c => r_load1 rfl Try.isAgg23 (c.n 0 rfl) ((c.ib 0 rfl).cell (j := 7) rfl),
    Ob.d fun c => r_len rfl Try.underlying23 (c.n 1 rfl) (hT.at st4.ext).tl.sl.sl,
    Ob.d fun c => r_move rfl rfl, trivial⟩ ?_
   intro a5 w5 τ5 st5 f5
   obtain ⟨e2, e3, -⟩ := f5.ks [(2, _), (3, _)] ⟨e2, e3, trivial⟩
   have e10 : get a5 10 = t.kv.v := f5.v 1 rfl
   have e11 : get a5 11 = (.int .i64 ((t.kids.length : Int))) := f5.v 2 rfl
   have e12 : get a5 12 = (.int .i64 (0)) := f5.v 3 rfl
   clear f5
   show Code.wp _ _ _ a5 w5
   refine wp_block ?_
   refine wp_loop (fun a_ w_ => ∃ (k : Nat) (τ : Nat → Foot), (k ≤ t.kids.length) ∧
          St (Nw w) w 22 a_ w_ τ ∧
          get a_ 3 = (.int .i64 ((if t.k = 5 then 1 else 0) + sumL ((t.kids.take k).map groupsF))) ∧
          get a_ 12 = (.int .i64 ((k : Int))) ∧
          get a_ 2 = (.int .i64 (0)) ∧
          get a_ 10 = t.kv.v ∧
          get a_ 11 = (.int .i64 ((t.kids.length : Int)))) (fun a_ _ => t.kids.length - (intOf (get a_ 12)).toNat) ?_ ?_
   · refine ⟨0, τ5, ?_, st5, (e3.trans (int_eq (by first | omega | (rw [if_pos (by assumption)]; rfl) | (rw [if_neg (by assumption)]; rfl)))), (e12.trans (int_eq (by first | omega | (rw [if_pos (by assumption)]; rfl) | (rw [if_neg (by assumption)]; rfl)))), e2, e10, e11⟩
     · omega
   intro a6 w6 hI
   obtain ⟨k, τ6, q0, st6, e3, e12, e2, e10, e11⟩ := hI
   have hsl := sum_le (f := groupsF) hf0 k
   have hss : k < t.kids.length → groupsF (nth t.kids (k : Int)) ≤ sumL (t.kids.map groupsF) ∧ sumL ((t.kids.take (k + 1)).map groupsF) = sumL ((t.kids.take k).map groupsF) + groupsF (nth t.kids (k : Int)) := fun h_ => ⟨sum_mem hf0 (nth_memI (by omega) (by omega)), sum_step h_⟩
   have hs2 := sum_le (f := groupsF) hf0 (k + 1)
   have hpk := hpm k
   have hsp : (0 : Int) ≤ (if t.k = 5 then 1 else 0) ∧ (if t.k = 5 then (1 : Int) else 0) ≤ 1 := by split <;> omega
   have m12 := e12
   refine wp_seq ?_
   refine region_St (bf := [0]) (sp := [det _ 13 _]) [] mixed st6 (by kernel_rfl) trivial
    ⟨Ob.d fun c => r_lss rfl (c.p e12) (c.p e11), trivial⟩ ?_
   intro a7 w7 τ7 st7 f7
   obtain ⟨e2, e3, e10, e11, e12, -⟩ := f7.ks [(2, _), (3, _), (10, _), (11, _), (12, _)] ⟨e2, e3, e10, e11, e12, trivial⟩
   have e13 : get a7 13 = (.bool (decide ((k : Int) < (t.kids.length : Int)))) := f7.v 0 rfl
   clear f7
   show Code.wp _ _ _ a7 w7
   refine wp_seq ?_
   refine wp_cond_split (t := decide ((k : Int) < (t.kids.length : Int))) e13 (fun hc2 => ?_) (fun hc2 => ?_)
   · try simp only [decide_eq_true_eq] at hc2
     refine wp_skip ?_
     show Code.wp _ _ _ a7 w7
     refine wp_seq ?_
     refine wp_block ?_
     refine wp_seq ?_
     refine region_St (bf := [0, 1, 0, 7]) (sp := [det _ 14 _, det _ 15 _, box _ _ 0 5 [(.int .i64 (0)), (.string ((⟨#[]⟩ : ByteArray))), (.bool (false)), (.slice none 0 0), (.int .i64 (0)), (.int .i64 (0)), (.bool (false)), (.slice none 0 0)], box _ _ 0 5 [(.int .i64 ((nth t.kids ((k : Int))).k)), (.string ((nth t.kids ((k : Int))).ch)), (.bool ((nth t.kids ((k : Int))).ng)), (nth t.kids ((k : Int))).rv.v, (.int .i64 ((nth t.kids ((k : Int))).mn)), (.int .i64 ((nth t.kids ((k : Int))).mx)), (.bool ((nth t.kids ((k : Int))).lz)), (nth t.kids ((k : Int))).kv.v]]) [] mixed st7 (by kernel_rfl) trivial
      ⟨Ob.d fun c => r_indexAddr rfl Try.underlying23 Try.sizeOf25 (c.p e10) (hT.at st7.ext).tl.sl.sl (c.p e12) (by omega) (by omega),
      Ob.d fun c => r_loadN (vs := [(.int .i64 ((nth t.kids ((k : Int))).k)), (.string ((nth t.kids ((k : Int))).ch)), (.bool ((nth t.kids ((k : Int))).ng)), (nth t.kids ((k : Int))).rv.v, (.int .i64 ((nth t.kids ((k : Int))).mn)), (.int .i64 ((nth t.kids ((k : Int))).mx)), (.bool ((nth t.kids ((k : Int))).lz)), (nth t.kids ((k : Int))).kv.v]) rfl Try.isAgg25 Try.sizeOf25 (c.n 0 rfl) rfl (fun _ _ hj => ((hT.at (st7.ext.trans c.J.ext)).tl.sl).elem (nth_some (i := (k : Int)) (by omega) (by omega)) hj),
      Ob.alloc rfl rfl rfl rfl Try.zeroValue25 rfl,
      Ob.storeBox (off := 0) (v := (.agg #[(.int .i64 ((nth t.kids ((k : Int))).k)), (.string ((nth t.kids ((k : Int))).ch)), (.bool ((nth t.kids ((k : Int))).ng)), (nth t.kids ((k : Int))).rv.v, (.int .i64 ((nth t.kids ((k : Int))).mn)), (.int .i64 ((nth t.kids ((k : Int))).mx)), (.bool ((nth t.kids ((k : Int))).lz)), (nth t.kids ((k : Int))).kv.v])) rfl rfl rfl rfl Try.sizeOf25 (Nat.le_of_ble_eq_true rfl) (by simp [Value.cells, Value.oneCell', Sv.v]) rfl (fun _ _ _ _ c => ⟨c.rb 2 rfl, (c.rb 2 rfl).ptr, (c.n 1 rfl)⟩), trivial⟩ ?_
     intro a8 w8 τ8 st8 f8
     obtain ⟨b8x5, e5⟩ : ∃ b, get a8 5 = b := ⟨_, rfl⟩
     obtain ⟨e2, e3, e10, e11, e12, e13, -⟩ := f8.ks [(2, _), (3, _), (10, _), (11, _), (12, _), (13, _)] ⟨e2, e3, e10, e11, e12, e13, trivial⟩
     have r0 : boxR 25 [(.int .i64 ((nth t.kids ((k : Int))).k)), (.string ((nth t.kids ((k : Int))).ch)), (.bool ((nth t.kids ((k : Int))).ng)), (nth t.kids ((k : Int))).rv.v, (.int .i64 ((nth t.kids ((k : Int))).mn)), (.int .i64 ((nth t.kids ((k : Int))).mx)), (.bool ((nth t.kids ((k : Int))).lz)), (nth t.kids ((k : Int))).kv.v] (τ8 0) b8x5 w8 := f8.rb 3 e5 rfl
     clear f8
     show Code.wp _ _ _ a8 w8
     refine region_St (bf := [0, 0, 2, 7, 15]) (sp := [det _ 16 _, det _ 17 _, det _ 18 _, det _ 19 _, det _ 3 _]) [ib r0] mixed st8 (by kernel_rfl) ⟨r0, trivial⟩
      ⟨Ob.d fun c => r_move rfl (c.p e3),
      Ob.d fun c => r_loadN (vs := [(.int .i64 ((nth t.kids ((k : Int))).k)), (.string ((nth t.kids ((k : Int))).ch)), (.bool ((nth t.kids ((k : Int))).ng)), (nth t.kids ((k : Int))).rv.v, (.int .i64 ((nth t.kids ((k : Int))).mn)), (.int .i64 ((nth t.kids ((k : Int))).mx)), (.bool ((nth t.kids ((k : Int))).lz)), (nth t.kids ((k : Int))).kv.v]) rfl Try.isAgg25 Try.sizeOf25 ((c.p e5).trans r0.ptr) rfl (fun _ _ hj => (c.ib 0 rfl).cell hj),
      Ob.c fun c => ⟨_, _, (e_call1 rfl rfl Try.call26 (c.n 1 rfl)), ih _ (nth_memI (by omega) (by omega)) _ ((hT.at (st8.ext.trans c.J.ext)).tl.el (by omega) (by omega)) (by omega)⟩,
      Ob.d fun c => r_add rfl (c.n 0 rfl) (c.n 2 rfl) (by omega),
      Ob.d fun c => r_assign rfl (c.n 3 rfl), trivial⟩ ?_
     intro a9 w9 τ9 st9 f9
     obtain ⟨e2, e5, e10, e11, e12, e13, -⟩ := f9.ks [(2, _), (5, _), (10, _), (11, _), (12, _), (13, _)] ⟨e2, e5, e10, e11, e12, e13, trivial⟩
     have e3 : get a9 3 = (.int .i64 ((if t.k = 5 then 1 else 0) + sumL ((t.kids.take k).map groupsF) + (groupsF (nth t.kids ((k : Int)))))) := f9.v 4 rfl
     replace r0 := f9.ib 0 rfl
     clear f9
     show _
     show Code.wp _ _ _ a9 w9
     refine region_St (bf := [0, 1]) (sp := [det _ 20 _, det _ 12 _]) [ib r0] mixed st9 (by kernel_rfl) ⟨r0, trivial⟩
      ⟨Ob.d fun c => r_add rfl (c.p e12) rfl (by omega),
      Ob.d fun c => r_move rfl (c.n 0 rfl), trivial⟩ ?_
     intro a10 w10 τ10 st10 f10
     obtain ⟨e2, e3, e5, e10, e11, e13, -⟩ := f10.ks [(2, _), (3, _), (5, _), (10, _), (11, _), (13, _)] ⟨e2, e3, e5, e10, e11, e13, trivial⟩
     have e12 : get a10 12 = (.int .i64 ((k : Int) + 1)) := f10.v 1 rfl
     replace r0 := f10.ib 0 rfl
     clear f10
     refine ⟨⟨k + 1, τ10, ?_, st10, (e3.trans (int_eq (by first | omega | (rw [if_pos (by assumption)]; rfl) | (rw [if_neg (by assumption)]; rfl)))), (e12.trans (int_eq (by first | omega | (rw [if_pos (by assumption)]; rfl) | (rw [if_neg (by assumption)]; rfl)))), e2, e10, e11⟩, ?_⟩
     · omega
     · simp only [m12, e12, intOf]; omega
   try simp only [decide_eq_false_iff_not, Int.not_lt] at hc2
   refine wp_exit ?_
   repeat (with_reducible refine then_exit ?_)
   refine exit_here ?_
   show Code.wp _ _ _ a7 w7
   refine wp_seq ?_
   refine region_St (bf := [0, 1]) (sp := [det _ 21 _, det _ 2 _]) [] mixed st7 (by kernel_rfl) trivial
    ⟨Ob.d fun c => r_move rfl (c.p e3),
    Ob.d fun c => r_assign rfl (c.n 0 rfl), trivial⟩ ?_
   intro a11 w11 τ11 st11 f11
   have e2 : get a11 2 = (.int .i64 ((if t.k = 5 then 1 else 0) + sumL ((t.kids.take k).map groupsF))) := f11.v 1 rfl
   clear f11
   show Code.wp _ _ _ a11 w11
   refine wp_ret ?_
   repeat (first | with_reducible refine then_ret ?_ | with_reducible refine block_ret ?_)
   refine ret1 (fn := Try.f26) rfl st11.defers e2 ?_
   have htk : sumL ((t.kids.take k).map groupsF) = sumL (t.kids.map groupsF) := by rw [List.take_of_length_le (by omega)]
   exact ⟨congrArg _ (int_eq (by omega)), st11.ext0⟩
 try simp only [decide_eq_false_iff_not] at hc1
 refine wp_skip ?_
 show Code.wp _ _ _ a3 w3
 refine wp_seq ?_
 refine wp_seq ?_
 refine region_St (bf := [0, 1, 3, 0]) (sp := [det _ 9 _, det _ 10 _, det _ 11 _, det _ 12 _]) [ib r0] mixed st3 (by kernel_rfl) ⟨r0, trivial⟩
  ⟨Ob.d fun c => r_fieldAddr rfl Try.underlying25 rfl rfl Try.sizeOf23 ((c.p e1).trans r0.ptr),
  Ob.d fun c => r_load1 rfl Try.isAgg23 (c.n 0 rfl) ((c.ib 0 rfl).cell (j := 7) rfl),
  Ob.d fun c => r_len rfl Try.underlying23 (c.n 1 rfl) (hT.at st3.ext).tl.sl.sl,
  Ob.d fun c => r_move rfl rfl, trivial⟩ ?_
 intro a12 w12 τ12 st12 f12
 obtain ⟨e2, e3, -⟩ := f12.ks [(2, _), (3, _)] ⟨e2, e3, trivial⟩
 have e10 : get a12 10 = t.kv.v := f12.v 1 rfl
 have e11 : get a12 11 = (.int .i64 ((t.kids.length : Int))) := f12.v 2 rfl
 have e12 : get a12 12 = (.int .i64 (0)) := f12.v 3 rfl
 clear f12
 show Code.wp _ _ _ a12 w12
 refine wp_block ?_
 refine wp_loop (fun a_ w_ => ∃ (k : Nat) (τ : Nat → Foot), (k ≤ t.kids.length) ∧
      St (Nw w) w 22 a_ w_ τ ∧
      get a_ 3 = (.int .i64 ((if t.k = 5 then 1 else 0) + sumL ((t.kids.take k).map groupsF))) ∧
      get a_ 12 = (.int .i64 ((k : Int))) ∧
      get a_ 2 = (.int .i64 (0)) ∧
      get a_ 10 = t.kv.v ∧
      get a_ 11 = (.int .i64 ((t.kids.length : Int)))) (fun a_ _ => t.kids.length - (intOf (get a_ 12)).toNat) ?_ ?_
 · refine ⟨0, τ12, ?_, st12, (e3.trans (int_eq (by first | omega | (rw [if_pos (by assumption)]; rfl) | (rw [if_neg (by assumption)]; rfl)))), (e12.trans (int_eq (by first | omega | (rw [if_pos (by assumption)]; rfl) | (rw [if_neg (by assumption)]; rfl)))), e2, e10, e11⟩
   · omega
 intro a13 w13 hI
 obtain ⟨k, τ13, q0, st13, e3, e12, e2, e10, e11⟩ := hI
 have hsl := sum_le (f := groupsF) hf0 k
 have hss : k < t.kids.length → groupsF (nth t.kids (k : Int)) ≤ sumL (t.kids.map groupsF) ∧ sumL ((t.kids.take (k + 1)).map groupsF) = sumL ((t.kids.take k).map groupsF) + groupsF (nth t.kids (k : Int)) := fun h_ => ⟨sum_mem hf0 (nth_memI (by omega) (by omega)), sum_step h_⟩
 have hs2 := sum_le (f := groupsF) hf0 (k + 1)
 have hpk := hpm k
 have hsp : (0 : Int) ≤ (if t.k = 5 then 1 else 0) ∧ (if t.k = 5 then (1 : Int) else 0) ≤ 1 := by split <;> omega
 have m12 := e12
 refine wp_seq ?_
 refine region_St (bf := [0]) (sp := [det _ 13 _]) [] mixed st13 (by kernel_rfl) trivial
  ⟨Ob.d fun c => r_lss rfl (c.p e12) (c.p e11), trivial⟩ ?_
 intro a14 w14 τ14 st14 f14
 obtain ⟨e2, e3, e10, e11, e12, -⟩ := f14.ks [(2, _), (3, _), (10, _), (11, _), (12, _)] ⟨e2, e3, e10, e11, e12, trivial⟩
 have e13 : get a14 13 = (.bool (decide ((k : Int) < (t.kids.length : Int)))) := f14.v 0 rfl
 clear f14
 show Code.wp _ _ _ a14 w14
 refine wp_seq ?_
 refine wp_cond_split (t := decide ((k : Int) < (t.kids.length : Int))) e13 (fun hc3 => ?_) (fun hc3 => ?_)
 · try simp only [decide_eq_true_eq] at hc3
   refine wp_skip ?_
   show Code.wp _ _ _ a14 w14
   refine wp_seq ?_
   refine wp_block ?_
   refine wp_seq ?_
   refine region_St (bf := [0, 1, 0, 7]) (sp := [det _ 14 _, det _ 15 _, box _ _ 0 5 [(.int .i64 (0)), (.string ((⟨#[]⟩ : ByteArray))), (.bool (false)), (.slice none 0 0), (.int .i64 (0)), (.int .i64 (0)), (.bool (false)), (.slice none 0 0)], box _ _ 0 5 [(.int .i64 ((nth t.kids ((k : Int))).k)), (.string ((nth t.kids ((k : Int))).ch)), (.bool ((nth t.kids ((k : Int))).ng)), (nth t.kids ((k : Int))).rv.v, (.int .i64 ((nth t.kids ((k : Int))).mn)), (.int .i64 ((nth t.kids ((k : Int))).mx)), (.bool ((nth t.kids ((k : Int))).lz)), (nth t.kids ((k : Int))).kv.v]]) [] mixed st14 (by kernel_rfl) trivial
    ⟨Ob.d fun c => r_indexAddr rfl Try.underlying23 Try.sizeOf25 (c.p e10) (hT.at st14.ext).tl.sl.sl (c.p e12) (by omega) (by omega),
    Ob.d fun c => r_loadN (vs := [(.int .i64 ((nth t.kids ((k : Int))).k)), (.string ((nth t.kids ((k : Int))).ch)), (.bool ((nth t.kids ((k : Int))).ng)), (nth t.kids ((k : Int))).rv.v, (.int .i64 ((nth t.kids ((k : Int))).mn)), (.int .i64 ((nth t.kids ((k : Int))).mx)), (.bool ((nth t.kids ((k : Int))).lz)), (nth t.kids ((k : Int))).kv.v]) rfl Try.isAgg25 Try.sizeOf25 (c.n 0 rfl) rfl (fun _ _ hj => ((hT.at (st14.ext.trans c.J.ext)).tl.sl).elem (nth_some (i := (k : Int)) (by omega) (by omega)) hj),
    Ob.alloc rfl rfl rfl rfl Try.zeroValue25 rfl,
    Ob.storeBox (off := 0) (v := (.agg #[(.int .i64 ((nth t.kids ((k : Int))).k)), (.string ((nth t.kids ((k : Int))).ch)), (.bool ((nth t.kids ((k : Int))).ng)), (nth t.kids ((k : Int))).rv.v, (.int .i64 ((nth t.kids ((k : Int))).mn)), (.int .i64 ((nth t.kids ((k : Int))).mx)), (.bool ((nth t.kids ((k : Int))).lz)), (nth t.kids ((k : Int))).kv.v])) rfl rfl rfl rfl Try.sizeOf25 (Nat.le_of_ble_eq_true rfl) (by simp [Value.cells, Value.oneCell', Sv.v]) rfl (fun _ _ _ _ c => ⟨c.rb 2 rfl, (c.rb 2 rfl).ptr, (c.n 1 rfl)⟩), trivial⟩ ?_
   intro a15 w15 τ15 st15 f15
   obtain ⟨b15x5, e5⟩ : ∃ b, get a15 5 = b := ⟨_, rfl⟩
   obtain ⟨e2, e3, e10, e11, e12, e13, -⟩ := f15.ks [(2, _), (3, _), (10, _), (11, _), (12, _), (13, _)] ⟨e2, e3, e10, e11, e12, e13, trivial⟩
   have r0 : boxR 25 [(.int .i64 ((nth t.kids ((k : Int))).k)), (.string ((nth t.kids ((k : Int))).ch)), (.bool ((nth t.kids ((k : Int))).ng)), (nth t.kids ((k : Int))).rv.v, (.int .i64 ((nth t.kids ((k : Int))).mn)), (.int .i64 ((nth t.kids ((k : Int))).mx)), (.bool ((nth t.kids ((k : Int))).lz)), (nth t.kids ((k : Int))).kv.v] (τ15 0) b15x5 w15 := f15.rb 3 e5 rfl
   clear f15
   show Code.wp _ _ _ a15 w15
   refine region_St (bf := [0, 0, 2, 7, 15]) (sp := [det _ 16 _, det _ 17 _, det _ 18 _, det _ 19 _, det _ 3 _]) [ib r0] mixed st15 (by kernel_rfl) ⟨r0, trivial⟩
    ⟨Ob.d fun c => r_move rfl (c.p e3),
    Ob.d fun c => r_loadN (vs := [(.int .i64 ((nth t.kids ((k : Int))).k)), (.string ((nth t.kids ((k : Int))).ch)), (.bool ((nth t.kids ((k : Int))).ng)), (nth t.kids ((k : Int))).rv.v, (.int .i64 ((nth t.kids ((k : Int))).mn)), (.int .i64 ((nth t.kids ((k : Int))).mx)), (.bool ((nth t.kids ((k : Int))).lz)), (nth t.kids ((k : Int))).kv.v]) rfl Try.isAgg25 Try.sizeOf25 ((c.p e5).trans r0.ptr) rfl (fun _ _ hj => (c.ib 0 rfl).cell hj),
    Ob.c fun c => ⟨_, _, (e_call1 rfl rfl Try.call26 (c.n 1 rfl)), ih _ (nth_memI (by omega) (by omega)) _ ((hT.at (st15.ext.trans c.J.ext)).tl.el (by omega) (by omega)) (by omega)⟩,
    Ob.d fun c => r_add rfl (c.n 0 rfl) (c.n 2 rfl) (by omega),
    Ob.d fun c => r_assign rfl (c.n 3 rfl), trivial⟩ ?_
   intro a16 w16 τ16 st16 f16
   obtain ⟨e2, e5, e10, e11, e12, e13, -⟩ := f16.ks [(2, _), (5, _), (10, _), (11, _), (12, _), (13, _)] ⟨e2, e5, e10, e11, e12, e13, trivial⟩
   have e3 : get a16 3 = (.int .i64 ((if t.k = 5 then 1 else 0) + sumL ((t.kids.take k).map groupsF) + (groupsF (nth t.kids ((k : Int)))))) := f16.v 4 rfl
   replace r0 := f16.ib 0 rfl
   clear f16
   show _
   show Code.wp _ _ _ a16 w16
   refine region_St (bf := [0, 1]) (sp := [det _ 20 _, det _ 12 _]) [ib r0] mixed st16 (by kernel_rfl) ⟨r0, trivial⟩
    ⟨Ob.d fun c => r_add rfl (c.p e12) rfl (by omega),
    Ob.d fun c => r_move rfl (c.n 0 rfl), trivial⟩ ?_
   intro a17 w17 τ17 st17 f17
   obtain ⟨e2, e3, e5, e10, e11, e13, -⟩ := f17.ks [(2, _), (3, _), (5, _), (10, _), (11, _), (13, _)] ⟨e2, e3, e5, e10, e11, e13, trivial⟩
   have e12 : get a17 12 = (.int .i64 ((k : Int) + 1)) := f17.v 1 rfl
   replace r0 := f17.ib 0 rfl
   clear f17
   refine ⟨⟨k + 1, τ17, ?_, st17, (e3.trans (int_eq (by first | omega | (rw [if_pos (by assumption)]; rfl) | (rw [if_neg (by assumption)]; rfl)))), (e12.trans (int_eq (by first | omega | (rw [if_pos (by assumption)]; rfl) | (rw [if_neg (by assumption)]; rfl)))), e2, e10, e11⟩, ?_⟩
   · omega
   · simp only [m12, e12, intOf]; omega
 try simp only [decide_eq_false_iff_not, Int.not_lt] at hc3
 refine wp_exit ?_
 repeat (with_reducible refine then_exit ?_)
 refine exit_here ?_
 show Code.wp _ _ _ a14 w14
 refine wp_seq ?_
 refine region_St (bf := [0, 1]) (sp := [det _ 21 _, det _ 2 _]) [] mixed st14 (by kernel_rfl) trivial
  ⟨Ob.d fun c => r_move rfl (c.p e3),
  Ob.d fun c => r_assign rfl (c.n 0 rfl), trivial⟩ ?_
 intro a18 w18 τ18 st18 f18
 have e2 : get a18 2 = (.int .i64 ((if t.k = 5 then 1 else 0) + sumL ((t.kids.take k).map groupsF))) := f18.v 1 rfl
 clear f18
 show Code.wp _ _ _ a18 w18
 refine wp_ret ?_
 repeat (first | with_reducible refine then_ret ?_ | with_reducible refine block_ret ?_)
 refine ret1 (fn := Try.f26) rfl st18.defers e2 ?_
 have htk : sumL ((t.kids.take k).map groupsF) = sumL (t.kids.map groupsF) := by rw [List.take_of_length_le (by omega)]
 exact ⟨congrArg _ (int_eq (by omega)), st18.ext0⟩
theorem groups_c (t : Tr) : ∀ (w : World), TrS w t → partsF t ≤ 1000000000 → Calls Try.prog 26 #[t.v] w (fun e w' => e = .returned (.int .i64 (groupsF t)) ∧ Ext none' w w') := Tr.ind (P := fun t => ∀ (w : World), TrS w t → partsF t ≤ 1000000000 → Calls Try.prog 26 #[t.v] w (fun e w' => e = .returned (.int .i64 (groupsF t)) ∧ Ext none' w w')) groups_c_step t
set_option maxRecDepth 100000 in
theorem group_c (n : Int) (w : World) : Calls Try.prog 35 #[(.int .i64 (n))] w (fun e w' => e = .returned (.bool (decide (n = 5) || decide (n = 6))) ∧ Ext none' w w') := by
 refine enter (n := 9) Try.func35 rfl rfl (Nat.le_of_ble_eq_true rfl) ?_
 intro a0 τ0 ha st0
 have e0 : get a0 0 = (.int .i64 (n)) := ha 0 _ rfl
 clear ha
 refine wp_seq ?_
 refine region_St (bf := [0]) (sp := [det _ 2 _]) [] mixed st0 (by kernel_rfl) trivial
  ⟨Ob.d fun c => r_assign rfl rfl, trivial⟩ ?_
 intro a1 w1 τ1 st1 f1
 obtain ⟨e0, -⟩ := f1.ks [(0, _)] ⟨e0, trivial⟩
 have e2 : get a1 2 = (.bool (false)) := f1.v 0 rfl
 clear f1
 show Code.wp _ _ _ a1 w1
 refine wp_seq ?_
 refine region_St (bf := [0, 1, 3, 7, 15, 31, 63]) (sp := [det _ 3 _, det _ 4 _, det _ 5 _, gdet _ 6 _ _, gdet _ 7 _ _, det _ 8 _, det _ 2 _]) [] mixed st1 (by kernel_rfl) trivial
  ⟨Ob.d fun c => r_move rfl (c.p e0),
  Ob.d fun c => r_eql rfl (c.n 0 rfl) rfl,
  Ob.d fun c => r_move rfl (c.n 1 rfl),
  Ob.g 2 false rfl fun c hpc => r_move rfl (c.p e0),
  Ob.g 2 false rfl fun c hpc => r_eql rfl (c.m 3 rfl hpc) rfl,
  Ob.d fun c => r_or rfl (c.n 2 rfl) (fun h => c.m 4 rfl h),
  Ob.d fun c => r_assign rfl (c.n 5 rfl), trivial⟩ ?_
 intro a2 w2 τ2 st2 f2
 have e2 : get a2 2 = (.bool ((decide (n = 5)) || (decide (n = 6)))) := f2.v 6 rfl
 clear f2
 show Code.wp _ _ _ a2 w2
 refine wp_ret ?_
 repeat (first | with_reducible refine then_ret ?_ | with_reducible refine block_ret ?_)
 refine ret1 (fn := Try.f35) rfl st2.defers e2 ?_
 exact ⟨rfl, st2.ext0⟩
set_option maxRecDepth 100000 in
theorem deep_c_step (t : Tr) (ih : ∀ k ∈ t.kids, ∀ (w : World), TrS w k → partsF k ≤ 1000000000 → Calls Try.prog 23 #[k.v] w (fun e w' => e = .returned (.int .i64 (deepF k)) ∧ Ext none' w w')) (w : World) (hT : TrS w t) (hy0 : partsF t ≤ 1000000000) : Calls Try.prog 23 #[t.v] w (fun e w' => e = .returned (.int .i64 (deepF t)) ∧ Ext none' w w') := by
 refine enter (n := 24) Try.func23 rfl rfl (Nat.le_of_ble_eq_true rfl) ?_
 intro a0 τ0 ha st0
 have e0 : get a0 0 = (.agg #[(.int .i64 (t.k)), (.string (t.ch)), (.bool (t.ng)), t.rv.v, (.int .i64 (t.mn)), (.int .i64 (t.mx)), (.bool (t.lz)), t.kv.v]) := ha 0 _ rfl
 clear ha
 have hle := hT.kids.le
 have hf1 : ∀ q ∈ t.kids, 0 ≤ partsF q := fun q _ => by have := partsF_pos q; omega
 have hgb := deepF_bound t
 have hpe := deepF_eq t
 have hpm : ∀ k : Nat, k < t.kids.length → partsF (nth t.kids (k : Int)) ≤ 1000000000 := fun k h_ => by
   have h1_ := sum_mem hf1 (nth_memI (xs := t.kids) (i := (k : Int)) (by omega) (by omega))
   have h2_ := partsF_eq t
   omega
 refine wp_seq ?_
 refine region_St (bf := [0, 0]) (sp := [box _ _ 0 1 [(.int .i64 (t.k)), (.string (t.ch)), (.bool (t.ng)), t.rv.v, (.int .i64 (t.mn)), (.int .i64 (t.mx)), (.bool (t.lz)), t.kv.v], det _ 2 _]) [] mixed st0 (by kernel_rfl) trivial
  ⟨Ob.box (v := (.agg #[(.int .i64 (t.k)), (.string (t.ch)), (.bool (t.ng)), t.rv.v, (.int .i64 (t.mn)), (.int .i64 (t.mx)), (.bool (t.lz)), t.kv.v])) rfl rfl rfl rfl rfl (fun _ _ _ _ c => (c.p e0)),
  Ob.d fun c => r_assign rfl rfl, trivial⟩ ?_
 intro a1 w1 τ1 st1 f1
 obtain ⟨b1x1, e1⟩ : ∃ b, get a1 1 = b := ⟨_, rfl⟩
 have e2 : get a1 2 = (.int .i64 (0)) := f1.v 1 rfl
 have r0 : boxR 25 [(.int .i64 (t.k)), (.string (t.ch)), (.bool (t.ng)), t.rv.v, (.int .i64 (t.mn)), (.int .i64 (t.mx)), (.bool (t.lz)), t.kv.v] (τ1 0) b1x1 w1 := f1.rb 0 e1 rfl
 clear f1
 show Code.wp _ _ _ a1 w1
 refine wp_seq ?_
 refine region_St (bf := [0]) (sp := [det _ 3 _]) [ib r0] mixed st1 (by kernel_rfl) ⟨r0, trivial⟩
  ⟨Ob.d fun c => r_assign rfl rfl, trivial⟩ ?_
 intro a2 w2 τ2 st2 f2
 obtain ⟨e1, e2, -⟩ := f2.ks [(1, _), (2, _)] ⟨e1, e2, trivial⟩
 have e3 : get a2 3 = (.int .i64 (0)) := f2.v 0 rfl
 replace r0 := f2.ib 0 rfl
 clear f2
 show Code.wp _ _ _ a2 w2
 refine wp_seq ?_
 refine wp_seq ?_
 refine region_St (bf := [0, 1, 3, 0]) (sp := [det _ 6 _, det _ 7 _, det _ 8 _, det _ 9 _]) [ib r0] mixed st2 (by kernel_rfl) ⟨r0, trivial⟩
  ⟨Ob.d fun c => r_fieldAddr rfl Try.underlying25 rfl rfl Try.sizeOf23 ((c.p e1).trans r0.ptr),
  Ob.d fun c => r_load1 rfl Try.isAgg23 (c.n 0 rfl) ((c.ib 0 rfl).cell (j := 7) rfl),
  Ob.d fun c => r_len rfl Try.underlying23 (c.n 1 rfl) (hT.at st2.ext).tl.sl.sl,
  Ob.d fun c => r_move rfl rfl, trivial⟩ ?_
 intro a3 w3 τ3 st3 f3
 obtain ⟨e1, e2, e3, -⟩ := f3.ks [(1, _), (2, _), (3, _)] ⟨e1, e2, e3, trivial⟩
 have e7 : get a3 7 = t.kv.v := f3.v 1 rfl
 have e8 : get a3 8 = (.int .i64 ((t.kids.length : Int))) := f3.v 2 rfl
 have e9 : get a3 9 = (.int .i64 (0)) := f3.v 3 rfl
 replace r0 := f3.ib 0 rfl
 clear f3
 show Code.wp _ _ _ a3 w3
 refine wp_block ?_
 refine wp_loop (fun a_ w_ => ∃ (k : Nat) (τ : Nat → Foot), (k ≤ t.kids.length) ∧
      St (Nw w) w 24 a_ w_ τ ∧
      get a_ 3 = (.int .i64 (maxL ((t.kids.take k).map deepF))) ∧
      get a_ 9 = (.int .i64 ((k : Int))) ∧
      get a_ 1 = b1x1 ∧
      get a_ 2 = (.int .i64 (0)) ∧
      get a_ 7 = t.kv.v ∧
      get a_ 8 = (.int .i64 ((t.kids.length : Int))) ∧
      boxR 25 [(.int .i64 (t.k)), (.string (t.ch)), (.bool (t.ng)), t.rv.v, (.int .i64 (t.mn)), (.int .i64 (t.mx)), (.bool (t.lz)), t.kv.v] (τ 0) b1x1 w_) (fun a_ _ => t.kids.length - (intOf (get a_ 9)).toNat) ?_ ?_
 · refine ⟨0, τ3, ?_, st3, (e3.trans (int_eq (by first | omega | rfl | exact (maxL_step (by omega)).symm))), (e9.trans (int_eq (by first | omega | rfl | exact (maxL_step (by omega)).symm))), e1, e2, e7, e8, r0⟩
   · omega
 intro a4 w4 hI
 obtain ⟨k, τ4, q0, st4, e3, e9, e1, e2, e7, e8, r0⟩ := hI
 have hpk := hpm k
 have m9 := e9
 refine wp_seq ?_
 refine region_St (bf := [0]) (sp := [det _ 10 _]) [ib r0] mixed st4 (by kernel_rfl) ⟨r0, trivial⟩
  ⟨Ob.d fun c => r_lss rfl (c.p e9) (c.p e8), trivial⟩ ?_
 intro a5 w5 τ5 st5 f5
 obtain ⟨e1, e2, e3, e7, e8, e9, -⟩ := f5.ks [(1, _), (2, _), (3, _), (7, _), (8, _), (9, _)] ⟨e1, e2, e3, e7, e8, e9, trivial⟩
 have e10 : get a5 10 = (.bool (decide ((k : Int) < (t.kids.length : Int)))) := f5.v 0 rfl
 replace r0 := f5.ib 0 rfl
 clear f5
 show Code.wp _ _ _ a5 w5
 refine wp_seq ?_
 refine wp_cond_split (t := decide ((k : Int) < (t.kids.length : Int))) e10 (fun hc1 => ?_) (fun hc1 => ?_)
 · try simp only [decide_eq_true_eq] at hc1
   refine wp_skip ?_
   show Code.wp _ _ _ a5 w5
   refine wp_seq ?_
   refine wp_block ?_
   refine wp_seq ?_
   refine region_St (bf := [0, 1, 0, 7]) (sp := [det _ 11 _, det _ 12 _, box _ _ 1 5 [(.int .i64 (0)), (.string ((⟨#[]⟩ : ByteArray))), (.bool (false)), (.slice none 0 0), (.int .i64 (0)), (.int .i64 (0)), (.bool (false)), (.slice none 0 0)], box _ _ 1 5 [(.int .i64 ((nth t.kids ((k : Int))).k)), (.string ((nth t.kids ((k : Int))).ch)), (.bool ((nth t.kids ((k : Int))).ng)), (nth t.kids ((k : Int))).rv.v, (.int .i64 ((nth t.kids ((k : Int))).mn)), (.int .i64 ((nth t.kids ((k : Int))).mx)), (.bool ((nth t.kids ((k : Int))).lz)), (nth t.kids ((k : Int))).kv.v]]) [ib r0] mixed st5 (by kernel_rfl) ⟨r0, trivial⟩
    ⟨Ob.d fun c => r_indexAddr rfl Try.underlying23 Try.sizeOf25 (c.p e7) (hT.at st5.ext).tl.sl.sl (c.p e9) (by omega) (by omega),
    Ob.d fun c => r_loadN (vs := [(.int .i64 ((nth t.kids ((k : Int))).k)), (.string ((nth t.kids ((k : Int))).ch)), (.bool ((nth t.kids ((k : Int))).ng)), (nth t.kids ((k : Int))).rv.v, (.int .i64 ((nth t.kids ((k : Int))).mn)), (.int .i64 ((nth t.kids ((k : Int))).mx)), (.bool ((nth t.kids ((k : Int))).lz)), (nth t.kids ((k : Int))).kv.v]) rfl Try.isAgg25 Try.sizeOf25 (c.n 0 rfl) rfl (fun _ _ hj => ((hT.at (st5.ext.trans c.J.ext)).tl.sl).elem (nth_some (i := (k : Int)) (by omega) (by omega)) hj),
    Ob.alloc rfl rfl rfl rfl Try.zeroValue25 rfl,
    Ob.storeBox (off := 0) (v := (.agg #[(.int .i64 ((nth t.kids ((k : Int))).k)), (.string ((nth t.kids ((k : Int))).ch)), (.bool ((nth t.kids ((k : Int))).ng)), (nth t.kids ((k : Int))).rv.v, (.int .i64 ((nth t.kids ((k : Int))).mn)), (.int .i64 ((nth t.kids ((k : Int))).mx)), (.bool ((nth t.kids ((k : Int))).lz)), (nth t.kids ((k : Int))).kv.v])) rfl rfl rfl rfl Try.sizeOf25 (Nat.le_of_ble_eq_true rfl) (by simp [Value.cells, Value.oneCell', Sv.v]) rfl (fun _ _ _ _ c => ⟨c.rb 2 rfl, (c.rb 2 rfl).ptr, (c.n 1 rfl)⟩), trivial⟩ ?_
   intro a6 w6 τ6 st6 f6
   obtain ⟨b6x5, e5⟩ : ∃ b, get a6 5 = b := ⟨_, rfl⟩
   obtain ⟨e1, e2, e3, e7, e8, e9, e10, -⟩ := f6.ks [(1, _), (2, _), (3, _), (7, _), (8, _), (9, _), (10, _)] ⟨e1, e2, e3, e7, e8, e9, e10, trivial⟩
   replace r0 := f6.ib 0 rfl
   have r1 : boxR 25 [(.int .i64 ((nth t.kids ((k : Int))).k)), (.string ((nth t.kids ((k : Int))).ch)), (.bool ((nth t.kids ((k : Int))).ng)), (nth t.kids ((k : Int))).rv.v, (.int .i64 ((nth t.kids ((k : Int))).mn)), (.int .i64 ((nth t.kids ((k : Int))).mx)), (.bool ((nth t.kids ((k : Int))).lz)), (nth t.kids ((k : Int))).kv.v] (τ6 1) b6x5 w6 := f6.rb 3 e5 rfl
   clear f6
   show Code.wp _ _ _ a6 w6
   refine region_St (bf := [0, 0, 2, 7, 15]) (sp := [det _ 13 _, det _ 14 _, det _ 15 _, det _ 16 _, det _ 3 _]) [ib r0, ib r1] mixed st6 (by kernel_rfl) ⟨r0, r1, trivial⟩
    ⟨Ob.d fun c => r_move rfl (c.p e3),
    Ob.d fun c => r_loadN (vs := [(.int .i64 ((nth t.kids ((k : Int))).k)), (.string ((nth t.kids ((k : Int))).ch)), (.bool ((nth t.kids ((k : Int))).ng)), (nth t.kids ((k : Int))).rv.v, (.int .i64 ((nth t.kids ((k : Int))).mn)), (.int .i64 ((nth t.kids ((k : Int))).mx)), (.bool ((nth t.kids ((k : Int))).lz)), (nth t.kids ((k : Int))).kv.v]) rfl Try.isAgg25 Try.sizeOf25 ((c.p e5).trans r1.ptr) rfl (fun _ _ hj => (c.ib 1 rfl).cell hj),
    Ob.c fun c => ⟨_, _, (e_call1 rfl rfl Try.call23 (c.n 1 rfl)), ih _ (nth_memI (by omega) (by omega)) _ ((hT.at (st6.ext.trans c.J.ext)).tl.el (by omega) (by omega)) (by omega)⟩,
    Ob.d fun c => r_max rfl (c.n 0 rfl) (c.n 2 rfl),
    Ob.d fun c => r_assign rfl (c.n 3 rfl), trivial⟩ ?_
   intro a7 w7 τ7 st7 f7
   obtain ⟨e1, e2, e5, e7, e8, e9, e10, -⟩ := f7.ks [(1, _), (2, _), (5, _), (7, _), (8, _), (9, _), (10, _)] ⟨e1, e2, e5, e7, e8, e9, e10, trivial⟩
   have e3 : get a7 3 = (.int .i64 (max (maxL ((t.kids.take k).map deepF)) (deepF (nth t.kids ((k : Int)))))) := f7.v 4 rfl
   replace r0 := f7.ib 0 rfl
   replace r1 := f7.ib 1 rfl
   clear f7
   show _
   show Code.wp _ _ _ a7 w7
   refine region_St (bf := [0, 1]) (sp := [det _ 17 _, det _ 9 _]) [ib r0, ib r1] mixed st7 (by kernel_rfl) ⟨r0, r1, trivial⟩
    ⟨Ob.d fun c => r_add rfl (c.p e9) rfl (by omega),
    Ob.d fun c => r_move rfl (c.n 0 rfl), trivial⟩ ?_
   intro a8 w8 τ8 st8 f8
   obtain ⟨e1, e2, e3, e5, e7, e8, e10, -⟩ := f8.ks [(1, _), (2, _), (3, _), (5, _), (7, _), (8, _), (10, _)] ⟨e1, e2, e3, e5, e7, e8, e10, trivial⟩
   have e9 : get a8 9 = (.int .i64 ((k : Int) + 1)) := f8.v 1 rfl
   replace r0 := f8.ib 0 rfl
   replace r1 := f8.ib 1 rfl
   clear f8
   refine ⟨⟨k + 1, τ8, ?_, st8, (e3.trans (int_eq (by first | omega | rfl | exact (maxL_step (by omega)).symm))), (e9.trans (int_eq (by first | omega | rfl | exact (maxL_step (by omega)).symm))), e1, e2, e7, e8, r0⟩, ?_⟩
   · omega
   · simp only [m9, e9, intOf]; omega
 try simp only [decide_eq_false_iff_not, Int.not_lt] at hc1
 refine wp_exit ?_
 repeat (with_reducible refine then_exit ?_)
 refine exit_here ?_
 show Code.wp _ _ _ a5 w5
 refine wp_seq ?_
 refine wp_seq ?_
 refine region_St (bf := [0, 1, 3]) (sp := [det _ 18 _, det _ 19 _, det _ 20 _]) [ib r0] mixed st5 (by kernel_rfl) ⟨r0, trivial⟩
  ⟨Ob.d fun c => r_fieldAddr rfl Try.underlying25 rfl rfl Try.sizeOf3 ((c.p e1).trans r0.ptr),
  Ob.d fun c => r_load1 rfl Try.isAgg3 (c.n 0 rfl) ((c.ib 0 rfl).cell (j := 0) rfl),
  Ob.c fun c => ⟨_, _, (e_call1 rfl rfl Try.call35 (c.n 1 rfl)), group_c t.k _⟩, trivial⟩ ?_
 intro a9 w9 τ9 st9 f9
 obtain ⟨e2, e3, -⟩ := f9.ks [(2, _), (3, _)] ⟨e2, e3, trivial⟩
 have e20 : get a9 20 = (.bool (decide (t.k = 5) || decide (t.k = 6))) := f9.v 2 rfl
 clear f9
 show Code.wp _ _ _ a9 w9
 refine wp_cond_split (t := decide (t.k = 5) || decide (t.k = 6)) e20 (fun hc2 => ?_) (fun hc2 => ?_)
 · have hd2 := hc2; try simp only [Bool.or_eq_true, decide_eq_true_eq] at hd2
   have hmp := maxL_pos ((t.kids.take k).map deepF)
   have hmd : maxL ((t.kids.take k).map deepF) ≤ 1000000000 := by rw [List.take_of_length_le (by omega)]; have h_ : (0 : Int) ≤ (if grpB t = true then 1 else 0) := (by split <;> omega); omega
   refine region_St (bf := [0, 1, 3]) (sp := [det _ 21 _, det _ 22 _, det _ 3 _]) [] mixed st9 (by kernel_rfl) trivial
    ⟨Ob.d fun c => r_move rfl (c.p e3),
    Ob.d fun c => r_add rfl (c.n 0 rfl) rfl (by omega),
    Ob.d fun c => r_assign rfl (c.n 1 rfl), trivial⟩ ?_
   intro a10 w10 τ10 st10 f10
   obtain ⟨e2, -⟩ := f10.ks [(2, _)] ⟨e2, trivial⟩
   have e3 : get a10 3 = (.int .i64 (maxL ((t.kids.take k).map deepF) + 1)) := f10.v 2 rfl
   clear f10
   show Code.wp _ _ _ a10 w10
   refine wp_seq ?_
   refine region_St (bf := [0, 1]) (sp := [det _ 23 _, det _ 2 _]) [] mixed st10 (by kernel_rfl) trivial
    ⟨Ob.d fun c => r_move rfl (c.p e3),
    Ob.d fun c => r_assign rfl (c.n 0 rfl), trivial⟩ ?_
   intro a11 w11 τ11 st11 f11
   have e2 : get a11 2 = (.int .i64 (maxL ((t.kids.take k).map deepF) + 1)) := f11.v 1 rfl
   clear f11
   show Code.wp _ _ _ a11 w11
   refine wp_ret ?_
   repeat (first | with_reducible refine then_ret ?_ | with_reducible refine block_ret ?_)
   refine ret1 (fn := Try.f23) rfl st11.defers e2 ?_
   have htk : maxL ((t.kids.take k).map deepF) = maxL (t.kids.map deepF) := by rw [List.take_of_length_le (by omega)]
   exact ⟨congrArg _ (int_eq (by rw [hpe, htk]; unfold grpB; first | (rw [if_pos (by simpa using (by assumption))]) | (rw [if_neg (by simpa using (by assumption))]; omega))), st11.ext0⟩
 have hd2 := hc2; try simp only [Bool.or_eq_false_iff, decide_eq_false_iff_not] at hd2
 refine wp_skip ?_
 show Code.wp _ _ _ a9 w9
 refine wp_seq ?_
 refine region_St (bf := [0, 1]) (sp := [det _ 23 _, det _ 2 _]) [] mixed st9 (by kernel_rfl) trivial
  ⟨Ob.d fun c => r_move rfl (c.p e3),
  Ob.d fun c => r_assign rfl (c.n 0 rfl), trivial⟩ ?_
 intro a12 w12 τ12 st12 f12
 have e2 : get a12 2 = (.int .i64 (maxL ((t.kids.take k).map deepF))) := f12.v 1 rfl
 clear f12
 show Code.wp _ _ _ a12 w12
 refine wp_ret ?_
 repeat (first | with_reducible refine then_ret ?_ | with_reducible refine block_ret ?_)
 refine ret1 (fn := Try.f23) rfl st12.defers e2 ?_
 have htk : maxL ((t.kids.take k).map deepF) = maxL (t.kids.map deepF) := by rw [List.take_of_length_le (by omega)]
 exact ⟨congrArg _ (int_eq (by rw [hpe, htk]; unfold grpB; first | (rw [if_pos (by simpa using (by assumption))]) | (rw [if_neg (by simpa using (by assumption))]; omega))), st12.ext0⟩
theorem deep_c (t : Tr) : ∀ (w : World), TrS w t → partsF t ≤ 1000000000 → Calls Try.prog 23 #[t.v] w (fun e w' => e = .returned (.int .i64 (deepF t)) ∧ Ext none' w w') := Tr.ind (P := fun t => ∀ (w : World), TrS w t → partsF t ≤ 1000000000 → Calls Try.prog 23 #[t.v] w (fun e w' => e = .returned (.int .i64 (deepF t)) ∧ Ext none' w w')) deep_c_step t
end B
end Go.Proofs.Ytocmchlhbniloaa
