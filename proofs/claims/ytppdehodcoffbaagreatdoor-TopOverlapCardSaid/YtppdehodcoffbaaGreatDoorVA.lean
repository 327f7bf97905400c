/-
  A rule for regions over any invariant that grows with what is done. Over any program.
-/
import Derived.Test.YtppdehodcoffbaaGreatDoorBase9
set_option linter.unusedSimpArgs false
set_option linter.unusedVariables false
namespace Go.Proofs.YtppdehodcoffbaaGreatDoor
namespace B
open Go.RowKit

/-- edges go back -/
def okAft (ops : Array Oper) : Bool :=
  (List.range ops.size).all fun j => match ops[j]? with
    | none => false
    | some o => o.after.all (fun e => !Region.binds .any e || e.on < j)
theorem okAft_spec {ops : Array Oper} (h : okAft ops = true) {j : Nat} {o : Oper} (ho : ops[j]? = some o) : ∀ e ∈ o.after, Region.binds .any e = true → e.on < j := by
  unfold okAft at h
  rw [List.all_eq_true] at h
  have := h j (by simpa using (Array.getElem?_eq_some_iff.1 ho).1)
  simp only [ho, Array.all_eq_true_iff_forall_mem, Bool.or_eq_true, Bool.not_eq_true', decide_eq_true_eq] at this
  exact fun e he hb => (this e he).resolve_left (by simp [hb])
theorem pre_of_closed2 {ops : Array Oper} {bf : List Nat} (hok : okAft ops = true) (hbf : okBf ops bf = true) {done : Nat → Bool} (hc : Closed ops done) :
    ∀ (m j : Nat), j ≤ m → (∀ o, ops[j]? = some o → ∀ e ∈ o.after, Region.binds .any e = true → done e.on = true) → ∀ i, (bf.getD j 0).testBit i = true → done i = true := by
  intro m
  induction m with
  | zero =>
    intro j hj h i hb
    have := (okBf_spec hbf hb).1
    omega
  | succ m ih =>
    intro j hj h i hb
    obtain ⟨_, _, o, ho, e, he, hbi, h2⟩ := okBf_spec hbf hb
    have hd := h o ho e he hbi
    rcases h2 with h2 | h2
    · rw [← h2]; exact hd
    · have hlt := okAft_spec hok ho e he hbi
      exact ih e.on (by omega) (fun o' ho' => hc e.on o' ho' hd) i h2

/-- operation j may come next -/
def Next (draw : Bool) (bf : List Nat) (D : Nat → Bool) (j : Nat) : Prop :=
  (draw = false ∧ ∀ i, D i = decide (i < j)) ∨ (draw = true ∧ D j = false ∧ (∀ i, (bf.getD j 0).testBit i = true → D i = true) ∧ ∀ k, (bf.getD k 0).testBit j = true → D k = false)

section
variable {P : Program} {ops : Array Oper} {bf : List Nat} {Inv : (Nat → Bool) → Act → World → Prop} {Q : Exit → Act → World → Prop}

def StepI (P : Program) (ops : Array Oper) (Inv : (Nat → Bool) → Act → World → Prop) (D : Nat → Bool) (o : Oper) (j : Nat) (a : Act) (w : World) : Prop :=
  (Region.wanted o (yielded ops a.tmps) = true → o.wp P a w (fun a' w' => Inv (fun i => i == j || D i) a' w') (fun _ _ _ => False)) ∧ (Region.wanted o (yielded ops a.tmps) = false → Inv (fun i => i == j || D i) (a.put o.dst undef) w)

theorem wpOp_inv {D : Nat → Bool} {j : Nat} {o : Oper} {a : Act} {w : World} {K : Act → World → Prop} (ho : ops[j]? = some o) (h : StepI P ops Inv D o j a w) (hK : ∀ a' w', Inv (fun i => i == j || D i) a' w' → K a' w') : wpOp P ops Q j K a w := by
  unfold wpOp
  rw [ho]
  simp only []
  by_cases hw : Region.wanted o (yielded ops a.tmps) = true
  · rw [if_pos hw]
    exact .inl (wp_weaken hK (h.1 hw))
  · rw [if_neg hw]
    exact hK _ _ (h.2 (by simpa using hw))

theorem inv_any (hok : okAft ops = true) (hbf : okBf ops bf = true)
    (step : ∀ D j o a w, ops[j]? = some o → Next true bf D j → Inv D a w → StepI P ops Inv D o j a w)
    (fin : ∀ D a w, (∀ i, i < ops.size → D i = true) → Inv D a w → Q .normal a w) : ∀ (fuel : Nat) (listed : Array Bool) (a : Act) (w : World),
      (List.range ops.size).countP (fun i => !listed.getD i true) ≤ fuel → listed.size = ops.size → Inv (fun i => listed.getD i true) a w → Closed ops (fun i => listed.getD i true) → wpAny P .any ops Q fuel listed a w := by
  have allDone : ∀ (listed : Array Bool), listed.size = ops.size → Region.ready .any ops listed = [] → ∀ m i, i ≤ m → listed.getD i true = true := by
    intro listed hsz hr m
    induction m with
    | zero =>
      intro i hi
      by_cases hlt : i < ops.size
      · cases hg : listed.getD i true with
        | true => rfl
        | false =>
          exfalso
          have : i ∈ Region.ready .any ops listed := mem_ready.2 ⟨hg, ops[i], by simp [hlt], fun e he hb => by
            have := okAft_spec hok (j := i) (o := ops[i]) (by simp [hlt]) e he hb; omega⟩
          rw [hr] at this; cases this
      · simp [Array.getD_eq_getD_getElem?, Array.getElem?_eq_none (show listed.size ≤ i by omega)]
    | succ m ih =>
      intro i hi
      by_cases hlt : i < ops.size
      · cases hg : listed.getD i true with
        | true => rfl
        | false =>
          exfalso
          have : i ∈ Region.ready .any ops listed := mem_ready.2 ⟨hg, ops[i], by simp [hlt], fun e he hb => by
            have h1 := okAft_spec hok (j := i) (o := ops[i]) (by simp [hlt]) e he hb
            have h2 := ih e.on (by omega)
            rw [Array.getD_eq_getD_getElem?] at h2 ⊢
            have h3 : e.on < listed.size := by omega
            simpa [Array.getElem?_eq_getElem h3] using h2⟩
          rw [hr] at this; cases this
      · simp [Array.getD_eq_getD_getElem?, Array.getElem?_eq_none (show listed.size ≤ i by omega)]
  have finish : ∀ (listed : Array Bool) (a : Act) (w : World), listed.size = ops.size → Region.ready .any ops listed = [] → Inv (fun i => listed.getD i true) a w → Q .normal a w :=
    fun listed a w hsz hr hJ => fin _ a w (fun i _ => allDone listed hsz hr i i (Nat.le_refl _)) hJ
  intro fuel
  induction fuel with
  | zero =>
    intro listed a w hcount hsz hJ hc
    have hr : Region.ready .any ops listed = [] := by
      cases hrr : Region.ready .any ops listed with
      | nil => rfl
      | cons x xs =>
        exfalso
        have hx : x ∈ Region.ready .any ops listed := by rw [hrr]; exact List.mem_cons_self
        obtain ⟨h1, o, ho, _⟩ := mem_ready.1 hx
        have hpos : 0 < (List.range ops.size).countP (fun i => !listed.getD i true) :=
          List.countP_pos_iff.2 ⟨x, by simpa using (Array.getElem?_eq_some_iff.1 ho).1, by simp only [h1, Bool.not_false]⟩
        omega
    exact ⟨hr, finish listed a w hsz hr hJ⟩
  | succ fuel ih =>
    intro listed a w hcount hsz hJ hc
    refine ⟨fun hr => finish listed a w hsz hr hJ, fun j hjr => ?_⟩
    obtain ⟨hj, o, ho, hpre⟩ := mem_ready.1 hjr
    have hjs : j < ops.size := (Array.getElem?_eq_some_iff.1 ho).1
    have hpre' : ∀ e ∈ o.after, Region.binds .any e = true → listed.getD e.on true = true := fun e he hb => by
      have h1 := hpre e he hb
      have h2 := okAft_spec hok ho e he hb
      rw [Array.getD_eq_getD_getElem?] at h1 ⊢
      have h3 : e.on < listed.size := by omega
      simpa [Array.getElem?_eq_getElem h3] using h1
    have hset : (fun i => (listed.setIfInBounds j true).getD i true) = (fun i => i == j || listed.getD i true) := by
      funext i
      simp only [Array.getD_eq_getD_getElem?, Array.getElem?_setIfInBounds]
      by_cases h : j = i
      · subst h; simp [hsz, hjs]
      · have : (i == j) = false := by simp; exact fun e => h e.symm
        simp [h, this]
    have p1 : ∀ i, (bf.getD j 0).testBit i = true → listed.getD i true = true := pre_of_closed2 hok hbf hc j j (Nat.le_refl _) (fun o' ho' => by rw [ho] at ho'; cases ho'; exact hpre')
    have p2 : ∀ k, (bf.getD k 0).testBit j = true → listed.getD k true = false := fun k hb => by
      cases hd : listed.getD k true with
      | false => rfl
      | true =>
        have := pre_of_closed2 hok hbf hc k k (Nat.le_refl _) (fun o' ho' => hc k o' ho' hd) j hb
        rw [hj] at this; cases this
    refine wpOp_inv ho (step _ j o a w ho (.inr ⟨rfl, hj, p1, p2⟩) hJ) fun a' w' hJ' => ?_
    refine ih _ a' w' ?_ (by simpa using hsz) (by rw [hset]; exact hJ') (by rw [hset]; exact closed_add hc ho hpre')
    have hlt : (List.range ops.size).countP (fun i => !(listed.setIfInBounds j true).getD i true) < (List.range ops.size).countP (fun i => !listed.getD i true) := by
      have e1 : (fun i => !(listed.setIfInBounds j true).getD i true) = (fun i => !(i == j || listed.getD i true)) := by
        funext i; rw [congrFun hset i]
      rw [e1]
      have hjm : j ∈ List.range ops.size := by simpa using hjs
      generalize List.range ops.size = l at hjm
      clear hcount ih
      induction l with
      | nil => cases hjm
      | cons x l ihl =>
        simp only [List.countP_cons]
        have hle : l.countP (fun i => !(i == j || listed.getD i true)) ≤ l.countP (fun i => !listed.getD i true) :=
          List.countP_mono_left fun y _ hy => by
            simp only [Bool.not_eq_true', Bool.or_eq_false_iff] at hy ⊢; exact hy.2
        by_cases hx : x = j
        · subst hx
          simp only [beq_self_eq_true, Bool.true_or, Bool.not_true, hj, Bool.not_false, if_true]
          simp only [Bool.false_eq_true, if_false]
          omega
        · have hjl : j ∈ l := by
            rcases List.mem_cons.1 hjm with h | h
            · exact absurd h.symm hx
            · exact h
          have := ihl hjl
          have hb : (x == j) = false := by simp [hx]
          simp only [hb, Bool.false_or]
          split <;> omega
    omega

theorem inv_range
    (step : ∀ D j o a w, ops[j]? = some o → Next false bf D j → Inv D a w → StepI P ops Inv D o j a w)
    (fin : ∀ D a w, (∀ i, i < ops.size → D i = true) → Inv D a w → Q .normal a w) : ∀ (m k : Nat) (D : Nat → Bool) (a : Act) (w : World), m + k = ops.size → (∀ i, D i = decide (i < k)) → Inv D a w → wpOps P ops Q (List.range' k m) a w := by
  intro m
  induction m with
  | zero =>
    intro k D a w hk hD hJ
    simp only [List.range'_zero, wpOps]
    exact fin D a w (fun i hi => by rw [hD]; simpa using (by omega : i < k)) hJ
  | succ m ih =>
    intro k D a w hk hD hJ
    have hks : k < ops.size := by omega
    rw [List.range'_succ, wpOps_cons]
    have ho : ops[k]? = some ops[k] := by simp [hks]
    refine wpOp_inv ho (step D k _ a w ho (.inl ⟨rfl, hD⟩) hJ) fun a' w' hJ' => ?_
    refine ih (k + 1) _ a' w' (by omega) (fun i => ?_) hJ'
    rw [hD i, Bool.eq_iff_iff]; simp; omega
end

/-- THE RULE -/
theorem region_inv {P : Program} {l : List Oper} {bf : List Nat} {Inv : (Nat → Bool) → Act → World → Prop} {Q : Exit → Act → World → Prop} {a : Act} {w : World} {id : Nat} {draw : Bool} (hm : P.follows .mixedOrders = true)
    (hok : draw = true → (okAft l.toArray && okBf l.toArray bf) = true) (h0 : ∀ w', w' = w ∨ w' = w.drew → Inv (fun _ => false) a w')
    (step : ∀ D j o a w, l[j]? = some o → Next draw bf D j → Inv D a w → StepI P l.toArray Inv D o j a w)
    (fin : ∀ D a w, (∀ i, i < l.length → D i = true) → Inv D a w → Q .normal a w)
    (hD : draw = true → ∀ D D' a w, (∀ i, i < l.length → D i = D' i) → Inv D a w → Inv D' a w) : (Code.region id l.toArray draw).wp P Q a w := by
  cases draw with
  | true =>
    have h1 := hok rfl
    rw [Bool.and_eq_true] at h1
    refine wp_region_any hm ?_
    refine inv_any h1.1 h1.2 (fun D j o a w ho => step D j o a w (by simpa using ho)) (fun D a w hd => fin D a w (by simpa using hd)) l.toArray.size _ a _ ?_ (by simp) ?_ ?_
    · have := List.countP_le_length (p := fun i => !(Array.replicate l.toArray.size false).getD i true) (l := List.range l.toArray.size)
      simpa using this
    · refine hD rfl _ _ _ _ (fun i hi => ?_) (h0 _ (.inr rfl))
      simp [Array.getD_eq_getD_getElem?, hi]
    · intro j o ho hd
      have hlt : j < l.length := by simpa using (Array.getElem?_eq_some_iff.1 ho).1
      simp [Array.getD_eq_getD_getElem?, hlt] at hd
  | false =>
    refine wp_region ?_
    rw [List.range_eq_range']
    exact inv_range (bf := bf) (fun D j o a w ho => step D j o a w (by simpa using ho)) (fun D a w hd => fin D a w (by simpa using hd)) l.toArray.size 0 (fun _ => false) a w rfl (fun i => by simp) (h0 _ (.inl rfl))
end B
end Go.Proofs.YtppdehodcoffbaaGreatDoor
