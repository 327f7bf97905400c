/-
  A rule for regions over any invariant that grows with what is done. Over any program.
-/
import Derived.Test.YtdbchpoaoghgpaaGreatDoorBc
set_option linter.unusedSimpArgs false
set_option linter.unusedVariables false
namespace Go.Proofs.YtdbchpoaoghgpaaGreatDoor
namespace B
open Go.RowKit

/-- edges go back -/
def okAft (ops : Array Oper) : Bool :=
  (List.range ops.size).all fun j => match ops[j]? with
    | none => false
    | some o => o.after.all (fun e => !Region.binds .any e || e.on < j)
theorem okAft_spec {ops : Array Oper} (h : okAft ops = true) {j : Nat} {o : Oper} (ho : ops[j]? = some o) : ∀ e ∈ o.after, Region.binds .any e = true → e.on < j := by
  unfold okAft at h
  rw [List.all_eq_true] at h
  have := h j (by simpa using (Array.getElem?_eq_some_iff.1 ho).1)
  simp only [ho, Array.all_eq_true_iff_forall_mem, Bool.or_eq_true, Bool.not_eq_true', decide_eq_true_eq] at this
  exact fun e he hb => (this e he).resolve_left (by simp [hb])
theorem pre_of_closed2 {ops : Array Oper} {bf : List Nat} (hok : okAft ops = true) (hbf : okBf ops bf = true) {done : Nat → Bool} (hc : Closed ops done) :
    ∀ (m j : Nat), j ≤ m → (∀ o, ops[j]? = some o → ∀ e ∈ o.after, Region.binds .any e = true → done e.on = true) → ∀ i, (bf.getD j 0).testBit i = true → done i = true := by
  intro m
  induction m with
  | zero =>
    intro j hj h i hb
    have := (okBf_spec hbf hb).1
    omega
  | succ m ih =>
    intro j hj h i hb
    obtain ⟨_, _, o, ho, e, he, hbi, h2⟩ := okBf_spec hbf hb
    have hd := h o ho e he hbi
    rcases h2 with h2 | h2
    · rw [← h2]; exact hd
    · have hlt := okAft_spec hok ho e he hbi
      exact ih e.on (by omega) (fun o' ho' => hc e.on o' ho' hd) i h2

/-- operation j may come next -/
def Next (draw : Bool) (bf : List Nat) (D : Nat → Bool) (j : Nat) : Prop :=
  (draw = false ∧ ∀ i, D i = decide (i < j)) ∨ (draw = true ∧ D j = false ∧ (∀ i, (bf.getD j 0).testBit i = true → D i = true) ∧ ∀ k, (bf.getD k 0).testBit j = true → D k = false)

section
variable {P : Program} {ops : Array Oper} {bf : List Nat} {Inv : (Nat → Bool) → Act → World → Prop} {Q : Exit → Act → World → Prop}

def StepI (P : Program) (ops : Array Oper) (Inv : (Nat → Bool) → Act → World → Prop) (D : Nat → Bool) (o : Oper) (j : Nat) (a : Act) (w : World) : Prop :=
  (Region.wanted o (yielded ops a.tmps) = true → o.wp P a w (fun a' w' => Inv (fun i => i == j || D i) a' w') (fun _ _ _ => False)) ∧ (Region.wanted o (yielded ops a.tmps) = false → Inv (fun i => i == j || D i) (a.put o.dst undef) w)

theorem wpOp_inv {D : Nat → Bool} {j : Nat} {o : Oper} {a : Act} {w : World} {K : Act → World → Prop} (ho : ops[j]? = some o) (h : StepI P ops Inv D o j a w) (hK : ∀ a' w', Inv (fun i => i == j || D i) a' w' → K a' w') : wpOp P ops Q j K a w := by
  unfold wpOp
  rw [ho]
  simp only []
  by_cases hw : Region.wanted o (yielded ops a.tmps) = true
  · rw [if_pos hw]
    exact .inl (wp_weaken hK (h.1 hw))
  · rw [if_neg hw]
    exact hK _ _ (h.2 (by simpa using hw))

theorem inv_any (hok : okAft ops = true) (hbf : okBf ops bf = true)
    (step : ∀ D j o a w, ops[j]? = some o → Next true bf D j → Inv D a w → StepI P ops Inv D o j a w)
    (fin : ∀ D a w, (∀ i, i < ops.size → D i = true) → Inv D a w → Q .normal a w) : ∀ (fuel : Nat) (listed : Array Bool) (a : Act) (w : World),
      (List.range ops.size).countP (fun i => !listed.getD i true) ≤ fuel → listed.size = ops.size → Inv (fun i => listed.getD i true) a w → Closed ops (fun i => listed.getD i true) → wpAny P .any ops Q fuel listed a w := by
  have allDone : ∀ (listed : Array Bool), listed.size = ops.size → Region.ready .any ops listed = [] → ∀ m i, i ≤ m → listed.getD i true = true := by
    intro listed hsz hr m
    induction m with
    | zero =>
      intro i hi
      by_cases hlt : i < ops.size
      · cases hg : listed.getD i true with
        | true => rfl
        | false =>
          exfalso
          have : i ∈ Region.ready .any ops listed := mem_ready.2 ⟨hg, ops[i], by simp [hlt], fun e he hb => by
            have := okAft_spec hok (j := i) (o := ops[i]) (by simp [hlt]) e he hb; omega⟩
          rw [hr] at this; cases this
      · simp [Array.getD_eq_getD_getElem?, Array.getElem?_eq_none (show listed.size ≤ i by omega)]
    | succ m ih =>
      intro i hi
      by_cases hlt : i < ops.size
      · cases hg : listed.getD i true with
        | true => rfl
        | false =>
          exfalso
          have : i ∈ Region.ready .any ops listed := mem_ready.2 ⟨hg, ops[i], by simp [hlt], fun e he hb => by
            have h1 := okAft_spec hok (j := i) (o := ops[i]) (by simp [hlt]) e he hb
            have h2 := ih e.on (by omega)
            rw [Array.getD_eq_getD_getElem?] at h2 ⊢
            have h3 : e.on < listed.size := by omega
            simpa [Array.getElem?_eq_getElem h3] using h2⟩
          rw [hr] at this; cases this
      · simp [Array.getD_eq_getD_getElem?, Array.getElem?_eq_none (show listed.size ≤ i by omega)]
  have finish : ∀ (listed : Array Bool) (a : Act) (w : World), listed.size = ops.size → Region.ready .any ops listed = [] → Inv (fun i => listed.getD i true) a w → Q .normal a w :=
    fun listed a w hsz hr hJ => fin _ a w (fun i _ => allDone listed hsz hr i i (Nat.le_refl _)) hJ
  intro fuel
  induction fuel with
  | zero =>
    intro listed a w hcount hsz hJ hc
    have hr : Region.ready .any ops listed = [] := by
      cases hrr : Region.ready .any ops listed with
      | nil => rfl
      | cons x xs =>
        exfalso
        have hx : x ∈ Region.ready .any ops listed := by rw [hrr]; exact List.mem_cons_self
        obtain ⟨h1, o, ho, _⟩ := mem_ready.1 hx
        have hpos : 0 < (List.range ops.size).countP (fun i => !listed.getD i true) :=
          List.countP_pos_iff.2 ⟨x, by simpa using (Array.getElem?_eq_some_iff.1 ho).1, by simp only [h1, Bool.not_false]⟩
        omega
    exact ⟨hr, finish listed a w hsz hr hJ⟩
  | succ fuel ih =>
    intro listed a w hcount hsz hJ hc
    refine ⟨fun hr => finish listed a w hsz hr hJ, fun j hjr => ?_⟩
    obtain ⟨hj, o, ho, hpre⟩ := mem_ready.1 hjr
    have hjs : j < ops.size := (Array.getElem?_eq_some_iff.1 ho).1
    have hpre' : ∀ e ∈ o.after, Region.binds .any e = true → listed.getD e.on true = true := fun e he hb => by
      have h1 := hpre e he hb
      have h2 := okAft_spec hok ho e he hb
      rw [Array.getD_eq_getD_getElem?] at h1 ⊢
      have h3 : e.on < listed.size := by omega
      simpa [Array.getElem?_eq_getElem h3] using h1
    have hset : (fun i => (listed.setIfInBounds j true).getD i true) = (fun i => i == j || listed.getD i true) := by
      funext i
      simp only [Array.getD_eq_getD_getElem?, Array.getElem?_setIfInBounds]
      by_cases h : j = i
      · subst h; simp [hsz, hjs]
      · have : (i == j) = false := by simp; exact fun e => h e.symm
        simp [h, this]
    have p1 : ∀ i, (bf.getD j 0).testBit i = true → listed.getD i true = true := pre_of_closed2 hok hbf hc j j (Nat.le_refl _) (fun o' ho' => by rw [ho] at ho'; cases ho'; exact hpre')
    have p2 : ∀ k, (bf.getD k 0).testBit j = true → listed.getD k true = false := fun k hb => by
      cases hd : listed.getD k true with
      | false => rfl
      | true =>
        have := pre_of_closed2 hok hbf hc k k (Nat.le_refl _) (fun o' ho' => hc k o' ho' hd) j hb
        rw [hj] at this; cases this
    refine wpOp_inv ho (step _ j o a w ho (.inr ⟨rfl, hj, p1, p2⟩) hJ) fun a' w' hJ' => ?_
    refine ih _ a' w' ?_ (by simpa using hsz) (by rw [hset]; exact hJ') (by rw [hset]; exact closed_add hc ho hpre')
    have hlt : (List.range ops.size).countP (fun i => !(listed.setIfInBounds j true).getD i true) < (List.range ops.size).countP (fun i => !listed.getD i true) := by
      have e1 : (fun i => !(listed.setIfInBounds j true).getD i true) = (fun i => !(i == j || listed.getD i true)) := by
        funext i; rw [congrFun hset i]
      rw [e1]
      have hjm : j ∈ List.range ops.size := by simpa using hjs
      generalize List.range ops.size = l at hjm
      clear hcount ih
      induction l with
      | nil => cases hjm
      | cons x l ihl =>
        simp only [List.countP_cons]
        have hle : l.countP (fun i => !(i == j || listed.getD i true)) ≤ l.countP (fun i => !listed.getD i true) :=
          List.countP_mono_left fun y _ hy => by
            simp only [Bool.not_eq_true', Bool.or_eq_false_iff] at hy ⊢; exact hy.2
        by_cases hx : x = j
        · subst hx
          simp only [beq_self_eq_true, Bool.true_or, Bool.not_true, hj, Bool.not_false, if_true]
          simp only [Bool.false_eq_true, if_false]
          omega
        · have hjl : j ∈ l := by
            rcases List.mem_cons.1 hjm with h | h
            · exact absurd h.symm hx
            · exact h
          have := ihl hjl
          have hb : (x == j) = false := by simp [hx]
          simp only [hb, Bool.false_or]
          split <;> omega
    omega

theorem inv_range
    (step : ∀ D j o a w, ops[j]? = some o → Next false bf D j → Inv D a w → StepI P ops Inv D o j a w)
    (fin : ∀ D a w, (∀ i, i < ops.size → D i = true) → Inv D a w → Q .normal a w) : ∀ (m k : Nat) (D : Nat → Bool) (a : Act) (w : World), m + k = ops.size → (∀ i, D i = decide (i < k)) → Inv D a w → wpOps P ops Q (List.range' k m) a w := by
  intro m
  induction m with
  | zero =>
    intro k D a w hk hD hJ
    simp only [List.range'_zero, wpOps]
    exact fin D a w (fun i hi => by rw [hD]; simpa using (by omega : i < k)) hJ
  | succ m ih =>
    intro k D a w hk hD hJ
    have hks : k < ops.size := by omega
    rw [List.range'_succ, wpOps_cons]
    have ho : ops[k]? = some ops[k] := by simp [hks]
    refine wpOp_inv ho (step D k _ a w ho (.inl ⟨rfl, hD⟩) hJ) fun a' w' hJ' => ?_
    refine ih (k + 1) _ a' w' (by omega) (fun i => ?_) hJ'
    rw [hD i, Bool.eq_iff_iff]; simp; omega
end

/-- THE RULE -/
theorem region_inv {P : Program} {l : List Oper} {bf : List Nat} {Inv : (Nat → Bool) → Act → World → Prop} {Q : Exit → Act → World → Prop} {a : Act} {w : World} {id : Nat} {draw : Bool} (hm : P.follows .mixedOrders = true)
    (hok : draw = true → (okAft l.toArray && okBf l.toArray bf) = true) (h0 : ∀ w', w' = w ∨ w' = w.drew → Inv (fun _ => false) a w')
    (step : ∀ D j o a w, l[j]? = some o → Next draw bf D j → Inv D a w → StepI P l.toArray Inv D o j a w)
    (fin : ∀ D a w, (∀ i, i < l.length → D i = true) → Inv D a w → Q .normal a w)
    (hD : draw = true → ∀ D D' a w, (∀ i, i < l.length → D i = D' i) → Inv D a w → Inv D' a w) : (Code.region id l.toArray draw).wp P Q a w := by
  cases draw with
  | true =>
    have h1 := hok rfl
    rw [Bool.and_eq_true] at h1
    refine wp_region_any hm ?_
    refine inv_any h1.1 h1.2 (fun D j o a w ho => step D j o a w (by simpa using ho)) (fun D a w hd => fin D a w (by simpa using hd)) l.toArray.size _ a _ ?_ (by simp) ?_ ?_
    · have := List.countP_le_length (p := fun i => !(Array.replicate l.toArray.size false).getD i true) (l := List.range l.toArray.size)
      simpa using this
    · refine hD rfl _ _ _ _ (fun i hi => ?_) (h0 _ (.inr rfl))
      simp [Array.getD_eq_getD_getElem?, hi]
    · intro j o ho hd
      have hlt : j < l.length := by simpa using (Array.getElem?_eq_some_iff.1 ho).1
      simp [Array.getD_eq_getD_getElem?, hlt] at hd
  | false =>
    refine wp_region ?_
    rw [List.range_eq_range']
    exact inv_range (bf := bf) (fun D j o a w ho => step D j o a w (by simpa using ho)) (fun D a w hd => fin D a w (by simpa using hd)) l.toArray.size 0 (fun _ => false) a w rfl (fun i => by simp) (h0 _ (.inl rfl))
end B
end Go.Proofs.YtdbchpoaoghgpaaGreatDoor

set_option linter.unusedSimpArgs false
set_option linter.unusedVariables false
namespace Go.Proofs.YtdbchpoaoghgpaaGreatDoor
namespace X
open Go.RowKit

/-- a number and variables with factors -/
inductive Lin where
  | mk (c : Int) (ts : List (Nat × Int))
/-- a piece of a string: a byte, an unknown string -/
inductive Pc where
  | c (n : Nat)
  | a (i : Nat)
abbrev Str := List Pc
inductive Cap where
  | k (n : Nat)
  | q (sz : Nat)
inductive SV where
  | i (k : IntKind) (n : Int)
  | x (k : IntKind) (e : Lin)
  | b (b : Bool)
  | s (l : Str)
  | p (t off : Nat)
  | np
  | sl (t off len : Nat) (cap : Cap)
  | sb (t : Nat) (e : Str)
  | su (t : Nat)
  | ns
  | ag (l : List SV)
  | tu (l : List SV)
  | fn (f : Nat) (fi ca : List SV)
  | nf
  | ni
  | nm
  | mp (t : Nat)
  | g (g off : Nat)
  | un
  | sv (t : Nat) (e : Lin)
  | pv (t i : Nat)
  | sx (t n : Nat)
/-- cells (no more behind them?); bytes of a string; a map; as many strings as l has bytes, whatever they are; cells from some place on; pairs of numbers from some place on: how many, the numbers -/
inductive Blk where
  | ce (ty : Nat) (cs : List SV) (ex : Bool)
  | bt (ty : Nat) (l : Str)
  | mp (es : List (SV × SV × Nat)) (ck : Nat)
  | ob (ty : Nat) (l : Str)
  | cv (cs : List SV)
  | cq (n b : Nat)
  | cx (ty n b : Nat)

/-! ### Tries -/
inductive Tr (α : Type) where
  | lf
  | nd (l : Tr α) (v : Option α) (r : Tr α)
def Tr.get {α : Type} : Tr α → Nat → Option α
  | .lf, _ => none
  | .nd l v r, k => match k with
    | 0 => v
    | k + 1 => match Nat.beq (Nat.mod k 2) 0 with
      | true => l.get (Nat.div k 2)
      | false => r.get (Nat.div k 2)
/-- what stands where k is turned -/
def Tr.up {α : Type} : Nat → Tr α → Nat → Option α → Tr α
  | 0, t, _, _ => t
  | f + 1, .lf, k, x => match k with
    | 0 => .nd .lf x .lf
    | k + 1 => match Nat.beq (Nat.mod k 2) 0 with
      | true => .nd (Tr.up f .lf (Nat.div k 2) x) none .lf
      | false => .nd .lf none (Tr.up f .lf (Nat.div k 2) x)
  | f + 1, .nd l v r, k, x => match k with
    | 0 => .nd l x r
    | k + 1 => match Nat.beq (Nat.mod k 2) 0 with
      | true => .nd (Tr.up f l (Nat.div k 2) x) v r
      | false => .nd l v (Tr.up f r (Nat.div k 2) x)
def Tr.put {α : Type} : Nat → Tr α → Nat → Option α → (Tr α → Bool) → Bool
  | 0, _, _, _, _ => false
  | f + 1, .lf, k, x, c => match k with
    | 0 => c (.nd .lf x .lf)
    | k + 1 => match Nat.beq (Nat.mod k 2) 0 with
      | true => Tr.put f .lf (Nat.div k 2) x fun l => c (.nd l none .lf)
      | false => Tr.put f .lf (Nat.div k 2) x fun r => c (.nd .lf none r)
  | f + 1, .nd l v r, k, x, c => match k with
    | 0 => c (.nd l x r)
    | k + 1 => match Nat.beq (Nat.mod k 2) 0 with
      | true => Tr.put f l (Nat.div k 2) x fun l => c (.nd l v r)
      | false => Tr.put f r (Nat.div k 2) x fun r => c (.nd l v r)
theorem Tr.up_get {α : Type} : ∀ {f : Nat} {t : Tr α} {k : Nat} {x : Option α}, k < 2 ^ f → ∀ j, (Tr.up (f + 1) t k x).get j = if j = k then x else t.get j := by
  intro f
  induction f with
  | zero =>
    intro t k x hk j
    have : k = 0 := by simpa using hk
    subst this
    cases t <;> cases j <;> simp [Tr.up, Tr.get]
    split <;> rfl
  | succ f ih =>
    intro t k x hk j
    have ih' : ∀ (t : Tr α) (k' : Nat), k = k' + 1 → ∀ j, (Tr.up (f + 1) t (k' / 2) x).get j = if j = k' / 2 then x else t.get j := fun t k' e j =>
      ih (by rw [Nat.pow_succ] at hk; omega) j
    have hmod : ∀ n, n % 2 = 0 ∨ n % 2 = 1 := fun n => by omega
    have bt : ∀ n, n % 2 = 0 → Nat.beq (Nat.mod n 2) 0 = true := fun n h => by show Nat.beq (n % 2) 0 = true; rw [h]; rfl
    have bf : ∀ n, n % 2 = 1 → Nat.beq (Nat.mod n 2) 0 = false := fun n h => by show Nat.beq (n % 2) 0 = false; rw [h]; rfl
    cases t with
    | lf =>
      cases k with
      | zero => cases j <;> simp [Tr.up, Tr.get] ; split <;> rfl
      | succ k =>
        have e := fun t => ih' t k rfl
        rcases hmod k with hk2 | hk2
        · simp only [Tr.up, bt k hk2]
          cases j with
          | zero => simp [Tr.get]
          | succ j =>
            rcases hmod j with hj | hj
            · simp only [Tr.get, bt j hj]
              show (Tr.up (f + 1) Tr.lf (k / 2) x).get (j / 2) = _
              rw [e]
              simp only [Tr.get]
              split <;> split <;> first | rfl | omega
            · simp only [Tr.get, bf j hj]
              split
              · omega
              · rfl
        · simp only [Tr.up, bf k hk2]
          cases j with
          | zero => simp [Tr.get]
          | succ j =>
            rcases hmod j with hj | hj
            · simp only [Tr.get, bt j hj]
              split
              · omega
              · rfl
            · simp only [Tr.get, bf j hj]
              show (Tr.up (f + 1) Tr.lf (k / 2) x).get (j / 2) = _
              rw [e]
              simp only [Tr.get]
              split <;> split <;> first | rfl | omega
    | nd l v r =>
      cases k with
      | zero => cases j <;> simp [Tr.up, Tr.get]
      | succ k =>
        have e := fun t => ih' t k rfl
        rcases hmod k with hk2 | hk2
        · simp only [Tr.up, bt k hk2]
          cases j with
          | zero => simp [Tr.get]
          | succ j =>
            rcases hmod j with hj | hj
            · simp only [Tr.get, bt j hj]
              show (Tr.up (f + 1) l (k / 2) x).get (j / 2) = _
              rw [e]
              split <;> split <;> first | rfl | omega
            · simp only [Tr.get, bf j hj]
              split
              · omega
              · rfl
        · simp only [Tr.up, bf k hk2]
          cases j with
          | zero => simp [Tr.get]
          | succ j =>
            rcases hmod j with hj | hj
            · simp only [Tr.get, bt j hj]
              split
              · omega
              · rfl
            · simp only [Tr.get, bf j hj]
              show (Tr.up (f + 1) r (k / 2) x).get (j / 2) = _
              rw [e]
              split <;> split <;> first | rfl | omega
theorem Tr.put_eq {α : Type} : ∀ {f : Nat} {t : Tr α} {k : Nat} {x : Option α} {c : Tr α → Bool}, k < 2 ^ f → Tr.put (f + 1) t k x c = c (Tr.up (f + 1) t k x) := by
  intro f
  induction f with
  | zero =>
    intro t k x c hk
    have : k = 0 := by simpa using hk
    subst this
    cases t <;> simp [Tr.put, Tr.up]
  | succ f ih =>
    intro t k x c hk
    cases t <;> cases k with
    | zero => simp [Tr.put, Tr.up]
    | succ k =>
      have hk' : Nat.div k 2 < 2 ^ f := by
        show k / 2 < 2 ^ f
        rw [Nat.pow_succ] at hk; omega
      first
        | (show (match Nat.beq (Nat.mod k 2) 0 with
            | true => Tr.put (f + 1) .lf (Nat.div k 2) x fun l => c (.nd l none .lf)
            | false => Tr.put (f + 1) .lf (Nat.div k 2) x fun r => c (.nd .lf none r)) = c (match Nat.beq (Nat.mod k 2) 0 with
            | true => .nd (Tr.up (f + 1) .lf (Nat.div k 2) x) none .lf
            | false => .nd .lf none (Tr.up (f + 1) .lf (Nat.div k 2) x)))
        | (rename_i l v r; show (match Nat.beq (Nat.mod k 2) 0 with
            | true => Tr.put (f + 1) l (Nat.div k 2) x fun l => c (.nd l v r)
            | false => Tr.put (f + 1) r (Nat.div k 2) x fun r => c (.nd l v r)) = c (match Nat.beq (Nat.mod k 2) 0 with
            | true => .nd (Tr.up (f + 1) l (Nat.div k 2) x) v r
            | false => .nd l v (Tr.up (f + 1) r (Nat.div k 2) x)))
      split <;> exact ih hk'
/-- k is turned, if it's not too great -/
def Tr.set {α : Type} (t : Tr α) (k : Nat) (x : Option α) (c : Tr α → Bool) : Bool := match Nat.ble k 4194303 with
  | true => Tr.put 23 t k x c
  | false => false
theorem Tr.set_spec {α : Type} {t : Tr α} {k : Nat} {x : Option α} {c : Tr α → Bool} (h : Tr.set t k x c = true) : ∃ t', c t' = true ∧ (∀ j, t'.get j = if j = k then x else t.get j) ∧ ∀ c', Tr.set t k x c' = true → c' t' = true := by
  unfold Tr.set at h
  split at h
  · rename_i hk
    have hk' : k < 2 ^ 22 := by have := Nat.le_of_ble_eq_true hk; omega
    rw [Tr.put_eq (f := 22) hk'] at h
    refine ⟨_, h, Tr.up_get hk', fun c' hc => ?_⟩
    unfold Tr.set at hc
    rw [hk] at hc
    simp only at hc
    rwa [Tr.put_eq (f := 22) hk'] at hc
  · cases h
end X
end Go.Proofs.YtdbchpoaoghgpaaGreatDoor

set_option linter.unusedSimpArgs false
set_option linter.unusedVariables false
namespace Go.Proofs.YtdbchpoaoghgpaaGreatDoor
namespace X
open Go.RowKit

/-- every pair is told by a number -/
def unp : Nat → Nat × Nat
  | 0 => (0, 0)
  | n + 1 => match unp n with
    | (a, 0) => (0, a + 1)
    | (a, b + 1) => (a + 1, b)
theorem unp_up {a b n : Nat} : ∀ {k : Nat}, unp n = (a, b + k) → unp (n + k) = (a + k, b)
  | 0, h => h
  | k + 1, h => by
    have h1 : unp (n + 1) = (a + 1, b + k) := by
      rw [unp, h]; rfl
    have := unp_up (n := n + 1) h1
    rw [show n + (k + 1) = n + 1 + k by omega, this, show a + (k + 1) = a + 1 + k by omega]
theorem unp_diag : ∀ s, ∃ n, unp n = (0, s)
  | 0 => ⟨0, rfl⟩
  | s + 1 => by
    obtain ⟨n, hn⟩ := unp_diag s
    have h1 := unp_up (a := 0) (b := 0) (n := n) (k := s) (by rw [hn, Nat.zero_add])
    refine ⟨n + s + 1, ?_⟩
    rw [unp, h1, Nat.zero_add]
theorem unp_all (a b : Nat) : ∃ n, unp n = (a, b) := by
  obtain ⟨n, hn⟩ := unp_diag (a + b)
  have := unp_up (a := 0) (b := b) (n := n) (k := a) (by rw [hn, Nat.add_comm])
  exact ⟨n + a, by rw [this, Nat.zero_add]⟩
noncomputable def prN (a b : Nat) : Nat := Classical.choose (unp_all a b)
theorem prN_inj {a b c d : Nat} (h : prN a b = prN c d) : a = c ∧ b = d := by
  have h1 := Classical.choose_spec (unp_all a b)
  have h2 := Classical.choose_spec (unp_all c d)
  have h1 : unp (prN a b) = (a, b) := h1
  have h2 : unp (prN c d) = (c, d) := h2
  rw [h, h2] at h1
  cases h1; exact ⟨rfl, rfl⟩
noncomputable def lsE : List Nat → Nat
  | [] => 0
  | a :: l => prN a (lsE l) + 1
theorem lsE_inj : ∀ {l m : List Nat}, lsE l = lsE m → l = m
  | [], [], _ => rfl
  | [], b :: m, h => by simp [lsE] at h
  | a :: l, [], h => by simp [lsE] at h
  | a :: l, b :: m, h => by
    obtain ⟨h1, h2⟩ := prN_inj (Nat.succ.inj h)
    rw [h1, lsE_inj h2]
def intE : Int → Nat
  | .ofNat n => 2 * n
  | .negSucc n => 2 * n + 1
theorem intE_inj {a b : Int} (h : intE a = intE b) : a = b := by
  cases a <;> cases b <;> simp only [intE] at h <;> first | omega | (congr 1; omega)
def ikE : IntKind → Nat
  | .i8 => 0 | .i16 => 1 | .i32 => 2 | .i64 => 3 | .u8 => 4 | .u16 => 5 | .u32 => 6 | .u64 => 7
theorem ikE_inj {a b : IntKind} (h : ikE a = ikE b) : a = b := by cases a <;> cases b <;> first | rfl | (simp [ikE] at h)
def fkE : FloatKind → Nat
  | .f32 => 0 | .f64 => 1
theorem fkE_inj {a b : FloatKind} (h : fkE a = fkE b) : a = b := by cases a <;> cases b <;> first | rfl | (simp [fkE] at h)
def opE : Option Nat → Nat
  | none => 0
  | some n => n + 1
theorem opE_inj {a b : Option Nat} (h : opE a = opE b) : a = b := by cases a <;> cases b <;> simp [opE] at h <;> simp [h]
noncomputable def adE : Option Addr → Nat
  | none => lsE []
  | some a => lsE [a.block, a.off, opE a.spot]
theorem adE_inj {a b : Option Addr} (h : adE a = adE b) : a = b := by
  cases a with
  | none => cases b with
    | none => rfl
    | some b => have := lsE_inj h; simp at this
  | some a => cases b with
    | none => have := lsE_inj h; simp at this
    | some b =>
      have := lsE_inj h
      simp only [List.cons.injEq, and_true] at this
      obtain ⟨h1, h2, h3⟩ := this
      obtain ⟨a1, a2, a3⟩ := a
      obtain ⟨b1, b2, b3⟩ := b
      simp only at h1 h2 h3
      rw [h1, h2, opE_inj h3]
theorem map_inj' {α : Type} {F : α → Nat} : ∀ {l m : List α}, (∀ a ∈ l, ∀ b ∈ m, F a = F b → a = b) → l.map F = m.map F → l = m
  | [], [], _, _ => rfl
  | [], b :: m, _, h => by simp at h
  | a :: l, [], _, h => by simp at h
  | a :: l, b :: m, hF, h => by
    simp only [List.map_cons, List.cons.injEq] at h
    rw [hF a (by simp) b (by simp) h.1, map_inj' (fun x hx y hy => hF x (by simp [hx]) y (by simp [hy])) h.2]
noncomputable def baE (s : ByteArray) : Nat := lsE (s.data.toList.map UInt8.toNat)
theorem baE_inj {a b : ByteArray} (h : baE a = baE b) : a = b := by
  have := map_inj' (fun x _ y _ e => UInt8.toNat_inj.1 e) (lsE_inj h)
  obtain ⟨a⟩ := a
  obtain ⟨b⟩ := b
  simp only at this
  rw [Array.toList_inj.1 this]
noncomputable def stE (s : String) : Nat := lsE (s.toList.map Char.toNat)
theorem stE_inj {a b : String} (h : stE a = stE b) : a = b := by
  have := map_inj' (fun x _ y _ e => Char.ext (UInt32.toNat_inj.1 e)) (lsE_inj h)
  exact String.toList_inj.1 this
noncomputable def fsE (s : FieldStep) : Nat := lsE [s.struct, s.index, s.deref.toNat]
theorem bl_inj {a b : Bool} (h : a.toNat = b.toNat) : a = b := by cases a <;> cases b <;> first | rfl | (simp at h)
theorem fsE_inj {a b : FieldStep} (h : fsE a = fsE b) : a = b := by
  have := lsE_inj h
  simp only [List.cons.injEq, and_true] at this
  obtain ⟨h1, h2, h3⟩ := this
  obtain ⟨a1, a2, a3⟩ := a
  obtain ⟨b1, b2, b3⟩ := b
  simp only at h1 h2 h3
  rw [h1, h2, bl_inj h3]
noncomputable def fnE : Fn → Nat
  | .func f => lsE [0, f]
  | .method n => lsE [1, stE n]
  | .methodOf t n => lsE [2, t, stE n]
  | .via t p f q => lsE [3, t, lsE (p.toList.map fsE), f, q.toNat]
  | .yield l => lsE [4, l]
theorem fnE_inj {a b : Fn} (h : fnE a = fnE b) : a = b := by
  cases a <;> cases b <;> have h := lsE_inj h <;> simp only [List.cons.injEq, and_true, reduceCtorEq, false_and, and_false, Nat.reduceEqDiff, Nat.zero_ne_one, Nat.one_ne_zero, true_and] at h
  · rw [h]
  · rw [stE_inj h]
  · rw [h.1, stE_inj h.2]
  · obtain ⟨h1, h2, h3, h4⟩ := h
    rw [h1, Array.toList_inj.1 (map_inj' (fun x _ y _ e => fsE_inj e) (lsE_inj h2)), h3, bl_inj h4]
  · rw [h]
/-- a value, by what tells those in it -/
noncomputable def vlE (F : Value → Nat) : Value → Nat
  | .bool b => lsE [0, b.toNat]
  | .int k n => lsE [1, ikE k, intE n]
  | .float k b => lsE [2, fkE k, b]
  | .complex k a b => lsE [3, fkE k, a, b]
  | .string s => lsE [4, baE s]
  | .pointer a => lsE [5, adE a]
  | .slice a l c => lsE [6, adE a, l, c]
  | .map r => lsE [7, opE r]
  | .chan r => lsE [8, opE r]
  | .func fn a b => lsE [9, fnE fn, lsE (a.toList.map F), lsE (b.toList.map F)]
  | .nilFunc => lsE [10]
  | .iface t v => lsE [11, t, F v]
  | .nilIface => lsE [12]
  | .agg cs => lsE [13, lsE (cs.toList.map F)]
  | .tuple vs => lsE [14, lsE (vs.toList.map F)]
theorem arr_inj {n : Nat} {F : Value → Nat} (hF : ∀ a b, SizeOf.sizeOf a < n → SizeOf.sizeOf b < n → F a = F b → a = b) {a b : Array Value} (ha : SizeOf.sizeOf a ≤ n) (hb : SizeOf.sizeOf b ≤ n) (h : lsE (a.toList.map F) = lsE (b.toList.map F)) : a = b :=
  Array.toList_inj.1 (map_inj' (fun x hx y hy e => hF x y (Nat.lt_of_lt_of_le (Array.sizeOf_lt_of_mem (by simpa using hx)) ha) (Nat.lt_of_lt_of_le (Array.sizeOf_lt_of_mem (by simpa using hy)) hb) e) (lsE_inj h))
theorem vlE_inj {n : Nat} {F : Value → Nat} (hF : ∀ a b, SizeOf.sizeOf a < n → SizeOf.sizeOf b < n → F a = F b → a = b) : ∀ a b, SizeOf.sizeOf a ≤ n → SizeOf.sizeOf b ≤ n → vlE F a = vlE F b → a = b := fun a b ha hb h => by
  cases a <;> cases b <;> have h := lsE_inj h <;> simp only [List.cons.injEq, and_true, reduceCtorEq, false_and, and_false, Nat.reduceEqDiff, Nat.zero_ne_one, Nat.one_ne_zero, true_and] at h
  · rw [bl_inj h]
  · rw [ikE_inj h.1, intE_inj h.2]
  · rw [fkE_inj h.1, h.2]
  · rw [fkE_inj h.1, h.2.1, h.2.2]
  · rw [baE_inj h]
  · rw [adE_inj h]
  · rw [adE_inj h.1, h.2.1, h.2.2]
  · rw [opE_inj h]
  · rw [opE_inj h]
  · simp only [Value.func.sizeOf_spec] at ha hb
    obtain ⟨h1, h2, h3⟩ := h
    rw [fnE_inj h1, arr_inj hF (by omega) (by omega) h2, arr_inj hF (by omega) (by omega) h3]
  · rfl
  · simp only [Value.iface.sizeOf_spec] at ha hb
    rw [h.1, hF _ _ (by omega) (by omega) h.2]
  · rfl
  · simp only [Value.agg.sizeOf_spec] at ha hb
    rw [arr_inj hF (by omega) (by omega) h]
  · simp only [Value.tuple.sizeOf_spec] at ha hb
    rw [arr_inj hF (by omega) (by omega) h]
theorem vl_ex : ∀ n, ∃ F : Value → Nat, ∀ a b, SizeOf.sizeOf a < n → SizeOf.sizeOf b < n → F a = F b → a = b
  | 0 => ⟨fun _ => 0, fun a b h => absurd h (by omega)⟩
  | n + 1 => by
    obtain ⟨F, hF⟩ := vl_ex n
    exact ⟨vlE F, fun a b ha hb h => vlE_inj hF a b (by omega) (by omega) h⟩
noncomputable def vlF (n : Nat) : Value → Nat := Classical.choose (vl_ex n)
noncomputable def valE (v : Value) : Nat := lsE [SizeOf.sizeOf v, vlF (SizeOf.sizeOf v + 1) v]
theorem valE_inj {a b : Value} (h : valE a = valE b) : a = b := by
  have := lsE_inj h
  simp only [List.cons.injEq, and_true] at this
  obtain ⟨h1, h2⟩ := this
  rw [← h1] at h2
  exact Classical.choose_spec (vl_ex (SizeOf.sizeOf a + 1)) a b (by omega) (by omega) h2
noncomputable def objE (o : Array Value × Nat × Nat × Nat) : Nat := lsE [lsE (o.1.toList.map valE), o.2.1, o.2.2.1, o.2.2.2]
theorem objE_inj {a b : Array Value × Nat × Nat × Nat} (h : objE a = objE b) : a = b := by
  have := lsE_inj h
  simp only [List.cons.injEq, and_true] at this
  obtain ⟨h1, h2, h3, h4⟩ := this
  obtain ⟨a1, a2, a3, a4⟩ := a
  obtain ⟨b1, b2, b3, b4⟩ := b
  simp only at h1 h2 h3 h4
  rw [Array.toList_inj.1 (map_inj' (fun x _ y _ e => valE_inj e) (lsE_inj h1)), h2, h3, h4]
open Classical in
noncomputable def objD (n : Nat) : Option Obj := if h : ∃ o, objE o = n then some (.cells (Classical.choose h).1 (Classical.choose h).2.1 (Classical.choose h).2.2) else none
theorem objD_all (o : Array Value × Nat × Nat × Nat) : ∃ n, objD n = some (.cells o.1 o.2.1 o.2.2) := by
  refine ⟨objE o, ?_⟩
  unfold objD
  have h : ∃ o', objE o' = objE o := ⟨o, rfl⟩
  rw [dif_pos h]
  have e := objE_inj (Classical.choose_spec h)
  rw [e]
end X
end Go.Proofs.YtdbchpoaoghgpaaGreatDoor

set_option linter.unusedSimpArgs false
set_option linter.unusedVariables false
namespace Go.Proofs.YtdbchpoaoghgpaaGreatDoor
namespace X
open Go.RowKit B

structure Rho where
  v : Nat → Int
  s : Nat → List UInt8
/-- a variable: an unknown number; an unknown string's length; a byte of an unknown string, at an unknown place; is an unknown string one byte; is it another unknown string? -/
def Rho.at (ρ : Rho) (j : Nat) : Int := if j % 4 = 1 then ((ρ.s (j / 4)).length : Int) else if j % 8 = 3 then (((ρ.s (j / 8 % 16)).getD (ρ.v (j / 128)).toNat 0).toNat : Int) else if j % 8 = 7 then (if ρ.s (j / 8 % 16) = (if j / 128 < 256 then [UInt8.ofNat (j / 128)] else ρ.s (j / 128 - 256)) then 1 else 0) else ρ.v (j / 2)
theorem Rho.at_v (ρ : Rho) (i : Nat) : ρ.at (2 * i) = ρ.v i := by
  unfold Rho.at
  rw [if_neg (by omega), if_neg (by omega), if_neg (by omega), show 2 * i / 2 = i by omega]
theorem Rho.at_l (ρ : Rho) (i : Nat) : ρ.at (4 * i + 1) = ((ρ.s i).length : Int) := by
  unfold Rho.at
  rw [if_pos (by omega), show (4 * i + 1) / 4 = i by omega]
theorem Rho.at_b (ρ : Rho) (i j : Nat) (h : i < 16) : ρ.at (8 * (i + 16 * j) + 3) = (((ρ.s i).getD (ρ.v j).toNat 0).toNat : Int) := by
  unfold Rho.at
  rw [if_neg (by omega), if_pos (by omega), show (8 * (i + 16 * j) + 3) / 8 % 16 = i by omega, show (8 * (i + 16 * j) + 3) / 128 = j by omega]
theorem Rho.at_e (ρ : Rho) (i n : Nat) (h : i < 16) (hn : n < 256) : ρ.at (8 * (i + 16 * n) + 7) = if ρ.s i = [UInt8.ofNat n] then 1 else 0 := by
  unfold Rho.at
  rw [if_neg (by omega), if_neg (by omega), if_pos (by omega), show (8 * (i + 16 * n) + 7) / 8 % 16 = i by omega, show (8 * (i + 16 * n) + 7) / 128 = n by omega, if_pos hn]
theorem Rho.at_q (ρ : Rho) (i k : Nat) (h : i < 16) : ρ.at (8 * (i + 16 * (256 + k)) + 7) = if ρ.s i = ρ.s k then 1 else 0 := by
  unfold Rho.at
  rw [if_neg (by omega), if_neg (by omega), if_pos (by omega), show (8 * (i + 16 * (256 + k)) + 7) / 8 % 16 = i by omega, show (8 * (i + 16 * (256 + k)) + 7) / 128 = 256 + k by omega, if_neg (show ¬ 256 + k < 256 by omega), show 256 + k - 256 = k by omega]
def dts (ρ : Rho) : List (Nat × Int) → Int
  | [] => 0
  | (i, a) :: l => a * ρ.at i + dts ρ l
def Lin.den (ρ : Rho) : Lin → Int
  | .mk c ts => c + dts ρ ts
def Pc.den (ρ : Rho) : Pc → List UInt8
  | .c n => [UInt8.ofNat n]
  | .a i => ρ.s i
def denS (ρ : Rho) (l : Str) : List UInt8 := l.flatMap (Pc.den ρ)
def bstr (l : List UInt8) : ByteArray := ⟨l.toArray⟩
abbrev Th := Nat → Option (Nat × Nat)
def Cap.den (c off : Nat) : Cap → Nat
  | .k n => n
  | .q sz => (c - off) / sz
/-- a place, whatever it is; how much room there is -/
def adrC (g : Nat × Nat) : Addr := ⟨g.1, (unp g.2).1, match (unp (unp g.2).2).1 with
  | 0 => none
  | k + 1 => some k⟩
def capC (g : Nat × Nat) : Nat := (unp (unp (unp g.2).2).2).1
/-- what stands in the block -/
noncomputable def objC (c : Nat) : Option Obj := objD (unp (unp (unp c).2).2).2
theorem adrC_all (a : Addr) (cap : Nat) (o : Array Value × Nat × Nat × Nat) : ∃ c, adrC (a.block, c) = a ∧ capC (a.block, c) = cap ∧ objC c = some (.cells o.1 o.2.1 o.2.2) := by
  obtain ⟨g, off, spot⟩ := a
  obtain ⟨p, hp⟩ := objD_all o
  obtain ⟨k, hk⟩ := unp_all cap p
  obtain ⟨n, hn⟩ := unp_all (match spot with | none => 0 | some k => k + 1) k
  obtain ⟨c, hc⟩ := unp_all off n
  refine ⟨c, ?_, ?_, ?_⟩
  · unfold adrC
    simp only [hc, hn]
    cases spot <;> rfl
  · unfold capC
    simp only [hc, hn, hk]
  · unfold objC
    simp only [hc, hn, hk, hp]
/-- a block that nothing turns -/
def Fz (w : World) (g c : Nat) : Prop := g < w.heap.size ∧ w.heap[g]? = objC (c - 1)
mutual
def den (ρ : Rho) (θ : Th) : SV → Option Value
  | .i k n => some (.int k n)
  | .x k e => some (.int k (e.den ρ))
  | .b b => some (.bool b)
  | .s l => some (.string (bstr (denS ρ l)))
  | .p t off => (θ t).map fun g => .pointer (some ⟨g.1, off, none⟩)
  | .np => some (.pointer none)
  | .sl t off len cap => (θ t).map fun g => .slice (some ⟨g.1, off, none⟩) len (cap.den g.2 off)
  | .sb t l => (θ t).map fun g => .slice (some ⟨g.1, 0, none⟩) (denS ρ l).length g.2
  | .su t => (θ t).map fun g => .slice (some ⟨g.1, 0, none⟩) (g.2 % 18446744073709551616) (g.2 / 18446744073709551616)
  | .ns => some (.slice none 0 0)
  | .ag l => (dens ρ θ l).map fun vs => .agg vs.toArray
  | .tu l => (dens ρ θ l).map fun vs => .tuple vs.toArray
  | .fn f fi ca => (dens ρ θ fi).bind fun a => (dens ρ θ ca).map fun b => .func (.func f) a.toArray b.toArray
  | .nf => some .nilFunc
  | .ni => some .nilIface
  | .nm => some (.map none)
  | .mp t => (θ t).map fun g => .map (some g.1)
  | .g g off => some (.pointer (some ⟨g, off, none⟩))
  | .un => some undef
  | .sv t e => (θ t).bind fun g => match g.2 with
    | 0 => if e.den ρ = 0 then some (.slice none 0 0) else none
    | c + 1 => if 0 ≤ e.den ρ then some (.slice (some (adrC (g.1, c))) (e.den ρ).toNat (capC (g.1, c))) else none
  | .pv t i => (θ t).map fun g => .pointer (some ((adrC (g.1, g.2 - 1)).add i))
  | .sx t n => (θ t).map fun g => .slice (some ⟨g.1, 0, none⟩) (ρ.v n).toNat ((Cap.q 2).den g.2 0)
def dens (ρ : Rho) (θ : Th) : List SV → Option (List Value)
  | [] => some []
  | v :: l => (den ρ θ v).bind fun u => (dens ρ θ l).map fun us => u :: us
end
def denE (ρ : Rho) (θ : Th) : List (SV × SV × Nat) → Option (List MapEntry)
  | [] => some []
  | (k, v, n) :: l => (den ρ θ k).bind fun a => (den ρ θ v).bind fun b => (denE ρ θ l).map fun es => ⟨a, b, n⟩ :: es

def ThLe (θ θ' : Th) : Prop := ∀ t x, θ t = some x → θ' t = some x
theorem ThLe.refl (θ : Th) : ThLe θ θ := fun _ _ h => h
theorem ThLe.trans {a b c : Th} (h : ThLe a b) (k : ThLe b c) : ThLe a c := fun t x e => k t x (h t x e)
section
variable {ρ : Rho} {θ θ' : Th}
theorem map_mono {α β : Type} {a b : Option α} {f : α → β} {u : β} (hab : ∀ x, a = some x → b = some x) (h : a.map f = some u) : b.map f = some u := by
  cases ha : a with
  | none => rw [ha] at h; cases h
  | some x => rw [hab x ha]; rw [ha] at h; exact h
theorem bind_mono {α β : Type} {a b : Option α} {f : α → Option β} {u : β} (hab : ∀ x, a = some x → b = some x) (h : a.bind f = some u) : b.bind f = some u := by
  cases ha : a with
  | none => rw [ha] at h; cases h
  | some x => rw [hab x ha]; rw [ha] at h; exact h
mutual
theorem den_mono (hle : ThLe θ θ') : ∀ (v : SV) {u : Value}, den ρ θ v = some u → den ρ θ' v = some u
  | .i k n, u, h => h
  | .x k e, u, h => h
  | .b b, u, h => h
  | .s l, u, h => h
  | .p t off, u, h => map_mono (hle t) h
  | .np, u, h => h
  | .sl t off len cap, u, h => map_mono (hle t) h
  | .sb t l, u, h => map_mono (hle t) h
  | .su t, u, h => map_mono (hle t) h
  | .ns, u, h => h
  | .ag l, u, h => map_mono (fun x => dens_mono hle l) h
  | .tu l, u, h => map_mono (fun x => dens_mono hle l) h
  | .fn f fi ca, u, h => by
    simp only [den, Option.bind_eq_some_iff, Option.map_eq_some_iff] at h ⊢
    obtain ⟨a, h1, b, h2, h3⟩ := h
    exact ⟨a, dens_mono hle fi h1, b, dens_mono hle ca h2, h3⟩
  | .nf, u, h => h
  | .ni, u, h => h
  | .nm, u, h => h
  | .mp t, u, h => map_mono (hle t) h
  | .g g off, u, h => h
  | .un, u, h => h
  | .sv t n, u, h => bind_mono (hle t) h
  | .pv t i, u, h => map_mono (hle t) h
  | .sx t n, u, h => map_mono (hle t) h
theorem dens_mono (hle : ThLe θ θ') : ∀ (l : List SV) {us : List Value}, dens ρ θ l = some us → dens ρ θ' l = some us
  | [], us, h => h
  | v :: l, us, h => by
    simp only [dens, Option.bind_eq_some_iff, Option.map_eq_some_iff] at h ⊢
    obtain ⟨u, h1, us', h2, h3⟩ := h
    exact ⟨u, den_mono hle v h1, us', dens_mono hle l h2, h3⟩
end
theorem denE_mono (hle : ThLe θ θ') : ∀ (l : List (SV × SV × Nat)) {es : List MapEntry}, denE ρ θ l = some es → denE ρ θ' l = some es
  | [], es, h => h
  | (k, v, n) :: l, es, h => by
    simp only [denE, Option.bind_eq_some_iff, Option.map_eq_some_iff] at h ⊢
    obtain ⟨a, h1, b, h2, es', h3, h4⟩ := h
    exact ⟨a, den_mono hle k h1, b, den_mono hle v h2, es', denE_mono hle l h3, h4⟩
theorem dens_len : ∀ {l : List SV} {us : List Value}, dens ρ θ l = some us → us.length = l.length
  | [], us, h => by cases h; rfl
  | v :: l, us, h => by
    simp only [dens, Option.bind_eq_some_iff, Option.map_eq_some_iff] at h
    obtain ⟨u, _, us', h2, rfl⟩ := h
    simp [dens_len h2]
theorem dens_get : ∀ {l : List SV} {us : List Value} {j : Nat} {v : SV}, dens ρ θ l = some us → l[j]? = some v → ∃ u, us[j]? = some u ∧ den ρ θ v = some u
  | [], us, j, v, h, hj => by simp at hj
  | x :: l, us, j, v, h, hj => by
    simp only [dens, Option.bind_eq_some_iff, Option.map_eq_some_iff] at h
    obtain ⟨u, h1, us', h2, rfl⟩ := h
    cases j with
    | zero => simp at hj; subst hj; exact ⟨u, rfl, h1⟩
    | succ j => obtain ⟨u', h3, h4⟩ := dens_get h2 (by simpa using hj); exact ⟨u', by simpa using h3, h4⟩
theorem dens_append {l m : List SV} {us ws : List Value} (h : dens ρ θ l = some us) (k : dens ρ θ m = some ws) : dens ρ θ (l ++ m) = some (us ++ ws) := by
  induction l generalizing us with
  | nil => cases h; exact k
  | cons v l ih =>
    simp only [dens, Option.bind_eq_some_iff, Option.map_eq_some_iff, List.cons_append] at h ⊢
    obtain ⟨u, h1, us', h2, rfl⟩ := h
    exact ⟨u, h1, _, ih h2, rfl⟩
theorem dens_drop : ∀ {l : List SV} {us : List Value} (n : Nat), dens ρ θ l = some us → dens ρ θ (l.drop n) = some (us.drop n)
  | l, us, 0, h => by simpa using h
  | [], us, n + 1, h => by cases h; rfl
  | v :: l, us, n + 1, h => by
    simp only [dens, Option.bind_eq_some_iff, Option.map_eq_some_iff] at h
    obtain ⟨u, _, us', h2, rfl⟩ := h
    simpa using dens_drop n h2
theorem dens_take : ∀ {l : List SV} {us : List Value} (n : Nat), dens ρ θ l = some us → dens ρ θ (l.take n) = some (us.take n)
  | l, us, 0, h => by simp [dens]
  | [], us, n + 1, h => by cases h; rfl
  | v :: l, us, n + 1, h => by
    simp only [dens, Option.bind_eq_some_iff, Option.map_eq_some_iff] at h
    obtain ⟨u, h1, us', h2, rfl⟩ := h
    simp [dens, h1, dens_take n h2]
end

/-! ### Memory -/
/-- so many pairs of numbers -/
def pairs (ρ : Rho) (n b : Nat) : List Value := (List.range (2 * (ρ.v n).toNat)).map fun j => .int .i64 (ρ.v (b + j))
def HoldsB (ρ : Rho) (θ : Th) (w : World) (t : Nat) : Blk → Prop
  | .ce ty cs ex => ∃ g c vs arr rest, θ t = some (g, c) ∧ w.heap[g]? = some (.cells arr ty (0, 0)) ∧ arr.size = c ∧ dens ρ θ cs = some vs ∧ (∀ v ∈ vs, v.oneCell' = true) ∧ arr.toList = vs ++ rest ∧ (ex = true → rest = [])
  | .bt ty l => ∃ g c arr rest, θ t = some (g, c) ∧ w.heap[g]? = some (.cells arr ty (0, 0)) ∧ arr.size = c ∧ arr.toList = (denS ρ l).map (fun b => .int .u8 b.toNat) ++ rest
  | .mp es ck => ∃ g c arr, θ t = some (g, c) ∧ w.heap[g]? = some (.map arr ck) ∧ denE ρ θ es = some arr.toList
  | .ob ty l => ∃ g c arr rest, ∃ ss : List ByteArray, θ t = some (g, c) ∧ w.heap[g]? = some (.cells arr ty (0, 0)) ∧ arr.size = c ∧ ss.length = (denS ρ l).length ∧ arr.toList = ss.map Value.string ++ rest
  | .cv cs => ∃ g c vs, θ t = some (g, c) ∧ Fz w g c ∧ dens ρ θ cs = some vs ∧ ∀ j u, vs[j]? = some u → w.cell? ((adrC (g, c - 1)).add j) = some u
  | .cq n b => ∃ g c, θ t = some (g, c) ∧ Fz w g c ∧ ∀ j, j < 2 * (ρ.v n).toNat → w.cell? ((adrC (g, c - 1)).add j) = some (.int .i64 (ρ.v (b + j)))
  | .cx ty n b => ∃ g c arr rest, θ t = some (g, c) ∧ w.heap[g]? = some (.cells arr ty (0, 0)) ∧ arr.size = c ∧ arr.toList = pairs ρ n b ++ rest
def Bl (θ : Th) (M : Nat → Option Blk) (g : Nat) : Prop := ∃ t c, M t ≠ none ∧ θ t = some (g, c)
structure MemOk (ρ : Rho) (θ : Th) (M : Nat → Option Blk) (w : World) : Prop where
  holds : ∀ t b, M t = some b → HoldsB ρ θ w t b
  inj : ∀ s t g c c', M s ≠ none → M t ≠ none → θ s = some (g, c) → θ t = some (g, c') → s = t
section
variable {ρ : Rho} {θ θ' : Th} {w w' : World} {M M' R R' : Nat → Option Blk}
theorem HoldsB.th {t : Nat} {b : Blk} (h : HoldsB ρ θ w t b) : ∃ g c, θ t = some (g, c) ∧ g < w.heap.size := by
  have lt : ∀ {g : Nat} {o : Obj}, w.heap[g]? = some o → g < w.heap.size := fun h => (Array.getElem?_eq_some_iff.1 h).1
  cases b with
  | ce ty cs ex => obtain ⟨g, c, vs, arr, rest, h1, h2, _⟩ := h; exact ⟨g, c, h1, lt h2⟩
  | bt ty l => obtain ⟨g, c, arr, rest, h1, h2, _⟩ := h; exact ⟨g, c, h1, lt h2⟩
  | mp es ck => obtain ⟨g, c, arr, h1, h2, _⟩ := h; exact ⟨g, c, h1, lt h2⟩
  | ob ty l => obtain ⟨g, c, arr, rest, ss, h1, h2, _⟩ := h; exact ⟨g, c, h1, lt h2⟩
  | cv cs => obtain ⟨g, c, vs, h1, h2, _⟩ := h; exact ⟨g, c, h1, h2.1⟩
  | cq n b => obtain ⟨g, c, h1, h2, _⟩ := h; exact ⟨g, c, h1, h2.1⟩
  | cx ty n b => obtain ⟨g, c, arr, rest, h1, h2, _⟩ := h; exact ⟨g, c, h1, lt h2⟩
theorem HoldsB.keep {t : Nat} {b : Blk} {N : Nat → Prop} (h : HoldsB ρ θ w t b) (hle : ThLe θ θ') (hx : Ext N w w') (hn : ∀ g c, θ t = some (g, c) → ¬ N g) : HoldsB ρ θ' w' t b := by
  obtain ⟨g0, c0, e0, lt0⟩ := h.th
  have key : ∀ {g c : Nat} {o : Obj}, θ t = some (g, c) → w.heap[g]? = some o → w'.heap[g]? = some o := fun {g c o} e h => by
    rw [e0] at e; cases e
    rw [hx.block _ lt0 (hn _ _ e0)]; exact h
  cases b with
  | ce ty cs ex => obtain ⟨g, c, vs, arr, rest, h1, h2, h3, h4, h5⟩ := h; exact ⟨g, c, vs, arr, rest, hle _ _ h1, key h1 h2, h3, dens_mono hle _ h4, h5⟩
  | bt ty l => obtain ⟨g, c, arr, rest, h1, h2, h3⟩ := h; exact ⟨g, c, arr, rest, hle _ _ h1, key h1 h2, h3⟩
  | mp es ck => obtain ⟨g, c, arr, h1, h2, h3⟩ := h; exact ⟨g, c, arr, hle _ _ h1, key h1 h2, denE_mono hle _ h3⟩
  | ob ty l => obtain ⟨g, c, arr, rest, ss, h1, h2, h3⟩ := h; exact ⟨g, c, arr, rest, ss, hle _ _ h1, key h1 h2, h3⟩
  | cv cs =>
    obtain ⟨g, c, vs, h1, h2, h3, h4⟩ := h
    refine ⟨g, c, vs, hle _ _ h1, ⟨Nat.lt_of_lt_of_le h2.1 hx.size, (hx.block _ h2.1 (hn _ _ h1)).trans h2.2⟩, dens_mono hle _ h3, fun j u hj => ?_⟩
    have hb : ((adrC (g, c - 1)).add j).block = g := by unfold Addr.add; split <;> rfl
    rw [← h4 j u hj]
    unfold World.cell?
    rw [hb, hx.block _ h2.1 (hn _ _ h1)]
  | cx ty n b => obtain ⟨g, c, arr, rest, h1, h2, h3⟩ := h; exact ⟨g, c, arr, rest, hle _ _ h1, key h1 h2, h3⟩
  | cq n b =>
    obtain ⟨g, c, h1, h2, h4⟩ := h
    refine ⟨g, c, hle _ _ h1, ⟨Nat.lt_of_lt_of_le h2.1 hx.size, (hx.block _ h2.1 (hn _ _ h1)).trans h2.2⟩, fun j hj => ?_⟩
    have hb : ((adrC (g, c - 1)).add j).block = g := by unfold Addr.add; split <;> rfl
    rw [← h4 j hj]
    unfold World.cell?
    rw [hb, hx.block _ h2.1 (hn _ _ h1)]
theorem MemOk.lt (h : MemOk ρ θ M w) {g : Nat} (hg : Bl θ M g) : g < w.heap.size := by
  obtain ⟨t, c, h1, h2⟩ := hg
  cases hm : M t with
  | none => exact absurd hm h1
  | some b =>
    obtain ⟨g', c', e, lt⟩ := (h.holds t b hm).th
    rw [e] at h2; cases h2; exact lt
theorem MemOk.th (h : MemOk ρ θ M w) {t : Nat} {b : Blk} (hm : M t = some b) : ∃ g c, θ t = some (g, c) ∧ g < w.heap.size := (h.holds t b hm).th
theorem MemOk.sub (h : MemOk ρ θ M w) (hs : ∀ t b, R t = some b → M t = some b) : MemOk ρ θ R w := by
  have ne : ∀ t, R t ≠ none → M t ≠ none := fun t ht => by
    cases hr : R t with
    | none => exact absurd hr ht
    | some b => rw [hs t b hr]; simp
  exact ⟨fun t b hr => h.holds t b (hs t b hr), fun s t g c c' h1 h2 => h.inj s t g c c' (ne s h1) (ne t h2)⟩

/-- what a step from R leaves -/
structure SP (ρ : Rho) (nx nx' : Nat) (θ : Th) (R : Nat → Option Blk) (w : World) (θ' : Th) (R' : Nat → Option Blk) (w' : World) : Prop where
  le : ThLe θ θ'
  new : ∀ t, θ' t ≠ none → θ t ≠ none ∨ (nx ≤ t ∧ t < nx')
  mem : MemOk ρ θ' R' w'
  ext : Ext (Bl θ R) w w'
  own : ∀ g, Bl θ' R' g → Bl θ R g ∨ w.heap.size ≤ g
theorem SP.refl {nx : Nat} (h : MemOk ρ θ R w) : SP ρ nx nx θ R w θ R w := ⟨ThLe.refl _, fun t ht => .inl ht, h, Ext.refl _ _, fun g hg => .inl hg⟩
theorem SP.drew {nx nx' : Nat} {w'' : World} (h : SP ρ nx nx' θ R w θ' R' w') (hh : w''.heap = w.heap) (hd : Ext none' w'' w) : SP ρ nx nx' θ R w'' θ' R' w' :=
  ⟨h.le, h.new, h.mem, (hd.mono fun _ _ h => h.elim).trans h.ext, fun g hg => by rw [hh]; exact h.own g hg⟩
theorem SP.trans {nx nx1 nx2 : Nat} {θ2 : Th} {R2 : Nat → Option Blk} {w2 : World} (h : SP ρ nx nx1 θ R w θ' R' w') (k : SP ρ nx1 nx2 θ' R' w' θ2 R2 w2) (h1 : nx ≤ nx1) (h2 : nx1 ≤ nx2) : SP ρ nx nx2 θ R w θ2 R2 w2 := by
  refine ⟨h.le.trans k.le, fun t ht => ?_, k.mem, ?_, fun g hg => ?_⟩
  · rcases k.new t ht with a | a
    · rcases h.new t a with b | b
      · exact .inl b
      · exact .inr ⟨b.1, by omega⟩
    · exact .inr ⟨by omega, a.2⟩
  · refine ⟨k.ext.os.trans h.ext.os, k.ext.tape.trans h.ext.tape, k.ext.output.trans h.ext.output, Nat.le_trans h.ext.size k.ext.size, fun i hi hn => ?_⟩
    rw [k.ext.block i (Nat.lt_of_lt_of_le hi h.ext.size) fun hb => ?_, h.ext.block i hi hn]
    rcases h.own i hb with a | a
    · exact hn a
    · omega
  · rcases k.own g hg with a | a
    · exact h.own g a
    · exact .inr (Nat.le_trans h.ext.size a)

theorem SP.frame {nx nx' : Nat} {tc : Nat → Prop} (hM : MemOk ρ θ M w) (hR : ∀ t b, R t = some b → tc t ∧ M t = some b) (h : SP ρ nx nx' θ R w θ' R' w') (hR' : ∀ t, ¬ tc t → R' t = none) (hM' : ∀ t b, M' t = some b → (tc t ∧ R' t = some b) ∨ (¬ tc t ∧ M t = some b)) :
    SP ρ nx nx' θ M w θ' M' w' := by
  classical
  have hRM : ∀ t, R t ≠ none → M t ≠ none ∧ tc t := fun t ht => by
    cases hb : R t with
    | none => exact absurd hb ht
    | some b => obtain ⟨h1, h2⟩ := hR t b hb; exact ⟨by simp [h2], h1⟩
  have bl : ∀ g, Bl θ R g → Bl θ M g := fun g ⟨t, c, h1, h2⟩ => ⟨t, c, (hRM t h1).1, h2⟩
  have away : ∀ t, ¬ tc t → M t ≠ none → ∀ g c, θ t = some (g, c) → ¬ Bl θ R g := fun t ht hm g c e ⟨s, c', h1, h2⟩ => by
    have := hM.inj s t g c' c (hRM s h1).1 hm h2 e
    subst this; exact ht (hRM s h1).2
  have ne : ∀ t, M' t ≠ none → (tc t ∧ R' t ≠ none) ∨ (¬ tc t ∧ M t ≠ none) := fun t ht => by
    cases hb : M' t with
    | none => exact absurd hb ht
    | some b => rcases hM' t b hb with ⟨a, e⟩ | ⟨a, e⟩ <;> simp [a, e]
  have out : ∀ t, ¬ tc t → M t ≠ none → ∀ g c, θ' t = some (g, c) → θ t = some (g, c) ∧ g < w.heap.size := fun t ht hm g c e => by
    cases hb : M t with
    | none => exact absurd hb hm
    | some b =>
      obtain ⟨g', c', e', lt⟩ := (hM.holds t b hb).th
      have := h.le t _ e'
      rw [e] at this; cases this
      exact ⟨e', lt⟩
  refine ⟨h.le, h.new, ⟨fun t b hb => ?_, fun s t g c c' hs ht e1 e2 => ?_⟩, h.ext.mono fun g _ hg => bl g hg, fun g ⟨t, c, ht, e⟩ => ?_⟩
  · rcases hM' t b hb with ⟨_, e⟩ | ⟨a, e⟩
    · exact h.mem.holds t b e
    · exact (hM.holds t b e).keep h.le h.ext (away t a (by rw [e]; simp))
  · rcases ne s hs with ⟨a1, a2⟩ | ⟨a1, a2⟩ <;> rcases ne t ht with ⟨b1, b2⟩ | ⟨b1, b2⟩
    · exact h.mem.inj s t g c c' a2 b2 e1 e2
    · exfalso
      obtain ⟨e3, lt⟩ := out t b1 b2 g c' e2
      rcases h.own g ⟨s, c, a2, e1⟩ with q | q
      · exact away t b1 b2 g c' e3 q
      · omega
    · exfalso
      obtain ⟨e3, lt⟩ := out s a1 a2 g c e1
      rcases h.own g ⟨t, c', b2, e2⟩ with q | q
      · exact away s a1 a2 g c e3 q
      · omega
    · exact hM.inj s t g c c' a2 b2 (out s a1 a2 g c e1).1 (out t b1 b2 g c' e2).1
  · rcases ne t ht with ⟨a1, a2⟩ | ⟨a1, a2⟩
    · rcases h.own g ⟨t, c, a2, e⟩ with q | q
      · exact .inl (bl g q)
      · exact .inr q
    · exact .inl ⟨t, c, a2, (out t a1 a2 g c e).1⟩
end
end X
end Go.Proofs.YtdbchpoaoghgpaaGreatDoor

set_option linter.unusedSimpArgs false
set_option linter.unusedVariables false
namespace Go.Proofs.YtdbchpoaoghgpaaGreatDoor
namespace X
open Go.RowKit B

section
variable {ρ : Rho} {θ θ' : Th} {w w' : World} {M M' R R' : Nat → Option Blk}
theorem SP.wk {a b n n' : Nat} (h : SP ρ n n' θ R w θ' R' w') (h1 : a ≤ n) (h2 : n' ≤ b) : SP ρ a b θ R w θ' R' w' :=
  ⟨h.le, fun t ht => (h.new t ht).imp id fun q => ⟨by omega, by omega⟩, h.mem, h.ext, h.own⟩
theorem SP.seq {a b : Nat} {θ2 : Th} {R2 : Nat → Option Blk} {w2 : World} (h : SP ρ a b θ R w θ' R' w') (k : SP ρ a b θ' R' w' θ2 R2 w2) : SP ρ a b θ R w θ2 R2 w2 := by
  refine ⟨h.le.trans k.le, fun t ht => ?_, k.mem, ?_, fun g hg => ?_⟩
  · rcases k.new t ht with q | q
    · exact h.new t q
    · exact .inr q
  · refine ⟨k.ext.os.trans h.ext.os, k.ext.tape.trans h.ext.tape, k.ext.output.trans h.ext.output, Nat.le_trans h.ext.size k.ext.size, fun i hi hn => ?_⟩
    rw [k.ext.block i (Nat.lt_of_lt_of_le hi h.ext.size) fun hb => ?_, h.ext.block i hi hn]
    rcases h.own i hb with q | q
    · exact hn q
    · omega
  · rcases k.own g hg with q | q
    · exact h.own g q
    · exact .inr (Nat.le_trans h.ext.size q)
end

def rdO : Operand → List Nat
  | .tmp t => [t]
  | _ => []
def rdOs (l : List Operand) : List Nat := l.flatMap rdO
/-- where an operation's guard lies -/
def gSlot (ops : Array Oper) (o : Oper) : List Nat := match o.guard with
  | none => []
  | some (j, _) => match ops[j]? with
    | some o' => o'.dst.toList
    | none => []
def reads (ops : Array Oper) (o : Oper) : List Nat := rdOs o.op.operands.toList ++ gSlot ops o

/-- an operation of a trace: the memory that it reads or turns, what it leaves, the tags that it may give -/
structure TE where
  o : Oper
  R : Nat → Option Blk
  v : SV
  R' : Nat → Option Blk
  n : Nat
  n' : Nat
def TE.wr (e : TE) (t : Nat) : Prop := e.R t ≠ e.R' t
def TE.rd (e : TE) (t : Nat) : Prop := e.R t ≠ none
def updS (S : Nat → Option SV) (d : Option Nat) (v : SV) : Nat → Option SV := fun k => if d = some k then some v else S k
open Classical in
noncomputable def updM (M : Nat → Option Blk) (e : TE) : Nat → Option Blk := fun t => if e.R t = e.R' t then M t else e.R' t
theorem updM_wr {M : Nat → Option Blk} {e : TE} {t : Nat} (h : e.wr t) : updM M e t = e.R' t := if_neg h
theorem updM_not {M : Nat → Option Blk} {e : TE} {t : Nat} (h : ¬ e.wr t) : updM M e t = M t := if_pos (Classical.not_not.1 h)

/-- an operation does what a trace tells of it, whatever else there is -/
def Step3 (P : Program) (ρ : Rho) (ops : Array Oper) (n : Nat) (S : Nat → Option SV) (e : TE) : Prop :=
  ∀ (a : Act) (w : World) (θ : Th), a.defers = [] → a.tmps.size = n → (∀ k ∈ reads ops e.o, ∀ sv, S k = some sv → den ρ θ sv = some (get a k)) → MemOk ρ θ e.R w → (∀ t, e.n ≤ t → t < e.n' → θ t = none) →
    (Region.wanted e.o (yielded ops a.tmps) = true → e.o.wp P a w (fun a' w' => ∃ v θ', a' = a.put e.o.dst v ∧ SP ρ e.n e.n' θ e.R w θ' e.R' w' ∧ den ρ θ' e.v = some v) (fun _ _ _ => False)) ∧
    (Region.wanted e.o (yielded ops a.tmps) = false → ∃ θ', SP ρ e.n e.n' θ e.R w θ' e.R' w ∧ den ρ θ' e.v = some undef)
def Steps3 (P : Program) (ρ : Rho) (ops : Array Oper) (n : Nat) : Nat → (Nat → Option SV) → (Nat → Option Blk) → List TE → Prop
  | _, _, _, [] => True
  | nx, S, M, e :: l => (e.n = nx ∧ e.n ≤ e.n' ∧ (∀ t b, e.R t = some b → M t = some b) ∧ (∀ t, e.R t = none → e.R' t ≠ none → e.n ≤ t ∧ t < e.n') ∧ Step3 P ρ ops n S e) ∧ Steps3 P ρ ops n e.n' (updS S e.o.dst e.v) (updM M e) l
def stS (D : Nat → Bool) : Nat → List TE → (Nat → Option SV) → (Nat → Option SV)
  | _, [], S => S
  | i, e :: l, S => stS D (i + 1) l (if D i = true then updS S e.o.dst e.v else S)
noncomputable def stM (D : Nat → Bool) : Nat → List TE → (Nat → Option Blk) → (Nat → Option Blk)
  | _, [], M => M
  | i, e :: l, M => stM D (i + 1) l (if D i = true then updM M e else M)
theorem stS_agree {D D' : Nat → Bool} {k : Nat} : ∀ {l : List TE} {i : Nat} {S S' : Nat → Option SV}, S k = S' k → (∀ j e, l[j]? = some e → e.o.dst = some k → D (i + j) = D' (i + j)) → stS D i l S k = stS D' i l S' k
  | [], _, _, _, h, _ => h
  | e :: l, i, S, S', h, hd => by
    unfold stS
    refine stS_agree (l := l) ?_ fun j e' hj hk => ?_
    · by_cases hk : e.o.dst = some k
      · have := hd 0 e rfl hk
        rw [Nat.add_zero] at this
        rw [this]
        split
        · simp [updS, hk]
        · exact h
      · split <;> split <;> simp [updS, hk, h]
    · have := hd (j + 1) e' (by simpa using hj) hk
      rwa [show i + (j + 1) = i + 1 + j by omega] at this
theorem stM_agree {D D' : Nat → Bool} {t : Nat} : ∀ {l : List TE} {i : Nat} {M M' : Nat → Option Blk}, M t = M' t → (∀ j e, l[j]? = some e → e.wr t → D (i + j) = D' (i + j)) → stM D i l M t = stM D' i l M' t
  | [], _, _, _, h, _ => h
  | e :: l, i, M, M', h, hd => by
    unfold stM
    refine stM_agree (l := l) ?_ fun j e' hj hk => ?_
    · by_cases hk : e.wr t
      · have := hd 0 e rfl hk
        rw [Nat.add_zero] at this
        rw [this]
        split
        · rw [updM_wr hk, updM_wr hk]
        · exact h
      · split <;> split <;> simp only [updM_not hk, h]
    · have := hd (j + 1) e' (by simpa using hj) hk
      rwa [show i + (j + 1) = i + 1 + j by omega] at this
theorem stS_nil {D : Nat → Bool} {S : Nat → Option SV} : ∀ {l : List TE} {m : Nat}, (∀ j, j < l.length → D (m + j) = false) → stS D m l S = S
  | [], _, _ => rfl
  | e :: l, m, h => by
    have h0 := h 0 (by simp)
    rw [Nat.add_zero] at h0
    simp only [stS, h0, Bool.false_eq_true, if_false]
    exact stS_nil fun j hj => by rw [show m + 1 + j = m + (j + 1) by omega]; exact h (j + 1) (by simpa using hj)
theorem stM_nil {D : Nat → Bool} {M : Nat → Option Blk} : ∀ {l : List TE} {m : Nat}, (∀ j, j < l.length → D (m + j) = false) → stM D m l M = M
  | [], _, _ => rfl
  | e :: l, m, h => by
    have h0 := h 0 (by simp)
    rw [Nat.add_zero] at h0
    simp only [stM, h0, Bool.false_eq_true, if_false]
    exact stM_nil fun j hj => by rw [show m + 1 + j = m + (j + 1) by omega]; exact h (j + 1) (by simpa using hj)
theorem Steps3.get {P : Program} {ρ : Rho} {ops : Array Oper} {n : Nat} : ∀ {l : List TE} {nx m : Nat} {S : Nat → Option SV} {M : Nat → Option Blk}, Steps3 P ρ ops n nx S M l → ∀ (j : Nat) (e : TE), l[j]? = some e →
    (∀ t b, e.R t = some b → stM (fun i => decide (i < m + j)) m l M t = some b) ∧ (∀ t, e.R t = none → e.R' t ≠ none → e.n ≤ t ∧ t < e.n') ∧ Step3 P ρ ops n (stS (fun i => decide (i < m + j)) m l S) e
  | [], nx, m, S, M, _, j, e, hj => by simp at hj
  | x :: l, nx, m, S, M, h, 0, e, hj => by
    simp only [List.getElem?_cons_zero, Option.some.injEq] at hj
    subst hj
    obtain ⟨⟨_, _, h1, h2, h3⟩, _⟩ := h
    have f : ∀ j, j < (x :: l).length → decide (m + j < m + 0) = false := fun j _ => by simp
    rw [stS_nil f, stM_nil f]
    exact ⟨h1, h2, h3⟩
  | x :: l, nx, m, S, M, h, j + 1, e, hj => by
    have := Steps3.get (m := m + 1) h.2 j e (by simpa using hj)
    have hm : decide (m < m + (j + 1)) = true := by simp
    simp only [stS, stM, hm, if_true]
    rwa [show (fun i => decide (i < m + (j + 1))) = (fun i => decide (i < m + 1 + j)) from funext fun i => by rw [show m + (j + 1) = m + 1 + j by omega]]
theorem Steps3.rng {P : Program} {ρ : Rho} {ops : Array Oper} {n : Nat} : ∀ {l : List TE} {nx : Nat} {S : Nat → Option SV} {M : Nat → Option Blk}, Steps3 P ρ ops n nx S M l → ∀ (i : Nat) (e : TE), l[i]? = some e →
    nx ≤ e.n ∧ e.n ≤ e.n' ∧ ∀ (j : Nat) (e' : TE), l[j]? = some e' → i < j → e.n' ≤ e'.n
  | [], nx, S, M, _, i, e, hi => by simp at hi
  | x :: l, nx, S, M, h, 0, e, hi => by
    simp only [List.getElem?_cons_zero, Option.some.injEq] at hi
    subst hi
    obtain ⟨⟨h0, h1, _⟩, h2⟩ := h
    refine ⟨by omega, h1, fun j e' hj hlt => ?_⟩
    cases j with
    | zero => omega
    | succ j => exact (Steps3.rng h2 j e' (by simpa using hj)).1
  | x :: l, nx, S, M, h, i + 1, e, hi => by
    obtain ⟨⟨h0, h1, _⟩, h2⟩ := h
    have := Steps3.rng h2 i e (by simpa using hi)
    refine ⟨by omega, this.2.1, fun j e' hj hlt => ?_⟩
    cases j with
    | zero => omega
    | succ j => exact this.2.2 j e' (by simpa using hj) (by omega)
def finN : Nat → List TE → Nat
  | nx, [] => nx
  | _, e :: l => finN e.n' l
theorem Steps3.fin {P : Program} {ρ : Rho} {ops : Array Oper} {n : Nat} : ∀ {l : List TE} {nx : Nat} {S : Nat → Option SV} {M : Nat → Option Blk}, Steps3 P ρ ops n nx S M l → nx ≤ finN nx l ∧ ∀ (i : Nat) (e : TE), l[i]? = some e → e.n' ≤ finN nx l
  | [], nx, S, M, _ => ⟨Nat.le_refl _, fun i e h => by simp at h⟩
  | x :: l, nx, S, M, h => by
    obtain ⟨⟨h0, h1, _⟩, h2⟩ := h
    have := Steps3.fin h2
    refine ⟨by simp only [finN]; omega, fun i e hi => ?_⟩
    cases i with
    | zero => simp at hi; subst hi; exact this.1
    | succ i => exact this.2 i e (by simpa using hi)

/-- neither hangs on the other -/
structure Indep (ops : Array Oper) (x y : TE) : Prop where
  s1 : ∀ k, x.o.dst = some k → y.o.dst ≠ some k ∧ k ∉ reads ops y.o
  s2 : ∀ k, y.o.dst = some k → k ∉ reads ops x.o
  m1 : ∀ t, x.wr t → ¬ y.wr t ∧ ¬ y.rd t
  m2 : ∀ t, y.wr t → ¬ x.rd t

/-! ### The invariant of a region -/
structure J3 (ρ : Rho) (n nx : Nat) (S : Nat → Option SV) (M : Nat → Option Blk) (l : List TE) (θ0 : Th) (w0 : World) (D : Nat → Bool) (a : Act) (w : World) (θ : Th) : Prop where
  defers : a.defers = []
  size : a.tmps.size = n
  slot : ∀ k sv, stS D 0 l S k = some sv → den ρ θ sv = some (get a k)
  sp : SP ρ nx (finN nx l) θ0 M w0 θ (stM D 0 l M) w
  fresh : ∀ t, θ t ≠ none → θ0 t ≠ none ∨ ∃ i e, D i = true ∧ l[i]? = some e ∧ e.n ≤ t ∧ t < e.n'

theorem J3.step {P : Program} {ρ : Rho} {n nx : Nat} {S : Nat → Option SV} {M : Nat → Option Blk} {l : List TE} {ops : Array Oper} {θ0 : Th} {w0 : World} {D : Nat → Bool} {a : Act} {w : World} {θ : Th} {draw : Bool} {bf : List Nat} {j : Nat} {e : TE}
    (hJ : J3 ρ n nx S M l θ0 w0 D a w θ) (hst : Steps3 P ρ ops n nx S M l) (hθ0 : ∀ t, nx ≤ t → t < finN nx l → θ0 t = none) (hreg : draw = true → ∀ (i j : Nat) (x y : TE), i < j → l[i]? = some x → l[j]? = some y → (bf.getD j 0).testBit i = true ∨ Indep ops x y)
    (hn : B.Next draw bf D j) (hj : l[j]? = some e) (hdst : ∀ d, e.o.dst = some d → d < n) :
    (Region.wanted e.o (yielded ops a.tmps) = true → e.o.wp P a w (fun a' w' => ∃ θ', J3 ρ n nx S M l θ0 w0 (fun i => i == j || D i) a' w' θ') (fun _ _ _ => False)) ∧
    (Region.wanted e.o (yielded ops a.tmps) = false → ∃ θ', J3 ρ n nx S M l θ0 w0 (fun i => i == j || D i) (a.put e.o.dst undef) w θ') := by
  have hDj : D j = false := by
    rcases hn with ⟨_, h⟩ | ⟨_, h, _⟩
    · simp [h]
    · exact h
  have dep : ∀ i x, l[i]? = some x → i ≠ j → (Indep ops x e → False) → (Indep ops e x → False) → D i = decide (i < j) := by
    intro i x hi hne h1 h2
    rcases hn with ⟨_, h⟩ | ⟨hd, _, hpre, hpost⟩
    · exact h i
    · rcases Nat.lt_or_gt_of_ne hne with hlt | hlt
      · rcases hreg hd i j _ _ hlt hi hj with h | h
        · rw [hpre i h]; simp [hlt]
        · exact (h1 h).elim
      · rcases hreg hd j i _ _ hlt hj hi with h | h
        · rw [hpost i h]; simp; omega
        · exact (h2 h).elim
  obtain ⟨hR, hN, hs⟩ := hst.get (m := 0) j e hj
  rw [Nat.zero_add] at hR hs
  have rdS : ∀ k ∈ reads ops e.o, ∀ sv, stS (fun i => decide (i < j)) 0 l S k = some sv → den ρ θ sv = some (get a k) := by
    intro k hk sv hsv
    refine hJ.slot k sv ?_
    rw [← hsv]
    refine stS_agree rfl fun i x hi hd => ?_
    rw [Nat.zero_add]
    by_cases hne : i = j
    · subst hne; rw [hDj]; simp
    · exact dep i x hi hne (fun h => (h.s1 k hd).2 hk) (fun h => h.s2 k hd hk)
  have rdM : ∀ t b, e.R t = some b → stM D 0 l M t = some b := by
    intro t b hb
    rw [← hR t b hb]
    refine stM_agree rfl fun i x hi hd => ?_
    rw [Nat.zero_add]
    by_cases hne : i = j
    · subst hne; rw [hDj]; simp
    · exact dep i x hi hne (fun h => (h.m1 t hd).2 (by unfold TE.rd; rw [hb]; simp)) (fun h => h.m2 t hd (by unfold TE.rd; rw [hb]; simp))
  obtain ⟨g1, g2, g3⟩ := hst.rng j e hj
  obtain ⟨g4, g5⟩ := hst.fin
  have g6 := g5 j e hj
  have hfr : ∀ t, e.n ≤ t → t < e.n' → θ t = none := by
    intro t h1 h2
    cases hb : θ t with
    | none => rfl
    | some u =>
      exfalso
      rcases hJ.fresh t (by rw [hb]; simp) with h | ⟨i, x, hDi, hi, h3, h4⟩
      · exact h (hθ0 t (by omega) (by omega))
      · by_cases hne : i = j
        · subst hne; rw [hDj] at hDi; cases hDi
        · rcases Nat.lt_or_gt_of_ne hne with hlt | hlt
          · have := (hst.rng i x hi).2.2 j e hj hlt; omega
          · have := g3 i x hi hlt; omega
  have post : ∀ v w' θ', SP ρ e.n e.n' θ e.R w θ' e.R' w' → den ρ θ' e.v = some v → ∃ θ', J3 ρ n nx S M l θ0 w0 (fun i => i == j || D i) (a.put e.o.dst v) w' θ' := by
    intro v w' θ' hsp hv
    have memEq : ∀ t, (e.wr t → stM (fun i => i == j || D i) 0 l M t = e.R' t) ∧ (¬ e.wr t → stM (fun i => i == j || D i) 0 l M t = stM D 0 l M t) := by
      intro t
      refine ⟨fun hw => ?_, fun hw => ?_⟩
      · have e1 : stM (fun i => i == j || D i) 0 l M t = stM (fun i => decide (i < j + 1)) 0 l M t := by
          refine stM_agree rfl fun i x hi hd => ?_
          rw [Nat.zero_add]
          by_cases hne : i = j
          · subst hne; simp
          · have hb : (i == j) = false := by simp [hne]
            rw [hb, Bool.false_or, dep i x hi hne (fun h => (h.m1 t hd).1 hw) (fun h => (h.m1 t hw).1 hd)]
            rw [Bool.eq_iff_iff]; simp; try omega
        rw [e1]
        have gen : ∀ (l : List TE) (m j : Nat) (M : Nat → Option Blk), l[j]? = some e → stM (fun i => decide (i < m + j + 1)) m l M t = e.R' t := by
          intro l
          induction l with
          | nil => intro m j M h; simp at h
          | cons x l ih =>
            intro m j M h
            simp only [stM]
            have hm : decide (m < m + j + 1) = true := by simp; omega
            rw [if_pos hm]
            cases j with
            | zero =>
              simp only [List.getElem?_cons_zero, Option.some.injEq] at h
              subst h
              rw [stM_nil fun j _ => by simp]
              exact updM_wr hw
            | succ j =>
              have := ih (m + 1) j (updM M x) (by simpa using h)
              rwa [show m + (j + 1) + 1 = m + 1 + j + 1 by omega]
        have := gen l 0 j M hj
        rwa [Nat.zero_add] at this
      · refine stM_agree rfl fun i x hi hd => ?_
        rw [Nat.zero_add]
        by_cases hne : i = j
        · subst hne; rw [hj] at hi; cases hi; exact absurd hd hw
        · have hb : (i == j) = false := by simp [hne]
          rw [hb, Bool.false_or]
    have hsp' : SP ρ e.n e.n' θ (stM D 0 l M) w θ' (stM (fun i => i == j || D i) 0 l M) w' := by
      refine SP.frame (tc := fun t => e.R t ≠ none ∨ e.R' t ≠ none) hJ.sp.mem (fun t b hb => ⟨.inl (by simp [hb]), rdM t b hb⟩) hsp (fun t ht => ?_) fun t b hb => ?_
      · cases hr : e.R' t with
        | none => rfl
        | some x => exact absurd (.inr (by rw [hr]; simp)) ht
      · by_cases hw : e.wr t
        · rw [(memEq t).1 hw] at hb
          exact .inl ⟨.inr (by rw [hb]; simp), hb⟩
        · rw [(memEq t).2 hw] at hb
          have heq : e.R t = e.R' t := Classical.not_not.1 hw
          cases hr : e.R t with
          | none => exact .inr ⟨by rw [← heq, hr]; simp, hb⟩
          | some x =>
            have := rdM t x hr
            rw [hb] at this; cases this
            exact .inl ⟨.inl (by first | simp | (rw [hr]; simp)), by rw [← heq, hr]⟩
    refine ⟨θ', by rw [defers_put]; exact hJ.defers, by rw [size_put]; exact hJ.size, fun k sv hsv => ?_, hJ.sp.seq (hsp'.wk g1 g6), fun t ht => ?_⟩
    · by_cases hk : e.o.dst = some k
      · have e1 : stS (fun i => i == j || D i) 0 l S k = stS (fun i => decide (i < j + 1)) 0 l S k := by
          refine stS_agree rfl fun i x hi hd => ?_
          rw [Nat.zero_add]
          by_cases hne : i = j
          · subst hne; simp
          · have hb : (i == j) = false := by simp [hne]
            rw [hb, Bool.false_or, dep i x hi hne (fun h => (h.s1 k hd).1 hk) (fun h => (h.s1 k hk).1 hd)]
            rw [Bool.eq_iff_iff]; simp; try omega
        rw [e1] at hsv
        have e2 : stS (fun i => decide (i < j + 1)) 0 l S k = some e.v := by
          have gen : ∀ (l : List TE) (m j : Nat) (S : Nat → Option SV), l[j]? = some e → stS (fun i => decide (i < m + j + 1)) m l S k = some e.v := by
            intro l
            induction l with
            | nil => intro m j S h; simp at h
            | cons x l ih =>
              intro m j S h
              simp only [stS]
              have hm : decide (m < m + j + 1) = true := by simp; omega
              rw [if_pos hm]
              cases j with
              | zero =>
                simp only [List.getElem?_cons_zero, Option.some.injEq] at h
                subst h
                rw [stS_nil fun j _ => by simp]
                simp [updS, hk]
              | succ j =>
                have := ih (m + 1) j (updS S x.o.dst x.v) (by simpa using h)
                rwa [show m + (j + 1) + 1 = m + 1 + j + 1 by omega]
          have := gen l 0 j S hj
          rwa [Nat.zero_add] at this
        rw [e2] at hsv
        cases hsv
        rw [hk, get_put a k k v (by rw [hJ.size]; exact hdst k hk), if_pos rfl]
        exact hv
      · have e1 : stS (fun i => i == j || D i) 0 l S k = stS D 0 l S k := by
          refine stS_agree rfl fun i x hi hd => ?_
          rw [Nat.zero_add]
          by_cases hne : i = j
          · subst hne; rw [hj] at hi; cases hi; exact absurd hd hk
          · have hb : (i == j) = false := by simp [hne]
            rw [hb, Bool.false_or]
        rw [e1] at hsv
        have hg : get (a.put e.o.dst v) k = get a k := by
          cases hd : e.o.dst with
          | none => rfl
          | some d => rw [get_put a d k v (by rw [hJ.size]; exact hdst d hd), if_neg (fun q => hk (by rw [hd, q]))]
        rw [hg]
        exact den_mono hsp.le sv (hJ.slot k sv hsv)
    · rcases hsp.new t ht with h | h
      · rcases hJ.fresh t h with h | ⟨i, x, hDi, r⟩
        · exact .inl h
        · exact .inr ⟨i, x, by simp [hDi], r⟩
      · exact .inr ⟨j, e, by simp, hj, h.1, h.2⟩
  obtain ⟨q1, q2⟩ := hs a w θ hJ.defers hJ.size rdS (hJ.sp.mem.sub rdM) hfr
  constructor
  · intro hw
    refine wp_weaken ?_ (q1 hw)
    rintro a' w' ⟨v, θ', rfl, hp, hd⟩
    exact post v w' θ' hp hd
  · intro hw
    obtain ⟨θ', hp, hd⟩ := q2 hw
    exact post _ _ θ' hp hd

def finS (S : Nat → Option SV) (l : List TE) : Nat → Option SV := stS (fun _ => true) 0 l S
noncomputable def finM (M : Nat → Option Blk) (l : List TE) : Nat → Option Blk := stM (fun _ => true) 0 l M

/-- THE RULE, for a region's trace -/
theorem region_tr {P : Program} {ρ : Rho} {n nx : Nat} {S : Nat → Option SV} {M : Nat → Option Blk} {tr : List TE} {a : Act} {w : World} {θ : Th} {bf : List Nat} {id : Nat} {draw : Bool} {Q : Exit → Act → World → Prop} (hm : P.follows .mixedOrders = true)
    (h1 : a.defers = []) (h2 : a.tmps.size = n) (h3 : ∀ k sv, S k = some sv → den ρ θ sv = some (get a k)) (h4 : MemOk ρ θ M w) (h5 : ∀ t, nx ≤ t → t < finN nx tr → θ t = none)
    (hok : draw = true → (okAft (tr.map (·.o)).toArray && okBf (tr.map (·.o)).toArray bf) = true ∧ ∀ (i j : Nat) (x y : TE), i < j → tr[i]? = some x → tr[j]? = some y → (bf.getD j 0).testBit i = true ∨ Indep (tr.map (·.o)).toArray x y)
    (hdst : ∀ e ∈ tr, ∀ d, e.o.dst = some d → d < n) (hst : Steps3 P ρ (tr.map (·.o)).toArray n nx S M tr)
    (fin : ∀ a' w' θ', a'.defers = [] → a'.tmps.size = n → (∀ k sv, finS S tr k = some sv → den ρ θ' sv = some (get a' k)) → SP ρ nx (finN nx tr) θ M w θ' (finM M tr) w' → Q .normal a' w') : (Code.region id (tr.map (·.o)).toArray draw).wp P Q a w := by
  have f0 : ∀ j, j < tr.length → (fun _ : Nat => false) (0 + j) = false := fun _ _ => rfl
  refine region_inv (bf := bf) (Inv := fun D a' w' => ∃ θ', J3 ρ n nx S M tr θ w D a' w' θ') hm (fun hd => (hok hd).1) (fun w' hw' => ⟨θ, ?_⟩) (fun D j o a' w' hj hn ⟨θ', hJ⟩ => ?_) (fun D a' w' hd ⟨θ', hJ⟩ => ?_) (fun _ D D' a' w' hd ⟨θ', hJ⟩ => ⟨θ', ?_⟩)
  · have hx : Ext none' w w' := by rcases hw' with rfl | rfl; exact Ext.refl _ _; exact (Ext.refl _ _).drew
    refine ⟨h1, h2, ?_, ?_, fun t ht => .inl ht⟩
    · rw [stS_nil f0]; exact h3
    · rw [stM_nil f0]
      exact ⟨ThLe.refl _, fun t ht => .inl ht, ⟨fun t b hb => (h4.holds t b hb).keep (ThLe.refl _) hx fun _ _ _ h => h, h4.inj⟩, hx.mono fun _ _ h => h.elim, fun g hg => .inl hg⟩
  · rw [List.getElem?_map] at hj
    cases hx : tr[j]? with
    | none => rw [hx] at hj; cases hj
    | some e =>
      rw [hx] at hj
      simp only [Option.map_some, Option.some.injEq] at hj
      subst hj
      exact hJ.step hst h5 (fun hd => (hok hd).2) hn hx (hdst e (List.mem_of_getElem? hx))
  · have e1 : ∀ k, stS D 0 tr S k = finS S tr k := fun k => stS_agree rfl fun i e hi _ => by
      rw [Nat.zero_add]; exact hd i (by simpa using (List.getElem?_eq_some_iff.1 hi).1)
    have e2 : stM D 0 tr M = finM M tr := funext fun t => stM_agree rfl fun i e hi _ => by
      rw [Nat.zero_add]; exact hd i (by simpa using (List.getElem?_eq_some_iff.1 hi).1)
    exact fin a' w' θ' hJ.defers hJ.size (fun k sv h => hJ.slot k sv (by rw [e1]; exact h)) (by rw [← e2]; exact hJ.sp)
  · have e1 : ∀ k, stS D' 0 tr S k = stS D 0 tr S k := fun k => stS_agree rfl fun i e hi _ => by
      rw [Nat.zero_add]; exact (hd i (by simpa using (List.getElem?_eq_some_iff.1 hi).1)).symm
    have e2 : stM D' 0 tr M = stM D 0 tr M := funext fun t => stM_agree rfl fun i e hi _ => by
      rw [Nat.zero_add]; exact (hd i (by simpa using (List.getElem?_eq_some_iff.1 hi).1)).symm
    refine ⟨hJ.defers, hJ.size, fun k sv h => hJ.slot k sv (by rw [← e1]; exact h), by rw [e2]; exact hJ.sp, fun t ht => ?_⟩
    rcases hJ.fresh t ht with h | ⟨i, e, h1, hi, h2⟩
    · exact .inl h
    · exact .inr ⟨i, e, by rw [← hd i (by simpa using (List.getElem?_eq_some_iff.1 hi).1)]; exact h1, hi, h2⟩
end X
end Go.Proofs.YtdbchpoaoghgpaaGreatDoor
