/-
  Things as they are told (SV), memory as it is told (Blk), tries. Over any program.
-/
import Derived.Test.YtppdehodcoffbaaGreatDoorVA
set_option linter.unusedSimpArgs false
set_option linter.unusedVariables false
namespace Go.Proofs.YtppdehodcoffbaaGreatDoor
namespace X
open Go.RowKit

/-- a number and variables with factors -/
inductive Lin where
  | mk (c : Int) (ts : List (Nat × Int))
/-- a piece of a string: a byte, an unknown string -/
inductive Pc where
  | c (n : Nat)
  | a (i : Nat)
abbrev Str := List Pc
inductive Cap where
  | k (n : Nat)
  | q (sz : Nat)
inductive SV where
  | i (k : IntKind) (n : Int)
  | x (k : IntKind) (e : Lin)
  | b (b : Bool)
  | s (l : Str)
  | p (t off : Nat)
  | np
  | sl (t off len : Nat) (cap : Cap)
  | sb (t : Nat) (e : Str)
  | ns
  | ag (l : List SV)
  | tu (l : List SV)
  | fn (f : Nat) (fi ca : List SV)
  | nf
  | ni
  | nm
  | mp (t : Nat)
  | g (g off : Nat)
  | un
/-- cells (no more behind them?); bytes of a string; a map -/
inductive Blk where
  | ce (ty : Nat) (cs : List SV) (ex : Bool)
  | bt (ty : Nat) (l : Str)
  | mp (es : List (SV × SV × Nat)) (ck : Nat)

/-! ### Tries -/
inductive Tr (α : Type) where
  | lf
  | nd (l : Tr α) (v : Option α) (r : Tr α)
def Tr.get {α : Type} : Tr α → Nat → Option α
  | .lf, _ => none
  | .nd l v r, k => match k with
    | 0 => v
    | k + 1 => match Nat.beq (Nat.mod k 2) 0 with
      | true => l.get (Nat.div k 2)
      | false => r.get (Nat.div k 2)
/-- what stands where k is turned -/
def Tr.up {α : Type} : Nat → Tr α → Nat → Option α → Tr α
  | 0, t, _, _ => t
  | f + 1, .lf, k, x => match k with
    | 0 => .nd .lf x .lf
    | k + 1 => match Nat.beq (Nat.mod k 2) 0 with
      | true => .nd (Tr.up f .lf (Nat.div k 2) x) none .lf
      | false => .nd .lf none (Tr.up f .lf (Nat.div k 2) x)
  | f + 1, .nd l v r, k, x => match k with
    | 0 => .nd l x r
    | k + 1 => match Nat.beq (Nat.mod k 2) 0 with
      | true => .nd (Tr.up f l (Nat.div k 2) x) v r
      | false => .nd l v (Tr.up f r (Nat.div k 2) x)
def Tr.put {α : Type} : Nat → Tr α → Nat → Option α → (Tr α → Bool) → Bool
  | 0, _, _, _, _ => false
  | f + 1, .lf, k, x, c => match k with
    | 0 => c (.nd .lf x .lf)
    | k + 1 => match Nat.beq (Nat.mod k 2) 0 with
      | true => Tr.put f .lf (Nat.div k 2) x fun l => c (.nd l none .lf)
      | false => Tr.put f .lf (Nat.div k 2) x fun r => c (.nd .lf none r)
  | f + 1, .nd l v r, k, x, c => match k with
    | 0 => c (.nd l x r)
    | k + 1 => match Nat.beq (Nat.mod k 2) 0 with
      | true => Tr.put f l (Nat.div k 2) x fun l => c (.nd l v r)
      | false => Tr.put f r (Nat.div k 2) x fun r => c (.nd l v r)
theorem Tr.up_get {α : Type} : ∀ {f : Nat} {t : Tr α} {k : Nat} {x : Option α}, k < 2 ^ f → ∀ j, (Tr.up (f + 1) t k x).get j = if j = k then x else t.get j := by
  intro f
  induction f with
  | zero =>
    intro t k x hk j
    have : k = 0 := by simpa using hk
    subst this
    cases t <;> cases j <;> simp [Tr.up, Tr.get]
    split <;> rfl
  | succ f ih =>
    intro t k x hk j
    have ih' : ∀ (t : Tr α) (k' : Nat), k = k' + 1 → ∀ j, (Tr.up (f + 1) t (k' / 2) x).get j = if j = k' / 2 then x else t.get j := fun t k' e j =>
      ih (by rw [Nat.pow_succ] at hk; omega) j
    have hmod : ∀ n, n % 2 = 0 ∨ n % 2 = 1 := fun n => by omega
    have bt : ∀ n, n % 2 = 0 → Nat.beq (Nat.mod n 2) 0 = true := fun n h => by show Nat.beq (n % 2) 0 = true; rw [h]; rfl
    have bf : ∀ n, n % 2 = 1 → Nat.beq (Nat.mod n 2) 0 = false := fun n h => by show Nat.beq (n % 2) 0 = false; rw [h]; rfl
    cases t with
    | lf =>
      cases k with
      | zero => cases j <;> simp [Tr.up, Tr.get] ; split <;> rfl
      | succ k =>
        have e := fun t => ih' t k rfl
        rcases hmod k with hk2 | hk2
        · simp only [Tr.up, bt k hk2]
          cases j with
          | zero => simp [Tr.get]
          | succ j =>
            rcases hmod j with hj | hj
            · simp only [Tr.get, bt j hj]
              show (Tr.up (f + 1) Tr.lf (k / 2) x).get (j / 2) = _
              rw [e]
              simp only [Tr.get]
              split <;> split <;> first | rfl | omega
            · simp only [Tr.get, bf j hj]
              split
              · omega
              · rfl
        · simp only [Tr.up, bf k hk2]
          cases j with
          | zero => simp [Tr.get]
          | succ j =>
            rcases hmod j with hj | hj
            · simp only [Tr.get, bt j hj]
              split
              · omega
              · rfl
            · simp only [Tr.get, bf j hj]
              show (Tr.up (f + 1) Tr.lf (k / 2) x).get (j / 2) = _
              rw [e]
              simp only [Tr.get]
              split <;> split <;> first | rfl | omega
    | nd l v r =>
      cases k with
      | zero => cases j <;> simp [Tr.up, Tr.get]
      | succ k =>
        have e := fun t => ih' t k rfl
        rcases hmod k with hk2 | hk2
        · simp only [Tr.up, bt k hk2]
          cases j with
          | zero => simp [Tr.get]
          | succ j =>
            rcases hmod j with hj | hj
            · simp only [Tr.get, bt j hj]
              show (Tr.up (f + 1) l (k / 2) x).get (j / 2) = _
              rw [e]
              split <;> split <;> first | rfl | omega
            · simp only [Tr.get, bf j hj]
              split
              · omega
              · rfl
        · simp only [Tr.up, bf k hk2]
          cases j with
          | zero => simp [Tr.get]
          | succ j =>
            rcases hmod j with hj | hj
            · simp only [Tr.get, bt j hj]
              split
              · omega
              · rfl
            · simp only [Tr.get, bf j hj]
              show (Tr.up (f + 1) r (k / 2) x).get (j / 2) = _
              rw [e]
              split <;> split <;> first | rfl | omega
theorem Tr.put_eq {α : Type} : ∀ {f : Nat} {t : Tr α} {k : Nat} {x : Option α} {c : Tr α → Bool}, k < 2 ^ f → Tr.put (f + 1) t k x c = c (Tr.up (f + 1) t k x) := by
  intro f
  induction f with
  | zero =>
    intro t k x c hk
    have : k = 0 := by simpa using hk
    subst this
    cases t <;> simp [Tr.put, Tr.up]
  | succ f ih =>
    intro t k x c hk
    cases t <;> cases k with
    | zero => simp [Tr.put, Tr.up]
    | succ k =>
      have hk' : Nat.div k 2 < 2 ^ f := by
        show k / 2 < 2 ^ f
        rw [Nat.pow_succ] at hk; omega
      first
        | (show (match Nat.beq (Nat.mod k 2) 0 with
            | true => Tr.put (f + 1) .lf (Nat.div k 2) x fun l => c (.nd l none .lf)
            | false => Tr.put (f + 1) .lf (Nat.div k 2) x fun r => c (.nd .lf none r)) = c (match Nat.beq (Nat.mod k 2) 0 with
            | true => .nd (Tr.up (f + 1) .lf (Nat.div k 2) x) none .lf
            | false => .nd .lf none (Tr.up (f + 1) .lf (Nat.div k 2) x)))
        | (rename_i l v r; show (match Nat.beq (Nat.mod k 2) 0 with
            | true => Tr.put (f + 1) l (Nat.div k 2) x fun l => c (.nd l v r)
            | false => Tr.put (f + 1) r (Nat.div k 2) x fun r => c (.nd l v r)) = c (match Nat.beq (Nat.mod k 2) 0 with
            | true => .nd (Tr.up (f + 1) l (Nat.div k 2) x) v r
            | false => .nd l v (Tr.up (f + 1) r (Nat.div k 2) x)))
      split <;> exact ih hk'
/-- k is turned, if it's not too great -/
def Tr.set {α : Type} (t : Tr α) (k : Nat) (x : Option α) (c : Tr α → Bool) : Bool := match Nat.ble k 4194303 with
  | true => Tr.put 23 t k x c
  | false => false
theorem Tr.set_spec {α : Type} {t : Tr α} {k : Nat} {x : Option α} {c : Tr α → Bool} (h : Tr.set t k x c = true) : ∃ t', c t' = true ∧ (∀ j, t'.get j = if j = k then x else t.get j) ∧ ∀ c', Tr.set t k x c' = true → c' t' = true := by
  unfold Tr.set at h
  split at h
  · rename_i hk
    have hk' : k < 2 ^ 22 := by have := Nat.le_of_ble_eq_true hk; omega
    rw [Tr.put_eq (f := 22) hk'] at h
    refine ⟨_, h, Tr.up_get hk', fun c' hc => ?_⟩
    unfold Tr.set at hc
    rw [hk] at hc
    simp only at hc
    rwa [Tr.put_eq (f := 22) hk'] at hc
  · cases h
end X
end Go.Proofs.YtppdehodcoffbaaGreatDoor
