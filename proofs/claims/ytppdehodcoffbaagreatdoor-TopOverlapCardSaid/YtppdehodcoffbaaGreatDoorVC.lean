/-
  The values that things stand for; when memory is as it is told. Over any program.
-/
import Derived.Test.YtppdehodcoffbaaGreatDoorVB
set_option linter.unusedSimpArgs false
set_option linter.unusedVariables false
namespace Go.Proofs.YtppdehodcoffbaaGreatDoor
namespace X
open Go.RowKit B

structure Rho where
  v : Nat → Int
  s : Nat → List UInt8
/-- a variable: an unknown number; an unknown string's length; a byte of an unknown string, at an unknown place -/
def Rho.at (ρ : Rho) (j : Nat) : Int := if j % 4 = 1 then ((ρ.s (j / 4)).length : Int) else if j % 4 = 3 then (((ρ.s (j / 4 % 16)).getD (ρ.v (j / 64)).toNat 0).toNat : Int) else ρ.v (j / 2)
theorem Rho.at_v (ρ : Rho) (i : Nat) : ρ.at (2 * i) = ρ.v i := by
  unfold Rho.at
  rw [if_neg (by omega), if_neg (by omega), show 2 * i / 2 = i by omega]
theorem Rho.at_l (ρ : Rho) (i : Nat) : ρ.at (4 * i + 1) = ((ρ.s i).length : Int) := by
  unfold Rho.at
  rw [if_pos (by omega), show (4 * i + 1) / 4 = i by omega]
theorem Rho.at_b (ρ : Rho) (i j : Nat) (h : i < 16) : ρ.at (4 * (i + 16 * j) + 3) = (((ρ.s i).getD (ρ.v j).toNat 0).toNat : Int) := by
  unfold Rho.at
  rw [if_neg (by omega), if_pos (by omega), show (4 * (i + 16 * j) + 3) / 4 % 16 = i by omega, show (4 * (i + 16 * j) + 3) / 64 = j by omega]
def dts (ρ : Rho) : List (Nat × Int) → Int
  | [] => 0
  | (i, a) :: l => a * ρ.at i + dts ρ l
def Lin.den (ρ : Rho) : Lin → Int
  | .mk c ts => c + dts ρ ts
def Pc.den (ρ : Rho) : Pc → List UInt8
  | .c n => [UInt8.ofNat n]
  | .a i => ρ.s i
def denS (ρ : Rho) (l : Str) : List UInt8 := l.flatMap (Pc.den ρ)
def bstr (l : List UInt8) : ByteArray := ⟨l.toArray⟩
abbrev Th := Nat → Option (Nat × Nat)
def Cap.den (c off : Nat) : Cap → Nat
  | .k n => n
  | .q sz => (c - off) / sz
mutual
def den (ρ : Rho) (θ : Th) : SV → Option Value
  | .i k n => some (.int k n)
  | .x k e => some (.int k (e.den ρ))
  | .b b => some (.bool b)
  | .s l => some (.string (bstr (denS ρ l)))
  | .p t off => (θ t).map fun g => .pointer (some ⟨g.1, off, none⟩)
  | .np => some (.pointer none)
  | .sl t off len cap => (θ t).map fun g => .slice (some ⟨g.1, off, none⟩) len (cap.den g.2 off)
  | .sb t l => (θ t).map fun g => .slice (some ⟨g.1, 0, none⟩) (denS ρ l).length g.2
  | .ns => some (.slice none 0 0)
  | .ag l => (dens ρ θ l).map fun vs => .agg vs.toArray
  | .tu l => (dens ρ θ l).map fun vs => .tuple vs.toArray
  | .fn f fi ca => (dens ρ θ fi).bind fun a => (dens ρ θ ca).map fun b => .func (.func f) a.toArray b.toArray
  | .nf => some .nilFunc
  | .ni => some .nilIface
  | .nm => some (.map none)
  | .mp t => (θ t).map fun g => .map (some g.1)
  | .g g off => some (.pointer (some ⟨g, off, none⟩))
  | .un => some undef
def dens (ρ : Rho) (θ : Th) : List SV → Option (List Value)
  | [] => some []
  | v :: l => (den ρ θ v).bind fun u => (dens ρ θ l).map fun us => u :: us
end
def denE (ρ : Rho) (θ : Th) : List (SV × SV × Nat) → Option (List MapEntry)
  | [] => some []
  | (k, v, n) :: l => (den ρ θ k).bind fun a => (den ρ θ v).bind fun b => (denE ρ θ l).map fun es => ⟨a, b, n⟩ :: es

def ThLe (θ θ' : Th) : Prop := ∀ t x, θ t = some x → θ' t = some x
theorem ThLe.refl (θ : Th) : ThLe θ θ := fun _ _ h => h
theorem ThLe.trans {a b c : Th} (h : ThLe a b) (k : ThLe b c) : ThLe a c := fun t x e => k t x (h t x e)
section
variable {ρ : Rho} {θ θ' : Th}
theorem map_mono {α β : Type} {a b : Option α} {f : α → β} {u : β} (hab : ∀ x, a = some x → b = some x) (h : a.map f = some u) : b.map f = some u := by
  cases ha : a with
  | none => rw [ha] at h; cases h
  | some x => rw [hab x ha]; rw [ha] at h; exact h
mutual
theorem den_mono (hle : ThLe θ θ') : ∀ (v : SV) {u : Value}, den ρ θ v = some u → den ρ θ' v = some u
  | .i k n, u, h => h
  | .x k e, u, h => h
  | .b b, u, h => h
  | .s l, u, h => h
  | .p t off, u, h => map_mono (hle t) h
  | .np, u, h => h
  | .sl t off len cap, u, h => map_mono (hle t) h
  | .sb t l, u, h => map_mono (hle t) h
  | .ns, u, h => h
  | .ag l, u, h => map_mono (fun x => dens_mono hle l) h
  | .tu l, u, h => map_mono (fun x => dens_mono hle l) h
  | .fn f fi ca, u, h => by
    simp only [den, Option.bind_eq_some_iff, Option.map_eq_some_iff] at h ⊢
    obtain ⟨a, h1, b, h2, h3⟩ := h
    exact ⟨a, dens_mono hle fi h1, b, dens_mono hle ca h2, h3⟩
  | .nf, u, h => h
  | .ni, u, h => h
  | .nm, u, h => h
  | .mp t, u, h => map_mono (hle t) h
  | .g g off, u, h => h
  | .un, u, h => h
theorem dens_mono (hle : ThLe θ θ') : ∀ (l : List SV) {us : List Value}, dens ρ θ l = some us → dens ρ θ' l = some us
  | [], us, h => h
  | v :: l, us, h => by
    simp only [dens, Option.bind_eq_some_iff, Option.map_eq_some_iff] at h ⊢
    obtain ⟨u, h1, us', h2, h3⟩ := h
    exact ⟨u, den_mono hle v h1, us', dens_mono hle l h2, h3⟩
end
theorem denE_mono (hle : ThLe θ θ') : ∀ (l : List (SV × SV × Nat)) {es : List MapEntry}, denE ρ θ l = some es → denE ρ θ' l = some es
  | [], es, h => h
  | (k, v, n) :: l, es, h => by
    simp only [denE, Option.bind_eq_some_iff, Option.map_eq_some_iff] at h ⊢
    obtain ⟨a, h1, b, h2, es', h3, h4⟩ := h
    exact ⟨a, den_mono hle k h1, b, den_mono hle v h2, es', denE_mono hle l h3, h4⟩
theorem dens_len : ∀ {l : List SV} {us : List Value}, dens ρ θ l = some us → us.length = l.length
  | [], us, h => by cases h; rfl
  | v :: l, us, h => by
    simp only [dens, Option.bind_eq_some_iff, Option.map_eq_some_iff] at h
    obtain ⟨u, _, us', h2, rfl⟩ := h
    simp [dens_len h2]
theorem dens_get : ∀ {l : List SV} {us : List Value} {j : Nat} {v : SV}, dens ρ θ l = some us → l[j]? = some v → ∃ u, us[j]? = some u ∧ den ρ θ v = some u
  | [], us, j, v, h, hj => by simp at hj
  | x :: l, us, j, v, h, hj => by
    simp only [dens, Option.bind_eq_some_iff, Option.map_eq_some_iff] at h
    obtain ⟨u, h1, us', h2, rfl⟩ := h
    cases j with
    | zero => simp at hj; subst hj; exact ⟨u, rfl, h1⟩
    | succ j => obtain ⟨u', h3, h4⟩ := dens_get h2 (by simpa using hj); exact ⟨u', by simpa using h3, h4⟩
theorem dens_append {l m : List SV} {us ws : List Value} (h : dens ρ θ l = some us) (k : dens ρ θ m = some ws) : dens ρ θ (l ++ m) = some (us ++ ws) := by
  induction l generalizing us with
  | nil => cases h; exact k
  | cons v l ih =>
    simp only [dens, Option.bind_eq_some_iff, Option.map_eq_some_iff, List.cons_append] at h ⊢
    obtain ⟨u, h1, us', h2, rfl⟩ := h
    exact ⟨u, h1, _, ih h2, rfl⟩
theorem dens_drop : ∀ {l : List SV} {us : List Value} (n : Nat), dens ρ θ l = some us → dens ρ θ (l.drop n) = some (us.drop n)
  | l, us, 0, h => by simpa using h
  | [], us, n + 1, h => by cases h; rfl
  | v :: l, us, n + 1, h => by
    simp only [dens, Option.bind_eq_some_iff, Option.map_eq_some_iff] at h
    obtain ⟨u, _, us', h2, rfl⟩ := h
    simpa using dens_drop n h2
theorem dens_take : ∀ {l : List SV} {us : List Value} (n : Nat), dens ρ θ l = some us → dens ρ θ (l.take n) = some (us.take n)
  | l, us, 0, h => by simp [dens]
  | [], us, n + 1, h => by cases h; rfl
  | v :: l, us, n + 1, h => by
    simp only [dens, Option.bind_eq_some_iff, Option.map_eq_some_iff] at h
    obtain ⟨u, h1, us', h2, rfl⟩ := h
    simp [dens, h1, dens_take n h2]
end

/-! ### Memory -/
def HoldsB (ρ : Rho) (θ : Th) (w : World) (t : Nat) : Blk → Prop
  | .ce ty cs ex => ∃ g c vs arr rest, θ t = some (g, c) ∧ w.heap[g]? = some (.cells arr ty (0, 0)) ∧ arr.size = c ∧ dens ρ θ cs = some vs ∧ (∀ v ∈ vs, v.oneCell' = true) ∧ arr.toList = vs ++ rest ∧ (ex = true → rest = [])
  | .bt ty l => ∃ g c arr rest, θ t = some (g, c) ∧ w.heap[g]? = some (.cells arr ty (0, 0)) ∧ arr.size = c ∧ arr.toList = (denS ρ l).map (fun b => .int .u8 b.toNat) ++ rest
  | .mp es ck => ∃ g c arr, θ t = some (g, c) ∧ w.heap[g]? = some (.map arr ck) ∧ denE ρ θ es = some arr.toList
def Bl (θ : Th) (M : Nat → Option Blk) (g : Nat) : Prop := ∃ t c, M t ≠ none ∧ θ t = some (g, c)
structure MemOk (ρ : Rho) (θ : Th) (M : Nat → Option Blk) (w : World) : Prop where
  holds : ∀ t b, M t = some b → HoldsB ρ θ w t b
  inj : ∀ s t g c c', M s ≠ none → M t ≠ none → θ s = some (g, c) → θ t = some (g, c') → s = t
section
variable {ρ : Rho} {θ θ' : Th} {w w' : World} {M M' R R' : Nat → Option Blk}
theorem HoldsB.th {t : Nat} {b : Blk} (h : HoldsB ρ θ w t b) : ∃ g c, θ t = some (g, c) ∧ g < w.heap.size := by
  have lt : ∀ {g : Nat} {o : Obj}, w.heap[g]? = some o → g < w.heap.size := fun h => (Array.getElem?_eq_some_iff.1 h).1
  cases b with
  | ce ty cs ex => obtain ⟨g, c, vs, arr, rest, h1, h2, _⟩ := h; exact ⟨g, c, h1, lt h2⟩
  | bt ty l => obtain ⟨g, c, arr, rest, h1, h2, _⟩ := h; exact ⟨g, c, h1, lt h2⟩
  | mp es ck => obtain ⟨g, c, arr, h1, h2, _⟩ := h; exact ⟨g, c, h1, lt h2⟩
theorem HoldsB.keep {t : Nat} {b : Blk} {N : Nat → Prop} (h : HoldsB ρ θ w t b) (hle : ThLe θ θ') (hx : Ext N w w') (hn : ∀ g c, θ t = some (g, c) → ¬ N g) : HoldsB ρ θ' w' t b := by
  obtain ⟨g0, c0, e0, lt0⟩ := h.th
  have key : ∀ {g c : Nat} {o : Obj}, θ t = some (g, c) → w.heap[g]? = some o → w'.heap[g]? = some o := fun {g c o} e h => by
    rw [e0] at e; cases e
    rw [hx.block _ lt0 (hn _ _ e0)]; exact h
  cases b with
  | ce ty cs ex => obtain ⟨g, c, vs, arr, rest, h1, h2, h3, h4, h5⟩ := h; exact ⟨g, c, vs, arr, rest, hle _ _ h1, key h1 h2, h3, dens_mono hle _ h4, h5⟩
  | bt ty l => obtain ⟨g, c, arr, rest, h1, h2, h3⟩ := h; exact ⟨g, c, arr, rest, hle _ _ h1, key h1 h2, h3⟩
  | mp es ck => obtain ⟨g, c, arr, h1, h2, h3⟩ := h; exact ⟨g, c, arr, hle _ _ h1, key h1 h2, denE_mono hle _ h3⟩
theorem MemOk.lt (h : MemOk ρ θ M w) {g : Nat} (hg : Bl θ M g) : g < w.heap.size := by
  obtain ⟨t, c, h1, h2⟩ := hg
  cases hm : M t with
  | none => exact absurd hm h1
  | some b =>
    obtain ⟨g', c', e, lt⟩ := (h.holds t b hm).th
    rw [e] at h2; cases h2; exact lt
theorem MemOk.th (h : MemOk ρ θ M w) {t : Nat} {b : Blk} (hm : M t = some b) : ∃ g c, θ t = some (g, c) ∧ g < w.heap.size := (h.holds t b hm).th
theorem MemOk.sub (h : MemOk ρ θ M w) (hs : ∀ t b, R t = some b → M t = some b) : MemOk ρ θ R w := by
  have ne : ∀ t, R t ≠ none → M t ≠ none := fun t ht => by
    cases hr : R t with
    | none => exact absurd hr ht
    | some b => rw [hs t b hr]; simp
  exact ⟨fun t b hr => h.holds t b (hs t b hr), fun s t g c c' h1 h2 => h.inj s t g c c' (ne s h1) (ne t h2)⟩

/-- what a step from R leaves -/
structure SP (ρ : Rho) (nx nx' : Nat) (θ : Th) (R : Nat → Option Blk) (w : World) (θ' : Th) (R' : Nat → Option Blk) (w' : World) : Prop where
  le : ThLe θ θ'
  new : ∀ t, θ' t ≠ none → θ t ≠ none ∨ (nx ≤ t ∧ t < nx')
  mem : MemOk ρ θ' R' w'
  ext : Ext (Bl θ R) w w'
  own : ∀ g, Bl θ' R' g → Bl θ R g ∨ w.heap.size ≤ g
theorem SP.refl {nx : Nat} (h : MemOk ρ θ R w) : SP ρ nx nx θ R w θ R w := ⟨ThLe.refl _, fun t ht => .inl ht, h, Ext.refl _ _, fun g hg => .inl hg⟩
theorem SP.drew {nx nx' : Nat} {w'' : World} (h : SP ρ nx nx' θ R w θ' R' w') (hh : w''.heap = w.heap) (hd : Ext none' w'' w) : SP ρ nx nx' θ R w'' θ' R' w' :=
  ⟨h.le, h.new, h.mem, (hd.mono fun _ _ h => h.elim).trans h.ext, fun g hg => by rw [hh]; exact h.own g hg⟩
theorem SP.trans {nx nx1 nx2 : Nat} {θ2 : Th} {R2 : Nat → Option Blk} {w2 : World} (h : SP ρ nx nx1 θ R w θ' R' w') (k : SP ρ nx1 nx2 θ' R' w' θ2 R2 w2) (h1 : nx ≤ nx1) (h2 : nx1 ≤ nx2) : SP ρ nx nx2 θ R w θ2 R2 w2 := by
  refine ⟨h.le.trans k.le, fun t ht => ?_, k.mem, ?_, fun g hg => ?_⟩
  · rcases k.new t ht with a | a
    · rcases h.new t a with b | b
      · exact .inl b
      · exact .inr ⟨b.1, by omega⟩
    · exact .inr ⟨by omega, a.2⟩
  · refine ⟨k.ext.os.trans h.ext.os, k.ext.tape.trans h.ext.tape, k.ext.output.trans h.ext.output, Nat.le_trans h.ext.size k.ext.size, fun i hi hn => ?_⟩
    rw [k.ext.block i (Nat.lt_of_lt_of_le hi h.ext.size) fun hb => ?_, h.ext.block i hi hn]
    rcases h.own i hb with a | a
    · exact hn a
    · omega
  · rcases k.own g hg with a | a
    · exact h.own g a
    · exact .inr (Nat.le_trans h.ext.size a)

theorem SP.frame {nx nx' : Nat} {tc : Nat → Prop} (hM : MemOk ρ θ M w) (hR : ∀ t b, R t = some b → tc t ∧ M t = some b) (h : SP ρ nx nx' θ R w θ' R' w') (hR' : ∀ t, ¬ tc t → R' t = none) (hM' : ∀ t b, M' t = some b → (tc t ∧ R' t = some b) ∨ (¬ tc t ∧ M t = some b)) :
    SP ρ nx nx' θ M w θ' M' w' := by
  classical
  have hRM : ∀ t, R t ≠ none → M t ≠ none ∧ tc t := fun t ht => by
    cases hb : R t with
    | none => exact absurd hb ht
    | some b => obtain ⟨h1, h2⟩ := hR t b hb; exact ⟨by simp [h2], h1⟩
  have bl : ∀ g, Bl θ R g → Bl θ M g := fun g ⟨t, c, h1, h2⟩ => ⟨t, c, (hRM t h1).1, h2⟩
  have away : ∀ t, ¬ tc t → M t ≠ none → ∀ g c, θ t = some (g, c) → ¬ Bl θ R g := fun t ht hm g c e ⟨s, c', h1, h2⟩ => by
    have := hM.inj s t g c' c (hRM s h1).1 hm h2 e
    subst this; exact ht (hRM s h1).2
  have ne : ∀ t, M' t ≠ none → (tc t ∧ R' t ≠ none) ∨ (¬ tc t ∧ M t ≠ none) := fun t ht => by
    cases hb : M' t with
    | none => exact absurd hb ht
    | some b => rcases hM' t b hb with ⟨a, e⟩ | ⟨a, e⟩ <;> simp [a, e]
  have out : ∀ t, ¬ tc t → M t ≠ none → ∀ g c, θ' t = some (g, c) → θ t = some (g, c) ∧ g < w.heap.size := fun t ht hm g c e => by
    cases hb : M t with
    | none => exact absurd hb hm
    | some b =>
      obtain ⟨g', c', e', lt⟩ := (hM.holds t b hb).th
      have := h.le t _ e'
      rw [e] at this; cases this
      exact ⟨e', lt⟩
  refine ⟨h.le, h.new, ⟨fun t b hb => ?_, fun s t g c c' hs ht e1 e2 => ?_⟩, h.ext.mono fun g _ hg => bl g hg, fun g ⟨t, c, ht, e⟩ => ?_⟩
  · rcases hM' t b hb with ⟨_, e⟩ | ⟨a, e⟩
    · exact h.mem.holds t b e
    · exact (hM.holds t b e).keep h.le h.ext (away t a (by rw [e]; simp))
  · rcases ne s hs with ⟨a1, a2⟩ | ⟨a1, a2⟩ <;> rcases ne t ht with ⟨b1, b2⟩ | ⟨b1, b2⟩
    · exact h.mem.inj s t g c c' a2 b2 e1 e2
    · exfalso
      obtain ⟨e3, lt⟩ := out t b1 b2 g c' e2
      rcases h.own g ⟨s, c, a2, e1⟩ with q | q
      · exact away t b1 b2 g c' e3 q
      · omega
    · exfalso
      obtain ⟨e3, lt⟩ := out s a1 a2 g c e1
      rcases h.own g ⟨t, c', b2, e2⟩ with q | q
      · exact away s a1 a2 g c e3 q
      · omega
    · exact hM.inj s t g c c' a2 b2 (out s a1 a2 g c e1).1 (out t b1 b2 g c' e2).1
  · rcases ne t ht with ⟨a1, a2⟩ | ⟨a1, a2⟩
    · rcases h.own g ⟨t, c, a2, e⟩ with q | q
      · exact .inl (bl g q)
      · exact .inr q
    · exact .inl ⟨t, c, a2, (out t a1 a2 g c e).1⟩
end
end X
end Go.Proofs.YtppdehodcoffbaaGreatDoor
