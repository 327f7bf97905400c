/-
  TopEdits: VC, VD, VE.
-/
import Derived.Test.YtebfahobllghnaaGreatDoorEdA1
set_option linter.unusedSimpArgs false
set_option linter.unusedVariables false
namespace Go.Proofs.YtebfahobllghnaaGreatDoor
namespace X
open Go.RowKit B
structure Rho where
  v : Nat → Int
  s : Nat → List UInt8
def Rho.at (ρ : Rho) (j : Nat) : Int := if j % 4 = 1 then ((ρ.s (j / 4)).length : Int) else if j % 8 = 3 then (((ρ.s (j / 8 % 16)).getD (ρ.v (j / 128)).toNat 0).toNat : Int) else if j % 8 = 7 then (if ρ.s (j / 8 % 16) = (if j / 128 < 256 then [UInt8.ofNat (j / 128)] else ρ.s (j / 128 - 256)) then 1 else 0) else ρ.v (j / 2)
theorem Rho.at_v (ρ : Rho) (i : Nat) : ρ.at (2 * i) = ρ.v i := by
  unfold Rho.at
  rw [if_neg (by omega), if_neg (by omega), if_neg (by omega), show 2 * i / 2 = i by omega]
theorem Rho.at_l (ρ : Rho) (i : Nat) : ρ.at (4 * i + 1) = ((ρ.s i).length : Int) := by
  unfold Rho.at
  rw [if_pos (by omega), show (4 * i + 1) / 4 = i by omega]
theorem Rho.at_b (ρ : Rho) (i j : Nat) (h : i < 16) : ρ.at (8 * (i + 16 * j) + 3) = (((ρ.s i).getD (ρ.v j).toNat 0).toNat : Int) := by
  unfold Rho.at
  rw [if_neg (by omega), if_pos (by omega), show (8 * (i + 16 * j) + 3) / 8 % 16 = i by omega, show (8 * (i + 16 * j) + 3) / 128 = j by omega]
theorem Rho.at_e (ρ : Rho) (i n : Nat) (h : i < 16) (hn : n < 256) : ρ.at (8 * (i + 16 * n) + 7) = if ρ.s i = [UInt8.ofNat n] then 1 else 0 := by
  unfold Rho.at
  rw [if_neg (by omega), if_neg (by omega), if_pos (by omega), show (8 * (i + 16 * n) + 7) / 8 % 16 = i by omega, show (8 * (i + 16 * n) + 7) / 128 = n by omega, if_pos hn]
theorem Rho.at_q (ρ : Rho) (i k : Nat) (h : i < 16) : ρ.at (8 * (i + 16 * (256 + k)) + 7) = if ρ.s i = ρ.s k then 1 else 0 := by
  unfold Rho.at
  rw [if_neg (by omega), if_neg (by omega), if_pos (by omega), show (8 * (i + 16 * (256 + k)) + 7) / 8 % 16 = i by omega, show (8 * (i + 16 * (256 + k)) + 7) / 128 = 256 + k by omega, if_neg (show ¬ 256 + k < 256 by omega), show 256 + k - 256 = k by omega]
def dts (ρ : Rho) : List (Nat × Int) → Int
  | [] => 0
  | (i, a) :: l => a * ρ.at i + dts ρ l
def Lin.den (ρ : Rho) : Lin → Int
  | .mk c ts => c + dts ρ ts
def Pc.den (ρ : Rho) : Pc → List UInt8
  | .c n => [UInt8.ofNat n]
  | .a i => ρ.s i
def denS (ρ : Rho) (l : Str) : List UInt8 := l.flatMap (Pc.den ρ)
abbrev Th := Nat → Option (Nat × Nat)
def Cap.den (c off : Nat) : Cap → Nat
  | .k n => n
  | .q sz => (c - off) / sz
def adrC (g : Nat × Nat) : Addr := ⟨g.1, (unp g.2).1, match (unp (unp g.2).2).1 with
  | 0 => none
  | k + 1 => some k⟩
def capC (g : Nat × Nat) : Nat := (unp (unp (unp g.2).2).2).1
noncomputable def objC (c : Nat) : Option Obj := objD (unp (unp (unp c).2).2).2
theorem adrC_all (a : Addr) (cap : Nat) (o : Array Value × Nat × Nat × Nat) : ∃ c, adrC (a.block, c) = a ∧ capC (a.block, c) = cap ∧ objC c = some (.cells o.1 o.2.1 o.2.2) := by
  obtain ⟨g, off, spot⟩ := a
  obtain ⟨p, hp⟩ := objD_all o
  obtain ⟨k, hk⟩ := unp_all cap p
  obtain ⟨n, hn⟩ := unp_all (match spot with | none => 0 | some k => k + 1) k
  obtain ⟨c, hc⟩ := unp_all off n
  refine ⟨c, ?_, ?_, ?_⟩
  · unfold adrC
    simp only [hc, hn]
    cases spot <;> rfl
  · unfold capC
    simp only [hc, hn, hk]
  · unfold objC
    simp only [hc, hn, hk, hp]
def Fz (w : World) (g c : Nat) : Prop := g < w.heap.size ∧ w.heap[g]? = objC (c - 1)
mutual
def den (ρ : Rho) (θ : Th) : SV → Option Value
  | .i k n => some (.int k n)
  | .x k e => some (.int k (e.den ρ))
  | .b b => some (.bool b)
  | .s l => some (.string (bstr (denS ρ l)))
  | .p t off => (θ t).map fun g => .pointer (some ⟨g.1, off, none⟩)
  | .np => some (.pointer none)
  | .sl t off len cap => (θ t).map fun g => .slice (some ⟨g.1, off, none⟩) len (cap.den g.2 off)
  | .sb t l => (θ t).map fun g => .slice (some ⟨g.1, 0, none⟩) (denS ρ l).length g.2
  | .su t => (θ t).map fun g => .slice (some ⟨g.1, 0, none⟩) (g.2 % 18446744073709551616) (g.2 / 18446744073709551616)
  | .ns => some (.slice none 0 0)
  | .ag l => (dens ρ θ l).map fun vs => .agg vs.toArray
  | .tu l => (dens ρ θ l).map fun vs => .tuple vs.toArray
  | .fn f fi ca => (dens ρ θ fi).bind fun a => (dens ρ θ ca).map fun b => .func (.func f) a.toArray b.toArray
  | .nf => some .nilFunc
  | .ni => some .nilIface
  | .nm => some (.map none)
  | .mp t => (θ t).map fun g => .map (some g.1)
  | .g g off => some (.pointer (some ⟨g, off, none⟩))
  | .un => some undef
  | .sv t e => (θ t).bind fun g => match g.2 with
    | 0 => if e.den ρ = 0 then some (.slice none 0 0) else none
    | c + 1 => if 0 ≤ e.den ρ then some (.slice (some (adrC (g.1, c))) (e.den ρ).toNat (capC (g.1, c))) else none
  | .pv t i => (θ t).map fun g => .pointer (some ((adrC (g.1, g.2 - 1)).add i))
  | .sx t n => (θ t).map fun g => .slice (some ⟨g.1, 0, none⟩) (ρ.v n).toNat ((Cap.q 2).den g.2 0)
  | .tp t e => (θ t).map fun g => .pointer (if e.den ρ ≤ 0 then none else some ⟨g.1, 0, none⟩)
def dens (ρ : Rho) (θ : Th) : List SV → Option (List Value)
  | [] => some []
  | v :: l => (den ρ θ v).bind fun u => (dens ρ θ l).map fun us => u :: us
end
def denE (ρ : Rho) (θ : Th) : List (SV × SV × Nat) → Option (List MapEntry)
  | [] => some []
  | (k, v, n) :: l => (den ρ θ k).bind fun a => (den ρ θ v).bind fun b => (denE ρ θ l).map fun es => ⟨a, b, n⟩ :: es
def ThLe (θ θ' : Th) : Prop := ∀ t x, θ t = some x → θ' t = some x
theorem ThLe.refl (θ : Th) : ThLe θ θ := fun _ _ h => h
theorem ThLe.trans {a b c : Th} (h : ThLe a b) (k : ThLe b c) : ThLe a c := fun t x e => k t x (h t x e)
section
variable {ρ : Rho} {θ θ' : Th}
theorem map_mono {α β : Type} {a b : Option α} {f : α → β} {u : β} (hab : ∀ x, a = some x → b = some x) (h : a.map f = some u) : b.map f = some u := by
  cases ha : a with
  | none => rw [ha] at h; cases h
  | some x => rw [hab x ha]; rw [ha] at h; exact h
theorem bind_mono {α β : Type} {a b : Option α} {f : α → Option β} {u : β} (hab : ∀ x, a = some x → b = some x) (h : a.bind f = some u) : b.bind f = some u := by
  cases ha : a with
  | none => rw [ha] at h; cases h
  | some x => rw [hab x ha]; rw [ha] at h; exact h
mutual
theorem den_mono (hle : ThLe θ θ') : ∀ (v : SV) {u : Value}, den ρ θ v = some u → den ρ θ' v = some u
  | .i k n, u, h => h
  | .x k e, u, h => h
  | .b b, u, h => h
  | .s l, u, h => h
  | .p t off, u, h => map_mono (hle t) h
  | .np, u, h => h
  | .sl t off len cap, u, h => map_mono (hle t) h
  | .sb t l, u, h => map_mono (hle t) h
  | .su t, u, h => map_mono (hle t) h
  | .ns, u, h => h
  | .ag l, u, h => map_mono (fun x => dens_mono hle l) h
  | .tu l, u, h => map_mono (fun x => dens_mono hle l) h
  | .fn f fi ca, u, h => by
    simp only [den, Option.bind_eq_some_iff, Option.map_eq_some_iff] at h ⊢
    obtain ⟨a, h1, b, h2, h3⟩ := h
    exact ⟨a, dens_mono hle fi h1, b, dens_mono hle ca h2, h3⟩
  | .nf, u, h => h
  | .ni, u, h => h
  | .nm, u, h => h
  | .mp t, u, h => map_mono (hle t) h
  | .g g off, u, h => h
  | .un, u, h => h
  | .sv t n, u, h => bind_mono (hle t) h
  | .pv t i, u, h => map_mono (hle t) h
  | .sx t n, u, h => map_mono (hle t) h
  | .tp t e, u, h => map_mono (hle t) h
theorem dens_mono (hle : ThLe θ θ') : ∀ (l : List SV) {us : List Value}, dens ρ θ l = some us → dens ρ θ' l = some us
  | [], us, h => h
  | v :: l, us, h => by
    simp only [dens, Option.bind_eq_some_iff, Option.map_eq_some_iff] at h ⊢
    obtain ⟨u, h1, us', h2, h3⟩ := h
    exact ⟨u, den_mono hle v h1, us', dens_mono hle l h2, h3⟩
end
theorem denE_mono (hle : ThLe θ θ') : ∀ (l : List (SV × SV × Nat)) {es : List MapEntry}, denE ρ θ l = some es → denE ρ θ' l = some es
  | [], es, h => h
  | (k, v, n) :: l, es, h => by
    simp only [denE, Option.bind_eq_some_iff, Option.map_eq_some_iff] at h ⊢
    obtain ⟨a, h1, b, h2, es', h3, h4⟩ := h
    exact ⟨a, den_mono hle k h1, b, den_mono hle v h2, es', denE_mono hle l h3, h4⟩
theorem dens_len : ∀ {l : List SV} {us : List Value}, dens ρ θ l = some us → us.length = l.length
  | [], us, h => by cases h; rfl
  | v :: l, us, h => by
    simp only [dens, Option.bind_eq_some_iff, Option.map_eq_some_iff] at h
    obtain ⟨u, _, us', h2, rfl⟩ := h
    simp [dens_len h2]
theorem dens_get : ∀ {l : List SV} {us : List Value} {j : Nat} {v : SV}, dens ρ θ l = some us → l[j]? = some v → ∃ u, us[j]? = some u ∧ den ρ θ v = some u
  | [], us, j, v, h, hj => by simp at hj
  | x :: l, us, j, v, h, hj => by
    simp only [dens, Option.bind_eq_some_iff, Option.map_eq_some_iff] at h
    obtain ⟨u, h1, us', h2, rfl⟩ := h
    cases j with
    | zero => simp at hj; subst hj; exact ⟨u, rfl, h1⟩
    | succ j => obtain ⟨u', h3, h4⟩ := dens_get h2 (by simpa using hj); exact ⟨u', by simpa using h3, h4⟩
theorem dens_append {l m : List SV} {us ws : List Value} (h : dens ρ θ l = some us) (k : dens ρ θ m = some ws) : dens ρ θ (l ++ m) = some (us ++ ws) := by
  induction l generalizing us with
  | nil => cases h; exact k
  | cons v l ih =>
    simp only [dens, Option.bind_eq_some_iff, Option.map_eq_some_iff, List.cons_append] at h ⊢
    obtain ⟨u, h1, us', h2, rfl⟩ := h
    exact ⟨u, h1, _, ih h2, rfl⟩
theorem dens_drop : ∀ {l : List SV} {us : List Value} (n : Nat), dens ρ θ l = some us → dens ρ θ (l.drop n) = some (us.drop n)
  | l, us, 0, h => by simpa using h
  | [], us, n + 1, h => by cases h; rfl
  | v :: l, us, n + 1, h => by
    simp only [dens, Option.bind_eq_some_iff, Option.map_eq_some_iff] at h
    obtain ⟨u, _, us', h2, rfl⟩ := h
    simpa using dens_drop n h2
theorem dens_take : ∀ {l : List SV} {us : List Value} (n : Nat), dens ρ θ l = some us → dens ρ θ (l.take n) = some (us.take n)
  | l, us, 0, h => by simp [dens]
  | [], us, n + 1, h => by cases h; rfl
  | v :: l, us, n + 1, h => by
    simp only [dens, Option.bind_eq_some_iff, Option.map_eq_some_iff] at h
    obtain ⟨u, h1, us', h2, rfl⟩ := h
    simp [dens, h1, dens_take n h2]
end
def pairs (ρ : Rho) (n b : Nat) : List Value := (List.range (2 * (ρ.v n).toNat)).map fun j => .int .i64 (ρ.v (b + j))
def cqN (ρ : Rho) (n : Nat) : Nat := if n < 10000 then 2 * (ρ.v n).toNat else (ρ.v n).toNat
def cqV (ρ : Rho) (n b j : Nat) : Value := if n < 10000 then .int .i64 (ρ.v (b + j)) else .string (bstr (ρ.s (b + j)))
def CapOk (ρ : Rho) (n g c : Nat) : Prop := n < 10000 ∨ ((ρ.v n).toNat ≤ capC (g, c - 1) ∧ capC (g, c - 1) ≤ 9223372036854775807)
def HoldsB (ρ : Rho) (θ : Th) (w : World) (t : Nat) : Blk → Prop
  | .ce ty cs ex => ∃ g c vs arr rest, θ t = some (g, c) ∧ w.heap[g]? = some (.cells arr ty (0, 0)) ∧ arr.size = c ∧ dens ρ θ cs = some vs ∧ (∀ v ∈ vs, v.oneCell' = true) ∧ arr.toList = vs ++ rest ∧ (ex = true → rest = [])
  | .bt ty l => ∃ g c arr rest, θ t = some (g, c) ∧ w.heap[g]? = some (.cells arr ty (0, 0)) ∧ arr.size = c ∧ arr.toList = (denS ρ l).map (fun b => .int .u8 b.toNat) ++ rest
  | .mp es ck => ∃ g c arr, θ t = some (g, c) ∧ w.heap[g]? = some (.map arr ck) ∧ denE ρ θ es = some arr.toList
  | .ob ty l => ∃ g c arr rest, ∃ ss : List ByteArray, θ t = some (g, c) ∧ w.heap[g]? = some (.cells arr ty (0, 0)) ∧ arr.size = c ∧ ss.length = (denS ρ l).length ∧ arr.toList = ss.map Value.string ++ rest
  | .cv cs => ∃ g c vs, θ t = some (g, c) ∧ Fz w g c ∧ dens ρ θ cs = some vs ∧ ∀ j u, vs[j]? = some u → w.cell? ((adrC (g, c - 1)).add j) = some u
  | .cq n b => ∃ g c, θ t = some (g, c) ∧ (Fz w g c ∧ CapOk ρ n g c) ∧ ∀ j, j < cqN ρ n → w.cell? ((adrC (g, c - 1)).add j) = some (cqV ρ n b j)
  | .cx ty n b => ∃ g c arr rest, θ t = some (g, c) ∧ w.heap[g]? = some (.cells arr ty (0, 0)) ∧ arr.size = c ∧ arr.toList = pairs ρ n b ++ rest
  | .hb k l q => ∃ x, θ t = some x ∧ Hid k w x (denS ρ l) (denS ρ q)
def FtB (fa : Bool) (o : Option Blk) (x : Nat × Nat) (g : Nat) : Prop := match o with
  | none => False
  | some (.hb _ _ _) => g ∈ lsD x.2
  | some (.cv _) => fa = true ∧ g = x.1
  | some (.cq _ _) => fa = true ∧ g = x.1
  | some _ => g = x.1
def Own (fa : Bool) (θ : Th) (M : Nat → Option Blk) (t g : Nat) : Prop := ∃ x, θ t = some x ∧ FtB fa (M t) x g
def Bl (fa : Bool) (θ : Th) (M : Nat → Option Blk) (g : Nat) : Prop := ∃ t, Own fa θ M t g
structure MemOk (ρ : Rho) (θ : Th) (M : Nat → Option Blk) (w : World) : Prop where
  holds : ∀ t b, M t = some b → HoldsB ρ θ w t b
  inj : ∀ s t g, Own true θ M s g → Own false θ M t g → s = t
theorem FtB.ne {fa : Bool} {o : Option Blk} {x : Nat × Nat} {g : Nat} (h : FtB fa o x g) : o ≠ none := fun e => by subst e; exact h
theorem FtB.up {fa : Bool} {o : Option Blk} {x : Nat × Nat} {g : Nat} (h : FtB fa o x g) : FtB true o x g := by
  cases o with
  | none => exact h
  | some b => cases b <;> first | exact h | exact ⟨rfl, h.2⟩
theorem Own.tr {fa : Bool} {θ : Th} {M : Nat → Option Blk} {t g : Nat} (h : Own fa θ M t g) : Own true θ M t g := by
  obtain ⟨x, e, h⟩ := h
  exact ⟨x, e, h.up⟩
theorem Own.ne {fa : Bool} {θ : Th} {M : Nat → Option Blk} {t g : Nat} (h : Own fa θ M t g) : M t ≠ none := by
  obtain ⟨x, _, h⟩ := h
  exact h.ne
theorem Own.of {fa : Bool} {θ θ' : Th} {M M' : Nat → Option Blk} {t g : Nat} (h : Own fa θ M t g) (h1 : M' t = M t) (h2 : ∀ x, θ t = some x → θ' t = some x) : Own fa θ' M' t g := by
  obtain ⟨x, e, f⟩ := h
  exact ⟨x, h2 x e, by rw [h1]; exact f⟩
def isHb : Blk → Nat
  | .hb _ _ _ => 1
  | .cv _ => 2
  | .cq _ _ => 2
  | _ => 0
theorem FtB_kind {fa : Bool} {b b' : Blk} (h : isHb b = isHb b') {x : Nat × Nat} {g : Nat} (f : FtB fa (some b) x g) : FtB fa (some b') x g := by
  cases b <;> cases b' <;> first | exact f | (simp [isHb] at h)
theorem FtB_plain {fa : Bool} {b : Blk} (h : isHb b = 0) {x : Nat × Nat} {g : Nat} : FtB fa (some b) x g ↔ g = x.1 := by
  cases b <;> first | exact Iff.rfl | (simp [isHb] at h)
section
variable {ρ : Rho} {θ θ' : Th} {w w' : World} {M M' R R' : Nat → Option Blk}
theorem HoldsB.th {t : Nat} {b : Blk} (h : HoldsB ρ θ w t b) : ∃ g c, θ t = some (g, c) := by
  cases b with
  | ce ty cs ex => obtain ⟨g, c, vs, arr, rest, h1, h2, _⟩ := h; exact ⟨g, c, h1⟩
  | bt ty l => obtain ⟨g, c, arr, rest, h1, h2, _⟩ := h; exact ⟨g, c, h1⟩
  | mp es ck => obtain ⟨g, c, arr, h1, h2, _⟩ := h; exact ⟨g, c, h1⟩
  | ob ty l => obtain ⟨g, c, arr, rest, ss, h1, h2, _⟩ := h; exact ⟨g, c, h1⟩
  | cv cs => obtain ⟨g, c, vs, h1, h2, _⟩ := h; exact ⟨g, c, h1⟩
  | cq n b => obtain ⟨g, c, h1, h2, _⟩ := h; exact ⟨g, c, h1⟩
  | cx ty n b => obtain ⟨g, c, arr, rest, h1, h2, _⟩ := h; exact ⟨g, c, h1⟩
  | hb k l q => obtain ⟨⟨g, c⟩, h1, _⟩ := h; exact ⟨g, c, h1⟩
theorem HoldsB.lt {t g : Nat} {b : Blk} {x : Nat × Nat} (h : HoldsB ρ θ w t b) (e : θ t = some x) {fa : Bool} (f : FtB fa (some b) x g) : g < w.heap.size := by
  have lt : ∀ {g : Nat} {o : Obj}, w.heap[g]? = some o → g < w.heap.size := fun h => (Array.getElem?_eq_some_iff.1 h).1
  cases b with
  | ce ty cs ex => obtain ⟨g, c, vs, arr, rest, h1, h2, _⟩ := h; rw [h1] at e; cases e; rw [show _ = _ from f]; exact lt h2
  | bt ty l => obtain ⟨g, c, arr, rest, h1, h2, _⟩ := h; rw [h1] at e; cases e; rw [show _ = _ from f]; exact lt h2
  | mp es ck => obtain ⟨g, c, arr, h1, h2, _⟩ := h; rw [h1] at e; cases e; rw [show _ = _ from f]; exact lt h2
  | ob ty l => obtain ⟨g, c, arr, rest, ss, h1, h2, _⟩ := h; rw [h1] at e; cases e; rw [show _ = _ from f]; exact lt h2
  | cv cs => obtain ⟨g, c, vs, h1, h2, _⟩ := h; rw [h1] at e; cases e; rw [show _ = _ from f.2]; exact h2.1
  | cq n b => obtain ⟨g, c, h1, h2, _⟩ := h; rw [h1] at e; cases e; rw [show _ = _ from f.2]; exact h2.1.1
  | cx ty n b => obtain ⟨g, c, arr, rest, h1, h2, _⟩ := h; rw [h1] at e; cases e; rw [show _ = _ from f]; exact lt h2
  | hb k l q => obtain ⟨y, h1, h2⟩ := h; rw [h1] at e; cases e; exact h2.lt g f
theorem HoldsB.keep {t : Nat} {b : Blk} {N : Nat → Prop} (h : HoldsB ρ θ w t b) (hle : ThLe θ θ') (hx : Ext N w w') (hn : ∀ x g, θ t = some x → FtB true (some b) x g → ¬ N g) : HoldsB ρ θ' w' t b := by
  have key : ∀ {g c : Nat} {o : Obj}, θ t = some (g, c) → FtB true (some b) (g, c) g → w.heap[g]? = some o → w'.heap[g]? = some o := fun {g c o} e f h' => by
    rw [hx.block _ (h.lt e f) (hn _ _ e f)]; exact h'
  cases b with
  | ce ty cs ex => obtain ⟨g, c, vs, arr, rest, h1, h2, h3, h4, h5⟩ := h; exact ⟨g, c, vs, arr, rest, hle _ _ h1, key h1 rfl h2, h3, dens_mono hle _ h4, h5⟩
  | bt ty l => obtain ⟨g, c, arr, rest, h1, h2, h3⟩ := h; exact ⟨g, c, arr, rest, hle _ _ h1, key h1 rfl h2, h3⟩
  | mp es ck => obtain ⟨g, c, arr, h1, h2, h3⟩ := h; exact ⟨g, c, arr, hle _ _ h1, key h1 rfl h2, denE_mono hle _ h3⟩
  | ob ty l => obtain ⟨g, c, arr, rest, ss, h1, h2, h3⟩ := h; exact ⟨g, c, arr, rest, ss, hle _ _ h1, key h1 rfl h2, h3⟩
  | cv cs =>
    obtain ⟨g, c, vs, h1, h2, h3, h4⟩ := h
    refine ⟨g, c, vs, hle _ _ h1, ⟨Nat.lt_of_lt_of_le h2.1 hx.size, (hx.block _ h2.1 (hn _ _ h1 ⟨rfl, rfl⟩)).trans h2.2⟩, dens_mono hle _ h3, fun j u hj => ?_⟩
    have hb : ((adrC (g, c - 1)).add j).block = g := by unfold Addr.add; split <;> rfl
    rw [← h4 j u hj]
    unfold World.cell?
    rw [hb, hx.block _ h2.1 (hn _ _ h1 ⟨rfl, rfl⟩)]
  | cx ty n b => obtain ⟨g, c, arr, rest, h1, h2, h3⟩ := h; exact ⟨g, c, arr, rest, hle _ _ h1, key h1 rfl h2, h3⟩
  | cq n b =>
    obtain ⟨g, c, h1, h2, h4⟩ := h
    refine ⟨g, c, hle _ _ h1, ⟨⟨Nat.lt_of_lt_of_le h2.1.1 hx.size, (hx.block _ h2.1.1 (hn _ _ h1 ⟨rfl, rfl⟩)).trans h2.1.2⟩, h2.2⟩, fun j hj => ?_⟩
    have hb : ((adrC (g, c - 1)).add j).block = g := by unfold Addr.add; split <;> rfl
    rw [← h4 j hj]
    unfold World.cell?
    rw [hb, hx.block _ h2.1.1 (hn _ _ h1 ⟨rfl, rfl⟩)]
  | hb k l q =>
    obtain ⟨x, h1, h2⟩ := h
    exact ⟨x, hle _ _ h1, h2.keep fun g hg => hx.block _ (h2.lt g hg) (hn _ _ h1 hg)⟩
theorem MemOk.own_lt {fa : Bool} (h : MemOk ρ θ M w) {t g : Nat} (hg : Own fa θ M t g) : g < w.heap.size := by
  obtain ⟨x, h1, h2⟩ := hg
  cases hm : M t with
  | none => exact absurd hm h2.ne
  | some b => rw [hm] at h2; exact (h.holds t b hm).lt h1 h2
theorem MemOk.lt {fa : Bool} (h : MemOk ρ θ M w) {g : Nat} (hg : Bl fa θ M g) : g < w.heap.size := by
  obtain ⟨t, ht⟩ := hg
  exact h.own_lt ht
theorem MemOk.th (h : MemOk ρ θ M w) {t : Nat} {b : Blk} (hm : M t = some b) : ∃ g c, θ t = some (g, c) := (h.holds t b hm).th
theorem MemOk.sub (h : MemOk ρ θ M w) (hs : ∀ t b, R t = some b → M t = some b) : MemOk ρ θ R w := by
  have up : ∀ {fa : Bool} t g, Own fa θ R t g → Own fa θ M t g := fun t g ⟨x, e, f⟩ => by
    cases hr : R t with
    | none => exact absurd hr f.ne
    | some b => rw [hr] at f; exact ⟨x, e, by rw [hs t b hr]; exact f⟩
  exact ⟨fun t b hr => h.holds t b (hs t b hr), fun s t g h1 h2 => h.inj s t g (up s g h1) (up t g h2)⟩
theorem own_lf {fa : Bool} {t g : Nat} : ¬ Own fa θ (Tr.get (α := Blk) .lf) t g := fun ⟨x, e, f⟩ => by simp [Tr.get, FtB] at f
theorem bl_lf {fa : Bool} {g : Nat} : ¬ Bl fa θ (Tr.get (α := Blk) .lf) g := fun ⟨t, h⟩ => own_lf h
theorem memOk_lf : MemOk ρ θ (Tr.get (α := Blk) .lf) w := ⟨fun t b h => by simp [Tr.get] at h, fun s t g h => (own_lf h).elim⟩
theorem Own.up {fa : Bool} (h : ThLe θ θ') {t g : Nat} (ho : Own fa θ M t g) : Own fa θ' M t g := by
  obtain ⟨x, e, f⟩ := ho
  exact ⟨x, h t x e, f⟩
structure SP (ρ : Rho) (nx nx' : Nat) (θ : Th) (R : Nat → Option Blk) (w : World) (θ' : Th) (R' : Nat → Option Blk) (w' : World) : Prop where
  le : ThLe θ θ'
  new : ∀ t, θ' t ≠ none → θ t ≠ none ∨ (nx ≤ t ∧ t < nx')
  mem : MemOk ρ θ' R' w'
  ext : Ext (Bl false θ R) w w'
  own : ∀ {fa : Bool} (g : Nat), Bl fa θ' R' g → Bl fa θ R g ∨ w.heap.size ≤ g
theorem SP.refl {nx : Nat} (h : MemOk ρ θ R w) : SP ρ nx nx θ R w θ R w := ⟨ThLe.refl _, fun t ht => .inl ht, h, Ext.refl _ _, fun g hg => .inl hg⟩
theorem SP.drew {nx nx' : Nat} {w'' : World} (h : SP ρ nx nx' θ R w θ' R' w') (hh : w''.heap = w.heap) (hd : Ext none' w'' w) : SP ρ nx nx' θ R w'' θ' R' w' :=
  ⟨h.le, h.new, h.mem, (hd.mono fun _ _ h => h.elim).trans h.ext, fun g hg => by rw [hh]; exact h.own g hg⟩
theorem SP.trans {nx nx1 nx2 : Nat} {θ2 : Th} {R2 : Nat → Option Blk} {w2 : World} (h : SP ρ nx nx1 θ R w θ' R' w') (k : SP ρ nx1 nx2 θ' R' w' θ2 R2 w2) (h1 : nx ≤ nx1) (h2 : nx1 ≤ nx2) : SP ρ nx nx2 θ R w θ2 R2 w2 := by
  refine ⟨h.le.trans k.le, fun t ht => ?_, k.mem, ?_, fun g hg => ?_⟩
  · rcases k.new t ht with a | a
    · rcases h.new t a with b | b
      · exact .inl b
      · exact .inr ⟨b.1, by omega⟩
    · exact .inr ⟨by omega, a.2⟩
  · refine ⟨k.ext.os.trans h.ext.os, k.ext.tape.trans h.ext.tape, k.ext.output.trans h.ext.output, Nat.le_trans h.ext.size k.ext.size, fun i hi hn => ?_⟩
    rw [k.ext.block i (Nat.lt_of_lt_of_le hi h.ext.size) fun hb => ?_, h.ext.block i hi hn]
    rcases h.own i hb with a | a
    · exact hn a
    · omega
  · rcases k.own g hg with a | a
    · exact h.own g a
    · exact .inr (Nat.le_trans h.ext.size a)
theorem SP.frame {nx nx' : Nat} {tc : Nat → Prop} (hM : MemOk ρ θ M w) (hR : ∀ t b, R t = some b → tc t ∧ M t = some b) (h : SP ρ nx nx' θ R w θ' R' w') (hR' : ∀ t, ¬ tc t → R' t = none) (hM' : ∀ t b, M' t = some b → (tc t ∧ R' t = some b) ∨ (¬ tc t ∧ M t = some b)) :
    SP ρ nx nx' θ M w θ' M' w' := by
  classical
  have hRM : ∀ {fa : Bool} t g, Own fa θ R t g → tc t ∧ Own fa θ M t g := fun t g ⟨x, e, f⟩ => by
    cases hb : R t with
    | none => exact absurd hb f.ne
    | some b => obtain ⟨h1, h2⟩ := hR t b hb; rw [hb] at f; exact ⟨h1, x, e, by rw [h2]; exact f⟩
  have bl : ∀ {fa : Bool} g, Bl fa θ R g → Bl fa θ M g := fun g ⟨t, h⟩ => ⟨t, (hRM t g h).2⟩
  have away : ∀ t, ¬ tc t → ∀ g, Own true θ M t g → ¬ Bl false θ R g := fun t ht g hg ⟨s, hs⟩ => by
    have := hM.inj t s g hg (hRM s g hs).2
    subst this; exact ht (hRM t g hs).1
  have away2 : ∀ t, ¬ tc t → ∀ g, Own false θ M t g → ¬ Bl true θ R g := fun t ht g hg ⟨s, hs⟩ => by
    have := hM.inj s t g (hRM s g hs).2 hg
    subst this; exact ht (hRM s g hs).1
  have out : ∀ {fa : Bool} t, ¬ tc t → ∀ g, Own fa θ' M t g → Own fa θ M t g := fun t ht g ⟨x, e, f⟩ => by
    cases hb : M t with
    | none => exact absurd hb f.ne
    | some b =>
      obtain ⟨g', c', e'⟩ := (hM.holds t b hb).th
      have := h.le t _ e'
      rw [e] at this; cases this
      exact ⟨_, e', f⟩
  have ne : ∀ {fa : Bool} t g, Own fa θ' M' t g → (tc t ∧ Own fa θ' R' t g) ∨ (¬ tc t ∧ Own fa θ M t g) := fun t g ⟨x, e, f⟩ => by
    cases hb : M' t with
    | none => exact absurd hb f.ne
    | some b =>
      rw [hb] at f
      rcases hM' t b hb with ⟨a, q⟩ | ⟨a, q⟩
      · exact .inl ⟨a, x, e, by rw [q]; exact f⟩
      · exact .inr ⟨a, out t a g ⟨x, e, by rw [q]; exact f⟩⟩
  refine ⟨h.le, h.new, ⟨fun t b hb => ?_, fun s t g hs ht => ?_⟩, h.ext.mono fun g _ hg => bl g hg, fun g ⟨t, ht⟩ => ?_⟩
  · rcases hM' t b hb with ⟨_, e⟩ | ⟨a, e⟩
    · exact h.mem.holds t b e
    · exact (hM.holds t b e).keep h.le h.ext fun x g hx hf => away t a g ⟨x, hx, by rw [e]; exact hf⟩
  · rcases ne s g hs with ⟨a1, a2⟩ | ⟨a1, a2⟩ <;> rcases ne t g ht with ⟨b1, b2⟩ | ⟨b1, b2⟩
    · exact h.mem.inj s t g a2 b2
    · exfalso
      rcases h.own g ⟨s, a2⟩ with q | q
      · exact away2 t b1 g b2 q
      · have := hM.own_lt b2; omega
    · exfalso
      rcases h.own g ⟨t, b2⟩ with q | q
      · exact away s a1 g a2 q
      · have := hM.own_lt a2; omega
    · exact hM.inj s t g a2 b2
  · rcases ne t g ht with ⟨a1, a2⟩ | ⟨a1, a2⟩
    · rcases h.own g ⟨t, a2⟩ with q | q
      · exact .inl (bl g q)
      · exact .inr q
    · exact .inl ⟨t, a2⟩
end
end X
end Go.Proofs.YtebfahobllghnaaGreatDoor
namespace Go.Proofs.YtebfahobllghnaaGreatDoor
namespace X
open Go.RowKit B
section
variable {ρ : Rho} {θ θ' : Th} {w w' : World} {M M' R R' : Nat → Option Blk}
theorem SP.wk {a b n n' : Nat} (h : SP ρ n n' θ R w θ' R' w') (h1 : a ≤ n) (h2 : n' ≤ b) : SP ρ a b θ R w θ' R' w' :=
  ⟨h.le, fun t ht => (h.new t ht).imp id fun q => ⟨by omega, by omega⟩, h.mem, h.ext, h.own⟩
theorem SP.seq {a b : Nat} {θ2 : Th} {R2 : Nat → Option Blk} {w2 : World} (h : SP ρ a b θ R w θ' R' w') (k : SP ρ a b θ' R' w' θ2 R2 w2) : SP ρ a b θ R w θ2 R2 w2 := by
  refine ⟨h.le.trans k.le, fun t ht => ?_, k.mem, ?_, fun g hg => ?_⟩
  · rcases k.new t ht with q | q
    · exact h.new t q
    · exact .inr q
  · refine ⟨k.ext.os.trans h.ext.os, k.ext.tape.trans h.ext.tape, k.ext.output.trans h.ext.output, Nat.le_trans h.ext.size k.ext.size, fun i hi hn => ?_⟩
    rw [k.ext.block i (Nat.lt_of_lt_of_le hi h.ext.size) fun hb => ?_, h.ext.block i hi hn]
    rcases h.own i hb with q | q
    · exact hn q
    · omega
  · rcases k.own g hg with q | q
    · exact h.own g q
    · exact .inr (Nat.le_trans h.ext.size q)
end
def rdO : Operand → List Nat
  | .tmp t => [t]
  | _ => []
def rdOs (l : List Operand) : List Nat := l.flatMap rdO
def gSlot (ops : Array Oper) (o : Oper) : List Nat := match o.guard with
  | none => []
  | some (j, _) => match ops[j]? with
    | some o' => o'.dst.toList
    | none => []
def reads (ops : Array Oper) (o : Oper) : List Nat := rdOs o.op.operands.toList ++ gSlot ops o
structure TE where
  o : Oper
  R : Nat → Option Blk
  v : SV
  R' : Nat → Option Blk
  n : Nat
  n' : Nat
def TE.wr (e : TE) (t : Nat) : Prop := e.R t ≠ e.R' t
def TE.rd (e : TE) (t : Nat) : Prop := e.R t ≠ none
def updS (S : Nat → Option SV) (d : Option Nat) (v : SV) : Nat → Option SV := fun k => if d = some k then some v else S k
open Classical in
noncomputable def updM (M : Nat → Option Blk) (e : TE) : Nat → Option Blk := fun t => if e.R t = e.R' t then M t else e.R' t
theorem updM_wr {M : Nat → Option Blk} {e : TE} {t : Nat} (h : e.wr t) : updM M e t = e.R' t := if_neg h
theorem updM_not {M : Nat → Option Blk} {e : TE} {t : Nat} (h : ¬ e.wr t) : updM M e t = M t := if_pos (Classical.not_not.1 h)
def Step3 (P : Program) (ρ : Rho) (ops : Array Oper) (n : Nat) (S : Nat → Option SV) (e : TE) : Prop :=
  ∀ (a : Act) (w : World) (θ : Th), a.defers = [] → a.tmps.size = n → (∀ k ∈ reads ops e.o, ∀ sv, S k = some sv → den ρ θ sv = some (get a k)) → MemOk ρ θ e.R w → (∀ t, e.n ≤ t → t < e.n' → θ t = none) →
    (Region.wanted e.o (yielded ops a.tmps) = true → e.o.wp P a w (fun a' w' => ∃ v θ', a' = a.put e.o.dst v ∧ SP ρ e.n e.n' θ e.R w θ' e.R' w' ∧ den ρ θ' e.v = some v) (fun _ _ _ => False)) ∧
    (Region.wanted e.o (yielded ops a.tmps) = false → ∃ θ', SP ρ e.n e.n' θ e.R w θ' e.R' w ∧ den ρ θ' e.v = some undef)
def Steps3 (P : Program) (ρ : Rho) (ops : Array Oper) (n : Nat) : Nat → (Nat → Option SV) → (Nat → Option Blk) → List TE → Prop
  | _, _, _, [] => True
  | nx, S, M, e :: l => (e.n = nx ∧ e.n ≤ e.n' ∧ (∀ t b, e.R t = some b → M t = some b) ∧ (∀ t, e.R t = none → e.R' t ≠ none → e.n ≤ t ∧ t < e.n') ∧ Step3 P ρ ops n S e) ∧ Steps3 P ρ ops n e.n' (updS S e.o.dst e.v) (updM M e) l
def stS (D : Nat → Bool) : Nat → List TE → (Nat → Option SV) → (Nat → Option SV)
  | _, [], S => S
  | i, e :: l, S => stS D (i + 1) l (if D i = true then updS S e.o.dst e.v else S)
noncomputable def stM (D : Nat → Bool) : Nat → List TE → (Nat → Option Blk) → (Nat → Option Blk)
  | _, [], M => M
  | i, e :: l, M => stM D (i + 1) l (if D i = true then updM M e else M)
theorem stS_agree {D D' : Nat → Bool} {k : Nat} : ∀ {l : List TE} {i : Nat} {S S' : Nat → Option SV}, S k = S' k → (∀ j e, l[j]? = some e → e.o.dst = some k → D (i + j) = D' (i + j)) → stS D i l S k = stS D' i l S' k
  | [], _, _, _, h, _ => h
  | e :: l, i, S, S', h, hd => by
    unfold stS
    refine stS_agree (l := l) ?_ fun j e' hj hk => ?_
    · by_cases hk : e.o.dst = some k
      · have := hd 0 e rfl hk
        rw [Nat.add_zero] at this
        rw [this]
        split
        · simp [updS, hk]
        · exact h
      · split <;> split <;> simp [updS, hk, h]
    · have := hd (j + 1) e' (by simpa using hj) hk
      rwa [show i + (j + 1) = i + 1 + j by omega] at this
theorem stM_agree {D D' : Nat → Bool} {t : Nat} : ∀ {l : List TE} {i : Nat} {M M' : Nat → Option Blk}, M t = M' t → (∀ j e, l[j]? = some e → e.wr t → D (i + j) = D' (i + j)) → stM D i l M t = stM D' i l M' t
  | [], _, _, _, h, _ => h
  | e :: l, i, M, M', h, hd => by
    unfold stM
    refine stM_agree (l := l) ?_ fun j e' hj hk => ?_
    · by_cases hk : e.wr t
      · have := hd 0 e rfl hk
        rw [Nat.add_zero] at this
        rw [this]
        split
        · rw [updM_wr hk, updM_wr hk]
        · exact h
      · split <;> split <;> simp only [updM_not hk, h]
    · have := hd (j + 1) e' (by simpa using hj) hk
      rwa [show i + (j + 1) = i + 1 + j by omega] at this
theorem stS_nil {D : Nat → Bool} {S : Nat → Option SV} : ∀ {l : List TE} {m : Nat}, (∀ j, j < l.length → D (m + j) = false) → stS D m l S = S
  | [], _, _ => rfl
  | e :: l, m, h => by
    have h0 := h 0 (by simp)
    rw [Nat.add_zero] at h0
    simp only [stS, h0, Bool.false_eq_true, if_false]
    exact stS_nil fun j hj => by rw [show m + 1 + j = m + (j + 1) by omega]; exact h (j + 1) (by simpa using hj)
theorem stM_nil {D : Nat → Bool} {M : Nat → Option Blk} : ∀ {l : List TE} {m : Nat}, (∀ j, j < l.length → D (m + j) = false) → stM D m l M = M
  | [], _, _ => rfl
  | e :: l, m, h => by
    have h0 := h 0 (by simp)
    rw [Nat.add_zero] at h0
    simp only [stM, h0, Bool.false_eq_true, if_false]
    exact stM_nil fun j hj => by rw [show m + 1 + j = m + (j + 1) by omega]; exact h (j + 1) (by simpa using hj)
theorem Steps3.get {P : Program} {ρ : Rho} {ops : Array Oper} {n : Nat} : ∀ {l : List TE} {nx m : Nat} {S : Nat → Option SV} {M : Nat → Option Blk}, Steps3 P ρ ops n nx S M l → ∀ (j : Nat) (e : TE), l[j]? = some e →
    (∀ t b, e.R t = some b → stM (fun i => decide (i < m + j)) m l M t = some b) ∧ (∀ t, e.R t = none → e.R' t ≠ none → e.n ≤ t ∧ t < e.n') ∧ Step3 P ρ ops n (stS (fun i => decide (i < m + j)) m l S) e
  | [], nx, m, S, M, _, j, e, hj => by simp at hj
  | x :: l, nx, m, S, M, h, 0, e, hj => by
    simp only [List.getElem?_cons_zero, Option.some.injEq] at hj
    subst hj
    obtain ⟨⟨_, _, h1, h2, h3⟩, _⟩ := h
    have f : ∀ j, j < (x :: l).length → decide (m + j < m + 0) = false := fun j _ => by simp
    rw [stS_nil f, stM_nil f]
    exact ⟨h1, h2, h3⟩
  | x :: l, nx, m, S, M, h, j + 1, e, hj => by
    have := Steps3.get (m := m + 1) h.2 j e (by simpa using hj)
    have hm : decide (m < m + (j + 1)) = true := by simp
    simp only [stS, stM, hm, if_true]
    rwa [show (fun i => decide (i < m + (j + 1))) = (fun i => decide (i < m + 1 + j)) from funext fun i => by rw [show m + (j + 1) = m + 1 + j by omega]]
theorem Steps3.rng {P : Program} {ρ : Rho} {ops : Array Oper} {n : Nat} : ∀ {l : List TE} {nx : Nat} {S : Nat → Option SV} {M : Nat → Option Blk}, Steps3 P ρ ops n nx S M l → ∀ (i : Nat) (e : TE), l[i]? = some e →
    nx ≤ e.n ∧ e.n ≤ e.n' ∧ ∀ (j : Nat) (e' : TE), l[j]? = some e' → i < j → e.n' ≤ e'.n
  | [], nx, S, M, _, i, e, hi => by simp at hi
  | x :: l, nx, S, M, h, 0, e, hi => by
    simp only [List.getElem?_cons_zero, Option.some.injEq] at hi
    subst hi
    obtain ⟨⟨h0, h1, _⟩, h2⟩ := h
    refine ⟨by omega, h1, fun j e' hj hlt => ?_⟩
    cases j with
    | zero => omega
    | succ j => exact (Steps3.rng h2 j e' (by simpa using hj)).1
  | x :: l, nx, S, M, h, i + 1, e, hi => by
    obtain ⟨⟨h0, h1, _⟩, h2⟩ := h
    have := Steps3.rng h2 i e (by simpa using hi)
    refine ⟨by omega, this.2.1, fun j e' hj hlt => ?_⟩
    cases j with
    | zero => omega
    | succ j => exact this.2.2 j e' (by simpa using hj) (by omega)
def finN : Nat → List TE → Nat
  | nx, [] => nx
  | _, e :: l => finN e.n' l
theorem Steps3.fin {P : Program} {ρ : Rho} {ops : Array Oper} {n : Nat} : ∀ {l : List TE} {nx : Nat} {S : Nat → Option SV} {M : Nat → Option Blk}, Steps3 P ρ ops n nx S M l → nx ≤ finN nx l ∧ ∀ (i : Nat) (e : TE), l[i]? = some e → e.n' ≤ finN nx l
  | [], nx, S, M, _ => ⟨Nat.le_refl _, fun i e h => by simp at h⟩
  | x :: l, nx, S, M, h => by
    obtain ⟨⟨h0, h1, _⟩, h2⟩ := h
    have := Steps3.fin h2
    refine ⟨by simp only [finN]; omega, fun i e hi => ?_⟩
    cases i with
    | zero => simp at hi; subst hi; exact this.1
    | succ i => exact this.2 i e (by simpa using hi)
structure Indep (ops : Array Oper) (x y : TE) : Prop where
  s1 : ∀ k, x.o.dst = some k → y.o.dst ≠ some k ∧ k ∉ reads ops y.o
  s2 : ∀ k, y.o.dst = some k → k ∉ reads ops x.o
  m1 : ∀ t, x.wr t → ¬ y.wr t ∧ ¬ y.rd t
  m2 : ∀ t, y.wr t → ¬ x.rd t
structure J3 (ρ : Rho) (n nx : Nat) (S : Nat → Option SV) (M : Nat → Option Blk) (l : List TE) (θ0 : Th) (w0 : World) (D : Nat → Bool) (a : Act) (w : World) (θ : Th) : Prop where
  defers : a.defers = []
  size : a.tmps.size = n
  slot : ∀ k sv, stS D 0 l S k = some sv → den ρ θ sv = some (get a k)
  sp : SP ρ nx (finN nx l) θ0 M w0 θ (stM D 0 l M) w
  fresh : ∀ t, θ t ≠ none → θ0 t ≠ none ∨ ∃ i e, D i = true ∧ l[i]? = some e ∧ e.n ≤ t ∧ t < e.n'
theorem J3.step {P : Program} {ρ : Rho} {n nx : Nat} {S : Nat → Option SV} {M : Nat → Option Blk} {l : List TE} {ops : Array Oper} {θ0 : Th} {w0 : World} {D : Nat → Bool} {a : Act} {w : World} {θ : Th} {draw : Bool} {bf : List Nat} {j : Nat} {e : TE}
    (hJ : J3 ρ n nx S M l θ0 w0 D a w θ) (hst : Steps3 P ρ ops n nx S M l) (hθ0 : ∀ t, nx ≤ t → t < finN nx l → θ0 t = none) (hreg : draw = true → ∀ (i j : Nat) (x y : TE), i < j → l[i]? = some x → l[j]? = some y → (bf.getD j 0).testBit i = true ∨ Indep ops x y)
    (hn : B.Next draw bf D j) (hj : l[j]? = some e) (hdst : ∀ d, e.o.dst = some d → d < n) :
    (Region.wanted e.o (yielded ops a.tmps) = true → e.o.wp P a w (fun a' w' => ∃ θ', J3 ρ n nx S M l θ0 w0 (fun i => i == j || D i) a' w' θ') (fun _ _ _ => False)) ∧
    (Region.wanted e.o (yielded ops a.tmps) = false → ∃ θ', J3 ρ n nx S M l θ0 w0 (fun i => i == j || D i) (a.put e.o.dst undef) w θ') := by
  have hDj : D j = false := by
    rcases hn with ⟨_, h⟩ | ⟨_, h, _⟩
    · simp [h]
    · exact h
  have dep : ∀ i x, l[i]? = some x → i ≠ j → (Indep ops x e → False) → (Indep ops e x → False) → D i = decide (i < j) := by
    intro i x hi hne h1 h2
    rcases hn with ⟨_, h⟩ | ⟨hd, _, hpre, hpost⟩
    · exact h i
    · rcases Nat.lt_or_gt_of_ne hne with hlt | hlt
      · rcases hreg hd i j _ _ hlt hi hj with h | h
        · rw [hpre i h]; simp [hlt]
        · exact (h1 h).elim
      · rcases hreg hd j i _ _ hlt hj hi with h | h
        · rw [hpost i h]; simp; omega
        · exact (h2 h).elim
  obtain ⟨hR, hN, hs⟩ := hst.get (m := 0) j e hj
  rw [Nat.zero_add] at hR hs
  have rdS : ∀ k ∈ reads ops e.o, ∀ sv, stS (fun i => decide (i < j)) 0 l S k = some sv → den ρ θ sv = some (get a k) := by
    intro k hk sv hsv
    refine hJ.slot k sv ?_
    rw [← hsv]
    refine stS_agree rfl fun i x hi hd => ?_
    rw [Nat.zero_add]
    by_cases hne : i = j
    · subst hne; rw [hDj]; simp
    · exact dep i x hi hne (fun h => (h.s1 k hd).2 hk) (fun h => h.s2 k hd hk)
  have rdM : ∀ t b, e.R t = some b → stM D 0 l M t = some b := by
    intro t b hb
    rw [← hR t b hb]
    refine stM_agree rfl fun i x hi hd => ?_
    rw [Nat.zero_add]
    by_cases hne : i = j
    · subst hne; rw [hDj]; simp
    · exact dep i x hi hne (fun h => (h.m1 t hd).2 (by unfold TE.rd; rw [hb]; simp)) (fun h => h.m2 t hd (by unfold TE.rd; rw [hb]; simp))
  obtain ⟨g1, g2, g3⟩ := hst.rng j e hj
  obtain ⟨g4, g5⟩ := hst.fin
  have g6 := g5 j e hj
  have hfr : ∀ t, e.n ≤ t → t < e.n' → θ t = none := by
    intro t h1 h2
    cases hb : θ t with
    | none => rfl
    | some u =>
      exfalso
      rcases hJ.fresh t (by rw [hb]; simp) with h | ⟨i, x, hDi, hi, h3, h4⟩
      · exact h (hθ0 t (by omega) (by omega))
      · by_cases hne : i = j
        · subst hne; rw [hDj] at hDi; cases hDi
        · rcases Nat.lt_or_gt_of_ne hne with hlt | hlt
          · have := (hst.rng i x hi).2.2 j e hj hlt; omega
          · have := g3 i x hi hlt; omega
  have post : ∀ v w' θ', SP ρ e.n e.n' θ e.R w θ' e.R' w' → den ρ θ' e.v = some v → ∃ θ', J3 ρ n nx S M l θ0 w0 (fun i => i == j || D i) (a.put e.o.dst v) w' θ' := by
    intro v w' θ' hsp hv
    have memEq : ∀ t, (e.wr t → stM (fun i => i == j || D i) 0 l M t = e.R' t) ∧ (¬ e.wr t → stM (fun i => i == j || D i) 0 l M t = stM D 0 l M t) := by
      intro t
      refine ⟨fun hw => ?_, fun hw => ?_⟩
      · have e1 : stM (fun i => i == j || D i) 0 l M t = stM (fun i => decide (i < j + 1)) 0 l M t := by
          refine stM_agree rfl fun i x hi hd => ?_
          rw [Nat.zero_add]
          by_cases hne : i = j
          · subst hne; simp
          · have hb : (i == j) = false := by simp [hne]
            rw [hb, Bool.false_or, dep i x hi hne (fun h => (h.m1 t hd).1 hw) (fun h => (h.m1 t hw).1 hd)]
            rw [Bool.eq_iff_iff]; simp; try omega
        rw [e1]
        have gen : ∀ (l : List TE) (m j : Nat) (M : Nat → Option Blk), l[j]? = some e → stM (fun i => decide (i < m + j + 1)) m l M t = e.R' t := by
          intro l
          induction l with
          | nil => intro m j M h; simp at h
          | cons x l ih =>
            intro m j M h
            simp only [stM]
            have hm : decide (m < m + j + 1) = true := by simp; omega
            rw [if_pos hm]
            cases j with
            | zero =>
              simp only [List.getElem?_cons_zero, Option.some.injEq] at h
              subst h
              rw [stM_nil fun j _ => by simp]
              exact updM_wr hw
            | succ j =>
              have := ih (m + 1) j (updM M x) (by simpa using h)
              rwa [show m + (j + 1) + 1 = m + 1 + j + 1 by omega]
        have := gen l 0 j M hj
        rwa [Nat.zero_add] at this
      · refine stM_agree rfl fun i x hi hd => ?_
        rw [Nat.zero_add]
        by_cases hne : i = j
        · subst hne; rw [hj] at hi; cases hi; exact absurd hd hw
        · have hb : (i == j) = false := by simp [hne]
          rw [hb, Bool.false_or]
    have hsp' : SP ρ e.n e.n' θ (stM D 0 l M) w θ' (stM (fun i => i == j || D i) 0 l M) w' := by
      refine SP.frame (tc := fun t => e.R t ≠ none ∨ e.R' t ≠ none) hJ.sp.mem (fun t b hb => ⟨.inl (by simp [hb]), rdM t b hb⟩) hsp (fun t ht => ?_) fun t b hb => ?_
      · cases hr : e.R' t with
        | none => rfl
        | some x => exact absurd (.inr (by rw [hr]; simp)) ht
      · by_cases hw : e.wr t
        · rw [(memEq t).1 hw] at hb
          exact .inl ⟨.inr (by rw [hb]; simp), hb⟩
        · rw [(memEq t).2 hw] at hb
          have heq : e.R t = e.R' t := Classical.not_not.1 hw
          cases hr : e.R t with
          | none => exact .inr ⟨by rw [← heq, hr]; simp, hb⟩
          | some x =>
            have := rdM t x hr
            rw [hb] at this; cases this
            exact .inl ⟨.inl (by first | simp | (rw [hr]; simp)), by rw [← heq, hr]⟩
    refine ⟨θ', by rw [defers_put]; exact hJ.defers, by rw [size_put]; exact hJ.size, fun k sv hsv => ?_, hJ.sp.seq (hsp'.wk g1 g6), fun t ht => ?_⟩
    · by_cases hk : e.o.dst = some k
      · have e1 : stS (fun i => i == j || D i) 0 l S k = stS (fun i => decide (i < j + 1)) 0 l S k := by
          refine stS_agree rfl fun i x hi hd => ?_
          rw [Nat.zero_add]
          by_cases hne : i = j
          · subst hne; simp
          · have hb : (i == j) = false := by simp [hne]
            rw [hb, Bool.false_or, dep i x hi hne (fun h => (h.s1 k hd).1 hk) (fun h => (h.s1 k hk).1 hd)]
            rw [Bool.eq_iff_iff]; simp; try omega
        rw [e1] at hsv
        have e2 : stS (fun i => decide (i < j + 1)) 0 l S k = some e.v := by
          have gen : ∀ (l : List TE) (m j : Nat) (S : Nat → Option SV), l[j]? = some e → stS (fun i => decide (i < m + j + 1)) m l S k = some e.v := by
            intro l
            induction l with
            | nil => intro m j S h; simp at h
            | cons x l ih =>
              intro m j S h
              simp only [stS]
              have hm : decide (m < m + j + 1) = true := by simp; omega
              rw [if_pos hm]
              cases j with
              | zero =>
                simp only [List.getElem?_cons_zero, Option.some.injEq] at h
                subst h
                rw [stS_nil fun j _ => by simp]
                simp [updS, hk]
              | succ j =>
                have := ih (m + 1) j (updS S x.o.dst x.v) (by simpa using h)
                rwa [show m + (j + 1) + 1 = m + 1 + j + 1 by omega]
          have := gen l 0 j S hj
          rwa [Nat.zero_add] at this
        rw [e2] at hsv
        cases hsv
        rw [hk, get_put a k k v (by rw [hJ.size]; exact hdst k hk), if_pos rfl]
        exact hv
      · have e1 : stS (fun i => i == j || D i) 0 l S k = stS D 0 l S k := by
          refine stS_agree rfl fun i x hi hd => ?_
          rw [Nat.zero_add]
          by_cases hne : i = j
          · subst hne; rw [hj] at hi; cases hi; exact absurd hd hk
          · have hb : (i == j) = false := by simp [hne]
            rw [hb, Bool.false_or]
        rw [e1] at hsv
        have hg : get (a.put e.o.dst v) k = get a k := by
          cases hd : e.o.dst with
          | none => rfl
          | some d => rw [get_put a d k v (by rw [hJ.size]; exact hdst d hd), if_neg (fun q => hk (by rw [hd, q]))]
        rw [hg]
        exact den_mono hsp.le sv (hJ.slot k sv hsv)
    · rcases hsp.new t ht with h | h
      · rcases hJ.fresh t h with h | ⟨i, x, hDi, r⟩
        · exact .inl h
        · exact .inr ⟨i, x, by simp [hDi], r⟩
      · exact .inr ⟨j, e, by simp, hj, h.1, h.2⟩
  obtain ⟨q1, q2⟩ := hs a w θ hJ.defers hJ.size rdS (hJ.sp.mem.sub rdM) hfr
  constructor
  · intro hw
    refine wp_weaken ?_ (q1 hw)
    rintro a' w' ⟨v, θ', rfl, hp, hd⟩
    exact post v w' θ' hp hd
  · intro hw
    obtain ⟨θ', hp, hd⟩ := q2 hw
    exact post _ _ θ' hp hd
def finS (S : Nat → Option SV) (l : List TE) : Nat → Option SV := stS (fun _ => true) 0 l S
noncomputable def finM (M : Nat → Option Blk) (l : List TE) : Nat → Option Blk := stM (fun _ => true) 0 l M
theorem region_tr {P : Program} {ρ : Rho} {n nx : Nat} {S : Nat → Option SV} {M : Nat → Option Blk} {tr : List TE} {a : Act} {w : World} {θ : Th} {bf : List Nat} {id : Nat} {draw : Bool} {Q : Exit → Act → World → Prop} (hm : P.follows .mixedOrders = true)
    (h1 : a.defers = []) (h2 : a.tmps.size = n) (h3 : ∀ k sv, S k = some sv → den ρ θ sv = some (get a k)) (h4 : MemOk ρ θ M w) (h5 : ∀ t, nx ≤ t → t < finN nx tr → θ t = none)
    (hok : draw = true → (okAft (tr.map (·.o)).toArray && okBf (tr.map (·.o)).toArray bf) = true ∧ ∀ (i j : Nat) (x y : TE), i < j → tr[i]? = some x → tr[j]? = some y → (bf.getD j 0).testBit i = true ∨ Indep (tr.map (·.o)).toArray x y)
    (hdst : ∀ e ∈ tr, ∀ d, e.o.dst = some d → d < n) (hst : Steps3 P ρ (tr.map (·.o)).toArray n nx S M tr)
    (fin : ∀ a' w' θ', a'.defers = [] → a'.tmps.size = n → (∀ k sv, finS S tr k = some sv → den ρ θ' sv = some (get a' k)) → SP ρ nx (finN nx tr) θ M w θ' (finM M tr) w' → Q .normal a' w') : (Code.region id (tr.map (·.o)).toArray draw).wp P Q a w := by
  have f0 : ∀ j, j < tr.length → (fun _ : Nat => false) (0 + j) = false := fun _ _ => rfl
  refine region_inv (bf := bf) (Inv := fun D a' w' => ∃ θ', J3 ρ n nx S M tr θ w D a' w' θ') hm (fun hd => (hok hd).1) (fun w' hw' => ⟨θ, ?_⟩) (fun D j o a' w' hj hn ⟨θ', hJ⟩ => ?_) (fun D a' w' hd ⟨θ', hJ⟩ => ?_) (fun _ D D' a' w' hd ⟨θ', hJ⟩ => ⟨θ', ?_⟩)
  · have hx : Ext none' w w' := by rcases hw' with rfl | rfl; exact Ext.refl _ _; exact (Ext.refl _ _).drew
    refine ⟨h1, h2, ?_, ?_, fun t ht => .inl ht⟩
    · rw [stS_nil f0]; exact h3
    · rw [stM_nil f0]
      exact ⟨ThLe.refl _, fun t ht => .inl ht, ⟨fun t b hb => (h4.holds t b hb).keep (ThLe.refl _) hx fun _ _ _ _ h => h, h4.inj⟩, hx.mono fun _ _ h => h.elim, fun g hg => .inl hg⟩
  · rw [List.getElem?_map] at hj
    cases hx : tr[j]? with
    | none => rw [hx] at hj; cases hj
    | some e =>
      rw [hx] at hj
      simp only [Option.map_some, Option.some.injEq] at hj
      subst hj
      exact hJ.step hst h5 (fun hd => (hok hd).2) hn hx (hdst e (List.mem_of_getElem? hx))
  · have e1 : ∀ k, stS D 0 tr S k = finS S tr k := fun k => stS_agree rfl fun i e hi _ => by
      rw [Nat.zero_add]; exact hd i (by simpa using (List.getElem?_eq_some_iff.1 hi).1)
    have e2 : stM D 0 tr M = finM M tr := funext fun t => stM_agree rfl fun i e hi _ => by
      rw [Nat.zero_add]; exact hd i (by simpa using (List.getElem?_eq_some_iff.1 hi).1)
    exact fin a' w' θ' hJ.defers hJ.size (fun k sv h => hJ.slot k sv (by rw [e1]; exact h)) (by rw [← e2]; exact hJ.sp)
  · have e1 : ∀ k, stS D' 0 tr S k = stS D 0 tr S k := fun k => stS_agree rfl fun i e hi _ => by
      rw [Nat.zero_add]; exact (hd i (by simpa using (List.getElem?_eq_some_iff.1 hi).1)).symm
    have e2 : stM D' 0 tr M = stM D 0 tr M := funext fun t => stM_agree rfl fun i e hi _ => by
      rw [Nat.zero_add]; exact (hd i (by simpa using (List.getElem?_eq_some_iff.1 hi).1)).symm
    refine ⟨hJ.defers, hJ.size, fun k sv h => hJ.slot k sv (by rw [← e1]; exact h), by rw [e2]; exact hJ.sp, fun t ht => ?_⟩
    rcases hJ.fresh t ht with h | ⟨i, e, h1, hi, h2⟩
    · exact .inl h
    · exact .inr ⟨i, e, by rw [← hd i (by simpa using (List.getElem?_eq_some_iff.1 hi).1)]; exact h1, hi, h2⟩
end X
end Go.Proofs.YtebfahobllghnaaGreatDoor
namespace Go.Proofs.YtebfahobllghnaaGreatDoor
namespace X
open Go.RowKit B
def ikEq : IntKind → IntKind → Bool
  | .i8, .i8 | .i16, .i16 | .i32, .i32 | .i64, .i64 | .u8, .u8 | .u16, .u16 | .u32, .u32 | .u64, .u64 => true
  | _, _ => false
def frc (n : Int) (K : Int → Bool) : Bool := match n with
  | .ofNat a => match a with
    | 0 => K (.ofNat 0)
    | b + 1 => K (.ofNat (Nat.succ b))
  | .negSucc a => match a with
    | 0 => K (.negSucc 0)
    | b + 1 => K (.negSucc (Nat.succ b))
def frn (n : Nat) (K : Nat → Bool) : Bool := match n with
  | 0 => K 0
  | b + 1 => K (Nat.succ b)
def leI (p q : Int) : Bool := match p, q with
  | .ofNat a, .ofNat b => Nat.ble a b
  | .ofNat _, .negSucc _ => false
  | .negSucc _, .ofNat _ => true
  | .negSucc a, .negSucc b => Nat.ble b a
def eqI (p q : Int) : Bool := match p, q with
  | .ofNat a, .ofNat b => Nat.beq a b
  | .negSucc a, .negSucc b => Nat.beq a b
  | _, _ => false
def fits (k : IntKind) (n : Int) : Bool := match n with
  | .ofNat a => match k with
    | .i64 => Nat.ble a 9223372036854775807
    | .u64 => Nat.ble a 18446744073709551615
    | .u32 => Nat.ble a 4294967295
    | .u8 => Nat.ble a 255
    | _ => false
  | .negSucc a => match k with
    | .i64 => Nat.ble a 9223372036854775807
    | _ => false
def addT : List (Nat × Int) → List (Nat × Int) → List (Nat × Int)
  | [], m => m
  | (i, a) :: l, m => put1 i a (addT l m)
where
  put1 (i : Nat) (a : Int) : List (Nat × Int) → List (Nat × Int)
    | [] => [(i, a)]
    | (j, b) :: m => match Nat.beq i j with
      | true => match eqI (a + b) 0 with
        | true => m
        | false => (j, a + b) :: m
      | false => match Nat.blt i j with
        | true => (i, a) :: (j, b) :: m
        | false => (j, b) :: put1 i a m
def Lin.add : Lin → Lin → Lin
  | .mk c l, .mk d m => .mk (c + d) (addT l m)
def mulT (k : Int) : List (Nat × Int) → List (Nat × Int)
  | [] => []
  | (i, a) :: l => (i, k * a) :: mulT k l
def Lin.mul (k : Int) : Lin → Lin
  | .mk c l => .mk (k * c) (mulT k l)
def Lin.sub (a b : Lin) : Lin := a.add (b.mul (-1))
def Lin.not (e : Lin) : Lin := (Lin.mk (-1) []).add (e.mul (-1))
abbrev PC := List Lin
def Sat (ρ : Rho) (pc : PC) : Prop := ∀ e ∈ pc, 0 ≤ e.den ρ
def coef (i : Nat) : List (Nat × Int) → Int
  | [] => 0
  | (j, a) :: l => match Nat.beq i j with
    | true => a
    | false => coef i l
def Lin.coef (i : Nat) : Lin → Int
  | .mk _ l => X.coef i l
def comb1 (a : Int) (p : Lin) (i : Nat) : List Lin → List Lin
  | [] => []
  | q :: l => match leI 0 (q.coef i) with
    | true => comb1 a p i l
    | false => ((p.mul (-(q.coef i))).add (q.mul a)) :: comb1 a p i l
def combs (i : Nat) (all : List Lin) : List Lin → List Lin
  | [] => []
  | p :: l => match leI (p.coef i) 0 with
    | true => combs i all l
    | false => comb1 (p.coef i) p i all ++ combs i all l
def without (i : Nat) : List Lin → List Lin
  | [] => []
  | p :: l => match eqI (p.coef i) 0 with
    | true => p :: without i l
    | false => without i l
def pickV : List Lin → Option Nat
  | [] => none
  | .mk _ [] :: l => pickV l
  | .mk _ ((i, _) :: _) :: _ => some i
def absurdL : List Lin → Bool
  | [] => false
  | .mk c [] :: l => match leI 0 c with
    | true => absurdL l
    | false => true
  | _ :: l => absurdL l
def fm : Nat → List Lin → Bool
  | 0, l => absurdL l
  | f + 1, l => match absurdL l with
    | true => true
    | false => match pickV l with
      | none => false
      | some i => fm f (combs i l l ++ without i l)
def quickT : List (Nat × Int) → Bool
  | [] => true
  | (i, a) :: l => match Nat.beq (Nat.mod i 4) 1 && leI 0 a with
    | true => quickT l
    | false => false
def quick : Lin → Bool
  | .mk c l => leI 0 c && quickT l
def badN : List (Nat × Int) → Option (Nat × Int)
  | [] => none
  | (i, a) :: l => match Nat.beq (Nat.mod i 4) 1 with
    | true => badN l
    | false => some (i, a)
def badT : List (Nat × Int) → Option (Nat × Int)
  | [] => none
  | (i, a) :: l => match Nat.beq (Nat.mod i 4) 1 && leI 0 a with
    | true => badT l
    | false => some (i, a)
def badV : Lin → Option (Nat × Int)
  | .mk _ l => match badN l with
    | some x => some x
    | none => badT l
def fitF (i : Nat) : Lin → Bool
  | .mk _ l => match Nat.beq (Nat.mod i 4) 1 with
    | true => (match badN l with
      | some _ => false
      | none => true)
    | false => true
def timesI (a b : Int) : Nat := match a, b with
  | .ofNat (m + 1), .ofNat n => Nat.div n (Nat.succ m)
  | .negSucc m, .negSucc n => Nat.div (Nat.succ n) (Nat.succ m)
  | _, _ => 0
def gpAny (p : Lin → Bool) (i : Nat) (a : Int) (e : Lin) : PC → Bool
  | [] => false
  | f :: l => match (match timesI (f.coef i) a with
    | 0 => false
    | k + 1 => match fitF i f with
      | true => p (e.sub (f.mul (.ofNat (Nat.succ k))))
      | false => false) with
    | true => true
    | false => gpAny p i a e l
def gpCon (p : Lin → Bool) (e : Lin) : PC → Bool
  | [] => false
  | f :: l => match (match badV (e.sub f) with
    | none => p (e.sub f)
    | some _ => false) with
    | true => true
    | false => gpCon p e l
def oneF (i : Nat) (a : Int) : PC → Option (Lin × Nat)
  | [] => none
  | .mk c [(j, b)] :: l => match Nat.beq i j with
    | true => (match timesI b a with
      | 0 => oneF i a l
      | k + 1 => some (.mk c [(j, b)], Nat.succ k))
    | false => oneF i a l
  | _ :: l => oneF i a l
def lowT (pc : PC) : List (Nat × Int) → Lin → Lin
  | [], e => e
  | (i, a) :: l, e => match oneF i a pc with
    | some (f, k) => lowT pc l (e.sub (f.mul (.ofNat k)))
    | none => lowT pc l e
def lowB (pc : PC) (e : Lin) : Bool := match e with
  | .mk c l => quick (lowT pc l (.mk c l))
def gp (pc : PC) : Nat → Lin → Bool
  | 0, e => quick e
  | d + 1, e => match quick e with
    | true => true
    | false => match badV e with
      | some (i, a) => gpAny (gp pc d) i a e pc
      | none => match e with
        | .mk _ [] => gpCon (fun x => match quick x with
          | true => true
          | false => gpCon quick x pc) e pc
        | e => match lowB pc e with
          | true => true
          | false => gpCon quick e pc
def gpNeg (p : Lin → Bool) (e : Lin) : PC → Bool
  | [] => false
  | f :: l => match (match f with
    | .mk (.negSucc _) (_ :: _) => p (e.sub f)
    | _ => false) with
    | true => true
    | false => gpNeg p e l
def gpN (pc : PC) (e : Lin) : Bool := match e with
  | .mk (.negSucc _) (_ :: _) => (match badV e with
    | none => gpNeg (gp pc 2) e pc
    | some _ => false)
  | _ => false
def few : Nat → PC → Bool
  | _, [] => true
  | 0, _ :: _ => false
  | n + 1, _ :: l => few n l
def proves2 (pc : PC) (e : Lin) : Bool := match gp pc 4 e with
  | true => true
  | false => match gpN pc e with
    | true => true
    | false => match few 18 pc with
      | true => fm 8 (e.not :: pc)
      | false => false
def oneP (e : Lin) : PC → Bool
  | [] => false
  | f :: l => match quick (e.sub f) with
    | true => true
    | false => oneP e l
def cheap (pc : PC) (e : Lin) : Bool := match oneP e pc with
  | true => true
  | false => lowB pc e
def proves (pc : PC) (e : Lin) : Bool := match cheap pc e with
  | true => true
  | false => proves2 pc e
def dec2 (pc : PC) (e : Lin) (K : Bool → PC → Bool) : Bool := match e with
  | .mk c [] => K (leI 0 c) pc
  | e => match cheap pc e with
    | true => K true pc
    | false => match cheap pc e.not with
      | true => K false pc
      | false => match proves2 pc e with
        | true => K true pc
        | false => match proves2 pc e.not with
          | true => K false pc
          | false => K true (e :: pc) && K false (e.not :: pc)
def svx (k : IntKind) (e : Lin) : SV := match e with
  | .mk c [] => .i k c
  | e => .x k e
def lenS : Str → Lin
  | [] => .mk 0 []
  | .c _ :: l => (Lin.mk 1 []).add (lenS l)
  | .a i :: l => (Lin.mk 0 [(4 * i + 1, 1)]).add (lenS l)
def lenN : Str → Nat → Option Nat
  | [], n => some n
  | .c _ :: l, n => lenN l (Nat.succ n)
  | .a _ :: _, _ => none
def eqP : Pc → Pc → Bool
  | .c a, .c b => Nat.beq a b
  | .a i, .a j => Nat.beq i j
  | _, _ => false
def eqStr : Str → Str → Bool
  | [], [] => true
  | a :: l, b :: m => match eqP a b with
    | true => eqStr l m
    | false => false
  | _, _ => false
def knownS : Str → Bool
  | [] => true
  | .c n :: l => match Nat.ble n 255 with
    | true => knownS l
    | false => false
  | .a _ :: _ => false
def stripS : Str → Str → (Str → Str → Bool) → Bool
  | a :: l, b :: m, K => match eqP a b with
    | true => stripS l m K
    | false => K (a :: l) (b :: m)
  | l, m, K => K l m
def notB (pc : PC) (i n : Nat) : Bool := Nat.blt i 16 && Nat.ble n 255 && proves pc (.mk 0 [(Nat.add (Nat.mul 8 (Nat.add i (Nat.mul 16 n))) 7, -1)])
def eqS2 (pc : PC) (a b : Str) (K : Bool → Bool) : Bool := stripS a b fun l m => match l, m with
  | .a i :: t, .c n :: u => match eqStr t u && notB pc i n with
    | true => K false
    | false => false
  | .c n :: t, .a i :: u => match eqStr t u && notB pc i n with
    | true => K false
    | false => false
  | _, _ => false
def eqS (pc : PC) (a b : Str) (K : Bool → Bool) : Bool := match eqStr a b with
  | true => K true
  | false => match knownS a && knownS b with
    | true => K false
    | false => match proves pc ((lenS a).sub (lenS b)).not with
      | true => K false
      | false => match proves pc ((lenS b).sub (lenS a)).not with
        | true => K false
        | false => eqS2 pc a b K
def stripP : Str → Str → Str × Str
  | a :: l, b :: m => match eqP a b with
    | true => stripP l m
    | false => (a :: l, b :: m)
  | l, m => (l, m)
def oneB (a b : Str) : Option (Lin × Nat) := match knownS a && knownS b with
  | true => none
  | false => match stripP a b with
    | (.a i :: t, .c n :: u) => match eqStr t u && Nat.blt i 16 && Nat.ble n 255 with
      | true => some (.mk (-1) [(Nat.add (Nat.mul 8 (Nat.add i (Nat.mul 16 n))) 7, 1)], i)
      | false => none
    | (.c n :: u, .a i :: t) => match eqStr t u && Nat.blt i 16 && Nat.ble n 255 with
      | true => some (.mk (-1) [(Nat.add (Nat.mul 8 (Nat.add i (Nat.mul 16 n))) 7, 1)], i)
      | false => none
    | _ => none
def eqLen (i : Nat) : PC := [.mk (-1) [(4 * i + 1, 1)], .mk 1 [(4 * i + 1, -1)]]
def twoA (a b : Str) : Option (Lin × PC) := match stripP a b with
  | (.a i :: t, .a k :: u) => match eqStr t u && Nat.blt i 16 with
    | true => some (.mk (-1) [(Nat.add (Nat.mul 8 (Nat.add i (Nat.mul 16 (Nat.add 256 k)))) 7, 1)], [(lenS [.a i]).sub (lenS [.a k]), (lenS [.a k]).sub (lenS [.a i])])
    | false => none
  | _ => none
def twoB (a b : Str) : Option (Lin × PC) := match eqStr a b with
  | true => none
  | false => twoA a b
def dec3 (pc : PC) (e : Lin) (f : PC) (K : Bool → PC → Bool) : Bool := match proves pc e with
  | true => K true (f ++ pc)
  | false => match proves pc e.not with
    | true => K false pc
    | false => K true (e :: (f ++ pc)) && K false (e.not :: pc)
def eqSK (pc : PC) (a b : Str) (K : Bool → PC → Bool) : Bool := match b with
  | [] => (match lenN a 0 with
    | some _ => eqS pc a [] fun r => K r pc
    | none => dec2 pc ((lenS a).mul (-1)) K)
  | y :: m => (match a with
    | [] => (match lenN (y :: m) 0 with
      | some _ => eqS pc [] (y :: m) fun r => K r pc
      | none => dec2 pc ((lenS (y :: m)).mul (-1)) K)
    | x :: l => match oneB (x :: l) (y :: m) with
      | some (e, i) => dec3 pc e (eqLen i) K
      | none => match twoB (x :: l) (y :: m) with
        | some (e, f) => dec3 pc e f K
        | none => eqS pc (x :: l) (y :: m) fun r => K r pc)
def ltStr : Str → Str → Bool
  | _, [] => false
  | [], _ :: _ => true
  | .c a :: l, .c b :: m => match Nat.blt a b with
    | true => true
    | false => match Nat.beq a b with
      | true => ltStr l m
      | false => false
  | _, _ => false
def cutN : Str → Nat → (Str → Str → Bool) → Bool
  | l, 0, K => K [] l
  | .c a :: l, n + 1, K => cutN l n fun x y => K (.c a :: x) y
  | _, _ + 1, _ => false
def zeroL (pc : PC) (e : Lin) : Bool := match e with
  | .mk c [] => eqI c 0
  | e => proves pc (e.mul (-1)) && proves pc e
def cutL (pc : PC) : Str → Lin → (Str → Str → Bool) → Bool
  | [], e, K => match zeroL pc e with
    | true => K [] []
    | false => false
  | .c a :: l, e, K => match zeroL pc e with
    | true => K [] (.c a :: l)
    | false => cutL pc l ((Lin.mk (-1) []).add e) fun x y => K (.c a :: x) y
  | .a i :: l, e, K => match zeroL pc e with
    | true => K [] (.a i :: l)
    | false => cutL pc l (e.add (.mk 0 [(4 * i + 1, -1)])) fun x y => K (.a i :: x) y
def zero0 : Lin → Bool
  | .mk c [] => eqI c 0
  | _ => false
def cutE : Str → Lin → Option (Str × Str)
  | [], e => match zero0 e with
    | true => some ([], [])
    | false => none
  | .c a :: l, e => match zero0 e with
    | true => some ([], .c a :: l)
    | false => match cutE l ((Lin.mk (-1) []).add e) with
      | some (x, y) => some (.c a :: x, y)
      | none => none
  | .a i :: l, e => match zero0 e with
    | true => some ([], .a i :: l)
    | false => match cutE l (e.add (.mk 0 [(4 * i + 1, -1)])) with
      | some (x, y) => some (.a i :: x, y)
      | none => none
def cutM (pc : PC) (l : Str) (e : Lin) (K : Str → Str → Bool) : Bool := match cutE l e with
  | some (x, y) => K x y
  | none => cutL pc l e K
def nthS : Str → Nat → (Nat → Bool) → Bool
  | .c a :: _, 0, K => match Nat.ble a 255 with
    | true => K a
    | false => false
  | .c _ :: l, n + 1, K => nthS l n K
  | _, _, _ => false
def appS : Str → Str → (Str → Bool) → Bool
  | [], m, K => K m
  | a :: l, m, K => appS l m fun r => K (a :: r)
def nthC : List SV → Nat → (SV → Bool) → Bool
  | [], _, _ => false
  | a :: _, 0, K => K a
  | _ :: l, i + 1, K => nthC l i K
def takeC : List SV → Nat → (List SV → Bool) → Bool
  | _, 0, K => K []
  | [], _ + 1, _ => false
  | a :: l, n + 1, K => takeC l n fun r => K (a :: r)
def dropC : List SV → Nat → (List SV → Bool) → Bool
  | l, 0, K => K l
  | [], _ + 1, _ => false
  | _ :: l, n + 1, K => dropC l n K
def segC (l : List SV) (o n : Nat) (K : List SV → Bool) : Bool := dropC l o fun l => takeC l n K
def ovrC : List SV → List SV → (List SV → Bool) → Bool
  | l, [], K => K l
  | [], _ :: _, _ => false
  | _ :: l, v :: vs, K => ovrC l vs fun r => K (v :: r)
def setC : List SV → Nat → List SV → (List SV → Bool) → Bool
  | l, 0, vs, K => ovrC l vs K
  | [], _ + 1, _, _ => false
  | a :: l, o + 1, vs, K => setC l o vs fun r => K (a :: r)
def appC : List SV → List SV → (List SV → Bool) → Bool
  | [], m, K => K m
  | a :: l, m, K => appC l m fun r => K (a :: r)
def lenC : List SV → Nat → Nat
  | [], n => n
  | _ :: l, n => lenC l (Nat.succ n)
def cellsV : SV → List SV
  | .ag l => l
  | v => [v]
def oneV : SV → Bool
  | .ag _ | .tu _ | .un => false
  | _ => true
def allOne : List SV → Bool
  | [] => true
  | v :: l => match oneV v with
    | true => allOne l
    | false => false
def strC : List UInt8 → (Str → Bool) → Bool
  | [], K => K []
  | b :: l, K => frn b.toNat fun n => strC l fun r => K (.c n :: r)
def cst : Value → Option SV
  | .int k n => some (.i k n)
  | .bool b => some (.b b)
  | .string s => some (.s (s.data.toList.map fun b => .c b.toNat))
  | .pointer none => some .np
  | .slice none 0 0 => some .ns
  | .nilFunc => some .nf
  | .nilIface => some .ni
  | .map none => some .nm
  | _ => none
def cstL : List Value → Option (List SV)
  | [] => some []
  | v :: l => match cst v with
    | none => none
    | some a => match cstL l with
      | none => none
      | some r => some (a :: r)
def cstK (v : Value) (K : SV → Bool) : Bool := match v with
  | .int k n => K (.i k n)
  | .bool b => match b with
    | true => K (.b true)
    | false => K (.b false)
  | .string s => strC s.data.toList fun l => K (.s l)
  | .pointer none => K .np
  | .slice none 0 0 => K .ns
  | .nilFunc => K .nf
  | .nilIface => K .ni
  | .map none => K .nm
  | .agg cs => match cstL cs.toList with
    | some l => K (.ag l)
    | none => false
  | _ => false
def evO (s : Tr SV) (x : Operand) (K : SV → Bool) : Bool := match x with
  | .tmp t => match s.get t with
    | some v => K v
    | none => false
  | .const v => cstK v K
  | .func f => K (.fn f [] [])
  | .global g => K (.g g 0)
def evL (s : Tr SV) : List Operand → (List SV → Bool) → Bool
  | [], K => K []
  | x :: l, K => evO s x fun v => evL s l fun vs => K (v :: vs)
inductive TK where
  | int (k : IntKind)
  | bool
  | str
  | slice (e : Nat)
  | ptr (e : Nat)
  | struct (fs : List (Nat × Nat))
  | arr (n e : Nat)
  | map (k v : Nat)
  | fn
  | upt
  | other
structure Ty where
  sz : Nat
  agg : Bool
  by' : Nat
  kind : TK
  zero : List SV
def tkOf : TypeDesc → TK
  | .int k => .int k
  | .bool => .bool
  | .string => .str
  | .slice e => .slice e
  | .pointer e => .ptr e
  | .struct fs => .struct (fs.toList.map fun f => (f.offset, f.type))
  | .array n e => .arr n e
  | .map k v => .map k v
  | .func .. => .fn
  | .unsafePointer => .upt
  | _ => .other
def isAggD : TypeDesc → Bool
  | .struct _ | .array _ _ => true
  | _ => false
def isAggV : Value → Bool
  | .agg _ => true
  | _ => false
def mkTy (P : Program) (t : Nat) : Option Ty := match P.info? t with
  | none => none
  | some i => match P.underlying t with
    | none => none
    | some d => match i.zero with
      | none => none
      | some z => match cstL z.cells.toList with
        | none => none
        | some zs => match Nat.beq z.cells.size i.size && (isAggV z == isAggD d) with
          | true => some ⟨i.size, isAggD d, i.bytes, tkOf d, zs⟩
          | false => none
end X
end Go.Proofs.YtebfahobllghnaaGreatDoor
