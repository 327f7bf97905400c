/-
  TopEdits: VZ, VZ2, VY, VL2, VL3, VL4, VL6, VL7, VLv.
-/
import Derived.Test.YtebfahobllghnaaGreatDoorEdA8
set_option linter.unusedSimpArgs false
set_option linter.unusedVariables false
namespace Go.Proofs.YtebfahobllghnaaGreatDoor
namespace X
open Go.RowKit B
variable {fa : Bool}
def memP (e : Lin) : PC → Bool
  | [] => false
  | x :: l => match eqLin e x with
    | true => true
    | false => memP e l
def allP (pc : PC) : PC → Bool
  | [] => true
  | e :: l => (memP e pc || proves pc e) && allP pc l
structure Rules where
  s : List (PC × Str × Str)
  l : List (PC × Lin × Lin)
structure RulesOk (ρ : Rho) (rs : Rules) : Prop where
  s : ∀ g x y, (g, x, y) ∈ rs.s → Sat ρ g → denS ρ x = denS ρ y
  l : ∀ g x y, (g, x, y) ∈ rs.l → Sat ρ g → x.den ρ = y.den ρ
def ruleS : List (PC × Str × Str) → PC → Str → Str → Bool
  | [], _, _, _ => false
  | (g, x, y) :: l, pc, a, b => match eqStr a x && eqStr b y && allP pc g with
    | true => true
    | false => ruleS l pc a b
def sameS (rs : Rules) (pc : PC) (a b : Str) : Bool := match eqStr a b with
  | true => true
  | false => ruleS rs.s pc a b
abbrev Al := List (Nat × Nat)
def findT : Al → Nat → Option Nat
  | [], _ => none
  | (t, u) :: l, s => match Nat.beq t s with
    | true => some u
    | false => findT l s
def tagOk (al : Al) (lo t u : Nat) : Bool := match Nat.blt t lo with
  | true => Nat.beq t u
  | false => match findT al t with
    | some x => Nat.beq x u
    | none => false
def ruleL : List (PC × Lin × Lin) → PC → Lin → Lin → Bool
  | [], _, _, _ => false
  | (g, x, y) :: l, pc, a, b => match eqLin a x && eqLin b y && allP pc g with
    | true => true
    | false => ruleL l pc a b
def sameL (rs : Rules) (pc : PC) (a b : Lin) : Bool := match eqLin a b with
  | true => true
  | false => match ruleL rs.l pc a b with
    | true => true
    | false => proves pc (a.sub b) && proves pc (b.sub a)
mutual
def sameV (al : Al) (lo : Nat) (rs : Rules) (pc : PC) : SV → SV → Bool
  | .i k p, .i j q => ikEq k j && eqI p q
  | .x k e, .x j e' => ikEq k j && sameL rs pc e e'
  | .x k e, .i j n => ikEq k j && sameL rs pc e (.mk n [])
  | .i k n, .x j e => ikEq k j && sameL rs pc (.mk n []) e
  | .b a, .b b => a == b
  | .s a, .s b => sameS rs pc a b
  | .p t i, .p u j => tagOk al lo t u && Nat.beq i j
  | .np, .np => true
  | .sl t o n c, .sl t' o' n' c' => tagOk al lo t t' && Nat.beq o o' && Nat.beq n n' && capEq c c'
  | .sb t l, .sb t' l' => tagOk al lo t t' && sameS rs pc l l'
  | .ns, .ns => true
  | .ag l, .ag m => sameVs al lo rs pc l m
  | .tu l, .tu m => sameVs al lo rs pc l m
  | .fn f a b, .fn g c d => Nat.beq f g && sameVs al lo rs pc a c && sameVs al lo rs pc b d
  | .nf, .nf => true
  | .ni, .ni => true
  | .nm, .nm => true
  | .mp t, .mp u => tagOk al lo t u
  | .su t, .su u => tagOk al lo t u
  | .g a b, .g c d => Nat.beq a c && Nat.beq b d
  | .un, .un => true
  | .sv t e, .sv u k => tagOk al lo t u && sameL rs pc e k
  | .sx t n, .sx u k => tagOk al lo t u && Nat.beq n k
  | .tp t e, .tp u k => tagOk al lo t u && sameL rs pc e k
  | _, _ => false
def sameVs (al : Al) (lo : Nat) (rs : Rules) (pc : PC) : List SV → List SV → Bool
  | [], [] => true
  | a :: l, b :: m => sameV al lo rs pc a b && sameVs al lo rs pc l m
  | _, _ => false
end
def sameEs (al : Al) (lo : Nat) (rs : Rules) (pc : PC) : List (SV × SV × Nat) → List (SV × SV × Nat) → Bool
  | [], [] => true
  | (a, b, n) :: l, (c, d, k) :: m => sameV al lo rs pc a c && sameV al lo rs pc b d && Nat.beq n k && sameEs al lo rs pc l m
  | _, _ => false
def sameB (al : Al) (lo : Nat) (rs : Rules) (pc : PC) : Blk → Blk → Bool
  | .ce t a x, .ce u b y => Nat.beq t u && sameVs al lo rs pc a b && (x == y)
  | .bt t a, .bt u b => Nat.beq t u && sameS rs pc a b
  | .mp a c, .mp b d => sameEs al lo rs pc a b && Nat.beq c d
  | .ob t a, .ob u b => Nat.beq t u && sameS rs pc a b
  | .cv a, .cv b => sameVs al lo rs pc a b
  | .cq n b, .cq k d => Nat.beq n k && Nat.beq b d
  | .cx t n b, .cx u k d => Nat.beq t u && Nat.beq n k && Nat.beq b d
  | .hb k a b, .hb j c d => eqNs k j && sameS rs pc a c && sameS rs pc b d
  | _, _ => false
abbrev ML := List (Nat × Blk)
def allL (p : Nat → Blk → Bool) : ML → Bool
  | [] => true
  | (t, b) :: l => p t b && allL p l
def mkK : ML → Mem → (Mem → Bool) → Bool
  | [], m, K => K m
  | (t, b) :: l, m, K => m.set t (some b) fun m => mkK l m K
def mkU : ML → Mem → Mem
  | [], m => m
  | (t, b) :: l, m => mkU l (Tr.up 23 m t (some b))
theorem allL_ok {p : Nat → Blk → Bool} : ∀ {l : ML}, allL p l = true → ∀ t b, (t, b) ∈ l → p t b = true
  | [], _, t, b, h => by cases h
  | (s, c) :: l, hp, t, b, h => by
    simp only [allL, Bool.and_eq_true] at hp
    rcases List.mem_cons.1 h with h | h
    · cases h; exact hp.1
    · exact allL_ok hp.2 t b h
theorem mkK_ok : ∀ {l : ML} {m : Mem} {K : Mem → Bool}, mkK l m K = true → K (mkU l m) = true ∧ ∀ t b, (mkU l m).get t = some b → (t, b) ∈ l ∨ m.get t = some b
  | [], m, K, h => ⟨h, fun t b e => .inr e⟩
  | (s, c) :: l, m, K, h => by
    simp only [mkK, Tr.set] at h
    split at h
    · rename_i hk
      have hk' : s < 2 ^ 22 := by have := Nat.le_of_ble_eq_true hk; omega
      rw [Tr.put_eq (f := 22) hk'] at h
      obtain ⟨h1, h2⟩ := mkK_ok (l := l) h
      refine ⟨h1, fun t b e => ?_⟩
      rcases h2 t b e with k | k
      · exact .inl (List.mem_cons_of_mem _ k)
      · rw [Tr.up_get hk'] at k
        split at k
        · rename_i e; subst e; cases k; exact .inl (by simp)
        · exact .inr k
    · cases h
def Told (l : ML) (m : Mem) : Prop := ∀ t b, m.get t = some b → (t, b) ∈ l
theorem mkK_told {l : ML} {K : Mem → Bool} (h : mkK l .lf K = true) : K (mkU l .lf) = true ∧ Told l (mkU l .lf) := by
  obtain ⟨h1, h2⟩ := mkK_ok h
  refine ⟨h1, fun t b e => ?_⟩
  rcases h2 t b e with k | k
  · exact k
  · simp [Tr.get] at k
def subML (al : Al) (lo : Nat) (rs : Rules) (pc : PC) (l : ML) (m : Mem) : Bool := allL (fun t b => match m.get t with
  | some b' => sameB al lo rs pc b b'
  | none => false) l
section
variable {ρ : Rho} {rs : Rules} {pc : PC} {θ θ1 : Th} {al : Al} {lo : Nat}
theorem memP_ok {e : Lin} : ∀ {l : PC}, memP e l = true → e ∈ l
  | [], h => by cases h
  | x :: l, h => by
    simp only [memP] at h
    split at h
    · rename_i hq; rw [eqLin_ok hq]; simp
    · exact List.mem_cons_of_mem _ (memP_ok h)
theorem allP_ok (hs : Sat ρ pc) : ∀ {l : PC}, allP pc l = true → Sat ρ l
  | [], _, e, he => by cases he
  | x :: l, h, e, he => by
    simp only [allP, Bool.and_eq_true, Bool.or_eq_true] at h
    rcases List.mem_cons.1 he with rfl | he
    · rcases h.1 with h1 | h1
      · exact hs _ (memP_ok h1)
      · exact proves_ok h1 hs
    · exact allP_ok hs h.2 e he
theorem ruleS_ok (hs : Sat ρ pc) {rs : List (PC × Str × Str)} (hr : ∀ g x y, (g, x, y) ∈ rs → Sat ρ g → denS ρ x = denS ρ y) {a b : Str} (h : ruleS rs pc a b = true) : denS ρ a = denS ρ b := by
  induction rs with
  | nil => cases h
  | cons r l ih =>
    obtain ⟨g, x, y⟩ := r
    simp only [ruleS] at h
    split at h
    · rename_i hc
      simp only [Bool.and_eq_true] at hc
      rw [eqStr_ok hc.1.1, eqStr_ok hc.1.2]
      exact hr g x y (by simp) (allP_ok hs hc.2)
    · exact ih (fun g x y hr' => hr g x y (by simp [hr'])) h
theorem sameS_ok (hs : Sat ρ pc) (hr : RulesOk ρ rs) {a b : Str} (h : sameS rs pc a b = true) : denS ρ a = denS ρ b := by
  unfold sameS at h
  split at h
  · rename_i hc; rw [eqStr_ok hc]
  · exact ruleS_ok hs hr.s h
theorem ruleL_ok (hs : Sat ρ pc) {rs : List (PC × Lin × Lin)} (hr : ∀ g x y, (g, x, y) ∈ rs → Sat ρ g → x.den ρ = y.den ρ) {a b : Lin} (h : ruleL rs pc a b = true) : a.den ρ = b.den ρ := by
  induction rs with
  | nil => cases h
  | cons r l ih =>
    obtain ⟨g, x, y⟩ := r
    simp only [ruleL] at h
    split at h
    · rename_i hc
      simp only [Bool.and_eq_true] at hc
      rw [eqLin_ok hc.1.1, eqLin_ok hc.1.2]
      exact hr g x y (by simp) (allP_ok hs hc.2)
    · exact ih (fun g x y hr' => hr g x y (by simp [hr'])) h
theorem sameL_ok (hs : Sat ρ pc) (hr : RulesOk ρ rs) {a b : Lin} (h : sameL rs pc a b = true) : a.den ρ = b.den ρ := by
  unfold sameL at h
  split at h
  · rename_i hc; rw [eqLin_ok hc]
  · split at h
    · rename_i hc; exact ruleL_ok hs hr.l hc
    · simp only [Bool.and_eq_true] at h
      have h1 := proves_ok h.1 hs
      have h2 := proves_ok h.2 hs
      rw [sub_den] at h1 h2
      omega
def TagsOk (al : Al) (lo : Nat) (θ1 θ : Th) : Prop := ∀ t u, tagOk al lo t u = true → θ1 t = θ u
mutual
theorem sameV_ok (hs : Sat ρ pc) (hr : RulesOk ρ rs) (hθ : TagsOk al lo θ1 θ) : ∀ {v v' : SV}, sameV al lo rs pc v v' = true → den ρ θ1 v = den ρ θ v'
  | v, v', h => by
    cases v <;> cases v' <;> first
      | (simp only [sameV] at h; done)
      | (simp [sameV] at h; done)
      | rfl
      | skip
    all_goals simp only [sameV, Bool.and_eq_true, Nat.beq_eq, eqI_iff, ikEq_iff, beq_iff_eq] at h
    · obtain ⟨rfl, rfl⟩ := h; rfl
    · obtain ⟨rfl, h⟩ := h
      have := sameL_ok hs hr h
      rw [const_den] at this
      simp only [den, this]
    · obtain ⟨rfl, h⟩ := h
      have := sameL_ok hs hr h
      rw [const_den] at this
      simp only [den, this]
    · obtain ⟨rfl, h⟩ := h
      simp only [den, sameL_ok hs hr h]
    · subst h; rfl
    · simp only [den, sameS_ok hs hr h]
    · obtain ⟨h, rfl⟩ := h
      simp only [den, hθ _ _ h]
    · obtain ⟨⟨⟨h1, rfl⟩, rfl⟩, h⟩ := h
      have := capEq_ok h
      subst this
      simp only [den, hθ _ _ h1]
    · obtain ⟨h1, h⟩ := h
      simp only [den, sameS_ok hs hr h, hθ _ _ h1]
    · simp only [den, hθ _ _ h]
    · simp only [den, sameVs_ok hs hr hθ h]
    · simp only [den, sameVs_ok hs hr hθ h]
    · obtain ⟨⟨rfl, h1⟩, h2⟩ := h
      simp only [den, sameVs_ok hs hr hθ h1, sameVs_ok hs hr hθ h2]
    · simp only [den, hθ _ _ h]
    · obtain ⟨rfl, rfl⟩ := h; rfl
    · simp only [den, hθ _ _ h.1, sameL_ok hs hr h.2]
    · simp only [den, hθ _ _ h.1, h.2]
    · simp only [den, hθ _ _ h.1, sameL_ok hs hr h.2]
theorem sameVs_ok (hs : Sat ρ pc) (hr : RulesOk ρ rs) (hθ : TagsOk al lo θ1 θ) : ∀ {l l' : List SV}, sameVs al lo rs pc l l' = true → dens ρ θ1 l = dens ρ θ l'
  | [], [], _ => rfl
  | a :: l, b :: m, h => by
    simp only [sameVs, Bool.and_eq_true] at h
    simp only [dens, sameV_ok hs hr hθ h.1, sameVs_ok hs hr hθ h.2]
  | [], _ :: _, h => by cases h
  | _ :: _, [], h => by cases h
end
theorem sameEs_ok (hs : Sat ρ pc) (hr : RulesOk ρ rs) (hθ : TagsOk al lo θ1 θ) : ∀ {l l' : List (SV × SV × Nat)}, sameEs al lo rs pc l l' = true → denE ρ θ1 l = denE ρ θ l'
  | [], [], _ => rfl
  | (a, b, n) :: l, (c, d, k) :: m, h => by
    simp only [sameEs, Bool.and_eq_true, Nat.beq_eq] at h
    obtain ⟨⟨⟨h1, h2⟩, rfl⟩, h3⟩ := h
    simp only [denE, sameV_ok hs hr hθ h1, sameV_ok hs hr hθ h2, sameEs_ok hs hr hθ h3]
  | [], _ :: _, h => by cases h
  | _ :: _, [], h => by cases h
theorem sameB_ok (hs : Sat ρ pc) (hr : RulesOk ρ rs) (hθ : TagsOk al lo θ1 θ) {t u : Nat} (ht : θ1 t = θ u) {w : World} {b b' : Blk} (h : sameB al lo rs pc b b' = true) (hb : HoldsB ρ θ w u b') : HoldsB ρ θ1 w t b := by
  cases b <;> cases b' <;> first | (simp [sameB] at h; done) | skip
  all_goals simp only [sameB, Bool.and_eq_true, Nat.beq_eq, beq_iff_eq] at h
  · obtain ⟨⟨rfl, h1⟩, rfl⟩ := h
    obtain ⟨g, c, vs, arr, rest, f1, f2, f3, f4, f5, f6, f7⟩ := hb
    exact ⟨g, c, vs, arr, rest, ht.trans f1, f2, f3, (sameVs_ok hs hr hθ h1).trans f4, f5, f6, f7⟩
  · obtain ⟨rfl, h1⟩ := h
    obtain ⟨g, c, arr, rest, f1, f2, f3, f4⟩ := hb
    exact ⟨g, c, arr, rest, ht.trans f1, f2, f3, by rw [sameS_ok hs hr h1]; exact f4⟩
  · obtain ⟨h1, rfl⟩ := h
    obtain ⟨g, c, arr, f1, f2, f3⟩ := hb
    exact ⟨g, c, arr, ht.trans f1, f2, (sameEs_ok hs hr hθ h1).trans f3⟩
  · obtain ⟨rfl, h1⟩ := h
    obtain ⟨g, c, arr, rest, ss, f1, f2, f3, f4⟩ := hb
    exact ⟨g, c, arr, rest, ss, ht.trans f1, f2, f3, by rw [sameS_ok hs hr h1]; exact f4⟩
  · obtain ⟨g, c, vs, f1, f2, f3, f4⟩ := hb
    exact ⟨g, c, vs, ht.trans f1, f2, (sameVs_ok hs hr hθ h).trans f3, f4⟩
  · obtain ⟨rfl, rfl⟩ := h
    obtain ⟨g, c, f1, f2, f3⟩ := hb
    exact ⟨g, c, ht.trans f1, f2, f3⟩
  · obtain ⟨⟨rfl, rfl⟩, rfl⟩ := h
    obtain ⟨g, c, arr, rest, f1, f2⟩ := hb
    exact ⟨g, c, arr, rest, ht.trans f1, f2⟩
  · obtain ⟨⟨h1, h2⟩, h3⟩ := h
    obtain ⟨x, f1, f2⟩ := hb
    exact ⟨x, ht.trans f1, by rw [eqNs_ok h1, sameS_ok hs hr h2, sameS_ok hs hr h3]; exact f2⟩
theorem sameB_kind {b b' : Blk} (h : sameB al lo rs pc b b' = true) : isHb b = isHb b' := by
  cases b <;> cases b' <;> first | rfl | (simp [sameB] at h)
theorem own_same {M M' : Nat → Option Blk} {θ θ1 : Th} {t u g : Nat} (h : ∀ b, M t = some b → ∃ b', M' u = some b' ∧ isHb b = isHb b') (hθ : θ t = θ1 u) (ho : Own fa θ M t g) : Own fa θ1 M' u g := by
  obtain ⟨x, e, f⟩ := ho
  cases hb : M t with
  | none => exact absurd hb f.ne
  | some b =>
    obtain ⟨b', e', k⟩ := h b hb
    rw [hb] at f
    exact ⟨x, hθ.symm.trans e, by rw [e']; exact FtB_kind k f⟩
theorem subML_ok {l : ML} {m0 m : Mem} (h0 : Told l m0) (h : subML al lo rs pc l m = true) : ∀ t b, m0.get t = some b → ∃ b', m.get t = some b' ∧ sameB al lo rs pc b b' = true := fun t b hb => by
  have := allL_ok h t b (h0 t b hb)
  split at this
  · rename_i b' hb'; exact ⟨b', hb', this⟩
  · cases this
theorem subML_own {l : ML} {m0 m : Mem} (h0 : Told l m0) (h : subML al lo rs pc l m = true) {t g : Nat} (ho : Own fa θ m0.get t g) : Own fa θ m.get t g :=
  own_same (fun b hb => by obtain ⟨b', e, k⟩ := subML_ok h0 h t b hb; exact ⟨b', e, sameB_kind k⟩) rfl ho
theorem tagsOk_id {lo : Nat} : TagsOk [] lo θ θ := fun t u h => by
  unfold tagOk at h
  split at h
  · rw [Nat.eq_of_beq_eq_true h]
  · simp [findT] at h
theorem MemOk.same (hs : Sat ρ pc) (hr : RulesOk ρ rs) {l : ML} {m0 m : Mem} {w : World} (h0 : Told l m0) (h : subML [] lo rs pc l m = true) (hM : MemOk ρ θ m.get w) : MemOk ρ θ m0.get w :=
  ⟨fun t b hb => by
    obtain ⟨b', e, h1⟩ := subML_ok h0 h t b hb
    exact sameB_ok hs hr tagsOk_id rfl h1 (hM.holds t b' e), fun s t g h1 h2 => hM.inj s t g (subML_own h0 h h1) (subML_own h0 h h2)⟩
end
def memA (t : Nat) : Al → Bool
  | [] => false
  | (s, _) :: l => match Nat.beq s t with
    | true => true
    | false => memA t l
def prV : Nat → SV → SV → Al → Al
  | 0, _, _, al => al
  | f + 1, v, v', al => match v, v' with
    | .p t _, .p u _ => (t, u) :: al
    | .sl t _ _ _, .sl u _ _ _ => (t, u) :: al
    | .sb t _, .sb u _ => (t, u) :: al
    | .mp t, .mp u => (t, u) :: al
    | .su t, .su u => (t, u) :: al
    | .sv t _, .sv u _ => (t, u) :: al
    | .sx t _, .sx u _ => (t, u) :: al
    | .tp t _, .tp u _ => (t, u) :: al
    | .ag l, .ag m => prVs f l m al
    | .tu l, .tu m => prVs f l m al
    | .fn _ a b, .fn _ c d => prVs f a c (prVs f b d al)
    | _, _ => al
where
  prVs : Nat → List SV → List SV → Al → Al
  | 0, _, _, al => al
  | f + 1, a :: l, b :: m, al => prVs f l m (prV f a b al)
  | _ + 1, _, _, al => al
def prE : List (SV × SV × Nat) → List (SV × SV × Nat) → Al → Al
  | (a, b, _) :: l, (c, d, _) :: m, al => prE l m (prV 50 a c (prV 50 b d al))
  | _, _, al => al
def prB : Option Blk → Option Blk → Al → Al
  | some (.ce _ a _), some (.ce _ b _), al => prV.prVs 400 a b al
  | some (.mp a _), some (.mp b _), al => prE a b al
  | some (.cv a), some (.cv b), al => prV.prVs 400 a b al
  | _, _, al => al
def prGo (lo : Nat) (m1 m : Mem) : Nat → Al → Al → (Al → Bool) → Bool
  | 0, _, _, _ => false
  | _ + 1, [], al, K => K al
  | f + 1, (t, u) :: l, al, K => match Nat.blt t lo || memA t al with
    | true => prGo lo m1 m f l al K
    | false => prGo lo m1 m f (prB (m1.get t) (m.get u) l) ((t, u) :: al) K
def oldT (lo : Nat) (m : Mem) : ML → Al → Al
  | [], al => al
  | (t, b) :: l, al => match Nat.blt t lo with
    | true => oldT lo m l (prB (some b) (m.get t) al)
    | false => oldT lo m l al
def memV (u : Nat) : Al → Bool
  | [] => false
  | (_, s) :: l => match Nat.beq s u with
    | true => true
    | false => memV u l
def alOk (lo hi : Nat) : Al → Bool
  | [] => true
  | (t, u) :: l => Nat.ble lo t && Nat.blt t hi && !memA t l && !memV u l && alOk lo hi l
theorem memV_find {u : Nat} : ∀ {l : Al}, memV u l = false → ∀ t, findT l t ≠ some u
  | [], _, t, h => by cases h
  | (s, v) :: l, h, t, ht => by
    simp only [memV] at h
    split at h
    · cases h
    · rename_i hc
      simp only [findT] at ht
      split at ht
      · cases ht; simp at hc
      · exact memV_find h t ht
theorem alOk_rng {lo hi : Nat} : ∀ {l : Al}, alOk lo hi l = true → ∀ t u, findT l t = some u → lo ≤ t ∧ t < hi
  | [], _, t, u, h => by cases h
  | (s, v) :: l, hk, t, u, h => by
    simp only [alOk, Bool.and_eq_true, Nat.ble_eq, Nat.blt_eq] at hk
    simp only [findT] at h
    split at h
    · rename_i hc
      have := Nat.eq_of_beq_eq_true hc
      cases h
      omega
    · exact alOk_rng hk.2 t u h
theorem alOk_inj {lo hi : Nat} : ∀ {l : Al}, alOk lo hi l = true → ∀ s t u, findT l s = some u → findT l t = some u → s = t
  | [], _, s, t, u, h, _ => by cases h
  | (x, v) :: l, hk, s, t, u, h1, h2 => by
    simp only [alOk, Bool.and_eq_true, Bool.not_eq_true'] at hk
    simp only [findT] at h1 h2
    split at h1 <;> split at h2
    · rename_i _ ha _ hb
      rw [← Nat.eq_of_beq_eq_true ha, ← Nat.eq_of_beq_eq_true hb]
    · cases h1; exact absurd h2 (memV_find hk.1.2 t)
    · cases h2; exact absurd h1 (memV_find hk.1.2 s)
    · exact alOk_inj hk.2 s t u h1 h2
def tagOf (al : Al) (lo t : Nat) : Nat := match Nat.blt t lo with
  | true => t
  | false => match findT al t with
    | some x => x
    | none => t
def endOk (rs : Rules) (lo : Nat) (v1 : SV) (l1 : ML) (nx1 : Nat) (pc1 : PC) (v : SV) (m : Mem) (nx : Nat) (pc : PC) (al : Al) : Bool :=
  Nat.ble nx nx1 && alOk lo nx1 al && sameV al lo rs pc v1 v && allL (fun t b => Nat.blt t nx1 && (!Nat.blt t lo || !memV t al) && match m.get (tagOf al lo t) with
    | some b' => tagOk al lo t (tagOf al lo t) && sameB al lo rs pc b b'
    | none => false) l1 && allP pc pc1
def cutEnd (rs : Rules) (lo : Nat) (v1 : SV) (l1 : ML) (nx1 : Nat) (pc1 : PC) (v : SV) (m : Mem) (nx : Nat) (pc : PC) : Bool :=
  mkK l1 .lf fun m1 => prGo lo m1 m 100000 (prV 50 v1 v (oldT lo m l1 [])) [] fun al => endOk rs lo v1 l1 nx1 pc1 v m nx pc al
theorem prGo_ok {lo : Nat} {m1 m : Mem} {K : Al → Bool} : ∀ {f : Nat} {l al : Al}, prGo lo m1 m f l al K = true → ∃ al, K al = true
  | 0, _, _, h => by simp [prGo] at h
  | f + 1, [], al, h => ⟨al, h⟩
  | f + 1, (t, u) :: l, al, h => by
    simp only [prGo] at h
    split at h
    · exact prGo_ok h
    · exact prGo_ok h
theorem CallR.tell {P : Program} {ρ : Rho} {rs : Rules} (hr : RulesOk ρ rs) {f : Nat} {args0 : List SV} {m0 : Mem} {nx : Nat} {pc : PC} (hs : Sat ρ pc) {v1 : SV} {l1 : ML} {nx1 : Nat} {pc1 : PC} {r : O4} (q : CallR P ρ f args0 m0 nx r) (he : cutEnd rs nx v1 l1 nx1 pc1 r.v r.m r.nx r.pc = true) : CallR P ρ f args0 m0 nx ⟨v1, mkU l1 .lf, nx1, pc1 ++ pc⟩ := by
    obtain ⟨he, hT⟩ := mkK_told he
    generalize mkU l1 .lf = m1 at he hT
    obtain ⟨al, he⟩ := prGo_ok he
    simp only [endOk, Bool.and_eq_true, Nat.ble_eq] at he
    obtain ⟨⟨⟨⟨e1, ea⟩, e2⟩, e3⟩, e4⟩ := he
    have e3 := allL_ok e3
    have mold : ∀ t b, m1.get t = some b → t < nx → memV t al = false := fun t b hb hl => by
      have := e3 t b (hT t b hb)
      simp only [Bool.and_eq_true, Nat.blt_eq] at this
      have h7 := this.1.2
      rw [show Nat.blt t nx = true by rw [Nat.blt_eq]; exact hl] at h7
      simpa using h7
    have mk : ∀ t b, m1.get t = some b → t < nx1 ∧ tagOk al nx t (tagOf al nx t) = true ∧ ∃ b', r.m.get (tagOf al nx t) = some b' ∧ sameB al nx rs r.pc b b' = true := fun t b hb => by
      have := e3 t b (hT t b hb)
      simp only [Bool.and_eq_true, Nat.blt_eq] at this
      refine ⟨this.1.1, ?_⟩
      have h7 := this.2
      split at h7
      · rename_i b' hb'
        simp only [Bool.and_eq_true] at h7
        exact ⟨h7.1, b', hb', h7.2⟩
      · cases h7
    have mn : ∀ t, m1.get t ≠ none → t < nx1 ∧ tagOk al nx t (tagOf al nx t) = true ∧ r.m.get (tagOf al nx t) ≠ none := fun t ht => by
      cases hb : m1.get t with
      | none => exact absurd hb ht
      | some b => obtain ⟨q1, q2, b', q3, _⟩ := mk t b hb; exact ⟨q1, q2, by rw [q3]; simp⟩
    refine ⟨q.enter, fun e he => ?_, Nat.le_trans q.le e1, fun t h1 h2 => ?_, fun w θ vs hvs hM hfr => ?_⟩
    · rcases List.mem_append.1 he with he | he
      · exact allP_ok q.pc e4 e he
      · exact hs e he
    · obtain ⟨k1, k2, k3⟩ := mn t h2
      refine ⟨?_, k1⟩
      rcases Nat.lt_or_ge t nx with l | l
      · exfalso
        have : tagOf al nx t = t := by unfold tagOf; rw [show Nat.blt t nx = true by rw [Nat.blt_eq]; exact l]
        rw [this] at k3
        have := q.new t h1 k3
        omega
      · exact l
    · refine calls_mono (q.run w θ vs hvs hM fun t h1 h2 => hfr t h1 (by simp only at h2 ⊢; omega)) fun e w' ⟨v, θ', f1, f2, f3⟩ => ?_
    -- what the tags stand for now
      let θ1 : Th := fun t => if nx ≤ t ∧ t < nx1 then (match findT al t with | some u => θ' u | none => none) else θ' t
      have hθ : TagsOk al nx θ1 θ' := fun t u h => by
        unfold tagOk at h
        split at h
        · rename_i hl
          rw [Nat.blt_eq] at hl
          have := Nat.eq_of_beq_eq_true h
          subst this
          simp only [θ1]
          rw [if_neg (by omega)]
        · split at h
          · rename_i x hx
            have := Nat.eq_of_beq_eq_true h
            subst this
            have hrg := alOk_rng ea _ _ hx
            simp only [θ1]
            rw [if_pos (by omega), hx]
          · cases h
      refine ⟨v, θ1, f1, ?_, (sameV_ok q.pc hr hθ e2).trans f3⟩
      have up : ∀ {fa : Bool}, ∀ t g, Own fa θ1 m1.get t g → m1.get t ≠ none ∧ Own fa θ' r.m.get (tagOf al nx t) g := fun t g ho => by
        refine ⟨ho.ne, own_same (fun b hb => ?_) ?_ ho⟩
        · obtain ⟨_, _, b', k3, k4⟩ := mk t b hb
          exact ⟨b', k3, sameB_kind k4⟩
        · exact hθ _ _ (mn t ho.ne).2.1
      refine ⟨fun t x hx => ?_, fun t ht => ?_, ⟨fun t b hb => ?_, fun s t g h1 h2 => ?_⟩, f2.ext, fun g ⟨t, h1⟩ => ?_⟩
      · simp only [θ1]
        split
        · rename_i hb
          have := hfr t hb.1 hb.2
          rw [this] at hx; cases hx
        · exact f2.le t x hx
      · by_cases hb : nx ≤ t ∧ t < nx1
        · exact .inr hb
        · simp only [θ1] at ht
          rw [if_neg hb] at ht
          rcases f2.new t ht with h | h
          · exact .inl h
          · exact absurd ⟨h.1, by have h2 := h.2; omega⟩ hb
      · obtain ⟨k1, k2, b', k3, k4⟩ := mk t b hb
        exact sameB_ok q.pc hr hθ (hθ _ _ k2) k4 (f2.mem.holds _ b' k3)
      · obtain ⟨h1, u1⟩ := up s g h1
        obtain ⟨h2, u2⟩ := up t g h2
        obtain ⟨k1, k2, k3⟩ := mn s h1
        obtain ⟨l1, l2, l3⟩ := mn t h2
        have := f2.mem.inj _ _ g u1 u2
        have cs : ∀ x, tagOk al nx x (tagOf al nx x) = true → (x < nx ∧ tagOf al nx x = x) ∨ (nx ≤ x ∧ findT al x = some (tagOf al nx x)) := fun x hx => by
          unfold tagOk at hx
          split at hx
          · rename_i hl
            rw [Nat.blt_eq] at hl
            exact .inl ⟨hl, (Nat.eq_of_beq_eq_true hx).symm⟩
          · rename_i hl
            split at hx
            · rename_i y hy
              have := Nat.eq_of_beq_eq_true hx
              have hrg := alOk_rng ea _ _ hy
              exact .inr ⟨hrg.1, by rw [hy, this]⟩
            · cases hx
        have nd : ∀ x, m1.get x ≠ none → x < nx → memV x al = false := fun x hx hl => by
          cases hb : m1.get x with
          | none => exact absurd hb hx
          | some b => exact mold x b hb hl
        rcases cs s k2 with ⟨a1, a2⟩ | ⟨a1, a3⟩ <;> rcases cs t l2 with ⟨b1, b2⟩ | ⟨b1, b3⟩
        · omega
        · rw [← this, a2] at b3
          exact absurd b3 (memV_find (nd s h1 a1) t)
        · rw [this, b2] at a3
          exact absurd a3 (memV_find (nd t h2 b1) s)
        · rw [this] at a3
          exact alOk_inj ea _ _ _ a3 b3
      · exact f2.own g ⟨_, (up t g h1).2⟩
theorem cut_call {P : Program} {ρ : Rho} (hm : P.follows .mixedOrders = true) {sm : SumT} (hsm : SumOk P ρ sm) {rs : Rules} (hr : RulesOk ρ rs) {fuel f : Nat} {args0 : List SV} {l0 : ML} {nx0 : Nat} {pc0 : PC} {v1 : SV} {l1 : ML} {nx1 : Nat} {pc1 : PC}
    (hk : mkK l0 .lf (fun m0 => callBy P sm (ev P sm fuel) f args0 m0 nx0 pc0 (cutEnd rs nx0 v1 l1 nx1 pc1)) = true) {pc : PC} (hs : Sat ρ pc) (h0 : Sat ρ pc0) : Told l0 (mkU l0 .lf) ∧ CallR P ρ f args0 (mkU l0 .lf) nx0 ⟨v1, mkU l1 .lf, nx1, pc1 ++ pc⟩ := by
  obtain ⟨hk, hT⟩ := mkK_told hk
  obtain ⟨r, q, he, _⟩ := callBy_ok hm hsm fuel f args0 (mkU l0 .lf) nx0 pc0 h0 (fun r => cutEnd rs nx0 v1 l1 nx1 pc1 r.v r.m r.nx r.pc) hk
  exact ⟨hT, q.tell hr hs he⟩
end X
end Go.Proofs.YtebfahobllghnaaGreatDoor
namespace Go.Proofs.YtebfahobllghnaaGreatDoor
namespace X
open Go.RowKit B
def lookU : ML → Nat → Option Blk → Option Blk
  | [], _, o => o
  | (s, b) :: l, t, o => lookU l t (if t = s then some b else o)
theorem lookU_none {t : Nat} : ∀ {l : ML} {o : Option Blk}, lookU l t o = (match lookU l t none with | some b => some b | none => o)
  | [], o => rfl
  | (s, b) :: l, o => by
    simp only [lookU]
    rw [lookU_none (l := l) (o := if t = s then some b else o), lookU_none (l := l) (o := if t = s then some b else none)]
    cases lookU l t none <;> simp
    split <;> rfl
theorem mkK_get : ∀ {l : ML} {m : Mem} {K : Mem → Bool}, mkK l m K = true → K (mkU l m) = true ∧ ∀ t, (mkU l m).get t = lookU l t (m.get t)
  | [], m, K, h => ⟨h, fun t => rfl⟩
  | (s, c) :: l, m, K, h => by
    simp only [mkK, Tr.set] at h
    split at h
    · rename_i hk
      have hk' : s < 2 ^ 22 := by have := Nat.le_of_ble_eq_true hk; omega
      rw [Tr.put_eq (f := 22) hk'] at h
      obtain ⟨h1, h2⟩ := mkK_get (l := l) h
      refine ⟨h1, fun t => ?_⟩
      have h3 := h2 t
      rw [Tr.up_get hk'] at h3
      exact h3
    · cases h
end X
end Go.Proofs.YtebfahobllghnaaGreatDoor
namespace Go.Proofs.YtebfahobllghnaaGreatDoor
namespace X
open Go.RowKit B
inductive Ctx where
  | hole
  | l (t : Ctx) (c : Code)
  | r (c : Code) (t : Ctx)
def Ctx.pre : Ctx → List Code
  | .hole => []
  | .l t _ => t.pre
  | .r c t => c :: t.pre
def Ctx.post : Ctx → List Code
  | .hole => []
  | .l t c => t.post ++ [c]
  | .r _ t => t.post
def evs (P : Program) (sm : SumT) (fuel : Nat) : List Code → Tr SV → Mem → Nat → PC → KR → Bool
  | [], s, m, nx, pc, K => K s m nx pc
  | c :: l, s, m, nx, pc, K => ev P sm fuel c s m nx pc fun e s m nx pc => match e with
    | .normal => evs P sm fuel l s m nx pc K
    | _ => false
section
variable {P : Program} {ρ : Rho} {n : Nat}
end
end X
end Go.Proofs.YtebfahobllghnaaGreatDoor
namespace Go.Proofs.YtebfahobllghnaaGreatDoor
namespace X
open Go.RowKit B
def dn (ρ : Rho) : Rho := ⟨ρ.v, fun i => match i with
  | 0 => ρ.s 3
  | 1 => ρ.s 4
  | 2 => ρ.s 5
  | 3 => ρ.s 3 ++ ρ.s 4
  | 4 => (ρ.s 5).take 1
  | 5 => (ρ.s 5).drop 1
  | i => ρ.s i⟩
section
variable {ρ : Rho} {θ : Th}
end
end X
end Go.Proofs.YtebfahobllghnaaGreatDoor
namespace Go.Proofs.YtebfahobllghnaaGreatDoor
namespace X
open Go.RowKit B
abbrev SL := List (Nat × SV)
def mkV : SL → Tr SV → (Tr SV → Bool) → Bool
  | [], m, K => K m
  | (t, b) :: l, m, K => m.set t (some b) fun m => mkV l m K
def mkUV : SL → Tr SV → Tr SV
  | [], m => m
  | (t, b) :: l, m => mkUV l (Tr.up 23 m t (some b))
def allS (p : Nat → SV → Bool) : SL → Bool
  | [] => true
  | (t, b) :: l => p t b && allS p l
theorem allS_ok {p : Nat → SV → Bool} : ∀ {l : SL}, allS p l = true → ∀ t b, (t, b) ∈ l → p t b = true
  | [], _, t, b, h => by cases h
  | (s, c) :: l, hp, t, b, h => by
    simp only [allS, Bool.and_eq_true] at hp
    rcases List.mem_cons.1 h with h | h
    · cases h; exact hp.1
    · exact allS_ok hp.2 t b h
theorem mkV_ok : ∀ {l : SL} {m : Tr SV} {K : Tr SV → Bool}, mkV l m K = true → K (mkUV l m) = true ∧ ∀ t b, (mkUV l m).get t = some b → (t, b) ∈ l ∨ m.get t = some b
  | [], m, K, h => ⟨h, fun t b e => .inr e⟩
  | (s, c) :: l, m, K, h => by
    simp only [mkV, Tr.set] at h
    split at h
    · rename_i hk
      have hk' : s < 2 ^ 22 := by have := Nat.le_of_ble_eq_true hk; omega
      rw [Tr.put_eq (f := 22) hk'] at h
      obtain ⟨h1, h2⟩ := mkV_ok (l := l) h
      refine ⟨h1, fun t b e => ?_⟩
      rcases h2 t b e with k | k
      · exact .inl (List.mem_cons_of_mem _ k)
      · rw [Tr.up_get hk'] at k
        split at k
        · rename_i e; subst e; cases k; exact .inl (by simp)
        · exact .inr k
    · cases h
theorem mkV_told {l : SL} {K : Tr SV → Bool} (h : mkV l .lf K = true) : K (mkUV l .lf) = true ∧ ∀ t b, (mkUV l .lf).get t = some b → (t, b) ∈ l := by
  obtain ⟨h1, h2⟩ := mkV_ok h
  refine ⟨h1, fun t b e => ?_⟩
  rcases h2 t b e with k | k
  · exact k
  · simp [Tr.get] at k
structure TS where
  s : SL
  l : ML
  pc : PC
  nx : Nat
def prSl : SL → Tr SV → Al → Al
  | [], _, al => al
  | (k, v) :: l, s', al => prSl l s' (match s'.get k with | some v' => prV 50 v v' al | none => al)
def thN (al : Al) (lo nx hi : Nat) (θ : Th) : Th := fun t => if lo ≤ t ∧ t < hi then (if t < nx then (match findT al t with | some u => θ u | none => none) else none) else θ t
section
variable {P : Program} {ρ : Rho} {rs : Rules} {lo hi n : Nat} {T : TS} {s0 s' : Tr SV} {m0 m' : Mem} {pc' : PC}
structure StepR (ρ : Rho) (n lo hi : Nat) (T : TS) (s0 : Tr SV) (m0 : Mem) (s' : Tr SV) (m' : Mem) (al : Al) : Prop where
  pc : Sat (dn ρ) T.pc
  at_ : ∀ (a : Act) (w : World) (θ : Th), At ρ n s' m' a w θ → At (dn ρ) n s0 m0 a w (thN al lo T.nx hi θ)
  own : ∀ {fa : Bool} (θ : Th) (g : Nat), Bl fa (thN al lo T.nx hi θ) m0.get g → Bl fa θ m'.get g
theorem StepR.sp {al : Al} {nxp : Nat} {θp θ : Th} {Mp : Nat → Option Blk} {wp w : World} {a : Act} (h : StepR ρ n lo hi T s0 m0 s' m' al) (hA : At ρ n s' m' a w θ) (hsp : SP ρ nxp hi θp Mp wp θ m'.get w) (h1 : nxp ≤ lo) (h2 : lo ≤ T.nx) (hfr : ∀ t, nxp ≤ t → t < hi → θp t = none) :
    SP (dn ρ) nxp T.nx θp Mp wp (thN al lo T.nx hi θ) m0.get w := by
  refine ⟨fun t x hx => ?_, fun t ht => ?_, (h.at_ a w θ hA).mem, hsp.ext, fun g hg => hsp.own g (h.own θ g hg)⟩
  · have hn : ¬ (lo ≤ t ∧ t < hi) := fun q => by rw [hfr t (by omega) q.2] at hx; cases hx
    unfold thN
    rw [if_neg hn]
    exact hsp.le t x hx
  · unfold thN at ht
    split at ht
    · rename_i q
      split at ht
      · exact .inr ⟨by omega, by assumption⟩
      · exact absurd rfl ht
    · rename_i q
      rcases hsp.new t ht with z | z
      · exact .inl z
      · refine .inr ⟨z.1, ?_⟩
        rcases Nat.lt_or_ge t lo with l | l
        · omega
        · exact absurd ⟨l, z.2⟩ q
end
structure JR (ρ : Rho) (rest : List UInt8) : Prop where
  s1 : ρ.s 1 = rest.take 1
  s2 : ρ.s 2 = rest.drop 1
  s3 : ρ.s 3 = ρ.s 0 ++ ρ.s 1
  s4 : ρ.s 4 = (ρ.s 2).take 1
  s5 : ρ.s 5 = (ρ.s 2).drop 1
theorem JR.dn {ρ : Rho} {b : UInt8} {r : List UInt8} (h : JR ρ (b :: r)) : JR (dn ρ) r ∧ (dn ρ).s 0 = ρ.s 0 ++ [b] := by
  have e2 : ρ.s 2 = r := h.s2
  have e1 : ρ.s 1 = [b] := h.s1
  refine ⟨⟨?_, ?_, rfl, rfl, rfl⟩, ?_⟩
  · show ρ.s 4 = r.take 1
    rw [h.s4, e2]
  · show ρ.s 5 = r.drop 1
    rw [h.s5, e2]
  · show ρ.s 3 = _
    rw [h.s3, e1]
end X
end Go.Proofs.YtebfahobllghnaaGreatDoor
namespace Go.Proofs.YtebfahobllghnaaGreatDoor
namespace X
open Go.RowKit B
def matchAl (rs : Rules) (lo : Nat) (T : TS) (s' : Tr SV) (m' : Mem) (pc' : PC) (al : Al) : Bool :=
  alOk lo T.nx al &&
  allS (fun k v => match s'.get k with | some v' => sameV al lo rs pc' v v' | none => false) T.s &&
  allL (fun t b => Nat.blt t T.nx && (!Nat.blt t lo || !memV t al) && match m'.get (tagOf al lo t) with
    | some b' => tagOk al lo t (tagOf al lo t) && sameB al lo rs pc' b b'
    | none => false) T.l && allP pc' T.pc
def matchOk (rs : Rules) (lo : Nat) (T : TS) (m0 : Mem) (s' : Tr SV) (m' : Mem) (pc' : PC) : Bool :=
  prGo lo m0 m' 100000 (prSl T.s s' (oldT lo m' T.l [])) [] fun al => matchAl rs lo T s' m' pc' al
section
variable {P : Program} {ρ : Rho} {rs : Rules} {lo hi n : Nat} {T : TS} {s0 s' : Tr SV} {m0 m' : Mem} {pc' : PC}
structure MatchR (ρ : Rho) (n lo hi : Nat) (T : TS) (s0 : Tr SV) (m0 : Mem) (s' : Tr SV) (m' : Mem) (al : Al) : Prop where
  pc : Sat ρ T.pc
  at_ : ∀ (a : Act) (w : World) (θ : Th), At ρ n s' m' a w θ → At ρ n s0 m0 a w (thN al lo T.nx hi θ)
  own : ∀ {fa : Bool} (θ : Th) (g : Nat), Bl fa (thN al lo T.nx hi θ) m0.get g → Bl fa θ m'.get g
  old : ∀ t, t < lo → m0.get t ≠ none → m'.get t ≠ none
  lt : ∀ t, m0.get t ≠ none → t < T.nx
theorem matchAl_ok {al : Al} (hs : Sat ρ pc') (hr : RulesOk ρ rs) (hT : Told T.l m0) (hS : ∀ k v, s0.get k = some v → (k, v) ∈ T.s) (hhi : T.nx ≤ hi) (h : matchAl rs lo T s' m' pc' al = true) : MatchR ρ n lo hi T s0 m0 s' m' al := by
  simp only [matchAl, Bool.and_eq_true] at h
  obtain ⟨⟨⟨ea, e1⟩, e2⟩, e4⟩ := h
  have e1 := allS_ok e1
  have e2 := allL_ok e2
  have mk : ∀ t b, m0.get t = some b → t < T.nx ∧ (t < lo → memV t al = false) ∧ tagOk al lo t (tagOf al lo t) = true ∧ ∃ b', m'.get (tagOf al lo t) = some b' ∧ sameB al lo rs pc' b b' = true := fun t b hb => by
    have := e2 t b (hT t b hb)
    simp only [Bool.and_eq_true, Nat.blt_eq] at this
    obtain ⟨⟨q2, q3⟩, q4⟩ := this
    refine ⟨q2, fun hl => ?_, ?_⟩
    · rw [show Nat.blt t lo = true by rw [Nat.blt_eq]; exact hl] at q3
      simpa using q3
    · split at q4
      · rename_i b' hb'
        simp only [Bool.and_eq_true] at q4
        exact ⟨q4.1, b', hb', q4.2⟩
      · cases q4
  have mn : ∀ t, m0.get t ≠ none → t < T.nx ∧ (t < lo → memV t al = false) ∧ tagOk al lo t (tagOf al lo t) = true ∧ m'.get (tagOf al lo t) ≠ none := fun t ht => by
    cases hb : m0.get t with
    | none => exact absurd hb ht
    | some b => obtain ⟨q1, q2, q3, b', q4, _⟩ := mk t b hb; exact ⟨q1, q2, q3, by rw [q4]; simp⟩
  have hθ : ∀ θ, TagsOk al lo (thN al lo T.nx hi θ) θ := fun θ t u h => by
    unfold tagOk at h
    split at h
    · rename_i hl
      rw [Nat.blt_eq] at hl
      have := Nat.eq_of_beq_eq_true h
      subst this
      unfold thN
      rw [if_neg (by omega)]
    · split at h
      · rename_i x hx
        have := Nat.eq_of_beq_eq_true h
        subst this
        have hrg := alOk_rng ea _ _ hx
        unfold thN
        rw [if_pos (by omega), if_pos hrg.2, hx]
      · cases h
  have up : ∀ {fa : Bool}, ∀ (θ : Th) (t g : Nat), Own fa (thN al lo T.nx hi θ) m0.get t g → m0.get t ≠ none ∧ Own fa θ m'.get (tagOf al lo t) g := fun θ t g ho => ⟨ho.ne, own_same (fun b hb => by
    obtain ⟨_, _, _, b', q4, q5⟩ := mk t b hb
    exact ⟨b', q4, sameB_kind q5⟩) (hθ θ _ _ (mn t ho.ne).2.2.1) ho⟩
  refine ⟨allP_ok hs e4, fun a w θ hA => ⟨hA.defers, hA.size, fun k sv hk => ?_, fun t b hb => ?_, fun s t g h1 h2 => ?_⟩, fun θ g ⟨t, q1⟩ => ?_, fun t hl ht => ?_, fun t ht => (mn t ht).1⟩
  · have q2 := e1 k sv (hS k sv hk)
    split at q2
    · rename_i v' hv'
      rw [sameV_ok hs hr (hθ θ) q2]
      exact hA.slot k v' hv'
    · cases q2
  · obtain ⟨q1, q2, q3, b', q4, q5⟩ := mk t b hb
    exact sameB_ok hs hr (hθ θ) (hθ θ _ _ q3) q5 (hA.mem.holds _ b' q4)
  · obtain ⟨h1, u1⟩ := up θ s g h1
    obtain ⟨h2, u2⟩ := up θ t g h2
    obtain ⟨k1, kk, k2, k3⟩ := mn s h1
    obtain ⟨l1, ll, l2, l3⟩ := mn t h2
    have := hA.mem.inj _ _ g u1 u2
    have cs : ∀ x, tagOk al lo x (tagOf al lo x) = true → (x < lo ∧ tagOf al lo x = x) ∨ (lo ≤ x ∧ findT al x = some (tagOf al lo x)) := fun x hx => by
      unfold tagOk at hx
      split at hx
      · rename_i hl
        rw [Nat.blt_eq] at hl
        exact .inl ⟨hl, (Nat.eq_of_beq_eq_true hx).symm⟩
      · split at hx
        · rename_i y hy
          have := Nat.eq_of_beq_eq_true hx
          exact .inr ⟨(alOk_rng ea _ _ hy).1, by rw [hy, this]⟩
        · cases hx
    rcases cs s k2 with ⟨a1, a2⟩ | ⟨a1, a3⟩ <;> rcases cs t l2 with ⟨b1, b2⟩ | ⟨b1, b3⟩
    · omega
    · rw [← this, a2] at b3
      exact absurd b3 (memV_find (kk a1) t)
    · rw [this, b2] at a3
      exact absurd a3 (memV_find (ll b1) s)
    · rw [this] at a3
      exact alOk_inj ea _ _ _ a3 b3
  · exact ⟨_, (up θ t g q1).2⟩
  · obtain ⟨_, _, _, k3⟩ := mn t ht
    have : tagOf al lo t = t := by unfold tagOf; rw [show Nat.blt t lo = true by rw [Nat.blt_eq]; exact hl]
    rw [this] at k3
    exact k3
theorem match_ok (hs : Sat ρ pc') (hr : RulesOk ρ rs) (hT : Told T.l m0) (hS : ∀ k v, s0.get k = some v → (k, v) ∈ T.s) (hhi : T.nx ≤ hi) (h : matchOk rs lo T m0 s' m' pc' = true) : ∃ al, MatchR ρ n lo hi T s0 m0 s' m' al := by
  obtain ⟨al, h⟩ := prGo_ok h
  exact ⟨al, matchAl_ok hs hr hT hS hhi h⟩
theorem MatchR.sp {al : Al} {nxp : Nat} {θp θ : Th} {Mp : Nat → Option Blk} {wp w : World} {a : Act} (h : MatchR ρ n lo hi T s0 m0 s' m' al) (hA : At ρ n s' m' a w θ) (hsp : SP ρ nxp hi θp Mp wp θ m'.get w) (h1 : nxp ≤ lo) (h2 : lo ≤ T.nx) (hfr : ∀ t, nxp ≤ t → t < hi → θp t = none) :
    SP ρ nxp T.nx θp Mp wp (thN al lo T.nx hi θ) m0.get w := by
  refine ⟨fun t x hx => ?_, fun t ht => ?_, (h.at_ a w θ hA).mem, hsp.ext, fun g hg => hsp.own g (h.own θ g hg)⟩
  · have hn : ¬ (lo ≤ t ∧ t < hi) := fun q => by rw [hfr t (by omega) q.2] at hx; cases hx
    unfold thN
    rw [if_neg hn]
    exact hsp.le t x hx
  · unfold thN at ht
    split at ht
    · rename_i q
      split at ht
      · exact .inr ⟨by omega, by assumption⟩
      · exact absurd rfl ht
    · rename_i q
      rcases hsp.new t ht with z | z
      · exact .inl z
      · refine .inr ⟨z.1, ?_⟩
        rcases Nat.lt_or_ge t lo with l | l
        · omega
        · exact absurd ⟨l, z.2⟩ q
end
def hiI (j : Nat) : Bool := match Nat.beq (Nat.mod j 4) 1 with
  | true => Nat.ble 6 (Nat.div j 4)
  | false => match Nat.beq (Nat.mod j 4) 3 with
    | true => Nat.ble 6 (Nat.mod (Nat.div j 8) 16) && (Nat.blt (Nat.div j 128) 256 || Nat.ble 262 (Nat.div j 128))
    | false => true
structure Agree (ρ ρ' : Rho) : Prop where
  v : ρ'.v = ρ.v
  s : ∀ i, 6 ≤ i → ρ'.s i = ρ.s i
section
variable {ρ ρ' : Rho} {θ : Th}
theorem hiI_at (h : Agree ρ ρ') {j : Nat} (hj : hiI j = true) : ρ'.at j = ρ.at j := by
  unfold hiI at hj
  split at hj
  · rename_i hm
    have hm : j % 4 = 1 := Nat.eq_of_beq_eq_true hm
    have h6 : 6 ≤ j / 4 := Nat.le_of_ble_eq_true hj
    unfold Rho.at
    rw [if_pos hm, if_pos hm, h.s _ h6]
  · rename_i hm
    have hm : ¬ j % 4 = 1 := fun e => Nat.ne_of_beq_eq_false hm e
    split at hj
    · simp only [Bool.and_eq_true, Bool.or_eq_true, Nat.ble_eq, Nat.blt_eq] at hj
      have h6 : 6 ≤ j / 8 % 16 := hj.1
      have hk : j / 128 < 256 ∨ 262 ≤ j / 128 := hj.2
      unfold Rho.at
      rw [if_neg hm, if_neg hm, h.s _ h6, h.v]
      rcases hk with hk | hk
      · rw [if_pos hk, if_pos hk]
      · rw [if_neg (show ¬ j / 128 < 256 by omega), if_neg (show ¬ j / 128 < 256 by omega), h.s _ (show 6 ≤ j / 128 - 256 by omega)]
    · rename_i hm3
      have hm3 : ¬ j % 4 = 3 := fun e => Nat.ne_of_beq_eq_false hm3 e
      unfold Rho.at
      rw [if_neg hm, if_neg hm, if_neg (show ¬ j % 8 = 3 by omega), if_neg (show ¬ j % 8 = 7 by omega), if_neg (show ¬ j % 8 = 3 by omega), if_neg (show ¬ j % 8 = 7 by omega), h.v]
end
end X
end Go.Proofs.YtebfahobllghnaaGreatDoor
namespace Go.Proofs.YtebfahobllghnaaGreatDoor
namespace X
open Go.RowKit B
def blkL (b : Nat) (F : KC → Bool) (K : KC) : Bool := F fun e s m nx pc => match e with
  | .exit i => match Nat.beq i b with
    | true => K .normal s m nx pc
    | false => K (.exit i) s m nx pc
  | e => K e s m nx pc
section
variable {P : Program} {ρ : Rho} {sm : SumT} {fuel n : Nat}
theorem blkL_yl {b : Nat} {x : Code} {s : Tr SV} {m : Mem} {nx : Nat} {F : KC → Bool} (h : Yl (fun K => F fun e s m nx pc => K (e, ⟨s, m, nx, pc⟩)) (EvR P ρ n x s m nx)) : Yl (fun K => blkL b F fun e s m nx pc => K (e, ⟨s, m, nx, pc⟩)) (EvR P ρ n (.block b x) s m nx) := by
  unfold blkL
  refine Yl.bind (α := AX × OS) (β := AX × OS) (F := fun K => F fun e s m nx pc => K (e, ⟨s, m, nx, pc⟩)) (G := fun r K => match r.1 with
    | .exit i => match Nat.beq i b with
      | true => K (.normal, r.2)
      | false => K (.exit i, r.2)
    | e => K (e, r.2)) h fun r hr => ?_
  obtain ⟨e, o⟩ := r
  have go : ∀ (e' : AX), (∀ (Q : Exit → Act → World → Prop) e1 a w, exIs e e1 → (∀ e2, exIs e' e2 → Q e2 a w) → Exit.inBlock b Q e1 a w) → EvR P ρ n (.block b x) s m nx (e', o) := fun e' h =>
    ⟨hr.pc, hr.le, hr.new, fun a w θ hA hfr => wp_block (wp_mono (hr.run a w θ hA hfr).wp fun e1 a w ⟨he, hp⟩ => h _ e1 a w he fun e2 he2 => ⟨he2, hp⟩)⟩
  cases e with
  | normal => exact Yl.pure (α := AX × OS) _ (go .normal fun Q e1 a w h1 h2 => by cases h1; exact h2 _ rfl)
  | ret => exact Yl.pure (α := AX × OS) _ (go .ret fun Q e1 a w h1 h2 => by cases h1; exact h2 _ rfl)
  | exit i =>
    show Yl (fun K => match Nat.beq i b with
      | true => K (AX.normal, o)
      | false => K (.exit i, o)) _
    split
    · rename_i hb
      refine Yl.pure (α := AX × OS) _ (go .normal fun Q e1 a w h1 h2 => ?_)
      cases h1
      simp only [Exit.inBlock]
      rw [if_pos (Nat.eq_of_beq_eq_true hb)]
      exact h2 _ rfl
    · rename_i hb
      refine Yl.pure (α := AX × OS) _ (go (.exit i) fun Q e1 a w h1 h2 => ?_)
      cases h1
      simp only [Exit.inBlock]
      rw [if_neg (Nat.ne_of_beq_eq_false hb)]
      exact h2 _ rfl
theorem seq_yl {x y : Code} {s : Tr SV} {m : Mem} {nx : Nat} {F : KC → Bool} {G : Tr SV → Mem → Nat → PC → KC → Bool} (h : Yl (fun K => F fun e s m nx pc => K (e, ⟨s, m, nx, pc⟩)) (EvR P ρ n x s m nx))
    (hG : ∀ s m nx pc, Sat ρ pc → Yl (fun K => G s m nx pc fun e s m nx pc => K (e, ⟨s, m, nx, pc⟩)) (EvR P ρ n y s m nx)) :
    Yl (fun K => F fun e s m nx pc => match e with
      | .normal => G s m nx pc fun e s m nx pc => K (e, (⟨s, m, nx, pc⟩ : OS))
      | e => K (e, ⟨s, m, nx, pc⟩)) (EvR P ρ n (.seq x y) s m nx) := by
  refine Yl.bind (α := AX × OS) (β := AX × OS) (F := fun K => F fun e s m nx pc => K (e, ⟨s, m, nx, pc⟩)) (G := fun r K => match r.1 with
    | .normal => G r.2.s r.2.m r.2.nx r.2.pc fun e s m nx pc => K (e, ⟨s, m, nx, pc⟩)
    | e => K (e, r.2)) h fun r hr => ?_
  obtain ⟨e, o⟩ := r
  cases e with
  | normal => exact (hG o.s o.m o.nx o.pc hr.pc).mono fun r2 hr2 => hr.join hr2 fun a w Q h => wp_seq (wp_mono h fun e a w h => by cases e <;> first | exact Goes.wp h | exact h)
  | exit i => exact Yl.pure (α := AX × OS) _ (hr.cut (by simp) fun a w Q Q' h h1 h2 => wp_seq (wp_mono h (then_cut (by simp) h1 h2)))
  | ret => exact Yl.pure (α := AX × OS) _ (hr.cut (by simp) fun a w Q Q' h h1 h2 => wp_seq (wp_mono h (then_cut (by simp) h1 h2)))
end
end X
end Go.Proofs.YtebfahobllghnaaGreatDoor
namespace Go.Proofs.YtebfahobllghnaaGreatDoor
namespace X
open Go.RowKit B
mutual
def mpV (fS : Str → Str) (fL : Lin → Lin) : SV → SV
  | .x k e => .x k (fL e)
  | .s l => .s (fS l)
  | .sb t l => .sb t (fS l)
  | .ag l => .ag (mpVs fS fL l)
  | .tu l => .tu (mpVs fS fL l)
  | .fn f a b => .fn f (mpVs fS fL a) (mpVs fS fL b)
  | .sv t e => .sv t (fL e)
  | .tp t e => .tp t (fL e)
  | v => v
def mpVs (fS : Str → Str) (fL : Lin → Lin) : List SV → List SV
  | [] => []
  | v :: l => mpV fS fL v :: mpVs fS fL l
end
mutual
def alV (pS : Str → Bool) (pL : Lin → Bool) : SV → Bool
  | .x _ e => pL e
  | .s l => pS l
  | .sb _ l => pS l
  | .ag l => alVs pS pL l
  | .tu l => alVs pS pL l
  | .fn _ a b => alVs pS pL a && alVs pS pL b
  | .sv _ e => pL e
  | .tp _ e => pL e
  | .sx _ _ => false
  | _ => true
def alVs (pS : Str → Bool) (pL : Lin → Bool) : List SV → Bool
  | [] => true
  | v :: l => alV pS pL v && alVs pS pL l
end
def mpE (fS : Str → Str) (fL : Lin → Lin) : List (SV × SV × Nat) → List (SV × SV × Nat)
  | [] => []
  | (a, b, n) :: l => (mpV fS fL a, mpV fS fL b, n) :: mpE fS fL l
def alE (pS : Str → Bool) (pL : Lin → Bool) : List (SV × SV × Nat) → Bool
  | [] => true
  | (a, b, _) :: l => alV pS pL a && alV pS pL b && alE pS pL l
def mpB (fS : Str → Str) (fL : Lin → Lin) : Blk → Blk
  | .ce t l x => .ce t (mpVs fS fL l) x
  | .bt t l => .bt t (fS l)
  | .mp es c => .mp (mpE fS fL es) c
  | .ob t l => .ob t (fS l)
  | .cv l => .cv (mpVs fS fL l)
  | .cq n b => .cq n b
  | .cx ty n b => .cx ty n b
  | .hb k l q => .hb k (fS l) (fS q)
theorem mpB_kind (fS : Str → Str) (fL : Lin → Lin) (b : Blk) : isHb (mpB fS fL b) = isHb b := by cases b <;> rfl
def alB (pS : Str → Bool) (pL : Lin → Bool) : Blk → Bool
  | .ce _ l _ => alVs pS pL l
  | .bt _ l => pS l
  | .mp es _ => alE pS pL es
  | .ob _ l => pS l
  | .cv l => alVs pS pL l
  | .cq _ _ => false
  | .cx _ _ _ => false
  | .hb _ l q => pS l && pS q
def mpM (fS : Str → Str) (fL : Lin → Lin) : ML → ML
  | [] => []
  | (t, b) :: l => (t, mpB fS fL b) :: mpM fS fL l
def mpSl (fS : Str → Str) (fL : Lin → Lin) : SL → SL
  | [] => []
  | (t, b) :: l => (t, mpV fS fL b) :: mpSl fS fL l
structure MpOk (ρ ρ' : Rho) (fS : Str → Str) (fL : Lin → Lin) (pS : Str → Bool) (pL : Lin → Bool) : Prop where
  s : ∀ l, pS l = true → denS ρ' (fS l) = denS ρ l
  l : ∀ e, pL e = true → (fL e).den ρ' = e.den ρ
section
variable {ρ ρ' : Rho} {θ : Th} {fS : Str → Str} {fL : Lin → Lin} {pS : Str → Bool} {pL : Lin → Bool}
mutual
theorem mpV_den (h : MpOk ρ ρ' fS fL pS pL) : ∀ {v : SV}, alV pS pL v = true → den ρ' θ (mpV fS fL v) = den ρ θ v
  | .x k e, hv => by simp only [mpV, den, h.l e hv]
  | .s l, hv => by simp only [mpV, den, h.s l hv]
  | .sb t l, hv => by simp only [mpV, den, h.s l hv]
  | .ag l, hv => by simp only [mpV, den, mpVs_den h (show alVs pS pL l = true from hv)]
  | .tu l, hv => by simp only [mpV, den, mpVs_den h (show alVs pS pL l = true from hv)]
  | .fn f a b, hv => by
    simp only [alV, Bool.and_eq_true] at hv
    simp only [mpV, den, mpVs_den h hv.1, mpVs_den h hv.2]
  | .i k n, _ => rfl
  | .b b, _ => rfl
  | .p t o, _ => rfl
  | .np, _ => rfl
  | .sl t o n c, _ => rfl
  | .ns, _ => rfl
  | .nf, _ => rfl
  | .ni, _ => rfl
  | .nm, _ => rfl
  | .mp t, _ => rfl
  | .su t, _ => rfl
  | .g a b, _ => rfl
  | .un, _ => rfl
  | .sv t e, hv => by simp only [mpV, den, h.l e hv]
  | .tp t e, hv => by simp only [mpV, den, h.l e hv]
  | .pv t n, _ => rfl
  | .sx t n, hv => by cases hv
theorem mpVs_den (h : MpOk ρ ρ' fS fL pS pL) : ∀ {l : List SV}, alVs pS pL l = true → dens ρ' θ (mpVs fS fL l) = dens ρ θ l
  | [], _ => rfl
  | v :: l, hv => by
    simp only [alVs, Bool.and_eq_true] at hv
    simp only [mpVs, dens, mpV_den h hv.1, mpVs_den h hv.2]
end
theorem mpE_den (h : MpOk ρ ρ' fS fL pS pL) : ∀ {l : List (SV × SV × Nat)}, alE pS pL l = true → denE ρ' θ (mpE fS fL l) = denE ρ θ l
  | [], _ => rfl
  | (a, b, n) :: l, hv => by
    simp only [alE, Bool.and_eq_true] at hv
    simp only [mpE, denE, mpV_den h hv.1.1, mpV_den h hv.1.2, mpE_den h hv.2]
theorem mpB_ok (h : MpOk ρ ρ' fS fL pS pL) {w : World} {t : Nat} {b : Blk} (hb : alB pS pL b = true) : HoldsB ρ' θ w t (mpB fS fL b) ↔ HoldsB ρ θ w t b := by
  cases b with
  | ce ty cs ex =>
    have e := mpVs_den (θ := θ) h (show alVs pS pL cs = true from hb)
    constructor <;> rintro ⟨g, c, vs, arr, rest, f1, f2, f3, f4, f5⟩
    · exact ⟨g, c, vs, arr, rest, f1, f2, f3, e.symm.trans f4, f5⟩
    · exact ⟨g, c, vs, arr, rest, f1, f2, f3, e.trans f4, f5⟩
  | bt ty l =>
    have e := h.s l hb
    constructor <;> rintro ⟨g, c, arr, rest, f1, f2, f3, f4⟩
    · exact ⟨g, c, arr, rest, f1, f2, f3, by rw [← e]; exact f4⟩
    · exact ⟨g, c, arr, rest, f1, f2, f3, by rw [e]; exact f4⟩
  | mp es ck =>
    have e := mpE_den (θ := θ) h (show alE pS pL es = true from hb)
    constructor <;> rintro ⟨g, c, arr, f1, f2, f3⟩
    · exact ⟨g, c, arr, f1, f2, e.symm.trans f3⟩
    · exact ⟨g, c, arr, f1, f2, e.trans f3⟩
  | ob ty l =>
    have e := h.s l hb
    constructor <;> rintro ⟨g, c, arr, rest, ss, f1, f2, f3, f4⟩
    · exact ⟨g, c, arr, rest, ss, f1, f2, f3, by rw [← e]; exact f4⟩
    · exact ⟨g, c, arr, rest, ss, f1, f2, f3, by rw [e]; exact f4⟩
  | cv cs =>
    have e := mpVs_den (θ := θ) h (show alVs pS pL cs = true from hb)
    constructor <;> rintro ⟨g, c, vs, f1, f2, f3, f4⟩
    · exact ⟨g, c, vs, f1, f2, e.symm.trans f3, f4⟩
    · exact ⟨g, c, vs, f1, f2, e.trans f3, f4⟩
  | cq n b => cases hb
  | cx ty n b => cases hb
  | hb k l q =>
    simp only [alB, Bool.and_eq_true] at hb
    have e1 := h.s l hb.1
    have e2 := h.s q hb.2
    constructor <;> rintro ⟨x, f1, f2⟩
    · exact ⟨x, f1, by rw [← e1, ← e2]; exact f2⟩
    · exact ⟨x, f1, by rw [e1, e2]; exact f2⟩
end
def lookS : SL → Nat → Option SV → Option SV
  | [], _, o => o
  | (s, b) :: l, t, o => lookS l t (if t = s then some b else o)
theorem mkV_get : ∀ {l : SL} {m : Tr SV} {K : Tr SV → Bool}, mkV l m K = true → K (mkUV l m) = true ∧ ∀ t, (mkUV l m).get t = lookS l t (m.get t)
  | [], m, K, h => ⟨h, fun t => rfl⟩
  | (s, c) :: l, m, K, h => by
    simp only [mkV, Tr.set] at h
    split at h
    · rename_i hk
      have hk' : s < 2 ^ 22 := by have := Nat.le_of_ble_eq_true hk; omega
      rw [Tr.put_eq (f := 22) hk'] at h
      obtain ⟨h1, h2⟩ := mkV_get (l := l) h
      refine ⟨h1, fun t => ?_⟩
      have h3 := h2 t
      rw [Tr.up_get hk'] at h3
      exact h3
    · cases h
theorem lookS_mp {fS : Str → Str} {fL : Lin → Lin} {t : Nat} : ∀ {l : SL} {o : Option SV}, lookS (mpSl fS fL l) t (o.map (mpV fS fL)) = (lookS l t o).map (mpV fS fL)
  | [], o => rfl
  | (s, b) :: l, o => by
    simp only [mpSl, lookS]
    rw [← lookS_mp]
    congr 1
    split <;> rfl
theorem lookU_mp {fS : Str → Str} {fL : Lin → Lin} {t : Nat} : ∀ {l : ML} {o : Option Blk}, lookU (mpM fS fL l) t (o.map (mpB fS fL)) = (lookU l t o).map (mpB fS fL)
  | [], o => rfl
  | (s, b) :: l, o => by
    simp only [mpM, lookU]
    rw [← lookU_mp]
    congr 1
    split <;> rfl
theorem lookS_mem {t : Nat} {v : SV} : ∀ {l : SL} {o : Option SV}, lookS l t o = some v → (t, v) ∈ l ∨ o = some v
  | [], o, h => .inr h
  | (s, b) :: l, o, h => by
    simp only [lookS] at h
    rcases lookS_mem h with k | h
    · exact .inl (List.mem_cons_of_mem _ k)
    · by_cases e : t = s
      · rw [if_pos e] at h
        have := Option.some.inj h
        exact .inl (by rw [e, this]; simp)
      · rw [if_neg e] at h
        exact .inr h
theorem lookU_mem {t : Nat} {v : Blk} : ∀ {l : ML} {o : Option Blk}, lookU l t o = some v → (t, v) ∈ l ∨ o = some v
  | [], o, h => .inr h
  | (s, b) :: l, o, h => by
    simp only [lookU] at h
    rcases lookU_mem h with k | h
    · exact .inl (List.mem_cons_of_mem _ k)
    · by_cases e : t = s
      · rw [if_pos e] at h
        have := Option.some.inj h
        exact .inl (by rw [e, this]; simp)
      · rw [if_neg e] at h
        exact .inr h
structure Sh where
  s3 : Str
  s4 : Str
  s5 : Str
def sbT (f : Nat → Lin) : List (Nat × Int) → Lin → Lin
  | [], r => r
  | (i, a) :: l, r => sbT f l (r.add ((f i).mul a))
def sbL (f : Nat → Lin) : Lin → Lin
  | .mk c l => sbT f l (.mk c [])
def onT (p : Nat → Bool) : List (Nat × Int) → Bool
  | [] => true
  | (i, _) :: l => p i && onT p l
def onL (p : Nat → Bool) : Lin → Bool
  | .mk _ l => onT p l
def fL (z : Str) (σ : Sh) (i : Nat) : Lin := match i with
  | 1 => lenS z
  | 13 => lenS σ.s3
  | 17 => lenS σ.s4
  | 21 => lenS σ.s5
  | i => .mk 0 [(i, 1)]
def pv (i : Nat) : Bool := match i with
  | 1 => true
  | 13 => true
  | 17 => true
  | 21 => true
  | i => hiI i
theorem sbT_den {ρ ρ' : Rho} {f : Nat → Lin} {p : Nat → Bool} (h : ∀ i, p i = true → (f i).den ρ' = ρ.at i) : ∀ {l : List (Nat × Int)} {r : Lin}, onT p l = true → (sbT f l r).den ρ' = r.den ρ' + dts ρ l
  | [], r, _ => by simp [sbT, dts]
  | (i, a) :: l, r, hl => by
    simp only [onT, Bool.and_eq_true] at hl
    simp only [sbT, dts]
    rw [sbT_den h hl.2, add_den, mul_den, h i hl.1]
    omega
theorem sbL_den {ρ ρ' : Rho} {f : Nat → Lin} {p : Nat → Bool} (h : ∀ i, p i = true → (f i).den ρ' = ρ.at i) {e : Lin} (he : onL p e = true) : (sbL f e).den ρ' = e.den ρ := by
  cases e with
  | mk c l =>
    show (sbT f l (.mk c [])).den ρ' = _
    rw [sbT_den h he, const_den]
    simp [Lin.den]
def sbS (z y : Str) (σ : Sh) : Str → Str
  | [] => []
  | .a 0 :: l => z ++ sbS z y σ l
  | .a 1 :: .a 2 :: l => y ++ sbS z y σ l
  | .a 3 :: l => σ.s3 ++ sbS z y σ l
  | .a 4 :: l => σ.s4 ++ sbS z y σ l
  | .a 5 :: l => σ.s5 ++ sbS z y σ l
  | x :: l => x :: sbS z y σ l
def sbP : Str → Bool
  | [] => true
  | .c _ :: l => sbP l
  | .a 0 :: l => sbP l
  | .a 1 :: .a 2 :: l => sbP l
  | .a 3 :: l => sbP l
  | .a 4 :: l => sbP l
  | .a 5 :: l => sbP l
  | .a i :: l => Nat.ble 6 i && sbP l
theorem denS_app' {ρ : Rho} {l m : Str} : denS ρ (l ++ m) = denS ρ l ++ denS ρ m := by simp [denS]
structure SubR (ρ ρ' : Rho) (z y : Str) (σ : Sh) : Prop where
  ag : Agree ρ ρ'
  z : denS ρ' z = ρ.s 0
  y : denS ρ' y = ρ.s 1 ++ ρ.s 2
  s3 : denS ρ' σ.s3 = ρ.s 3
  s4 : denS ρ' σ.s4 = ρ.s 4
  s5 : denS ρ' σ.s5 = ρ.s 5
theorem sbS_den {ρ ρ' : Rho} {z y : Str} {σ : Sh} (h : SubR ρ ρ' z y σ) (l : Str) : sbP l = true → denS ρ' (sbS z y σ l) = denS ρ l := by
  induction l using sbS.induct with
  | case1 => intro _; rfl
  | case2 l ih => intro hp; rw [sbS, denS_app', denS_cons, ih hp, h.z]; rfl
  | case3 l ih => intro hp; rw [sbS, denS_app', denS_cons, denS_cons, ih hp, h.y]; simp [Pc.den]
  | case4 l ih => intro hp; rw [sbS, denS_app', denS_cons, ih hp, h.s3]; rfl
  | case5 l ih => intro hp; rw [sbS, denS_app', denS_cons, ih hp, h.s4]; rfl
  | case6 l ih => intro hp; rw [sbS, denS_app', denS_cons, ih hp, h.s5]; rfl
  | case7 x l q0 q1 q3 q4 q5 ih =>
    intro hp
    rw [sbS, denS_cons, denS_cons]
    · cases x with
      | c n => rw [ih hp]; rfl
      | a i =>
        have : Nat.ble 6 i = true ∧ sbP l = true := by
          rw [sbP] at hp
          · simpa using hp
          · exact fun e => q0 (by rw [e])
          · exact fun l' e1 e2 => q1 l' (by rw [e2]) e1
          · exact fun e => q3 (by rw [e])
          · exact fun e => q4 (by rw [e])
          · exact fun e => q5 (by rw [e])
        rw [ih this.2, show Pc.den ρ (.a i) = ρ.s i from rfl, show Pc.den ρ' (.a i) = ρ'.s i from rfl, h.ag.s i (Nat.le_of_ble_eq_true this.1)]
    all_goals assumption
theorem sub_ok {ρ ρ' : Rho} {z y : Str} {σ : Sh} (h : SubR ρ ρ' z y σ) : MpOk ρ ρ' (sbS z y σ) (sbL (fL z σ)) sbP (onL pv) := by
  refine ⟨fun l hl => sbS_den h l hl, fun e he => sbL_den (fun i hi => ?_) he⟩
  unfold fL
  split
  · rw [lenS_den, h.z]; exact (ρ.at_l 0).symm
  · rw [lenS_den, h.s3]; exact (ρ.at_l 3).symm
  · rw [lenS_den, h.s4]; exact (ρ.at_l 4).symm
  · rw [lenS_den, h.s5]; exact (ρ.at_l 5).symm
  · rename_i n1 n2 n3 n4
    have : hiI i = true := by
      unfold pv at hi
      split at hi <;> first | exact hi | (exfalso; first | exact n1 rfl | exact n2 rfl | exact n3 rfl | exact n4 rfl)
    simp [Lin.den, dts, hiI_at h.ag this]
def mpP (fL : Lin → Lin) : PC → PC
  | [] => []
  | e :: l => fL e :: mpP fL l
def alP (pL : Lin → Bool) : PC → Bool
  | [] => true
  | e :: l => pL e && alP pL l
theorem mpP_ok {ρ ρ' : Rho} {fS : Str → Str} {fL : Lin → Lin} {pS : Str → Bool} {pL : Lin → Bool} (h : MpOk ρ ρ' fS fL pS pL) : ∀ {l : PC}, alP pL l = true → (Sat ρ' (mpP fL l) ↔ Sat ρ l)
  | [], _ => ⟨fun _ e he => (by cases he), fun _ e he => (by cases he)⟩
  | x :: l, hl => by
    simp only [alP, Bool.and_eq_true] at hl
    have ih := mpP_ok h hl.2
    have hx := h.l x hl.1
    constructor
    · intro hs e he
      rcases List.mem_cons.1 he with rfl | he
      · rw [← hx]; exact hs _ (by simp [mpP])
      · exact ih.1 (fun e he => hs e (by simp [mpP, he])) e he
    · intro hs e he
      rcases List.mem_cons.1 he with rfl | he
      · rw [hx]; exact hs _ (by simp)
      · exact ih.2 (fun e he => hs e (by simp [he])) e he
theorem Agree.symm {ρ ρ' : Rho} (h : Agree ρ ρ') : Agree ρ' ρ := ⟨h.v.symm, fun i hi => (h.s i hi).symm⟩
theorem Agree.refl {ρ : Rho} : Agree ρ ρ := ⟨rfl, fun _ _ => rfl⟩
theorem Agree.trans {ρ ρ1 ρ2 : Rho} (h : Agree ρ ρ1) (k : Agree ρ1 ρ2) : Agree ρ ρ2 := ⟨k.v.trans h.v, fun i hi => (k.s i hi).trans (h.s i hi)⟩
end X
end Go.Proofs.YtebfahobllghnaaGreatDoor
namespace Go.Proofs.YtebfahobllghnaaGreatDoor
namespace X
open Go.RowKit B
variable {fa : Bool}
mutual
def vwV (g n : Nat) (l : Str) : SV → SV
  | .sl t o k c => match Nat.beq t g && Nat.beq o 0 && Nat.beq k n && capEq c (.q 1) with
    | true => .sb g l
    | false => .sl t o k c
  | .ag vs => .ag (vwVs g n l vs)
  | v => v
def vwVs (g n : Nat) (l : Str) : List SV → List SV
  | [] => []
  | v :: vs => vwV g n l v :: vwVs g n l vs
end
section
variable {ρ : Rho} {θ : Th} {g n : Nat} {l : Str}
mutual
theorem vwV_den (hn : n = (denS ρ l).length) : ∀ {v : SV}, den ρ θ (vwV g n l v) = den ρ θ v
  | .sl t o k c => by
    unfold vwV
    split
    · rename_i h
      simp only [Bool.and_eq_true, Nat.beq_eq] at h
      obtain ⟨⟨⟨rfl, rfl⟩, rfl⟩, h⟩ := h
      rw [capEq_ok h]
      simp [den, Cap.den, hn]
    · rfl
  | .ag vs => by simp only [vwV, den, vwVs_den hn]
  | .i k n => rfl
  | .x k e => rfl
  | .b b => rfl
  | .s l => rfl
  | .p t o => rfl
  | .np => rfl
  | .sb t l => rfl
  | .ns => rfl
  | .tu l => rfl
  | .fn f a b => rfl
  | .nf => rfl
  | .ni => rfl
  | .nm => rfl
  | .mp t => rfl
  | .su t => rfl
  | .g a b => rfl
  | .un => rfl
  | .sv t e => rfl
  | .tp t e => rfl
  | .pv t n => rfl
  | .sx t n => rfl
theorem vwVs_den (hn : n = (denS ρ l).length) : ∀ {vs : List SV}, dens ρ θ (vwVs g n l vs) = dens ρ θ vs
  | [] => rfl
  | v :: vs => by simp only [vwVs, dens, vwV_den hn, vwVs_den hn]
end
end
def vwS (g n : Nat) (l : Str) : List Nat → Tr SV → (Tr SV → Bool) → Bool
  | [], s, K => K s
  | k :: ks, s, K => match s.get k with
    | some v => s.set k (some (vwV g n l v)) fun s => vwS g n l ks s K
    | none => false
def vwM (g n : Nat) (l : Str) : List Nat → Mem → (Mem → Bool) → Bool
  | [], m, K => K m
  | t :: ts, m, K => match m.get t with
    | some (.ce ty cs ex) => m.set t (some (.ce ty (vwVs g n l cs) ex)) fun m => vwM g n l ts m K
    | _ => false
def zrS : List SV → Str
  | [] => []
  | _ :: l => .c 0 :: zrS l
def vwPut (g n : Nat) (l : Str) (b : Blk) (ks ts : List Nat) (s : Tr SV) (m : Mem) (K : Tr SV → Mem → Bool) : Bool :=
  vwS g n l ks s fun s => vwM g n l ts m fun m => m.set g (some b) fun m => K s m
def vwGo (g : Nat) (ks ts : List Nat) (s : Tr SV) (m : Mem) (pc : PC) (K : Tr SV → Mem → Bool) : Bool := match m.get g with
  | some (.ce e cs _) => match allStr cs with
    | true => frn (lenC cs 0) fun n => vwPut g n (zrS cs) (.ob e (zrS cs)) ks ts s m K
    | false => bytesC pc cs fun l => frn (lenC cs 0) fun n => match proves pc ((lenS l).sub (.mk (.ofNat n) [])) && proves pc ((Lin.mk (.ofNat n) []).sub (lenS l)) with
      | true => vwPut g n l (.bt e l) ks ts s m K
      | false => false
  | _ => false
def vwAll (pc : PC) : List Nat → Tr SV → Mem → (Tr SV → Mem → Bool) → Bool
  | [], s, m, K => K s m
  | k :: ks, s, m, K => match s.get k with
    | some (.sl g 0 _ (.q 1)) => vwGo g [k] [] s m pc fun s m => vwAll pc ks s m K
    | _ => vwAll pc ks s m K
structure VwR (ρ : Rho) (n : Nat) (s : Tr SV) (m : Mem) (s2 : Tr SV) (m2 : Mem) : Prop where
  at_ : ∀ (a : Act) (w : World) (θ : Th), At ρ n s m a w θ → At ρ n s2 m2 a w θ
  ne : ∀ t, m2.get t = none ↔ m.get t = none
  kind : ∀ t b, m2.get t = some b → ∃ b', m.get t = some b' ∧ isHb b = isHb b'
theorem VwR.refl {ρ : Rho} {n : Nat} {s : Tr SV} {m : Mem} : VwR ρ n s m s m := ⟨fun _ _ _ h => h, fun _ => Iff.rfl, fun _ b h => ⟨b, h, rfl⟩⟩
theorem VwR.trans {ρ : Rho} {n : Nat} {s s1 s2 : Tr SV} {m m1 m2 : Mem} (h : VwR ρ n s m s1 m1) (k : VwR ρ n s1 m1 s2 m2) : VwR ρ n s m s2 m2 := ⟨fun a w θ hA => k.at_ a w θ (h.at_ a w θ hA), fun t => (k.ne t).trans (h.ne t), fun t b hb => by
  obtain ⟨b1, e1, k1⟩ := k.kind t b hb
  obtain ⟨b2, e2, k2⟩ := h.kind t b1 e1
  exact ⟨b2, e2, k1.trans k2⟩⟩
theorem VwR.own {ρ : Rho} {n : Nat} {s s2 : Tr SV} {m m2 : Mem} (h : VwR ρ n s m s2 m2) {θ : Th} {t g : Nat} (ho : Own fa θ m2.get t g) : Own fa θ m.get t g := own_same (h.kind t) rfl ho
theorem zrS_len {ρ : Rho} : ∀ {l : List SV}, (denS ρ (zrS l)).length = l.length
  | [] => rfl
  | v :: l => by rw [zrS, denS_cons, List.length_append, zrS_len]; simp [Pc.den]; omega
section
variable {ρ : Rho} {n : Nat}
theorem vwS_yl {g k : Nat} {l : Str} (hn : k = (denS ρ l).length) : ∀ {ks : List Nat} {s : Tr SV}, Yl (fun K => vwS g k l ks s K) fun s' => ∀ j sv, s'.get j = some sv → ∃ v, s.get j = some v ∧ ∀ θ, den ρ θ sv = den ρ θ v
  | [], s => Yl.pure s fun j sv h => ⟨sv, h, fun _ => rfl⟩
  | k' :: ks, s => by
    unfold vwS
    split
    · rename_i v hv
      refine Yl.bind set_yl fun s1 h1 => (vwS_yl hn (ks := ks) (s := s1)).mono fun s2 h2 j sv h => ?_
      obtain ⟨v2, e1, e2⟩ := h2 j sv h
      rw [h1] at e1
      split at e1
      · rename_i e; subst e
        cases e1
        exact ⟨v, hv, fun θ => (e2 θ).trans (vwV_den hn)⟩
      · exact ⟨v2, e1, e2⟩
    · exact Yl.no
theorem vwM_yl {g k : Nat} {l : Str} (hn : k = (denS ρ l).length) : ∀ {ts : List Nat} {m : Mem}, Yl (fun K => vwM g k l ts m K) fun m' => ∀ t, (m'.get t = none ↔ m.get t = none) ∧ ∀ b', m'.get t = some b' → ∃ b, m.get t = some b ∧ isHb b' = isHb b ∧ ∀ θ w, HoldsB ρ θ w t b → HoldsB ρ θ w t b'
  | [], m => Yl.pure m fun t => ⟨Iff.rfl, fun b h => ⟨b, h, rfl, fun _ _ h => h⟩⟩
  | t' :: ts, m => by
    unfold vwM
    split
    · rename_i ty cs ex hv
      refine Yl.bind set_yl fun m1 h1 => (vwM_yl hn (ts := ts) (m := m1)).mono fun m2 h2 t => ?_
      obtain ⟨e1, e2⟩ := h2 t
      rw [h1] at e1
      refine ⟨?_, fun b' hb' => ?_⟩
      · rw [e1]
        split
        · rename_i e; subst e; simp [hv]
        · exact Iff.rfl
      · obtain ⟨b, q1, q0, q2⟩ := e2 b' hb'
        rw [h1] at q1
        split at q1
        · rename_i e; subst e
          cases q1
          refine ⟨_, hv, q0, fun θ w hh => q2 θ w ?_⟩
          obtain ⟨g, c, vs, arr, rest, f1, f2, f3, f4, f5⟩ := hh
          exact ⟨g, c, vs, arr, rest, f1, f2, f3, (vwVs_den hn).trans f4, f5⟩
        · exact ⟨b, q1, q0, q2⟩
    · exact Yl.no
theorem vwPut_yl {g k : Nat} {l : Str} {b : Blk} {e : Nat} {cs : List SV} {ex : Bool} {ks ts : List Nat} {s : Tr SV} {m : Mem} (hsat : k = (denS ρ l).length) (hg : m.get g = some (.ce e cs ex)) (hkd : isHb b = 0) (hb : ∀ θ w, HoldsB ρ θ w g (.ce e cs ex) → HoldsB ρ θ w g b) : Yl (fun K => vwPut g k l b ks ts s m fun s m => K (s, m)) (fun o : Tr SV × Mem => VwR ρ n s m o.1 o.2) := by
  unfold vwPut
  refine Yl.bind (vwS_yl hsat) fun s1 h1 => Yl.bind (vwM_yl hsat) fun m1 h2 => Yl.bind set_yl fun m2 h3 => Yl.pure (α := Tr SV × Mem) (s1, m2) ?_
  have hn : ∀ t, m2.get t = none ↔ m.get t = none := fun t => by
    rw [h3]
    split
    · rename_i e; subst e; simp [hg]
    · exact (h2 t).1
  have kd : ∀ t b', m2.get t = some b' → ∃ b0, m.get t = some b0 ∧ isHb b' = isHb b0 := fun t b' hb' => by
    rw [h3] at hb'
    split at hb'
    · rename_i e; subst e
      cases hb'
      exact ⟨_, hg, hkd⟩
    · obtain ⟨b0, q1, q0, _⟩ := (h2 t).2 b' hb'
      exact ⟨b0, q1, q0⟩
  refine ⟨fun a w θ hA => ⟨hA.defers, hA.size, fun j sv hj => by
    obtain ⟨v, q1, q2⟩ := h1 j sv hj
    rw [q2]
    exact hA.slot j v q1, ⟨fun t b' hb' => by
      rw [h3] at hb'
      split at hb'
      · rename_i e; subst e
        cases hb'
        exact hb θ w (hA.mem.holds t _ hg)
      · obtain ⟨b0, q1, _, q2⟩ := (h2 t).2 b' hb'
        exact q2 θ w (hA.mem.holds t b0 q1), fun s t g q1 q2 => hA.mem.inj s t g (own_same (kd s) rfl q1) (own_same (kd t) rfl q2)⟩⟩, hn, kd⟩
theorem vwGo_yl {g : Nat} {ks ts : List Nat} {s : Tr SV} {m : Mem} {pc : PC} (hs : Sat ρ pc) : Yl (fun K => vwGo g ks ts s m pc fun s m => K (s, m)) (fun o : Tr SV × Mem => VwR ρ n s m o.1 o.2) := by
  unfold vwGo
  split
  · rename_i e cs ex hg
    split
    · rename_i hal
      refine Yl.bind frn_yl fun k hk => ?_
      have hk : k = cs.length := by rw [hk, lenC0]
      refine vwPut_yl (by rw [hk, zrS_len]) hg rfl fun θ w hh => ?_
      obtain ⟨g, c, vs, arr, rest, f1, f2, f3, f4, f5, f6, f7⟩ := hh
      obtain ⟨ss, h1⟩ := allStr_ok hal f4
      exact ⟨g, c, arr, rest, ss, f1, f2, f3, by rw [zrS_len, ← dens_len f4, h1, List.length_map], by rw [← h1]; exact f6⟩
    · refine Yl.bind (bytesC_yl hs) fun l hl => Yl.bind frn_yl fun k hk => ?_
      have hk : k = cs.length := by rw [hk, lenC0]
      split
      · rename_i hc
        simp only [Bool.and_eq_true] at hc
        have p1 := proves_ok hc.1 hs
        have p2 := proves_ok hc.2 hs
        rw [sub_den, const_den, lenS_den] at p1 p2
        have hsat : k = (denS ρ l).length := by
          have : (Int.ofNat k) = (k : Int) := rfl
          omega
        refine vwPut_yl hsat hg rfl fun θ w hh => ?_
        obtain ⟨g, c, vs, arr, rest, f1, f2, f3, f4, f5, f6, f7⟩ := hh
        have := hl θ vs f4
        subst this
        exact ⟨g, c, arr, rest, f1, f2, f3, f6⟩
      · exact Yl.no
  · exact Yl.no
theorem vwAll_yl {pc : PC} (hs : Sat ρ pc) : ∀ {ks : List Nat} {s : Tr SV} {m : Mem}, Yl (fun K => vwAll pc ks s m fun s m => K (s, m)) (fun o : Tr SV × Mem => VwR ρ n s m o.1 o.2)
  | [], s, m => Yl.pure (α := Tr SV × Mem) (s, m) VwR.refl
  | k :: ks, s, m => by
    unfold vwAll
    split
    · rename_i g x hk
      exact Yl.bind (α := Tr SV × Mem) (β := Tr SV × Mem) (F := fun K => vwGo g [k] [] s m pc fun s m => K (s, m)) (G := fun o K => vwAll pc ks o.1 o.2 fun s m => K (s, m)) (vwGo_yl hs) fun o ho => (vwAll_yl hs).mono fun r hr => ho.trans hr
    · exact vwAll_yl hs
theorem VwR.pre {P : Program} {s : Tr SV} {m : Mem} {s2 : Tr SV} {m2 : Mem} {nx : Nat} {x : Code} {r : AX × OS} (h : VwR ρ n s m s2 m2) (hr : EvR P ρ n x s2 m2 nx r) : EvR P ρ n x s m nx r := by
  refine ⟨hr.pc, hr.le, fun t q1 q2 => hr.new t ((h.ne t).2 q1) q2, fun a w θ hA hfr => ?_⟩
  refine (hr.run a w θ (h.at_ a w θ hA) hfr).mono fun e' a' w' ⟨he, θ', k1, k2⟩ => ⟨he, θ', k1, k2.le, k2.new, k2.mem, k2.ext.mono fun g _ ⟨t, z⟩ => ⟨t, h.own z⟩, fun g hg => ?_⟩
  rcases k2.own g hg with ⟨t, z⟩ | z
  · exact .inl ⟨t, h.own z⟩
  · exact .inr z
end
end X
end Go.Proofs.YtebfahobllghnaaGreatDoor
