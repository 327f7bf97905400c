/-
  TopEdits: VL8, VL9, VLf, VLg, VLh, PnD.
-/
import Derived.Test.YtebfahobllghnaaGreatDoorEdA9
set_option linter.unusedSimpArgs false
set_option linter.unusedVariables false
namespace Go.Proofs.YtebfahobllghnaaGreatDoor
namespace X
open Go.RowKit B
variable {fa : Bool}
structure Cc where
  Y : Str
  pc1 : PC
  cl : List (PC × Str × Sh)
  i : Sh
  f : Sh
  vk : List Nat
def hdE (enc : UInt8 → List UInt8) : List UInt8 → List UInt8
  | [] => []
  | b :: _ => enc b
def tlE (enc : UInt8 → List UInt8) : List UInt8 → List UInt8
  | [] => []
  | _ :: r => r.flatMap enc
theorem hd_tl (enc : UInt8 → List UInt8) (r : List UInt8) : hdE enc r ++ tlE enc r = r.flatMap enc := by cases r <;> simp [hdE, tlE]
def enc1 (b : UInt8) : List UInt8 := [b]
theorem enc1_flat (l : List UInt8) : l.flatMap enc1 = l := by
  induction l with
  | nil => rfl
  | cons a l ih => rw [List.flatMap_cons, ih]; rfl
def dnK (enc : UInt8 → List UInt8) (r : List UInt8) (σ : Sh) (ρ : Rho) : Rho := ⟨ρ.v, fun i => match i with
  | 0 => ρ.s 0 ++ ρ.s 1
  | 1 => hdE enc r
  | 2 => tlE enc r
  | 3 => denS ρ σ.s3
  | 4 => denS ρ σ.s4
  | 5 => denS ρ σ.s5
  | i => ρ.s i⟩
structure JK (enc : UInt8 → List UInt8) (ρ : Rho) (rest : List UInt8) : Prop where
  s1 : ρ.s 1 = hdE enc rest
  s2 : ρ.s 2 = tlE enc rest
section
variable {enc : UInt8 → List UInt8} {r : List UInt8}
theorem dnK_agree {σ : Sh} {ρ : Rho} : Agree ρ (dnK enc r σ ρ) := ⟨rfl, fun i h => by
  obtain ⟨k, rfl⟩ : ∃ k, i = k + 6 := ⟨i - 6, by omega⟩
  rfl⟩
theorem JK.dn {σ : Sh} {ρ : Rho} {b : UInt8} (h : JK enc ρ (b :: r)) : JK enc (dnK enc r σ ρ) r ∧ (dnK enc r σ ρ).s 0 = ρ.s 0 ++ enc b := by
  refine ⟨⟨rfl, rfl⟩, ?_⟩
  show ρ.s 0 ++ ρ.s 1 = _
  rw [h.s1]; rfl
def sId' : Sh := ⟨[.a 3], [.a 4], [.a 5]⟩
def zId : Str := [.a 0]
def yK (pk : Str) : Str := pk ++ [.a 2]
def zK (pk : Str) : Str := .a 0 :: pk
def yN' : Str := [.a 2]
theorem pk_sub {ρ : Rho} {pk : Str} (h : denS ρ pk = ρ.s 1) : SubR ρ ρ zId (yK pk) sId' :=
  ⟨Agree.refl, by simp [zId, denS, Pc.den], by rw [yK, denS_app', h]; simp [denS, Pc.den], by simp [sId', denS, Pc.den], by simp [sId', denS, Pc.den], by simp [sId', denS, Pc.den]⟩
theorem dn_sub {σ : Sh} {ρ : Rho} {pk : Str} {b : UInt8} (h : denS ρ pk = ρ.s 1) (hJ : JK enc ρ (b :: r)) : SubR (dnK enc r σ ρ) ρ (zK pk) yN' σ :=
  ⟨dnK_agree.symm, by rw [zK, denS_cons, h]; rfl, by
    show denS ρ [.a 2] = hdE enc r ++ tlE enc r
    rw [hd_tl, show denS ρ [.a 2] = ρ.s 2 by simp [denS, Pc.den], hJ.s2]; rfl, rfl, rfl, rfl⟩
end
structure CcR (ρ0 : Rho) (c : Cc) (enc : UInt8 → List UInt8) (l : List UInt8) (I : Rho → Prop) : Prop where
  Y : denS ρ0 c.Y = l.flatMap enc
  start : ∀ ρ, Agree ρ0 ρ → ρ.s 0 = [] → ρ.s 3 = denS ρ0 c.i.s3 → ρ.s 4 = denS ρ0 c.i.s4 → ρ.s 5 = denS ρ0 c.i.s5 → I ρ
  one : ∀ ρ z b r, Agree ρ0 ρ → JK enc ρ (b :: r) → ρ.s 0 = z.flatMap enc → z ++ b :: r = l → I ρ → ∃ k, k ∈ c.cl ∧ denS ρ k.2.1 = ρ.s 1 ∧ Sat ρ k.1 ∧ Sat ρ c.pc1 ∧ I (dnK enc r k.2.2 ρ)
  fin : ∀ ρ, Agree ρ0 ρ → ρ.s 0 = denS ρ0 c.Y → I ρ → denS ρ0 c.f.s3 = ρ.s 3 ∧ denS ρ0 c.f.s4 = ρ.s 4 ∧ denS ρ0 c.f.s5 = ρ.s 5
def r3 (l : Str) : PC × Str × Str := ([.mk 0 [(13, -1)]], .a 3 :: l, l)
def r0 : Rules := ⟨[r3 [.a 1], r3 [.c 92, .a 1], r3 [.c 36], r3 [.c 125], r3 [.c 92]], []⟩
theorem r0_ok {ρ : Rho} : RulesOk ρ r0 := ⟨fun g x y h hs => by
  have key : Sat ρ [.mk 0 [(13, -1)]] → ρ.s 3 = [] := fun hs => by
    have h1 := hs _ (List.mem_cons_self)
    have h2 : ρ.at 13 = ((ρ.s 3).length : Int) := ρ.at_l 3
    simp only [Lin.den, dts, h2] at h1
    exact List.eq_nil_of_length_eq_zero (by omega)
  have all : ∀ l, (g, x, y) = r3 l → denS ρ x = denS ρ y := fun l h => by
    cases h
    rw [denS_cons]
    show ρ.s 3 ++ _ = _
    rw [key hs]; rfl
  simp only [r0, List.mem_cons, List.not_mem_nil, or_false] at h
  rcases h with h | h | h | h | h <;> exact all _ h, fun _ _ _ h => (by cases h)⟩
def mpT (fS : Str → Str) (fL : Lin → Lin) (T : TS) : TS := ⟨mpSl fS fL T.s, mpM fS fL T.l, mpP fL T.pc, T.nx⟩
def sbT' (z y : Str) (σ : Sh) (T : TS) : TS := mpT (sbS z y σ) (sbL (fL z σ)) T
def allF {α : Type} (p : α → Bool) : List α → Bool
  | [] => true
  | x :: l => p x && allF p l
def anyF {α : Type} (p : α → Bool) : List α → Bool
  | [] => false
  | x :: l => match p x with
    | true => true
    | false => anyF p l
theorem allF_ok {α : Type} {p : α → Bool} : ∀ {l : List α}, allF p l = true → ∀ x, x ∈ l → p x = true
  | [], _, x, h => by cases h
  | y :: l, hp, x, h => by
    simp only [allF, Bool.and_eq_true] at hp
    rcases List.mem_cons.1 h with rfl | h
    · exact hp.1
    · exact allF_ok hp.2 x h
theorem anyF_ok {α : Type} {p : α → Bool} : ∀ {l : List α}, anyF p l = true → ∃ x, x ∈ l ∧ p x = true
  | [], h => by cases h
  | y :: l, h => by
    simp only [anyF] at h
    split at h
    · rename_i hy; exact ⟨y, by simp, hy⟩
    · obtain ⟨x, h1, h2⟩ := anyF_ok h; exact ⟨x, by simp [h1], h2⟩
def statT (lo hi : Nat) (T : TS) : Bool :=
  Nat.ble lo T.nx && Nat.ble T.nx hi && allS (fun _ v => alV sbP (onL pv) v) T.s && allL (fun _ b => alB sbP (onL pv) b) T.l && alP (onL pv) T.pc && mkV T.s .lf fun _ => mkK T.l .lf fun _ => true
def landT (lo : Nat) (pk : Str) (σ : Sh) (s' : Tr SV) (m' : Mem) (pc' : PC) (T : TS) : Bool :=
  mkV (sbT' (zK pk) yN' σ T).s .lf fun _ => mkK (sbT' (zK pk) yN' σ T).l .lf fun m1 => matchOk r0 lo (sbT' (zK pk) yN' σ T) m1 s' m' pc'
def roundT (P : Program) (sm : SumT) (fuel : Nat) (body : Code) (c : Cc) (lo hi : Nat) (Ts : List TS) (T : TS) : Bool :=
  statT lo hi T && allF (fun k => mkV (sbT' zId (yK k.2.1) sId' T).s .lf fun s0 => mkK (sbT' zId (yK k.2.1) sId' T).l .lf fun m0 => ev P sm fuel body s0 m0 T.nx (k.1 ++ (c.pc1 ++ (sbT' zId (yK k.2.1) sId' T).pc)) fun e s' m' nx' pc' => Nat.ble nx' hi && match e with
      | .normal => vwAll pc' c.vk s' m' fun s' m' => anyF (landT lo k.2.1 k.2.2 s' m' pc') Ts
      | _ => false) c.cl
section
variable {ρ ρ' : Rho} {θ : Th} {a : Act} {w : World} {n : Nat} {s0 s1 : Tr SV} {m0 m1 : Mem} {fS : Str → Str} {fL : Lin → Lin} {pS : Str → Bool} {pL : Lin → Bool}
theorem own_mp (hm : ∀ t, m1.get t = (m0.get t).map (mpB fS fL)) {t g : Nat} : Own fa θ m1.get t g ↔ Own fa θ m0.get t g := by
  constructor
  · refine own_same (fun b hb => ?_) rfl
    rw [hm] at hb
    cases hq : m0.get t with
    | none => rw [hq] at hb; cases hb
    | some b0 => rw [hq] at hb; cases hb; exact ⟨b0, rfl, mpB_kind _ _ _⟩
  · exact own_same (fun b hb => ⟨_, by rw [hm, hb]; rfl, (mpB_kind _ _ _).symm⟩) rfl
theorem mem_mp (h : MpOk ρ ρ' fS fL pS pL) (hm : ∀ t, m1.get t = (m0.get t).map (mpB fS fL)) (h2 : ∀ t b, m0.get t = some b → alB pS pL b = true) : MemOk ρ' θ m1.get w ↔ MemOk ρ θ m0.get w := by
  constructor
  · intro hM
    exact ⟨fun t b hb => (mpB_ok h (h2 t b hb)).1 (hM.holds t _ (by rw [hm, hb]; rfl)), fun s t g q1 q2 => hM.inj s t g ((own_mp hm).2 q1) ((own_mp hm).2 q2)⟩
  · intro hM
    refine ⟨fun t b hb => ?_, fun s t g q1 q2 => hM.inj s t g ((own_mp hm).1 q1) ((own_mp hm).1 q2)⟩
    rw [hm] at hb
    cases hq : m0.get t with
    | none => rw [hq] at hb; cases hb
    | some b0 =>
      rw [hq] at hb
      cases hb
      exact (mpB_ok h (h2 t b0 hq)).2 (hM.holds t b0 hq)
theorem at_mp (h : MpOk ρ ρ' fS fL pS pL) (hs : ∀ t, s1.get t = (s0.get t).map (mpV fS fL)) (hm : ∀ t, m1.get t = (m0.get t).map (mpB fS fL))
    (h1 : ∀ t v, s0.get t = some v → alV pS pL v = true) (h2 : ∀ t b, m0.get t = some b → alB pS pL b = true) : At ρ' n s1 m1 a w θ ↔ At ρ n s0 m0 a w θ := by
  constructor
  · intro hA
    exact ⟨hA.defers, hA.size, fun k sv hk => by rw [← mpV_den h (h1 k sv hk)]; exact hA.slot k _ (by rw [hs, hk]; rfl), (mem_mp h hm h2).1 hA.mem⟩
  · intro hA
    refine ⟨hA.defers, hA.size, fun k sv hk => ?_, (mem_mp h hm h2).2 hA.mem⟩
    rw [hs] at hk
    cases hq : s0.get k with
    | none => rw [hq] at hk; cases hk
    | some v =>
      rw [hq] at hk
      cases hk
      rw [mpV_den h (h1 k v hq)]
      exact hA.slot k v hq
theorem sp_to {nx nx' : Nat} {θp : Th} {R R1 : Nat → Option Blk} {wp : World} {M : Nat → Option Blk} (h : SP ρ nx nx' θp M wp θ R w) (hm : MemOk ρ' θ R1 w) (hne : ∀ {fa : Bool} (t g : Nat), Own fa θ R1 t g → Own fa θ R t g) : SP ρ' nx nx' θp M wp θ R1 w :=
  ⟨h.le, h.new, hm, h.ext, fun g ⟨t, q⟩ => h.own g ⟨t, hne t g q⟩⟩
end
theorem mp_ne {fS : Str → Str} {fL : Lin → Lin} {m0 m1 : Mem} (hm : ∀ t, m1.get t = (m0.get t).map (mpB fS fL)) (t : Nat) : m1.get t ≠ none ↔ m0.get t ≠ none := by rw [hm]; cases m0.get t <;> simp
theorem statT_ok {lo hi : Nat} {T : TS} (h : statT lo hi T = true) : lo ≤ T.nx ∧ T.nx ≤ hi ∧ (∀ t v, (mkUV T.s .lf).get t = some v → alV sbP (onL pv) v = true) ∧ (∀ t b, (mkU T.l .lf).get t = some b → alB sbP (onL pv) b = true) ∧ alP (onL pv) T.pc = true ∧
    (∀ t, (mkUV T.s .lf).get t = lookS T.s t none) ∧ (∀ t, (mkU T.l .lf).get t = lookU T.l t none) := by
  simp only [statT, Bool.and_eq_true, Nat.ble_eq] at h
  obtain ⟨⟨⟨⟨⟨h1, h2⟩, h3⟩, h4⟩, h5⟩, h6⟩ := h
  have h3 := allS_ok h3
  have h4 := allL_ok h4
  have lfS : ∀ t, Tr.get (α := SV) .lf t = none := fun t => by simp [Tr.get]
  have lfB : ∀ t, Tr.get (α := Blk) .lf t = none := fun t => by simp [Tr.get]
  obtain ⟨h7, g1⟩ := mkV_get h6
  obtain ⟨_, g2⟩ := mkK_get h7
  refine ⟨h1, h2, fun t v h => ?_, fun t v h => ?_, h5, fun t => by rw [g1, lfS], fun t => by rw [g2, lfB]⟩
  · rw [g1, lfS] at h
    rcases lookS_mem h with h | h
    · exact h3 t v h
    · cases h
  · rw [g2, lfB] at h
    rcases lookU_mem h with h | h
    · exact h4 t v h
    · cases h
theorem mapS {T : TS} {fS : Str → Str} {fL : Lin → Lin} {r s0 : Tr SV} (h0 : ∀ t, s0.get t = lookS T.s t none) (h : ∀ t, r.get t = lookS (mpSl fS fL T.s) t (Tr.get .lf t)) (t : Nat) : r.get t = (s0.get t).map (mpV fS fL) := by
  rw [h t, h0 t, show Tr.get (α := SV) .lf t = none by simp [Tr.get]]
  exact lookS_mp (o := none)
theorem mapB {T : TS} {fS : Str → Str} {fL : Lin → Lin} {r m0 : Mem} (h0 : ∀ t, m0.get t = lookU T.l t none) (h : ∀ t, r.get t = lookU (mpM fS fL T.l) t (Tr.get .lf t)) (t : Nat) : r.get t = (m0.get t).map (mpB fS fL) := by
  rw [h t, h0 t, show Tr.get (α := Blk) .lf t = none by simp [Tr.get]]
  exact lookU_mp (o := none)
theorem rounds_ok {P : Program} {n : Nat} (hm : P.follows .mixedOrders = true) {sm : SumT} {ρ0 : Rho} (hsm : ∀ ρ, Agree ρ0 ρ → SumOk P ρ sm) {fuel lo hi : Nat} {body : Code} {Ts : List TS} {c : Cc} {enc : UInt8 → List UInt8} {l : List UInt8} {I : Rho → Prop} (hd : dstOk n body = true)
    (hk : allF (roundT P sm fuel body c lo hi Ts) Ts = true) (hc : CcR ρ0 c enc l I) :
    ∀ (rest z : List UInt8) (ρ : Rho) (T : TS), T ∈ Ts → Agree ρ0 ρ → JK enc ρ rest → ρ.s 0 = z.flatMap enc → z ++ rest = l → I ρ → Sat ρ T.pc → ∃ ρ' T', T' ∈ Ts ∧ Agree ρ0 ρ' ∧ ρ'.s 0 = denS ρ0 c.Y ∧ JK enc ρ' [] ∧ I ρ' ∧ Sat ρ' T'.pc ∧
      ∀ (Q : Exit → Act → World → Prop) (a : Act) (w wp : World) (θ θp : Th) (Mp : Nat → Option Blk), At ρ n (mkUV T.s .lf) (mkU T.l .lf) a w θ → (∀ t, T.nx ≤ t → t < hi → θ t = none) → (∀ t, lo ≤ t → t < hi → θp t = none) → SP ρ lo T.nx θp Mp wp θ (mkU T.l .lf).get w →
        (∀ a' w' θ', At ρ' n (mkUV T'.s .lf) (mkU T'.l .lf) a' w' θ' → SP ρ' lo T'.nx θp Mp wp θ' (mkU T'.l .lf).get w' → LoopWp P body Q a' w') → LoopWp P body Q a w := by
  have hk := allF_ok hk
  intro rest
  induction rest with
  | nil =>
    intro z ρ T hT hag hJ h0 hcat hI hpc
    exact ⟨ρ, T, hT, hag, by rw [h0, hc.Y, ← hcat, List.append_nil], hJ, hI, hpc, fun Q a w wp θ θp Mp hA hf1 hf2 hsp cont => cont a w θ hA hsp⟩
  | cons b r ih =>
    intro z ρ T hT hag hJ h0 hcat hI hpc
    have hkT := hk T hT
    simp only [roundT, Bool.and_eq_true] at hkT
    obtain ⟨hst, hcl⟩ := hkT
    obtain ⟨hlo, hhi, b1, b2, b3, g0, g1⟩ := statT_ok hst
    obtain ⟨k, hkm, hpk, hs1, hs2, hI2⟩ := hc.one ρ z b r hag hJ h0 hcat hI
    have hps := sub_ok (pk_sub hpk)
    have hev := allF_ok hcl k hkm
    have jS := mkV_get hev
    have hev := jS.1
    have jB := mkK_get hev
    have hev := jB.1
    have esP := mapS (fS := sbS zId (yK k.2.1) sId') (fL := sbL (fL zId sId')) g0 jS.2
    have emP := mapB (fS := sbS zId (yK k.2.1) sId') (fL := sbL (fL zId sId')) g1 jB.2
    generalize mkUV (sbT' zId (yK k.2.1) sId' T).s .lf = sK at hev esP
    generalize mkU (sbT' zId (yK k.2.1) sId' T).l .lf = mK at hev emP
    have hsat : Sat ρ (k.1 ++ (c.pc1 ++ (sbT' zId (yK k.2.1) sId' T).pc)) := fun e he => by
      rcases List.mem_append.1 he with h | h
      · exact hs1 e h
      · rcases List.mem_append.1 h with h | h
        · exact hs2 e h
        · exact (mpP_ok hps b3).2 hpc e h
    obtain ⟨⟨e, o⟩, hr, hk', _⟩ := ev_yl hm (hsm ρ hag) fuel n body sK mK T.nx _ hsat hd (fun r => Nat.ble r.2.nx hi && match r.1 with
      | .normal => vwAll r.2.pc c.vk r.2.s r.2.m fun s' m' => anyF (landT lo k.2.1 k.2.2 s' m' r.2.pc) Ts
      | _ => false) hev
    simp only [Bool.and_eq_true, Nat.ble_eq] at hk'
    obtain ⟨hle, hk'⟩ := hk'
    cases e with
    | exit i => cases hk'
    | ret => cases hk'
    | normal =>
      obtain ⟨⟨s9, m9⟩, hvw, hk', _⟩ := vwAll_yl (n := n) hr.pc (fun p => anyF (landT lo k.2.1 k.2.2 p.1 p.2 o.pc) Ts) hk'
      simp only at hvw
      obtain ⟨T2, hT2, hl⟩ := anyF_ok hk'
      have hkT2 := hk T2 hT2
      simp only [roundT, Bool.and_eq_true] at hkT2
      obtain ⟨hlo2, hhi2, a1, a2, a3, q0, q1⟩ := statT_ok hkT2.1
      have gS := mkV_get hl
      obtain ⟨hl, hS1⟩ := mkV_told hl
      have gB := mkK_get hl
      obtain ⟨hl, hT1⟩ := mkK_told hl
      have es := mapS (fS := sbS (zK k.2.1) yN' k.2.2) (fL := sbL (fL (zK k.2.1) k.2.2)) q0 gS.2
      have em := mapB (fS := sbS (zK k.2.1) yN' k.2.2) (fL := sbL (fL (zK k.2.1) k.2.2)) q1 gB.2
      obtain ⟨al, hmt⟩ := match_ok (n := n) (hi := hi) hr.pc r0_ok (T := sbT' (zK k.2.1) yN' k.2.2 T2) hT1 hS1 hhi2 hl
      obtain ⟨hJ2, h02⟩ := hJ.dn (σ := k.2.2)
      have hst := sub_ok (dn_sub (σ := k.2.2) (ρ := ρ) hpk hJ)
      have hpc2 : Sat (dnK enc r k.2.2 ρ) T2.pc := (mpP_ok hst a3).1 hmt.pc
      obtain ⟨ρ', T', z1, z2, z3, z4, z5, z6, z7⟩ := ih (z ++ [b]) (dnK enc r k.2.2 ρ) T2 hT2 (hag.trans dnK_agree) hJ2 (by rw [h02, h0]; simp) (by rw [← hcat]; simp) hI2 hpc2
      refine ⟨ρ', T', z1, z2, z3, z4, z5, z6, fun Q a w wp θ θp Mp hA hf1 hf2 hsp cont => ?_⟩
      have hA0 := (at_mp hps esP emP b1 b2).2 hA
      refine loop_step (wp_mono (hr.run a w θ hA0 fun t q1 q2 => hf1 t q1 (by simp only at q2; omega)).wp fun e a' w' hp => ?_)
      obtain ⟨he, θ1, hA1, hsp1⟩ := hp
      cases he
      have hA9 := hvw.at_ a' w' θ1 hA1
      have hA2 := (at_mp hst es em a1 a2).1 (hmt.at_ a' w' θ1 hA9)
      have hsp0 : SP ρ lo T.nx θp Mp wp θ mK.get w := sp_to hsp hA0.mem fun t g h => (own_mp emP).1 h
      have hsp2 := (hsp0.trans (sp_to hsp1 hA9.mem fun t g h => hvw.own h) hlo hr.le).wk (Nat.le_refl _) hle
      have hsp3 := hmt.sp hA9 hsp2 (Nat.le_refl _) hlo2 hf2
      have hsp4 := sp_to hsp3 hA2.mem fun t g h => (own_mp em).2 h
      exact z7 Q a' w' wp _ θp Mp hA2 (fun t q1 q2 => by unfold thN; rw [if_pos ⟨by have : T2.nx ≤ t := q1; omega, q2⟩, if_neg (by have : T2.nx ≤ t := q1; show ¬ t < T2.nx; omega)]) hf2 hsp4 cont
end X
end Go.Proofs.YtebfahobllghnaaGreatDoor
namespace Go.Proofs.YtebfahobllghnaaGreatDoor
namespace X
open Go.RowKit B
def selK : List Nat → Mem → Mem → (Mem → Bool) → Bool
  | [], _, r, K => K r
  | u :: l, m, r, K => match m.get u with
    | some b => r.set u (some b) fun r => selK l m r K
    | none => false
def rmN : List Nat → Mem → (Mem → Bool) → Bool
  | [], m, K => K m
  | u :: l, m, K => m.set u none fun m => rmN l m K
def tagsOf (al : Al) (lo : Nat) : ML → List Nat
  | [] => []
  | (t, _) :: l => tagOf al lo t :: tagsOf al lo l
theorem mkV_yl {l : SL} {m : Tr SV} : Yl (fun K => mkV l m K) fun r => r = mkUV l m ∧ ∀ t, r.get t = lookS l t (m.get t) := fun K h => ⟨_, ⟨rfl, (mkV_get h).2⟩, (mkV_get h).1, fun K' h' => (mkV_get h').1⟩
theorem mkK_yl {l : ML} {m : Mem} : Yl (fun K => mkK l m K) fun r => r = mkU l m ∧ ∀ t, r.get t = lookU l t (m.get t) := fun K h => ⟨_, ⟨rfl, (mkK_get h).2⟩, (mkK_get h).1, fun K' h' => (mkK_get h').1⟩
theorem selK_yl : ∀ {us : List Nat} {m r : Mem}, Yl (fun K => selK us m r K) fun q => ∀ t, (t ∈ us → q.get t = m.get t) ∧ (t ∉ us → q.get t = r.get t)
  | [], m, r => Yl.pure r fun t => ⟨fun h => by simp at h, fun _ => rfl⟩
  | u :: us, m, r => by
    unfold selK
    split
    · rename_i b hb
      refine Yl.bind set_yl fun r1 hr1 => (selK_yl (us := us) (m := m) (r := r1)).mono fun q hq t => ?_
      obtain ⟨h1, h2⟩ := hq t
      by_cases hin : t ∈ us
      · exact ⟨fun _ => h1 hin, fun h => absurd (by simp [hin]) h⟩
      · refine ⟨fun h => ?_, fun h => ?_⟩
        · rcases List.mem_cons.1 h with rfl | h
          · rw [h2 hin, hr1, if_pos rfl, hb]
          · exact absurd h hin
        · rw [h2 hin, hr1, if_neg fun e => h (by simp [e])]
    · exact Yl.no
theorem rmN_yl : ∀ {us : List Nat} {m : Mem}, Yl (fun K => rmN us m K) fun q => ∀ t, (t ∈ us → q.get t = none) ∧ (t ∉ us → q.get t = m.get t)
  | [], m => Yl.pure m fun t => ⟨fun h => by simp at h, fun _ => rfl⟩
  | u :: us, m => by
    unfold rmN
    refine Yl.bind set_yl fun r1 hr1 => (rmN_yl (us := us) (m := r1)).mono fun q hq t => ?_
    obtain ⟨h1, h2⟩ := hq t
    by_cases hin : t ∈ us
    · exact ⟨fun _ => h1 hin, fun h => absurd (by simp [hin]) h⟩
    · refine ⟨fun h => ?_, fun h => ?_⟩
      · rcases List.mem_cons.1 h with rfl | h
        · rw [h2 hin, hr1, if_pos rfl]
        · exact absurd h hin
      · rw [h2 hin, hr1, if_neg fun e => h (by simp [e])]
theorem prGo_yl {lo : Nat} {m1 m : Mem} : ∀ {f : Nat} {l al : Al}, Yl (fun K => prGo lo m1 m f l al K) fun _ => True
  | 0, _, _ => Yl.no
  | f + 1, [], al => Yl.pure al trivial
  | f + 1, (t, u) :: l, al => by
    simp only [prGo]
    split
    · exact prGo_yl
    · exact prGo_yl
theorem mem_tagsOf {al : Al} {lo t : Nat} {b : Blk} : ∀ {l : ML}, (t, b) ∈ l → tagOf al lo t ∈ tagsOf al lo l
  | (s, c) :: l, h => by
    rcases List.mem_cons.1 h with h | h
    · cases h; simp [tagsOf]
    · simp [tagsOf, mem_tagsOf h]
def lowR (enc : UInt8 → List UInt8) (ρ : Rho) (l : List UInt8) (σ : Sh) : Rho := ⟨ρ.v, fun i => match i with
  | 0 => []
  | 1 => hdE enc l
  | 2 => tlE enc l
  | 3 => denS ρ σ.s3
  | 4 => denS ρ σ.s4
  | 5 => denS ρ σ.s5
  | i => ρ.s i⟩
theorem lowR_agree {enc : UInt8 → List UInt8} {ρ : Rho} {l : List UInt8} {σ : Sh} : Agree ρ (lowR enc ρ l σ) := ⟨rfl, fun i h => by
  obtain ⟨k, rfl⟩ : ∃ k, i = k + 6 := ⟨i - 6, by omega⟩
  rfl⟩
theorem lowR_sub {enc : UInt8 → List UInt8} {l : List UInt8} {ρ : Rho} {Y : Str} {σ : Sh} (h : denS ρ Y = l.flatMap enc) : SubR (lowR enc ρ l σ) ρ [] Y σ :=
  ⟨lowR_agree.symm, rfl, by show denS ρ Y = hdE enc l ++ tlE enc l; rw [hd_tl]; exact h, rfl, rfl, rfl⟩
def okEnd (nx : Nat) (m : Mem) (T : TS) : Bool := allL (fun t _ => Nat.blt t T.nx && (Nat.ble nx t || match m.get t with | some _ => true | none => false)) T.l
def endT (Y : Str) (f : Sh) (nx : Nat) (m m1 : Mem) (pc : PC) (T : TS) (K : Tr SV → Mem → PC → Bool) : Bool :=
  match allP (mpP (sbL (fL Y f)) T.pc ++ pc) [.mk (-1) []] with
  | true => true
  | false => match okEnd nx m T with
    | true => mkV (sbT' Y [] f T).s .lf fun sF => mkK (sbT' Y [] f T).l .lf fun _ => mkK (sbT' Y [] f T).l m1 fun mF => K sF mF (mpP (sbL (fL Y f)) T.pc ++ pc)
    | false => false
def tailH (P : Program) (sm : SumT) (fuel : Nat) (body : Code) (c : Cc) (T : TS) (Ts : List TS) (hi : Nat) (s : Tr SV) (m : Mem) (nx : Nat) (pc : PC) (K : Tr SV → Mem → PC → Bool) : Bool :=
  match allF (roundT P sm fuel body c nx hi (T :: Ts)) (T :: Ts) with
  | true => mkV (sbT' [] c.Y c.i T).s .lf fun _ => mkK (sbT' [] c.Y c.i T).l .lf fun mE => prGo nx mE m 100000 (prSl (sbT' [] c.Y c.i T).s s (oldT nx m (sbT' [] c.Y c.i T).l [])) [] fun al =>
    selK (tagsOf al nx (sbT' [] c.Y c.i T).l) m .lf fun mC => match matchAl r0 nx (sbT' [] c.Y c.i T) s mC pc al with
    | true => rmN (tagsOf al nx (sbT' [] c.Y c.i T).l) m fun m1 => allF (fun T' => endT c.Y c.f nx mC m1 pc T' K) (T :: Ts)
    | false => false
  | false => false
theorem Yl.sub {α : Type} {F G : (α → Bool) → Bool} {Φ : α → Prop} (h : ∀ K, F K = true → G K = true) (hg : Yl G Φ) : Yl F Φ := fun K hk => by
  obtain ⟨x, h1, h2, h3⟩ := hg K (h K hk)
  exact ⟨x, h1, h2, fun K' hk' => h3 K' (h K' hk')⟩
theorem sat_app {ρ : Rho} {a b : PC} (ha : Sat ρ a) (hb : Sat ρ b) : Sat ρ (a ++ b) := fun e he => by
  rcases List.mem_append.1 he with h | h
  · exact ha e h
  · exact hb e h
theorem tailH_yl {P : Program} {ρ : Rho} {n fuel : Nat} (hm : P.follows .mixedOrders = true) {sm : SumT} (hsm : ∀ ρ', Agree ρ ρ' → SumOk P ρ' sm) {body : Code} {c : Cc} {enc : UInt8 → List UInt8} {l : List UInt8} {I : Rho → Prop} {T : TS} {Ts : List TS} {hi : Nat} (hd : dstOk n body = true) (hc : CcR ρ c enc l I)
    {s : Tr SV} {m : Mem} {nx : Nat} {pc : PC} (hs : Sat ρ pc) : Yl (fun K => tailH P sm fuel body c T Ts hi s m nx pc fun s m pc => K (s, m, pc)) (fun o : Tr SV × Mem × PC => Sat ρ o.2.2 ∧ ∀ r, EvR P ρ n (.loop body) o.1 o.2.1 hi r → EvR P ρ n (.loop body) s m nx r) := by
  unfold tailH
  split
  · rename_i hrd
    refine Yl.bind mkV_yl fun sE hsE => Yl.bind mkK_yl fun mE hmE => Yl.bind prGo_yl fun al _ => Yl.bind selK_yl fun mC hmC => ?_
    split
    · rename_i hmt
      refine Yl.bind rmN_yl fun m1 hm1 => ?_
      have lfS : ∀ t, Tr.get (α := SV) .lf t = none := fun t => by simp [Tr.get]
      have lfB : ∀ t, Tr.get (α := Blk) .lf t = none := fun t => by simp [Tr.get]
      have hroundT := allF_ok hrd
      have stOf : ∀ U, U ∈ T :: Ts → statT nx hi U = true := fun U hU => by
        have := hroundT U hU
        simp only [roundT, Bool.and_eq_true] at this
        exact this.1
      obtain ⟨hlo, hhi, a1, a2, a3, g0, g1⟩ := statT_ok (stOf T (by simp))
      have hag : Agree ρ (lowR enc ρ l c.i) := lowR_agree
      have hen := sub_ok (lowR_sub (ρ := ρ) (Y := c.Y) (σ := c.i) hc.Y)
      have hsE' := mapS g0 hsE.2
      have hmE' := mapB g1 hmE.2
      have neE := mp_ne hmE'
      have MR := matchAl_ok (n := n) (hi := hi) (T := sbT' [] c.Y c.i T) (s0 := sE) (m0 := mE) hs r0_ok (fun t b h => by
        have := hmE.2 t
        rw [h, lfB] at this
        rcases lookU_mem this.symm with h | h
        · exact h
        · cases h) (fun t b h => by
        have := hsE.2 t
        rw [h, lfS] at this
        rcases lookS_mem this.symm with h | h
        · exact h
        · cases h) hhi hmt
      have hpc0 : Sat (lowR enc ρ l c.i) T.pc := (mpP_ok hen a3).1 MR.pc
      obtain ⟨ρ', T', hT', hagR, hcat, hJ', hI', hpc', LS⟩ := rounds_ok hm hsm hd hrd hc l [] (lowR enc ρ l c.i) T (by simp) hag ⟨rfl, rfl⟩ rfl rfl (hc.start _ hag rfl rfl rfl rfl) hpc0
      obtain ⟨f3, f4, f5⟩ := hc.fin ρ' hagR hcat hI'
      have hbk : MpOk ρ' ρ (sbS c.Y [] c.f) (sbL (fL c.Y c.f)) sbP (onL pv) := sub_ok ⟨hagR.symm, hcat.symm, by
        show [] = ρ'.s 1 ++ ρ'.s 2
        rw [hJ'.s1, hJ'.s2]; rfl, f3, f4, f5⟩
      obtain ⟨hlo', hhi', b1, b2, b3, q0, q1⟩ := statT_ok (stOf T' hT')
      have hpcF : Sat ρ (mpP (sbL (fL c.Y c.f)) T'.pc ++ pc) := sat_app ((mpP_ok hbk b3).2 hpc') hs
      refine Yl.sub (G := fun K => endT c.Y c.f nx mC m1 pc T' fun s m pc => K (s, m, pc)) (fun K hK => allF_ok hK T' hT') ?_
      unfold endT
      split
      · rename_i hx
        have := allP_ok hpcF hx (.mk (-1) []) (by simp)
        rw [const_den] at this
        omega
      split
      · rename_i hend
        have hend := allL_ok hend
        refine Yl.bind mkV_yl fun sF hsF => Yl.bind mkK_yl fun mB hmB => Yl.bind mkK_yl fun mF hmF => Yl.pure (α := Tr SV × Mem × PC) (sF, mF, _) ⟨hpcF, ?_⟩
        intro r hr
        have hsF' := mapS q0 hsF.2
        have hmB' := mapB q1 hmB.2
        have mCm : ∀ t, mC.get t ≠ none → t ∈ tagsOf al nx (sbT' [] c.Y c.i T).l ∧ mC.get t = m.get t := fun t h => by
          by_cases hin : t ∈ tagsOf al nx (sbT' [] c.Y c.i T).l
          · exact ⟨hin, (hmC t).1 hin⟩
          · rw [(hmC t).2 hin, lfB] at h; exact absurd rfl h
        have neB := mp_ne hmB'
        have fF : ∀ t b, mF.get t = some b → mB.get t = some b ∨ (mB.get t = none ∧ t ∉ tagsOf al nx (sbT' [] c.Y c.i T).l ∧ m.get t = some b) := fun t b h => by
          have q1 := hmF.2 t
          have q2 := hmB.2 t
          rw [lfB] at q2
          rw [h, lookU_none, ← q2] at q1
          cases hq : mB.get t with
          | some b' => rw [hq] at q1; simp only at q1; exact .inl (by rw [q1])
          | none =>
            rw [hq] at q1
            simp only at q1
            refine .inr ⟨rfl, fun hin => ?_, ?_⟩
            · rw [(hm1 t).1 hin] at q1; cases q1
            · by_cases hin : t ∈ tagsOf al nx (sbT' [] c.Y c.i T).l
              · rw [(hm1 t).1 hin] at q1; cases q1
              · rw [← (hm1 t).2 hin, ← q1]
        have hle := hr.le
        have nw : ∀ t, m.get t = none → mF.get t ≠ none → nx ≤ t ∧ t < hi := fun t q1 q2 => by
          cases hb : mF.get t with
          | none => exact absurd hb q2
          | some b =>
            rcases fF t b hb with h | ⟨_, _, h⟩
            · have hz := hmB.2 t
              rw [h, lfB] at hz
              rcases lookU_mem hz.symm with hz | hz
              · have hz : ∃ b0, (t, b0) ∈ T'.l := by
                  have : ∀ (l : ML) fS fL, (t, b) ∈ mpM fS fL l → ∃ b0, (t, b0) ∈ l := fun l fS fL => by
                    induction l with
                    | nil => intro h; cases h
                    | cons x l ih =>
                      intro h
                      obtain ⟨y, z⟩ := x
                      rcases List.mem_cons.1 h with h | h
                      · cases h; exact ⟨z, by simp⟩
                      · obtain ⟨b0, h⟩ := ih h; exact ⟨b0, by simp [h]⟩
                  exact this _ _ _ hz
                obtain ⟨b0, hz⟩ := hz
                have := hend t b0 hz
                simp only [Bool.and_eq_true, Bool.or_eq_true, Nat.blt_eq, Nat.ble_eq] at this
                refine ⟨?_, by omega⟩
                rcases this.2 with h | h
                · exact h
                · split at h
                  · rename_i z hz
                    have := (mCm t (by rw [hz]; simp)).2
                    rw [hz, q1] at this
                    cases this
                  · cases h
              · cases hz
            · rw [q1] at h; cases h
        refine ⟨hr.pc, by omega, fun t q1 q2 => ?_, fun a w θ hA hfr' => ?_⟩
        · cases hb : mF.get t with
          | none => have := hr.new t hb q2; exact ⟨by omega, this.2⟩
          | some b => have := nw t q1 (by rw [hb]; simp); exact ⟨this.1, by omega⟩
        · have hfr : ∀ t, nx ≤ t → t < hi → θ t = none := fun t q1 q2 => hfr' t q1 (by omega)
          have hA' : At ρ n s mC a w θ := ⟨hA.defers, hA.size, hA.slot, ⟨fun t b hb => hA.mem.holds t b (by rw [← (mCm t (by rw [hb]; simp)).2]; exact hb), fun s t g q1 q2 => hA.mem.inj s t g (q1.of (mCm s q1.ne).2.symm fun _ e => e) (q2.of (mCm t q2.ne).2.symm fun _ e => e)⟩⟩
          have hAE := MR.at_ a w θ hA'
          have spE := MR.sp hA' ((SP.refl (nx := nx) hA'.mem).wk (Nat.le_refl _) (by omega)) (Nat.le_refl _) hlo hfr
          have hA2 := (at_mp hen hsE' hmE' a1 a2).1 hAE
          have sp2 := sp_to spE hA2.mem fun t g h => (own_mp hmE').2 h
          refine LS _ a w w _ θ mC.get hA2 (fun t q1 q2 => by unfold thN; rw [if_pos ⟨by omega, q2⟩, if_neg (by show ¬ t < T.nx; omega)]) hfr sp2 fun a' w' θ' hAo hspo => ?_
          have hAB := (at_mp hbk hsF' hmB' b1 b2).2 hAo
          have spB := (sp_to hspo hAB.mem fun t g h => (own_mp hmB').1 h).wk (Nat.le_refl _) hhi'
          have spW := SP.frame (tc := fun t => mC.get t ≠ none ∨ mB.get t ≠ none) (M' := mF.get) hA.mem (fun t b hb => ⟨.inl (by rw [hb]; simp), by rw [← (mCm t (by rw [hb]; simp)).2]; exact hb⟩) spB (fun t ht => by
            cases h : mB.get t with
            | none => rfl
            | some b => exact absurd (.inr (by rw [h]; simp)) ht) (fun t b hb => by
            rcases fF t b hb with h | ⟨h0, h1, h2⟩
            · exact .inl ⟨.inr (by rw [h]; simp), h⟩
            · refine .inr ⟨fun hq => ?_, h2⟩
              rcases hq with hq | hq
              · exact h1 (mCm t hq).1
              · exact hq h0)
          have hAW : At ρ n sF mF a' w' θ' := ⟨hAB.defers, hAB.size, hAB.slot, spW.mem⟩
          refine (hr.run a' w' θ' hAW fun t q1 q2 => ?_).mono fun e a2 w2 ⟨he, θ3, hA3, sp3⟩ => ⟨he, θ3, hA3, spW.trans sp3 (by omega) hle⟩
          cases hq : θ' t with
          | none => rfl
          | some x =>
            have q1 : hi ≤ t := q1
            rcases spW.new t (by rw [hq]; simp) with z | z
            · exact absurd (hfr' t (by omega) q2) z
            · omega
      · exact Yl.no
    · exact Yl.no
  · exact Yl.no
end X
end Go.Proofs.YtebfahobllghnaaGreatDoor
namespace Go.Proofs.YtebfahobllghnaaGreatDoor
namespace X
open Go.RowKit B
abbrev FR := List (PC × Lin)
def FrOk (ρ : Rho) (fr : FR) : Prop := ∀ g e, (g, e) ∈ fr → Sat ρ g → 0 ≤ e.den ρ
def addF : FR → PC → PC
  | [], pc => pc
  | (g, e) :: l, pc => match allP pc g with
    | true => addF l (e :: pc)
    | false => addF l pc
theorem addF_ok {ρ : Rho} : ∀ {fr : FR} {pc : PC}, FrOk ρ fr → Sat ρ pc → Sat ρ (addF fr pc)
  | [], pc, _, hs => hs
  | (g, e) :: l, pc, hf, hs => by
    have hf' : FrOk ρ l := fun g' e' h => hf g' e' (by simp [h])
    simp only [addF]
    split
    · rename_i h
      refine addF_ok hf' fun x hx => ?_
      rcases List.mem_cons.1 hx with rfl | hx
      · exact hf g _ (by simp) (allP_ok hs h)
      · exact hs x hx
    · exact addF_ok hf' hs
def statF (lo hi : Nat) (T : TS) : Bool := Nat.ble lo T.nx && Nat.ble T.nx hi && mkV T.s .lf fun _ => mkK T.l .lf fun _ => true
def landF (rs : Rules) (lo : Nat) (s' : Tr SV) (m' : Mem) (pc' : PC) (T : TS) : Bool :=
  mkV T.s .lf fun _ => mkK T.l .lf fun m1 => matchOk rs lo T m1 s' m' pc'
def roundF (P : Program) (sm : SumT) (fuel : Nat) (body : Code) (rs : Rules) (fr : FR) (pc : PC) (lo hi : Nat) (U : TS) (later : List TS) : Bool :=
  mkV U.s .lf fun s0 => mkK U.l .lf fun m0 => ev P sm fuel body s0 m0 U.nx (U.pc ++ pc) fun e s' m' nx' pc' => Nat.ble nx' hi && match e with
    | .normal => anyF (landF rs lo s' m' (addF fr pc')) later
    | _ => false
abbrev Fam := List (TS × Rules × FR)
def stsF : Fam → List TS
  | [] => []
  | x :: l => x.1 :: stsF l
def famC (P : Program) (sm : SumT) (fuel : Nat) (body : Code) (pc : PC) (lo hi : Nat) : Fam → List TS → Bool
  | [], Fs => true
  | (U, rs, fr) :: l, Fs => roundF P sm fuel body rs fr pc lo hi U (stsF l ++ Fs) && famC P sm fuel body pc lo hi l Fs
def endF (nx : Nat) (m m1 : Mem) (pc : PC) (T : TS) (K : Tr SV → Mem → Nat → PC → Bool) : Bool :=
  match allP (T.pc ++ pc) [.mk (-1) []] with
  | true => true
  | false => match okEnd nx m T with
    | true => mkV T.s .lf fun sF => mkK T.l .lf fun _ => mkK T.l m1 fun mF => K sF mF T.nx (T.pc ++ pc)
    | false => false
def famH (P : Program) (sm : SumT) (fuel : Nat) (body : Code) (rs : Rules) (fr : FR) (pc0 : PC) (T : TS) (Is : Fam) (Fs : List TS) (hi : Nat) (s : Tr SV) (m : Mem) (nx : Nat) (pc : PC) (K : Tr SV → Mem → Nat → PC → Bool) : Bool :=
  match allF (statF nx hi) (T :: (stsF Is ++ Fs)) && famC P sm fuel body pc0 nx hi ((T, rs, fr) :: Is) Fs && allP pc pc0 with
  | true => mkV T.s .lf fun _ => mkK T.l .lf fun mE => prGo nx mE m 100000 (prSl T.s s (oldT nx m T.l [])) [] fun al =>
    selK (tagsOf al nx T.l) m .lf fun mC => match matchAl rs nx T s mC (addF fr pc) al with
    | true => rmN (tagsOf al nx T.l) m fun m1 => allF (fun T' => endF nx mC m1 pc T' fun s m _ pc => K s m hi pc) Fs
    | false => false
  | false => false
theorem statF_ok {lo hi : Nat} {T : TS} (h : statF lo hi T = true) : lo ≤ T.nx ∧ T.nx ≤ hi ∧ (∀ t, (mkUV T.s .lf).get t = lookS T.s t none) ∧ (∀ t, (mkU T.l .lf).get t = lookU T.l t none) := by
  simp only [statF, Bool.and_eq_true, Nat.ble_eq] at h
  obtain ⟨⟨h1, h2⟩, h6⟩ := h
  have lfS : ∀ t, Tr.get (α := SV) .lf t = none := fun t => by simp [Tr.get]
  have lfB : ∀ t, Tr.get (α := Blk) .lf t = none := fun t => by simp [Tr.get]
  obtain ⟨h7, g1⟩ := mkV_get h6
  obtain ⟨_, g2⟩ := mkK_get h7
  exact ⟨h1, h2, fun t => by rw [g1, lfS], fun t => by rw [g2, lfB]⟩
theorem famR {P : Program} {n : Nat} (hm : P.follows .mixedOrders = true) {sm : SumT} {ρ : Rho} (hsm : SumOk P ρ sm) {fuel lo hi : Nat} {body : Code} {pc : PC} (hs : Sat ρ pc) (hd : dstOk n body = true) {Fs : List TS} :
    ∀ {Is : Fam}, (∀ x ∈ Is, RulesOk ρ x.2.1 ∧ FrOk ρ x.2.2) → (∀ U ∈ stsF Is ++ Fs, statF lo hi U = true) → famC P sm fuel body pc lo hi Is Fs = true → ∀ U, U ∈ stsF Is ++ Fs → Sat ρ U.pc → ∃ F, F ∈ Fs ∧ Sat ρ F.pc ∧
      ∀ (Q : Exit → Act → World → Prop) (a : Act) (w wp : World) (θ θp : Th) (Mp : Nat → Option Blk), At ρ n (mkUV U.s .lf) (mkU U.l .lf) a w θ → (∀ t, U.nx ≤ t → t < hi → θ t = none) → (∀ t, lo ≤ t → t < hi → θp t = none) → SP ρ lo U.nx θp Mp wp θ (mkU U.l .lf).get w →
        (∀ a' w' θ', At ρ n (mkUV F.s .lf) (mkU F.l .lf) a' w' θ' → SP ρ lo F.nx θp Mp wp θ' (mkU F.l .lf).get w' → LoopWp P body Q a' w') → LoopWp P body Q a w
  | [], hR, hst, hc, U, hU, hpc => ⟨U, by simpa [stsF] using hU, hpc, fun Q a w wp θ θp Mp hA hf1 hf2 hsp cont => cont a w θ hA hsp⟩
  | (I, rs, fr) :: l, hR, hst, hc, U, hU, hpc => by
    simp only [famC, Bool.and_eq_true] at hc
    obtain ⟨hr0, hcl⟩ := hc
    have hst' : ∀ U ∈ stsF l ++ Fs, statF lo hi U = true := fun U h => hst U (by simp [stsF] at h ⊢; exact .inr h)
    have hR' : ∀ x ∈ l, RulesOk ρ x.2.1 ∧ FrOk ρ x.2.2 := fun x h => hR x (by simp [h])
    obtain ⟨hrs, hfr⟩ := hR (I, rs, fr) (by simp)
    have hU : U = I ∨ U ∈ stsF l ++ Fs := by simpa [stsF] using hU
    rcases hU with rfl | hU
    · obtain ⟨hlo, hhi, g0, g1⟩ := statF_ok (hst U (by simp [stsF]))
      have hev := (mkK_get (mkV_get hr0).1).1
      obtain ⟨⟨e, o⟩, hr, hk', _⟩ := ev_yl hm hsm fuel n body (mkUV U.s .lf) (mkU U.l .lf) U.nx _ (sat_app hpc hs) hd (fun r => Nat.ble r.2.nx hi && match r.1 with
        | .normal => anyF (landF rs lo r.2.s r.2.m (addF fr r.2.pc)) (stsF l ++ Fs)
        | _ => false) hev
      simp only [Bool.and_eq_true, Nat.ble_eq] at hk'
      obtain ⟨hle, hk'⟩ := hk'
      cases e with
      | exit i => cases hk'
      | ret => cases hk'
      | normal =>
        obtain ⟨T2, hT2, hl⟩ := anyF_ok hk'
        obtain ⟨hlo2, hhi2, q0, q1⟩ := statF_ok (hst' T2 hT2)
        obtain ⟨hl, hS1⟩ := mkV_told hl
        obtain ⟨hl, hT1⟩ := mkK_told hl
        obtain ⟨al, hmt⟩ := match_ok (n := n) (hi := hi) (addF_ok hfr hr.pc) hrs (T := T2) hT1 hS1 hhi2 hl
        obtain ⟨F, z1, z2, z3⟩ := famR hm hsm hs hd hR' hst' hcl T2 hT2 hmt.pc
        refine ⟨F, z1, z2, fun Q a w wp θ θp Mp hA hf1 hf2 hsp cont => ?_⟩
        refine loop_step (wp_mono (hr.run a w θ hA fun t q1 q2 => hf1 t q1 (by simp only at q2; omega)).wp fun e a' w' hp => ?_)
        obtain ⟨he, θ1, hA1, hsp1⟩ := hp
        cases he
        have hA2 := hmt.at_ a' w' θ1 hA1
        have hsp2 := (hsp.trans hsp1 hlo hr.le).wk (Nat.le_refl _) hle
        have hsp3 := hmt.sp hA1 hsp2 (Nat.le_refl _) hlo2 hf2
        exact z3 Q a' w' wp _ θp Mp hA2 (fun t q1 q2 => by unfold thN; rw [if_pos ⟨by have : T2.nx ≤ t := q1; omega, q2⟩, if_neg (by have : T2.nx ≤ t := q1; omega)]) hf2 hsp3 cont
    · exact famR hm hsm hs hd hR' hst' hcl U hU hpc
theorem famH_yl {P : Program} {ρ : Rho} {n fuel : Nat} (hm : P.follows .mixedOrders = true) {sm : SumT} (hsm : SumOk P ρ sm) {rs : Rules} (hrs : RulesOk ρ rs) {fr : FR} (hfr : FrOk ρ fr) {pc0 : PC} {body : Code} {T : TS} {Is : Fam} (hR : ∀ x ∈ Is, RulesOk ρ x.2.1 ∧ FrOk ρ x.2.2) {Fs : List TS} {hi : Nat} (hd : dstOk n body = true)
    {s : Tr SV} {m : Mem} {nx : Nat} {pc : PC} (hs : Sat ρ pc) : Yl (fun K => famH P sm fuel body rs fr pc0 T Is Fs hi s m nx pc fun s m _ pc => K (s, m, pc)) (fun o : Tr SV × Mem × PC => Sat ρ o.2.2 ∧ ∀ r, EvR P ρ n (.loop body) o.1 o.2.1 hi r → EvR P ρ n (.loop body) s m nx r) := by
  unfold famH
  split
  · rename_i hrd
    simp only [Bool.and_eq_true] at hrd
    refine Yl.bind mkV_yl fun sE hsE => Yl.bind mkK_yl fun mE hmE => Yl.bind prGo_yl fun al _ => Yl.bind selK_yl fun mC hmC => ?_
    split
    · rename_i hmt
      refine Yl.bind rmN_yl fun m1 hm1 => ?_
      have lfS : ∀ t, Tr.get (α := SV) .lf t = none := fun t => by simp [Tr.get]
      have lfB : ∀ t, Tr.get (α := Blk) .lf t = none := fun t => by simp [Tr.get]
      have stOf := allF_ok hrd.1.1
      obtain ⟨hlo, hhi, g0, g1⟩ := statF_ok (stOf T (by simp))
      have MR := matchAl_ok (n := n) (hi := hi) (T := T) (s0 := sE) (m0 := mE) (addF_ok hfr hs) hrs (fun t b h => by
        have := hmE.2 t
        rw [h, lfB] at this
        rcases lookU_mem this.symm with h | h
        · exact h
        · cases h) (fun t b h => by
        have := hsE.2 t
        rw [h, lfS] at this
        rcases lookS_mem this.symm with h | h
        · exact h
        · cases h) hhi hmt
      obtain ⟨T', hT', hpc', LS⟩ := famR (n := n) hm hsm (allP_ok hs hrd.2) hd (Is := (T, rs, fr) :: Is) (fun x hx => by rcases List.mem_cons.1 hx with rfl | hx; exact ⟨hrs, hfr⟩; exact hR x hx) (fun U hU => stOf U (by simpa [stsF] using hU)) hrd.1.2 T (by simp [stsF]) MR.pc
      obtain ⟨hlo', hhi', q0, q1⟩ := statF_ok (stOf T' (by simp [hT']))
      have hpcF : Sat ρ (T'.pc ++ pc) := sat_app hpc' hs
      refine Yl.sub (G := fun K => endF nx mC m1 pc T' fun s m _ pc => K (s, m, pc)) (fun K hK => allF_ok hK T' hT') ?_
      unfold endF
      split
      · rename_i hx
        have := allP_ok hpcF hx (.mk (-1) []) (by simp)
        rw [const_den] at this
        omega
      split
      · rename_i hend
        have hend := allL_ok hend
        refine Yl.bind mkV_yl fun sF hsF => Yl.bind mkK_yl fun mB hmB => Yl.bind mkK_yl fun mF hmF => Yl.pure (α := Tr SV × Mem × PC) (sF, mF, _) ⟨hpcF, ?_⟩
        intro r hr
        have mCm : ∀ t, mC.get t ≠ none → t ∈ tagsOf al nx T.l ∧ mC.get t = m.get t := fun t h => by
          by_cases hin : t ∈ tagsOf al nx T.l
          · exact ⟨hin, (hmC t).1 hin⟩
          · rw [(hmC t).2 hin, lfB] at h; exact absurd rfl h
        have fF : ∀ t b, mF.get t = some b → mB.get t = some b ∨ (mB.get t = none ∧ t ∉ tagsOf al nx T.l ∧ m.get t = some b) := fun t b h => by
          have q1 := hmF.2 t
          have q2 := hmB.2 t
          rw [lfB] at q2
          rw [h, lookU_none, ← q2] at q1
          cases hq : mB.get t with
          | some b' => rw [hq] at q1; simp only at q1; exact .inl (by rw [q1])
          | none =>
            rw [hq] at q1
            simp only at q1
            refine .inr ⟨rfl, fun hin => ?_, ?_⟩
            · rw [(hm1 t).1 hin] at q1; cases q1
            · by_cases hin : t ∈ tagsOf al nx T.l
              · rw [(hm1 t).1 hin] at q1; cases q1
              · rw [← (hm1 t).2 hin, ← q1]
        have hle := hr.le
        have nw : ∀ t, m.get t = none → mF.get t ≠ none → nx ≤ t ∧ t < hi := fun t q1 q2 => by
          cases hb : mF.get t with
          | none => exact absurd hb q2
          | some b =>
            rcases fF t b hb with h | ⟨_, _, h⟩
            · have hz := hmB.2 t
              rw [h, lfB] at hz
              rcases lookU_mem hz.symm with hz | hz
              · have := hend t b hz
                simp only [Bool.and_eq_true, Bool.or_eq_true, Nat.blt_eq, Nat.ble_eq] at this
                refine ⟨?_, by omega⟩
                rcases this.2 with h | h
                · exact h
                · split at h
                  · rename_i z hz
                    have := (mCm t (by rw [hz]; simp)).2
                    rw [hz, q1] at this
                    cases this
                  · cases h
              · cases hz
            · rw [q1] at h; cases h
        refine ⟨hr.pc, by omega, fun t q1 q2 => ?_, fun a w θ hA hfr' => ?_⟩
        · cases hb : mF.get t with
          | none => have := hr.new t hb q2; exact ⟨by omega, this.2⟩
          | some b => have := nw t q1 (by rw [hb]; simp); exact ⟨this.1, by omega⟩
        · have hfr : ∀ t, nx ≤ t → t < hi → θ t = none := fun t q1 q2 => hfr' t q1 (by omega)
          have hA' : At ρ n s mC a w θ := ⟨hA.defers, hA.size, hA.slot, ⟨fun t b hb => hA.mem.holds t b (by rw [← (mCm t (by rw [hb]; simp)).2]; exact hb), fun s t g q1 q2 => hA.mem.inj s t g (q1.of (mCm s q1.ne).2.symm fun _ e => e) (q2.of (mCm t q2.ne).2.symm fun _ e => e)⟩⟩
          have hAE := MR.at_ a w θ hA'
          have spE := MR.sp hA' ((SP.refl (nx := nx) hA'.mem).wk (Nat.le_refl _) (by omega)) (Nat.le_refl _) hlo hfr
          rw [hsE.1, hmE.1] at hAE
          rw [hmE.1] at spE
          refine LS _ a w w _ θ mC.get hAE (fun t q1 q2 => by unfold thN; rw [if_pos ⟨by omega, q2⟩, if_neg (by show ¬ t < T.nx; omega)]) hfr spE fun a' w' θ' hAo hspo => ?_
          have hAB : At ρ n sF mB a' w' θ' := by rw [hsF.1, hmB.1]; exact hAo
          have spB := (show SP ρ nx T'.nx θ mC.get w θ' mB.get w' by rw [hmB.1]; exact hspo).wk (Nat.le_refl _) hhi'
          have spW := SP.frame (tc := fun t => mC.get t ≠ none ∨ mB.get t ≠ none) (M' := mF.get) hA.mem (fun t b hb => ⟨.inl (by rw [hb]; simp), by rw [← (mCm t (by rw [hb]; simp)).2]; exact hb⟩) spB (fun t ht => by
            cases h : mB.get t with
            | none => rfl
            | some b => exact absurd (.inr (by rw [h]; simp)) ht) (fun t b hb => by
            rcases fF t b hb with h | ⟨h0, h1, h2⟩
            · exact .inl ⟨.inr (by rw [h]; simp), h⟩
            · refine .inr ⟨fun hq => ?_, h2⟩
              rcases hq with hq | hq
              · exact h1 (mCm t hq).1
              · exact hq h0)
          have hAW : At ρ n sF mF a' w' θ' := ⟨hAB.defers, hAB.size, hAB.slot, spW.mem⟩
          refine (hr.run a' w' θ' hAW fun t q1 q2 => ?_).mono fun e a2 w2 ⟨he, θ3, hA3, sp3⟩ => ⟨he, θ3, hA3, spW.trans sp3 (by omega) hle⟩
          cases hq : θ' t with
          | none => rfl
          | some x =>
            have q1 : hi ≤ t := q1
            rcases spW.new t (by rw [hq]; simp) with z | z
            · exact absurd (hfr' t (by omega) q2) z
            · omega
      · exact Yl.no
    · exact Yl.no
  · exact Yl.no
end X
end Go.Proofs.YtebfahobllghnaaGreatDoor
namespace Go.Proofs.YtebfahobllghnaaGreatDoor
namespace X
open Go.RowKit B
inductive Tr2 where
  | step
  | view (g : Nat) (ks ts : List Nat)
  | tail (c : Cc) (T : TS) (Ts : List TS) (hi : Nat)
  | fam (rs : Rules) (fr : FR) (pc0 : PC) (T : TS) (Is : Fam) (Fs : List TS) (hi : Nat)
abbrev Trig2 := Tr SV → Mem → Nat → PC → Tr2
structure Tr2Ok (ρ : Rho) (trig : Trig2) : Prop where
  tail : ∀ s m nx pc c T Ts hi, trig s m nx pc = .tail c T Ts hi → ∃ enc l I, CcR ρ c enc l I
  fam : ∀ s m nx pc rs fr pc0 T Is Fs hi, trig s m nx pc = .fam rs fr pc0 T Is Fs hi → RulesOk ρ rs ∧ FrOk ρ fr ∧ ∀ x ∈ Is, RulesOk ρ x.2.1 ∧ FrOk ρ x.2.2
def goG (P : Program) (sm : SumT) (fuel : Nat) (body : Code) (trig : Trig2) : Nat → Tr SV → Mem → Nat → PC → KC → Bool
  | 0, _, _, _, _, _ => false
  | f + 1, s, m, nx, pc, K => match trig s m nx pc with
    | .tail c T Ts hi => tailH P sm fuel body c T Ts hi s m nx pc fun s m pc => goG P sm fuel body trig f s m hi pc K
    | .fam rs fr pc0 T Is Fs hi => famH P sm fuel body rs fr pc0 T Is Fs hi s m nx pc fun s m _ pc => goG P sm fuel body trig f s m hi pc K
    | .view g ks ts => vwGo g ks ts s m pc fun s m => goG P sm fuel body trig f s m nx pc K
    | .step => ev P sm fuel body s m nx pc fun e s m nx pc => match e with
      | .normal => goG P sm fuel body trig f s m nx pc K
      | e => K e s m nx pc
inductive Cx where
  | co (c : Code)
  | sq (a b : Cx)
  | lp (b : Nat) (body : Code) (trig : Trig2)
def Cx.code : Cx → Code
  | .co c => c
  | .sq a b => .seq a.code b.code
  | .lp b body _ => .block b (.loop body)
def evX (P : Program) (sm : SumT) (fuel many : Nat) : Cx → Tr SV → Mem → Nat → PC → KC → Bool
  | .co c, s, m, nx, pc, K => ev P sm fuel c s m nx pc K
  | .sq a b, s, m, nx, pc, K => evX P sm fuel many a s m nx pc fun e s m nx pc => match e with
    | .normal => evX P sm fuel many b s m nx pc K
    | e => K e s m nx pc
  | .lp b body trig, s, m, nx, pc, K => blkL b (goG P sm fuel body trig many s m nx pc) K
def mkX : Code → List Trig2 → Cx × List Trig2
  | .block b (.loop body), t :: l => (.lp b body t, l)
  | .seq c k, l => match mkX c l with
    | (a, l) => match mkX k l with
      | (b, l) => (.sq a b, l)
  | c, l => (.co c, l)
def okX (n : Nat) : Cx → Bool
  | .co c => dstOk n c
  | .sq a b => okX n a && okX n b
  | .lp _ body _ => dstOk n body
def trX (ρ : Rho) : Cx → Prop
  | .co _ => True
  | .sq a b => trX ρ a ∧ trX ρ b
  | .lp _ _ trig => Tr2Ok ρ trig
theorem mkX_tr {ρ : Rho} : ∀ {c : Code} {l : List Trig2}, (∀ t ∈ l, Tr2Ok ρ t) → trX ρ (mkX c l).1 ∧ ∀ t ∈ (mkX c l).2, Tr2Ok ρ t := by
  intro c
  induction c with
  | seq c k ihc ihk =>
    intro l hl
    have h1 := ihc hl
    have h2 := ihk h1.2
    exact ⟨⟨h1.1, h2.1⟩, h2.2⟩
  | block b d ih =>
    intro l hl
    unfold mkX
    split
    · rename_i body t l' _
      exact ⟨hl t (by simp), fun x hx => hl x (by simp [hx])⟩
    · rename_i h
      cases h
    · exact ⟨trivial, hl⟩
  | _ => exact fun hl => ⟨trivial, hl⟩
def callX (P : Program) (sm : SumT) (fuel many : Nat) (f : Nat) (x : Cx) (args : List SV) (m : Mem) (nx : Nat) (pc : PC) (K : SV → Mem → Nat → PC → Bool) : Bool := match P.funcs[f]? with
  | some fn => match !(fn.name == "runtime.NumGoroutine") && Nat.ble args.length fn.ntmps && okX fn.ntmps x with
    | true => argC args 0 .lf fun s => evX P sm fuel many x s m nx pc fun e s m nx pc => match e with
      | .exit _ => false
      | _ => resC P s m fn.results.toList fun vs => K (retV vs) m nx pc
    | false => false
  | none => false
section
variable {P : Program} {ρ : Rho} {sm : SumT} {fuel n : Nat}
theorem goG_yl (hm : P.follows .mixedOrders = true) (hsm : ∀ ρ', Agree ρ ρ' → SumOk P ρ' sm) {body : Code} {trig : Trig2} (htr : Tr2Ok ρ trig) (hd : dstOk n body = true) : ∀ (f : Nat) {s : Tr SV} {m : Mem} {nx : Nat} {pc : PC}, Sat ρ pc →
    Yl (fun K => goG P sm fuel body trig f s m nx pc fun e s m nx pc => K (e, ⟨s, m, nx, pc⟩)) (EvR P ρ n (.loop body) s m nx)
  | 0, s, m, nx, pc, _ => Yl.no
  | f + 1, s, m, nx, pc, hs => by
    unfold goG
    split
    · rename_i c T Ts hi hD
      obtain ⟨enc, l, I, hI⟩ := htr.tail _ _ _ _ _ _ _ _ hD
      exact Yl.bind (α := Tr SV × Mem × PC) (β := AX × OS) (F := fun K => tailH P sm fuel body c T Ts hi s m nx pc fun s m pc => K (s, m, pc)) (G := fun o K => goG P sm fuel body trig f o.1 o.2.1 hi o.2.2 fun e s m nx pc => K (e, ⟨s, m, nx, pc⟩)) (tailH_yl hm hsm hd hI hs) fun o ho => (goG_yl hm hsm htr hd f ho.1).mono fun r hr => ho.2 r hr
    · rename_i rs fr pc0 T Is Fs hi hD
      obtain ⟨h1, h2, h3⟩ := htr.fam _ _ _ _ _ _ _ _ _ _ _ hD
      exact Yl.bind (α := Tr SV × Mem × PC) (β := AX × OS) (F := fun K => famH P sm fuel body rs fr pc0 T Is Fs hi s m nx pc fun s m _ pc => K (s, m, pc)) (G := fun o K => goG P sm fuel body trig f o.1 o.2.1 hi o.2.2 fun e s m nx pc => K (e, ⟨s, m, nx, pc⟩)) (famH_yl hm (hsm ρ Agree.refl) h1 h2 h3 hd hs) fun o ho => (goG_yl hm hsm htr hd f ho.1).mono fun r hr => ho.2 r hr
    · rename_i g ks ts hD
      exact Yl.bind (α := Tr SV × Mem) (β := AX × OS) (F := fun K => vwGo g ks ts s m pc fun s m => K (s, m)) (G := fun o K => goG P sm fuel body trig f o.1 o.2 nx pc fun e s m nx pc => K (e, ⟨s, m, nx, pc⟩)) (vwGo_yl (n := n) hs) fun o ho => (goG_yl hm hsm htr hd f hs).mono fun r hr => ho.pre hr
    · refine Yl.bind (α := AX × OS) (β := AX × OS) (F := fun K => ev P sm fuel body s m nx pc fun e s m nx pc => K (e, ⟨s, m, nx, pc⟩)) (G := fun r K => match r.1 with
        | .normal => goG P sm fuel body trig f r.2.s r.2.m r.2.nx r.2.pc fun e s m nx pc => K (e, ⟨s, m, nx, pc⟩)
        | e => K (e, r.2)) (ev_yl hm (hsm ρ Agree.refl) fuel n body s m nx pc hs hd) fun r hr => ?_
      obtain ⟨e, o⟩ := r
      cases e with
      | normal => exact (goG_yl hm hsm htr hd f hr.pc).mono fun r2 hr2 => hr.join hr2 fun a w Q h => loop_step h
      | exit i => exact Yl.pure (α := AX × OS) _ (hr.cut (by simp) fun a w Q Q' h h1 h2 => loop_step (wp_mono h (then_cut (by simp) h1 h2)))
      | ret => exact Yl.pure (α := AX × OS) _ (hr.cut (by simp) fun a w Q Q' h h1 h2 => loop_step (wp_mono h (then_cut (by simp) h1 h2)))
theorem evX_yl (hm : P.follows .mixedOrders = true) (hsm : ∀ ρ', Agree ρ ρ' → SumOk P ρ' sm) {many : Nat} : ∀ {x : Cx}, okX n x = true → trX ρ x → ∀ {s : Tr SV} {m : Mem} {nx : Nat} {pc : PC}, Sat ρ pc →
    Yl (fun K => evX P sm fuel many x s m nx pc fun e s m nx pc => K (e, ⟨s, m, nx, pc⟩)) (EvR P ρ n x.code s m nx)
  | .co c, hd, _, s, m, nx, pc, hs => ev_yl hm (hsm ρ Agree.refl) fuel n c s m nx pc hs hd
  | .sq a b, hd, ht, s, m, nx, pc, hs => by
    simp only [okX, Bool.and_eq_true] at hd
    exact seq_yl (evX_yl hm hsm hd.1 ht.1 hs) fun s m nx pc hs => evX_yl hm hsm hd.2 ht.2 hs
  | .lp b body trig, hd, ht, s, m, nx, pc, hs => blkL_yl (goG_yl hm hsm ht hd many hs)
theorem callX_yl (hm : P.follows .mixedOrders = true) (hsm : ∀ ρ', Agree ρ ρ' → SumOk P ρ' sm) {many f : Nat} {x : Cx} {fn : Func} (hf : P.funcs[f]? = some fn) (hb : fn.body = some x.code)
    (htr : trX ρ x) {args : List SV} {m : Mem} {nx : Nat} {pc : PC} (hs : Sat ρ pc) : Yl (fun K => callX P sm fuel many f x args m nx pc fun v m nx pc => K ⟨v, m, nx, pc⟩) (CallR P ρ f args m nx) := by
  unfold callX
  rw [hf]
  simp only
  split
  · rename_i hok
    simp only [Bool.and_eq_true, Bool.not_eq_true', Nat.ble_eq] at hok
    obtain ⟨⟨k1, k2⟩, k3⟩ := hok
    refine Yl.bind argC_yl fun s0 hs0 => ?_
    refine Yl.bind (α := AX × OS) (β := O4) (F := fun K => evX P sm fuel many x s0 m nx pc fun e s m nx pc => K (e, ⟨s, m, nx, pc⟩)) (G := fun r K => match r.1 with
      | .exit _ => false
      | _ => resC P r.2.s r.2.m fn.results.toList fun vs => K ⟨retV vs, r.2.m, r.2.nx, r.2.pc⟩) (evX_yl hm hsm k3 htr hs) fun r hr => ?_
    have fin : Yl (fun K => resC P r.2.s r.2.m fn.results.toList fun vs => K (⟨retV vs, r.2.m, r.2.nx, r.2.pc⟩ : O4)) (fun q => ((r.1 = .normal ∨ r.1 = .ret) → CallR P ρ f args m nx q)) := by
      refine Yl.map (fun vs => (⟨retV vs, r.2.m, r.2.nx, r.2.pc⟩ : O4)) (resC_yl (ρ := ρ) (n := fn.ntmps)) fun vs hvs hre => ⟨enter_run hf k1 hb, hr.pc, hr.le, hr.new, fun w θ us hus hM hfr => ?_⟩
      have hlen := dens_len hus
      refine calls_of_wp hf hb (wp_mono (hr.run _ w θ ⟨rfl, ?_, fun k sv hk => ?_, hM⟩ hfr).wp fun e a w' ⟨he, θ', hA, hsp⟩ => ?_)
      · show (us.toArray ++ Array.replicate (fn.ntmps - us.toArray.size) undef).size = fn.ntmps
        simp [hlen]; omega
      · rcases hs0 k sv hk with ⟨_, h1⟩ | h1
        · rw [Nat.sub_zero] at h1
          obtain ⟨u, h2, h3⟩ := dens_get hus h1
          rw [h3]
          have hlt := (List.getElem?_eq_some_iff.1 h2).1
          show _ = some ((us.toArray ++ Array.replicate (fn.ntmps - us.toArray.size) undef).getD k undef)
          rw [Array.getD_eq_getD_getElem?, Array.getElem?_append_left (by simpa using hlt)]
          simp [h2]
        · simp [Tr.get] at h1
      · obtain ⟨us', h1, h2⟩ := hvs a w' θ' hA
        have post : a.defers = [] ∧ ∃ v, (results fn a.tmps).run P w' = .ok v w' ∧ ∃ v' θ'', Ending.returned v = .returned v' ∧ SP ρ nx r.2.nx θ m.get w θ'' r.2.m.get w' ∧ den ρ θ'' (retV vs) = some v' :=
          ⟨hA.defers, _, run_results h2, _, θ', rfl, hsp, retV_den h1⟩
        rcases hre with h | h <;> rw [h] at he <;> cases he <;> exact post
    split
    · exact Yl.no
    · rename_i h1
      refine fin.mono fun q hq => hq ?_
      cases hr1 : r.1 with
      | normal => exact .inl rfl
      | exit i => exact absurd hr1 (h1 i)
      | ret => exact .inr rfl
  · exact Yl.no
end
end X
end Go.Proofs.YtebfahobllghnaaGreatDoor
namespace Go.Proofs.YtebfahobllghnaaGreatDoor
namespace X
open Go.RowKit B
def renT (al : Al) (nx : Nat) (t : Nat) : Nat := match findT al t with
  | some u => u
  | none => Nat.add nx t
mutual
def renV (al : Al) (nx : Nat) : SV → SV
  | .p t o => .p (renT al nx t) o
  | .sl t o n c => .sl (renT al nx t) o n c
  | .sb t l => .sb (renT al nx t) l
  | .mp t => .mp (renT al nx t)
  | .su t => .su (renT al nx t)
  | .sv t e => .sv (renT al nx t) e
  | .pv t n => .pv (renT al nx t) n
  | .sx t n => .sx (renT al nx t) n
  | .tp t e => .tp (renT al nx t) e
  | .ag l => .ag (renVs al nx l)
  | .tu l => .tu (renVs al nx l)
  | .fn f a b => .fn f (renVs al nx a) (renVs al nx b)
  | v => v
def renVs (al : Al) (nx : Nat) : List SV → List SV
  | [] => []
  | v :: l => renV al nx v :: renVs al nx l
end
def renE (al : Al) (nx : Nat) : List (SV × SV × Nat) → List (SV × SV × Nat)
  | [] => []
  | (a, b, n) :: l => (renV al nx a, renV al nx b, n) :: renE al nx l
def renB (al : Al) (nx : Nat) : Blk → Blk
  | .ce t l x => .ce t (renVs al nx l) x
  | .mp es c => .mp (renE al nx es) c
  | .cv l => .cv (renVs al nx l)
  | b => b
def renL (al : Al) (nx : Nat) : ML → ML
  | [] => []
  | (t, b) :: l => (renT al nx t, renB al nx b) :: renL al nx l
def valsLt (nx : Nat) : Al → Bool
  | [] => true
  | (_, u) :: l => Nat.blt u nx && valsLt nx l
def noTag (t : Nat) : ML → Bool
  | [] => true
  | (s, _) :: l => !Nat.beq s t && noTag t l
def noDup : ML → Bool
  | [] => true
  | (t, _) :: l => noTag t l && noDup l
def cutG (rs : Rules) (args0 : List SV) (l0 : ML) (nx0 : Nat) (pc0 : PC) (v1 : SV) (l1 : ML) (nx1 : Nat) (pc1 : PC) (args : List SV) (m : Mem) (nx : Nat) (pc : PC) (K : SV → Mem → Nat → PC → Bool) : Bool :=
  mkK l0 .lf fun m0 => prGo 0 m0 m 100000 (prV 50 (.ag args0) (.ag args) []) [] fun al =>
    match alOk 0 nx0 al && valsLt nx al && sameVs al 0 rs pc args0 args && allL (fun t b => match m.get (tagOf al 0 t) with
      | some b' => tagOk al 0 t (tagOf al 0 t) && sameB al 0 rs pc b b'
      | none => false) l0 && allP pc pc0 && noDup l1 with
    | true => selK (tagsOf al 0 l0) m .lf fun mC => rmN (tagsOf al 0 l0) m fun m1 => mkK l1 .lf fun _ => mkK (renL al nx l1) .lf fun _ => mkK (renL al nx l1) m1 fun mF => K (renV al nx v1) mF (Nat.add nx nx1) (pc1 ++ pc)
    | false => false
section
variable {ρ : Rho} {al : Al} {nx : Nat} {θ2 θ3 : Th}
mutual
theorem renV_den (h : ∀ t x, θ2 t = some x → θ3 (renT al nx t) = some x) : ∀ {v : SV} {u : Value}, den ρ θ2 v = some u → den ρ θ3 (renV al nx v) = some u
  | .i k n, u, e => e
  | .x k e, u, e' => e'
  | .b b, u, e => e
  | .s l, u, e => e
  | .p t off, u, e => by
    simp only [den, Option.map_eq_some_iff] at e
    obtain ⟨g, e1, e2⟩ := e
    simp only [renV, den, h t g e1, Option.map_some, e2]
  | .np, u, e => e
  | .sl t off len cap, u, e => by
    simp only [den, Option.map_eq_some_iff] at e
    obtain ⟨g, e1, e2⟩ := e
    simp only [renV, den, h t g e1, Option.map_some, e2]
  | .sb t l, u, e => by
    simp only [den, Option.map_eq_some_iff] at e
    obtain ⟨g, e1, e2⟩ := e
    simp only [renV, den, h t g e1, Option.map_some, e2]
  | .ns, u, e => e
  | .ag l, u, e => by
    simp only [den, Option.map_eq_some_iff] at e
    obtain ⟨g, e1, e2⟩ := e
    simp only [renV, den, renVs_den h e1, Option.map_some, e2]
  | .tu l, u, e => by
    simp only [den, Option.map_eq_some_iff] at e
    obtain ⟨g, e1, e2⟩ := e
    simp only [renV, den, renVs_den h e1, Option.map_some, e2]
  | .fn f fi ca, u, e => by
    simp only [den, Option.bind_eq_some_iff, Option.map_eq_some_iff] at e
    obtain ⟨a, e1, b, e2, e3⟩ := e
    simp only [renV, den, renVs_den h e1, renVs_den h e2, Option.bind_some, Option.map_some, e3]
  | .nf, u, e => e
  | .ni, u, e => e
  | .nm, u, e => e
  | .su t, u, e => by
    simp only [den, Option.map_eq_some_iff] at e
    obtain ⟨g, e1, e2⟩ := e
    simp only [renV, den, h t g e1, Option.map_some, e2]
  | .mp t, u, e => by
    simp only [den, Option.map_eq_some_iff] at e
    obtain ⟨g, e1, e2⟩ := e
    simp only [renV, den, h t g e1, Option.map_some, e2]
  | .g g off, u, e => e
  | .un, u, e => e
  | .sv t n, u, e => by
    simp only [den, Option.bind_eq_some_iff] at e
    obtain ⟨g, e1, e2⟩ := e
    simp only [renV, den, h t g e1, Option.bind_some]
    exact e2
  | .sx t i, u, e => by
    simp only [den, Option.map_eq_some_iff] at e
    obtain ⟨g, e1, e2⟩ := e
    simp only [renV, den, h t g e1, Option.map_some, e2]
  | .tp t i, u, e => by
    simp only [den, Option.map_eq_some_iff] at e
    obtain ⟨g, e1, e2⟩ := e
    simp only [renV, den, h t g e1, Option.map_some, e2]
  | .pv t i, u, e => by
    simp only [den, Option.map_eq_some_iff] at e
    obtain ⟨g, e1, e2⟩ := e
    simp only [renV, den, h t g e1, Option.map_some, e2]
theorem renVs_den (h : ∀ t x, θ2 t = some x → θ3 (renT al nx t) = some x) : ∀ {l : List SV} {us : List Value}, dens ρ θ2 l = some us → dens ρ θ3 (renVs al nx l) = some us
  | [], us, e => e
  | v :: l, us, e => by
    simp only [dens, Option.bind_eq_some_iff, Option.map_eq_some_iff] at e
    obtain ⟨u, e1, us', e2, e3⟩ := e
    simp only [renVs, dens, renV_den h e1, renVs_den h e2, Option.bind_some, Option.map_some, e3]
end
theorem renE_den (h : ∀ t x, θ2 t = some x → θ3 (renT al nx t) = some x) : ∀ {l : List (SV × SV × Nat)} {es : List MapEntry}, denE ρ θ2 l = some es → denE ρ θ3 (renE al nx l) = some es
  | [], es, e => e
  | (k, v, n) :: l, es, e => by
    simp only [denE, Option.bind_eq_some_iff, Option.map_eq_some_iff] at e
    obtain ⟨a, e1, b, e2, es', e3, e4⟩ := e
    simp only [renE, denE, renV_den h e1, renV_den h e2, renE_den h e3, Option.bind_some, Option.map_some, e4]
theorem renB_ok (h : ∀ t x, θ2 t = some x → θ3 (renT al nx t) = some x) {w : World} {t : Nat} {b : Blk} (hb : HoldsB ρ θ2 w t b) : HoldsB ρ θ3 w (renT al nx t) (renB al nx b) := by
  cases b with
  | ce ty cs ex =>
    obtain ⟨g, c, vs, arr, rest, f1, f2, f3, f4, f5⟩ := hb
    exact ⟨g, c, vs, arr, rest, h _ _ f1, f2, f3, renVs_den h f4, f5⟩
  | bt ty l =>
    obtain ⟨g, c, arr, rest, f1, f2⟩ := hb
    exact ⟨g, c, arr, rest, h _ _ f1, f2⟩
  | mp es ck =>
    obtain ⟨g, c, arr, f1, f2, f3⟩ := hb
    exact ⟨g, c, arr, h _ _ f1, f2, renE_den h f3⟩
  | ob ty l =>
    obtain ⟨g, c, arr, rest, ss, f1, f2⟩ := hb
    exact ⟨g, c, arr, rest, ss, h _ _ f1, f2⟩
  | cv cs =>
    obtain ⟨g, c, vs, f1, f2, f3, f4⟩ := hb
    exact ⟨g, c, vs, h _ _ f1, f2, renVs_den h f3, f4⟩
  | cx ty n b =>
    obtain ⟨g, c, arr, rest, f1, f2⟩ := hb
    exact ⟨g, c, arr, rest, h _ _ f1, f2⟩
  | cq n b =>
    obtain ⟨g, c, f1, f2, f3⟩ := hb
    exact ⟨g, c, h _ _ f1, f2, f3⟩
  | hb k l q =>
    obtain ⟨x, f1, f2⟩ := hb
    exact ⟨x, h _ _ f1, f2⟩
end
theorem renB_kind (al : Al) (nx : Nat) (b : Blk) : isHb (renB al nx b) = isHb b := by cases b <;> rfl
theorem noTag_ok {t : Nat} : ∀ {l : ML}, noTag t l = true → ∀ b, (t, b) ∉ l
  | [], _, b, h => by cases h
  | (s, c) :: l, hn, b, h => by
    simp only [noTag, Bool.and_eq_true, Bool.not_eq_true'] at hn
    rcases List.mem_cons.1 h with h | h
    · cases h; exact absurd rfl (Nat.ne_of_beq_eq_false hn.1)
    · exact noTag_ok hn.2 b h
theorem lookU_not {t : Nat} : ∀ {l : ML} {o : Option Blk}, (∀ b, (t, b) ∉ l) → lookU l t o = o
  | [], o, _ => rfl
  | (s, c) :: l, o, h => by
    simp only [lookU]
    rw [lookU_not (l := l) fun b hb => h b (List.mem_cons_of_mem _ hb)]
    rw [if_neg fun e => h c (by subst e; exact List.mem_cons_self)]
theorem noDup_look {t : Nat} {b : Blk} : ∀ {l : ML} {o : Option Blk}, noDup l = true → (t, b) ∈ l → lookU l t o = some b
  | (s, c) :: l, o, hn, h => by
    simp only [noDup, Bool.and_eq_true] at hn
    simp only [lookU]
    rcases List.mem_cons.1 h with h | h
    · cases h
      rw [lookU_not (noTag_ok hn.1), if_pos rfl]
    · exact noDup_look hn.2 h
theorem mem_renL {al : Al} {nx t : Nat} {b : Blk} : ∀ {l : ML}, (t, b) ∈ renL al nx l → ∃ t0 b0, (t0, b0) ∈ l ∧ t = renT al nx t0 ∧ b = renB al nx b0
  | (s, c) :: l, h => by
    rcases List.mem_cons.1 h with h | h
    · cases h; exact ⟨s, c, List.mem_cons_self, rfl, rfl⟩
    · obtain ⟨t0, b0, h1, h2⟩ := mem_renL h
      exact ⟨t0, b0, List.mem_cons_of_mem _ h1, h2⟩
theorem CallR.ren {P : Program} {ρ : Rho} {rs : Rules} (hr : RulesOk ρ rs) {f : Nat} {args args0 : List SV} {m0 m1 mC mD : Mem} {nx nx0 nx1 : Nat} {pc pc1 : PC} {v1 : SV} {al : Al} (hs : Sat ρ pc) (h : CallR P ρ f args0 m0 nx0 ⟨v1, m1, nx1, pc1⟩)
    (ha : alOk 0 nx0 al = true) (hv : valsLt nx al = true) (hargs : sameVs al 0 rs pc args0 args = true)
    (h0 : ∀ t b, m0.get t = some b → ∃ u b', findT al t = some u ∧ mC.get u = some b' ∧ sameB al 0 rs pc b b' = true)
    (h1 : ∀ t' b', mD.get t' = some b' → ∃ t b, m1.get t = some b ∧ t' = renT al nx t ∧ b' = renB al nx b) :
    CallR P ρ f args mC nx ⟨renV al nx v1, mD, Nat.add nx nx1, pc1⟩ := by
  have h00 : ∀ t, m0.get t ≠ none → ∃ u, findT al t = some u ∧ mC.get u ≠ none := fun t ht => by
    cases hb : m0.get t with
    | none => exact absurd hb ht
    | some b => obtain ⟨u, b', q1, q2, _⟩ := h0 t b hb; exact ⟨u, q1, by rw [q2]; simp⟩
  have hle : nx0 ≤ nx1 := h.le
  have hnew : ∀ t, m1.get t ≠ none → (∃ u, findT al t = some u ∧ mC.get u ≠ none) ∨ (nx0 ≤ t ∧ t < nx1) := fun t ht => by
    by_cases q : m0.get t = none
    · exact .inr (h.new t q ht)
    · exact .inl (h00 t q)
  refine ⟨h.enter, h.pc, show nx ≤ nx + nx1 by omega, fun t q1 q2 => ?_, fun w θ' us hus hM hfr => ?_⟩
  · show nx ≤ t ∧ t < nx + nx1
    cases hb : mD.get t with
    | none => exact absurd hb q2
    | some b =>
      obtain ⟨t0, b0, e1, rfl, _⟩ := h1 t b hb
      rcases hnew t0 (by rw [e1]; simp) with ⟨u, z1, z2⟩ | z
      · unfold renT at q1
        rw [z1] at q1
        exact absurd q1 z2
      · unfold renT
        split
        · rename_i u hu
          have := alOk_rng ha _ _ hu
          omega
        · show nx ≤ nx + t0 ∧ nx + t0 < nx + nx1
          omega
  · let θ0 : Th := fun t => (findT al t).bind θ'
    have tk : ∀ t u, findT al t = some u → θ0 t = θ' u := fun t u hq => by
      show (findT al t).bind θ' = _
      rw [hq]; rfl
    have hθ : TagsOk al 0 θ0 θ' := fun t u hq => by
      unfold tagOk at hq
      have hb : Nat.blt t 0 = false := rfl
      simp only [hb] at hq
      cases hx : findT al t with
      | none => rw [hx] at hq; cases hq
      | some x =>
        rw [hx] at hq
        have := Nat.eq_of_beq_eq_true hq
        subst this
        exact tk t x hx
    have ownA : ∀ {fa : Bool}, ∀ t g, Own fa θ0 m0.get t g → ∃ u, findT al t = some u ∧ Own fa θ' mC.get u g := fun t g ho => by
      cases hb : m0.get t with
      | none => exact absurd hb ho.ne
      | some b =>
        obtain ⟨u, b', q1, q2, q3⟩ := h0 t b hb
        exact ⟨u, q1, own_same (fun b2 e2 => by rw [hb] at e2; cases e2; exact ⟨b', q2, sameB_kind q3⟩) (tk t u q1) ho⟩
    have hus0 : dens ρ θ0 args0 = some us := (sameVs_ok hs hr hθ hargs).trans hus
    have hM0 : MemOk ρ θ0 m0.get w := by
      refine ⟨fun t b hb => ?_, fun s t g q1 q2 => ?_⟩
      · obtain ⟨u, b', q1, q2, q3⟩ := h0 t b hb
        exact sameB_ok hs hr hθ (tk t u q1) q3 (hM.holds u b' q2)
      obtain ⟨u, z1, z2⟩ := ownA s g q1
      obtain ⟨v, y1, y2⟩ := ownA t g q2
      have := hM.inj u v g z2 y2
      subst this
      exact alOk_inj ha _ _ _ z1 y1
    have hfr0 : ∀ t, nx0 ≤ t → t < nx1 → θ0 t = none := fun t q1 q2 => by
      show (findT al t).bind θ' = none
      cases hq : findT al t with
      | none => rfl
      | some u => have := alOk_rng ha _ _ hq; omega
    refine calls_mono (h.run w θ0 us hus0 hM0 hfr0) fun e w' ⟨v, θ2, he, hsp0, hv2⟩ => ?_
    have hsp : SP ρ nx0 nx1 θ0 m0.get w θ2 m1.get w' := hsp0
    let θ3 : Th := fun t' => if nx + nx0 ≤ t' ∧ t' < nx + nx1 then θ2 (t' - nx) else θ' t'
    have le3 : ThLe θ' θ3 := fun t x hx => by
      show (if nx + nx0 ≤ t ∧ t < nx + nx1 then θ2 (t - nx) else θ' t) = some x
      rw [if_neg fun q => by have := hfr t (by omega) (by show t < nx + nx1; omega); rw [this] at hx; cases hx]
      exact hx
    have up : ∀ t x, θ2 t = some x → θ3 (renT al nx t) = some x := fun t x hx => by
      rcases hsp.new t (by rw [hx]; simp) with q | q
      · cases hq : findT al t with
        | none => exact absurd (show (findT al t).bind θ' = none by rw [hq]; rfl) q
        | some u =>
          unfold renT
          rw [hq]
          refine le3 u x ?_
          cases hy : θ' u with
          | none => exact absurd ((tk t u hq).trans hy) q
          | some y =>
            have := hsp.le t y ((tk t u hq).trans hy)
            rw [hx] at this
            exact this.symm
      · have hq : findT al t = none := by
          cases hq : findT al t with
          | none => rfl
          | some u => have := alOk_rng ha _ _ hq; omega
        unfold renT
        rw [hq]
        show (if nx + nx0 ≤ nx + t ∧ nx + t < nx + nx1 then θ2 (nx + t - nx) else θ' (nx + t)) = some x
        rw [if_pos (by omega), show nx + t - nx = t by omega]
        exact hx
    have ownD : ∀ {fa : Bool}, ∀ t' g, Own fa θ3 mD.get t' g → ∃ t, t' = renT al nx t ∧ Own fa θ2 m1.get t g := fun t' g ho => by
      cases hb : mD.get t' with
      | none => exact absurd hb ho.ne
      | some b' =>
        obtain ⟨t, b, y1, rfl, rfl⟩ := h1 t' b' hb
        obtain ⟨g1, c1, x1⟩ := (hsp.mem.holds t b y1).th
        obtain ⟨x, e, f⟩ := ho
        rw [up t _ x1] at e
        cases e
        rw [hb] at f
        exact ⟨t, rfl, _, x1, by rw [y1]; exact FtB_kind (renB_kind al nx b) f⟩
    have hmem : MemOk ρ θ3 mD.get w' := by
      refine ⟨fun t' b' hb' => ?_, fun s' t' g q1 q2 => ?_⟩
      · obtain ⟨t, b, q1, rfl, rfl⟩ := h1 t' b' hb'
        exact renB_ok up (hsp.mem.holds t b q1)
      obtain ⟨s, rfl, z1⟩ := ownD s' g q1
      obtain ⟨t, rfl, z2⟩ := ownD t' g q2
      rw [hsp.mem.inj s t g z1 z2]
    have bl0 : ∀ {fa : Bool}, ∀ g, Bl fa θ0 m0.get g → Bl fa θ' mC.get g := fun g ⟨t, q⟩ => by
      obtain ⟨u, _, z⟩ := ownA t g q
      exact ⟨u, z⟩
    refine ⟨v, θ3, he, ⟨le3, fun t ht => ?_, hmem, hsp.ext.mono fun g _ hg => bl0 g hg, fun g ⟨t', q⟩ => ?_⟩, renV_den up hv2⟩
    · by_cases q : nx + nx0 ≤ t ∧ t < nx + nx1
      · exact .inr ⟨by omega, q.2⟩
      · left
        have : θ3 t = θ' t := if_neg q
        rw [← this]; exact ht
    · obtain ⟨t, _, z⟩ := ownD t' g q
      rcases hsp.own g ⟨t, z⟩ with z | z
      · exact .inl (bl0 g z)
      · exact .inr z
theorem cutG_yl {P : Program} {ρ : Rho} {rs : Rules} (hr : RulesOk ρ rs) {f : Nat} {args0 : List SV} {l0 : ML} {nx0 : Nat} {pc0 : PC} {v1 : SV} {l1 : ML} {nx1 : Nat} {pc1 : PC}
    (hk : ∀ pc, Sat ρ pc → Sat ρ pc0 → CallR P ρ f args0 (mkU l0 .lf) nx0 ⟨v1, mkU l1 .lf, nx1, pc1 ++ pc⟩) {args : List SV} {m : Mem} {nx : Nat} {pc : PC} (hs : Sat ρ pc) :
    Yl (fun K => cutG rs args0 l0 nx0 pc0 v1 l1 nx1 pc1 args m nx pc fun v m nx pc => K ⟨v, m, nx, pc⟩) (CallR P ρ f args m nx) := by
  have lfB : ∀ t, Tr.get (α := Blk) .lf t = none := fun t => by simp [Tr.get]
  unfold cutG
  refine Yl.bind mkK_yl fun m0 hm0 => Yl.bind prGo_yl fun al _ => ?_
  split
  · rename_i hc
    simp only [Bool.and_eq_true] at hc
    obtain ⟨⟨⟨⟨⟨c1, c2⟩, c3⟩, c4⟩, c5⟩, c6⟩ := hc
    have c4 := allL_ok c4
    refine Yl.bind selK_yl fun mC hmC => Yl.bind rmN_yl fun m1 hm1 => Yl.bind mkK_yl fun mX hmX => Yl.bind mkK_yl fun mD hmD => Yl.bind mkK_yl fun mF hmF => Yl.pure (⟨renV al nx v1, mF, Nat.add nx nx1, pc1 ++ pc⟩ : O4) ?_
    have hcall := hk pc hs (allP_ok hs c5)
    rw [← hm0.1, ← hmX.1] at hcall
    have mCm : ∀ t, mC.get t ≠ none → t ∈ tagsOf al 0 l0 ∧ mC.get t = m.get t := fun t h => by
      by_cases hin : t ∈ tagsOf al 0 l0
      · exact ⟨hin, (hmC t).1 hin⟩
      · rw [(hmC t).2 hin, lfB] at h; exact absurd rfl h
    have tB : ∀ t v, m0.get t = some v → (t, v) ∈ l0 := fun t v h => by
      rw [hm0.2, lfB] at h
      rcases lookU_mem h with h | h
      · exact h
      · cases h
    have hren := CallR.ren (mC := mC) (mD := mD) (nx := nx) hr hs hcall c1 c2 c3 (fun t b hb => by
      have hin := tB t b hb
      have q := c4 t b hin
      split at q
      · rename_i b' hb'
        simp only [Bool.and_eq_true] at q
        have hu : findT al t = some (tagOf al 0 t) := by
          have q1 := q.1
          unfold tagOk at q1
          have hb0 : Nat.blt t 0 = false := rfl
          simp only [hb0] at q1
          cases hx : findT al t with
          | none => rw [hx] at q1; cases q1
          | some x => rw [hx] at q1; rw [Nat.eq_of_beq_eq_true q1]
        exact ⟨_, b', hu, by rw [(hmC _).1 (mem_tagsOf hin)]; exact hb', q.2⟩
      · cases q) (fun t' b' hb' => by
      rw [hmD.2, lfB] at hb'
      rcases lookU_mem hb' with hb' | hb'
      · obtain ⟨t0, b0, e1, e2, e3⟩ := mem_renL hb'
        exact ⟨t0, b0, by rw [hmX.2]; exact noDup_look c6 e1, e2, e3⟩
      · cases hb')
    have fF : ∀ t b, mF.get t = some b → mD.get t = some b ∨ (mD.get t = none ∧ t ∉ tagsOf al 0 l0 ∧ m.get t = some b) := fun t b h => by
      have q1 := hmF.2 t
      have q2 := hmD.2 t
      rw [lfB] at q2
      rw [h, lookU_none, ← q2] at q1
      cases hq : mD.get t with
      | some b' => rw [hq] at q1; simp only at q1; exact .inl (by rw [q1])
      | none =>
        rw [hq] at q1
        simp only at q1
        by_cases hin : t ∈ tagsOf al 0 l0
        · rw [(hm1 t).1 hin] at q1; cases q1
        · exact .inr ⟨rfl, hin, by rw [← (hm1 t).2 hin, ← q1]⟩
    refine ⟨hren.enter, hren.pc, hren.le, fun t q1 q2 => ?_, fun w θ us hus hM hfr => ?_⟩
    · cases hb : mF.get t with
      | none => exact absurd hb q2
      | some b =>
        rcases fF t b hb with h | ⟨_, _, h⟩
        · refine hren.new t ?_ (by show mD.get t ≠ none; rw [h]; simp)
          cases hq : mC.get t with
          | none => rfl
          | some c => have := (mCm t (by rw [hq]; simp)).2; rw [hq, q1] at this; cases this
        · rw [q1] at h; cases h
    · have hMC : MemOk ρ θ mC.get w := hM.sub fun t b hb => by rw [← (mCm t (by rw [hb]; simp)).2]; exact hb
      refine calls_mono (hren.run w θ us hus hMC hfr) fun e w' ⟨v, θ2, he, hsp, hv⟩ => ⟨v, θ2, he, ?_, hv⟩
      exact SP.frame (tc := fun t => mC.get t ≠ none ∨ mD.get t ≠ none) (M' := mF.get) hM (fun t b hb => ⟨.inl (by rw [hb]; simp), by rw [← (mCm t (by rw [hb]; simp)).2]; exact hb⟩) hsp (fun t ht => by
        show mD.get t = none
        cases h : mD.get t with
        | none => rfl
        | some b => exact absurd (.inr (by rw [h]; simp)) ht) (fun t b hb => by
        rcases fF t b hb with h | ⟨h0, h1, h2⟩
        · exact .inl ⟨.inr (by rw [h]; simp), h⟩
        · refine .inr ⟨fun hq => ?_, h2⟩
          rcases hq with hq | hq
          · exact h1 (mCm t hq).1
          · exact hq h0)
  · exact Yl.no
end X
end Go.Proofs.YtebfahobllghnaaGreatDoor
namespace Go.Proofs.YtebfahobllghnaaGreatDoor
namespace X
open Go.RowKit B
def bodyOf (c : Option Code) : Code := match c with
  | some c => c
  | none => .skip
def dropS : Str → Nat → Option (Str × Str)
  | l, 0 => some ([], l)
  | .c a :: l, n + 1 => match dropS l n with
    | some (p, r) => some (.c a :: p, r)
    | none => none
  | _, _ => none
def behind : Str → Str → Option Str
  | l, [] => some l
  | a :: l, b :: m => match eqP a b with
    | true => behind l m
    | false => none
  | [], _ :: _ => none
def findY (Y S : Str) (k : Nat) : Option (Str × Str) := match dropS S k with
  | some (p, r) => match behind r Y with
    | some q => some (p, q)
    | none => none
  | none => none
def appL {α : Type} : List α → List α → List α
  | [], m => m
  | a :: l, m => a :: appL l m
def midS (p q : Str) : Str := appL p (.a 0 :: .a 1 :: .a 2 :: q)
def atK (k : Nat) : SV := .x .i64 (.mk (.ofNat k) [(1, 1)])
def tailFrom (c : Cc) (nx : Nat) (T : TS) (Ts : List TS) : Tr2 := .tail c T Ts (Nat.add nx 100)
def ptrOf : List SV → Option Nat
  | .p b 0 :: _ => some b
  | _ :: l => ptrOf l
  | [] => none
def noB (n : Nat) : Lin := .mk 0 [(Nat.add (Nat.mul 8 (Nat.add 1 (Nat.mul 16 n))) 7, -1)]
def bvE (n : Nat) : PC := [.mk (.negOfNat n) [(64011, 1)], .mk (.ofNat n) [(64011, -1)]]
def oneB1 (more : PC) : PC := .mk (-1) [(5, 1)] :: .mk 1 [(5, -1)] :: more
def pk1 : Str := [.a 1]
def sh0 : Sh := ⟨[], [], []⟩
abbrev SumF := List SV → Mem → Nat → PC → (SV → Mem → Nat → PC → Bool) → Bool
def withF (f : Nat) (g : SumF) (sm : SumT) : SumT := fun x => match Nat.beq x f with
  | true => some g
  | false => sm x
def callX' (P : Program) (sm : SumT) (f : Nat) (c : Code) (l : List Trig2) : SumF := fun args m nx pc K => callX P sm 1000000 200 f (mkX c l).1 args m nx pc K
def va (i : Nat) : Lin := .mk 0 [(i, 1)]
end X
end Go.Proofs.YtebfahobllghnaaGreatDoor
