/-
  TopEdits: PnI, PnN, PnJ, VRa, RpA.
-/
import Derived.Test.YtebfahobllghnaaGreatDoorEdB1
import Derived.Test.YtebfahobllghnaaGreatDoorChecked
set_option linter.unusedSimpArgs false
set_option linter.unusedVariables false
namespace Go.Proofs.YtebfahobllghnaaGreatDoor
namespace X
open Go.RowKit B
def tallyTrig (c : Cc) : Trig2 := fun s m nx pc => match s.get 0, s.get 2, s.get 3, s.get 4 with
  | some (.s S), some v2, some (.p b 0), some (.i .i64 (.ofNat 0)) => match findY c.Y S 0 with
    | some (p, q) => match m.get b with
      | some (.ce ty [_, _, _, _] ex) => tailFrom c nx ⟨[(0, .s (midS p q)), (2, v2), (3, .p b 0), (4, atK 0)], [(b, .ce ty [atK 0, .x .i64 (lv 17), .x .i64 (lv 21), .x .i64 (lv 13)] ex)], [], nx⟩ []
      | _ => .step
    | none => .step
  | _, _, _, _ => .step
def cntQ (M : Nat) : PC := [.mk 0 [(1, 1)], .mk 0 [(9, 1)], .mk 0 [(13, 1)], .mk 0 [(17, 1)], .mk 0 [(21, 1)], .mk 0 [(1000, 1)], .mk 0 [(1000, -1)], .mk (.ofNat M) [(1, -1), (9, -1)], .mk 2000 [(13, -1)], .mk 2000 [(17, -1)], .mk 2000 [(21, -1)]]
def geB (n : Nat) : Lin := .mk (.negOfNat n) [(64011, 1)]
def leB (n : Nat) : Lin := .mk (.ofNat n) [(64011, -1)]
def z3 : Str := [.a 3]
def z4 : Str := [.a 4]
def z5 : Str := [.a 5]
def up (a : Str) (n : Nat) : Str := match n with
  | 0 => a
  | 1 => appL a [.c 0]
  | _ => appL a [.c 0, .c 0]
def ccT (Y f3 f4 f5 : Str) : Cc := ⟨Y, cntQ 500, [(oneB1 (bvE 10), pk1, ⟨up z3 1, up z4 1, up z5 1⟩), (oneB1 [noB 10, leB 127], pk1, ⟨up z3 1, z4, up z5 1⟩), (oneB1 [noB 10, geB 128, leB 191], pk1, ⟨z3, z4, z5⟩),
  (oneB1 [noB 10, geB 192, leB 239], pk1, ⟨up z3 1, z4, up z5 1⟩), (oneB1 [noB 10, geB 240], pk1, ⟨up z3 2, z4, up z5 1⟩)], sh0, ⟨f3, f4, f5⟩, []⟩
theorem tallyTrig_c {c : Cc} {s : Tr SV} {m : Mem} {nx : Nat} {pc : PC} : TrC c (tallyTrig c s m nx pc) := by
  unfold tallyTrig tailFrom
  split
  · split
    · split <;> trivial
    · trivial
  · trivial
section
variable {ρ ρ0 : Rho} {b : UInt8} {n : Nat}
theorem byte_v (h1 : ρ.s 1 = [b]) (hv : ρ.v 500 = 0) : ρ.at 64011 = (b.toNat : Int) := by
  have := ρ.at_b 1 500 (by omega)
  rw [h1, hv] at this
  rw [this]; simp
theorem geB_ok (h1 : ρ.s 1 = [b]) (hv : ρ.v 500 = 0) (h : n ≤ b.toNat) : 0 ≤ (geB n).den ρ := by
  have := byte_v h1 hv
  have ng (m : Nat) : Int.negOfNat m = -(m : Int) := by cases m <;> rfl
  simp only [geB, Lin.den, dts, this, ng]; omega
theorem leB_ok (h1 : ρ.s 1 = [b]) (hv : ρ.v 500 = 0) (h : b.toNat ≤ n) : 0 ≤ (leB n).den ρ := by
  have := byte_v h1 hv
  simp only [leB, Lin.den, dts, this, Int.ofNat_eq_natCast]; omega
def zer (n : Nat) : List UInt8 := List.replicate n 0
theorem zer_len {n : Nat} : (zer n).length = n := by simp [zer]
theorem zer_add {n m : Nat} : zer n ++ zer m = zer (n + m) := by simp [zer, List.replicate_append_replicate]
theorem up_den {i n : Nat} (hn : n ≤ 2) {k : Nat} (h : ρ.s i = zer k) : denS ρ (up [.a i] n) = zer (k + n) := by
  rcases (show n = 0 ∨ n = 1 ∨ n = 2 by omega) with rfl | rfl | rfl
  · show denS ρ [.a i] = _
    simp [denS, Pc.den, h]
  · show denS ρ [.a i, .c 0] = _
    rw [← zer_add, ← h]; simp [denS, Pc.den, zer]
  · show denS ρ [.a i, .c 0, .c 0] = _
    rw [← zer_add, ← h]; simp [denS, Pc.den, zer]
theorem ccc_ok (hv : ρ0.v 500 = 0) {Y : Str} {l : List UInt8} {pc1 : PC} {cl : List (PC × Str × Sh)} {f : Sh} {vk : List Nat} (hY : denS ρ0 Y = l) (g3 g4 g5 : List UInt8 → List UInt8) (e3 : g3 [] = []) (e4 : g4 [] = []) (e5 : g5 [] = [])
    (hp : ∀ ρ z b r, Agree ρ0 ρ → z ++ b :: r = l → ρ.s 0 = z → ρ.s 2 = r → ρ.s 3 = g3 z → ρ.s 4 = g4 z → ρ.s 5 = g5 z → Sat ρ pc1)
    (hcl : ∀ z b r, z ++ b :: r = l → ∃ k, k ∈ cl ∧ ∀ ρ, Agree ρ0 ρ → ρ.s 1 = [b] → ρ.s 3 = g3 z → ρ.s 4 = g4 z → ρ.s 5 = g5 z → denS ρ k.2.1 = [b] ∧ Sat ρ k.1 ∧ denS ρ k.2.2.s3 = g3 (z ++ [b]) ∧ denS ρ k.2.2.s4 = g4 (z ++ [b]) ∧ denS ρ k.2.2.s5 = g5 (z ++ [b]))
    (f3 : denS ρ0 f.s3 = g3 l) (f4 : denS ρ0 f.s4 = g4 l) (f5 : denS ρ0 f.s5 = g5 l) : CcR ρ0 ⟨Y, pc1, cl, sh0, f, vk⟩ enc1 l (fun ρ => ρ.s 3 = g3 (ρ.s 0) ∧ ρ.s 4 = g4 (ρ.s 0) ∧ ρ.s 5 = g5 (ρ.s 0)) := by
  refine ⟨by rw [enc1_flat]; exact hY, fun ρ hag h0 h3 h4 h5 => ⟨by rw [h3, h0, e3]; rfl, by rw [h4, h0, e4]; rfl, by rw [h5, h0, e5]; rfl⟩, fun ρ z b r hag hJ h0 hcat ⟨i3, i4, i5⟩ => ?_, fun ρ hag h0 ⟨i3, i4, i5⟩ => ?_⟩
  · rw [enc1_flat] at h0
    rw [h0] at i3 i4 i5
    have s1 : ρ.s 1 = [b] := hJ.s1
    have s2 : ρ.s 2 = r := hJ.s2.trans (enc1_flat r)
    obtain ⟨k, hk, hkr⟩ := hcl z b r hcat
    obtain ⟨q0, q1, q3, q4, q5⟩ := hkr ρ hag s1 i3 i4 i5
    have d0 : (dnK enc1 r k.2.2 ρ).s 0 = z ++ [b] := by rw [(hJ.dn (σ := k.2.2)).2, h0]; rfl
    refine ⟨k, hk, by rw [q0, s1], q1, hp ρ z b r hag hcat h0 s2 i3 i4 i5, ?_, ?_, ?_⟩
    · rw [d0]; exact q3
    · rw [d0]; exact q4
    · rw [d0]; exact q5
  · rw [hY] at h0
    rw [h0] at i3 i4 i5
    exact ⟨f3.trans i3.symm, f4.trans i4.symm, f5.trans i5.symm⟩
theorem cntQ_ok (hv : ρ.v 500 = 0) {M : Nat} (h02 : (ρ.s 0).length + (ρ.s 2).length ≤ M) (h3 : (ρ.s 3).length ≤ 2000) (h4 : (ρ.s 4).length ≤ 2000) (h5 : (ρ.s 5).length ≤ 2000) : Sat ρ (cntQ M) := by
  have a0 : ρ.at 1 = ((ρ.s 0).length : Int) := ρ.at_l 0
  have a2 : ρ.at 9 = ((ρ.s 2).length : Int) := ρ.at_l 2
  have a3 : ρ.at 13 = ((ρ.s 3).length : Int) := ρ.at_l 3
  have a4 : ρ.at 17 = ((ρ.s 4).length : Int) := ρ.at_l 4
  have a5 : ρ.at 21 = ((ρ.s 5).length : Int) := ρ.at_l 5
  have a6 : ρ.at 1000 = ρ.v 500 := ρ.at_v 500
  refine sat_cons ?_ (sat_cons ?_ (sat_cons ?_ (sat_cons ?_ (sat_cons ?_ (sat_cons ?_ (sat_cons ?_ (sat_cons ?_ (sat_cons ?_ (sat_cons ?_ (sat_cons ?_ sat_nil)))))))))) <;> simp only [Lin.den, dts, a0, a2, a3, a4, a5, a6, hv, Int.ofNat_eq_natCast] <;> omega
def cntF (f : UInt8 → Nat) : List UInt8 → Nat
  | [] => 0
  | b :: l => f b + cntF f l
theorem cntF_app {f : UInt8 → Nat} : ∀ {a b : List UInt8}, cntF f (a ++ b) = cntF f a + cntF f b
  | [], b => by simp [cntF]
  | x :: a, b => by simp only [List.cons_append, cntF, cntF_app (a := a)]; omega
theorem cntF_le {f : UInt8 → Nat} {k : Nat} (hf : ∀ b, f b ≤ k) : ∀ {l : List UInt8}, cntF f l ≤ k * l.length
  | [] => Nat.zero_le _
  | b :: l => by
    have h1 := hf b
    have h2 := cntF_le hf (l := l)
    simp only [cntF, List.length_cons, Nat.mul_add]; omega
def lfB (b : UInt8) : Nat := if b = 10 then 1 else 0
def runB (b : UInt8) : Nat := if b.toNat < 128 ∨ 191 < b.toNat then 1 else 0
def uniB (b : UInt8) : Nat := if b.toNat < 128 ∨ 191 < b.toNat then (if 240 ≤ b.toNat then 2 else 1) else 0
theorem cnt_brk : ∀ {l : List UInt8}, cntF lfB l = brk l
  | [] => rfl
  | b :: l => by simp only [cntF, brk, lfB, cnt_brk (l := l)]
theorem ccT_ok (hv : ρ0.v 500 = 0) {Y f3 f4 f5 : Str} {l : List UInt8} (hY : denS ρ0 Y = l) (hl : l.length ≤ 500) (h3 : denS ρ0 f3 = zer (cntF uniB l)) (h4 : denS ρ0 f4 = zer (cntF lfB l)) (h5 : denS ρ0 f5 = zer (cntF runB l)) : ∃ I, CcR ρ0 (ccT Y f3 f4 f5) enc1 l I := by
  have u2 : ∀ b, uniB b ≤ 2 := fun b => by unfold uniB; split <;> (try split) <;> omega
  have l1 : ∀ b, lfB b ≤ 1 := fun b => by unfold lfB; split <;> omega
  have r1 : ∀ b, runB b ≤ 1 := fun b => by unfold runB; split <;> omega
  refine ⟨_, ccc_ok hv hY (fun z => zer (cntF uniB z)) (fun z => zer (cntF lfB z)) (fun z => zer (cntF runB z)) rfl rfl rfl (fun ρ z b r hag hcat s0 s2 i3 i4 i5 => ?_) (fun z b r hcat => ?_) h3 h4 h5⟩
  · have hlen := congrArg List.length hcat
    rw [List.length_append, List.length_cons] at hlen
    have q1 := cntF_le u2 (l := z)
    have q2 := cntF_le l1 (l := z)
    have q3 := cntF_le r1 (l := z)
    exact cntQ_ok (by rw [hag.v]; exact hv) (by rw [s0, s2]; omega) (by rw [i3, zer_len]; omega) (by rw [i4, zer_len]; omega) (by rw [i5, zer_len]; omega)
  · have mk : ∀ (k : PC × Str × Sh) (cs : PC) (a c d : Nat), k = (oneB1 cs, pk1, ⟨up z3 a, up z4 c, up z5 d⟩) → a ≤ 2 → c ≤ 2 → d ≤ 2 → uniB b = a → lfB b = c → runB b = d → (∀ ρ, Agree ρ0 ρ → ρ.s 1 = [b] → Sat ρ cs) →
        ∀ ρ, Agree ρ0 ρ → ρ.s 1 = [b] → ρ.s 3 = zer (cntF uniB z) → ρ.s 4 = zer (cntF lfB z) → ρ.s 5 = zer (cntF runB z) → denS ρ k.2.1 = [b] ∧ Sat ρ k.1 ∧ denS ρ k.2.2.s3 = zer (cntF uniB (z ++ [b])) ∧ denS ρ k.2.2.s4 = zer (cntF lfB (z ++ [b])) ∧ denS ρ k.2.2.s5 = zer (cntF runB (z ++ [b])) := fun k cs a c d hk ha hc hd e1 e2 e3 hcs ρ hag s1 i3 i4 i5 => by
      subst hk
      refine ⟨by show denS ρ [.a 1] = _; simp [denS, Pc.den, s1], oneB1_ok s1 (hcs ρ hag s1), ?_, ?_, ?_⟩
      · rw [cntF_app, show cntF uniB [b] = a by simp [cntF, e1]]; exact up_den ha i3
      · rw [cntF_app, show cntF lfB [b] = c by simp [cntF, e2]]; exact up_den hc i4
      · rw [cntF_app, show cntF runB [b] = d by simp [cntF, e3]]; exact up_den hd i5
    have v0 : ∀ ρ, Agree ρ0 ρ → ρ.v 500 = 0 := fun ρ hag => by rw [hag.v]; exact hv
    by_cases h10 : b = 10
    · refine ⟨_, List.mem_cons_self, mk _ (bvE 10) 1 1 1 rfl (by omega) (by omega) (by omega) (by rw [h10]; rfl) (by rw [h10]; rfl) (by rw [h10]; rfl) fun ρ hag s1 => bvE_ok s1 (v0 ρ hag) (by rw [h10]; rfl)⟩
    have lf0 : lfB b = 0 := by unfold lfB; rw [if_neg h10]
    have no : ∀ ρ, ρ.s 1 = [b] → 0 ≤ (noB 10).den ρ := fun ρ s1 => noB_ok s1 (by omega) h10
    by_cases c1 : b.toNat < 128
    · refine ⟨_, List.mem_cons_of_mem _ List.mem_cons_self, mk _ [noB 10, leB 127] 1 0 1 rfl (by omega) (by omega) (by omega) (by unfold uniB; rw [if_pos (.inl c1), if_neg (by omega)]) lf0 (by unfold runB; rw [if_pos (.inl c1)]) fun ρ hag s1 => sat_cons (no ρ s1) (sat_cons (leB_ok s1 (v0 ρ hag) (by omega)) sat_nil)⟩
    by_cases c2 : b.toNat ≤ 191
    · refine ⟨_, List.mem_cons_of_mem _ (List.mem_cons_of_mem _ List.mem_cons_self), mk _ [noB 10, geB 128, leB 191] 0 0 0 rfl (by omega) (by omega) (by omega) (by unfold uniB; rw [if_neg (by omega)]) lf0 (by unfold runB; rw [if_neg (by omega)]) fun ρ hag s1 => sat_cons (no ρ s1) (sat_cons (geB_ok s1 (v0 ρ hag) (by omega)) (sat_cons (leB_ok s1 (v0 ρ hag) (by omega)) sat_nil))⟩
    by_cases c3 : b.toNat < 240
    · refine ⟨_, List.mem_cons_of_mem _ (List.mem_cons_of_mem _ (List.mem_cons_of_mem _ List.mem_cons_self)), mk _ [noB 10, geB 192, leB 239] 1 0 1 rfl (by omega) (by omega) (by omega) (by unfold uniB; rw [if_pos (.inr (by omega)), if_neg (by omega)]) lf0 (by unfold runB; rw [if_pos (.inr (by omega))]) fun ρ hag s1 => sat_cons (no ρ s1) (sat_cons (geB_ok s1 (v0 ρ hag) (by omega)) (sat_cons (leB_ok s1 (v0 ρ hag) (by omega)) sat_nil))⟩
    · refine ⟨_, List.mem_cons_of_mem _ (List.mem_cons_of_mem _ (List.mem_cons_of_mem _ (List.mem_cons_of_mem _ List.mem_cons_self))), mk _ [noB 10, geB 240] 2 0 1 rfl (by omega) (by omega) (by omega) (by unfold uniB; rw [if_pos (.inr (by omega)), if_pos (by omega)]) lf0 (by unfold runB; rw [if_pos (.inr (by omega))]) fun ρ hag s1 => sat_cons (no ρ s1) (sat_cons (geB_ok s1 (v0 ρ hag) (by omega)) sat_nil)⟩
end
section
variable {P : Program} {ρ : Rho} {f : Nat}
theorem KnownOk.same {k k' : Known} (h : KnownOk P f k ρ) (h0 : Sat ρ k'.pc0 → Sat ρ k.pc0) (ha : ∀ θ, dens ρ θ k'.a0 = dens ρ θ k.a0) (e0 : k'.l0 = k.l0) (en : k'.nx0 = k.nx0) (hv : ∀ θ, den ρ θ k'.v1 = den ρ θ k.v1) (e1 : k'.l1 = k.l1) (e2 : k'.nx1 = k.nx1) (hp : Sat ρ k'.pc1) : KnownOk P f k' ρ := fun hs => by
  have c := h (h0 hs)
  refine ⟨c.enter, hp, by rw [en, e2]; exact c.le, fun t => by rw [e0, e1, en, e2]; exact c.new t, fun w θ vs hvs hM hfr => ?_⟩
  rw [ha] at hvs
  rw [e0] at hM
  rw [en, e2] at hfr
  refine calls_mono (c.run w θ vs hvs hM hfr) fun e w' ⟨v, θ', h1, h2, h3⟩ => ⟨v, θ', h1, ?_, by rw [hv]; exact h3⟩
  rw [en, e0, e1, e2]; exact h2
theorem known_y {g : SumF} (hg : CallY P ρ f g) {rs : Rules} (hr : RulesOk ρ rs) {k : Known} (hk : mkK k.l0 .lf (fun m0 => g k.a0 m0 k.nx0 k.pc0 (cutEnd rs k.nx0 k.v1 k.l1 k.nx1 k.pc1)) = true) : KnownOk P f k ρ := fun h0 => by
  obtain ⟨hk, _⟩ := mkK_told hk
  obtain ⟨r, q, he, _⟩ := hg k.a0 (mkU k.l0 .lf) k.nx0 k.pc0 h0 (fun r => cutEnd rs k.nx0 k.v1 k.l1 k.nx1 k.pc1 r.v r.m r.nx r.pc) hk
  have := q.tell hr (pc := []) sat_nil he
  rwa [List.append_nil] at this
end
end X
end Go.Proofs.YtebfahobllghnaaGreatDoor
namespace Go.Proofs.YtebfahobllghnaaGreatDoor
namespace X
open Go.RowKit B
def cutP (rs : Rules) (k : Known) (τ : Sb) : SumF := factS (mpP (sbL (subV τ)) k.pc0) (cutT rs k τ)
def rN : Rules := ⟨[], []⟩
def xl (e : Lin) : SV := .x .i64 e
def okV0 : SV := .i .i64 (.ofNat 0)
def le' (e : Lin) (n : Nat) : Lin := (Lin.mk (.ofNat n) []).sub e
end X
end Go.Proofs.YtebfahobllghnaaGreatDoor
namespace Go.Proofs.YtebfahobllghnaaGreatDoor
namespace X
open Go.RowKit B
set_option maxRecDepth 1000000
theorem mixJ : Tryz.prog.follows .mixedOrders = true := by kernel_rfl
theorem smZ_ok (ρ : Rho) : SumOk Tryz.prog ρ smZ := fun f h hh => by cases hh
noncomputable def cTally : Code := bodyOf Tryz.f237.body
theorem fn_tally : Tryz.prog.funcs[237]? = some Tryz.f237 := by kernel_rfl
theorem join_tally (t : Trig2) : Tryz.f237.body = some (mkX cTally [t]).1.code := by kernel_rfl
def kTally : Known := ⟨[.s [.a 6]], [], 0, [.mk 500 [(25, -1)]], .ag [.x .i64 (lv 25), .x .i64 (lv 37), .x .i64 (lv 41), .x .i64 (lv 45)], [], 300, []⟩
theorem tally_k : mkK kTally.l0 .lf (fun m0 => callX' Tryz.prog smZ 237 cTally [tallyTrig (ccT [.a 6] [.a 11] [.a 9] [.a 10])] kTally.a0 m0 kTally.nx0 kTally.pc0 (cutEnd r0 kTally.nx0 kTally.v1 kTally.l1 kTally.nx1 kTally.pc1)) = true := by kernel_rfl
theorem kTally_ok {ρ : Rho} (h1 : ρ.s 9 = zer (brk (ρ.s 6))) (h2 : ρ.s 10 = zer (cntF runB (ρ.s 6))) (h3 : ρ.s 11 = zer (cntF uniB (ρ.s 6))) : KnownOk Tryz.prog 237 kTally ρ := by
  let ρ1 : Rho := ⟨fun _ => 0, ρ.s⟩
  refine KnownOk.vis (ρ := ρ1) (a := [6, 9, 10, 11]) (b := []) (by kernel_rfl) (by kernel_rfl) (by kernel_rfl) (fun i _ => rfl) (fun i hi => by cases hi) ?_
  intro h0
  have hl : (ρ.s 6).length ≤ 500 := by
    have := h0 _ List.mem_cons_self
    have a6 : ρ1.at 25 = ((ρ1.s 6).length : Int) := ρ1.at_l 6
    simp only [Lin.den, dts, a6] at this
    have : ((ρ.s 6).length : Int) ≤ 500 := by show ((ρ1.s 6).length : Int) ≤ 500; omega
    omega
  have d1 : ∀ i, denS ρ1 [.a i] = ρ.s i := fun i => by simp [denS, Pc.den, ρ1]
  obtain ⟨I, hI⟩ := ccT_ok (ρ0 := ρ1) rfl (d1 6) hl ((d1 11).trans h3) (by rw [d1, h1, cnt_brk]) ((d1 10).trans h2)
  exact known_y (callX_ok mixJ (fun ρ' _ => smZ_ok ρ') fn_tally (join_tally _) fun t ht => by
    have : t = tallyTrig (ccT [.a 6] [.a 11] [.a 9] [.a 10]) := by simpa using ht
    rw [this]; exact trc_ok (fun _ _ _ _ => tallyTrig_c) hI) r0_ok tally_k h0
end X
end Go.Proofs.YtebfahobllghnaaGreatDoor
namespace Go.Proofs.YtebfahobllghnaaGreatDoor
namespace X
open Go.RowKit B
variable {fa : Bool}
section
variable {ρ ρ' : Rho} {P : Program} {f : Nat}
def EqB (ρ ρ' : Rho) (b b' : Blk) : Prop := isHb b = isHb b' ∧ ∀ θ w t, HoldsB ρ θ w t b ↔ HoldsB ρ' θ w t b'
theorem EqB.refl {b : Blk} : EqB ρ ρ b b := ⟨rfl, fun _ _ _ => Iff.rfl⟩
theorem EqB.symm {b b' : Blk} (h : EqB ρ ρ' b b') : EqB ρ' ρ b' b := ⟨h.1.symm, fun θ w t => (h.2 θ w t).symm⟩
def EqO (ρ ρ' : Rho) : Option Blk → Option Blk → Prop
  | none, none => True
  | some b, some b' => EqB ρ ρ' b b'
  | _, _ => False
def EqL (ρ ρ' : Rho) : ML → ML → Prop
  | [], [] => True
  | (t, b) :: l, (t', b') :: l' => t = t' ∧ EqB ρ ρ' b b' ∧ EqL ρ ρ' l l'
  | _, _ => False
theorem EqO.refl : ∀ {o : Option Blk}, EqO ρ ρ o o
  | none => trivial
  | some _ => EqB.refl
theorem EqO.symm : ∀ {o o' : Option Blk}, EqO ρ ρ' o o' → EqO ρ' ρ o' o
  | none, none, _ => trivial
  | some _, some _, h => EqB.symm h
  | none, some _, h => h.elim
  | some _, none, h => h.elim
theorem EqL.symm : ∀ {l l' : ML}, EqL ρ ρ' l l' → EqL ρ' ρ l' l
  | [], [], _ => trivial
  | (t, b) :: l, (t', b') :: l', ⟨h1, h2, h3⟩ => ⟨h1.symm, h2.symm, h3.symm⟩
  | [], _ :: _, h => h.elim
  | _ :: _, [], h => h.elim
theorem EqL.refl : ∀ {l : ML}, EqL ρ ρ l l
  | [] => trivial
  | (_, _) :: _ => ⟨rfl, EqB.refl, EqL.refl⟩
theorem lookU_eq {t : Nat} : ∀ {l l' : ML} {o o' : Option Blk}, EqL ρ ρ' l l' → EqO ρ ρ' o o' → EqO ρ ρ' (lookU l t o) (lookU l' t o')
  | [], [], o, o', _, h => h
  | (s, b) :: l, (s', b') :: l', o, o', ⟨h1, h2, h3⟩, h => by
    subst h1
    simp only [lookU]
    refine lookU_eq h3 ?_
    split
    · exact h2
    · exact h
  | [], _ :: _, _, _, h, _ => h.elim
  | _ :: _, [], _, _, h, _ => h.elim
def EqM (ρ ρ' : Rho) (m m' : Mem) : Prop := ∀ t, EqO ρ ρ' (m.get t) (m'.get t)
theorem EqL.mem {l l' : ML} (h : EqL ρ ρ' l l') {K K' : Mem → Bool} (hk : mkK l .lf K = true) (hk' : mkK l' .lf K' = true) : EqM ρ ρ' (mkU l .lf) (mkU l' .lf) := fun t => by
  rw [(mkK_get hk).2, (mkK_get hk').2]
  exact lookU_eq h trivial
theorem EqO.none_iff {o o' : Option Blk} (h : EqO ρ ρ' o o') : o = none ↔ o' = none := by
  cases o <;> cases o' <;> simp_all [EqO]
theorem EqO.ft {o o' : Option Blk} (h : EqO ρ ρ' o o') {x : Nat × Nat} {g : Nat} (f : FtB fa o x g) : FtB fa o' x g := by
  cases o <;> cases o' <;> first | exact f.elim | exact h.elim | exact FtB_kind h.1 f
theorem own_eqO {θ : Th} {M M' : Nat → Option Blk} {t g : Nat} (h : EqO ρ ρ' (M t) (M' t)) (ho : Own fa θ M t g) : Own fa θ M' t g := by
  obtain ⟨x, e, f⟩ := ho
  exact ⟨x, e, h.ft f⟩
theorem EqM.ok {m m' : Mem} (h : EqM ρ ρ' m m') {θ : Th} {w : World} (hM : MemOk ρ θ m.get w) : MemOk ρ' θ m'.get w := by
  refine ⟨fun t b hb => ?_, fun s t g h1 h2 => hM.inj s t g (own_eqO (h s).symm h1) (own_eqO (h t).symm h2)⟩
  have := h t
  rw [hb] at this
  cases hq : m.get t with
  | none => rw [hq] at this; exact this.elim
  | some b' =>
    rw [hq] at this
    exact (this.2 θ w t).1 (hM.holds t b' hq)
theorem EqM.symm {m m' : Mem} (h : EqM ρ ρ' m m') : EqM ρ' ρ m' m := fun t => (h t).symm
theorem EqM.bl {m m' : Mem} (h : EqM ρ ρ' m m') {θ : Th} {g : Nat} (hb : Bl fa θ m.get g) : Bl fa θ m'.get g := by
  obtain ⟨t, ho⟩ := hb
  exact ⟨t, own_eqO (h t) ho⟩
def EqC (C : Th → Prop) (ρ ρ' : Rho) : Option Blk → Option Blk → Prop
  | none, none => True
  | some b, some b' => isHb b = isHb b' ∧ ∀ θ w t, C θ → (HoldsB ρ θ w t b ↔ HoldsB ρ' θ w t b')
  | _, _ => False
theorem EqO.c {C : Th → Prop} {o o' : Option Blk} (h : EqO ρ ρ' o o') : EqC C ρ ρ' o o' := by
  cases o <;> cases o' <;> first | trivial | exact h.elim | exact ⟨h.1, fun θ w t _ => h.2 θ w t⟩
theorem EqC.symm {C : Th → Prop} {o o' : Option Blk} (h : EqC C ρ ρ' o o') : EqC C ρ' ρ o' o := by
  cases o <;> cases o' <;> first | trivial | exact h.elim | exact ⟨h.1.symm, fun θ w t c => (h.2 θ w t c).symm⟩
theorem EqC.ft {C : Th → Prop} {o o' : Option Blk} (h : EqC C ρ ρ' o o') {x : Nat × Nat} {g : Nat} (f : FtB fa o x g) : FtB fa o' x g := by
  cases o <;> cases o' <;> first | exact f.elim | exact h.elim | exact FtB_kind h.1 f
theorem EqC.own {C : Th → Prop} {θ : Th} {M M' : Nat → Option Blk} {t g : Nat} (h : EqC C ρ ρ' (M t) (M' t)) (ho : Own fa θ M t g) : Own fa θ M' t g := by
  obtain ⟨x, e, f⟩ := ho
  exact ⟨x, e, h.ft f⟩
theorem EqC.memOk {C : Th → Prop} {M M' : Nat → Option Blk} (h : ∀ s, EqC C ρ ρ' (M s) (M' s)) {θ : Th} {w : World} (hC : C θ) (hM : MemOk ρ θ M w) : MemOk ρ' θ M' w := by
  refine ⟨fun t b hb => ?_, fun s t g h1 h2 => hM.inj s t g (EqC.own (h s).symm h1) (EqC.own (h t).symm h2)⟩
  have := h t
  rw [hb] at this
  cases hq : M t with
  | none => rw [hq] at this; exact this.elim
  | some b' =>
    rw [hq] at this
    exact (this.2 θ w t hC).1 (hM.holds t b' hq)
theorem EqC.bls {C : Th → Prop} {M M' : Nat → Option Blk} {θ : Th} (h : ∀ s, EqC C ρ ρ' (M s) (M' s)) {g : Nat} (hb : Bl fa θ M' g) : Bl fa θ M g := by
  obtain ⟨t, ho⟩ := hb
  exact ⟨t, EqC.own (h t).symm ho⟩
theorem CallR.ret {args args' : List SV} {m0 m0' : Mem} {nx : Nat} {r r' : O4} (h : CallR P ρ f args m0 nx r) (ha : ∀ θ, dens ρ' θ args' = dens ρ θ args) (h0 : EqM ρ' ρ m0' m0) (hv : ∀ θ, den ρ θ r.v = den ρ' θ r'.v) (h1 : EqM ρ ρ' r.m r'.m) (hx : r'.nx = r.nx) (hs : Sat ρ' r'.pc) : CallR P ρ' f args' m0' nx r' := by
  refine ⟨h.enter, hs, by rw [hx]; exact h.le, fun t q1 q2 => ?_, fun w θ us hus hM hfr => ?_⟩
  · rw [hx]
    exact h.new t ((h0 t).none_iff.1 q1) fun q => q2 ((h1 t).none_iff.1 q)
  · rw [ha] at hus
    rw [hx] at hfr
    exact calls_mono (h.run w θ us hus (h0.ok hM) hfr) fun e w' ⟨v, θ2, he, hsp, hv2⟩ => ⟨v, θ2, he, ⟨hsp.le, by rw [hx]; exact hsp.new, h1.ok hsp.mem, hsp.ext.mono fun g _ z => h0.symm.bl z, fun g z => (hsp.own g (h1.symm.bl z)).imp (fun y => h0.symm.bl y) id⟩, by rw [← hv]; exact hv2⟩
theorem KnownOk.ret {k k' : Known} (hK : KnownOk P f k ρ) (hs : Sat ρ k.pc0) (ha : ∀ θ, dens ρ' θ k'.a0 = dens ρ θ k.a0) (h0 : EqL ρ' ρ k'.l0 k.l0) (hv : ∀ θ, den ρ θ k.v1 = den ρ' θ k'.v1) (h1 : EqL ρ ρ' k.l1 k'.l1) (hx0 : k'.nx0 = k.nx0) (hx : k'.nx1 = k.nx1) (hp : Sat ρ' k'.pc1)
    (m0 : mkK k.l0 .lf (fun _ => true) = true) (m0' : mkK k'.l0 .lf (fun _ => true) = true) (m1 : mkK k.l1 .lf (fun _ => true) = true) (m1' : mkK k'.l1 .lf (fun _ => true) = true) : KnownOk P f k' ρ' := fun _ => by
  have := (hK hs).ret (r' := ⟨k'.v1, mkU k'.l1 .lf, k'.nx1, k'.pc1⟩) ha (h0.mem m0' m0) hv (h1.mem m1 m1') hx hp
  rw [hx0]; exact this
end
section
variable {ρ ρ' : Rho} {θ θ' θ2 θ3 : Th} {w w' : World} {M M' M2 M3 : Nat → Option Blk} {nx nx0 nx1 nx2 : Nat}
theorem SP.pre (hle : ThLe θ θ') (hnew : ∀ t, θ' t ≠ none → θ t ≠ none ∨ (nx ≤ t ∧ t < nx0)) (hbl : ∀ {fa : Bool} (g : Nat), Bl fa θ' M' g → Bl fa θ M g) (h1 : nx ≤ nx0) (h2 : nx0 ≤ nx1) (h : SP ρ nx0 nx1 θ' M' w θ2 M2 w') : SP ρ nx nx1 θ M w θ2 M2 w' := by
  refine ⟨hle.trans h.le, fun t ht => ?_, h.mem, h.ext.mono fun g _ => hbl g, fun g hg => (h.own g hg).imp (hbl g) id⟩
  rcases h.new t ht with q | q
  · rcases hnew t q with q | q
    · exact .inl q
    · exact .inr ⟨q.1, by omega⟩
  · exact .inr ⟨by omega, q.2⟩
theorem SP.post (h : SP ρ nx nx1 θ M w θ2 M2 w') (hle : ThLe θ2 θ3) (hnew : ∀ t, θ3 t ≠ none → θ2 t ≠ none ∨ (nx1 ≤ t ∧ t < nx2)) (hm : MemOk ρ' θ3 M3 w') (hbl : ∀ {fa : Bool} (g : Nat), Bl fa θ3 M3 g → Bl fa θ2 M2 g) (h1 : nx ≤ nx1) (h2 : nx1 ≤ nx2) : SP ρ' nx nx2 θ M w θ3 M3 w' := by
  refine ⟨h.le.trans hle, fun t ht => ?_, hm, h.ext, fun g hg => h.own g (hbl g hg)⟩
  rcases hnew t ht with q | q
  · rcases h.new t q with q | q
    · exact .inl q
    · exact .inr ⟨q.1, by omega⟩
  · exact .inr ⟨by omega, q.2⟩
def sumQ : List UInt8 → Nat
  | [] => 0
  | c :: l => c.toNat + sumQ l
theorem sumQ_app : ∀ (l m : List UInt8), sumQ (l ++ m) = sumQ l + sumQ m
  | [], m => by simp [sumQ]
  | c :: l, m => by simp [sumQ, sumQ_app l m]; omega
theorem ofNat_le {n : Nat} (h : n ≤ 64) : (UInt8.ofNat n).toNat = n := by simp [UInt8.toNat_ofNat']; omega
theorem TreeT.lens {w : World} {ty : Nat} : ∀ {d : PTr}, TreeT w ty d → d.text.length = sumQ d.lens
  | .lf, _ => rfl
  | .nd g o p l r, h => by
    obtain ⟨_, h2, _, hl, hr⟩ := h
    simp only [PTr.text, PTr.lens, List.length_append, sumQ_app, sumQ, ofNat_le h2.2, hl.lens, hr.lens]
    omega
theorem TreeT.nil {w : World} {ty : Nat} {d : PTr} (h : TreeT w ty d) : d.text = [] ↔ d = .lf := by
  cases d with
  | lf => simp [PTr.text]
  | nd g o p l r =>
    obtain ⟨_, h2, _⟩ := h
    simp only [PTr.text, List.append_eq_nil_iff, reduceCtorEq, iff_false]
    intro q
    rw [q.1.2] at h2
    simp at h2
def PTr.rt : PTr → Nat
  | .lf => 0
  | .nd g _ _ _ _ => g
theorem PTr.root_rt (d : PTr) : d.root d.rt := by cases d <;> first | exact trivial | rfl
theorem tp_den {ty : Nat} {d : PTr} {a : Nat} {x : Nat × Nat} {e : Lin} (h : TreeT w ty d) (hx : θ a = some x) (hr : d.root x.1) (he : e.den ρ = d.text.length) : den ρ θ (.tp a e) = some d.ptr := by
  simp only [den, hx, Option.map_some, he]
  cases d with
  | lf => simp [PTr.text, PTr.ptr]
  | nd g o p l r =>
    obtain ⟨_, h2, _⟩ := h
    rw [if_neg (by simp only [PTr.text, List.length_append]; omega)]
    rw [show x.1 = g from hr]
    rfl
def NodeOk (ρ : Rho) (cs : List SV) (L o R : List UInt8) (p : Int) : Prop := ∀ θ, dens ρ θ cs = some (nodeV L o R p)
theorem nodeV_one {L o R : List UInt8} {p : Int} : ∀ v ∈ nodeV L o R p, v.oneCell' = true := fun v hv => by
  simp only [nodeV, List.mem_cons, List.not_mem_nil, or_false] at hv
  rcases hv with rfl | rfl | rfl | rfl | rfl | rfl | rfl | rfl | rfl | rfl <;> rfl
theorem ptr_one (d : PTr) : d.ptr.oneCell' = true := by cases d <;> rfl
theorem upd3 {θ : Th} {n a b : Nat} {x y z : Nat × Nat} (hn : θ n = none) (ha : θ a = none) (hb : θ b = none) : ThLe θ (updT (updT (updT θ b z) a y) n x) := fun t u h => by
  unfold updT
  split
  · rename_i e; subst e; rw [hn] at h; cases h
  · split
    · rename_i e; subst e; rw [ha] at h; cases h
    · split
      · rename_i e; subst e; rw [hb] at h; cases h
      · exact h
def NodeT (u n : Nat) (θ : Th) : Prop := ∃ g c, θ u = some (g, c) ∧ θ n = some (g, 12)
def HasT (u : Nat) (θ : Th) : Prop := ∃ x, θ u = some x
theorem MemOk.unf {u n a b ty : Nat} {l q : Str} (h : MemOk ρ θ M w) (hu : M u = some (.hb [0, ty] l q)) (hn : θ n = none) (ha : θ a = none) (hb : θ b = none) (hd : n ≠ a ∧ n ≠ b ∧ a ≠ b) :
    (denS ρ l = [] ∧ denS ρ q = [] ∧ ∃ x, θ u = some x ∧ lsD x.2 = []) ∨ ∃ (o L R QL QR : List UInt8) (p : Int) (θ' : Th), denS ρ l = L ++ o ++ R ∧ denS ρ q = QL ++ UInt8.ofNat o.length :: QR ∧ (1 ≤ o.length ∧ o.length ≤ 64) ∧ (0 ≤ p ∧ p ≤ 4294967295) ∧ L.length = sumQ QL ∧ R.length = sumQ QR ∧
      ThLe θ θ' ∧ (∀ t, θ' t ≠ none → θ t ≠ none ∨ t = n ∨ t = a ∨ t = b) ∧ (∃ g c xa xb, θ u = some (g, c) ∧ θ' n = some (g, 12) ∧ θ' a = some xa ∧ θ' b = some xb ∧ lsD c = g :: (lsD xa.2 ++ lsD xb.2)) ∧
      ∀ (ρ' : Rho) (M1 : Nat → Option Blk) (cs : List SV) (ea eb : Lin) (la qa lb qb : Str), NodeOk ρ' cs L o R p → ea.den ρ' = L.length → eb.den ρ' = R.length → denS ρ' la = L → denS ρ' qa = QL → denS ρ' lb = R → denS ρ' qb = QR →
        M1 n = some (.ce ty (cs ++ [.tp a ea, .tp b eb]) true) → M1 a = some (.hb [0, ty] la qa) → M1 b = some (.hb [0, ty] lb qb) → M1 u = none → (∀ s, s ≠ n → s ≠ a → s ≠ b → s ≠ u → EqC (NodeT u n) ρ ρ' (M s) (M1 s)) → MemOk ρ' θ' M1 w ∧ ∀ {fa : Bool} (g : Nat), Bl fa θ' M1 g → Bl fa θ M g := by
  obtain ⟨x, hx, d, h1, h2, h3, h4, h5, h6⟩ := h.holds u _ hu
  cases d with
  | lf => exact .inl ⟨h4.symm, h5.symm, x, hx, h1⟩
  | nd g o p dl dr =>
    right
    have hT := h3
    obtain ⟨⟨arr, e1, e2⟩, e3, e4, hl, hr⟩ := h3
    have hg : x.1 = g := h6
    have hun : u ≠ n := fun e => by rw [e, hn] at hx; cases hx
    have hua : u ≠ a := fun e => by rw [e, ha] at hx; cases hx
    have hub : u ≠ b := fun e => by rw [e, hb] at hx; cases hx
    have hsz : arr.size = 12 := by
      have := congrArg List.length e2
      simpa [nodeV] using this
    simp only [PTr.blocks, List.nodup_cons, List.mem_append, List.nodup_append, not_or] at h2
    obtain ⟨⟨n1, n2⟩, n3, n4, n5⟩ := h2
    refine ⟨o, dl.text, dr.text, dl.lens, dr.lens, p, updT (updT (updT θ b (dr.rt, lsE dr.blocks)) a (dl.rt, lsE dl.blocks)) n (g, 12), h4.symm, h5.symm, e3, e4, hl.lens, hr.lens, upd3 hn ha hb, fun t ht => ?_, ⟨g, x.2, (dl.rt, lsE dl.blocks), (dr.rt, lsE dr.blocks), by rw [hx, ← hg], by simp [updT], by simp [updT, hd.1.symm], by simp [updT, hd.2.1.symm, hd.2.2.symm], by rw [h1, lsD_E, lsD_E]; rfl⟩, fun ρ' M1 cs ea eb la qa lb qb hcs hea heb hla hqa hlb hqb m1 m2 m3 m4 m5 => ?_⟩
    · by_cases q1 : t = n
      · exact .inr (.inl q1)
      · by_cases q2 : t = a
        · exact .inr (.inr (.inl q2))
        · by_cases q3 : t = b
          · exact .inr (.inr (.inr q3))
          · left
            simpa [updT, q1, q2, q3] using ht
    · generalize hθ : updT (updT (updT θ b (dr.rt, lsE dr.blocks)) a (dl.rt, lsE dl.blocks)) n (g, 12) = θ'
      have tn : θ' n = some (g, 12) := by rw [← hθ]; simp [updT]
      have ta : θ' a = some (dl.rt, lsE dl.blocks) := by rw [← hθ]; simp [updT, hd.1.symm]
      have tb : θ' b = some (dr.rt, lsE dr.blocks) := by rw [← hθ]; simp [updT, hd.2.1.symm, hd.2.2.symm]
      have to : ∀ s, s ≠ n → s ≠ a → s ≠ b → θ' s = θ s := fun s q1 q2 q3 => by rw [← hθ]; simp [updT, q1, q2, q3]
      have hle : ThLe θ θ' := by rw [← hθ]; exact upd3 hn ha hb
      have cl : ∀ {fa : Bool}, ∀ s g', Own fa θ' M1 s g' → (s = n ∧ g' = g) ∨ (s = a ∧ g' ∈ dl.blocks) ∨ (s = b ∧ g' ∈ dr.blocks) ∨ (s ≠ n ∧ s ≠ a ∧ s ≠ b ∧ s ≠ u ∧ Own fa θ M s g') := fun s g' ⟨y, y1, y2⟩ => by
        by_cases q1 : s = n
        · subst q1
          rw [tn] at y1; cases y1
          rw [m1] at y2
          exact .inl ⟨rfl, y2⟩
        · by_cases q2 : s = a
          · subst q2
            rw [ta] at y1; cases y1
            rw [m2] at y2
            have y2 : g' ∈ lsD (lsE dl.blocks) := y2
            rw [lsD_E] at y2
            exact .inr (.inl ⟨rfl, y2⟩)
          · by_cases q3 : s = b
            · subst q3
              rw [tb] at y1; cases y1
              rw [m3] at y2
              have y2 : g' ∈ lsD (lsE dr.blocks) := y2
              rw [lsD_E] at y2
              exact .inr (.inr (.inl ⟨rfl, y2⟩))
            · by_cases q4 : s = u
              · subst q4; rw [m4] at y2; exact y2.elim
              · rw [to s q1 q2 q3] at y1
                exact .inr (.inr (.inr ⟨q1, q2, q3, q4, y, y1, (m5 s q1 q2 q3 q4).symm.ft y2⟩))
      have inU : ∀ {fa : Bool}, ∀ g', g' = g ∨ g' ∈ dl.blocks ∨ g' ∈ dr.blocks → Own fa θ M u g' := fun g' hg' => ⟨x, hx, by
        rw [hu]
        show g' ∈ lsD x.2
        rw [h1]
        simpa [PTr.blocks] using hg'⟩
      refine ⟨⟨fun t bk hbk => ?_, fun s t g' o1 o2 => ?_⟩, fun g' ⟨s, o1⟩ => ?_⟩
      · by_cases q1 : t = n
        · subst q1
          rw [m1] at hbk; cases hbk
          refine ⟨g, 12, nodeV dl.text o dr.text p ++ [dl.ptr, dr.ptr], arr, [], tn, e1, hsz, dens_append (hcs θ') ?_, fun v hv => ?_, by rw [e2, List.append_nil], fun _ => rfl⟩
          · simp only [dens, tp_den hl ta dl.root_rt hea, tp_den hr tb dr.root_rt heb, Option.bind_some, Option.map_some]
          · rcases List.mem_append.1 hv with hv | hv
            · exact nodeV_one v hv
            · simp only [List.mem_cons, List.not_mem_nil, or_false] at hv
              rcases hv with rfl | rfl
              · exact ptr_one dl
              · exact ptr_one dr
        · by_cases q2 : t = a
          · subst q2
            rw [m2] at hbk; cases hbk
            exact ⟨_, ta, dl, lsD_E _, n3, hl, hla.symm, hqa.symm, dl.root_rt⟩
          · by_cases q3 : t = b
            · subst q3
              rw [m3] at hbk; cases hbk
              exact ⟨_, tb, dr, lsD_E _, n4, hr, hlb.symm, hqb.symm, dr.root_rt⟩
            · by_cases q4 : t = u
              · subst q4; rw [m4] at hbk; cases hbk
              · have := m5 t q1 q2 q3 q4
                rw [hbk] at this
                cases hm : M t with
                | none => rw [hm] at this; exact this.elim
                | some b0 =>
                  rw [hm] at this
                  exact (this.2 θ' w t ⟨g, x.2, by rw [hle u x hx, ← hg], tn⟩).1 ((h.holds t b0 hm).keep hle (Ext.refl none' _) fun _ _ _ _ h => h)
      · rcases cl s g' o1 with ⟨rfl, z1⟩ | ⟨rfl, z1⟩ | ⟨rfl, z1⟩ | ⟨z1, z2, z3, z4, z5⟩ <;> rcases cl t g' o2 with ⟨rfl, y1⟩ | ⟨rfl, y1⟩ | ⟨rfl, y1⟩ | ⟨y1, y2, y3, y4, y5⟩ <;> first
          | rfl
          | (exfalso; subst z1; exact n1 y1)
          | (exfalso; subst z1; exact n2 y1)
          | (exfalso; subst y1; exact n1 z1)
          | (exfalso; subst y1; exact n2 z1)
          | (exfalso; exact n5 _ z1 _ y1 rfl)
          | (exfalso; exact n5 _ y1 _ z1 rfl)
          | (exfalso; exact y4 (h.inj _ _ g' (inU g' (.inl z1)) y5).symm)
          | (exfalso; exact y4 (h.inj _ _ g' (inU g' (.inr (.inl z1))) y5).symm)
          | (exfalso; exact y4 (h.inj _ _ g' (inU g' (.inr (.inr z1))) y5).symm)
          | (exfalso; exact z4 (h.inj _ _ g' z5 (inU g' (.inl y1))))
          | (exfalso; exact z4 (h.inj _ _ g' z5 (inU g' (.inr (.inl y1)))))
          | (exfalso; exact z4 (h.inj _ _ g' z5 (inU g' (.inr (.inr y1)))))
          | exact h.inj _ _ g' z5 y5
      · rcases cl s g' o1 with ⟨_, z⟩ | ⟨_, z⟩ | ⟨_, z⟩ | ⟨_, _, _, _, z⟩
        · exact ⟨u, inU g' (.inl z)⟩
        · exact ⟨u, inU g' (.inr (.inl z))⟩
        · exact ⟨u, inU g' (.inr (.inr z))⟩
        · exact ⟨s, z⟩
theorem MemOk.fold {u n a b ty : Nat} {cs : List SV} {ea eb : Lin} {l q la qa lb qb : Str} {L o R : List UInt8} {p : Int} (h : MemOk ρ θ M w) (hn : M n = some (.ce ty (cs ++ [.tp a ea, .tp b eb]) true)) (ha : M a = some (.hb [0, ty] la qa)) (hb : M b = some (.hb [0, ty] lb qb)) (hd : n ≠ a ∧ n ≠ b ∧ a ≠ b) (hu : M u = none)
    (hcs : NodeOk ρ cs L o R p) (hea : ea.den ρ = L.length) (heb : eb.den ρ = R.length) (hla : denS ρ la = L) (hlb : denS ρ lb = R) (ho : 1 ≤ o.length ∧ o.length ≤ 64) (hp : 0 ≤ p ∧ p ≤ 4294967295) (hl : denS ρ l = L ++ o ++ R) (hq : denS ρ q = denS ρ qa ++ UInt8.ofNat o.length :: denS ρ qb) :
    ∃ (g c : Nat) (xa xb : Nat × Nat), θ n = some (g, c) ∧ θ a = some xa ∧ θ b = some xb ∧ ∀ (θ' : Th) (c' : Nat) (M1 : Nat → Option Blk), ThLe θ θ' → (∀ s, s ≠ u → θ' s = θ s) → θ' u = some (g, c') → lsD c' = g :: (lsD xa.2 ++ lsD xb.2) → M1 u = some (.hb [0, ty] l q) → M1 n = none → M1 a = none → M1 b = none → (∀ s, s ≠ n → s ≠ a → s ≠ b → s ≠ u → M1 s = M s) → MemOk ρ θ' M1 w ∧ ∀ {fa : Bool} (g' : Nat), Bl fa θ' M1 g' → Bl fa θ M g' := by
  obtain ⟨g, c, vs, arr, rest, f1, f2, f3, f4, f5, f6, f7⟩ := h.holds n _ hn
  obtain ⟨x, hx, dl, l1, l2, l3, l4, l5, l6⟩ := h.holds a _ ha
  obtain ⟨y, hy, dr, r1, r2, r3, r4, r5, r6⟩ := h.holds b _ hb
  have f7 := f7 rfl
  subst f7
  have hun : u ≠ n := fun e => by rw [e, hn] at hu; cases hu
  have hua : u ≠ a := fun e => by rw [e, ha] at hu; cases hu
  have hub : u ≠ b := fun e => by rw [e, hb] at hu; cases hu
  have e0 : dens ρ θ (cs ++ [.tp a ea, .tp b eb]) = some (nodeV L o R p ++ [dl.ptr, dr.ptr]) := dens_append (hcs θ) (by
    simp only [dens, tp_den l3 hx l6 (by rw [hea, l4, hla]), tp_den r3 hy r6 (by rw [heb, r4, hlb]), Option.bind_some, Option.map_some])
  rw [f4] at e0
  cases e0
  have oN : ∀ {fa : Bool}, ∀ g', g' = g → Own fa θ M n g' := fun g' e => ⟨_, f1, by rw [hn]; exact e⟩
  have oA : ∀ {fa : Bool}, ∀ g', g' ∈ dl.blocks → Own fa θ M a g' := fun g' e => ⟨_, hx, by rw [ha]; show g' ∈ lsD x.2; rw [l1]; exact e⟩
  have oB : ∀ {fa : Bool}, ∀ g', g' ∈ dr.blocks → Own fa θ M b g' := fun g' e => ⟨_, hy, by rw [hb]; show g' ∈ lsD y.2; rw [r1]; exact e⟩
  have tl : dl.text = L := l4.trans hla
  have tr : dr.text = R := r4.trans hlb
  let d : PTr := .nd g o p dl dr
  have hT : TreeT w ty d := ⟨⟨arr, f2, by rw [f6, List.append_nil, tl, tr]⟩, ho, hp, l3, r3⟩
  have hnd : d.blocks.Nodup := by
    show (g :: (dl.blocks ++ dr.blocks)).Nodup
    simp only [List.nodup_cons, List.mem_append, List.nodup_append, not_or]
    refine ⟨⟨fun e => hd.1 (h.inj n a g (oN g rfl) (oA g e)), fun e => hd.2.1 (h.inj n b g (oN g rfl) (oB g e))⟩, l2, r2, fun p1 e1 p2 e2 e => ?_⟩
    subst e
    exact hd.2.2 (h.inj a b p1 (oA p1 e1) (oB p1 e2))
  refine ⟨g, c, x, y, f1, hx, hy, fun θ' c' M1 hle ho' hu' hc' m1 m2 m3 m4 m5 => ?_⟩
  have hc' : lsD c' = d.blocks := by rw [hc', l1, r1]; rfl
  have cl : ∀ {fa : Bool}, ∀ s g', Own fa θ' M1 s g' → (s = u ∧ g' ∈ d.blocks) ∨ (s ≠ u ∧ s ≠ n ∧ s ≠ a ∧ s ≠ b ∧ Own fa θ M s g') := fun s g' ⟨z, z1, z2⟩ => by
    by_cases q0 : s = u
    · subst q0
      rw [m1] at z2
      rw [hu'] at z1
      cases z1
      have z2 : g' ∈ lsD c' := z2
      rw [hc'] at z2
      exact .inl ⟨rfl, z2⟩
    · have q1 : s ≠ n := fun e => by rw [e, m2] at z2; exact z2
      have q2 : s ≠ a := fun e => by rw [e, m3] at z2; exact z2
      have q3 : s ≠ b := fun e => by rw [e, m4] at z2; exact z2
      refine .inr ⟨q0, q1, q2, q3, z, ?_, by rw [← m5 s q1 q2 q3 q0]; exact z2⟩
      rw [ho' s q0] at z1
      exact z1
  have inD : ∀ {fa : Bool}, ∀ g', g' ∈ d.blocks → ∃ s, (s = n ∨ s = a ∨ s = b) ∧ Own fa θ M s g' := fun g' hg' => by
    have hg' : g' ∈ g :: (dl.blocks ++ dr.blocks) := hg'
    rcases List.mem_cons.1 hg' with e | e
    · exact ⟨n, .inl rfl, oN g' e⟩
    · rcases List.mem_append.1 e with e | e
      · exact ⟨a, .inr (.inl rfl), oA g' e⟩
      · exact ⟨b, .inr (.inr rfl), oB g' e⟩
  refine ⟨⟨fun t bk hbk => ?_, fun s t g' o1 o2 => ?_⟩, fun g' ⟨s, o1⟩ => ?_⟩
  · by_cases q0 : t = u
    · subst q0
      rw [m1] at hbk; cases hbk
      exact ⟨(g, c'), hu', d, hc', hnd, hT, by rw [hl, ← tl, ← tr]; rfl, by rw [hq, ← l5, ← r5]; rfl, rfl⟩
    · have q1 : t ≠ n := fun e => by rw [e, m2] at hbk; cases hbk
      have q2 : t ≠ a := fun e => by rw [e, m3] at hbk; cases hbk
      have q3 : t ≠ b := fun e => by rw [e, m4] at hbk; cases hbk
      rw [m5 t q1 q2 q3 q0] at hbk
      exact (h.holds t bk hbk).keep hle (Ext.refl none' _) fun _ _ _ _ h => h
  · rcases cl s g' o1 with ⟨rfl, z1⟩ | ⟨z0, z1, z2, z3, z5⟩ <;> rcases cl t g' o2 with ⟨rfl, y1⟩ | ⟨y0, y1, y2, y3, y5⟩
    · rfl
    · obtain ⟨v, hv, ho⟩ := inD (fa := true) g' z1
      have := h.inj v t g' ho y5
      subst this
      rcases hv with e | e | e
      · exact absurd e y1
      · exact absurd e y2
      · exact absurd e y3
    · obtain ⟨v, hv, ho⟩ := inD (fa := false) g' y1
      have := (h.inj s v g' z5 ho).symm
      subst this
      rcases hv with e | e | e
      · exact absurd e z1
      · exact absurd e z2
      · exact absurd e z3
    · exact h.inj s t g' z5 y5
  · rcases cl s g' o1 with ⟨_, z⟩ | ⟨_, _, _, _, z⟩
    · obtain ⟨v, _, ho⟩ := inD g' z
      exact ⟨v, ho⟩
    · exact ⟨s, z⟩
def Post (ρ' ρ : Rho) (r' r : O4) (C : Th → Prop) : Prop := ∀ (θ2 : Th) (w' : World) (v : Value), C θ2 → MemOk ρ' θ2 r'.m.get w' → (∀ t, r'.nx ≤ t → t < r.nx → θ2 t = none) → den ρ' θ2 r'.v = some v →
  ∃ θ3, ThLe θ2 θ3 ∧ (∀ t, θ3 t ≠ none → θ2 t ≠ none ∨ (r'.nx ≤ t ∧ t < r.nx)) ∧ MemOk ρ θ3 r.m.get w' ∧ (∀ {fa : Bool} (g : Nat), Bl fa θ3 r.m.get g → Bl fa θ2 r'.m.get g) ∧ den ρ θ3 r.v = some v
theorem Post.eq {r' r : O4} {C : Th → Prop} (hv : ∀ θ, den ρ' θ r'.v = den ρ θ r.v) (hm : EqM ρ' ρ r'.m r.m) : Post ρ' ρ r' r C := fun θ2 w' v _ hM _ h2 => ⟨θ2, ThLe.refl _, fun t h => .inl h, hm.ok hM, fun g h => hm.symm.bl h, by rw [← hv]; exact h2⟩
theorem Post.trans {ρ1 ρ2 ρ3 : Rho} {r1 r2 r3 : O4} {C C' : Th → Prop} (h : Post ρ1 ρ2 r1 r2 C) (k : Post ρ2 ρ3 r2 r3 C') (hC : ∀ θ θ', C θ → ThLe θ θ' → C' θ') (l1 : r1.nx ≤ r2.nx) (l2 : r2.nx ≤ r3.nx) : Post ρ1 ρ3 r1 r3 C := fun θ2 w' v hc hM hfr hv => by
  obtain ⟨θ3, a1, a2, a3, a4, a5⟩ := h θ2 w' v hc hM (fun t q1 q2 => hfr t q1 (by omega)) hv
  obtain ⟨θ4, b1, b2, b3, b4, b5⟩ := k θ3 w' v (hC _ _ hc a1) a3 (fun t q1 q2 => by
    cases hq : θ3 t with
    | none => rfl
    | some x =>
      rcases a2 t (by rw [hq]; simp) with q | q
      · exact absurd (hfr t (by omega) q2) q
      · omega) a5
  refine ⟨θ4, a1.trans b1, fun t ht => ?_, b3, fun g hg => a4 g (b4 g hg), b5⟩
  rcases b2 t ht with q | q
  · rcases a2 t q with q | q
    · exact .inl q
    · exact .inr ⟨q.1, by omega⟩
  · exact .inr ⟨by omega, q.2⟩
theorem CallR.post {P : Program} {f : Nat} {args : List SV} {m : Mem} {r' r : O4} (h : CallR P ρ f args m nx r') (hp : Post ρ ρ r' r fun _ => True) (hpc : Sat ρ r.pc) (hle : r'.nx ≤ r.nx) (hnew : ∀ t, m.get t = none → r.m.get t ≠ none → nx ≤ t ∧ t < r.nx) : CallR P ρ f args m nx r := by
  have := h.le
  refine ⟨h.enter, hpc, by omega, hnew, fun w θ us hus hM hfr => ?_⟩
  refine calls_mono (h.run w θ us hus hM fun t q1 q2 => hfr t q1 (by omega)) fun e w' ⟨v, θ2, he, hsp, hv⟩ => ?_
  obtain ⟨θ3, a1, a2, a3, a4, a5⟩ := hp θ2 w' v trivial hsp.mem (fun t q1 q2 => by
    cases hq : θ2 t with
    | none => rfl
    | some x =>
      rcases hsp.new t (by rw [hq]; simp) with q | q
      · exact absurd (hfr t (by omega) q2) q
      · omega) hv
  exact ⟨v, θ3, he, hsp.post a1 a2 a3 a4 h.le hle, a5⟩
theorem Post.fold {r' r : O4} {n a b ty : Nat} {cs : List SV} {ea eb : Lin} {l q la qa lb qb : Str} {L o R : List UInt8} {p : Int} {C : Th → Prop} (hn : r'.m.get n = some (.ce ty (cs ++ [.tp a ea, .tp b eb]) true)) (ha : r'.m.get a = some (.hb [0, ty] la qa)) (hb : r'.m.get b = some (.hb [0, ty] lb qb)) (hd : n ≠ a ∧ n ≠ b ∧ a ≠ b) (hu : r'.m.get r'.nx = none)
    (hcs : NodeOk ρ cs L o R p) (hea : ea.den ρ = L.length) (heb : eb.den ρ = R.length) (hla : denS ρ la = L) (hlb : denS ρ lb = R) (ho : 1 ≤ o.length ∧ o.length ≤ 64) (hp : 0 ≤ p ∧ p ≤ 4294967295) (hl : denS ρ l = L ++ o ++ R) (hq : denS ρ q = denS ρ qa ++ UInt8.ofNat o.length :: denS ρ qb)
    (h1 : ∀ s, r.m.get s = if s = r'.nx then some (.hb [0, ty] l q) else if s = n ∨ s = a ∨ s = b then none else r'.m.get s) (hnx : r.nx = r'.nx + 1) (hv : ∀ θ g c c' v, θ n = some (g, c) → θ r'.nx = some (g, c') → den ρ θ r'.v = some v → den ρ θ r.v = some v) : Post ρ ρ r' r C := fun θ2 w' v _ hM hfr hv2 => by
  have hun : r'.nx ≠ n := fun e => by rw [e, hn] at hu; cases hu
  have hua : r'.nx ≠ a := fun e => by rw [e, ha] at hu; cases hu
  have hub : r'.nx ≠ b := fun e => by rw [e, hb] at hu; cases hu
  obtain ⟨g, c, xa, xb, e1, e2, e3, key⟩ := hM.fold (u := r'.nx) (l := l) (q := q) hn ha hb hd hu hcs hea heb hla hlb ho hp hl hq
  have hno := hfr r'.nx (Nat.le_refl _) (by omega)
  have hle : ThLe θ2 (updT θ2 r'.nx (g, lsE (g :: (lsD xa.2 ++ lsD xb.2)))) := fun t z hz => by
    unfold updT
    split
    · rename_i e; subst e; rw [hno] at hz; cases hz
    · exact hz
  have hu3 : updT θ2 r'.nx (g, lsE (g :: (lsD xa.2 ++ lsD xb.2))) r'.nx = some (g, lsE (g :: (lsD xa.2 ++ lsD xb.2))) := by simp [updT]
  have kk := key _ _ r.m.get hle (fun s hs => by simp [updT, hs]) hu3 (lsD_E _) (by rw [h1, if_pos rfl]) (by rw [h1, if_neg hun.symm, if_pos (.inl rfl)]) (by rw [h1, if_neg hua.symm, if_pos (.inr (.inl rfl))]) (by rw [h1, if_neg hub.symm, if_pos (.inr (.inr rfl))])
    (fun s q1 q2 q3 q4 => by rw [h1, if_neg q4, if_neg (by simp [q1, q2, q3])])
  refine ⟨_, hle, fun t ht => ?_, kk.1, kk.2, hv _ g c _ v (hle _ _ e1) hu3 (den_mono hle _ hv2)⟩
  by_cases e : t = r'.nx
  · exact .inr ⟨by omega, by omega⟩
  · left
    simpa [updT, e] using ht
def Unf (u n : Nat) (θ : Th) : Prop := ∃ g c xa xb, θ u = some (g, c) ∧ θ n = some (g, 12) ∧ θ (n + 1) = some xa ∧ θ (n + 2) = some xb ∧ lsD c = g :: (lsD xa.2 ++ lsD xb.2)
theorem Unf.le {u n : Nat} (h : ThLe θ θ') (k : Unf u n θ) : Unf u n θ' := by
  obtain ⟨g, c, xa, xb, h1, h2, h3, h4, h5⟩ := k
  exact ⟨g, c, xa, xb, h _ _ h1, h _ _ h2, h _ _ h3, h _ _ h4, h5⟩
theorem Post.back {r' r : O4} {u n ty : Nat} {cs : List SV} {ea eb : Lin} {l q la qa lb qb : Str} {L o R : List UInt8} {p : Int} (hn : r'.m.get n = some (.ce ty (cs ++ [.tp (n + 1) ea, .tp (n + 2) eb]) true)) (ha : r'.m.get (n + 1) = some (.hb [0, ty] la qa)) (hb : r'.m.get (n + 2) = some (.hb [0, ty] lb qb)) (hu : r'.m.get u = none)
    (hcs : NodeOk ρ cs L o R p) (hea : ea.den ρ = L.length) (heb : eb.den ρ = R.length) (hla : denS ρ la = L) (hlb : denS ρ lb = R) (ho : 1 ≤ o.length ∧ o.length ≤ 64) (hp : 0 ≤ p ∧ p ≤ 4294967295) (hl : denS ρ l = L ++ o ++ R) (hq : denS ρ q = denS ρ qa ++ UInt8.ofNat o.length :: denS ρ qb)
    (h1 : ∀ s, r.m.get s = if s = u then some (.hb [0, ty] l q) else if s = n ∨ s = n + 1 ∨ s = n + 2 then none else r'.m.get s) (hv : ∀ θ v, den ρ θ r'.v = some v → den ρ θ r.v = some v) : Post ρ ρ r' r (Unf u n) := fun θ2 w' v hC hM hfr hv2 => by
  have hun : u ≠ n := fun e => by rw [e, hn] at hu; cases hu
  have hua : u ≠ n + 1 := fun e => by rw [e, ha] at hu; cases hu
  have hub : u ≠ n + 2 := fun e => by rw [e, hb] at hu; cases hu
  obtain ⟨g, c, xa, xb, e1, e2, e3, key⟩ := hM.fold (u := u) (l := l) (q := q) hn ha hb (by omega) hu hcs hea heb hla hlb ho hp hl hq
  obtain ⟨g', c', xa', xb', d1, d2, d3, d4, d5⟩ := hC
  rw [e1] at d2; cases d2
  rw [e2] at d3; cases d3
  rw [e3] at d4; cases d4
  have kk := key θ2 c' r.m.get (ThLe.refl _) (fun s hs => rfl) d1 d5 (by rw [h1, if_pos rfl]) (by rw [h1, if_neg hun.symm, if_pos (.inl rfl)]) (by rw [h1, if_neg hua.symm, if_pos (.inr (.inl rfl))]) (by rw [h1, if_neg hub.symm, if_pos (.inr (.inr rfl))])
    (fun s q1 q2 q3 q4 => by rw [h1, if_neg q4, if_neg (by simp [q1, q2, q3])])
  exact ⟨θ2, ThLe.refl _, fun t h => .inl h, kk.1, kk.2, hv _ _ hv2⟩
theorem Post.nil {r' r : O4} {u ty : Nat} {l q : Str} (hl : denS ρ l = []) (hq : denS ρ q = []) (hu : r'.m.get u = none) (h1 : ∀ s, r.m.get s = if s = u then some (.hb [0, ty] l q) else r'.m.get s) (hv : ∀ θ x v, θ u = some x → den ρ θ r'.v = some v → den ρ θ r.v = some v) : Post ρ ρ r' r fun θ => ∃ x, θ u = some x ∧ lsD x.2 = [] := fun θ2 w' v ⟨x, hx, hC⟩ hM hfr hv2 => by
  have cl : ∀ {fa : Bool}, ∀ s g, Own fa θ2 r.m.get s g → Own fa θ2 r'.m.get s g := fun s g ⟨y, y1, y2⟩ => by
    by_cases q0 : s = u
    · subst q0
      rw [hx] at y1; cases y1
      rw [h1, if_pos rfl] at y2
      have y2 : g ∈ lsD x.2 := y2
      rw [hC] at y2; cases y2
    · rw [h1, if_neg q0] at y2
      exact ⟨y, y1, y2⟩
  refine ⟨θ2, ThLe.refl _, fun t h => .inl h, ⟨fun t b hb => ?_, fun s t g o1 o2 => hM.inj s t g (cl s g o1) (cl t g o2)⟩, fun g ⟨s, o⟩ => ⟨s, cl s g o⟩, hv _ x _ hx hv2⟩
  by_cases q0 : t = u
  · subst q0
    rw [h1, if_pos rfl] at hb; cases hb
    exact ⟨x, hx, .lf, hC, List.nodup_nil, trivial, hl.symm, hq.symm, trivial⟩
  · rw [h1, if_neg q0] at hb
    exact hM.holds t b hb
def UnfD (P : Program) (ρ : Rho) (f : Nat) (args : List SV) (m : Mem) (nx u ty : Nat) (r : O4) (o L R QL QR : List UInt8) (p : Int) : Prop :=
  ∃ (ρ' : Rho) (args1 : List SV) (m1 : Mem) (r' : O4) (cs : List SV) (ea eb : Lin) (la qa lb qb : Str), (CallR P ρ' f args1 m1 (nx + 3) r' ∧ r'.nx ≤ r.nx) ∧ (NodeOk ρ' cs L o R p ∧ ea.den ρ' = L.length ∧ eb.den ρ' = R.length ∧ denS ρ' la = L ∧ denS ρ' qa = QL ∧ denS ρ' lb = R ∧ denS ρ' qb = QR) ∧
    (m1.get nx = some (.ce ty (cs ++ [.tp (nx + 1) ea, .tp (nx + 2) eb]) true) ∧ m1.get (nx + 1) = some (.hb [0, ty] la qa) ∧ m1.get (nx + 2) = some (.hb [0, ty] lb qb) ∧ m1.get u = none ∧ ∀ s, s ≠ nx → s ≠ nx + 1 → s ≠ nx + 2 → s ≠ u → EqC (NodeT u nx) ρ ρ' (m.get s) (m1.get s)) ∧
    (∀ θ θ' us g c, ThLe θ θ' → θ u = some (g, c) → θ' nx = some (g, 12) → dens ρ θ args = some us → dens ρ' θ' args1 = some us) ∧ Post ρ' ρ r' r (Unf u nx)
theorem CallR.unf {P : Program} {f : Nat} {args : List SV} {m : Mem} {u ty : Nat} {l q : Str} {r : O4} (hu : m.get u = some (.hb [0, ty] l q)) (hent : ∀ args w, (callFunc f args).run P w = .ok (.enter f args) w) (hpc : Sat ρ r.pc) (hle : nx + 3 ≤ r.nx) (hnew : ∀ t, m.get t = none → r.m.get t ≠ none → nx ≤ t ∧ t < r.nx)
    (h0 : denS ρ l = [] → denS ρ q = [] → ∃ (ρ0 : Rho) (args0 : List SV) (m0 : Mem) (r' : O4), (CallR P ρ0 f args0 m0 nx r' ∧ r'.nx ≤ r.nx) ∧ (m0.get u = none ∧ ∀ s, s ≠ u → EqC (HasT u) ρ ρ0 (m.get s) (m0.get s)) ∧ (∀ θ us, HasT u θ → dens ρ θ args = some us → dens ρ0 θ args0 = some us) ∧ Post ρ0 ρ r' r fun θ => ∃ x, θ u = some x ∧ lsD x.2 = [])
    (h1 : ∀ (o L R QL QR : List UInt8) (p : Int), denS ρ l = L ++ o ++ R → denS ρ q = QL ++ UInt8.ofNat o.length :: QR → (1 ≤ o.length ∧ o.length ≤ 64) → (0 ≤ p ∧ p ≤ 4294967295) → L.length = sumQ QL → R.length = sumQ QR → UnfD P ρ f args m nx u ty r o L R QL QR p) : CallR P ρ f args m nx r := by
  refine ⟨hent, hpc, by omega, hnew, fun w θ us hus hM hfr => ?_⟩
  have fin : ∀ {nx' nxr : Nat} {ρ' : Rho} {θ' : Th} {m1 : Mem} {r' : O4} {C : Th → Prop}, nx ≤ nx' → nx' ≤ r'.nx → r'.nx ≤ r.nx → ThLe θ θ' → (∀ t, θ' t ≠ none → θ t ≠ none ∨ (nx ≤ t ∧ t < nx')) → (∀ {fa : Bool} (g : Nat), Bl fa θ' m1.get g → Bl fa θ m.get g) → (∀ θ2, ThLe θ' θ2 → C θ2) → Post ρ' ρ r' r C → ∀ e w', (∃ v θ2, e = Ending.returned v ∧ SP ρ' nx' r'.nx θ' m1.get w θ2 r'.m.get w' ∧ den ρ' θ2 r'.v = some v) → ∃ v θ3, e = Ending.returned v ∧ SP ρ nx r.nx θ m.get w θ3 r.m.get w' ∧ den ρ θ3 r.v = some v := fun {nx' nxr ρ' θ' m1 r' C} l1 l2 l3 hle' hnew' hbl hC hp e w' ⟨v, θ2, he, hsp, hv⟩ => by
    have hsp' := hsp.pre hle' hnew' hbl l1 l2
    obtain ⟨θ3, a1, a2, a3, a4, a5⟩ := hp θ2 w' v (hC θ2 hsp.le) hsp.mem (fun t q1 q2 => by
      cases hq : θ2 t with
      | none => rfl
      | some x =>
        rcases hsp'.new t (by rw [hq]; simp) with q | q
        · exact absurd (hfr t (by omega) q2) q
        · omega) hv
    exact ⟨v, θ3, he, hsp'.post a1 a2 a3 a4 (by omega) l3, a5⟩
  rcases hM.unf (u := u) (n := nx) (a := nx + 1) (b := nx + 2) hu (hfr _ (by omega) (by omega)) (hfr _ (by omega) (by omega)) (hfr _ (by omega) (by omega)) (by omega) with ⟨e1, e2, x, hx, hx0⟩ | ⟨o, L, R, QL, QR, p, θ', e1, e2, e3, e4, e5, e6, e7, e8, e9, key⟩
  · obtain ⟨ρ0, args0, m0, r', ⟨hc, hl⟩, ⟨d1, d2⟩, ha, hp⟩ := h0 e1 e2
    have hE : ∀ s, EqC (HasT u) ρ ρ0 (if s = u then none else m.get s) (m0.get s) := fun s => by
      by_cases q : s = u
      · subst q; rw [if_pos rfl, d1]; trivial
      · rw [if_neg q]; exact d2 s q
    have hS : MemOk ρ θ (fun s => if s = u then none else m.get s) w := hM.sub fun t b hb => by
      have hb : (if t = u then none else m.get t) = some b := hb
      split at hb
      · cases hb
      · exact hb
    have hM0 : MemOk ρ0 θ m0.get w := EqC.memOk hE ⟨x, hx⟩ hS
    have hbl : ∀ {fa : Bool}, ∀ g, Bl fa θ m0.get g → Bl fa θ m.get g := fun g hg => by
      obtain ⟨t, y, y1, y2⟩ := EqC.bls hE hg
      refine ⟨t, y, y1, ?_⟩
      have y2 : FtB _ (if t = u then none else m.get t) y g := y2
      split at y2
      · exact y2.elim
      · exact y2
    exact calls_mono (hc.run w θ us (ha θ us ⟨x, hx⟩ hus) hM0 fun t q1 q2 => hfr t q1 (by omega)) fun e w' h => fin (nxr := 0) (Nat.le_refl _) hc.le hl (ThLe.refl _) (fun t h => .inl h) hbl (fun θ2 h => ⟨x, h _ _ hx, hx0⟩) hp e w' h
  · obtain ⟨ρ', args1, m1, r', cs, ea, eb, la, qa, lb, qb, ⟨hc, hl⟩, ⟨c1, c2, c3, c4, c5, c6, c7⟩, ⟨d1, d2, d3, d4, d5⟩, ha, hp⟩ := h1 o L R QL QR p e1 e2 e3 e4 e5 e6
    have kk := key ρ' m1.get cs ea eb la qa lb qb c1 c2 c3 c4 c5 c6 c7 d1 d2 d3 d4 d5
    obtain ⟨g, c, xa, xb, f1, f2, f3, f4, f5⟩ := e9
    exact calls_mono (hc.run w θ' us (ha θ θ' us g c e7 f1 f2 hus) kk.1 fun t q1 q2 => by
      cases hq : θ' t with
      | none => rfl
      | some y =>
        rcases e8 t (by rw [hq]; simp) with q | q
        · exact absurd (hfr t (by omega) (by omega)) q
        · omega) fun e w' h => fin (nxr := 0) (by omega) hc.le hl e7 (fun t ht => (e8 t ht).imp id (fun q => by omega)) kk.2 (fun θ2 h => ⟨g, c, xa, xb, h _ _ (e7 _ _ f1), h _ _ f2, h _ _ f3, h _ _ f4, f5⟩) hp e w' h
theorem CallR.fen {P : Program} {f : Nat} {args args0 : List SV} {m m0 : Mem} {n a b ty : Nat} {cs : List SV} {ea eb : Lin} {l q la qa lb qb : Str} {L o R : List UInt8} {p : Int} {r : O4} (h : CallR P ρ f args0 m0 (nx + 1) r)
    (hn : m.get n = some (.ce ty (cs ++ [.tp a ea, .tp b eb]) true)) (ha : m.get a = some (.hb [0, ty] la qa)) (hb : m.get b = some (.hb [0, ty] lb qb)) (hd : n ≠ a ∧ n ≠ b ∧ a ≠ b) (hu : m.get nx = none)
    (hcs : NodeOk ρ cs L o R p) (hea : ea.den ρ = L.length) (heb : eb.den ρ = R.length) (hla : denS ρ la = L) (hlb : denS ρ lb = R) (ho : 1 ≤ o.length ∧ o.length ≤ 64) (hp : 0 ≤ p ∧ p ≤ 4294967295) (hl : denS ρ l = L ++ o ++ R) (hq : denS ρ q = denS ρ qa ++ UInt8.ofNat o.length :: denS ρ qb)
    (h1 : ∀ s, m0.get s = if s = nx then some (.hb [0, ty] l q) else if s = n ∨ s = a ∨ s = b then none else m.get s) (hv : ∀ θ g c c' us, θ n = some (g, c) → θ nx = some (g, c') → dens ρ θ args = some us → dens ρ θ args0 = some us) (hr : ∀ t, t = n ∨ t = a ∨ t = b → r.m.get t = none) : CallR P ρ f args m nx r := by
  have := h.le
  have hun : nx ≠ n := fun e => by rw [e, hn] at hu; cases hu
  have hua : nx ≠ a := fun e => by rw [e, ha] at hu; cases hu
  have hub : nx ≠ b := fun e => by rw [e, hb] at hu; cases hu
  refine ⟨h.enter, h.pc, by omega, fun t q1 q2 => ?_, fun w θ us hus hM hfr => ?_⟩
  · by_cases e : t = nx
    · omega
    · have := h.new t (by
        rw [h1, if_neg e]
        split
        · rfl
        · exact q1) q2
      omega
  · obtain ⟨g, c, xa, xb, e1, e2, e3, key⟩ := hM.fold (u := nx) (l := l) (q := q) hn ha hb hd hu hcs hea heb hla hlb ho hp hl hq
    have hno := hfr nx (Nat.le_refl _) (by omega)
    have hle : ThLe θ (updT θ nx (g, lsE (g :: (lsD xa.2 ++ lsD xb.2)))) := fun t z hz => by
      unfold updT
      split
      · rename_i e; subst e; rw [hno] at hz; cases hz
      · exact hz
    have hu3 : updT θ nx (g, lsE (g :: (lsD xa.2 ++ lsD xb.2))) nx = some (g, lsE (g :: (lsD xa.2 ++ lsD xb.2))) := by simp [updT]
    have kk := key _ _ m0.get hle (fun s hs => by simp [updT, hs]) hu3 (lsD_E _) (by rw [h1, if_pos rfl]) (by rw [h1, if_neg hun.symm, if_pos (.inl rfl)]) (by rw [h1, if_neg hua.symm, if_pos (.inr (.inl rfl))]) (by rw [h1, if_neg hub.symm, if_pos (.inr (.inr rfl))])
      (fun s q1 q2 q3 q4 => by rw [h1, if_neg q4, if_neg (by simp [q1, q2, q3])])
    refine calls_mono (h.run w _ us (hv _ g c _ us (hle _ _ e1) hu3 (dens_mono hle _ hus)) kk.1 fun t q1 q2 => ?_) fun e w' ⟨v, θ2, he, hsp, hv2⟩ => ⟨v, θ2, he, hsp.pre hle (fun t ht => ?_) kk.2 (by omega) this, hv2⟩
    · unfold updT
      rw [if_neg (by omega)]
      exact hfr t (by omega) q2
    · by_cases e : t = nx
      · exact .inr ⟨by omega, by omega⟩
      · left
        simpa [updT, e] using ht
end
end X
end Go.Proofs.YtebfahobllghnaaGreatDoor
namespace Go.Proofs.YtebfahobllghnaaGreatDoor
namespace X
open Go.RowKit B
def ctr (k : Nat) : Str → Str
  | [] => []
  | .a i :: l => .a (Nat.add (Nat.add 200 (Nat.mul 3 i)) k) :: ctr k l
  | .c n :: l => ctr k l
def xs (l : Str) : SV := .x .i64 (lenS l)
def cellsT (l : Str) (o : Nat) (p : Lin) : List SV := [xs l, xs (ctr 0 l), xs (ctr 1 l), xs (ctr 2 l), .s [.a o], xs [.a o], xs (ctr 0 [.a o]), xs (ctr 1 [.a o]), xs (ctr 2 [.a o]), .x .u32 p]
def ctrF (k : Nat) (l : List UInt8) : List UInt8 := match k with
  | 0 => zer (brk l)
  | 1 => zer (cntF runB l)
  | _ => zer (cntF uniB l)
theorem ctrF_app : ∀ (k : Nat) (l m : List UInt8), ctrF k (l ++ m) = ctrF k l ++ ctrF k m
  | 0, l, m => by simp only [ctrF, ← cnt_brk, cntF_app, zer_add]
  | 1, l, m => by simp only [ctrF, cntF_app, zer_add]
  | k + 2, l, m => by simp only [ctrF, cntF_app, zer_add]
theorem ctrF_nil : ∀ k, ctrF k [] = []
  | 0 => rfl
  | 1 => rfl
  | k + 2 => rfl
theorem tB_cnt : ∀ l : List UInt8, tB l = ((brk l : Nat) : Int)
  | [] => rfl
  | b :: l => by
    have h := tB_cnt l
    rw [← cnt_brk] at h ⊢
    unfold tB at h ⊢
    simp only [List.countP_cons, cntF, lfB, beq_iff_eq]
    split <;> omega
theorem tR_cnt : ∀ l : List UInt8, tR l = ((cntF runB l : Nat) : Int)
  | [] => rfl
  | b :: l => by
    have h := tR_cnt l
    unfold tR at h ⊢
    simp only [List.countP_cons, cntF, runB, decide_eq_true_eq]
    split <;> omega
theorem tU_cnt : ∀ l : List UInt8, tU l = ((cntF uniB l : Nat) : Int)
  | [] => rfl
  | b :: l => by
    have h := tU_cnt l
    unfold tU tR at h ⊢
    simp only [List.countP_cons, cntF, uniB, decide_eq_true_eq]
    by_cases h1 : b.toNat < 128 ∨ 191 < b.toNat <;> by_cases h2 : 240 ≤ b.toNat <;> simp only [h1, h2, if_true, if_false] <;> omega
structure TalA (ρ : Rho) : Prop where
  t : ∀ i, i < 200 → ∀ k, k < 3 → ρ.s (200 + 3 * i + k) = ctrF k (ρ.s i)
def lowA : Str → Bool
  | [] => true
  | .c _ :: _ => false
  | .a i :: l => Nat.blt i 200 && lowA l
section
variable {ρ : Rho}
theorem ctr_den (h : TalA ρ) {k : Nat} (hk : k < 3) : ∀ {l : Str}, lowA l = true → denS ρ (ctr k l) = ctrF k (denS ρ l)
  | [], _ => (ctrF_nil k).symm
  | .c _ :: _, hl => by cases hl
  | .a i :: l, hl => by
    simp only [lowA, Bool.and_eq_true, Nat.blt_eq] at hl
    rw [ctr, denS_cons, denS_cons, ctrF_app, ctr_den h hk hl.2]
    exact congrArg (· ++ _) (h.t i hl.1 k hk)
theorem xs_den (l : Str) (θ : Th) : den ρ θ (xs l) = some (.int .i64 ((denS ρ l).length : Int)) := by
  simp only [xs, den, lenS_den]
theorem cells_ok (h : TalA ρ) {l : Str} {o : Nat} {p : Lin} {L oo R : List UInt8} {pp : Int} (hl : lowA l = true) (ho : o < 200) (e : denS ρ l = L ++ oo ++ R) (eo : ρ.s o = oo) (ep : p.den ρ = pp) : NodeOk ρ (cellsT l o p) L oo R pp := fun θ => by
  have e1 : denS ρ [.a o] = oo := by simp [denS, Pc.den, eo]
  have lo : lowA [.a o] = true := by simp [lowA, ho]
  have z : ∀ n, (zer n).length = n := fun n => zer_len
  have c0 := ctr_den h (k := 0) (by omega) hl
  have c1 := ctr_den h (k := 1) (by omega) hl
  have c2 := ctr_den h (k := 2) (by omega) hl
  have d0 := ctr_den h (k := 0) (by omega) lo
  have d1 := ctr_den h (k := 1) (by omega) lo
  have d2 := ctr_den h (k := 2) (by omega) lo
  simp only [cellsT, dens, xs_den, c0, c1, c2, d0, d1, d2, e1, e, ctrF, z, den, ep, Option.bind_some, Option.map_some, nodeV, tB_cnt, tR_cnt, tU_cnt]
end
def hT (ty : Nat) (l q : Str) : Blk := .hb [0, ty] l q
def tv (t : Nat) (l : Str) : SV := .tp t (lenS l)
def fndQ : List (Nat × Nat) → Nat → Option Nat
  | [], _ => none
  | (a, b) :: l, o => match Nat.beq a o with
    | true => some b
    | false => fndQ l o
def QOk (ρ : Rho) (qs : List (Nat × Nat)) : Prop := ∀ o o', fndQ qs o = some o' → ρ.s o' = [UInt8.ofNat (ρ.s o).length]
def le1 (l : Str) : Lin := (lenS l).sub (.mk 1 [])
def ge64 (l : Str) : Lin := (Lin.mk 64 []).sub (lenS l)
def geU (p : Lin) : Lin := (Lin.mk 4294967295 []).sub p
def nodeChk (ty : Nat) (pc : PC) (t a b ty' ta tb o : Nat) (la lb : Str) (cs : List SV) (p ea eb : Lin) : Bool :=
  Nat.beq ty' ty && Nat.beq ta ty && Nat.beq tb ty && !Nat.beq t a && !Nat.beq t b && !Nat.beq a b && Nat.blt o 200 && lowA (appL la (.a o :: lb)) && sameVs [] 0 rN pc (cellsT (appL la (.a o :: lb)) o p) cs && proves pc p && proves pc (geU p) && proves pc (le1 [.a o]) && proves pc (ge64 [.a o]) && sameVs [] 0 rN pc [xs la, xs lb] [.x .i64 ea, .x .i64 eb]
def ndK (ty : Nat) (qs : List (Nat × Nat)) (m : Mem) (pc : PC) (t : Nat) (K : Nat → Nat → Str → Str → Bool) : Bool := match m.get t with
  | some (.ce ty' [c0, c1, c2, c3, .s [.a o], c5, c6, c7, c8, .x .u32 p, .tp a ea, .tp b eb] true) => match m.get a, m.get b with
    | some (.hb [0, ta] la qa), some (.hb [0, tb] lb qb) => match fndQ qs o with
      | some o' => match nodeChk ty pc t a b ty' ta tb o la lb [c0, c1, c2, c3, .s [.a o], c5, c6, c7, c8, .x .u32 p] p ea eb with
        | true => K a b (appL la (.a o :: lb)) (appL qa (.a o' :: qb))
        | false => false
      | none => false
    | _, _ => false
  | _ => false
structure NdR (ρ : Rho) (ty : Nat) (m : Mem) (t a b : Nat) (l q : Str) : Prop where
  ex : ∃ (cs : List SV) (ea eb : Lin) (la qa lb qb : Str) (L oo R : List UInt8) (p : Int), m.get t = some (.ce ty (cs ++ [.tp a ea, .tp b eb]) true) ∧ m.get a = some (.hb [0, ty] la qa) ∧ m.get b = some (.hb [0, ty] lb qb) ∧ (t ≠ a ∧ t ≠ b ∧ a ≠ b) ∧ NodeOk ρ cs L oo R p ∧ ea.den ρ = L.length ∧ eb.den ρ = R.length ∧ denS ρ la = L ∧ denS ρ lb = R ∧
    (1 ≤ oo.length ∧ oo.length ≤ 64) ∧ (0 ≤ p ∧ p ≤ 4294967295) ∧ denS ρ l = L ++ oo ++ R ∧ denS ρ q = denS ρ qa ++ UInt8.ofNat oo.length :: denS ρ qb
section
variable {ρ : Rho} {P : Program}
theorem appL_app {l m : Str} : appL l m = l ++ m := by
  induction l with
  | nil => rfl
  | cons a l ih => rw [appL, ih]; rfl
theorem noTags {θ : Th} : TagsOk [] 0 θ θ := fun t u h => by
  unfold tagOk at h
  have hb : Nat.blt t 0 = false := rfl
  simp [hb, findT] at h
theorem rN_okA : RulesOk ρ rN := ⟨fun g x y h _ => (by cases h), fun g x y h _ => (by cases h)⟩
theorem ndK_yl {ty : Nat} {qs : List (Nat × Nat)} {m : Mem} {pc : PC} {t : Nat} (h : TalA ρ) (hq : QOk ρ qs) (hs : Sat ρ pc) : Yl (fun K => ndK ty qs m pc t fun a b l q => K (a, b, l, q)) fun r => NdR ρ ty m t r.1 r.2.1 r.2.2.1 r.2.2.2 := by
  unfold ndK
  split
  · rename_i ty' c0 c1 c2 c3 o c5 c6 c7 c8 p a ea b eb hm
    split
    · rename_i ta la qa tb lb qb ha hb
      split
      · rename_i o' ho'
        split
        · rename_i hc
          simp only [nodeChk, Bool.and_eq_true, Nat.beq_eq, Bool.not_eq_true', Nat.blt_eq] at hc
          obtain ⟨⟨⟨⟨⟨⟨⟨⟨⟨⟨⟨⟨⟨rfl, rfl⟩, rfl⟩, e1⟩, e2⟩, e3⟩, e4⟩, e5⟩, e6⟩, e7⟩, e8⟩, e9⟩, e10⟩, e11⟩ := hc
          refine Yl.pure (a, b, appL la (.a o :: lb), appL qa (.a o' :: qb)) ⟨[c0, c1, c2, c3, .s [.a o], c5, c6, c7, c8, .x .u32 p], ea, eb, la, qa, lb, qb, denS ρ la, ρ.s o, denS ρ lb, p.den ρ, hm, ha, hb, ⟨Nat.ne_of_beq_eq_false e1, Nat.ne_of_beq_eq_false e2, Nat.ne_of_beq_eq_false e3⟩, fun θ => ?_, ?_, ?_, rfl, rfl, ?_, ?_, ?_, ?_⟩
          · rw [← sameVs_ok hs rN_okA noTags e6]
            exact cells_ok h e5 e4 (by simp [appL_app, denS_app, denS_cons, Pc.den]) rfl rfl θ
          · have := sameVs_ok (θ := fun _ => none) (θ1 := fun _ => none) hs rN_okA noTags e11
            simp only [dens, xs_den, den, Option.bind_some, Option.map_some, Option.some.injEq, List.cons.injEq, Value.int.injEq, true_and] at this
            exact this.1.symm
          · have := sameVs_ok (θ := fun _ => none) (θ1 := fun _ => none) hs rN_okA noTags e11
            simp only [dens, xs_den, den, Option.bind_some, Option.map_some, Option.some.injEq, List.cons.injEq, Value.int.injEq, true_and] at this
            exact this.2.1.symm
          · have q1 := proves_ok e9 hs
            have q2 := proves_ok e10 hs
            have ea : denS ρ [.a o] = ρ.s o := by simp [denS, Pc.den]
            rw [le1, sub_den, const_den, lenS_den, ea] at q1
            rw [ge64, sub_den, const_den, lenS_den, ea] at q2
            omega
          · have q1 := proves_ok e7 hs
            have q2 := proves_ok e8 hs
            rw [geU, sub_den, const_den] at q2
            omega
          · simp [appL_app, denS_app, denS_cons, Pc.den]
          · simp only [appL_app, denS_app, denS_cons, Pc.den]
            rw [hq o o' ho']
            rfl
        · exact Yl.no
      · exact Yl.no
    · exact Yl.no
  · exact Yl.no
theorem ndK_bind {β : Type} {G : Nat → Nat → Str → Str → (β → Bool) → Bool} {Ψ : β → Prop} {ty : Nat} {qs : List (Nat × Nat)} {m : Mem} {pc : PC} {t : Nat} (h : TalA ρ) (hq : QOk ρ qs) (hs : Sat ρ pc) (hg : ∀ a b l q, NdR ρ ty m t a b l q → Yl (G a b l q) Ψ) : Yl (fun K => ndK ty qs m pc t fun a b l q => G a b l q K) Ψ := fun K hk => by
  obtain ⟨⟨a, b, l, q⟩, h1, h2, h3⟩ := ndK_yl (t := t) (ty := ty) (m := m) h hq hs (fun r => G r.1 r.2.1 r.2.2.1 r.2.2.2 K) hk
  obtain ⟨y, g1, g2, g3⟩ := hg a b l q h1 K h2
  exact ⟨y, g1, g2, fun K' hk' => g3 K' (h3 (fun r => G r.1 r.2.1 r.2.2.1 r.2.2.2 K') hk')⟩
def isN (m : Mem) (v : SV) : Option Nat := match v with
  | .p t 0 => match m.get t with
    | some (.ce _ [_, _, _, _, _, _, _, _, _, _, _, _] _) => some t
    | _ => none
  | _ => none
def fstN (m : Mem) : List SV → Option Nat
  | [] => none
  | v :: l => match isN m v with
    | some t => some t
    | none => fstN m l
def rep1 (t u : Nat) (e : Lin) : SV → SV
  | .p s 0 => match Nat.beq s t with
    | true => .tp u e
    | false => .p s 0
  | v => v
def repA (t u : Nat) (e : Lin) : List SV → List SV
  | [] => []
  | v :: l => rep1 t u e v :: repA t u e l
def nN (m : Mem) (t : Nat) : Bool := match m.get t with
  | none => true
  | some _ => false
def foldS2 (t a b : Nat) (K : SV → Mem → Nat → PC → Bool) (v : SV) (m : Mem) (nx : Nat) (pc : PC) : Bool := match nN m t && nN m a && nN m b with
  | true => K v m nx pc
  | false => false
def foldS1 (ty : Nat) (g : SumF) (args : List SV) (m : Mem) (nx : Nat) (pc : PC) (t a b : Nat) (l q : Str) (K : SV → Mem → Nat → PC → Bool) : Bool := match nN m nx with
  | true => rmN [t, a, b] m fun m1 => m1.set nx (some (.hb [0, ty] l q)) fun m2 => g (repA t nx (lenS l) args) m2 (Nat.succ nx) pc (foldS2 t a b K)
  | false => false
def foldS (ty : Nat) (qs : List (Nat × Nat)) (g : SumF) : SumF := fun args m nx pc K => match fstN m args with
  | some t => ndK ty qs m pc t fun a b l q => foldS1 ty g args m nx pc t a b l q K
  | none => g args m nx pc K
def rpV (t u : Nat) (e : Lin) : SV → SV
  | .tu l => .tu (repA t u e l)
  | v => rep1 t u e v
def fstV (m : Mem) : SV → Option Nat
  | .tu l => fstN m l
  | v => isN m v
def foldR2 (ty : Nat) (t : Nat) (v : SV) (m : Mem) (nx : Nat) (pc : PC) (a b : Nat) (l q : Str) (K : SV → Mem → Nat → PC → Bool) : Bool := match nN m nx with
  | true => rmN [t, a, b] m fun m2 => m2.set nx (some (.hb [0, ty] l q)) fun m3 => K (rpV t nx (lenS l) v) m3 (Nat.succ nx) pc
  | false => false
def foldR1 (ty : Nat) (qs : List (Nat × Nat)) (K : SV → Mem → Nat → PC → Bool) (v : SV) (m : Mem) (nx : Nat) (pc : PC) : Bool := match fstV m v with
  | some t => ndK ty qs m pc t fun a b l q => foldR2 ty t v m nx pc a b l q K
  | none => K v m nx pc
def foldR (ty : Nat) (qs : List (Nat × Nat)) (g : SumF) : SumF := fun args m nx pc K => g args m nx pc (foldR1 ty qs K)
theorem nN_ok {m : Mem} {t : Nat} (h : nN m t = true) : m.get t = none := by
  unfold nN at h
  split at h
  · assumption
  · cases h
theorem rep1_den {t u : Nat} {e : Lin} (he : 0 < e.den ρ) {θ : Th} {g c c' : Nat} (h1 : θ t = some (g, c)) (h2 : θ u = some (g, c')) : ∀ {v : SV} {x : Value}, den ρ θ v = some x → den ρ θ (rep1 t u e v) = some x := fun {v x} hx => by
  unfold rep1
  split
  · rename_i s
    split
    · rename_i hb
      have := Nat.eq_of_beq_eq_true hb
      subst this
      simp only [den, h1, h2, Option.map_some] at hx ⊢
      rw [if_neg (by omega)]
      exact hx
    · exact hx
  · exact hx
theorem repA_den {t u : Nat} {e : Lin} (he : 0 < e.den ρ) {θ : Th} {g c c' : Nat} (h1 : θ t = some (g, c)) (h2 : θ u = some (g, c')) : ∀ {l : List SV} {us : List Value}, dens ρ θ l = some us → dens ρ θ (repA t u e l) = some us
  | [], us, h => h
  | v :: l, us, h => by
    simp only [dens, Option.bind_eq_some_iff, Option.map_eq_some_iff] at h
    obtain ⟨x, hx, ys, hy, rfl⟩ := h
    simp only [repA, dens, rep1_den he h1 h2 hx, repA_den he h1 h2 hy, Option.bind_some, Option.map_some]
theorem rpV_den {t u : Nat} {e : Lin} (he : 0 < e.den ρ) {θ : Th} {g c c' : Nat} (h1 : θ t = some (g, c)) (h2 : θ u = some (g, c')) {v : SV} {x : Value} (hx : den ρ θ v = some x) : den ρ θ (rpV t u e v) = some x := by
  unfold rpV
  split
  · simp only [den, Option.map_eq_some_iff] at hx ⊢
    obtain ⟨ys, hy, rfl⟩ := hx
    exact ⟨ys, repA_den he h1 h2 hy, rfl⟩
  · exact rep1_den he h1 h2 hx
theorem NdR.pos {ty : Nat} {m : Mem} {t a b : Nat} {l q : Str} (h : NdR ρ ty m t a b l q) : 0 < (lenS l).den ρ := by
  obtain ⟨cs, ea, eb, la, qa, lb, qb, L, oo, R, p, h1, h2, h3, h4, h5, h6, h7, h8, h9, h10, h11, h12, h13⟩ := h.ex
  rw [lenS_den, h12]
  simp only [List.length_append]
  omega
theorem call_bind {β : Type} {f : Nat} {g : SumF} {args : List SV} {m : Mem} {nx : Nat} {pc : PC} (hg : CallY P ρ f g) (hs : Sat ρ pc) {G : (β → Bool) → SV → Mem → Nat → PC → Bool} {Ψ : β → Prop} (hG : ∀ r : O4, CallR P ρ f args m nx r → Yl (fun K => G K r.v r.m r.nx r.pc) Ψ) : Yl (fun K => g args m nx pc (G K)) Ψ := fun K hk => by
  obtain ⟨r, h1, h2, h3⟩ := hg args m nx pc hs (fun r => G K r.v r.m r.nx r.pc) hk
  obtain ⟨y, g1, g2, g3⟩ := hG r h1 K h2
  exact ⟨y, g1, g2, fun K' hk' => g3 K' (h3 (fun r => G K' r.v r.m r.nx r.pc) hk')⟩
def k4 (K : O4 → Bool) (v : SV) (m : Mem) (nx : Nat) (pc : PC) : Bool := K ⟨v, m, nx, pc⟩
theorem foldS1_ok {f ty : Nat} {g : SumF} (hg : CallY P ρ f g) {args : List SV} {m : Mem} {nx : Nat} {pc : PC} {t a b : Nat} {l q : Str} (hs : Sat ρ pc) (hr : NdR ρ ty m t a b l q) : Yl (fun K => foldS1 ty g args m nx pc t a b l q (k4 K)) (CallR P ρ f args m nx) := by
  unfold foldS1
  split
  · rename_i hn
    have hn := nN_ok hn
    refine Yl.bind rmN_yl fun m1 h1 => Yl.bind set_yl fun m2 h2 => ?_
    refine call_bind (G := fun K => foldS2 t a b (k4 K)) hg hs fun r hc => ?_
    unfold foldS2
    split
    · rename_i hk
      simp only [Bool.and_eq_true] at hk
      refine Yl.pure r ?_
      obtain ⟨cs, ea, eb, la, qa, lb, qb, L, oo, R, p, z1, z2, z3, z4, z5, z6, z7, z8, z9, z10, z11, z12, z13⟩ := hr.ex
      exact CallR.fen (n := t) (a := a) (b := b) hc z1 z2 z3 z4 hn z5 z6 z7 z8 z9 z10 z11 z12 z13 (fun s => by
        rw [h2]
        split
        · rfl
        · split
          · rename_i e
            exact (h1 s).1 (by simpa using e)
          · rename_i e
            exact (h1 s).2 (by simpa using e)) (fun θ g c c' us q1 q2 q3 => repA_den hr.pos q1 q2 q3) (fun s hs => by
        rcases hs with rfl | rfl | rfl
        · exact nN_ok hk.1.1
        · exact nN_ok hk.1.2
        · exact nN_ok hk.2)
    · exact Yl.no
  · exact Yl.no
theorem foldS_ok {f ty : Nat} {qs : List (Nat × Nat)} {g : SumF} (h : TalA ρ) (hq : QOk ρ qs) (hg : CallY P ρ f g) : CallY P ρ f (foldS ty qs g) := fun args m nx pc hs => by
  show Yl (fun K => foldS ty qs g args m nx pc (k4 K)) _
  unfold foldS
  cases fstN m args with
  | some t => exact ndK_bind (G := fun a b l q K => foldS1 ty g args m nx pc t a b l q (k4 K)) h hq hs fun a b l q hr => foldS1_ok hg hs hr
  | none => exact hg args m nx pc hs
theorem foldR2_ok {f ty : Nat} {args : List SV} {m : Mem} {nx : Nat} {r : O4} {t a b : Nat} {l q : Str} (hc : CallR P ρ f args m nx r) (hr : NdR ρ ty r.m t a b l q) : Yl (fun K => foldR2 ty t r.v r.m r.nx r.pc a b l q (k4 K)) (CallR P ρ f args m nx) := by
  unfold foldR2
  split
  · rename_i hn
    have hn := nN_ok hn
    refine Yl.bind rmN_yl fun m1 h1 => Yl.bind set_yl fun m2 h2 => Yl.pure (⟨rpV t r.nx (lenS l) r.v, m2, Nat.succ r.nx, r.pc⟩ : O4) ?_
    obtain ⟨cs, ea, eb, la, qa, lb, qb, L, oo, R, p, z1, z2, z3, z4, z5, z6, z7, z8, z9, z10, z11, z12, z13⟩ := hr.ex
    have hm : ∀ s, m2.get s = if s = r.nx then some (.hb [0, ty] l q) else if s = t ∨ s = a ∨ s = b then none else r.m.get s := fun s => by
      rw [h2]
      split
      · rfl
      · split
        · rename_i e
          exact (h1 s).1 (by simpa using e)
        · rename_i e
          exact (h1 s).2 (by simpa using e)
    refine hc.post (r := ⟨rpV t r.nx (lenS l) r.v, m2, Nat.succ r.nx, r.pc⟩) (Post.fold z1 z2 z3 z4 hn z5 z6 z7 z8 z9 z10 z11 z12 z13 hm rfl fun θ g c c' v q1 q2 q3 => rpV_den hr.pos q1 q2 q3) hc.pc (Nat.le_succ _) fun s q1 q2 => ?_
    have := hc.le
    by_cases e : s = r.nx
    · subst e
      exact ⟨hc.le, Nat.lt_succ_self _⟩
    · have q2 : r.m.get s ≠ none := by
        have q2 : m2.get s ≠ none := q2
        rw [hm, if_neg e] at q2
        split at q2
        · exact absurd rfl q2
        · exact q2
      have := hc.new s q1 q2
      exact ⟨this.1, Nat.lt_succ_of_lt this.2⟩
  · exact Yl.no
theorem foldR_ok {f ty : Nat} {qs : List (Nat × Nat)} {g : SumF} (h : TalA ρ) (hq : QOk ρ qs) (hg : CallY P ρ f g) : CallY P ρ f (foldR ty qs g) := fun args m nx pc hs => by
  show Yl (fun K => foldR ty qs g args m nx pc (k4 K)) _
  unfold foldR
  refine call_bind (G := fun K => foldR1 ty qs (k4 K)) hg hs fun r hc => ?_
  unfold foldR1
  cases fstV r.m r.v with
  | some t => exact ndK_bind (G := fun a b l q K => foldR2 ty t r.v r.m r.nx r.pc a b l q (k4 K)) h hq hc.pc fun a b l q hr => foldR2_ok hc hr
  | none => exact Yl.pure r hc
end
end X
end Go.Proofs.YtebfahobllghnaaGreatDoor
