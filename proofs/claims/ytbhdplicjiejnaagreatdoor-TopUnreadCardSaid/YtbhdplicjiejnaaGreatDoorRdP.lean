/-
  TopUnread: the loops' classes of bytes; what stands behind, by what was gone through. Over any program.
-/
import Derived.Test.YtbhdplicjiejnaaGreatDoorRdA
set_option linter.unusedSimpArgs false
set_option linter.unusedVariables false
namespace Go.Proofs.YtbhdplicjiejnaaGreatDoor
namespace X
open Go.RowKit B

/-! ### The triggers hand on what they were given -/
section
variable {e eS nx k many hi : Nat} {s : Tr SV} {m : Mem} {c c' : Cc} {T : TS} {Ts : List TS} {sl : SL} {l : ML} {v : SV}
theorem txtT_c (h : txtT e nx k sl l v many m c = .tail c' T Ts hi) : c' = c := by
  unfold txtT tailFrom at h
  split at h <;> first | (cases h; rfl) | cases h
theorem guardTrig_c (h : guardTrig e c s m nx = .tail c' T Ts hi) : c' = c := by
  unfold guardTrig at h
  split at h
  · split at h
    · exact txtT_c h
    · cases h
  · cases h
theorem ownTrig_c (h : ownTrig c s m nx = .tail c' T Ts hi) : c' = c := by
  unfold ownTrig tailFrom at h
  split at h
  · split at h
    · cases h; rfl
    · cases h
  · cases h
theorem partsTrig_c (h : partsTrig e c s m nx = .tail c' T Ts hi) : c' = c := by
  unfold partsTrig at h
  split at h
  · split at h
    · split at h
      · exact txtT_c h
      · cases h
    · cases h
  · cases h
theorem optsTrig_c (h : optsTrig e eS c s m nx = .tail c' T Ts hi) : c' = c := by
  unfold optsTrig at h
  split at h
  · split at h
    · split at h
      · split at h
        · cases h
        · exact txtT_c h
        · cases h
      · cases h
    · cases h
  · cases h
theorem eachTrig_c (h : eachTrig e c s m nx = .tail c' T Ts hi) : c' = c := by
  unfold eachTrig tailFrom at h
  split at h
  · split at h
    · split at h
      · split at h
        · split at h <;> first | (cases h; rfl) | cases h
        · cases h
      · cases h
    · cases h
  · cases h
end

/-! ### The unknowns: string 6 is the text or its beginning; 7 one byte; 8 the rest; 9, 10 come of loops -/
structure RhoU (ρ : Rho) : Prop where
  l7 : (ρ.s 7).length = 1
  n7 : ρ.s 7 ≠ [125]
  l8 : (ρ.s 8).length ≤ 40
  l9 : (ρ.s 9).length ≤ 80
  l10 : (ρ.s 10).length ≤ 40
  v0 : ρ.v 500 = 0
theorem RhoU.agree {ρ ρ' : Rho} (h : RhoU ρ) (k : Agree ρ ρ') : RhoU ρ' := by
  refine ⟨?_, ?_, ?_, ?_, ?_, ?_⟩
  · rw [k.s 7 (by omega)]; exact h.l7
  · rw [k.s 7 (by omega)]; exact h.n7
  · rw [k.s 8 (by omega)]; exact h.l8
  · rw [k.s 9 (by omega)]; exact h.l9
  · rw [k.s 10 (by omega)]; exact h.l10
  · rw [k.v]; exact h.v0
section
variable {ρ ρ0 : Rho} {b : UInt8} {n : Nat}
theorem noB_ok (h1 : ρ.s 1 = [b]) (hb : b ≠ UInt8.ofNat n) : 0 ≤ (noB n).den ρ := by
  have := ρ.at_e 1 n (by omega)
  rw [h1, if_neg (by simpa using hb)] at this
  show 0 ≤ (0 : Int) + (-1 * ρ.at (8 * (1 + 16 * n) + 7) + 0)
  omega
theorem isB_ok (h1 : ρ.s 1 = [UInt8.ofNat n]) : 0 ≤ (isB n).den ρ := by
  have := ρ.at_e 1 n (by omega)
  rw [h1, if_pos rfl] at this
  show 0 ≤ (-1 : Int) + (1 * ρ.at (8 * (1 + 16 * n) + 7) + 0)
  omega
theorem bvE_ok (h1 : ρ.s 1 = [b]) (hv : ρ.v 500 = 0) (hb : b.toNat = n) : Sat ρ (bvE n) := by
  have := ρ.at_b 1 500 (by omega)
  rw [h1, hv] at this
  have : ρ.at 64011 = (n : Int) := by rw [this]; simp [hb]
  have ng (m : Nat) : Int.negOfNat m = -(m : Int) := by cases m <;> rfl
  intro e he
  simp only [bvE, List.mem_cons, List.not_mem_nil, or_false] at he
  rcases he with rfl | rfl
  · simp only [Lin.den, dts, this, ng]; omega
  · simp only [Lin.den, dts, this, Int.ofNat_eq_natCast]; omega
theorem sat_cons {e : Lin} {l : PC} (h : 0 ≤ e.den ρ) (hl : Sat ρ l) : Sat ρ (e :: l) := fun x hx => by
  rcases List.mem_cons.1 hx with rfl | hx
  · exact h
  · exact hl x hx
theorem sat_nil : Sat ρ [] := fun x hx => by cases hx
theorem ple_ok (h : RhoU ρ) : Sat ρ ple := by
  have a7 : ρ.at 29 = ((ρ.s 7).length : Int) := ρ.at_l 7
  have a8 : ρ.at 33 = ((ρ.s 8).length : Int) := ρ.at_l 8
  have := h.l7
  have := h.l8
  refine sat_cons ?_ (sat_cons ?_ (sat_cons ?_ (sat_cons ?_ sat_nil))) <;> simp only [Lin.den, dts, a7, a8] <;> omega
theorem ccr_ok (h : RhoU ρ0) {Y : Str} (hY : (denS ρ0 Y).length ≤ 40) {cl : List (PC × Sh)} {f : Sh} {vk : List Nat} (g3 g4 : List UInt8 → List UInt8) (e3 : g3 [] = []) (e4 : g4 [] = []) (b3 : ∀ z, (g3 z).length ≤ 2 * z.length) (b4 : ∀ z, (g4 z).length ≤ z.length)
    (hcl : ∀ b ∈ denS ρ0 Y, ∃ k, k ∈ cl ∧ k.2.s5 = [] ∧ ∀ ρ z, Agree ρ0 ρ → ρ.s 1 = [b] → ρ.s 3 = g3 z → ρ.s 4 = g4 z → Sat ρ k.1 ∧ denS ρ k.2.s3 = g3 (z ++ [b]) ∧ denS ρ k.2.s4 = g4 (z ++ [b]))
    (f3 : denS ρ0 f.s3 = g3 (denS ρ0 Y)) (f4 : denS ρ0 f.s4 = g4 (denS ρ0 Y)) (f5 : f.s5 = []) :
    CcR ρ0 ⟨Y, oneP ple, cl, sh0, f, vk⟩ (fun ρ => ρ.s 3 = g3 (ρ.s 0) ∧ ρ.s 4 = g4 (ρ.s 0) ∧ ρ.s 5 = []) := by
  refine ⟨fun ρ hag h0 h3 h4 h5 => ⟨by rw [h3, h0, e3]; rfl, by rw [h4, h0, e4]; rfl, by rw [h5]; rfl⟩, fun ρ b r hag hJ hcat ⟨i3, i4, i5⟩ => ?_, fun ρ hag h0 ⟨i3, i4, i5⟩ => ⟨by rw [i3, h0]; exact f3, by rw [i4, h0]; exact f4, by rw [i5]; show denS ρ0 f.s5 = []; rw [f5]; rfl⟩⟩
  have hcat : ρ.s 0 ++ b :: r = denS ρ0 Y := hcat
  have s1 : ρ.s 1 = [b] := hJ.s1
  have s2 : ρ.s 2 = r := hJ.s2
  obtain ⟨k, hk, k5, hkr⟩ := hcl b (by rw [← hcat]; simp)
  obtain ⟨q1, q3, q4⟩ := hkr ρ (ρ.s 0) hag s1 i3 i4
  have hJd := hJ.dn (σ := k.2)
  refine ⟨k, hk, q1, ?_, ⟨?_, ?_, ?_⟩⟩
  · have hlen := congrArg List.length hcat
    rw [List.length_append, List.length_cons] at hlen
    have a0 : ρ.at 1 = ((ρ.s 0).length : Int) := ρ.at_l 0
    have a1 : ρ.at 5 = ((ρ.s 1).length : Int) := ρ.at_l 1
    have a2 : ρ.at 9 = ((ρ.s 2).length : Int) := ρ.at_l 2
    have a3 : ρ.at 13 = ((ρ.s 3).length : Int) := ρ.at_l 3
    have a4 : ρ.at 17 = ((ρ.s 4).length : Int) := ρ.at_l 4
    have a5 : ρ.at 1000 = ρ.v 500 := ρ.at_v 500
    have v0 : ρ.v 500 = 0 := (h.agree hag).v0
    have l3 := b3 (ρ.s 0)
    have l4 := b4 (ρ.s 0)
    rw [← i3] at l3
    rw [← i4] at l4
    have n1 : (ρ.s 1).length = 1 := by rw [s1]; rfl
    have n2 : (ρ.s 2).length = r.length := by rw [s2]
    show Sat ρ (oneP ple)
    refine sat_cons ?_ (sat_cons ?_ (sat_cons ?_ (sat_cons ?_ (sat_cons ?_ (sat_cons ?_ (sat_cons ?_ (sat_cons ?_ (sat_cons ?_ (sat_cons ?_ (sat_cons ?_ (ple_ok (h.agree hag)))))))))))) <;> simp only [Lin.den, dts, a0, a1, a2, a3, a4, a5, v0, n1, n2] <;> omega
  · rw [hJd.2]; exact q3
  · rw [hJd.2]; exact q4
  · show denS ρ k.2.s5 = []
    rw [k5]; rfl
/-- one class; what was gone through is kept -/
theorem ccN_ok (h : RhoU ρ0) {Y : Str} (hY : (denS ρ0 Y).length ≤ 40) {vk : List Nat} {cl : PC} (hcl : ∀ b ∈ denS ρ0 Y, ∀ ρ, Agree ρ0 ρ → ρ.s 1 = [b] → Sat ρ cl) : ∃ I, CcR ρ0 (ccN Y vk cl) I :=
  ⟨_, ccr_ok h hY (fun z => z) (fun _ => []) rfl rfl (fun z => by show z.length ≤ 2 * z.length; omega) (fun z => Nat.zero_le _)
    (fun b hb => ⟨(cl, shT), by simp, rfl, fun ρ z hag h1 h3 h4 => ⟨hcl b hb ρ hag h1, by
      show denS ρ [.a 3, .a 1] = z ++ [b]
      simp only [denS_cons, denS_nil, Pc.den, h3, h1, List.append_nil], by
      show denS ρ [.a 4] = []
      simp only [denS_cons, denS_nil, Pc.den, h4, List.append_nil]⟩⟩) rfl rfl rfl⟩
/-- no byte is $, brace or \ -/
def Plain (l : List UInt8) : Prop := ∀ b ∈ l, b ≠ 36 ∧ b ≠ 125 ∧ b ≠ 92
theorem noBs_ok (h1 : ρ.s 1 = [b]) (hb : b ≠ 36 ∧ b ≠ 125 ∧ b ≠ 92) : Sat ρ noBs :=
  sat_cons (noB_ok h1 hb.1) (sat_cons (noB_ok h1 hb.2.1) (sat_cons (noB_ok h1 hb.2.2) sat_nil))
/-! guard -/
def guardF (l : List UInt8) : List UInt8 := l.flatMap fun b => if b = 36 ∨ b = 125 ∨ b = 92 then [92, b] else [b]
theorem guardF_len (l : List UInt8) : l.length ≤ (guardF l).length ∧ (guardF l).length ≤ 2 * l.length ∧ ((∃ b ∈ l, b = 36 ∨ b = 125 ∨ b = 92) → l.length + 1 ≤ (guardF l).length) := by
  induction l with
  | nil => exact ⟨Nat.le_refl _, Nat.le_refl _, fun ⟨b, hb, _⟩ => by cases hb⟩
  | cons a l ih =>
    obtain ⟨i1, i2, i3⟩ := ih
    have e : guardF (a :: l) = (if a = 36 ∨ a = 125 ∨ a = 92 then [92, a] else [a]) ++ guardF l := by simp [guardF]
    rw [e, List.length_append, List.length_cons]
    split
    · simp only [List.length_cons, List.length_nil]; exact ⟨by omega, by omega, fun _ => by omega⟩
    · rename_i hn
      simp only [List.length_cons, List.length_nil]
      refine ⟨by omega, by omega, fun ⟨b, hb, h⟩ => ?_⟩
      rcases List.mem_cons.1 hb with rfl | hb
      · exact absurd h hn
      · have := i3 ⟨b, hb, h⟩; omega
theorem guardF_app (z : List UInt8) (b : UInt8) : guardF (z ++ [b]) = guardF z ++ (if b = 36 ∨ b = 125 ∨ b = 92 then [92, b] else [b]) := by simp [guardF]
theorem ccS_ok (h : RhoU ρ0) (hY : (ρ0.s 6).length ≤ 40) (h9 : ρ0.s 9 = guardF (ρ0.s 6)) : ∃ I, CcR ρ0 ccS I := by
  have d6 : denS ρ0 [.a 6] = ρ0.s 6 := by simp [denS, Pc.den]
  refine ⟨_, ccr_ok (Y := [.a 6]) h (by rw [d6]; exact hY) guardF (fun _ => []) rfl rfl (fun z => (guardF_len z).2.1) (fun z => Nat.zero_le _) (fun b _ => ?_) (by
    show denS ρ0 [.a 9] = guardF (denS ρ0 [.a 6])
    rw [d6, ← h9]; simp [denS, Pc.den]) rfl rfl⟩
  have spec : ∀ n : Nat, b.toNat = n → (b = 36 ∨ b = 125 ∨ b = 92) → (bvE n, shE) ∈ ccS.cl → ∃ k, k ∈ ccS.cl ∧ k.2.s5 = [] ∧ ∀ ρ z, Agree ρ0 ρ → ρ.s 1 = [b] → ρ.s 3 = guardF z → ρ.s 4 = [] → Sat ρ k.1 ∧ denS ρ k.2.s3 = guardF (z ++ [b]) ∧ denS ρ k.2.s4 = [] := fun n hn hb hm =>
    ⟨_, hm, rfl, fun ρ z hag h1 h3 h4 => ⟨bvE_ok h1 (h.agree hag).v0 hn, by
      rw [guardF_app, if_pos hb]
      show denS ρ [.a 3, .c 92, .a 1] = _
      simp only [denS_cons, denS_nil, Pc.den, h3, h1, List.append_nil]
      rfl, by
      show denS ρ [.a 4] = []
      simp only [denS_cons, denS_nil, Pc.den, h4, List.append_nil]⟩⟩
  by_cases b1 : b = 36
  · exact spec 36 (by rw [b1]; rfl) (.inl b1) (by simp [ccS])
  by_cases b2 : b = 125
  · exact spec 125 (by rw [b2]; rfl) (.inr (.inl b2)) (by simp [ccS])
  by_cases b3 : b = 92
  · exact spec 92 (by rw [b3]; rfl) (.inr (.inr b3)) (by simp [ccS])
  · refine ⟨(noBs, shT), by simp, rfl, fun ρ z hag h1 h3 h4 => ⟨noBs_ok h1 ⟨b1, b2, b3⟩, ?_, ?_⟩⟩
    · rw [guardF_app, if_neg (by simp [b1, b2, b3])]
      show denS ρ [.a 3, .a 1] = _
      simp only [denS_cons, denS_nil, Pc.den, h3, h1, List.append_nil]
    · show denS ρ [.a 4] = []
      simp only [denS_cons, denS_nil, Pc.den, h4, List.append_nil]
/-! options: what stands behind the last comma; as many noughts as there are commas -/
def txtF (l : List UInt8) : List UInt8 := l.foldl (fun t b => if b = 44 then [] else t ++ [b]) []
def zerF (l : List UInt8) : List UInt8 := l.foldl (fun t b => if b = 44 then t ++ [0] else t) []
theorem txtF_len (l : List UInt8) : (txtF l).length ≤ l.length := by
  have : ∀ (l t : List UInt8), (l.foldl (fun t b => if b = 44 then [] else t ++ [b]) t).length ≤ t.length + l.length := fun l => by
    induction l with
    | nil => intro t; simp
    | cons a l ih =>
      intro t
      rw [List.foldl_cons, List.length_cons]
      refine Nat.le_trans (ih _) ?_
      split
      · simp; omega
      · simp; omega
  have h := this l []
  rw [List.length_nil, Nat.zero_add] at h
  exact h
theorem zerF_len (l : List UInt8) : (zerF l).length ≤ l.length := by
  have : ∀ (l t : List UInt8), (l.foldl (fun t b => if b = 44 then t ++ [0] else t) t).length ≤ t.length + l.length := fun l => by
    induction l with
    | nil => intro t; simp
    | cons a l ih =>
      intro t
      rw [List.foldl_cons, List.length_cons]
      refine Nat.le_trans (ih _) ?_
      split
      · simp; omega
      · omega
  have h := this l []
  rw [List.length_nil, Nat.zero_add] at h
  exact h
theorem txtF_app (z : List UInt8) (b : UInt8) : txtF (z ++ [b]) = if b = 44 then [] else txtF z ++ [b] := by simp [txtF, List.foldl_append]
theorem zerF_app (z : List UInt8) (b : UInt8) : zerF (z ++ [b]) = if b = 44 then zerF z ++ [0] else zerF z := by simp [zerF, List.foldl_append]
theorem ccQ_ok (h : RhoU ρ0) (hY : (ρ0.s 6).length ≤ 40) (hp : Plain (ρ0.s 6)) (hb : (124 : UInt8) ∉ ρ0.s 6) (h9 : ρ0.s 9 = txtF (ρ0.s 6)) (h10 : ρ0.s 10 = zerF (ρ0.s 6)) : ∃ I, CcR ρ0 ccQ I := by
  have d6 : denS ρ0 [.a 6] = ρ0.s 6 := by simp [denS, Pc.den]
  refine ⟨_, ccr_ok (Y := [.a 6]) h (by rw [d6]; exact hY) txtF zerF rfl rfl (fun z => by have := txtF_len z; omega) zerF_len (fun b hm => ?_) (by
    show denS ρ0 [.a 9] = txtF (denS ρ0 [.a 6])
    rw [d6, ← h9]; simp [denS, Pc.den]) (by
    show denS ρ0 [.a 10] = zerF (denS ρ0 [.a 6])
    rw [d6, ← h10]; simp [denS, Pc.den]) rfl⟩
  rw [d6] at hm
  obtain ⟨n1, n2, n3⟩ := hp b hm
  have n4 : b ≠ 124 := fun e => hb (e ▸ hm)
  by_cases hc : b = 44
  · refine ⟨(_, shC), List.mem_cons_self, rfl, fun ρ z hag h1 h3 h4 => ⟨sat_cons (noB_ok h1 n1) (sat_cons (noB_ok h1 n2) (sat_cons (noB_ok h1 n3) (sat_cons (noB_ok h1 n4) (sat_cons (isB_ok (by rw [h1, hc]; rfl)) sat_nil)))), ?_, ?_⟩⟩
    · rw [txtF_app, if_pos hc]; rfl
    · rw [zerF_app, if_pos hc]
      show denS ρ [.a 4, .c 0] = _
      simp only [denS_cons, denS_nil, Pc.den, h4, List.append_nil]
      rfl
  · refine ⟨(_, shT), List.mem_cons_of_mem _ List.mem_cons_self, rfl, fun ρ z hag h1 h3 h4 => ⟨sat_cons (noB_ok h1 n1) (sat_cons (noB_ok h1 n2) (sat_cons (noB_ok h1 n3) (sat_cons (noB_ok h1 n4) (sat_cons (noB_ok h1 hc) sat_nil)))), ?_, ?_⟩⟩
    · rw [txtF_app, if_neg hc]
      show denS ρ [.a 3, .a 1] = _
      simp only [denS_cons, denS_nil, Pc.den, h3, h1, List.append_nil]
    · rw [zerF_app, if_neg hc]
      show denS ρ [.a 4] = _
      simp only [denS_cons, denS_nil, Pc.den, h4, List.append_nil]
end
end X
end Go.Proofs.YtbhdplicjiejnaaGreatDoor
