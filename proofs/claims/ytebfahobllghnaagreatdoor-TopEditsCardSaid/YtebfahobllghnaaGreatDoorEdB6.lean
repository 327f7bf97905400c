/-
  TopEdits: RpO, RpQ, TurnP, BaseS, TurnX, TurnW.
-/
import Derived.Test.YtebfahobllghnaaGreatDoorEdB5
import Derived.Test.YtebfahobllghnaaGreatDoorEdA0
import Derived.Test.YtebfahobllghnaaGreatDoorEdA1
import Derived.Test.YtebfahobllghnaaGreatDoorChecked
set_option linter.unusedSimpArgs false
set_option linter.unusedVariables false
namespace Go.Proofs.YtebfahobllghnaaGreatDoor
namespace X
open Go.RowKit B
set_option maxRecDepth 1000000
def iff' (a : Bool) (l : List UInt8) : List UInt8 := match a with
  | true => l
  | false => []
structure Dec (a b : Bool) (X x Y Q A QA p : List UInt8) (c : UInt8) (u v QC p2 : List UInt8) (c2 : UInt8) (B QB : List UInt8) : Prop where
  hX : X = iff' a (A ++ p) ++ u
  hY : Y = v ++ iff' b (p2 ++ B)
  hQ : Q = iff' a (QA ++ [c]) ++ (QC ++ iff' b (c2 :: QB))
  lA : A.length = sumQ QA
  lp : p.length = c.toNat
  l2 : p2.length = c2.toNat
  lB : B.length = sumQ QB
  lC : u.length + x.length + v.length = sumQ QC
  k1 : 1 ≤ c.toNat ∧ c.toNat ≤ 64
  k2 : 1 ≤ c2.toNat ∧ c2.toNat ≤ 64
  qA : PcOk QA
  qB : PcOk QB
  qC : PcOk QC
  kE : endsK Q (X.length : Int) = (iff' a (QA ++ [c])).length
  kB : begK (QC ++ iff' b (c2 :: QB)) (u.length + x.length : Int) = QC.length
theorem dec_ex {X x Y Q : List UInt8} (hQ : PcOk Q) (hs : sumQ Q = (X ++ x ++ Y).length) : ∃ a b A QA p c u v QC p2 c2 B QB, Dec a b X x Y Q A QA p c u v QC p2 c2 B QB := by
  have hs' : (X ++ (x ++ Y)).length = sumQ Q := by rw [hs]; simp
  obtain ⟨l1, q1, l2, q2, hc⟩ := cut_ex hs' (endsK_le (Q := Q) (a := X.length))
  have hk := endsK_sum Q X.length (by omega)
  have hq1 : q1 = Q.take (endsK Q X.length) := by rw [← hc.k, hc.q, List.take_left']; rfl
  rw [← hq1, ← hc.s] at hk
  obtain ⟨u, hu1, hu2⟩ := split_of hc.l (by omega)
  have hs2 : l2.length = sumQ q2 := by
    have e1 : (l1 ++ l2).length = sumQ Q := by rw [← hc.l]; exact hs'
    have e2 : sumQ Q = sumQ q1 + sumQ q2 := by rw [hc.q, sumQ_app]
    rw [List.length_append] at e1
    have := hc.s
    omega
  obtain ⟨lc, qc, lb, qb, hd⟩ := cut_ex hs2 (begK_le (Q := q2) (a := u.length + x.length))
  have hj : ((u.length + x.length : Nat) : Int) ≤ (sumQ q2 : Int) := by
    rw [← hs2, hu2]
    simp only [List.length_append]
    omega
  have hk2 := begK_sum q2 (u.length + x.length) (by omega)
  have hqc : qc = q2.take (begK q2 (u.length + x.length)) := by rw [← hd.k, hd.q, List.take_left']; rfl
  rw [← hqc, ← hd.s] at hk2
  obtain ⟨v, hv1, hv2⟩ := split_of (X := lc) (Z := lb) (l1 := u ++ x) (l2 := Y) (by rw [← hd.l, hu2]; simp) (by rw [List.length_append]; omega)
  have pq1 : PcOk q1 := PcOk.left (hc.q ▸ hQ)
  have pq2 : PcOk q2 := PcOk.right (hc.q ▸ hQ)
  have pqc : PcOk qc := PcOk.left (hd.q ▸ pq2)
  have pqb : PcOk qb := PcOk.right (hd.q ▸ pq2)
  have hlb : lb.length = sumQ qb := by
    have e1 := congrArg List.length hd.l
    have e2 : sumQ q2 = sumQ qc + sumQ qb := by rw [hd.q, sumQ_app]
    rw [List.length_append] at e1
    have := hd.s
    omega
  have hlc : u.length + x.length + v.length = sumQ qc := by
    rw [← hd.s, hv1]
    simp only [List.length_append]
  obtain ⟨a, A, QA, p, c, e1, e2, f1, f2, f3, f4⟩ : ∃ a A QA p c, l1 = iff' a (A ++ p) ∧ q1 = iff' a (QA ++ [c]) ∧ A.length = sumQ QA ∧ p.length = c.toNat ∧ (1 ≤ c.toNat ∧ c.toNat ≤ 64) ∧ PcOk QA := by
    rcases List.eq_nil_or_concat q1 with rfl | ⟨QA, c, rfl⟩
    · exact ⟨false, [], [], [0], 1, List.eq_nil_of_length_eq_zero hc.s, rfl, rfl, rfl, by decide, fun c hc => by cases hc⟩
    · rw [List.concat_eq_append] at *
      have hc1 := pq1 c (by simp)
      have es : l1.length = sumQ QA + c.toNat := by rw [hc.s, sumQ_app]; simp [sumQ]
      exact ⟨true, l1.take (sumQ QA), QA, l1.drop (sumQ QA), c, (List.take_append_drop _ _).symm, rfl, by rw [List.length_take]; omega, by rw [List.length_drop]; omega, hc1, PcOk.left pq1⟩
  obtain ⟨b, p2, c2, B, QB, g1, g2, g3, g4, g5, g6⟩ : ∃ b p2 c2 B QB, lb = iff' b (p2 ++ B) ∧ qb = iff' b (c2 :: QB) ∧ p2.length = c2.toNat ∧ B.length = sumQ QB ∧ (1 ≤ c2.toNat ∧ c2.toNat ≤ 64) ∧ PcOk QB := by
    cases qb with
    | nil => exact ⟨false, [0], 1, [], [], List.eq_nil_of_length_eq_zero hlb, rfl, rfl, rfl, by decide, fun c hc => by cases hc⟩
    | cons c2 QB =>
      have hc2 := pqb c2 (by simp)
      rw [sumQ] at hlb
      exact ⟨true, lb.take c2.toNat, c2, lb.drop c2.toNat, QB, (List.take_append_drop _ _).symm, rfl, by rw [List.length_take]; omega, by rw [List.length_drop]; omega, hc2, fun d hd => pqb d (by simp [hd])⟩
  have hQ' : Q = iff' a (QA ++ [c]) ++ (qc ++ iff' b (c2 :: QB)) := by rw [hc.q, hd.q, e2, g2]
  exact ⟨a, b, A, QA, p, c, u, v, qc, p2, c2, B, QB, by rw [hu1, e1], by rw [hv2, g1], hQ', f1, f2, g3, g4, hlc, f3, g5, f4, g6, pqc, by rw [← e2]; exact hc.k.symm, by rw [← g2, ← hd.q]; exact hd.k.symm⟩
section
variable {ρ : Rho} {a b : Bool} {X x Y Q A QA p u v QC p2 B QB s : List UInt8} {c c2 : UInt8}
structure RpS (ρ : Rho) (A QA p : List UInt8) (c : UInt8) (u x v QC p2 : List UInt8) (c2 : UInt8) (B QB s : List UInt8) : Prop where
  tal : TalA ρ
  s20 : ρ.s 20 = A
  s21 : ρ.s 21 = QA
  s22 : ρ.s 22 = p
  s23 : ρ.s 23 = [c]
  s24 : ρ.s 24 = u
  s25 : ρ.s 25 = x
  s26 : ρ.s 26 = v
  s27 : ρ.s 27 = QC
  s28 : ρ.s 28 = p2
  s29 : ρ.s 29 = [c2]
  s30 : ρ.s 30 = B
  s31 : ρ.s 31 = QB
  s32 : ρ.s 32 = s
  c44 : 1 ≤ (p ++ (u ++ s ++ v) ++ p2).length → ChunkOk (p ++ (u ++ s ++ v) ++ p2).length (ρ.s 44)
  c45 : 1 ≤ ((u ++ s ++ v) ++ p2).length → ChunkOk ((u ++ s ++ v) ++ p2).length (ρ.s 45)
  c46 : 1 ≤ (p ++ (u ++ s ++ v)).length → ChunkOk (p ++ (u ++ s ++ v)).length (ρ.s 46)
  c47 : 1 ≤ (u ++ s ++ v).length → ChunkOk (u ++ s ++ v).length (ρ.s 47)
theorem RpS.dX (S : RpS ρ A QA p c u x v QC p2 c2 B QB s) : denS ρ (pX a) = iff' a (A ++ p) := by
  cases a
  · rfl
  · simp only [pX, den1, denN, S.s20, S.s22, List.append_nil]; rfl
theorem RpS.dQX (S : RpS ρ A QA p c u x v QC p2 c2 B QB s) : denS ρ (pQX a) = iff' a (QA ++ [c]) := by
  cases a
  · rfl
  · simp only [pQX, den1, denN, S.s21, S.s23, List.append_nil]; rfl
theorem RpS.dY (S : RpS ρ A QA p c u x v QC p2 c2 B QB s) : denS ρ (pY b) = iff' b (p2 ++ B) := by
  cases b
  · rfl
  · simp only [pY, den1, denN, S.s28, S.s30, List.append_nil]; rfl
theorem RpS.dQY (S : RpS ρ A QA p c u x v QC p2 c2 B QB s) : denS ρ (pQY b) = iff' b (c2 :: QB) := by
  cases b
  · rfl
  · simp only [pQY, den1, denN, S.s29, S.s31, List.append_nil]; rfl
theorem RpS.dM (S : RpS ρ A QA p c u x v QC p2 c2 B QB s) : denS ρ M0 = u ++ s ++ v := by
  simp only [M0, den1, denN, S.s24, S.s32, S.s26, List.append_nil, List.append_assoc]
theorem RpS.of (S : RpS ρ A QA p c u x v QC p2 c2 B QB s) (D : Dec a b X x Y Q A QA p c u v QC p2 c2 B QB) : RpD a b ρ := by
  have dR : denS ρ (.a 24 :: .a 25 :: .a 26 :: pY b) = u ++ (x ++ (v ++ iff' b (p2 ++ B))) := by
    simp only [den1, S.s24, S.s25, S.s26, S.dY]
  have dQR : denS ρ (.a 27 :: pQY b) = QC ++ iff' b (c2 :: QB) := by
    simp only [den1, S.s27, S.dQY]
  have dL : denS ρ (rL a b) = iff' a (A ++ p) ++ (u ++ (x ++ (v ++ iff' b (p2 ++ B)))) := by
    rw [rL, appL_app, denS_app, S.dX, dR]
  have dQ : denS ρ (rQ a b) = Q := by
    rw [rQ, appL_app, denS_app, S.dQX, dQR, ← D.hQ]
  have lX : (iff' a (A ++ p)).length = sumQ (iff' a (QA ++ [c])) := by
    cases a
    · rfl
    · show (A ++ p).length = sumQ (QA ++ [c])
      rw [List.length_append, sumQ_app, D.lA, D.lp]; simp [sumQ]
  have d3 : denS ρ [.a 20, .a 22] = A ++ p := by simp only [den1, denN, S.s20, S.s22, List.append_nil]
  have d3q : denS ρ [.a 21, .a 23] = QA ++ [c] := by simp only [den1, denN, S.s21, S.s23, List.append_nil]
  have d4 : denS ρ [.a 28, .a 30] = p2 ++ B := by simp only [den1, denN, S.s28, S.s30, List.append_nil]
  have d4q : denS ρ [.a 29, .a 31] = c2 :: QB := by simp only [den1, denN, S.s29, S.s31, List.append_nil]; rfl
  have d44 : denS ρ (.a 22 :: appL M0 [.a 28]) = p ++ (u ++ s ++ v) ++ p2 := by rw [den1, appL_app, denS_app, S.dM, denA, S.s22, S.s28]; simp
  have d45 : denS ρ (appL M0 [.a 28]) = (u ++ s ++ v) ++ p2 := by rw [appL_app, denS_app, S.dM, denA, S.s28]
  have d46 : denS ρ (.a 22 :: M0) = p ++ (u ++ s ++ v) := by rw [den1, S.dM, S.s22]
  refine ⟨S.tal, ?_, ?_, ?_, ?_, ⟨c, S.s23⟩, ⟨c2, S.s29⟩, ?_, ?_, ?_, ?_, ?_, ?_⟩
  · rw [dL, dQ, S.dX, S.dQX, dR, dQR]
    refine ⟨rfl, D.hQ, lX, ?_⟩
    rw [lenS_den, appL_app, denS_app, S.dX, denA, S.s24, ← D.hX, D.kE]
  · rw [dR, dQR, S.dY, S.dQY, S.s27]
    have e : denS ρ [.a 24, .a 25, .a 26] = u ++ (x ++ v) := by simp only [den1, denN, S.s24, S.s25, S.s26, List.append_nil]
    rw [e]
    refine ⟨by simp, rfl, by simp only [List.length_append]; rw [← D.lC]; omega, ?_⟩
    have e2 : (lenS [.a 24, .a 25]).den ρ = (u.length + x.length : Int) := by
      rw [lenS_den]
      simp only [den1, denN, S.s24, S.s25, List.append_nil, List.length_append]
      omega
    rw [e2, D.kB]
  · rw [d3, d3q, S.s20, S.s21, S.s22, S.s23]
    refine ⟨rfl, rfl, D.lA, ?_⟩
    rw [lenA, S.s20, D.lA, endsK_last D.k1.1]
  · rw [d4, d4q, S.s28, S.s29, S.s30, S.s31]
    refine ⟨rfl, rfl, by rw [D.l2]; simp [sumQ], ?_⟩
    rw [begK_first D.k2.1]; rfl
  · rw [d3q, S.s22, D.lp, lstQ_app]; rfl
  · rw [d4q, S.s28, D.l2]; rfl
  · rw [d44]; exact S.c44
  · rw [d45]; exact S.c45
  · rw [d46]; exact S.c46
  · rw [S.dM]; exact S.c47
end
end X
end Go.Proofs.YtebfahobllghnaaGreatDoor
namespace Go.Proofs.YtebfahobllghnaaGreatDoor
namespace X
open Go.RowKit B
set_option maxRecDepth 1000000
def kRq : Known := ⟨[.p 0 0, .x .i64 (lenS [.a 50]), .x .i64 (lenS [.a 50, .a 51]), .s [.a 53]], [(0, .ce 169 [.p 1 0, tv 2 [.a 50, .a 51, .a 52]] true), (1, hD), (2, hT 241 [.a 50, .a 51, .a 52] [.a 54])], 3, [], .tu [], [(0, .ce 169 [.p 1 0, tv 50 [.a 50, .a 53, .a 52]] true), (1, hD), (50, hT 241 [.a 50, .a 53, .a 52] [.a 55])], 51, []⟩
def mkR (A QA p : List UInt8) (c : UInt8) (u x v QC p2 : List UInt8) (c2 : UInt8) (B QB s Q' q4 q5 q6 q7 : List UInt8) (h : Int) : Rho := rhoU ⟨fun _ => 0, fun _ => []⟩ [(20, A), (21, QA), (22, p), (23, [c]), (24, u), (25, x), (26, v), (27, QC), (28, p2), (29, [c2]), (30, B), (31, QB), (32, s), (33, Q'), (44, q4), (45, q5), (46, q6), (47, q7)] [(4993, h)]
theorem EqB.ce {ρ ρ' : Rho} {ty : Nat} {cs cs' : List SV} {ex : Bool} (h : ∀ θ, dens ρ θ cs = dens ρ' θ cs') : EqB ρ ρ' (.ce ty cs ex) (.ce ty cs' ex) := ⟨rfl, fun θ w t => by simp only [HoldsB, h]⟩
theorem chunk_ex' (n : Nat) : ∃ l, 1 ≤ n → ChunkOk n l := by
  by_cases h : 1 ≤ n
  · obtain ⟨l, hl⟩ := chunk_ex n n (Nat.le_refl _) h
    exact ⟨l, fun _ => hl⟩
  · exact ⟨[], fun q => absurd q h⟩
section
variable {ρ ρ1 : Rho} {a b : Bool} {X x Y Q A QA p u v QC p2 B QB s : List UInt8} {c c2 : UInt8}
theorem rp_leaf (D : Dec a b X x Y Q A QA p c u v QC p2 c2 B QB) (S : RpS ρ1 A QA p c u x v QC p2 c2 B QB s) (hl : X.length + x.length + Y.length + s.length ≤ 1000) {pc : PC} {q l : Str} (run : runR a b pc q l = true) (h33 : ρ1.s 33 = denS ρ1 q) (hl' : denS ρ1 (rL' a b) = denS ρ1 l) (hp : Sat ρ1 pc)
    (h50 : ρ.s 50 = X) (h51 : ρ.s 51 = x) (h52 : ρ.s 52 = Y) (h53 : ρ.s 53 = s) (h54 : ρ.s 54 = Q) (h55 : ρ.s 55 = ρ1.s 33) : KnownOk Tryz.prog 176 kRq ρ := by
  have dX : denS ρ1 (appL (pX a) [.a 24]) = X := by rw [appL_app, denS_app, S.dX, denA, S.s24, ← D.hX]
  have dXx : denS ρ1 (appL (pX a) [.a 24, .a 25]) = X ++ x := by
    rw [appL_app, denS_app, S.dX, den1, denA, S.s24, S.s25, ← List.append_assoc, ← D.hX]
  have dL : denS ρ1 (rL a b) = X ++ (x ++ Y) := by
    rw [rL, appL_app, denS_app, S.dX, den1, den1, den1, S.s24, S.s25, S.s26, S.dY, ← D.hY, ← List.append_assoc, ← D.hX]
  have dL' : denS ρ1 (rL' a b) = X ++ (s ++ Y) := by
    rw [rL', appL_app, denS_app, S.dX, den1, den1, den1, S.s24, S.s32, S.s26, S.dY, ← D.hY, ← List.append_assoc, ← D.hX]
  have dQ : denS ρ1 (rQ a b) = Q := by rw [rQ, appL_app, denS_app, S.dQX, den1, S.s27, S.dQY, ← D.hQ]
  have e0 : denS ρ [.a 50, .a 51, .a 52] = X ++ (x ++ Y) := by simp only [den1, denN, h50, h51, h52, List.append_nil]
  have e1 : denS ρ [.a 50, .a 53, .a 52] = X ++ (s ++ Y) := by simp only [den1, denN, h50, h53, h52, List.append_nil]
  have base : Sat ρ1 (pcB0 a b) := by
    refine sat_cons ?_ (sat_app ?_ ?_)
    · rw [sub_den, const_den, lenS_den, den1, dL, S.s32]
      simp only [List.length_append]; omega
    · cases a
      · exact sat_nil
      · have := D.lp; have := D.k1
        exact sat_cons (by rw [le1, sub_den, const_den, lenA, S.s22]; omega) (sat_cons (by rw [ge64, sub_den, const_den, lenA, S.s22]; omega) sat_nil)
    · cases b
      · exact sat_nil
      · have := D.l2; have := D.k2
        exact sat_cons (by rw [le1, sub_den, const_den, lenA, S.s28]; omega) (sat_cons (by rw [ge64, sub_den, const_den, lenA, S.s28]; omega) sat_nil)
  refine KnownOk.ret (rp_case (S.of D) run h33 hl' (sat_app base hp)) sat_nil (fun θ => ?_) ⟨rfl, EqB.ce fun θ => ?_, rfl, EqB.hb rfl rfl, rfl, EqB.hb ?_ ?_, trivial⟩ (fun θ => rfl) ⟨rfl, EqB.ce fun θ => ?_, rfl, EqB.hb rfl rfl, rfl, EqB.hb ?_ ?_, trivial⟩ rfl rfl sat_nil rfl rfl rfl rfl
  · show dens ρ θ [.p 0 0, .x .i64 (lenS [.a 50]), .x .i64 (lenS [.a 50, .a 51]), .s [.a 53]] = dens ρ1 θ [.p 0 0, .x .i64 (lenS (appL (pX a) [.a 24])), .x .i64 (lenS (appL (pX a) [.a 24, .a 25])), .s [.a 32]]
    have e2 : denS ρ [.a 50, .a 51] = X ++ x := by simp only [den1, denN, h50, h51, List.append_nil]
    simp only [dens, den, lenS_den, dX, dXx, e2, denA, h50, h53, S.s32]
  · simp only [dens, den, tv, lenS_den, e0, dL]
  · rw [e0, dL]
  · rw [denA, h54, dQ]
  · simp only [dens, den, tv, lenS_den, e1, dL']
  · rw [e1, dL']
  · rw [denA, denA, h55]
theorem replace_ex {X x Y s Q : List UInt8} (hQ : PcOk Q) (hs : sumQ Q = (X ++ x ++ Y).length) (hl : X.length + x.length + Y.length + s.length ≤ 1000) : ∃ Q', PcOk Q' ∧ sumQ Q' = (X ++ s ++ Y).length ∧ ∀ ρ : Rho, ρ.s 50 = X → ρ.s 51 = x → ρ.s 52 = Y → ρ.s 53 = s → ρ.s 54 = Q → ρ.s 55 = Q' → KnownOk Tryz.prog 176 kRq ρ := by
  obtain ⟨a, b, A, QA, p, c, u, v, QC, p2, c2, B, QB, D⟩ := dec_ex hQ hs
  obtain ⟨q4, h4⟩ := chunk_ex' (p ++ (u ++ s ++ v) ++ p2).length
  obtain ⟨q5, h5⟩ := chunk_ex' ((u ++ s ++ v) ++ p2).length
  obtain ⟨q6, h6⟩ := chunk_ex' (p ++ (u ++ s ++ v)).length
  obtain ⟨q7, h7⟩ := chunk_ex' (u ++ s ++ v).length
  obtain ⟨h, hh⟩ : ∃ h : Int, h = ((u ++ s ++ v).length - 1 : Int) / 64 := ⟨_, rfl⟩
  have S : ∀ Q', RpS (mkR A QA p c u x v QC p2 c2 B QB s Q' q4 q5 q6 q7 h) A QA p c u x v QC p2 c2 B QB s := fun Q' => ⟨rhoU_tal, rfl, rfl, rfl, rfl, rfl, rfl, rfl, rfl, rfl, rfl, rfl, rfl, rfl, h4, h5, h6, h7⟩
  have leaf : ∀ (Q' : List UInt8) {pc : PC} {q l : Str}, runR a b pc q l = true → Q' = denS (mkR A QA p c u x v QC p2 c2 B QB s Q' q4 q5 q6 q7 h) q → denS (mkR A QA p c u x v QC p2 c2 B QB s Q' q4 q5 q6 q7 h) (rL' a b) = denS (mkR A QA p c u x v QC p2 c2 B QB s Q' q4 q5 q6 q7 h) l → Sat (mkR A QA p c u x v QC p2 c2 B QB s Q' q4 q5 q6 q7 h) pc → PcOk Q' → sumQ Q' = (X ++ s ++ Y).length →
      ∃ Q', PcOk Q' ∧ sumQ Q' = (X ++ s ++ Y).length ∧ ∀ ρ : Rho, ρ.s 50 = X → ρ.s 51 = x → ρ.s 52 = Y → ρ.s 53 = s → ρ.s 54 = Q → ρ.s 55 = Q' → KnownOk Tryz.prog 176 kRq ρ := fun Q' {pc q l} run e1 e2 hp g1 g2 => ⟨Q', g1, g2, fun ρ h50 h51 h52 h53 h54 h55 => rp_leaf D (S Q') hl run e1 e2 hp h50 h51 h52 h53 h54 h55⟩
  have lX : X.length = (iff' a (A ++ p)).length + u.length := by rw [D.hX, List.length_append]
  have lY : Y.length = v.length + (iff' b (p2 ++ B)).length := by rw [D.hY, List.length_append]
  have lA := D.lA
  have lp := D.lp
  have l2 := D.l2
  have lB := D.lB
  have k1 := D.k1
  have k2 := D.k2
  have qA := D.qA
  have qB := D.qB
  have s1 : PcOk [c] := fun d hd => by rw [List.mem_singleton.1 hd]; exact k1
  have s2 : PcOk (c2 :: QB) := fun d hd => (List.mem_cons.1 hd).elim (fun e => by rw [e]; exact k2) (qB d)
  have lM : (u ++ s ++ v).length = u.length + s.length + v.length := by simp only [List.length_append]
  have lM4 : (p ++ (u ++ s ++ v) ++ p2).length = p.length + (u.length + s.length + v.length) + p2.length := by simp only [List.length_append]
  have lM5 : ((u ++ s ++ v) ++ p2).length = (u.length + s.length + v.length) + p2.length := by simp only [List.length_append]
  have lM6 : (p ++ (u ++ s ++ v)).length = p.length + (u.length + s.length + v.length) := by simp only [List.length_append]
  have lXsY : (X ++ s ++ Y).length = X.length + s.length + Y.length := by simp only [List.length_append]
  have dM : ∀ Q', denS (mkR A QA p c u x v QC p2 c2 B QB s Q' q4 q5 q6 q7 h) M0 = u ++ s ++ v := fun Q' => (S Q').dM
  have d44 : ∀ Q', denS (mkR A QA p c u x v QC p2 c2 B QB s Q' q4 q5 q6 q7 h) (.a 22 :: appL M0 [.a 28]) = p ++ (u ++ s ++ v) ++ p2 := fun Q' => by rw [den1, appL_app, denS_app, dM, denA, (S Q').s22, (S Q').s28]; simp
  have d46 : ∀ Q', denS (mkR A QA p c u x v QC p2 c2 B QB s Q' q4 q5 q6 q7 h) (.a 22 :: M0) = p ++ (u ++ s ++ v) := fun Q' => by rw [den1, dM, (S Q').s22]
  have hv : ∀ Q', (mkR A QA p c u x v QC p2 c2 B QB s Q' q4 q5 q6 q7 h).at 9986 = h := fun Q' => (Rho.at_v _ 4993).trans rfl
  have satN : ∀ Q', 1 ≤ x.length + s.length → Sat (mkR A QA p c u x v QC p2 c2 B QB s Q' q4 q5 q6 q7 h) nzP := fun Q' q => sat_cons (by
    rw [le1, sub_den, const_den, lenS_den, den1, denA, (S Q').s25, (S Q').s32, List.length_append]; omega) sat_nil
  have satZ : ∀ Q', u = [] → s = [] → v = [] → Sat (mkR A QA p c u x v QC p2 c2 B QB s Q' q4 q5 q6 q7 h) z0P := fun Q' e1 e2 e3 => by
    refine sat_app (sat_cons ?_ sat_nil) (sat_app (sat_cons ?_ sat_nil) (sat_cons ?_ sat_nil))
    · rw [sub_den, const_den, lenA, (S Q').s24, e1]; simp
    · rw [sub_den, const_den, lenA, (S Q').s32, e2]; simp
    · rw [sub_den, const_den, lenA, (S Q').s26, e3]; simp
  have satM : ∀ Q', 1 ≤ (u ++ s ++ v).length → 0 ≤ (le1 M0).den (mkR A QA p c u x v QC p2 c2 B QB s Q' q4 q5 q6 q7 h) := fun Q' q => by
    rw [le1, sub_den, const_den, lenS_den, dM]; omega
  have vAbsA : ∀ Q', absA.den (mkR A QA p c u x v QC p2 c2 B QB s Q' q4 q5 q6 q7 h) = 64 - ((p.length + (u.length + s.length + v.length) : Nat) : Int) := fun Q' => by rw [absA, sub_den, const_den, lenS_den, d46, lM6]
  have vAbsAB : ∀ Q', absAB.den (mkR A QA p c u x v QC p2 c2 B QB s Q' q4 q5 q6 q7 h) = 64 - ((p.length + (u.length + s.length + v.length) + p2.length : Nat) : Int) := fun Q' => by rw [absAB, sub_den, const_den, lenS_den, d44, lM4]
  have vB64 : ∀ Q', both64.den (mkR A QA p c u x v QC p2 c2 B QB s Q' q4 q5 q6 q7 h) = 64 - ((p.length + p2.length : Nat) : Int) := fun Q' => by rw [both64, sub_den, const_den, lenS_den, den1, denA, (S Q').s22, (S Q').s28, List.length_append]
  have vH : ∀ Q', (hintE M0 9986).den (mkR A QA p c u x v QC p2 c2 B QB s Q' q4 q5 q6 q7 h) = ((u.length + s.length + v.length : Nat) : Int) - 1 - 64 * h := fun Q' => by
    rw [hintE, sub_den, sub_den, const_den, lenS_den, dM, lM]
    simp only [Lin.den, dts, hv]; omega
  have satH : ∀ Q', Sat (mkR A QA p c u x v QC p2 c2 B QB s Q' q4 q5 q6 q7 h) (hintP M0 9986) := fun Q' => by
    rw [lM] at hh
    refine sat_cons ?_ (sat_cons ?_ sat_nil)
    · rw [vH]; omega
    · rw [sub_den, const_den, vH]; omega
  have vAbsB : ∀ Q', (absB M0 9986).den (mkR A QA p c u x v QC p2 c2 B QB s Q' q4 q5 q6 q7 h) = 63 - (((u.length + s.length + v.length : Nat) : Int) - 1 - 64 * h + p2.length) := fun Q' => by
    rw [absB, sub_den, add_den, const_den, vH, lenA, (S Q').s28]
  have hRL : ∀ Q', denS (mkR A QA p c u x v QC p2 c2 B QB s Q' q4 q5 q6 q7 h) (rL' a b) = iff' a (A ++ p) ++ (u ++ (s ++ (v ++ iff' b (p2 ++ B)))) := fun Q' => by
    rw [rL', appL_app, denS_app, (S Q').dX, den1, den1, den1, (S Q').s24, (S Q').s32, (S Q').s26, (S Q').dY]
  by_cases h0 : x = [] ∧ s = []
  · obtain ⟨hx, hs0⟩ := h0
    subst hx; subst hs0
    have run : runR a b (eq0 [.a 25] ++ eq0 [.a 32]) (rQ a b) (rL a b) = true := by
      cases a <;> cases b
      · exact r0_00
      · exact r0_01
      · exact r0_10
      · exact r0_11
    refine leaf Q run ?_ ?_ (sat_app (sat_cons ?_ sat_nil) (sat_cons ?_ sat_nil)) hQ (by rw [hs])
    · rw [rQ, appL_app, denS_app, (S Q).dQX, den1, (S Q).s27, (S Q).dQY, ← D.hQ]
    · simp only [rL, rL', appL_app, denS_app, den1, (S Q).s25, (S Q).s32]
    · rw [sub_den, const_den, lenA, (S Q).s25]; simp
    · rw [sub_den, const_den, lenA, (S Q).s32]; simp
  have nz : 1 ≤ x.length + s.length := by
    rcases Nat.eq_zero_or_pos (x.length + s.length) with q | q
    · exact absurd ⟨List.eq_nil_of_length_eq_zero (by omega), List.eq_nil_of_length_eq_zero (by omega)⟩ h0
    · exact q
  by_cases hM : u.length + s.length + v.length = 0
  · have e1 : u = [] := List.eq_nil_of_length_eq_zero (by omega)
    have e2 : s = [] := List.eq_nil_of_length_eq_zero (by omega)
    have e3 : v = [] := List.eq_nil_of_length_eq_zero (by omega)
    cases a with
    | false => cases b with
      | false =>
        refine leaf [] r1_00 rfl (by rw [hRL, denN]; simp [e1, e2, e3, iff']) (sat_app (satN _ nz) (satZ _ e1 e2 e3)) (fun d hd => by cases hd) ?_
        rw [lXsY, lX, lY]; simp only [iff', List.length_nil, sumQ]; omega
      | true =>
        refine leaf (c2 :: QB) r1_01 ((S _).dQY (b := true)).symm (by rw [hRL, (S _).dY (b := true)]; simp [e1, e2, e3, iff']) (sat_app (satN _ nz) (satZ _ e1 e2 e3)) s2 ?_
        rw [lXsY, lX, lY]; simp only [iff', List.length_nil, List.length_append, sumQ]; omega
    | true => cases b with
      | false =>
        refine leaf (QA ++ [c]) r1_10 ((S _).dQX (a := true)).symm (by rw [hRL, (S _).dX (a := true)]; simp [e1, e2, e3, iff']) (sat_app (satN _ nz) (satZ _ e1 e2 e3)) (qA.app s1) ?_
        rw [lXsY, lX, lY, sumQ_app]; simp only [iff', List.length_nil, List.length_append, sumQ]; omega
      | true =>
        by_cases h64 : p.length + p2.length ≤ 64
        · have hc := h4 (by omega)
          have hk := chunk_sum hc
          refine leaf (QA ++ (q4 ++ QB)) r2_a ?_ rfl (sat_app (satN _ nz) (sat_app (satZ _ e1 e2 e3) (sat_cons (by rw [vB64]; omega) sat_nil))) (qA.app (hk.2.app qB)) ?_
          · show _ = QA ++ (q4 ++ (QB ++ [])); rw [List.append_nil]
          · rw [lXsY, lX, lY, sumQ_app, sumQ_app, hk.1, lM4]; simp only [iff', List.length_append]; omega
        · refine leaf ((QA ++ [c]) ++ (c2 :: QB)) r1_11 ?_ ?_ (sat_app (satN _ nz) (sat_app (satZ _ e1 e2 e3) (sat_cons (by rw [not_den, vB64]; omega) sat_nil))) ((qA.app s1).app s2) ?_
          · rw [appL_app, denS_app, (S _).dQX, (S _).dQY]; rfl
          · rw [hRL, appL_app, denS_app, (S _).dX (a := true), (S _).dY (b := true)]; simp [e1, e2, e3, iff']
          · rw [lXsY, lX, lY, sumQ_app, sumQ_app]; simp only [iff', List.length_append, sumQ]; omega
  · have h7' := h7 (by omega)
    have k7 := chunk_sum h7'
    cases a with
    | false => cases b with
      | false =>
        refine leaf q7 r5 (by show _ = q7 ++ []; rw [List.append_nil]) rfl (sat_app (satN _ nz) (sat_cons (satM _ (by omega)) sat_nil)) k7.2 ?_
        rw [lXsY, lX, lY, k7.1, lM]; simp only [iff', List.length_nil]; omega
      | true =>
        by_cases hB : 0 ≤ 63 - (((u.length + s.length + v.length : Nat) : Int) - 1 - 64 * h + p2.length)
        · have k5 := chunk_sum (h5 (by omega))
          refine leaf (q5 ++ QB) r4_a (by show _ = q5 ++ (QB ++ []); rw [List.append_nil]) rfl (sat_app (satN _ nz) (sat_cons (satM _ (by omega)) (sat_cons (by rw [vAbsB]; exact hB) (satH _)))) (k5.2.app qB) ?_
          rw [lXsY, lX, lY, sumQ_app, k5.1, lM5]; simp only [iff', List.length_nil, List.length_append]; omega
        · refine leaf (q7 ++ (c2 :: QB)) r4_b (by show _ = q7 ++ ([c2] ++ (QB ++ [])); rw [List.append_nil]; rfl) rfl (sat_app (satN _ nz) (sat_cons (satM _ (by omega)) (sat_cons (by rw [not_den, vAbsB]; omega) (satH _)))) (k7.2.app s2) ?_
          rw [lXsY, lX, lY, sumQ_app, k7.1, lM]; simp only [iff', List.length_nil, List.length_append, sumQ]; omega
    | true => cases b with
      | false =>
        by_cases hA : 0 ≤ 64 - ((p.length + (u.length + s.length + v.length) : Nat) : Int)
        · have k6 := chunk_sum (h6 (by omega))
          refine leaf (QA ++ q6) r3_a (by show _ = QA ++ (q6 ++ []); rw [List.append_nil]) rfl (sat_app (satN _ nz) (sat_cons (satM _ (by omega)) (sat_cons (by rw [vAbsA]; exact hA) sat_nil))) (qA.app k6.2) ?_
          rw [lXsY, lX, lY, sumQ_app, k6.1, lM6]; simp only [iff', List.length_nil, List.length_append]; omega
        · refine leaf ((QA ++ [c]) ++ q7) r3_b (by show _ = QA ++ ([c] ++ (q7 ++ [])); rw [List.append_nil, List.append_assoc]) rfl (sat_app (satN _ nz) (sat_cons (satM _ (by omega)) (sat_cons (by rw [not_den, vAbsA]; omega) sat_nil))) ((qA.app s1).app k7.2) ?_
          rw [lXsY, lX, lY, sumQ_app, sumQ_app, k7.1, lM]; simp only [iff', List.length_nil, List.length_append, sumQ]; omega
      | true =>
        by_cases hA : 0 ≤ 64 - ((p.length + (u.length + s.length + v.length) : Nat) : Int)
        · by_cases hB : 0 ≤ 64 - ((p.length + (u.length + s.length + v.length) + p2.length : Nat) : Int)
          · have k4 := chunk_sum (h4 (by omega))
            refine leaf (QA ++ (q4 ++ QB)) r2_b (by show _ = QA ++ (q4 ++ (QB ++ [])); rw [List.append_nil]) rfl (sat_app (satN _ nz) (sat_cons (satM _ (by omega)) (sat_cons (by rw [vAbsA]; exact hA) (sat_cons (by rw [vAbsAB]; exact hB) sat_nil)))) (qA.app (k4.2.app qB)) ?_
            rw [lXsY, lX, lY, sumQ_app, sumQ_app, k4.1, lM4]; simp only [iff', List.length_append]; omega
          · have k6 := chunk_sum (h6 (by omega))
            refine leaf (QA ++ (q6 ++ (c2 :: QB))) r2_c (by show _ = QA ++ (q6 ++ ([c2] ++ (QB ++ []))); rw [List.append_nil]; rfl) rfl (sat_app (satN _ nz) (sat_cons (satM _ (by omega)) (sat_cons (by rw [vAbsA]; exact hA) (sat_cons (by rw [not_den, vAbsAB]; omega) sat_nil)))) (qA.app (k6.2.app s2)) ?_
            rw [lXsY, lX, lY, sumQ_app, sumQ_app, k6.1, lM6]; simp only [iff', List.length_append, sumQ]; omega
        · by_cases hB : 0 ≤ 63 - (((u.length + s.length + v.length : Nat) : Int) - 1 - 64 * h + p2.length)
          · have k5 := chunk_sum (h5 (by omega))
            refine leaf ((QA ++ [c]) ++ (q5 ++ QB)) r2_d (by show _ = QA ++ ([c] ++ (q5 ++ (QB ++ []))); rw [List.append_nil, List.append_assoc]) rfl (sat_app (satN _ nz) (sat_cons (satM _ (by omega)) (sat_cons (by rw [not_den, vAbsA]; omega) (sat_cons (by rw [vAbsB]; exact hB) (satH _))))) ((qA.app s1).app (k5.2.app qB)) ?_
            rw [lXsY, lX, lY, sumQ_app, sumQ_app, sumQ_app, k5.1, lM5]; simp only [iff', List.length_append, sumQ]; omega
          · refine leaf ((QA ++ [c]) ++ (q7 ++ (c2 :: QB))) r2_e (by show _ = QA ++ ([c] ++ (q7 ++ ([c2] ++ (QB ++ [])))); rw [List.append_nil, List.append_assoc]; rfl) rfl (sat_app (satN _ nz) (sat_cons (satM _ (by omega)) (sat_cons (by rw [not_den, vAbsA]; omega) (sat_cons (by rw [not_den, vAbsB]; omega) (satH _))))) ((qA.app s1).app (k7.2.app s2)) ?_
            rw [lXsY, lX, lY, sumQ_app, sumQ_app, sumQ_app, k7.1, lM]; simp only [iff', List.length_append, sumQ]; omega
end
end X
end Go.Proofs.YtebfahobllghnaaGreatDoor
namespace Go.Proofs.YtebfahobllghnaaGreatDoor
namespace X
def lcpL : List UInt8 → List UInt8 → Nat
  | a :: l, b :: m => if a = b then lcpL l m + 1 else 0
  | _, _ => 0
theorem lcp_le1 : ∀ {l m : List UInt8}, lcpL l m ≤ l.length
  | [], m => by cases m <;> simp [lcpL]
  | a :: l, [] => by simp [lcpL]
  | a :: l, b :: m => by
    simp only [lcpL]; split
    · have := lcp_le1 (l := l) (m := m); simp only [List.length_cons]; omega
    · omega
theorem lcp_le2 : ∀ {l m : List UInt8}, lcpL l m ≤ m.length
  | [], m => by cases m <;> simp [lcpL]
  | a :: l, [] => by simp [lcpL]
  | a :: l, b :: m => by
    simp only [lcpL]; split
    · have := lcp_le2 (l := l) (m := m); simp only [List.length_cons]; omega
    · omega
theorem lcp_take : ∀ {l m : List UInt8}, l.take (lcpL l m) = m.take (lcpL l m)
  | [], m => by cases m <;> simp [lcpL]
  | a :: l, [] => by simp [lcpL]
  | a :: l, b :: m => by
    simp only [lcpL]; split
    · rename_i h; subst h; simp only [List.take_succ_cons, lcp_take (l := l) (m := m)]
    · simp
theorem lcp_stop {l m : List UInt8} {i : Nat} (h : l.length ≤ i ∨ m.length ≤ i) : lcpL (l.drop i) (m.drop i) = 0 := by
  rcases h with h | h
  · rw [List.drop_eq_nil_of_le h]; cases m.drop i <;> rfl
  · rw [List.drop_eq_nil_of_le h]; cases l.drop i <;> rfl
theorem lcp_step {l m : List UInt8} {i : Nat} (h1 : i < l.length) (h2 : i < m.length) (h : l[i] = m[i]) : lcpL (l.drop i) (m.drop i) = lcpL (l.drop (i + 1)) (m.drop (i + 1)) + 1 := by
  rw [List.drop_eq_getElem_cons h1, List.drop_eq_getElem_cons h2, lcpL, if_pos h]
theorem lcp_ne {l m : List UInt8} {i : Nat} (h1 : i < l.length) (h2 : i < m.length) (h : l[i] ≠ m[i]) : lcpL (l.drop i) (m.drop i) = 0 := by
  rw [List.drop_eq_getElem_cons h1, List.drop_eq_getElem_cons h2, lcpL, if_neg h]
def frF (l m : List UInt8) : Nat := lcpL l m
def enF (l m : List UInt8) : Nat := lcpL (l.drop (frF l m)).reverse (m.drop (frF l m)).reverse
theorem en_le1 {l m : List UInt8} : frF l m + enF l m ≤ l.length := by
  have h1 : frF l m ≤ l.length := lcp_le1
  have h2 : enF l m ≤ (l.drop (frF l m)).reverse.length := lcp_le1
  simp only [List.length_reverse, List.length_drop] at h2
  omega
theorem en_le2 {l m : List UInt8} : frF l m + enF l m ≤ m.length := by
  have h1 : frF l m ≤ m.length := lcp_le2
  have h2 : enF l m ≤ (m.drop (frF l m)).reverse.length := lcp_le2
  simp only [List.length_reverse, List.length_drop] at h2
  omega
theorem fr_take {l m : List UInt8} : l.take (frF l m) = m.take (frF l m) := lcp_take
theorem en_drop {l m : List UInt8} : l.drop (l.length - enF l m) = m.drop (m.length - enF l m) := by
  have h1 := en_le1 (l := l) (m := m)
  have h2 := en_le2 (l := l) (m := m)
  have h : (l.drop (frF l m)).reverse.take (enF l m) = (m.drop (frF l m)).reverse.take (enF l m) := lcp_take
  rw [List.take_reverse, List.take_reverse] at h
  have h := List.reverse_inj.1 h
  simp only [List.length_drop, List.drop_drop] at h
  rw [show frF l m + (l.length - frF l m - enF l m) = l.length - enF l m by omega, show frF l m + (m.length - frF l m - enF l m) = m.length - enF l m by omega] at h
  exact h
def midF (l m : List UInt8) : List UInt8 := (l.drop (frF l m)).take (l.length - frF l m - enF l m)
def midG (l m : List UInt8) : List UInt8 := (m.drop (frF l m)).take (m.length - frF l m - enF l m)
theorem three {l : List UInt8} {f e : Nat} (h : f + e ≤ l.length) : l.take f ++ (l.drop f).take (l.length - f - e) ++ l.drop (l.length - e) = l := by
  have h1 : (l.drop f).drop (l.length - f - e) = l.drop (l.length - e) := by rw [List.drop_drop]; congr 1; omega
  rw [List.append_assoc, ← h1, List.take_append_drop, List.take_append_drop]
theorem mid_was {l m : List UInt8} : l.take (frF l m) ++ midF l m ++ l.drop (l.length - enF l m) = l := three en_le1
theorem mid_now {l m : List UInt8} : l.take (frF l m) ++ midG l m ++ l.drop (l.length - enF l m) = m := by
  rw [fr_take, en_drop]; exact three en_le2
theorem mid_len1 {l m : List UInt8} : (l.take (frF l m)).length = frF l m := by
  have := en_le1 (l := l) (m := m)
  rw [List.length_take]; omega
theorem mid_len2 {l m : List UInt8} : (midF l m).length = l.length - frF l m - enF l m := by
  have := en_le1 (l := l) (m := m)
  unfold midF; rw [List.length_take, List.length_drop]; omega
theorem mid_len3 {l m : List UInt8} : (l.drop (l.length - enF l m)).length = enF l m := by
  have := en_le1 (l := l) (m := m)
  rw [List.length_drop]; omega
end X
end Go.Proofs.YtebfahobllghnaaGreatDoor
namespace Go.Proofs.YtebfahobllghnaaGreatDoor
namespace B
open Go.RowKit
section
variable {N : Foot} {P : Program} {ops : Array Oper} {sp : List (Spec N)} {In : Nat → Ini N} {a0 : Act} {w0 : World} {bf : List Nat} {j : Nat} {o : Oper} {s : Spec N}
theorem Ob.d {t : Nat} {v : Value} (h : ∀ {done a w τ}, Cx ops sp In a0 w0 bf j o done a w τ → Runs P a o w v) (hs : s = B.det N t v := by exact rfl) (hg : o.guard = none := by exact rfl) (hd : o.dst = some t := by exact rfl) : Ob ops sp In a0 w0 P bf j o s :=
  Ob.det hs hg hd fun _ _ _ _ c => h c
theorem Ob.c {t : Nat} {v : Value} (h : ∀ {done a w τ}, Cx ops sp In a0 w0 bf j o done a w τ → ∃ f args, Enters P a o w f args ∧ Calls P f args w (fun e w' => e = .returned v ∧ Ext none' w w')) (hs : s = B.det N t v := by exact rfl) (hg : o.guard = none := by exact rfl) (hd : o.dst = some t := by exact rfl) : Ob ops sp In a0 w0 P bf j o s :=
  Ob.call hs hg hd fun _ _ _ _ c => h c
theorem Ob.g {t tg : Nat} {b : Bool} {v : Value} (gi : Nat) (want : Bool) (hgs : sp[gi]? = some (B.det N tg (.bool b))) (h : ∀ {done a w τ}, Cx ops sp In a0 w0 bf j o done a w τ → b = want → Runs P a o w v)
    (hs : s = B.gdet N t (b = want) v := by exact rfl) (hg : o.guard = some (gi, want) := by exact rfl) (hd : o.dst = some t := by exact rfl) (hgd : ((ops[gi]?).bind (·.dst)) = some tg := by exact rfl) (hb : (bf.getD j 0).testBit gi = true := by exact rfl) : Ob ops sp In a0 w0 P bf j o s :=
  Ob.gdet hs hg hd hgd hgs hb Iff.rfl fun _ _ _ _ c => h c
theorem Ob.gg {t tg : Nat} {b : Bool} {pg : Prop} {v : Value} (gi : Nat) (want : Bool) (hgs : sp[gi]? = some (B.gdet N tg pg (.bool b))) (h : ∀ {done a w τ}, Cx ops sp In a0 w0 bf j o done a w τ → (pg ∧ b = want) → Runs P a o w v)
    (hs : s = B.gdet N t (pg ∧ b = want) v := by exact rfl) (hg : o.guard = some (gi, want) := by exact rfl) (hd : o.dst = some t := by exact rfl) (hgd : ((ops[gi]?).bind (·.dst)) = some tg := by exact rfl) (hb : (bf.getD j 0).testBit gi = true := by exact rfl) : Ob ops sp In a0 w0 P bf j o s :=
  Ob.ggdet hs hg hd hgd hgs hb Iff.rfl fun _ _ _ _ c => h c
theorem Ob.lv (gi : Nat) {tg : Nat} {want : Bool} (h : Ob ops sp In a0 w0 P bf j { o with guard := none } s) (hgs : sp[gi]? = some (B.det N tg (.bool want)) := by exact rfl) (hg : o.guard = some (gi, want) := by exact rfl) (hgd : ((ops[gi]?).bind (·.dst)) = some tg := by exact rfl) (hb : (bf.getD j 0).testBit gi = true := by exact rfl) : Ob ops sp In a0 w0 P bf j o s :=
  Ob.live hg hgd hgs hb h
theorem Ob.dd (gi : Nat) {tg t : Nat} {want b : Bool} (hs : s = unk N t := by exact rfl) (hg : o.guard = some (gi, want) := by exact rfl) (hgd : ((ops[gi]?).bind (·.dst)) = some tg := by exact rfl) (hgs : sp[gi]? = some (B.det N tg (.bool b)) := by exact rfl) (hb : (bf.getD j 0).testBit gi = true := by exact rfl) (hne : b ≠ want := by decide) : Ob ops sp In a0 w0 P bf j o s :=
  Ob.dead hs hg hgd hgs hb hne
end
section
variable {N : Foot} {P : Program} {ops : Array Oper} {sp : List (Spec N)} {In : Nat → Ini N} {a0 : Act} {w0 : World} {bf : List Nat} {j : Nat} {o : Oper} {done : Nat → Bool} {a : Act} {w : World} {τ : Nat → Foot}
theorem Cx.n (c : Cx ops sp In a0 w0 bf j o done a w τ) (i : Nat) {t : Nat} {val : Value} (hs : sp[i]? = some (B.det N t val)) (hb : (bf.getD j 0).testBit i = true := by exact rfl) : a.eval (.tmp t) = val := c.ev i hs hb
theorem Cx.m (c : Cx ops sp In a0 w0 bf j o done a w τ) (i : Nat) {t : Nat} {pc : Prop} {val : Value} (hs : sp[i]? = some (B.gdet N t pc val)) (hpc : pc) (hb : (bf.getD j 0).testBit i = true := by exact rfl) : a.eval (.tmp t) = val := c.eg i hs hb hpc
theorem Cx.p (c : Cx ops sp In a0 w0 bf j o done a w τ) {t : Nat} {val : Value} (h0 : get a0 t = val) (h : unB ops bf j t = true := by kernel_rfl) : a.eval (.tmp t) = val := c.eo h0 h
theorem Cx.ib {ty : Nat} {v : Value} {cells : List Value} (c : Cx ops sp In a0 w0 bf j o done a w τ) (t : Nat) (hI : In t = B.ibox ty N v cells) (hl : lastTag (sp.map (·.tag)) t j = none := by exact rfl) (hord : ordB (sp.map (·.tag)) bf t j = true := by kernel_rfl) : boxR ty cells (τ t) v w := c.ibox t hI hl hord
theorem Cx.rb {ty t slot : Nat} {cells : List Value} (c : Cx ops sp In a0 w0 bf j o done a w τ) (i : Nat) (hs : sp[i]? = some (B.box ty N t slot cells)) (hl : lastTag (sp.map (·.tag)) t j = some i := by exact rfl) (hord : ordB (sp.map (·.tag)) bf t j = true := by kernel_rfl) : boxR ty cells (τ t) (get a slot) w := c.rbox i hs hl hord
theorem Cx.ro {α : Type} {E : Enc α} {ty t slot : Nat} {xs : List α} (c : Cx ops sp In a0 w0 bf j o done a w τ) (i : Nat) (hs : sp[i]? = some (B.own E ty N t slot xs)) (hl : lastTag (sp.map (·.tag)) t j = some i := by exact rfl) (hord : ordB (sp.map (·.tag)) bf t j = true := by kernel_rfl) : ownR E ty xs (τ t) (get a slot) w := c.rown i hs hl hord
theorem Cx.rg {α : Type} {E : Enc α} {ty t slot : Nat} {pc : Prop} {xs : List α} (c : Cx ops sp In a0 w0 bf j o done a w τ) (i : Nat) (hs : sp[i]? = some (B.gown pc E ty N t slot xs)) (hp : pc) (hl : lastTag (sp.map (·.tag)) t j = some i := by exact rfl) (hord : ordB (sp.map (·.tag)) bf t j = true := by kernel_rfl) : ownR E ty xs (τ t) (get a slot) w := c.rgown i hs hl hord hp
theorem Cx.bp {ty slot : Nat} {v : Value} {cells : List Value} (c : Cx ops sp In a0 w0 bf j o done a w τ) (t : Nat) (hI : In t = B.ibox ty N v cells) (e : get a0 slot = v) (hl : lastTag (sp.map (·.tag)) t j = none := by exact rfl) (hord : ordB (sp.map (·.tag)) bf t j = true := by kernel_rfl) (h : unB ops bf j slot = true := by kernel_rfl) : boxR ty cells (τ t) (get a slot) w := by
  rw [show get a slot = v from c.old e h]; exact c.ibox t hI hl hord
theorem Cx.sm {slot : Nat} {v : Value} {x : Operand} (c : Cx ops sp In a0 w0 bf j o done a w τ) (px : a.eval x = v) (e : get a0 slot = v) (h : unB ops bf j slot = true := by kernel_rfl) : a.eval x = get a slot := px.trans (c.old e h).symm
theorem Cx.ad {slot k : Nat} {v : Value} {x : Operand} {p : Addr} (c : Cx ops sp In a0 w0 bf j o done a w τ) (px : a.eval x = .pointer (some p)) (e : get a0 slot = v) (hp : p = (ptrOf v).add k) (h : unB ops bf j slot = true := by kernel_rfl) : a.eval x = .pointer (some ((ptrOf (get a slot)).add k)) := by
  rw [show get a slot = v from c.old e h, px, hp]
end
section
variable {N : Foot} {l : List Oper} {sp : List (Spec N)} {il : List (Ini N)} {a0 a : Act} {w : World} {τ : Nat → Foot}
def Alls (a : Act) : List (Nat × Value) → Prop
  | [] => True
  | p :: l => get a p.1 = p.2 ∧ Alls a l
theorem Fin.olds (h : Fin l sp il a0 a w τ) : ∀ (L : List (Nat × Value)) (_ : Alls a0 L) (_ : (L.all fun p => unAll l p.1) = true), Alls a L
  | [], _, _ => trivial
  | p :: L, hE, hu => by
    rw [List.all_cons, Bool.and_eq_true] at hu
    exact ⟨h.old hE.1 hu.1, h.olds L hE.2 hu.2⟩
theorem Fin.ks (h : Fin l sp il a0 a w τ) (L : List (Nat × Value)) (hE : Alls a0 L) (hu : (L.all fun p => unAll l p.1) = true := by kernel_rfl) : Alls a L := h.olds L hE hu
theorem Fin.ib (h : Fin l sp il a0 a w τ) {ty : Nat} {v : Value} {cells : List Value} (t : Nat) (hI : iniOf il t = B.ibox ty N v cells) (hl : lastTag (sp.map (·.tag)) t sp.length = none := by exact rfl) : boxR ty cells (τ t) v w := h.ibox t hI hl
theorem Fin.rb (h : Fin l sp il a0 a w τ) {ty t slot : Nat} {cells : List Value} (j : Nat) {v : Value} (hv : get a slot = v) (hs : sp[j]? = some (B.box ty N t slot cells)) (hl : lastTag (sp.map (·.tag)) t sp.length = some j := by exact rfl) : boxR ty cells (τ t) v w := h.rbox j hs hl hv
theorem Fin.ro (h : Fin l sp il a0 a w τ) {α : Type} {E : Enc α} {ty t slot : Nat} {xs : List α} (j : Nat) {v : Value} (hv : get a slot = v) (hs : sp[j]? = some (B.own E ty N t slot xs)) (hl : lastTag (sp.map (·.tag)) t sp.length = some j := by exact rfl) : ownR E ty xs (τ t) v w := h.rown j hs hl hv
abbrev ib {N : Foot} {ty : Nat} {cells : List Value} {T : Foot} {v : Value} {w : World} (_ : boxR ty cells T v w) : Ini N := ibox ty N v cells
end
theorem fill2 {a : Act} {f : Nat → Option (Nat × Nat)} {z cells : Array Value} {i0 i1 : Nat} {x0 x1 : Operand} {v0 v1 : Value} (h0 : a.eval x0 = v0) (h1 : a.eval x1 = v1) (hf : Instr.fill f z [(i0, v0), (i1, v1)] = some cells) : Instr.fill f z ((#[(i0, x0), (i1, x1)]).map fun (i, x) => (i, a.eval x)).toList = some cells := by
  subst h0 h1
  simp only [List.map_toArray, List.map_cons, List.map_nil]
  exact hf
theorem bt {p : Prop} [Decidable p] (h : decide p = true) : p := of_decide_eq_true h
theorem bl {p q : Int} (h : decide (p < q) = false) : q ≤ p := by simpa using h
theorem nt {p : Prop} [Decidable p] (h : (!decide p) = true) : ¬ p := by simpa using h
theorem nf {p : Prop} [Decidable p] (h : (!decide p) = false) : p := by simpa using h
end B
end Go.Proofs.YtebfahobllghnaaGreatDoor
namespace Go.Proofs.YtebfahobllghnaaGreatDoor
namespace B
open Go.RowKit
theorem byteAt_get {s : ByteArray} {i : Nat} (h : i < s.data.toList.length) : byteAt s (i : Int) = ((s.data.toList[i]).toNat : Int) := by
  unfold byteAt
  simp only [Int.toNat_natCast, List.getD_eq_getElem?_getD, List.getElem?_eq_getElem h, Option.getD_some]
theorem byte_inj {a b : UInt8} (h : (a.toNat : Int) = (b.toNat : Int)) : a = b := UInt8.toNat_inj.1 (by omega)
theorem lsz (s : ByteArray) : s.data.toList.length = s.size := by simp
theorem turn_n1 {s t : ByteArray} {i n : Nat} (q : n = i + X.lcpL (s.data.toList.drop i) (t.data.toList.drop i)) (h : ((i : Int) < (s.size : Int) ∧ (i : Int) < (t.size : Int)) ∧ byteAt s (i : Int) = byteAt t (i : Int)) : n = i + 1 + X.lcpL (s.data.toList.drop (i + 1)) (t.data.toList.drop (i + 1)) := by
  obtain ⟨⟨h1, h2⟩, h3⟩ := h
  have l1 : i < s.data.toList.length := by rw [lsz]; omega
  have l2 : i < t.data.toList.length := by rw [lsz]; omega
  rw [byteAt_get l1, byteAt_get l2] at h3
  rw [q, X.lcp_step l1 l2 (byte_inj h3)]; omega
theorem turn_fr {s t : ByteArray} {i n : Nat} (q : n = i + X.lcpL (s.data.toList.drop i) (t.data.toList.drop i)) (h : ((s.size : Int) ≤ (i : Int) ∨ (t.size : Int) ≤ (i : Int)) ∨ ¬ byteAt s (i : Int) = byteAt t (i : Int)) : i = n := by
  have stop : s.size ≤ i ∨ t.size ≤ i → i = n := fun h => by
    rw [q, X.lcp_stop (by rw [lsz, lsz]; exact h)]; rfl
  by_cases hs : s.size ≤ i ∨ t.size ≤ i
  · exact stop hs
  · rcases h with h | h
    · exact stop (by omega)
    · have l1 : i < s.data.toList.length := by rw [lsz]; omega
      have l2 : i < t.data.toList.length := by rw [lsz]; omega
      rw [byteAt_get l1, byteAt_get l2] at h
      rw [q, X.lcp_ne l1 l2 (fun e => h (by rw [e]))]; rfl
theorem byteAt_rev {s : ByteArray} {i j : Nat} (h : i + j < s.size) : ∃ hl : j < (s.data.toList.drop i).reverse.length, byteAt s ((s.size : Int) - 1 - (j : Int)) = (((s.data.toList.drop i).reverse[j]).toNat : Int) := by
  have hz := lsz s
  have hl : j < (s.data.toList.drop i).reverse.length := by rw [List.length_reverse, List.length_drop]; omega
  refine ⟨hl, ?_⟩
  have l1 : s.size - 1 - j < s.data.toList.length := by omega
  rw [show (s.size : Int) - 1 - (j : Int) = ((s.size - 1 - j : Nat) : Int) by omega, byteAt_get l1]
  congr 2
  rw [List.getElem_reverse, List.getElem_drop]
  congr 1
  rw [List.length_drop]; omega
theorem turn_n2 {s t : ByteArray} {i j n : Nat} (q : n = j + X.lcpL ((s.data.toList.drop i).reverse.drop j) ((t.data.toList.drop i).reverse.drop j)) (h : ((j : Int) < (s.size : Int) - (i : Int) ∧ (j : Int) < (t.size : Int) - (i : Int)) ∧ byteAt s ((s.size : Int) - 1 - (j : Int)) = byteAt t ((t.size : Int) - 1 - (j : Int))) : n = j + 1 + X.lcpL ((s.data.toList.drop i).reverse.drop (j + 1)) ((t.data.toList.drop i).reverse.drop (j + 1)) := by
  obtain ⟨⟨h1, h2⟩, h3⟩ := h
  obtain ⟨l1, g1⟩ := byteAt_rev (s := s) (i := i) (j := j) (by omega)
  obtain ⟨l2, g2⟩ := byteAt_rev (s := t) (i := i) (j := j) (by omega)
  rw [g1, g2] at h3
  rw [q, X.lcp_step l1 l2 (byte_inj h3)]; omega
theorem turn_en {s t : ByteArray} {i j n : Nat} (q : n = j + X.lcpL ((s.data.toList.drop i).reverse.drop j) ((t.data.toList.drop i).reverse.drop j)) (h : ((s.size : Int) - (i : Int) ≤ (j : Int) ∨ (t.size : Int) - (i : Int) ≤ (j : Int)) ∨ ¬ byteAt s ((s.size : Int) - 1 - (j : Int)) = byteAt t ((t.size : Int) - 1 - (j : Int))) : j = n := by
  have stop : s.size ≤ i + j ∨ t.size ≤ i + j → j = n := fun h => by
    have h1 := lsz s
    have h2 := lsz t
    rw [q, X.lcp_stop (by rw [List.length_reverse, List.length_reverse, List.length_drop, List.length_drop]; omega)]; rfl
  by_cases hs : s.size ≤ i + j ∨ t.size ≤ i + j
  · exact stop hs
  · rcases h with h | h
    · exact stop (by omega)
    · obtain ⟨l1, g1⟩ := byteAt_rev (s := s) (i := i) (j := j) (by omega)
      obtain ⟨l2, g2⟩ := byteAt_rev (s := t) (i := i) (j := j) (by omega)
      rw [g1, g2] at h
      rw [q, X.lcp_ne l1 l2 (fun e => h (by rw [e]))]; rfl
end B
end Go.Proofs.YtebfahobllghnaaGreatDoor
namespace Go.Proofs.YtebfahobllghnaaGreatDoor
namespace B
open Go.RowKit
theorem mixed : Tryz.prog.follows .mixedOrders = true := by kernel_rfl
set_option maxRecDepth 100000 in
theorem turn_c (s t : ByteArray) (w : World) (hs : s.size ≤ 1000000000) (ht : t.size ≤ 1000000000) : Calls Tryz.prog 65 #[(.string (s)), (.string (t))] w (fun e w' => e = .returned (.agg #[.int .i64 ((X.frF s.data.toList t.data.toList : Nat) : Int), .int .i64 ((s.size : Int) - ((X.enF s.data.toList t.data.toList : Nat) : Int)), .string (t.extract (X.frF s.data.toList t.data.toList) (t.size - X.enF s.data.toList t.data.toList))]) ∧ Ext none' w w') := by
 refine enter (n := 75) Tryz.func65 rfl rfl (Nat.le_of_ble_eq_true rfl) ?_
 intro a0 τ0 ha st0
 have e0 : get a0 0 = (.string (s)) := ha 0 _ rfl
 have e1 : get a0 1 = (.string (t)) := ha 1 _ rfl
 clear ha
 refine wp_seq ?_
 refine region_St (bf := [0]) (sp := [box _ _ 0 4 [(.int .i64 (0)), (.int .i64 (0)), (.string ((⟨#[]⟩ : ByteArray)))]]) [] mixed st0 (by kernel_rfl) trivial
  ⟨Ob.alloc rfl rfl rfl rfl Tryz.zeroValue35 rfl, trivial⟩ ?_
 intro a1 w1 τ1 st1 f1
 obtain ⟨b1x4, e4⟩ : ∃ b, get a1 4 = b := ⟨_, rfl⟩
 obtain ⟨e0, e1, -⟩ := f1.ks [(0, _), (1, _)] ⟨e0, e1, trivial⟩
 have r0 : boxR 35 [(.int .i64 (0)), (.int .i64 (0)), (.string ((⟨#[]⟩ : ByteArray)))] (τ1 0) b1x4 w1 := f1.rb 0 e4 rfl
 clear f1
 show Code.wp _ _ _ a1 w1
 refine wp_seq ?_
 refine region_St (bf := [0]) (sp := [det _ 5 _]) [ib r0] mixed st1 (by kernel_rfl) ⟨r0, trivial⟩
  ⟨Ob.d fun c => r_assign rfl rfl, trivial⟩ ?_
 intro a2 w2 τ2 st2 f2
 obtain ⟨e0, e1, e4, -⟩ := f2.ks [(0, _), (1, _), (4, _)] ⟨e0, e1, e4, trivial⟩
 have e5 : get a2 5 = (.int .i64 (0)) := f2.v 0 rfl
 replace r0 := f2.ib 0 rfl
 clear f2
 show Code.wp _ _ _ a2 w2
 refine wp_seq ?_
 refine wp_block ?_
 refine wp_loop (fun a_ w_ => ∃ (i : Nat) (τ : Nat → Foot), (i ≤ s.size) ∧
      (i ≤ t.size) ∧
      (X.frF s.data.toList t.data.toList = i + X.lcpL (s.data.toList.drop i) (t.data.toList.drop i)) ∧
      St (Nw w) w 75 a_ w_ τ ∧
      get a_ 5 = (.int .i64 ((i : Int))) ∧
      get a_ 0 = (.string (s)) ∧
      get a_ 1 = (.string (t)) ∧
      get a_ 4 = b1x4 ∧
      boxR 35 [(.int .i64 (0)), (.int .i64 (0)), (.string ((⟨#[]⟩ : ByteArray)))] (τ 0) b1x4 w_) (fun a_ _ => s.size - (intOf (get a_ 5)).toNat) ?_ ?_
 · refine ⟨0, τ2, ?_, ?_, ?_, st2, (e5.trans (int_eq (by omega))), e0, e1, e4, r0⟩
   · omega
   · omega
   · simp [X.frF]
 intro a3 w3 hI
 obtain ⟨i, τ3, q0, q1, q2, st3, e5, e0, e1, e4, r0⟩ := hI
 have m5 := e5
 refine wp_seq ?_
 refine wp_seq ?_
 refine region_St (bf := [0, 0, 2, 7, 15, 31, 31, 95, 255, 511, 1023, 2047, 2047, 8191, 2047, 2047, 51199, 131071, 262143]) (sp := [det _ 7 _, det _ 8 _, det _ 9 _, det _ 10 _, det _ 11 _, gdet _ 12 _ _, gdet _ 13 _ _, gdet _ 14 _ _, gdet _ 15 _ _, det _ 16 _, det _ 17 _, gdet _ 18 _ _, gdet _ 19 _ _, gdet _ 20 _ _, gdet _ 21 _ _, gdet _ 22 _ _, gdet _ 23 _ _, gdet _ 24 _ _, det _ 25 _]) [ib r0] mixed st3 (by kernel_rfl) ⟨r0, trivial⟩
  ⟨Ob.d fun c => r_move rfl (c.p e5),
  Ob.d fun c => r_move rfl (c.p e0),
  Ob.d fun c => r_lenS rfl Tryz.underlying9 (c.n 1 rfl),
  Ob.d fun c => r_lss rfl (c.n 0 rfl) (c.n 2 rfl),
  Ob.d fun c => r_move rfl (c.n 3 rfl),
  Ob.g 4 true rfl fun c hpc => r_move rfl (c.p e5),
  Ob.g 4 true rfl fun c hpc => r_move rfl (c.p e1),
  Ob.g 4 true rfl fun c hpc => r_lenS rfl Tryz.underlying9 (c.m 6 rfl hpc),
  Ob.g 4 true rfl fun c hpc => r_lss rfl (c.m 5 rfl hpc) (c.m 7 rfl hpc),
  Ob.d fun c => r_and rfl (c.n 4 rfl) (fun h => c.m 8 rfl h),
  Ob.d fun c => r_move rfl (c.n 9 rfl),
  Ob.g 10 true rfl fun c hpc => r_move rfl (c.p e0),
  Ob.g 10 true rfl fun c hpc => r_move rfl (c.p e5),
  Ob.g 10 true rfl fun c hpc => r_sindex rfl Tryz.underlying9 (c.m 11 rfl hpc) (c.m 12 rfl hpc) (by have hq0 := hpc; (try simp only [Bool.and_eq_true, decide_eq_true_eq] at hq0); omega) (by have hq0 := hpc; (try simp only [Bool.and_eq_true, decide_eq_true_eq] at hq0); omega),
  Ob.g 10 true rfl fun c hpc => r_move rfl (c.p e1),
  Ob.g 10 true rfl fun c hpc => r_move rfl (c.p e5),
  Ob.g 10 true rfl fun c hpc => r_sindex rfl Tryz.underlying9 (c.m 14 rfl hpc) (c.m 15 rfl hpc) (by have hq0 := hpc; (try simp only [Bool.and_eq_true, decide_eq_true_eq] at hq0); omega) (by have hq0 := hpc; (try simp only [Bool.and_eq_true, decide_eq_true_eq] at hq0); omega),
  Ob.g 10 true rfl fun c hpc => r_eql rfl (c.m 13 rfl hpc) (c.m 16 rfl hpc),
  Ob.d fun c => r_and rfl (c.n 10 rfl) (fun h => c.m 17 rfl h), trivial⟩ ?_
 intro a4 w4 τ4 st4 f4
 obtain ⟨e0, e1, e4, e5, -⟩ := f4.ks [(0, _), (1, _), (4, _), (5, _)] ⟨e0, e1, e4, e5, trivial⟩
 have e25 : get a4 25 = (.bool (((decide ((i : Int) < (s.size : Int))) && (decide ((i : Int) < (t.size : Int)))) && (decide (byteAt s ((i : Int)) = byteAt t ((i : Int)))))) := f4.v 18 rfl
 replace r0 := f4.ib 0 rfl
 clear f4
 show Code.wp _ _ _ a4 w4
 refine wp_cond_split (t := ((decide ((i : Int) < (s.size : Int))) && (decide ((i : Int) < (t.size : Int)))) && (decide (byteAt s ((i : Int)) = byteAt t ((i : Int))))) e25 (fun hc1 => ?_) (fun hc1 => ?_)
 · try simp only [Bool.and_eq_true, decide_eq_true_eq] at hc1
   refine wp_skip ?_
   show Code.wp _ _ _ a4 w4
   refine wp_block ?_
   refine region_St (bf := [0, 1, 3]) (sp := [det _ 26 _, det _ 27 _, det _ 5 _]) [ib r0] mixed st4 (by kernel_rfl) ⟨r0, trivial⟩
    ⟨Ob.d fun c => r_move rfl (c.p e5),
    Ob.d fun c => r_add rfl (c.n 0 rfl) rfl (by omega),
    Ob.d fun c => r_assign rfl (c.n 1 rfl), trivial⟩ ?_
   intro a5 w5 τ5 st5 f5
   obtain ⟨e0, e1, e4, e25, -⟩ := f5.ks [(0, _), (1, _), (4, _), (25, _)] ⟨e0, e1, e4, e25, trivial⟩
   have e5 : get a5 5 = (.int .i64 ((i : Int) + 1)) := f5.v 2 rfl
   replace r0 := f5.ib 0 rfl
   clear f5
   show _
   refine ⟨⟨i + 1, τ5, ?_, ?_, ?_, st5, (e5.trans (int_eq (by omega))), e0, e1, e4, r0⟩, ?_⟩
   · omega
   · omega
   · exact turn_n1 q2 (by assumption)
   · simp only [m5, e5, intOf]; omega
 try simp only [Bool.and_eq_false_iff, decide_eq_false_iff_not, Int.not_lt] at hc1
 refine wp_exit ?_
 repeat (with_reducible refine then_exit ?_)
 refine exit_here ?_
 show Code.wp _ _ _ a4 w4
 refine wp_seq ?_
 have hfr : i = X.frF s.data.toList t.data.toList := turn_fr q2 (by assumption)
 refine region_St (bf := [0]) (sp := [det _ 6 _]) [ib r0] mixed st4 (by kernel_rfl) ⟨r0, trivial⟩
  ⟨Ob.d fun c => r_assign rfl rfl, trivial⟩ ?_
 intro a6 w6 τ6 st6 f6
 obtain ⟨e0, e1, e4, e5, -⟩ := f6.ks [(0, _), (1, _), (4, _), (5, _)] ⟨e0, e1, e4, e5, trivial⟩
 have e6 : get a6 6 = (.int .i64 (0)) := f6.v 0 rfl
 replace r0 := f6.ib 0 rfl
 clear f6
 show Code.wp _ _ _ a6 w6
 refine wp_seq ?_
 refine wp_block ?_
 refine wp_loop (fun a_ w_ => ∃ (j : Nat) (τ : Nat → Foot), (i + j ≤ s.size) ∧
      (i + j ≤ t.size) ∧
      (X.enF s.data.toList t.data.toList = j + X.lcpL ((s.data.toList.drop i).reverse.drop j) ((t.data.toList.drop i).reverse.drop j)) ∧
      St (Nw w) w 75 a_ w_ τ ∧
      get a_ 6 = (.int .i64 ((j : Int))) ∧
      get a_ 0 = (.string (s)) ∧
      get a_ 1 = (.string (t)) ∧
      get a_ 4 = b1x4 ∧
      get a_ 5 = (.int .i64 ((i : Int))) ∧
      boxR 35 [(.int .i64 (0)), (.int .i64 (0)), (.string ((⟨#[]⟩ : ByteArray)))] (τ 0) b1x4 w_) (fun a_ _ => s.size - (intOf (get a_ 6)).toNat) ?_ ?_
 · refine ⟨0, τ6, ?_, ?_, ?_, st6, (e6.trans (int_eq (by omega))), e0, e1, e4, e5, r0⟩
   · omega
   · omega
   · rw [hfr]; simp [X.enF]
 intro a7 w7 hI
 obtain ⟨j, τ7, q0, q1, q2, st7, e6, e0, e1, e4, e5, r0⟩ := hI
 have m6 := e6
 refine wp_seq ?_
 refine wp_seq ?_
 refine region_St (bf := [0, 0, 2, 0, 14, 31, 63, 127, 127, 383, 127, 1919, 4095, 8191, 16383, 32767, 32767, 98303, 229375, 32767, 1015807, 2097151, 32767, 32767, 8421375, 25198591, 32767, 125861887, 264273919, 536870911, 1073741823]) (sp := [det _ 28 _, det _ 29 _, det _ 30 _, det _ 31 _, det _ 32 _, det _ 33 _, det _ 34 _, gdet _ 35 _ _, gdet _ 36 _ _, gdet _ 37 _ _, gdet _ 38 _ _, gdet _ 39 _ _, gdet _ 40 _ _, det _ 41 _, det _ 42 _, gdet _ 43 _ _, gdet _ 44 _ _, gdet _ 45 _ _, gdet _ 46 _ _, gdet _ 47 _ _, gdet _ 48 _ _, gdet _ 49 _ _, gdet _ 50 _ _, gdet _ 51 _ _, gdet _ 52 _ _, gdet _ 53 _ _, gdet _ 54 _ _, gdet _ 55 _ _, gdet _ 56 _ _, gdet _ 57 _ _, det _ 58 _]) [ib r0] mixed st7 (by kernel_rfl) ⟨r0, trivial⟩
  ⟨Ob.d fun c => r_move rfl (c.p e6),
  Ob.d fun c => r_move rfl (c.p e0),
  Ob.d fun c => r_lenS rfl Tryz.underlying9 (c.n 1 rfl),
  Ob.d fun c => r_move rfl (c.p e5),
  Ob.d fun c => r_sub rfl (c.n 2 rfl) (c.n 3 rfl) (by omega),
  Ob.d fun c => r_lss rfl (c.n 0 rfl) (c.n 4 rfl),
  Ob.d fun c => r_move rfl (c.n 5 rfl),
  Ob.g 6 true rfl fun c hpc => r_move rfl (c.p e6),
  Ob.g 6 true rfl fun c hpc => r_move rfl (c.p e1),
  Ob.g 6 true rfl fun c hpc => r_lenS rfl Tryz.underlying9 (c.m 8 rfl hpc),
  Ob.g 6 true rfl fun c hpc => r_move rfl (c.p e5),
  Ob.g 6 true rfl fun c hpc => r_sub rfl (c.m 9 rfl hpc) (c.m 10 rfl hpc) (by have hq0 := bt hpc; omega),
  Ob.g 6 true rfl fun c hpc => r_lss rfl (c.m 7 rfl hpc) (c.m 11 rfl hpc),
  Ob.d fun c => r_and rfl (c.n 6 rfl) (fun h => c.m 12 rfl h),
  Ob.d fun c => r_move rfl (c.n 13 rfl),
  Ob.g 14 true rfl fun c hpc => r_move rfl (c.p e0),
  Ob.g 14 true rfl fun c hpc => r_move rfl (c.p e0),
  Ob.g 14 true rfl fun c hpc => r_lenS rfl Tryz.underlying9 (c.m 16 rfl hpc),
  Ob.g 14 true rfl fun c hpc => r_sub rfl (c.m 17 rfl hpc) rfl (by have hq0 := hpc; (try simp only [Bool.and_eq_true, decide_eq_true_eq] at hq0); omega),
  Ob.g 14 true rfl fun c hpc => r_move rfl (c.p e6),
  Ob.g 14 true rfl fun c hpc => r_sub rfl (c.m 18 rfl hpc) (c.m 19 rfl hpc) (by have hq0 := hpc; (try simp only [Bool.and_eq_true, decide_eq_true_eq] at hq0); omega),
  Ob.g 14 true rfl fun c hpc => r_sindex rfl Tryz.underlying9 (c.m 15 rfl hpc) (c.m 20 rfl hpc) (by have hq0 := hpc; (try simp only [Bool.and_eq_true, decide_eq_true_eq] at hq0); omega) (by have hq0 := hpc; (try simp only [Bool.and_eq_true, decide_eq_true_eq] at hq0); omega),
  Ob.g 14 true rfl fun c hpc => r_move rfl (c.p e1),
  Ob.g 14 true rfl fun c hpc => r_move rfl (c.p e1),
  Ob.g 14 true rfl fun c hpc => r_lenS rfl Tryz.underlying9 (c.m 23 rfl hpc),
  Ob.g 14 true rfl fun c hpc => r_sub rfl (c.m 24 rfl hpc) rfl (by have hq0 := hpc; (try simp only [Bool.and_eq_true, decide_eq_true_eq] at hq0); omega),
  Ob.g 14 true rfl fun c hpc => r_move rfl (c.p e6),
  Ob.g 14 true rfl fun c hpc => r_sub rfl (c.m 25 rfl hpc) (c.m 26 rfl hpc) (by have hq0 := hpc; (try simp only [Bool.and_eq_true, decide_eq_true_eq] at hq0); omega),
  Ob.g 14 true rfl fun c hpc => r_sindex rfl Tryz.underlying9 (c.m 22 rfl hpc) (c.m 27 rfl hpc) (by have hq0 := hpc; (try simp only [Bool.and_eq_true, decide_eq_true_eq] at hq0); omega) (by have hq0 := hpc; (try simp only [Bool.and_eq_true, decide_eq_true_eq] at hq0); omega),
  Ob.g 14 true rfl fun c hpc => r_eql rfl (c.m 21 rfl hpc) (c.m 28 rfl hpc),
  Ob.d fun c => r_and rfl (c.n 14 rfl) (fun h => c.m 29 rfl h), trivial⟩ ?_
 intro a8 w8 τ8 st8 f8
 obtain ⟨e0, e1, e4, e5, e6, -⟩ := f8.ks [(0, _), (1, _), (4, _), (5, _), (6, _)] ⟨e0, e1, e4, e5, e6, trivial⟩
 have e58 : get a8 58 = (.bool (((decide ((j : Int) < (s.size : Int) - (i : Int))) && (decide ((j : Int) < (t.size : Int) - (i : Int)))) && (decide (byteAt s ((s.size : Int) - 1 - (j : Int)) = byteAt t ((t.size : Int) - 1 - (j : Int)))))) := f8.v 30 rfl
 replace r0 := f8.ib 0 rfl
 clear f8
 show Code.wp _ _ _ a8 w8
 refine wp_cond_split (t := ((decide ((j : Int) < (s.size : Int) - (i : Int))) && (decide ((j : Int) < (t.size : Int) - (i : Int)))) && (decide (byteAt s ((s.size : Int) - 1 - (j : Int)) = byteAt t ((t.size : Int) - 1 - (j : Int))))) e58 (fun hc2 => ?_) (fun hc2 => ?_)
 · try simp only [Bool.and_eq_true, decide_eq_true_eq] at hc2
   refine wp_skip ?_
   show Code.wp _ _ _ a8 w8
   refine wp_block ?_
   refine region_St (bf := [0, 1, 3]) (sp := [det _ 59 _, det _ 60 _, det _ 6 _]) [ib r0] mixed st8 (by kernel_rfl) ⟨r0, trivial⟩
    ⟨Ob.d fun c => r_move rfl (c.p e6),
    Ob.d fun c => r_add rfl (c.n 0 rfl) rfl (by omega),
    Ob.d fun c => r_assign rfl (c.n 1 rfl), trivial⟩ ?_
   intro a9 w9 τ9 st9 f9
   obtain ⟨e0, e1, e4, e5, e58, -⟩ := f9.ks [(0, _), (1, _), (4, _), (5, _), (58, _)] ⟨e0, e1, e4, e5, e58, trivial⟩
   have e6 : get a9 6 = (.int .i64 ((j : Int) + 1)) := f9.v 2 rfl
   replace r0 := f9.ib 0 rfl
   clear f9
   show _
   refine ⟨⟨j + 1, τ9, ?_, ?_, ?_, st9, (e6.trans (int_eq (by omega))), e0, e1, e4, e5, r0⟩, ?_⟩
   · omega
   · omega
   · exact turn_n2 q2 (by assumption)
   · simp only [m6, e6, intOf]; omega
 try simp only [Bool.and_eq_false_iff, decide_eq_false_iff_not, Int.not_lt] at hc2
 refine wp_exit ?_
 repeat (with_reducible refine then_exit ?_)
 refine exit_here ?_
 show Code.wp _ _ _ a8 w8
 refine wp_seq ?_
 have hen : j = X.enF s.data.toList t.data.toList := turn_en q2 (by assumption)
 refine region_St (bf := [0, 0, 2, 0, 14, 31, 0, 0, 0, 256, 0, 1792, 4032, 8191, 16383]) (sp := [det _ 61 _, det _ 62 _, det _ 63 _, det _ 64 _, det _ 65 _, det _ 66 _, det _ 67 _, det _ 68 _, det _ 69 _, det _ 70 _, det _ 71 _, det _ 72 _, det _ 73 _, det _ 74 _, box _ _ 0 4 [(.int .i64 ((i : Int))), (.int .i64 ((s.size : Int) - (j : Int))), (.string (t.extract i ((t.size : Int) - (j : Int)).toNat))]]) [ib r0] mixed st8 (by kernel_rfl) ⟨r0, trivial⟩
  ⟨Ob.d fun c => r_move rfl (c.p e5),
  Ob.d fun c => r_move rfl (c.p e0),
  Ob.d fun c => r_lenS rfl Tryz.underlying9 (c.n 1 rfl),
  Ob.d fun c => r_move rfl (c.p e6),
  Ob.d fun c => r_sub rfl (c.n 2 rfl) (c.n 3 rfl) (by omega),
  Ob.d fun c => r_build (cells := #[(.int .i64 ((i : Int))), (.int .i64 ((s.size : Int) - (j : Int)))]) rfl Tryz.underlying33 Tryz.zeroValue33 (pl := #[(0, 1), (1, 1)]) (fun w_ => by simp [Tryz.sizeOf3]) (fill2 (c.n 0 rfl) (c.n 4 rfl) rfl),
  Ob.d fun c => r_move rfl (c.p e1),
  Ob.d fun c => r_move rfl (c.p e5),
  Ob.d fun c => r_move rfl (c.p e1),
  Ob.d fun c => r_lenS rfl Tryz.underlying9 (c.n 8 rfl),
  Ob.d fun c => r_move rfl (c.p e6),
  Ob.d fun c => r_sub rfl (c.n 9 rfl) (c.n 10 rfl) (by omega),
  Ob.d fun c => r_sub2 (s := t) (p := (i : Int)) (q := (t.size : Int) - (j : Int)) rfl Tryz.underlying9 (c.n 6 rfl) (c.n 7 rfl) (c.n 11 rfl) (by omega) (by omega) (by omega),
  Ob.d fun c => r_build (cells := #[(.int .i64 ((i : Int))), (.int .i64 ((s.size : Int) - (j : Int))), (.string (t.extract i ((t.size : Int) - (j : Int)).toNat))]) rfl Tryz.underlying35 Tryz.zeroValue35 (pl := #[(0, 2), (2, 1)]) (fun w_ => by simp [Tryz.sizeOf33, Tryz.sizeOf9]) (fill2 (c.n 5 rfl) (c.n 12 rfl) rfl),
  Ob.storeBox (off := 0) (v := (.agg #[(.int .i64 ((i : Int))), (.int .i64 ((s.size : Int) - (j : Int))), (.string (t.extract i ((t.size : Int) - (j : Int)).toNat))])) rfl rfl rfl rfl Tryz.sizeOf35 (Nat.le_of_ble_eq_true rfl) (by simp [Value.cells, Value.oneCell']) rfl (fun _ _ _ _ c => ⟨c.bp 0 rfl e4, c.ad ((c.p e4).trans r0.ptr) e4 rfl, (c.n 13 rfl)⟩), trivial⟩ ?_
 intro a10 w10 τ10 st10 f10
 obtain ⟨e4, -⟩ := f10.ks [(4, _)] ⟨e4, trivial⟩
 replace r0 : boxR 35 [(.int .i64 ((i : Int))), (.int .i64 ((s.size : Int) - (j : Int))), (.string (t.extract i ((t.size : Int) - (j : Int)).toNat))] (τ10 0) b1x4 w10 := f10.rb 14 e4 rfl
 clear f10
 show Code.wp _ _ _ a10 w10
 refine wp_ret ?_
 repeat (first | with_reducible refine then_ret ?_ | with_reducible refine block_ret ?_)
 refine ret1c (fn := Tryz.f65) rfl st10.defers e4 r0 Tryz.isAgg35 Tryz.sizeOf35 rfl ?_
 have hn_ : ((t.size : Int) - (j : Int)).toNat = t.size - j := by omega
 rw [hn_, ← hfr, ← hen]
 exact ⟨rfl, st10.ext0⟩
end B
end Go.Proofs.YtebfahobllghnaaGreatDoor
