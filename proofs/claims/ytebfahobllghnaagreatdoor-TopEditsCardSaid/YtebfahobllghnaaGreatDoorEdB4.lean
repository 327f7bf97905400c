/-
  TopEdits: RpG, RpH, RpI, RpJ.
-/
import Derived.Test.YtebfahobllghnaaGreatDoorEdB3
set_option linter.unusedSimpArgs false
set_option linter.unusedVariables false
namespace Go.Proofs.YtebfahobllghnaaGreatDoor
namespace X
open Go.RowKit B
set_option maxRecDepth 1000000
def endsK : List UInt8 → Int → Nat
  | [], _ => 0
  | c :: q, at_ => if (c.toNat : Int) ≤ at_ then 1 + endsK q (at_ - c.toNat) else 0
def begK : List UInt8 → Int → Nat
  | [], _ => 0
  | c :: q, at_ => if 0 < at_ then 1 + begK q (at_ - c.toNat) else 0
theorem endsK_app : ∀ {Q R : List UInt8} {c : UInt8} {a : Int}, endsK (Q ++ c :: R) a = if ((sumQ Q + c.toNat : Nat) : Int) ≤ a then Q.length + 1 + endsK R (a - (sumQ Q + c.toNat : Nat)) else endsK Q a
  | [], R, c, a => by
    have e : sumQ [] + c.toNat = c.toNat := Nat.zero_add _
    rw [e, List.nil_append, endsK, List.length_nil, Nat.zero_add]
    rfl
  | d :: Q, R, c, a => by
    have e : sumQ (d :: Q) = d.toNat + sumQ Q := rfl
    have ih := endsK_app (Q := Q) (R := R) (c := c) (a := a - d.toNat)
    rw [List.cons_append, endsK, endsK, List.length_cons]
    by_cases h : (d.toNat : Int) ≤ a
    · rw [if_pos h, if_pos h, ih]
      by_cases h2 : ((sumQ Q + c.toNat : Nat) : Int) ≤ a - d.toNat
      · rw [if_pos h2, if_pos (by rw [e]; omega), show a - ((sumQ (d :: Q) + c.toNat : Nat) : Int) = a - d.toNat - ((sumQ Q + c.toNat : Nat) : Int) by rw [e]; omega]
        omega
      · rw [if_neg h2, if_neg (by rw [e]; omega)]
    · rw [if_neg h, if_neg h, if_neg (by rw [e]; omega)]
theorem begK_app : ∀ {Q R : List UInt8} {c : UInt8} {a : Int}, begK (Q ++ c :: R) a = if (sumQ Q : Int) < a then Q.length + 1 + begK R (a - (sumQ Q + c.toNat : Nat)) else begK Q a
  | [], R, c, a => by
    have e : sumQ [] + c.toNat = c.toNat := Nat.zero_add _
    rw [e, List.nil_append, begK, List.length_nil, Nat.zero_add]
    rfl
  | d :: Q, R, c, a => by
    have e : sumQ (d :: Q) = d.toNat + sumQ Q := rfl
    have ih := begK_app (Q := Q) (R := R) (c := c) (a := a - d.toNat)
    rw [List.cons_append, begK, begK, List.length_cons]
    by_cases h : 0 < a
    · rw [if_pos h, if_pos h, ih]
      by_cases h2 : (sumQ Q : Int) < a - d.toNat
      · rw [if_pos h2, if_pos (by rw [e]; omega), show a - ((sumQ (d :: Q) + c.toNat : Nat) : Int) = a - d.toNat - ((sumQ Q + c.toNat : Nat) : Int) by rw [e]; omega]
        omega
      · rw [if_neg h2, if_neg (by rw [e]; omega)]
    · rw [if_neg h, if_neg h, if_neg (by rw [e]; omega)]
theorem endsK_le : ∀ {Q : List UInt8} {a : Int}, endsK Q a ≤ Q.length
  | [], a => by simp [endsK]
  | c :: Q, a => by
    simp only [endsK, List.length_cons]
    have := endsK_le (Q := Q) (a := a - c.toNat)
    split <;> omega
theorem begK_le : ∀ {Q : List UInt8} {a : Int}, begK Q a ≤ Q.length
  | [], a => by simp [begK]
  | c :: Q, a => by
    simp only [begK, List.length_cons]
    have := begK_le (Q := Q) (a := a - c.toNat)
    split <;> omega
structure CutD (l q l1 q1 l2 q2 : List UInt8) (k : Nat) : Prop where
  l : l = l1 ++ l2
  q : q = q1 ++ q2
  s : l1.length = sumQ q1
  k : q1.length = k
theorem cut_ex {l q : List UInt8} {k : Nat} (h : l.length = sumQ q) (hk : k ≤ q.length) : ∃ l1 q1 l2 q2, CutD l q l1 q1 l2 q2 k := by
  have e := sumQ_app (q.take k) (q.drop k)
  rw [List.take_append_drop] at e
  exact ⟨l.take (sumQ (q.take k)), q.take k, l.drop (sumQ (q.take k)), q.drop k, (List.take_append_drop _ _).symm, (List.take_append_drop _ _).symm, by rw [List.length_take]; omega, by rw [List.length_take]; omega⟩
theorem CutD.uniq {l q l1 q1 l2 q2 m1 r1 m2 r2 : List UInt8} {k : Nat} (h : CutD l q l1 q1 l2 q2 k) (h' : CutD l q m1 r1 m2 r2 k) : l1 = m1 ∧ q1 = r1 ∧ l2 = m2 ∧ q2 = r2 := by
  have e1 := List.append_inj (h.q.symm.trans h'.q) (h.k.trans h'.k.symm)
  have e2 := List.append_inj (h.l.symm.trans h'.l) (by rw [h.s, h'.s, e1.1])
  exact ⟨e2.1, e1.1, e2.2, e1.2⟩
theorem CutD.behind {L o R QL QR l1 q1 l2 q2 : List UInt8} {k : Nat} (h : CutD R QR l1 q1 l2 q2 k) (hL : L.length = sumQ QL) (ho : o.length ≤ 64) : CutD (L ++ o ++ R) (QL ++ UInt8.ofNat o.length :: QR) (L ++ o ++ l1) (QL ++ UInt8.ofNat o.length :: q1) l2 q2 (QL.length + 1 + k) :=
  ⟨by rw [h.l]; simp, by rw [h.q]; simp, by
    simp only [List.length_append, sumQ_app, sumQ, ofNat_le ho, hL, h.s]; omega, by
    simp only [List.length_append, List.length_cons, h.k]; omega⟩
theorem CutD.ahead {L o R QL QR l1 q1 l2 q2 : List UInt8} {k : Nat} (h : CutD L QL l1 q1 l2 q2 k) : CutD (L ++ o ++ R) (QL ++ UInt8.ofNat o.length :: QR) l1 q1 (l2 ++ o ++ R) (q2 ++ UInt8.ofNat o.length :: QR) k :=
  ⟨by rw [h.l]; simp, by rw [h.q]; simp, h.s, h.k⟩
def atL : Lin := lv 8200
def atBd : PC := [atL.add (.mk 64 []), (Lin.mk 2000 []).sub atL]
def kCu : Known := ⟨[tv 0 [.a 20], .x .i64 atL], [(0, hT 241 [.a 20] [.a 21])], 1, capE [.a 20] ++ atBd, .tu [tv 50 [.a 30], tv 51 [.a 32]], [(50, hT 241 [.a 30] [.a 31]), (51, hT 241 [.a 32] [.a 33])], 52, []⟩
def kCu0 : Known := nilCo 0 kCu []
def kCuN : Known := ⟨[.np, .x .i64 atL], [], 1, [], .tu [.np, .np], [], 1, []⟩
def kCu1 : Known := nodCo 0 8 kCu []
def pcA (e : Lin) : PC := nodeP 8 ++ (capE (txt 8) ++ (atBd ++ [e, (lenS [.a 10]).sub (lenS [.a 40])]))
def pcB (e : Lin) : PC := nodeP 8 ++ (capE (txt 8) ++ (atBd ++ [e, (lenS [.a 8]).sub (lenS [.a 42])]))
def kCuA (e : Lin) : Known := nodCo 0 8 kCu (pcA e)
def kCuB (e : Lin) : Known := nodCo 0 8 kCu (pcB e)
def tCuA : Sb := ⟨[(20, [.a 10]), (21, [.a 13]), (30, [.a 40]), (31, [.a 41]), (32, [.a 42]), (33, [.a 43])], [(4100, (atL.sub (lenS [.a 8])).sub (lenS [.a 9]))]⟩
def tCuB : Sb := ⟨[(20, [.a 8]), (21, [.a 11]), (30, [.a 40]), (31, [.a 41]), (32, [.a 42]), (33, [.a 43])], [(4100, atL)]⟩
def rCu (a b c d : Str) : Rules := rlE [([.a 30], a), ([.a 31], b), ([.a 32], c), ([.a 33], d)] [(lenS [.a 30], lenS a), (lenS [.a 32], lenS c)]
def rCuA : Rules := rCu [.a 8, .a 9, .a 40] [.a 11, .a 12, .a 41] [.a 42] [.a 43]
def rCuB : Rules := rCu [.a 40] [.a 41] [.a 42, .a 9, .a 10] [.a 43, .a 12, .a 13]
def smCu (f : Nat) (τ : Sb) : SumT := withF f (cutT rN kCu τ) smP
def endA : Lin := (atL.sub (lenS [.a 8])).sub (lenS [.a 9])
def endB : Lin := endA.not
def begA : Lin := (atL.sub (lenS [.a 8])).sub (.mk 1 [])
def begB : Lin := begA.not
theorem en_0 : runK smZ 184 rN kCuN = true := by kernel_rfl
theorem be_0 : runK smZ 185 rN kCuN = true := by kernel_rfl
theorem en_A : runF (smCu 184 tCuA) 184 q1 rCuA (kCuA endA) = true := by kernel_rfl
theorem en_B : runF (smCu 184 tCuB) 184 q1 rCuB (kCuB endB) = true := by kernel_rfl
theorem be_A : runF (smCu 185 tCuA) 185 q1 rCuA (kCuA begA) = true := by kernel_rfl
theorem be_B : runF (smCu 185 tCuB) 185 q1 rCuB (kCuB begB) = true := by kernel_rfl
theorem cu_c : chkK 0 8 20 21 false kCu kCu0 kCu1 = true := by kernel_rfl
theorem ent_ends : ∀ args w, (callFunc 184 args).run Tryz.prog w = .ok (.enter 184 args) w := enter_run (fn := Tryz.f184) (by kernel_rfl) (by kernel_rfl) rfl
theorem ent_begins : ∀ args w, (callFunc 185 args).run Tryz.prog w = .ok (.enter 185 args) w := enter_run (fn := Tryz.f185) (by kernel_rfl) (by kernel_rfl) rfl
section
variable {ρ : Rho}
theorem KnownOk.pc {P : Program} {f : Nat} {k : Known} {p : PC} (h : KnownOk P f ⟨k.a0, k.l0, k.nx0, p, k.v1, k.l1, k.nx1, k.pc1⟩ ρ) (hp : Sat ρ p) : KnownOk P f k ρ := fun _ => h hp
theorem hid_nil {w : World} {ty : Nat} {L Q : List UInt8} (h1 : L = []) (h2 : Q = []) : Hid [0, ty] w (0, lsE []) L Q := ⟨.lf, lsD_E [], List.nodup_nil, trivial, h1.symm, h2.symm, trivial⟩
theorem cu_nil {f : Nat} (h : KnownOk Tryz.prog f kCuN ρ) (e0 : ρ.s 30 = []) (e1 : ρ.s 31 = []) (e2 : ρ.s 32 = []) (e3 : ρ.s 33 = []) : KnownOk Tryz.prog f kCu0 ρ := fun hs => by
  have g1 := UnfK.get (l := kCu.l1) rfl
  refine CallR.post (r' := ⟨.tu [.np, .np], mkU [] .lf, 1, []⟩) (h sat_nil) (fun θ2 w' v _ hM hfr hv => ?_) sat_nil (by decide) (fun t _ q => ?_)
  · have f50 : θ2 50 = none := hfr 50 (by decide) (by decide)
    have f51 : θ2 51 = none := hfr 51 (by decide) (by decide)
    let θ3 : Th := updT (updT θ2 51 (0, lsE [])) 50 (0, lsE [])
    have h50 : θ3 50 = some (0, lsE []) := rfl
    have h51 : θ3 51 = some (0, lsE []) := rfl
    have own : ∀ {fa : Bool}, ∀ s g, ¬ Own fa θ3 (mkU kCu.l1 .lf).get s g := fun s g ⟨x, y1, y2⟩ => by
      rw [g1] at y2
      have y2 : FtB _ (if s = 51 then some (hT 241 [.a 32] [.a 33]) else if s = 50 then some (hT 241 [.a 30] [.a 31]) else none) x g := y2
      split at y2
      · rename_i e; subst e
        rw [h51] at y1; cases y1
        have y2 : g ∈ lsD (lsE []) := y2
        rw [lsD_E] at y2; cases y2
      · split at y2
        · rename_i e; subst e
          rw [h50] at y1; cases y1
          have y2 : g ∈ lsD (lsE []) := y2
          rw [lsD_E] at y2; cases y2
        · exact y2
    refine ⟨θ3, fun t x hx => ?_, fun t ht => ?_, ⟨fun t b hb => ?_, fun s t g o1 _ => (own s g o1).elim⟩, fun g ⟨s, o⟩ => (own s g o).elim, ?_⟩
    · show (if t = 50 then _ else if t = 51 then _ else θ2 t) = _
      split
      · rename_i e; subst e; rw [f50] at hx; cases hx
      · split
        · rename_i e; subst e; rw [f51] at hx; cases hx
        · exact hx
    · by_cases q1 : t = 50
      · subst q1; exact .inr ⟨by decide, by decide⟩
      · by_cases q2 : t = 51
        · subst q2; exact .inr ⟨by decide, by decide⟩
        · left
          have : θ3 t = θ2 t := by
            show (if t = 50 then _ else if t = 51 then _ else θ2 t) = _
            rw [if_neg q1, if_neg q2]
          rw [← this]; exact ht
    · have hb : (mkU kCu.l1 .lf).get t = some b := hb
      rw [g1] at hb
      have hb : (if t = 51 then some (hT 241 [.a 32] [.a 33]) else if t = 50 then some (hT 241 [.a 30] [.a 31]) else none) = some b := hb
      split at hb
      · rename_i e; subst e; cases hb
        exact ⟨_, h51, hid_nil ((denA 32).trans e2) ((denA 33).trans e3)⟩
      · split at hb
        · rename_i e; subst e; cases hb
          exact ⟨_, h50, hid_nil ((denA 30).trans e0) ((denA 31).trans e1)⟩
        · cases hb
    · rw [← hv]
      show den ρ θ3 (.tu [tv 50 [.a 30], tv 51 [.a 32]]) = den ρ θ2 (.tu [.np, .np])
      simp only [den, dens, tv, h50, h51, lenA, e0, e2]
      rfl
  · have q : (mkU kCu.l1 .lf).get t ≠ none := q
    rw [g1] at q
    have q : (if t = 51 then some (hT 241 [.a 32] [.a 33]) else if t = 50 then some (hT 241 [.a 30] [.a 31]) else none) ≠ none := q
    show 1 ≤ t ∧ t < 52
    split at q
    · omega
    · split at q
      · omega
      · exact absurd rfl q
def CutR (ρ : Rho) (k : Nat) : Prop := CutD (ρ.s 20) (ρ.s 21) (ρ.s 30) (ρ.s 31) (ρ.s 32) (ρ.s 33) k
structure PartF (f : Nat) (K : List UInt8 → Int → Nat) (eA : Lin) (gA : Int → Int → Int → Int) : Prop where
  ent : ∀ args w, (callFunc f args).run Tryz.prog w = .ok (.enter f args) w
  r0 : runK smZ f rN kCuN = true
  rA : runF (smCu f tCuA) f q1 rCuA (kCuA eA) = true
  rB : runF (smCu f tCuB) f q1 rCuB (kCuB eA.not) = true
  le : ∀ {Q : List UInt8} {a : Int}, K Q a ≤ Q.length
  dA : ∀ ρ : Rho, eA.den ρ = gA (ρ.s 8).length (ρ.s 9).length (ρ.v 4100)
  app : ∀ (L o QL QR : List UInt8) (a : Int), o.length ≤ 64 → L.length = sumQ QL → K (QL ++ UInt8.ofNat o.length :: QR) a = if 0 ≤ gA L.length o.length a then QL.length + 1 + K QR (a - L.length - o.length) else K QL a
theorem rCu_ok {a b c d : Str} (h1 : ρ.s 30 = denS ρ a) (h2 : ρ.s 31 = denS ρ b) (h3 : ρ.s 32 = denS ρ c) (h4 : ρ.s 33 = denS ρ d) : RulesOk ρ (rCu a b c d) :=
  rlE_ok (fun x h => by
    simp only [List.mem_cons, List.not_mem_nil, or_false] at h
    rcases h with rfl | rfl | rfl | rfl
    · rw [denA, h1]
    · rw [denA, h2]
    · rw [denA, h3]
    · rw [denA, h4]) fun x h => by
    simp only [List.mem_cons, List.not_mem_nil, or_false] at h
    rcases h with rfl | rfl
    · show (lenS _).den ρ = (lenS _).den ρ
      rw [lenS_den, lenS_den, denA, h1]
    · show (lenS _).den ρ = (lenS _).den ρ
      rw [lenS_den, lenS_den, denA, h3]
theorem atL_den : atL.den ρ = ρ.v 4100 := lvv 4100
theorem part_ok {f : Nat} {K : List UInt8 → Int → Nat} {eA : Lin} {gA : Int → Int → Int → Int} (F : PartF f K eA gA) : ∀ (N : Nat) (ρ : Rho), (ρ.s 21).length < N → CutR ρ (K (ρ.s 21) (ρ.v 4100)) → KnownOk Tryz.prog f kCu ρ
  | 0, ρ, h, _ => by omega
  | N + 1, ρ, hN, hc => by
    refine unf_co F.ent (UnfK.co rfl cu_c) ⟨rfl, rfl, rfl, rfl⟩ (fun _ => sat_nil) (fun e1 e2 h0 => ?_) fun o L R QL QR p e1 e2 e3 e4 e5 e6 h0 => ?_
    · have h1 := hc.l
      have h2 := hc.q
      rw [e1] at h1
      rw [e2] at h2
      have h1 := List.append_eq_nil_iff.1 h1.symm
      have h2 := List.append_eq_nil_iff.1 h2.symm
      exact ⟨cu_nil (runK_ok (smZ_ok ρ) rN_okA F.r0) h1.1 h2.1 h1.2 h2.2, sat_nil⟩
    · have hcap : Sat ρ (capE [.a 20]) := fun e he => h0 e (List.mem_append_left _ he)
      have hat : Sat ρ atBd := fun e he => h0 e (List.mem_append_right _ he)
      have hlq := congrArg List.length e2
      simp only [List.length_append, List.length_cons] at hlq
      have hcl := hc
      unfold CutR at hcl
      rw [e1, e2, F.app L o QL QR _ e3.2 e5] at hcl
      by_cases hA : 0 ≤ gA L.length o.length (ρ.v 4100)
      · rw [if_pos hA] at hcl
        obtain ⟨l1, q1', l2, q2, hx⟩ := cut_ex e6 (F.le (Q := QR) (a := ρ.v 4100 - L.length - o.length))
        obtain ⟨u1, u2, u3, u4⟩ := hcl.uniq (hx.behind (o := o) e5 e3.2)
        have A := agr_of (ρ := ρ) (b := 8) (tal := false) (L := L) (o := o) (R := R) (QL := QL) (QR := QR) (p := p) (l := [(40, l1), (41, q1'), (42, l2), (43, q2)]) (v := []) (fun x h => by cases h) (fun h => by cases h) (fun x h => by
          simp only [List.mem_cons, List.not_mem_nil, or_false] at h
          rcases h with rfl | rfl | rfl | rfl <;> simp)
        have D := nodeD_of (ρ := ρ) (b := 8) (L := L) (o := o) (R := R) (QL := QL) (QR := QR) (p := p) (l := [(40, l1), (41, q1'), (42, l2), (43, q2)]) (v := []) (by decide)
        have s40 : (rhoU ρ (nodeU 8 L o R QL QR ++ [(40, l1), (41, q1'), (42, l2), (43, q2)]) [(900 + 8, p)]).s 40 = l1 := rfl
        have s41 : (rhoU ρ (nodeU 8 L o R QL QR ++ [(40, l1), (41, q1'), (42, l2), (43, q2)]) [(900 + 8, p)]).s 41 = q1' := rfl
        have s42 : (rhoU ρ (nodeU 8 L o R QL QR ++ [(40, l1), (41, q1'), (42, l2), (43, q2)]) [(900 + 8, p)]).s 42 = l2 := rfl
        have s43 : (rhoU ρ (nodeU 8 L o R QL QR ++ [(40, l1), (41, q1'), (42, l2), (43, q2)]) [(900 + 8, p)]).s 43 = q2 := rfl
        revert A D s40 s41 s42 s43
        generalize rhoU ρ (nodeU 8 L o R QL QR ++ [(40, l1), (41, q1'), (42, l2), (43, q2)]) [(900 + 8, p)] = ρ1
        intro A D s40 s41 s42 s43
        have d8 : ρ1.s 8 = L := D.fl
        have d9 : ρ1.s 9 = o := D.fo
        have d10 : ρ1.s 10 = R := D.fr
        have d11 : ρ1.s 11 = QL := D.fql
        have d12 : ρ1.s 12 = [UInt8.ofNat o.length] := D.fol
        have d13 : ρ1.s 13 = QR := D.fqr
        have dv : ρ1.v 4100 = ρ.v 4100 := A.v 4100 (by decide)
        have ev : ((atL.sub (lenS [.a 8])).sub (lenS [.a 9])).den ρ1 = ρ.v 4100 - L.length - o.length := by
          rw [sub_den, sub_den, atL_den, lenA, lenA, d8, d9, dv]
        refine ⟨ρ1, A, D, KnownOk.pc (p := pcA eA) (runF_ok D.tal D.q (withF_ok (smP_ok D.tal) (cutT_ok (part_ok F N (rhoS tCuA ρ1) ?_ ?_))) (rCu_ok ?_ ?_ ?_ ?_) F.rA) ?_, sat_nil⟩
        · show (denS ρ1 [.a 13]).length < N
          rw [denA, d13]; omega
        · show CutD (denS ρ1 [.a 10]) (denS ρ1 [.a 13]) (denS ρ1 [.a 40]) (denS ρ1 [.a 41]) (denS ρ1 [.a 42]) (denS ρ1 [.a 43]) (K (denS ρ1 [.a 13]) (((atL.sub (lenS [.a 8])).sub (lenS [.a 9])).den ρ1))
          rw [ev]
          simp only [denA, d10, d13, s40, s41, s42, s43]
          exact hx
        · rw [A.s 30 (by decide) (by decide), u1]; simp [den1, denN, d8, d9, s40]
        · rw [A.s 31 (by decide) (by decide), u2]; simp [den1, denN, d11, d12, s41]
        · rw [A.s 32 (by decide) (by decide), u3, denA, s42]
        · rw [A.s 33 (by decide) (by decide), u4, denA, s43]
        · refine sat_app (D.sat e3 e4) (sat_app (cap_of hcap ?_) (sat_app (sat_agr A rfl hat) (sat_cons ?_ (sat_cons ?_ sat_nil))))
          · rw [D.txt, denA, e1]; exact Nat.le_refl _
          · rw [F.dA, d8, d9, dv]; exact hA
          · rw [sub_den, lenA, lenA, d10, s40, hx.l, List.length_append]; omega
      · rw [if_neg hA] at hcl
        obtain ⟨l1, q1', l2, q2, hx⟩ := cut_ex e5 (F.le (Q := QL) (a := ρ.v 4100))
        obtain ⟨u1, u2, u3, u4⟩ := hcl.uniq (hx.ahead (o := o) (R := R) (QR := QR))
        have A := agr_of (ρ := ρ) (b := 8) (tal := false) (L := L) (o := o) (R := R) (QL := QL) (QR := QR) (p := p) (l := [(40, l1), (41, q1'), (42, l2), (43, q2)]) (v := []) (fun x h => by cases h) (fun h => by cases h) (fun x h => by
          simp only [List.mem_cons, List.not_mem_nil, or_false] at h
          rcases h with rfl | rfl | rfl | rfl <;> simp)
        have D := nodeD_of (ρ := ρ) (b := 8) (L := L) (o := o) (R := R) (QL := QL) (QR := QR) (p := p) (l := [(40, l1), (41, q1'), (42, l2), (43, q2)]) (v := []) (by decide)
        have s40 : (rhoU ρ (nodeU 8 L o R QL QR ++ [(40, l1), (41, q1'), (42, l2), (43, q2)]) [(900 + 8, p)]).s 40 = l1 := rfl
        have s41 : (rhoU ρ (nodeU 8 L o R QL QR ++ [(40, l1), (41, q1'), (42, l2), (43, q2)]) [(900 + 8, p)]).s 41 = q1' := rfl
        have s42 : (rhoU ρ (nodeU 8 L o R QL QR ++ [(40, l1), (41, q1'), (42, l2), (43, q2)]) [(900 + 8, p)]).s 42 = l2 := rfl
        have s43 : (rhoU ρ (nodeU 8 L o R QL QR ++ [(40, l1), (41, q1'), (42, l2), (43, q2)]) [(900 + 8, p)]).s 43 = q2 := rfl
        revert A D s40 s41 s42 s43
        generalize rhoU ρ (nodeU 8 L o R QL QR ++ [(40, l1), (41, q1'), (42, l2), (43, q2)]) [(900 + 8, p)] = ρ1
        intro A D s40 s41 s42 s43
        have d8 : ρ1.s 8 = L := D.fl
        have d9 : ρ1.s 9 = o := D.fo
        have d10 : ρ1.s 10 = R := D.fr
        have d11 : ρ1.s 11 = QL := D.fql
        have d12 : ρ1.s 12 = [UInt8.ofNat o.length] := D.fol
        have d13 : ρ1.s 13 = QR := D.fqr
        have dv : ρ1.v 4100 = ρ.v 4100 := A.v 4100 (by decide)
        refine ⟨ρ1, A, D, KnownOk.pc (p := pcB eA.not) (runF_ok D.tal D.q (withF_ok (smP_ok D.tal) (cutT_ok (part_ok F N (rhoS tCuB ρ1) ?_ ?_))) (rCu_ok ?_ ?_ ?_ ?_) F.rB) ?_, sat_nil⟩
        · show (denS ρ1 [.a 11]).length < N
          rw [denA, d11]; omega
        · show CutD (denS ρ1 [.a 8]) (denS ρ1 [.a 11]) (denS ρ1 [.a 40]) (denS ρ1 [.a 41]) (denS ρ1 [.a 42]) (denS ρ1 [.a 43]) (K (denS ρ1 [.a 11]) (atL.den ρ1))
          rw [atL_den, dv]
          simp only [denA, d8, d11, s40, s41, s42, s43]
          exact hx
        · rw [A.s 30 (by decide) (by decide), u1, denA, s40]
        · rw [A.s 31 (by decide) (by decide), u2, denA, s41]
        · rw [A.s 32 (by decide) (by decide), u3]; simp [den1, denN, d9, d10, s42]
        · rw [A.s 33 (by decide) (by decide), u4]; simp [den1, denN, d12, d13, s43]
        · refine sat_app (D.sat e3 e4) (sat_app (cap_of hcap ?_) (sat_app (sat_agr A rfl hat) (sat_cons ?_ (sat_cons ?_ sat_nil))))
          · rw [D.txt, denA, e1]; exact Nat.le_refl _
          · rw [not_den, F.dA, d8, d9, dv]; omega
          · rw [sub_den, lenA, lenA, d8, s42, hx.l, List.length_append]; omega
theorem endsF : PartF 184 endsK endA (fun l o a => a - l - o) :=
  ⟨ent_ends, en_0, en_A, en_B, endsK_le, fun ρ => by show ((atL.sub (lenS [.a 8])).sub (lenS [.a 9])).den ρ = _; rw [sub_den, sub_den, atL_den, lenA, lenA], fun L o QL QR a h1 h2 => by
    rw [endsK_app, ofNat_le h1]
    by_cases h : ((sumQ QL + o.length : Nat) : Int) ≤ a
    · rw [if_pos h, if_pos (by omega), show a - ((sumQ QL + o.length : Nat) : Int) = a - L.length - o.length by omega]
    · rw [if_neg h, if_neg (by omega)]⟩
theorem begsF : PartF 185 begK begA (fun l o a => a - l - 1) :=
  ⟨ent_begins, be_0, be_A, be_B, begK_le, fun ρ => by show ((atL.sub (lenS [.a 8])).sub (.mk 1 [])).den ρ = _; rw [sub_den, sub_den, atL_den, lenA, const_den], fun L o QL QR a h1 h2 => by
    rw [begK_app, ofNat_le h1]
    by_cases h : ((sumQ QL : Nat) : Int) < a
    · rw [if_pos h, if_pos (by omega), show a - ((sumQ QL + o.length : Nat) : Int) = a - L.length - o.length by omega]
    · rw [if_neg h, if_neg (by omega)]⟩
end
end X
end Go.Proofs.YtebfahobllghnaaGreatDoor
namespace Go.Proofs.YtebfahobllghnaaGreatDoor
namespace X
open Go.RowKit B
set_option maxRecDepth 1000000
def kLyN : Known := ⟨[tv 0 [.a 20], .ns, .i .i64 (.ofNat 0), xs [.a 20]], [(0, hT 241 [.a 20] [.a 21])], 1, le1 [.a 20] :: capE [.a 20], .sb 50 [.a 20], [(0, hT 241 [.a 20] [.a 21]), (50, .bt 5 [.a 20])], 51, []⟩
def kLyB : Known := ⟨[tv 0 [.a 20], .sb 1 [.a 26], .i .i64 (.ofNat 0), xs [.a 20]], [(0, hT 241 [.a 20] [.a 21]), (1, .bt 5 [.a 26])], 2, le1 [.a 20] :: capE [.a 26, .a 20], .sb 50 [.a 26, .a 20], [(0, hT 241 [.a 20] [.a 21]), (50, .bt 5 [.a 26, .a 20])], 51, []⟩
def eqLn (a b : Lin) : PC := [a.sub b, b.sub a]
def kLyN0 : Known := nilRo 0 kLyN []
def kLyB0 : Known := nilRo 0 kLyB []
def kLyN1 : Known := nodRo 0 8 kLyN (nodeP 8 ++ (capE (txt 8) ++ eqLn (lenS [.a 20]) (lenS (txt 8))))
def kLyB1 : Known := nodRo 0 8 kLyB (nodeP 8 ++ (capE (.a 26 :: txt 8) ++ eqLn (lenS [.a 20]) (lenS (txt 8))))
def rLy (x : Str) : Rules := ⟨[([], appL x [.a 20], appL x (txt 8)), (eq0 [.a 8] ++ eq0 [.a 10], appL x [.a 20], appL x [.a 9]), (eq0 [.a 8], appL x [.a 20], appL x [.a 9, .a 10]), (eq0 [.a 10], appL x [.a 20], appL x [.a 8, .a 9])], []⟩
def sLyI : SumF := fun args m nx pc K => match args with
  | [.tp t _, .ns, _, _] => match m.get t with
    | some (.hb _ l _) => match eqStr l [.a 8] with
      | true => cutT rN kLyN ⟨[(20, [.a 8]), (21, [.a 11])], []⟩ args m nx pc K
      | false => cutT rN kLyN ⟨[(20, [.a 10]), (21, [.a 13])], []⟩ args m nx pc K
    | _ => false
  | [.tp t _, .sb _ x, _, _] => match m.get t with
    | some (.hb _ l _) => match eqStr l [.a 8] with
      | true => cutT rN kLyB ⟨[(20, [.a 8]), (21, [.a 11]), (26, x)], []⟩ args m nx pc K
      | false => cutT rN kLyB ⟨[(20, [.a 10]), (21, [.a 13]), (26, x)], []⟩ args m nx pc K
    | _ => false
  | _ => false
def smLy : SumT := withF 135 sLyI smP
theorem ly_n : runK smLy 135 (rLy []) kLyN1 = true := by kernel_rfl
theorem ly_b : runK smLy 135 (rLy [.a 26]) kLyB1 = true := by kernel_rfl
theorem ly_cn : chkK 0 8 20 21 false kLyN kLyN0 kLyN1 = true := by kernel_rfl
theorem ly_cb : chkK 0 8 20 21 false kLyB kLyB0 kLyB1 = true := by kernel_rfl
theorem ent_lay : ∀ args w, (callFunc 135 args).run Tryz.prog w = .ok (.enter 135 args) w := enter_run (fn := Tryz.f135) (by kernel_rfl) (by kernel_rfl) rfl
def kTx : Known := ⟨[tv 0 [.a 20], .i .i64 (.ofNat 0), xs [.a 20]], [(0, hT 241 [.a 20] [.a 21])], 1, capE [.a 20], .s [.a 20], [(0, hT 241 [.a 20] [.a 21])], 51, []⟩
def kTxP (p : PC) : Known := ⟨kTx.a0, kTx.l0, 1, p, kTx.v1, kTx.l1, 51, []⟩
def sLy : SumF := fun args m nx pc K => match args with
  | [.tp t _, .ns, _, _] => match m.get t with
    | some (.hb _ l q) => cutT rN kLyN ⟨[(20, l), (21, q)], []⟩ args m nx pc K
    | _ => false
  | _ => false
theorem tx_0 : runK smZ 82 (rlE [([.a 20], [])] []) (kTxP (eq0 [.a 20])) = true := by kernel_rfl
theorem tx_1 : runK (withF 135 sLy smZ) 82 rN (kTxP (le1 [.a 20] :: capE [.a 20])) = true := by kernel_rfl
section
variable {ρ : Rho}
theorem zero_of {i : Nat} {g : PC} (h : Sat ρ g) (hg : (Lin.mk 0 []).sub (lenS [.a i]) ∈ g) : ρ.s i = [] := by
  have := h _ hg
  rw [sub_den, const_den, lenA] at this
  exact List.eq_nil_of_length_eq_zero (by omega)
theorem rLy_ok {x : Str} (e : ρ.s 20 = ρ.s 8 ++ ρ.s 9 ++ ρ.s 10) : RulesOk ρ (rLy x) := by
  refine ⟨fun g a b h hg => ?_, fun g a b h _ => by cases h⟩
  simp only [rLy, List.mem_cons, List.not_mem_nil, or_false, Prod.mk.injEq] at h
  rcases h with ⟨rfl, rfl, rfl⟩ | ⟨rfl, rfl, rfl⟩ | ⟨rfl, rfl, rfl⟩ | ⟨rfl, rfl, rfl⟩
  · simp only [appL_app, denS_app, denA, e]
    show _ = _ ++ (ρ.s 8 ++ (ρ.s 9 ++ (ρ.s 10 ++ [])))
    simp
  · have h1 := zero_of (i := 8) hg (by simp [eq0])
    have h2 := zero_of (i := 10) hg (by simp [eq0])
    simp only [appL_app, denS_app, denA, e, h1, h2]
    simp
  · have h1 := zero_of (i := 8) hg (by simp [eq0])
    simp only [appL_app, denS_app, denA, e, h1]
    show _ = _ ++ (ρ.s 9 ++ (ρ.s 10 ++ []))
    simp
  · have h2 := zero_of (i := 10) hg (by simp [eq0])
    simp only [appL_app, denS_app, denA, e, h2]
    show _ = _ ++ (ρ.s 8 ++ (ρ.s 9 ++ []))
    simp
theorem sLyI_ok (h1 : ∀ τ : Sb, (denS ρ (fndS τ.s 21)) = ρ.s 11 ∨ (denS ρ (fndS τ.s 21)) = ρ.s 13 → KnownOk Tryz.prog 135 kLyN (rhoS τ ρ) ∧ KnownOk Tryz.prog 135 kLyB (rhoS τ ρ)) : CallY Tryz.prog ρ 135 sLyI := CallY.of fun args m nx pc hs => by
  unfold sLyI
  split
  · split
    · split
      · exact ⟨_, cutT_ok (h1 _ (.inl (denA 11))).1, fun K => rfl⟩
      · exact ⟨_, cutT_ok (h1 _ (.inr (denA 13))).1, fun K => rfl⟩
    · exact ⟨_, CallY.no, fun K => rfl⟩
  · split
    · split
      · exact ⟨_, cutT_ok (h1 _ (.inl (denA 11))).2, fun K => rfl⟩
      · exact ⟨_, cutT_ok (h1 _ (.inr (denA 13))).2, fun K => rfl⟩
    · exact ⟨_, CallY.no, fun K => rfl⟩
  · exact ⟨_, CallY.no, fun K => rfl⟩
theorem le1_not {i : Nat} {l : PC} (h : Sat ρ (le1 [.a i] :: l)) (e : ρ.s i = []) : False := by
  have := h _ List.mem_cons_self
  rw [le1, sub_den, const_den, lenA, e] at this
  simp at this
theorem ly_ok : ∀ (N : Nat) (ρ : Rho), (ρ.s 21).length < N → KnownOk Tryz.prog 135 kLyN ρ ∧ KnownOk Tryz.prog 135 kLyB ρ
  | 0, ρ, h => by omega
  | N + 1, ρ, hN => by
    have key : ∀ {ρ1 : Rho} {L o R QL QR : List UInt8} {p : Int}, ρ.s 21 = QL ++ UInt8.ofNat o.length :: QR → NodeD ρ1 8 L o R QL QR p → SumOk Tryz.prog ρ1 smLy := fun {ρ1 L o R QL QR p} e2 D => withF_ok (smP_ok D.tal) (sLyI_ok fun τ h => ly_ok N _ (by
      have l2 := congrArg List.length e2
      simp only [List.length_append, List.length_cons] at l2
      have d11 : ρ1.s 11 = QL := D.fql
      have d13 : ρ1.s 13 = QR := D.fqr
      show (denS ρ1 (fndS τ.s 21)).length < N
      rcases h with h | h
      · rw [h, d11]; omega
      · rw [h, d13]; omega))
    constructor
    · refine unf_ro ent_lay (UnfK.ro rfl ly_cn) ⟨rfl, rfl, rfl, by kernel_rfl⟩ (fun _ => sat_nil) (fun e1 e2 h0 => (le1_not h0 e1).elim) fun o L R QL QR p e1 e2 e3 e4 e5 e6 h0 => ?_
      obtain ⟨ρ1, A, D⟩ := new_rho (ρ := ρ) 8 false (fun h => by cases h) (by decide) L o R QL QR p
      have d8 : ρ1.s 8 = L := D.fl
      have d9 : ρ1.s 9 = o := D.fo
      have d10 : ρ1.s 10 = R := D.fr
      have a20 : ρ1.s 20 = L ++ o ++ R := (A.s 20 (by decide) (by decide)).trans e1
      refine ⟨ρ1, A, D, runK_ok (key e2 D) (rLy_ok (by rw [a20, d8, d9, d10])) ly_n, sat_app (D.sat e3 e4) (sat_app (cap_of (l := [.a 20]) (fun e he => h0 e (List.mem_cons_of_mem _ he)) ?_) (sat_cons ?_ (sat_cons ?_ sat_nil)))⟩
      · rw [D.txt, denA, e1]; exact Nat.le_refl _
      · rw [sub_den, lenS_den, lenS_den, D.txt, denA, a20]; omega
      · rw [sub_den, lenS_den, lenS_den, D.txt, denA, a20]; omega
    · refine unf_ro ent_lay (UnfK.ro rfl ly_cb) ⟨rfl, rfl, rfl, by kernel_rfl⟩ (fun _ => sat_nil) (fun e1 e2 h0 => (le1_not h0 e1).elim) fun o L R QL QR p e1 e2 e3 e4 e5 e6 h0 => ?_
      obtain ⟨ρ1, A, D⟩ := new_rho (ρ := ρ) 8 false (fun h => by cases h) (by decide) L o R QL QR p
      have d8 : ρ1.s 8 = L := D.fl
      have d9 : ρ1.s 9 = o := D.fo
      have d10 : ρ1.s 10 = R := D.fr
      have a20 : ρ1.s 20 = L ++ o ++ R := (A.s 20 (by decide) (by decide)).trans e1
      have a26 : ρ1.s 26 = ρ.s 26 := A.s 26 (by decide) (by decide)
      refine ⟨ρ1, A, D, runK_ok (key e2 D) (rLy_ok (by rw [a20, d8, d9, d10])) ly_b, sat_app (D.sat e3 e4) (sat_app (cap_of (l := [.a 26, .a 20]) (fun e he => h0 e (List.mem_cons_of_mem _ he)) ?_) (sat_cons ?_ (sat_cons ?_ sat_nil)))⟩
      · show (ρ1.s 26 ++ denS ρ1 (txt 8)).length ≤ _
        rw [D.txt]
        simp only [den1, denN, e1, a26, List.append_nil]; exact Nat.le_refl _
      · rw [sub_den, lenS_den, lenS_den, D.txt, denA, a20]; omega
      · rw [sub_den, lenS_den, lenS_den, D.txt, denA, a20]; omega
theorem sLy_ok : CallY Tryz.prog ρ 135 sLy := CallY.of fun args m nx pc hs => by
  unfold sLy
  split
  · split
    · exact ⟨_, cutT_ok (ly_ok _ _ (Nat.lt_succ_self _)).1, fun K => rfl⟩
    · exact ⟨_, CallY.no, fun K => rfl⟩
  · exact ⟨_, CallY.no, fun K => rfl⟩
theorem kTx_ok : KnownOk Tryz.prog 82 kTx ρ := fun h0 => by
  by_cases e : ρ.s 20 = []
  · refine KnownOk.pc (k := kTx) (p := eq0 [.a 20]) (runK_ok (k := kTxP (eq0 [.a 20])) (smZ_ok ρ) (rlE_ok (fun x h => ?_) fun x h => by cases h) tx_0) (sat_cons (by rw [sub_den, const_den, lenA, e]; simp) sat_nil) h0
    simp only [List.mem_cons, List.not_mem_nil, or_false] at h
    subst h
    rw [denA, e]; rfl
  · refine KnownOk.pc (k := kTx) (p := le1 [.a 20] :: capE [.a 20]) (runK_ok (k := kTxP (le1 [.a 20] :: capE [.a 20])) (withF_ok (smZ_ok ρ) sLy_ok) rN_okA tx_1) (sat_cons ?_ h0) h0
    have : 0 < (ρ.s 20).length := List.length_pos_iff.2 e
    rw [le1, sub_den, const_den, lenA]; omega
def sTx : SumF := fun args m nx pc K => match args with
  | [.tp t _, _, _] => match m.get t with
    | some (.hb _ l q) => cutT rN kTx ⟨[(20, l), (21, q)], []⟩ args m nx pc K
    | _ => false
  | _ => false
theorem sTx_ok : CallY Tryz.prog ρ 82 sTx := CallY.of fun args m nx pc hs => by
  unfold sTx
  split
  · split
    · exact ⟨_, cutT_ok kTx_ok, fun K => rfl⟩
    · exact ⟨_, CallY.no, fun K => rfl⟩
  · exact ⟨_, CallY.no, fun K => rfl⟩
end
end X
end Go.Proofs.YtebfahobllghnaaGreatDoor
namespace Go.Proofs.YtebfahobllghnaaGreatDoor
namespace X
open Go.RowKit B
set_option maxRecDepth 1000000
def sameAX : AX → AX → Bool
  | .normal, .normal => true
  | .ret, .ret => true
  | .exit i, .exit j => Nat.beq i j
  | _, _ => false
theorem sameAX_ok {a b : AX} (h : sameAX a b = true) : a = b := by
  cases a <;> cases b <;> first | rfl | (simp [sameAX] at h; done) | skip
  simp only [sameAX, Nat.beq_eq] at h
  rw [h]
noncomputable def evTo (sm : SumT) (c : Code) (s0 : SL) (l0 : ML) (lo hi : Nat) (pc : PC) (e : AX) (rs : Rules) (T : TS) : Bool := statF lo hi T && (mkV s0 .lf fun s => mkK l0 .lf fun m => ev Tryz.prog sm 1000000 c s m lo pc fun e' s' m' nx' pc' => Nat.ble nx' hi && sameAX e' e && landF rs lo s' m' pc' T)
theorem ev_to {ρ : Rho} {sm : SumT} {c : Code} {s0 : SL} {l0 : ML} {lo hi n : Nat} {pc : PC} {e : AX} {rs : Rules} {T : TS} (hk : evTo sm c s0 l0 lo hi pc e rs T = true) (hsm : SumOk Tryz.prog ρ sm) (hr : RulesOk ρ rs) (hs : Sat ρ pc) (hd : dstOk n c = true) {a : Act} {w : World} {θ : Th}
    (hA : At ρ n (mkUV s0 .lf) (mkU l0 .lf) a w θ) (hfr : ∀ t, lo ≤ t → t < hi → θ t = none) : Goes Tryz.prog c (fun e' a' w' => exIs e e' ∧ Sat ρ T.pc ∧ ∃ θ', At ρ n (mkUV T.s .lf) (mkU T.l .lf) a' w' θ' ∧ SP ρ lo T.nx θ (mkU l0 .lf).get w θ' (mkU T.l .lf).get w') a w := by
  unfold evTo at hk
  rw [Bool.and_eq_true] at hk
  obtain ⟨hst, hk⟩ := hk
  obtain ⟨h1, h2, _, _⟩ := statF_ok hst
  have hev := (mkK_get (mkV_get hk).1).1
  obtain ⟨⟨e', o⟩, hro, hk', _⟩ := ev_yl mixJ hsm 1000000 n c (mkUV s0 .lf) (mkU l0 .lf) lo pc hs hd (fun r => Nat.ble r.2.nx hi && sameAX r.1 e && landF rs lo r.2.s r.2.m r.2.pc T) hev
  simp only [Bool.and_eq_true, Nat.ble_eq] at hk'
  obtain ⟨⟨hle, hx⟩, hl⟩ := hk'
  have hx := sameAX_ok hx
  obtain ⟨hl, hS1⟩ := mkV_told hl
  obtain ⟨hl, hT1⟩ := mkK_told hl
  obtain ⟨al, hmt⟩ := match_ok (n := n) (hi := hi) hro.pc hr (T := T) hT1 hS1 h2 hl
  refine (hro.run a w θ hA fun t q1 q2 => hfr t q1 (by have q2 : t < o.nx := q2; have : o.nx ≤ hi := hle; omega)).mono fun e2 a' w' ⟨he, θ1, hA1, hsp1⟩ => ?_
  rw [← hx]
  exact ⟨he, hmt.pc, _, hmt.at_ a' w' θ1 hA1, hmt.sp hA1 (hsp1.wk (Nat.le_refl _) hle) (Nat.le_refl _) h1 hfr⟩
def fstQ : List UInt8 → Nat
  | [] => 0
  | c :: _ => c.toNat
def lstQ : List UInt8 → Nat
  | [] => 0
  | c :: l => match l with
    | [] => c.toNat
    | l => lstQ l
def wK : Bool → List UInt8 → Nat
  | true => fstQ
  | false => lstQ
def wc : Bool → Nat
  | true => 8
  | false => 10
def wq : Bool → Nat
  | true => 11
  | false => 13
def wt : Bool → Nat
  | true => 2
  | false => 3
def pkQ : Bool → List UInt8 → List UInt8 → List UInt8
  | true, l, _ => l
  | false, _, r => r
theorem lstQ_app : ∀ (Q : List UInt8) (c : UInt8) (R : List UInt8), lstQ (Q ++ c :: R) = lstQ (c :: R)
  | [], c, R => rfl
  | d :: Q, c, R => by
    have ih := lstQ_app Q c R
    rw [List.cons_append]
    cases Q with
    | nil => rfl
    | cons x Q => exact ih
theorem wK_app (sd : Bool) (QL QR : List UInt8) (c : UInt8) : wK sd (QL ++ c :: QR) = match pkQ sd QL QR with
    | [] => c.toNat
    | q => wK sd q := by
  cases sd with
  | true =>
    cases QL with
    | nil => rfl
    | cons d QL => rfl
  | false =>
    show lstQ _ = _
    rw [lstQ_app]
    cases QR with
    | nil => rfl
    | cons d QR => rfl
def wkS0 : SL := [(0, tv 0 [.a 20])]
def wkL0 : ML := [(0, hT 241 [.a 20] [.a 21])]
def wkT : TS := ⟨wkS0, wkL0, [], 1⟩
def wkN : TS := ⟨[(0, .p 1 0)], nodeL 1 8, [], 4⟩
def wkC (sd : Bool) : TS := ⟨[(0, .tp (wt sd) (lenS [.a (wc sd)]))], nodeL 1 8, [], 4⟩
def wkE : TS := ⟨[(2, xs [.a 9])], nodeL 1 8, [], 4⟩
structure WkF (sd : Bool) (f : Nat) (fn : Func) (c0 body c1 : Code) : Prop where
  hf : Tryz.prog.funcs[f]? = some fn
  hn : (fn.name == "runtime.NumGoroutine") = false
  hb : fn.body = some (.seq c0 (.seq (.block 0 (.loop body)) c1))
  nt : fn.ntmps = 17
  d0 : dstOk 17 c0 = true
  db : dstOk 17 body = true
  d1 : dstOk 17 c1 = true
  k0 : evTo smZ c0 wkS0 wkL0 1 60 [] .normal rN wkT = true
  kg : evTo smZ body wkN.s wkN.l 4 60 [le1 [.a (wc sd)]] .normal rN (wkC sd) = true
  ke : evTo smZ body wkN.s wkN.l 4 60 (eq0 [.a (wc sd)]) (.exit 0) rN wkN = true
  k1 : evTo smZ c1 wkN.s wkN.l 4 60 [] .ret rN wkE = true
  kr : resC Tryz.prog (mkUV wkE.s .lf) (mkU wkE.l .lf) fn.results.toList (fun vs => match vs with
    | [.x .i64 e] => eqLin e (lenS [.a 9])
    | _ => false) = true
noncomputable def cutB (c : Option Code) : Code × Code × Code := match c with
  | some (.seq c0 (.seq (.block _ (.loop body)) c1)) => (c0, body, c1)
  | _ => (.skip, .skip, .skip)
theorem firstF : WkF true 182 Tryz.f182 (cutB Tryz.f182.body).1 (cutB Tryz.f182.body).2.1 (cutB Tryz.f182.body).2.2 :=
  ⟨by kernel_rfl, by kernel_rfl, by kernel_rfl, by kernel_rfl, by kernel_rfl, by kernel_rfl, by kernel_rfl, by kernel_rfl, by kernel_rfl, by kernel_rfl, by kernel_rfl, by kernel_rfl⟩
theorem lastF : WkF false 181 Tryz.f181 (cutB Tryz.f181.body).1 (cutB Tryz.f181.body).2.1 (cutB Tryz.f181.body).2.2 :=
  ⟨by kernel_rfl, by kernel_rfl, by kernel_rfl, by kernel_rfl, by kernel_rfl, by kernel_rfl, by kernel_rfl, by kernel_rfl, by kernel_rfl, by kernel_rfl, by kernel_rfl, by kernel_rfl⟩
section
variable {ρ : Rho}
theorem hid_no {w : World} {ty : Nat} {x : Nat × Nat} {Q : List UInt8} (h : Hid [0, ty] w x [] Q) : Q = [] := by
  obtain ⟨d, _, _, h2, h3, h4, _⟩ := h
  rw [TreeT.nil h2] at h3
  subst h3
  exact h4.symm
theorem getL {l : ML} (h : mkK l .lf (fun _ => true) = true) (t : Nat) : (mkU l .lf).get t = lookU l t none := UnfK.get h t
theorem get0 (t : Nat) : (mkU wkL0 .lf).get t = if t = 0 then some (hT 241 [.a 20] [.a 21]) else none := getL (l := wkL0) rfl t
theorem getN (t : Nat) : (mkU (nodeL 1 8) .lf).get t = if t = 3 then some (hT 241 [.a 10] [.a 13]) else if t = 2 then some (hT 241 [.a 8] [.a 11]) else if t = 1 then some (.ce 241 (nodeC 8 ++ [.tp 2 (lenS [.a 8]), .tp 3 (lenS [.a 10])]) true) else none := (getL (l := nodeL 1 8) rfl t).trans (look_node (b := 8) (n := 1))
theorem slot0 {v sv : SV} {k : Nat} (h : (mkUV [(0, v)] .lf).get k = some sv) : k = 0 ∧ sv = v := by
  rw [(mkV_get (l := [(0, v)]) (m := .lf) (K := fun _ => true) rfl).2] at h
  have h : (if k = 0 then some v else Tr.get .lf k) = some sv := h
  split at h
  · rename_i e; cases h; exact ⟨e, rfl⟩
  · simp [Tr.get] at h
def BK (ρ : Rho) (θ : Th) (w : World) (ρ' : Rho) (θ' : Th) (w' : World) : Prop := ∀ (θ2 : Th) (w2 : World), ThLe θ' θ2 → MemOk ρ' θ2 (mkU (nodeL 1 8) .lf).get w2 → Ext (Bl false θ' (mkU (nodeL 1 8) .lf).get) w' w2 → MemOk ρ θ (mkU wkL0 .lf).get w2 ∧ Ext (Bl false θ (mkU wkL0 .lf).get) w w2
theorem wk_loop {sd : Bool} {f : Nat} {fn : Func} {c0 body c1 : Code} (W : WkF sd f fn c0 body c1) : ∀ (N : Nat) (ρ : Rho), (ρ.s 21).length < N → ρ.s 20 ≠ [] → ∀ (Q : Exit → Act → World → Prop) (a : Act) (w : World) (θ : Th), At ρ 17 (mkUV wkS0 .lf) (mkU wkL0 .lf) a w θ → (∀ t, 1 ≤ t → θ t = none) →
    (∀ a' w' ρ' θ', At ρ' 17 (mkUV wkN.s .lf) (mkU wkN.l .lf) a' w' θ' → (∀ t, 4 ≤ t → θ' t = none) → (ρ'.s 9).length = wK sd (ρ.s 21) → BK ρ θ w ρ' θ' w' → Q (.exit 0) a' w') → LoopWp Tryz.prog body Q a w
  | 0, ρ, hN, _, _, _, _, _, _, _, _ => by omega
  | N + 1, ρ, hN, hne, Q, a, w, θ, hA, hfr, hQ => by
    have hM : MemOk ρ θ (mkU wkL0 .lf).get w := hA.mem
    rcases hM.unf (u := 0) (n := 1) (a := 2) (b := 3) (ty := 241) (l := [.a 20]) (q := [.a 21]) (by rw [get0]; rfl) (hfr 1 (by decide)) (hfr 2 (by decide)) (hfr 3 (by decide)) (by decide) with ⟨e1, _⟩ | ⟨o, L, R, QL, QR, p, θ', e1, e2, e3, e4, e5, e6, e7, e8, e9, key⟩
    · rw [denA] at e1; exact absurd e1 hne
    · rw [denA] at e1 e2
      obtain ⟨ρ1, A, D⟩ := new_rho (ρ := ρ) 8 false (fun h => by cases h) (by decide) L o R QL QR p
      obtain ⟨i1, i2, i3, i4, i5, i6, i7⟩ := D.inn (by decide)
      obtain ⟨hM1, hbl⟩ := key ρ1 (mkU (nodeL 1 8) .lf).get (nodeC 8) (lenS [.a 8]) (lenS [.a 10]) [.a 8] [.a 11] [.a 10] [.a 13] i1 i2 i3 i4 i5 i6 i7 (getN 1) (getN 2) (getN 3) (getN 0) (fun s q1 q2 q3 q4 => by rw [get0, if_neg q4, getN, if_neg q3, if_neg q2, if_neg q1]; trivial)
      obtain ⟨g, c, xa, xb, f1, f2, f3, f4, f5⟩ := e9
      have hA1 : At ρ1 17 (mkUV wkN.s .lf) (mkU wkN.l .lf) a w θ' := ⟨hA.defers, hA.size, (fun k sv hk => by
        obtain ⟨rfl, rfl⟩ := slot0 hk
        have h := hA.slot 0 (tv 0 [.a 20]) rfl
        rw [← h]
        show den ρ1 θ' (.p 1 0) = den ρ θ (.tp 0 (lenS [.a 20]))
        simp only [den, f1, f2, Option.map_some, lenA]
        rw [if_neg (by have := List.length_pos_iff.2 hne; omega)]), hM1⟩
      have hfr1 : ∀ t, 4 ≤ t → θ' t = none := fun t ht => by
        cases hq : θ' t with
        | none => rfl
        | some x =>
          rcases e8 t (by rw [hq]; simp) with q | q
          · exact absurd (hfr t (by omega)) q
          · omega
      have back : ∀ (θ2 : Th) (w2 : World), ThLe θ' θ2 → MemOk ρ1 θ2 (mkU (nodeL 1 8) .lf).get w2 → MemOk ρ θ (mkU wkL0 .lf).get w2 := fun θ2 w2 hle hm => by
        obtain ⟨g', c', xa', xb', z1, z2, z3, key2⟩ := hm.fold (u := 0) (l := txt 8) (q := pcs 8) (getN 1) (getN 2) (getN 3) (by decide) (getN 0) i1 i2 i3 i4 i6 e3 e4 D.txt (by rw [D.pcs, i5, i7])
        rw [hle _ _ f2] at z1; cases z1
        rw [hle _ _ f3] at z2; cases z2
        rw [hle _ _ f4] at z3; cases z3
        obtain ⟨k1, _⟩ := key2 θ2 c (fun s => if s = 0 then some (hT 241 (txt 8) (pcs 8)) else none) (ThLe.refl _) (fun s hs => rfl) (hle _ _ (e7 _ _ f1)) f5 rfl rfl rfl rfl (fun s q1 q2 q3 q4 => by
          show (if s = 0 then _ else none) = _
          rw [if_neg q4, getN, if_neg q3, if_neg q2, if_neg q1])
        have only : ∀ {fa : Bool}, ∀ s g, Own fa θ (mkU wkL0 .lf).get s g → s = 0 := fun s g ho => by
          have := ho.ne
          rw [get0] at this
          split at this
          · assumption
          · exact absurd rfl this
        refine ⟨fun t b hb => ?_, fun s t g h1 h2 => (only s g h1).trans (only t g h2).symm⟩
        rw [get0] at hb
        split at hb
        · rename_i e
          subst e
          cases hb
          obtain ⟨x, hx, hh⟩ := k1.holds 0 _ rfl
          rw [hle _ _ (e7 _ _ f1)] at hx
          cases hx
          refine ⟨(g, c), f1, ?_⟩
          rw [denA, denA, e1, e2, ← D.txt, ← D.pcs]
          exact hh
        · cases hb
      have ownB : ∀ {fa : Bool}, ∀ (θ2 : Th), ThLe θ' θ2 → ∀ g, Bl fa θ2 (mkU (nodeL 1 8) .lf).get g → Bl fa θ' (mkU (nodeL 1 8) .lf).get g := fun θ2 hle g' ⟨t, y, y1, y2⟩ => by
        refine ⟨t, y, ?_, y2⟩
        rw [getN] at y2
        split at y2
        · rename_i e; subst e; rw [hle _ _ f4] at y1; rw [f4]; exact y1
        · split at y2
          · rename_i e; subst e; rw [hle _ _ f3] at y1; rw [f3]; exact y1
          · split at y2
            · rename_i e; subst e; rw [hle _ _ f2] at y1; rw [f2]; exact y1
            · exact y2.elim
      have eK := wK_app sd QL QR (UInt8.ofNat o.length)
      have d8 : ρ1.s 8 = L := D.fl
      have d9 : ρ1.s 9 = o := D.fo
      have d10 : ρ1.s 10 = R := D.fr
      have d11 : ρ1.s 11 = QL := D.fql
      have d13 : ρ1.s 13 = QR := D.fqr
      have lq := congrArg List.length e2
      simp only [List.length_append, List.length_cons] at lq
      have hidC : ∀ (θ2 : Th) (w2 : World), MemOk ρ1 θ2 (mkU (nodeL 1 8) .lf).get w2 → ∃ x, θ2 (wt sd) = some x ∧ Hid [0, 241] w2 x (ρ1.s (wc sd)) (ρ1.s (wq sd)) := fun θ2 w2 hm => by
        cases sd with
        | true =>
          obtain ⟨x, h1, h2⟩ := hm.holds 2 _ (getN 2)
          exact ⟨x, h1, by rw [denA, denA] at h2; exact h2⟩
        | false =>
          obtain ⟨x, h1, h2⟩ := hm.holds 3 _ (getN 3)
          exact ⟨x, h1, by rw [denA, denA] at h2; exact h2⟩
      have eQ : pkQ sd QL QR = ρ1.s (wq sd) := by
        cases sd with
        | true => exact d11.symm
        | false => exact d13.symm
      rw [eQ] at eK
      by_cases hc : ρ1.s (wc sd) = []
      · have hq0 : ρ1.s (wq sd) = [] := by
          obtain ⟨x, _, h⟩ := hidC θ' w hM1
          rw [hc] at h
          exact hid_no h
        refine loop_step (wp_mono ((ev_to W.ke (smZ_ok ρ1) rN_okA (sat_cons (by rw [sub_den, const_den, lenA, hc]; simp) sat_nil) W.db hA1 (fun t q1 _ => hfr1 t q1)).wp) fun e a' w' ⟨he, _, θ2, hA2, hsp⟩ => ?_)
        have he : e = .exit 0 := he
        subst he
        show Q (.exit 0) a' w'
        refine hQ a' w' ρ1 θ2 hA2 (fun t ht => ?_) ?_ fun θ4 w4 hle4 hm4 hx4 => ⟨back θ4 w4 (hsp.le.trans hle4) hm4, (hsp.ext.mono fun g _ h => hbl g h).trans (hx4.mono fun g _ h => hbl g (ownB θ2 hsp.le g h))⟩
        · cases hq : θ2 t with
          | none => rfl
          | some x =>
            rcases hsp.new t (by rw [hq]; simp) with q | q
            · exact absurd (hfr1 t ht) q
            · have q2 : t < 4 := q.2
              omega
        · rw [e2, eK, hq0, d9]
          exact (ofNat_le e3.2).symm
      · refine loop_step (wp_mono ((ev_to W.kg (smZ_ok ρ1) rN_okA (sat_cons (by
          rw [le1, sub_den, const_den, lenA]
          have := List.length_pos_iff.2 hc
          omega) sat_nil) W.db hA1 (fun t q1 _ => hfr1 t q1)).wp) fun e a' w' ⟨he, _, θ2, hA2, hsp⟩ => ?_)
        have he : e = .normal := he
        subst he
        show LoopWp Tryz.prog body Q a' w'
        have hmem : MemOk ρ1 θ2 (mkU (nodeL 1 8) .lf).get w' := hsp.mem
        obtain ⟨x, hx, hh⟩ := hidC θ2 w' hmem
        have s20 : (rhoU ρ1 [(20, ρ1.s (wc sd)), (21, ρ1.s (wq sd))] []).s 20 = ρ1.s (wc sd) := rfl
        have s21 : (rhoU ρ1 [(20, ρ1.s (wc sd)), (21, ρ1.s (wq sd))] []).s 21 = ρ1.s (wq sd) := rfl
        revert s20 s21
        generalize rhoU ρ1 [(20, ρ1.s (wc sd)), (21, ρ1.s (wq sd))] [] = ρ2
        intro s20 s21
        let θI : Th := fun t => if t = 0 then θ2 (wt sd) else none
        have hI0 : θI 0 = some x := hx
        have onlyI : ∀ {fa : Bool}, ∀ s g, Own fa θI (mkU wkL0 .lf).get s g → s = 0 ∧ g ∈ lsD x.2 := fun s g ho => by
          obtain ⟨y, y1, y2⟩ := ho
          rw [get0] at y2
          split at y2
          · rename_i e
            subst e
            rw [hI0] at y1
            cases y1
            exact ⟨rfl, y2⟩
          · exact y2.elim
        have hAI : At ρ2 17 (mkUV wkS0 .lf) (mkU wkL0 .lf) a' w' θI := ⟨hA2.defers, hA2.size, (fun k sv hk => by
          obtain ⟨rfl, rfl⟩ := slot0 hk
          have h := hA2.slot 0 (.tp (wt sd) (lenS [.a (wc sd)])) rfl
          rw [← h]
          show den ρ2 θI (.tp 0 (lenS [.a 20])) = den ρ1 θ2 (.tp (wt sd) (lenS [.a (wc sd)]))
          simp only [den, hI0, hx, Option.map_some, lenA, s20]), ⟨(fun t b hb => by
          rw [get0] at hb
          split at hb
          · rename_i e
            subst e
            cases hb
            exact ⟨x, hI0, by rw [denA, denA, s20, s21]; exact hh⟩
          · cases hb), fun s t g h1 h2 => (onlyI s g h1).1.trans (onlyI t g h2).1.symm⟩⟩
        have ownC : ∀ {fa : Bool}, ∀ g, g ∈ lsD x.2 → Own fa θ2 (mkU (nodeL 1 8) .lf).get (wt sd) g := fun g hg => ⟨x, hx, by
          cases sd with
          | true => rw [show wt true = 2 from rfl, getN]; exact hg
          | false => rw [show wt false = 3 from rfl, getN]; exact hg⟩
        refine wk_loop W N ρ2 (by
          rw [s21]
          cases sd with
          | true => show (ρ1.s 11).length < N; rw [d11]; omega
          | false => show (ρ1.s 13).length < N; rw [d13]; omega) (by rw [s20]; exact hc) Q a' w' θI hAI (fun t ht => if_neg (by omega)) fun a2 w2 ρ3 θ3 hA3 hf3 hl3 hB3 => ?_
        refine hQ a2 w2 ρ3 θ3 hA3 hf3 ?_ fun θ4 w4 hle4 hm4 hx4 => ?_
        · rw [hl3, s21, e2, eK]
          split
          · rename_i hq
            exfalso
            obtain ⟨d, _, _, t1, t2, t3, _⟩ := hh
            rw [hq] at t3
            cases d with
            | lf => exact hc t2.symm
            | nd _ _ _ _ _ => simp [PTr.lens] at t3
          · rfl
        obtain ⟨hm3, hx3⟩ := hB3 θ4 w4 hle4 hm4 hx4
        have hm2 : MemOk ρ1 θ2 (mkU (nodeL 1 8) .lf).get w4 := by
          refine ⟨fun t b hb => ?_, hmem.inj⟩
          by_cases ht : t = wt sd
          · subst ht
            obtain ⟨y, hy, hz⟩ := hm3.holds 0 _ rfl
            rw [hI0] at hy
            cases hy
            rw [denA, denA, s20, s21] at hz
            have hb' : b = hT 241 [.a (wc sd)] [.a (wq sd)] := by
              cases sd with
              | true => rw [show wt true = 2 from rfl, getN] at hb; cases hb; rfl
              | false => rw [show wt false = 3 from rfl, getN] at hb; cases hb; rfl
            subst hb'
            exact ⟨x, hx, by rw [denA, denA]; exact hz⟩
          · refine (hmem.holds t b hb).keep (ThLe.refl _) hx3 fun y g' hy hf ⟨s, ho⟩ => ?_
            exact ht (hmem.inj t (wt sd) g' ⟨y, hy, by rw [hb]; exact hf⟩ (ownC g' (onlyI s g' ho).2))
        refine ⟨back θ2 w4 hsp.le hm2, (hsp.ext.mono fun g _ h => hbl g h).trans (hx3.mono fun g _ ⟨s, ho⟩ => ?_)⟩
        · obtain ⟨y, y1, y2⟩ := ownC g (onlyI s g ho).2
          refine hbl g ⟨wt sd, ?_⟩
          have hne2 : θ' (wt sd) = some x := by
            cases sd with
            | true =>
              have := hsp.le 2 _ f3
              rw [show wt true = 2 from rfl] at hx ⊢
              rw [this] at hx
              rw [f3]; exact hx
            | false =>
              have := hsp.le 3 _ f4
              rw [show wt false = 3 from rfl] at hx ⊢
              rw [this] at hx
              rw [f4]; exact hx
          rw [hx] at y1
          cases y1
          exact ⟨x, hne2, y2⟩
def kFi : Known := ⟨[tv 0 [.a 20]], wkL0, 1, [le1 [.a 20]], .x .i64 (lv 8210), wkL0, 1, []⟩
theorem wk_ok {sd : Bool} {f : Nat} {fn : Func} {c0 body c1 : Code} (W : WkF sd f fn c0 body c1) (hv : ρ.v 4105 = wK sd (ρ.s 21)) : KnownOk Tryz.prog f kFi ρ := fun h0 => by
  have hne : ρ.s 20 ≠ [] := fun e => le1_not h0 e
  refine ⟨enter_run W.hf W.hn W.hb, sat_nil, Nat.le_refl _, fun t q1 q2 => absurd q1 q2, fun w θ us hus hM hfr => ?_⟩
  have hM : MemOk ρ θ (mkU wkL0 .lf).get w := hM
  have hus : dens ρ θ [tv 0 [.a 20]] = some us := hus
  obtain ⟨x, hx, _⟩ := hM.holds 0 _ (get0 0)
  let θ0 : Th := fun t => if t = 0 then some x else none
  have e0 : θ0 0 = some x := rfl
  have only : ∀ {fa : Bool}, ∀ θ : Th, ∀ s g, Own fa θ (mkU wkL0 .lf).get s g → s = 0 := fun θ s g ho => by
    have := ho.ne
    rw [get0] at this
    split at this
    · assumption
    · exact absurd rfl this
  have move : ∀ {θa θb : Th} {w : World}, θa 0 = some x → θb 0 = some x → MemOk ρ θa (mkU wkL0 .lf).get w → MemOk ρ θb (mkU wkL0 .lf).get w := fun {θa θb w} ha hb hm => by
    refine ⟨fun t b hb' => ?_, fun s t g h1 h2 => (only θb s g h1).trans (only θb t g h2).symm⟩
    rw [get0] at hb'
    split at hb'
    · rename_i e
      subst e
      cases hb'
      obtain ⟨y, y1, y2⟩ := hm.holds 0 _ (get0 0)
      rw [ha] at y1
      cases y1
      exact ⟨x, hb, y2⟩
    · cases hb'
  have bl : ∀ {fa : Bool} {θa θb : Th} {g : Nat}, θa 0 = some x → θb 0 = some x → Bl fa θa (mkU wkL0 .lf).get g → Bl fa θb (mkU wkL0 .lf).get g := fun {fa θa θb g} ha hb ⟨s, ho⟩ => by
    have e := only θa s g ho
    subst e
    obtain ⟨y, y1, y2⟩ := ho
    rw [ha] at y1
    cases y1
    exact ⟨0, x, hb, y2⟩
  have hM0 := move hx e0 hM
  obtain ⟨u, hu⟩ : ∃ u, den ρ θ (tv 0 [.a 20]) = some u := by simp only [tv, den, hx, Option.map_some]; exact ⟨_, rfl⟩
  have hus2 : us = [u] := by
    simp only [dens, hu, Option.bind_some, Option.map_some] at hus
    exact (Option.some.inj hus).symm
  subst hus2
  have hu0 : den ρ θ0 (tv 0 [.a 20]) = some u := by
    rw [← hu]
    simp only [tv, den, hx, e0]
  refine calls_of_wp W.hf W.hb (wp_seq (wp_mono (ev_to W.k0 (smZ_ok ρ) rN_okA sat_nil W.d0 (θ := θ0) ⟨rfl, ?_, fun k sv hk => ?_, hM0⟩ (fun t q1 _ => if_neg (by omega))).wp fun e a w1 ⟨he, _, θ1, hA1, hsp1⟩ => ?_))
  · rw [W.nt]
    show ([u].toArray ++ Array.replicate (17 - [u].toArray.size) undef).size = 17
    simp
  · obtain ⟨rfl, rfl⟩ := slot0 hk
    rw [hu0, W.nt]
    rfl
  · have he : e = .normal := he
    subst he
    have x1 : θ1 0 = some x := hsp1.le 0 x e0
    refine wp_seq (wp_block (loop_of (wk_loop W _ ρ (Nat.lt_succ_self _) hne _ a w1 θ1 hA1 (fun t ht => ?_) fun a2 w2 ρ' θ' hA2 hf2 hl2 hB2 => ?_)))
    · cases hq : θ1 t with
      | none => rfl
      | some y =>
        rcases hsp1.new t (by rw [hq]; simp) with q | q
        · exact absurd (show θ0 t = none from if_neg (by omega)) q
        · have : t < 1 := q.2
          omega
    · simp only [Exit.inBlock, if_true, Exit.then]
      refine wp_mono (ev_to W.k1 (smZ_ok ρ') rN_okA sat_nil W.d1 hA2 (fun t q1 _ => hf2 t q1)).wp fun e a3 w3 ⟨he, _, θ3, hA3, hsp3⟩ => ?_
      have he : e = .ret := he
      subst he
      obtain ⟨hm3, hx3⟩ := hB2 θ3 w3 hsp3.le hsp3.mem hsp3.ext
      obtain ⟨vs, hvs, hk, _⟩ := resC_yl (ρ := ρ') (n := 17) (P := Tryz.prog) (s := mkUV wkE.s .lf) (m := mkU wkE.l .lf) (rs := fn.results.toList) _ W.kr
      have hk : vs = [.x .i64 (lenS [.a 9])] := by
        split at hk
        · rw [eqLin_ok hk]
        · cases hk
      subst hk
      obtain ⟨us', h1, h2⟩ := hvs a3 w3 θ3 hA3
      refine ⟨hA3.defers, _, run_results h2, _, θ, rfl, ⟨ThLe.refl _, fun t h => .inl h, move x1 hx hm3, ?_, fun g h => .inl h⟩, ?_⟩
      · exact (hsp1.ext.mono fun g _ h => bl e0 hx h).trans (hx3.mono fun g _ h => bl x1 hx h)
      · have h1 : some [Value.int .i64 ((lenS [.a 9]).den ρ')] = some us' := h1
        cases h1
        show den ρ θ (.x .i64 (lv 8210)) = _
        simp only [den]
        rw [lenA, hl2, show lv 8210 = lv (2 * 4105) from rfl, lvv, hv]
        rfl
end
end X
end Go.Proofs.YtebfahobllghnaaGreatDoor
namespace Go.Proofs.YtebfahobllghnaaGreatDoor
namespace X
open Go.RowKit B
variable {fa : Bool}
set_option maxRecDepth 1000000
def sTa : SumF := fun args m nx pc K => match args with
  | [.s l] => match lowA l with
    | true => cutT rN kTally ⟨[(6, l), (9, ctr 0 l), (10, ctr 1 l), (11, ctr 2 l)], []⟩ args m nx pc K
    | false => false
  | _ => false
theorem sTa_ok {ρ : Rho} (ht : TalA ρ) : CallY Tryz.prog ρ 237 sTa := CallY.of fun args m nx pc hs => by
  unfold sTa
  split
  · split
    · rename_i l h
      refine ⟨_, cutT_ok (kTally_ok ?_ ?_ ?_), fun K => rfl⟩
      · exact ctr_den ht (k := 0) (by decide) h
      · exact ctr_den ht (k := 1) (by decide) h
      · exact ctr_den ht (k := 2) (by decide) h
    · exact ⟨_, CallY.no, fun K => rfl⟩
  · exact ⟨_, CallY.no, fun K => rfl⟩
def uMul : Lin := ((lv 8220).mul 1664525).sub (.mk 0 [(9980, 4294967296)])
def uAdd : Lin := (uMul.add (.mk 1013904223 [])).sub (.mk 0 [(9982, 4294967296)])
def frV : Nat → Lin
  | 0 => lv 8222
  | 1 => lv 8224
  | 2 => lv 8226
  | _ => uAdd
def frN : Nat → Nat
  | 0 => 1
  | 1 => 2
  | _ => 3
def geU' (p : Lin) : PC := [p, (Lin.mk 4294967295 []).sub p]
def frP : PC := geU' uMul ++ geU' uAdd
def diceC (T : Nat) (e : Lin) : Blk := .ce 87 [.sv 1 (.mk 3 []), .i .i64 (.ofNat T), .x .u32 e] true
def numC : Blk := .cv [.x .u32 (lv 8222), .x .u32 (lv 8224), .x .u32 (lv 8226)]
def capP (l : Str) : PC := [le1 l, ge64 l]
def kFrT (T : Nat) : Known := ⟨[.p 0 0, .s [.a 20]], [(0, diceC T (lv 8220)), (1, numC)], 2, capP [.a 20] ++ frP, .p 50 0, [(0, diceC (frN T) (frV T)), (1, numC), (50, .ce 241 (appL (cellsT [.a 20] 20 (frV T)) [.np, .np]) true)], 51, []⟩
def smFr : SumT := withF 237 sTa smZ
theorem fr_0 : runK smFr 186 rN (kFrT 0) = true := by kernel_rfl
theorem fr_1 : runK smFr 186 rN (kFrT 1) = true := by kernel_rfl
theorem fr_2 : runK smFr 186 rN (kFrT 2) = true := by kernel_rfl
theorem fr_3 : runK smFr 186 rN (kFrT 3) = true := by kernel_rfl
theorem ent_fresh : ∀ args w, (callFunc 186 args).run Tryz.prog w = .ok (.enter 186 args) w := enter_run (fn := Tryz.f186) (by kernel_rfl) (by kernel_rfl) rfl
def hD : Blk := .hb [2, 87, 52] [] []
def kFr : Known := ⟨[.p 0 0, .s [.a 20]], [(0, hD)], 1, capP [.a 20], tv 50 [.a 20], [(0, hD), (50, hT 241 [.a 20] [.a 21])], 51, []⟩
section
variable {ρ : Rho}
theorem kFr_run {T : Nat} (hT : T ≤ 3) (ht : TalA ρ) (hs : Sat ρ (capP [.a 20] ++ frP)) : CallR Tryz.prog ρ 186 (kFrT T).a0 (mkU (kFrT T).l0 .lf) 2 ⟨.p 50 0, mkU (kFrT T).l1 .lf, 51, []⟩ := by
  have hsm : SumOk Tryz.prog ρ smFr := withF_ok (smZ_ok ρ) (sTa_ok ht)
  have hT : T = 0 ∨ T = 1 ∨ T = 2 ∨ T = 3 := by omega
  rcases hT with rfl | rfl | rfl | rfl
  · exact runK_ok hsm rN_okA fr_0 hs
  · exact runK_ok hsm rN_okA fr_1 hs
  · exact runK_ok hsm rN_okA fr_2 hs
  · exact runK_ok hsm rN_okA fr_3 hs
theorem getF0 {T : Nat} (t : Nat) : (mkU (kFrT T).l0 .lf).get t = if t = 1 then some numC else if t = 0 then some (diceC T (lv 8220)) else none := getL (l := (kFrT T).l0) rfl t
theorem getF1 {T : Nat} (t : Nat) : (mkU (kFrT T).l1 .lf).get t = if t = 50 then some (.ce 241 (appL (cellsT [.a 20] 20 (frV T)) [.np, .np]) true) else if t = 1 then some numC else if t = 0 then some (diceC (frN T) (frV T)) else none := getL (l := (kFrT T).l1) rfl t
theorem getK0 (t : Nat) : (mkU kFr.l0 .lf).get t = if t = 0 then some hD else none := getL (l := kFr.l0) rfl t
theorem getK1 (t : Nat) : (mkU kFr.l1 .lf).get t = if t = 50 then some (hT 241 [.a 20] [.a 21]) else if t = 0 then some hD else none := getL (l := kFr.l1) rfl t
theorem cellAt0 {w : World} {g : Nat} {na : Array Value} {ty : TypeId} {fz : Nat × Nat} (h : w.heap[g]? = some (.cells na ty fz)) (j : Nat) : w.cell? ((⟨g, 0, none⟩ : Addr).add j) = na[j]? := by
  by_cases e : j = 0
  · subst e
    simp [World.cell?, Addr.add, h]
  · simp [World.cell?, Addr.add, e, h]
def tolN (x : Int) : Int := x / 4294967296
theorem kFr_ok (hq : ρ.s 21 = [UInt8.ofNat (ρ.s 20).length]) : KnownOk Tryz.prog 186 kFr ρ := fun h0 => by
  have ho : 1 ≤ (ρ.s 20).length ∧ (ρ.s 20).length ≤ 64 := by
    have h1 := h0 _ List.mem_cons_self
    have h2 := h0 _ (List.mem_cons_of_mem _ List.mem_cons_self)
    rw [le1, sub_den, const_den, lenA] at h1
    rw [ge64, sub_den, const_den, lenA] at h2
    omega
  refine ⟨ent_fresh, sat_nil, by decide, fun t q1 q2 => ?_, fun w θ us hus hM hfr => ?_⟩
  · rw [getK0] at q1
    have q2 : (mkU kFr.l1 .lf).get t ≠ none := q2
    rw [getK1] at q2
    show 1 ≤ t ∧ t < 51
    split at q2
    · omega
    · split at q2
      · rename_i e; rw [if_pos e] at q1; cases q1
      · exact absurd rfl q2
  · have hM : MemOk ρ θ (mkU kFr.l0 .lf).get w := hM
    have hus : dens ρ θ [.p 0 0, .s [.a 20]] = some us := hus
    have hfr : ∀ t, 1 ≤ t → t < 51 → θ t = none := hfr
    obtain ⟨⟨g0, cc⟩, hx, gn, hl, hne, told, last, da, na, a, b, c, rest, ⟨d1, d2⟩, d3, d4, ⟨n1, n2⟩, r1, r2, r3, r4⟩ := hM.holds 0 _ (getK0 0)
    have hne : g0 ≠ gn := hne
    have d1 : w.heap[g0]? = some (.cells da 87 (0, 0)) := d1
    have lt : ∀ {g : Nat} {o : Obj}, w.heap[g]? = some o → g < w.heap.size := fun h => (Array.getElem?_eq_some_iff.1 h).1
    obtain ⟨cd, c1, c2, c3⟩ := adrC_all ⟨gn, 0, none⟩ na.size (na, 52, 0, 0)
    have c1 : adrC (gn, cd) = ⟨gn, 0, none⟩ := c1
    have c2 : capC (gn, cd) = na.size := c2
    obtain ⟨T, hT3, rfl⟩ : ∃ T : Nat, T ≤ 3 ∧ told = (T : Int) := ⟨told.toNat, by omega, by omega⟩
    -- the unknowns
    obtain ⟨m1, hm1⟩ : ∃ m1, m1 = last * 1664525 - 4294967296 * tolN (last * 1664525) := ⟨_, rfl⟩
    have vs : ∀ {i : Nat} {x : Int}, (i, x) ∈ [(4110, last), (4111, a), (4112, b), (4113, c), (4990, tolN (last * 1664525)), (4991, tolN (m1 + 1013904223))] → (rhoU ρ [] [(4110, last), (4111, a), (4112, b), (4113, c), (4990, tolN (last * 1664525)), (4991, tolN (m1 + 1013904223))]).v i = x := fun {i x} h => by
      simp only [List.mem_cons, List.not_mem_nil, or_false, Prod.mk.injEq] at h
      rcases h with ⟨rfl, rfl⟩ | ⟨rfl, rfl⟩ | ⟨rfl, rfl⟩ | ⟨rfl, rfl⟩ | ⟨rfl, rfl⟩ | ⟨rfl, rfl⟩ <;> rfl
    have s20 : (rhoU ρ [] [(4110, last), (4111, a), (4112, b), (4113, c), (4990, tolN (last * 1664525)), (4991, tolN (m1 + 1013904223))]).s 20 = ρ.s 20 := rfl
    have tal := rhoU_tal (ρ := ρ) (l := []) (v := [(4110, last), (4111, a), (4112, b), (4113, c), (4990, tolN (last * 1664525)), (4991, tolN (m1 + 1013904223))])
    revert vs s20 tal
    generalize rhoU ρ [] [(4110, last), (4111, a), (4112, b), (4113, c), (4990, tolN (last * 1664525)), (4991, tolN (m1 + 1013904223))] = ρ1
    intro vs s20 tal
    have v0 : (lv 8220).den ρ1 = last := (lvv 4110).trans (vs (by simp))
    have va : (lv 8222).den ρ1 = a := (lvv 4111).trans (vs (by simp))
    have vb : (lv 8224).den ρ1 = b := (lvv 4112).trans (vs (by simp))
    have vc : (lv 8226).den ρ1 = c := (lvv 4113).trans (vs (by simp))
    have t1 : ρ1.at 9980 = tolN (last * 1664525) := (Rho.at_v ρ1 4990).trans (vs (by simp))
    have t2 : ρ1.at 9982 = tolN (m1 + 1013904223) := (Rho.at_v ρ1 4991).trans (vs (by simp))
    have um : uMul.den ρ1 = m1 := by
      unfold uMul
      rw [sub_den, mul_den, v0, hm1]
      simp only [Lin.den, dts, t1]
      omega
    have ua : uAdd.den ρ1 = m1 + 1013904223 - 4294967296 * tolN (m1 + 1013904223) := by
      unfold uAdd
      rw [sub_den, add_den, um, const_den]
      simp only [Lin.den, dts, t2]
      omega
    have mr : 0 ≤ m1 ∧ m1 ≤ 4294967295 := by rw [hm1]; unfold tolN; omega
    have ar : 0 ≤ uAdd.den ρ1 ∧ uAdd.den ρ1 ≤ 4294967295 := by rw [ua]; unfold tolN; omega
    have hfP : Sat ρ1 frP := by
      refine sat_app (sat_cons ?_ (sat_cons ?_ sat_nil)) (sat_cons ?_ (sat_cons ?_ sat_nil))
      · rw [um]; exact mr.1
      · rw [sub_den, const_den, um]; omega
      · exact ar.1
      · rw [sub_den, const_den]; omega
    have pr : 0 ≤ (frV T).den ρ1 ∧ (frV T).den ρ1 ≤ 4294967295 := by
      have hT : T = 0 ∨ T = 1 ∨ T = 2 ∨ T = 3 := by omega
      rcases hT with rfl | rfl | rfl | rfl
      · show 0 ≤ (lv 8222).den ρ1 ∧ (lv 8222).den ρ1 ≤ _; rw [va]; exact r1
      · show 0 ≤ (lv 8224).den ρ1 ∧ (lv 8224).den ρ1 ≤ _; rw [vb]; exact r2
      · show 0 ≤ (lv 8226).den ρ1 ∧ (lv 8226).den ρ1 ≤ _; rw [vc]; exact ⟨r3, r4⟩
      · exact ar
    have fn3 : frN T ≤ 3 := by unfold frN; split <;> omega
    let θ' : Th := fun t => if t = 0 then some (g0, da.size) else if t = 1 then some (gn, cd + 1) else none
    have x0 : θ' 0 = some (g0, da.size) := rfl
    have x1 : θ' 1 = some (gn, cd + 1) := rfl
    have dsv : ∀ θ2 : Th, θ2 1 = some (gn, cd + 1) → den ρ1 θ2 (.sv 1 (.mk 3 [])) = some (.slice (some ⟨gn, 0, none⟩) 3 na.size) := fun θ2 h => by
      simp only [den, h, Option.bind_some, const_den, c1, c2]
      rfl
    have hM' : MemOk ρ1 θ' (mkU (kFrT T).l0 .lf).get w := by
      have own : ∀ {fa : Bool}, ∀ s g, Own fa θ' (mkU (kFrT T).l0 .lf).get s g → (s = 0 ∧ g = g0) ∨ (s = 1 ∧ g = gn) := fun s g ⟨y, y1, y2⟩ => by
        rw [getF0] at y2
        split at y2
        · rename_i e; subst e; cases y1; exact .inr ⟨rfl, y2.2⟩
        · split at y2
          · rename_i e; subst e; cases y1; exact .inl ⟨rfl, y2⟩
          · exact y2.elim
      refine ⟨fun t bk hb => ?_, fun s t g h1 h2 => ?_⟩
      · rw [getF0] at hb
        split at hb
        · rename_i e
          subst e
          cases hb
          refine ⟨gn, cd + 1, [.int .u32 a, .int .u32 b, .int .u32 c], x1, ⟨lt n1, by rw [Nat.add_sub_cancel, c3]; exact n1⟩, by simp only [dens, den, va, vb, vc]; rfl, fun j u hu => ?_⟩
          rw [Nat.add_sub_cancel, c1]
          have ha : na.toList[j]? = some u := by
            rw [n2, List.getElem?_append_left (by have := (List.getElem?_eq_some_iff.1 hu).1; exact this)]
            exact hu
          have ha : na[j]? = some u := by rw [← Array.getElem?_toList]; exact ha
          rw [cellAt0 n1]
          exact ha
        · split at hb
          · rename_i e
            subst e
            cases hb
            refine ⟨g0, da.size, [.slice (some ⟨gn, 0, none⟩) 3 na.size, .int .i64 T, .int .u32 last], da, [], x0, d1, rfl, ?_, fun v hv => ?_, by rw [d2, List.append_nil], fun _ => rfl⟩
            · simp only [dens, dsv θ' x1, Option.bind_some, Option.map_some]
              simp only [den, v0, Option.bind_some, Option.map_some]
              rfl
            · simp only [List.mem_cons, List.not_mem_nil, or_false] at hv
              rcases hv with rfl | rfl | rfl <;> rfl
          · cases hb
      · rcases own s g h1 with ⟨rfl, e1⟩ | ⟨rfl, e1⟩ <;> rcases own t g h2 with ⟨rfl, e2⟩ | ⟨rfl, e2⟩ <;> first | rfl | exact absurd (e1.symm.trans e2) hne | exact absurd (e2.symm.trans e1) hne
    have hus' : dens ρ1 θ' (kFrT T).a0 = some us := by
      rw [← hus]
      show dens ρ1 θ' [.p 0 0, .s [.a 20]] = dens ρ θ [.p 0 0, .s [.a 20]]
      simp only [dens, den, x0, hx, Option.map_some, denA, s20]
    have hb0 : ∀ {fa : Bool}, ∀ g, Bl fa θ' (mkU (kFrT T).l0 .lf).get g → Bl fa θ (mkU kFr.l0 .lf).get g := fun g ⟨s, y, y1, y2⟩ => by
      refine ⟨0, (g0, cc), hx, ?_⟩
      rw [getK0]
      show g ∈ lsD cc
      rw [hl]
      rw [getF0] at y2
      split at y2
      · rename_i e; subst e; cases y1; have y2 : g = gn := y2.2; subst y2; simp
      · split at y2
        · rename_i e; subst e; cases y1; have y2 : g = g0 := y2; subst y2; simp
        · exact y2.elim
    refine calls_mono ((kFr_run hT3 tal (sat_app (sat_cons (by rw [le1, sub_den, const_den, lenA, s20]; omega) (sat_cons (by rw [ge64, sub_den, const_den, lenA, s20]; omega) sat_nil)) hfP)).run w θ' us hus' hM' fun t q1 _ => ?_) fun e w' ⟨v, θ2, he, hsp, hv⟩ => ?_
    · have q1 : 2 ≤ t := q1
      show (if t = 0 then _ else if t = 1 then _ else none) = none
      rw [if_neg (by omega), if_neg (by omega)]
    · have hm2 : MemOk ρ1 θ2 (mkU (kFrT T).l1 .lf).get w' := hsp.mem
      have y0 : θ2 0 = some (g0, da.size) := hsp.le _ _ x0
      have y1 : θ2 1 = some (gn, cd + 1) := hsp.le _ _ x1
      obtain ⟨gN, cN, vN, arr, rN', p1, p2, p3, p4, p5, p6, p7⟩ := hm2.holds 50 _ (getF1 50)
      have p7 := p7 rfl
      subst p7
      have p6 : arr.toList = vN ++ [] := p6
      rw [List.append_nil] at p6
      have ncell := cells_ok tal (l := [.a 20]) (o := 20) (p := frV T) (L := []) (oo := ρ.s 20) (R := []) rfl (by decide) (by rw [denA, s20]; simp) s20 rfl
      have evN : vN = nodeV [] (ρ.s 20) [] ((frV T).den ρ1) ++ [.pointer none, .pointer none] := by
        have : dens ρ1 θ2 (cellsT [.a 20] 20 (frV T) ++ [.np, .np]) = some (nodeV [] (ρ.s 20) [] ((frV T).den ρ1) ++ [.pointer none, .pointer none]) := dens_append (ncell θ2) rfl
        have p4 : dens ρ1 θ2 (cellsT [.a 20] 20 (frV T) ++ [.np, .np]) = some vN := p4
        rw [this] at p4
        exact (Option.some.inj p4).symm
      have hTr : TreeT w' 241 (.nd gN (ρ.s 20) ((frV T).den ρ1) .lf .lf) := ⟨⟨arr, p2, by rw [p6, evN]; rfl⟩, ho, pr, trivial, trivial⟩
      obtain ⟨g0', c0', v0', arr0, rest0, z1, z2, z3, z4, z5, z6, z7⟩ := hm2.holds 0 _ (getF1 0)
      rw [y0] at z1
      cases z1
      have z7 := z7 rfl
      subst z7
      rw [List.append_nil] at z6
      obtain ⟨gn', cn', vn', k1, ⟨k2, k3⟩, k4, k5⟩ := hm2.holds 1 _ (getF1 1)
      rw [y1] at k1
      cases k1
      rw [Nat.add_sub_cancel, c3] at k3
      have ev0 : v0' = [.slice (some ⟨gn, 0, none⟩) 3 na.size, .int .i64 (frN T), .int .u32 ((frV T).den ρ1)] := by
        simp only [dens, dsv θ2 y1, Option.bind_some, Option.map_some] at z4
        simp only [den, Option.bind_some, Option.map_some, Option.some.injEq] at z4
        exact z4.symm
      have hDi : DiceT w' 87 52 g0 gn := ⟨frN T, (frV T).den ρ1, arr0, na, a, b, c, rest, ⟨z2, by rw [z6, ev0]⟩, ⟨by omega, by omega⟩, pr, ⟨k3, n2⟩, r1, r2, r3, r4⟩
      have inj2 : gN ≠ g0 ∧ gN ≠ gn := by
        have o50 : ∀ {fa : Bool}, Own fa θ2 (mkU (kFrT T).l1 .lf).get 50 gN := ⟨_, p1, by rw [getF1]; rfl⟩
        have o0 : ∀ {fa : Bool}, Own fa θ2 (mkU (kFrT T).l1 .lf).get 0 g0 := ⟨_, y0, by rw [getF1]; rfl⟩
        have o1 : Own true θ2 (mkU (kFrT T).l1 .lf).get 1 gn := ⟨_, y1, by rw [getF1]; exact ⟨rfl, rfl⟩⟩
        exact ⟨fun e => absurd (hm2.inj 50 0 gN o50 (e ▸ o0)) (by decide), fun e => absurd (hm2.inj 1 50 gN (e ▸ o1) o50) (by decide)⟩
      let θ3 : Th := fun t => if t = 50 then some (gN, lsE [gN]) else θ t
      have w50 : θ3 50 = some (gN, lsE [gN]) := rfl
      have w0 : θ3 0 = some (g0, cc) := hx
      have own3 : ∀ {fa : Bool}, ∀ s g, Own fa θ3 (mkU kFr.l1 .lf).get s g → (s = 50 ∧ g = gN) ∨ (s = 0 ∧ (g = g0 ∨ g = gn)) := fun s g ⟨y, y1, y2⟩ => by
        rw [getK1] at y2
        split at y2
        · rename_i e
          subst e
          rw [w50] at y1
          cases y1
          have y2 : g ∈ lsD (lsE [gN]) := y2
          rw [lsD_E] at y2
          exact .inl ⟨rfl, by simpa using y2⟩
        · split at y2
          · rename_i e
            subst e
            rw [w0] at y1
            cases y1
            have y2 : g ∈ lsD cc := y2
            rw [hl] at y2
            exact .inr ⟨rfl, by simpa using y2⟩
          · exact y2.elim
      refine ⟨v, θ3, he, ⟨fun t x hx' => ?_, fun t ht => ?_, ⟨fun t bk hb => ?_, fun s t g h1 h2 => ?_⟩, hsp.ext.mono fun g _ h => hb0 g h, fun g ⟨s, ho'⟩ => ?_⟩, ?_⟩
      · show (if t = 50 then _ else θ t) = some x
        rw [if_neg fun e => by subst e; rw [hfr 50 (by decide) (by decide)] at hx'; cases hx']
        exact hx'
      · by_cases e : t = 50
        · subst e; exact .inr ⟨by decide, by decide⟩
        · left
          have : θ3 t = θ t := if_neg e
          rw [← this]; exact ht
      · have hb : (mkU kFr.l1 .lf).get t = some bk := hb
        rw [getK1] at hb
        split at hb
        · rename_i e
          subst e
          cases hb
          refine ⟨_, w50, .nd gN (ρ.s 20) ((frV T).den ρ1) .lf .lf, lsD_E _, by simp [PTr.blocks], hTr, ?_, ?_, rfl⟩
          · rw [denA]; simp [PTr.text]
          · rw [denA, hq]; simp [PTr.lens]
        · split at hb
          · rename_i e
            subst e
            cases hb
            exact ⟨_, w0, gn, hl, hne, hDi⟩
          · cases hb
      · rcases own3 s g h1 with ⟨rfl, e1⟩ | ⟨rfl, e1⟩ <;> rcases own3 t g h2 with ⟨rfl, e2⟩ | ⟨rfl, e2⟩
        · rfl
        · subst e1
          rcases e2 with e2 | e2
          · exact absurd e2 inj2.1
          · exact absurd e2 inj2.2
        · subst e2
          rcases e1 with e1 | e1
          · exact absurd e1 inj2.1
          · exact absurd e1 inj2.2
        · rfl
      · rcases own3 s g ho' with ⟨rfl, e1⟩ | ⟨rfl, e1⟩
        · subst e1
          rcases hsp.own g ⟨50, _, p1, by show FtB _ ((mkU (kFrT T).l1 .lf).get 50) _ _; rw [getF1]; rfl⟩ with z | z
          · exact .inl (hb0 g z)
          · exact .inr z
        · left
          refine ⟨0, (g0, cc), hx, ?_⟩
          show FtB _ ((mkU kFr.l0 .lf).get 0) _ _
          rw [getK0]
          show g ∈ lsD cc
          rw [hl]
          simpa using e1
      · rw [← hv]
        show den ρ θ3 (.tp 50 (lenS [.a 20])) = den ρ1 θ2 (.p 50 0)
        simp only [den, w50, p1, Option.map_some, lenA]
        rw [if_neg (by omega)]
end
end X
end Go.Proofs.YtebfahobllghnaaGreatDoor
