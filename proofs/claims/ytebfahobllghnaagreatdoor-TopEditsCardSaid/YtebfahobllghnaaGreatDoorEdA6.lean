/-
  TopEdits: VN, VO.
-/
import Derived.Test.YtebfahobllghnaaGreatDoorEdA5
set_option linter.unusedSimpArgs false
set_option linter.unusedVariables false
namespace Go.Proofs.YtebfahobllghnaaGreatDoor
namespace X
open Go.RowKit B
section
variable {P : Program} {ρ : Rho} {o : Oper} {s : Tr SV} {m : Mem} {nx : Nat} {pc : PC} {a : Act} {w w' : World} {θ : Th}
theorem OpOk.turn {v : SV} {t0 : Nat} {ts : List Nat} {b0 b : Blk} {m' : Mem} (hs : Sat ρ pc) (h0 : t0 ∈ ts) (hg : m.get t0 = some b0) (hm : ∀ t, m'.get t = if t = t0 then some b else m.get t)
    (h : ∀ (a : Act) (w : World) (θ : Th), SlOk ρ s θ a o.op.operands.toList → (∀ t ∈ ts, ∀ b, m.get t = some b → HoldsB ρ θ w t b) → ∃ u w' g c, ((execOp a.eval o).run P w = .ok (.value u) w' ∨ ((execOp a.eval o).run P w = .ok .skip w' ∧ u = undef)) ∧ θ t0 = some (g, c) ∧ Ext (fun k => k = g) w w' ∧ HoldsB ρ θ w' t0 b ∧ den ρ θ v = some u) (hk0 : isHb b0 = 0 := by rfl) (hk : isHb b = 0 := by rfl) :
    OpOk P ρ o s m nx ⟨v, m', nx, pc, .w ts⟩ where
  pc := hs
  le := Nat.le_refl _
  off := fun t ht => by
    have : t ≠ t0 := fun e => ht (by simp [tc, e, h0])
    rw [hm, if_neg this]
  rd := fun _ h => by cases h
  new := fun t h1 h2 => by
    have : t ≠ t0 := fun e => by rw [e, hg] at h1; cases h1
    rw [hm, if_neg this] at h2; exact absurd h1 h2
  run := fun a w θ h1 h2 _ => by
    have tcs : ∀ t, t ∈ ts → tc (.w ts) t := fun t ht => ht
    obtain ⟨u, w', g, c, k1, k2, k3, k4, k5⟩ := h a w θ h1 fun t ht b hb => h2.holds t b (by rw [subM_in (tcs t ht)]; exact hb)
    have hR0 : subM (.w ts) m t0 = some b0 := by rw [subM_in (tcs t0 h0), hg]
    have sp : SP ρ nx nx θ (subM (.w ts) m) w θ (subM (.w ts) m') w' := SP.turn h2 hR0 hk0 k2 k3 k4 (fun t b' hb => by
      obtain ⟨q1, q2⟩ := subM_some hb
      rw [hm] at q2
      by_cases e : t = t0
      · rw [if_pos e] at q2; exact .inl ⟨e, (Option.some.inj q2).symm⟩
      · rw [if_neg e] at q2; exact .inr ⟨e, by rw [subM_in q1]; exact q2⟩) hk
    rcases k1 with k1 | ⟨k1, k6⟩
    · exact wp_val k1 ⟨u, θ, rfl, sp, k5⟩
    · subst k6; exact wp_skip' k1 ⟨_, θ, rfl, sp, k5⟩
theorem OpOk.reads {v : SV} {ts : List Nat} (hs : Sat ρ pc) (h : ∀ (a : Act) (w : World) (θ : Th), SlOk ρ s θ a o.op.operands.toList → (∀ t ∈ ts, ∀ b, m.get t = some b → HoldsB ρ θ w t b) → ∃ u, Runs P a o w u ∧ den ρ θ v = some u) : OpOk P ρ o s m nx ⟨v, m, nx, pc, .w ts⟩ where
  pc := hs
  le := Nat.le_refl _
  off := fun _ _ => rfl
  rd := fun _ h => by cases h
  new := fun t h1 h2 => absurd h1 h2
  run := fun a w θ h1 h2 _ => by
    have tcs : ∀ t, t ∈ ts → tc (.w ts) t := fun t ht => ht
    obtain ⟨u, h3, h4⟩ := h a w θ h1 fun t ht b hb => h2.holds t b (by rw [subM_in (tcs t ht)]; exact hb)
    exact wp_val h3 ⟨u, θ, rfl, SP.refl h2, h4⟩
theorem OpOk.tag {v : SV} {g : Nat} (hs : Sat ρ pc) (h : ∀ (a : Act) (w : World) (θ : Th), SlOk ρ s θ a o.op.operands.toList → (∀ b, m.get g = some b → HoldsB ρ θ w g b) → ∃ u x, Runs P a o w u ∧ ∀ θ' : Th, θ' nx = some x → den ρ θ' v = some u) : OpOk P ρ o s m nx ⟨v, m, nx + 1, pc, .r g⟩ where
  pc := hs
  le := Nat.le_succ _
  off := fun _ _ => rfl
  rd := fun _ _ => rfl
  new := fun t h1 h2 => absurd h1 h2
  run := fun a w θ h1 h2 hfr => by
    obtain ⟨u, x, h3, h4⟩ := h a w θ h1 fun b hb => h2.holds g b (by rw [subM_in (show tc (.r g) g from rfl)]; exact hb)
    have hno := hfr nx (Nat.le_refl _) (Nat.lt_succ_self _)
    have nn : ∀ t b, subM (.r g) m t = some b → t ≠ nx := fun t b hb e => by
      obtain ⟨g', c', hx⟩ := (h2.holds t b hb).th
      rw [e, hno] at hx; cases hx
    have hle : ThLe θ (updT θ nx x) := fun t y e => by
      unfold updT
      rw [if_neg (fun q => by rw [q, hno] at e; cases e)]
      exact e
    have own : ∀ {fa : Bool}, ∀ t y, Own fa (updT θ nx x) (subM (.r g) m) t y → Own fa θ (subM (.r g) m) t y := fun t y ⟨z, z1, z2⟩ => by
      cases hb : subM (.r g) m t with
      | none => rw [hb] at z2; exact z2.elim
      | some b =>
        have q := nn t b hb
        refine ⟨z, ?_, z2⟩
        unfold updT at z1
        rwa [if_neg q] at z1
    refine wp_val h3 ⟨u, updT θ nx x, rfl, ⟨hle, fun t ht => ?_, ⟨fun t b hb => (h2.holds t b hb).keep hle (Ext.refl none' _) fun _ _ _ _ h => h, fun s t y q1 q2 => h2.inj s t y (own s y q1) (own t y q2)⟩, Ext.refl _ _, fun y ⟨t, q⟩ => .inl ⟨t, own t y q⟩⟩, h4 _ (by unfold updT; rw [if_pos rfl])⟩
    by_cases e : t = nx
    · exact .inr ⟨by omega, by show t < nx + 1; omega⟩
    · left
      unfold updT at ht
      rwa [if_neg e] at ht
theorem HoldsB.store {t ty off : Nat} {cs vs : List SV} {us : List Value} {ex : Bool} (h : HoldsB ρ θ w t (.ce ty cs ex)) (hu : dens ρ θ vs = some us) (h1 : ∀ u ∈ us, u.oneCell' = true) (hle : off + vs.length ≤ cs.length) :
    ∃ g c w', θ t = some (g, c) ∧ (∀ P, (storeCells ⟨g, off, none⟩ us).run P w = .ok () w') ∧ Ext (fun k => k = g) w w' ∧ HoldsB ρ θ w' t (.ce ty (cs.take off ++ vs ++ cs.drop (off + vs.length)) ex) := by
  obtain ⟨g, c, zs, arr, rest, e1, e2, e3, e4, e5, e6, e7⟩ := h
  have hlz := dens_len e4
  have hlu := dens_len hu
  have hsz : arr.size = zs.length + rest.length := by rw [← Array.length_toList, e6]; simp
  have hfit : off + us.length ≤ zs.length := by omega
  have hr := fun P => run_storeCells_at (P := P) g off ty us 0 arr w e2 (by omega) h1
  simp only [Nat.add_zero] at hr
  have harr : arr.toList.take off ++ us ++ arr.toList.drop (off + us.length) = splice zs off us ++ rest := by
    rw [e6]
    exact splice_head hfit
  rw [harr] at hr
  refine ⟨g, c, _, e1, hr, B.setRow_ext w g _, g, c, splice zs off us, (splice zs off us ++ rest).toArray, rest, e1, setRow_heap w g arr _ ty _ e2, ?_, dens_splice e4 hu, fun v hv => (splice_mem hv).elim (e5 v) (h1 v), by simp, e7⟩
  rw [← e3, hsz]
  simp [splice_len hfit]
theorem opStore_yl {t : Nat} {x y : Operand} (hs : Sat ρ pc) (ho : o.op = .store t x y) : Yl (fun K => opStore P s m nx pc t x y fun v m nx pc ft => K ⟨v, m, nx, pc, ft⟩) (OpOk P ρ o s m nx) := by
  have hop : o.op.operands.toList = [x, y] := by simp [ho, Op.operands]
  unfold opStore
  split
  · rename_i ty hty
    obtain ⟨ok⟩ := mkTy_ok hty
    refine Yl.bind (evO_yl (ρ := ρ)) fun v hv => Yl.bind (evO_yl (ρ := ρ)) fun u hu => ?_
    split
    · rename_i g off
      split
      · rename_i e cs ex hg
        split
        · rename_i hc
          simp only [Bool.and_eq_true, Nat.beq_eq, lenC0] at hc
          refine Yl.bind setC_yl fun cs' hcs => ?_
          refine Yl.map (fun m' => (⟨.un, m', nx, pc, .w [g]⟩ : O5)) set_yl fun m' hm => OpOk.turn hs (List.mem_singleton.2 rfl) hg hm fun a w θ hsl hb => ?_
          rw [hop] at hsl
          obtain ⟨c1, c2⟩ := cellsV_ok hc.2 (hsl.ev (by simp) hu)
          obtain ⟨q, c, w', k1, k2, k3, k4⟩ := (hb g (by simp) _ hg).store c1 c2 hcs.1
          have hx := hsl.ev (by simp) hv
          simp only [den, k1, Option.map_some, Option.some.injEq] at hx
          refine ⟨undef, w', q, c, .inr ⟨?_, rfl⟩, k1, k3, by rw [hcs.2]; exact k4, rfl⟩
          have hsz : (a.eval y).cells.size = ty.sz := by rw [← Array.length_toList, dens_len c1, hc.1]
          simp [execOp, ho, ← hx, Instr.storeAt, Instr.sureAddr, storeVar, ok.size, hsz, k2 P]
        · exact Yl.no
      · exact Yl.no
    · exact Yl.no
  · exact Yl.no
def EvBOk (ρ : Rho) (s : Tr SV) (x : Option Operand) (e : Option Lin) : Prop := match x with
  | none => e = none
  | some y => ∃ l, e = some l ∧ ∀ (θ : Th) (a : Act), (∀ k ∈ rdO y, ∀ sv, s.get k = some sv → den ρ θ sv = some (get a k)) → ∃ k, a.eval y = .int k (l.den ρ)
theorem evB_yl {x : Option Operand} : Yl (evB s x) (EvBOk ρ s x) := by
  unfold evB
  split
  · exact Yl.pure _ rfl
  · rename_i y
    refine Yl.bind (evO_yl (ρ := ρ)) fun v hv => ?_
    split
    · rename_i k n
      exact Yl.pure _ ⟨_, rfl, fun θ a h => ⟨k, by have := Option.some.inj (hv θ a h); rw [const_den]; exact this.symm⟩⟩
    · rename_i k e
      exact Yl.pure _ ⟨_, rfl, fun θ a h => ⟨k, by have := Option.some.inj (hv θ a h); exact this.symm⟩⟩
    · exact Yl.no
theorem natL_yl {x : Option Lin} {d : Nat} : Yl (natL x d) fun n => (x = none ∧ n = d) ∨ ∃ l, x = some l ∧ l.den ρ = (n : Int) := by
  unfold natL
  split
  · exact Yl.pure _ (.inl ⟨rfl, rfl⟩)
  · rename_i n
    exact Yl.pure _ (.inr ⟨_, rfl, by rw [const_den]; rfl⟩)
  · exact Yl.no
def BdOk (x : Option Value) (d r : Nat) : Prop := (x = none ∧ r = d) ∨ ∃ k, x = some (.int k (r : Int))
theorem bd_of {x : Option Operand} {e : Option Lin} {d r : Nat} (h : EvBOk ρ s x e) (hr : (e = none ∧ r = d) ∨ ∃ l, e = some l ∧ l.den ρ = (r : Int)) {xs : List Operand} (hsl : SlOk ρ s θ a xs) (hx : ∀ y, x = some y → y ∈ xs) : BdOk (x.map a.eval) d r := by
  cases x with
  | none =>
    rcases hr with ⟨_, hr⟩ | ⟨l, h1, _⟩
    · exact .inl ⟨rfl, hr⟩
    · have : e = none := h
      rw [this] at h1; cases h1
  | some y =>
    obtain ⟨l, h1, h2⟩ := h
    rcases hr with ⟨h3, _⟩ | ⟨l', h3, h4⟩
    · rw [h1] at h3; cases h3
    · rw [h1] at h3; cases h3
      obtain ⟨k, hk⟩ := h2 θ a fun k hk sv hsv => hsl k (by simp only [rdOs, List.mem_flatMap]; exact ⟨y, hx y rfl, hk⟩) sv hsv
      exact .inr ⟨k, by rw [Option.map_some, hk, h4]⟩
theorem run_bound {k : IntKind} {i y : Nat} {code : BoundsCode} (h : i ≤ y) : (Instr.sliceBound (.int k (i : Int)) y code).run P w = .ok i w := by
  have h0 : (0 : Int) ≤ (i : Int) := by omega
  have h1 : (i : Int) ≤ (y : Int) := by omega
  simp [Instr.sliceBound, asIntOf, h]
theorem run_bounds {isS : Bool} {len cap l h : Nat} {lo hi : Option Value} (hlo : BdOk lo 0 l) (hhi : BdOk hi len h) (h1 : l ≤ h) (h2 : h ≤ cap) : (Instr.sliceBounds isS len cap lo hi none).run P w = .ok (l, h, cap) w := by
  unfold Instr.sliceBounds
  rcases hlo with ⟨rfl, rfl⟩ | ⟨k, rfl⟩ <;> rcases hhi with ⟨rfl, rfl⟩ | ⟨j, rfl⟩ <;> simp [run_bound, h1, h2]
theorem run_bounds3 {isS : Bool} {len cap l h c : Nat} {k j : IntKind} {lo : Option Value} (hlo : BdOk lo 0 l) (h1 : l ≤ h) (h2 : h ≤ c) (h3 : c ≤ cap) : (Instr.sliceBounds isS len cap lo (some (.int k (h : Int))) (some (.int j (c : Int)))).run P w = .ok (l, h, c) w := by
  unfold Instr.sliceBounds
  rcases hlo with ⟨rfl, rfl⟩ | ⟨i, rfl⟩ <;> simp [run_bound, h1, h2, h3]
theorem slStr_yl (hs : Sat ρ pc) {u : Str} {l h : Option Lin} : Yl (slStr pc u l h) fun v => ∃ (i j : Nat), ((l = none ∧ i = 0) ∨ ∃ e, l = some e ∧ e.den ρ = (i : Int)) ∧ ((h = none ∧ j = (denS ρ u).length) ∨ ∃ e, h = some e ∧ e.den ρ = (j : Int)) ∧ i ≤ j ∧ j ≤ (denS ρ u).length ∧ ∀ θ, den ρ θ v = some (.string (bstr (((denS ρ u).drop i).take (j - i)))) := by
  unfold slStr
  split
  · rename_i n hn
    have hn : lenN u 0 = some n := by
      unfold lenC' at hn
      split at hn
      · exact hn
      · cases hn
    have hn := lenN_den (ρ := ρ) hn
    rw [Nat.zero_add] at hn
    refine Yl.bind (natL_yl (ρ := ρ)) fun i hi => Yl.bind (natL_yl (ρ := ρ)) fun j hj => ?_
    split
    · rename_i hc
      simp only [Bool.and_eq_true, Nat.ble_eq] at hc
      refine Yl.bind2 (cutN_yl (ρ := ρ)) fun p r hp => ?_
      simp only at hp
      refine Yl.bind2 (cutN_yl (ρ := ρ)) fun q r' hq => ?_
      simp only at hq
      refine Yl.pure (SV.s q) ⟨i, j, hi, by rw [← hn]; exact hj, hc.1, by omega, fun θ => ?_⟩
      have e1 : (denS ρ u).drop i = denS ρ r := by rw [hp.1, denS_app, ← hp.2]; simp
      have e2 : (denS ρ r).take (j - i) = denS ρ q := by
        have : (denS ρ q).length = j - i := hq.2
        rw [hq.1, denS_app, ← this]; simp
      simp only [den, e1, e2]
    · exact Yl.no
  · refine Yl.bind2 (cutM_yl hs) fun p r hp => ?_
    simp only at hp
    have e1 : (denS ρ u).drop (denS ρ p).length = denS ρ r := by rw [hp.1, denS_app]; simp
    have el : (denS ρ u).length = (denS ρ p).length + (denS ρ r).length := by rw [hp.1, denS_app]; simp
    have hi : (l = none ∧ (denS ρ p).length = 0) ∨ ∃ e, l = some e ∧ e.den ρ = ((denS ρ p).length : Int) := by
      cases l with
      | none => left; have := hp.2; rw [const_den] at this; exact ⟨rfl, by omega⟩
      | some e => exact .inr ⟨e, rfl, hp.2.symm⟩
    split
    · refine Yl.pure (SV.s r) ⟨(denS ρ p).length, (denS ρ u).length, hi, .inl ⟨rfl, rfl⟩, by omega, Nat.le_refl _, fun θ => ?_⟩
      have e3 : (denS ρ u).length - (denS ρ p).length = (denS ρ r).length := by omega
      simp only [den, e1, e3, List.take_length]
    · rename_i e _
      refine Yl.bind2 (cutM_yl hs) fun q r' hq => ?_
      simp only at hq
      have h2 := hq.2
      rw [sub_den, lenS_den] at h2
      have er : (denS ρ r).length = (denS ρ q).length + (denS ρ r').length := by rw [hq.1, denS_app]; simp
      refine Yl.pure (SV.s q) ⟨(denS ρ p).length, (denS ρ p).length + (denS ρ q).length, hi, .inr ⟨e, rfl, by omega⟩, by omega, by omega, fun θ => ?_⟩
      have e2 : (denS ρ r).take (denS ρ q).length = denS ρ q := by rw [hq.1, denS_app]; simp
      rw [e1, Nat.add_sub_cancel_left, e2]
      rfl
theorem addr_add (g off k : Nat) : (⟨g, off, none⟩ : Addr).add k = ⟨g, off + k, none⟩ := by
  unfold Addr.add; split
  · rename_i h; simp [h]
  · rfl
def partV (g off sz l h c : Nat) : Value := .slice (some (if c = l then ⟨g, off, none⟩ else ⟨g, off + l * sz, none⟩)) (h - l) (c - l)
theorem slAt_yl {g off sz l h c : Nat} : Yl (slAt g off sz l h c) fun v => ∀ (θ : Th) (q : Nat × Nat), θ g = some q → den ρ θ v = some (partV q.1 off sz l h c) := by
  unfold slAt
  split
  · rename_i hc
    have hc := Nat.eq_of_beq_eq_true hc
    subst hc
    refine Yl.map _ frn_yl fun d hd θ q hq => ?_
    simp only [den, hq, Option.map_some, Cap.den, partV, if_true, hd, Nat.sub_self]
    rfl
  · rename_i hc
    have hc := Nat.ne_of_beq_eq_false hc
    refine Yl.bind frn_yl fun o ho => Yl.bind frn_yl fun d hd => Yl.map _ frn_yl fun c' hc' θ q hq => ?_
    simp only [den, hq, Option.map_some, Cap.den, partV, if_neg hc, ho, hd, hc']
    rfl
theorem known_ok {g : Nat} (h : ∀ b, m.get g = some b → HoldsB ρ θ w g b) {q : Nat × Nat} (hq : θ g = some q) : known m g ≤ q.2 := by
  unfold known
  split
  · rename_i ty cs ex hg
    obtain ⟨g', c, vs, e1, e2, _, _, e5⟩ := (h _ hg).cells
    rw [hq] at e1; cases e1
    rw [lenC0, ← dens_len e2]; exact e5
  · exact Nat.zero_le _
theorem roomC_ok {g off n : Nat} {cap : Cap} (hr : roomC m g off cap n = true) (h : ∀ b, m.get g = some b → HoldsB ρ θ w g b) {q : Nat × Nat} (hq : θ g = some q) : n ≤ cap.den q.2 off := by
  unfold roomC at hr
  split at hr
  · exact Nat.le_of_ble_eq_true hr
  · rename_i sz
    split at hr
    · exact Nat.zero_le _
    · rename_i n
      simp only [Bool.and_eq_true, Nat.ble_eq] at hr
      have h1 : off + (n + 1) * sz ≤ known m g := hr.2
      have h2 := known_ok h hq
      simp only [Cap.den]
      rw [Nat.le_div_iff_mul_le (by omega)]
      show (n + 1) * sz ≤ _
      omega
theorem slSl_yl {g off n sz : Nat} {cap : Cap} {l h c : Option Lin} : Yl (slSl m g off n cap sz l h c) fun v => ∃ i j : Nat, ((l = none ∧ i = 0) ∨ ∃ e, l = some e ∧ e.den ρ = (i : Int)) ∧ i ≤ j ∧
    ((c = none ∧ ((h = none ∧ j = n) ∨ ∃ e, h = some e ∧ e.den ρ = (j : Int)) ∧ ∀ (θ : Th) (w : World) (q : Nat × Nat), (∀ b, m.get g = some b → HoldsB ρ θ w g b) → θ g = some q → j ≤ cap.den q.2 off ∧ den ρ θ v = some (partV q.1 off sz i j (cap.den q.2 off))) ∨
     (∃ (k : Nat) (e e' : Lin), h = some e ∧ e.den ρ = (j : Int) ∧ c = some e' ∧ e'.den ρ = (k : Int) ∧ j ≤ k ∧ ∀ (θ : Th) (w : World) (q : Nat × Nat), (∀ b, m.get g = some b → HoldsB ρ θ w g b) → θ g = some q → k ≤ cap.den q.2 off ∧ den ρ θ v = some (partV q.1 off sz i j k))) := by
  unfold slSl
  refine Yl.bind (natL_yl (ρ := ρ)) fun i hi => ?_
  split
  · rename_i e'
    split
    · rename_i e
      refine Yl.bind (natL_yl (ρ := ρ)) fun j hj => Yl.bind (natL_yl (ρ := ρ)) fun k hk => ?_
      split
      · rename_i hc
        simp only [Bool.and_eq_true, Nat.ble_eq] at hc
        obtain ⟨e1, h1, h2⟩ : ∃ x, some e = some x ∧ x.den ρ = (j : Int) := hj.resolve_left (by simp)
        obtain ⟨e2, h3, h4⟩ : ∃ x, some e' = some x ∧ x.den ρ = (k : Int) := hk.resolve_left (by simp)
        cases h1; cases h3
        refine Yl.mono (slAt_yl (ρ := ρ)) fun v hv => ⟨i, j, hi, hc.1.1, .inr ⟨k, e, e', rfl, h2, rfl, h4, hc.1.2, fun θ w q hb hq => ⟨roomC_ok hc.2 hb hq, hv θ q hq⟩⟩⟩
      · exact Yl.no
    · exact Yl.no
  · refine Yl.bind (natL_yl (ρ := ρ)) fun j hj => ?_
    split
    · rename_i hc
      simp only [Bool.and_eq_true, Nat.ble_eq] at hc
      split
      · rename_i k
        refine Yl.mono (slAt_yl (ρ := ρ)) fun v hv => ⟨i, j, hi, hc.1, .inl ⟨rfl, hj, fun θ w q hb hq => ⟨roomC_ok hc.2 hb hq, hv θ q hq⟩⟩⟩
      · rename_i z
        split
        · rename_i h0
          have h0 := Nat.eq_of_beq_eq_true h0
          subst h0
          refine Yl.pure _ ⟨0, j, hi, hc.1, .inl ⟨rfl, hj, fun θ w q hb hq => ⟨roomC_ok hc.2 hb hq, ?_⟩⟩⟩
          simp [den, hq, partV, Cap.den]
        · split
          · rename_i h1
            simp only [Bool.and_eq_true, Nat.beq_eq] at h1
            obtain ⟨rfl, h1⟩ := h1
            refine Yl.bind frn_yl fun o ho => Yl.map _ frn_yl fun d hd => ⟨i, j, hi, hc.1, .inl ⟨rfl, hj, fun θ w q hb hq => ⟨roomC_ok hc.2 hb hq, ?_⟩⟩⟩
            have hlt := roomC_ok h1 hb hq
            have hz : 0 < z := by
              unfold roomC at h1
              simp only [Bool.and_eq_true, Nat.ble_eq] at h1
              exact h1.1
            simp only [Cap.den] at hlt ⊢
            have hne : ¬ (q.2 - off) / z = i := by have : i + 1 ≤ (q.2 - off) / z := hlt; omega
            simp only [den, hq, Option.map_some, partV, Cap.den, if_neg hne, ho, hd]
            have e1 : (q.2 - (off + i * z)) / z = (q.2 - off) / z - i := by
              rw [show q.2 - (off + i * z) = (q.2 - off) - z * i by rw [Nat.mul_comm z i]; omega]
              exact Nat.sub_mul_div _ _ _
            have e2 : Nat.add off (Nat.mul i z) = off + i * z := rfl
            rw [e2, e1]
            rfl
          · exact Yl.no
    · exact Yl.no
theorem opSlice_yl {t : Nat} {x : Operand} {lo hi mx : Option Operand} (hs : Sat ρ pc) (ho : o.op = .slice t x lo hi mx) : Yl (fun K => opSlice P s m nx pc t x lo hi mx fun v m nx pc ft => K ⟨v, m, nx, pc, ft⟩) (OpOk P ρ o s m nx) := by
  have hop : o.op.operands.toList = [x] ++ lo.toList ++ hi.toList ++ mx.toList := by simp [ho, Op.operands]
  have mlo : ∀ y, lo = some y → y ∈ o.op.operands.toList := fun y h => by rw [hop, h]; simp
  have mhi : ∀ y, hi = some y → y ∈ o.op.operands.toList := fun y h => by rw [hop, h]; simp
  have mmx : ∀ y, mx = some y → y ∈ o.op.operands.toList := fun y h => by rw [hop, h]; simp
  have mx0 : x ∈ o.op.operands.toList := by rw [hop]; simp
  unfold opSlice
  refine Yl.bind (evO_yl (ρ := ρ)) fun v hv => Yl.bind (evB_yl (ρ := ρ)) fun l hl => Yl.bind (evB_yl (ρ := ρ)) fun h hh => Yl.bind (evB_yl (ρ := ρ)) fun c hc => ?_
  have mxN : c = none → mx = none := fun e => by
    cases mx with
    | none => rfl
    | some y => obtain ⟨l', h1, _⟩ := hc; rw [e] at h1; cases h1
  split
  · rename_i u hk
    obtain ⟨d, hd, hk'⟩ := kindT_ok hk (by simp)
    rw [tk_str hk'] at hd
    split
    · have hmx := mxN rfl
      subst hmx
      refine Yl.map (fun v => (⟨v, m, nx, pc, .n⟩ : O5)) (slStr_yl (ρ := ρ) hs) fun r hr => OpOk.pure hs fun a w θ hsl => ?_
      obtain ⟨i, j, h1, h2, h3, h4, h5⟩ := hr
      have hx : a.eval x = .string (bstr (denS ρ u)) := (Option.some.inj (hsl.ev mx0 hv)).symm
      have b1 := bd_of hl h1 hsl mlo
      have b2 := bd_of hh h2 hsl mhi
      refine ⟨_, ?_, h5 θ⟩
      have hb := run_bounds (P := P) (w := w) (isS := false) (cap := (denS ρ u).length) b1 b2 h3 h4
      simp [Runs, execOp, ho, hx, Instr.sliceAt, Instr.slice, run_underlying hd, bstr_size, hb, bstr_ext]
    · exact Yl.no
  · rename_i e hk
    obtain ⟨d, hd, hk'⟩ := kindT_ok hk (by simp)
    rw [tk_slice hk'] at hd
    split
    · rename_i ye hye
      obtain ⟨ok⟩ := mkTy_ok hye
      have go : (c = none ∨ ∃ e1, h = some e1) → Yl (fun K => natL l 0 fun l => natL h 0 fun h => natL c 0 fun c => match Nat.beq l 0 && Nat.beq h 0 && Nat.beq c 0 with
          | true => K (⟨.ns, m, nx, pc, .n⟩ : O5)
          | false => false) (OpOk P ρ o s m nx) := by
        intro hch
        refine Yl.bind (natL_yl (ρ := ρ)) fun i hi' => Yl.bind (natL_yl (ρ := ρ)) fun j hj => Yl.bind (natL_yl (ρ := ρ)) fun k hk => ?_
        split
        · rename_i h0
          simp only [Bool.and_eq_true, Nat.beq_eq] at h0
          obtain ⟨⟨rfl, rfl⟩, rfl⟩ := h0
          refine Yl.pure _ (OpOk.pure hs fun a w θ hsl => ⟨.slice none 0 0, ?_, rfl⟩)
          have hx : a.eval x = .slice none 0 0 := (Option.some.inj (hsl.ev mx0 hv)).symm
          have b1 := bd_of hl hi' hsl mlo
          have b2 := bd_of hh hj hsl mhi
          cases hcc : c with
          | none =>
            have hmx := mxN hcc
            subst hmx
            have hb := run_bounds (P := P) (w := w) (isS := true) (cap := 0) b1 b2 (Nat.le_refl _) (Nat.le_refl _)
            simp [Runs, execOp, ho, hx, Instr.sliceAt, Instr.slice, run_underlying hd, ok.size, hb]
          | some e2 =>
            have b3 := bd_of hc hk hsl mmx
            obtain ⟨e1, he1⟩ : ∃ e1, h = some e1 := hch.resolve_left (by rw [hcc]; simp)
            have b2' : ∃ k1, hi.map a.eval = some (.int k1 (0 : Nat)) := by
              rcases b2 with ⟨q, _⟩ | q
              · cases hi with
                | none => have : h = none := hh; rw [he1] at this; cases this
                | some y => simp at q
              · exact q
            have b3' : ∃ k1, mx.map a.eval = some (.int k1 (0 : Nat)) := by
              rcases b3 with ⟨q, _⟩ | q
              · cases mx with
                | none => have : c = none := hc; rw [hcc] at this; cases this
                | some y => simp at q
              · exact q
            obtain ⟨k1, q1⟩ := b2'
            obtain ⟨k2, q2⟩ := b3'
            have hb := run_bounds3 (P := P) (w := w) (isS := true) (len := 0) (cap := 0) (k := k1) (j := k2) b1 (Nat.le_refl 0) (Nat.le_refl 0) (Nat.le_refl 0)
            rw [← q1, ← q2] at hb
            simp [Runs, execOp, ho, hx, Instr.sliceAt, Instr.slice, run_underlying hd, ok.size, hb]
        · exact Yl.no
      split
      · exact Yl.no
      · rename_i hne
        refine go ?_
        cases hcc : c with
        | none => exact .inl rfl
        | some e2 =>
          cases hhh : h with
          | none => exact absurd hhh (hne _ hcc)
          | some e1 => exact .inr ⟨e1, rfl⟩
    · exact Yl.no
  · rename_i g off n cap e hk
    obtain ⟨d, hd, hk'⟩ := kindT_ok hk (by simp)
    rw [tk_slice hk'] at hd
    split
    · rename_i ye hye
      obtain ⟨ok⟩ := mkTy_ok hye
      split
      · rename_i hend
        refine Yl.bind frn_yl fun nx' hnx => ?_
        subst hnx
        refine Yl.pure (⟨.sv nx' (.mk 0 []), m, nx' + 1, pc, .r g⟩ : O5) (OpOk.tag hs fun a w θ hsl hb => ?_)
        unfold endAt at hend
        split at hend
        · rename_i z k
          simp only [Bool.and_eq_true, Nat.beq_eq] at hend
          obtain ⟨⟨⟨c1, c2⟩, c3⟩, _⟩ := hend
          have c1 : k + 1 = n := c1
          subst c1; subst c2
          have hx := hsl.ev mx0 hv
          simp only [den, Option.map_eq_some_iff] at hx
          obtain ⟨q, hq, hx⟩ := hx
          have hroom := roomC_ok c3 hb hq
          have hmx := mxN rfl
          subst hmx
          have hi0 : hi = none := by
            cases hi with
            | none => rfl
            | some y => obtain ⟨l', q1, _⟩ := hh; cases q1
          subst hi0
          have b1 := bd_of (r := k + 1) (d := 0) hl (.inr ⟨_, rfl, by simp [Lin.den, dts]⟩) hsl mlo
          have hrun : (Instr.sliceBounds true (k + 1) (Cap.den q.2 off (.q ye.sz)) (lo.map a.eval) (none : Option Value) none).run P w = .ok (k + 1, k + 1, Cap.den q.2 off (.q ye.sz)) w := run_bounds b1 (.inl ⟨rfl, rfl⟩) (Nat.le_refl _) hroom
          have fin : ∀ {k' : Nat}, (Instr.sliceBounds true (k + 1) (Cap.den q.2 off (.q ye.sz)) (lo.map a.eval) (none : Option Value) none).run P w = .ok (k + 1, k + 1, k') w → Runs P a o w (partV q.1 off ye.sz (k + 1) (k + 1) k') := fun {k'} hrun => by
            by_cases hki : k' = k + 1
            · simp [Runs, execOp, ho, ← hx, Instr.sliceAt, Instr.slice, run_underlying hd, hrun, ok.size, partV, hki]
            · simp [Runs, execOp, ho, ← hx, Instr.sliceAt, Instr.slice, run_underlying hd, hrun, ok.size, partV, hki, addr_add]
          obtain ⟨A, hA⟩ : ∃ A : Addr, A = if Cap.den q.2 off (.q ye.sz) = k + 1 then ⟨q.1, off, none⟩ else ⟨q.1, off + (k + 1) * ye.sz, none⟩ := ⟨_, rfl⟩
          obtain ⟨cd, d1, d2, d3⟩ := adrC_all A (Cap.den q.2 off (.q ye.sz) - (k + 1)) (#[], 0, 0, 0)
          refine ⟨partV q.1 off ye.sz (k + 1) (k + 1) (Cap.den q.2 off (.q ye.sz)), (A.block, cd + 1), ?_, fun θ' hθ => ?_⟩
          · exact fin hrun
          · have e0 : Lin.den ρ (.mk 0 []) = 0 := by simp [Lin.den, dts]
            simp only [den, hθ, Option.bind_some, d1, d2, e0, partV, Nat.sub_self]
            rw [hA]
            simp
        · cases hend
      refine Yl.map (fun v => (⟨v, m, nx, pc, .r g⟩ : O5)) (slSl_yl (ρ := ρ)) fun r hr => OpOk.read hs fun a w θ hsl hb => ?_
      obtain ⟨i, j, h1, h2, h3⟩ := hr
      have hx := hsl.ev mx0 hv
      simp only [den, Option.map_eq_some_iff] at hx
      obtain ⟨q, hq, hx⟩ := hx
      have b1 := bd_of hl h1 hsl mlo
      have fin : ∀ {k : Nat}, (Instr.sliceBounds true n (cap.den q.2 off) (lo.map a.eval) (hi.map a.eval) (mx.map a.eval)).run P w = .ok (i, j, k) w → Runs P a o w (partV q.1 off ye.sz i j k) := fun {k} hrun => by
        by_cases hki : k = i
        · simp [Runs, execOp, ho, ← hx, Instr.sliceAt, Instr.slice, run_underlying hd, hrun, ok.size, partV, hki]
        · simp [Runs, execOp, ho, ← hx, Instr.sliceAt, Instr.slice, run_underlying hd, hrun, ok.size, partV, hki, addr_add]
      rcases h3 with ⟨hcn, hjj, h4⟩ | ⟨k, e1, e2, q1, q2, q3, q4, q5, h4⟩
      · have hmx := mxN hcn
        subst hmx
        obtain ⟨g1, g2⟩ := h4 θ w q hb hq
        have b2 := bd_of hh hjj hsl mhi
        exact ⟨_, fin (run_bounds b1 b2 h2 g1), g2⟩
      · obtain ⟨g1, g2⟩ := h4 θ w q hb hq
        have b2 : ∃ k1, hi.map a.eval = some (.int k1 (j : Int)) := by
          rcases bd_of (d := 0) (r := j) hh (.inr ⟨e1, q1, q2⟩) hsl mhi with ⟨z, _⟩ | z
          · cases hi with
            | none => have : h = none := hh; rw [q1] at this; cases this
            | some y => simp at z
          · exact z
        have b3 : ∃ k1, mx.map a.eval = some (.int k1 (k : Int)) := by
          rcases bd_of (d := 0) (r := k) hc (.inr ⟨e2, q3, q4⟩) hsl mmx with ⟨z, _⟩ | z
          · cases mx with
            | none => have : c = none := hc; rw [q3] at this; cases this
            | some y => simp at z
          · exact z
        obtain ⟨k1, z1⟩ := b2
        obtain ⟨k2, z2⟩ := b3
        refine ⟨_, fin (k := k) ?_, g2⟩
        rw [z1, z2]
        exact run_bounds3 b1 h2 q5 g1
    · exact Yl.no
  · rename_i g off n e hk
    obtain ⟨d, hd, hk'⟩ := kindT_ok hk (by simp)
    rw [tk_arr hk'] at hd
    split
    · have hmx := mxN rfl
      subst hmx
      split
      · rename_i ye hye
        obtain ⟨ok⟩ := mkTy_ok hye
        refine Yl.bind (natL_yl (ρ := ρ)) fun i hi' => Yl.bind (natL_yl (ρ := ρ)) fun j hj => ?_
        split
        · rename_i h0
          simp only [Bool.and_eq_true, Nat.ble_eq] at h0
          refine Yl.map (fun v => (⟨v, m, nx, pc, .n⟩ : O5)) (slAt_yl (ρ := ρ)) fun r hr => OpOk.pure hs fun a w θ hsl => ?_
          have hx := hsl.ev mx0 hv
          simp only [den, Option.map_eq_some_iff] at hx
          obtain ⟨q, hq, hx⟩ := hx
          have b1 := bd_of hl hi' hsl mlo
          have b2 := bd_of hh hj hsl mhi
          have hrun := run_bounds (P := P) (w := w) (isS := false) (cap := n) b1 b2 h0.1 h0.2
          refine ⟨_, ?_, hr θ q hq⟩
          by_cases hki : n = i
          · subst hki
            simp [Runs, execOp, ho, ← hx, Instr.sliceAt, Instr.sureAddr, run_underlying hd, hrun, ok.size, partV]
          · simp [Runs, execOp, ho, ← hx, Instr.sliceAt, Instr.sureAddr, run_underlying hd, hrun, ok.size, partV, hki, addr_add]
        · exact Yl.no
      · exact Yl.no
    · exact Yl.no
  · exact Yl.no
end
end X
end Go.Proofs.YtebfahobllghnaaGreatDoor
namespace Go.Proofs.YtebfahobllghnaaGreatDoor
namespace X
open Go.RowKit B
section
variable {P : Program} {ρ : Rho} {o : Oper} {s : Tr SV} {m : Mem} {nx : Nat} {pc : PC} {a : Act} {w w' : World} {θ : Th}
theorem zeroT_yl {t : Nat} : Yl (zeroT P t) fun z => ∃ u, (∀ θ, den ρ θ z = some u) ∧ ∀ w, (zeroValue t).run P w = .ok u w := by
  unfold zeroT
  split
  · rename_i y hy
    obtain ⟨ok⟩ := mkTy_ok hy
    have hz := fun θ => (cstL_ok (ρ := ρ) (θ := θ) ok.zs).1
    have hag : y.agg = isAggV ok.z := by rw [ok.agg, ok.za]
    split
    · rename_i h
      refine Yl.pure _ ⟨ok.z, fun θ => ?_, ok.zero⟩
      rw [h] at hag
      cases hzz : ok.z with
      | agg cs =>
        have := hz θ
        rw [hzz] at this
        simp only [den, this, Option.map_some]
        simp [Value.cells]
      | _ => rw [hzz] at hag; simp [isAggV] at hag
    · rename_i h
      refine Yl.mono nthC_yl fun v hv => ⟨ok.z, fun θ => ?_, ok.zero⟩
      rw [h] at hag
      have hc : ok.z.cells = #[ok.z] := by
        cases hzz : ok.z with
        | agg cs => rw [hzz] at hag; simp [isAggV] at hag
        | _ => rfl
      have := hz θ
      rw [hc] at this
      obtain ⟨u, h1, h2⟩ := dens_get this hv
      simp at h1
      rw [h1]; exact h2
  · exact Yl.no
def KeyD (d : TypeDesc) (x : SV) : Prop := (∃ j k n, d = .int j ∧ x = .i k n) ∨ (∃ l, d = .string ∧ x = .s l)
theorem mapT_ok {t e : Nat} {k : SV} (h : mapT P t k = some e) : ∃ kt d, P.underlying t = some (.map kt e) ∧ P.underlying kt = some d ∧ KeyD d k := by
  unfold mapT at h
  split at h
  · rename_i kt e' hk
    obtain ⟨d, hd, hk'⟩ := kindT_ok hk (by simp)
    rw [tk_map hk'] at hd
    split at h
    · rename_i j i n hk2
      cases h
      obtain ⟨d2, hd2, hk2'⟩ := kindT_ok hk2 (by simp)
      rw [tk_int hk2'] at hd2
      exact ⟨kt, _, hd, hd2, .inl ⟨_, _, _, rfl, rfl⟩⟩
    · rename_i l hk2
      cases h
      obtain ⟨d2, hd2, hk2'⟩ := kindT_ok hk2 (by simp)
      rw [tk_str hk2'] at hd2
      exact ⟨kt, _, hd, hd2, .inr ⟨_, rfl, rfl⟩⟩
    · cases h
  · cases h
theorem bstr_beq {a b : Str} (ha : knownS a = true) (hb : knownS b = true) : (bstr (denS ρ a) == bstr (denS ρ b)) = eqStr a b := by
  have h1 : (bstr (denS ρ a) == bstr (denS ρ b)) = decide (denS ρ a = denS ρ b) := by
    have h0 : (bstr (denS ρ a) == bstr (denS ρ b)) = ((bstr (denS ρ a)).data == (bstr (denS ρ b)).data) := rfl
    rw [h0, Bool.eq_iff_iff, beq_iff_eq, decide_eq_true_eq]
    simp [bstr]
  rw [h1, Bool.eq_iff_iff, decide_eq_true_eq]
  exact ⟨known_ne ha hb, fun h => by rw [eqStr_ok h]⟩
theorem keyEq_ok {d : TypeDesc} {x k : SV} {r : Bool} {u v : Value} (hd : KeyD d x) (h : keyEq x k = some r) (hu : den ρ θ x = some u) (hv : den ρ θ k = some v) : Instr.sameNow d u v = some r ∧ (r = true → ∀ n, Instr.sameBits (n + 1) v u = true) := by
  unfold keyEq at h
  split at h
  · rename_i i p j q
    split at h
    · rename_i hij
      have hij := ikEq_iff.1 hij
      subst hij
      cases h; cases hu; cases hv
      rcases hd with ⟨j', k', n, rfl, _⟩ | ⟨l, _, h2⟩
      · refine ⟨by simp only [Instr.sameNow, if_true, Option.some.injEq]; rw [eqI_eq]; rfl, fun hr n => ?_⟩
        have := eqI_iff.1 hr
        subst this
        simp [Instr.sameBits]
      · cases h2
    · cases h
  · rename_i p q
    split at h
    · rename_i hk
      simp only [Bool.and_eq_true] at hk
      cases h; cases hu; cases hv
      rcases hd with ⟨j', k', n, _, h2⟩ | ⟨l, rfl, _⟩
      · cases h2
      · refine ⟨by simp only [Instr.sameNow]; rw [bstr_beq hk.1 hk.2], fun hr n => ?_⟩
        have := bstr_beq (ρ := ρ) hk.2 hk.1
        simp only [Instr.sameBits, this]
        rw [eqStr_ok hr]
        exact known_ne (ρ := ρ) hk.2 hk.2 rfl
    · cases h
  · cases h
theorem findK_yl {d : TypeDesc} {x : SV} (hd : KeyD d x) : ∀ {es : List (SV × SV × Nat)}, Yl (findK es x) fun r => ∀ (θ : Th) (xs : List MapEntry) (u : Value), denE ρ θ es = some xs → den ρ θ x = some u → ∀ i, (match r with
    | some v => ∃ j val, Instr.findNow d u xs i = some (some (j, val)) ∧ den ρ θ v = some val
    | none => Instr.findNow d u xs i = some none)
  | [] => Yl.pure none fun θ xs u h _ i => by cases h; rfl
  | (k, v, n) :: es => by
    have e0 : findK ((k, v, n) :: es) x = fun K => match keyEq x k with
      | some true => K (some v)
      | some false => findK es x K
      | none => false := rfl
    rw [e0]
    have open1 : ∀ {θ : Th} {xs : List MapEntry}, denE ρ θ ((k, v, n) :: es) = some xs → ∃ kv vv xs', xs = ⟨kv, vv, n⟩ :: xs' ∧ den ρ θ k = some kv ∧ den ρ θ v = some vv ∧ denE ρ θ es = some xs' := fun h => by
      simp only [denE, Option.bind_eq_some_iff, Option.map_eq_some_iff] at h
      obtain ⟨a, h1, b, h2, es', h3, rfl⟩ := h
      exact ⟨a, b, es', rfl, h1, h2, h3⟩
    split
    · rename_i h
      refine Yl.pure _ fun θ xs u hx hu i => ?_
      obtain ⟨kv, vv, xs', rfl, h1, h2, h3⟩ := open1 hx
      have := (keyEq_ok hd h hu h1).1
      exact ⟨i, vv, by simp only [Instr.findNow, this], h2⟩
    · rename_i h
      refine Yl.mono (findK_yl hd (es := es)) fun r hr θ xs u hx hu i => ?_
      obtain ⟨kv, vv, xs', rfl, h1, h2, h3⟩ := open1 hx
      have h4 := (keyEq_ok hd h hu h1).1
      have := hr θ xs' u h3 hu (i + 1)
      simp only [Instr.findNow, h4]
      cases r <;> exact this
    · exact Yl.no
theorem checkKey_ok1 {b : Bool} {kt n : Nat} {d : TypeDesc} {k : SV} {u : Value} (hkt : P.underlying kt = some d) (hd : KeyD d k) (hu : den ρ θ k = some u) : (Instr.checkKey b (n + 1) kt u).run P w = .ok () w := by
  rcases hd with ⟨j, i, n, rfl, rfl⟩ | ⟨l, rfl, rfl⟩
  · cases hu; simp [Instr.checkKey, run_underlying hkt]
  · cases hu; simp [Instr.checkKey, run_underlying hkt]
theorem checkKey_ok {b : Bool} {kt : Nat} {d : TypeDesc} {k : SV} {u : Value} (hkt : P.underlying kt = some d) (hd : KeyD d k) (hu : den ρ θ k = some u) : (Instr.checkKey b 10000 kt u).run P w = .ok () w := checkKey_ok1 (n := 9999) hkt hd hu
theorem findKey_ok {kt : Nat} {d : TypeDesc} {u : Value} {xs : List MapEntry} {r : Option (Nat × Value)} (hkt : P.underlying kt = some d) (h : Instr.findNow d u xs 0 = some r) : (Instr.findKey kt u xs).run P w = .ok r w := by
  simp [Instr.findKey, run_underlying hkt, h]
theorem getObj_ok {g : Nat} {arr : Array MapEntry} {ck : Nat} (h : w.heap[g]? = some (.map arr ck)) : (getObj g).run P w = .ok (.map arr ck) w := by
  simp [getObj, Sem.run, h]
theorem opLookup_yl {t : Nat} {x y : Operand} {ok : Bool} (hs : Sat ρ pc) (ho : o.op = .lookup t x y ok) : Yl (fun K => opLookup P s m nx pc t x y ok fun v m nx pc ft => K ⟨v, m, nx, pc, ft⟩) (OpOk P ρ o s m nx) := by
  have hop : o.op.operands.toList = [x, y] := by simp [ho, Op.operands]
  unfold opLookup
  refine Yl.bind (evO_yl (ρ := ρ)) fun v hv => Yl.bind (evO_yl (ρ := ρ)) fun k hk => ?_
  split
  · rename_i e hm
    obtain ⟨kt, d, h1, h2, h3⟩ := mapT_ok hm
    split
    · refine Yl.bind (zeroT_yl (ρ := ρ)) fun z hz => ?_
      obtain ⟨zu, hz1, hz2⟩ := hz
      have run : ∀ (a : Act) (w : World) (θ : Th), SlOk ρ s θ a o.op.operands.toList → Runs P a o w (if ok = true then .tuple #[zu, .bool false] else zu) := fun a w θ hsl => by
        rw [hop] at hsl
        have hx : a.eval x = .map none := (Option.some.inj (hsl.ev (by simp) hv)).symm
        have hy := hsl.ev (by simp) hk
        have c1 := checkKey_ok (P := P) (w := w) (b := true) h2 h3 hy
        have c2 := findKey_ok (P := P) (w := w) (u := a.eval y) (xs := []) h2 rfl
        simp [Runs, execOp, ho, hx, Instr.lookup, run_underlying h1, c1, c2, hz2]
      split
      · exact Yl.pure _ (OpOk.pure hs fun a w θ hsl => ⟨_, by simpa using run a w θ hsl, by simp [den, dens, hz1]⟩)
      · exact Yl.pure _ (OpOk.pure hs fun a w θ hsl => ⟨_, by simpa using run a w θ hsl, hz1 θ⟩)
    · rename_i g
      split
      · rename_i es ck hg
        refine Yl.bind (findK_yl (ρ := ρ) h3) fun r hr => ?_
        have run : ∀ (a : Act) (w : World) (θ : Th) (hsl : SlOk ρ s θ a o.op.operands.toList) (hb : ∀ b, m.get g = some b → HoldsB ρ θ w g b), ∃ (c : Nat × Nat) (arr : Array MapEntry), a.eval x = .map (some c.1) ∧ (getObj c.1).run P w = .ok (.map arr ck) w ∧ (Instr.checkKey arr.isEmpty 10000 kt (a.eval y)).run P w = .ok () w ∧
            (match r with
              | some v => ∃ j val, (Instr.findKey kt (a.eval y) arr.toList).run P w = .ok (some (j, val)) w ∧ den ρ θ v = some val
              | none => (Instr.findKey kt (a.eval y) arr.toList).run P w = .ok none w) := fun a w θ hsl hb => by
          rw [hop] at hsl
          obtain ⟨g', c, arr, e1, e2, e3⟩ := hb _ hg
          have hx := hsl.ev (by simp) hv
          simp only [den, e1, Option.map_some, Option.some.injEq] at hx
          have hy := hsl.ev (by simp) hk
          refine ⟨(g', c), arr, hx.symm, getObj_ok e2, checkKey_ok h2 h3 hy, ?_⟩
          have := hr θ _ _ e3 hy 0
          cases r with
          | some v => obtain ⟨j, val, q1, q2⟩ := this; exact ⟨j, val, findKey_ok h2 q1, q2⟩
          | none => exact findKey_ok h2 this
        split
        · rename_i u
          split
          · refine Yl.pure _ (OpOk.read hs fun a w θ hsl hb => ?_)
            obtain ⟨c, arr, r1, r2, r3, j, val, r4, r5⟩ := run a w θ hsl hb
            exact ⟨.tuple #[val, .bool true], by simp [Runs, execOp, ho, r1, Instr.lookup, run_underlying h1, r2, r3, r4], by simp [den, dens, r5]⟩
          · refine Yl.pure _ (OpOk.read hs fun a w θ hsl hb => ?_)
            obtain ⟨c, arr, r1, r2, r3, j, val, r4, r5⟩ := run a w θ hsl hb
            exact ⟨val, by simp [Runs, execOp, ho, r1, Instr.lookup, run_underlying h1, r2, r3, r4], r5⟩
        · refine Yl.bind (zeroT_yl (ρ := ρ)) fun z hz => ?_
          obtain ⟨zu, hz1, hz2⟩ := hz
          split
          · refine Yl.pure _ (OpOk.read hs fun a w θ hsl hb => ?_)
            obtain ⟨c, arr, r1, r2, r3, r4⟩ := run a w θ hsl hb
            exact ⟨.tuple #[zu, .bool false], by simp [Runs, execOp, ho, r1, Instr.lookup, run_underlying h1, r2, r3, r4, hz2], by simp [den, dens, hz1]⟩
          · refine Yl.pure _ (OpOk.read hs fun a w θ hsl hb => ?_)
            obtain ⟨c, arr, r1, r2, r3, r4⟩ := run a w θ hsl hb
            exact ⟨zu, by simp [Runs, execOp, ho, r1, Instr.lookup, run_underlying h1, r2, r3, r4, hz2], hz1 θ⟩
      · exact Yl.no
    · exact Yl.no
  · exact Yl.no
theorem putK_yl {d : TypeDesc} {x y : SV} {ck : Nat} (hd : KeyD d x) : ∀ {es : List (SV × SV × Nat)}, Yl (fun K => putK es x y ck fun es ck => K (es, ck)) fun r => ∀ (θ : Th) (xs : List MapEntry) (u v : Value), denE ρ θ es = some xs → den ρ θ x = some u → den ρ θ y = some v → ∀ i,
    (∃ j val old, Instr.findNow d u xs i = some (some (i + j, val)) ∧ xs[j]? = some old ∧ (∀ n, Instr.sameBits (n + 1) old.key u = true) ∧ r.2 = ck ∧ denE ρ θ r.1 = some (xs.modify j fun e => { e with key := u, val := v })) ∨
    (Instr.findNow d u xs i = some none ∧ r.2 = ck + 1 ∧ denE ρ θ r.1 = some (xs ++ [⟨u, v, ck⟩]))
  | [] => Yl.pure ([(x, y, ck)], ck + 1) fun θ xs u v h hu hv i => by
    cases h
    exact .inr ⟨rfl, rfl, by simp [denE, hu, hv]⟩
  | (k, v0, n) :: es => by
    have e0 : (fun K : List (SV × SV × Nat) × Nat → Bool => putK ((k, v0, n) :: es) x y ck fun es ck => K (es, ck)) = fun K => match keyEq x k with
      | some true => K ((x, y, n) :: es, ck)
      | some false => putK es x y ck fun r c => K ((k, v0, n) :: r, c)
      | none => false := rfl
    rw [e0]
    have open1 : ∀ {θ : Th} {xs : List MapEntry}, denE ρ θ ((k, v0, n) :: es) = some xs → ∃ kv vv xs', xs = ⟨kv, vv, n⟩ :: xs' ∧ den ρ θ k = some kv ∧ den ρ θ v0 = some vv ∧ denE ρ θ es = some xs' := fun h => by
      simp only [denE, Option.bind_eq_some_iff, Option.map_eq_some_iff] at h
      obtain ⟨a, h1, b, h2, es', h3, rfl⟩ := h
      exact ⟨a, b, es', rfl, h1, h2, h3⟩
    split
    · rename_i h
      refine Yl.pure ((x, y, n) :: es, ck) fun θ xs u v hx hu hv i => ?_
      obtain ⟨kv, vv, xs', rfl, h1, h2, h3⟩ := open1 hx
      obtain ⟨q1, q2⟩ := keyEq_ok hd h hu h1
      exact .inl ⟨0, vv, _, by simp only [Instr.findNow, q1, Nat.add_zero], rfl, q2 rfl, rfl, by simp [denE, hu, hv, h3]⟩
    · rename_i h
      refine Yl.map (fun r : List (SV × SV × Nat) × Nat => ((k, v0, n) :: r.1, r.2)) (putK_yl hd (es := es)) fun r hr => ?_
      intro θ xs u v hx hu hv i
      obtain ⟨kv, vv, xs', rfl, h1, h2, h3⟩ := open1 hx
      have q1 := (keyEq_ok hd h hu h1).1
      rcases hr θ xs' u v h3 hu hv (i + 1) with ⟨j, val, old, g1, g2, g3, g4, g5⟩ | ⟨g1, g2, g3⟩
      · refine .inl ⟨j + 1, val, old, ?_, by simpa using g2, g3, g4, ?_⟩
        · simp only [Instr.findNow, q1]
          rw [g1, show i + 1 + j = i + (j + 1) by omega]
        · simp [denE, h1, h2, g5]
      · refine .inr ⟨?_, g2, ?_⟩
        · simp only [Instr.findNow, q1]; exact g1
        · simp [denE, h1, h2, g3]
    · exact Yl.no
theorem delK_yl {d : TypeDesc} {x : SV} (hd : KeyD d x) : ∀ {es : List (SV × SV × Nat)}, Yl (delK es x) fun r => ∀ (θ : Th) (xs : List MapEntry) (u : Value), denE ρ θ es = some xs → den ρ θ x = some u → ∀ i,
    (∃ j val, Instr.findNow d u xs i = some (some (i + j, val)) ∧ denE ρ θ r = some (xs.eraseIdx j) ∧ j < xs.length) ∨ (Instr.findNow d u xs i = some none ∧ denE ρ θ r = some xs)
  | [] => Yl.pure [] fun θ xs u h hu i => by
    cases h
    exact .inr ⟨rfl, rfl⟩
  | (k, v0, n) :: es => by
    have e0 : delK ((k, v0, n) :: es) x = fun K => match keyEq x k with
      | some true => K es
      | some false => delK es x fun r => K ((k, v0, n) :: r)
      | none => false := rfl
    rw [e0]
    have open1 : ∀ {θ : Th} {xs : List MapEntry}, denE ρ θ ((k, v0, n) :: es) = some xs → ∃ kv vv xs', xs = ⟨kv, vv, n⟩ :: xs' ∧ den ρ θ k = some kv ∧ den ρ θ v0 = some vv ∧ denE ρ θ es = some xs' := fun h => by
      simp only [denE, Option.bind_eq_some_iff, Option.map_eq_some_iff] at h
      obtain ⟨a, h1, b, h2, es', h3, rfl⟩ := h
      exact ⟨a, b, es', rfl, h1, h2, h3⟩
    split
    · rename_i h
      refine Yl.pure _ fun θ xs u hx hu i => ?_
      obtain ⟨kv, vv, xs', rfl, h1, h2, h3⟩ := open1 hx
      have q1 := (keyEq_ok hd h hu h1).1
      exact .inl ⟨0, vv, by simp only [Instr.findNow, q1, Nat.add_zero], h3, by simp⟩
    · rename_i h
      refine Yl.map _ (delK_yl hd (es := es)) fun r hr => ?_
      intro θ xs u hx hu i
      obtain ⟨kv, vv, xs', rfl, h1, h2, h3⟩ := open1 hx
      have q1 := (keyEq_ok hd h hu h1).1
      rcases hr θ xs' u h3 hu (i + 1) with ⟨j, val, g1, g2, g3⟩ | ⟨g1, g2⟩
      · refine .inl ⟨j + 1, val, ?_, by simp [denE, h1, h2, g2], by simpa using g3⟩
        simp only [Instr.findNow, q1]
        rw [g1, show i + 1 + j = i + (j + 1) by omega]
      · refine .inr ⟨?_, by simp [denE, h1, h2, g2]⟩
        simp only [Instr.findNow, q1]; exact g1
    · exact Yl.no
theorem setObj_ok {g c ck ck' : Nat} {arr arr' : Array MapEntry} {t : Nat} {es : List (SV × SV × Nat)} (hg : θ t = some (g, c)) (h : w.heap[g]? = some (.map arr ck)) (he : denE ρ θ es = some arr'.toList) :
    ∃ w', (∀ P, (setObj g (.map arr' ck')).run P w = .ok () w') ∧ Ext (fun k => k = g) w w' ∧ HoldsB ρ θ w' t (.mp es ck') := by
  have hlt : g < w.heap.size := (Array.getElem?_eq_some_iff.1 h).1
  refine ⟨{ w with heap := w.heap.setIfInBounds g (.map arr' ck') }, fun P => by simp [setObj, Sem.run, h], ⟨rfl, rfl, rfl, by simp, fun k hk hn => ?_⟩, g, c, arr', hg, ?_, he⟩
  · simp [Array.getElem?_setIfInBounds, Ne.symm hn]
  · simp [Array.getElem?_setIfInBounds, hlt]
theorem opUpdate_yl {t : Nat} {x y z : Operand} (hs : Sat ρ pc) (ho : o.op = .mapUpdate t x y z ∨ o.op = .insert t x y z) : Yl (fun K => opUpdate P s m nx pc t x y z fun v m nx pc ft => K ⟨v, m, nx, pc, ft⟩) (OpOk P ρ o s m nx) := by
  have hop : o.op.operands.toList = [x, y, z] := by rcases ho with ho | ho <;> simp [ho, Op.operands]
  have hex : ∀ (a : Act) (w w' : World), (Instr.mapUpdate t (a.eval x) (a.eval y) (a.eval z)).run P w = .ok () w' → (execOp a.eval o).run P w = .ok .skip w' := fun a w w' h => by
    rcases ho with ho | ho <;> simp [execOp, ho, h]
  unfold opUpdate
  refine Yl.bind (evO_yl (ρ := ρ)) fun v hv => Yl.bind (evO_yl (ρ := ρ)) fun k hk => Yl.bind (evO_yl (ρ := ρ)) fun u hu => ?_
  split
  · rename_i e hm
    obtain ⟨kt, d, h1, h2, h3⟩ := mapT_ok hm
    split
    · rename_i g
      split
      · rename_i es ck hg
        refine Yl.bind2 (putK_yl (ρ := ρ) (y := u) (ck := ck) h3) fun es' ck' hp => ?_
        refine Yl.map (fun m' => (⟨.un, m', nx, pc, .w [g]⟩ : O5)) set_yl fun m' hm' => OpOk.turn hs (List.mem_singleton.2 rfl) hg hm' fun a w θ hsl hb => ?_
        rw [hop] at hsl
        obtain ⟨g', c, arr, e1, e2, e3⟩ := hb g (by simp) _ hg
        have hx := hsl.ev (by simp) hv
        simp only [den, e1, Option.map_some, Option.some.injEq] at hx
        have hy := hsl.ev (by simp) hk
        have hz := hsl.ev (by simp) hu
        have c1 := checkKey_ok (P := P) (w := w) (b := false) h2 h3 hy
        rcases hp θ _ _ _ e3 hy hz 0 with ⟨j, val, old, q1, q2, q3, q4, q5⟩ | ⟨q1, q2, q3⟩
        · simp only at q4 q5
          obtain ⟨w', k1, k2, k3⟩ := setObj_ok (ρ := ρ) (θ := θ) (es := es') (ck' := ck') (arr' := arr.modify j fun e => { e with key := a.eval y, val := a.eval z }) e1 e2 (by rw [q5, Array.toList_modify])
          refine ⟨undef, w', g', c, .inr ⟨hex a w w' ?_, rfl⟩, e1, k2, k3, rfl⟩
          rw [Nat.zero_add] at q1
          have c2 := findKey_ok (P := P) (w := w) h2 q1
          have c3 : arr[j]? = some old := by rw [← Array.getElem?_toList]; exact q2
          rw [q4] at k1
          simp [Instr.mapUpdate, run_underlying h1, ← hx, getObj_ok e2, c1, c2, c3, Instr.keyThatStays, q3, k1 P]
        · simp only at q2 q3
          obtain ⟨w', k1, k2, k3⟩ := setObj_ok (ρ := ρ) (θ := θ) (es := es') (ck' := ck') (arr' := arr.push ⟨a.eval y, a.eval z, ck⟩) e1 e2 (by rw [q3]; simp)
          refine ⟨undef, w', g', c, .inr ⟨hex a w w' ?_, rfl⟩, e1, k2, k3, rfl⟩
          have c2 := findKey_ok (P := P) (w := w) h2 q1
          rw [q2] at k1
          simp [Instr.mapUpdate, run_underlying h1, ← hx, getObj_ok e2, c1, c2, k1 P]
      · exact Yl.no
    · exact Yl.no
  · exact Yl.no
theorem opDelete_yl {t : Nat} {x y : Operand} {ts : List Nat} (hs : Sat ρ pc) (ho : o.op = .call { callee := .builtin .delete, args := #[x, y], argTypes := (t :: ts).toArray }) : Yl (fun K => opDelete P s m nx pc t x y fun v m nx pc ft => K ⟨v, m, nx, pc, ft⟩) (OpOk P ρ o s m nx) := by
  have hop : o.op.operands.toList = [x, y] := by simp [ho, Op.operands, Call.operands]
  have hex : ∀ (a : Act) (w w' : World) (v : Value), (Builtin.delete_ (t :: ts).toArray o.type #[a.eval x, a.eval y]).run P w = .ok v w' → (execOp a.eval o).run P w = .ok (.value v) w' := fun a w w' v h => by
    simp [execOp, ho, resolve, invoke, builtin, h]
  unfold opDelete
  refine Yl.bind (evO_yl (ρ := ρ)) fun v hv => Yl.bind (evO_yl (ρ := ρ)) fun k hk => ?_
  split
  · rename_i e hm
    obtain ⟨kt, d, h1, h2, h3⟩ := mapT_ok hm
    split
    · refine Yl.pure _ (OpOk.pure hs fun a w θ hsl => ⟨.tuple #[], hex a w w _ ?_, rfl⟩)
      rw [hop] at hsl
      have hx : a.eval x = .map none := (Option.some.inj (hsl.ev (by simp) hv)).symm
      have c1 := checkKey_ok (P := P) (w := w) (b := true) h2 h3 (hsl.ev (by simp) hk)
      simp [Builtin.delete_, run_underlying h1, hx, c1]
    · rename_i g
      split
      · rename_i es ck hg
        refine Yl.bind (delK_yl (ρ := ρ) h3) fun es' hp => ?_
        refine Yl.map (fun m' => (⟨.tu [], m', nx, pc, .w [g]⟩ : O5)) set_yl fun m' hm' => OpOk.turn hs (List.mem_singleton.2 rfl) hg hm' fun a w θ hsl hb => ?_
        rw [hop] at hsl
        obtain ⟨g', c, arr, e1, e2, e3⟩ := hb g (by simp) _ hg
        have hx := hsl.ev (by simp) hv
        simp only [den, e1, Option.map_some, Option.some.injEq] at hx
        have hy := hsl.ev (by simp) hk
        have c1 := fun b => checkKey_ok (P := P) (w := w) (b := b) h2 h3 hy
        rcases hp θ _ _ e3 hy 0 with ⟨j, val, q1, q2, q3⟩ | ⟨q1, q2⟩
        · obtain ⟨w', k1, k2, k3⟩ := setObj_ok (ρ := ρ) (θ := θ) (es := es') (ck' := ck) (arr' := arr.eraseIdxIfInBounds j) e1 e2 (by
            rw [q2]
            have : j < arr.size := by simpa using q3
            simp [Array.eraseIdxIfInBounds, this])
          refine ⟨.tuple #[], w', g', c, .inl (hex a w w' _ ?_), e1, k2, k3, rfl⟩
          rw [Nat.zero_add] at q1
          have c2 := findKey_ok (P := P) (w := w) h2 q1
          simp [Builtin.delete_, run_underlying h1, ← hx, getObj_ok e2, c1, c2, k1 P]
        · obtain ⟨w', k1, k2, k3⟩ := setObj_ok (ρ := ρ) (θ := θ) (es := es') (ck' := ck) (arr' := arr) e1 e2 q2
          refine ⟨.tuple #[], w', g', c, .inl (hex a w w' _ ?_), e1, k2, k3, rfl⟩
          have c2 := findKey_ok (P := P) (w := w) h2 q1
          simp [Builtin.delete_, run_underlying h1, ← hx, getObj_ok e2, c1, c2, k1 P]
      · exact Yl.no
    · exact Yl.no
  · exact Yl.no
theorem denE_len : ∀ {l : List (SV × SV × Nat)} {es : List MapEntry}, denE ρ θ l = some es → es.length = l.length
  | [], es, h => by cases h; rfl
  | (k, v, n) :: l, es, h => by
    simp only [denE, Option.bind_eq_some_iff, Option.map_eq_some_iff] at h
    obtain ⟨a, _, b, _, es', h3, rfl⟩ := h
    simp [denE_len h3]
theorem opLen_yl {t : Nat} {x : Operand} (hs : Sat ρ pc) (ho : o.op = .call { callee := .builtin .len, args := #[x], argTypes := #[t] }) : Yl (fun K => opLen s P m nx pc t x fun v m nx pc ft => K ⟨v, m, nx, pc, ft⟩) (OpOk P ρ o s m nx) := by
  have hop : o.op.operands.toList = [x] := by simp [ho, Op.operands, Call.operands]
  have hex : ∀ (a : Act) (w : World) (v : Value), (Builtin.len_ #[t] o.type #[a.eval x]).run P w = .ok v w → Runs P a o w v := fun a w v h => by
    simp [Runs, execOp, ho, resolve, invoke, builtin, h]
  have mp : ∀ {α β : Type} {o : Option α} {f : α → β} {x : β}, o.map f = some x → ∃ y, x = f y := fun h => by
    obtain ⟨y, _, h⟩ := Option.map_eq_some_iff.1 h; exact ⟨y, h.symm⟩
  unfold opLen
  refine Yl.bind (evO_yl (ρ := ρ)) fun v hv => ?_
  split
  · rename_i l hk
    obtain ⟨d, hd, hk'⟩ := kindT_ok hk (by simp)
    rw [tk_str hk'] at hd
    have run : ∀ (a : Act) (w : World) (θ : Th), SlOk ρ s θ a o.op.operands.toList → Runs P a o w (.int .i64 ((denS ρ l).length : Int)) := fun a w θ hsl => by
      rw [hop] at hsl
      have hx : a.eval x = .string (bstr (denS ρ l)) := (Option.some.inj (hsl.ev (by simp) hv)).symm
      exact hex a w _ (by simp [Builtin.len_, hx, run_underlying hd, goInt, bstr_size])
    split
    · rename_i n hn
      have hn := lenN_den (ρ := ρ) hn
      refine Yl.pure _ (OpOk.pure hs fun a w θ hsl => ⟨_, run a w θ hsl, ?_⟩)
      simp only [den, hn, Nat.zero_add]
      rfl
    · exact Yl.pure _ (OpOk.pure hs fun a w θ hsl => ⟨_, run a w θ hsl, by rw [svx_den, lenS_den]⟩)
  · rename_i e hk
    obtain ⟨d, hd, hk'⟩ := kindT_ok hk (by simp)
    rw [tk_slice hk'] at hd
    refine Yl.pure _ (OpOk.pure hs fun a w θ hsl => ⟨.int .i64 0, ?_, rfl⟩)
    rw [hop] at hsl
    have hx : a.eval x = .slice none 0 0 := (Option.some.inj (hsl.ev (by simp) hv)).symm
    exact hex a w _ (by simp [Builtin.len_, hx, run_underlying hd, goInt])
  · rename_i g off n cap e hk
    obtain ⟨d, hd, hk'⟩ := kindT_ok hk (by simp)
    rw [tk_slice hk'] at hd
    refine Yl.pure _ (OpOk.pure hs fun a w θ hsl => ⟨.int .i64 n, ?_, rfl⟩)
    rw [hop] at hsl
    have hx := hsl.ev (by simp) hv
    obtain ⟨q, hx⟩ := mp hx
    exact hex a w _ (by simp [Builtin.len_, hx, run_underlying hd, goInt])
  · rename_i g l e hk
    obtain ⟨d, hd, hk'⟩ := kindT_ok hk (by simp)
    rw [tk_slice hk'] at hd
    refine Yl.pure _ (OpOk.pure hs fun a w θ hsl => ⟨.int .i64 ((denS ρ l).length : Int), ?_, by rw [svx_den, lenS_den]⟩)
    rw [hop] at hsl
    have hx := hsl.ev (by simp) hv
    obtain ⟨q, hx⟩ := mp hx
    exact hex a w _ (by simp [Builtin.len_, hx, run_underlying hd, goInt])
  · rename_i e e' hk
    obtain ⟨d, hd, hk'⟩ := kindT_ok hk (by simp)
    rw [tk_map hk'] at hd
    refine Yl.pure _ (OpOk.pure hs fun a w θ hsl => ⟨.int .i64 0, ?_, rfl⟩)
    rw [hop] at hsl
    have hx : a.eval x = .map none := (Option.some.inj (hsl.ev (by simp) hv)).symm
    exact hex a w _ (by simp [Builtin.len_, hx, run_underlying hd, goInt])
  · rename_i g ln' e hk
    obtain ⟨d, hd, hk'⟩ := kindT_ok hk (by simp)
    rw [tk_slice hk'] at hd
    refine Yl.pure _ (OpOk.pure hs fun a w θ hsl => ⟨.int .i64 (ln'.den ρ), ?_, svx_den⟩)
    rw [hop] at hsl
    have hx := hsl.ev (by simp) hv
    simp only [den, Option.bind_eq_some_iff] at hx
    obtain ⟨⟨q, c⟩, g1, g2⟩ := hx
    cases c with
    | zero =>
      simp only at g2
      split at g2
      · rename_i h0
        exact hex a w _ (by simp [Builtin.len_, ← Option.some.inj g2, run_underlying hd, goInt, h0])
      · cases g2
    | succ c =>
      simp only at g2
      split at g2
      · rename_i h0
        exact hex a w _ (by simp [Builtin.len_, ← Option.some.inj g2, run_underlying hd, goInt]; omega)
      · cases g2
  · rename_i g e e' hk
    obtain ⟨d, hd, hk'⟩ := kindT_ok hk (by simp)
    rw [tk_map hk'] at hd
    split
    · rename_i es ck hg
      refine Yl.map (fun n => (⟨.i .i64 (.ofNat n), m, nx, pc, .r g⟩ : O5)) frn_yl fun n hn => OpOk.read hs fun a w θ hsl hb => ?_
      rw [hop] at hsl
      obtain ⟨g', c, arr, e1, e2, e3⟩ := hb _ hg
      have hx := hsl.ev (by simp) hv
      simp only [den, e1, Option.map_some, Option.some.injEq] at hx
      refine ⟨.int .i64 (arr.size : Int), hex a w _ ?_, ?_⟩
      · simp [Builtin.len_, ← hx, run_underlying hd, getObj_ok e2, goInt]
      · have := denE_len e3
        simp only [den, hn, ← this]
        simp
    · exact Yl.no
  · exact Yl.no
theorem opMM_yl {mx : Bool} {t t' : Nat} {x y : Operand} (hs : Sat ρ pc) (ho : o.op = .call { callee := .builtin (match mx with | true => .max | false => .min), args := #[x, y], argTypes := #[t, t'] }) : Yl (fun K => opMM mx s m nx pc x y fun v m nx pc ft => K ⟨v, m, nx, pc, ft⟩) (OpOk P ρ o s m nx) := by
  have hop : o.op.operands.toList = [x, y] := by simp [ho, Op.operands, Call.operands]
  unfold opMM
  refine Yl.bind (evO_yl (ρ := ρ)) fun va hva => Yl.bind (evO_yl (ρ := ρ)) fun vb hvb => ?_
  -- from two numbers
  have fin : ∀ {k : IntKind} {p q : Int} {v : SV} {pc' : PC}, Sat ρ pc' → (∀ θ : Th, den ρ θ va = some (.int k p)) → (∀ θ : Th, den ρ θ vb = some (.int k q)) → (∀ θ : Th, den ρ θ v = some (.int k (if mx = true then max p q else min p q))) → OpOk P ρ o s m nx ⟨v, m, nx, pc', .n⟩ := by
    intro k p q v pc' hs' h1 h2 h3
    refine OpOk.pure hs' fun a w θ hsl => ⟨_, ?_, h3 θ⟩
    rw [hop] at hsl
    have hx := hsl.ev (by simp) hva
    have hy := hsl.ev (by simp) hvb
    rw [h1] at hx; rw [h2] at hy
    cases mx
    · exact r_min (P := P) ho (Option.some.inj hx).symm (Option.some.inj hy).symm
    · exact r_max (P := P) ho (Option.some.inj hx).symm (Option.some.inj hy).symm
  split
  · rename_i k p j q
    split
    · rename_i h
      have := ikEq_iff.1 h
      subst this
      split
      · rename_i hc
        refine Yl.pure _ (fin hs (fun _ => rfl) (fun _ => rfl) fun θ => ?_)
        rw [beq_iff_eq, leI_eq] at hc
        cases mx <;> simp at hc <;> simp [den] <;> omega
      · rename_i hc
        refine Yl.pure _ (fin hs (fun _ => rfl) (fun _ => rfl) fun θ => ?_)
        rw [leI_eq] at hc
        cases mx <;> simp at hc <;> simp [den] <;> omega
    · exact Yl.no
  · rename_i k p j q
    split
    · rename_i h
      have := ikEq_iff.1 h
      subst this
      refine Yl.bind2 (dec2_yl hs) fun b pc' hb => ?_
      obtain ⟨h1, h2⟩ := hb
      simp only [sub_den] at h1 h2
      split
      · rename_i hc
        refine Yl.pure _ (fin h2 (fun _ => rfl) (fun _ => rfl) fun θ => ?_)
        rw [beq_iff_eq, h1] at hc
        cases mx <;> simp at hc <;> simp [den] <;> omega
      · rename_i hc
        refine Yl.pure _ (fin h2 (fun _ => rfl) (fun _ => rfl) fun θ => ?_)
        rw [h1] at hc
        cases mx <;> simp at hc <;> simp [den] <;> omega
    · exact Yl.no
  · rename_i k p j q
    split
    · rename_i h
      have := ikEq_iff.1 h
      subst this
      refine Yl.bind2 (dec2_yl hs) fun b pc' hb => ?_
      obtain ⟨h1, h2⟩ := hb
      simp only [sub_den, const_den] at h1 h2
      split
      · rename_i hc
        refine Yl.pure _ (fin h2 (fun _ => rfl) (fun _ => rfl) fun θ => ?_)
        rw [beq_iff_eq, h1] at hc
        cases mx <;> simp at hc <;> simp [den] <;> omega
      · rename_i hc
        refine Yl.pure _ (fin h2 (fun _ => rfl) (fun _ => rfl) fun θ => ?_)
        rw [h1] at hc
        cases mx <;> simp at hc <;> simp [den] <;> omega
    · exact Yl.no
  · rename_i k p j q
    split
    · rename_i h
      have := ikEq_iff.1 h
      subst this
      refine Yl.bind2 (dec2_yl hs) fun b pc' hb => ?_
      obtain ⟨h1, h2⟩ := hb
      simp only [sub_den, const_den] at h1 h2
      split
      · rename_i hc
        refine Yl.pure _ (fin h2 (fun _ => rfl) (fun _ => rfl) fun θ => ?_)
        rw [beq_iff_eq, h1] at hc
        cases mx <;> simp at hc <;> simp [den] <;> omega
      · rename_i hc
        refine Yl.pure _ (fin h2 (fun _ => rfl) (fun _ => rfl) fun θ => ?_)
        rw [h1] at hc
        cases mx <;> simp at hc <;> simp [den] <;> omega
    · exact Yl.no
  · exact Yl.no
end
end X
end Go.Proofs.YtebfahobllghnaaGreatDoor
