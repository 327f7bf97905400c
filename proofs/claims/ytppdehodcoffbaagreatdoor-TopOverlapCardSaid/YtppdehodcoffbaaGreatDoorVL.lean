/-
  Operations on memory: loads, stores, what is new. Over any program.
-/
import Derived.Test.YtppdehodcoffbaaGreatDoorVK
set_option linter.unusedSimpArgs false
set_option linter.unusedVariables false
namespace Go.Proofs.YtppdehodcoffbaaGreatDoor
namespace X
open Go.RowKit B

/-! ### What turns of memory -/
section
variable {ρ : Rho} {θ : Th} {w w' : World} {R R' : Nat → Option Blk}
def updT (θ : Th) (n : Nat) (x : Nat × Nat) : Th := fun t => if t = n then some x else θ t
theorem updT_le {n : Nat} {x : Nat × Nat} (h : θ n = none) : ThLe θ (updT θ n x) := fun t y e => by
  unfold updT
  by_cases ht : t = n
  · subst ht; rw [h] at e; cases e
  · rw [if_neg ht]; exact e
/-- a block more -/
theorem SP.alloc {nx g c : Nat} {b : Blk} (hM : MemOk ρ θ R w) (hn : θ nx = none) (hx : Ext none' w w') (hg : w.heap.size ≤ g) (hb : HoldsB ρ (updT θ nx (g, c)) w' nx b) (hR : ∀ t b', R' t = some b' → (t = nx ∧ b' = b) ∨ (t ≠ nx ∧ R t = some b')) : SP ρ nx (nx + 1) θ R w (updT θ nx (g, c)) R' w' := by
  have ne : ∀ t, R' t ≠ none → t = nx ∨ (t ≠ nx ∧ R t ≠ none) := fun t ht => by
    cases h : R' t with
    | none => exact absurd h ht
    | some b' => rcases hR t b' h with ⟨e, _⟩ | ⟨e, h'⟩; exact .inl e; exact .inr ⟨e, by simp [h']⟩
  have at1 : ∀ y, updT θ nx (g, c) nx = some y → y = (g, c) := fun y h => by simp [updT] at h; exact h.symm
  have at2 : ∀ t, t ≠ nx → updT θ nx (g, c) t = θ t := fun t h => if_neg h
  have old : ∀ t g' c', t ≠ nx → R t ≠ none → θ t = some (g', c') → g' < w.heap.size := fun t g' c' _ ht e => by
    cases h : R t with
    | none => exact absurd h ht
    | some b' => obtain ⟨g1, c1, e1, lt⟩ := (hM.holds t b' h).th; rw [e] at e1; cases e1; exact lt
  refine ⟨updT_le hn, fun t ht => ?_, ⟨fun t b' h => ?_, fun s t g' c1 c2 hs ht e1 e2 => ?_⟩, hx.mono fun _ _ h => h.elim, fun g' ⟨t, c', ht, e⟩ => ?_⟩
  · by_cases e : t = nx
    · exact .inr ⟨by omega, by omega⟩
    · rw [at2 t e] at ht; exact .inl ht
  · rcases hR t b' h with ⟨rfl, rfl⟩ | ⟨_, h'⟩
    · exact hb
    · exact (hM.holds t b' h').keep (updT_le hn) hx fun _ _ _ h => h
  · rcases ne s hs with rfl | ⟨a1, a2⟩ <;> rcases ne t ht with rfl | ⟨b1, b2⟩
    · rfl
    · exfalso
      cases at1 _ e1
      rw [at2 t b1] at e2
      have := old t _ _ b1 b2 e2; omega
    · exfalso
      cases at1 _ e2
      rw [at2 s a1] at e1
      have := old s _ _ a1 a2 e1; omega
    · rw [at2 s a1] at e1; rw [at2 t b1] at e2
      exact hM.inj s t g' c1 c2 a2 b2 e1 e2
  · rcases ne t ht with rfl | ⟨b1, b2⟩
    · cases at1 _ e; exact .inr hg
    · rw [at2 t b1] at e; exact .inl ⟨t, c', b2, e⟩
/-- a block turned -/
theorem SP.turn {nx t0 g c : Nat} {b : Blk} (hM : MemOk ρ θ R w) (h0 : R t0 ≠ none) (hg : θ t0 = some (g, c)) (hx : Ext (fun k => k = g) w w') (hb : HoldsB ρ θ w' t0 b) (hR : ∀ t b', R' t = some b' → (t = t0 ∧ b' = b) ∨ (t ≠ t0 ∧ R t = some b')) : SP ρ nx nx θ R w θ R' w' := by
  have ne : ∀ t, R' t ≠ none → R t ≠ none := fun t ht => by
    cases h : R' t with
    | none => exact absurd h ht
    | some b' => rcases hR t b' h with ⟨rfl, _⟩ | ⟨_, h'⟩; exact h0; simp [h']
  refine ⟨ThLe.refl _, fun t ht => .inl ht, ⟨fun t b' h => ?_, fun s t g' c1 c2 hs ht e1 e2 => hM.inj s t g' c1 c2 (ne s hs) (ne t ht) e1 e2⟩, hx.mono fun k _ h => ⟨t0, c, h0, by rw [h]; exact hg⟩, fun g' ⟨t, c', ht, e⟩ => .inl ⟨t, c', ne t ht, e⟩⟩
  rcases hR t b' h with ⟨rfl, rfl⟩ | ⟨e, h'⟩
  · exact hb
  · refine (hM.holds t b' h').keep (ThLe.refl _) hx fun g' c' e1 e2 => e ?_
    subst e2
    exact hM.inj t t0 _ _ _ (by simp [h']) h0 e1 hg
/-- a block turned, under a new tag -/
theorem SP.moved {nx t0 g c : Nat} {b : Blk} (hM : MemOk ρ θ R w) (hn : θ nx = none) (h0 : R t0 ≠ none) (hg : θ t0 = some (g, c)) (hx : Ext (fun k => k = g) w w') (hb : HoldsB ρ (updT θ nx (g, c)) w' nx b) (hR : ∀ t b', R' t = some b' → (t = nx ∧ b' = b) ∨ (t ≠ nx ∧ t ≠ t0 ∧ R t = some b')) : SP ρ nx (nx + 1) θ R w (updT θ nx (g, c)) R' w' := by
  have ne : ∀ t, R' t ≠ none → t = nx ∨ (t ≠ nx ∧ t ≠ t0 ∧ R t ≠ none) := fun t ht => by
    cases h : R' t with
    | none => exact absurd h ht
    | some b' => rcases hR t b' h with ⟨e, _⟩ | ⟨e, e', h'⟩; exact .inl e; exact .inr ⟨e, e', by simp [h']⟩
  have at1 : ∀ y, updT θ nx (g, c) nx = some y → y = (g, c) := fun y h => by simp [updT] at h; exact h.symm
  have at2 : ∀ t, t ≠ nx → updT θ nx (g, c) t = θ t := fun t h => if_neg h
  refine ⟨updT_le hn, fun t ht => ?_, ⟨fun t b' h => ?_, fun s t g' c1 c2 hs ht e1 e2 => ?_⟩, hx.mono fun k _ h => ⟨t0, c, h0, by rw [h]; exact hg⟩, fun g' ⟨t, c', ht, e⟩ => ?_⟩
  · by_cases e : t = nx
    · exact .inr ⟨by omega, by omega⟩
    · rw [at2 t e] at ht; exact .inl ht
  · rcases hR t b' h with ⟨rfl, rfl⟩ | ⟨_, e', h'⟩
    · exact hb
    · refine (hM.holds t b' h').keep (updT_le hn) hx fun g' c' e1 e2 => e' ?_
      subst e2
      exact hM.inj t t0 _ _ _ (by simp [h']) h0 e1 hg
  · rcases ne s hs with rfl | ⟨a1, a2, a3⟩ <;> rcases ne t ht with rfl | ⟨b1, b2, b3⟩
    · rfl
    · exfalso
      cases at1 _ e1
      rw [at2 t b1] at e2
      exact b2 (hM.inj t t0 _ _ _ b3 h0 e2 hg)
    · exfalso
      cases at1 _ e2
      rw [at2 s a1] at e1
      exact a2 (hM.inj s t0 _ _ _ a3 h0 e1 hg)
    · rw [at2 s a1] at e1; rw [at2 t b1] at e2
      exact hM.inj s t g' c1 c2 a3 b3 e1 e2
  · rcases ne t ht with rfl | ⟨b1, b2, b3⟩
    · cases at1 _ e; exact .inl ⟨t0, c, h0, hg⟩
    · rw [at2 t b1] at e; exact .inl ⟨t, c', b3, e⟩
/-- blocks forgotten -/
theorem SP.less {nx nx' : Nat} {θ' : Th} {R2 : Nat → Option Blk} (h : SP ρ nx nx' θ R w θ' R' w') (hs : ∀ t b, R2 t = some b → R' t = some b) : SP ρ nx nx' θ R w θ' R2 w' :=
  ⟨h.le, h.new, h.mem.sub hs, h.ext, fun g ⟨t, c, ht, e⟩ => h.own g ⟨t, c, fun h0 => ht (by
    cases hr : R2 t with
    | none => rfl
    | some b => rw [hs t b hr] at h0; cases h0), e⟩⟩
end

section
variable {P : Program} {ρ : Rho} {o : Oper} {s : Tr SV} {m : Mem} {nx : Nat} {pc : PC} {a : Act} {w w' : World} {θ : Th}
theorem newB_yl {b : Blk} : Yl (fun K => newB m nx b fun m' n' => K (m', n')) fun r => r.2 = nx + 1 ∧ ∀ t, r.1.get t = if t = nx then some b else m.get t := by
  unfold newB
  refine Yl.bind frn_yl fun n hn => ?_
  subst hn
  intro K hk
  obtain ⟨m', h1, h2, h3⟩ := Tr.set_spec hk
  exact ⟨(m', n + 1), ⟨rfl, h2⟩, h1, fun K' hk' => h3 _ hk'⟩
theorem set_yl {α : Type} {t : Tr α} {k : Nat} {x : Option α} : Yl (t.set k x) fun t' => ∀ j, t'.get j = if j = k then x else t.get j := fun K hk => by
  obtain ⟨t', h1, h2, h3⟩ := Tr.set_spec hk
  exact ⟨t', h2, h1, h3⟩
/-- an operation that makes a block -/
theorem OpOk.new1 {v : SV} {b : Blk} {m' : Mem} (hs : Sat ρ pc) (hm : ∀ t, m'.get t = if t = nx then some b else m.get t)
    (h : ∀ (a : Act) (w : World) (θ : Th), SlOk ρ s θ a o.op.operands.toList → θ nx = none → ∃ u w' g c, (execOp a.eval o).run P w = .ok (.value u) w' ∧ Ext none' w w' ∧ w.heap.size ≤ g ∧ HoldsB ρ (updT θ nx (g, c)) w' nx b ∧ den ρ (updT θ nx (g, c)) v = some u) :
    OpOk P ρ o s m nx ⟨v, m', nx + 1, pc, .w [nx]⟩ where
  pc := hs
  le := Nat.le_succ _
  off := fun t ht => by
    have : t ≠ nx := fun e => ht (by simp [tc, e])
    rw [hm, if_neg this]
  rd := fun _ h => by cases h
  new := fun t h1 h2 => by
    by_cases e : t = nx
    · subst e; exact ⟨Nat.le_refl _, Nat.lt_succ_self _⟩
    · rw [hm, if_neg e] at h2; exact absurd h1 h2
  run := fun a w θ h1 h2 h3 => by
    obtain ⟨u, w', g, c, k1, k2, k3, k4, k5⟩ := h a w θ h1 (h3 nx (Nat.le_refl _) (Nat.lt_succ_self _))
    refine wp_val k1 ⟨u, _, rfl, SP.alloc h2 (h3 nx (Nat.le_refl _) (Nat.lt_succ_self _)) k2 k3 k4 fun t b' hb => ?_, k5⟩
    obtain ⟨g1, g2⟩ := subM_some hb
    have ht : t = nx := by simpa [tc] using g1
    subst ht
    rw [hm, if_pos rfl] at g2
    exact .inl ⟨rfl, (Option.some.inj g2).symm⟩
theorem cell_at {g off j : Nat} : w.cell? ((⟨g, off, none⟩ : Addr).add j) = w.cell? ⟨g, off + j, none⟩ := by
  unfold Addr.add
  split
  · rename_i h; subst h; rfl
  · rfl
theorem HoldsB.cells {t ty : Nat} {cs : List SV} {ex : Bool} (h : HoldsB ρ θ w t (.ce ty cs ex)) : ∃ g c vs, θ t = some (g, c) ∧ dens ρ θ cs = some vs ∧ (∀ v ∈ vs, v.oneCell' = true) ∧ (∀ j u, vs[j]? = some u → w.cell? ⟨g, j, none⟩ = some u) ∧ vs.length ≤ c := by
  obtain ⟨g, c, vs, arr, rest, h1, h2, h3, h4, h5, h6, _⟩ := h
  refine ⟨g, c, vs, h1, h4, h5, fun j u hj => ?_, ?_⟩
  · have hlt := (List.getElem?_eq_some_iff.1 hj).1
    have : arr[j]? = some u := by
      rw [← Array.getElem?_toList, h6, List.getElem?_append_left hlt]; exact hj
    simp [World.cell?, h2, this]
  · rw [← h3, ← Array.length_toList, h6]; simp
theorem opLoad_yl {t : Nat} {x : Operand} (hs : Sat ρ pc) (ho : o.op = .load t x) : Yl (fun K => opLoad P s m nx pc t x fun v m nx pc ft => K ⟨v, m, nx, pc, ft⟩) (OpOk P ρ o s m nx) := by
  have hop : o.op.operands.toList = [x] := by simp [ho, Op.operands]
  unfold opLoad
  split
  · rename_i y hy
    obtain ⟨ok⟩ := mkTy_ok hy
    refine Yl.bind (evO_yl (ρ := ρ)) fun v hv => ?_
    split
    · rename_i g off
      split
      · rename_i ty cs ex hg
        unfold partC
        split
        · rename_i hag
          refine Yl.map (fun l => (⟨.ag l, m, nx, pc, .r g⟩ : O5)) segC_yl fun l hl => OpOk.read hs fun a w θ hsl hb => ?_
          rw [hop] at hsl
          have hc := hsl.ev (by simp) hv
          obtain ⟨q, c, vs, h1, h2, h3, h4, h5⟩ := (hb _ hg).cells
          simp only [den, h1, Option.map_some, Option.some.injEq] at hc
          have hlen := dens_len h2
          refine ⟨.agg ((vs.drop off).take y.sz).toArray, ?_, by simp [den, hl.2, dens_take _ (dens_drop _ h2)]⟩
          refine r_loadN ho (fun w => by rw [ok.isAgg, hag]) (fun w => ok.size w) hc.symm (by simp; omega) fun j u hj => ?_
          rw [cell_at]
          refine h4 _ u ?_
          have hj1 : j < y.sz := by have := (List.getElem?_eq_some_iff.1 hj).1; simp at this; omega
          rw [List.getElem?_take_of_lt hj1, List.getElem?_drop] at hj
          exact hj
        · rename_i hag
          refine Yl.map (fun u => (⟨u, m, nx, pc, .r g⟩ : O5)) nthC_yl fun u hu => OpOk.read hs fun a w θ hsl hb => ?_
          rw [hop] at hsl
          have hc := hsl.ev (by simp) hv
          obtain ⟨q, c, vs, h1, h2, h3, h4, h5⟩ := (hb _ hg).cells
          simp only [den, h1, Option.map_some, Option.some.injEq] at hc
          obtain ⟨u', g1, g2⟩ := dens_get h2 hu
          exact ⟨u', r_load1 ho (fun w => by rw [ok.isAgg, hag]) hc.symm (h4 _ _ g1), g2⟩
      · exact Yl.no
    · exact Yl.no
  · exact Yl.no
theorem opFieldAddr_yl {t f : Nat} {x : Operand} (hs : Sat ρ pc) (ho : o.op = .fieldAddr t x f) : Yl (fun K => opFieldAddr P s m nx pc t x f fun v m nx pc ft => K ⟨v, m, nx, pc, ft⟩) (OpOk P ρ o s m nx) := by
  have hop : o.op.operands.toList = [x] := by simp [ho, Op.operands]
  unfold opFieldAddr
  split
  · rename_i off y hf
    obtain ⟨F, fd, h1, h2, h3, ⟨ok⟩⟩ := fieldT_ok hf
    split
    · rename_i hsz
      have hsz := Nat.le_of_ble_eq_true hsz
      refine Yl.bind (evO_yl (ρ := ρ)) fun v hv => ?_
      split
      · rename_i g i
        refine Yl.map (fun k => (⟨.p g k, m, nx, pc, .n⟩ : O5)) frn_yl fun k hk => OpOk.pure hs fun a w θ hsl => ?_
        rw [hop] at hsl
        have hc := hsl.ev (by simp) hv
        simp only [den, Option.map_eq_some_iff] at hc
        obtain ⟨q, g1, g2⟩ := hc
        refine ⟨_, r_fieldAddr (m := y.sz - 1) ho h1 h2 h3 (fun w => by rw [ok.size]; congr 1; omega) g2.symm, ?_⟩
        simp only [den, g1, Option.map_some, Option.some.injEq, Value.pointer.injEq, hk]
        unfold Addr.add
        split
        · rename_i h; show _ = _; simp [h]
        · rfl
      · exact Yl.no
    · exact Yl.no
  · exact Yl.no
theorem opIndexAddr_yl {t : Nat} {x y : Operand} (hs : Sat ρ pc) (ho : o.op = .indexAddr t x y) : Yl (fun K => opIndexAddr P s m nx pc t x y fun v m nx pc ft => K ⟨v, m, nx, pc, ft⟩) (OpOk P ρ o s m nx) := by
  have hop : o.op.operands.toList = [x, y] := by simp [ho, Op.operands]
  have add : ∀ (g off k : Nat), (⟨g, off, none⟩ : Addr).add k = ⟨g, off + k, none⟩ := fun g off k => by
    unfold Addr.add; split
    · rename_i h; simp [h]
    · rfl
  unfold opIndexAddr
  refine Yl.bind (evO_yl (ρ := ρ)) fun v hv => Yl.bind (evO_yl (ρ := ρ)) fun i hi => ?_
  split
  · rename_i g off len cap k n e hk
    split
    · rename_i ey hey
      obtain ⟨ok⟩ := mkTy_ok hey
      obtain ⟨d, hd, hk'⟩ := kindT_ok hk (by simp)
      rw [tk_slice hk'] at hd
      split
      · rename_i hlt
        have hlt : n < len := by simpa [Nat.blt_eq] using hlt
        refine Yl.map (fun k => (⟨.p g k, m, nx, pc, .n⟩ : O5)) frn_yl fun k' hk' => OpOk.pure hs fun a w θ hsl => ?_
        rw [hop] at hsl
        have hc := hsl.ev (by simp) hv
        have hc2 := hsl.ev (by simp) hi
        simp only [den, Option.map_eq_some_iff] at hc
        obtain ⟨q, g1, g2⟩ := hc
        have hy : a.eval y = .int k n := (Option.some.inj hc2).symm
        refine ⟨.pointer (some ⟨q.1, off + n * ey.sz, none⟩), ?_, by simp only [den, g1, Option.map_some, hk']; rfl⟩
        have h0 : (0 : Int) ≤ (n : Int) := by omega
        have h1 : (n : Int) < (len : Int) := by omega
        simp [Runs, execOp, ho, ← g2, hy, Instr.indexAt, run_underlying hd, ok.size, asIntOf, h0, hlt, add]
      · exact Yl.no
    · exact Yl.no
  · rename_i g off k n c e hk
    split
    · rename_i ey hey
      obtain ⟨ok⟩ := mkTy_ok hey
      obtain ⟨d, hd, hk'⟩ := kindT_ok hk (by simp)
      rw [tk_arr hk'] at hd
      split
      · rename_i hlt
        have hlt : n < c := by simpa [Nat.blt_eq] using hlt
        refine Yl.map (fun k => (⟨.p g k, m, nx, pc, .n⟩ : O5)) frn_yl fun k' hk' => OpOk.pure hs fun a w θ hsl => ?_
        rw [hop] at hsl
        have hc := hsl.ev (by simp) hv
        have hc2 := hsl.ev (by simp) hi
        simp only [den, Option.map_eq_some_iff] at hc
        obtain ⟨q, g1, g2⟩ := hc
        have hy : a.eval y = .int k n := (Option.some.inj hc2).symm
        refine ⟨.pointer (some ⟨q.1, off + n * ey.sz, none⟩), ?_, by simp only [den, g1, Option.map_some, hk']; rfl⟩
        have h0 : (0 : Int) ≤ (n : Int) := by omega
        have h1 : (n : Int) < (c : Int) := by omega
        simp [Runs, execOp, ho, ← g2, hy, Instr.indexAt, Instr.sureAddr, run_underlying hd, ok.size, asIntOf, h0, hlt, add]
      · exact Yl.no
    · exact Yl.no
  · exact Yl.no
theorem opIndex_yl {t : Nat} {x y : Operand} (hs : Sat ρ pc) (ho : o.op = .index t x y) : Yl (fun K => opIndex P s m nx pc t x y fun v m nx pc ft => K ⟨v, m, nx, pc, ft⟩) (OpOk P ρ o s m nx) := by
  have hop : o.op.operands.toList = [x, y] := by simp [ho, Op.operands]
  unfold opIndex
  refine Yl.bind (evO_yl (ρ := ρ)) fun v hv => Yl.bind (evO_yl (ρ := ρ)) fun i hi => ?_
  split
  · rename_i l k n hk
    obtain ⟨d, hd, hk'⟩ := kindT_ok hk (by simp)
    rw [tk_str hk'] at hd
    refine Yl.map (fun a => (⟨.i .u8 (.ofNat a), m, nx, pc, .n⟩ : O5)) (nthS_yl (ρ := ρ)) fun b hb => OpOk.pure hs fun a w θ hsl => ?_
    rw [hop] at hsl
    have hx : a.eval x = .string (bstr (denS ρ l)) := (Option.some.inj (hsl.ev (by simp) hv)).symm
    have hy : a.eval y = .int k n := (Option.some.inj (hsl.ev (by simp) hi)).symm
    have hlt : n < (denS ρ l).length := (List.getElem?_eq_some_iff.1 hb.1).1
    refine ⟨_, r_sindex (p := n) ho hd hx hy (by omega) (by rw [bstr_size]; omega), ?_⟩
    have : (bstr (denS ρ l)).data.toList.getD (n : Int).toNat 0 = UInt8.ofNat b := by
      rw [List.getD_eq_getElem?_getD]
      simp [bstr, hb.1]
    simp only [den, byteAt, this, Option.some.injEq, Value.int.injEq, true_and]
    have h2 := hb.2
    simp
    omega
  · rename_i l k e hk
    obtain ⟨d, hd, hk'⟩ := kindT_ok hk (by simp)
    rw [tk_str hk'] at hd
    split
    · rename_i i j
      split
      · rename_i hc
        simp only [Bool.and_eq_true, Nat.blt_eq, Nat.beq_eq] at hc
        obtain ⟨⟨⟨c1, c2⟩, c3⟩, c4⟩ := hc
        have c2 : j % 2 = 0 := c2
        have d3 := proves_ok c3 hs
        have d4 := proves_ok c4 hs
        rw [sub_den, add_den, const_den, lenS_den] at d4
        obtain ⟨j, rfl⟩ : ∃ j', j = 2 * j' := ⟨j / 2, by omega⟩
        have ee : (Lin.mk 0 [(2 * j, 1)]).den ρ = ρ.v j := by simp [Lin.den, dts, Rho.at_v]
        rw [ee] at d3 d4
        have hden : denS ρ [.a i] = ρ.s i := by simp [denS, Pc.den]
        rw [hden] at d4
        refine Yl.bind frn_yl fun k hk => ?_
        have hk : k = 4 * (i + 16 * j) + 3 := by rw [hk]; show 4 * (i + 16 * (2 * j / 2)) + 3 = _; omega
        have hat : ρ.at k = (((ρ.s i).getD (ρ.v j).toNat 0).toNat : Int) := by rw [hk]; exact ρ.at_b i j c1
        have hb : ((ρ.s i).getD (ρ.v j).toNat 0).toNat < 256 := UInt8.toNat_lt _
        refine Yl.pure (⟨.x .u8 (.mk 0 [(k, 1)]), m, nx, .mk 0 [(k, 1)] :: .mk 255 [(k, -1)] :: pc, .n⟩ : O5) (OpOk.pure (fun e he => ?_) fun a w θ hsl => ?_)
        · rcases List.mem_cons.1 he with rfl | he
          · simp only [Lin.den, dts, hat]; omega
          · rcases List.mem_cons.1 he with rfl | he
            · simp only [Lin.den, dts, hat]; omega
            · exact hs e he
        · rw [hop] at hsl
          have hx : a.eval x = .string (bstr (denS ρ [.a i])) := (Option.some.inj (hsl.ev (by simp) hv)).symm
          have hy : a.eval y = .int _ ((Lin.mk 0 [(2 * j, 1)]).den ρ) := (Option.some.inj (hsl.ev (by simp) hi)).symm
          rw [ee] at hy
          rw [hden] at hx
          refine ⟨_, r_sindex (p := ρ.v j) ho hd hx hy d3 (by rw [bstr_size]; omega), ?_⟩
          have h5 : (Lin.mk 0 [(k, 1)]).den ρ = ρ.at k := by simp [Lin.den, dts]
          simp only [den, byteAt, h5, hat, bstr]
      · exact Yl.no
    · exact Yl.no
  · rename_i l k n c e hk
    split
    · rename_i ey hey
      obtain ⟨ok⟩ := mkTy_ok hey
      obtain ⟨d, hd, hk'⟩ := kindT_ok hk (by simp)
      rw [tk_arr hk'] at hd
      split
      · rename_i hlt
        have hlt : n < c := by simpa [Nat.blt_eq] using hlt
        refine Yl.map (fun u => (⟨u, m, nx, pc, .n⟩ : O5)) (partC_yl (ρ := ρ) ok) fun u hu => OpOk.pure hs fun a w θ hsl => ?_
        rw [hop] at hsl
        have hc := hsl.ev (by simp) hv
        have hy : a.eval y = .int k n := (Option.some.inj (hsl.ev (by simp) hi)).symm
        simp only [den, Option.map_eq_some_iff] at hc
        obtain ⟨vs, g1, g2⟩ := hc
        obtain ⟨u', q1, q2⟩ := hu θ vs g1
        have h0 : (0 : Int) ≤ (n : Int) := by omega
        have h1 : (n : Int) < (c : Int) := by omega
        refine ⟨u', ?_, q1⟩
        have q3 : (part e vs.toArray (n * ey.sz)).run P w = .ok u' w := q2 w
        simp [Runs, execOp, ho, ← g2, hy, Instr.index, run_underlying hd, ok.size, asIntOf, h0, hlt, q3]
      · exact Yl.no
    · exact Yl.no
  · exact Yl.no

/-! ### What is new -/
theorem holds_new {nx : Nat} {θ : Th} {ty : Nat} {cs : List SV} {vs rest : List Value} {ex : Bool} {w0 : World} (hn : θ nx = none) (h1 : dens ρ θ cs = some vs) (h2 : ∀ v ∈ vs, v.oneCell' = true) (h3 : ex = true → rest = []) :
    HoldsB ρ (updT θ nx (w0.heap.size, (vs ++ rest).length)) (w0.alloc (.cells (vs ++ rest).toArray ty)) nx (.ce ty cs ex) :=
  ⟨w0.heap.size, (vs ++ rest).length, vs, (vs ++ rest).toArray, rest, by simp [updT], heap_alloc_new _ _, by simp, dens_mono (updT_le hn) _ h1, h2, by simp, h3⟩
theorem opAlloc_yl {t : Nat} (hs : Sat ρ pc) (ho : o.op = .alloc t) : Yl (fun K => opAlloc P m nx pc t fun v m nx pc ft => K ⟨v, m, nx, pc, ft⟩) (OpOk P ρ o s m nx) := by
  unfold opAlloc
  split
  · rename_i y hy
    obtain ⟨ok⟩ := mkTy_ok hy
    refine Yl.bind2 newB_yl fun m' n' hm => ?_
    obtain ⟨e, hm⟩ := hm
    simp only at e hm
    subst e
    refine Yl.pure (⟨.p nx 0, m', nx + 1, pc, .w [nx]⟩ : O5) (OpOk.new1 hs hm fun a w θ hsl hn => ?_)
    obtain ⟨h1, h2, h3⟩ := cstL_ok (ρ := ρ) (θ := θ) ok.zs
    have hb := holds_new (ρ := ρ) (w0 := w) (ty := t) (rest := []) (ex := true) hn h1 h2 fun _ => rfl
    rw [List.append_nil] at hb
    refine ⟨.pointer (some ⟨w.heap.size, 0, none⟩), w.alloc (.cells ok.z.cells t), w.heap.size, _, ?_, Ext.alloc _ _ _, Nat.le_refl _, by simpa using hb, by simp [den, updT]⟩
    simp [execOp, ho, Instr.alloc, ok.zero, newVar, newRow]
  · exact Yl.no
theorem allOne_ok : ∀ {l : List SV}, allOne l = true → ∀ v ∈ l, oneV v = true
  | [], _, v, h => by cases h
  | x :: l, h, v, hv => by
    simp only [allOne] at h
    split at h
    · rename_i hx
      rcases List.mem_cons.1 hv with rfl | hv
      · exact hx
      · exact allOne_ok h v hv
    · cases h
theorem oneV_ok {v : SV} {u : Value} (h : oneV v = true) (hu : den ρ θ v = some u) : u.oneCell' = true ∧ u.cells = #[u] := by
  have mp : ∀ {α β : Type} {o : Option α} {f : α → β} {x : β}, o.map f = some x → ∃ y, x = f y := fun h => by
    obtain ⟨y, _, h⟩ := Option.map_eq_some_iff.1 h; exact ⟨y, h.symm⟩
  cases v <;> simp only [oneV, Bool.false_eq_true] at h <;> first
    | (cases hu; exact ⟨rfl, rfl⟩)
    | (obtain ⟨y, rfl⟩ := mp hu; exact ⟨rfl, rfl⟩)
    | (simp only [den, Option.bind_eq_some_iff, Option.map_eq_some_iff] at hu
       obtain ⟨a1, _, b1, _, rfl⟩ := hu
       exact ⟨rfl, rfl⟩)
theorem ones_ok : ∀ {l : List SV} {us : List Value}, allOne l = true → dens ρ θ l = some us → ∀ u ∈ us, u.oneCell' = true
  | [], us, _, h, u, hu => by cases h; cases hu
  | v :: l, us, ha, h, u, hu => by
    simp only [dens, Option.bind_eq_some_iff, Option.map_eq_some_iff] at h
    obtain ⟨x, h1, us', h2, rfl⟩ := h
    rcases List.mem_cons.1 hu with rfl | hu
    · exact (oneV_ok (allOne_ok ha v (by simp)) h1).1
    · simp only [allOne] at ha
      split at ha
      · exact ones_ok ha h2 u hu
      · cases ha
theorem cellsV_ok {v : SV} {u : Value} (ha : allOne (cellsV v) = true) (hu : den ρ θ v = some u) : dens ρ θ (cellsV v) = some u.cells.toList ∧ ∀ x ∈ u.cells.toList, x.oneCell' = true := by
  have key : dens ρ θ (cellsV v) = some u.cells.toList := by
    cases v with
    | ag l =>
      simp only [den, Option.map_eq_some_iff] at hu
      obtain ⟨vs, h1, rfl⟩ := hu
      simpa [cellsV, Value.cells] using h1
    | _ =>
      have h1 := oneV_ok (allOne_ok ha _ (List.mem_cons_self)) hu
      show dens ρ θ [_] = _
      simp only [dens, hu, h1.2, Option.bind_some, Option.map_some]
  exact ⟨key, ones_ok ha key⟩
theorem opBox_yl {t : Nat} {x : Operand} (hs : Sat ρ pc) (ho : o.op = .box t x) : Yl (fun K => opBox s m nx pc t x fun v m nx pc ft => K ⟨v, m, nx, pc, ft⟩) (OpOk P ρ o s m nx) := by
  have hop : o.op.operands.toList = [x] := by simp [ho, Op.operands]
  unfold opBox
  refine Yl.bind (evO_yl (ρ := ρ)) fun v hv => ?_
  split
  · rename_i ha
    refine Yl.bind2 newB_yl fun m' n' hm => ?_
    obtain ⟨e, hm⟩ := hm
    simp only at e hm
    subst e
    refine Yl.pure (⟨.p nx 0, m', nx + 1, pc, .w [nx]⟩ : O5) (OpOk.new1 hs hm fun a w θ hsl hn => ?_)
    rw [hop] at hsl
    obtain ⟨h1, h2⟩ := cellsV_ok ha (hsl.ev (by simp) hv)
    have hb := holds_new (ρ := ρ) (w0 := w) (ty := t) (rest := []) (ex := true) hn h1 h2 fun _ => rfl
    rw [List.append_nil] at hb
    refine ⟨.pointer (some ⟨w.heap.size, 0, none⟩), w.alloc (.cells (a.eval x).cells t), w.heap.size, _, ?_, Ext.alloc _ _ _, Nat.le_refl _, by simpa using hb, by simp [den, updT]⟩
    simp [execOp, ho, Instr.box, newVar, newRow]
  · exact Yl.no
theorem opMakeMap_yl {t : Nat} {r : Option Operand} (hs : Sat ρ pc) (ho : o.op = .makeMap t r) : Yl (fun K => opMakeMap m nx pc r fun v m nx pc ft => K ⟨v, m, nx, pc, ft⟩) (OpOk P ρ o s m nx) := by
  unfold opMakeMap
  split
  · refine Yl.bind2 newB_yl fun m' n' hm => ?_
    obtain ⟨e, hm⟩ := hm
    simp only at e hm
    subst e
    refine Yl.pure (⟨.mp nx, m', nx + 1, pc, .w [nx]⟩ : O5) (OpOk.new1 hs hm fun a w θ hsl hn => ?_)
    refine ⟨.map (some w.heap.size), w.alloc (.map #[] 0), w.heap.size, 0, ?_, Ext.alloc _ _ _, Nat.le_refl _, ⟨w.heap.size, 0, #[], by simp [updT], heap_alloc_new _ _, rfl⟩, by simp [den, updT]⟩
    simp [execOp, ho, Instr.makeMap, newObj]
    rfl
  · exact Yl.no
end
end X
end Go.Proofs.YtppdehodcoffbaaGreatDoor
