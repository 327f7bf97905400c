/-
  Append, copy, bytes as strings, conversions; all operations. Over any program.
-/
import Derived.Test.YtppdehodcoffbaaGreatDoorVP
set_option linter.unusedSimpArgs false
set_option linter.unusedVariables false
namespace Go.Proofs.YtppdehodcoffbaaGreatDoor
namespace X
open Go.RowKit B

section
variable {P : Program} {ρ : Rho} {o : Oper} {s : Tr SV} {m : Mem} {nx : Nat} {pc : PC} {a : Act} {w w' : World} {θ : Th}
theorem apOld_yl {t t' e : Nat} {ye : Ty} {x y : Operand} {va vb : SV} (hs : Sat ρ pc) (c : ApCx P o t t' e ye x y) (hT : srcT P t' e vb = true) (hva : EvOk ρ s x va) (hvb : EvOk ρ s y vb) :
    Yl (fun K => apOld m nx pc e ye va vb fun v m nx pc ft => K ⟨v, m, nx, pc, ft⟩) (OpOk P ρ o s m nx) := by
  unfold apOld
  have hsrc := srcC_yl (P := P) (ρ := ρ) (m := m) (sz := ye.sz) hT
  refine Yl.bind3 hsrc fun news n ts h1 => ?_
  have h1 : ∀ (θ : Th) (w : World) (x : Value), (∀ t ∈ ts, ∀ b, m.get t = some b → HoldsB ρ θ w t b) → den ρ θ vb = some x → ∃ us, dens ρ θ news = some us ∧ Src P ye.sz t' x n us w := fun θ w x hb hx => by
    obtain ⟨us, q1, q2, _⟩ := h1 θ w x hb hx; exact ⟨us, q1, q2⟩
  split
  · exact apNs_yl hs c hva hvb h1
  · rename_i g off len cap
    refine Yl.bind frn_yl fun need hneed => ?_
    split
    · rename_i hf
      split
      · rename_i hroom
        exact apRoom_yl hs c hva hvb hneed hroom h1
      · rename_i hroom
        split
        · exact apGrow_yl hs c hva hvb hneed hroom hf h1
        · exact apAny_yl hs c hva hvb hneed hf h1
    · exact Yl.no
  · exact Yl.no
theorem apSym_yl {t t' e : Nat} {ye : Ty} {x y : Operand} {l : Str} (hs : Sat ρ pc) (c : ApCx P o t t' e ye x y) (hT : P.underlying t' = some .string) (hva : EvOk ρ s x .ns) (hvb : EvOk ρ s y (.s l)) :
    Yl (fun K => apSym m nx pc e ye l fun v m nx pc ft => K ⟨v, m, nx, pc, ft⟩) (OpOk P ρ o s m nx) := by
  unfold apSym
  split
  · rename_i hc
    simp only [Bool.and_eq_true, Nat.beq_eq, Nat.ble_eq] at hc
    obtain ⟨⟨⟨c1, c2⟩, c3⟩, c4⟩ := hc
    have p1 := proves_ok c3 hs
    have p2 := proves_ok c4 hs
    rw [sub_den, const_den, lenS_den] at p1
    rw [add_den, const_den, lenS_den] at p2
    refine Yl.bind2 newB_yl fun m' n' hm => ?_
    obtain ⟨e1, hm⟩ := hm
    simp only at e1 hm
    subst e1
    refine Yl.pure _ (OpOk.new1 hs hm fun a w θ hsl hn => ?_)
    rw [c.ops] at hsl
    have hx : a.eval x = .slice none 0 0 := (Option.some.inj (hsl.ev (by simp) hva)).symm
    have hy : a.eval y = .string (bstr (denS ρ l)) := (Option.some.inj (hsl.ev (by simp) hvb)).symm
    have hsz := c.ok.sz
    have hsrc := Src.ofString (P := P) w hT (bstr (denS ρ l))
    rw [byteCells_eq, bstr_size] at hsrc
    have hlen : 0 < (denS ρ l).length := by omega
    have hb1 : (0 + (denS ρ l).length) * c.ok.i.bytes ≤ 140737488355328 := by
      rw [← c.ok.by']
      have : (0 + (denS ρ l).length) * ye.by' ≤ 16777216 * 16 := Nat.mul_le_mul (by omega) c2
      omega
    have hfit := growslice_fits (need := 0 + (denS ρ l).length) (old := 0) (bytes := c.ok.i.bytes) (by omega) hb1
    have hr := run_append_grow_src (P := P) w t t' o.type e c.ok.i c.ok.z c.hd c.ok.hi c.ok.hz none 0 0 [] (run_firstCells_none w.drew _ _ _ _) (.string (bstr (denS ρ l))) (denS ρ l).length _ (by rw [← hsz, c1]; exact hsrc) (by omega) (by omega) hfit
    rw [Nat.zero_add, List.nil_append] at hr
    have hge := grownCap_ge w (denS ρ l).length 0 e
    let rest := (Builtin.zeroCells c.ok.z.cells (grownCap w (denS ρ l).length 0 e - (denS ρ l).length)).toList
    have harr : ((denS ρ l).map fun b => Value.int .u8 b.toNat).toArray ++ Builtin.zeroCells c.ok.z.cells (grownCap w (denS ρ l).length 0 e - (denS ρ l).length) = (((denS ρ l).map fun b => Value.int .u8 b.toNat) ++ rest).toArray := by
      apply Array.ext'; simp [rest]
    rw [harr] at hr
    have hrl : rest.length = grownCap w (denS ρ l).length 0 e - (denS ρ l).length := by
      simp only [rest, Array.length_toList, size_zeroCells, c.ok.zl, ← hsz, c1, Nat.mul_one]
    refine ⟨_, _, w.heap.size, (((denS ρ l).map fun b => Value.int .u8 b.toNat) ++ rest).length, c.ex (by rw [hx, hy]; exact hr), (Ext.refl _ _).drew.trans (Ext.alloc _ _ _), Nat.le_refl _, ⟨w.heap.size, (((denS ρ l).map fun b => Value.int .u8 b.toNat) ++ rest).length, _, rest, by simp [updT], heap_alloc_new w.drew _, by simp, by simp⟩, ?_⟩
    have hcap : (((denS ρ l).map fun b => Value.int .u8 b.toNat) ++ rest).length = grownCap w (denS ρ l).length 0 e := by
      simp [hrl]; omega
    simp only [den, updT, if_true, Option.map_some, hcap]
  · exact Yl.no
theorem opAppend_yl {t t' : Nat} {x y : Operand} (hs : Sat ρ pc) (ho : o.op = .call { callee := .builtin .append, args := #[x, y], argTypes := #[t, t'] }) : Yl (fun K => opAppend P s m nx pc t t' x y fun v m nx pc ft => K ⟨v, m, nx, pc, ft⟩) (OpOk P ρ o s m nx) := by
  unfold opAppend
  split
  · rename_i e hk
    obtain ⟨d, hd, hk'⟩ := kindT_ok hk (by simp)
    rw [tk_slice hk'] at hd
    split
    · rename_i ye hye
      obtain ⟨ok⟩ := mkTy_ok hye
      refine Yl.bind (evO_yl (ρ := ρ)) fun va hva => Yl.bind (evO_yl (ρ := ρ)) fun vb hvb => ?_
      split
      · rename_i hc
        simp only [Bool.and_eq_true, Nat.ble_eq] at hc
        obtain ⟨⟨c1, c2⟩, c3⟩ := hc
        have cx : ApCx P o t t' e ye x y := ⟨ho, hd, ok, c2, c3⟩
        split
        · rename_i l
          split
          · exact apOld_yl hs cx c1 hva hvb
          · refine apSym_yl hs cx ?_ hva hvb
            cases hk2 : kindT P t' with
            | str =>
              obtain ⟨d2, hd2, hk2'⟩ := kindT_ok hk2 (by simp)
              rw [tk_str hk2'] at hd2
              exact hd2
            | _ => simp [srcT, hk2] at c1
        · exact apOld_yl hs cx c1 hva hvb
      · exact Yl.no
    · exact Yl.no
  · exact Yl.no
theorem opCopy_yl {t t' : Nat} {x y : Operand} (hs : Sat ρ pc) (ho : o.op = .call { callee := .builtin .copy, args := #[x, y], argTypes := #[t, t'] }) : Yl (fun K => opCopy P s m nx pc t t' x y fun v m nx pc ft => K ⟨v, m, nx, pc, ft⟩) (OpOk P ρ o s m nx) := by
  have hop : o.op.operands.toList = [x, y] := by simp [ho, Op.operands, Call.operands]
  have hex : ∀ (a : Act) (w w' : World) (v : Value), (Builtin.copy_ #[t, t'] o.type #[a.eval x, a.eval y]).run P w = .ok v w' → (execOp a.eval o).run P w = .ok (.value v) w' := fun a w w' v h => by
    simp [execOp, ho, resolve, invoke, builtin, h]
  unfold opCopy
  split
  · rename_i e hk
    obtain ⟨d, hd, hk'⟩ := kindT_ok hk (by simp)
    rw [tk_slice hk'] at hd
    split
    · rename_i ye hye
      obtain ⟨ok⟩ := mkTy_ok hye
      have hsz := ok.sz
      refine Yl.bind (evO_yl (ρ := ρ)) fun va hva => Yl.bind (evO_yl (ρ := ρ)) fun vb hvb => ?_
      split
      · rename_i hT
        have hsrc := srcC_yl (P := P) (ρ := ρ) (m := m) (sz := ye.sz) hT
        refine Yl.bind3 hsrc fun news n ts hsrc => ?_
        split
        · refine Yl.pure _ (OpOk.reads hs fun a w θ hsl hb => ⟨.int .i64 0, hex a w w _ ?_, rfl⟩)
          rw [hop] at hsl
          have hx : a.eval x = .slice none 0 0 := (Option.some.inj (hsl.ev (by simp) hva)).symm
          obtain ⟨us, h1, h2, _⟩ := hsrc θ w _ hb (hsl.ev (by simp) hvb)
          have hfc : (Builtin.firstCells ok.i.size 0 (a.eval y)).run P w = .ok #[] w := by
            have h4 := h2.len w
            generalize a.eval y = v at h4 ⊢
            cases v with
            | string sv => simp [Builtin.firstCells]
            | slice ad l c => cases ad <;> simp [Builtin.firstCells, loadCells, loadCellsFrom]
            | _ => simp [Builtin.lenOf, stuck] at h4
          have hmin : Nat.min n 0 = 0 := Nat.min_eq_right (Nat.zero_le _)
          simp [Builtin.copy_, run_underlying hd, hx, h2.len, sizeOf, typeInfo, ok.hi, hfc, hmin, goInt]
        · rename_i g off len cap
          split
          · rename_i e' cs ex hg
            split
            · rename_i hle
              have hle := Nat.le_of_ble_eq_true hle
              refine Yl.bind setC_yl fun cs' hcs => ?_
              refine Yl.map (fun m' => (⟨.i .i64 (.ofNat n), m', nx, pc, .w (g :: ts)⟩ : O5)) set_yl fun m' hm => OpOk.turn hs (List.mem_cons_self) hg hm fun a w θ hsl hb => ?_
              rw [hop] at hsl
              obtain ⟨us, h1, h2, _⟩ := hsrc θ w _ (fun t ht => hb t (List.mem_cons_of_mem _ ht)) (hsl.ev (by simp) hvb)
              obtain ⟨q, qc, w', k1, k2, k3, k4⟩ := (hb g (List.mem_cons_self) _ hg).store h1 h2.one hcs.1
              have hx := hsl.ev (by simp) hva
              simp only [den, k1, Option.map_some, Option.some.injEq] at hx
              refine ⟨.int .i64 n, w', q, qc, .inl (hex a w w' _ ?_), k1, k3, by rw [hcs.2]; exact k4, rfl⟩
              have h3 := h2.cells
              rw [hsz] at h3
              have hmin : Nat.min n len = n := Nat.min_eq_left hle
              simp [Builtin.copy_, run_underlying hd, ← hx, h2.len, sizeOf, typeInfo, ok.hi, hmin, h3, k2 P, goInt]
            · rename_i hle
              have hle : len < n := by
                have := Nat.ble_eq (x := n) (y := len)
                rw [hle] at this
                simp at this; omega
              split
              · rename_i g2 off2 n2 cap2
                refine Yl.bind takeC_yl fun news' hnews => Yl.bind setC_yl fun cs' hcs => ?_
                refine Yl.map (fun m' => (⟨.i .i64 (.ofNat len), m', nx, pc, .w (g :: ts)⟩ : O5)) set_yl fun m' hm => OpOk.turn hs (List.mem_cons_self) hg hm fun a w θ hsl hb => ?_
                rw [hop] at hsl
                have hy := hsl.ev (by simp) hvb
                obtain ⟨us, h1, h2, h3⟩ := hsrc θ w _ (fun t ht => hb t (List.mem_cons_of_mem _ ht)) hy
                obtain ⟨adr, ac, h4, h5⟩ := h3 _ _ _ _ rfl
                have h1' : dens ρ θ news' = some (us.take (len * ye.sz)) := by rw [hnews.2]; exact dens_take _ h1
                obtain ⟨q, qc, w', k1, k2, k3, k4⟩ := (hb g (List.mem_cons_self) _ hg).store h1' (fun u hu => h2.one u (List.mem_of_mem_take hu)) hcs.1
                have hx := hsl.ev (by simp) hva
                simp only [den, k1, Option.map_some, Option.some.injEq] at hx
                refine ⟨.int .i64 len, w', q, qc, .inl (hex a w w' _ ?_), k1, k3, by rw [hcs.2]; exact k4, rfl⟩
                have hl1 : (us.take (len * ye.sz)).length = len * ye.sz := by
                  rw [List.length_take, h2.newsLen]
                  exact Nat.min_eq_left (Nat.mul_le_mul_right _ (Nat.le_of_lt hle))
                have hfc := run_firstCells_some (P := P) w ye.sz len adr n ac (us.take (len * ye.sz)) hl1 fun j v hj => h5 j v (by
                  have hj1 : j < len * ye.sz := by have := (List.getElem?_eq_some_iff.1 hj).1; omega
                  rwa [List.getElem?_take_of_lt hj1] at hj)
                rw [← h4, hsz] at hfc
                have k2' := k2 P
                rw [hsz] at k2'
                have hmin : Nat.min n len = len := Nat.min_eq_right (Nat.le_of_lt hle)
                simp [Builtin.copy_, run_underlying hd, ← hx, h2.len, sizeOf, typeInfo, ok.hi, hmin, hfc, k2', goInt]
              · exact Yl.no
          · exact Yl.no
        · exact Yl.no
      · exact Yl.no
    · exact Yl.no
  · exact Yl.no
end
end X
end Go.Proofs.YtppdehodcoffbaaGreatDoor
