/-
  Operations on memory: aggregates, slices, stores. Over any program.
-/
import Derived.Test.YtppdehodcoffbaaGreatDoorVL
import Derived.Great.BuildSlice
import Derived.Laws.MakeOwn
import Derived.Deep.AppendSrc
set_option linter.unusedSimpArgs false
set_option linter.unusedVariables false
namespace Go.Proofs.YtppdehodcoffbaaGreatDoor
namespace X
open Go.RowKit B

theorem fold_set : ∀ (vs : List Value) (off j : Nat) (cells : Array Value), off + j + vs.length ≤ cells.size → ((vs.zipIdx j).foldl (fun cs (c, j) => cs.setIfInBounds (off + j) c) cells).toList = splice cells.toList (off + j) vs
  | [], off, j, cells, h => by simp [splice]
  | v :: vs, off, j, cells, h => by
    simp only [List.zipIdx_cons, List.foldl_cons]
    rw [fold_set vs off (j + 1) _ (by simp at h ⊢; omega)]
    have hlt : off + j < cells.toList.length := by simp at h ⊢; omega
    simp only [Array.toList_setIfInBounds, splice, List.length_cons]
    rw [show off + (j + 1) = off + j + 1 by omega, List.take_succ_eq_append_getElem (by simpa using hlt), List.getElem_set_self, List.take_set_of_le (by omega)]
    simp only [List.append_assoc, List.singleton_append, List.cons_append]
    congr 2
    rw [show off + j + 1 + vs.length = off + j + (vs.length + 1) by omega, List.drop_set_of_lt (by omega)]
    simp
theorem dens_splice {ρ : Rho} {θ : Th} {cs vs : List SV} {zs us : List Value} (h : dens ρ θ cs = some zs) (h2 : dens ρ θ vs = some us) {off : Nat} : dens ρ θ (cs.take off ++ vs ++ cs.drop (off + vs.length)) = some (splice zs off us) := by
  unfold splice
  rw [← dens_len h2] 
  exact dens_append (dens_append (dens_take _ h) h2) (dens_drop _ h)
theorem splice_len {zs us : List Value} {off : Nat} (h : off + us.length ≤ zs.length) : (splice zs off us).length = zs.length := by
  unfold splice; simp; omega
theorem splice_mem {zs us : List Value} {off : Nat} {u : Value} (h : u ∈ splice zs off us) : u ∈ zs ∨ u ∈ us := by
  unfold splice at h
  simp only [List.mem_append] at h
  rcases h with (h | h) | h
  · exact .inl (List.mem_of_mem_take h)
  · exact .inr h
  · exact .inl (List.mem_of_mem_drop h)
section
variable {P : Program} {ρ : Rho} {o : Oper} {s : Tr SV} {m : Mem} {nx : Nat} {pc : PC} {a : Act} {w w' : World} {θ : Th}
theorem fillC_yl {t : Nat} (pl : Nat → Option (Nat × Nat)) (hpl : ∀ i o n, placeT P t i = some (o, n) → pl i = some (o, n)) : ∀ {ps : List (Nat × Operand)} {cs : List SV}, Yl (fillC P s t ps cs) fun out => ∀ (θ : Th) (a : Act) (xs : List Operand) (zs : List Value), SlOk ρ s θ a xs → (∀ p ∈ ps, p.2 ∈ xs) → dens ρ θ cs = some zs → (∀ v ∈ zs, v.oneCell' = true) →
    ∃ os : List Value, Instr.fill pl zs.toArray (ps.map fun p => (p.1, a.eval p.2)) = some os.toArray ∧ dens ρ θ out = some os ∧ os.length = zs.length ∧ ∀ v ∈ os, v.oneCell' = true
  | [], cs => Yl.pure cs fun θ a xs zs _ _ h h1 => ⟨zs, by simp [Instr.fill], h, rfl, h1⟩
  | (i, x) :: l, cs => by
    have e0 : fillC P s t ((i, x) :: l) cs = fun K => match placeT P t i with
      | some (o, n) => evO s x fun v => match Nat.beq (lenC (cellsV v) 0) n && allOne (cellsV v) with
        | true => setC cs o (cellsV v) fun cs => fillC P s t l cs K
        | false => false
      | none => false := rfl
    rw [e0]
    split
    · rename_i off n hp
      refine Yl.bind (evO_yl (ρ := ρ)) fun v hv => ?_
      split
      · rename_i hc
        simp only [Bool.and_eq_true, Nat.beq_eq, lenC0] at hc
        refine Yl.bind setC_yl fun cs' hcs' => ?_
        refine Yl.mono (fillC_yl pl hpl (ps := l) (cs := cs')) fun out ih θ a xs zs hsl hx hz h1 => ?_
        have hu := hsl.ev (hx (i, x) (by simp)) hv
        obtain ⟨g1, g2⟩ := cellsV_ok hc.2 hu
        have hlz := dens_len hz
        have hlu := dens_len g1
        have hcs2 : dens ρ θ cs' = some (splice zs off (a.eval x).cells.toList) := by rw [hcs'.2]; exact dens_splice hz g1
        have hfit : off + (a.eval x).cells.toList.length ≤ zs.length := by rw [hlu, hlz]; exact hcs'.1
        obtain ⟨os, q1, q2, q3, q4⟩ := ih θ a xs _ hsl (fun p hp => hx p (by simp [hp])) hcs2 fun u hu => (splice_mem hu).elim (h1 u) (g2 u)
        refine ⟨os, ?_, q2, by rw [q3, splice_len hfit], q4⟩
        simp only [List.map_cons, Instr.fill, hpl _ _ _ hp]
        have hsz : (a.eval x).cells.size = n := by rw [← Array.length_toList, hlu, hc.1]
        have hb : (decide ((a.eval x).cells.size ≠ n) || decide (off + (a.eval x).cells.size > zs.toArray.size)) = false := by
          rw [Array.length_toList] at hfit
          simp [hsz]; omega
        rw [hb]
        simp only [Bool.false_eq_true, if_false]
        rw [← q1]
        congr 1
        have hf := fold_set (a.eval x).cells.toList off 0 zs.toArray (by simpa using hfit)
        simp only [Nat.add_zero] at hf
        refine Array.ext' ?_
        rw [List.toList_toArray] at hf
        rw [← hf]
        simp only [← Array.foldl_toList, Array.toList_zipIdx]
      · exact Yl.no
    · exact Yl.no
theorem allTy_ok : ∀ {F : List Field}, allTy P (F.map fun f => (f.offset, f.type)) = true → ∃ pl, F.mapM (fun f => (P.info? f.type).map fun i => (f.offset, i.size)) = some pl ∧ ∀ (i : Nat) (fd : Field) (y : Ty), F[i]? = some fd → mkTy P fd.type = some y → pl[i]? = some (fd.offset, y.sz)
  | [], h => ⟨[], rfl, fun i fd y h => by simp at h⟩
  | f :: F, h => by
    simp only [List.map_cons, allTy] at h
    split at h
    · rename_i y hy
      obtain ⟨pl, h1, h2⟩ := allTy_ok h
      obtain ⟨ok⟩ := mkTy_ok hy
      refine ⟨(f.offset, y.sz) :: pl, ?_, fun i fd y' e1 e2 => ?_⟩
      · simp [List.mapM_cons, h1, ok.hi, ok.sz]
      · cases i with
        | zero => simp at e1; subst e1; rw [hy] at e2; cases e2; rfl
        | succ i => simpa using h2 i fd y' (by simpa using e1) e2
    · cases h
theorem parts_eq (a : Act) (parts : Array (Nat × Operand)) : (parts.map fun (i, x) => (i, a.eval x)).toList = parts.toList.map fun p => (p.1, a.eval p.2) := by
  rw [Array.toList_map]
theorem opBuild_yl {t : Nat} {parts : Array (Nat × Operand)} (hs : Sat ρ pc) (ho : o.op = .build t parts) : Yl (fun K => opBuild P s m nx pc t parts.toList fun v m nx pc ft => K ⟨v, m, nx, pc, ft⟩) (OpOk P ρ o s m nx) := by
  have hop : o.op.operands.toList = parts.toList.map (·.2) := by simp [ho, Op.operands]
  unfold opBuild
  split
  · rename_i y hy
    obtain ⟨ok⟩ := mkTy_ok hy
    have fin : ∀ {out : List SV} {pl : Nat → Option (Nat × Nat)}, (∀ a : Act, P.built t (parts.map fun (i, x) => (i, a.eval x)).toList = Instr.fill pl ok.z.cells (parts.toList.map fun p => (p.1, a.eval p.2))) →
        (∀ (θ : Th) (a : Act) (xs : List Operand) (zs : List Value), SlOk ρ s θ a xs → (∀ p ∈ parts.toList, p.2 ∈ xs) → dens ρ θ y.zero = some zs → (∀ v ∈ zs, v.oneCell' = true) →
          ∃ os : List Value, Instr.fill pl zs.toArray (parts.toList.map fun p => (p.1, a.eval p.2)) = some os.toArray ∧ dens ρ θ out = some os ∧ os.length = zs.length ∧ ∀ v ∈ os, v.oneCell' = true) → OpOk P ρ o s m nx ⟨.ag out, m, nx, pc, .n⟩ := by
      intro out pl hb hout
      refine OpOk.pure hs fun a w θ hsl => ?_
      rw [hop] at hsl
      obtain ⟨h1, h2, h3⟩ := cstL_ok (ρ := ρ) (θ := θ) ok.zs
      obtain ⟨os, q1, q2, _⟩ := hout θ a _ _ hsl (fun p hp => List.mem_map.2 ⟨p, hp, rfl⟩) h1 h2
      refine ⟨.agg os.toArray, ?_, by simp [den, q2]⟩
      have q3 := hb a
      rw [show ok.z.cells = ok.z.cells.toList.toArray from by simp, q1] at q3
      simp only [Runs, execOp, ho, Sem.run_bind, run_build w t _ _ q3, Result.andThen_ok]
      rfl
    split
    · rename_i fs hk
      split
      · rename_i hall
        have hk0 := ok.kind
        rw [hk] at hk0
        obtain ⟨F, hF, hfs⟩ := tk_struct hk0
        have hd := ok.hd
        rw [hF] at hd
        rw [hfs] at hall
        have hkT : kindT P t = .struct fs := by simp [kindT, hy, hk]
        obtain ⟨pl, g1, g2⟩ := allTy_ok hall
        refine Yl.map (fun cs => (⟨.ag cs, m, nx, pc, .n⟩ : O5)) (fillC_yl (ρ := ρ) (t := t) (pl.toArray[·]?) (fun i off n h => ?_)) fun out hout => fin (fun a => ?_) hout
        · simp only [placeT, hkT] at h
          split at h
          · rename_i o' y' hf
            cases h
            unfold fieldT at hf
            rw [hkT] at hf
            simp only at hf
            split at hf
            · rename_i o2 ft hn
              split at hf
              · rename_i y2 hy2
                cases hf
                rw [nthF_get, hfs, List.getElem?_map] at hn
                cases hFi : F.toList[i]? with
                | none => rw [hFi] at hn; cases hn
                | some fd =>
                  rw [hFi] at hn
                  simp at hn
                  have := g2 i fd y' hFi (by rw [hn.2]; exact hy2)
                  simp [this, hn.1]
              · cases hf
            · cases hf
          · cases h
        · unfold Program.built
          rw [ok.hi, hd]
          simp only [ok.hz, g1, parts_eq]
      · exact Yl.no
    · rename_i n e hk
      have hk0 := ok.kind
      rw [hk] at hk0
      have hd := ok.hd
      rw [tk_arr hk0] at hd
      have hkT : kindT P t = .arr n e := by simp [kindT, hy, hk]
      split
      · rename_i ye hye
        obtain ⟨oke⟩ := mkTy_ok hye
        refine Yl.map (fun cs => (⟨.ag cs, m, nx, pc, .n⟩ : O5)) (fillC_yl (ρ := ρ) (t := t) (fun i => some (i * ye.sz, ye.sz)) (fun i off n h => ?_)) fun out hout => fin (fun a => ?_) hout
        · simp only [placeT, hkT, hye] at h
          cases h; rfl
        · unfold Program.built
          rw [ok.hi, hd]
          simp only [ok.hz, oke.hi, parts_eq, oke.sz]
      · exact Yl.no
    · exact Yl.no
  · exact Yl.no
/-- n times -/
def repV (l : List Value) : Nat → List Value
  | 0 => []
  | n + 1 => l ++ repV l n
theorem repV_range (z : Array Value) : ∀ n, ((Array.range (n * z.size)).map (z[· % z.size]!)).toList = repV z.toList n
  | 0 => by simp [repV, Array.range_zero']
  | n + 1 => by
    have ih := repV_range z n
    simp only [Array.toList_map, Array.toList_range] at ih ⊢
    rw [show (n + 1) * z.size = z.size + n * z.size by rw [Nat.add_mul]; omega, List.range_add, List.map_append, List.map_map]
    simp only [repV]
    rw [← ih]
    congr 1
    · apply List.ext_getElem
      · simp
      · intro i h1 h2
        have hi : i < z.size := by simpa using h2
        simp [Nat.mod_eq_of_lt hi, hi]
    · apply List.map_congr_left
      intro i _
      simp
theorem repC_den {cs : List SV} {zs : List Value} (h : dens ρ θ cs = some zs) : ∀ n, dens ρ θ (repC cs n) = some (repV zs n)
  | 0 => rfl
  | n + 1 => dens_append h (repC_den h n)
theorem repV_mem {l : List Value} {v : Value} : ∀ {n}, v ∈ repV l n → v ∈ l
  | 0, h => by cases h
  | n + 1, h => by
    simp only [repV, List.mem_append] at h
    exact h.elim id repV_mem
theorem opBuildSlice_yl {t n : Nat} {parts : Array (Nat × Operand)} (hs : Sat ρ pc) (ho : o.op = .buildSlice t n parts) : Yl (fun K => opBuildSlice P s m nx pc t n parts.toList fun v m nx pc ft => K ⟨v, m, nx, pc, ft⟩) (OpOk P ρ o s m nx) := by
  have hop : o.op.operands.toList = parts.toList.map (·.2) := by simp [ho, Op.operands]
  unfold opBuildSlice
  split
  · rename_i e hk
    obtain ⟨d, hd, hk'⟩ := kindT_ok hk (by simp)
    rw [tk_slice hk'] at hd
    split
    · rename_i y hy
      obtain ⟨ok⟩ := mkTy_ok hy
      split
      · rename_i hc
        simp only [Bool.and_eq_true, Nat.ble_eq] at hc
        refine Yl.bind (fillC_yl (ρ := ρ) (t := t) (fun i => some (i * y.sz, y.sz)) (fun i off n h => by
          simp only [placeT, hk, hy] at h; cases h; rfl)) fun out hout => ?_
        refine Yl.bind2 newB_yl fun m' n' hm => ?_
        obtain ⟨e1, hm⟩ := hm
        simp only at e1 hm
        subst e1
        refine Yl.pure (⟨.sl nx 0 n (.k n), m', nx + 1, pc, .w [nx]⟩ : O5) (OpOk.new1 hs hm fun a w θ hsl hn => ?_)
        rw [hop] at hsl
        obtain ⟨h1, h2, h3⟩ := cstL_ok (ρ := ρ) (θ := θ) ok.zs
        obtain ⟨os, q1, q2, q3, q4⟩ := hout θ a _ _ hsl (fun p hp => List.mem_map.2 ⟨p, hp, rfl⟩) (repC_den h1 n) fun v hv => h2 v (repV_mem hv)
        have hb := holds_new (ρ := ρ) (w0 := w) (ty := e) (rest := []) (ex := true) hn q2 q4 fun _ => rfl
        rw [List.append_nil] at hb
        refine ⟨.slice (some ⟨w.heap.size, 0, none⟩) n n, w.alloc (.cells os.toArray e), w.heap.size, _, ?_, Ext.alloc _ _ _, Nat.le_refl _, hb, by simp [den, updT, Cap.den]⟩
        have hzl : ok.z.cells.size = y.sz := by rw [ok.zl, ok.sz]
        have e2 : (repV ok.z.cells.toList n).toArray = (Array.range (n * ok.i.size)).map (ok.z.cells[· % ok.z.cells.size]!) := by
          apply Array.ext'
          rw [← ok.zl, repV_range]
        rw [e2] at q1
        by_cases h0 : n = 0
        · subst h0
          have : (Array.range (0 * ok.i.size)).map (ok.z.cells[· % ok.z.cells.size]!) = #[] := by simp [Array.range_zero']
          rw [this] at q1
          simp only [execOp, ho, Instr.buildSlice, Sem.run_bind, run_underlying hd, Result.andThen_ok]
          simp [sizeOf, typeInfo, ok.hi, newRow, Array.range_zero', parts_eq, ← ok.sz, q1]
        · have hpos : ¬ n * ok.i.size = 0 := by
            rw [← ok.sz]; exact Nat.mul_ne_zero h0 (by omega)
          have hsm : ¬ n * ok.i.size > 2 ^ 24 := by rw [← ok.sz]; have : n * y.sz ≤ 16777216 := hc.2; omega
          have := run_buildSlice (P := P) w t e n (parts.map fun (i, x) => (i, a.eval x)) os.toArray ok.i ok.z hd ok.hi ok.hz hsm hpos (by rw [parts_eq, ← ok.sz]; rw [← ok.sz] at q1; exact q1)
          simp only [execOp, ho, Sem.run_bind, this, Result.andThen_ok]
          rfl
      · exact Yl.no
    · exact Yl.no
  · exact Yl.no
theorem opMakeSlice_yl {t : Nat} {x y : Operand} (hs : Sat ρ pc) (ho : o.op = .makeSlice t x y) : Yl (fun K => opMakeSlice P s m nx pc t x y fun v m nx pc ft => K ⟨v, m, nx, pc, ft⟩) (OpOk P ρ o s m nx) := by
  have hop : o.op.operands.toList = [x, y] := by simp [ho, Op.operands]
  unfold opMakeSlice
  split
  · rename_i e hk
    obtain ⟨d, hd, hk'⟩ := kindT_ok hk (by simp)
    rw [tk_slice hk'] at hd
    split
    · rename_i ye hy
      obtain ⟨ok⟩ := mkTy_ok hy
      refine Yl.bind (evO_yl (ρ := ρ)) fun v hv => Yl.bind (evO_yl (ρ := ρ)) fun u hu => ?_
      split
      · rename_i kl l kc c
        split
        · rename_i hc
          simp only [Bool.and_eq_true, Nat.ble_eq] at hc
          refine Yl.bind2 newB_yl fun m' n' hm => ?_
          obtain ⟨e1, hm⟩ := hm
          simp only at e1 hm
          subst e1
          refine Yl.pure (⟨.sl nx 0 l (.k c), m', nx + 1, pc, .w [nx]⟩ : O5) (OpOk.new1 hs hm fun a w θ hsl hn => ?_)
          rw [hop] at hsl
          have hx : a.eval x = .int kl l := (Option.some.inj (hsl.ev (by simp) hv)).symm
          have hy : a.eval y = .int kc c := (Option.some.inj (hsl.ev (by simp) hu)).symm
          obtain ⟨h1, h2, h3⟩ := cstL_ok (ρ := ρ) (θ := θ) ok.zs
          have hb := holds_new (ρ := ρ) (w0 := w) (ty := e) (rest := []) (ex := true) hn (repC_den h1 c) (fun v hv => h2 v (repV_mem hv)) fun _ => rfl
          rw [List.append_nil] at hb
          have e2 : (repV ok.z.cells.toList c).toArray = madeCells ok.z.cells (c * ok.i.size) := by
            apply Array.ext'
            show _ = ((Array.range (c * ok.i.size)).map (ok.z.cells[· % ok.z.cells.size]!)).toList
            rw [← ok.zl, repV_range]
          rw [e2] at hb
          refine ⟨.slice (some ⟨w.heap.size, 0, none⟩) l c, w.alloc (.cells (madeCells ok.z.cells (c * ok.i.size)) e), w.heap.size, _, ?_, Ext.alloc _ _ _, Nat.le_refl _, hb, by simp [den, updT, Cap.den]⟩
          have hbig : (ye.by' + 1) * c ≤ 16777216 := hc.2
          have hb1 : ye.by' * c ≤ 16777216 := Nat.le_trans (Nat.mul_le_mul_right _ (Nat.le_succ _)) hbig
          have hb2 : c ≤ 16777216 := Nat.le_trans (by rw [Nat.add_mul]; omega) hbig
          have hb3 : (ok.i.bytes : Int) * (c : Int) ≤ 281474976710656 := by
            rw [← ok.by']
            have : ((ye.by' * c : Nat) : Int) ≤ 281474976710656 := by omega
            simpa using this
          have := run_make (P := P) w t e ok.i ok.z hd ok.hi ok.hz kl kc l c (by omega) (by have := hc.1.1; omega) hb3 (by omega)
          simp only [Int.toNat_natCast] at this
          simp only [execOp, ho, hx, hy, Sem.run_bind, this, Result.andThen_ok]
          rfl
        · exact Yl.no
      · exact Yl.no
    · exact Yl.no
  · exact Yl.no
end
end X
end Go.Proofs.YtppdehodcoffbaaGreatDoor
