/-
  Operations on memory: aggregates, slices, stores. Over any program.
-/
import Derived.Test.YtdbchpoaoghgpaaGreatDoorW4
import Derived.Great.BuildSlice
import Derived.Laws.MakeOwn
import Derived.Deep.AppendSrc
set_option linter.unusedSimpArgs false
set_option linter.unusedVariables false
namespace Go.Proofs.YtdbchpoaoghgpaaGreatDoor
namespace X
open Go.RowKit B

theorem fold_set : ∀ (vs : List Value) (off j : Nat) (cells : Array Value), off + j + vs.length ≤ cells.size → ((vs.zipIdx j).foldl (fun cs (c, j) => cs.setIfInBounds (off + j) c) cells).toList = splice cells.toList (off + j) vs
  | [], off, j, cells, h => by simp [splice]
  | v :: vs, off, j, cells, h => by
    simp only [List.zipIdx_cons, List.foldl_cons]
    rw [fold_set vs off (j + 1) _ (by simp at h ⊢; omega)]
    have hlt : off + j < cells.toList.length := by simp at h ⊢; omega
    simp only [Array.toList_setIfInBounds, splice, List.length_cons]
    rw [show off + (j + 1) = off + j + 1 by omega, List.take_succ_eq_append_getElem (by simpa using hlt), List.getElem_set_self, List.take_set_of_le (by omega)]
    simp only [List.append_assoc, List.singleton_append, List.cons_append]
    congr 2
    rw [show off + j + 1 + vs.length = off + j + (vs.length + 1) by omega, List.drop_set_of_lt (by omega)]
    simp
theorem dens_splice {ρ : Rho} {θ : Th} {cs vs : List SV} {zs us : List Value} (h : dens ρ θ cs = some zs) (h2 : dens ρ θ vs = some us) {off : Nat} : dens ρ θ (cs.take off ++ vs ++ cs.drop (off + vs.length)) = some (splice zs off us) := by
  unfold splice
  rw [← dens_len h2] 
  exact dens_append (dens_append (dens_take _ h) h2) (dens_drop _ h)
theorem splice_len {zs us : List Value} {off : Nat} (h : off + us.length ≤ zs.length) : (splice zs off us).length = zs.length := by
  unfold splice; simp; omega
theorem splice_mem {zs us : List Value} {off : Nat} {u : Value} (h : u ∈ splice zs off us) : u ∈ zs ∨ u ∈ us := by
  unfold splice at h
  simp only [List.mem_append] at h
  rcases h with (h | h) | h
  · exact .inl (List.mem_of_mem_take h)
  · exact .inr h
  · exact .inl (List.mem_of_mem_drop h)
section
variable {P : Program} {ρ : Rho} {o : Oper} {s : Tr SV} {m : Mem} {nx : Nat} {pc : PC} {a : Act} {w w' : World} {θ : Th}
theorem fillC_yl {t : Nat} (pl : Nat → Option (Nat × Nat)) (hpl : ∀ i o n, placeT P t i = some (o, n) → pl i = some (o, n)) : ∀ {ps : List (Nat × Operand)} {cs : List SV}, Yl (fillC P s t ps cs) fun out => ∀ (θ : Th) (a : Act) (xs : List Operand) (zs : List Value), SlOk ρ s θ a xs → (∀ p ∈ ps, p.2 ∈ xs) → dens ρ θ cs = some zs → (∀ v ∈ zs, v.oneCell' = true) →
    ∃ os : List Value, Instr.fill pl zs.toArray (ps.map fun p => (p.1, a.eval p.2)) = some os.toArray ∧ dens ρ θ out = some os ∧ os.length = zs.length ∧ ∀ v ∈ os, v.oneCell' = true
  | [], cs => Yl.pure cs fun θ a xs zs _ _ h h1 => ⟨zs, by simp [Instr.fill], h, rfl, h1⟩
  | (i, x) :: l, cs => by
    have e0 : fillC P s t ((i, x) :: l) cs = fun K => match placeT P t i with
      | some (o, n) => evO s x fun v => match Nat.beq (lenC (cellsV v) 0) n && allOne (cellsV v) with
        | true => setC cs o (cellsV v) fun cs => fillC P s t l cs K
        | false => false
      | none => false := rfl
    rw [e0]
    split
    · rename_i off n hp
      refine Yl.bind (evO_yl (ρ := ρ)) fun v hv => ?_
      split
      · rename_i hc
        simp only [Bool.and_eq_true, Nat.beq_eq, lenC0] at hc
        refine Yl.bind setC_yl fun cs' hcs' => ?_
        refine Yl.mono (fillC_yl pl hpl (ps := l) (cs := cs')) fun out ih θ a xs zs hsl hx hz h1 => ?_
        have hu := hsl.ev (hx (i, x) (by simp)) hv
        obtain ⟨g1, g2⟩ := cellsV_ok hc.2 hu
        have hlz := dens_len hz
        have hlu := dens_len g1
        have hcs2 : dens ρ θ cs' = some (splice zs off (a.eval x).cells.toList) := by rw [hcs'.2]; exact dens_splice hz g1
        have hfit : off + (a.eval x).cells.toList.length ≤ zs.length := by rw [hlu, hlz]; exact hcs'.1
        obtain ⟨os, q1, q2, q3, q4⟩ := ih θ a xs _ hsl (fun p hp => hx p (by simp [hp])) hcs2 fun u hu => (splice_mem hu).elim (h1 u) (g2 u)
        refine ⟨os, ?_, q2, by rw [q3, splice_len hfit], q4⟩
        simp only [List.map_cons, Instr.fill, hpl _ _ _ hp]
        have hsz : (a.eval x).cells.size = n := by rw [← Array.length_toList, hlu, hc.1]
        have hb : (decide ((a.eval x).cells.size ≠ n) || decide (off + (a.eval x).cells.size > zs.toArray.size)) = false := by
          rw [Array.length_toList] at hfit
          simp [hsz]; omega
        rw [hb]
        simp only [Bool.false_eq_true, if_false]
        rw [← q1]
        congr 1
        have hf := fold_set (a.eval x).cells.toList off 0 zs.toArray (by simpa using hfit)
        simp only [Nat.add_zero] at hf
        refine Array.ext' ?_
        rw [List.toList_toArray] at hf
        rw [← hf]
        simp only [← Array.foldl_toList, Array.toList_zipIdx]
      · exact Yl.no
    · exact Yl.no
theorem allTy_ok : ∀ {F : List Field}, allTy P (F.map fun f => (f.offset, f.type)) = true → ∃ pl, F.mapM (fun f => (P.info? f.type).map fun i => (f.offset, i.size)) = some pl ∧ ∀ (i : Nat) (fd : Field) (y : Ty), F[i]? = some fd → mkTy P fd.type = some y → pl[i]? = some (fd.offset, y.sz)
  | [], h => ⟨[], rfl, fun i fd y h => by simp at h⟩
  | f :: F, h => by
    simp only [List.map_cons, allTy] at h
    split at h
    · rename_i y hy
      obtain ⟨pl, h1, h2⟩ := allTy_ok h
      obtain ⟨ok⟩ := mkTy_ok hy
      refine ⟨(f.offset, y.sz) :: pl, ?_, fun i fd y' e1 e2 => ?_⟩
      · simp [List.mapM_cons, h1, ok.hi, ok.sz]
      · cases i with
        | zero => simp at e1; subst e1; rw [hy] at e2; cases e2; rfl
        | succ i => simpa using h2 i fd y' (by simpa using e1) e2
    · cases h
theorem parts_eq (a : Act) (parts : Array (Nat × Operand)) : (parts.map fun (i, x) => (i, a.eval x)).toList = parts.toList.map fun p => (p.1, a.eval p.2) := by
  rw [Array.toList_map]
theorem opBuild_yl {t : Nat} {parts : Array (Nat × Operand)} (hs : Sat ρ pc) (ho : o.op = .build t parts) : Yl (fun K => opBuild P s m nx pc t parts.toList fun v m nx pc ft => K ⟨v, m, nx, pc, ft⟩) (OpOk P ρ o s m nx) := by
  have hop : o.op.operands.toList = parts.toList.map (·.2) := by simp [ho, Op.operands]
  unfold opBuild
  split
  · rename_i y hy
    obtain ⟨ok⟩ := mkTy_ok hy
    have fin : ∀ {out : List SV} {pl : Nat → Option (Nat × Nat)}, (∀ a : Act, P.built t (parts.map fun (i, x) => (i, a.eval x)).toList = Instr.fill pl ok.z.cells (parts.toList.map fun p => (p.1, a.eval p.2))) →
        (∀ (θ : Th) (a : Act) (xs : List Operand) (zs : List Value), SlOk ρ s θ a xs → (∀ p ∈ parts.toList, p.2 ∈ xs) → dens ρ θ y.zero = some zs → (∀ v ∈ zs, v.oneCell' = true) →
          ∃ os : List Value, Instr.fill pl zs.toArray (parts.toList.map fun p => (p.1, a.eval p.2)) = some os.toArray ∧ dens ρ θ out = some os ∧ os.length = zs.length ∧ ∀ v ∈ os, v.oneCell' = true) → OpOk P ρ o s m nx ⟨.ag out, m, nx, pc, .n⟩ := by
      intro out pl hb hout
      refine OpOk.pure hs fun a w θ hsl => ?_
      rw [hop] at hsl
      obtain ⟨h1, h2, h3⟩ := cstL_ok (ρ := ρ) (θ := θ) ok.zs
      obtain ⟨os, q1, q2, _⟩ := hout θ a _ _ hsl (fun p hp => List.mem_map.2 ⟨p, hp, rfl⟩) h1 h2
      refine ⟨.agg os.toArray, ?_, by simp [den, q2]⟩
      have q3 := hb a
      rw [show ok.z.cells = ok.z.cells.toList.toArray from by simp, q1] at q3
      simp only [Runs, execOp, ho, Sem.run_bind, run_build w t _ _ q3, Result.andThen_ok]
      rfl
    split
    · rename_i fs hk
      split
      · rename_i hall
        have hk0 := ok.kind
        rw [hk] at hk0
        obtain ⟨F, hF, hfs⟩ := tk_struct hk0
        have hd := ok.hd
        rw [hF] at hd
        rw [hfs] at hall
        have hkT : kindT P t = .struct fs := by simp [kindT, hy, hk]
        obtain ⟨pl, g1, g2⟩ := allTy_ok hall
        refine Yl.map (fun cs => (⟨.ag cs, m, nx, pc, .n⟩ : O5)) (fillC_yl (ρ := ρ) (t := t) (pl.toArray[·]?) (fun i off n h => ?_)) fun out hout => fin (fun a => ?_) hout
        · simp only [placeT, hkT] at h
          split at h
          · rename_i o' y' hf
            cases h
            unfold fieldT at hf
            rw [hkT] at hf
            simp only at hf
            split at hf
            · rename_i o2 ft hn
              split at hf
              · rename_i y2 hy2
                cases hf
                rw [nthF_get, hfs, List.getElem?_map] at hn
                cases hFi : F.toList[i]? with
                | none => rw [hFi] at hn; cases hn
                | some fd =>
                  rw [hFi] at hn
                  simp at hn
                  have := g2 i fd y' hFi (by rw [hn.2]; exact hy2)
                  simp [this, hn.1]
              · cases hf
            · cases hf
          · cases h
        · unfold Program.built
          rw [ok.hi, hd]
          simp only [ok.hz, g1, parts_eq]
      · exact Yl.no
    · rename_i n e hk
      have hk0 := ok.kind
      rw [hk] at hk0
      have hd := ok.hd
      rw [tk_arr hk0] at hd
      have hkT : kindT P t = .arr n e := by simp [kindT, hy, hk]
      split
      · rename_i ye hye
        obtain ⟨oke⟩ := mkTy_ok hye
        refine Yl.map (fun cs => (⟨.ag cs, m, nx, pc, .n⟩ : O5)) (fillC_yl (ρ := ρ) (t := t) (fun i => some (i * ye.sz, ye.sz)) (fun i off n h => ?_)) fun out hout => fin (fun a => ?_) hout
        · simp only [placeT, hkT, hye] at h
          cases h; rfl
        · unfold Program.built
          rw [ok.hi, hd]
          simp only [ok.hz, oke.hi, parts_eq, oke.sz]
      · exact Yl.no
    · exact Yl.no
  · exact Yl.no
/-- n times -/
def repV (l : List Value) : Nat → List Value
  | 0 => []
  | n + 1 => l ++ repV l n
theorem repV_range (z : Array Value) : ∀ n, ((Array.range (n * z.size)).map (z[· % z.size]!)).toList = repV z.toList n
  | 0 => by simp [repV, Array.range_zero']
  | n + 1 => by
    have ih := repV_range z n
    simp only [Array.toList_map, Array.toList_range] at ih ⊢
    rw [show (n + 1) * z.size = z.size + n * z.size by rw [Nat.add_mul]; omega, List.range_add, List.map_append, List.map_map]
    simp only [repV]
    rw [← ih]
    congr 1
    · apply List.ext_getElem
      · simp
      · intro i h1 h2
        have hi : i < z.size := by simpa using h2
        simp [Nat.mod_eq_of_lt hi, hi]
    · apply List.map_congr_left
      intro i _
      simp
theorem repC_den {cs : List SV} {zs : List Value} (h : dens ρ θ cs = some zs) : ∀ n, dens ρ θ (repC cs n) = some (repV zs n)
  | 0 => rfl
  | n + 1 => dens_append h (repC_den h n)
theorem repV_mem {l : List Value} {v : Value} : ∀ {n}, v ∈ repV l n → v ∈ l
  | 0, h => by cases h
  | n + 1, h => by
    simp only [repV, List.mem_append] at h
    exact h.elim id repV_mem
theorem opBuildSlice_yl {t n : Nat} {parts : Array (Nat × Operand)} (hs : Sat ρ pc) (ho : o.op = .buildSlice t n parts) : Yl (fun K => opBuildSlice P s m nx pc t n parts.toList fun v m nx pc ft => K ⟨v, m, nx, pc, ft⟩) (OpOk P ρ o s m nx) := by
  have hop : o.op.operands.toList = parts.toList.map (·.2) := by simp [ho, Op.operands]
  unfold opBuildSlice
  split
  · rename_i e hk
    obtain ⟨d, hd, hk'⟩ := kindT_ok hk (by simp)
    rw [tk_slice hk'] at hd
    split
    · rename_i y hy
      obtain ⟨ok⟩ := mkTy_ok hy
      split
      · rename_i hc
        simp only [Bool.and_eq_true, Nat.ble_eq] at hc
        refine Yl.bind (fillC_yl (ρ := ρ) (t := t) (fun i => some (i * y.sz, y.sz)) (fun i off n h => by
          simp only [placeT, hk, hy] at h; cases h; rfl)) fun out hout => ?_
        refine Yl.bind2 newB_yl fun m' n' hm => ?_
        obtain ⟨e1, hm⟩ := hm
        simp only at e1 hm
        subst e1
        refine Yl.pure (⟨.sl nx 0 n (.k n), m', nx + 1, pc, .w [nx]⟩ : O5) (OpOk.new1 hs hm fun a w θ hsl hn => ?_)
        rw [hop] at hsl
        obtain ⟨h1, h2, h3⟩ := cstL_ok (ρ := ρ) (θ := θ) ok.zs
        obtain ⟨os, q1, q2, q3, q4⟩ := hout θ a _ _ hsl (fun p hp => List.mem_map.2 ⟨p, hp, rfl⟩) (repC_den h1 n) fun v hv => h2 v (repV_mem hv)
        have hb := holds_new (ρ := ρ) (w0 := w) (ty := e) (rest := []) (ex := true) hn q2 q4 fun _ => rfl
        rw [List.append_nil] at hb
        refine ⟨.slice (some ⟨w.heap.size, 0, none⟩) n n, w.alloc (.cells os.toArray e), w.heap.size, _, ?_, Ext.alloc _ _ _, Nat.le_refl _, hb, by simp [den, updT, Cap.den]⟩
        have hzl : ok.z.cells.size = y.sz := by rw [ok.zl, ok.sz]
        have e2 : (repV ok.z.cells.toList n).toArray = (Array.range (n * ok.i.size)).map (ok.z.cells[· % ok.z.cells.size]!) := by
          apply Array.ext'
          rw [← ok.zl, repV_range]
        rw [e2] at q1
        by_cases h0 : n = 0
        · subst h0
          have : (Array.range (0 * ok.i.size)).map (ok.z.cells[· % ok.z.cells.size]!) = #[] := by simp [Array.range_zero']
          rw [this] at q1
          simp only [execOp, ho, Instr.buildSlice, Sem.run_bind, run_underlying hd, Result.andThen_ok]
          simp [sizeOf, typeInfo, ok.hi, newRow, Array.range_zero', parts_eq, ← ok.sz, q1]
        · have hpos : ¬ n * ok.i.size = 0 := by
            rw [← ok.sz]; exact Nat.mul_ne_zero h0 (by omega)
          have hsm : ¬ n * ok.i.size > 2 ^ 24 := by rw [← ok.sz]; have : n * y.sz ≤ 16777216 := hc.2; omega
          have := run_buildSlice (P := P) w t e n (parts.map fun (i, x) => (i, a.eval x)) os.toArray ok.i ok.z hd ok.hi ok.hz hsm hpos (by rw [parts_eq, ← ok.sz]; rw [← ok.sz] at q1; exact q1)
          simp only [execOp, ho, Sem.run_bind, this, Result.andThen_ok]
          rfl
      · exact Yl.no
    · exact Yl.no
  · exact Yl.no
theorem opMakeSlice_yl {t : Nat} {x y : Operand} (hs : Sat ρ pc) (ho : o.op = .makeSlice t x y) : Yl (fun K => opMakeSlice P s m nx pc t x y fun v m nx pc ft => K ⟨v, m, nx, pc, ft⟩) (OpOk P ρ o s m nx) := by
  have hop : o.op.operands.toList = [x, y] := by simp [ho, Op.operands]
  unfold opMakeSlice
  split
  · rename_i e hk
    obtain ⟨d, hd, hk'⟩ := kindT_ok hk (by simp)
    rw [tk_slice hk'] at hd
    split
    · rename_i ye hy
      obtain ⟨ok⟩ := mkTy_ok hy
      refine Yl.bind (evO_yl (ρ := ρ)) fun v hv => Yl.bind (evO_yl (ρ := ρ)) fun u hu => ?_
      split
      · rename_i kl l kc c
        split
        · rename_i hc
          simp only [Bool.and_eq_true, Nat.ble_eq] at hc
          refine Yl.bind2 newB_yl fun m' n' hm => ?_
          obtain ⟨e1, hm⟩ := hm
          simp only at e1 hm
          subst e1
          refine Yl.pure (⟨.sl nx 0 l (.k c), m', nx + 1, pc, .w [nx]⟩ : O5) (OpOk.new1 hs hm fun a w θ hsl hn => ?_)
          rw [hop] at hsl
          have hx : a.eval x = .int kl l := (Option.some.inj (hsl.ev (by simp) hv)).symm
          have hy : a.eval y = .int kc c := (Option.some.inj (hsl.ev (by simp) hu)).symm
          obtain ⟨h1, h2, h3⟩ := cstL_ok (ρ := ρ) (θ := θ) ok.zs
          have hb := holds_new (ρ := ρ) (w0 := w) (ty := e) (rest := []) (ex := true) hn (repC_den h1 c) (fun v hv => h2 v (repV_mem hv)) fun _ => rfl
          rw [List.append_nil] at hb
          have e2 : (repV ok.z.cells.toList c).toArray = madeCells ok.z.cells (c * ok.i.size) := by
            apply Array.ext'
            show _ = ((Array.range (c * ok.i.size)).map (ok.z.cells[· % ok.z.cells.size]!)).toList
            rw [← ok.zl, repV_range]
          rw [e2] at hb
          refine ⟨.slice (some ⟨w.heap.size, 0, none⟩) l c, w.alloc (.cells (madeCells ok.z.cells (c * ok.i.size)) e), w.heap.size, _, ?_, Ext.alloc _ _ _, Nat.le_refl _, hb, by simp [den, updT, Cap.den]⟩
          have hbig : (ye.by' + 1) * c ≤ 16777216 := hc.2
          have hb1 : ye.by' * c ≤ 16777216 := Nat.le_trans (Nat.mul_le_mul_right _ (Nat.le_succ _)) hbig
          have hb2 : c ≤ 16777216 := Nat.le_trans (by rw [Nat.add_mul]; omega) hbig
          have hb3 : (ok.i.bytes : Int) * (c : Int) ≤ 281474976710656 := by
            rw [← ok.by']
            have : ((ye.by' * c : Nat) : Int) ≤ 281474976710656 := by omega
            simpa using this
          have := run_make (P := P) w t e ok.i ok.z hd ok.hi ok.hz kl kc l c (by omega) (by have := hc.1.1; omega) hb3 (by omega)
          simp only [Int.toNat_natCast] at this
          simp only [execOp, ho, hx, hy, Sem.run_bind, this, Result.andThen_ok]
          rfl
        · exact Yl.no
      · exact Yl.no
    · exact Yl.no
  · exact Yl.no
end
end X
end Go.Proofs.YtdbchpoaoghgpaaGreatDoor

set_option linter.unusedSimpArgs false
set_option linter.unusedVariables false
namespace Go.Proofs.YtdbchpoaoghgpaaGreatDoor
namespace X
open Go.RowKit B

section
variable {P : Program} {ρ : Rho} {o : Oper} {s : Tr SV} {m : Mem} {nx : Nat} {pc : PC} {a : Act} {w w' : World} {θ : Th}
/-- an operation that turns a block -/
theorem OpOk.turn {v : SV} {t0 : Nat} {ts : List Nat} {b0 b : Blk} {m' : Mem} (hs : Sat ρ pc) (h0 : t0 ∈ ts) (hg : m.get t0 = some b0) (hm : ∀ t, m'.get t = if t = t0 then some b else m.get t)
    (h : ∀ (a : Act) (w : World) (θ : Th), SlOk ρ s θ a o.op.operands.toList → (∀ t ∈ ts, ∀ b, m.get t = some b → HoldsB ρ θ w t b) → ∃ u w' g c, ((execOp a.eval o).run P w = .ok (.value u) w' ∨ ((execOp a.eval o).run P w = .ok .skip w' ∧ u = undef)) ∧ θ t0 = some (g, c) ∧ Ext (fun k => k = g) w w' ∧ HoldsB ρ θ w' t0 b ∧ den ρ θ v = some u) :
    OpOk P ρ o s m nx ⟨v, m', nx, pc, .w ts⟩ where
  pc := hs
  le := Nat.le_refl _
  off := fun t ht => by
    have : t ≠ t0 := fun e => ht (by simp [tc, e, h0])
    rw [hm, if_neg this]
  rd := fun _ h => by cases h
  new := fun t h1 h2 => by
    have : t ≠ t0 := fun e => by rw [e, hg] at h1; cases h1
    rw [hm, if_neg this] at h2; exact absurd h1 h2
  run := fun a w θ h1 h2 _ => by
    have tcs : ∀ t, t ∈ ts → tc (.w ts) t := fun t ht => ht
    obtain ⟨u, w', g, c, k1, k2, k3, k4, k5⟩ := h a w θ h1 fun t ht b hb => h2.holds t b (by rw [subM_in (tcs t ht)]; exact hb)
    have hR0 : subM (.w ts) m t0 ≠ none := by rw [subM_in (tcs t0 h0), hg]; simp
    have sp : SP ρ nx nx θ (subM (.w ts) m) w θ (subM (.w ts) m') w' := SP.turn h2 hR0 k2 k3 k4 fun t b' hb => by
      obtain ⟨q1, q2⟩ := subM_some hb
      rw [hm] at q2
      by_cases e : t = t0
      · rw [if_pos e] at q2; exact .inl ⟨e, (Option.some.inj q2).symm⟩
      · rw [if_neg e] at q2; exact .inr ⟨e, by rw [subM_in q1]; exact q2⟩
    rcases k1 with k1 | ⟨k1, k6⟩
    · exact wp_val k1 ⟨u, θ, rfl, sp, k5⟩
    · subst k6; exact wp_skip' k1 ⟨_, θ, rfl, sp, k5⟩
theorem OpOk.reads {v : SV} {ts : List Nat} (hs : Sat ρ pc) (h : ∀ (a : Act) (w : World) (θ : Th), SlOk ρ s θ a o.op.operands.toList → (∀ t ∈ ts, ∀ b, m.get t = some b → HoldsB ρ θ w t b) → ∃ u, Runs P a o w u ∧ den ρ θ v = some u) : OpOk P ρ o s m nx ⟨v, m, nx, pc, .w ts⟩ where
  pc := hs
  le := Nat.le_refl _
  off := fun _ _ => rfl
  rd := fun _ h => by cases h
  new := fun t h1 h2 => absurd h1 h2
  run := fun a w θ h1 h2 _ => by
    have tcs : ∀ t, t ∈ ts → tc (.w ts) t := fun t ht => ht
    obtain ⟨u, h3, h4⟩ := h a w θ h1 fun t ht b hb => h2.holds t b (by rw [subM_in (tcs t ht)]; exact hb)
    exact wp_val h3 ⟨u, θ, rfl, SP.refl h2, h4⟩
/-- cells stored into a block -/
theorem HoldsB.store {t ty off : Nat} {cs vs : List SV} {us : List Value} {ex : Bool} (h : HoldsB ρ θ w t (.ce ty cs ex)) (hu : dens ρ θ vs = some us) (h1 : ∀ u ∈ us, u.oneCell' = true) (hle : off + vs.length ≤ cs.length) :
    ∃ g c w', θ t = some (g, c) ∧ (∀ P, (storeCells ⟨g, off, none⟩ us).run P w = .ok () w') ∧ Ext (fun k => k = g) w w' ∧ HoldsB ρ θ w' t (.ce ty (cs.take off ++ vs ++ cs.drop (off + vs.length)) ex) := by
  obtain ⟨g, c, zs, arr, rest, e1, e2, e3, e4, e5, e6, e7⟩ := h
  have hlz := dens_len e4
  have hlu := dens_len hu
  have hsz : arr.size = zs.length + rest.length := by rw [← Array.length_toList, e6]; simp
  have hfit : off + us.length ≤ zs.length := by omega
  have hr := fun P => run_storeCells_at (P := P) g off ty us 0 arr w e2 (by omega) h1
  simp only [Nat.add_zero] at hr
  have harr : arr.toList.take off ++ us ++ arr.toList.drop (off + us.length) = splice zs off us ++ rest := by
    rw [e6]
    exact splice_head hfit
  rw [harr] at hr
  refine ⟨g, c, _, e1, hr, B.setRow_ext w g _, g, c, splice zs off us, (splice zs off us ++ rest).toArray, rest, e1, setRow_heap w g arr _ ty _ e2, ?_, dens_splice e4 hu, fun v hv => (splice_mem hv).elim (e5 v) (h1 v), by simp, e7⟩
  rw [← e3, hsz]
  simp [splice_len hfit]
theorem opStore_yl {t : Nat} {x y : Operand} (hs : Sat ρ pc) (ho : o.op = .store t x y) : Yl (fun K => opStore P s m nx pc t x y fun v m nx pc ft => K ⟨v, m, nx, pc, ft⟩) (OpOk P ρ o s m nx) := by
  have hop : o.op.operands.toList = [x, y] := by simp [ho, Op.operands]
  unfold opStore
  split
  · rename_i ty hty
    obtain ⟨ok⟩ := mkTy_ok hty
    refine Yl.bind (evO_yl (ρ := ρ)) fun v hv => Yl.bind (evO_yl (ρ := ρ)) fun u hu => ?_
    split
    · rename_i g off
      split
      · rename_i e cs ex hg
        split
        · rename_i hc
          simp only [Bool.and_eq_true, Nat.beq_eq, lenC0] at hc
          refine Yl.bind setC_yl fun cs' hcs => ?_
          refine Yl.map (fun m' => (⟨.un, m', nx, pc, .w [g]⟩ : O5)) set_yl fun m' hm => OpOk.turn hs (List.mem_singleton.2 rfl) hg hm fun a w θ hsl hb => ?_
          rw [hop] at hsl
          obtain ⟨c1, c2⟩ := cellsV_ok hc.2 (hsl.ev (by simp) hu)
          obtain ⟨q, c, w', k1, k2, k3, k4⟩ := (hb g (by simp) _ hg).store c1 c2 hcs.1
          have hx := hsl.ev (by simp) hv
          simp only [den, k1, Option.map_some, Option.some.injEq] at hx
          refine ⟨undef, w', q, c, .inr ⟨?_, rfl⟩, k1, k3, by rw [hcs.2]; exact k4, rfl⟩
          have hsz : (a.eval y).cells.size = ty.sz := by rw [← Array.length_toList, dens_len c1, hc.1]
          simp [execOp, ho, ← hx, Instr.storeAt, Instr.sureAddr, storeVar, ok.size, hsz, k2 P]
        · exact Yl.no
      · exact Yl.no
    · exact Yl.no
  · exact Yl.no

/-! ### Slices -/
/-- a bound as an operand tells it -/
def EvBOk (ρ : Rho) (s : Tr SV) (x : Option Operand) (e : Option Lin) : Prop := match x with
  | none => e = none
  | some y => ∃ l, e = some l ∧ ∀ (θ : Th) (a : Act), (∀ k ∈ rdO y, ∀ sv, s.get k = some sv → den ρ θ sv = some (get a k)) → ∃ k, a.eval y = .int k (l.den ρ)
theorem evB_yl {x : Option Operand} : Yl (evB s x) (EvBOk ρ s x) := by
  unfold evB
  split
  · exact Yl.pure _ rfl
  · rename_i y
    refine Yl.bind (evO_yl (ρ := ρ)) fun v hv => ?_
    split
    · rename_i k n
      exact Yl.pure _ ⟨_, rfl, fun θ a h => ⟨k, by have := Option.some.inj (hv θ a h); rw [const_den]; exact this.symm⟩⟩
    · rename_i k e
      exact Yl.pure _ ⟨_, rfl, fun θ a h => ⟨k, by have := Option.some.inj (hv θ a h); exact this.symm⟩⟩
    · exact Yl.no
theorem natL_yl {x : Option Lin} {d : Nat} : Yl (natL x d) fun n => (x = none ∧ n = d) ∨ ∃ l, x = some l ∧ l.den ρ = (n : Int) := by
  unfold natL
  split
  · exact Yl.pure _ (.inl ⟨rfl, rfl⟩)
  · rename_i n
    exact Yl.pure _ (.inr ⟨_, rfl, by rw [const_den]; rfl⟩)
  · exact Yl.no
/-- a bound as a value -/
def BdOk (x : Option Value) (d r : Nat) : Prop := (x = none ∧ r = d) ∨ ∃ k, x = some (.int k (r : Int))
theorem bd_of {x : Option Operand} {e : Option Lin} {d r : Nat} (h : EvBOk ρ s x e) (hr : (e = none ∧ r = d) ∨ ∃ l, e = some l ∧ l.den ρ = (r : Int)) {xs : List Operand} (hsl : SlOk ρ s θ a xs) (hx : ∀ y, x = some y → y ∈ xs) : BdOk (x.map a.eval) d r := by
  cases x with
  | none =>
    rcases hr with ⟨_, hr⟩ | ⟨l, h1, _⟩
    · exact .inl ⟨rfl, hr⟩
    · have : e = none := h
      rw [this] at h1; cases h1
  | some y =>
    obtain ⟨l, h1, h2⟩ := h
    rcases hr with ⟨h3, _⟩ | ⟨l', h3, h4⟩
    · rw [h1] at h3; cases h3
    · rw [h1] at h3; cases h3
      obtain ⟨k, hk⟩ := h2 θ a fun k hk sv hsv => hsl k (by simp only [rdOs, List.mem_flatMap]; exact ⟨y, hx y rfl, hk⟩) sv hsv
      exact .inr ⟨k, by rw [Option.map_some, hk, h4]⟩
theorem run_bound {k : IntKind} {i y : Nat} {code : BoundsCode} (h : i ≤ y) : (Instr.sliceBound (.int k (i : Int)) y code).run P w = .ok i w := by
  have h0 : (0 : Int) ≤ (i : Int) := by omega
  have h1 : (i : Int) ≤ (y : Int) := by omega
  simp [Instr.sliceBound, asIntOf, h]
theorem run_bounds {isS : Bool} {len cap l h : Nat} {lo hi : Option Value} (hlo : BdOk lo 0 l) (hhi : BdOk hi len h) (h1 : l ≤ h) (h2 : h ≤ cap) : (Instr.sliceBounds isS len cap lo hi none).run P w = .ok (l, h, cap) w := by
  unfold Instr.sliceBounds
  rcases hlo with ⟨rfl, rfl⟩ | ⟨k, rfl⟩ <;> rcases hhi with ⟨rfl, rfl⟩ | ⟨j, rfl⟩ <;> simp [run_bound, h1, h2]
theorem run_bounds3 {isS : Bool} {len cap l h c : Nat} {k j : IntKind} {lo : Option Value} (hlo : BdOk lo 0 l) (h1 : l ≤ h) (h2 : h ≤ c) (h3 : c ≤ cap) : (Instr.sliceBounds isS len cap lo (some (.int k (h : Int))) (some (.int j (c : Int)))).run P w = .ok (l, h, c) w := by
  unfold Instr.sliceBounds
  rcases hlo with ⟨rfl, rfl⟩ | ⟨i, rfl⟩ <;> simp [run_bound, h1, h2, h3]
theorem slStr_yl (hs : Sat ρ pc) {u : Str} {l h : Option Lin} : Yl (slStr pc u l h) fun v => ∃ (i j : Nat), ((l = none ∧ i = 0) ∨ ∃ e, l = some e ∧ e.den ρ = (i : Int)) ∧ ((h = none ∧ j = (denS ρ u).length) ∨ ∃ e, h = some e ∧ e.den ρ = (j : Int)) ∧ i ≤ j ∧ j ≤ (denS ρ u).length ∧ ∀ θ, den ρ θ v = some (.string (bstr (((denS ρ u).drop i).take (j - i)))) := by
  unfold slStr
  split
  · rename_i n hn
    have hn : lenN u 0 = some n := by
      unfold lenC' at hn
      split at hn
      · exact hn
      · cases hn
    have hn := lenN_den (ρ := ρ) hn
    rw [Nat.zero_add] at hn
    refine Yl.bind (natL_yl (ρ := ρ)) fun i hi => Yl.bind (natL_yl (ρ := ρ)) fun j hj => ?_
    split
    · rename_i hc
      simp only [Bool.and_eq_true, Nat.ble_eq] at hc
      refine Yl.bind2 (cutN_yl (ρ := ρ)) fun p r hp => ?_
      simp only at hp
      refine Yl.bind2 (cutN_yl (ρ := ρ)) fun q r' hq => ?_
      simp only at hq
      refine Yl.pure (SV.s q) ⟨i, j, hi, by rw [← hn]; exact hj, hc.1, by omega, fun θ => ?_⟩
      have e1 : (denS ρ u).drop i = denS ρ r := by rw [hp.1, denS_app, ← hp.2]; simp
      have e2 : (denS ρ r).take (j - i) = denS ρ q := by
        have : (denS ρ q).length = j - i := hq.2
        rw [hq.1, denS_app, ← this]; simp
      simp only [den, e1, e2]
    · exact Yl.no
  · refine Yl.bind2 (cutM_yl hs) fun p r hp => ?_
    simp only at hp
    have e1 : (denS ρ u).drop (denS ρ p).length = denS ρ r := by rw [hp.1, denS_app]; simp
    have el : (denS ρ u).length = (denS ρ p).length + (denS ρ r).length := by rw [hp.1, denS_app]; simp
    have hi : (l = none ∧ (denS ρ p).length = 0) ∨ ∃ e, l = some e ∧ e.den ρ = ((denS ρ p).length : Int) := by
      cases l with
      | none => left; have := hp.2; rw [const_den] at this; exact ⟨rfl, by omega⟩
      | some e => exact .inr ⟨e, rfl, hp.2.symm⟩
    split
    · refine Yl.pure (SV.s r) ⟨(denS ρ p).length, (denS ρ u).length, hi, .inl ⟨rfl, rfl⟩, by omega, Nat.le_refl _, fun θ => ?_⟩
      have e3 : (denS ρ u).length - (denS ρ p).length = (denS ρ r).length := by omega
      simp only [den, e1, e3, List.take_length]
    · rename_i e _
      refine Yl.bind2 (cutM_yl hs) fun q r' hq => ?_
      simp only at hq
      have h2 := hq.2
      rw [sub_den, lenS_den] at h2
      have er : (denS ρ r).length = (denS ρ q).length + (denS ρ r').length := by rw [hq.1, denS_app]; simp
      refine Yl.pure (SV.s q) ⟨(denS ρ p).length, (denS ρ p).length + (denS ρ q).length, hi, .inr ⟨e, rfl, by omega⟩, by omega, by omega, fun θ => ?_⟩
      have e2 : (denS ρ r).take (denS ρ q).length = denS ρ q := by rw [hq.1, denS_app]; simp
      rw [e1, Nat.add_sub_cancel_left, e2]
      rfl
theorem addr_add (g off k : Nat) : (⟨g, off, none⟩ : Addr).add k = ⟨g, off + k, none⟩ := by
  unfold Addr.add; split
  · rename_i h; simp [h]
  · rfl
/-- a slice's part -/
def partV (g off sz l h c : Nat) : Value := .slice (some (if c = l then ⟨g, off, none⟩ else ⟨g, off + l * sz, none⟩)) (h - l) (c - l)
theorem slAt_yl {g off sz l h c : Nat} : Yl (slAt g off sz l h c) fun v => ∀ (θ : Th) (q : Nat × Nat), θ g = some q → den ρ θ v = some (partV q.1 off sz l h c) := by
  unfold slAt
  split
  · rename_i hc
    have hc := Nat.eq_of_beq_eq_true hc
    subst hc
    refine Yl.map _ frn_yl fun d hd θ q hq => ?_
    simp only [den, hq, Option.map_some, Cap.den, partV, if_true, hd, Nat.sub_self]
    rfl
  · rename_i hc
    have hc := Nat.ne_of_beq_eq_false hc
    refine Yl.bind frn_yl fun o ho => Yl.bind frn_yl fun d hd => Yl.map _ frn_yl fun c' hc' θ q hq => ?_
    simp only [den, hq, Option.map_some, Cap.den, partV, if_neg hc, ho, hd, hc']
    rfl
theorem known_ok {g : Nat} (h : ∀ b, m.get g = some b → HoldsB ρ θ w g b) {q : Nat × Nat} (hq : θ g = some q) : known m g ≤ q.2 := by
  unfold known
  split
  · rename_i ty cs ex hg
    obtain ⟨g', c, vs, e1, e2, _, _, e5⟩ := (h _ hg).cells
    rw [hq] at e1; cases e1
    rw [lenC0, ← dens_len e2]; exact e5
  · exact Nat.zero_le _
theorem roomC_ok {g off n : Nat} {cap : Cap} (hr : roomC m g off cap n = true) (h : ∀ b, m.get g = some b → HoldsB ρ θ w g b) {q : Nat × Nat} (hq : θ g = some q) : n ≤ cap.den q.2 off := by
  unfold roomC at hr
  split at hr
  · exact Nat.le_of_ble_eq_true hr
  · rename_i sz
    split at hr
    · exact Nat.zero_le _
    · rename_i n
      simp only [Bool.and_eq_true, Nat.ble_eq] at hr
      have h1 : off + (n + 1) * sz ≤ known m g := hr.2
      have h2 := known_ok h hq
      simp only [Cap.den]
      rw [Nat.le_div_iff_mul_le (by omega)]
      show (n + 1) * sz ≤ _
      omega
theorem slSl_yl {g off n sz : Nat} {cap : Cap} {l h c : Option Lin} : Yl (slSl m g off n cap sz l h c) fun v => ∃ i j : Nat, ((l = none ∧ i = 0) ∨ ∃ e, l = some e ∧ e.den ρ = (i : Int)) ∧ i ≤ j ∧
    ((c = none ∧ ((h = none ∧ j = n) ∨ ∃ e, h = some e ∧ e.den ρ = (j : Int)) ∧ ∀ (θ : Th) (w : World) (q : Nat × Nat), (∀ b, m.get g = some b → HoldsB ρ θ w g b) → θ g = some q → j ≤ cap.den q.2 off ∧ den ρ θ v = some (partV q.1 off sz i j (cap.den q.2 off))) ∨
     (∃ (k : Nat) (e e' : Lin), h = some e ∧ e.den ρ = (j : Int) ∧ c = some e' ∧ e'.den ρ = (k : Int) ∧ j ≤ k ∧ ∀ (θ : Th) (w : World) (q : Nat × Nat), (∀ b, m.get g = some b → HoldsB ρ θ w g b) → θ g = some q → k ≤ cap.den q.2 off ∧ den ρ θ v = some (partV q.1 off sz i j k))) := by
  unfold slSl
  refine Yl.bind (natL_yl (ρ := ρ)) fun i hi => ?_
  split
  · rename_i e'
    split
    · rename_i e
      refine Yl.bind (natL_yl (ρ := ρ)) fun j hj => Yl.bind (natL_yl (ρ := ρ)) fun k hk => ?_
      split
      · rename_i hc
        simp only [Bool.and_eq_true, Nat.ble_eq] at hc
        obtain ⟨e1, h1, h2⟩ : ∃ x, some e = some x ∧ x.den ρ = (j : Int) := hj.resolve_left (by simp)
        obtain ⟨e2, h3, h4⟩ : ∃ x, some e' = some x ∧ x.den ρ = (k : Int) := hk.resolve_left (by simp)
        cases h1; cases h3
        refine Yl.mono (slAt_yl (ρ := ρ)) fun v hv => ⟨i, j, hi, hc.1.1, .inr ⟨k, e, e', rfl, h2, rfl, h4, hc.1.2, fun θ w q hb hq => ⟨roomC_ok hc.2 hb hq, hv θ q hq⟩⟩⟩
      · exact Yl.no
    · exact Yl.no
  · refine Yl.bind (natL_yl (ρ := ρ)) fun j hj => ?_
    split
    · rename_i hc
      simp only [Bool.and_eq_true, Nat.ble_eq] at hc
      split
      · rename_i k
        refine Yl.mono (slAt_yl (ρ := ρ)) fun v hv => ⟨i, j, hi, hc.1, .inl ⟨rfl, hj, fun θ w q hb hq => ⟨roomC_ok hc.2 hb hq, hv θ q hq⟩⟩⟩
      · rename_i z
        split
        · rename_i h0
          have h0 := Nat.eq_of_beq_eq_true h0
          subst h0
          refine Yl.pure _ ⟨0, j, hi, hc.1, .inl ⟨rfl, hj, fun θ w q hb hq => ⟨roomC_ok hc.2 hb hq, ?_⟩⟩⟩
          simp [den, hq, partV, Cap.den]
        · split
          · rename_i h1
            simp only [Bool.and_eq_true, Nat.beq_eq] at h1
            obtain ⟨rfl, h1⟩ := h1
            refine Yl.bind frn_yl fun o ho => Yl.map _ frn_yl fun d hd => ⟨i, j, hi, hc.1, .inl ⟨rfl, hj, fun θ w q hb hq => ⟨roomC_ok hc.2 hb hq, ?_⟩⟩⟩
            have hlt := roomC_ok h1 hb hq
            have hz : 0 < z := by
              unfold roomC at h1
              simp only [Bool.and_eq_true, Nat.ble_eq] at h1
              exact h1.1
            simp only [Cap.den] at hlt ⊢
            have hne : ¬ (q.2 - off) / z = i := by have : i + 1 ≤ (q.2 - off) / z := hlt; omega
            simp only [den, hq, Option.map_some, partV, Cap.den, if_neg hne, ho, hd]
            have e1 : (q.2 - (off + i * z)) / z = (q.2 - off) / z - i := by
              rw [show q.2 - (off + i * z) = (q.2 - off) - z * i by rw [Nat.mul_comm z i]; omega]
              exact Nat.sub_mul_div _ _ _
            have e2 : Nat.add off (Nat.mul i z) = off + i * z := rfl
            rw [e2, e1]
            rfl
          · exact Yl.no
    · exact Yl.no
theorem opSlice_yl {t : Nat} {x : Operand} {lo hi mx : Option Operand} (hs : Sat ρ pc) (ho : o.op = .slice t x lo hi mx) : Yl (fun K => opSlice P s m nx pc t x lo hi mx fun v m nx pc ft => K ⟨v, m, nx, pc, ft⟩) (OpOk P ρ o s m nx) := by
  have hop : o.op.operands.toList = [x] ++ lo.toList ++ hi.toList ++ mx.toList := by simp [ho, Op.operands]
  have mlo : ∀ y, lo = some y → y ∈ o.op.operands.toList := fun y h => by rw [hop, h]; simp
  have mhi : ∀ y, hi = some y → y ∈ o.op.operands.toList := fun y h => by rw [hop, h]; simp
  have mmx : ∀ y, mx = some y → y ∈ o.op.operands.toList := fun y h => by rw [hop, h]; simp
  have mx0 : x ∈ o.op.operands.toList := by rw [hop]; simp
  unfold opSlice
  refine Yl.bind (evO_yl (ρ := ρ)) fun v hv => Yl.bind (evB_yl (ρ := ρ)) fun l hl => Yl.bind (evB_yl (ρ := ρ)) fun h hh => Yl.bind (evB_yl (ρ := ρ)) fun c hc => ?_
  have mxN : c = none → mx = none := fun e => by
    cases mx with
    | none => rfl
    | some y => obtain ⟨l', h1, _⟩ := hc; rw [e] at h1; cases h1
  split
  · rename_i u hk
    obtain ⟨d, hd, hk'⟩ := kindT_ok hk (by simp)
    rw [tk_str hk'] at hd
    split
    · have hmx := mxN rfl
      subst hmx
      refine Yl.map (fun v => (⟨v, m, nx, pc, .n⟩ : O5)) (slStr_yl (ρ := ρ) hs) fun r hr => OpOk.pure hs fun a w θ hsl => ?_
      obtain ⟨i, j, h1, h2, h3, h4, h5⟩ := hr
      have hx : a.eval x = .string (bstr (denS ρ u)) := (Option.some.inj (hsl.ev mx0 hv)).symm
      have b1 := bd_of hl h1 hsl mlo
      have b2 := bd_of hh h2 hsl mhi
      refine ⟨_, ?_, h5 θ⟩
      have hb := run_bounds (P := P) (w := w) (isS := false) (cap := (denS ρ u).length) b1 b2 h3 h4
      simp [Runs, execOp, ho, hx, Instr.sliceAt, Instr.slice, run_underlying hd, bstr_size, hb, bstr_ext]
    · exact Yl.no
  · rename_i e hk
    obtain ⟨d, hd, hk'⟩ := kindT_ok hk (by simp)
    rw [tk_slice hk'] at hd
    split
    · rename_i ye hye
      obtain ⟨ok⟩ := mkTy_ok hye
      have go : (c = none ∨ ∃ e1, h = some e1) → Yl (fun K => natL l 0 fun l => natL h 0 fun h => natL c 0 fun c => match Nat.beq l 0 && Nat.beq h 0 && Nat.beq c 0 with
          | true => K (⟨.ns, m, nx, pc, .n⟩ : O5)
          | false => false) (OpOk P ρ o s m nx) := by
        intro hch
        refine Yl.bind (natL_yl (ρ := ρ)) fun i hi' => Yl.bind (natL_yl (ρ := ρ)) fun j hj => Yl.bind (natL_yl (ρ := ρ)) fun k hk => ?_
        split
        · rename_i h0
          simp only [Bool.and_eq_true, Nat.beq_eq] at h0
          obtain ⟨⟨rfl, rfl⟩, rfl⟩ := h0
          refine Yl.pure _ (OpOk.pure hs fun a w θ hsl => ⟨.slice none 0 0, ?_, rfl⟩)
          have hx : a.eval x = .slice none 0 0 := (Option.some.inj (hsl.ev mx0 hv)).symm
          have b1 := bd_of hl hi' hsl mlo
          have b2 := bd_of hh hj hsl mhi
          cases hcc : c with
          | none =>
            have hmx := mxN hcc
            subst hmx
            have hb := run_bounds (P := P) (w := w) (isS := true) (cap := 0) b1 b2 (Nat.le_refl _) (Nat.le_refl _)
            simp [Runs, execOp, ho, hx, Instr.sliceAt, Instr.slice, run_underlying hd, ok.size, hb]
          | some e2 =>
            have b3 := bd_of hc hk hsl mmx
            obtain ⟨e1, he1⟩ : ∃ e1, h = some e1 := hch.resolve_left (by rw [hcc]; simp)
            have b2' : ∃ k1, hi.map a.eval = some (.int k1 (0 : Nat)) := by
              rcases b2 with ⟨q, _⟩ | q
              · cases hi with
                | none => have : h = none := hh; rw [he1] at this; cases this
                | some y => simp at q
              · exact q
            have b3' : ∃ k1, mx.map a.eval = some (.int k1 (0 : Nat)) := by
              rcases b3 with ⟨q, _⟩ | q
              · cases mx with
                | none => have : c = none := hc; rw [hcc] at this; cases this
                | some y => simp at q
              · exact q
            obtain ⟨k1, q1⟩ := b2'
            obtain ⟨k2, q2⟩ := b3'
            have hb := run_bounds3 (P := P) (w := w) (isS := true) (len := 0) (cap := 0) (k := k1) (j := k2) b1 (Nat.le_refl 0) (Nat.le_refl 0) (Nat.le_refl 0)
            rw [← q1, ← q2] at hb
            simp [Runs, execOp, ho, hx, Instr.sliceAt, Instr.slice, run_underlying hd, ok.size, hb]
        · exact Yl.no
      split
      · exact Yl.no
      · rename_i hne
        refine go ?_
        cases hcc : c with
        | none => exact .inl rfl
        | some e2 =>
          cases hhh : h with
          | none => exact absurd hhh (hne _ hcc)
          | some e1 => exact .inr ⟨e1, rfl⟩
    · exact Yl.no
  · rename_i g off n cap e hk
    obtain ⟨d, hd, hk'⟩ := kindT_ok hk (by simp)
    rw [tk_slice hk'] at hd
    split
    · rename_i ye hye
      obtain ⟨ok⟩ := mkTy_ok hye
      refine Yl.map (fun v => (⟨v, m, nx, pc, .r g⟩ : O5)) (slSl_yl (ρ := ρ)) fun r hr => OpOk.read hs fun a w θ hsl hb => ?_
      obtain ⟨i, j, h1, h2, h3⟩ := hr
      have hx := hsl.ev mx0 hv
      simp only [den, Option.map_eq_some_iff] at hx
      obtain ⟨q, hq, hx⟩ := hx
      have b1 := bd_of hl h1 hsl mlo
      have fin : ∀ {k : Nat}, (Instr.sliceBounds true n (cap.den q.2 off) (lo.map a.eval) (hi.map a.eval) (mx.map a.eval)).run P w = .ok (i, j, k) w → Runs P a o w (partV q.1 off ye.sz i j k) := fun {k} hrun => by
        by_cases hki : k = i
        · simp [Runs, execOp, ho, ← hx, Instr.sliceAt, Instr.slice, run_underlying hd, hrun, ok.size, partV, hki]
        · simp [Runs, execOp, ho, ← hx, Instr.sliceAt, Instr.slice, run_underlying hd, hrun, ok.size, partV, hki, addr_add]
      rcases h3 with ⟨hcn, hjj, h4⟩ | ⟨k, e1, e2, q1, q2, q3, q4, q5, h4⟩
      · have hmx := mxN hcn
        subst hmx
        obtain ⟨g1, g2⟩ := h4 θ w q hb hq
        have b2 := bd_of hh hjj hsl mhi
        exact ⟨_, fin (run_bounds b1 b2 h2 g1), g2⟩
      · obtain ⟨g1, g2⟩ := h4 θ w q hb hq
        have b2 : ∃ k1, hi.map a.eval = some (.int k1 (j : Int)) := by
          rcases bd_of (d := 0) (r := j) hh (.inr ⟨e1, q1, q2⟩) hsl mhi with ⟨z, _⟩ | z
          · cases hi with
            | none => have : h = none := hh; rw [q1] at this; cases this
            | some y => simp at z
          · exact z
        have b3 : ∃ k1, mx.map a.eval = some (.int k1 (k : Int)) := by
          rcases bd_of (d := 0) (r := k) hc (.inr ⟨e2, q3, q4⟩) hsl mmx with ⟨z, _⟩ | z
          · cases mx with
            | none => have : c = none := hc; rw [q3] at this; cases this
            | some y => simp at z
          · exact z
        obtain ⟨k1, z1⟩ := b2
        obtain ⟨k2, z2⟩ := b3
        refine ⟨_, fin (k := k) ?_, g2⟩
        rw [z1, z2]
        exact run_bounds3 b1 h2 q5 g1
    · exact Yl.no
  · rename_i g off n e hk
    obtain ⟨d, hd, hk'⟩ := kindT_ok hk (by simp)
    rw [tk_arr hk'] at hd
    split
    · have hmx := mxN rfl
      subst hmx
      split
      · rename_i ye hye
        obtain ⟨ok⟩ := mkTy_ok hye
        refine Yl.bind (natL_yl (ρ := ρ)) fun i hi' => Yl.bind (natL_yl (ρ := ρ)) fun j hj => ?_
        split
        · rename_i h0
          simp only [Bool.and_eq_true, Nat.ble_eq] at h0
          refine Yl.map (fun v => (⟨v, m, nx, pc, .n⟩ : O5)) (slAt_yl (ρ := ρ)) fun r hr => OpOk.pure hs fun a w θ hsl => ?_
          have hx := hsl.ev mx0 hv
          simp only [den, Option.map_eq_some_iff] at hx
          obtain ⟨q, hq, hx⟩ := hx
          have b1 := bd_of hl hi' hsl mlo
          have b2 := bd_of hh hj hsl mhi
          have hrun := run_bounds (P := P) (w := w) (isS := false) (cap := n) b1 b2 h0.1 h0.2
          refine ⟨_, ?_, hr θ q hq⟩
          by_cases hki : n = i
          · subst hki
            simp [Runs, execOp, ho, ← hx, Instr.sliceAt, Instr.sureAddr, run_underlying hd, hrun, ok.size, partV]
          · simp [Runs, execOp, ho, ← hx, Instr.sliceAt, Instr.sureAddr, run_underlying hd, hrun, ok.size, partV, hki, addr_add]
        · exact Yl.no
      · exact Yl.no
    · exact Yl.no
  · exact Yl.no
end
end X
end Go.Proofs.YtdbchpoaoghgpaaGreatDoor
