/-
  TopEdits: VT, VU, VV, VW, VX.
-/
import Derived.Laws.Externs
import Derived.Lib.Bytealg
import Derived.Test.YtebfahobllghnaaGreatDoorEdA7
set_option linter.unusedSimpArgs false
set_option linter.unusedVariables false
namespace Go.Proofs.YtebfahobllghnaaGreatDoor
namespace X
open Go.RowKit B
theorem find_same {fn : Func} (hn : fn.name = "internal/abi.NoEscape") (ho : fn.origin = "") : Extern.findNext fn = none ∧ Extern.find fn = some Extern.AbiNoEscape.same := by
  constructor
  · simp only [Extern.findNext, hn, ho]
    have h1 : Extern.allNextRows.lookup "internal/abi.NoEscape" = none := by kernel_rfl
    have h2 : Extern.allNextRows.lookup "" = none := by kernel_rfl
    rw [h1, h2]; rfl
  · simp only [Extern.find, hn, ho]
    have h1 : Extern.allGenericRows.lookup "internal/abi.NoEscape" = none := by kernel_rfl
    have h2 : Extern.allTypedRows.lookup "internal/abi.NoEscape" = none := by kernel_rfl
    have h3 : Extern.allRows.lookup "internal/abi.NoEscape" = some Extern.AbiNoEscape.same := by kernel_rfl
    rw [h1, h2, h3]; rfl
theorem same_run {P : Program} {f : Nat} (h : isSame P f = true) (v : Value) (w : World) : (callFunc f #[v]).run P w = .ok (.value v) w := by
  unfold isSame at h
  split at h
  · rename_i fn hf
    simp only [Bool.and_eq_true, beq_iff_eq] at h
    obtain ⟨⟨h1, h2⟩, h3⟩ := h
    obtain ⟨h4, h5⟩ := find_same h2 h3
    rw [run_callFunc_extern hf (by rw [h2]; decide) h1 h4 h5]
    rfl
  · cases h
theorem find_idx {fn : Func} (hn : fn.name = "internal/bytealg.IndexByteString") (ho : fn.origin = "") : Extern.findNext fn = none ∧ Extern.find fn = some Extern.BytealgIndexByte.indexByte := by
  constructor
  · simp only [Extern.findNext, hn, ho]
    have h1 : Extern.allNextRows.lookup "internal/bytealg.IndexByteString" = none := by kernel_rfl
    have h2 : Extern.allNextRows.lookup "" = none := by kernel_rfl
    rw [h1, h2]; rfl
  · simp only [Extern.find, hn, ho]
    have h1 : Extern.allGenericRows.lookup "internal/bytealg.IndexByteString" = none := by kernel_rfl
    have h2 : Extern.allTypedRows.lookup "internal/bytealg.IndexByteString" = none := by kernel_rfl
    have h3 : Extern.allRows.lookup "internal/bytealg.IndexByteString" = some Extern.BytealgIndexByte.indexByte := by kernel_rfl
    rw [h1, h2, h3]; rfl
theorem idx_run {P : Program} {f : Nat} (h : isIdx P f = true) (s : ByteArray) (n : Nat) (w : World) : (callFunc f #[.string s, .int .u8 (n : Int)]).run P w = .ok (.value (.int .i64 (Lib.indexByte s.data.toList n.toUInt8))) w := by
  unfold isIdx at h
  split at h
  · rename_i fn hf
    simp only [Bool.and_eq_true, beq_iff_eq] at h
    obtain ⟨⟨h1, h2⟩, h3⟩ := h
    obtain ⟨h4, h5⟩ := find_idx h2 h3
    rw [run_callFunc_extern hf (by rw [h2]; decide) h1 h4 h5]
    have := Lib.run_indexByteString (P := P) s (n : Int) w
    rw [this]
    rfl
  · cases h
theorem idxK_yl {ρ : Rho} {n : Nat} (hn : n ≤ 255) : ∀ {l : Str} {k : Nat}, knownS l = true → Yl (idxK l n k) fun r => r = if Lib.indexByte (denS ρ l) n.toUInt8 = -1 then -1 else Lib.indexByte (denS ρ l) n.toUInt8 + k
  | [], k, _ => Yl.pure _ rfl
  | .a i :: l, k, h => by simp [knownS] at h
  | .c b :: l, k, h => by
    simp only [knownS] at h
    split at h
    · rename_i hb
      have hb := Nat.le_of_ble_eq_true hb
      have e : denS ρ (.c b :: l) = UInt8.ofNat b :: denS ρ l := by rw [denS_cons]; rfl
      have hbn : (UInt8.ofNat b == n.toUInt8) = Nat.beq b n := by
        rw [Bool.eq_iff_iff, beq_iff_eq, Nat.beq_eq]
        constructor
        · intro h
          have := congrArg UInt8.toNat h
          rw [UInt8.toNat_ofNat', show n.toUInt8.toNat = n % 2 ^ 8 from UInt8.toNat_ofNat', Nat.mod_eq_of_lt (by omega), Nat.mod_eq_of_lt (by omega)] at this
          exact this
        · rintro rfl; rfl
      have hI : Lib.indexByte (denS ρ (.c b :: l)) n.toUInt8 = if Nat.beq b n = true then 0 else if Lib.indexByte (denS ρ l) n.toUInt8 = -1 then -1 else Lib.indexByte (denS ρ l) n.toUInt8 + 1 := by
        rw [e, Lib.indexByte, hbn]; simp
      simp only [idxK]
      split
      · rename_i hq
        exact Yl.map (fun k => Int.ofNat k) frn_yl fun x hx => by subst hx; simp [hI, hq]
      · rename_i hq
        refine Yl.mono (idxK_yl (ρ := ρ) hn (l := l) (k := Nat.succ k) h) fun r hr => ?_
        have hge := Lib.indexByte_ge (denS ρ l) n.toUInt8
        simp only [hr, hI, hq, Bool.false_eq_true, if_false]
        by_cases h1 : Lib.indexByte (denS ρ l) n.toUInt8 = -1
        · simp [h1]
        · rw [if_neg h1, if_neg (by rw [if_neg h1]; omega), if_neg h1]; omega
    · cases h
structure O4 where
  v : SV
  m : Mem
  nx : Nat
  pc : PC
structure CallR (P : Program) (ρ : Rho) (f : Nat) (args : List SV) (m : Mem) (nx : Nat) (r : O4) : Prop where
  enter : ∀ args w, (callFunc f args).run P w = .ok (.enter f args) w
  pc : Sat ρ r.pc
  le : nx ≤ r.nx
  new : ∀ t, m.get t = none → r.m.get t ≠ none → nx ≤ t ∧ t < r.nx
  run : ∀ (w : World) (θ : Th) (vs : List Value), dens ρ θ args = some vs → MemOk ρ θ m.get w → (∀ t, nx ≤ t → t < r.nx → θ t = none) →
    Calls P f vs.toArray w (fun e w' => ∃ v θ', e = .returned v ∧ SP ρ nx r.nx θ m.get w θ' r.m.get w' ∧ den ρ θ' r.v = some v)
def CallSp (P : Program) (ρ : Rho) (call : CallT) : Prop := ∀ f args m nx pc, Sat ρ pc → Yl (fun K => call f args m nx pc fun v m nx pc => K ⟨v, m, nx, pc⟩) (CallR P ρ f args m nx)
theorem calls_mono {P : Program} {f : FuncId} {args : Array Value} {w : World} {R R' : Ending → World → Prop} (h : Calls P f args w R) (hr : ∀ e w', R e w' → R' e w') : Calls P f args w R' := fun cs => by
  obtain ⟨e, w', fr, h1, h2⟩ := h cs
  exact ⟨e, w', fr, hr _ _ h1, h2⟩
section
variable {P : Program} {ρ : Rho} {o : Oper} {s : Tr SV} {m : Mem} {nx : Nat} {pc : PC} {call : CallT}
theorem opCall_yl {c : Call} {x : Operand} (hc : CallSp P ρ call) (hs : Sat ρ pc) (ho : o.op = .call c) (hx : c.callee = .value x) : Yl (fun K => evO s x fun v => match v with
      | .fn f fi ca => evL s c.args.toList fun vs => match isSame P f with
        | true => match fi, vs, ca with
          | [], [v], [] => K ⟨v, m, nx, pc, .n⟩
          | _, _, _ => false
        | false => match isIdx P f with
          | true => opIdx fi vs ca m nx pc fun v m nx pc ft => K ⟨v, m, nx, pc, ft⟩
          | false => appC fi vs fun l => appC l ca fun l => call f l m nx pc fun v m nx pc => K ⟨v, m, nx, pc, .c⟩
      | _ => false) (OpOk P ρ o s m nx) := by
  have hop : o.op.operands.toList = x :: c.args.toList := by simp [ho, Op.operands, Call.operands, hx]
  refine Yl.bind (evO_yl (ρ := ρ)) fun v hv => ?_
  split
  · rename_i f fi ca
    refine Yl.bind (evL_yl (ρ := ρ)) fun vs hvs => ?_
    have key : ∀ {a : Act} {θ : Th}, SlOk ρ s θ a o.op.operands.toList → ∃ fv cv, dens ρ θ fi = some fv ∧ dens ρ θ ca = some cv ∧ dens ρ θ vs = some (c.args.toList.map a.eval) ∧
        ∀ w, (execOp a.eval o).run P w = (callFunc f (fv ++ c.args.toList.map a.eval ++ cv).toArray).run P w := fun {a θ} hsl => by
      rw [hop] at hsl
      have h1 := hsl.ev (by simp) hv
      have h2 := hsl.evs (fun x hx => by simp [hx]) hvs
      simp only [den, Option.bind_eq_some_iff, Option.map_eq_some_iff] at h1
      obtain ⟨fv, e1, cv, e2, e3⟩ := h1
      refine ⟨fv, cv, e1, e2, h2, fun w => ?_⟩
      have e4 : (fv.toArray ++ Array.map a.eval c.args ++ cv.toArray) = (fv ++ c.args.toList.map a.eval ++ cv).toArray := by
        apply Array.ext'; simp
      simp only [execOp, ho, resolve, hx, ← e3, Deferred.ofValue, Sem.run_bind, Sem.run_pure, Result.andThen_ok, invoke, e4]
    split
    · rename_i hsame
      split
      · rename_i v'
        refine Yl.pure _ (OpOk.pure hs fun a w θ hsl => ?_)
        obtain ⟨fv, cv, e1, e2, e3, e4⟩ := key hsl
        cases e1; cases e2
        simp only [dens, Option.bind_eq_some_iff, Option.map_eq_some_iff, Option.some.injEq] at e3
        obtain ⟨u, e5, us, rfl, e6⟩ := e3
        refine ⟨u, ?_, e5⟩
        unfold Runs
        rw [e4 w, ← e6]
        exact same_run hsame u w
      · exact Yl.no
    · split
      · rename_i hidx
        unfold opIdx
        split
        · rename_i l n
          split
          · rename_i hc
            simp only [Bool.and_eq_true] at hc
            have hn := Nat.le_of_ble_eq_true hc.2
            refine Yl.map (fun i : Int => (⟨.i .i64 i, m, nx, pc, .n⟩ : O5)) (idxK_yl (ρ := ρ) hn (k := 0) hc.1) fun r hr => OpOk.pure hs fun a w θ hsl => ?_
            obtain ⟨fv, cv, e1, e2, e3, e4⟩ := key hsl
            cases e1; cases e2
            simp only [dens, den, Option.bind_some, Option.map_some, Option.some.injEq] at e3
            refine ⟨_, ?_, rfl⟩
            unfold Runs
            rw [e4 w, ← e3]
            have := idx_run hidx (bstr (denS ρ l)) n w
            have e5 : r = Lib.indexByte (denS ρ l) n.toUInt8 := by
              rw [hr]; split
              · rename_i h; exact h.symm
              · simp
            rw [e5]
            exact this
          · exact Yl.no
        · exact Yl.no
      refine Yl.bind appC_yl fun l1 hl1 => Yl.bind appC_yl fun l2 hl2 => ?_
      subst hl1
      subst hl2
      refine Yl.map (fun r : O4 => (⟨r.v, r.m, r.nx, r.pc, .c⟩ : O5)) (hc f _ m nx pc hs) fun r hr => ?_
      exact {
        pc := hr.pc
        le := hr.le
        off := fun t ht => absurd trivial ht
        rd := fun _ h => by cases h
        new := hr.new
        run := fun a w θ h1 h2 h3 => by
          obtain ⟨fv, cv, e1, e2, e3, e4⟩ := key h1
          unfold Oper.wp
          rw [e4 w, hr.enter, Oper.upon_enter]
          rw [subM_c] at h2
          refine calls_mono (hr.run w θ _ (dens_append (dens_append e1 e3) e2) h2 h3) fun e w' h => ?_
          obtain ⟨v, θ', rfl, h4, h5⟩ := h
          exact ⟨v, θ', rfl, by rw [subM_c, subM_c]; exact h4, h5⟩ }
  · exact Yl.no
theorem list1 {α : Type} {a : Array α} {x : α} (h : a.toList = [x]) : a = #[x] := Array.ext' h
theorem list2 {α : Type} {a : Array α} {x y : α} (h : a.toList = [x, y]) : a = #[x, y] := Array.ext' h
theorem opBuiltin_yl {c : Call} {b : Builtin} (hs : Sat ρ pc) (ho : o.op = .call c) (hx : c.callee = .builtin b) : Yl (fun K => opBuiltin P s m nx pc b c.args.toList c.argTypes.toList fun v m nx pc ft => K ⟨v, m, nx, pc, ft⟩) (OpOk P ρ o s m nx) := by
  obtain ⟨callee, args, ts⟩ := c
  simp only at hx ⊢
  subst hx
  unfold opBuiltin
  split
  · rename_i h1 h2; exact opLen_yl hs (by rw [ho, list1 h1, list1 h2])
  · rename_i h1 h2; exact opAppend_yl hs (by rw [ho, list2 h1, list2 h2])
  · rename_i h1 h2; exact opMM_yl (mx := true) hs (by rw [ho, list2 h1, list2 h2])
  · rename_i h1 h2; exact opMM_yl (mx := false) hs (by rw [ho, list2 h1, list2 h2])
  · rename_i h1 h2; exact opCopy_yl hs (by rw [ho, list2 h1, list2 h2])
  · rename_i h1 h2; exact opDelete_yl hs (by rw [ho, list2 h1, show ts = _ from Array.ext' h2])
  · rename_i h1; exact opSData_yl hs (by rw [ho, list1 h1])
  · rename_i h1 h2; exact opUString_yl hs (by rw [ho, list2 h1, list2 h2])
  · exact Yl.no
theorem opx_yl (hc : CallSp P ρ call) (hs : Sat ρ pc) : Yl (fun K => opx P call s m nx pc o fun v m nx pc ft => K ⟨v, m, nx, pc, ft⟩) (OpOk P ρ o s m nx) := by
  unfold opx
  split
  · rename_i x ho
    refine Yl.map (fun v => (⟨v, m, nx, pc, .n⟩ : O5)) (evO_yl (ρ := ρ)) fun v hv => OpOk.pure hs fun a w θ hsl => ?_
    rw [show o.op.operands.toList = [x] by simp [ho, Op.operands]] at hsl
    exact ⟨_, r_move ho rfl, hsl.ev (by simp) hv⟩
  · rename_i x ho
    refine Yl.map (fun v => (⟨v, m, nx, pc, .n⟩ : O5)) (evO_yl (ρ := ρ)) fun v hv => OpOk.pure hs fun a w θ hsl => ?_
    rw [show o.op.operands.toList = [x] by simp [ho, Op.operands]] at hsl
    exact ⟨_, r_assign ho rfl, hsl.ev (by simp) hv⟩
  · rename_i ho; exact opPick_yl hs ho
  · rename_i ho; exact opLoad_yl hs ho
  · rename_i ho; exact opStore_yl hs ho
  · rename_i ho; exact opFieldAddr_yl hs ho
  · rename_i ho; exact opNil_yl hs ho
  · rename_i ho; exact opBin_yl hs ho
  · rename_i ho; exact opUn_yl hs ho
  · rename_i ho; exact opIndexAddr_yl hs ho
  · rename_i ho; exact opExtract_yl hs ho
  · rename_i c ho
    split
    · rename_i x hx; exact opCall_yl hc hs ho hx
    · rename_i b hx; exact opBuiltin_yl hs ho hx
    · exact Yl.no
  · rename_i ho; exact opAlloc_yl hs ho
  · rename_i ho; exact opBox_yl hs ho
  · rename_i ho; exact opBuild_yl hs ho
  · rename_i ho; exact opBuildSlice_yl hs ho
  · rename_i ho; exact opConv_yl hs ho
  · rename_i ho; exact opFunc_yl hs ho
  · rename_i ho; exact opMakeMap_yl hs ho
  · rename_i ho; exact opMakeSlice_yl hs ho
  · rename_i ho; exact opSlice_yl hs ho
  · rename_i ho; exact opField_yl hs ho
  · rename_i ho; exact opIndex_yl hs ho
  · rename_i ho; exact opLookup_yl hs ho
  · rename_i ho; exact opUpdate_yl hs (.inl ho)
  · rename_i ho; exact opUpdate_yl hs (.inr ho)
  · exact Yl.no
end
end X
end Go.Proofs.YtebfahobllghnaaGreatDoor
namespace Go.Proofs.YtebfahobllghnaaGreatDoor
namespace X
open Go.RowKit B
theorem get_bool {a : Act} {t : Nat} {b : Bool} (hv : get a t = .bool b) : a.tmps[t]? = some (.bool b) := by
  unfold B.get at hv
  rw [Array.getD_eq_getD_getElem?] at hv
  cases h' : a.tmps[t]? with
  | none => rw [h'] at hv; simp [undef] at hv
  | some u => rw [h'] at hv; simp at hv; rw [hv]
theorem get_undef {a : Act} {t : Nat} (hv : get a t = undef) : ∀ b, a.tmps[t]? ≠ some (.bool b) := by
  intro b h'
  unfold B.get at hv
  rw [Array.getD_eq_getD_getElem?, h'] at hv
  simp [undef] at hv
theorem dstAt_eq : ∀ {ops : List Oper} {j d : Nat}, dstAt ops j = some d → ∃ o, ops[j]? = some o ∧ o.dst = some d
  | [], j, d, h => by cases h
  | o :: l, 0, d, h => ⟨o, rfl, h⟩
  | o :: l, j + 1, d, h => by simpa using dstAt_eq (ops := l) (j := j) h
structure E1 (P : Program) (ρ : Rho) (ops : Array Oper) (n : Nat) (s : Tr SV) (m : Mem) (nx : Nat) (o : Oper) (r : O5) : Prop where
  pc : Sat ρ r.pc
  le : nx ≤ r.nx
  off : ∀ t, ¬ tc r.ft t → r.m.get t = m.get t
  rd : ∀ g, r.ft = .r g → r.m = m
  new : ∀ t, m.get t = none → r.m.get t ≠ none → nx ≤ t ∧ t < r.nx
  st : Step3 P ρ ops n s.get ⟨o, subM r.ft m, r.v, subM r.ft r.m, nx, r.nx⟩
section
variable {P : Program} {ρ : Rho} {o : Oper} {s : Tr SV} {m : Mem} {nx : Nat} {pc : PC} {call : CallT} {ops : List Oper} {n : Nat}
theorem E1.of {r : O5} (h : OpOk P ρ o s m nx r) (hw : ∀ (a : Act) (θ : Th), (∀ k ∈ gSlot ops.toArray o, ∀ sv, s.get k = some sv → den ρ θ sv = some (get a k)) → Region.wanted o (yielded ops.toArray a.tmps) = true) : E1 P ρ ops.toArray n s m nx o r :=
  ⟨h.pc, h.le, h.off, h.rd, h.new, fun a w θ _ _ h3 h4 h5 => ⟨fun _ => h.run a w θ (fun k hk => h3 k (by simp [reads, hk])) h4 h5, fun hn => by
    rw [hw a θ fun k hk => h3 k (by simp [reads, hk])] at hn; cases hn⟩⟩
theorem E1.not (hs : Sat ρ pc) (hw : ∀ (a : Act) (θ : Th), (∀ k ∈ gSlot ops.toArray o, ∀ sv, s.get k = some sv → den ρ θ sv = some (get a k)) → Region.wanted o (yielded ops.toArray a.tmps) = false) : E1 P ρ ops.toArray n s m nx o ⟨.un, m, nx, pc, .n⟩ :=
  ⟨hs, Nat.le_refl _, fun _ _ => rfl, fun _ h => (by cases h), fun t h1 h2 => absurd h1 h2, fun a w θ _ _ h3 h4 h5 => ⟨fun hn => (by
    rw [hw a θ fun k hk => h3 k (by simp [reads, hk])] at hn; cases hn), fun _ => ⟨θ, SP.refl h4, rfl⟩⟩⟩
theorem ex1_yl (hc : CallSp P ρ call) (hs : Sat ρ pc) : Yl (fun K => ex1 P call ops s m nx pc o fun v m nx pc ft => K ⟨v, m, nx, pc, ft⟩) (E1 P ρ ops.toArray n s m nx o) := by
  unfold ex1
  split
  · rename_i hg
    exact (opx_yl hc hs).mono fun r hr => E1.of hr fun a θ _ => by simp [Region.wanted, hg]
  · rename_i j want hg
    split
    · rename_i d hd
      obtain ⟨o', ho', hd'⟩ := dstAt_eq hd
      have hgs : gSlot ops.toArray o = [d] := by simp [gSlot, hg, ho', hd']
      split
      · rename_i b hb
        have wt : ∀ (a : Act) (θ : Th), (∀ k ∈ gSlot ops.toArray o, ∀ sv, s.get k = some sv → den ρ θ sv = some (get a k)) → Region.wanted o (yielded ops.toArray a.tmps) = (b == want) := fun a θ h => by
          have hv := get_bool (Option.some.inj (h d (by rw [hgs]; simp) _ hb)).symm
          cases want <;> cases b <;> simp [Region.wanted, hg, yielded, ho', hd', hv]
        split
        · exact (opx_yl hc hs).mono fun r hr => E1.of hr fun a θ h => wt a θ h
        · exact (opx_yl hc hs).mono fun r hr => E1.of hr fun a θ h => wt a θ h
        · rename_i h1 h2
          refine Yl.pure (⟨.un, m, nx, pc, .n⟩ : O5) (E1.not hs fun a θ h => ?_)
          rw [wt a θ h]
          cases b <;> cases want <;> first | rfl | exact absurd rfl (h1 rfl) | exact absurd rfl (h2 rfl) | exact (h1 rfl rfl).elim | exact (h2 rfl rfl).elim
      · rename_i hb
        refine Yl.pure (⟨.un, m, nx, pc, .n⟩ : O5) (E1.not hs fun a θ h => ?_)
        have hn := get_undef (Option.some.inj (h d (by rw [hgs]; simp) _ hb)).symm
        have hy : yielded ops.toArray a.tmps j = none := by
          cases h' : a.tmps[d]? with
          | none => simp [yielded, ho', hd', h']
          | some u => cases u <;> first | exact absurd h' (hn _) | simp [yielded, ho', hd', h']
        simp [Region.wanted, hg, hy]
      · exact Yl.no
    · exact Yl.no
theorem putS_yl {d : Option Nat} {v : SV} : Yl (putS s d v) fun s' => s'.get = updS s.get d v := by
  unfold putS
  split
  · exact Yl.pure _ (by funext k; simp [updS])
  · rename_i d
    refine set_yl.mono fun s' h => ?_
    funext k
    rw [h k]
    simp only [updS, Option.some.injEq]
    by_cases e : k = d
    · subst e; simp
    · rw [if_neg e, if_neg (fun q => e q.symm)]
structure OS where
  s : Tr SV
  m : Mem
  nx : Nat
  pc : PC
structure TrOk (P : Program) (ρ : Rho) (ops : Array Oper) (n : Nat) (l : List Oper) (s : Tr SV) (m : Mem) (nx : Nat) (r : OS) (tr : List TE) : Prop where
  os : tr.map (·.o) = l
  st : Steps3 P ρ ops n nx s.get m.get tr
  fs : ∀ i, stS (fun _ => true) i tr s.get = r.s.get
  fm : ∀ i, stM (fun _ => true) i tr m.get = r.m.get
  fn : finN nx tr = r.nx
  pc : Sat ρ r.pc
  le : nx ≤ r.nx
  new : ∀ t, m.get t = none → r.m.get t ≠ none → nx ≤ t ∧ t < r.nx
theorem TrOk.nil {opa : Array Oper} (hs : Sat ρ pc) : TrOk P ρ opa n [] s m nx ⟨s, m, nx, pc⟩ [] :=
  ⟨rfl, trivial, fun _ => rfl, fun _ => rfl, rfl, hs, Nat.le_refl _, fun t h1 h2 => absurd h1 h2⟩
theorem TrOk.cons {opa : Array Oper} {l : List Oper} {r1 : O5} {s1 : Tr SV} {r : OS} {tr : List TE} (h1 : E1 P ρ opa n s m nx o r1) (hs1 : s1.get = updS s.get o.dst r1.v) (h : TrOk P ρ opa n l s1 r1.m r1.nx r tr) :
    TrOk P ρ opa n (o :: l) s m nx r (⟨o, subM r1.ft m, r1.v, subM r1.ft r1.m, nx, r1.nx⟩ :: tr) := by
  have hm : updM m.get ⟨o, subM r1.ft m, r1.v, subM r1.ft r1.m, nx, r1.nx⟩ = r1.m.get := by
    funext t
    by_cases hw : TE.wr ⟨o, subM r1.ft m, r1.v, subM r1.ft r1.m, nx, r1.nx⟩ t
    · rw [updM_wr hw]
      have hw : subM r1.ft m t ≠ subM r1.ft r1.m t := hw
      by_cases ht : tc r1.ft t
      · exact subM_in ht
      · exact absurd (by rw [subM_out ht, subM_out ht]) hw
    · rw [updM_not hw]
      have hw : subM r1.ft m t = subM r1.ft r1.m t := Classical.not_not.1 hw
      by_cases ht : tc r1.ft t
      · rw [subM_in ht, subM_in ht] at hw; exact hw
      · exact (h1.off t ht).symm
  refine ⟨by rw [List.map_cons, h.os], ⟨⟨rfl, h1.le, fun t b hb => (subM_some hb).2, fun t e1 e2 => ?_, h1.st⟩, ?_⟩, fun i => ?_, fun i => ?_, h.fn, h.pc, Nat.le_trans h1.le h.le, fun t e1 e2 => ?_⟩
  · by_cases ht : tc r1.ft t
    · exact h1.new t (by rw [← subM_in ht]; exact e1) (by rw [← subM_in ht]; exact e2)
    · exact absurd (subM_out ht) e2
  · rw [hm, ← hs1]; exact h.st
  · simp only [stS, if_true]
    rw [← hs1]; exact h.fs _
  · simp only [stM, if_true]
    rw [hm]; exact h.fm _
  · have h3 := h1.le
    have h4 := h.le
    by_cases e3 : r1.m.get t = none
    · have := h.new t e3 e2; exact ⟨by omega, this.2⟩
    · have := h1.new t e1 e3; exact ⟨this.1, by omega⟩
theorem exS_yl (hc : CallSp P ρ call) : ∀ {l : List Oper} {s : Tr SV} {m : Mem} {nx : Nat} {pc : PC}, Sat ρ pc → Yl (fun K => exS P call ops l s m nx pc fun s m nx pc => K ⟨s, m, nx, pc⟩) fun r => ∃ tr, TrOk P ρ ops.toArray n l s m nx r tr
  | [], s, m, nx, pc, hs => Yl.pure (⟨s, m, nx, pc⟩ : OS) ⟨[], TrOk.nil hs⟩
  | o :: l, s, m, nx, pc, hs => by
    refine Yl.bind (α := O5) (β := OS) (F := fun K => ex1 P call ops s m nx pc o fun v m nx pc ft => K ⟨v, m, nx, pc, ft⟩) (G := fun r K => putS s o.dst r.v fun s => exS P call ops l s r.m r.nx r.pc fun s m nx pc => K ⟨s, m, nx, pc⟩) (ex1_yl (n := n) hc hs) fun r1 h1 => ?_
    refine Yl.bind putS_yl fun s1 hs1 => ?_
    exact (exS_yl hc h1.pc).mono fun r ⟨tr, htr⟩ => ⟨_, htr.cons h1 hs1⟩
structure FeOf (i : Nat) (e : TE) (x : FE) : Prop where
  i : x.i = i
  r : e.R = subM x.ft x.m0
  r' : e.R' = subM x.ft x.m1
  rd : ∀ g, x.ft = .r g → x.m1 = x.m0
inductive FeR : Nat → List TE → List FE → Prop where
  | nil (i : Nat) : FeR i [] []
  | cons {i : Nat} {e : TE} {x : FE} {l : List TE} {k : List FE} (h : FeOf i e x) (t : FeR (i + 1) l k) : FeR i (e :: l) (x :: k)
theorem FeR.get : ∀ {i j : Nat} {l : List TE} {k : List FE} {e : TE}, FeR i l k → l[j]? = some e → ∃ x, k[j]? = some x ∧ FeOf (i + j) e x
  | i, j, _, _, e, .nil _, h => by simp at h
  | i, 0, _, _, e, .cons h t, hj => by simp at hj; subst hj; exact ⟨_, rfl, h⟩
  | i, j + 1, _, _, e, .cons h t, hj => by
    obtain ⟨x, h1, h2⟩ := FeR.get t (by simpa using hj)
    exact ⟨x, by simpa using h1, by rwa [show i + (j + 1) = i + 1 + j by omega]⟩
def isT (x : FE) : Bool := match x.ft with
  | .n => false
  | _ => true
theorem exD_yl (hc : CallSp P ρ call) : ∀ {l : List Oper} {i : Nat} {s : Tr SV} {m : Mem} {nx : Nat} {pc : PC} {acc : List FE}, Sat ρ pc → Yl (fun K => exD P call ops l i s m nx pc acc fun s m nx pc acc => K (⟨s, m, nx, pc⟩, acc)) fun r : OS × List FE => ∃ tr fes, TrOk P ρ ops.toArray n l s m nx r.1 tr ∧ FeR i tr fes ∧ r.2 = (fes.filter isT).reverse ++ acc
  | [], i, s, m, nx, pc, acc, hs => Yl.pure ((⟨s, m, nx, pc⟩, acc) : OS × List FE) ⟨[], [], TrOk.nil hs, .nil i, rfl⟩
  | o :: l, i, s, m, nx, pc, acc, hs => by
    refine Yl.bind (α := O5) (β := OS × List FE) (F := fun K => ex1 P call ops s m nx pc o fun v m nx pc ft => K ⟨v, m, nx, pc, ft⟩) (G := fun r K => putS s o.dst r.v fun s => match r.ft with
      | .n => exD P call ops l (Nat.succ i) s r.m r.nx r.pc acc fun s m nx pc acc => K (⟨s, m, nx, pc⟩, acc)
      | ft => exD P call ops l (Nat.succ i) s r.m r.nx r.pc (⟨i, ft, m, r.m⟩ :: acc) fun s m nx pc acc => K (⟨s, m, nx, pc⟩, acc)) (ex1_yl (n := n) hc hs) fun r1 h1 => ?_
    refine Yl.bind putS_yl fun s1 hs1 => ?_
    have fe : FeOf i ⟨o, subM r1.ft m, r1.v, subM r1.ft r1.m, nx, r1.nx⟩ ⟨i, r1.ft, m, r1.m⟩ := ⟨rfl, rfl, rfl, h1.rd⟩
    split
    · rename_i hft
      refine (exD_yl hc h1.pc).mono fun r ⟨tr, fes, htr, hf, ha⟩ => ⟨_, _, htr.cons h1 hs1, .cons fe hf, ?_⟩
      rw [List.filter_cons_of_neg (by simp [isT, hft])]
      exact ha
    · rename_i hft
      refine (exD_yl hc h1.pc).mono fun r ⟨tr, fes, htr, hf, ha⟩ => ⟨_, _, htr.cons h1 hs1, .cons fe hf, ?_⟩
      rw [List.filter_cons_of_pos (by
        unfold isT
        split
        · rename_i e; exact absurd e hft
        · rfl)]
      rw [ha]; simp
end
theorem eqTs_ok : ∀ {l m : List (Nat × Int)}, eqTs l m = true → l = m
  | [], [], _ => rfl
  | (i, a) :: l, (j, b) :: m, h => by
    simp only [eqTs, Bool.and_eq_true, Nat.beq_eq, eqI_iff] at h
    obtain ⟨⟨rfl, rfl⟩, h⟩ := h
    rw [eqTs_ok h]
  | [], _ :: _, h => by cases h
  | _ :: _, [], h => by cases h
theorem eqLin_ok {a b : Lin} (h : eqLin a b = true) : a = b := by
  cases a; cases b
  simp only [eqLin, Bool.and_eq_true, eqI_iff] at h
  rw [h.1, eqTs_ok h.2]
mutual
theorem eqV_ok : ∀ {a b : SV}, eqV a b = true → a = b
  | a, b, h => by
    cases a <;> cases b <;> first
      | (simp only [eqV] at h; done)
      | (simp [eqV] at h; done)
      | rfl
      | skip
    all_goals simp only [eqV, Bool.and_eq_true, Nat.beq_eq, eqI_iff, ikEq_iff, beq_iff_eq] at h
    · obtain ⟨rfl, rfl⟩ := h; rfl
    · rw [h.1, eqLin_ok h.2]
    · rw [h]
    · rw [eqStr_ok h]
    · rw [h.1, h.2]
    · obtain ⟨⟨⟨rfl, rfl⟩, rfl⟩, h⟩ := h
      rename_i c c'
      cases c <;> cases c' <;> simp at h <;> rw [h]
    · rw [h.1, eqStr_ok h.2]
    · rw [h]
    · rw [eqVs_ok h]
    · rw [eqVs_ok h]
    · rw [h.1.1, eqVs_ok h.1.2, eqVs_ok h.2]
    · rw [h]
    · rw [h.1, h.2]
    · rw [h.1, h.2]
    · rw [h.1, eqLin_ok h.2]
theorem eqVs_ok : ∀ {a b : List SV}, eqVs a b = true → a = b
  | [], [], _ => rfl
  | a :: l, b :: m, h => by
    simp only [eqVs, Bool.and_eq_true] at h
    rw [eqV_ok h.1, eqVs_ok h.2]
  | [], _ :: _, h => by cases h
  | _ :: _, [], h => by cases h
end
end X
end Go.Proofs.YtebfahobllghnaaGreatDoor
namespace Go.Proofs.YtebfahobllghnaaGreatDoor
namespace X
open Go.RowKit B
theorem eqEs_ok : ∀ {l m : List (SV × SV × Nat)}, eqEs l m = true → l = m
  | [], [], _ => rfl
  | (a, b, n) :: l, (c, d, k) :: m, h => by
    simp only [eqEs, Bool.and_eq_true, Nat.beq_eq] at h
    obtain ⟨⟨⟨h1, h2⟩, rfl⟩, h4⟩ := h
    rw [eqV_ok h1, eqV_ok h2, eqEs_ok h4]
  | [], _ :: _, h => by cases h
  | _ :: _, [], h => by cases h
theorem eqNs_ok : ∀ {a b : List Nat}, eqNs a b = true → a = b
  | [], [], _ => rfl
  | a :: l, b :: m, h => by
    simp only [eqNs, Bool.and_eq_true, Nat.beq_eq] at h
    rw [h.1, eqNs_ok h.2]
  | [], _ :: _, h => by cases h
  | _ :: _, [], h => by cases h
theorem eqBlk_ok {a b : Option Blk} (h : eqBlk a b = true) : a = b := by
  unfold eqBlk at h
  split at h
  · rfl
  · simp only [Bool.and_eq_true, Nat.beq_eq, beq_iff_eq] at h
    obtain ⟨⟨rfl, h2⟩, rfl⟩ := h
    rw [eqVs_ok h2]
  · simp only [Bool.and_eq_true, Nat.beq_eq] at h
    obtain ⟨rfl, h2⟩ := h
    rw [eqStr_ok h2]
  · simp only [Bool.and_eq_true, Nat.beq_eq] at h
    obtain ⟨h2, rfl⟩ := h
    rw [eqEs_ok h2]
  · simp only [Bool.and_eq_true, Nat.beq_eq] at h
    obtain ⟨rfl, h2⟩ := h
    rw [eqStr_ok h2]
  · rw [eqVs_ok h]
  · simp only [Bool.and_eq_true, Nat.beq_eq] at h
    rw [h.1, h.2]
  · simp only [Bool.and_eq_true, Nat.beq_eq] at h
    rw [h.1.1, h.1.2, h.2]
  · simp only [Bool.and_eq_true] at h
    rw [eqNs_ok h.1.1, eqStr_ok h.1.2, eqStr_ok h.2]
  · cases h
theorem memN_iff {t : Nat} : ∀ {l : List Nat}, memN t l = true ↔ t ∈ l
  | [] => by simp [memN]
  | k :: l => by
    simp only [memN]
    split
    · rename_i h
      have := Nat.eq_of_beq_eq_true h
      simp [this]
    · rename_i h
      have := Nat.ne_of_beq_eq_false h
      rw [memN_iff (l := l)]
      simp [Ne.symm this]
theorem memN_not {t : Nat} {l : List Nat} : (!memN t l) = true ↔ t ∉ l := by
  rw [Bool.not_eq_true', ← memN_iff]; simp
theorem apartN_ok {m : List Nat} : ∀ {l : List Nat}, apartN l m = true → ∀ t ∈ l, t ∉ m
  | [], _, t, h => by cases h
  | k :: l, h, t, ht => by
    simp only [apartN, Bool.and_eq_true] at h
    rcases List.mem_cons.1 ht with rfl | ht
    · exact memN_not.1 h.1
    · exact apartN_ok h.2 t ht
theorem newTo_ok {m0 m1 : Mem} : ∀ {l : List Nat}, newTo m0 m1 l = true → ∀ t ∈ l, m0.get t = none ∧ m1.get t = none
  | [], _, t, h => by cases h
  | k :: l, h, t, ht => by
    simp only [newTo] at h
    split at h
    · rename_i h1 h2
      rcases List.mem_cons.1 ht with rfl | ht
      · exact ⟨h1, h2⟩
      · exact newTo_ok h t ht
    · cases h
structure IndM (x y : TE) : Prop where
  m1 : ∀ t, x.wr t → ¬ y.wr t ∧ ¬ y.rd t
  m2 : ∀ t, y.wr t → ¬ x.rd t
section
variable {i j : Nat} {x y : TE} {a b : FE}
theorem FeOf.tcw (h : FeOf i x a) {t : Nat} (hw : x.wr t) : tc a.ft t := by
  unfold TE.wr at hw
  rw [h.r, h.r'] at hw
  exact Classical.byContradiction fun hn => hw (by rw [subM_out hn, subM_out hn])
theorem FeOf.tcr (h : FeOf i x a) {t : Nat} (hw : x.rd t) : tc a.ft t := by
  unfold TE.rd at hw
  rw [h.r] at hw
  exact Classical.byContradiction fun hn => hw (subM_out hn)
theorem FeOf.nw (h : FeOf i x a) {t : Nat} (he : a.m0.get t = a.m1.get t) : ¬ x.wr t := fun hw => by
  have ht := h.tcw hw
  unfold TE.wr at hw
  rw [h.r, h.r', subM_in ht, subM_in ht] at hw
  exact hw he
theorem FeOf.nr (h : FeOf i x a) {t : Nat} (he : a.m0.get t = none) : ¬ x.rd t := fun hw => by
  have ht := h.tcr hw
  unfold TE.rd at hw
  rw [h.r, subM_in ht] at hw
  exact hw he
theorem FeOf.still (h : FeOf i x a) {g : Nat} (he : a.ft = .r g) (t : Nat) : ¬ x.wr t := h.nw (by rw [h.rd g he])
theorem FeOf.none (h : FeOf i x a) (he : a.ft = .n) (t : Nat) : ¬ x.wr t ∧ ¬ x.rd t :=
  ⟨fun hw => (by have := h.tcw hw; rw [he] at this; exact this), fun hw => (by have := h.tcr hw; rw [he] at this; exact this)⟩
theorem indFt_ok (hx : FeOf i x a) (hy : FeOf j y b) (h : a.ft = .n ∨ b.ft = .n ∨ indFt a b = true) : IndM x y := by
  rcases h with h | h | h
  · exact ⟨fun t ht => absurd ht (hx.none h t).1, fun t _ => (hx.none h t).2⟩
  · exact ⟨fun t _ => hy.none h t, fun t ht => absurd ht (hy.none h t).1⟩
  · unfold indFt at h
    split at h
    · rename_i e; exact ⟨fun t ht => absurd ht (hx.none e t).1, fun t _ => (hx.none e t).2⟩
    · rename_i e _; exact ⟨fun t _ => hy.none e t, fun t ht => absurd ht (hy.none e t).1⟩
    · rename_i e1 e2
      exact ⟨fun t ht => absurd ht (hx.still e1 t), fun t ht => absurd ht (hy.still e2 t)⟩
    · rename_i g ts e1 e2
      refine ⟨fun t ht => absurd ht (hx.still e1 t), fun t ht hr => ?_⟩
      have h1 := hy.tcw ht
      have h2 := hx.tcr hr
      rw [e2] at h1; rw [e1] at h2
      have h2 : t = g := h2
      subst h2
      simp only [Bool.or_eq_true] at h
      rcases h with h | h
      · exact memN_not.1 h h1
      · exact hy.nw (eqBlk_ok h) ht
    · rename_i ts g e1 e2
      refine ⟨fun t ht => ⟨hy.still e2 t, fun hr => ?_⟩, fun t ht => absurd ht (hy.still e2 t)⟩
      have h1 := hx.tcw ht
      have h2 := hy.tcr hr
      rw [e1] at h1; rw [e2] at h2
      have h2 : t = g := h2
      subst h2
      simp only [Bool.or_eq_true] at h
      rcases h with h | h
      · exact memN_not.1 h h1
      · exact hx.nw (eqBlk_ok h) ht
    · rename_i ts us e1 e2
      have ap := apartN_ok h
      refine ⟨fun t ht => ?_, fun t ht hr => ?_⟩
      · have h1 := hx.tcw ht
        rw [e1] at h1
        refine ⟨fun hw => ?_, fun hr => ?_⟩
        · have h2 := hy.tcw hw; rw [e2] at h2; exact ap t h1 h2
        · have h2 := hy.tcr hr; rw [e2] at h2; exact ap t h1 h2
      · have h1 := hx.tcr hr
        have h2 := hy.tcw ht
        rw [e1] at h1; rw [e2] at h2
        exact ap t h1 h2
    · rename_i g e1 e2
      refine ⟨fun t ht => ⟨hy.still e2 t, fun hr => ?_⟩, fun t ht => absurd ht (hy.still e2 t)⟩
      have h2 := hy.tcr hr
      rw [e2] at h2
      have h2 : t = g := h2
      subst h2
      exact hx.nw (eqBlk_ok h) ht
    · rename_i g e1 e2
      refine ⟨fun t ht => absurd ht (hx.still e1 t), fun t ht hr => ?_⟩
      have h2 := hx.tcr hr
      rw [e1] at h2
      have h2 : t = g := h2
      subst h2
      exact hy.nw (eqBlk_ok h) ht
    · rename_i ts e1 e2
      have nt := newTo_ok h
      refine ⟨fun t ht => ⟨fun hw => ?_, fun hr => ?_⟩, fun t ht hr => ?_⟩
      · have h2 := hy.tcw hw; rw [e2] at h2
        obtain ⟨q1, q2⟩ := nt t h2
        exact hx.nw (by rw [q1, q2]) ht
      · have h2 := hy.tcr hr; rw [e2] at h2
        obtain ⟨q1, q2⟩ := nt t h2
        exact hx.nw (by rw [q1, q2]) ht
      · have h2 := hy.tcw ht; rw [e2] at h2
        exact hx.nr (nt t h2).1 hr
    · rename_i ts e1 e2
      have nt := newTo_ok h
      refine ⟨fun t ht => ?_, fun t ht hr => ?_⟩
      · have h2 := hx.tcw ht; rw [e1] at h2
        obtain ⟨q1, q2⟩ := nt t h2
        exact ⟨hy.nw (by rw [q1, q2]), hy.nr q1⟩
      · have h2 := hx.tcr hr; rw [e1] at h2
        obtain ⟨q1, q2⟩ := nt t h2
        exact hy.nw (by rw [q1, q2]) ht
    · cases h
end
theorem okWith_ok {bf : List Nat} {x : FE} : ∀ {l : List FE}, okWith bf x l = true → ∀ y ∈ l, (bf.getD x.i 0).testBit y.i = true ∨ indFt y x = true
  | [], _, y, h => by cases h
  | z :: l, h, y, hy => by
    simp only [okWith, Bool.and_eq_true, Bool.or_eq_true] at h
    rcases List.mem_cons.1 hy with rfl | hy
    · exact h.1
    · exact okWith_ok h.2 y hy
theorem okAcc_ok {bf : List Nat} : ∀ {l : List FE}, okAcc bf l = true → l.Pairwise fun x y => (bf.getD x.i 0).testBit y.i = true ∨ indFt y x = true
  | [], _ => .nil
  | x :: l, h => by
    simp only [okAcc, Bool.and_eq_true] at h
    exact .cons (okWith_ok h.1) (okAcc_ok h.2)
theorem okAcc_two {bf : List Nat} {fes : List FE} (h : okAcc bf ((fes.filter isT).reverse ++ []) = true) {i j : Nat} {x y : FE} (hij : i < j) (hx : fes[i]? = some x) (hy : fes[j]? = some y) : (bf.getD y.i 0).testBit x.i = true ∨ x.ft = .n ∨ y.ft = .n ∨ indFt x y = true := by
  have h1 := okAcc_ok h
  rw [List.append_nil, List.pairwise_reverse, List.pairwise_filter] at h1
  obtain ⟨hi, ex⟩ := List.getElem?_eq_some_iff.1 hx
  obtain ⟨hj, ey⟩ := List.getElem?_eq_some_iff.1 hy
  have h2 := List.pairwise_iff_getElem.1 h1 i j hi hj hij
  rw [ex, ey] at h2
  have nT : ∀ {z : FE}, z.ft ≠ .n → isT z = true := fun {z} hz => by
    unfold isT
    split
    · rename_i e; exact absurd e hz
    · rfl
  by_cases e1 : x.ft = .n
  · exact .inr (.inl e1)
  · by_cases e2 : y.ft = .n
    · exact .inr (.inr (.inl e2))
    · rcases h2 (nT e1) (nT e2) with h3 | h3
      · exact .inl h3
      · exact .inr (.inr (.inr h3))
structure IndS (ops : List Oper) (x y : Oper) : Prop where
  s1 : ∀ k, x.dst = some k → y.dst ≠ some k ∧ k ∉ reads ops.toArray y
  s2 : ∀ k, y.dst = some k → k ∉ reads ops.toArray x
theorem okSlot_ok {ops : List Oper} {x y : Oper} (h : okSlot ops x y = true) : IndS ops x y := by
  unfold okSlot at h
  split at h
  · rename_i hx
    split at h
    · rename_i hy
      exact ⟨fun k hk => (by rw [hx] at hk; cases hk), fun k hk => (by rw [hy] at hk; cases hk)⟩
    · rename_i e hy
      exact ⟨fun k hk => (by rw [hx] at hk; cases hk), fun k hk => (by rw [hy] at hk; cases hk; exact memN_not.1 h)⟩
  · rename_i d hx
    simp only [Bool.and_eq_true] at h
    obtain ⟨h1, h2⟩ := h
    split at h2
    · rename_i hy
      exact ⟨fun k hk => (by rw [hx] at hk; cases hk; exact ⟨by rw [hy]; simp, memN_not.1 h1⟩), fun k hk => (by rw [hy] at hk; cases hk)⟩
    · rename_i e hy
      simp only [Bool.and_eq_true, Bool.not_eq_true'] at h2
      refine ⟨fun k hk => ?_, fun k hk => ?_⟩
      · rw [hx] at hk; cases hk
        refine ⟨?_, memN_not.1 h1⟩
        rw [hy]
        intro q
        cases q
        have := h2.1
        simp at this
      · rw [hy] at hk; cases hk
        exact memN_not.1 (by rw [h2.2]; rfl)
theorem okSlF_ok {ops : List Oper} {bf : List Nat} {x : Oper} {i : Nat} : ∀ {l : List Oper} {j : Nat}, okSlF ops bf x i l j = true → ∀ k y, l[k]? = some y → (bf.getD (j + k) 0).testBit i = true ∨ IndS ops x y
  | [], j, _, k, y, h => by simp at h
  | z :: l, j, h, k, y, hy => by
    simp only [okSlF, Bool.and_eq_true, Bool.or_eq_true] at h
    cases k with
    | zero => simp at hy; subst hy; exact h.1.imp id okSlot_ok
    | succ k =>
      have := okSlF_ok h.2 k y (by simpa using hy)
      rwa [show Nat.succ j + k = j + (k + 1) by omega] at this
theorem okSls_ok {ops : List Oper} {bf : List Nat} : ∀ {l : List Oper} {i : Nat}, okSls ops bf l i = true → ∀ a b x y, a < b → l[a]? = some x → l[b]? = some y → (bf.getD (i + b) 0).testBit (i + a) = true ∨ IndS ops x y
  | [], i, _, a, b, x, y, _, hx, _ => by simp at hx
  | z :: l, i, h, a, b, x, y, hab, hx, hy => by
    simp only [okSls, Bool.and_eq_true] at h
    obtain ⟨b, rfl⟩ : ∃ b', b = b' + 1 := ⟨b - 1, by omega⟩
    cases a with
    | zero =>
      simp at hx hy; subst hx
      have := okSlF_ok h.1 b y hy
      rwa [show Nat.succ i + b = i + (b + 1) by omega] at this
    | succ a =>
      have := okSls_ok h.2 a b x y (by omega) (by simpa using hx) (by simpa using hy)
      rwa [show Nat.succ i + b = i + (b + 1) by omega, show Nat.succ i + a = i + (a + 1) by omega] at this
section
variable {P : Program} {ρ : Rho} {s : Tr SV} {m : Mem} {nx : Nat} {pc : PC} {call : CallT} {n : Nat}
def HokD (ops : List Oper) (bf : List Nat) (tr : List TE) : Prop := (okAft ops.toArray && okBf ops.toArray bf) = true ∧ ∀ (i j : Nat) (x y : TE), i < j → tr[i]? = some x → tr[j]? = some y → (bf.getD j 0).testBit i = true ∨ Indep ops.toArray x y
theorem exR_yl (hc : CallSp P ρ call) {ops : List Oper} {draw : Bool} (hs : Sat ρ pc) : Yl (fun K => exR P call ops draw s m nx pc fun s m nx pc => K ⟨s, m, nx, pc⟩) fun r => ∃ tr, TrOk P ρ ops.toArray n ops s m nx r tr ∧ (draw = true → HokD ops (bfOf ops) tr) := by
  unfold exR
  split
  · exact (exS_yl hc hs).mono fun r ⟨tr, h⟩ => ⟨tr, h, fun h => by cases h⟩
  · split
    · rename_i hf
      simp only [okForm, Bool.and_eq_true] at hf
      refine Yl.bind (α := OS × List FE) (β := OS) (F := fun K => exD P call ops ops 0 s m nx pc [] fun s m nx pc acc => K (⟨s, m, nx, pc⟩, acc)) (G := fun r K => match okAcc (bfOf ops) r.2 with
        | true => K ⟨r.1.s, r.1.m, r.1.nx, r.1.pc⟩
        | false => false) (exD_yl (n := n) hc hs) fun r hr => ?_
      obtain ⟨tr, fes, htr, hfe, hacc⟩ := hr
      split
      · rename_i ha
        rw [hacc] at ha
        refine Yl.pure (α := OS) _ ⟨tr, htr, fun _ => ⟨by simp [hf.1.1, hf.1.2], fun i j x y hij hx hy => ?_⟩⟩
        obtain ⟨a, a1, a2⟩ := hfe.get hx
        obtain ⟨b, b1, b2⟩ := hfe.get hy
        have o1 : ops[i]? = some x.o := by rw [← htr.os, List.getElem?_map, hx]; rfl
        have o2 : ops[j]? = some y.o := by rw [← htr.os, List.getElem?_map, hy]; rfl
        have k1 := okAcc_two ha hij a1 b1
        rw [a2.i, b2.i, Nat.zero_add, Nat.zero_add] at k1
        have k2 := okSls_ok hf.2 i j _ _ hij o1 o2
        rw [Nat.zero_add, Nat.zero_add] at k2
        rcases k1 with k1 | k1
        · exact .inl k1
        · rcases k2 with k2 | k2
          · exact .inl k2
          · have k3 := indFt_ok a2 b2 k1
            exact .inr ⟨k2.s1, k2.s2, k3.m1, k3.m2⟩
      · exact Yl.no
    · exact Yl.no
structure At (ρ : Rho) (n : Nat) (s : Tr SV) (m : Mem) (a : Act) (w : World) (θ : Th) : Prop where
  defers : a.defers = []
  size : a.tmps.size = n
  slot : ∀ k sv, s.get k = some sv → den ρ θ sv = some (get a k)
  mem : MemOk ρ θ m.get w
theorem region_ok {ops : Array Oper} {draw : Bool} {id : Nat} {r : OS} {tr : List TE} {Q : Exit → Act → World → Prop} {a : Act} {w : World} {θ : Th} (hm : P.follows .mixedOrders = true) (hdst : ∀ o ∈ ops.toList, ∀ d, o.dst = some d → d < n)
    (htr : TrOk P ρ ops n ops.toList s m nx r tr) (hd : draw = true → HokD ops.toList (bfOf ops.toList) tr) (hA : At ρ n s m a w θ) (hfr : ∀ t, nx ≤ t → t < r.nx → θ t = none)
    (fin : ∀ a' w' θ', At ρ n r.s r.m a' w' θ' → SP ρ nx r.nx θ m.get w θ' r.m.get w' → Q .normal a' w') : (Code.region id ops draw).wp P Q a w := by
  have e : (tr.map (·.o)).toArray = ops := by rw [htr.os]
  have := region_tr (P := P) (ρ := ρ) (n := n) (nx := nx) (S := s.get) (M := m.get) (tr := tr) (a := a) (w := w) (θ := θ) (bf := bfOf ops.toList) (id := id) (draw := draw) (Q := Q) hm hA.defers hA.size hA.slot hA.mem (by rw [htr.fn]; exact hfr) (fun h => by
    rw [e]
    have := hd h
    unfold HokD at this
    exact this) (fun x hx d hxd => hdst x.o (by rw [← htr.os]; exact List.mem_map_of_mem hx) d hxd) (by rw [e]; exact htr.st) fun a' w' θ' h1 h2 h3 h4 => by
    have e1 : finS s.get tr = r.s.get := htr.fs 0
    have e2 : finM m.get tr = r.m.get := htr.fm 0
    rw [e1] at h3
    rw [e2, htr.fn] at h4
    exact fin a' w' θ' ⟨h1, h2, h3, h4.mem⟩ h4
  rwa [e] at this
end
end X
end Go.Proofs.YtebfahobllghnaaGreatDoor
namespace Go.Proofs.YtebfahobllghnaaGreatDoor
namespace X
open Go.RowKit B
def LoopWp (P : Program) (c : Code) (Q : Exit → Act → World → Prop) (a : Act) (w : World) : Prop :=
  ∀ (b : Frame) (k : List Item) (cs : List Frame), ∃ e a' w', Q e a' w' ∧ Arrives P (lone (b.at a (.code c :: .inLoop c :: k)) cs w) b k cs e a' w'
theorem loop_of {P : Program} {c : Code} {Q : Exit → Act → World → Prop} {a : Act} {w : World} (h : LoopWp P c Q a w) : (Code.loop c).wp P Q a w := fun b k cs => by
  obtain ⟨e, a', w', hq, harr⟩ := h b k cs
  exact ⟨e, a', w', hq, .of_steps (.one step_loop) harr⟩
theorem loop_step {P : Program} {c : Code} {Q : Exit → Act → World → Prop} {a : Act} {w : World} (h : c.wp P (Exit.then (LoopWp P c Q) Q) a w) : LoopWp P c Q a w := fun b k cs => by
  obtain ⟨e, a₁, w₁, hq, harr⟩ := h b (.inLoop c :: k) cs
  cases e with
  | normal =>
    obtain ⟨e₂, a₂, w₂, hq₂, harr₂⟩ := hq b k cs
    exact ⟨e₂, a₂, w₂, hq₂, .of_steps (Steps.trans harr (.one step_inLoop)) harr₂⟩
  | exit id => exact ⟨_, a₁, w₁, hq, .pass (x := .inLoop c) rfl (fun _ _ => .inl (by simp)) harr⟩
  | goto l => exact ⟨_, a₁, w₁, hq, .pass (x := .inLoop c) rfl (fun _ _ => .inl (by simp)) harr⟩
  | ret => exact ⟨_, a₁, w₁, hq, .pass (x := .inLoop c) rfl (fun _ _ => .inl (by simp)) harr⟩
  | panic ch => exact ⟨_, a₁, w₁, hq, .pass (x := .inLoop c) rfl (fun _ _ => .inl (by simp)) harr⟩
  | outgrown => exact ⟨_, a₁, w₁, hq, .pass (x := .inLoop c) rfl (fun _ _ => .inl (by simp)) harr⟩
theorem LoopWp.mono {P : Program} {c : Code} {Q Q' : Exit → Act → World → Prop} {a : Act} {w : World} (h : LoopWp P c Q a w) (hq : ∀ e a w, Q e a w → Q' e a w) : LoopWp P c Q' a w := fun b k cs => by
  obtain ⟨e, a', w', q, r⟩ := h b k cs
  exact ⟨e, a', w', hq _ _ _ q, r⟩
def Goes (P : Program) (c : Code) (Q : Exit → Act → World → Prop) (a : Act) (w : World) : Prop := match c with
  | .loop c => LoopWp P c Q a w
  | c => c.wp P Q a w
theorem Goes.wp {P : Program} {c : Code} {Q : Exit → Act → World → Prop} {a : Act} {w : World} (h : Goes P c Q a w) : c.wp P Q a w := by
  cases c with
  | loop c => exact loop_of h
  | _ => exact h
theorem Goes.mono {P : Program} {c : Code} {Q Q' : Exit → Act → World → Prop} {a : Act} {w : World} (h : Goes P c Q a w) (hq : ∀ e a w, Q e a w → Q' e a w) : Goes P c Q' a w := by
  cases c with
  | loop c => exact LoopWp.mono h hq
  | _ => exact wp_mono (c := _) h hq
def exIs : AX → Exit → Prop
  | .normal, e => e = .normal
  | .exit i, e => e = .exit i
  | .ret, e => e = .ret
def EPost (ρ : Rho) (n : Nat) (m : Mem) (nx : Nat) (w : World) (θ : Th) (r : AX × OS) (e : Exit) (a' : Act) (w' : World) : Prop := exIs r.1 e ∧ ∃ θ', At ρ n r.2.s r.2.m a' w' θ' ∧ SP ρ nx r.2.nx θ m.get w θ' r.2.m.get w'
structure EvR (P : Program) (ρ : Rho) (n : Nat) (c : Code) (s : Tr SV) (m : Mem) (nx : Nat) (r : AX × OS) : Prop where
  pc : Sat ρ r.2.pc
  le : nx ≤ r.2.nx
  new : ∀ t, m.get t = none → r.2.m.get t ≠ none → nx ≤ t ∧ t < r.2.nx
  run : ∀ (a : Act) (w : World) (θ : Th), At ρ n s m a w θ → (∀ t, nx ≤ t → t < r.2.nx → θ t = none) → Goes P c (EPost ρ n m nx w θ r) a w
def EvSp (P : Program) (ρ : Rho) (E : Code → Tr SV → Mem → Nat → PC → KC → Bool) : Prop := ∀ n c s m nx pc, Sat ρ pc → dstOk n c = true → Yl (fun K => E c s m nx pc fun e s m nx pc => K (e, ⟨s, m, nx, pc⟩)) (EvR P ρ n c s m nx)
section
variable {P : Program} {ρ : Rho} {s : Tr SV} {m : Mem} {nx : Nat} {pc : PC} {n : Nat} {c c1 c2 : Code} {r : AX × OS}
theorem EvR.stay {e : AX} (hs : Sat ρ pc) (h : ∀ (a : Act) (w : World) (Q : Exit → Act → World → Prop), (∀ e', exIs e e' → Q e' a w) → Goes P c Q a w) : EvR P ρ n c s m nx (e, ⟨s, m, nx, pc⟩) :=
  ⟨hs, Nat.le_refl _, fun t h1 h2 => absurd h1 h2, fun a w θ hA _ => h a w _ fun e' he => ⟨he, θ, hA, SP.refl hA.mem⟩⟩
theorem EvR.join {o : OS} (h1 : EvR P ρ n c1 s m nx (.normal, o)) (h2 : EvR P ρ n c2 o.s o.m o.nx r) (hg : ∀ (a : Act) (w : World) (Q : Exit → Act → World → Prop), c1.wp P (Exit.then (fun a w => Goes P c2 Q a w) Q) a w → Goes P c Q a w) : EvR P ρ n c s m nx r := by
  have l1 := h1.le
  have l2 := h2.le
  simp only at l1
  refine ⟨h2.pc, Nat.le_trans l1 l2, fun t e1 e2 => ?_, fun a w θ hA hfr => hg a w _ (wp_mono (h1.run a w θ hA fun t q1 q2 => hfr t q1 (by simp only at q2; omega)).wp fun e a' w' hp => ?_)⟩
  · by_cases e3 : o.m.get t = none
    · have := h2.new t e3 e2; exact ⟨by omega, this.2⟩
    · have := h1.new t e1 e3; simp only at this; exact ⟨this.1, by omega⟩
  · obtain ⟨he, θ', hA', hsp⟩ := hp
    cases he
    refine (h2.run a' w' θ' hA' fun t q1 q2 => ?_).mono fun e a2 w2 ⟨he2, θ2, hA2, hsp2⟩ => ⟨he2, θ2, hA2, hsp.trans hsp2 l1 l2⟩
    cases hb : θ' t with
    | none => rfl
    | some u =>
      exfalso
      rcases hsp.new t (by rw [hb]; simp) with q | q
      · exact q (hfr t (by omega) q2)
      · simp only at q; omega
theorem EvR.cut {o : OS} {e : AX} (h1 : EvR P ρ n c1 s m nx (e, o)) (he : e ≠ .normal) (hg : ∀ (a : Act) (w : World) (Q Q' : Exit → Act → World → Prop), c1.wp P Q' a w → (∀ e' a w, exIs e e' → Q' e' a w → Q e' a w) → (∀ e' a w, Q' e' a w → exIs e e') → Goes P c Q a w) : EvR P ρ n c s m nx (e, o) :=
  ⟨h1.pc, h1.le, h1.new, fun a w θ hA hfr => hg a w _ _ (h1.run a w θ hA hfr).wp (fun e' a w _ h => h) fun e' a w h => h.1⟩
theorem then_cut {e : AX} (he : e ≠ .normal) {K : Act → World → Prop} {Q Q' : Exit → Act → World → Prop} (h1 : ∀ e' a w, exIs e e' → Q' e' a w → Q e' a w) (h2 : ∀ e' a w, Q' e' a w → exIs e e') : ∀ e' a w, Q' e' a w → Exit.then K Q e' a w := fun e' a w h => by
  have := h2 _ _ _ h
  cases e with
  | normal => exact absurd rfl he
  | exit i => have e3 : e' = .exit i := this; subst e3; exact h1 _ _ _ this h
  | ret => have e3 : e' = .ret := this; subst e3; exact h1 _ _ _ this h
theorem argC_yl : ∀ {l : List SV} {i : Nat} {s : Tr SV}, Yl (argC l i s) fun s' => ∀ j v, s'.get j = some v → (i ≤ j ∧ l[j - i]? = some v) ∨ s.get j = some v
  | [], i, s => Yl.pure _ fun j v hj => .inr hj
  | x :: l, i, s => by
    have e : argC (x :: l) i s = fun K => s.set i (some x) fun s => argC l (Nat.succ i) s K := rfl
    rw [e]
    refine Yl.bind set_yl fun s1 h1 => argC_yl.mono fun s' h2 j v hj => ?_
    rcases h2 j v hj with ⟨h3, h4⟩ | h3
    · refine .inl ⟨by omega, ?_⟩
      rw [show j - i = (j - Nat.succ i) + 1 by omega]
      simpa using h4
    · rw [h1] at h3
      split at h3
      · rename_i e; subst e; cases h3; exact .inl ⟨Nat.le_refl _, by simp⟩
      · exact .inr h3
def resM (a : Act) : ResultVar → Sem Value
  | .tmp t => pure (a.tmps.getD t undef)
  | .cell b t => do loadVar t (← asAddr (a.tmps.getD b undef))
theorem loadVar_yl {t : Nat} {y : Ty} (ok : TyOk P t y) {g ty off : Nat} {cs : List SV} {ex : Bool} (hg : m.get g = some (.ce ty cs ex)) : Yl (partC y cs off) fun v => ∀ (w : World) (θ : Th), MemOk ρ θ m.get w → ∃ q u, θ g = some q ∧ den ρ θ v = some u ∧ (loadVar t ⟨q.1, off, none⟩).run P w = .ok u w := by
  unfold partC
  split
  · rename_i hag
    refine Yl.map (fun l => SV.ag l) segC_yl fun l hl w θ hM => ?_
    obtain ⟨q, c, vs, h1, h2, h3, h4, h5⟩ := (hM.holds _ _ hg).cells
    have hlen := dens_len h2
    refine ⟨_, .agg ((vs.drop off).take y.sz).toArray, h1, by simp [den, hl.2, dens_take _ (dens_drop _ h2)], ?_⟩
    simp only [loadVar, Sem.run_bind, ok.isAgg, hag, Result.andThen_ok, if_true, ok.size, loadCells]
    have hl2 : ((vs.drop off).take y.sz).length = y.sz := by simp; omega
    have := B.run_loadCellsFrom (P := P) (w := w) ((vs.drop off).take y.sz) ⟨q, off, none⟩ 0 #[] fun j u hj => by
      rw [Nat.zero_add, cell_at]
      refine h4 _ u ?_
      have hj1 : j < y.sz := by have := (List.getElem?_eq_some_iff.1 hj).1; simp at this; omega
      rw [List.getElem?_take_of_lt hj1, List.getElem?_drop] at hj
      exact hj
    rw [hl2] at this
    rw [this]
    simp
  · rename_i hag
    refine nthC_yl.mono fun v hu w θ hM => ?_
    obtain ⟨q, c, vs, h1, h2, h3, h4, h5⟩ := (hM.holds _ _ hg).cells
    obtain ⟨u', g1, g2⟩ := dens_get h2 hu
    refine ⟨_, u', h1, g2, ?_⟩
    have hc := h4 _ _ g1
    simp [loadVar, ok.isAgg, hag, load, Sem.run, hc]
theorem resC_yl : ∀ {rs : List ResultVar}, Yl (resC P s m rs) fun vs => ∀ (a : Act) (w : World) (θ : Th), At ρ n s m a w θ → ∃ us, dens ρ θ vs = some us ∧ (rs.mapM (resM a)).run P w = .ok us w
  | [] => Yl.pure _ fun a w θ _ => ⟨[], rfl, by simp⟩
  | .tmp t :: l => by
    have e : resC P s m (.tmp t :: l) = fun K => match s.get t with
      | some v => resC P s m l fun r => K (v :: r)
      | none => false := rfl
    rw [e]
    split
    · rename_i v hv
      refine Yl.map (fun r => v :: r) resC_yl fun vs h a w θ hA => ?_
      obtain ⟨us, h1, h2⟩ := h a w θ hA
      refine ⟨B.get a t :: us, by simp [dens, hA.slot t v hv, h1], ?_⟩
      rw [List.mapM_cons]
      simp only [resM, Sem.run_bind, Sem.run_pure, Result.andThen_ok, h2]
      rfl
    · exact Yl.no
  | .cell b t :: l => by
    have e : resC P s m (.cell b t :: l) = fun K => match mkTy P t, s.get b with
      | some y, some (.p g off) => match m.get g with
        | some (.ce _ cs _) => partC y cs off fun v => resC P s m l fun r => K (v :: r)
        | _ => false
      | _, _ => false := rfl
    rw [e]
    split
    · rename_i y g off hy hv
      obtain ⟨ok⟩ := mkTy_ok hy
      split
      · rename_i ty cs ex hg
        refine Yl.bind (loadVar_yl (ρ := ρ) ok hg) fun v h0 => ?_
        refine Yl.map (fun r => v :: r) resC_yl fun vs h a w θ hA => ?_
        obtain ⟨us, h1, h2⟩ := h a w θ hA
        obtain ⟨q, u, h3, h4, h5⟩ := h0 w θ hA.mem
        have h6 := hA.slot b _ hv
        simp only [den, h3, Option.map_some, Option.some.injEq] at h6
        refine ⟨u :: us, by simp [dens, h4, h1], ?_⟩
        have e3 : a.tmps.getD b undef = .pointer (some ⟨q.1, off, none⟩) := h6.symm
        rw [List.mapM_cons]
        simp only [resM, Sem.run_bind, e3, asAddr, Sem.run_pure, Result.andThen_ok, h5, h2]
      · exact Yl.no
    · exact Yl.no
def oneVal : List Value → Value
  | [u] => u
  | us => .tuple us.toArray
theorem run_results {fn : Func} {a : Act} {w : World} {us : List Value} (h : (fn.results.toList.mapM (resM a)).run P w = .ok us w) :
    (results fn a.tmps).run P w = .ok (oneVal us) w := by
  have e : results fn a.tmps = (fn.results.mapM (resM a)) >>= fun vs => pure (if h : vs.size = 1 then vs[0] else .tuple vs) := rfl
  simp only [e, Sem.run_bind, Array.mapM_eq_mapM_toList, Sem.run_map, h, Result.andThen_ok, Sem.run_pure]
  match us with
  | [] => rfl
  | [u] => rfl
  | u :: u' :: l => simp [oneVal]
theorem retV_den {θ : Th} {vs : List SV} {us : List Value} (h : dens ρ θ vs = some us) : den ρ θ (retV vs) = some (oneVal us) := by
  have hl := dens_len h
  match vs, us, hl with
  | [], [], _ => rfl
  | [v], [u], _ => simp only [dens, Option.bind_eq_some_iff, Option.map_eq_some_iff, Option.some.injEq] at h; obtain ⟨u', h1, us', rfl, h2⟩ := h; cases h2; exact h1
  | v :: v' :: l, u :: u' :: l', _ => simp only [retV, oneVal, den, h, Option.map_some]
def SumOk (P : Program) (ρ : Rho) (sm : SumT) : Prop := ∀ f h, sm f = some h → ∀ args m nx pc, Sat ρ pc → Yl (fun K => h args m nx pc fun v m nx pc => K ⟨v, m, nx, pc⟩) (CallR P ρ f args m nx)
theorem enter_run {f : Nat} {fn : Func} {c : Code} (hf : P.funcs[f]? = some fn) (hn : (fn.name == "runtime.NumGoroutine") = false) (hb : fn.body = some c) (args : Array Value) (w : World) : (callFunc f args).run P w = .ok (.enter f args) w := by
  have h3' : fn.body.isNone = false := by rw [hb]; rfl
  simp only [callFunc, Sem.run_bind, run_program, Result.andThen_ok, hf, hn, h3', Bool.false_eq_true, if_false, Sem.run_pure]
theorem callBy_yl {sm : SumT} {E : Code → Tr SV → Mem → Nat → PC → KC → Bool} (hsm : SumOk P ρ sm) (hE : EvSp P ρ E) : CallSp P ρ (callBy P sm E) := fun f args m nx pc hs => by
  unfold callBy
  split
  · rename_i h hh
    exact hsm f h hh args m nx pc hs
  · split
    · rename_i fn hf
      split
      · rename_i c hb
        split
        · rename_i hok
          simp only [Bool.and_eq_true, Bool.not_eq_true', Nat.ble_eq] at hok
          obtain ⟨⟨k1, k2⟩, k3⟩ := hok
          refine Yl.bind argC_yl fun s0 hs0 => ?_
          refine Yl.bind (α := AX × OS) (β := O4) (F := fun K => E c s0 m nx pc fun e s m nx pc => K (e, ⟨s, m, nx, pc⟩)) (G := fun r K => match r.1 with
            | .exit _ => false
            | _ => resC P r.2.s r.2.m fn.results.toList fun vs => K ⟨retV vs, r.2.m, r.2.nx, r.2.pc⟩) (hE fn.ntmps c s0 m nx pc hs k3) fun r hr => ?_
          have fin : Yl (fun K => resC P r.2.s r.2.m fn.results.toList fun vs => K (⟨retV vs, r.2.m, r.2.nx, r.2.pc⟩ : O4)) (fun q => ((r.1 = .normal ∨ r.1 = .ret) → CallR P ρ f args m nx q)) := by
            refine Yl.map (fun vs => (⟨retV vs, r.2.m, r.2.nx, r.2.pc⟩ : O4)) (resC_yl (ρ := ρ) (n := fn.ntmps)) fun vs hvs hre => ⟨enter_run hf k1 hb, hr.pc, hr.le, hr.new, fun w θ us hus hM hfr => ?_⟩
            have hlen := dens_len hus
            refine calls_of_wp hf hb (wp_mono (hr.run _ w θ ⟨rfl, ?_, fun k sv hk => ?_, hM⟩ hfr).wp fun e a w' ⟨he, θ', hA, hsp⟩ => ?_)
            · show (us.toArray ++ Array.replicate (fn.ntmps - us.toArray.size) undef).size = fn.ntmps
              simp [hlen]; omega
            · rcases hs0 k sv hk with ⟨_, h1⟩ | h1
              · rw [Nat.sub_zero] at h1
                obtain ⟨u, h2, h3⟩ := dens_get hus h1
                rw [h3]
                have hlt := (List.getElem?_eq_some_iff.1 h2).1
                show _ = some ((us.toArray ++ Array.replicate (fn.ntmps - us.toArray.size) undef).getD k undef)
                rw [Array.getD_eq_getD_getElem?, Array.getElem?_append_left (by simpa using hlt)]
                simp [h2]
              · simp [Tr.get] at h1
            · obtain ⟨us', h1, h2⟩ := hvs a w' θ' hA
              have post : a.defers = [] ∧ ∃ v, (results fn a.tmps).run P w' = .ok v w' ∧ ∃ v' θ'', Ending.returned v = .returned v' ∧ SP ρ nx r.2.nx θ m.get w θ'' r.2.m.get w' ∧ den ρ θ'' (retV vs) = some v' :=
                ⟨hA.defers, _, run_results h2, _, θ', rfl, hsp, retV_den h1⟩
              rcases hre with h | h <;> rw [h] at he <;> cases he <;> exact post
          split
          · exact Yl.no
          · rename_i h1
            refine fin.mono fun q hq => hq ?_
            cases hr1 : r.1 with
            | normal => exact .inl rfl
            | exit i => exact absurd hr1 (h1 i)
            | ret => exact .inr rfl
        · exact Yl.no
      · exact Yl.no
    · exact Yl.no
theorem ev_yl (hm : P.follows .mixedOrders = true) {sm : SumT} (hsm : SumOk P ρ sm) : ∀ f, EvSp P ρ (ev P sm f)
  | 0 => fun n c s m nx pc hs hd => Yl.no
  | f + 1 => fun n c s m nx pc hs hd => by
    have ih := ev_yl hm hsm f
    cases c with
    | skip => exact Yl.pure (AX.normal, (⟨s, m, nx, pc⟩ : OS)) (EvR.stay hs fun a w Q hq => wp_skip (hq _ rfl))
    | label l => exact Yl.pure (AX.normal, (⟨s, m, nx, pc⟩ : OS)) (EvR.stay hs fun a w Q hq => wp_label (hq _ rfl))
    | exit i => exact Yl.pure (AX.exit i, (⟨s, m, nx, pc⟩ : OS)) (EvR.stay hs fun a w Q hq => wp_exit (hq _ rfl))
    | ret => exact Yl.pure (AX.ret, (⟨s, m, nx, pc⟩ : OS)) (EvR.stay hs fun a w Q hq => wp_ret (hq _ rfl))
    | region id ops draw =>
      have hdst : ∀ o ∈ ops.toList, ∀ d, o.dst = some d → d < n := fun o ho d hod => by
        simp only [dstOk, List.all_eq_true] at hd
        have := hd o ho
        rw [hod] at this
        exact Nat.le_of_ble_eq_true this
      refine Yl.map (F := fun K => exR P (callBy P sm (ev P sm f)) ops.toList draw s m nx pc fun s m nx pc => K ⟨s, m, nx, pc⟩) (fun o : OS => (AX.normal, o)) (exR_yl (n := n) (callBy_yl hsm ih) hs) fun r ⟨tr, htr, hdr⟩ => ?_
      exact ⟨htr.pc, htr.le, htr.new, fun a w θ hA hfr => region_ok hm hdst htr hdr hA hfr fun a' w' θ' hA' hsp => ⟨rfl, θ', hA', hsp⟩⟩
    | seq x y =>
      simp only [dstOk, Bool.and_eq_true] at hd
      refine Yl.bind (α := AX × OS) (β := AX × OS) (F := fun K => ev P sm f x s m nx pc fun e s m nx pc => K (e, ⟨s, m, nx, pc⟩)) (G := fun r K => match r.1 with
        | .normal => ev P sm f y r.2.s r.2.m r.2.nx r.2.pc fun e s m nx pc => K (e, ⟨s, m, nx, pc⟩)
        | e => K (e, r.2)) (ih n x s m nx pc hs hd.1) fun r hr => ?_
      obtain ⟨e, o⟩ := r
      cases e with
      | normal => exact (ih n y o.s o.m o.nx o.pc hr.pc hd.2).mono fun r2 hr2 => hr.join hr2 fun a w Q h => wp_seq (wp_mono h fun e a w h => by cases e <;> first | exact Goes.wp h | exact h)
      | exit i => exact Yl.pure (α := AX × OS) _ (hr.cut (by simp) fun a w Q Q' h h1 h2 => wp_seq (wp_mono h (then_cut (by simp) h1 h2)))
      | ret => exact Yl.pure (α := AX × OS) _ (hr.cut (by simp) fun a w Q Q' h h1 h2 => wp_seq (wp_mono h (then_cut (by simp) h1 h2)))
    | cond x a b =>
      simp only [dstOk, Bool.and_eq_true] at hd
      refine Yl.bind (evO_yl (ρ := ρ)) fun v hv => ?_
      have ev' : ∀ {t : Bool}, v = .b t → ∀ {act : Act} {w : World} {θ : Th}, At ρ n s m act w θ → act.eval x = .bool t := fun {t} ht {act w θ} hA => by
        have := hv θ act fun k _ sv hk => hA.slot k sv hk
        rw [ht] at this
        exact (Option.some.inj this).symm
      split
      · rename_i t
        split
        · exact (ih n a s m nx pc hs hd.1).mono fun r hr => ⟨hr.pc, hr.le, hr.new, fun act w θ hA hfr => wp_cond_true (ev' rfl hA) (hr.run act w θ hA hfr).wp⟩
        · exact (ih n b s m nx pc hs hd.2).mono fun r hr => ⟨hr.pc, hr.le, hr.new, fun act w θ hA hfr => wp_cond_false (ev' rfl hA) (hr.run act w θ hA hfr).wp⟩
      · exact Yl.no
    | block id x =>
      simp only [dstOk] at hd
      refine Yl.bind (α := AX × OS) (β := AX × OS) (F := fun K => ev P sm f x s m nx pc fun e s m nx pc => K (e, ⟨s, m, nx, pc⟩)) (G := fun r K => match r.1 with
        | .exit i => match Nat.beq i id with
          | true => K (.normal, r.2)
          | false => K (.exit i, r.2)
        | e => K (e, r.2)) (ih n x s m nx pc hs hd) fun r hr => ?_
      obtain ⟨e, o⟩ := r
      have go : ∀ (e' : AX), (∀ (Q : Exit → Act → World → Prop) e1 a w, exIs e e1 → (∀ e2, exIs e' e2 → Q e2 a w) → Exit.inBlock id Q e1 a w) → EvR P ρ n (.block id x) s m nx (e', o) := fun e' h =>
        ⟨hr.pc, hr.le, hr.new, fun a w θ hA hfr => wp_block (wp_mono (hr.run a w θ hA hfr).wp fun e1 a w ⟨he, hp⟩ => h _ e1 a w he fun e2 he2 => ⟨he2, hp⟩)⟩
      cases e with
      | normal => exact Yl.pure (α := AX × OS) _ (go .normal fun Q e1 a w h1 h2 => by cases h1; exact h2 _ rfl)
      | ret => exact Yl.pure (α := AX × OS) _ (go .ret fun Q e1 a w h1 h2 => by cases h1; exact h2 _ rfl)
      | exit i =>
        show Yl (fun K => match Nat.beq i id with
          | true => K (AX.normal, o)
          | false => K (.exit i, o)) _
        split
        · rename_i hb
          refine Yl.pure (α := AX × OS) _ (go .normal fun Q e1 a w h1 h2 => ?_)
          cases h1
          simp only [Exit.inBlock]
          rw [if_pos (Nat.eq_of_beq_eq_true hb)]
          exact h2 _ rfl
        · rename_i hb
          refine Yl.pure (α := AX × OS) _ (go (.exit i) fun Q e1 a w h1 h2 => ?_)
          cases h1
          simp only [Exit.inBlock]
          rw [if_neg (Nat.ne_of_beq_eq_false hb)]
          exact h2 _ rfl
    | loop x =>
      refine Yl.bind (α := AX × OS) (β := AX × OS) (F := fun K => ev P sm f x s m nx pc fun e s m nx pc => K (e, ⟨s, m, nx, pc⟩)) (G := fun r K => match r.1 with
        | .normal => ev P sm f (.loop x) r.2.s r.2.m r.2.nx r.2.pc fun e s m nx pc => K (e, ⟨s, m, nx, pc⟩)
        | e => K (e, r.2)) (ih n x s m nx pc hs hd) fun r hr => ?_
      obtain ⟨e, o⟩ := r
      cases e with
      | normal => exact (ih n (.loop x) o.s o.m o.nx o.pc hr.pc hd).mono fun r2 hr2 => hr.join hr2 fun a w Q h => loop_step h
      | exit i => exact Yl.pure (α := AX × OS) _ (hr.cut (by simp) fun a w Q Q' h h1 h2 => loop_step (wp_mono h (then_cut (by simp) h1 h2)))
      | ret => exact Yl.pure (α := AX × OS) _ (hr.cut (by simp) fun a w Q Q' h h1 h2 => loop_step (wp_mono h (then_cut (by simp) h1 h2)))
    | _ => exact Yl.no
theorem callBy_ok (hm : P.follows .mixedOrders = true) {sm : SumT} (hsm : SumOk P ρ sm) (fuel : Nat) : CallSp P ρ (callBy P sm (ev P sm fuel)) := callBy_yl hsm (ev_yl hm hsm fuel)
end
end X
end Go.Proofs.YtebfahobllghnaaGreatDoor
namespace Go.Proofs.YtebfahobllghnaaGreatDoor
namespace X
open Go.RowKit B
variable {fa : Bool}
def findL : List (Nat × Lin) → Nat → Option Lin
  | [], _ => none
  | (j, e) :: l, i => match Nat.beq j i with
    | true => some e
    | false => findL l i
def updR (ρ : Rho) (σ : List (Nat × Lin)) : Rho := ⟨fun j => match findL σ (2 * j) with | some e => e.den ρ | none => ρ.v j, ρ.s⟩
def capEq : Cap → Cap → Bool
  | .k a, .k b => Nat.beq a b
  | .q a, .q b => Nat.beq a b
  | _, _ => false
theorem capEq_ok {a b : Cap} (h : capEq a b = true) : a = b := by
  cases a <;> cases b <;> simp [capEq] at h <;> rw [h]
section
variable {ρ : Rho} {σ : List (Nat × Lin)} {lo : Nat} {θ θr : Th}
end
def lessT (θ : Th) (lo hi : Nat) : Th := fun t => if lo ≤ t ∧ t < hi then none else θ t
section
variable {P : Program} {ρ : Rho} {σ : List (Nat × Lin)} {lo : Nat} {s s' : Tr SV} {m m' : Mem} {pc pc' : PC} {μ : Lin} {n : Nat}
structure BackR (ρ : Rho) (σ : List (Nat × Lin)) (n lo : Nat) (s : Tr SV) (m : Mem) (pc : PC) (s' : Tr SV) (m' : Mem) : Prop where
  pc : Sat (updR ρ σ) pc
  at_ : ∀ (hi : Nat) (a : Act) (w : World) (θ : Th), At ρ n s' m' a w θ → At (updR ρ σ) n s m a w (lessT θ lo hi)
  sub : ∀ t b, m.get t = some b → t < lo ∧ ∃ b', m'.get t = some b' ∧ isHb b = isHb b'
theorem BackR.own (h : BackR ρ σ n lo s m pc s' m') {θ : Th} {hi t g : Nat} (ho : Own fa (lessT θ lo hi) m.get t g) : Own fa θ m'.get t g := by
  obtain ⟨x, e, f⟩ := ho
  cases hb : m.get t with
  | none => exact absurd hb f.ne
  | some b =>
    obtain ⟨l, b', e', k⟩ := h.sub t b hb
    rw [hb] at f
    unfold lessT at e
    rw [if_neg (by omega)] at e
    exact ⟨x, e, by rw [e']; exact FtB_kind k f⟩
theorem SP.back {hi nx : Nat} {θ θ1 : Th} {w w' : World} {M0 : Nat → Option Blk} (hb : BackR ρ σ n lo s m pc s' m') {a' : Act} (hA : At ρ n s' m' a' w' θ1) (hsp : SP ρ nx hi θ M0 w θ1 m'.get w') (hlo : nx ≤ lo) (hfr : ∀ t, nx ≤ t → t < hi → θ t = none) : SP (updR ρ σ) nx lo θ M0 w (lessT θ1 lo hi) m.get w' := by
  have hA2 := hb.at_ hi a' w' θ1 hA
  refine ⟨fun t x hx => ?_, fun t ht => ?_, hA2.mem, hsp.ext, fun g hg => ?_⟩
  · unfold lessT
    split
    · rename_i q; rw [hfr t (by omega) q.2] at hx; cases hx
    · exact hsp.le t x hx
  · unfold lessT at ht
    split at ht
    · exact absurd rfl ht
    · rename_i q
      rcases hsp.new t ht with z | z
      · exact .inl z
      · refine .inr ⟨z.1, ?_⟩
        rcases Nat.lt_or_ge t lo with l | l
        · exact l
        · exact absurd ⟨l, z.2⟩ q
  · obtain ⟨t, ht⟩ := hg
    exact hsp.own g ⟨t, hb.own ht⟩
end
end X
end Go.Proofs.YtebfahobllghnaaGreatDoor
