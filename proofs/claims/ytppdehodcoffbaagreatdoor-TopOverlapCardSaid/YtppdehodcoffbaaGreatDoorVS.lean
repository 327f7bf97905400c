/-
  Bytes as strings, conversions; all operations. Over any program.
-/
import Derived.Test.YtppdehodcoffbaaGreatDoorVQ
import Derived.Laws.BytesString
set_option linter.unusedSimpArgs false
set_option linter.unusedVariables false
namespace Go.Proofs.YtppdehodcoffbaaGreatDoor
namespace X
open Go.RowKit B

section
variable {P : Program} {ρ : Rho} {o : Oper} {s : Tr SV} {m : Mem} {nx : Nat} {pc : PC} {a : Act} {w w' : World} {θ : Th}
theorem opSData_yl {x : Operand} {ts : Array TypeId} (hs : Sat ρ pc) (ho : o.op = .call { callee := .builtin .unsafeSliceData, args := #[x], argTypes := ts }) : Yl (fun K => opSData s m nx pc x fun v m nx pc ft => K ⟨v, m, nx, pc, ft⟩) (OpOk P ρ o s m nx) := by
  have hop : o.op.operands.toList = [x] := by simp [ho, Op.operands, Call.operands]
  have hex : ∀ (a : Act) (w : World) (v : Value), (Builtin.unsafeSliceData_ ts o.type #[a.eval x]).run P w = .ok v w → Runs P a o w v := fun a w v h => by
    simp [Runs, execOp, ho, resolve, invoke, builtin, h]
  unfold opSData
  refine Yl.bind (evO_yl (ρ := ρ)) fun v hv => ?_
  split
  · refine Yl.pure _ (OpOk.pure hs fun a w θ hsl => ⟨.pointer none, hex a w _ ?_, rfl⟩)
    rw [hop] at hsl
    have hx : a.eval x = .slice none 0 0 := (Option.some.inj (hsl.ev (by simp) hv)).symm
    rw [hx]; rfl
  · rename_i g off n cap
    split
    · rename_i hr
      refine Yl.pure _ (OpOk.read hs fun a w θ hsl hb => ?_)
      rw [hop] at hsl
      have hx := hsl.ev (by simp) hv
      simp only [den, Option.map_eq_some_iff] at hx
      obtain ⟨q, hq, hx⟩ := hx
      have hc := roomC_ok hr hb hq
      have hc0 : cap.den q.2 off ≠ 0 := by omega
      exact ⟨.pointer (some ⟨q.1, off, none⟩), hex a w _ (by rw [← hx]; exact Go.Lib.run_unsafeSliceData_row w ts o.type _ n _ hc0), by simp [den, hq]⟩
    · exact Yl.no
  · exact Yl.no
theorem bytesC_yl : ∀ {l : List SV}, Yl (bytesC l) fun r => ∀ (θ : Th) (us : List Value), dens ρ θ l = some us → us = (denS ρ r).map fun b => .int .u8 b.toNat
  | [] => Yl.pure [] fun θ us h => by cases h; rfl
  | .i .u8 (.ofNat n) :: l => by
    have e0 : bytesC (.i .u8 (.ofNat n) :: l) = fun K => match Nat.ble n 255 with
      | true => bytesC l fun r => K (.c n :: r)
      | false => false := rfl
    rw [e0]
    split
    · rename_i hn
      have hn := Nat.le_of_ble_eq_true hn
      have ih := bytesC_yl (l := l)
      refine Yl.map (fun r => Pc.c n :: r) ih fun r hr => ?_
      intro θ us h
      simp only [dens, den, Option.bind_some, Option.map_eq_some_iff] at h
      obtain ⟨us', h1, rfl⟩ := h
      rw [hr θ us' h1, denS_cons]
      have : (UInt8.ofNat n).toNat = n := by simp; omega
      simp only [Pc.den, List.map_append, List.map_cons, List.map_nil, List.cons_append, List.nil_append, this]
      rfl
    · exact Yl.no
  | .i .u8 (.negSucc n) :: l => Yl.no
  | .i .i8 _ :: _ | .i .i16 _ :: _ | .i .i32 _ :: _ | .i .i64 _ :: _ | .i .u16 _ :: _ | .i .u32 _ :: _ | .i .u64 _ :: _ => Yl.no
  | .x _ _ :: _ | .b _ :: _ | .s _ :: _ | .p _ _ :: _ | .np :: _ | .sl _ _ _ _ :: _ | .sb _ _ :: _ | .ns :: _ | .ag _ :: _ | .tu _ :: _ | .fn _ _ _ :: _ | .nf :: _ | .ni :: _ | .nm :: _ | .mp _ :: _ | .g _ _ :: _ | .un :: _ => Yl.no
theorem push_bytes : ∀ (ns l : List UInt8), (ns.map fun b => (b.toNat : Int)).foldl (fun (r : ByteArray) (n : Int) => r.push (UInt8.ofNat n.toNat)) (bstr l) = bstr (l ++ ns)
  | [], l => by simp
  | b :: ns, l => by
    simp only [List.map_cons, List.foldl_cons]
    have : (bstr l).push (UInt8.ofNat (b.toNat : Int).toNat) = bstr (l ++ [b]) := by simp [bstr, ByteArray.push]
    rw [this, push_bytes ns (l ++ [b])]
    simp
theorem run_toString {l : List UInt8} {adr : Addr} {n cap : Nat} (hn : n = l.length) (h : ∀ j v, (l.map fun b => Value.int .u8 b.toNat)[j]? = some v → w.cell? (adr.add j) = some v) : (Conv.bytesToString (.slice (some adr) n cap)).run P w = .ok (.string (bstr l)) w := by
  subst hn
  have h1 := run_loadCells_list (P := P) w adr (l.map fun b => Value.int .u8 b.toNat) h
  rw [List.length_map] at h1
  have h2 := run_bytesToString (P := P) w adr l.length cap (l.map fun b => (b.toNat : Int)) (by rw [h1]; simp)
  have h3 := push_bytes l []
  rw [show bstr [] = ByteArray.empty from rfl, List.nil_append] at h3
  rw [h2, h3]
theorem freeze_ext {g n : Nat} : Ext (fun k => k = g) w (w.freeze ⟨g, 0, none⟩ n) := by
  unfold World.freeze
  split
  · exact Ext.refl _ _
  · exact ⟨rfl, rfl, rfl, by simp, fun k hk hn => by simp [Array.getElem?_modify, Ne.symm hn]⟩
theorem opUString_yl {t t' : Nat} {x y : Operand} (hs : Sat ρ pc) (ho : o.op = .call { callee := .builtin .unsafeString, args := #[x, y], argTypes := #[t, t'] }) : Yl (fun K => opUString P s m nx pc t x y fun v m nx pc ft => K ⟨v, m, nx, pc, ft⟩) (OpOk P ρ o s m nx) := by
  have hop : o.op.operands.toList = [x, y] := by simp [ho, Op.operands, Call.operands]
  have hex : ∀ (a : Act) (w w' : World) (v : Value), (Builtin.unsafeString_ #[t, t'] o.type #[a.eval x, a.eval y]).run P w = .ok v w' → (execOp a.eval o).run P w = .ok (.value v) w' := fun a w w' v h => by
    simp [execOp, ho, resolve, invoke, builtin, h]
  unfold opUString
  refine Yl.bind (evO_yl (ρ := ρ)) fun va hva => Yl.bind (evO_yl (ρ := ρ)) fun vb hvb => ?_
  split
  · have none' : ∀ (a : Act) (w : World) (p : Option Addr), a.eval x = .pointer p → a.eval y = .int .i64 0 → (execOp a.eval o).run P w = .ok (.value (.string (bstr []))) w := fun a w p hx hy =>
      hex a w w _ (by rw [hx, hy]; exact Go.Lib.run_unsafeString_none w t t' o.type p)
    split
    · refine Yl.pure _ (OpOk.pure hs fun a w θ hsl => ⟨_, none' a w none ?_ ?_, rfl⟩)
      · rw [hop] at hsl; exact (Option.some.inj (hsl.ev (by simp) hva)).symm
      · rw [hop] at hsl; exact (Option.some.inj (hsl.ev (by simp) hvb)).symm
    · refine Yl.pure _ (OpOk.pure hs fun a w θ hsl => ?_)
      rw [hop] at hsl
      have hx := hsl.ev (by simp) hva
      simp only [den, Option.map_eq_some_iff] at hx
      obtain ⟨q, hq, hx⟩ := hx
      exact ⟨_, none' a w _ hx.symm (Option.some.inj (hsl.ev (by simp) hvb)).symm, rfl⟩
    · exact Yl.no
  · rename_i k
    split
    · rename_i g u hk
      obtain ⟨d, hd, hk'⟩ := kindT_ok hk (by simp)
      rw [tk_ptr hk'] at hd
      split
      · rename_i e cs ex hg
        split
        · rename_i hc
          simp only [Bool.and_eq_true, Nat.beq_eq, Nat.ble_eq] at hc
          obtain ⟨⟨rfl, hc1⟩, hc2⟩ := hc
          refine Yl.bind segC_yl fun l hl => Yl.bind (bytesC_yl (ρ := ρ)) fun r hr => ?_
          refine Yl.map (fun m' => (⟨.s r, m', nx, pc, .w [g]⟩ : O5)) set_yl fun m' hm => ?_
          have hm' : ∀ t, m'.get t = if t = g then none else m.get t := hm
          exact {
            pc := hs
            le := Nat.le_refl _
            off := fun t ht => by
              have a2 : t ≠ g := fun e => ht (by simp [tc, e])
              show m'.get t = _
              rw [hm', if_neg a2]
            rd := fun _ h => by cases h
            new := fun t h1 h2 => by
              have h2 : m'.get t ≠ none := h2
              by_cases e' : t = g
              · rw [hm', if_pos e'] at h2; exact absurd rfl h2
              · rw [hm', if_neg e'] at h2; exact absurd h1 h2
            run := fun a w θ h1 h2 h3 => by
              rw [hop] at h1
              have tcg : tc (.w [g]) g := by simp [tc]
              have hbg := h2.holds g _ (by rw [subM_in tcg]; exact hg)
              have hR0 : subM (.w [g]) m g ≠ none := by rw [subM_in tcg, hg]; simp
              have hbg' := hbg
              obtain ⟨q, qc, vs0, arr, rest, f1, f2, f3, _⟩ := hbg'
              obtain ⟨q', qc', vs, k1, k2, k3, k4, k5⟩ := hbg.cells
              rw [f1] at k1; cases k1
              have hx := h1.ev (by simp) hva
              simp only [den, f1, Option.map_some, Option.some.injEq] at hx
              have hy : a.eval y = .int .i64 ((k + 1 : Nat) : Int) := (Option.some.inj (h1.ev (by simp) hvb)).symm
              have hlen := dens_len k2
              have hle : 0 + (k + 1) ≤ cs.length := hl.1
              have h4 : dens ρ θ l = some (vs.take (k + 1)) := by
                have := dens_take (k + 1) k2
                rw [hl.2, List.drop_zero]; exact this
              have h5 := hr θ _ h4
              have h6 : (denS ρ r).length = k + 1 := by
                have := congrArg List.length h5
                simp at this; omega
              have hrun := Go.Lib.run_unsafeString_row (P := P) w t t' o.type e hd hc1 q arr.size (by simp [World.shape?, f2]) (denS ρ r) (by intro h; rw [h] at h6; simp at h6) (by omega) (by omega) fun j x' hj => by
                rw [cell_at, Nat.zero_add]
                have hj1 : j < k + 1 := by have := (List.getElem?_eq_some_iff.1 hj).1; omega
                have h7 : (vs.take (k + 1))[j]? = some (.int .u8 x'.toNat) := by rw [h5, List.getElem?_map, hj]; rfl
                rw [List.getElem?_take_of_lt hj1] at h7
                exact k4 j _ h7
              rw [h6] at hrun
              refine wp_val (hex a w _ _ (by rw [← hx, hy]; exact hrun)) ⟨_, θ, rfl, SP.gone h2 hR0 f1 freeze_ext fun t b' h => ?_, rfl⟩
              obtain ⟨q1, q2⟩ := subM_some h
              rw [hm'] at q2
              by_cases e2 : t = g
              · rw [if_pos e2] at q2; cases q2
              · rw [if_neg e2] at q2; exact ⟨e2, by rw [subM_in q1]; exact q2⟩ }
        · exact Yl.no
      · exact Yl.no
    · exact Yl.no
  · exact Yl.no
theorem opConv_yl {src d : Nat} {x : Operand} (hs : Sat ρ pc) (ho : o.op = .convert src d x) : Yl (fun K => opConv P s m nx pc src d x fun v m nx pc ft => K ⟨v, m, nx, pc, ft⟩) (OpOk P ρ o s m nx) := by
  have hop : o.op.operands.toList = [x] := by simp [ho, Op.operands]
  have hex : ∀ (a : Act) (w w' : World) (v : Value), (convert src d (a.eval x)).run P w = .ok v w' → (execOp a.eval o).run P w = .ok (.value v) w' := fun a w w' v h => by
    simp [execOp, ho, h]
  unfold opConv
  refine Yl.bind (evO_yl (ρ := ρ)) fun v hv => ?_
  split
  · rename_i i k j n h1 h2
    obtain ⟨d1, hd1, k1⟩ := kindT_ok h1 (by simp)
    obtain ⟨d2, hd2, k2⟩ := kindT_ok h2 (by simp)
    rw [tk_int k1] at hd1
    rw [tk_int k2] at hd2
    refine Yl.map (fun v => (⟨v, m, nx, pc, .n⟩ : O5)) wrK_yl fun r hr => OpOk.pure hs fun a w θ hsl => ?_
    rw [hop] at hsl
    have hx := (Option.some.inj (hsl.ev (by simp) hv)).symm
    exact ⟨_, r_conv ho hd1 hd2 hx, by rw [hr]; rfl⟩
  · rename_i i k j e h1 h2
    obtain ⟨d1, hd1, k1⟩ := kindT_ok h1 (by simp)
    obtain ⟨d2, hd2, k2⟩ := kindT_ok h2 (by simp)
    rw [tk_int k1] at hd1
    rw [tk_int k2] at hd2
    have fin : k.wrap (e.den ρ) = e.den ρ → OpOk P ρ o s m nx ⟨.x k e, m, nx, pc, .n⟩ := fun hw => OpOk.pure hs fun a w θ hsl => by
      rw [hop] at hsl
      have hx := (Option.some.inj (hsl.ev (by simp) hv)).symm
      have := r_conv (w := w) ho hd1 hd2 hx
      rw [hw] at this
      exact ⟨_, this, rfl⟩
    split
    · rename_i hc
      simp only [Bool.and_eq_true, ikEq_iff] at hc
      obtain ⟨rfl, hc⟩ := hc
      exact Yl.pure _ (fin (IntWalk.i64_in _ (in64_ok hc hs)))
    · split
      · rename_i hc
        simp only [Bool.and_eq_true, ikEq_iff] at hc
        obtain ⟨⟨rfl, hc⟩, hc2⟩ := hc
        have a1 := in64_ok hc hs
        have a2 := proves_ok hc2 hs
        exact Yl.pure _ (fin (by simp [IntKind.wrap, IntKind.signed, IntKind.bits]; omega))
      · exact Yl.no
  · rename_i l h1 h2
    obtain ⟨d1, hd1, k1⟩ := kindT_ok h1 (by simp)
    obtain ⟨d2, hd2, k2⟩ := kindT_ok h2 (by simp)
    rw [tk_str k1] at hd1
    rw [tk_str k2] at hd2
    refine Yl.pure _ (OpOk.pure hs fun a w θ hsl => ?_)
    rw [hop] at hsl
    have hx : a.eval x = .string (bstr (denS ρ l)) := (Option.some.inj (hsl.ev (by simp) hv)).symm
    exact ⟨.string (bstr (denS ρ l)), hex a w w _ (by rw [hx]; simp [convert, run_underlying hd1, run_underlying hd2]), rfl⟩
  · rename_i v' e h1 h2
    obtain ⟨d1, hd1, k1⟩ := kindT_ok h1 (by simp)
    obtain ⟨d2, hd2, k2⟩ := kindT_ok h2 (by simp)
    rw [tk_slice k1] at hd1
    rw [tk_str k2] at hd2
    have go : ∀ {j : IntKind} {xv rv : Value} {w : World}, kindT P e = .int j → j = .u8 → (∃ a n c, xv = .slice a n c) → (Conv.bytesToString xv).run P w = .ok rv w → (convert src d xv).run P w = .ok rv w := fun {j xv rv w} hke hj hxv hr => by
      subst hj
      obtain ⟨d3, hd3, k3⟩ := kindT_ok hke (by simp)
      rw [tk_int k3] at hd3
      obtain ⟨a0, n0, c0, rfl⟩ := hxv
      simp [convert, run_underlying hd1, run_underlying hd2, run_underlying hd3, hr]
    split
    · rename_i hke
      refine Yl.pure _ (OpOk.pure hs fun a w θ hsl => ?_)
      rw [hop] at hsl
      have hx : a.eval x = .slice none 0 0 := (Option.some.inj (hsl.ev (by simp) hv)).symm
      exact ⟨.string (bstr []), hex a w w _ (by rw [hx]; exact go hke rfl ⟨_, _, _, rfl⟩ rfl), rfl⟩
    · rename_i g off n cap hke
      split
      · rename_i ty cs ex hg
        refine Yl.bind segC_yl fun l hl => ?_
        refine Yl.map (fun u => (⟨.s u, m, nx, pc, .r g⟩ : O5)) (bytesC_yl (ρ := ρ)) fun r hr => OpOk.read hs fun a w θ hsl hb => ?_
        rw [hop] at hsl
        obtain ⟨q, c, vs, f1, f2, f3, f4, f5⟩ := (hb _ hg).cells
        have hx := hsl.ev (by simp) hv
        simp only [den, f1, Option.map_some, Option.some.injEq] at hx
        have hlen := dens_len f2
        have h4 : dens ρ θ l = some ((vs.drop off).take n) := by rw [hl.2]; exact dens_take _ (dens_drop _ f2)
        have h5 := hr θ _ h4
        have h6 : n = (denS ρ r).length := by
          have := congrArg List.length h5
          simp at this; omega
        refine ⟨.string (bstr (denS ρ r)), hex a w w _ (by
          rw [← hx]
          refine go hke rfl ⟨_, _, _, rfl⟩ (run_toString h6 fun j u hj => ?_)
          rw [← h5] at hj
          rw [cell_at]
          refine f4 _ u ?_
          have hj1 : j < n := by have := (List.getElem?_eq_some_iff.1 hj).1; simp at this; omega
          rw [List.getElem?_take_of_lt hj1, List.getElem?_drop] at hj
          exact hj), rfl⟩
      · exact Yl.no
    · rename_i g l hke
      split
      · rename_i ty l' hg
        split
        · rename_i hl
          have := eqStr_ok hl
          subst this
          refine Yl.pure _ (OpOk.read hs fun a w θ hsl hb => ?_)
          rw [hop] at hsl
          obtain ⟨q, c, arr, rest, f1, f2, f3, f4⟩ := hb _ hg
          have hx := hsl.ev (by simp) hv
          simp only [den, f1, Option.map_some, Option.some.injEq] at hx
          refine ⟨.string (bstr (denS ρ l)), hex a w w _ (by
            rw [← hx]
            refine go hke rfl ⟨_, _, _, rfl⟩ (run_toString rfl fun j u hj => ?_)
            rw [cell_at, Nat.zero_add]
            have hlt := (List.getElem?_eq_some_iff.1 hj).1
            have h7 : arr[j]? = some u := by rw [← Array.getElem?_toList, f4, List.getElem?_append_left hlt]; exact hj
            simp [World.cell?, f2, h7]), rfl⟩
        · exact Yl.no
      · exact Yl.no
    · exact Yl.no
  · rename_i t h1 h2
    obtain ⟨d1, hd1, k1⟩ := kindT_ok h1 (by simp)
    obtain ⟨d2, hd2, k2⟩ := kindT_ok h2 (by simp)
    rw [tk_ptr k1] at hd1
    rw [tk_upt k2] at hd2
    refine Yl.pure _ (OpOk.pure hs fun a w θ hsl => ?_)
    rw [hop] at hsl
    have hx : a.eval x = .pointer none := (Option.some.inj (hsl.ev (by simp) hv)).symm
    exact ⟨.pointer none, hex a w w _ (by rw [hx]; simp [convert, run_underlying hd1, run_underlying hd2, Conv.unsafePointer]), rfl⟩
  · rename_i t g off h1 h2
    obtain ⟨d1, hd1, k1⟩ := kindT_ok h1 (by simp)
    obtain ⟨d2, hd2, k2⟩ := kindT_ok h2 (by simp)
    rw [tk_ptr k1] at hd1
    rw [tk_upt k2] at hd2
    split
    · rename_i ty cs ex y hg hy
      obtain ⟨ok⟩ := mkTy_ok hy
      split
      · rename_i hc
        simp only [Bool.and_eq_true, lenC0, Nat.ble_eq] at hc
        have hlt : off < cs.length := by simpa [Nat.blt_eq] using hc.1
        have hsz : y.sz ≠ 0 := by have := hc.2; omega
        refine Yl.pure _ (OpOk.read hs fun a w θ hsl hb => ?_)
        rw [hop] at hsl
        obtain ⟨q, c, vs, arr, rest, f1, f2, f3, f4, _, f6, _⟩ := hb _ hg
        have hx := hsl.ev (by simp) hv
        simp only [den, f1, Option.map_some, Option.some.injEq] at hx
        have hlt2 : ¬ arr.size ≤ off := by
          have := congrArg List.length f6
          have := dens_len f4
          simp at *; omega
        refine ⟨.pointer (some ⟨q, off, none⟩), hex a w w _ ?_, by simp [den, f1]⟩
        rw [← hx]
        have hsh : w.shape? q = some (ty, arr.size) := by simp [World.shape?, f2]
        simp [convert, run_underlying hd1, run_underlying hd2, Conv.unsafePointer, Conv.seenAt, viewAt, cellsIn, shape, Sem.run, hsh, ok.size, hsz, hlt2]
      · exact Yl.no
    · exact Yl.no
  · rename_i t h1 h2
    obtain ⟨d1, hd1, k1⟩ := kindT_ok h1 (by simp)
    obtain ⟨d2, hd2, k2⟩ := kindT_ok h2 (by simp)
    rw [tk_upt k1] at hd1
    rw [tk_ptr k2] at hd2
    refine Yl.pure _ (OpOk.pure hs fun a w θ hsl => ?_)
    rw [hop] at hsl
    have hx : a.eval x = .pointer none := (Option.some.inj (hsl.ev (by simp) hv)).symm
    exact ⟨.pointer none, hex a w w _ (by rw [hx]; simp [convert, run_underlying hd1, run_underlying hd2, Conv.unsafePointer]), rfl⟩
  · rename_i u g off h1 h2
    obtain ⟨d1, hd1, k1⟩ := kindT_ok h1 (by simp)
    obtain ⟨d2, hd2, k2⟩ := kindT_ok h2 (by simp)
    rw [tk_upt k1] at hd1
    rw [tk_ptr k2] at hd2
    split
    · rename_i e cs hg
      split
      · rename_i y hy
        obtain ⟨ok⟩ := mkTy_ok hy
        split
        · rename_i hc
          rw [lenC0] at hc
          refine Yl.pure _ (OpOk.read hs fun a w θ hsl hb => ?_)
          rw [hop] at hsl
          obtain ⟨q, c, vs, arr, rest, f1, f2, f3, f4, _, f6, f7⟩ := hb _ hg
          have hx := hsl.ev (by simp) hv
          simp only [den, f1, Option.map_some, Option.some.injEq] at hx
          have hr : rest = [] := f7 rfl
          subst hr
          have hsz : arr.size = cs.length := by
            have := congrArg List.length f6
            have := dens_len f4
            simp at *; omega
          rw [← hsz] at hc
          refine ⟨.pointer (some ⟨q, off, none⟩), hex a w w _ ?_, by simp [den, f1]⟩
          rw [← hx]
          have hsh : w.shape? q = some (e, arr.size) := by simp [World.shape?, f2]
          have hva : (variablesAt ⟨q, off, none⟩ u 1).run P w = .ok true w := by
            simp [variablesAt, hsh, hc]
          simp [convert, run_underlying hd1, run_underlying hd2, Conv.unsafePointer, Conv.seenAt, viewAt, hsh, ok.size, hva]
        · exact Yl.no
      · exact Yl.no
    · exact Yl.no
  · exact Yl.no
end
end X
end Go.Proofs.YtppdehodcoffbaaGreatDoor
