/-
  Bytes as strings, conversions; all operations. Over any program.
-/
import Derived.Test.YtdbchpoaoghgpaaGreatDoorW6
import Derived.Laws.BytesString
import Derived.Laws.Externs
import Derived.Lib.Bytealg
set_option linter.unusedSimpArgs false
set_option linter.unusedVariables false
namespace Go.Proofs.YtdbchpoaoghgpaaGreatDoor
namespace X
open Go.RowKit B

section
variable {P : Program} {ρ : Rho} {o : Oper} {s : Tr SV} {m : Mem} {nx : Nat} {pc : PC} {a : Act} {w w' : World} {θ : Th}
theorem opSData_yl {x : Operand} {ts : Array TypeId} (hs : Sat ρ pc) (ho : o.op = .call { callee := .builtin .unsafeSliceData, args := #[x], argTypes := ts }) : Yl (fun K => opSData s m nx pc x fun v m nx pc ft => K ⟨v, m, nx, pc, ft⟩) (OpOk P ρ o s m nx) := by
  have hop : o.op.operands.toList = [x] := by simp [ho, Op.operands, Call.operands]
  have hex : ∀ (a : Act) (w : World) (v : Value), (Builtin.unsafeSliceData_ ts o.type #[a.eval x]).run P w = .ok v w → Runs P a o w v := fun a w v h => by
    simp [Runs, execOp, ho, resolve, invoke, builtin, h]
  unfold opSData
  refine Yl.bind (evO_yl (ρ := ρ)) fun v hv => ?_
  split
  · refine Yl.pure _ (OpOk.pure hs fun a w θ hsl => ⟨.pointer none, hex a w _ ?_, rfl⟩)
    rw [hop] at hsl
    have hx : a.eval x = .slice none 0 0 := (Option.some.inj (hsl.ev (by simp) hv)).symm
    rw [hx]; rfl
  · rename_i g off n cap
    split
    · rename_i hr
      refine Yl.pure _ (OpOk.read hs fun a w θ hsl hb => ?_)
      rw [hop] at hsl
      have hx := hsl.ev (by simp) hv
      simp only [den, Option.map_eq_some_iff] at hx
      obtain ⟨q, hq, hx⟩ := hx
      have hc := roomC_ok hr hb hq
      have hc0 : cap.den q.2 off ≠ 0 := by omega
      exact ⟨.pointer (some ⟨q.1, off, none⟩), hex a w _ (by rw [← hx]; exact Go.Lib.run_unsafeSliceData_row w ts o.type _ n _ hc0), by simp [den, hq]⟩
    · exact Yl.no
  · rename_i g l
    split
    · rename_i e' l' hg
      split
      · rename_i hc
        simp only [Bool.and_eq_true] at hc
        have h1 := eqStr_ok hc.1
        subst h1
        have h2 := proves_ok hc.2 hs
        rw [sub_den, const_den, lenS_den] at h2
        refine Yl.pure _ (OpOk.read hs fun a w θ hsl hb => ?_)
        rw [hop] at hsl
        have hx := hsl.ev (by simp) hv
        obtain ⟨q, qc, arr, rest, f1, f2, f3, f4⟩ := hb _ hg
        simp only [den, f1, Option.map_some, Option.some.injEq] at hx
        have hsz : arr.size = (denS ρ l).length + rest.length := by
          have := congrArg List.length f4
          simpa using this
        have hc0 : qc ≠ 0 := by omega
        exact ⟨.pointer (some ⟨q, 0, none⟩), hex a w _ (by rw [← hx]; exact Go.Lib.run_unsafeSliceData_row w ts o.type _ _ _ hc0), by simp [den, f1]⟩
      · exact Yl.no
    · exact Yl.no
  · exact Yl.no
theorem push_bytes : ∀ (ns l : List UInt8), (ns.map fun b => (b.toNat : Int)).foldl (fun (r : ByteArray) (n : Int) => r.push (UInt8.ofNat n.toNat)) (bstr l) = bstr (l ++ ns)
  | [], l => by simp
  | b :: ns, l => by
    simp only [List.map_cons, List.foldl_cons]
    have : (bstr l).push (UInt8.ofNat (b.toNat : Int).toNat) = bstr (l ++ [b]) := by simp [bstr, ByteArray.push]
    rw [this, push_bytes ns (l ++ [b])]
    simp
theorem run_toString {l : List UInt8} {adr : Addr} {n cap : Nat} (hn : n = l.length) (h : ∀ j v, (l.map fun b => Value.int .u8 b.toNat)[j]? = some v → w.cell? (adr.add j) = some v) : (Conv.bytesToString (.slice (some adr) n cap)).run P w = .ok (.string (bstr l)) w := by
  subst hn
  have h1 := run_loadCells_list (P := P) w adr (l.map fun b => Value.int .u8 b.toNat) h
  rw [List.length_map] at h1
  have h2 := run_bytesToString (P := P) w adr l.length cap (l.map fun b => (b.toNat : Int)) (by rw [h1]; simp)
  have h3 := push_bytes l []
  rw [show bstr [] = ByteArray.empty from rfl, List.nil_append] at h3
  rw [h2, h3]
theorem freeze_ext {g n : Nat} : Ext (fun k => k = g) w (w.freeze ⟨g, 0, none⟩ n) := by
  unfold World.freeze
  split
  · exact Ext.refl _ _
  · exact ⟨rfl, rfl, rfl, by simp, fun k hk hn => by simp [Array.getElem?_modify, Ne.symm hn]⟩
theorem opUString_yl {t t' : Nat} {x y : Operand} (hs : Sat ρ pc) (ho : o.op = .call { callee := .builtin .unsafeString, args := #[x, y], argTypes := #[t, t'] }) : Yl (fun K => opUString P s m nx pc t x y fun v m nx pc ft => K ⟨v, m, nx, pc, ft⟩) (OpOk P ρ o s m nx) := by
  have hop : o.op.operands.toList = [x, y] := by simp [ho, Op.operands, Call.operands]
  have hex : ∀ (a : Act) (w w' : World) (v : Value), (Builtin.unsafeString_ #[t, t'] o.type #[a.eval x, a.eval y]).run P w = .ok v w' → (execOp a.eval o).run P w = .ok (.value v) w' := fun a w w' v h => by
    simp [execOp, ho, resolve, invoke, builtin, h]
  unfold opUString
  refine Yl.bind (evO_yl (ρ := ρ)) fun va hva => Yl.bind (evO_yl (ρ := ρ)) fun vb hvb => ?_
  split
  · have none' : ∀ (a : Act) (w : World) (p : Option Addr), a.eval x = .pointer p → a.eval y = .int .i64 0 → (execOp a.eval o).run P w = .ok (.value (.string (bstr []))) w := fun a w p hx hy =>
      hex a w w _ (by rw [hx, hy]; exact Go.Lib.run_unsafeString_none w t t' o.type p)
    split
    · refine Yl.pure _ (OpOk.pure hs fun a w θ hsl => ⟨_, none' a w none ?_ ?_, rfl⟩)
      · rw [hop] at hsl; exact (Option.some.inj (hsl.ev (by simp) hva)).symm
      · rw [hop] at hsl; exact (Option.some.inj (hsl.ev (by simp) hvb)).symm
    · refine Yl.pure _ (OpOk.pure hs fun a w θ hsl => ?_)
      rw [hop] at hsl
      have hx := hsl.ev (by simp) hva
      simp only [den, Option.map_eq_some_iff] at hx
      obtain ⟨q, hq, hx⟩ := hx
      exact ⟨_, none' a w _ hx.symm (Option.some.inj (hsl.ev (by simp) hvb)).symm, rfl⟩
    · exact Yl.no
  · rename_i k
    split
    · rename_i g u hk
      obtain ⟨d, hd, hk'⟩ := kindT_ok hk (by simp)
      rw [tk_ptr hk'] at hd
      split
      · rename_i e cs ex hg
        split
        · rename_i hc
          simp only [Bool.and_eq_true, Nat.beq_eq, Nat.ble_eq] at hc
          obtain ⟨⟨rfl, hc1⟩, hc2⟩ := hc
          refine Yl.bind segC_yl fun l hl => Yl.bind (bytesC_yl (ρ := ρ) hs) fun r hr => ?_
          refine Yl.map (fun m' => (⟨.s r, m', nx, pc, .w [g]⟩ : O5)) set_yl fun m' hm => ?_
          have hm' : ∀ t, m'.get t = if t = g then none else m.get t := hm
          exact {
            pc := hs
            le := Nat.le_refl _
            off := fun t ht => by
              have a2 : t ≠ g := fun e => ht (by simp [tc, e])
              show m'.get t = _
              rw [hm', if_neg a2]
            rd := fun _ h => by cases h
            new := fun t h1 h2 => by
              have h2 : m'.get t ≠ none := h2
              by_cases e' : t = g
              · rw [hm', if_pos e'] at h2; exact absurd rfl h2
              · rw [hm', if_neg e'] at h2; exact absurd h1 h2
            run := fun a w θ h1 h2 h3 => by
              rw [hop] at h1
              have tcg : tc (.w [g]) g := by simp [tc]
              have hbg := h2.holds g _ (by rw [subM_in tcg]; exact hg)
              have hR0 : subM (.w [g]) m g ≠ none := by rw [subM_in tcg, hg]; simp
              have hbg' := hbg
              obtain ⟨q, qc, vs0, arr, rest, f1, f2, f3, _⟩ := hbg'
              obtain ⟨q', qc', vs, k1, k2, k3, k4, k5⟩ := hbg.cells
              rw [f1] at k1; cases k1
              have hx := h1.ev (by simp) hva
              simp only [den, f1, Option.map_some, Option.some.injEq] at hx
              have hy : a.eval y = .int .i64 ((k + 1 : Nat) : Int) := (Option.some.inj (h1.ev (by simp) hvb)).symm
              have hlen := dens_len k2
              have hle : 0 + (k + 1) ≤ cs.length := hl.1
              have h4 : dens ρ θ l = some (vs.take (k + 1)) := by
                have := dens_take (k + 1) k2
                rw [hl.2, List.drop_zero]; exact this
              have h5 := hr θ _ h4
              have h6 : (denS ρ r).length = k + 1 := by
                have := congrArg List.length h5
                simp at this; omega
              have hrun := Go.Lib.run_unsafeString_row (P := P) w t t' o.type e hd hc1 q arr.size (by simp [World.shape?, f2]) (denS ρ r) (by intro h; rw [h] at h6; simp at h6) (by omega) (by omega) fun j x' hj => by
                rw [cell_at, Nat.zero_add]
                have hj1 : j < k + 1 := by have := (List.getElem?_eq_some_iff.1 hj).1; omega
                have h7 : (vs.take (k + 1))[j]? = some (.int .u8 x'.toNat) := by rw [h5, List.getElem?_map, hj]; rfl
                rw [List.getElem?_take_of_lt hj1] at h7
                exact k4 j _ h7
              rw [h6] at hrun
              refine wp_val (hex a w _ _ (by rw [← hx, hy]; exact hrun)) ⟨_, θ, rfl, SP.gone h2 hR0 f1 freeze_ext fun t b' h => ?_, rfl⟩
              obtain ⟨q1, q2⟩ := subM_some h
              rw [hm'] at q2
              by_cases e2 : t = g
              · rw [if_pos e2] at q2; cases q2
              · rw [if_neg e2] at q2; exact ⟨e2, by rw [subM_in q1]; exact q2⟩ }
        · exact Yl.no
      · exact Yl.no
    · exact Yl.no
  · rename_i e
    split
    · rename_i g u hk
      obtain ⟨d, hd, hk'⟩ := kindT_ok hk (by simp)
      rw [tk_ptr hk'] at hd
      split
      · rename_i e' l hg
        split
        · rename_i hc
          simp only [Bool.and_eq_true, Nat.beq_eq] at hc
          obtain ⟨⟨⟨⟨⟨rfl, hc1⟩, p1⟩, p2⟩, p3⟩, p4⟩ := hc
          have p1 := proves_ok p1 hs
          have p2 := proves_ok p2 hs
          have p3 := proves_ok p3 hs
          have p4 := proves_ok p4 hs
          rw [sub_den, lenS_den] at p1 p2
          rw [sub_den, const_den, lenS_den] at p3 p4
          refine Yl.map (fun m' => (⟨.s l, m', nx, pc, .w [g]⟩ : O5)) set_yl fun m' hm => ?_
          have hm' : ∀ t, m'.get t = if t = g then none else m.get t := hm
          exact {
            pc := hs
            le := Nat.le_refl _
            off := fun t ht => by
              have a2 : t ≠ g := fun e => ht (by simp [tc, e])
              show m'.get t = _
              rw [hm', if_neg a2]
            rd := fun _ h => by cases h
            new := fun t h1 h2 => by
              have h2 : m'.get t ≠ none := h2
              by_cases e' : t = g
              · rw [hm', if_pos e'] at h2; exact absurd rfl h2
              · rw [hm', if_neg e'] at h2; exact absurd h1 h2
            run := fun a w θ h1 h2 h3 => by
              rw [hop] at h1
              have tcg : tc (.w [g]) g := by simp [tc]
              have hbt := h2.holds g _ (by rw [subM_in tcg]; exact hg)
              have hR0 : subM (.w [g]) m g ≠ none := by rw [subM_in tcg, hg]; simp
              have hbg := bt_ce hbt
              obtain ⟨q, qc, arr, rest, f1, f2, f3, _⟩ := hbt
              obtain ⟨q', qc', vs, k1, k2, k3, k4, k5⟩ := hbg.cells
              rw [f1] at k1; cases k1
              have hx := h1.ev (by simp) hva
              simp only [den, f1, Option.map_some, Option.some.injEq] at hx
              have he : e.den ρ = ((denS ρ l).length : Int) := by omega
              have hy : a.eval y = .int .i64 ((denS ρ l).length : Int) := by
                have := Option.some.inj (h1.ev (by simp) hvb)
                rw [he] at this
                exact this.symm
              have h5 : vs = (denS ρ l).map fun b => Value.int .u8 b.toNat := by
                rw [byC_den] at k2; exact (Option.some.inj k2).symm
              have hvl : vs.length = (denS ρ l).length := by rw [h5, List.length_map]
              have hrun := Go.Lib.run_unsafeString_row (P := P) w t t' o.type e' hd hc1 q arr.size (by simp [World.shape?, f2]) (denS ρ l) (by intro h; rw [h] at p3; simp at p3) (by omega) (by omega) fun j x' hj => by
                rw [cell_at, Nat.zero_add]
                have h7 : vs[j]? = some (.int .u8 x'.toNat) := by rw [h5, List.getElem?_map, hj]; rfl
                exact k4 j _ h7
              refine wp_val (hex a w _ _ (by rw [← hx, hy]; exact hrun)) ⟨_, θ, rfl, SP.gone h2 hR0 f1 freeze_ext fun t b' h => ?_, rfl⟩
              obtain ⟨q1, q2⟩ := subM_some h
              rw [hm'] at q2
              by_cases e2 : t = g
              · rw [if_pos e2] at q2; cases q2
              · rw [if_neg e2] at q2; exact ⟨e2, by rw [subM_in q1]; exact q2⟩ }
        · exact Yl.no
      · exact Yl.no
    · exact Yl.no
  · exact Yl.no
theorem opConv_yl {src d : Nat} {x : Operand} (hs : Sat ρ pc) (ho : o.op = .convert src d x) : Yl (fun K => opConv P s m nx pc src d x fun v m nx pc ft => K ⟨v, m, nx, pc, ft⟩) (OpOk P ρ o s m nx) := by
  have hop : o.op.operands.toList = [x] := by simp [ho, Op.operands]
  have hex : ∀ (a : Act) (w w' : World) (v : Value), (convert src d (a.eval x)).run P w = .ok v w' → (execOp a.eval o).run P w = .ok (.value v) w' := fun a w w' v h => by
    simp [execOp, ho, h]
  unfold opConv
  refine Yl.bind (evO_yl (ρ := ρ)) fun v hv => ?_
  split
  · rename_i i k j n h1 h2
    obtain ⟨d1, hd1, k1⟩ := kindT_ok h1 (by simp)
    obtain ⟨d2, hd2, k2⟩ := kindT_ok h2 (by simp)
    rw [tk_int k1] at hd1
    rw [tk_int k2] at hd2
    refine Yl.map (fun v => (⟨v, m, nx, pc, .n⟩ : O5)) wrK_yl fun r hr => OpOk.pure hs fun a w θ hsl => ?_
    rw [hop] at hsl
    have hx := (Option.some.inj (hsl.ev (by simp) hv)).symm
    exact ⟨_, r_conv ho hd1 hd2 hx, by rw [hr]; rfl⟩
  · rename_i i k j e h1 h2
    obtain ⟨d1, hd1, k1⟩ := kindT_ok h1 (by simp)
    obtain ⟨d2, hd2, k2⟩ := kindT_ok h2 (by simp)
    rw [tk_int k1] at hd1
    rw [tk_int k2] at hd2
    have fin : k.wrap (e.den ρ) = e.den ρ → OpOk P ρ o s m nx ⟨.x k e, m, nx, pc, .n⟩ := fun hw => OpOk.pure hs fun a w θ hsl => by
      rw [hop] at hsl
      have hx := (Option.some.inj (hsl.ev (by simp) hv)).symm
      have := r_conv (w := w) ho hd1 hd2 hx
      rw [hw] at this
      exact ⟨_, this, rfl⟩
    split
    · rename_i hc
      simp only [Bool.and_eq_true, ikEq_iff] at hc
      obtain ⟨rfl, hc⟩ := hc
      exact Yl.pure _ (fin (IntWalk.i64_in _ (in64_ok hc hs)))
    · split
      · rename_i hc
        simp only [Bool.and_eq_true, ikEq_iff] at hc
        obtain ⟨⟨rfl, hc⟩, hc2⟩ := hc
        have a1 := in64_ok hc hs
        have a2 := proves_ok hc2 hs
        exact Yl.pure _ (fin (by simp [IntKind.wrap, IntKind.signed, IntKind.bits]; omega))
      · exact Yl.no
  · rename_i l h1 h2
    obtain ⟨d1, hd1, k1⟩ := kindT_ok h1 (by simp)
    obtain ⟨d2, hd2, k2⟩ := kindT_ok h2 (by simp)
    rw [tk_str k1] at hd1
    rw [tk_str k2] at hd2
    refine Yl.pure _ (OpOk.pure hs fun a w θ hsl => ?_)
    rw [hop] at hsl
    have hx : a.eval x = .string (bstr (denS ρ l)) := (Option.some.inj (hsl.ev (by simp) hv)).symm
    exact ⟨.string (bstr (denS ρ l)), hex a w w _ (by rw [hx]; simp [convert, run_underlying hd1, run_underlying hd2]), rfl⟩
  · rename_i v' e h1 h2
    obtain ⟨d1, hd1, k1⟩ := kindT_ok h1 (by simp)
    obtain ⟨d2, hd2, k2⟩ := kindT_ok h2 (by simp)
    rw [tk_slice k1] at hd1
    rw [tk_str k2] at hd2
    have go : ∀ {j : IntKind} {xv rv : Value} {w : World}, kindT P e = .int j → j = .u8 → (∃ a n c, xv = .slice a n c) → (Conv.bytesToString xv).run P w = .ok rv w → (convert src d xv).run P w = .ok rv w := fun {j xv rv w} hke hj hxv hr => by
      subst hj
      obtain ⟨d3, hd3, k3⟩ := kindT_ok hke (by simp)
      rw [tk_int k3] at hd3
      obtain ⟨a0, n0, c0, rfl⟩ := hxv
      simp [convert, run_underlying hd1, run_underlying hd2, run_underlying hd3, hr]
    split
    · rename_i hke
      refine Yl.pure _ (OpOk.pure hs fun a w θ hsl => ?_)
      rw [hop] at hsl
      have hx : a.eval x = .slice none 0 0 := (Option.some.inj (hsl.ev (by simp) hv)).symm
      exact ⟨.string (bstr []), hex a w w _ (by rw [hx]; exact go hke rfl ⟨_, _, _, rfl⟩ rfl), rfl⟩
    · rename_i g off n cap hke
      split
      · rename_i ty cs ex hg
        refine Yl.bind segC_yl fun l hl => ?_
        refine Yl.map (fun u => (⟨.s u, m, nx, pc, .r g⟩ : O5)) (bytesC_yl (ρ := ρ) hs) fun r hr => OpOk.read hs fun a w θ hsl hb => ?_
        rw [hop] at hsl
        obtain ⟨q, c, vs, f1, f2, f3, f4, f5⟩ := (hb _ hg).cells
        have hx := hsl.ev (by simp) hv
        simp only [den, f1, Option.map_some, Option.some.injEq] at hx
        have hlen := dens_len f2
        have h4 : dens ρ θ l = some ((vs.drop off).take n) := by rw [hl.2]; exact dens_take _ (dens_drop _ f2)
        have h5 := hr θ _ h4
        have h6 : n = (denS ρ r).length := by
          have := congrArg List.length h5
          simp at this; omega
        refine ⟨.string (bstr (denS ρ r)), hex a w w _ (by
          rw [← hx]
          refine go hke rfl ⟨_, _, _, rfl⟩ (run_toString h6 fun j u hj => ?_)
          rw [← h5] at hj
          rw [cell_at]
          refine f4 _ u ?_
          have hj1 : j < n := by have := (List.getElem?_eq_some_iff.1 hj).1; simp at this; omega
          rw [List.getElem?_take_of_lt hj1, List.getElem?_drop] at hj
          exact hj), rfl⟩
      · exact Yl.no
    · rename_i g l hke
      split
      · rename_i ty l' hg
        split
        · rename_i hl
          have := eqStr_ok hl
          subst this
          refine Yl.pure _ (OpOk.read hs fun a w θ hsl hb => ?_)
          rw [hop] at hsl
          obtain ⟨q, c, arr, rest, f1, f2, f3, f4⟩ := hb _ hg
          have hx := hsl.ev (by simp) hv
          simp only [den, f1, Option.map_some, Option.some.injEq] at hx
          refine ⟨.string (bstr (denS ρ l)), hex a w w _ (by
            rw [← hx]
            refine go hke rfl ⟨_, _, _, rfl⟩ (run_toString rfl fun j u hj => ?_)
            rw [cell_at, Nat.zero_add]
            have hlt := (List.getElem?_eq_some_iff.1 hj).1
            have h7 : arr[j]? = some u := by rw [← Array.getElem?_toList, f4, List.getElem?_append_left hlt]; exact hj
            simp [World.cell?, f2, h7]), rfl⟩
        · exact Yl.no
      · exact Yl.no
    · exact Yl.no
  · rename_i t h1 h2
    obtain ⟨d1, hd1, k1⟩ := kindT_ok h1 (by simp)
    obtain ⟨d2, hd2, k2⟩ := kindT_ok h2 (by simp)
    rw [tk_ptr k1] at hd1
    rw [tk_upt k2] at hd2
    refine Yl.pure _ (OpOk.pure hs fun a w θ hsl => ?_)
    rw [hop] at hsl
    have hx : a.eval x = .pointer none := (Option.some.inj (hsl.ev (by simp) hv)).symm
    exact ⟨.pointer none, hex a w w _ (by rw [hx]; simp [convert, run_underlying hd1, run_underlying hd2, Conv.unsafePointer]), rfl⟩
  · rename_i t g off h1 h2
    obtain ⟨d1, hd1, k1⟩ := kindT_ok h1 (by simp)
    obtain ⟨d2, hd2, k2⟩ := kindT_ok h2 (by simp)
    rw [tk_ptr k1] at hd1
    rw [tk_upt k2] at hd2
    split
    · rename_i ty cs ex y hg hy
      obtain ⟨ok⟩ := mkTy_ok hy
      split
      · rename_i hc
        simp only [Bool.and_eq_true, lenC0, Nat.ble_eq] at hc
        have hlt : off < cs.length := by simpa [Nat.blt_eq] using hc.1
        have hsz : y.sz ≠ 0 := by have := hc.2; omega
        refine Yl.pure _ (OpOk.read hs fun a w θ hsl hb => ?_)
        rw [hop] at hsl
        obtain ⟨q, c, vs, arr, rest, f1, f2, f3, f4, _, f6, _⟩ := hb _ hg
        have hx := hsl.ev (by simp) hv
        simp only [den, f1, Option.map_some, Option.some.injEq] at hx
        have hlt2 : ¬ arr.size ≤ off := by
          have := congrArg List.length f6
          have := dens_len f4
          simp at *; omega
        refine ⟨.pointer (some ⟨q, off, none⟩), hex a w w _ ?_, by simp [den, f1]⟩
        rw [← hx]
        have hsh : w.shape? q = some (ty, arr.size) := by simp [World.shape?, f2]
        simp [convert, run_underlying hd1, run_underlying hd2, Conv.unsafePointer, Conv.seenAt, viewAt, cellsIn, shape, Sem.run, hsh, ok.size, hsz, hlt2]
      · exact Yl.no
    · exact Yl.no
  · rename_i t h1 h2
    obtain ⟨d1, hd1, k1⟩ := kindT_ok h1 (by simp)
    obtain ⟨d2, hd2, k2⟩ := kindT_ok h2 (by simp)
    rw [tk_upt k1] at hd1
    rw [tk_ptr k2] at hd2
    refine Yl.pure _ (OpOk.pure hs fun a w θ hsl => ?_)
    rw [hop] at hsl
    have hx : a.eval x = .pointer none := (Option.some.inj (hsl.ev (by simp) hv)).symm
    exact ⟨.pointer none, hex a w w _ (by rw [hx]; simp [convert, run_underlying hd1, run_underlying hd2, Conv.unsafePointer]), rfl⟩
  · rename_i u g off h1 h2
    obtain ⟨d1, hd1, k1⟩ := kindT_ok h1 (by simp)
    obtain ⟨d2, hd2, k2⟩ := kindT_ok h2 (by simp)
    rw [tk_upt k1] at hd1
    rw [tk_ptr k2] at hd2
    split
    · rename_i e cs hg
      split
      · rename_i y hy
        obtain ⟨ok⟩ := mkTy_ok hy
        split
        · rename_i hc
          rw [lenC0] at hc
          refine Yl.pure _ (OpOk.read hs fun a w θ hsl hb => ?_)
          rw [hop] at hsl
          obtain ⟨q, c, vs, arr, rest, f1, f2, f3, f4, _, f6, f7⟩ := hb _ hg
          have hx := hsl.ev (by simp) hv
          simp only [den, f1, Option.map_some, Option.some.injEq] at hx
          have hr : rest = [] := f7 rfl
          subst hr
          have hsz : arr.size = cs.length := by
            have := congrArg List.length f6
            have := dens_len f4
            simp at *; omega
          rw [← hsz] at hc
          refine ⟨.pointer (some ⟨q, off, none⟩), hex a w w _ ?_, by simp [den, f1]⟩
          rw [← hx]
          have hsh : w.shape? q = some (e, arr.size) := by simp [World.shape?, f2]
          have hva : (variablesAt ⟨q, off, none⟩ u 1).run P w = .ok true w := by
            simp [variablesAt, hsh, hc]
          simp [convert, run_underlying hd1, run_underlying hd2, Conv.unsafePointer, Conv.seenAt, viewAt, hsh, ok.size, hva]
        · exact Yl.no
      · exact Yl.no
    · exact Yl.no
  · exact Yl.no
end
end X
end Go.Proofs.YtdbchpoaoghgpaaGreatDoor

set_option linter.unusedSimpArgs false
set_option linter.unusedVariables false
namespace Go.Proofs.YtdbchpoaoghgpaaGreatDoor
namespace X
open Go.RowKit B

/-! ### A function that answers its argument -/
theorem find_same {fn : Func} (hn : fn.name = "internal/abi.NoEscape") (ho : fn.origin = "") : Extern.findNext fn = none ∧ Extern.find fn = some Extern.AbiNoEscape.same := by
  constructor
  · simp only [Extern.findNext, hn, ho]
    have h1 : Extern.allNextRows.lookup "internal/abi.NoEscape" = none := by kernel_rfl
    have h2 : Extern.allNextRows.lookup "" = none := by kernel_rfl
    rw [h1, h2]; rfl
  · simp only [Extern.find, hn, ho]
    have h1 : Extern.allGenericRows.lookup "internal/abi.NoEscape" = none := by kernel_rfl
    have h2 : Extern.allTypedRows.lookup "internal/abi.NoEscape" = none := by kernel_rfl
    have h3 : Extern.allRows.lookup "internal/abi.NoEscape" = some Extern.AbiNoEscape.same := by kernel_rfl
    rw [h1, h2, h3]; rfl
theorem same_run {P : Program} {f : Nat} (h : isSame P f = true) (v : Value) (w : World) : (callFunc f #[v]).run P w = .ok (.value v) w := by
  unfold isSame at h
  split at h
  · rename_i fn hf
    simp only [Bool.and_eq_true, beq_iff_eq] at h
    obtain ⟨⟨h1, h2⟩, h3⟩ := h
    obtain ⟨h4, h5⟩ := find_same h2 h3
    rw [run_callFunc_extern hf (by rw [h2]; decide) h1 h4 h5]
    rfl
  · cases h

/-! ### The function that looks for a byte -/
theorem find_idx {fn : Func} (hn : fn.name = "internal/bytealg.IndexByteString") (ho : fn.origin = "") : Extern.findNext fn = none ∧ Extern.find fn = some Extern.BytealgIndexByte.indexByte := by
  constructor
  · simp only [Extern.findNext, hn, ho]
    have h1 : Extern.allNextRows.lookup "internal/bytealg.IndexByteString" = none := by kernel_rfl
    have h2 : Extern.allNextRows.lookup "" = none := by kernel_rfl
    rw [h1, h2]; rfl
  · simp only [Extern.find, hn, ho]
    have h1 : Extern.allGenericRows.lookup "internal/bytealg.IndexByteString" = none := by kernel_rfl
    have h2 : Extern.allTypedRows.lookup "internal/bytealg.IndexByteString" = none := by kernel_rfl
    have h3 : Extern.allRows.lookup "internal/bytealg.IndexByteString" = some Extern.BytealgIndexByte.indexByte := by kernel_rfl
    rw [h1, h2, h3]; rfl
theorem idx_run {P : Program} {f : Nat} (h : isIdx P f = true) (s : ByteArray) (n : Nat) (w : World) : (callFunc f #[.string s, .int .u8 (n : Int)]).run P w = .ok (.value (.int .i64 (Lib.indexByte s.data.toList n.toUInt8))) w := by
  unfold isIdx at h
  split at h
  · rename_i fn hf
    simp only [Bool.and_eq_true, beq_iff_eq] at h
    obtain ⟨⟨h1, h2⟩, h3⟩ := h
    obtain ⟨h4, h5⟩ := find_idx h2 h3
    rw [run_callFunc_extern hf (by rw [h2]; decide) h1 h4 h5]
    have := Lib.run_indexByteString (P := P) s (n : Int) w
    rw [this]
    rfl
  · cases h
theorem idxK_yl {ρ : Rho} {n : Nat} (hn : n ≤ 255) : ∀ {l : Str} {k : Nat}, knownS l = true → Yl (idxK l n k) fun r => r = if Lib.indexByte (denS ρ l) n.toUInt8 = -1 then -1 else Lib.indexByte (denS ρ l) n.toUInt8 + k
  | [], k, _ => Yl.pure _ rfl
  | .a i :: l, k, h => by simp [knownS] at h
  | .c b :: l, k, h => by
    simp only [knownS] at h
    split at h
    · rename_i hb
      have hb := Nat.le_of_ble_eq_true hb
      have e : denS ρ (.c b :: l) = UInt8.ofNat b :: denS ρ l := by rw [denS_cons]; rfl
      have hbn : (UInt8.ofNat b == n.toUInt8) = Nat.beq b n := by
        rw [Bool.eq_iff_iff, beq_iff_eq, Nat.beq_eq]
        constructor
        · intro h
          have := congrArg UInt8.toNat h
          rw [UInt8.toNat_ofNat', show n.toUInt8.toNat = n % 2 ^ 8 from UInt8.toNat_ofNat', Nat.mod_eq_of_lt (by omega), Nat.mod_eq_of_lt (by omega)] at this
          exact this
        · rintro rfl; rfl
      have hI : Lib.indexByte (denS ρ (.c b :: l)) n.toUInt8 = if Nat.beq b n = true then 0 else if Lib.indexByte (denS ρ l) n.toUInt8 = -1 then -1 else Lib.indexByte (denS ρ l) n.toUInt8 + 1 := by
        rw [e, Lib.indexByte, hbn]; simp
      simp only [idxK]
      split
      · rename_i hq
        exact Yl.map (fun k => Int.ofNat k) frn_yl fun x hx => by subst hx; simp [hI, hq]
      · rename_i hq
        refine Yl.mono (idxK_yl (ρ := ρ) hn (l := l) (k := Nat.succ k) h) fun r hr => ?_
        have hge := Lib.indexByte_ge (denS ρ l) n.toUInt8
        simp only [hr, hI, hq, Bool.false_eq_true, if_false]
        by_cases h1 : Lib.indexByte (denS ρ l) n.toUInt8 = -1
        · simp [h1]
        · rw [if_neg h1, if_neg (by rw [if_neg h1]; omega), if_neg h1]; omega
    · cases h

/-! ### What is told of calls -/
structure O4 where
  v : SV
  m : Mem
  nx : Nat
  pc : PC
structure CallR (P : Program) (ρ : Rho) (f : Nat) (args : List SV) (m : Mem) (nx : Nat) (r : O4) : Prop where
  enter : ∀ args w, (callFunc f args).run P w = .ok (.enter f args) w
  pc : Sat ρ r.pc
  le : nx ≤ r.nx
  new : ∀ t, m.get t = none → r.m.get t ≠ none → nx ≤ t ∧ t < r.nx
  run : ∀ (w : World) (θ : Th) (vs : List Value), dens ρ θ args = some vs → MemOk ρ θ m.get w → (∀ t, nx ≤ t → t < r.nx → θ t = none) →
    Calls P f vs.toArray w (fun e w' => ∃ v θ', e = .returned v ∧ SP ρ nx r.nx θ m.get w θ' r.m.get w' ∧ den ρ θ' r.v = some v)
def CallSp (P : Program) (ρ : Rho) (call : CallT) : Prop := ∀ f args m nx pc, Sat ρ pc → Yl (fun K => call f args m nx pc fun v m nx pc => K ⟨v, m, nx, pc⟩) (CallR P ρ f args m nx)
theorem calls_mono {P : Program} {f : FuncId} {args : Array Value} {w : World} {R R' : Ending → World → Prop} (h : Calls P f args w R) (hr : ∀ e w', R e w' → R' e w') : Calls P f args w R' := fun cs => by
  obtain ⟨e, w', fr, h1, h2⟩ := h cs
  exact ⟨e, w', fr, hr _ _ h1, h2⟩

section
variable {P : Program} {ρ : Rho} {o : Oper} {s : Tr SV} {m : Mem} {nx : Nat} {pc : PC} {call : CallT}
theorem opCall_yl {c : Call} {x : Operand} (hc : CallSp P ρ call) (hs : Sat ρ pc) (ho : o.op = .call c) (hx : c.callee = .value x) : Yl (fun K => evO s x fun v => match v with
      | .fn f fi ca => evL s c.args.toList fun vs => match isSame P f with
        | true => match fi, vs, ca with
          | [], [v], [] => K ⟨v, m, nx, pc, .n⟩
          | _, _, _ => false
        | false => match isIdx P f with
          | true => opIdx fi vs ca m nx pc fun v m nx pc ft => K ⟨v, m, nx, pc, ft⟩
          | false => appC fi vs fun l => appC l ca fun l => call f l m nx pc fun v m nx pc => K ⟨v, m, nx, pc, .c⟩
      | _ => false) (OpOk P ρ o s m nx) := by
  have hop : o.op.operands.toList = x :: c.args.toList := by simp [ho, Op.operands, Call.operands, hx]
  refine Yl.bind (evO_yl (ρ := ρ)) fun v hv => ?_
  split
  · rename_i f fi ca
    refine Yl.bind (evL_yl (ρ := ρ)) fun vs hvs => ?_
    have key : ∀ {a : Act} {θ : Th}, SlOk ρ s θ a o.op.operands.toList → ∃ fv cv, dens ρ θ fi = some fv ∧ dens ρ θ ca = some cv ∧ dens ρ θ vs = some (c.args.toList.map a.eval) ∧
        ∀ w, (execOp a.eval o).run P w = (callFunc f (fv ++ c.args.toList.map a.eval ++ cv).toArray).run P w := fun {a θ} hsl => by
      rw [hop] at hsl
      have h1 := hsl.ev (by simp) hv
      have h2 := hsl.evs (fun x hx => by simp [hx]) hvs
      simp only [den, Option.bind_eq_some_iff, Option.map_eq_some_iff] at h1
      obtain ⟨fv, e1, cv, e2, e3⟩ := h1
      refine ⟨fv, cv, e1, e2, h2, fun w => ?_⟩
      have e4 : (fv.toArray ++ Array.map a.eval c.args ++ cv.toArray) = (fv ++ c.args.toList.map a.eval ++ cv).toArray := by
        apply Array.ext'; simp
      simp only [execOp, ho, resolve, hx, ← e3, Deferred.ofValue, Sem.run_bind, Sem.run_pure, Result.andThen_ok, invoke, e4]
    split
    · rename_i hsame
      split
      · rename_i v'
        refine Yl.pure _ (OpOk.pure hs fun a w θ hsl => ?_)
        obtain ⟨fv, cv, e1, e2, e3, e4⟩ := key hsl
        cases e1; cases e2
        simp only [dens, Option.bind_eq_some_iff, Option.map_eq_some_iff, Option.some.injEq] at e3
        obtain ⟨u, e5, us, rfl, e6⟩ := e3
        refine ⟨u, ?_, e5⟩
        unfold Runs
        rw [e4 w, ← e6]
        exact same_run hsame u w
      · exact Yl.no
    · split
      · rename_i hidx
        unfold opIdx
        split
        · rename_i l n
          split
          · rename_i hc
            simp only [Bool.and_eq_true] at hc
            have hn := Nat.le_of_ble_eq_true hc.2
            refine Yl.map (fun i : Int => (⟨.i .i64 i, m, nx, pc, .n⟩ : O5)) (idxK_yl (ρ := ρ) hn (k := 0) hc.1) fun r hr => OpOk.pure hs fun a w θ hsl => ?_
            obtain ⟨fv, cv, e1, e2, e3, e4⟩ := key hsl
            cases e1; cases e2
            simp only [dens, den, Option.bind_some, Option.map_some, Option.some.injEq] at e3
            refine ⟨_, ?_, rfl⟩
            unfold Runs
            rw [e4 w, ← e3]
            have := idx_run hidx (bstr (denS ρ l)) n w
            have e5 : r = Lib.indexByte (denS ρ l) n.toUInt8 := by
              rw [hr]; split
              · rename_i h; exact h.symm
              · simp
            rw [e5]
            exact this
          · exact Yl.no
        · exact Yl.no
      refine Yl.bind appC_yl fun l1 hl1 => Yl.bind appC_yl fun l2 hl2 => ?_
      subst hl1
      subst hl2
      refine Yl.map (fun r : O4 => (⟨r.v, r.m, r.nx, r.pc, .c⟩ : O5)) (hc f _ m nx pc hs) fun r hr => ?_
      exact {
        pc := hr.pc
        le := hr.le
        off := fun t ht => absurd trivial ht
        rd := fun _ h => by cases h
        new := hr.new
        run := fun a w θ h1 h2 h3 => by
          obtain ⟨fv, cv, e1, e2, e3, e4⟩ := key h1
          unfold Oper.wp
          rw [e4 w, hr.enter, Oper.upon_enter]
          rw [subM_c] at h2
          refine calls_mono (hr.run w θ _ (dens_append (dens_append e1 e3) e2) h2 h3) fun e w' h => ?_
          obtain ⟨v, θ', rfl, h4, h5⟩ := h
          exact ⟨v, θ', rfl, by rw [subM_c, subM_c]; exact h4, h5⟩ }
  · exact Yl.no
theorem list1 {α : Type} {a : Array α} {x : α} (h : a.toList = [x]) : a = #[x] := Array.ext' h
theorem list2 {α : Type} {a : Array α} {x y : α} (h : a.toList = [x, y]) : a = #[x, y] := Array.ext' h
theorem opBuiltin_yl {c : Call} {b : Builtin} (hs : Sat ρ pc) (ho : o.op = .call c) (hx : c.callee = .builtin b) : Yl (fun K => opBuiltin P s m nx pc b c.args.toList c.argTypes.toList fun v m nx pc ft => K ⟨v, m, nx, pc, ft⟩) (OpOk P ρ o s m nx) := by
  obtain ⟨callee, args, ts⟩ := c
  simp only at hx ⊢
  subst hx
  unfold opBuiltin
  split
  · rename_i h1 h2; exact opLen_yl hs (by rw [ho, list1 h1, list1 h2])
  · rename_i h1 h2; exact opAppend_yl hs (by rw [ho, list2 h1, list2 h2])
  · rename_i h1 h2; exact opMM_yl (mx := true) hs (by rw [ho, list2 h1, list2 h2])
  · rename_i h1 h2; exact opMM_yl (mx := false) hs (by rw [ho, list2 h1, list2 h2])
  · rename_i h1 h2; exact opCopy_yl hs (by rw [ho, list2 h1, list2 h2])
  · rename_i h1 h2; exact opDelete_yl hs (by rw [ho, list2 h1, show ts = _ from Array.ext' h2])
  · rename_i h1; exact opSData_yl hs (by rw [ho, list1 h1])
  · rename_i h1 h2; exact opUString_yl hs (by rw [ho, list2 h1, list2 h2])
  · exact Yl.no
theorem opx_yl (hc : CallSp P ρ call) (hs : Sat ρ pc) : Yl (fun K => opx P call s m nx pc o fun v m nx pc ft => K ⟨v, m, nx, pc, ft⟩) (OpOk P ρ o s m nx) := by
  unfold opx
  split
  · rename_i x ho
    refine Yl.map (fun v => (⟨v, m, nx, pc, .n⟩ : O5)) (evO_yl (ρ := ρ)) fun v hv => OpOk.pure hs fun a w θ hsl => ?_
    rw [show o.op.operands.toList = [x] by simp [ho, Op.operands]] at hsl
    exact ⟨_, r_move ho rfl, hsl.ev (by simp) hv⟩
  · rename_i x ho
    refine Yl.map (fun v => (⟨v, m, nx, pc, .n⟩ : O5)) (evO_yl (ρ := ρ)) fun v hv => OpOk.pure hs fun a w θ hsl => ?_
    rw [show o.op.operands.toList = [x] by simp [ho, Op.operands]] at hsl
    exact ⟨_, r_assign ho rfl, hsl.ev (by simp) hv⟩
  · rename_i ho; exact opPick_yl hs ho
  · rename_i ho; exact opLoad_yl hs ho
  · rename_i ho; exact opStore_yl hs ho
  · rename_i ho; exact opFieldAddr_yl hs ho
  · rename_i ho; exact opNil_yl hs ho
  · rename_i ho; exact opBin_yl hs ho
  · rename_i ho; exact opUn_yl hs ho
  · rename_i ho; exact opIndexAddr_yl hs ho
  · rename_i ho; exact opExtract_yl hs ho
  · rename_i c ho
    split
    · rename_i x hx; exact opCall_yl hc hs ho hx
    · rename_i b hx; exact opBuiltin_yl hs ho hx
    · exact Yl.no
  · rename_i ho; exact opAlloc_yl hs ho
  · rename_i ho; exact opBox_yl hs ho
  · rename_i ho; exact opBuild_yl hs ho
  · rename_i ho; exact opBuildSlice_yl hs ho
  · rename_i ho; exact opConv_yl hs ho
  · rename_i ho; exact opFunc_yl hs ho
  · rename_i ho; exact opMakeMap_yl hs ho
  · rename_i ho; exact opMakeSlice_yl hs ho
  · rename_i ho; exact opSlice_yl hs ho
  · rename_i ho; exact opField_yl hs ho
  · rename_i ho; exact opIndex_yl hs ho
  · rename_i ho; exact opLookup_yl hs ho
  · rename_i ho; exact opUpdate_yl hs (.inl ho)
  · rename_i ho; exact opUpdate_yl hs (.inr ho)
  · exact Yl.no
end
end X
end Go.Proofs.YtdbchpoaoghgpaaGreatDoor

set_option linter.unusedSimpArgs false
set_option linter.unusedVariables false
namespace Go.Proofs.YtdbchpoaoghgpaaGreatDoor
namespace X
open Go.RowKit B

theorem get_bool {a : Act} {t : Nat} {b : Bool} (hv : get a t = .bool b) : a.tmps[t]? = some (.bool b) := by
  unfold B.get at hv
  rw [Array.getD_eq_getD_getElem?] at hv
  cases h' : a.tmps[t]? with
  | none => rw [h'] at hv; simp [undef] at hv
  | some u => rw [h'] at hv; simp at hv; rw [hv]
theorem get_undef {a : Act} {t : Nat} (hv : get a t = undef) : ∀ b, a.tmps[t]? ≠ some (.bool b) := by
  intro b h'
  unfold B.get at hv
  rw [Array.getD_eq_getD_getElem?, h'] at hv
  simp [undef] at hv
theorem dstAt_eq : ∀ {ops : List Oper} {j d : Nat}, dstAt ops j = some d → ∃ o, ops[j]? = some o ∧ o.dst = some d
  | [], j, d, h => by cases h
  | o :: l, 0, d, h => ⟨o, rfl, h⟩
  | o :: l, j + 1, d, h => by simpa using dstAt_eq (ops := l) (j := j) h

structure E1 (P : Program) (ρ : Rho) (ops : Array Oper) (n : Nat) (s : Tr SV) (m : Mem) (nx : Nat) (o : Oper) (r : O5) : Prop where
  pc : Sat ρ r.pc
  le : nx ≤ r.nx
  off : ∀ t, ¬ tc r.ft t → r.m.get t = m.get t
  rd : ∀ g, r.ft = .r g → r.m = m
  new : ∀ t, m.get t = none → r.m.get t ≠ none → nx ≤ t ∧ t < r.nx
  st : Step3 P ρ ops n s.get ⟨o, subM r.ft m, r.v, subM r.ft r.m, nx, r.nx⟩
section
variable {P : Program} {ρ : Rho} {o : Oper} {s : Tr SV} {m : Mem} {nx : Nat} {pc : PC} {call : CallT} {ops : List Oper} {n : Nat}
theorem E1.of {r : O5} (h : OpOk P ρ o s m nx r) (hw : ∀ (a : Act) (θ : Th), (∀ k ∈ gSlot ops.toArray o, ∀ sv, s.get k = some sv → den ρ θ sv = some (get a k)) → Region.wanted o (yielded ops.toArray a.tmps) = true) : E1 P ρ ops.toArray n s m nx o r :=
  ⟨h.pc, h.le, h.off, h.rd, h.new, fun a w θ _ _ h3 h4 h5 => ⟨fun _ => h.run a w θ (fun k hk => h3 k (by simp [reads, hk])) h4 h5, fun hn => by
    rw [hw a θ fun k hk => h3 k (by simp [reads, hk])] at hn; cases hn⟩⟩
theorem E1.not (hs : Sat ρ pc) (hw : ∀ (a : Act) (θ : Th), (∀ k ∈ gSlot ops.toArray o, ∀ sv, s.get k = some sv → den ρ θ sv = some (get a k)) → Region.wanted o (yielded ops.toArray a.tmps) = false) : E1 P ρ ops.toArray n s m nx o ⟨.un, m, nx, pc, .n⟩ :=
  ⟨hs, Nat.le_refl _, fun _ _ => rfl, fun _ h => (by cases h), fun t h1 h2 => absurd h1 h2, fun a w θ _ _ h3 h4 h5 => ⟨fun hn => (by
    rw [hw a θ fun k hk => h3 k (by simp [reads, hk])] at hn; cases hn), fun _ => ⟨θ, SP.refl h4, rfl⟩⟩⟩
theorem ex1_yl (hc : CallSp P ρ call) (hs : Sat ρ pc) : Yl (fun K => ex1 P call ops s m nx pc o fun v m nx pc ft => K ⟨v, m, nx, pc, ft⟩) (E1 P ρ ops.toArray n s m nx o) := by
  unfold ex1
  split
  · rename_i hg
    exact (opx_yl hc hs).mono fun r hr => E1.of hr fun a θ _ => by simp [Region.wanted, hg]
  · rename_i j want hg
    split
    · rename_i d hd
      obtain ⟨o', ho', hd'⟩ := dstAt_eq hd
      have hgs : gSlot ops.toArray o = [d] := by simp [gSlot, hg, ho', hd']
      split
      · rename_i b hb
        have wt : ∀ (a : Act) (θ : Th), (∀ k ∈ gSlot ops.toArray o, ∀ sv, s.get k = some sv → den ρ θ sv = some (get a k)) → Region.wanted o (yielded ops.toArray a.tmps) = (b == want) := fun a θ h => by
          have hv := get_bool (Option.some.inj (h d (by rw [hgs]; simp) _ hb)).symm
          cases want <;> cases b <;> simp [Region.wanted, hg, yielded, ho', hd', hv]
        split
        · exact (opx_yl hc hs).mono fun r hr => E1.of hr fun a θ h => wt a θ h
        · exact (opx_yl hc hs).mono fun r hr => E1.of hr fun a θ h => wt a θ h
        · rename_i h1 h2
          refine Yl.pure (⟨.un, m, nx, pc, .n⟩ : O5) (E1.not hs fun a θ h => ?_)
          rw [wt a θ h]
          cases b <;> cases want <;> first | rfl | exact absurd rfl (h1 rfl) | exact absurd rfl (h2 rfl) | exact (h1 rfl rfl).elim | exact (h2 rfl rfl).elim
      · rename_i hb
        refine Yl.pure (⟨.un, m, nx, pc, .n⟩ : O5) (E1.not hs fun a θ h => ?_)
        have hn := get_undef (Option.some.inj (h d (by rw [hgs]; simp) _ hb)).symm
        have hy : yielded ops.toArray a.tmps j = none := by
          cases h' : a.tmps[d]? with
          | none => simp [yielded, ho', hd', h']
          | some u => cases u <;> first | exact absurd h' (hn _) | simp [yielded, ho', hd', h']
        simp [Region.wanted, hg, hy]
      · exact Yl.no
    · exact Yl.no
theorem putS_yl {d : Option Nat} {v : SV} : Yl (putS s d v) fun s' => s'.get = updS s.get d v := by
  unfold putS
  split
  · exact Yl.pure _ (by funext k; simp [updS])
  · rename_i d
    refine set_yl.mono fun s' h => ?_
    funext k
    rw [h k]
    simp only [updS, Option.some.injEq]
    by_cases e : k = d
    · subst e; simp
    · rw [if_neg e, if_neg (fun q => e q.symm)]

/-! ### Traces -/
structure OS where
  s : Tr SV
  m : Mem
  nx : Nat
  pc : PC
structure TrOk (P : Program) (ρ : Rho) (ops : Array Oper) (n : Nat) (l : List Oper) (s : Tr SV) (m : Mem) (nx : Nat) (r : OS) (tr : List TE) : Prop where
  os : tr.map (·.o) = l
  st : Steps3 P ρ ops n nx s.get m.get tr
  fs : ∀ i, stS (fun _ => true) i tr s.get = r.s.get
  fm : ∀ i, stM (fun _ => true) i tr m.get = r.m.get
  fn : finN nx tr = r.nx
  pc : Sat ρ r.pc
  le : nx ≤ r.nx
  new : ∀ t, m.get t = none → r.m.get t ≠ none → nx ≤ t ∧ t < r.nx
theorem TrOk.nil {opa : Array Oper} (hs : Sat ρ pc) : TrOk P ρ opa n [] s m nx ⟨s, m, nx, pc⟩ [] :=
  ⟨rfl, trivial, fun _ => rfl, fun _ => rfl, rfl, hs, Nat.le_refl _, fun t h1 h2 => absurd h1 h2⟩
theorem TrOk.cons {opa : Array Oper} {l : List Oper} {r1 : O5} {s1 : Tr SV} {r : OS} {tr : List TE} (h1 : E1 P ρ opa n s m nx o r1) (hs1 : s1.get = updS s.get o.dst r1.v) (h : TrOk P ρ opa n l s1 r1.m r1.nx r tr) :
    TrOk P ρ opa n (o :: l) s m nx r (⟨o, subM r1.ft m, r1.v, subM r1.ft r1.m, nx, r1.nx⟩ :: tr) := by
  have hm : updM m.get ⟨o, subM r1.ft m, r1.v, subM r1.ft r1.m, nx, r1.nx⟩ = r1.m.get := by
    funext t
    by_cases hw : TE.wr ⟨o, subM r1.ft m, r1.v, subM r1.ft r1.m, nx, r1.nx⟩ t
    · rw [updM_wr hw]
      have hw : subM r1.ft m t ≠ subM r1.ft r1.m t := hw
      by_cases ht : tc r1.ft t
      · exact subM_in ht
      · exact absurd (by rw [subM_out ht, subM_out ht]) hw
    · rw [updM_not hw]
      have hw : subM r1.ft m t = subM r1.ft r1.m t := Classical.not_not.1 hw
      by_cases ht : tc r1.ft t
      · rw [subM_in ht, subM_in ht] at hw; exact hw
      · exact (h1.off t ht).symm
  refine ⟨by rw [List.map_cons, h.os], ⟨⟨rfl, h1.le, fun t b hb => (subM_some hb).2, fun t e1 e2 => ?_, h1.st⟩, ?_⟩, fun i => ?_, fun i => ?_, h.fn, h.pc, Nat.le_trans h1.le h.le, fun t e1 e2 => ?_⟩
  · by_cases ht : tc r1.ft t
    · exact h1.new t (by rw [← subM_in ht]; exact e1) (by rw [← subM_in ht]; exact e2)
    · exact absurd (subM_out ht) e2
  · rw [hm, ← hs1]; exact h.st
  · simp only [stS, if_true]
    rw [← hs1]; exact h.fs _
  · simp only [stM, if_true]
    rw [hm]; exact h.fm _
  · have h3 := h1.le
    have h4 := h.le
    by_cases e3 : r1.m.get t = none
    · have := h.new t e3 e2; exact ⟨by omega, this.2⟩
    · have := h1.new t e1 e3; exact ⟨this.1, by omega⟩
theorem exS_yl (hc : CallSp P ρ call) : ∀ {l : List Oper} {s : Tr SV} {m : Mem} {nx : Nat} {pc : PC}, Sat ρ pc → Yl (fun K => exS P call ops l s m nx pc fun s m nx pc => K ⟨s, m, nx, pc⟩) fun r => ∃ tr, TrOk P ρ ops.toArray n l s m nx r tr
  | [], s, m, nx, pc, hs => Yl.pure (⟨s, m, nx, pc⟩ : OS) ⟨[], TrOk.nil hs⟩
  | o :: l, s, m, nx, pc, hs => by
    refine Yl.bind (α := O5) (β := OS) (F := fun K => ex1 P call ops s m nx pc o fun v m nx pc ft => K ⟨v, m, nx, pc, ft⟩) (G := fun r K => putS s o.dst r.v fun s => exS P call ops l s r.m r.nx r.pc fun s m nx pc => K ⟨s, m, nx, pc⟩) (ex1_yl (n := n) hc hs) fun r1 h1 => ?_
    refine Yl.bind putS_yl fun s1 hs1 => ?_
    exact (exS_yl hc h1.pc).mono fun r ⟨tr, htr⟩ => ⟨_, htr.cons h1 hs1⟩

/-! ### Drawn regions -/
structure FeOf (i : Nat) (e : TE) (x : FE) : Prop where
  i : x.i = i
  r : e.R = subM x.ft x.m0
  r' : e.R' = subM x.ft x.m1
  rd : ∀ g, x.ft = .r g → x.m1 = x.m0
inductive FeR : Nat → List TE → List FE → Prop where
  | nil (i : Nat) : FeR i [] []
  | cons {i : Nat} {e : TE} {x : FE} {l : List TE} {k : List FE} (h : FeOf i e x) (t : FeR (i + 1) l k) : FeR i (e :: l) (x :: k)
theorem FeR.get : ∀ {i j : Nat} {l : List TE} {k : List FE} {e : TE}, FeR i l k → l[j]? = some e → ∃ x, k[j]? = some x ∧ FeOf (i + j) e x
  | i, j, _, _, e, .nil _, h => by simp at h
  | i, 0, _, _, e, .cons h t, hj => by simp at hj; subst hj; exact ⟨_, rfl, h⟩
  | i, j + 1, _, _, e, .cons h t, hj => by
    obtain ⟨x, h1, h2⟩ := FeR.get t (by simpa using hj)
    exact ⟨x, by simpa using h1, by rwa [show i + (j + 1) = i + 1 + j by omega]⟩
def isT (x : FE) : Bool := match x.ft with
  | .n => false
  | _ => true
theorem exD_yl (hc : CallSp P ρ call) : ∀ {l : List Oper} {i : Nat} {s : Tr SV} {m : Mem} {nx : Nat} {pc : PC} {acc : List FE}, Sat ρ pc → Yl (fun K => exD P call ops l i s m nx pc acc fun s m nx pc acc => K (⟨s, m, nx, pc⟩, acc)) fun r : OS × List FE => ∃ tr fes, TrOk P ρ ops.toArray n l s m nx r.1 tr ∧ FeR i tr fes ∧ r.2 = (fes.filter isT).reverse ++ acc
  | [], i, s, m, nx, pc, acc, hs => Yl.pure ((⟨s, m, nx, pc⟩, acc) : OS × List FE) ⟨[], [], TrOk.nil hs, .nil i, rfl⟩
  | o :: l, i, s, m, nx, pc, acc, hs => by
    refine Yl.bind (α := O5) (β := OS × List FE) (F := fun K => ex1 P call ops s m nx pc o fun v m nx pc ft => K ⟨v, m, nx, pc, ft⟩) (G := fun r K => putS s o.dst r.v fun s => match r.ft with
      | .n => exD P call ops l (Nat.succ i) s r.m r.nx r.pc acc fun s m nx pc acc => K (⟨s, m, nx, pc⟩, acc)
      | ft => exD P call ops l (Nat.succ i) s r.m r.nx r.pc (⟨i, ft, m, r.m⟩ :: acc) fun s m nx pc acc => K (⟨s, m, nx, pc⟩, acc)) (ex1_yl (n := n) hc hs) fun r1 h1 => ?_
    refine Yl.bind putS_yl fun s1 hs1 => ?_
    have fe : FeOf i ⟨o, subM r1.ft m, r1.v, subM r1.ft r1.m, nx, r1.nx⟩ ⟨i, r1.ft, m, r1.m⟩ := ⟨rfl, rfl, rfl, h1.rd⟩
    split
    · rename_i hft
      refine (exD_yl hc h1.pc).mono fun r ⟨tr, fes, htr, hf, ha⟩ => ⟨_, _, htr.cons h1 hs1, .cons fe hf, ?_⟩
      rw [List.filter_cons_of_neg (by simp [isT, hft])]
      exact ha
    · rename_i hft
      refine (exD_yl hc h1.pc).mono fun r ⟨tr, fes, htr, hf, ha⟩ => ⟨_, _, htr.cons h1 hs1, .cons fe hf, ?_⟩
      rw [List.filter_cons_of_pos (by
        unfold isT
        split
        · rename_i e; exact absurd e hft
        · rfl)]
      rw [ha]; simp
end

/-! ### What does not hang together -/
theorem eqTs_ok : ∀ {l m : List (Nat × Int)}, eqTs l m = true → l = m
  | [], [], _ => rfl
  | (i, a) :: l, (j, b) :: m, h => by
    simp only [eqTs, Bool.and_eq_true, Nat.beq_eq, eqI_iff] at h
    obtain ⟨⟨rfl, rfl⟩, h⟩ := h
    rw [eqTs_ok h]
  | [], _ :: _, h => by cases h
  | _ :: _, [], h => by cases h
theorem eqLin_ok {a b : Lin} (h : eqLin a b = true) : a = b := by
  cases a; cases b
  simp only [eqLin, Bool.and_eq_true, eqI_iff] at h
  rw [h.1, eqTs_ok h.2]
mutual
theorem eqV_ok : ∀ {a b : SV}, eqV a b = true → a = b
  | a, b, h => by
    cases a <;> cases b <;> first
      | (simp only [eqV] at h; done)
      | (simp [eqV] at h; done)
      | rfl
      | skip
    all_goals simp only [eqV, Bool.and_eq_true, Nat.beq_eq, eqI_iff, ikEq_iff, beq_iff_eq] at h
    · obtain ⟨rfl, rfl⟩ := h; rfl
    · rw [h.1, eqLin_ok h.2]
    · rw [h]
    · rw [eqStr_ok h]
    · rw [h.1, h.2]
    · obtain ⟨⟨⟨rfl, rfl⟩, rfl⟩, h⟩ := h
      rename_i c c'
      cases c <;> cases c' <;> simp at h <;> rw [h]
    · rw [h.1, eqStr_ok h.2]
    · rw [h]
    · rw [eqVs_ok h]
    · rw [eqVs_ok h]
    · rw [h.1.1, eqVs_ok h.1.2, eqVs_ok h.2]
    · rw [h]
    · rw [h.1, h.2]
    · rw [h.1, h.2]
theorem eqVs_ok : ∀ {a b : List SV}, eqVs a b = true → a = b
  | [], [], _ => rfl
  | a :: l, b :: m, h => by
    simp only [eqVs, Bool.and_eq_true] at h
    rw [eqV_ok h.1, eqVs_ok h.2]
  | [], _ :: _, h => by cases h
  | _ :: _, [], h => by cases h
end
end X
end Go.Proofs.YtdbchpoaoghgpaaGreatDoor

set_option linter.unusedSimpArgs false
set_option linter.unusedVariables false
namespace Go.Proofs.YtdbchpoaoghgpaaGreatDoor
namespace X
open Go.RowKit B

theorem eqEs_ok : ∀ {l m : List (SV × SV × Nat)}, eqEs l m = true → l = m
  | [], [], _ => rfl
  | (a, b, n) :: l, (c, d, k) :: m, h => by
    simp only [eqEs, Bool.and_eq_true, Nat.beq_eq] at h
    obtain ⟨⟨⟨h1, h2⟩, rfl⟩, h4⟩ := h
    rw [eqV_ok h1, eqV_ok h2, eqEs_ok h4]
  | [], _ :: _, h => by cases h
  | _ :: _, [], h => by cases h
theorem eqBlk_ok {a b : Option Blk} (h : eqBlk a b = true) : a = b := by
  unfold eqBlk at h
  split at h
  · rfl
  · simp only [Bool.and_eq_true, Nat.beq_eq, beq_iff_eq] at h
    obtain ⟨⟨rfl, h2⟩, rfl⟩ := h
    rw [eqVs_ok h2]
  · simp only [Bool.and_eq_true, Nat.beq_eq] at h
    obtain ⟨rfl, h2⟩ := h
    rw [eqStr_ok h2]
  · simp only [Bool.and_eq_true, Nat.beq_eq] at h
    obtain ⟨h2, rfl⟩ := h
    rw [eqEs_ok h2]
  · simp only [Bool.and_eq_true, Nat.beq_eq] at h
    obtain ⟨rfl, h2⟩ := h
    rw [eqStr_ok h2]
  · rw [eqVs_ok h]
  · simp only [Bool.and_eq_true, Nat.beq_eq] at h
    rw [h.1, h.2]
  · simp only [Bool.and_eq_true, Nat.beq_eq] at h
    rw [h.1.1, h.1.2, h.2]
  · cases h
theorem memN_iff {t : Nat} : ∀ {l : List Nat}, memN t l = true ↔ t ∈ l
  | [] => by simp [memN]
  | k :: l => by
    simp only [memN]
    split
    · rename_i h
      have := Nat.eq_of_beq_eq_true h
      simp [this]
    · rename_i h
      have := Nat.ne_of_beq_eq_false h
      rw [memN_iff (l := l)]
      simp [Ne.symm this]
theorem memN_not {t : Nat} {l : List Nat} : (!memN t l) = true ↔ t ∉ l := by
  rw [Bool.not_eq_true', ← memN_iff]; simp
theorem apartN_ok {m : List Nat} : ∀ {l : List Nat}, apartN l m = true → ∀ t ∈ l, t ∉ m
  | [], _, t, h => by cases h
  | k :: l, h, t, ht => by
    simp only [apartN, Bool.and_eq_true] at h
    rcases List.mem_cons.1 ht with rfl | ht
    · exact memN_not.1 h.1
    · exact apartN_ok h.2 t ht
theorem newTo_ok {m0 m1 : Mem} : ∀ {l : List Nat}, newTo m0 m1 l = true → ∀ t ∈ l, m0.get t = none ∧ m1.get t = none
  | [], _, t, h => by cases h
  | k :: l, h, t, ht => by
    simp only [newTo] at h
    split at h
    · rename_i h1 h2
      rcases List.mem_cons.1 ht with rfl | ht
      · exact ⟨h1, h2⟩
      · exact newTo_ok h t ht
    · cases h

structure IndM (x y : TE) : Prop where
  m1 : ∀ t, x.wr t → ¬ y.wr t ∧ ¬ y.rd t
  m2 : ∀ t, y.wr t → ¬ x.rd t
section
variable {i j : Nat} {x y : TE} {a b : FE}
theorem FeOf.tcw (h : FeOf i x a) {t : Nat} (hw : x.wr t) : tc a.ft t := by
  unfold TE.wr at hw
  rw [h.r, h.r'] at hw
  exact Classical.byContradiction fun hn => hw (by rw [subM_out hn, subM_out hn])
theorem FeOf.tcr (h : FeOf i x a) {t : Nat} (hw : x.rd t) : tc a.ft t := by
  unfold TE.rd at hw
  rw [h.r] at hw
  exact Classical.byContradiction fun hn => hw (subM_out hn)
theorem FeOf.nw (h : FeOf i x a) {t : Nat} (he : a.m0.get t = a.m1.get t) : ¬ x.wr t := fun hw => by
  have ht := h.tcw hw
  unfold TE.wr at hw
  rw [h.r, h.r', subM_in ht, subM_in ht] at hw
  exact hw he
theorem FeOf.nr (h : FeOf i x a) {t : Nat} (he : a.m0.get t = none) : ¬ x.rd t := fun hw => by
  have ht := h.tcr hw
  unfold TE.rd at hw
  rw [h.r, subM_in ht] at hw
  exact hw he
theorem FeOf.still (h : FeOf i x a) {g : Nat} (he : a.ft = .r g) (t : Nat) : ¬ x.wr t := h.nw (by rw [h.rd g he])
theorem FeOf.none (h : FeOf i x a) (he : a.ft = .n) (t : Nat) : ¬ x.wr t ∧ ¬ x.rd t :=
  ⟨fun hw => (by have := h.tcw hw; rw [he] at this; exact this), fun hw => (by have := h.tcr hw; rw [he] at this; exact this)⟩
theorem indFt_ok (hx : FeOf i x a) (hy : FeOf j y b) (h : a.ft = .n ∨ b.ft = .n ∨ indFt a b = true) : IndM x y := by
  rcases h with h | h | h
  · exact ⟨fun t ht => absurd ht (hx.none h t).1, fun t _ => (hx.none h t).2⟩
  · exact ⟨fun t _ => hy.none h t, fun t ht => absurd ht (hy.none h t).1⟩
  · unfold indFt at h
    split at h
    · rename_i e; exact ⟨fun t ht => absurd ht (hx.none e t).1, fun t _ => (hx.none e t).2⟩
    · rename_i e _; exact ⟨fun t _ => hy.none e t, fun t ht => absurd ht (hy.none e t).1⟩
    · rename_i e1 e2
      exact ⟨fun t ht => absurd ht (hx.still e1 t), fun t ht => absurd ht (hy.still e2 t)⟩
    · rename_i g ts e1 e2
      refine ⟨fun t ht => absurd ht (hx.still e1 t), fun t ht hr => ?_⟩
      have h1 := hy.tcw ht
      have h2 := hx.tcr hr
      rw [e2] at h1; rw [e1] at h2
      have h2 : t = g := h2
      subst h2
      exact memN_not.1 h h1
    · rename_i ts g e1 e2
      refine ⟨fun t ht => ⟨hy.still e2 t, fun hr => ?_⟩, fun t ht => absurd ht (hy.still e2 t)⟩
      have h1 := hx.tcw ht
      have h2 := hy.tcr hr
      rw [e1] at h1; rw [e2] at h2
      have h2 : t = g := h2
      subst h2
      exact memN_not.1 h h1
    · rename_i ts us e1 e2
      have ap := apartN_ok h
      refine ⟨fun t ht => ?_, fun t ht hr => ?_⟩
      · have h1 := hx.tcw ht
        rw [e1] at h1
        refine ⟨fun hw => ?_, fun hr => ?_⟩
        · have h2 := hy.tcw hw; rw [e2] at h2; exact ap t h1 h2
        · have h2 := hy.tcr hr; rw [e2] at h2; exact ap t h1 h2
      · have h1 := hx.tcr hr
        have h2 := hy.tcw ht
        rw [e1] at h1; rw [e2] at h2
        exact ap t h1 h2
    · rename_i g e1 e2
      refine ⟨fun t ht => ⟨hy.still e2 t, fun hr => ?_⟩, fun t ht => absurd ht (hy.still e2 t)⟩
      have h2 := hy.tcr hr
      rw [e2] at h2
      have h2 : t = g := h2
      subst h2
      exact hx.nw (eqBlk_ok h) ht
    · rename_i g e1 e2
      refine ⟨fun t ht => absurd ht (hx.still e1 t), fun t ht hr => ?_⟩
      have h2 := hx.tcr hr
      rw [e1] at h2
      have h2 : t = g := h2
      subst h2
      exact hy.nw (eqBlk_ok h) ht
    · rename_i ts e1 e2
      have nt := newTo_ok h
      refine ⟨fun t ht => ⟨fun hw => ?_, fun hr => ?_⟩, fun t ht hr => ?_⟩
      · have h2 := hy.tcw hw; rw [e2] at h2
        obtain ⟨q1, q2⟩ := nt t h2
        exact hx.nw (by rw [q1, q2]) ht
      · have h2 := hy.tcr hr; rw [e2] at h2
        obtain ⟨q1, q2⟩ := nt t h2
        exact hx.nw (by rw [q1, q2]) ht
      · have h2 := hy.tcw ht; rw [e2] at h2
        exact hx.nr (nt t h2).1 hr
    · rename_i ts e1 e2
      have nt := newTo_ok h
      refine ⟨fun t ht => ?_, fun t ht hr => ?_⟩
      · have h2 := hx.tcw ht; rw [e1] at h2
        obtain ⟨q1, q2⟩ := nt t h2
        exact ⟨hy.nw (by rw [q1, q2]), hy.nr q1⟩
      · have h2 := hx.tcr hr; rw [e1] at h2
        obtain ⟨q1, q2⟩ := nt t h2
        exact hy.nw (by rw [q1, q2]) ht
    · cases h
end

/-! ### Any two -/
theorem okWith_ok {bf : List Nat} {x : FE} : ∀ {l : List FE}, okWith bf x l = true → ∀ y ∈ l, (bf.getD x.i 0).testBit y.i = true ∨ indFt y x = true
  | [], _, y, h => by cases h
  | z :: l, h, y, hy => by
    simp only [okWith, Bool.and_eq_true, Bool.or_eq_true] at h
    rcases List.mem_cons.1 hy with rfl | hy
    · exact h.1
    · exact okWith_ok h.2 y hy
theorem okAcc_ok {bf : List Nat} : ∀ {l : List FE}, okAcc bf l = true → l.Pairwise fun x y => (bf.getD x.i 0).testBit y.i = true ∨ indFt y x = true
  | [], _ => .nil
  | x :: l, h => by
    simp only [okAcc, Bool.and_eq_true] at h
    exact .cons (okWith_ok h.1) (okAcc_ok h.2)
theorem okAcc_two {bf : List Nat} {fes : List FE} (h : okAcc bf ((fes.filter isT).reverse ++ []) = true) {i j : Nat} {x y : FE} (hij : i < j) (hx : fes[i]? = some x) (hy : fes[j]? = some y) : (bf.getD y.i 0).testBit x.i = true ∨ x.ft = .n ∨ y.ft = .n ∨ indFt x y = true := by
  have h1 := okAcc_ok h
  rw [List.append_nil, List.pairwise_reverse, List.pairwise_filter] at h1
  obtain ⟨hi, ex⟩ := List.getElem?_eq_some_iff.1 hx
  obtain ⟨hj, ey⟩ := List.getElem?_eq_some_iff.1 hy
  have h2 := List.pairwise_iff_getElem.1 h1 i j hi hj hij
  rw [ex, ey] at h2
  have nT : ∀ {z : FE}, z.ft ≠ .n → isT z = true := fun {z} hz => by
    unfold isT
    split
    · rename_i e; exact absurd e hz
    · rfl
  by_cases e1 : x.ft = .n
  · exact .inr (.inl e1)
  · by_cases e2 : y.ft = .n
    · exact .inr (.inr (.inl e2))
    · rcases h2 (nT e1) (nT e2) with h3 | h3
      · exact .inl h3
      · exact .inr (.inr (.inr h3))
structure IndS (ops : List Oper) (x y : Oper) : Prop where
  s1 : ∀ k, x.dst = some k → y.dst ≠ some k ∧ k ∉ reads ops.toArray y
  s2 : ∀ k, y.dst = some k → k ∉ reads ops.toArray x
theorem okSlot_ok {ops : List Oper} {x y : Oper} (h : okSlot ops x y = true) : IndS ops x y := by
  unfold okSlot at h
  split at h
  · rename_i hx
    split at h
    · rename_i hy
      exact ⟨fun k hk => (by rw [hx] at hk; cases hk), fun k hk => (by rw [hy] at hk; cases hk)⟩
    · rename_i e hy
      exact ⟨fun k hk => (by rw [hx] at hk; cases hk), fun k hk => (by rw [hy] at hk; cases hk; exact memN_not.1 h)⟩
  · rename_i d hx
    simp only [Bool.and_eq_true] at h
    obtain ⟨h1, h2⟩ := h
    split at h2
    · rename_i hy
      exact ⟨fun k hk => (by rw [hx] at hk; cases hk; exact ⟨by rw [hy]; simp, memN_not.1 h1⟩), fun k hk => (by rw [hy] at hk; cases hk)⟩
    · rename_i e hy
      simp only [Bool.and_eq_true, Bool.not_eq_true'] at h2
      refine ⟨fun k hk => ?_, fun k hk => ?_⟩
      · rw [hx] at hk; cases hk
        refine ⟨?_, memN_not.1 h1⟩
        rw [hy]
        intro q
        cases q
        have := h2.1
        simp at this
      · rw [hy] at hk; cases hk
        exact memN_not.1 (by rw [h2.2]; rfl)
theorem okSlF_ok {ops : List Oper} {bf : List Nat} {x : Oper} {i : Nat} : ∀ {l : List Oper} {j : Nat}, okSlF ops bf x i l j = true → ∀ k y, l[k]? = some y → (bf.getD (j + k) 0).testBit i = true ∨ IndS ops x y
  | [], j, _, k, y, h => by simp at h
  | z :: l, j, h, k, y, hy => by
    simp only [okSlF, Bool.and_eq_true, Bool.or_eq_true] at h
    cases k with
    | zero => simp at hy; subst hy; exact h.1.imp id okSlot_ok
    | succ k =>
      have := okSlF_ok h.2 k y (by simpa using hy)
      rwa [show Nat.succ j + k = j + (k + 1) by omega] at this
theorem okSls_ok {ops : List Oper} {bf : List Nat} : ∀ {l : List Oper} {i : Nat}, okSls ops bf l i = true → ∀ a b x y, a < b → l[a]? = some x → l[b]? = some y → (bf.getD (i + b) 0).testBit (i + a) = true ∨ IndS ops x y
  | [], i, _, a, b, x, y, _, hx, _ => by simp at hx
  | z :: l, i, h, a, b, x, y, hab, hx, hy => by
    simp only [okSls, Bool.and_eq_true] at h
    obtain ⟨b, rfl⟩ : ∃ b', b = b' + 1 := ⟨b - 1, by omega⟩
    cases a with
    | zero =>
      simp at hx hy; subst hx
      have := okSlF_ok h.1 b y hy
      rwa [show Nat.succ i + b = i + (b + 1) by omega] at this
    | succ a =>
      have := okSls_ok h.2 a b x y (by omega) (by simpa using hx) (by simpa using hy)
      rwa [show Nat.succ i + b = i + (b + 1) by omega, show Nat.succ i + a = i + (a + 1) by omega] at this

section
variable {P : Program} {ρ : Rho} {s : Tr SV} {m : Mem} {nx : Nat} {pc : PC} {call : CallT} {n : Nat}
def HokD (ops : List Oper) (bf : List Nat) (tr : List TE) : Prop := (okAft ops.toArray && okBf ops.toArray bf) = true ∧ ∀ (i j : Nat) (x y : TE), i < j → tr[i]? = some x → tr[j]? = some y → (bf.getD j 0).testBit i = true ∨ Indep ops.toArray x y
theorem exR_yl (hc : CallSp P ρ call) {ops : List Oper} {draw : Bool} (hs : Sat ρ pc) : Yl (fun K => exR P call ops draw s m nx pc fun s m nx pc => K ⟨s, m, nx, pc⟩) fun r => ∃ tr, TrOk P ρ ops.toArray n ops s m nx r tr ∧ (draw = true → HokD ops (bfOf ops) tr) := by
  unfold exR
  split
  · exact (exS_yl hc hs).mono fun r ⟨tr, h⟩ => ⟨tr, h, fun h => by cases h⟩
  · split
    · rename_i hf
      simp only [okForm, Bool.and_eq_true] at hf
      refine Yl.bind (α := OS × List FE) (β := OS) (F := fun K => exD P call ops ops 0 s m nx pc [] fun s m nx pc acc => K (⟨s, m, nx, pc⟩, acc)) (G := fun r K => match okAcc (bfOf ops) r.2 with
        | true => K ⟨r.1.s, r.1.m, r.1.nx, r.1.pc⟩
        | false => false) (exD_yl (n := n) hc hs) fun r hr => ?_
      obtain ⟨tr, fes, htr, hfe, hacc⟩ := hr
      split
      · rename_i ha
        rw [hacc] at ha
        refine Yl.pure (α := OS) _ ⟨tr, htr, fun _ => ⟨by simp [hf.1.1, hf.1.2], fun i j x y hij hx hy => ?_⟩⟩
        obtain ⟨a, a1, a2⟩ := hfe.get hx
        obtain ⟨b, b1, b2⟩ := hfe.get hy
        have o1 : ops[i]? = some x.o := by rw [← htr.os, List.getElem?_map, hx]; rfl
        have o2 : ops[j]? = some y.o := by rw [← htr.os, List.getElem?_map, hy]; rfl
        have k1 := okAcc_two ha hij a1 b1
        rw [a2.i, b2.i, Nat.zero_add, Nat.zero_add] at k1
        have k2 := okSls_ok hf.2 i j _ _ hij o1 o2
        rw [Nat.zero_add, Nat.zero_add] at k2
        rcases k1 with k1 | k1
        · exact .inl k1
        · rcases k2 with k2 | k2
          · exact .inl k2
          · have k3 := indFt_ok a2 b2 k1
            exact .inr ⟨k2.s1, k2.s2, k3.m1, k3.m2⟩
      · exact Yl.no
    · exact Yl.no

/-- where code stands -/
structure At (ρ : Rho) (n : Nat) (s : Tr SV) (m : Mem) (a : Act) (w : World) (θ : Th) : Prop where
  defers : a.defers = []
  size : a.tmps.size = n
  slot : ∀ k sv, s.get k = some sv → den ρ θ sv = some (get a k)
  mem : MemOk ρ θ m.get w
theorem region_ok {ops : Array Oper} {draw : Bool} {id : Nat} {r : OS} {tr : List TE} {Q : Exit → Act → World → Prop} {a : Act} {w : World} {θ : Th} (hm : P.follows .mixedOrders = true) (hdst : ∀ o ∈ ops.toList, ∀ d, o.dst = some d → d < n)
    (htr : TrOk P ρ ops n ops.toList s m nx r tr) (hd : draw = true → HokD ops.toList (bfOf ops.toList) tr) (hA : At ρ n s m a w θ) (hfr : ∀ t, nx ≤ t → t < r.nx → θ t = none)
    (fin : ∀ a' w' θ', At ρ n r.s r.m a' w' θ' → SP ρ nx r.nx θ m.get w θ' r.m.get w' → Q .normal a' w') : (Code.region id ops draw).wp P Q a w := by
  have e : (tr.map (·.o)).toArray = ops := by rw [htr.os]
  have := region_tr (P := P) (ρ := ρ) (n := n) (nx := nx) (S := s.get) (M := m.get) (tr := tr) (a := a) (w := w) (θ := θ) (bf := bfOf ops.toList) (id := id) (draw := draw) (Q := Q) hm hA.defers hA.size hA.slot hA.mem (by rw [htr.fn]; exact hfr) (fun h => by
    rw [e]
    have := hd h
    unfold HokD at this
    exact this) (fun x hx d hxd => hdst x.o (by rw [← htr.os]; exact List.mem_map_of_mem hx) d hxd) (by rw [e]; exact htr.st) fun a' w' θ' h1 h2 h3 h4 => by
    have e1 : finS s.get tr = r.s.get := htr.fs 0
    have e2 : finM m.get tr = r.m.get := htr.fm 0
    rw [e1] at h3
    rw [e2, htr.fn] at h4
    exact fin a' w' θ' ⟨h1, h2, h3, h4.mem⟩ h4
  rwa [e] at this
end
end X
end Go.Proofs.YtdbchpoaoghgpaaGreatDoor
