/-
  Append, copy. Over any program.
-/
import Derived.Test.YtppdehodcoffbaaGreatDoorVO
import Derived.Lib.UnsafeStr
set_option linter.unusedSimpArgs false
set_option linter.unusedVariables false
namespace Go.Proofs.YtppdehodcoffbaaGreatDoor
namespace X
open Go.RowKit B

section
variable {P : Program} {ρ : Rho} {o : Oper} {s : Tr SV} {m : Mem} {nx : Nat} {pc : PC} {a : Act} {w w' : World} {θ : Th}
/-- what is forgotten -/
theorem SP.gone {R R' : Nat → Option Blk} {t0 g c : Nat} (hM : MemOk ρ θ R w) (h0 : R t0 ≠ none) (hg : θ t0 = some (g, c)) (hx : Ext (fun k => k = g) w w') (hR : ∀ t b', R' t = some b' → t ≠ t0 ∧ R t = some b') : SP ρ nx nx θ R w θ R' w' := by
  have ne : ∀ t, R' t ≠ none → t ≠ t0 ∧ R t ≠ none := fun t ht => by
    cases h : R' t with
    | none => exact absurd h ht
    | some b' => obtain ⟨e, h'⟩ := hR t b' h; exact ⟨e, by simp [h']⟩
  refine ⟨ThLe.refl _, fun t ht => .inl ht, ⟨fun t b' h => ?_, fun s t g' c1 c2 hs ht e1 e2 => hM.inj s t g' c1 c2 (ne s hs).2 (ne t ht).2 e1 e2⟩, hx.mono fun k _ h => ⟨t0, c, h0, by rw [h]; exact hg⟩, fun g' ⟨t, c', ht, e⟩ => .inl ⟨t, c', (ne t ht).2, e⟩⟩
  obtain ⟨e, h'⟩ := hR t b' h
  refine (hM.holds t b' h').keep (ThLe.refl _) hx fun g' c' e1 e2 => e ?_
  subst e2
  exact hM.inj t t0 _ _ _ (by simp [h']) h0 e1 hg
/-- a block more, others read -/
theorem OpOk.newR {v : SV} {b : Blk} {m' : Mem} {ts : List Nat} (hs : Sat ρ pc) (hm : ∀ t, m'.get t = if t = nx then some b else m.get t)
    (h : ∀ (a : Act) (w : World) (θ : Th), SlOk ρ s θ a o.op.operands.toList → θ nx = none → (∀ t ∈ ts, ∀ b, m.get t = some b → HoldsB ρ θ w t b) → ∃ u w' g c, (execOp a.eval o).run P w = .ok (.value u) w' ∧ Ext none' w w' ∧ w.heap.size ≤ g ∧ HoldsB ρ (updT θ nx (g, c)) w' nx b ∧ den ρ (updT θ nx (g, c)) v = some u) :
    OpOk P ρ o s m nx ⟨v, m', nx + 1, pc, .w (nx :: ts)⟩ where
  pc := hs
  le := Nat.le_succ _
  off := fun t ht => by
    have : t ≠ nx := fun e => ht (by simp [tc, e])
    rw [hm, if_neg this]
  rd := fun _ h => by cases h
  new := fun t h1 h2 => by
    by_cases e : t = nx
    · subst e; exact ⟨Nat.le_refl _, Nat.lt_succ_self _⟩
    · rw [hm, if_neg e] at h2; exact absurd h1 h2
  run := fun a w θ h1 h2 h3 => by
    have hn := h3 nx (Nat.le_refl _) (Nat.lt_succ_self _)
    have tcs : ∀ t, t ∈ ts → tc (.w (nx :: ts)) t := fun t ht => List.mem_cons_of_mem _ ht
    obtain ⟨u, w', g, c, k1, k2, k3, k4, k5⟩ := h a w θ h1 hn fun t ht b hb => h2.holds t b (by rw [subM_in (tcs t ht)]; exact hb)
    refine wp_val k1 ⟨u, _, rfl, SP.alloc h2 hn k2 k3 k4 fun t b' hb => ?_, k5⟩
    obtain ⟨g1, g2⟩ := subM_some hb
    rw [hm] at g2
    by_cases e : t = nx
    · rw [if_pos e] at g2; exact .inl ⟨e, (Option.some.inj g2).symm⟩
    · rw [if_neg e] at g2; exact .inr ⟨e, by rw [subM_in g1]; exact g2⟩

/-! ### What is appended -/
theorem strV_yl : ∀ {l : Str}, knownS l = true → Yl (srcC.strV l) fun vs => ∀ θ, dens ρ θ vs = some ((denS ρ l).map fun b => .int .u8 b.toNat)
  | [], _ => Yl.pure _ fun _ => rfl
  | .c n :: l, h => by
    simp only [knownS] at h
    split at h
    · rename_i hn
      have hn := Nat.le_of_ble_eq_true hn
      have ih := strV_yl (l := l) h
      have e0 : srcC.strV (.c n :: l) = fun K => srcC.strV l fun r => K (SV.i .u8 (.ofNat n) :: r) := rfl
      rw [e0]
      refine Yl.map (fun r => SV.i .u8 (.ofNat n) :: r) ih fun r hr θ => ?_
      rw [denS_cons]
      simp only [dens, den, hr θ, Option.bind_some, Option.map_some, Pc.den, List.map_append, List.map_cons, List.map_nil, List.cons_append, List.nil_append]
      have : (UInt8.ofNat n).toNat = n := by simp; omega
      rw [this]; rfl
    · cases h
  | .a i :: l, h => by simp [knownS] at h
theorem byteCells_eq {l : List UInt8} : byteCells (bstr l) = l.map fun b => .int .u8 b.toNat := by simp [byteCells, bstr]
theorem srcC_yl {t e sz : Nat} {u : SV} (hT : srcT P t e u = true) : Yl (fun K => srcC m sz u fun l n ts => K (l, n, ts)) fun r => ∀ (θ : Th) (w : World) (x : Value), (∀ t ∈ r.2.2, ∀ b, m.get t = some b → HoldsB ρ θ w t b) → den ρ θ u = some x →
    ∃ us, dens ρ θ r.1 = some us ∧ Src P sz t x r.2.1 us w ∧ ∀ g off n cap, u = .sl g off n cap → ∃ adr c, x = .slice (some adr) r.2.1 c ∧ ∀ j v, us[j]? = some v → w.cell? (adr.add j) = some v := by
  have ksl : (match u with | .s _ => True | _ => (∃ e', P.underlying t = some (.slice e'))) ∧ (∀ l, u = .s l → P.underlying t = some .string) := by
    cases u with
    | s l =>
      cases hk : kindT P t with
      | str =>
        obtain ⟨d, hd, hk'⟩ := kindT_ok hk (by simp)
        rw [tk_str hk'] at hd
        exact ⟨trivial, fun _ _ => hd⟩
      | _ => simp [srcT, hk] at hT
    | ns =>
      cases hk : kindT P t with
      | slice e' =>
        obtain ⟨d, hd, hk'⟩ := kindT_ok hk (by simp)
        rw [tk_slice hk'] at hd
        exact ⟨⟨_, hd⟩, fun l h => by cases h⟩
      | _ => simp [srcT, hk] at hT
    | sl a b c d =>
      cases hk : kindT P t with
      | slice e' =>
        obtain ⟨d, hd, hk'⟩ := kindT_ok hk (by simp)
        rw [tk_slice hk'] at hd
        exact ⟨⟨_, hd⟩, fun l h => by cases h⟩
      | _ => simp [srcT, hk] at hT
    | sb a b =>
      cases hk : kindT P t with
      | slice e' =>
        obtain ⟨d, hd, hk'⟩ := kindT_ok hk (by simp)
        rw [tk_slice hk'] at hd
        exact ⟨⟨_, hd⟩, fun l h => by cases h⟩
      | _ => simp [srcT, hk] at hT
    | _ => simp [srcT] at hT
  unfold srcC
  split
  · refine Yl.pure ([], 0, []) fun θ w x _ hx => ⟨[], rfl, ?_⟩
    cases hx
    obtain ⟨e', he⟩ := ksl.1
    exact ⟨Src.ofNil w he 0, fun _ _ _ _ h => by cases h⟩
  · rename_i g off n cap
    split
    · rename_i ty cs ex hg
      refine Yl.map (fun l => (l, n, [g])) segC_yl fun l hl θ w x hb hx => ?_
      obtain ⟨q, c, vs, h1, h2, h3, h4, h5⟩ := (hb g (by simp) _ hg).cells
      simp only [den, h1, Option.map_some, Option.some.injEq] at hx
      obtain ⟨e', he⟩ := ksl.1
      have hlen := dens_len h2
      have hle : off + n * sz ≤ cs.length := hl.1
      refine ⟨(vs.drop off).take (n * sz), by rw [hl.2]; exact dens_take _ (dens_drop _ h2), ?_⟩
      rw [← hx]
      have hcell : ∀ j v, ((vs.drop off).take (n * sz))[j]? = some v → w.cell? ((⟨q, off, none⟩ : Addr).add j) = some v := fun j u hj => by
        rw [cell_at]
        refine h4 _ u ?_
        have hj1 : j < n * sz := by have := (List.getElem?_eq_some_iff.1 hj).1; simp at this; omega
        rw [List.getElem?_take_of_lt hj1, List.getElem?_drop] at hj
        exact hj
      exact ⟨Src.ofSlice w he _ n _ _ (by simp; omega) hcell fun u hu => h3 u (List.mem_of_mem_drop (List.mem_of_mem_take hu)), fun _ _ _ _ _ => ⟨_, _, rfl, hcell⟩⟩
    · exact Yl.no
  · rename_i l
    split
    · rename_i hc
      simp only [Bool.and_eq_true, Nat.beq_eq] at hc
      obtain ⟨rfl, hc⟩ := hc
      refine Yl.map (fun vs => (vs, lenC vs 0, [])) (strV_yl (ρ := ρ) hc) fun vs hvs θ w x _ hx => ⟨_, hvs θ, ?_⟩
      cases hx
      have := Src.ofString (P := P) w (ksl.2 l rfl) (bstr (denS ρ l))
      rw [byteCells_eq, bstr_size] at this
      have hl := dens_len (hvs θ)
      simp only [List.length_map] at hl
      rw [lenC0, ← hl]
      exact ⟨this, fun _ _ _ _ h => by cases h⟩
    · exact Yl.no
  · exact Yl.no
theorem src_len {sz t n : Nat} {x : Value} {us : List Value} (h : Src P sz t x n us w) : us.length = n * sz := h.newsLen

/-! ### Append -/
structure ApCx (P : Program) (o : Oper) (t t' e : Nat) (ye : Ty) (x y : Operand) where
  ho : o.op = .call { callee := .builtin .append, args := #[x, y], argTypes := #[t, t'] }
  hd : P.underlying t = some (.slice e)
  ok : TyOk P e ye
  sz : 1 ≤ ye.sz
  by' : 1 ≤ ye.by'
theorem ApCx.ops {t t' e : Nat} {ye : Ty} {x y : Operand} (c : ApCx P o t t' e ye x y) : o.op.operands.toList = [x, y] := by simp [c.ho, Op.operands, Call.operands]
theorem ApCx.ex {t t' e : Nat} {ye : Ty} {x y : Operand} (c : ApCx P o t t' e ye x y) {v : Value} (h : (Builtin.append_ #[t, t'] o.type #[a.eval x, a.eval y]).run P w = .ok v w') : (execOp a.eval o).run P w = .ok (.value v) w' := by
  simp [execOp, c.ho, resolve, invoke, builtin, h]
theorem fitsM_ok {n b : Nat} (h : fitsM n b = true) (hb : 1 ≤ b) : n ≤ 16777216 ∧ n * b ≤ 16777216 := by
  have h1 : n * b ≤ 16777216 := Nat.le_of_ble_eq_true h
  have h2 : n * 1 ≤ n * b := Nat.mul_le_mul_left _ hb
  omega
/-- a new row, told: what was, what is appended, and more -/
theorem grow_ok {t t' e n sLen sCap : Nat} {ye : Ty} {x y : Operand} (c : ApCx P o t t' e ye x y) {base : Option Addr} {olds us : List Value} {xv yv : Value} {cs : List SV} (hx : a.eval x = xv) (hy : a.eval y = yv) (hxv : xv = .slice base sLen sCap)
    (hold : ∀ w' : World, w'.heap = w.heap → (Builtin.firstCells ye.sz sLen (.slice base sLen sCap)).run P w' = .ok olds.toArray w') (hol : olds.length = sLen * ye.sz) (ho1 : ∀ u ∈ olds, u.oneCell' = true) (hsrc : Src P ye.sz t' yv n us w) (hg : sCap < sLen + n) (hf : fitsM (sLen + n) ye.by' = true) (hn : θ nx = none)
    (hcs : dens ρ θ cs = some (olds ++ us)) : ∃ u w' g q, (execOp a.eval o).run P w = .ok (.value u) w' ∧ Ext none' w w' ∧ w.heap.size ≤ g ∧ HoldsB ρ (updT θ nx (g, q)) w' nx (.ce e cs false) ∧ den ρ (updT θ nx (g, q)) (.sl nx 0 (sLen + n) (.q ye.sz)) = some u := by
  obtain ⟨f1, f2⟩ := fitsM_ok hf c.by'
  have hsz := c.ok.sz
  have hfit := growslice_fits (need := sLen + n) (old := sCap) (bytes := c.ok.i.bytes) hg (by rw [← c.ok.by']; omega)
  have hr := run_append_grow_src (P := P) w t t' o.type e c.ok.i c.ok.z c.hd c.ok.hi c.ok.hz base sLen sCap olds (by rw [← hsz]; exact hold w.drew rfl) yv n us (by rw [← hsz]; exact hsrc) hg (by omega) hfit
  have hge := grownCap_ge w (sLen + n) sCap e
  let rest := (Builtin.zeroCells c.ok.z.cells (grownCap w (sLen + n) sCap e - (sLen + n))).toList
  have harr : (olds ++ us).toArray ++ Builtin.zeroCells c.ok.z.cells (grownCap w (sLen + n) sCap e - (sLen + n)) = (olds ++ us ++ rest).toArray := by
    apply Array.ext'; simp [rest]
  rw [harr] at hr
  have hrl : rest.length = (grownCap w (sLen + n) sCap e - (sLen + n)) * ye.sz := by
    simp only [rest, Array.length_toList, size_zeroCells, c.ok.zl, hsz]
  have hb := holds_new (ρ := ρ) (θ := θ) (nx := nx) (w0 := w.drew) (ty := e) (rest := rest) (ex := false) (cs := cs) (vs := olds ++ us) hn hcs (fun v hv => by
    rcases List.mem_append.1 hv with h | h
    · exact ho1 v h
    · exact hsrc.one v h) fun h => by cases h
  refine ⟨_, _, w.heap.size, _, c.ex (by rw [hx, hy, hxv]; exact hr), (Ext.refl _ _).drew.trans (Ext.alloc _ _ _), Nat.le_refl _, hb, ?_⟩
  have hcap : (olds ++ us ++ rest).length / ye.sz = grownCap w (sLen + n) sCap e := by
    have : (olds ++ us ++ rest).length = grownCap w (sLen + n) sCap e * ye.sz := by
      simp only [List.length_append, hol, hsrc.newsLen, hrl]
      rw [← Nat.add_mul, ← Nat.add_mul]
      congr 1; omega
    rw [this]
    exact Nat.mul_div_cancel _ c.sz
  simp only [den, updT, if_true, Option.map_some, Cap.den, Nat.sub_zero, hcap]
theorem apNs_yl {t t' e n : Nat} {ye : Ty} {x y : Operand} {vb : SV} {news : List SV} {ts : List Nat} (hs : Sat ρ pc) (c : ApCx P o t t' e ye x y) (hva : EvOk ρ s x .ns) (hvb : EvOk ρ s y vb)
    (hsrc : ∀ (θ : Th) (w : World) (x : Value), (∀ t ∈ ts, ∀ b, m.get t = some b → HoldsB ρ θ w t b) → den ρ θ vb = some x → ∃ us, dens ρ θ news = some us ∧ Src P ye.sz t' x n us w) :
    Yl (fun K => apNs m nx pc e ye news n ts fun v m nx pc ft => K ⟨v, m, nx, pc, ft⟩) (OpOk P ρ o s m nx) := by
  unfold apNs
  split
  · refine Yl.pure _ (OpOk.reads hs fun a w θ hsl hb => ⟨.slice none 0 0, ?_, rfl⟩)
    rw [c.ops] at hsl
    have hx : a.eval x = .slice none 0 0 := (Option.some.inj (hsl.ev (by simp) hva)).symm
    obtain ⟨us, h1, h2⟩ := hsrc θ w _ hb (hsl.ev (by simp) hvb)
    refine c.ex ?_
    rw [hx]
    have hsz := c.ok.sz
    have h3 := h2.cells
    rw [hsz] at h3
    rcases h2.kind with ⟨e', hk⟩ | hk <;> simp [Builtin.append_, run_underlying c.hd, run_underlying hk, sizeOf, typeInfo, c.ok.hi, h2.len, h3]
  · rename_i k
    split
    · rename_i hf
      refine Yl.bind2 newB_yl fun m' n' hm => ?_
      obtain ⟨e1, hm⟩ := hm
      simp only at e1 hm
      subst e1
      refine Yl.pure _ (OpOk.newR hs hm fun a w θ hsl hn hb => ?_)
      rw [c.ops] at hsl
      have hx : a.eval x = .slice none 0 0 := (Option.some.inj (hsl.ev (by simp) hva)).symm
      obtain ⟨us, h1, h2⟩ := hsrc θ w _ hb (hsl.ev (by simp) hvb)
      have := grow_ok (ρ := ρ) (θ := θ) (nx := nx) (a := a) (w := w) (n := k + 1) (sLen := 0) (sCap := 0) (olds := []) (cs := news) c hx rfl rfl (fun w' _ => run_firstCells_none w' _ _ _ _) (by simp) (by simp) h2 (by omega) (by simpa using hf) hn (by simpa using h1)
      rw [Nat.zero_add] at this
      exact this
    · exact Yl.no
/-- cells stored behind what is known -/
theorem HoldsB.store2 {t ty : Nat} {cs vs : List SV} {us : List Value} {ex : Bool} (h : HoldsB ρ θ w t (.ce ty cs ex)) (hu : dens ρ θ vs = some us) (h1 : ∀ u ∈ us, u.oneCell' = true) {g c : Nat} (hg : θ t = some (g, c)) (hle : cs.length + vs.length ≤ c) :
    ∃ w', (∀ P, (storeCells ⟨g, cs.length, none⟩ us).run P w = .ok () w') ∧ Ext (fun k => k = g) w w' ∧ ∀ nx, θ nx = none → HoldsB ρ (updT θ nx (g, c)) w' nx (.ce ty (cs ++ vs) false) := by
  obtain ⟨g', c', zs, arr, rest, e1, e2, e3, e4, e5, e6, e7⟩ := h
  rw [hg] at e1; cases e1
  have hlz := dens_len e4
  have hlu := dens_len hu
  have hsz : arr.size = zs.length + rest.length := by rw [← Array.length_toList, e6]; simp
  have hr := fun P => run_storeCells_at (P := P) g cs.length ty us 0 arr w e2 (by omega) h1
  simp only [Nat.add_zero] at hr
  have harr : arr.toList.take cs.length ++ us ++ arr.toList.drop (cs.length + us.length) = zs ++ us ++ rest.drop us.length := by
    rw [e6, ← hlz]
    simp [List.drop_append]
  rw [harr] at hr
  refine ⟨_, hr, B.setRow_ext w g _, fun nx hn => ⟨g, c, zs ++ us, _, rest.drop us.length, by simp [updT], setRow_heap w g arr _ ty _ e2, ?_, dens_mono (updT_le hn) _ (dens_append e4 hu), fun v hv => ?_, by simp, fun h => by cases h⟩⟩
  · simp; omega
  · rcases List.mem_append.1 hv with h | h
    · exact e5 v h
    · exact h1 v h
theorem apRoom_yl {t t' e g off len need n : Nat} {cap : Cap} {ye : Ty} {x y : Operand} {vb : SV} {news : List SV} {ts : List Nat} (hs : Sat ρ pc) (c : ApCx P o t t' e ye x y) (hva : EvOk ρ s x (.sl g off len cap)) (hvb : EvOk ρ s y vb) (hneed : need = len + n) (hroom : roomC m g off cap need = true)
    (hsrc : ∀ (θ : Th) (w : World) (x : Value), (∀ t ∈ ts, ∀ b, m.get t = some b → HoldsB ρ θ w t b) → den ρ θ vb = some x → ∃ us, dens ρ θ news = some us ∧ Src P ye.sz t' x n us w) :
    Yl (fun K => apRoom m nx pc ye g off len cap need news n ts fun v m nx pc ft => K ⟨v, m, nx, pc, ft⟩) (OpOk P ρ o s m nx) := by
  subst hneed
  have hsz := c.ok.sz
  unfold apRoom
  split
  · rename_i e' cs ex hg
    refine Yl.bind setC_yl fun cs' hcs => ?_
    refine Yl.map (fun m' => (⟨.sl g off (len + n) cap, m', nx, pc, .w (g :: ts)⟩ : O5)) set_yl fun m' hm => OpOk.turn hs (List.mem_cons_self) hg hm fun a w θ hsl hb => ?_
    rw [c.ops] at hsl
    obtain ⟨us, h1, h2⟩ := hsrc θ w _ (fun t ht => hb t (List.mem_cons_of_mem _ ht)) (hsl.ev (by simp) hvb)
    have hbg := hb g (List.mem_cons_self)
    obtain ⟨q, qc, w', k1, k2, k3, k4⟩ := (hbg _ hg).store h1 h2.one hcs.1
    have hx := hsl.ev (by simp) hva
    simp only [den, k1, Option.map_some, Option.some.injEq] at hx
    have hcap := roomC_ok hroom hbg k1
    refine ⟨.slice (some ⟨q, off, none⟩) (len + n) (cap.den qc off), w', q, qc, .inl (c.ex ?_), k1, k3, by rw [hcs.2]; exact k4, by simp only [den, k1, Option.map_some]⟩
    rw [← hx]
    have h3 := h2.cells
    rw [hsz] at h3
    have k2' := k2 P
    have e9 : off.add (len.mul ye.sz) = off + len * ye.sz := rfl
    rw [e9, hsz] at k2'
    rcases h2.kind with ⟨e', hk⟩ | hk <;> simp [Builtin.append_, run_underlying c.hd, run_underlying hk, sizeOf, typeInfo, c.ok.hi, h2.len, h3, hcap, addr_add, k2']
  · rename_i hne
    split
    · refine Yl.pure _ (OpOk.reads hs fun a w θ hsl hb => ?_)
      rw [c.ops] at hsl
      obtain ⟨us, h1, h2⟩ := hsrc θ w _ hb (hsl.ev (by simp) hvb)
      have hx := hsl.ev (by simp) hva
      simp only [den, Option.map_eq_some_iff] at hx
      obtain ⟨q, hq, hx⟩ := hx
      have hus : us = [] := by
        have := h2.newsLen
        simp at this; exact this
      subst hus
      have hcap : len + 0 ≤ cap.den q.2 off := by
        cases cap with
        | k n => exact Nat.le_of_ble_eq_true hroom
        | q z =>
          unfold roomC at hroom
          simp only at hroom
          split at hroom
          · rename_i hk; rw [hk]; exact Nat.zero_le _
          · rename_i k hk
            simp only [Bool.and_eq_true, Nat.ble_eq] at hroom
            have h0 : known m g = 0 := by
              unfold known
              split
              · rename_i ty cs ex hg'; exact absurd hg' (hne ty cs ex)
              · rfl
            rw [h0] at hroom
            have : off + (k + 1) * z ≤ 0 := hroom.2
            have : 1 * 1 ≤ (k + 1) * z := Nat.mul_le_mul (by omega) hroom.1
            omega
      rw [Nat.add_zero] at hcap
      refine ⟨.slice (some ⟨q.1, off, none⟩) len (cap.den q.2 off), c.ex ?_, by simp only [den, hq, Option.map_some]⟩
      rw [← hx]
      have h3 := h2.cells
      rw [hsz] at h3
      rcases h2.kind with ⟨e', hk⟩ | hk <;> simp [Builtin.append_, run_underlying c.hd, run_underlying hk, sizeOf, typeInfo, c.ok.hi, h2.len, h3, hcap, storeCells]
    · exact Yl.no
theorem apGrow_yl {t t' e g off len need n : Nat} {cap : Nat} {ye : Ty} {x y : Operand} {vb : SV} {news : List SV} {ts : List Nat} (hs : Sat ρ pc) (c : ApCx P o t t' e ye x y) (hva : EvOk ρ s x (.sl g off len (.k cap))) (hvb : EvOk ρ s y vb) (hneed : need = len + n) (hroom : roomC m g off (.k cap) need = false) (hf : fitsM need ye.by' = true)
    (hsrc : ∀ (θ : Th) (w : World) (x : Value), (∀ t ∈ ts, ∀ b, m.get t = some b → HoldsB ρ θ w t b) → den ρ θ vb = some x → ∃ us, dens ρ θ news = some us ∧ Src P ye.sz t' x n us w) :
    Yl (fun K => apGrow m nx pc e ye g off len need news ts fun v m nx pc ft => K ⟨v, m, nx, pc, ft⟩) (OpOk P ρ o s m nx) := by
  subst hneed
  have hcap : cap < len + n := by
    have : ¬ len + n ≤ cap := fun h => by
      have : roomC m g off (.k cap) (len + n) = true := by show Nat.ble (len + n) cap = true; rw [Nat.ble_eq]; exact h
      rw [this] at hroom; cases hroom
    omega
  unfold apGrow
  split
  · refine Yl.bind2 newB_yl fun m' n' hm => ?_
    obtain ⟨e1, hm⟩ := hm
    simp only at e1 hm
    subst e1
    refine Yl.pure _ (OpOk.newR hs hm fun a w θ hsl hn hb => ?_)
    rw [c.ops] at hsl
    have hx := hsl.ev (by simp) hva
    simp only [den, Option.map_eq_some_iff] at hx
    obtain ⟨q, hq, hx⟩ := hx
    obtain ⟨us, h1, h2⟩ := hsrc θ w _ hb (hsl.ev (by simp) hvb)
    exact grow_ok (ρ := ρ) (θ := θ) (nx := nx) (a := a) (w := w) (n := n) (sLen := 0) (sCap := cap) (olds := []) (cs := news) c hx.symm rfl rfl (fun w' _ => by simp [Builtin.firstCells, loadCells, loadCellsFrom]) (by simp) (by simp) h2 hcap hf hn (by simpa using h1)
  · rename_i k
    split
    · rename_i e' cs ex hg
      refine Yl.bind segC_yl fun olds hol => Yl.bind appC_yl fun l hl => ?_
      refine Yl.bind2 newB_yl fun m' n' hm => ?_
      obtain ⟨e1, hm⟩ := hm
      simp only at e1 hm
      subst e1
      refine Yl.pure _ (OpOk.newR hs hm fun a w θ hsl hn hb => ?_)
      rw [c.ops] at hsl
      obtain ⟨q, qc, vs, h1, h2, h3, h4, h5⟩ := (hb g (List.mem_cons_self) _ hg).cells
      have hx := hsl.ev (by simp) hva
      simp only [den, h1, Option.map_some, Option.some.injEq] at hx
      obtain ⟨us, g1, g2⟩ := hsrc θ w _ (fun t ht => hb t (List.mem_cons_of_mem _ ht)) (hsl.ev (by simp) hvb)
      have hlen := dens_len h2
      have hle : off + (k + 1) * ye.sz ≤ cs.length := hol.1
      have hol2 : ((vs.drop off).take ((k + 1) * ye.sz)).length = (k + 1) * ye.sz := by simp; omega
      refine grow_ok (ρ := ρ) (θ := θ) (nx := nx) (a := a) (w := w) (n := n) (sLen := k + 1) (sCap := cap) (olds := (vs.drop off).take ((k + 1) * ye.sz)) (cs := l) c hx.symm rfl rfl (fun w' hw => ?_) hol2 (fun u hu => h3 u (List.mem_of_mem_drop (List.mem_of_mem_take hu))) g2 hcap hf hn ?_
      · refine run_firstCells_some w' ye.sz (k + 1) _ _ _ _ hol2 fun j v hj => ?_
        have hcw : w'.cell? ((⟨q, off, none⟩ : Addr).add j) = w.cell? ((⟨q, off, none⟩ : Addr).add j) := by unfold World.cell?; rw [hw]
        rw [hcw, cell_at]
        refine h4 _ v ?_
        have hj1 : j < (k + 1) * ye.sz := by have := (List.getElem?_eq_some_iff.1 hj).1; omega
        rw [List.getElem?_take_of_lt hj1, List.getElem?_drop] at hj
        exact hj
      · rw [hl, hol.2]
        exact dens_append (dens_take _ (dens_drop _ h2)) g1
    · exact Yl.no
theorem apAny_yl {t t' e g off len need n sz : Nat} {ye : Ty} {x y : Operand} {vb : SV} {news : List SV} {ts : List Nat} (hs : Sat ρ pc) (c : ApCx P o t t' e ye x y) (hva : EvOk ρ s x (.sl g off len (.q sz))) (hvb : EvOk ρ s y vb) (hneed : need = len + n) (hf : fitsM need ye.by' = true)
    (hsrc : ∀ (θ : Th) (w : World) (x : Value), (∀ t ∈ ts, ∀ b, m.get t = some b → HoldsB ρ θ w t b) → den ρ θ vb = some x → ∃ us, dens ρ θ news = some us ∧ Src P ye.sz t' x n us w) :
    Yl (fun K => apAny m nx pc e ye g off len sz need news ts fun v m nx pc ft => K ⟨v, m, nx, pc, ft⟩) (OpOk P ρ o s m nx) := by
  subst hneed
  have hsz := c.ok.sz
  unfold apAny
  split
  · rename_i e' cs ex hg
    split
    · rename_i hc
      simp only [Bool.and_eq_true, Nat.beq_eq, lenC0] at hc
      obtain ⟨⟨⟨rfl, rfl⟩, rfl⟩, hcl⟩ := hc
      have hcl : cs.length = len * ye.sz := hcl
      refine Yl.bind appC_yl fun l hl => Yl.bind set_yl fun m1 hm1 => ?_
      refine Yl.bind2 newB_yl fun m' n' hm => ?_
      obtain ⟨e1, hm⟩ := hm
      simp only at e1 hm
      subst e1
      have hmg : ∀ t, m'.get t = if t = nx then some (.ce e l false) else if t = g then none else m.get t := fun t => by rw [hm, hm1]
      refine Yl.pure _ ?_
      exact {
        pc := hs
        le := Nat.le_succ _
        off := fun t ht => by
          have a1 : t ≠ nx := fun e => ht (by simp [tc, e])
          have a2 : t ≠ g := fun e => ht (by simp [tc, e])
          show m'.get t = _
          rw [hmg, if_neg a1, if_neg a2]
        rd := fun _ h => by cases h
        new := fun t h1 h2 => by
          have h2 : m'.get t ≠ none := h2
          by_cases e : t = nx
          · subst e; exact ⟨Nat.le_refl _, Nat.lt_succ_self _⟩
          · rw [hmg, if_neg e] at h2
            by_cases e' : t = g
            · rw [if_pos e'] at h2; exact absurd rfl h2
            · rw [if_neg e'] at h2; exact absurd h1 h2
        run := fun a w θ h1 h2 h3 => by
          have hn := h3 nx (Nat.le_refl _) (Nat.lt_succ_self _)
          have tcg : tc (.w (nx :: g :: ts)) g := by simp [tc]
          have tcs : ∀ t, t ∈ ts → tc (.w (nx :: g :: ts)) t := fun t ht => by simp [tc, ht]
          have hb : ∀ t, tc (.w (nx :: g :: ts)) t → ∀ b, m.get t = some b → HoldsB ρ θ w t b := fun t ht b hb => h2.holds t b (by rw [subM_in ht]; exact hb)
          rw [c.ops] at h1
          have hbg := hb g tcg _ hg
          obtain ⟨q, qc, vs, k1, k2, k3, k4, k5⟩ := hbg.cells
          have hx := h1.ev (by simp) hva
          simp only [den, k1, Option.map_some, Option.some.injEq, Cap.den, Nat.sub_zero] at hx
          obtain ⟨us, g1, g2⟩ := hsrc θ w _ (fun t ht => hb t (tcs t ht)) (h1.ev (by simp) hvb)
          have hlen := dens_len k2
          have hlu := dens_len g1
          have hR0 : subM (.w (nx :: g :: ts)) m g ≠ none := by rw [subM_in tcg, hg]; simp
          have hgn : g ≠ nx := fun e => by rw [e, hn] at k1; cases k1
          have hsp : ∀ t b', subM (.w (nx :: g :: ts)) m' t = some b' → (t = nx ∧ b' = .ce e l false) ∨ (t ≠ nx ∧ t ≠ g ∧ subM (.w (nx :: g :: ts)) m t = some b') := fun t b' h => by
            obtain ⟨q1, q2⟩ := subM_some h
            rw [hmg] at q2
            by_cases e1 : t = nx
            · rw [if_pos e1] at q2; exact .inl ⟨e1, (Option.some.inj q2).symm⟩
            · rw [if_neg e1] at q2
              by_cases e2 : t = g
              · rw [if_pos e2] at q2; cases q2
              · rw [if_neg e2] at q2; exact .inr ⟨e1, e2, by rw [subM_in q1]; exact q2⟩
          by_cases hroom : len + n ≤ qc / ye.sz
          · -- in place
            have hle : (len + n) * ye.sz ≤ qc := (Nat.le_div_iff_mul_le c.sz).1 hroom
            obtain ⟨w', s1, s2, s3⟩ := hbg.store2 g1 g2.one k1 (by rw [hcl, ← hlu, g2.newsLen, ← Nat.add_mul]; exact hle)
            refine wp_val (c.ex ?_) ⟨.slice (some ⟨q, 0, none⟩) (len + n) (qc / ye.sz), updT θ nx (q, qc), rfl, SP.moved h2 hn hR0 k1 s2 (b := .ce e l false) (by rw [hl]; exact s3 nx hn) hsp, by simp [den, updT, Cap.den]⟩
            rw [← hx]
            have h3' := g2.cells
            rw [hsz] at h3'
            have s1' := s1 P
            rw [hcl, hsz] at s1'
            rw [hsz] at hroom ⊢
            rcases g2.kind with ⟨e', hk⟩ | hk <;> simp [Builtin.append_, run_underlying c.hd, run_underlying hk, sizeOf, typeInfo, c.ok.hi, g2.len, h3', hroom, addr_add, s1']
          · have hold : ∀ w' : World, w'.heap = w.heap → (Builtin.firstCells ye.sz len (.slice (some ⟨q, 0, none⟩) len (qc / ye.sz))).run P w' = .ok vs.toArray w' := fun w' hw => by
              refine run_firstCells_some w' ye.sz len _ _ _ _ (by rw [hlen, hcl]) fun j v hj => ?_
              have hcw : w'.cell? ((⟨q, 0, none⟩ : Addr).add j) = w.cell? ((⟨q, 0, none⟩ : Addr).add j) := by unfold World.cell?; rw [hw]
              rw [hcw, cell_at, Nat.zero_add]
              exact k4 _ v hj
            obtain ⟨u, w', gg, qq, r1, r2, r3, r4, r5⟩ := grow_ok (ρ := ρ) (θ := θ) (nx := nx) (a := a) (w := w) (n := n) (sLen := len) (sCap := qc / ye.sz) (olds := vs) (cs := l) c hx.symm rfl rfl hold (by rw [hlen, hcl]) k3 g2 (by omega) hf hn (by rw [hl]; exact dens_append k2 g1)
            exact wp_val r1 ⟨u, _, rfl, SP.alloc h2 hn r2 r3 r4 fun t b' h => (hsp t b' h).imp id fun z => ⟨z.1, z.2.2⟩, r5⟩ }
    · exact Yl.no
  · exact Yl.no
end
end X
end Go.Proofs.YtppdehodcoffbaaGreatDoor
