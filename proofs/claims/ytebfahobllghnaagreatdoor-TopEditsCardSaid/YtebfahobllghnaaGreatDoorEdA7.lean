/-
  TopEdits: VP, VQ, VS.
-/
import Derived.Lib.UnsafeStr
import Derived.Test.YtebfahobllghnaaGreatDoorEdA6
import Derived.Laws.BytesString
set_option linter.unusedSimpArgs false
set_option linter.unusedVariables false
namespace Go.Proofs.YtebfahobllghnaaGreatDoor
namespace X
open Go.RowKit B
section
variable {P : Program} {ρ : Rho} {o : Oper} {s : Tr SV} {m : Mem} {nx : Nat} {pc : PC} {a : Act} {w w' : World} {θ : Th}
theorem SP.gone {R R' : Nat → Option Blk} {t0 g c : Nat} {b0 : Blk} (hM : MemOk ρ θ R w) (h0 : R t0 = some b0) (hk0 : isHb b0 = 0) (hg : θ t0 = some (g, c)) (hx : Ext (fun k => k = g) w w') (hR : ∀ t b', R' t = some b' → t ≠ t0 ∧ R t = some b') : SP ρ nx nx θ R w θ R' w' := by
  have o0 : ∀ {fa : Bool}, Own fa θ R t0 g := ⟨_, hg, by rw [h0]; exact (FtB_plain hk0).2 rfl⟩
  have cs : ∀ {fa : Bool}, ∀ t g', Own fa θ R' t g' → Own fa θ R t g' := fun t g' ⟨x, e, f⟩ => by
    cases h : R' t with
    | none => exact absurd h f.ne
    | some b' => rw [h] at f; exact ⟨x, e, by rw [(hR t b' h).2]; exact f⟩
  refine ⟨ThLe.refl _, fun t ht => .inl ht, ⟨fun t b' h => ?_, fun s t g' hs ht => hM.inj s t g' (cs s g' hs) (cs t g' ht)⟩, hx.mono fun k _ h => ⟨t0, by rw [h]; exact o0⟩, fun g' ⟨t, ht⟩ => .inl ⟨t, cs t g' ht⟩⟩
  obtain ⟨e, h'⟩ := hR t b' h
  refine (hM.holds t b' h').keep (ThLe.refl _) hx fun x g' e1 f e2 => e ?_
  subst e2
  exact hM.inj t t0 _ ⟨x, e1, by rw [h']; exact f⟩ o0
theorem OpOk.newR {v : SV} {b : Blk} {m' : Mem} {ts : List Nat} (hs : Sat ρ pc) (hm : ∀ t, m'.get t = if t = nx then some b else m.get t) (hk : isHb b = 0)
    (h : ∀ (a : Act) (w : World) (θ : Th), SlOk ρ s θ a o.op.operands.toList → θ nx = none → (∀ t ∈ ts, ∀ b, m.get t = some b → HoldsB ρ θ w t b) → ∃ u w' g c, (execOp a.eval o).run P w = .ok (.value u) w' ∧ Ext none' w w' ∧ w.heap.size ≤ g ∧ HoldsB ρ (updT θ nx (g, c)) w' nx b ∧ den ρ (updT θ nx (g, c)) v = some u) :
    OpOk P ρ o s m nx ⟨v, m', nx + 1, pc, .w (nx :: ts)⟩ where
  pc := hs
  le := Nat.le_succ _
  off := fun t ht => by
    have : t ≠ nx := fun e => ht (by simp [tc, e])
    rw [hm, if_neg this]
  rd := fun _ h => by cases h
  new := fun t h1 h2 => by
    by_cases e : t = nx
    · subst e; exact ⟨Nat.le_refl _, Nat.lt_succ_self _⟩
    · rw [hm, if_neg e] at h2; exact absurd h1 h2
  run := fun a w θ h1 h2 h3 => by
    have hn := h3 nx (Nat.le_refl _) (Nat.lt_succ_self _)
    have tcs : ∀ t, t ∈ ts → tc (.w (nx :: ts)) t := fun t ht => List.mem_cons_of_mem _ ht
    obtain ⟨u, w', g, c, k1, k2, k3, k4, k5⟩ := h a w θ h1 hn fun t ht b hb => h2.holds t b (by rw [subM_in (tcs t ht)]; exact hb)
    refine wp_val k1 ⟨u, _, rfl, SP.alloc h2 hn k2 k3 k4 (fun t b' hb => ?_) hk, k5⟩
    obtain ⟨g1, g2⟩ := subM_some hb
    rw [hm] at g2
    by_cases e : t = nx
    · rw [if_pos e] at g2; exact .inl ⟨e, (Option.some.inj g2).symm⟩
    · rw [if_neg e] at g2; exact .inr ⟨e, by rw [subM_in g1]; exact g2⟩
theorem strV_yl : ∀ {l : Str}, knownS l = true → Yl (srcC.strV l) fun vs => ∀ θ, dens ρ θ vs = some ((denS ρ l).map fun b => .int .u8 b.toNat)
  | [], _ => Yl.pure _ fun _ => rfl
  | .c n :: l, h => by
    simp only [knownS] at h
    split at h
    · rename_i hn
      have hn := Nat.le_of_ble_eq_true hn
      have ih := strV_yl (l := l) h
      have e0 : srcC.strV (.c n :: l) = fun K => srcC.strV l fun r => K (SV.i .u8 (.ofNat n) :: r) := rfl
      rw [e0]
      refine Yl.map (fun r => SV.i .u8 (.ofNat n) :: r) ih fun r hr θ => ?_
      rw [denS_cons]
      simp only [dens, den, hr θ, Option.bind_some, Option.map_some, Pc.den, List.map_append, List.map_cons, List.map_nil, List.cons_append, List.nil_append]
      have : (UInt8.ofNat n).toNat = n := by simp; omega
      rw [this]; rfl
    · cases h
  | .a i :: l, h => by simp [knownS] at h
theorem byteCells_eq {l : List UInt8} : byteCells (bstr l) = l.map fun b => .int .u8 b.toNat := by simp [byteCells, bstr]
theorem srcC_yl {t e sz : Nat} {u : SV} (hT : srcT P t e u = true) : Yl (fun K => srcC m sz u fun l n ts => K (l, n, ts)) fun r => ∀ (θ : Th) (w : World) (x : Value), (∀ t ∈ r.2.2, ∀ b, m.get t = some b → HoldsB ρ θ w t b) → den ρ θ u = some x →
    ∃ us, dens ρ θ r.1 = some us ∧ Src P sz t x r.2.1 us w ∧ ∀ g off n cap, u = .sl g off n cap → ∃ adr c, x = .slice (some adr) r.2.1 c ∧ ∀ j v, us[j]? = some v → w.cell? (adr.add j) = some v := by
  have ksl : (match u with | .s _ => True | _ => (∃ e', P.underlying t = some (.slice e'))) ∧ (∀ l, u = .s l → P.underlying t = some .string) := by
    cases u with
    | s l =>
      cases hk : kindT P t with
      | str =>
        obtain ⟨d, hd, hk'⟩ := kindT_ok hk (by simp)
        rw [tk_str hk'] at hd
        exact ⟨trivial, fun _ _ => hd⟩
      | _ => simp [srcT, hk] at hT
    | ns =>
      cases hk : kindT P t with
      | slice e' =>
        obtain ⟨d, hd, hk'⟩ := kindT_ok hk (by simp)
        rw [tk_slice hk'] at hd
        exact ⟨⟨_, hd⟩, fun l h => by cases h⟩
      | _ => simp [srcT, hk] at hT
    | sl a b c d =>
      cases hk : kindT P t with
      | slice e' =>
        obtain ⟨d, hd, hk'⟩ := kindT_ok hk (by simp)
        rw [tk_slice hk'] at hd
        exact ⟨⟨_, hd⟩, fun l h => by cases h⟩
      | _ => simp [srcT, hk] at hT
    | sb a b =>
      cases hk : kindT P t with
      | slice e' =>
        obtain ⟨d, hd, hk'⟩ := kindT_ok hk (by simp)
        rw [tk_slice hk'] at hd
        exact ⟨⟨_, hd⟩, fun l h => by cases h⟩
      | _ => simp [srcT, hk] at hT
    | sv a b =>
      cases hk : kindT P t with
      | slice e' =>
        obtain ⟨d, hd, hk'⟩ := kindT_ok hk (by simp)
        rw [tk_slice hk'] at hd
        exact ⟨⟨_, hd⟩, fun l h => by cases h⟩
      | _ => simp [srcT, hk] at hT
    | _ => simp [srcT] at hT
  unfold srcC
  split
  · refine Yl.pure ([], 0, []) fun θ w x _ hx => ⟨[], rfl, ?_⟩
    cases hx
    obtain ⟨e', he⟩ := ksl.1
    exact ⟨Src.ofNil w he 0, fun _ _ _ _ h => by cases h⟩
  · rename_i g off n cap
    split
    · rename_i ty cs ex hg
      refine Yl.map (fun l => (l, n, [g])) segC_yl fun l hl θ w x hb hx => ?_
      obtain ⟨q, c, vs, h1, h2, h3, h4, h5⟩ := (hb g (by simp) _ hg).cells
      simp only [den, h1, Option.map_some, Option.some.injEq] at hx
      obtain ⟨e', he⟩ := ksl.1
      have hlen := dens_len h2
      have hle : off + n * sz ≤ cs.length := hl.1
      refine ⟨(vs.drop off).take (n * sz), by rw [hl.2]; exact dens_take _ (dens_drop _ h2), ?_⟩
      rw [← hx]
      have hcell : ∀ j v, ((vs.drop off).take (n * sz))[j]? = some v → w.cell? ((⟨q, off, none⟩ : Addr).add j) = some v := fun j u hj => by
        rw [cell_at]
        refine h4 _ u ?_
        have hj1 : j < n * sz := by have := (List.getElem?_eq_some_iff.1 hj).1; simp at this; omega
        rw [List.getElem?_take_of_lt hj1, List.getElem?_drop] at hj
        exact hj
      exact ⟨Src.ofSlice w he _ n _ _ (by simp; omega) hcell fun u hu => h3 u (List.mem_of_mem_drop (List.mem_of_mem_take hu)), fun _ _ _ _ _ => ⟨_, _, rfl, hcell⟩⟩
    · exact Yl.no
  · rename_i l
    split
    · rename_i hc
      simp only [Bool.and_eq_true, Nat.beq_eq] at hc
      obtain ⟨rfl, hc⟩ := hc
      refine Yl.map (fun vs => (vs, lenC vs 0, [])) (strV_yl (ρ := ρ) hc) fun vs hvs θ w x _ hx => ⟨_, hvs θ, ?_⟩
      cases hx
      have := Src.ofString (P := P) w (ksl.2 l rfl) (bstr (denS ρ l))
      rw [byteCells_eq, bstr_size] at this
      have hl := dens_len (hvs θ)
      simp only [List.length_map] at hl
      rw [lenC0, ← hl]
      exact ⟨this, fun _ _ _ _ h => by cases h⟩
    · exact Yl.no
  · rename_i t0
    refine Yl.pure ([], 0, []) fun θ w x _ hx => ⟨[], rfl, ?_⟩
    obtain ⟨e', he⟩ := ksl.1
    simp only [den, Option.bind_eq_some_iff] at hx
    obtain ⟨q, hq, hx⟩ := hx
    split at hx
    · split at hx
      · cases hx
        exact ⟨Src.ofNil w he 0, fun _ _ _ _ h => by cases h⟩
      · cases hx
    · split at hx
      · cases hx
        have e0 : (Lin.den ρ (.mk (Int.ofNat 0) [])).toNat = 0 := by simp [Lin.den, dts]
        rw [e0]
        exact ⟨Src.ofSlice w he _ 0 _ [] (by simp) (fun j u h => by simp at h) (fun u h => by simp at h), fun _ _ _ _ h => by cases h⟩
      · cases hx
  · exact Yl.no
structure ApCx (P : Program) (o : Oper) (t t' e : Nat) (ye : Ty) (x y : Operand) where
  ho : o.op = .call { callee := .builtin .append, args := #[x, y], argTypes := #[t, t'] }
  hd : P.underlying t = some (.slice e)
  ok : TyOk P e ye
  sz : 1 ≤ ye.sz
  by' : 1 ≤ ye.by'
theorem ApCx.ops {t t' e : Nat} {ye : Ty} {x y : Operand} (c : ApCx P o t t' e ye x y) : o.op.operands.toList = [x, y] := by simp [c.ho, Op.operands, Call.operands]
theorem ApCx.ex {t t' e : Nat} {ye : Ty} {x y : Operand} (c : ApCx P o t t' e ye x y) {v : Value} (h : (Builtin.append_ #[t, t'] o.type #[a.eval x, a.eval y]).run P w = .ok v w') : (execOp a.eval o).run P w = .ok (.value v) w' := by
  simp [execOp, c.ho, resolve, invoke, builtin, h]
theorem fitsM_ok {n b : Nat} (h : fitsM n b = true) (hb : 1 ≤ b) : n ≤ 16777216 ∧ n * b ≤ 16777216 := by
  have h1 : n * b ≤ 16777216 := Nat.le_of_ble_eq_true h
  have h2 : n * 1 ≤ n * b := Nat.mul_le_mul_left _ hb
  omega
theorem grow_ok {t t' e n sLen sCap : Nat} {ye : Ty} {x y : Operand} (c : ApCx P o t t' e ye x y) {base : Option Addr} {olds us : List Value} {xv yv : Value} {cs : List SV} (hx : a.eval x = xv) (hy : a.eval y = yv) (hxv : xv = .slice base sLen sCap)
    (hold : ∀ w' : World, w'.heap = w.heap → (Builtin.firstCells ye.sz sLen (.slice base sLen sCap)).run P w' = .ok olds.toArray w') (hol : olds.length = sLen * ye.sz) (ho1 : ∀ u ∈ olds, u.oneCell' = true) (hsrc : Src P ye.sz t' yv n us w) (hg : sCap < sLen + n) (hf : fitsM (sLen + n) ye.by' = true) (hn : θ nx = none)
    (hcs : dens ρ θ cs = some (olds ++ us)) : ∃ u w' g q, (execOp a.eval o).run P w = .ok (.value u) w' ∧ Ext none' w w' ∧ w.heap.size ≤ g ∧ HoldsB ρ (updT θ nx (g, q)) w' nx (.ce e cs false) ∧ den ρ (updT θ nx (g, q)) (.sl nx 0 (sLen + n) (.q ye.sz)) = some u := by
  obtain ⟨f1, f2⟩ := fitsM_ok hf c.by'
  have hsz := c.ok.sz
  have hfit := growslice_fits (need := sLen + n) (old := sCap) (bytes := c.ok.i.bytes) hg (by rw [← c.ok.by']; omega)
  have hr := run_append_grow_src (P := P) w t t' o.type e c.ok.i c.ok.z c.hd c.ok.hi c.ok.hz base sLen sCap olds (by rw [← hsz]; exact hold w.drew rfl) yv n us (by rw [← hsz]; exact hsrc) hg (by omega) hfit
  have hge := grownCap_ge w (sLen + n) sCap e
  let rest := (Builtin.zeroCells c.ok.z.cells (grownCap w (sLen + n) sCap e - (sLen + n))).toList
  have harr : (olds ++ us).toArray ++ Builtin.zeroCells c.ok.z.cells (grownCap w (sLen + n) sCap e - (sLen + n)) = (olds ++ us ++ rest).toArray := by
    apply Array.ext'; simp [rest]
  rw [harr] at hr
  have hrl : rest.length = (grownCap w (sLen + n) sCap e - (sLen + n)) * ye.sz := by
    simp only [rest, Array.length_toList, size_zeroCells, c.ok.zl, hsz]
  have hb := holds_new (ρ := ρ) (θ := θ) (nx := nx) (w0 := w.drew) (ty := e) (rest := rest) (ex := false) (cs := cs) (vs := olds ++ us) hn hcs (fun v hv => by
    rcases List.mem_append.1 hv with h | h
    · exact ho1 v h
    · exact hsrc.one v h) fun h => by cases h
  refine ⟨_, _, w.heap.size, _, c.ex (by rw [hx, hy, hxv]; exact hr), (Ext.refl _ _).drew.trans (Ext.alloc _ _ _), Nat.le_refl _, hb, ?_⟩
  have hcap : (olds ++ us ++ rest).length / ye.sz = grownCap w (sLen + n) sCap e := by
    have : (olds ++ us ++ rest).length = grownCap w (sLen + n) sCap e * ye.sz := by
      simp only [List.length_append, hol, hsrc.newsLen, hrl]
      rw [← Nat.add_mul, ← Nat.add_mul]
      congr 1; omega
    rw [this]
    exact Nat.mul_div_cancel _ c.sz
  simp only [den, updT, if_true, Option.map_some, Cap.den, Nat.sub_zero, hcap]
theorem apNs_yl {t t' e n : Nat} {ye : Ty} {x y : Operand} {vb : SV} {news : List SV} {ts : List Nat} (hs : Sat ρ pc) (c : ApCx P o t t' e ye x y) (hva : EvOk ρ s x .ns) (hvb : EvOk ρ s y vb)
    (hsrc : ∀ (θ : Th) (w : World) (x : Value), (∀ t ∈ ts, ∀ b, m.get t = some b → HoldsB ρ θ w t b) → den ρ θ vb = some x → ∃ us, dens ρ θ news = some us ∧ Src P ye.sz t' x n us w) :
    Yl (fun K => apNs m nx pc e ye news n ts fun v m nx pc ft => K ⟨v, m, nx, pc, ft⟩) (OpOk P ρ o s m nx) := by
  unfold apNs
  split
  · refine Yl.pure _ (OpOk.reads hs fun a w θ hsl hb => ⟨.slice none 0 0, ?_, rfl⟩)
    rw [c.ops] at hsl
    have hx : a.eval x = .slice none 0 0 := (Option.some.inj (hsl.ev (by simp) hva)).symm
    obtain ⟨us, h1, h2⟩ := hsrc θ w _ hb (hsl.ev (by simp) hvb)
    refine c.ex ?_
    rw [hx]
    have hsz := c.ok.sz
    have h3 := h2.cells
    rw [hsz] at h3
    rcases h2.kind with ⟨e', hk⟩ | hk <;> simp [Builtin.append_, run_underlying c.hd, run_underlying hk, sizeOf, typeInfo, c.ok.hi, h2.len, h3]
  · rename_i k
    split
    · rename_i hf
      refine Yl.bind2 newB_yl fun m' n' hm => ?_
      obtain ⟨e1, hm⟩ := hm
      simp only at e1 hm
      subst e1
      refine Yl.pure _ (OpOk.newR hs hm rfl fun a w θ hsl hn hb => ?_)
      rw [c.ops] at hsl
      have hx : a.eval x = .slice none 0 0 := (Option.some.inj (hsl.ev (by simp) hva)).symm
      obtain ⟨us, h1, h2⟩ := hsrc θ w _ hb (hsl.ev (by simp) hvb)
      have := grow_ok (ρ := ρ) (θ := θ) (nx := nx) (a := a) (w := w) (n := k + 1) (sLen := 0) (sCap := 0) (olds := []) (cs := news) c hx rfl rfl (fun w' _ => run_firstCells_none w' _ _ _ _) (by simp) (by simp) h2 (by omega) (by simpa using hf) hn (by simpa using h1)
      rw [Nat.zero_add] at this
      exact this
    · exact Yl.no
theorem HoldsB.store2 {t ty : Nat} {cs vs : List SV} {us : List Value} {ex : Bool} (h : HoldsB ρ θ w t (.ce ty cs ex)) (hu : dens ρ θ vs = some us) (h1 : ∀ u ∈ us, u.oneCell' = true) {g c : Nat} (hg : θ t = some (g, c)) (hle : cs.length + vs.length ≤ c) :
    ∃ w', (∀ P, (storeCells ⟨g, cs.length, none⟩ us).run P w = .ok () w') ∧ Ext (fun k => k = g) w w' ∧ ∀ nx, θ nx = none → HoldsB ρ (updT θ nx (g, c)) w' nx (.ce ty (cs ++ vs) false) := by
  obtain ⟨g', c', zs, arr, rest, e1, e2, e3, e4, e5, e6, e7⟩ := h
  rw [hg] at e1; cases e1
  have hlz := dens_len e4
  have hlu := dens_len hu
  have hsz : arr.size = zs.length + rest.length := by rw [← Array.length_toList, e6]; simp
  have hr := fun P => run_storeCells_at (P := P) g cs.length ty us 0 arr w e2 (by omega) h1
  simp only [Nat.add_zero] at hr
  have harr : arr.toList.take cs.length ++ us ++ arr.toList.drop (cs.length + us.length) = zs ++ us ++ rest.drop us.length := by
    rw [e6, ← hlz]
    simp [List.drop_append]
  rw [harr] at hr
  refine ⟨_, hr, B.setRow_ext w g _, fun nx hn => ⟨g, c, zs ++ us, _, rest.drop us.length, by simp [updT], setRow_heap w g arr _ ty _ e2, ?_, dens_mono (updT_le hn) _ (dens_append e4 hu), fun v hv => ?_, by simp, fun h => by cases h⟩⟩
  · simp; omega
  · rcases List.mem_append.1 hv with h | h
    · exact e5 v h
    · exact h1 v h
theorem apRoom_yl {t t' e g off len need n : Nat} {cap : Cap} {ye : Ty} {x y : Operand} {vb : SV} {news : List SV} {ts : List Nat} (hs : Sat ρ pc) (c : ApCx P o t t' e ye x y) (hva : EvOk ρ s x (.sl g off len cap)) (hvb : EvOk ρ s y vb) (hneed : need = len + n) (hroom : roomC m g off cap need = true)
    (hsrc : ∀ (θ : Th) (w : World) (x : Value), (∀ t ∈ ts, ∀ b, m.get t = some b → HoldsB ρ θ w t b) → den ρ θ vb = some x → ∃ us, dens ρ θ news = some us ∧ Src P ye.sz t' x n us w) :
    Yl (fun K => apRoom m nx pc ye g off len cap need news n ts fun v m nx pc ft => K ⟨v, m, nx, pc, ft⟩) (OpOk P ρ o s m nx) := by
  subst hneed
  have hsz := c.ok.sz
  unfold apRoom
  split
  · rename_i e' cs ex hg
    refine Yl.bind setC_yl fun cs' hcs => ?_
    refine Yl.map (fun m' => (⟨.sl g off (len + n) cap, m', nx, pc, .w (g :: ts)⟩ : O5)) set_yl fun m' hm => OpOk.turn hs (List.mem_cons_self) hg hm fun a w θ hsl hb => ?_
    rw [c.ops] at hsl
    obtain ⟨us, h1, h2⟩ := hsrc θ w _ (fun t ht => hb t (List.mem_cons_of_mem _ ht)) (hsl.ev (by simp) hvb)
    have hbg := hb g (List.mem_cons_self)
    obtain ⟨q, qc, w', k1, k2, k3, k4⟩ := (hbg _ hg).store h1 h2.one hcs.1
    have hx := hsl.ev (by simp) hva
    simp only [den, k1, Option.map_some, Option.some.injEq] at hx
    have hcap := roomC_ok hroom hbg k1
    refine ⟨.slice (some ⟨q, off, none⟩) (len + n) (cap.den qc off), w', q, qc, .inl (c.ex ?_), k1, k3, by rw [hcs.2]; exact k4, by simp only [den, k1, Option.map_some]⟩
    rw [← hx]
    have h3 := h2.cells
    rw [hsz] at h3
    have k2' := k2 P
    have e9 : off.add (len.mul ye.sz) = off + len * ye.sz := rfl
    rw [e9, hsz] at k2'
    rcases h2.kind with ⟨e', hk⟩ | hk <;> simp [Builtin.append_, run_underlying c.hd, run_underlying hk, sizeOf, typeInfo, c.ok.hi, h2.len, h3, hcap, addr_add, k2']
  · rename_i hne
    split
    · refine Yl.pure _ (OpOk.reads hs fun a w θ hsl hb => ?_)
      rw [c.ops] at hsl
      obtain ⟨us, h1, h2⟩ := hsrc θ w _ hb (hsl.ev (by simp) hvb)
      have hx := hsl.ev (by simp) hva
      simp only [den, Option.map_eq_some_iff] at hx
      obtain ⟨q, hq, hx⟩ := hx
      have hus : us = [] := by
        have := h2.newsLen
        simp at this; exact this
      subst hus
      have hcap : len + 0 ≤ cap.den q.2 off := by
        cases cap with
        | k n => exact Nat.le_of_ble_eq_true hroom
        | q z =>
          unfold roomC at hroom
          simp only at hroom
          split at hroom
          · rename_i hk; rw [hk]; exact Nat.zero_le _
          · rename_i k hk
            simp only [Bool.and_eq_true, Nat.ble_eq] at hroom
            have h0 : known m g = 0 := by
              unfold known
              split
              · rename_i ty cs ex hg'; exact absurd hg' (hne ty cs ex)
              · rfl
            rw [h0] at hroom
            have : off + (k + 1) * z ≤ 0 := hroom.2
            have : 1 * 1 ≤ (k + 1) * z := Nat.mul_le_mul (by omega) hroom.1
            omega
      rw [Nat.add_zero] at hcap
      refine ⟨.slice (some ⟨q.1, off, none⟩) len (cap.den q.2 off), c.ex ?_, by simp only [den, hq, Option.map_some]⟩
      rw [← hx]
      have h3 := h2.cells
      rw [hsz] at h3
      rcases h2.kind with ⟨e', hk⟩ | hk <;> simp [Builtin.append_, run_underlying c.hd, run_underlying hk, sizeOf, typeInfo, c.ok.hi, h2.len, h3, hcap, storeCells]
    · exact Yl.no
theorem apGrow_yl {t t' e g off len need n : Nat} {cap : Nat} {ye : Ty} {x y : Operand} {vb : SV} {news : List SV} {ts : List Nat} (hs : Sat ρ pc) (c : ApCx P o t t' e ye x y) (hva : EvOk ρ s x (.sl g off len (.k cap))) (hvb : EvOk ρ s y vb) (hneed : need = len + n) (hroom : roomC m g off (.k cap) need = false) (hf : fitsM need ye.by' = true)
    (hsrc : ∀ (θ : Th) (w : World) (x : Value), (∀ t ∈ ts, ∀ b, m.get t = some b → HoldsB ρ θ w t b) → den ρ θ vb = some x → ∃ us, dens ρ θ news = some us ∧ Src P ye.sz t' x n us w) :
    Yl (fun K => apGrow m nx pc e ye g off len need news ts fun v m nx pc ft => K ⟨v, m, nx, pc, ft⟩) (OpOk P ρ o s m nx) := by
  subst hneed
  have hcap : cap < len + n := by
    have : ¬ len + n ≤ cap := fun h => by
      have : roomC m g off (.k cap) (len + n) = true := by show Nat.ble (len + n) cap = true; rw [Nat.ble_eq]; exact h
      rw [this] at hroom; cases hroom
    omega
  unfold apGrow
  split
  · refine Yl.bind2 newB_yl fun m' n' hm => ?_
    obtain ⟨e1, hm⟩ := hm
    simp only at e1 hm
    subst e1
    refine Yl.pure _ (OpOk.newR hs hm rfl fun a w θ hsl hn hb => ?_)
    rw [c.ops] at hsl
    have hx := hsl.ev (by simp) hva
    simp only [den, Option.map_eq_some_iff] at hx
    obtain ⟨q, hq, hx⟩ := hx
    obtain ⟨us, h1, h2⟩ := hsrc θ w _ hb (hsl.ev (by simp) hvb)
    exact grow_ok (ρ := ρ) (θ := θ) (nx := nx) (a := a) (w := w) (n := n) (sLen := 0) (sCap := cap) (olds := []) (cs := news) c hx.symm rfl rfl (fun w' _ => by simp [Builtin.firstCells, loadCells, loadCellsFrom]) (by simp) (by simp) h2 hcap hf hn (by simpa using h1)
  · rename_i k
    split
    · rename_i e' cs ex hg
      refine Yl.bind segC_yl fun olds hol => Yl.bind appC_yl fun l hl => ?_
      refine Yl.bind2 newB_yl fun m' n' hm => ?_
      obtain ⟨e1, hm⟩ := hm
      simp only at e1 hm
      subst e1
      refine Yl.pure _ (OpOk.newR hs hm rfl fun a w θ hsl hn hb => ?_)
      rw [c.ops] at hsl
      obtain ⟨q, qc, vs, h1, h2, h3, h4, h5⟩ := (hb g (List.mem_cons_self) _ hg).cells
      have hx := hsl.ev (by simp) hva
      simp only [den, h1, Option.map_some, Option.some.injEq] at hx
      obtain ⟨us, g1, g2⟩ := hsrc θ w _ (fun t ht => hb t (List.mem_cons_of_mem _ ht)) (hsl.ev (by simp) hvb)
      have hlen := dens_len h2
      have hle : off + (k + 1) * ye.sz ≤ cs.length := hol.1
      have hol2 : ((vs.drop off).take ((k + 1) * ye.sz)).length = (k + 1) * ye.sz := by simp; omega
      refine grow_ok (ρ := ρ) (θ := θ) (nx := nx) (a := a) (w := w) (n := n) (sLen := k + 1) (sCap := cap) (olds := (vs.drop off).take ((k + 1) * ye.sz)) (cs := l) c hx.symm rfl rfl (fun w' hw => ?_) hol2 (fun u hu => h3 u (List.mem_of_mem_drop (List.mem_of_mem_take hu))) g2 hcap hf hn ?_
      · refine run_firstCells_some w' ye.sz (k + 1) _ _ _ _ hol2 fun j v hj => ?_
        have hcw : w'.cell? ((⟨q, off, none⟩ : Addr).add j) = w.cell? ((⟨q, off, none⟩ : Addr).add j) := by unfold World.cell?; rw [hw]
        rw [hcw, cell_at]
        refine h4 _ v ?_
        have hj1 : j < (k + 1) * ye.sz := by have := (List.getElem?_eq_some_iff.1 hj).1; omega
        rw [List.getElem?_take_of_lt hj1, List.getElem?_drop] at hj
        exact hj
      · rw [hl, hol.2]
        exact dens_append (dens_take _ (dens_drop _ h2)) g1
    · exact Yl.no
theorem apAny_yl {t t' e g off len need n sz : Nat} {ye : Ty} {x y : Operand} {vb : SV} {news : List SV} {ts : List Nat} (hs : Sat ρ pc) (c : ApCx P o t t' e ye x y) (hva : EvOk ρ s x (.sl g off len (.q sz))) (hvb : EvOk ρ s y vb) (hneed : need = len + n) (hf : fitsM need ye.by' = true)
    (hsrc : ∀ (θ : Th) (w : World) (x : Value), (∀ t ∈ ts, ∀ b, m.get t = some b → HoldsB ρ θ w t b) → den ρ θ vb = some x → ∃ us, dens ρ θ news = some us ∧ Src P ye.sz t' x n us w) :
    Yl (fun K => apAny m nx pc e ye g off len sz need news ts fun v m nx pc ft => K ⟨v, m, nx, pc, ft⟩) (OpOk P ρ o s m nx) := by
  subst hneed
  have hsz := c.ok.sz
  unfold apAny
  split
  · rename_i e' cs ex hg
    split
    · rename_i hc
      simp only [Bool.and_eq_true, Nat.beq_eq, lenC0] at hc
      obtain ⟨⟨⟨rfl, rfl⟩, rfl⟩, hcl⟩ := hc
      have hcl : cs.length = len * ye.sz := hcl
      refine Yl.bind appC_yl fun l hl => Yl.bind set_yl fun m1 hm1 => ?_
      refine Yl.bind2 newB_yl fun m' n' hm => ?_
      obtain ⟨e1, hm⟩ := hm
      simp only at e1 hm
      subst e1
      have hmg : ∀ t, m'.get t = if t = nx then some (.ce e l false) else if t = g then none else m.get t := fun t => by rw [hm, hm1]
      refine Yl.pure _ ?_
      exact {
        pc := hs
        le := Nat.le_succ _
        off := fun t ht => by
          have a1 : t ≠ nx := fun e => ht (by simp [tc, e])
          have a2 : t ≠ g := fun e => ht (by simp [tc, e])
          show m'.get t = _
          rw [hmg, if_neg a1, if_neg a2]
        rd := fun _ h => by cases h
        new := fun t h1 h2 => by
          have h2 : m'.get t ≠ none := h2
          by_cases e : t = nx
          · subst e; exact ⟨Nat.le_refl _, Nat.lt_succ_self _⟩
          · rw [hmg, if_neg e] at h2
            by_cases e' : t = g
            · rw [if_pos e'] at h2; exact absurd rfl h2
            · rw [if_neg e'] at h2; exact absurd h1 h2
        run := fun a w θ h1 h2 h3 => by
          have hn := h3 nx (Nat.le_refl _) (Nat.lt_succ_self _)
          have tcg : tc (.w (nx :: g :: ts)) g := by simp [tc]
          have tcs : ∀ t, t ∈ ts → tc (.w (nx :: g :: ts)) t := fun t ht => by simp [tc, ht]
          have hb : ∀ t, tc (.w (nx :: g :: ts)) t → ∀ b, m.get t = some b → HoldsB ρ θ w t b := fun t ht b hb => h2.holds t b (by rw [subM_in ht]; exact hb)
          rw [c.ops] at h1
          have hbg := hb g tcg _ hg
          obtain ⟨q, qc, vs, k1, k2, k3, k4, k5⟩ := hbg.cells
          have hx := h1.ev (by simp) hva
          simp only [den, k1, Option.map_some, Option.some.injEq, Cap.den, Nat.sub_zero] at hx
          obtain ⟨us, g1, g2⟩ := hsrc θ w _ (fun t ht => hb t (tcs t ht)) (h1.ev (by simp) hvb)
          have hlen := dens_len k2
          have hlu := dens_len g1
          have hR0 := (subM_in (m := m) tcg).trans hg
          have hgn : g ≠ nx := fun e => by rw [e, hn] at k1; cases k1
          have hsp : ∀ t b', subM (.w (nx :: g :: ts)) m' t = some b' → (t = nx ∧ b' = .ce e l false) ∨ (t ≠ nx ∧ t ≠ g ∧ subM (.w (nx :: g :: ts)) m t = some b') := fun t b' h => by
            obtain ⟨q1, q2⟩ := subM_some h
            rw [hmg] at q2
            by_cases e1 : t = nx
            · rw [if_pos e1] at q2; exact .inl ⟨e1, (Option.some.inj q2).symm⟩
            · rw [if_neg e1] at q2
              by_cases e2 : t = g
              · rw [if_pos e2] at q2; cases q2
              · rw [if_neg e2] at q2; exact .inr ⟨e1, e2, by rw [subM_in q1]; exact q2⟩
          by_cases hroom : len + n ≤ qc / ye.sz
          · -- in place
            have hle : (len + n) * ye.sz ≤ qc := (Nat.le_div_iff_mul_le c.sz).1 hroom
            obtain ⟨w', s1, s2, s3⟩ := hbg.store2 g1 g2.one k1 (by rw [hcl, ← hlu, g2.newsLen, ← Nat.add_mul]; exact hle)
            refine wp_val (c.ex ?_) ⟨.slice (some ⟨q, 0, none⟩) (len + n) (qc / ye.sz), updT θ nx (q, qc), rfl, SP.moved h2 hn hR0 rfl k1 s2 (b := .ce e l false) (by rw [hl]; exact s3 nx hn) hsp, by simp [den, updT, Cap.den]⟩
            rw [← hx]
            have h3' := g2.cells
            rw [hsz] at h3'
            have s1' := s1 P
            rw [hcl, hsz] at s1'
            rw [hsz] at hroom ⊢
            rcases g2.kind with ⟨e', hk⟩ | hk <;> simp [Builtin.append_, run_underlying c.hd, run_underlying hk, sizeOf, typeInfo, c.ok.hi, g2.len, h3', hroom, addr_add, s1']
          · have hold : ∀ w' : World, w'.heap = w.heap → (Builtin.firstCells ye.sz len (.slice (some ⟨q, 0, none⟩) len (qc / ye.sz))).run P w' = .ok vs.toArray w' := fun w' hw => by
              refine run_firstCells_some w' ye.sz len _ _ _ _ (by rw [hlen, hcl]) fun j v hj => ?_
              have hcw : w'.cell? ((⟨q, 0, none⟩ : Addr).add j) = w.cell? ((⟨q, 0, none⟩ : Addr).add j) := by unfold World.cell?; rw [hw]
              rw [hcw, cell_at, Nat.zero_add]
              exact k4 _ v hj
            obtain ⟨u, w', gg, qq, r1, r2, r3, r4, r5⟩ := grow_ok (ρ := ρ) (θ := θ) (nx := nx) (a := a) (w := w) (n := n) (sLen := len) (sCap := qc / ye.sz) (olds := vs) (cs := l) c hx.symm rfl rfl hold (by rw [hlen, hcl]) k3 g2 (by omega) hf hn (by rw [hl]; exact dens_append k2 g1)
            exact wp_val r1 ⟨u, _, rfl, SP.alloc h2 hn r2 r3 r4 fun t b' h => (hsp t b' h).imp id fun z => ⟨z.1, z.2.2⟩, r5⟩ }
    · exact Yl.no
  · exact Yl.no
end
end X
end Go.Proofs.YtebfahobllghnaaGreatDoor
namespace Go.Proofs.YtebfahobllghnaaGreatDoor
namespace X
open Go.RowKit B
section
variable {P : Program} {ρ : Rho} {o : Oper} {s : Tr SV} {m : Mem} {nx : Nat} {pc : PC} {a : Act} {w w' : World} {θ : Th}
theorem apOld_yl {t t' e : Nat} {ye : Ty} {x y : Operand} {va vb : SV} (hs : Sat ρ pc) (c : ApCx P o t t' e ye x y) (hT : srcT P t' e vb = true) (hva : EvOk ρ s x va) (hvb : EvOk ρ s y vb) :
    Yl (fun K => apOld m nx pc e ye va vb fun v m nx pc ft => K ⟨v, m, nx, pc, ft⟩) (OpOk P ρ o s m nx) := by
  unfold apOld
  have hsrc := srcC_yl (P := P) (ρ := ρ) (m := m) (sz := ye.sz) hT
  refine Yl.bind3 hsrc fun news n ts h1 => ?_
  have h1 : ∀ (θ : Th) (w : World) (x : Value), (∀ t ∈ ts, ∀ b, m.get t = some b → HoldsB ρ θ w t b) → den ρ θ vb = some x → ∃ us, dens ρ θ news = some us ∧ Src P ye.sz t' x n us w := fun θ w x hb hx => by
    obtain ⟨us, q1, q2, _⟩ := h1 θ w x hb hx; exact ⟨us, q1, q2⟩
  split
  · exact apNs_yl hs c hva hvb h1
  · rename_i g off len cap
    refine Yl.bind frn_yl fun need hneed => ?_
    split
    · rename_i hf
      split
      · rename_i hroom
        exact apRoom_yl hs c hva hvb hneed hroom h1
      · rename_i hroom
        split
        · exact apGrow_yl hs c hva hvb hneed hroom hf h1
        · exact apAny_yl hs c hva hvb hneed hf h1
    · exact Yl.no
  · exact Yl.no
theorem apSym_yl {t t' e : Nat} {ye : Ty} {x y : Operand} {l : Str} (hs : Sat ρ pc) (c : ApCx P o t t' e ye x y) (hT : P.underlying t' = some .string) (hva : EvOk ρ s x .ns) (hvb : EvOk ρ s y (.s l)) :
    Yl (fun K => apSym m nx pc e ye l fun v m nx pc ft => K ⟨v, m, nx, pc, ft⟩) (OpOk P ρ o s m nx) := by
  unfold apSym
  split
  · rename_i hc
    simp only [Bool.and_eq_true, Nat.beq_eq, Nat.ble_eq] at hc
    obtain ⟨⟨⟨c1, c2⟩, c3⟩, c4⟩ := hc
    have p1 := proves_ok c3 hs
    have p2 := proves_ok c4 hs
    rw [sub_den, const_den, lenS_den] at p1
    rw [add_den, const_den, lenS_den] at p2
    refine Yl.bind2 newB_yl fun m' n' hm => ?_
    obtain ⟨e1, hm⟩ := hm
    simp only at e1 hm
    subst e1
    refine Yl.pure _ (OpOk.new1 hs hm rfl fun a w θ hsl hn => ?_)
    rw [c.ops] at hsl
    have hx : a.eval x = .slice none 0 0 := (Option.some.inj (hsl.ev (by simp) hva)).symm
    have hy : a.eval y = .string (bstr (denS ρ l)) := (Option.some.inj (hsl.ev (by simp) hvb)).symm
    have hsz := c.ok.sz
    have hsrc := Src.ofString (P := P) w hT (bstr (denS ρ l))
    rw [byteCells_eq, bstr_size] at hsrc
    have hlen : 0 < (denS ρ l).length := by omega
    have hb1 : (0 + (denS ρ l).length) * c.ok.i.bytes ≤ 140737488355328 := by
      rw [← c.ok.by']
      have : (0 + (denS ρ l).length) * ye.by' ≤ 16777216 * 16 := Nat.mul_le_mul (by omega) c2
      omega
    have hfit := growslice_fits (need := 0 + (denS ρ l).length) (old := 0) (bytes := c.ok.i.bytes) (by omega) hb1
    have hr := run_append_grow_src (P := P) w t t' o.type e c.ok.i c.ok.z c.hd c.ok.hi c.ok.hz none 0 0 [] (run_firstCells_none w.drew _ _ _ _) (.string (bstr (denS ρ l))) (denS ρ l).length _ (by rw [← hsz, c1]; exact hsrc) (by omega) (by omega) hfit
    rw [Nat.zero_add, List.nil_append] at hr
    have hge := grownCap_ge w (denS ρ l).length 0 e
    let rest := (Builtin.zeroCells c.ok.z.cells (grownCap w (denS ρ l).length 0 e - (denS ρ l).length)).toList
    have harr : ((denS ρ l).map fun b => Value.int .u8 b.toNat).toArray ++ Builtin.zeroCells c.ok.z.cells (grownCap w (denS ρ l).length 0 e - (denS ρ l).length) = (((denS ρ l).map fun b => Value.int .u8 b.toNat) ++ rest).toArray := by
      apply Array.ext'; simp [rest]
    rw [harr] at hr
    have hrl : rest.length = grownCap w (denS ρ l).length 0 e - (denS ρ l).length := by
      simp only [rest, Array.length_toList, size_zeroCells, c.ok.zl, ← hsz, c1, Nat.mul_one]
    refine ⟨_, _, w.heap.size, (((denS ρ l).map fun b => Value.int .u8 b.toNat) ++ rest).length, c.ex (by rw [hx, hy]; exact hr), (Ext.refl _ _).drew.trans (Ext.alloc _ _ _), Nat.le_refl _, ⟨w.heap.size, (((denS ρ l).map fun b => Value.int .u8 b.toNat) ++ rest).length, _, rest, by simp [updT], heap_alloc_new w.drew _, by simp, by simp⟩, ?_⟩
    have hcap : (((denS ρ l).map fun b => Value.int .u8 b.toNat) ++ rest).length = grownCap w (denS ρ l).length 0 e := by
      simp [hrl]; omega
    simp only [den, updT, if_true, Option.map_some, hcap]
  · exact Yl.no
def byC (l : List UInt8) : List SV := l.map fun b => .i .u8 (b.toNat : Int)
theorem byC_den (l : List UInt8) : dens ρ θ (byC l) = some (l.map fun b => Value.int .u8 b.toNat) := by
  induction l with
  | nil => rfl
  | cons b l ih =>
    simp only [byC, List.map_cons] at ih ⊢
    simp only [dens, den, ih, Option.bind_some, Option.map_some]
theorem byC_app (l r : List UInt8) : byC (l ++ r) = byC l ++ byC r := by simp [byC]
theorem byC_len (l : List UInt8) : (byC l).length = l.length := by simp [byC]
theorem bt_ce {t e : Nat} {l : Str} (h : HoldsB ρ θ w t (.bt e l)) : HoldsB ρ θ w t (.ce e (byC (denS ρ l)) false) := by
  obtain ⟨g, c, arr, rest, f1, f2, f3, f4⟩ := h
  exact ⟨g, c, _, arr, rest, f1, f2, f3, byC_den _, fun v hv => by
    obtain ⟨b, _, rfl⟩ := List.mem_map.1 hv; rfl, f4, fun h => by cases h⟩
theorem ce_bt {t e : Nat} {l : Str} (h : HoldsB ρ θ w t (.ce e (byC (denS ρ l)) false)) : HoldsB ρ θ w t (.bt e l) := by
  obtain ⟨g, c, vs, arr, rest, f1, f2, f3, f4, f5, f6, f7⟩ := h
  rw [byC_den] at f4
  cases f4
  exact ⟨g, c, arr, rest, f1, f2, f3, f6⟩
theorem srcS_yl {t e : Nat} {u : SV} (hs : Sat ρ pc) (hT : srcT P t e u = true) : Yl (fun K => srcS m pc u fun l ts => K (l, ts)) fun r => ∀ (θ : Th) (w : World) (x : Value), (∀ t ∈ r.2, ∀ b, m.get t = some b → HoldsB ρ θ w t b) → den ρ θ u = some x → Src P 1 t x (denS ρ r.1).length ((denS ρ r.1).map fun b => Value.int .u8 b.toNat) w := by
  unfold srcS
  split
  · rename_i l
    refine Yl.pure (l, []) fun θ w x _ hx => ?_
    have hk : P.underlying t = some .string := by
      cases hk2 : kindT P t with
      | str =>
        obtain ⟨d2, hd2, hk2'⟩ := kindT_ok hk2 (by simp)
        rw [tk_str hk2'] at hd2
        exact hd2
      | _ => simp [srcT, hk2] at hT
    simp only [den, Option.some.injEq] at hx
    subst hx
    have := Src.ofString (P := P) w hk (bstr (denS ρ l))
    rw [byteCells_eq, bstr_size] at this
    exact this
  · refine Yl.bind3 (srcC_yl (P := P) (ρ := ρ) (m := m) (sz := 1) hT) fun cs n ts h1 => ?_
    refine Yl.map (fun l => (l, ts)) (bytesC_yl hs) fun l hl => ?_
    intro θ w x hb hx
    obtain ⟨us, g1, g2, _⟩ := h1 θ w x hb hx
    have := hl θ us g1
    subst this
    have hn := g2.newsLen
    simp only [List.length_map, Nat.mul_one] at hn
    rw [hn]
    exact g2
def strB (b : ByteArray) : SV := .s (b.data.toList.map fun b => .c b.toNat)
theorem strB_den (b : ByteArray) : den ρ θ (strB b) = some (.string b) := by
  have : ∀ l : List UInt8, denS ρ (l.map fun b => Pc.c b.toNat) = l := fun l => by
    induction l with
    | nil => rfl
    | cons x l ih => rw [List.map_cons, denS_cons, ih]; simp [Pc.den]
  simp only [strB, den, this, bstr]
theorem strBs_den {ss : List ByteArray} : dens ρ θ (ss.map strB) = some (ss.map Value.string) := by
  induction ss with
  | nil => rfl
  | cons b l ih => simp only [List.map_cons, dens, strB_den, ih, Option.bind_some, Option.map_some]
theorem allStr_ok : ∀ {l : List SV} {us : List Value}, allStr l = true → dens ρ θ l = some us → ∃ ss : List ByteArray, us = ss.map Value.string
  | [], us, _, h => by cases h; exact ⟨[], rfl⟩
  | .s x :: l, us, ha, h => by
    simp only [dens, den, Option.bind_some, Option.map_eq_some_iff] at h
    obtain ⟨us', h1, rfl⟩ := h
    obtain ⟨ss, h2⟩ := allStr_ok (show allStr l = true from ha) h1
    exact ⟨bstr (denS ρ x) :: ss, by rw [h2]; rfl⟩
theorem ob_ce {t e : Nat} {l : Str} (h : HoldsB ρ θ w t (.ob e l)) : ∃ ss : List ByteArray, ss.length = (denS ρ l).length ∧ HoldsB ρ θ w t (.ce e (ss.map strB) false) := by
  obtain ⟨g, c, arr, rest, ss, f1, f2, f3, f4, f5⟩ := h
  exact ⟨ss, f4, g, c, _, arr, rest, f1, f2, f3, strBs_den, fun v hv => by
    obtain ⟨b, _, rfl⟩ := List.mem_map.1 hv; rfl, f5, fun h => by cases h⟩
theorem ce_ob {t e : Nat} {l : Str} {ss : List ByteArray} (h : HoldsB ρ θ w t (.ce e (ss.map strB) false)) (hl : ss.length = (denS ρ l).length) : HoldsB ρ θ w t (.ob e l) := by
  obtain ⟨g, c, vs, arr, rest, f1, f2, f3, f4, f5, f6, f7⟩ := h
  rw [strBs_den] at f4
  cases f4
  exact ⟨g, c, arr, rest, ss, f1, f2, f3, hl, f6⟩
theorem apSb_yl {t t' e g : Nat} {ye : Ty} {x y : Operand} {l0 l : Str} {ts : List Nat} {vb : SV} (hs : Sat ρ pc) (c : ApCx P o t t' e ye x y) (hva : EvOk ρ s x (.sb g l0)) (hvb : EvOk ρ s y vb)
    (hsrc : ∀ (θ : Th) (w : World) (x : Value), (∀ t ∈ ts, ∀ b, m.get t = some b → HoldsB ρ θ w t b) → den ρ θ vb = some x → Src P 1 t' x (denS ρ l).length ((denS ρ l).map fun b => Value.int .u8 b.toNat) w) :
    Yl (fun K => apSb m nx pc e ye g l0 l ts fun v m nx pc ft => K ⟨v, m, nx, pc, ft⟩) (OpOk P ρ o s m nx) := by
  have hsz := c.ok.sz
  unfold apSb
  split
  · rename_i e' l1 hg
    split
    · rename_i hc
      simp only [Bool.and_eq_true, Nat.beq_eq, Nat.ble_eq] at hc
      obtain ⟨⟨⟨⟨rfl, h1⟩, hz1⟩, hby⟩, hp⟩ := hc
      have h1 := eqStr_ok h1
      subst h1
      have hp := proves_ok hp hs
      rw [sub_den, const_den, add_den, lenS_den, lenS_den] at hp
      refine Yl.bind appS_yl fun r hr => Yl.bind set_yl fun m1 hm1 => ?_
      refine Yl.bind2 newB_yl fun m' n' hm => ?_
      obtain ⟨e1, hm⟩ := hm
      simp only at e1 hm
      subst e1
      have hr' : denS ρ r = denS ρ l0 ++ denS ρ l := by rw [hr, denS_app]
      have hmg : ∀ t, m'.get t = if t = nx then some (.bt e r) else if t = g then none else m.get t := fun t => by rw [hm, hm1]
      refine Yl.pure _ ?_
      exact {
        pc := hs
        le := Nat.le_succ _
        off := fun t ht => by
          have a1 : t ≠ nx := fun e => ht (by simp [tc, e])
          have a2 : t ≠ g := fun e => ht (by simp [tc, e])
          show m'.get t = _
          rw [hmg, if_neg a1, if_neg a2]
        rd := fun _ h => by cases h
        new := fun t h1 h2 => by
          have h2 : m'.get t ≠ none := h2
          by_cases e : t = nx
          · subst e; exact ⟨Nat.le_refl _, Nat.lt_succ_self _⟩
          · rw [hmg, if_neg e] at h2
            by_cases e' : t = g
            · rw [if_pos e'] at h2; exact absurd rfl h2
            · rw [if_neg e'] at h2; exact absurd h1 h2
        run := fun a w θ h1 h2 h3 => by
          have hn := h3 nx (Nat.le_refl _) (Nat.lt_succ_self _)
          have tcg : tc (.w (nx :: g :: ts)) g := by simp [tc]
          have tcs : ∀ t, t ∈ ts → tc (.w (nx :: g :: ts)) t := fun t ht => by simp [tc, ht]
          have hb : ∀ t, tc (.w (nx :: g :: ts)) t → ∀ b, m.get t = some b → HoldsB ρ θ w t b := fun t ht b hb => h2.holds t b (by rw [subM_in ht]; exact hb)
          rw [c.ops] at h1
          have hbg := bt_ce (hb g tcg _ hg)
          obtain ⟨q, qc, vs, k1, k2, k3, k4, k5⟩ := hbg.cells
          have hx := h1.ev (by simp) hva
          simp only [den, k1, Option.map_some, Option.some.injEq] at hx
          have g2 := hsrc θ w _ (fun t ht => hb t (tcs t ht)) (h1.ev (by simp) hvb)
          have g1 : dens ρ θ (byC (denS ρ l)) = some ((denS ρ l).map fun b => Value.int .u8 b.toNat) := byC_den _
          have hlen := dens_len k2
          rw [byC_len] at hlen
          have hcl : (byC (denS ρ l0)).length = (denS ρ l0).length * ye.sz := by rw [byC_len, hz1, Nat.mul_one]
          have hR0 := (subM_in (m := m) tcg).trans hg
          have hgn : g ≠ nx := fun e => by rw [e, hn] at k1; cases k1
          have hsp : ∀ t b', subM (.w (nx :: g :: ts)) m' t = some b' → (t = nx ∧ b' = .bt e r) ∨ (t ≠ nx ∧ t ≠ g ∧ subM (.w (nx :: g :: ts)) m t = some b') := fun t b' h => by
            obtain ⟨q1, q2⟩ := subM_some h
            rw [hmg] at q2
            by_cases e1 : t = nx
            · rw [if_pos e1] at q2; exact .inl ⟨e1, (Option.some.inj q2).symm⟩
            · rw [if_neg e1] at q2
              by_cases e2 : t = g
              · rw [if_pos e2] at q2; cases q2
              · rw [if_neg e2] at q2; exact .inr ⟨e1, e2, by rw [subM_in q1]; exact q2⟩
          have g2' : Src P ye.sz t' (a.eval y) (denS ρ l).length ((denS ρ l).map fun b => Value.int .u8 b.toNat) w := by rw [hz1]; exact g2
          by_cases hroom : (denS ρ l0).length + (denS ρ l).length ≤ qc / ye.sz
          · -- in place
            have hle : ((denS ρ l0).length + (denS ρ l).length) * ye.sz ≤ qc := (Nat.le_div_iff_mul_le c.sz).1 hroom
            obtain ⟨w', s1, s2, s3⟩ := hbg.store2 g1 g2.one k1 (by rw [byC_len, byC_len]; rw [hz1] at hle; omega)
            refine wp_val (c.ex ?_) ⟨.slice (some ⟨q, 0, none⟩) ((denS ρ l0).length + (denS ρ l).length) qc, updT θ nx (q, qc), rfl, SP.moved h2 hn hR0 rfl k1 s2 (b := .bt e r) (ce_bt (by rw [hr', byC_app]; exact s3 nx hn)) hsp, by simp [den, updT, hr']⟩
            rw [← hx]
            have h3' := g2.cells
            have s1' := s1 P
            rw [byC_len] at s1'
            rw [hz1, Nat.div_one] at hroom
            have hz2 : c.ok.i.size = 1 := by rw [← hsz, hz1]
            rcases g2.kind with ⟨e', hk⟩ | hk <;> simp [Builtin.append_, run_underlying c.hd, run_underlying hk, sizeOf, typeInfo, c.ok.hi, c.ok.hz, hz2, g2.len, h3', hroom, addr_add, s1']
          · have hold : ∀ w' : World, w'.heap = w.heap → (Builtin.firstCells ye.sz (denS ρ l0).length (.slice (some ⟨q, 0, none⟩) (denS ρ l0).length qc)).run P w' = .ok vs.toArray w' := fun w' hw => by
              refine run_firstCells_some w' ye.sz _ _ _ _ _ (by rw [hlen, hz1, Nat.mul_one]) fun j v hj => ?_
              have hcw : w'.cell? ((⟨q, 0, none⟩ : Addr).add j) = w.cell? ((⟨q, 0, none⟩ : Addr).add j) := by unfold World.cell?; rw [hw]
              rw [hcw, cell_at, Nat.zero_add]
              exact k4 _ v hj
            have hgt : qc < (denS ρ l0).length + (denS ρ l).length := by rw [hz1, Nat.div_one] at hroom; omega
            have hfit : fitsM ((denS ρ l0).length + (denS ρ l).length) ye.by' = true := by
              show Nat.ble (((denS ρ l0).length + (denS ρ l).length) * ye.by') 16777216 = true
              rw [Nat.ble_eq]
              have : ((denS ρ l0).length + (denS ρ l).length) * ye.by' ≤ 1000000 * 16 := Nat.mul_le_mul (by omega) hby
              omega
            obtain ⟨u, w', gg, qq, r1, r2, r3, r4, r5⟩ := grow_ok (ρ := ρ) (θ := θ) (nx := nx) (a := a) (w := w) (n := (denS ρ l).length) (sLen := (denS ρ l0).length) (sCap := qc) (olds := vs) (cs := byC (denS ρ r)) c hx.symm rfl rfl hold (by rw [hlen, hz1, Nat.mul_one]) k3 g2' hgt hfit hn (by rw [hr', byC_app]; exact dens_append k2 g1)
            refine wp_val r1 ⟨u, _, rfl, SP.alloc h2 hn r2 r3 (b := .bt e r) (ce_bt r4) fun t b' h => (hsp t b' h).imp id fun z => ⟨z.1, z.2.2⟩, ?_⟩
            rw [← r5]
            simp [den, updT, hr', Cap.den, hz1] }
    · exact Yl.no
  · exact Yl.no
theorem apOb_yl {t t' e g : Nat} {ye : Ty} {x y : Operand} {l0 : Str} {news : List SV} {n : Nat} {ts : List Nat} {vb : SV} (hs : Sat ρ pc) (c : ApCx P o t t' e ye x y) (hva : EvOk ρ s x (.sb g l0)) (hvb : EvOk ρ s y vb)
    (hsrc : ∀ (θ : Th) (w : World) (x : Value), (∀ t ∈ ts, ∀ b, m.get t = some b → HoldsB ρ θ w t b) → den ρ θ vb = some x → ∃ us, dens ρ θ news = some us ∧ Src P ye.sz t' x n us w) :
    Yl (fun K => apOb m nx pc e ye g l0 news n ts fun v m nx pc ft => K ⟨v, m, nx, pc, ft⟩) (OpOk P ρ o s m nx) := by
  have hsz := c.ok.sz
  unfold apOb
  split
  · rename_i e' l1 hg
    split
    · rename_i hc
      simp only [Bool.and_eq_true, Nat.beq_eq, Nat.ble_eq] at hc
      obtain ⟨⟨⟨⟨⟨⟨rfl, h1⟩, hz1⟩, hby⟩, rfl⟩, hal⟩, hp⟩ := hc
      have h1 := eqStr_ok h1
      subst h1
      have hp := proves_ok hp hs
      rw [sub_den, const_den, lenS_den] at hp
      refine Yl.bind appS_yl fun r hr => Yl.bind set_yl fun m1 hm1 => ?_
      refine Yl.bind2 newB_yl fun m' n' hm => ?_
      obtain ⟨e1, hm⟩ := hm
      simp only at e1 hm
      subst e1
      have hr' : (denS ρ r).length = (denS ρ l0).length + 1 := by rw [hr, denS_app, List.length_append]; rfl
      have hmg : ∀ t, m'.get t = if t = nx then some (.ob e r) else if t = g then none else m.get t := fun t => by rw [hm, hm1]
      refine Yl.pure _ ?_
      exact {
        pc := hs
        le := Nat.le_succ _
        off := fun t ht => by
          have a1 : t ≠ nx := fun e => ht (by simp [tc, e])
          have a2 : t ≠ g := fun e => ht (by simp [tc, e])
          show m'.get t = _
          rw [hmg, if_neg a1, if_neg a2]
        rd := fun _ h => by cases h
        new := fun t h1 h2 => by
          have h2 : m'.get t ≠ none := h2
          by_cases e : t = nx
          · subst e; exact ⟨Nat.le_refl _, Nat.lt_succ_self _⟩
          · rw [hmg, if_neg e] at h2
            by_cases e' : t = g
            · rw [if_pos e'] at h2; exact absurd rfl h2
            · rw [if_neg e'] at h2; exact absurd h1 h2
        run := fun a w θ h1 h2 h3 => by
          have hn := h3 nx (Nat.le_refl _) (Nat.lt_succ_self _)
          have tcg : tc (.w (nx :: g :: ts)) g := by simp [tc]
          have tcs : ∀ t, t ∈ ts → tc (.w (nx :: g :: ts)) t := fun t ht => by simp [tc, ht]
          have hb : ∀ t, tc (.w (nx :: g :: ts)) t → ∀ b, m.get t = some b → HoldsB ρ θ w t b := fun t ht b hb => h2.holds t b (by rw [subM_in ht]; exact hb)
          rw [c.ops] at h1
          obtain ⟨ss0, hss0, hbg⟩ := ob_ce (hb g tcg _ hg)
          obtain ⟨q, qc, vs, k1, k2, k3, k4, k5⟩ := hbg.cells
          have hx := h1.ev (by simp) hva
          simp only [den, k1, Option.map_some, Option.some.injEq] at hx
          obtain ⟨us, g0, g2⟩ := hsrc θ w _ (fun t ht => hb t (tcs t ht)) (h1.ev (by simp) hvb)
          obtain ⟨ss1, hus⟩ := allStr_ok hal g0
          have g1 : dens ρ θ (ss1.map strB) = some us := by rw [hus]; exact strBs_den
          have hss1 : ss1.length = 1 := by have := g2.newsLen; rw [hus, List.length_map, hz1] at this; exact this
          have hlen := dens_len k2
          rw [List.length_map] at hlen
          have hR0 := (subM_in (m := m) tcg).trans hg
          have hgn : g ≠ nx := fun e => by rw [e, hn] at k1; cases k1
          have hsp : ∀ t b', subM (.w (nx :: g :: ts)) m' t = some b' → (t = nx ∧ b' = .ob e r) ∨ (t ≠ nx ∧ t ≠ g ∧ subM (.w (nx :: g :: ts)) m t = some b') := fun t b' h => by
            obtain ⟨q1, q2⟩ := subM_some h
            rw [hmg] at q2
            by_cases e1 : t = nx
            · rw [if_pos e1] at q2; exact .inl ⟨e1, (Option.some.inj q2).symm⟩
            · rw [if_neg e1] at q2
              by_cases e2 : t = g
              · rw [if_pos e2] at q2; cases q2
              · rw [if_neg e2] at q2; exact .inr ⟨e1, e2, by rw [subM_in q1]; exact q2⟩
          have g2' := g2
          by_cases hroom : (denS ρ l0).length + 1 ≤ qc / ye.sz
          · -- in place
            have hle : ((denS ρ l0).length + 1) * ye.sz ≤ qc := (Nat.le_div_iff_mul_le c.sz).1 hroom
            obtain ⟨w', s1, s2, s3⟩ := hbg.store2 g1 g2.one k1 (by rw [List.length_map, List.length_map]; rw [hz1] at hle; omega)
            refine wp_val (c.ex ?_) ⟨.slice (some ⟨q, 0, none⟩) ((denS ρ l0).length + 1) qc, updT θ nx (q, qc), rfl, SP.moved h2 hn hR0 rfl k1 s2 (b := .ob e r) (ce_ob (ss := ss0 ++ ss1) (by rw [List.map_append]; exact s3 nx hn) (by rw [List.length_append, hss0, hss1, hr'])) hsp, by simp [den, updT, hr']⟩
            rw [← hx]
            have h3' := (hz1 ▸ g2).cells
            have s1' := s1 P
            rw [List.length_map, hss0] at s1'
            rw [hz1, Nat.div_one] at hroom
            have hz2 : c.ok.i.size = 1 := by rw [← hsz, hz1]
            rcases g2.kind with ⟨e', hk⟩ | hk <;> simp [Builtin.append_, run_underlying c.hd, run_underlying hk, sizeOf, typeInfo, c.ok.hi, c.ok.hz, hz2, g2.len, h3', hroom, addr_add, s1']
          · have hold : ∀ w' : World, w'.heap = w.heap → (Builtin.firstCells ye.sz (denS ρ l0).length (.slice (some ⟨q, 0, none⟩) (denS ρ l0).length qc)).run P w' = .ok vs.toArray w' := fun w' hw => by
              refine run_firstCells_some w' ye.sz _ _ _ _ _ (by rw [hlen, hss0, hz1, Nat.mul_one]) fun j v hj => ?_
              have hcw : w'.cell? ((⟨q, 0, none⟩ : Addr).add j) = w.cell? ((⟨q, 0, none⟩ : Addr).add j) := by unfold World.cell?; rw [hw]
              rw [hcw, cell_at, Nat.zero_add]
              exact k4 _ v hj
            have hgt : qc < (denS ρ l0).length + 1 := by rw [hz1, Nat.div_one] at hroom; omega
            have hfit : fitsM ((denS ρ l0).length + 1) ye.by' = true := by
              show Nat.ble (((denS ρ l0).length + 1) * ye.by') 16777216 = true
              rw [Nat.ble_eq]
              have : ((denS ρ l0).length + 1) * ye.by' ≤ 1000000 * 16 := Nat.mul_le_mul (by omega) hby
              omega
            obtain ⟨u, w', gg, qq, r1, r2, r3, r4, r5⟩ := grow_ok (ρ := ρ) (θ := θ) (nx := nx) (a := a) (w := w) (n := 1) (sLen := (denS ρ l0).length) (sCap := qc) (olds := vs) (cs := (ss0 ++ ss1).map strB) c hx.symm rfl rfl hold (by rw [hlen, hss0, hz1, Nat.mul_one]) k3 g2' hgt hfit hn (by rw [List.map_append]; exact dens_append k2 g1)
            refine wp_val r1 ⟨u, _, rfl, SP.alloc h2 hn r2 r3 (b := .ob e r) (ce_ob r4 (by rw [List.length_append, hss0, hss1, hr'])) fun t b' h => (hsp t b' h).imp id fun z => ⟨z.1, z.2.2⟩, ?_⟩
            rw [← r5]
            simp [den, updT, hr', Cap.den, hz1] }
    · exact Yl.no
  · exact Yl.no
theorem apUn_yl {t t' e g : Nat} {ye : Ty} {x y : Operand} {l0 : Str} {vb : SV} (hs : Sat ρ pc) (c : ApCx P o t t' e ye x y) (hT : srcT P t' e vb = true) (hva : EvOk ρ s x (.sb g l0)) (hvb : EvOk ρ s y vb) :
    Yl (fun K => apUn m nx pc e ye g l0 vb fun v m nx pc ft => K ⟨v, m, nx, pc, ft⟩) (OpOk P ρ o s m nx) := by
  unfold apUn
  split
  · refine Yl.bind3 (srcC_yl (P := P) (ρ := ρ) (m := m) (sz := ye.sz) hT) fun news n ts h1 => apOb_yl hs c hva hvb fun θ w x hb hx => ?_
    obtain ⟨us, q1, q2, _⟩ := h1 θ w x hb hx
    exact ⟨us, q1, q2⟩
  · exact Yl.bind2 (srcS_yl hs hT) fun l ts hsrc => apSb_yl hs c hva hvb hsrc
theorem opAppend_yl {t t' : Nat} {x y : Operand} (hs : Sat ρ pc) (ho : o.op = .call { callee := .builtin .append, args := #[x, y], argTypes := #[t, t'] }) : Yl (fun K => opAppend P s m nx pc t t' x y fun v m nx pc ft => K ⟨v, m, nx, pc, ft⟩) (OpOk P ρ o s m nx) := by
  unfold opAppend
  split
  · rename_i e hk
    obtain ⟨d, hd, hk'⟩ := kindT_ok hk (by simp)
    rw [tk_slice hk'] at hd
    split
    · rename_i ye hye
      obtain ⟨ok⟩ := mkTy_ok hye
      refine Yl.bind (evO_yl (ρ := ρ)) fun va hva => Yl.bind (evO_yl (ρ := ρ)) fun vb hvb => ?_
      split
      · rename_i hc
        simp only [Bool.and_eq_true, Nat.ble_eq] at hc
        obtain ⟨⟨c1, c2⟩, c3⟩ := hc
        have cx : ApCx P o t t' e ye x y := ⟨ho, hd, ok, c2, c3⟩
        split
        · rename_i l
          split
          · exact apOld_yl hs cx c1 hva hvb
          · refine apSym_yl hs cx ?_ hva hvb
            cases hk2 : kindT P t' with
            | str =>
              obtain ⟨d2, hd2, hk2'⟩ := kindT_ok hk2 (by simp)
              rw [tk_str hk2'] at hd2
              exact hd2
            | _ => simp [srcT, hk2] at c1
        · rename_i g l0
          exact apUn_yl hs cx c1 hva hvb
        · exact apOld_yl hs cx c1 hva hvb
      · exact Yl.no
    · exact Yl.no
  · exact Yl.no
theorem opCopy_yl {t t' : Nat} {x y : Operand} (hs : Sat ρ pc) (ho : o.op = .call { callee := .builtin .copy, args := #[x, y], argTypes := #[t, t'] }) : Yl (fun K => opCopy P s m nx pc t t' x y fun v m nx pc ft => K ⟨v, m, nx, pc, ft⟩) (OpOk P ρ o s m nx) := by
  have hop : o.op.operands.toList = [x, y] := by simp [ho, Op.operands, Call.operands]
  have hex : ∀ (a : Act) (w w' : World) (v : Value), (Builtin.copy_ #[t, t'] o.type #[a.eval x, a.eval y]).run P w = .ok v w' → (execOp a.eval o).run P w = .ok (.value v) w' := fun a w w' v h => by
    simp [execOp, ho, resolve, invoke, builtin, h]
  unfold opCopy
  split
  · rename_i e hk
    obtain ⟨d, hd, hk'⟩ := kindT_ok hk (by simp)
    rw [tk_slice hk'] at hd
    split
    · rename_i ye hye
      obtain ⟨ok⟩ := mkTy_ok hye
      have hsz := ok.sz
      refine Yl.bind (evO_yl (ρ := ρ)) fun va hva => Yl.bind (evO_yl (ρ := ρ)) fun vb hvb => ?_
      split
      · rename_i hT
        have hsrc := srcC_yl (P := P) (ρ := ρ) (m := m) (sz := ye.sz) hT
        refine Yl.bind3 hsrc fun news n ts hsrc => ?_
        split
        · refine Yl.pure _ (OpOk.reads hs fun a w θ hsl hb => ⟨.int .i64 0, hex a w w _ ?_, rfl⟩)
          rw [hop] at hsl
          have hx : a.eval x = .slice none 0 0 := (Option.some.inj (hsl.ev (by simp) hva)).symm
          obtain ⟨us, h1, h2, _⟩ := hsrc θ w _ hb (hsl.ev (by simp) hvb)
          have hfc : (Builtin.firstCells ok.i.size 0 (a.eval y)).run P w = .ok #[] w := by
            have h4 := h2.len w
            generalize a.eval y = v at h4 ⊢
            cases v with
            | string sv => simp [Builtin.firstCells]
            | slice ad l c => cases ad <;> simp [Builtin.firstCells, loadCells, loadCellsFrom]
            | _ => simp [Builtin.lenOf, stuck] at h4
          have hmin : Nat.min n 0 = 0 := Nat.min_eq_right (Nat.zero_le _)
          simp [Builtin.copy_, run_underlying hd, hx, h2.len, sizeOf, typeInfo, ok.hi, hfc, hmin, goInt]
        · rename_i g off len cap
          split
          · rename_i e' cs ex hg
            split
            · rename_i hle
              have hle := Nat.le_of_ble_eq_true hle
              refine Yl.bind setC_yl fun cs' hcs => ?_
              refine Yl.map (fun m' => (⟨.i .i64 (.ofNat n), m', nx, pc, .w (g :: ts)⟩ : O5)) set_yl fun m' hm => OpOk.turn hs (List.mem_cons_self) hg hm fun a w θ hsl hb => ?_
              rw [hop] at hsl
              obtain ⟨us, h1, h2, _⟩ := hsrc θ w _ (fun t ht => hb t (List.mem_cons_of_mem _ ht)) (hsl.ev (by simp) hvb)
              obtain ⟨q, qc, w', k1, k2, k3, k4⟩ := (hb g (List.mem_cons_self) _ hg).store h1 h2.one hcs.1
              have hx := hsl.ev (by simp) hva
              simp only [den, k1, Option.map_some, Option.some.injEq] at hx
              refine ⟨.int .i64 n, w', q, qc, .inl (hex a w w' _ ?_), k1, k3, by rw [hcs.2]; exact k4, rfl⟩
              have h3 := h2.cells
              rw [hsz] at h3
              have hmin : Nat.min n len = n := Nat.min_eq_left hle
              simp [Builtin.copy_, run_underlying hd, ← hx, h2.len, sizeOf, typeInfo, ok.hi, hmin, h3, k2 P, goInt]
            · rename_i hle
              have hle : len < n := by
                have := Nat.ble_eq (x := n) (y := len)
                rw [hle] at this
                simp at this; omega
              split
              · rename_i g2 off2 n2 cap2
                refine Yl.bind takeC_yl fun news' hnews => Yl.bind setC_yl fun cs' hcs => ?_
                refine Yl.map (fun m' => (⟨.i .i64 (.ofNat len), m', nx, pc, .w (g :: ts)⟩ : O5)) set_yl fun m' hm => OpOk.turn hs (List.mem_cons_self) hg hm fun a w θ hsl hb => ?_
                rw [hop] at hsl
                have hy := hsl.ev (by simp) hvb
                obtain ⟨us, h1, h2, h3⟩ := hsrc θ w _ (fun t ht => hb t (List.mem_cons_of_mem _ ht)) hy
                obtain ⟨adr, ac, h4, h5⟩ := h3 _ _ _ _ rfl
                have h1' : dens ρ θ news' = some (us.take (len * ye.sz)) := by rw [hnews.2]; exact dens_take _ h1
                obtain ⟨q, qc, w', k1, k2, k3, k4⟩ := (hb g (List.mem_cons_self) _ hg).store h1' (fun u hu => h2.one u (List.mem_of_mem_take hu)) hcs.1
                have hx := hsl.ev (by simp) hva
                simp only [den, k1, Option.map_some, Option.some.injEq] at hx
                refine ⟨.int .i64 len, w', q, qc, .inl (hex a w w' _ ?_), k1, k3, by rw [hcs.2]; exact k4, rfl⟩
                have hl1 : (us.take (len * ye.sz)).length = len * ye.sz := by
                  rw [List.length_take, h2.newsLen]
                  exact Nat.min_eq_left (Nat.mul_le_mul_right _ (Nat.le_of_lt hle))
                have hfc := run_firstCells_some (P := P) w ye.sz len adr n ac (us.take (len * ye.sz)) hl1 fun j v hj => h5 j v (by
                  have hj1 : j < len * ye.sz := by have := (List.getElem?_eq_some_iff.1 hj).1; omega
                  rwa [List.getElem?_take_of_lt hj1] at hj)
                rw [← h4, hsz] at hfc
                have k2' := k2 P
                rw [hsz] at k2'
                have hmin : Nat.min n len = len := Nat.min_eq_right (Nat.le_of_lt hle)
                simp [Builtin.copy_, run_underlying hd, ← hx, h2.len, sizeOf, typeInfo, ok.hi, hmin, hfc, k2', goInt]
              · exact Yl.no
          · exact Yl.no
        · exact Yl.no
      · exact Yl.no
    · exact Yl.no
  · exact Yl.no
end
end X
end Go.Proofs.YtebfahobllghnaaGreatDoor
namespace Go.Proofs.YtebfahobllghnaaGreatDoor
namespace X
open Go.RowKit B
section
variable {P : Program} {ρ : Rho} {o : Oper} {s : Tr SV} {m : Mem} {nx : Nat} {pc : PC} {a : Act} {w w' : World} {θ : Th}
theorem opSData_yl {x : Operand} {ts : Array TypeId} (hs : Sat ρ pc) (ho : o.op = .call { callee := .builtin .unsafeSliceData, args := #[x], argTypes := ts }) : Yl (fun K => opSData s m nx pc x fun v m nx pc ft => K ⟨v, m, nx, pc, ft⟩) (OpOk P ρ o s m nx) := by
  have hop : o.op.operands.toList = [x] := by simp [ho, Op.operands, Call.operands]
  have hex : ∀ (a : Act) (w : World) (v : Value), (Builtin.unsafeSliceData_ ts o.type #[a.eval x]).run P w = .ok v w → Runs P a o w v := fun a w v h => by
    simp [Runs, execOp, ho, resolve, invoke, builtin, h]
  unfold opSData
  refine Yl.bind (evO_yl (ρ := ρ)) fun v hv => ?_
  split
  · refine Yl.pure _ (OpOk.pure hs fun a w θ hsl => ⟨.pointer none, hex a w _ ?_, rfl⟩)
    rw [hop] at hsl
    have hx : a.eval x = .slice none 0 0 := (Option.some.inj (hsl.ev (by simp) hv)).symm
    rw [hx]; rfl
  · rename_i g off n cap
    split
    · rename_i hr
      refine Yl.pure _ (OpOk.read hs fun a w θ hsl hb => ?_)
      rw [hop] at hsl
      have hx := hsl.ev (by simp) hv
      simp only [den, Option.map_eq_some_iff] at hx
      obtain ⟨q, hq, hx⟩ := hx
      have hc := roomC_ok hr hb hq
      have hc0 : cap.den q.2 off ≠ 0 := by omega
      exact ⟨.pointer (some ⟨q.1, off, none⟩), hex a w _ (by rw [← hx]; exact Go.Lib.run_unsafeSliceData_row w ts o.type _ n _ hc0), by simp [den, hq]⟩
    · exact Yl.no
  · rename_i g l
    split
    · rename_i e' l' hg
      split
      · rename_i hc
        simp only [Bool.and_eq_true] at hc
        have h1 := eqStr_ok hc.1
        subst h1
        have h2 := proves_ok hc.2 hs
        rw [sub_den, const_den, lenS_den] at h2
        refine Yl.pure _ (OpOk.read hs fun a w θ hsl hb => ?_)
        rw [hop] at hsl
        have hx := hsl.ev (by simp) hv
        obtain ⟨q, qc, arr, rest, f1, f2, f3, f4⟩ := hb _ hg
        simp only [den, f1, Option.map_some, Option.some.injEq] at hx
        have hsz : arr.size = (denS ρ l).length + rest.length := by
          have := congrArg List.length f4
          simpa using this
        have hc0 : qc ≠ 0 := by omega
        exact ⟨.pointer (some ⟨q, 0, none⟩), hex a w _ (by rw [← hx]; exact Go.Lib.run_unsafeSliceData_row w ts o.type _ _ _ hc0), by simp [den, f1]⟩
      · exact Yl.no
    · exact Yl.no
  · exact Yl.no
theorem push_bytes : ∀ (ns l : List UInt8), (ns.map fun b => (b.toNat : Int)).foldl (fun (r : ByteArray) (n : Int) => r.push (UInt8.ofNat n.toNat)) (bstr l) = bstr (l ++ ns)
  | [], l => by simp
  | b :: ns, l => by
    simp only [List.map_cons, List.foldl_cons]
    have : (bstr l).push (UInt8.ofNat (b.toNat : Int).toNat) = bstr (l ++ [b]) := by simp [bstr, ByteArray.push]
    rw [this, push_bytes ns (l ++ [b])]
    simp
theorem run_toString {l : List UInt8} {adr : Addr} {n cap : Nat} (hn : n = l.length) (h : ∀ j v, (l.map fun b => Value.int .u8 b.toNat)[j]? = some v → w.cell? (adr.add j) = some v) : (Conv.bytesToString (.slice (some adr) n cap)).run P w = .ok (.string (bstr l)) w := by
  subst hn
  have h1 := run_loadCells_list (P := P) w adr (l.map fun b => Value.int .u8 b.toNat) h
  rw [List.length_map] at h1
  have h2 := run_bytesToString (P := P) w adr l.length cap (l.map fun b => (b.toNat : Int)) (by rw [h1]; simp)
  have h3 := push_bytes l []
  rw [show bstr [] = ByteArray.empty from rfl, List.nil_append] at h3
  rw [h2, h3]
theorem freeze_ext {g n : Nat} : Ext (fun k => k = g) w (w.freeze ⟨g, 0, none⟩ n) := by
  unfold World.freeze
  split
  · exact Ext.refl _ _
  · exact ⟨rfl, rfl, rfl, by simp, fun k hk hn => by simp [Array.getElem?_modify, Ne.symm hn]⟩
theorem opUString_yl {t t' : Nat} {x y : Operand} (hs : Sat ρ pc) (ho : o.op = .call { callee := .builtin .unsafeString, args := #[x, y], argTypes := #[t, t'] }) : Yl (fun K => opUString P s m nx pc t x y fun v m nx pc ft => K ⟨v, m, nx, pc, ft⟩) (OpOk P ρ o s m nx) := by
  have hop : o.op.operands.toList = [x, y] := by simp [ho, Op.operands, Call.operands]
  have hex : ∀ (a : Act) (w w' : World) (v : Value), (Builtin.unsafeString_ #[t, t'] o.type #[a.eval x, a.eval y]).run P w = .ok v w' → (execOp a.eval o).run P w = .ok (.value v) w' := fun a w w' v h => by
    simp [execOp, ho, resolve, invoke, builtin, h]
  unfold opUString
  refine Yl.bind (evO_yl (ρ := ρ)) fun va hva => Yl.bind (evO_yl (ρ := ρ)) fun vb hvb => ?_
  split
  · have none' : ∀ (a : Act) (w : World) (p : Option Addr), a.eval x = .pointer p → a.eval y = .int .i64 0 → (execOp a.eval o).run P w = .ok (.value (.string (bstr []))) w := fun a w p hx hy =>
      hex a w w _ (by rw [hx, hy]; exact Go.Lib.run_unsafeString_none w t t' o.type p)
    split
    · refine Yl.pure _ (OpOk.pure hs fun a w θ hsl => ⟨_, none' a w none ?_ ?_, rfl⟩)
      · rw [hop] at hsl; exact (Option.some.inj (hsl.ev (by simp) hva)).symm
      · rw [hop] at hsl; exact (Option.some.inj (hsl.ev (by simp) hvb)).symm
    · refine Yl.pure _ (OpOk.pure hs fun a w θ hsl => ?_)
      rw [hop] at hsl
      have hx := hsl.ev (by simp) hva
      simp only [den, Option.map_eq_some_iff] at hx
      obtain ⟨q, hq, hx⟩ := hx
      exact ⟨_, none' a w _ hx.symm (Option.some.inj (hsl.ev (by simp) hvb)).symm, rfl⟩
    · exact Yl.no
  · rename_i k
    split
    · rename_i g u hk
      obtain ⟨d, hd, hk'⟩ := kindT_ok hk (by simp)
      rw [tk_ptr hk'] at hd
      split
      · rename_i e cs ex hg
        split
        · rename_i hc
          simp only [Bool.and_eq_true, Nat.beq_eq, Nat.ble_eq] at hc
          obtain ⟨⟨rfl, hc1⟩, hc2⟩ := hc
          refine Yl.bind segC_yl fun l hl => Yl.bind (bytesC_yl (ρ := ρ) hs) fun r hr => ?_
          refine Yl.map (fun m' => (⟨.s r, m', nx, pc, .w [g]⟩ : O5)) set_yl fun m' hm => ?_
          have hm' : ∀ t, m'.get t = if t = g then none else m.get t := hm
          exact {
            pc := hs
            le := Nat.le_refl _
            off := fun t ht => by
              have a2 : t ≠ g := fun e => ht (by simp [tc, e])
              show m'.get t = _
              rw [hm', if_neg a2]
            rd := fun _ h => by cases h
            new := fun t h1 h2 => by
              have h2 : m'.get t ≠ none := h2
              by_cases e' : t = g
              · rw [hm', if_pos e'] at h2; exact absurd rfl h2
              · rw [hm', if_neg e'] at h2; exact absurd h1 h2
            run := fun a w θ h1 h2 h3 => by
              rw [hop] at h1
              have tcg : tc (.w [g]) g := by simp [tc]
              have hbg := h2.holds g _ (by rw [subM_in tcg]; exact hg)
              have hR0 := (subM_in (m := m) tcg).trans hg
              have hbg' := hbg
              obtain ⟨q, qc, vs0, arr, rest, f1, f2, f3, _⟩ := hbg'
              obtain ⟨q', qc', vs, k1, k2, k3, k4, k5⟩ := hbg.cells
              rw [f1] at k1; cases k1
              have hx := h1.ev (by simp) hva
              simp only [den, f1, Option.map_some, Option.some.injEq] at hx
              have hy : a.eval y = .int .i64 ((k + 1 : Nat) : Int) := (Option.some.inj (h1.ev (by simp) hvb)).symm
              have hlen := dens_len k2
              have hle : 0 + (k + 1) ≤ cs.length := hl.1
              have h4 : dens ρ θ l = some (vs.take (k + 1)) := by
                have := dens_take (k + 1) k2
                rw [hl.2, List.drop_zero]; exact this
              have h5 := hr θ _ h4
              have h6 : (denS ρ r).length = k + 1 := by
                have := congrArg List.length h5
                simp at this; omega
              have hrun := Go.Lib.run_unsafeString_row (P := P) w t t' o.type e hd hc1 q arr.size (by simp [World.shape?, f2]) (denS ρ r) (by intro h; rw [h] at h6; simp at h6) (by omega) (by omega) fun j x' hj => by
                rw [cell_at, Nat.zero_add]
                have hj1 : j < k + 1 := by have := (List.getElem?_eq_some_iff.1 hj).1; omega
                have h7 : (vs.take (k + 1))[j]? = some (.int .u8 x'.toNat) := by rw [h5, List.getElem?_map, hj]; rfl
                rw [List.getElem?_take_of_lt hj1] at h7
                exact k4 j _ h7
              rw [h6] at hrun
              refine wp_val (hex a w _ _ (by rw [← hx, hy]; exact hrun)) ⟨_, θ, rfl, SP.gone h2 hR0 rfl f1 freeze_ext fun t b' h => ?_, rfl⟩
              obtain ⟨q1, q2⟩ := subM_some h
              rw [hm'] at q2
              by_cases e2 : t = g
              · rw [if_pos e2] at q2; cases q2
              · rw [if_neg e2] at q2; exact ⟨e2, by rw [subM_in q1]; exact q2⟩ }
        · exact Yl.no
      · exact Yl.no
    · exact Yl.no
  · rename_i e
    split
    · rename_i g u hk
      obtain ⟨d, hd, hk'⟩ := kindT_ok hk (by simp)
      rw [tk_ptr hk'] at hd
      split
      · rename_i e' l hg
        split
        · rename_i hc
          simp only [Bool.and_eq_true, Nat.beq_eq] at hc
          obtain ⟨⟨⟨⟨⟨rfl, hc1⟩, p1⟩, p2⟩, p3⟩, p4⟩ := hc
          have p1 := proves_ok p1 hs
          have p2 := proves_ok p2 hs
          have p3 := proves_ok p3 hs
          have p4 := proves_ok p4 hs
          rw [sub_den, lenS_den] at p1 p2
          rw [sub_den, const_den, lenS_den] at p3 p4
          refine Yl.map (fun m' => (⟨.s l, m', nx, pc, .w [g]⟩ : O5)) set_yl fun m' hm => ?_
          have hm' : ∀ t, m'.get t = if t = g then none else m.get t := hm
          exact {
            pc := hs
            le := Nat.le_refl _
            off := fun t ht => by
              have a2 : t ≠ g := fun e => ht (by simp [tc, e])
              show m'.get t = _
              rw [hm', if_neg a2]
            rd := fun _ h => by cases h
            new := fun t h1 h2 => by
              have h2 : m'.get t ≠ none := h2
              by_cases e' : t = g
              · rw [hm', if_pos e'] at h2; exact absurd rfl h2
              · rw [hm', if_neg e'] at h2; exact absurd h1 h2
            run := fun a w θ h1 h2 h3 => by
              rw [hop] at h1
              have tcg : tc (.w [g]) g := by simp [tc]
              have hbt := h2.holds g _ (by rw [subM_in tcg]; exact hg)
              have hR0 := (subM_in (m := m) tcg).trans hg
              have hbg := bt_ce hbt
              obtain ⟨q, qc, arr, rest, f1, f2, f3, _⟩ := hbt
              obtain ⟨q', qc', vs, k1, k2, k3, k4, k5⟩ := hbg.cells
              rw [f1] at k1; cases k1
              have hx := h1.ev (by simp) hva
              simp only [den, f1, Option.map_some, Option.some.injEq] at hx
              have he : e.den ρ = ((denS ρ l).length : Int) := by omega
              have hy : a.eval y = .int .i64 ((denS ρ l).length : Int) := by
                have := Option.some.inj (h1.ev (by simp) hvb)
                rw [he] at this
                exact this.symm
              have h5 : vs = (denS ρ l).map fun b => Value.int .u8 b.toNat := by
                rw [byC_den] at k2; exact (Option.some.inj k2).symm
              have hvl : vs.length = (denS ρ l).length := by rw [h5, List.length_map]
              have hrun := Go.Lib.run_unsafeString_row (P := P) w t t' o.type e' hd hc1 q arr.size (by simp [World.shape?, f2]) (denS ρ l) (by intro h; rw [h] at p3; simp at p3) (by omega) (by omega) fun j x' hj => by
                rw [cell_at, Nat.zero_add]
                have h7 : vs[j]? = some (.int .u8 x'.toNat) := by rw [h5, List.getElem?_map, hj]; rfl
                exact k4 j _ h7
              refine wp_val (hex a w _ _ (by rw [← hx, hy]; exact hrun)) ⟨_, θ, rfl, SP.gone h2 hR0 rfl f1 freeze_ext fun t b' h => ?_, rfl⟩
              obtain ⟨q1, q2⟩ := subM_some h
              rw [hm'] at q2
              by_cases e2 : t = g
              · rw [if_pos e2] at q2; cases q2
              · rw [if_neg e2] at q2; exact ⟨e2, by rw [subM_in q1]; exact q2⟩ }
        · exact Yl.no
      · exact Yl.no
    · exact Yl.no
  · exact Yl.no
theorem opConv_yl {src d : Nat} {x : Operand} (hs : Sat ρ pc) (ho : o.op = .convert src d x) : Yl (fun K => opConv P s m nx pc src d x fun v m nx pc ft => K ⟨v, m, nx, pc, ft⟩) (OpOk P ρ o s m nx) := by
  have hop : o.op.operands.toList = [x] := by simp [ho, Op.operands]
  have hex : ∀ (a : Act) (w w' : World) (v : Value), (convert src d (a.eval x)).run P w = .ok v w' → (execOp a.eval o).run P w = .ok (.value v) w' := fun a w w' v h => by
    simp [execOp, ho, h]
  unfold opConv
  refine Yl.bind (evO_yl (ρ := ρ)) fun v hv => ?_
  split
  · rename_i i k j n h1 h2
    obtain ⟨d1, hd1, k1⟩ := kindT_ok h1 (by simp)
    obtain ⟨d2, hd2, k2⟩ := kindT_ok h2 (by simp)
    rw [tk_int k1] at hd1
    rw [tk_int k2] at hd2
    refine Yl.map (fun v => (⟨v, m, nx, pc, .n⟩ : O5)) wrK_yl fun r hr => OpOk.pure hs fun a w θ hsl => ?_
    rw [hop] at hsl
    have hx := (Option.some.inj (hsl.ev (by simp) hv)).symm
    exact ⟨_, r_conv ho hd1 hd2 hx, by rw [hr]; rfl⟩
  · rename_i i k j e h1 h2
    obtain ⟨d1, hd1, k1⟩ := kindT_ok h1 (by simp)
    obtain ⟨d2, hd2, k2⟩ := kindT_ok h2 (by simp)
    rw [tk_int k1] at hd1
    rw [tk_int k2] at hd2
    have fin : k.wrap (e.den ρ) = e.den ρ → OpOk P ρ o s m nx ⟨.x k e, m, nx, pc, .n⟩ := fun hw => OpOk.pure hs fun a w θ hsl => by
      rw [hop] at hsl
      have hx := (Option.some.inj (hsl.ev (by simp) hv)).symm
      have := r_conv (w := w) ho hd1 hd2 hx
      rw [hw] at this
      exact ⟨_, this, rfl⟩
    split
    · rename_i hc
      simp only [Bool.and_eq_true, ikEq_iff] at hc
      obtain ⟨rfl, hc⟩ := hc
      exact Yl.pure _ (fin (IntWalk.i64_in _ (in64_ok hc hs)))
    · split
      · rename_i hc
        simp only [Bool.and_eq_true, ikEq_iff] at hc
        obtain ⟨⟨rfl, hc⟩, hc2⟩ := hc
        have a1 := in64_ok hc hs
        have a2 := proves_ok hc2 hs
        exact Yl.pure _ (fin (by simp [IntKind.wrap, IntKind.signed, IntKind.bits]; omega))
      · exact Yl.no
  · rename_i l h1 h2
    obtain ⟨d1, hd1, k1⟩ := kindT_ok h1 (by simp)
    obtain ⟨d2, hd2, k2⟩ := kindT_ok h2 (by simp)
    rw [tk_str k1] at hd1
    rw [tk_str k2] at hd2
    refine Yl.pure _ (OpOk.pure hs fun a w θ hsl => ?_)
    rw [hop] at hsl
    have hx : a.eval x = .string (bstr (denS ρ l)) := (Option.some.inj (hsl.ev (by simp) hv)).symm
    exact ⟨.string (bstr (denS ρ l)), hex a w w _ (by rw [hx]; simp [convert, run_underlying hd1, run_underlying hd2]), rfl⟩
  · rename_i v' e h1 h2
    obtain ⟨d1, hd1, k1⟩ := kindT_ok h1 (by simp)
    obtain ⟨d2, hd2, k2⟩ := kindT_ok h2 (by simp)
    rw [tk_slice k1] at hd1
    rw [tk_str k2] at hd2
    have go : ∀ {j : IntKind} {xv rv : Value} {w : World}, kindT P e = .int j → j = .u8 → (∃ a n c, xv = .slice a n c) → (Conv.bytesToString xv).run P w = .ok rv w → (convert src d xv).run P w = .ok rv w := fun {j xv rv w} hke hj hxv hr => by
      subst hj
      obtain ⟨d3, hd3, k3⟩ := kindT_ok hke (by simp)
      rw [tk_int k3] at hd3
      obtain ⟨a0, n0, c0, rfl⟩ := hxv
      simp [convert, run_underlying hd1, run_underlying hd2, run_underlying hd3, hr]
    split
    · rename_i hke
      refine Yl.pure _ (OpOk.pure hs fun a w θ hsl => ?_)
      rw [hop] at hsl
      have hx : a.eval x = .slice none 0 0 := (Option.some.inj (hsl.ev (by simp) hv)).symm
      exact ⟨.string (bstr []), hex a w w _ (by rw [hx]; exact go hke rfl ⟨_, _, _, rfl⟩ rfl), rfl⟩
    · rename_i g off n cap hke
      split
      · rename_i ty cs ex hg
        refine Yl.bind segC_yl fun l hl => ?_
        refine Yl.map (fun u => (⟨.s u, m, nx, pc, .r g⟩ : O5)) (bytesC_yl (ρ := ρ) hs) fun r hr => OpOk.read hs fun a w θ hsl hb => ?_
        rw [hop] at hsl
        obtain ⟨q, c, vs, f1, f2, f3, f4, f5⟩ := (hb _ hg).cells
        have hx := hsl.ev (by simp) hv
        simp only [den, f1, Option.map_some, Option.some.injEq] at hx
        have hlen := dens_len f2
        have h4 : dens ρ θ l = some ((vs.drop off).take n) := by rw [hl.2]; exact dens_take _ (dens_drop _ f2)
        have h5 := hr θ _ h4
        have h6 : n = (denS ρ r).length := by
          have := congrArg List.length h5
          simp at this; omega
        refine ⟨.string (bstr (denS ρ r)), hex a w w _ (by
          rw [← hx]
          refine go hke rfl ⟨_, _, _, rfl⟩ (run_toString h6 fun j u hj => ?_)
          rw [← h5] at hj
          rw [cell_at]
          refine f4 _ u ?_
          have hj1 : j < n := by have := (List.getElem?_eq_some_iff.1 hj).1; simp at this; omega
          rw [List.getElem?_take_of_lt hj1, List.getElem?_drop] at hj
          exact hj), rfl⟩
      · exact Yl.no
    · rename_i g l hke
      split
      · rename_i ty l' hg
        split
        · rename_i hl
          have := eqStr_ok hl
          subst this
          refine Yl.pure _ (OpOk.read hs fun a w θ hsl hb => ?_)
          rw [hop] at hsl
          obtain ⟨q, c, arr, rest, f1, f2, f3, f4⟩ := hb _ hg
          have hx := hsl.ev (by simp) hv
          simp only [den, f1, Option.map_some, Option.some.injEq] at hx
          refine ⟨.string (bstr (denS ρ l)), hex a w w _ (by
            rw [← hx]
            refine go hke rfl ⟨_, _, _, rfl⟩ (run_toString rfl fun j u hj => ?_)
            rw [cell_at, Nat.zero_add]
            have hlt := (List.getElem?_eq_some_iff.1 hj).1
            have h7 : arr[j]? = some u := by rw [← Array.getElem?_toList, f4, List.getElem?_append_left hlt]; exact hj
            simp [World.cell?, f2, h7]), rfl⟩
        · exact Yl.no
      · exact Yl.no
    · exact Yl.no
  · rename_i t h1 h2
    obtain ⟨d1, hd1, k1⟩ := kindT_ok h1 (by simp)
    obtain ⟨d2, hd2, k2⟩ := kindT_ok h2 (by simp)
    rw [tk_ptr k1] at hd1
    rw [tk_upt k2] at hd2
    refine Yl.pure _ (OpOk.pure hs fun a w θ hsl => ?_)
    rw [hop] at hsl
    have hx : a.eval x = .pointer none := (Option.some.inj (hsl.ev (by simp) hv)).symm
    exact ⟨.pointer none, hex a w w _ (by rw [hx]; simp [convert, run_underlying hd1, run_underlying hd2, Conv.unsafePointer]), rfl⟩
  · rename_i t g off h1 h2
    obtain ⟨d1, hd1, k1⟩ := kindT_ok h1 (by simp)
    obtain ⟨d2, hd2, k2⟩ := kindT_ok h2 (by simp)
    rw [tk_ptr k1] at hd1
    rw [tk_upt k2] at hd2
    split
    · rename_i ty cs ex y hg hy
      obtain ⟨ok⟩ := mkTy_ok hy
      split
      · rename_i hc
        simp only [Bool.and_eq_true, lenC0, Nat.ble_eq] at hc
        have hlt : off < cs.length := by simpa [Nat.blt_eq] using hc.1
        have hsz : y.sz ≠ 0 := by have := hc.2; omega
        refine Yl.pure _ (OpOk.read hs fun a w θ hsl hb => ?_)
        rw [hop] at hsl
        obtain ⟨q, c, vs, arr, rest, f1, f2, f3, f4, _, f6, _⟩ := hb _ hg
        have hx := hsl.ev (by simp) hv
        simp only [den, f1, Option.map_some, Option.some.injEq] at hx
        have hlt2 : ¬ arr.size ≤ off := by
          have := congrArg List.length f6
          have := dens_len f4
          simp at *; omega
        refine ⟨.pointer (some ⟨q, off, none⟩), hex a w w _ ?_, by simp [den, f1]⟩
        rw [← hx]
        have hsh : w.shape? q = some (ty, arr.size) := by simp [World.shape?, f2]
        simp [convert, run_underlying hd1, run_underlying hd2, Conv.unsafePointer, Conv.seenAt, viewAt, cellsIn, shape, Sem.run, hsh, ok.size, hsz, hlt2]
      · exact Yl.no
    · exact Yl.no
  · rename_i t h1 h2
    obtain ⟨d1, hd1, k1⟩ := kindT_ok h1 (by simp)
    obtain ⟨d2, hd2, k2⟩ := kindT_ok h2 (by simp)
    rw [tk_upt k1] at hd1
    rw [tk_ptr k2] at hd2
    refine Yl.pure _ (OpOk.pure hs fun a w θ hsl => ?_)
    rw [hop] at hsl
    have hx : a.eval x = .pointer none := (Option.some.inj (hsl.ev (by simp) hv)).symm
    exact ⟨.pointer none, hex a w w _ (by rw [hx]; simp [convert, run_underlying hd1, run_underlying hd2, Conv.unsafePointer]), rfl⟩
  · rename_i u g off h1 h2
    obtain ⟨d1, hd1, k1⟩ := kindT_ok h1 (by simp)
    obtain ⟨d2, hd2, k2⟩ := kindT_ok h2 (by simp)
    rw [tk_upt k1] at hd1
    rw [tk_ptr k2] at hd2
    split
    · rename_i e cs hg
      split
      · rename_i y hy
        obtain ⟨ok⟩ := mkTy_ok hy
        split
        · rename_i hc
          rw [lenC0] at hc
          refine Yl.pure _ (OpOk.read hs fun a w θ hsl hb => ?_)
          rw [hop] at hsl
          obtain ⟨q, c, vs, arr, rest, f1, f2, f3, f4, _, f6, f7⟩ := hb _ hg
          have hx := hsl.ev (by simp) hv
          simp only [den, f1, Option.map_some, Option.some.injEq] at hx
          have hr : rest = [] := f7 rfl
          subst hr
          have hsz : arr.size = cs.length := by
            have := congrArg List.length f6
            have := dens_len f4
            simp at *; omega
          rw [← hsz] at hc
          refine ⟨.pointer (some ⟨q, off, none⟩), hex a w w _ ?_, by simp [den, f1]⟩
          rw [← hx]
          have hsh : w.shape? q = some (e, arr.size) := by simp [World.shape?, f2]
          have hva : (variablesAt ⟨q, off, none⟩ u 1).run P w = .ok true w := by
            simp [variablesAt, hsh, hc]
          simp [convert, run_underlying hd1, run_underlying hd2, Conv.unsafePointer, Conv.seenAt, viewAt, hsh, ok.size, hva]
        · exact Yl.no
      · exact Yl.no
    · exact Yl.no
  · exact Yl.no
end
end X
end Go.Proofs.YtebfahobllghnaaGreatDoor
