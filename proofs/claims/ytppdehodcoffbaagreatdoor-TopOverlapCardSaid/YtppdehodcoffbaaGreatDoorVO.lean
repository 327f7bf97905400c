/-
  Maps; lengths, least and greatest. Over any program.
-/
import Derived.Test.YtppdehodcoffbaaGreatDoorVN
set_option linter.unusedSimpArgs false
set_option linter.unusedVariables false
namespace Go.Proofs.YtppdehodcoffbaaGreatDoor
namespace X
open Go.RowKit B

section
variable {P : Program} {ρ : Rho} {o : Oper} {s : Tr SV} {m : Mem} {nx : Nat} {pc : PC} {a : Act} {w w' : World} {θ : Th}
theorem zeroT_yl {t : Nat} : Yl (zeroT P t) fun z => ∃ u, (∀ θ, den ρ θ z = some u) ∧ ∀ w, (zeroValue t).run P w = .ok u w := by
  unfold zeroT
  split
  · rename_i y hy
    obtain ⟨ok⟩ := mkTy_ok hy
    have hz := fun θ => (cstL_ok (ρ := ρ) (θ := θ) ok.zs).1
    have hag : y.agg = isAggV ok.z := by rw [ok.agg, ok.za]
    split
    · rename_i h
      refine Yl.pure _ ⟨ok.z, fun θ => ?_, ok.zero⟩
      rw [h] at hag
      cases hzz : ok.z with
      | agg cs =>
        have := hz θ
        rw [hzz] at this
        simp only [den, this, Option.map_some]
        simp [Value.cells]
      | _ => rw [hzz] at hag; simp [isAggV] at hag
    · rename_i h
      refine Yl.mono nthC_yl fun v hv => ⟨ok.z, fun θ => ?_, ok.zero⟩
      rw [h] at hag
      have hc : ok.z.cells = #[ok.z] := by
        cases hzz : ok.z with
        | agg cs => rw [hzz] at hag; simp [isAggV] at hag
        | _ => rfl
      have := hz θ
      rw [hc] at this
      obtain ⟨u, h1, h2⟩ := dens_get this hv
      simp at h1
      rw [h1]; exact h2
  · exact Yl.no
/-- kinds of keys that compare at once -/
def KeyD (d : TypeDesc) (x : SV) : Prop := (∃ j k n, d = .int j ∧ x = .i k n) ∨ (∃ l, d = .string ∧ x = .s l)
theorem mapT_ok {t e : Nat} {k : SV} (h : mapT P t k = some e) : ∃ kt d, P.underlying t = some (.map kt e) ∧ P.underlying kt = some d ∧ KeyD d k := by
  unfold mapT at h
  split at h
  · rename_i kt e' hk
    obtain ⟨d, hd, hk'⟩ := kindT_ok hk (by simp)
    rw [tk_map hk'] at hd
    split at h
    · rename_i j i n hk2
      cases h
      obtain ⟨d2, hd2, hk2'⟩ := kindT_ok hk2 (by simp)
      rw [tk_int hk2'] at hd2
      exact ⟨kt, _, hd, hd2, .inl ⟨_, _, _, rfl, rfl⟩⟩
    · rename_i l hk2
      cases h
      obtain ⟨d2, hd2, hk2'⟩ := kindT_ok hk2 (by simp)
      rw [tk_str hk2'] at hd2
      exact ⟨kt, _, hd, hd2, .inr ⟨_, rfl, rfl⟩⟩
    · cases h
  · cases h
theorem bstr_beq {a b : Str} (ha : knownS a = true) (hb : knownS b = true) : (bstr (denS ρ a) == bstr (denS ρ b)) = eqStr a b := by
  have h1 : (bstr (denS ρ a) == bstr (denS ρ b)) = decide (denS ρ a = denS ρ b) := by
    have h0 : (bstr (denS ρ a) == bstr (denS ρ b)) = ((bstr (denS ρ a)).data == (bstr (denS ρ b)).data) := rfl
    rw [h0, Bool.eq_iff_iff, beq_iff_eq, decide_eq_true_eq]
    simp [bstr]
  rw [h1, Bool.eq_iff_iff, decide_eq_true_eq]
  exact ⟨known_ne ha hb, fun h => by rw [eqStr_ok h]⟩
theorem keyEq_ok {d : TypeDesc} {x k : SV} {r : Bool} {u v : Value} (hd : KeyD d x) (h : keyEq x k = some r) (hu : den ρ θ x = some u) (hv : den ρ θ k = some v) : Instr.sameNow d u v = some r ∧ (r = true → ∀ n, Instr.sameBits (n + 1) v u = true) := by
  unfold keyEq at h
  split at h
  · rename_i i p j q
    split at h
    · rename_i hij
      have hij := ikEq_iff.1 hij
      subst hij
      cases h; cases hu; cases hv
      rcases hd with ⟨j', k', n, rfl, _⟩ | ⟨l, _, h2⟩
      · refine ⟨by simp only [Instr.sameNow, if_true, Option.some.injEq]; rw [eqI_eq]; rfl, fun hr n => ?_⟩
        have := eqI_iff.1 hr
        subst this
        simp [Instr.sameBits]
      · cases h2
    · cases h
  · rename_i p q
    split at h
    · rename_i hk
      simp only [Bool.and_eq_true] at hk
      cases h; cases hu; cases hv
      rcases hd with ⟨j', k', n, _, h2⟩ | ⟨l, rfl, _⟩
      · cases h2
      · refine ⟨by simp only [Instr.sameNow]; rw [bstr_beq hk.1 hk.2], fun hr n => ?_⟩
        have := bstr_beq (ρ := ρ) hk.2 hk.1
        simp only [Instr.sameBits, this]
        rw [eqStr_ok hr]
        exact known_ne (ρ := ρ) hk.2 hk.2 rfl
    · cases h
  · cases h
theorem findK_yl {d : TypeDesc} {x : SV} (hd : KeyD d x) : ∀ {es : List (SV × SV × Nat)}, Yl (findK es x) fun r => ∀ (θ : Th) (xs : List MapEntry) (u : Value), denE ρ θ es = some xs → den ρ θ x = some u → ∀ i, (match r with
    | some v => ∃ j val, Instr.findNow d u xs i = some (some (j, val)) ∧ den ρ θ v = some val
    | none => Instr.findNow d u xs i = some none)
  | [] => Yl.pure none fun θ xs u h _ i => by cases h; rfl
  | (k, v, n) :: es => by
    have e0 : findK ((k, v, n) :: es) x = fun K => match keyEq x k with
      | some true => K (some v)
      | some false => findK es x K
      | none => false := rfl
    rw [e0]
    have open1 : ∀ {θ : Th} {xs : List MapEntry}, denE ρ θ ((k, v, n) :: es) = some xs → ∃ kv vv xs', xs = ⟨kv, vv, n⟩ :: xs' ∧ den ρ θ k = some kv ∧ den ρ θ v = some vv ∧ denE ρ θ es = some xs' := fun h => by
      simp only [denE, Option.bind_eq_some_iff, Option.map_eq_some_iff] at h
      obtain ⟨a, h1, b, h2, es', h3, rfl⟩ := h
      exact ⟨a, b, es', rfl, h1, h2, h3⟩
    split
    · rename_i h
      refine Yl.pure _ fun θ xs u hx hu i => ?_
      obtain ⟨kv, vv, xs', rfl, h1, h2, h3⟩ := open1 hx
      have := (keyEq_ok hd h hu h1).1
      exact ⟨i, vv, by simp only [Instr.findNow, this], h2⟩
    · rename_i h
      refine Yl.mono (findK_yl hd (es := es)) fun r hr θ xs u hx hu i => ?_
      obtain ⟨kv, vv, xs', rfl, h1, h2, h3⟩ := open1 hx
      have h4 := (keyEq_ok hd h hu h1).1
      have := hr θ xs' u h3 hu (i + 1)
      simp only [Instr.findNow, h4]
      cases r <;> exact this
    · exact Yl.no
theorem checkKey_ok1 {b : Bool} {kt n : Nat} {d : TypeDesc} {k : SV} {u : Value} (hkt : P.underlying kt = some d) (hd : KeyD d k) (hu : den ρ θ k = some u) : (Instr.checkKey b (n + 1) kt u).run P w = .ok () w := by
  rcases hd with ⟨j, i, n, rfl, rfl⟩ | ⟨l, rfl, rfl⟩
  · cases hu; simp [Instr.checkKey, run_underlying hkt]
  · cases hu; simp [Instr.checkKey, run_underlying hkt]
theorem checkKey_ok {b : Bool} {kt : Nat} {d : TypeDesc} {k : SV} {u : Value} (hkt : P.underlying kt = some d) (hd : KeyD d k) (hu : den ρ θ k = some u) : (Instr.checkKey b 10000 kt u).run P w = .ok () w := checkKey_ok1 (n := 9999) hkt hd hu
theorem findKey_ok {kt : Nat} {d : TypeDesc} {u : Value} {xs : List MapEntry} {r : Option (Nat × Value)} (hkt : P.underlying kt = some d) (h : Instr.findNow d u xs 0 = some r) : (Instr.findKey kt u xs).run P w = .ok r w := by
  simp [Instr.findKey, run_underlying hkt, h]
theorem getObj_ok {g : Nat} {arr : Array MapEntry} {ck : Nat} (h : w.heap[g]? = some (.map arr ck)) : (getObj g).run P w = .ok (.map arr ck) w := by
  simp [getObj, Sem.run, h]
theorem opLookup_yl {t : Nat} {x y : Operand} {ok : Bool} (hs : Sat ρ pc) (ho : o.op = .lookup t x y ok) : Yl (fun K => opLookup P s m nx pc t x y ok fun v m nx pc ft => K ⟨v, m, nx, pc, ft⟩) (OpOk P ρ o s m nx) := by
  have hop : o.op.operands.toList = [x, y] := by simp [ho, Op.operands]
  unfold opLookup
  refine Yl.bind (evO_yl (ρ := ρ)) fun v hv => Yl.bind (evO_yl (ρ := ρ)) fun k hk => ?_
  split
  · rename_i e hm
    obtain ⟨kt, d, h1, h2, h3⟩ := mapT_ok hm
    split
    · refine Yl.bind (zeroT_yl (ρ := ρ)) fun z hz => ?_
      obtain ⟨zu, hz1, hz2⟩ := hz
      have run : ∀ (a : Act) (w : World) (θ : Th), SlOk ρ s θ a o.op.operands.toList → Runs P a o w (if ok = true then .tuple #[zu, .bool false] else zu) := fun a w θ hsl => by
        rw [hop] at hsl
        have hx : a.eval x = .map none := (Option.some.inj (hsl.ev (by simp) hv)).symm
        have hy := hsl.ev (by simp) hk
        have c1 := checkKey_ok (P := P) (w := w) (b := true) h2 h3 hy
        have c2 := findKey_ok (P := P) (w := w) (u := a.eval y) (xs := []) h2 rfl
        simp [Runs, execOp, ho, hx, Instr.lookup, run_underlying h1, c1, c2, hz2]
      split
      · exact Yl.pure _ (OpOk.pure hs fun a w θ hsl => ⟨_, by simpa using run a w θ hsl, by simp [den, dens, hz1]⟩)
      · exact Yl.pure _ (OpOk.pure hs fun a w θ hsl => ⟨_, by simpa using run a w θ hsl, hz1 θ⟩)
    · rename_i g
      split
      · rename_i es ck hg
        refine Yl.bind (findK_yl (ρ := ρ) h3) fun r hr => ?_
        have run : ∀ (a : Act) (w : World) (θ : Th) (hsl : SlOk ρ s θ a o.op.operands.toList) (hb : ∀ b, m.get g = some b → HoldsB ρ θ w g b), ∃ (c : Nat × Nat) (arr : Array MapEntry), a.eval x = .map (some c.1) ∧ (getObj c.1).run P w = .ok (.map arr ck) w ∧ (Instr.checkKey arr.isEmpty 10000 kt (a.eval y)).run P w = .ok () w ∧
            (match r with
              | some v => ∃ j val, (Instr.findKey kt (a.eval y) arr.toList).run P w = .ok (some (j, val)) w ∧ den ρ θ v = some val
              | none => (Instr.findKey kt (a.eval y) arr.toList).run P w = .ok none w) := fun a w θ hsl hb => by
          rw [hop] at hsl
          obtain ⟨g', c, arr, e1, e2, e3⟩ := hb _ hg
          have hx := hsl.ev (by simp) hv
          simp only [den, e1, Option.map_some, Option.some.injEq] at hx
          have hy := hsl.ev (by simp) hk
          refine ⟨(g', c), arr, hx.symm, getObj_ok e2, checkKey_ok h2 h3 hy, ?_⟩
          have := hr θ _ _ e3 hy 0
          cases r with
          | some v => obtain ⟨j, val, q1, q2⟩ := this; exact ⟨j, val, findKey_ok h2 q1, q2⟩
          | none => exact findKey_ok h2 this
        split
        · rename_i u
          split
          · refine Yl.pure _ (OpOk.read hs fun a w θ hsl hb => ?_)
            obtain ⟨c, arr, r1, r2, r3, j, val, r4, r5⟩ := run a w θ hsl hb
            exact ⟨.tuple #[val, .bool true], by simp [Runs, execOp, ho, r1, Instr.lookup, run_underlying h1, r2, r3, r4], by simp [den, dens, r5]⟩
          · refine Yl.pure _ (OpOk.read hs fun a w θ hsl hb => ?_)
            obtain ⟨c, arr, r1, r2, r3, j, val, r4, r5⟩ := run a w θ hsl hb
            exact ⟨val, by simp [Runs, execOp, ho, r1, Instr.lookup, run_underlying h1, r2, r3, r4], r5⟩
        · refine Yl.bind (zeroT_yl (ρ := ρ)) fun z hz => ?_
          obtain ⟨zu, hz1, hz2⟩ := hz
          split
          · refine Yl.pure _ (OpOk.read hs fun a w θ hsl hb => ?_)
            obtain ⟨c, arr, r1, r2, r3, r4⟩ := run a w θ hsl hb
            exact ⟨.tuple #[zu, .bool false], by simp [Runs, execOp, ho, r1, Instr.lookup, run_underlying h1, r2, r3, r4, hz2], by simp [den, dens, hz1]⟩
          · refine Yl.pure _ (OpOk.read hs fun a w θ hsl hb => ?_)
            obtain ⟨c, arr, r1, r2, r3, r4⟩ := run a w θ hsl hb
            exact ⟨zu, by simp [Runs, execOp, ho, r1, Instr.lookup, run_underlying h1, r2, r3, r4, hz2], hz1 θ⟩
      · exact Yl.no
    · exact Yl.no
  · exact Yl.no

/-! ### Maps that are turned -/
theorem putK_yl {d : TypeDesc} {x y : SV} {ck : Nat} (hd : KeyD d x) : ∀ {es : List (SV × SV × Nat)}, Yl (fun K => putK es x y ck fun es ck => K (es, ck)) fun r => ∀ (θ : Th) (xs : List MapEntry) (u v : Value), denE ρ θ es = some xs → den ρ θ x = some u → den ρ θ y = some v → ∀ i,
    (∃ j val old, Instr.findNow d u xs i = some (some (i + j, val)) ∧ xs[j]? = some old ∧ (∀ n, Instr.sameBits (n + 1) old.key u = true) ∧ r.2 = ck ∧ denE ρ θ r.1 = some (xs.modify j fun e => { e with key := u, val := v })) ∨
    (Instr.findNow d u xs i = some none ∧ r.2 = ck + 1 ∧ denE ρ θ r.1 = some (xs ++ [⟨u, v, ck⟩]))
  | [] => Yl.pure ([(x, y, ck)], ck + 1) fun θ xs u v h hu hv i => by
    cases h
    exact .inr ⟨rfl, rfl, by simp [denE, hu, hv]⟩
  | (k, v0, n) :: es => by
    have e0 : (fun K : List (SV × SV × Nat) × Nat → Bool => putK ((k, v0, n) :: es) x y ck fun es ck => K (es, ck)) = fun K => match keyEq x k with
      | some true => K ((x, y, n) :: es, ck)
      | some false => putK es x y ck fun r c => K ((k, v0, n) :: r, c)
      | none => false := rfl
    rw [e0]
    have open1 : ∀ {θ : Th} {xs : List MapEntry}, denE ρ θ ((k, v0, n) :: es) = some xs → ∃ kv vv xs', xs = ⟨kv, vv, n⟩ :: xs' ∧ den ρ θ k = some kv ∧ den ρ θ v0 = some vv ∧ denE ρ θ es = some xs' := fun h => by
      simp only [denE, Option.bind_eq_some_iff, Option.map_eq_some_iff] at h
      obtain ⟨a, h1, b, h2, es', h3, rfl⟩ := h
      exact ⟨a, b, es', rfl, h1, h2, h3⟩
    split
    · rename_i h
      refine Yl.pure ((x, y, n) :: es, ck) fun θ xs u v hx hu hv i => ?_
      obtain ⟨kv, vv, xs', rfl, h1, h2, h3⟩ := open1 hx
      obtain ⟨q1, q2⟩ := keyEq_ok hd h hu h1
      exact .inl ⟨0, vv, _, by simp only [Instr.findNow, q1, Nat.add_zero], rfl, q2 rfl, rfl, by simp [denE, hu, hv, h3]⟩
    · rename_i h
      refine Yl.map (fun r : List (SV × SV × Nat) × Nat => ((k, v0, n) :: r.1, r.2)) (putK_yl hd (es := es)) fun r hr => ?_
      intro θ xs u v hx hu hv i
      obtain ⟨kv, vv, xs', rfl, h1, h2, h3⟩ := open1 hx
      have q1 := (keyEq_ok hd h hu h1).1
      rcases hr θ xs' u v h3 hu hv (i + 1) with ⟨j, val, old, g1, g2, g3, g4, g5⟩ | ⟨g1, g2, g3⟩
      · refine .inl ⟨j + 1, val, old, ?_, by simpa using g2, g3, g4, ?_⟩
        · simp only [Instr.findNow, q1]
          rw [g1, show i + 1 + j = i + (j + 1) by omega]
        · simp [denE, h1, h2, g5]
      · refine .inr ⟨?_, g2, ?_⟩
        · simp only [Instr.findNow, q1]; exact g1
        · simp [denE, h1, h2, g3]
    · exact Yl.no
theorem delK_yl {d : TypeDesc} {x : SV} (hd : KeyD d x) : ∀ {es : List (SV × SV × Nat)}, Yl (delK es x) fun r => ∀ (θ : Th) (xs : List MapEntry) (u : Value), denE ρ θ es = some xs → den ρ θ x = some u → ∀ i,
    (∃ j val, Instr.findNow d u xs i = some (some (i + j, val)) ∧ denE ρ θ r = some (xs.eraseIdx j) ∧ j < xs.length) ∨ (Instr.findNow d u xs i = some none ∧ denE ρ θ r = some xs)
  | [] => Yl.pure [] fun θ xs u h hu i => by
    cases h
    exact .inr ⟨rfl, rfl⟩
  | (k, v0, n) :: es => by
    have e0 : delK ((k, v0, n) :: es) x = fun K => match keyEq x k with
      | some true => K es
      | some false => delK es x fun r => K ((k, v0, n) :: r)
      | none => false := rfl
    rw [e0]
    have open1 : ∀ {θ : Th} {xs : List MapEntry}, denE ρ θ ((k, v0, n) :: es) = some xs → ∃ kv vv xs', xs = ⟨kv, vv, n⟩ :: xs' ∧ den ρ θ k = some kv ∧ den ρ θ v0 = some vv ∧ denE ρ θ es = some xs' := fun h => by
      simp only [denE, Option.bind_eq_some_iff, Option.map_eq_some_iff] at h
      obtain ⟨a, h1, b, h2, es', h3, rfl⟩ := h
      exact ⟨a, b, es', rfl, h1, h2, h3⟩
    split
    · rename_i h
      refine Yl.pure _ fun θ xs u hx hu i => ?_
      obtain ⟨kv, vv, xs', rfl, h1, h2, h3⟩ := open1 hx
      have q1 := (keyEq_ok hd h hu h1).1
      exact .inl ⟨0, vv, by simp only [Instr.findNow, q1, Nat.add_zero], h3, by simp⟩
    · rename_i h
      refine Yl.map _ (delK_yl hd (es := es)) fun r hr => ?_
      intro θ xs u hx hu i
      obtain ⟨kv, vv, xs', rfl, h1, h2, h3⟩ := open1 hx
      have q1 := (keyEq_ok hd h hu h1).1
      rcases hr θ xs' u h3 hu (i + 1) with ⟨j, val, g1, g2, g3⟩ | ⟨g1, g2⟩
      · refine .inl ⟨j + 1, val, ?_, by simp [denE, h1, h2, g2], by simpa using g3⟩
        simp only [Instr.findNow, q1]
        rw [g1, show i + 1 + j = i + (j + 1) by omega]
      · refine .inr ⟨?_, by simp [denE, h1, h2, g2]⟩
        simp only [Instr.findNow, q1]; exact g1
    · exact Yl.no
/-- a map's block turned -/
theorem setObj_ok {g c ck ck' : Nat} {arr arr' : Array MapEntry} {t : Nat} {es : List (SV × SV × Nat)} (hg : θ t = some (g, c)) (h : w.heap[g]? = some (.map arr ck)) (he : denE ρ θ es = some arr'.toList) :
    ∃ w', (∀ P, (setObj g (.map arr' ck')).run P w = .ok () w') ∧ Ext (fun k => k = g) w w' ∧ HoldsB ρ θ w' t (.mp es ck') := by
  have hlt : g < w.heap.size := (Array.getElem?_eq_some_iff.1 h).1
  refine ⟨{ w with heap := w.heap.setIfInBounds g (.map arr' ck') }, fun P => by simp [setObj, Sem.run, h], ⟨rfl, rfl, rfl, by simp, fun k hk hn => ?_⟩, g, c, arr', hg, ?_, he⟩
  · simp [Array.getElem?_setIfInBounds, Ne.symm hn]
  · simp [Array.getElem?_setIfInBounds, hlt]
theorem opUpdate_yl {t : Nat} {x y z : Operand} (hs : Sat ρ pc) (ho : o.op = .mapUpdate t x y z ∨ o.op = .insert t x y z) : Yl (fun K => opUpdate P s m nx pc t x y z fun v m nx pc ft => K ⟨v, m, nx, pc, ft⟩) (OpOk P ρ o s m nx) := by
  have hop : o.op.operands.toList = [x, y, z] := by rcases ho with ho | ho <;> simp [ho, Op.operands]
  have hex : ∀ (a : Act) (w w' : World), (Instr.mapUpdate t (a.eval x) (a.eval y) (a.eval z)).run P w = .ok () w' → (execOp a.eval o).run P w = .ok .skip w' := fun a w w' h => by
    rcases ho with ho | ho <;> simp [execOp, ho, h]
  unfold opUpdate
  refine Yl.bind (evO_yl (ρ := ρ)) fun v hv => Yl.bind (evO_yl (ρ := ρ)) fun k hk => Yl.bind (evO_yl (ρ := ρ)) fun u hu => ?_
  split
  · rename_i e hm
    obtain ⟨kt, d, h1, h2, h3⟩ := mapT_ok hm
    split
    · rename_i g
      split
      · rename_i es ck hg
        refine Yl.bind2 (putK_yl (ρ := ρ) (y := u) (ck := ck) h3) fun es' ck' hp => ?_
        refine Yl.map (fun m' => (⟨.un, m', nx, pc, .w [g]⟩ : O5)) set_yl fun m' hm' => OpOk.turn hs (List.mem_singleton.2 rfl) hg hm' fun a w θ hsl hb => ?_
        rw [hop] at hsl
        obtain ⟨g', c, arr, e1, e2, e3⟩ := hb g (by simp) _ hg
        have hx := hsl.ev (by simp) hv
        simp only [den, e1, Option.map_some, Option.some.injEq] at hx
        have hy := hsl.ev (by simp) hk
        have hz := hsl.ev (by simp) hu
        have c1 := checkKey_ok (P := P) (w := w) (b := false) h2 h3 hy
        rcases hp θ _ _ _ e3 hy hz 0 with ⟨j, val, old, q1, q2, q3, q4, q5⟩ | ⟨q1, q2, q3⟩
        · simp only at q4 q5
          obtain ⟨w', k1, k2, k3⟩ := setObj_ok (ρ := ρ) (θ := θ) (es := es') (ck' := ck') (arr' := arr.modify j fun e => { e with key := a.eval y, val := a.eval z }) e1 e2 (by rw [q5, Array.toList_modify])
          refine ⟨undef, w', g', c, .inr ⟨hex a w w' ?_, rfl⟩, e1, k2, k3, rfl⟩
          rw [Nat.zero_add] at q1
          have c2 := findKey_ok (P := P) (w := w) h2 q1
          have c3 : arr[j]? = some old := by rw [← Array.getElem?_toList]; exact q2
          rw [q4] at k1
          simp [Instr.mapUpdate, run_underlying h1, ← hx, getObj_ok e2, c1, c2, c3, Instr.keyThatStays, q3, k1 P]
        · simp only at q2 q3
          obtain ⟨w', k1, k2, k3⟩ := setObj_ok (ρ := ρ) (θ := θ) (es := es') (ck' := ck') (arr' := arr.push ⟨a.eval y, a.eval z, ck⟩) e1 e2 (by rw [q3]; simp)
          refine ⟨undef, w', g', c, .inr ⟨hex a w w' ?_, rfl⟩, e1, k2, k3, rfl⟩
          have c2 := findKey_ok (P := P) (w := w) h2 q1
          rw [q2] at k1
          simp [Instr.mapUpdate, run_underlying h1, ← hx, getObj_ok e2, c1, c2, k1 P]
      · exact Yl.no
    · exact Yl.no
  · exact Yl.no
theorem opDelete_yl {t : Nat} {x y : Operand} {ts : List Nat} (hs : Sat ρ pc) (ho : o.op = .call { callee := .builtin .delete, args := #[x, y], argTypes := (t :: ts).toArray }) : Yl (fun K => opDelete P s m nx pc t x y fun v m nx pc ft => K ⟨v, m, nx, pc, ft⟩) (OpOk P ρ o s m nx) := by
  have hop : o.op.operands.toList = [x, y] := by simp [ho, Op.operands, Call.operands]
  have hex : ∀ (a : Act) (w w' : World) (v : Value), (Builtin.delete_ (t :: ts).toArray o.type #[a.eval x, a.eval y]).run P w = .ok v w' → (execOp a.eval o).run P w = .ok (.value v) w' := fun a w w' v h => by
    simp [execOp, ho, resolve, invoke, builtin, h]
  unfold opDelete
  refine Yl.bind (evO_yl (ρ := ρ)) fun v hv => Yl.bind (evO_yl (ρ := ρ)) fun k hk => ?_
  split
  · rename_i e hm
    obtain ⟨kt, d, h1, h2, h3⟩ := mapT_ok hm
    split
    · refine Yl.pure _ (OpOk.pure hs fun a w θ hsl => ⟨.tuple #[], hex a w w _ ?_, rfl⟩)
      rw [hop] at hsl
      have hx : a.eval x = .map none := (Option.some.inj (hsl.ev (by simp) hv)).symm
      have c1 := checkKey_ok (P := P) (w := w) (b := true) h2 h3 (hsl.ev (by simp) hk)
      simp [Builtin.delete_, run_underlying h1, hx, c1]
    · rename_i g
      split
      · rename_i es ck hg
        refine Yl.bind (delK_yl (ρ := ρ) h3) fun es' hp => ?_
        refine Yl.map (fun m' => (⟨.tu [], m', nx, pc, .w [g]⟩ : O5)) set_yl fun m' hm' => OpOk.turn hs (List.mem_singleton.2 rfl) hg hm' fun a w θ hsl hb => ?_
        rw [hop] at hsl
        obtain ⟨g', c, arr, e1, e2, e3⟩ := hb g (by simp) _ hg
        have hx := hsl.ev (by simp) hv
        simp only [den, e1, Option.map_some, Option.some.injEq] at hx
        have hy := hsl.ev (by simp) hk
        have c1 := fun b => checkKey_ok (P := P) (w := w) (b := b) h2 h3 hy
        rcases hp θ _ _ e3 hy 0 with ⟨j, val, q1, q2, q3⟩ | ⟨q1, q2⟩
        · obtain ⟨w', k1, k2, k3⟩ := setObj_ok (ρ := ρ) (θ := θ) (es := es') (ck' := ck) (arr' := arr.eraseIdxIfInBounds j) e1 e2 (by
            rw [q2]
            have : j < arr.size := by simpa using q3
            simp [Array.eraseIdxIfInBounds, this])
          refine ⟨.tuple #[], w', g', c, .inl (hex a w w' _ ?_), e1, k2, k3, rfl⟩
          rw [Nat.zero_add] at q1
          have c2 := findKey_ok (P := P) (w := w) h2 q1
          simp [Builtin.delete_, run_underlying h1, ← hx, getObj_ok e2, c1, c2, k1 P]
        · obtain ⟨w', k1, k2, k3⟩ := setObj_ok (ρ := ρ) (θ := θ) (es := es') (ck' := ck) (arr' := arr) e1 e2 q2
          refine ⟨.tuple #[], w', g', c, .inl (hex a w w' _ ?_), e1, k2, k3, rfl⟩
          have c2 := findKey_ok (P := P) (w := w) h2 q1
          simp [Builtin.delete_, run_underlying h1, ← hx, getObj_ok e2, c1, c2, k1 P]
      · exact Yl.no
    · exact Yl.no
  · exact Yl.no

/-! ### Lengths, the least and the greatest -/
theorem denE_len : ∀ {l : List (SV × SV × Nat)} {es : List MapEntry}, denE ρ θ l = some es → es.length = l.length
  | [], es, h => by cases h; rfl
  | (k, v, n) :: l, es, h => by
    simp only [denE, Option.bind_eq_some_iff, Option.map_eq_some_iff] at h
    obtain ⟨a, _, b, _, es', h3, rfl⟩ := h
    simp [denE_len h3]
theorem opLen_yl {t : Nat} {x : Operand} (hs : Sat ρ pc) (ho : o.op = .call { callee := .builtin .len, args := #[x], argTypes := #[t] }) : Yl (fun K => opLen s P m nx pc t x fun v m nx pc ft => K ⟨v, m, nx, pc, ft⟩) (OpOk P ρ o s m nx) := by
  have hop : o.op.operands.toList = [x] := by simp [ho, Op.operands, Call.operands]
  have hex : ∀ (a : Act) (w : World) (v : Value), (Builtin.len_ #[t] o.type #[a.eval x]).run P w = .ok v w → Runs P a o w v := fun a w v h => by
    simp [Runs, execOp, ho, resolve, invoke, builtin, h]
  have mp : ∀ {α β : Type} {o : Option α} {f : α → β} {x : β}, o.map f = some x → ∃ y, x = f y := fun h => by
    obtain ⟨y, _, h⟩ := Option.map_eq_some_iff.1 h; exact ⟨y, h.symm⟩
  unfold opLen
  refine Yl.bind (evO_yl (ρ := ρ)) fun v hv => ?_
  split
  · rename_i l hk
    obtain ⟨d, hd, hk'⟩ := kindT_ok hk (by simp)
    rw [tk_str hk'] at hd
    have run : ∀ (a : Act) (w : World) (θ : Th), SlOk ρ s θ a o.op.operands.toList → Runs P a o w (.int .i64 ((denS ρ l).length : Int)) := fun a w θ hsl => by
      rw [hop] at hsl
      have hx : a.eval x = .string (bstr (denS ρ l)) := (Option.some.inj (hsl.ev (by simp) hv)).symm
      exact hex a w _ (by simp [Builtin.len_, hx, run_underlying hd, goInt, bstr_size])
    split
    · rename_i n hn
      have hn := lenN_den (ρ := ρ) hn
      refine Yl.pure _ (OpOk.pure hs fun a w θ hsl => ⟨_, run a w θ hsl, ?_⟩)
      simp only [den, hn, Nat.zero_add]
      rfl
    · exact Yl.pure _ (OpOk.pure hs fun a w θ hsl => ⟨_, run a w θ hsl, by rw [svx_den, lenS_den]⟩)
  · rename_i e hk
    obtain ⟨d, hd, hk'⟩ := kindT_ok hk (by simp)
    rw [tk_slice hk'] at hd
    refine Yl.pure _ (OpOk.pure hs fun a w θ hsl => ⟨.int .i64 0, ?_, rfl⟩)
    rw [hop] at hsl
    have hx : a.eval x = .slice none 0 0 := (Option.some.inj (hsl.ev (by simp) hv)).symm
    exact hex a w _ (by simp [Builtin.len_, hx, run_underlying hd, goInt])
  · rename_i g off n cap e hk
    obtain ⟨d, hd, hk'⟩ := kindT_ok hk (by simp)
    rw [tk_slice hk'] at hd
    refine Yl.pure _ (OpOk.pure hs fun a w θ hsl => ⟨.int .i64 n, ?_, rfl⟩)
    rw [hop] at hsl
    have hx := hsl.ev (by simp) hv
    obtain ⟨q, hx⟩ := mp hx
    exact hex a w _ (by simp [Builtin.len_, hx, run_underlying hd, goInt])
  · rename_i g l e hk
    obtain ⟨d, hd, hk'⟩ := kindT_ok hk (by simp)
    rw [tk_slice hk'] at hd
    refine Yl.pure _ (OpOk.pure hs fun a w θ hsl => ⟨.int .i64 ((denS ρ l).length : Int), ?_, by rw [svx_den, lenS_den]⟩)
    rw [hop] at hsl
    have hx := hsl.ev (by simp) hv
    obtain ⟨q, hx⟩ := mp hx
    exact hex a w _ (by simp [Builtin.len_, hx, run_underlying hd, goInt])
  · rename_i e e' hk
    obtain ⟨d, hd, hk'⟩ := kindT_ok hk (by simp)
    rw [tk_map hk'] at hd
    refine Yl.pure _ (OpOk.pure hs fun a w θ hsl => ⟨.int .i64 0, ?_, rfl⟩)
    rw [hop] at hsl
    have hx : a.eval x = .map none := (Option.some.inj (hsl.ev (by simp) hv)).symm
    exact hex a w _ (by simp [Builtin.len_, hx, run_underlying hd, goInt])
  · rename_i g e e' hk
    obtain ⟨d, hd, hk'⟩ := kindT_ok hk (by simp)
    rw [tk_map hk'] at hd
    split
    · rename_i es ck hg
      refine Yl.map (fun n => (⟨.i .i64 (.ofNat n), m, nx, pc, .r g⟩ : O5)) frn_yl fun n hn => OpOk.read hs fun a w θ hsl hb => ?_
      rw [hop] at hsl
      obtain ⟨g', c, arr, e1, e2, e3⟩ := hb _ hg
      have hx := hsl.ev (by simp) hv
      simp only [den, e1, Option.map_some, Option.some.injEq] at hx
      refine ⟨.int .i64 (arr.size : Int), hex a w _ ?_, ?_⟩
      · simp [Builtin.len_, ← hx, run_underlying hd, getObj_ok e2, goInt]
      · have := denE_len e3
        simp only [den, hn, ← this]
        simp
    · exact Yl.no
  · exact Yl.no
theorem opMM_yl {mx : Bool} {t t' : Nat} {x y : Operand} (hs : Sat ρ pc) (ho : o.op = .call { callee := .builtin (match mx with | true => .max | false => .min), args := #[x, y], argTypes := #[t, t'] }) : Yl (fun K => opMM mx s m nx pc x y fun v m nx pc ft => K ⟨v, m, nx, pc, ft⟩) (OpOk P ρ o s m nx) := by
  have hop : o.op.operands.toList = [x, y] := by simp [ho, Op.operands, Call.operands]
  unfold opMM
  refine Yl.bind (evO_yl (ρ := ρ)) fun va hva => Yl.bind (evO_yl (ρ := ρ)) fun vb hvb => ?_
  -- from two numbers
  have fin : ∀ {k : IntKind} {p q : Int} {v : SV} {pc' : PC}, Sat ρ pc' → (∀ θ : Th, den ρ θ va = some (.int k p)) → (∀ θ : Th, den ρ θ vb = some (.int k q)) → (∀ θ : Th, den ρ θ v = some (.int k (if mx = true then max p q else min p q))) → OpOk P ρ o s m nx ⟨v, m, nx, pc', .n⟩ := by
    intro k p q v pc' hs' h1 h2 h3
    refine OpOk.pure hs' fun a w θ hsl => ⟨_, ?_, h3 θ⟩
    rw [hop] at hsl
    have hx := hsl.ev (by simp) hva
    have hy := hsl.ev (by simp) hvb
    rw [h1] at hx; rw [h2] at hy
    cases mx
    · exact r_min (P := P) ho (Option.some.inj hx).symm (Option.some.inj hy).symm
    · exact r_max (P := P) ho (Option.some.inj hx).symm (Option.some.inj hy).symm
  split
  · rename_i k p j q
    split
    · rename_i h
      have := ikEq_iff.1 h
      subst this
      split
      · rename_i hc
        refine Yl.pure _ (fin hs (fun _ => rfl) (fun _ => rfl) fun θ => ?_)
        rw [beq_iff_eq, leI_eq] at hc
        cases mx <;> simp at hc <;> simp [den] <;> omega
      · rename_i hc
        refine Yl.pure _ (fin hs (fun _ => rfl) (fun _ => rfl) fun θ => ?_)
        rw [leI_eq] at hc
        cases mx <;> simp at hc <;> simp [den] <;> omega
    · exact Yl.no
  · rename_i k p j q
    split
    · rename_i h
      have := ikEq_iff.1 h
      subst this
      refine Yl.bind2 (dec2_yl hs) fun b pc' hb => ?_
      obtain ⟨h1, h2⟩ := hb
      simp only [sub_den] at h1 h2
      split
      · rename_i hc
        refine Yl.pure _ (fin h2 (fun _ => rfl) (fun _ => rfl) fun θ => ?_)
        rw [beq_iff_eq, h1] at hc
        cases mx <;> simp at hc <;> simp [den] <;> omega
      · rename_i hc
        refine Yl.pure _ (fin h2 (fun _ => rfl) (fun _ => rfl) fun θ => ?_)
        rw [h1] at hc
        cases mx <;> simp at hc <;> simp [den] <;> omega
    · exact Yl.no
  · rename_i k p j q
    split
    · rename_i h
      have := ikEq_iff.1 h
      subst this
      refine Yl.bind2 (dec2_yl hs) fun b pc' hb => ?_
      obtain ⟨h1, h2⟩ := hb
      simp only [sub_den, const_den] at h1 h2
      split
      · rename_i hc
        refine Yl.pure _ (fin h2 (fun _ => rfl) (fun _ => rfl) fun θ => ?_)
        rw [beq_iff_eq, h1] at hc
        cases mx <;> simp at hc <;> simp [den] <;> omega
      · rename_i hc
        refine Yl.pure _ (fin h2 (fun _ => rfl) (fun _ => rfl) fun θ => ?_)
        rw [h1] at hc
        cases mx <;> simp at hc <;> simp [den] <;> omega
    · exact Yl.no
  · rename_i k p j q
    split
    · rename_i h
      have := ikEq_iff.1 h
      subst this
      refine Yl.bind2 (dec2_yl hs) fun b pc' hb => ?_
      obtain ⟨h1, h2⟩ := hb
      simp only [sub_den, const_den] at h1 h2
      split
      · rename_i hc
        refine Yl.pure _ (fin h2 (fun _ => rfl) (fun _ => rfl) fun θ => ?_)
        rw [beq_iff_eq, h1] at hc
        cases mx <;> simp at hc <;> simp [den] <;> omega
      · rename_i hc
        refine Yl.pure _ (fin h2 (fun _ => rfl) (fun _ => rfl) fun θ => ?_)
        rw [h1] at hc
        cases mx <;> simp at hc <;> simp [den] <;> omega
    · exact Yl.no
  · exact Yl.no
end
end X
end Go.Proofs.YtppdehodcoffbaaGreatDoor
