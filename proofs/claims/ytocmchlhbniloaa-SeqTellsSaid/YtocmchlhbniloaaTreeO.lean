/-
  Arguments that are trees, as what they are. Over any program.
-/
import Derived.Test.YtocmchlhbniloaaBase8
import Derived.Test.YtocmchlhbniloaaTreeF
set_option linter.unusedSimpArgs false
set_option linter.unusedVariables false
namespace Go.Proofs.Ytocmchlhbniloaa
namespace B
open Go.ChangeShapes Go.WideShapes Go.ChangeAt Go.RowKit
section
variable {P : Program} {W : World} {H : Type} {enc : TypeId × Value → H} {base : Nat} {spare : Nat → Bool} {held : Bool}
/-- a slice that was read, as a list; of each element what its reading tells -/
theorem sl_of {α : Type} [Inhabited α] {E : Enc α} {t e : TypeId} (ht : P.underlying t = some (.slice e)) (hC : P.cellsOf e = E.sz) {Q : α → Prop} {fuel : Nat} {cs : List Value} {y : DataW H × List MemPlace}
    (hE : ∀ n < fuel, ∀ cs y, DataW.trod enc P W base spare held n e cs = some y → ∃ x : α, cs = E.cells x ∧ Q x) (h : DataW.trod enc P W base spare held fuel t cs = some y) : ∃ (s : Sv) (xs : List α), cs = [s.v] ∧ SlT E W s.v xs ∧ ∀ x ∈ xs, Q x := by
  rcases DataW.trod_slice ht h with ⟨rfl, _⟩ | ⟨a, len, cap, elems, rest, n, hn, rfl, _, hb, hl, hm, hlen, hel, _, _⟩
  · exact ⟨Sv.nil, [], rfl, SlT.nil _ _, fun x hx => by cases hx⟩
  · have each : ∀ i, i < len → ∃ x : α, W.cells? base (a.add (i * P.cellsOf e)) (P.cellsOf e) = some (E.cells x) ∧ Q x := by
      intro i hi
      have key := hel i hi
      rw [List.getElem?_eq_getElem (by omega)] at key
      obtain ⟨cs', h1, h2⟩ := Option.bind_eq_some_iff.1 key
      obtain ⟨x, rfl, hq⟩ := hE n (by omega) _ _ h2
      exact ⟨x, h1, hq⟩
    obtain ⟨X, hX⟩ := Deep.choose_lt each
    refine ⟨⟨some a, len, cap⟩, (List.range len).map X, rfl, ⟨.inr ⟨a, cap, by simp [Sv.v], by simpa using hl, hm⟩, fun j u hj => ?_⟩, fun x hx => ?_⟩
    · have hlen2 : j < len * E.sz := by
        have := (List.getElem?_eq_some_iff.1 hj).1
        rw [E.row_length] at this
        simpa using this
      have hi : j / E.sz < len := Nat.div_lt_of_lt_mul (by rw [Nat.mul_comm]; exact hlen2)
      have hr : j % E.sz < E.sz := Nat.mod_lt _ E.pos
      have hj' : j = j / E.sz * E.sz + j % E.sz := by rw [Nat.mul_comm]; exact (Nat.div_add_mod j E.sz).symm
      have hx' : ((List.range len).map X)[j / E.sz]? = some (X (j / E.sz)) := by simp [hi]
      rw [hj', E.row_get hx' hr] at hj
      obtain ⟨_, _, hc⟩ := World.cells?_some (hX _ hi).1
      rw [hC] at hc
      have := hc (j % E.sz) hr
      rw [hj] at this
      rw [hj', ← add_add]
      exact this
    · obtain ⟨i, hi, rfl⟩ := List.mem_map.1 hx
      exact (hX i (by simpa using hi)).2
theorem eight {α : Type} {cs : List α} (h : cs.length = 8) : ∃ c0 c1 c2 c3 c4 c5 c6 c7, cs = [c0, c1, c2, c3, c4, c5, c6, c7] := by
  match cs, h with
  | [c0, c1, c2, c3, c4, c5, c6, c7], _ => exact ⟨c0, c1, c2, c3, c4, c5, c6, c7, rfl⟩
/-- the type of trees, in a program -/
structure IsTree (P : Program) (t : TypeId) : Prop where
  ex : ∃ ti ts tb tr er : TypeId, ∃ f0 f1 f2 f3 f4 f5 f6 f7 : Field, P.underlying t = some (.struct #[f0, f1, f2, f3, f4, f5, f6, f7]) ∧
    (f0.offset = 0 ∧ f1.offset = 1 ∧ f2.offset = 2 ∧ f3.offset = 3 ∧ f4.offset = 4 ∧ f5.offset = 5 ∧ f6.offset = 6 ∧ f7.offset = 7) ∧
    (f0.type = ti ∧ f1.type = ts ∧ f2.type = tb ∧ f3.type = tr ∧ f4.type = ti ∧ f5.type = ti ∧ f6.type = tb) ∧
    (P.cellsOf ti = 1 ∧ P.cellsOf ts = 1 ∧ P.cellsOf tb = 1 ∧ P.cellsOf tr = 1 ∧ P.cellsOf f7.type = 1) ∧
    P.underlying ti = some (.int .i64) ∧ P.underlying ts = some .string ∧ P.underlying tb = some .bool ∧ P.underlying tr = some (.slice er) ∧ P.cellsOf er = 2 ∧ Reads P er RowE ∧ P.underlying f7.type = some (.slice t) ∧ P.cellsOf t = 8
theorem tree_of {t : TypeId} (ht : IsTree P t) : ∀ (m fuel : Nat), fuel ≤ m → ∀ (cs : List Value) (y : DataW H × List MemPlace), DataW.trod enc P W base spare held fuel t cs = some y → ∃ tr : Tr, cs = TrE.cells tr ∧ TrS W tr := by
  obtain ⟨ti, ts, tb, tr, er, f0, f1, f2, f3, f4, f5, f6, f7, hu, ⟨o0, o1, o2, o3, o4, o5, o6, o7⟩, ⟨g0, g1, g2, g3, g4, g5, g6⟩, ⟨c0, c1, c2, c3, c7⟩, ui, us, ub, ur, cer, hR, u7, ct⟩ := ht.ex
  intro m
  induction m with
  | zero =>
    intro fuel hf cs y h
    obtain rfl : fuel = 0 := by omega
    simp [DataW.trod] at h
  | succ m ih =>
    intro fuel hf cs y h
    obtain ⟨xs, n, hn, _, hl, hlen, hfl⟩ := DataW.trod_struct hu h
    rw [ct] at hl
    obtain ⟨v0, v1, v2, v3, v4, v5, v6, v7, rfl⟩ := eight hl
    obtain ⟨y0, y1, y2, y3, y4, y5, y6, y7, rfl⟩ := eight (show xs.length = 8 by simpa using hlen)
    have h0 := hfl 0 f0 rfl
    have h1 := hfl 1 f1 rfl
    have h2 := hfl 2 f2 rfl
    have h3 := hfl 3 f3 rfl
    have h4 := hfl 4 f4 rfl
    have h5 := hfl 5 f5 rfl
    have h6 := hfl 6 f6 rfl
    have h7 := hfl 7 f7 rfl
    rw [o0, g0, c0] at h0
    rw [o1, g1, c1] at h1
    rw [o2, g2, c2] at h2
    rw [o3, g3, c3] at h3
    rw [o4, g4, c0] at h4
    rw [o5, g5, c0] at h5
    rw [o6, g6, c2] at h6
    rw [o7, c7] at h7
    simp at h0 h1 h2 h3 h4 h5 h6 h7
    obtain ⟨k, hk, _⟩ := DataW.trod_int ui h0
    obtain ⟨s, hs, _⟩ := DataW.trod_string us h1
    obtain ⟨b, hb, _⟩ := DataW.trod_bool ub h2
    obtain ⟨mn, hmn, _⟩ := DataW.trod_int ui h4
    obtain ⟨mx, hmx, _⟩ := DataW.trod_int ui h5
    obtain ⟨lz, hlz, _⟩ := DataW.trod_bool ub h6
    obtain ⟨rv, rows, hrv, hrs, _⟩ := sl_of (E := RowE) (Q := fun _ => True) ur cer (fun n _ cs y hh => by obtain ⟨x, hx⟩ := hR _ _ _ _ _ _ _ _ _ hh; exact ⟨x, hx, trivial⟩) h3
    obtain ⟨kv, kids, hkv, hks, hall⟩ := sl_of (E := TrE) (Q := fun x => TrS W x) u7 ct (fun n' hn' cs y hh => ih n' (by omega) cs y hh) h7
    refine ⟨⟨k, s, b, rv, rows, mn, mx, lz, kv, kids⟩, ?_, .mk hrs (fun hn => hrs.lt hn) hks (fun hn => hks.lt hn) hall⟩
    simp at hk hs hb hmn hmx hlz hrv hkv
    subst hk hs hb hmn hmx hlz hrv hkv
    rfl
/-- an argument that is a tree -/
theorem open_tree {t : TypeId} (ht : IsTree P t) {r : Reach} {b0 : Nat} {v : Value} {d : DataW H} {p : List MemPlace} (hv : Value.okWide P W r b0 t v) (h : DataW.Trod enc P W base spare held t v d p) : ∃ tr : Tr, v = tr.v ∧ TrS W tr := by
  have hu : ∃ fs, P.underlying t = some (.struct fs) := by
    obtain ⟨ti, ts, tb, tr, er, f0, f1, f2, f3, f4, f5, f6, f7, hu, _⟩ := ht.ex
    exact ⟨_, hu⟩
  obtain ⟨fs, hu⟩ := hu
  obtain ⟨cs, rfl, _⟩ := okWide_struct hu hv
  obtain ⟨fuel, hf⟩ := h
  obtain ⟨tr, hc, hT⟩ := tree_of ht fuel fuel (Nat.le_refl _) _ _ hf
  refine ⟨tr, ?_, hT⟩
  unfold Tr.v
  congr 1
  exact Array.ext' hc
/-- an argument that is a slice of trees -/
theorem open_trees {t e : TypeId} (he : IsTree P e) (ht : P.underlying t = some (.slice e)) (hC : P.cellsOf e = 8) {r : Reach} {b0 : Nat} {v : Value} {d : DataW H} {p : List MemPlace} (hv : Value.okWide P W r b0 t v) (h : DataW.Trod enc P W base spare held t v d p) : ∃ (s : Sv) (xs : List Tr), v = s.v ∧ TlS W s.v xs := by
  obtain ⟨a, l, c, rfl⟩ := okWide_slice ht hv
  obtain ⟨fuel, hf⟩ := h
  rw [cells_slice] at hf
  obtain ⟨s, xs, hs, hS, hall⟩ := sl_of (E := TrE) (Q := fun x => TrS W x) ht hC (fun n _ cs y hh => tree_of he n n (Nat.le_refl _) cs y hh) hf
  simp at hs
  exact ⟨s, xs, hs, hS, hall⟩
end
end B
end Go.Proofs.Ytocmchlhbniloaa
