/-
  From walks to rows: arguments read as lists, and what a call that only makes new memory leaves of a row's promise. Over any program.
-/
import Derived.Test.YtdbchpoaoghgpaaGreatDoorBb
import Derived.ProofKit
import Derived.Deep.Slices
import Derived.WideKeyArgs
import Derived.OpenShut
set_option linter.unusedSimpArgs false
set_option linter.unusedVariables false
namespace Go.Proofs.YtdbchpoaoghgpaaGreatDoor
namespace B
open Go.ChangeShapes Go.WideShapes Go.ChangeAt Go.RowKit

/-- what reads by type e is one of the make E -/
def Reads {α : Type} (P : Program) (e : TypeId) (E : Enc α) : Prop :=
  ∀ (H : Type) (enc : TypeId × Value → H) (w : World) (base : Nat) (spare : Nat → Bool) (held : Bool) (n : Nat) (cs : List Value) (y : DataW H × List MemPlace), DataW.trod enc P w base spare held n e cs = some y → ∃ x : α, cs = E.cells x

section
variable {P : Program} {e : TypeId}
theorem reads_int (he : P.underlying e = some (.int .i64)) : Reads P e IntE := fun H enc w base spare held n cs y h => by
  obtain ⟨k, rfl, _⟩ := DataW.trod_int he h
  exact ⟨k, rfl⟩
theorem reads_bool (he : P.underlying e = some .bool) : Reads P e BoolE := fun H enc w base spare held n cs y h => by
  obtain ⟨k, rfl, _⟩ := DataW.trod_bool he h
  exact ⟨k, rfl⟩
theorem reads_str (he : P.underlying e = some .string) : Reads P e StrE := fun H enc w base spare held n cs y h => by
  obtain ⟨k, rfl, _⟩ := DataW.trod_string he h
  exact ⟨k, rfl⟩
theorem two_cells {cs : List Value} {v0 v1 : Value} (hl : cs.length = 2) (h0 : cs.take 1 = [v0]) (h1 : (cs.drop 1).take 1 = [v1]) : cs = [v0, v1] := by
  match cs, hl with
  | [a, b], _ => simp at h0 h1; rw [h0, h1]
theorem three_cells {cs : List Value} {v0 v1 v2 : Value} (hl : cs.length = 3) (h0 : cs.take 1 = [v0]) (h1 : (cs.drop 1).take 1 = [v1]) (h2 : (cs.drop 2).take 1 = [v2]) : cs = [v0, v1, v2] := by
  match cs, hl with
  | [a, b, c], _ => simp at h0 h1 h2; rw [h0, h1, h2]
theorem reads_span {f0 f1 : Field} (he : P.underlying e = some (.struct #[f0, f1])) (ce : P.cellsOf e = 2) (o0 : f0.offset = 0) (o1 : f1.offset = 1) (c0 : P.cellsOf f0.type = 1) (c1 : P.cellsOf f1.type = 1)
    (t0 : P.underlying f0.type = some (.int .i64)) (t1 : P.underlying f1.type = some (.int .i64)) : Reads P e SpanE := fun H enc w base spare held n cs y h => by
  obtain ⟨y0, y1, m, _, hl, h0, h1⟩ := trod_struct2 he h
  obtain ⟨a, ha, _⟩ := DataW.trod_int t0 h0
  obtain ⟨b, hb, _⟩ := DataW.trod_int t1 h1
  rw [o0, c0] at ha
  rw [o1, c1] at hb
  exact ⟨(a, b), two_cells (hl.trans ce) ha hb⟩
theorem reads_arr2 {e' : TypeId} (he : P.underlying e = some (.array 2 e')) (ce : P.cellsOf e = 2) (c0 : P.cellsOf e' = 1) (t0 : P.underlying e' = some (.int .i64)) : Reads P e SpanE := fun H enc w base spare held n cs y h => by
  obtain ⟨xs, m, _, _, hl, hn, hx⟩ := DataW.trod_array he h
  have h0 := hx 0 (by omega)
  have h1 := hx 1 (by omega)
  rw [List.getElem?_eq_getElem (by omega)] at h0 h1
  obtain ⟨a, ha, _⟩ := DataW.trod_int t0 h0
  obtain ⟨b, hb, _⟩ := DataW.trod_int t0 h1
  simp only [c0, Nat.zero_mul, Nat.one_mul, List.drop_zero] at ha hb
  exact ⟨(a, b), two_cells (hl.trans ce) ha hb⟩
theorem reads_edit {f0 f1 : Field} {s : TypeId} (he : P.underlying e = some (.struct #[f0, f1])) (ce : P.cellsOf e = 3) (o0 : f0.offset = 0) (o1 : f1.offset = 2) (s0 : f0.type = s) (c0 : P.cellsOf s = 2) (c1 : P.cellsOf f1.type = 1)
    (hs : Reads P s SpanE) (t1 : P.underlying f1.type = some .string) : Reads P e EditE := fun H enc w base spare held n cs y h => by
  subst s0
  obtain ⟨y0, y1, m, _, hl, h0, h1⟩ := trod_struct2 he h
  obtain ⟨x, hx⟩ := hs _ _ _ _ _ _ _ _ _ h0
  obtain ⟨b, hb, _⟩ := DataW.trod_string t1 h1
  rw [o0, c0, List.drop_zero] at hx
  rw [o1, c1] at hb
  have hl3 := hl.trans ce
  match cs, hl3 with
  | [u, v, z], _ =>
    simp [SpanE] at hx hb
    exact ⟨(x.1, x.2, b), by simp [EditE, hx, hb]⟩
theorem reads_row {f0 f1 : Field} (he : P.underlying e = some (.struct #[f0, f1])) (ce : P.cellsOf e = 2) (o0 : f0.offset = 0) (o1 : f1.offset = 1) (c0 : P.cellsOf f0.type = 1) (c1 : P.cellsOf f1.type = 1)
    (t0 : P.underlying f0.type = some .string) (t1 : P.underlying f1.type = some .string) : Reads P e RowE := fun H enc w base spare held n cs y h => by
  obtain ⟨y0, y1, m, _, hl, h0, h1⟩ := trod_struct2 he h
  obtain ⟨a, ha, _⟩ := DataW.trod_string t0 h0
  obtain ⟨b, hb, _⟩ := DataW.trod_string t1 h1
  rw [o0, c0] at ha
  rw [o1, c1] at hb
  exact ⟨(a, b), two_cells (hl.trans ce) ha hb⟩
end

section
variable {P : Program} {W : World} {H : Type} {enc : TypeId × Value → H} {base : Nat} {spare : Nat → Bool} {held : Bool}
theorem cells_slice (a : Option Addr) (l c : Nat) : (Value.slice a l c).cells = #[.slice a l c] := rfl
/-- an argument that is a slice, as a list -/
theorem open_sl {α : Type} [Inhabited α] {E : Enc α} {t e : TypeId} (ht : P.underlying t = some (.slice e)) (hC : P.cellsOf e = E.sz) (hE : Reads P e E) {r : Reach} {b0 : Nat} {v : Value} {d : DataW H} {p : List MemPlace} (hv : Value.okWide P W r b0 t v)
    (h : DataW.Trod enc P W base spare held t v d p) : ∃ xs : List α, SlT E W v xs := by
  obtain ⟨a, len, cap, rfl⟩ := okWide_slice ht hv
  obtain ⟨fuel, hf⟩ := h
  rw [cells_slice] at hf
  rcases Deep.open_slice ht hf with ⟨h0, _⟩ | ⟨a', len', cap', m, n, D, Pl, h0, hb, hl, hm, hmm, _, hx⟩
  · simp only [List.cons.injEq, Value.slice.injEq, and_true] at h0
    obtain ⟨rfl, rfl, rfl⟩ := h0
    exact ⟨[], SlT.nil _ _⟩
  · simp only [List.cons.injEq, Value.slice.injEq, and_true] at h0
    obtain ⟨rfl, rfl, rfl⟩ := h0
    have hlm : len ≤ m := by rw [hmm]; split <;> omega
    have each : ∀ i, i < len → ∃ x : α, W.cells? base (a'.add (i * P.cellsOf e)) (P.cellsOf e) = some (E.cells x) := by
      intro i hi
      obtain ⟨cs, h1, h2⟩ := hx i (by omega)
      obtain ⟨x, rfl⟩ := hE _ _ _ _ _ _ _ _ _ h2
      exact ⟨x, h1⟩
    obtain ⟨X, hX⟩ := Deep.choose_lt each
    refine ⟨(List.range len).map X, .inr ⟨a', cap, by simp, by simpa using hl, hm⟩, fun j u hj => ?_⟩
    have hlen : j < len * E.sz := by
      have := (List.getElem?_eq_some_iff.1 hj).1
      rw [E.row_length] at this
      simpa using this
    have hi : j / E.sz < len := Nat.div_lt_of_lt_mul (by rw [Nat.mul_comm]; exact hlen)
    have hr : j % E.sz < E.sz := Nat.mod_lt _ E.pos
    have hj' : j = j / E.sz * E.sz + j % E.sz := by rw [Nat.mul_comm]; exact (Nat.div_add_mod j E.sz).symm
    have hx' : ((List.range len).map X)[j / E.sz]? = some (X (j / E.sz)) := by simp [hi]
    rw [hj', E.row_get hx' hr] at hj
    obtain ⟨_, _, hc⟩ := World.cells?_some (hX _ hi)
    rw [hC] at hc
    have := hc (j % E.sz) hr
    rw [hj] at this
    rw [hj', ← add_add]
    exact this
/-- an argument that is a pair of numbers -/
theorem open_span {t : TypeId} {f0 f1 : Field} (hs : P.underlying t = some (.struct #[f0, f1])) (hR : Reads P t SpanE) {r : Reach} {b0 : Nat} {v : Value} {d : DataW H} {p : List MemPlace} (hv : Value.okWide P W r b0 t v)
    (h : DataW.Trod enc P W base spare held t v d p) : ∃ x, v = spanV x := by
  obtain ⟨cs, rfl, _⟩ := okWide_struct hs hv
  obtain ⟨fuel, hf⟩ := h
  obtain ⟨x, hx⟩ := hR _ _ _ _ _ _ _ _ _ hf
  refine ⟨x, ?_⟩
  have : cs.toList = [.int .i64 x.1, .int .i64 x.2] := hx
  unfold spanV
  congr 1
  exact Array.ext' this
theorem open_i64 {t : TypeId} (ht : P.underlying t = some (.int .i64)) {r : Reach} {b0 : Nat} {v : Value} (hv : Value.okWide P W r b0 t v) {d : DataW H} {p : List MemPlace} (h : DataW.Trod enc P W base spare held t v d p) : ∃ n, v = .int .i64 n ∧ -9223372036854775808 ≤ n ∧ n ≤ 9223372036854775807 := by
  obtain ⟨n, rfl, _, _, hw⟩ := open_int ht hv h
  simp [Lit.wf, IntKind.min, IntKind.max, IntKind.signed, IntKind.bits] at hw
  exact ⟨n, rfl, hw⟩
theorem trodAll_stay (hl : laidOutB P = true) {W' : World} {sp : Nat → Bool} : ∀ {ts : List TypeId} {vs : List Value} {ds : List (DataW H)} {p : List MemPlace}, (ts.all fun t => P.readableRec t && decide (t < P.types.size)) = true →
    DataW.TrodAll enc P W 0 (fun _ => true) true ts vs ds p → (∀ x ∈ p, W.sameAt W' x) → (∀ x ∈ p, sp x.block = true) → DataW.TrodAll enc P W' 0 sp true ts vs ds p
  | [], [], [], _, _, h, _, _ => h
  | [], [], _ :: _, _, _, h, _, _ => h.elim
  | [], _ :: _, _, _, _, h, _, _ => h.elim
  | _ :: _, [], _, _, _, h, _, _ => h.elim
  | _ :: _, _ :: _, [], _, _, h, _, _ => h.elim
  | t :: ts, v :: vs, d :: ds, p, hr, h, h1, h2 => by
    obtain ⟨q, q', a, b, rfl⟩ := h
    simp only [List.all_cons, Bool.and_eq_true, decide_eq_true_eq] at hr
    exact ⟨q, q', WideElems.Trod_stays hl hr.1.1 hr.1.2 a (fun x hx => h1 x (by simp [hx])) (fun x hx => h2 x (by simp [hx])), trodAll_stay hl hr.2 b (fun x hx => h1 x (by simp [hx])) (fun x hx => h2 x (by simp [hx])), rfl⟩
/-- a call that says true, and has made new memory at most -/
theorem post_true {f : Func} {s : ChangeSpec} {apart handsOn : Bool} {W' : World} {args : Array Value} {ds gs : List (DataW H)} {before : List MemPlace} {t : TypeId} (hl : laidOutB P = true)
    (hW : DataW.Whole enc P f.params.toList s.vars apart W args.toList ds gs before) (hvars : s.vars = []) (hread : (f.params.toList.all fun t => P.readableRec t && decide (t < P.types.size)) = true)
    (hfn : s.fn H ds = { results := [.lit (.bool true)], args := ds }) (hrt : f.resultTypes = #[t]) (ht : P.underlying t = some .bool) (hx : Ext none' W W') : s.post enc P f apart true handsOn false W args (.bool true) W' := by
  have hlt := hW.lt
  have hW' := hW
  obtain ⟨p, q, hA, hV, rfl, hz, hn⟩ := hW
  rw [hvars] at hV
  have hgq : gs = [] ∧ q = [] := by
    cases gs with
    | nil => exact ⟨rfl, hV⟩
    | cons g gs => exact hV.elim
  obtain ⟨rfl, rfl⟩ := hgq
  have hb := hx.below
  refine ⟨ds, [], p ++ [], [], p, [], hW', ?_, ?_, ?_, hb.frame _, fun h => by cases h⟩
  · rw [List.append_nil, hfn, hrt]
    exact trodAll_mk1 (shut_bool ht true)
  · rw [List.append_nil, hfn]
    exact trodAll_stay hl hread hA (fun x hx => hb.same (hlt x (by simp [hx]))) (fun x hx => by simpa using hlt x (by simp [hx]))
  · rw [List.append_nil, hfn, hvars]
    exact rfl
end
end B
end Go.Proofs.YtdbchpoaoghgpaaGreatDoor
