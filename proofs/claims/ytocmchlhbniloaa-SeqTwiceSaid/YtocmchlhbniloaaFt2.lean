/-
  Own texts, put together by a program (flat.py): RowW, TrC, TrE1, TrS, TrG, TrH, BaseZ, TreeZ, TrI, TrJ.
-/
import Derived.Test.YtocmchlhbniloaaFt1
set_option linter.unusedSimpArgs false
set_option linter.unusedVariables false
set_option linter.unusedSectionVars false
namespace Go.Proofs.Ytocmchlhbniloaa
namespace B
open Srt
abbrev Rw := ByteArray × ByteArray
theorem nth_memL {α : Type} [Inhabited α] {xs : List α} {k : Nat} (h : k < xs.length) : nth xs (k : Int) ∈ xs := List.mem_of_getElem? (nth_lt h)
theorem upto_succ {f : Int → Bool} {k : Nat} (h : ∀ i < k, f ((i : Nat) : Int) = false) (h2 : f (k : Int) = false) : ∀ i < k + 1, f ((i : Nat) : Int) = false := by
  intro i hi
  by_cases e : i = k
  · subst e; exact h2
  · exact h i (by omega)
def Small (xs : List Rw) : Prop := ∀ r ∈ xs, r.1.size ≤ 1000000 ∧ r.2.size ≤ 1000000
theorem small_at {xs : List Rw} (h : Small xs) {k : Nat} : k < xs.length → (nth xs (k : Int)).1.size ≤ 1000000 ∧ (nth xs (k : Int)).2.size ≤ 1000000 := fun hk => h _ (nth_memL hk)
def rowB (r : Rw) : Bool := (properB r.1 && properB r.2) && leT r.1 r.2
def cmpR (p q : Rw) : Int := orF [cmpT p.1 q.1, cmpT p.2 q.2]
def ltR (p q : Rw) : Bool := decide (cmpR p q < 0)
theorem cmpT_lt {x y : ByteArray} : cmpT x y < 0 ↔ ltT x y = true := by
  unfold cmpT
  split
  · rename_i h; simp [h]
  · rename_i h; split <;> simp [h]
theorem cmpT_eq {x y : ByteArray} : cmpT x y = 0 ↔ x = y := by
  unfold cmpT
  constructor
  · intro h
    rcases ltT_tri x y with h' | h' | h'
    · rw [if_pos h'] at h; cases h
    · exact h'
    · rw [if_neg (by rw [ltT_asymm h']; decide), if_pos h'] at h; cases h
  · rintro rfl
    rw [if_neg (by rw [ltT_irr]; decide), if_neg (by rw [ltT_irr]; decide)]
theorem ltR_iff (p q : Rw) : ltR p q = true ↔ ltT p.1 q.1 = true ∨ (p.1 = q.1 ∧ ltT p.2 q.2 = true) := by
  unfold ltR cmpR orF
  rw [decide_eq_true_eq, ← cmpT_lt, ← cmpT_lt, ← cmpT_eq]
  generalize cmpT p.1 q.1 = a
  generalize cmpT p.2 q.2 = b
  have hn : ∀ x : Int, ¬ x = 0 → (x != 0) = true := fun x h => by simpa using h
  by_cases h1 : a = 0
  · subst h1
    by_cases h2 : b = 0
    · subst h2; simp [List.find?]
    · simp [List.find?, hn b h2]
  · simp [List.find?, hn a h1, h1]
def badRow (xs : List Rw) (i : Int) : Bool := !rowB (nth xs i) || (decide (0 < i) && leT (nth xs i).1 (nth xs (i - 1)).2)
def mayRow (xs : List Rw) : Bool := (List.range xs.length).all fun i => !badRow xs (i : Int)
theorem mayRow_no {xs : List Rw} {k : Nat} (h : k < xs.length) (hb : badRow xs (k : Int) = true) : mayRow xs = false := by
  unfold mayRow
  rw [List.all_eq_false]
  exact ⟨k, by simpa using h, by simp [hb]⟩
theorem mayRow_yes {xs : List Rw} {k : Nat} (h : ∀ i < k, badRow xs ((i : Nat) : Int) = false) (hk : xs.length ≤ k) : mayRow xs = true := by
  unfold mayRow
  rw [List.all_eq_true]
  intro i hi
  simp at hi
  simp [h i (by omega)]
theorem row_ref (r : Rw) : ((!properB r.1 || !properB r.2) || !leT r.1 r.2) = !rowB r := by
  unfold rowB
  cases properB r.1 <;> cases properB r.2 <;> cases leT r.1 r.2 <;> rfl
theorem filter_t {α : Type} [Inhabited α] {f : α → Bool} {xs : List α} {k : Nat} (h : k < xs.length) (hp : f (nth xs (k : Int)) = true) : (xs.take (k + 1)).filter f = (xs.take k).filter f ++ [nth xs (k : Int)] := by
  rw [take_snoc h, List.filter_append]; simp [hp]
theorem filter_f {α : Type} [Inhabited α] {f : α → Bool} {xs : List α} {k : Nat} (h : k < xs.length) (hp : f (nth xs (k : Int)) = false) : (xs.take (k + 1)).filter f = (xs.take k).filter f := by
  rw [take_snoc h, List.filter_append]; simp [hp]
theorem filter_le {α : Type} {f : α → Bool} {xs : List α} {k : Nat} : ((xs.take k).filter f).length ≤ xs.length := by
  have h1 := List.length_filter_le f (xs.take k)
  have h3 := List.length_take_le' k xs
  omega
theorem sort_filter_le (xs : List Rw) : (isort ltR (xs.filter rowB)).length ≤ xs.length := by
  rw [isort_length]; exact List.length_filter_le _ _
def hitT (acc : List Rw) (p : Rw) : Bool := decide (0 ≤ (acc.length : Int) - 1) && leT p.1 (nth acc ((acc.length : Int) - 1)).2
def stepT (acc : List Rw) (p : Rw) : List Rw :=
  if hitT acc p = true then acc.set ((acc.length : Int) - 1).toNat ((nth acc ((acc.length : Int) - 1)).1, maxT (nth acc ((acc.length : Int) - 1)).2 p.2) else acc ++ [p]
def joinT (xs : List Rw) : List Rw := xs.foldl stepT []
theorem joinT_snoc (xs : List Rw) (p : Rw) : joinT (xs ++ [p]) = stepT (joinT xs) p := by simp [joinT]
theorem joinT_hit {xs : List Rw} {k : Nat} (h : k < xs.length) (hc : hitT (joinT (xs.take k)) (nth xs (k : Int)) = true) :
    joinT (xs.take (k + 1)) = (joinT (xs.take k)).set (((joinT (xs.take k)).length : Int) - 1).toNat ((nth (joinT (xs.take k)) (((joinT (xs.take k)).length : Int) - 1)).1, maxT (nth (joinT (xs.take k)) (((joinT (xs.take k)).length : Int) - 1)).2 (nth xs (k : Int)).2) := by
  rw [take_snoc h, joinT_snoc, stepT, if_pos hc]
theorem joinT_miss {xs : List Rw} {k : Nat} (h : k < xs.length) (hc : hitT (joinT (xs.take k)) (nth xs (k : Int)) = false) : joinT (xs.take (k + 1)) = joinT (xs.take k) ++ [nth xs (k : Int)] := by
  rw [take_snoc h, joinT_snoc, stepT, if_neg (by rw [hc]; decide)]
theorem joinT_le (xs : List Rw) : (joinT xs).length ≤ xs.length := by
  induction xs using snoc_ind with
  | h0 => simp [joinT]
  | h1 xs x ih =>
    rw [joinT_snoc, stepT]
    split
    · simp; omega
    · simp; omega
theorem joinT_take {xs : List Rw} {k : Nat} : (joinT (xs.take k)).length ≤ k := by
  have h1 := joinT_le (xs.take k)
  have h2 := List.length_take_le k xs
  omega
theorem hitT_ref {acc : List Rw} {p : Rw} {b : Bool} (h : (decide ((0 : Int) < (acc.length : Int)) && leT p.1 (nth acc ((acc.length : Int) - 1)).2) = b) : hitT acc p = b := by
  rw [← h]; unfold hitT
  congr 1
  exact decide_eq_decide.2 (by omega)
def unionT (xs : List Rw) : List Rw := joinT (isort ltR (xs.filter rowB))
def ltQ (x y : Rw) : Bool := ltT x.1 y.1 || (eqT x.1 y.1 && ltT x.2 y.2)
theorem ltQ_eq : ltQ = ltR := by
  funext x y
  rw [Bool.eq_iff_iff, ltR_iff, ltQ, Bool.or_eq_true, Bool.and_eq_true, eqT_iff]
theorem refIns_f {xs : List Rw} {i k : Nat} (h : i < xs.length) (hr : rowB (nth xs (i : Int)) = true) (hk : k ≤ (isort ltQ ((xs.take i).filter rowB)).length) (hq : ∀ q ∈ (isort ltQ ((xs.take i).filter rowB)).drop k, ltQ (nth xs (i : Int)) q = true)
    (hc : (decide ((0 : Int) < (k : Int)) && ltQ (nth xs (i : Int)) (nth (isort ltQ ((xs.take i).filter rowB)) ((k : Int) - 1))) = false) :
    isort ltQ ((xs.take (i + 1)).filter rowB) = (([] ++ ((isort ltQ ((xs.take i).filter rowB)).drop 0).take (k - 0)) ++ [nth xs (i : Int)]) ++ ((isort ltQ ((xs.take i).filter rowB)).drop k).take ((isort ltQ ((xs.take i).filter rowB)).length - k) := by
  rw [filter_t h hr, isort_snoc, insRef hk hq hc]
def namedF (n : Int) : List Rw := if n = 100 then [(⟨#[48]⟩, ⟨#[57]⟩)] else if n = 119 then [(⟨#[48]⟩, ⟨#[57]⟩), (⟨#[65]⟩, ⟨#[90]⟩), (⟨#[95]⟩, ⟨#[95]⟩), (⟨#[97]⟩, ⟨#[122]⟩)] else if n = 115 then [(⟨#[9]⟩, ⟨#[13]⟩), (⟨#[32]⟩, ⟨#[32]⟩)] else []
def namedB (n : Int) : Bool := decide (n = 100) || (decide (n = 119) || decide (n = 115))
def longL : Int → List ByteArray → Bool
  | _, [] => false
  | n, s :: ss => decide (n ≤ (s.size : Int)) || longL (n - (s.size : Int) - 1) ss
theorem longL_hit {es : List ByteArray} {n m : Int} {k : Nat} (h : k < es.length) (hq : longL n es = longL m (es.drop k)) (hc : m ≤ ((nth es (k : Int)).size : Int)) : longL n es = true := by
  rw [hq, drop_cons h, longL, decide_eq_true hc]; rfl
theorem longL_next {es : List ByteArray} {n m : Int} {k : Nat} (h : k < es.length) (hq : longL n es = longL m (es.drop k)) (hc : ((nth es (k : Int)).size : Int) < m) : longL n es = longL (m - ((nth es (k : Int)).size : Int) - 1) (es.drop (k + 1)) := by
  rw [hq, drop_cons h, longL, decide_eq_false (by omega)]; rfl
theorem longL_end {es : List ByteArray} {n m : Int} {k : Nat} (h : es.length ≤ k) (hq : longL n es = longL m (es.drop k)) : longL n es = false := by
  rw [hq, List.drop_of_length_le h]; rfl
theorem fold_hit {s : ByteArray} {k : Nat} (h : k < (bs s).length) (hc : (decide ((65 : Int) ≤ ((nth (mapTo foldU (bs s) k) (k : Int)).toNat : Int)) && decide (((nth (mapTo foldU (bs s) k) (k : Int)).toNat : Int) ≤ 90)) = true) :
    mapTo foldU (bs s) (k + 1) = (mapTo foldU (bs s) k).set (k : Int).toNat (UInt8.ofNat (IntKind.u8.wrap (((nth (mapTo foldU (bs s) k) (k : Int)).toNat : Int) + 32)).toNat) := by
  refine mapTo_hit h ?_
  rw [mapTo_nth h] at hc ⊢
  rw [foldU, if_pos hc]
theorem fold_miss {s : ByteArray} {k : Nat} (h : k < (bs s).length) (hc : (decide ((65 : Int) ≤ ((nth (mapTo foldU (bs s) k) (k : Int)).toNat : Int)) && decide (((nth (mapTo foldU (bs s) k) (k : Int)).toNat : Int) ≤ 90)) = false) : mapTo foldU (bs s) (k + 1) = mapTo foldU (bs s) k := by
  refine mapTo_miss h ?_
  rw [mapTo_nth h] at hc
  rw [foldU, if_neg (by rw [hc]; decide)]
end B
end Go.Proofs.Ytocmchlhbniloaa
namespace Go.Proofs.Ytocmchlhbniloaa
namespace B
open Go.RowKit
open Srt
def rwB (p q : Rw) : Bool := decide (p = q)
def rwV (p : Rw) : Value := .agg #[.string p.1, .string p.2]
theorem rwB_eq (p q : Rw) : rwB p q = (eqT p.1 q.1 && eqT p.2 q.2) := by
  rw [Bool.eq_iff_iff]; simp [rwB, Prod.ext_iff, eqT_iff]
theorem rw_run (p q : Rw) (w : World) : (Op.equal 43 (rwV p) (rwV q)).run Try.prog w = .ok (rwB p q) w := by
  rw [rwB_eq]
  have h := run_equalIn_struct (P := Try.prog) w 9999 43 #[.string p.1, .string p.2] #[.string q.1, .string q.2] rfl Try.stoodInHeld43
  simp only [Op.equal, Op.maxDepth, rwV, h]
  simp [Program.fieldsOf, Op.eqFields, part, go_sem, eqT]
  by_cases h3 : p.1.toList = q.1.toList <;> by_cases h4 : p.2.toList = q.2.toList <;> simp [h3, h4]
theorem rw_ne {a : Act} {o : Oper} {w : World} {x y : Operand} {t' : TypeId} {p q : Rw} (ho : o.op = .binOp .neq 43 x y t') (hx : a.eval x = rwV p) (hy : a.eval y = rwV q) : Runs Try.prog a o w (.bool (!rwB p q)) := by
  have h := rw_run p q w
  simp only [rwV] at h hx hy
  simp [Runs, execOp, ho, hx, hy, eqGuard, binOp, h]
set_option maxRecDepth 100000 in
theorem eqRows_c (v u : Value) (xs ys : List (ByteArray × ByteArray)) (w : World) (hS : SlT RowE w v xs) (hU : SlT RowE w u ys) : Calls Try.prog 29 #[v, u] w (fun e w' => e = .returned (.bool (decide (xs = ys))) ∧ Ext none' w w') := by
 refine enter (n := 26) Try.func29 rfl rfl (Nat.le_of_ble_eq_true rfl) ?_
 intro a0 τ0 ha st0
 have e0 : get a0 0 = v := ha 0 _ rfl
 have e1 : get a0 1 = u := ha 1 _ rfl
 clear ha
 have hle := hS.le
 have hle2 := hU.le
 refine wp_seq ?_
 refine region_St (bf := [0]) (sp := [det _ 4 _]) [] mixed st0 (by kernel_rfl) trivial
  ⟨Ob.d fun c => r_assign rfl rfl, trivial⟩ ?_
 intro a1 w1 τ1 st1 f1
 obtain ⟨e0, e1, -⟩ := f1.ks [(0, _), (1, _)] ⟨e0, e1, trivial⟩
 have e4 : get a1 4 = (.bool (false)) := f1.v 0 rfl
 clear f1
 show Code.wp _ _ _ a1 w1
 refine wp_seq ?_
 refine wp_seq ?_
 refine region_St (bf := [0, 1, 0, 4, 15]) (sp := [det _ 6 _, det _ 7 _, det _ 8 _, det _ 9 _, det _ 10 _]) [] mixed st1 (by kernel_rfl) trivial
  ⟨Ob.d fun c => r_move rfl (c.p e0),
  Ob.d fun c => r_len rfl Try.underlying22 (c.n 0 rfl) hS.sl,
  Ob.d fun c => r_move rfl (c.p e1),
  Ob.d fun c => r_len rfl Try.underlying22 (c.n 2 rfl) hU.sl,
  Ob.d fun c => r_neq rfl (c.n 1 rfl) (c.n 3 rfl), trivial⟩ ?_
 intro a2 w2 τ2 st2 f2
 obtain ⟨e0, e1, e4, -⟩ := f2.ks [(0, _), (1, _), (4, _)] ⟨e0, e1, e4, trivial⟩
 have e10 : get a2 10 = (.bool (!decide ((xs.length : Int) = (ys.length : Int)))) := f2.v 4 rfl
 clear f2
 show Code.wp _ _ _ a2 w2
 refine wp_cond_split (t := !decide ((xs.length : Int) = (ys.length : Int))) e10 (fun hc1 => ?_) (fun hc1 => ?_)
 · try simp only [Bool.not_eq_true', Bool.not_eq_false', decide_eq_true_eq, decide_eq_false_iff_not] at hc1
   refine wp_seq ?_
   refine region_St (bf := [0]) (sp := [det _ 4 _]) [] mixed st2 (by kernel_rfl) trivial
    ⟨Ob.d fun c => r_assign rfl rfl, trivial⟩ ?_
   intro a3 w3 τ3 st3 f3
   obtain ⟨e0, e1, -⟩ := f3.ks [(0, _), (1, _)] ⟨e0, e1, trivial⟩
   have e4 : get a3 4 = (.bool (false)) := f3.v 0 rfl
   clear f3
   show Code.wp _ _ _ a3 w3
   refine wp_ret ?_
   repeat (first | with_reducible refine then_ret ?_ | with_reducible refine block_ret ?_)
   refine ret1 (fn := Try.f29) rfl st3.defers e4 ?_
   exact ⟨congrArg _ (congrArg _ (by first | (symm; exact decide_eq_false (fun h => by subst h; omega)) | (symm; exact decide_eq_false (differ (by assumption))) | (symm; exact decide_eq_true (all_same q1 q0 q2 (by assumption))))), st3.ext0⟩
 try simp only [Bool.not_eq_true', Bool.not_eq_false', decide_eq_true_eq, decide_eq_false_iff_not] at hc1
 refine wp_skip ?_
 show Code.wp _ _ _ a2 w2
 refine wp_seq ?_
 refine wp_seq ?_
 refine region_St (bf := [0, 1, 0]) (sp := [det _ 11 _, det _ 12 _, det _ 13 _]) [] mixed st2 (by kernel_rfl) trivial
  ⟨Ob.d fun c => r_move rfl (c.p e0),
  Ob.d fun c => r_len rfl Try.underlying22 (c.n 0 rfl) hS.sl,
  Ob.d fun c => r_move rfl rfl, trivial⟩ ?_
 intro a4 w4 τ4 st4 f4
 obtain ⟨e0, e1, e4, -⟩ := f4.ks [(0, _), (1, _), (4, _)] ⟨e0, e1, e4, trivial⟩
 have e12 : get a4 12 = (.int .i64 ((xs.length : Int))) := f4.v 1 rfl
 have e13 : get a4 13 = (.int .i64 (0)) := f4.v 2 rfl
 clear f4
 show Code.wp _ _ _ a4 w4
 refine wp_block ?_
 refine wp_loop (fun a_ w_ => ∃ (k : Nat) (τ : Nat → Foot), (k ≤ xs.length) ∧
      (xs.length = ys.length) ∧
      (xs.take k = ys.take k) ∧
      St (Nw w) w 26 a_ w_ τ ∧
      get a_ 13 = (.int .i64 ((k : Int))) ∧
      get a_ 0 = v ∧
      get a_ 1 = u ∧
      get a_ 12 = (.int .i64 ((xs.length : Int)))) (fun a_ _ => xs.length - (intOf (get a_ 13)).toNat) ?_ ?_
 · refine ⟨0, τ4, ?_, ?_, ?_, st4, (e13.trans (int_eq (by omega))), e0, e1, e12⟩
   · omega
   · omega
   · simp
 intro a5 w5 hI
 obtain ⟨k, τ5, q0, q1, q2, st5, e13, e0, e1, e12⟩ := hI
 have m13 := e13
 refine wp_seq ?_
 refine region_St (bf := [0]) (sp := [det _ 14 _]) [] mixed st5 (by kernel_rfl) trivial
  ⟨Ob.d fun c => r_lss rfl (c.p e13) (c.p e12), trivial⟩ ?_
 intro a6 w6 τ6 st6 f6
 obtain ⟨e0, e1, e12, e13, -⟩ := f6.ks [(0, _), (1, _), (12, _), (13, _)] ⟨e0, e1, e12, e13, trivial⟩
 have e14 : get a6 14 = (.bool (decide ((k : Int) < (xs.length : Int)))) := f6.v 0 rfl
 clear f6
 show Code.wp _ _ _ a6 w6
 refine wp_seq ?_
 refine wp_cond_split (t := decide ((k : Int) < (xs.length : Int))) e14 (fun hc2 => ?_) (fun hc2 => ?_)
 · try simp only [decide_eq_true_eq] at hc2
   refine wp_skip ?_
   show Code.wp _ _ _ a6 w6
   refine wp_seq ?_
   refine wp_block ?_
   refine wp_seq ?_
   refine region_St (bf := [0, 1]) (sp := [det _ 15 _, det _ 5 _]) [] mixed st6 (by kernel_rfl) trivial
    ⟨Ob.d fun c => r_move rfl (c.p e13),
    Ob.d fun c => r_assign rfl (c.n 0 rfl), trivial⟩ ?_
   intro a7 w7 τ7 st7 f7
   obtain ⟨e0, e1, e12, e13, e14, -⟩ := f7.ks [(0, _), (1, _), (12, _), (13, _), (14, _)] ⟨e0, e1, e12, e13, e14, trivial⟩
   have e5 : get a7 5 = (.int .i64 ((k : Int))) := f7.v 1 rfl
   clear f7
   show Code.wp _ _ _ a7 w7
   refine wp_seq ?_
   refine region_St (bf := [0, 0, 3, 7, 0, 0, 48, 112, 255]) (sp := [det _ 16 _, det _ 17 _, det _ 18 _, det _ 19 _, det _ 20 _, det _ 21 _, det _ 22 _, det _ 23 _, det _ 24 _]) [] mixed st7 (by kernel_rfl) trivial
    ⟨Ob.d fun c => r_move rfl (c.p e0),
    Ob.d fun c => r_move rfl (c.p e5),
    Ob.d fun c => r_indexAddr rfl Try.underlying22 Try.sizeOf43 (c.n 0 rfl) hS.sl (c.n 1 rfl) (by omega) (by omega),
    Ob.d fun c => r_loadN (vs := [(.string ((nth xs ((k : Int))).1)), (.string ((nth xs ((k : Int))).2))]) rfl Try.isAgg43 Try.sizeOf43 (c.n 2 rfl) rfl (fun _ _ hj => ((hS.at (st7.ext.trans c.J.ext))).elem (nth_some (i := (k : Int)) (by omega) (by omega)) hj),
    Ob.d fun c => r_move rfl (c.p e1),
    Ob.d fun c => r_move rfl (c.p e5),
    Ob.d fun c => r_indexAddr rfl Try.underlying22 Try.sizeOf43 (c.n 4 rfl) hU.sl (c.n 5 rfl) (by omega) (by omega),
    Ob.d fun c => r_loadN (vs := [(.string ((nth ys ((k : Int))).1)), (.string ((nth ys ((k : Int))).2))]) rfl Try.isAgg43 Try.sizeOf43 (c.n 6 rfl) rfl (fun _ _ hj => ((hU.at (st7.ext.trans c.J.ext))).elem (nth_some (i := (k : Int)) (by omega) (by omega)) hj),
    Ob.d fun c => rw_ne rfl (c.n 3 rfl) (c.n 7 rfl), trivial⟩ ?_
   intro a8 w8 τ8 st8 f8
   obtain ⟨e0, e1, e5, e12, e13, e14, -⟩ := f8.ks [(0, _), (1, _), (5, _), (12, _), (13, _), (14, _)] ⟨e0, e1, e5, e12, e13, e14, trivial⟩
   have e24 : get a8 24 = (.bool (!(rwB (nth xs ((k : Int))) (nth ys ((k : Int)))))) := f8.v 8 rfl
   clear f8
   show Code.wp _ _ _ a8 w8
   refine wp_cond_split (t := !(rwB (nth xs ((k : Int))) (nth ys ((k : Int))))) e24 (fun hc3 => ?_) (fun hc3 => ?_)
   · try simp only [Bool.not_eq_true', Bool.not_eq_false', decide_eq_true_eq, decide_eq_false_iff_not, rwB] at hc3
     refine wp_seq ?_
     refine region_St (bf := [0]) (sp := [det _ 4 _]) [] mixed st8 (by kernel_rfl) trivial
      ⟨Ob.d fun c => r_assign rfl rfl, trivial⟩ ?_
     intro a9 w9 τ9 st9 f9
     obtain ⟨e0, e1, e5, e12, e13, e14, e24, -⟩ := f9.ks [(0, _), (1, _), (5, _), (12, _), (13, _), (14, _), (24, _)] ⟨e0, e1, e5, e12, e13, e14, e24, trivial⟩
     have e4 : get a9 4 = (.bool (false)) := f9.v 0 rfl
     clear f9
     show Code.wp _ _ _ a9 w9
     refine wp_ret ?_
     repeat (first | with_reducible refine then_ret ?_ | with_reducible refine block_ret ?_)
     refine ret1 (fn := Try.f29) rfl st9.defers e4 ?_
     exact ⟨congrArg _ (congrArg _ (by first | (symm; exact decide_eq_false (fun h => by subst h; omega)) | (symm; exact decide_eq_false (differ (by assumption))) | (symm; exact decide_eq_true (all_same q1 q0 q2 (by assumption))))), st9.ext0⟩
   try simp only [Bool.not_eq_true', Bool.not_eq_false', decide_eq_true_eq, decide_eq_false_iff_not, rwB] at hc3
   refine wp_skip ?_
   show _
   show Code.wp _ _ _ a8 w8
   refine region_St (bf := [0, 1]) (sp := [det _ 25 _, det _ 13 _]) [] mixed st8 (by kernel_rfl) trivial
    ⟨Ob.d fun c => r_add rfl (c.p e13) rfl (by omega),
    Ob.d fun c => r_move rfl (c.n 0 rfl), trivial⟩ ?_
   intro a10 w10 τ10 st10 f10
   obtain ⟨e0, e1, e5, e12, e14, e24, -⟩ := f10.ks [(0, _), (1, _), (5, _), (12, _), (14, _), (24, _)] ⟨e0, e1, e5, e12, e14, e24, trivial⟩
   have e13 : get a10 13 = (.int .i64 ((k : Int) + 1)) := f10.v 1 rfl
   clear f10
   refine ⟨⟨k + 1, τ10, ?_, ?_, ?_, st10, (e13.trans (int_eq (by omega))), e0, e1, e12⟩, ?_⟩
   · omega
   · omega
   · exact take_same (by omega) (by omega) q2 (by assumption)
   · simp only [m13, e13, intOf]; omega
 try simp only [decide_eq_false_iff_not, Int.not_lt] at hc2
 refine wp_exit ?_
 repeat (with_reducible refine then_exit ?_)
 refine exit_here ?_
 show Code.wp _ _ _ a6 w6
 refine wp_seq ?_
 refine region_St (bf := [0]) (sp := [det _ 4 _]) [] mixed st6 (by kernel_rfl) trivial
  ⟨Ob.d fun c => r_assign rfl rfl, trivial⟩ ?_
 intro a11 w11 τ11 st11 f11
 have e4 : get a11 4 = (.bool (true)) := f11.v 0 rfl
 clear f11
 show Code.wp _ _ _ a11 w11
 refine wp_ret ?_
 repeat (first | with_reducible refine then_ret ?_ | with_reducible refine block_ret ?_)
 refine ret1 (fn := Try.f29) rfl st11.defers e4 ?_
 exact ⟨congrArg _ (congrArg _ (by first | (symm; exact decide_eq_false (fun h => by subst h; omega)) | (symm; exact decide_eq_false (differ (by assumption))) | (symm; exact decide_eq_true (all_same q1 q0 q2 (by assumption))))), st11.ext0⟩
set_option maxRecDepth 100000 in
theorem eqFunc_c (v u : Value) (ts us : List Tr) (ih : ∀ k ∈ ts, ∀ (b : Tr) (w : World), TrS w k → TrS w b → Calls Try.prog 11 #[k.v, b.v] w (fun e w' => e = .returned (.bool (sameF k b)) ∧ Ext none' w w')) (w : World) (hS : TlS w v ts) (hU : TlS w u us) : Calls Try.prog 30 #[v, u, (.func (.func 11) #[] #[])] w (fun e w' => e = .returned (.bool (samesF ts us)) ∧ Ext none' w w') := by
 refine enter (n := 32) Try.func30 rfl rfl (Nat.le_of_ble_eq_true rfl) ?_
 intro a0 τ0 ha st0
 have e0 : get a0 0 = v := ha 0 _ rfl
 have e1 : get a0 1 = u := ha 1 _ rfl
 have e2 : get a0 2 = (.func (.func 11) #[] #[]) := ha 2 _ rfl
 clear ha
 have hle := hS.sl.le
 have hle2 := hU.sl.le
 refine wp_seq ?_
 refine region_St (bf := [0]) (sp := [det _ 6 _]) [] mixed st0 (by kernel_rfl) trivial
  ⟨Ob.d fun c => r_assign rfl rfl, trivial⟩ ?_
 intro a1 w1 τ1 st1 f1
 obtain ⟨e0, e1, e2, -⟩ := f1.ks [(0, _), (1, _), (2, _)] ⟨e0, e1, e2, trivial⟩
 have e6 : get a1 6 = (.bool (false)) := f1.v 0 rfl
 clear f1
 show Code.wp _ _ _ a1 w1
 refine wp_seq ?_
 refine wp_seq ?_
 refine region_St (bf := [0, 1, 0, 4, 15]) (sp := [det _ 10 _, det _ 11 _, det _ 12 _, det _ 13 _, det _ 14 _]) [] mixed st1 (by kernel_rfl) trivial
  ⟨Ob.d fun c => r_move rfl (c.p e0),
  Ob.d fun c => r_len rfl Try.underlying23 (c.n 0 rfl) (hS.at st1.ext).sl.sl,
  Ob.d fun c => r_move rfl (c.p e1),
  Ob.d fun c => r_len rfl Try.underlying23 (c.n 2 rfl) (hU.at st1.ext).sl.sl,
  Ob.d fun c => r_neq rfl (c.n 1 rfl) (c.n 3 rfl), trivial⟩ ?_
 intro a2 w2 τ2 st2 f2
 obtain ⟨e0, e1, e2, e6, -⟩ := f2.ks [(0, _), (1, _), (2, _), (6, _)] ⟨e0, e1, e2, e6, trivial⟩
 have e14 : get a2 14 = (.bool (!decide ((ts.length : Int) = (us.length : Int)))) := f2.v 4 rfl
 clear f2
 show Code.wp _ _ _ a2 w2
 refine wp_cond_split (t := !decide ((ts.length : Int) = (us.length : Int))) e14 (fun hc1 => ?_) (fun hc1 => ?_)
 · try simp only [Bool.not_eq_true', Bool.not_eq_false', decide_eq_true_eq, decide_eq_false_iff_not] at hc1
   refine wp_seq ?_
   refine region_St (bf := [0]) (sp := [det _ 6 _]) [] mixed st2 (by kernel_rfl) trivial
    ⟨Ob.d fun c => r_assign rfl rfl, trivial⟩ ?_
   intro a3 w3 τ3 st3 f3
   obtain ⟨e0, e1, e2, -⟩ := f3.ks [(0, _), (1, _), (2, _)] ⟨e0, e1, e2, trivial⟩
   have e6 : get a3 6 = (.bool (false)) := f3.v 0 rfl
   clear f3
   show Code.wp _ _ _ a3 w3
   refine wp_ret ?_
   repeat (first | with_reducible refine then_ret ?_ | with_reducible refine block_ret ?_)
   refine ret1 (fn := Try.f30) rfl st3.defers e6 ?_
   exact ⟨congrArg _ (congrArg _ (by first | exact (samesF_len (by omega)).symm | exact (samesF_no (k := k) (by omega) (by omega) (by simpa using (by assumption))).symm | exact (samesF_yes q1 (by omega) q2).symm)), st3.ext0⟩
 try simp only [Bool.not_eq_true', Bool.not_eq_false', decide_eq_true_eq, decide_eq_false_iff_not] at hc1
 refine wp_skip ?_
 show Code.wp _ _ _ a2 w2
 refine wp_seq ?_
 refine wp_seq ?_
 refine region_St (bf := [0, 1, 0]) (sp := [det _ 15 _, det _ 16 _, det _ 17 _]) [] mixed st2 (by kernel_rfl) trivial
  ⟨Ob.d fun c => r_move rfl (c.p e0),
  Ob.d fun c => r_len rfl Try.underlying23 (c.n 0 rfl) (hS.at st2.ext).sl.sl,
  Ob.d fun c => r_move rfl rfl, trivial⟩ ?_
 intro a4 w4 τ4 st4 f4
 obtain ⟨e1, e2, e6, -⟩ := f4.ks [(1, _), (2, _), (6, _)] ⟨e1, e2, e6, trivial⟩
 have e15 : get a4 15 = v := f4.v 0 rfl
 have e16 : get a4 16 = (.int .i64 ((ts.length : Int))) := f4.v 1 rfl
 have e17 : get a4 17 = (.int .i64 (0)) := f4.v 2 rfl
 clear f4
 show Code.wp _ _ _ a4 w4
 refine wp_block ?_
 refine wp_loop (fun a_ w_ => ∃ (k : Nat) (τ : Nat → Foot), (k ≤ ts.length) ∧
      (ts.length = us.length) ∧
      (ts.take k).map er = (us.take k).map er ∧
      St (Nw w) w 32 a_ w_ τ ∧
      get a_ 17 = (.int .i64 ((k : Int))) ∧
      get a_ 1 = u ∧
      get a_ 2 = (.func (.func 11) #[] #[]) ∧
      get a_ 15 = v ∧
      get a_ 16 = (.int .i64 ((ts.length : Int)))) (fun a_ _ => ts.length - (intOf (get a_ 17)).toNat) ?_ ?_
 · refine ⟨0, τ4, ?_, ?_, ?_, st4, (e17.trans (int_eq (by omega))), e1, e2, e15, e16⟩
   · omega
   · omega
   · simp
 intro a5 w5 hI
 obtain ⟨k, τ5, q0, q1, q2, st5, e17, e1, e2, e15, e16⟩ := hI
 have m17 := e17
 refine wp_seq ?_
 refine region_St (bf := [0]) (sp := [det _ 18 _]) [] mixed st5 (by kernel_rfl) trivial
  ⟨Ob.d fun c => r_lss rfl (c.p e17) (c.p e16), trivial⟩ ?_
 intro a6 w6 τ6 st6 f6
 obtain ⟨e1, e2, e15, e16, e17, -⟩ := f6.ks [(1, _), (2, _), (15, _), (16, _), (17, _)] ⟨e1, e2, e15, e16, e17, trivial⟩
 have e18 : get a6 18 = (.bool (decide ((k : Int) < (ts.length : Int)))) := f6.v 0 rfl
 clear f6
 show Code.wp _ _ _ a6 w6
 refine wp_seq ?_
 refine wp_cond_split (t := decide ((k : Int) < (ts.length : Int))) e18 (fun hc2 => ?_) (fun hc2 => ?_)
 · try simp only [decide_eq_true_eq] at hc2
   refine wp_skip ?_
   show Code.wp _ _ _ a6 w6
   refine wp_seq ?_
   refine wp_block ?_
   refine wp_seq ?_
   refine region_St (bf := [0, 0, 2, 0, 15, 31]) (sp := [det _ 19 _, det _ 20 _, det _ 21 _, box _ _ 0 8 [(.int .i64 (0)), (.string ((⟨#[]⟩ : ByteArray))), (.bool (false)), (.slice none 0 0), (.int .i64 (0)), (.int .i64 (0)), (.bool (false)), (.slice none 0 0)], det _ 7 _, box _ _ 0 8 [(.int .i64 ((nth ts ((k : Int))).k)), (.string ((nth ts ((k : Int))).ch)), (.bool ((nth ts ((k : Int))).ng)), (nth ts ((k : Int))).rv.v, (.int .i64 ((nth ts ((k : Int))).mn)), (.int .i64 ((nth ts ((k : Int))).mx)), (.bool ((nth ts ((k : Int))).lz)), (nth ts ((k : Int))).kv.v]]) [] mixed st6 (by kernel_rfl) trivial
    ⟨Ob.d fun c => r_move rfl (c.p e17),
    Ob.d fun c => r_indexAddr rfl Try.underlying23 Try.sizeOf25 (c.p e15) (hS.at st6.ext).sl.sl (c.p e17) (by omega) (by omega),
    Ob.d fun c => r_loadN (vs := [(.int .i64 ((nth ts ((k : Int))).k)), (.string ((nth ts ((k : Int))).ch)), (.bool ((nth ts ((k : Int))).ng)), (nth ts ((k : Int))).rv.v, (.int .i64 ((nth ts ((k : Int))).mn)), (.int .i64 ((nth ts ((k : Int))).mx)), (.bool ((nth ts ((k : Int))).lz)), (nth ts ((k : Int))).kv.v]) rfl Try.isAgg25 Try.sizeOf25 (c.n 1 rfl) rfl (fun _ _ hj => ((hS.at (st6.ext.trans c.J.ext)).sl).elem (nth_some (i := (k : Int)) (by omega) (by omega)) hj),
    Ob.alloc rfl rfl rfl rfl Try.zeroValue25 rfl,
    Ob.d fun c => r_assign rfl (c.n 0 rfl),
    Ob.storeBox (off := 0) (v := (.agg #[(.int .i64 ((nth ts ((k : Int))).k)), (.string ((nth ts ((k : Int))).ch)), (.bool ((nth ts ((k : Int))).ng)), (nth ts ((k : Int))).rv.v, (.int .i64 ((nth ts ((k : Int))).mn)), (.int .i64 ((nth ts ((k : Int))).mx)), (.bool ((nth ts ((k : Int))).lz)), (nth ts ((k : Int))).kv.v])) rfl rfl rfl rfl Try.sizeOf25 (Nat.le_of_ble_eq_true rfl) (by simp [Value.cells, Value.oneCell', Sv.v]) rfl (fun _ _ _ _ c => ⟨c.rb 3 rfl, (c.rb 3 rfl).ptr, (c.n 2 rfl)⟩), trivial⟩ ?_
   intro a7 w7 τ7 st7 f7
   obtain ⟨b7x8, e8⟩ : ∃ b, get a7 8 = b := ⟨_, rfl⟩
   obtain ⟨e1, e2, e15, e16, e17, e18, -⟩ := f7.ks [(1, _), (2, _), (15, _), (16, _), (17, _), (18, _)] ⟨e1, e2, e15, e16, e17, e18, trivial⟩
   have e7 : get a7 7 = (.int .i64 ((k : Int))) := f7.v 4 rfl
   have r0 : boxR 25 [(.int .i64 ((nth ts ((k : Int))).k)), (.string ((nth ts ((k : Int))).ch)), (.bool ((nth ts ((k : Int))).ng)), (nth ts ((k : Int))).rv.v, (.int .i64 ((nth ts ((k : Int))).mn)), (.int .i64 ((nth ts ((k : Int))).mx)), (.bool ((nth ts ((k : Int))).lz)), (nth ts ((k : Int))).kv.v] (τ7 0) b7x8 w7 := f7.rb 5 e8 rfl
   clear f7
   show Code.wp _ _ _ a7 w7
   refine wp_seq ?_
   refine region_St (bf := [0, 0, 3, 7, 0, 31]) (sp := [det _ 22 _, det _ 23 _, det _ 24 _, det _ 25 _, box _ _ 1 9 [(.int .i64 (0)), (.string ((⟨#[]⟩ : ByteArray))), (.bool (false)), (.slice none 0 0), (.int .i64 (0)), (.int .i64 (0)), (.bool (false)), (.slice none 0 0)], box _ _ 1 9 [(.int .i64 ((nth us ((k : Int))).k)), (.string ((nth us ((k : Int))).ch)), (.bool ((nth us ((k : Int))).ng)), (nth us ((k : Int))).rv.v, (.int .i64 ((nth us ((k : Int))).mn)), (.int .i64 ((nth us ((k : Int))).mx)), (.bool ((nth us ((k : Int))).lz)), (nth us ((k : Int))).kv.v]]) [ib r0] mixed st7 (by kernel_rfl) ⟨r0, trivial⟩
    ⟨Ob.d fun c => r_move rfl (c.p e1),
    Ob.d fun c => r_move rfl (c.p e7),
    Ob.d fun c => r_indexAddr rfl Try.underlying23 Try.sizeOf25 (c.n 0 rfl) (hU.at st7.ext).sl.sl (c.n 1 rfl) (by omega) (by omega),
    Ob.d fun c => r_loadN (vs := [(.int .i64 ((nth us ((k : Int))).k)), (.string ((nth us ((k : Int))).ch)), (.bool ((nth us ((k : Int))).ng)), (nth us ((k : Int))).rv.v, (.int .i64 ((nth us ((k : Int))).mn)), (.int .i64 ((nth us ((k : Int))).mx)), (.bool ((nth us ((k : Int))).lz)), (nth us ((k : Int))).kv.v]) rfl Try.isAgg25 Try.sizeOf25 (c.n 2 rfl) rfl (fun _ _ hj => ((hU.at (st7.ext.trans c.J.ext)).sl).elem (nth_some (i := (k : Int)) (by omega) (by omega)) hj),
    Ob.alloc rfl rfl rfl rfl Try.zeroValue25 rfl,
    Ob.storeBox (off := 0) (v := (.agg #[(.int .i64 ((nth us ((k : Int))).k)), (.string ((nth us ((k : Int))).ch)), (.bool ((nth us ((k : Int))).ng)), (nth us ((k : Int))).rv.v, (.int .i64 ((nth us ((k : Int))).mn)), (.int .i64 ((nth us ((k : Int))).mx)), (.bool ((nth us ((k : Int))).lz)), (nth us ((k : Int))).kv.v])) rfl rfl rfl rfl Try.sizeOf25 (Nat.le_of_ble_eq_true rfl) (by simp [Value.cells, Value.oneCell', Sv.v]) rfl (fun _ _ _ _ c => ⟨c.rb 4 rfl, (c.rb 4 rfl).ptr, (c.n 3 rfl)⟩), trivial⟩ ?_
   intro a8 w8 τ8 st8 f8
   obtain ⟨b8x9, e9⟩ : ∃ b, get a8 9 = b := ⟨_, rfl⟩
   obtain ⟨e1, e2, e7, e8, e15, e16, e17, e18, -⟩ := f8.ks [(1, _), (2, _), (7, _), (8, _), (15, _), (16, _), (17, _), (18, _)] ⟨e1, e2, e7, e8, e15, e16, e17, e18, trivial⟩
   replace r0 := f8.ib 0 rfl
   have r1 : boxR 25 [(.int .i64 ((nth us ((k : Int))).k)), (.string ((nth us ((k : Int))).ch)), (.bool ((nth us ((k : Int))).ng)), (nth us ((k : Int))).rv.v, (.int .i64 ((nth us ((k : Int))).mn)), (.int .i64 ((nth us ((k : Int))).mx)), (.bool ((nth us ((k : Int))).lz)), (nth us ((k : Int))).kv.v] (τ8 1) b8x9 w8 := f8.rb 5 e9 rfl
   clear f8
   show Code.wp _ _ _ a8 w8
   refine wp_seq ?_
   refine region_St (bf := [0, 0, 0, 7, 15]) (sp := [det _ 26 _, det _ 27 _, det _ 28 _, det _ 29 _, det _ 30 _]) [ib r0, ib r1] mixed st8 (by kernel_rfl) ⟨r0, r1, trivial⟩
    ⟨Ob.d fun c => r_move rfl (c.p e2),
    Ob.d fun c => r_loadN (vs := [(.int .i64 ((nth ts ((k : Int))).k)), (.string ((nth ts ((k : Int))).ch)), (.bool ((nth ts ((k : Int))).ng)), (nth ts ((k : Int))).rv.v, (.int .i64 ((nth ts ((k : Int))).mn)), (.int .i64 ((nth ts ((k : Int))).mx)), (.bool ((nth ts ((k : Int))).lz)), (nth ts ((k : Int))).kv.v]) rfl Try.isAgg25 Try.sizeOf25 ((c.p e8).trans r0.ptr) rfl (fun _ _ hj => (c.ib 0 rfl).cell hj),
    Ob.d fun c => r_loadN (vs := [(.int .i64 ((nth us ((k : Int))).k)), (.string ((nth us ((k : Int))).ch)), (.bool ((nth us ((k : Int))).ng)), (nth us ((k : Int))).rv.v, (.int .i64 ((nth us ((k : Int))).mn)), (.int .i64 ((nth us ((k : Int))).mx)), (.bool ((nth us ((k : Int))).lz)), (nth us ((k : Int))).kv.v]) rfl Try.isAgg25 Try.sizeOf25 ((c.p e9).trans r1.ptr) rfl (fun _ _ hj => (c.ib 1 rfl).cell hj),
    Ob.c fun c => ⟨_, _, (e_call2 rfl (c.n 0 rfl) Try.call11 (c.n 1 rfl) (c.n 2 rfl)), ih _ (nth_memI (by omega) (by omega)) (nth us ((k : Int))) _ ((hS.at (st8.ext.trans c.J.ext)).el (by omega) (by omega)) ((hU.at (st8.ext.trans c.J.ext)).el (by omega) (by omega))⟩,
    Ob.d fun c => r_not rfl (c.n 3 rfl), trivial⟩ ?_
   intro a9 w9 τ9 st9 f9
   obtain ⟨e1, e2, e7, e8, e9, e15, e16, e17, e18, -⟩ := f9.ks [(1, _), (2, _), (7, _), (8, _), (9, _), (15, _), (16, _), (17, _), (18, _)] ⟨e1, e2, e7, e8, e9, e15, e16, e17, e18, trivial⟩
   have e30 : get a9 30 = (.bool (!(sameF (nth ts ((k : Int))) (nth us ((k : Int)))))) := f9.v 4 rfl
   replace r0 := f9.ib 0 rfl
   replace r1 := f9.ib 1 rfl
   clear f9
   show Code.wp _ _ _ a9 w9
   refine wp_cond_split (t := !(sameF (nth ts ((k : Int))) (nth us ((k : Int))))) e30 (fun hc3 => ?_) (fun hc3 => ?_)
   · have hd3 := hc3; try simp only [Bool.not_eq_true', Bool.not_eq_false'] at hd3
     refine wp_seq ?_
     refine region_St (bf := [0]) (sp := [det _ 6 _]) [ib r0, ib r1] mixed st9 (by kernel_rfl) ⟨r0, r1, trivial⟩
      ⟨Ob.d fun c => r_assign rfl rfl, trivial⟩ ?_
     intro a10 w10 τ10 st10 f10
     obtain ⟨e1, e2, e7, e8, e9, e15, e16, e17, e18, e30, -⟩ := f10.ks [(1, _), (2, _), (7, _), (8, _), (9, _), (15, _), (16, _), (17, _), (18, _), (30, _)] ⟨e1, e2, e7, e8, e9, e15, e16, e17, e18, e30, trivial⟩
     have e6 : get a10 6 = (.bool (false)) := f10.v 0 rfl
     replace r0 := f10.ib 0 rfl
     replace r1 := f10.ib 1 rfl
     clear f10
     show Code.wp _ _ _ a10 w10
     refine wp_ret ?_
     repeat (first | with_reducible refine then_ret ?_ | with_reducible refine block_ret ?_)
     refine ret1 (fn := Try.f30) rfl st10.defers e6 ?_
     exact ⟨congrArg _ (congrArg _ (by first | exact (samesF_len (by omega)).symm | exact (samesF_no (k := k) (by omega) (by omega) (by simpa using (by assumption))).symm | exact (samesF_yes q1 (by omega) q2).symm)), st10.ext0⟩
   have hd3 := hc3; try simp only [Bool.not_eq_true', Bool.not_eq_false'] at hd3
   refine wp_skip ?_
   show _
   show Code.wp _ _ _ a9 w9
   refine region_St (bf := [0, 1]) (sp := [det _ 31 _, det _ 17 _]) [ib r0, ib r1] mixed st9 (by kernel_rfl) ⟨r0, r1, trivial⟩
    ⟨Ob.d fun c => r_add rfl (c.p e17) rfl (by omega),
    Ob.d fun c => r_move rfl (c.n 0 rfl), trivial⟩ ?_
   intro a11 w11 τ11 st11 f11
   obtain ⟨e1, e2, e7, e8, e9, e15, e16, e18, e30, -⟩ := f11.ks [(1, _), (2, _), (7, _), (8, _), (9, _), (15, _), (16, _), (18, _), (30, _)] ⟨e1, e2, e7, e8, e9, e15, e16, e18, e30, trivial⟩
   have e17 : get a11 17 = (.int .i64 ((k : Int) + 1)) := f11.v 1 rfl
   replace r0 := f11.ib 0 rfl
   replace r1 := f11.ib 1 rfl
   clear f11
   refine ⟨⟨k + 1, τ11, ?_, ?_, ?_, st11, (e17.trans (int_eq (by omega))), e1, e2, e15, e16⟩, ?_⟩
   · omega
   · omega
   · exact samesF_step (by omega) (by omega) q2 (by simpa using (by assumption))
   · simp only [m17, e17, intOf]; omega
 try simp only [decide_eq_false_iff_not, Int.not_lt] at hc2
 refine wp_exit ?_
 repeat (with_reducible refine then_exit ?_)
 refine exit_here ?_
 show Code.wp _ _ _ a6 w6
 refine wp_seq ?_
 refine region_St (bf := [0]) (sp := [det _ 6 _]) [] mixed st6 (by kernel_rfl) trivial
  ⟨Ob.d fun c => r_assign rfl rfl, trivial⟩ ?_
 intro a12 w12 τ12 st12 f12
 have e6 : get a12 6 = (.bool (true)) := f12.v 0 rfl
 clear f12
 show Code.wp _ _ _ a12 w12
 refine wp_ret ?_
 repeat (first | with_reducible refine then_ret ?_ | with_reducible refine block_ret ?_)
 refine ret1 (fn := Try.f30) rfl st12.defers e6 ?_
 exact ⟨congrArg _ (congrArg _ (by first | exact (samesF_len (by omega)).symm | exact (samesF_no (k := k) (by omega) (by omega) (by simpa using (by assumption))).symm | exact (samesF_yes q1 (by omega) q2).symm)), st12.ext0⟩
set_option maxRecDepth 100000 in
theorem same_c_step (t : Tr) (ih : ∀ k ∈ t.kids, ∀ (b : Tr) (w : World), TrS w k → TrS w b → Calls Try.prog 11 #[k.v, b.v] w (fun e w' => e = .returned (.bool (sameF k b)) ∧ Ext none' w w')) (b : Tr) (w : World) (hT : TrS w t) (hB : TrS w b) : Calls Try.prog 11 #[t.v, b.v] w (fun e w' => e = .returned (.bool (sameF t b)) ∧ Ext none' w w') := by
 refine enter (n := 59) Try.func11 rfl rfl (Nat.le_of_ble_eq_true rfl) ?_
 intro a0 τ0 ha st0
 have e0 : get a0 0 = (.agg #[(.int .i64 (t.k)), (.string (t.ch)), (.bool (t.ng)), t.rv.v, (.int .i64 (t.mn)), (.int .i64 (t.mx)), (.bool (t.lz)), t.kv.v]) := ha 0 _ rfl
 have e1 : get a0 1 = (.agg #[(.int .i64 (b.k)), (.string (b.ch)), (.bool (b.ng)), b.rv.v, (.int .i64 (b.mn)), (.int .i64 (b.mx)), (.bool (b.lz)), b.kv.v]) := ha 1 _ rfl
 clear ha
 have hle := hT.kids.le
 have hle2 := hB.kids.le
 have hle3 := hT.rows.le
 have hle4 := hB.rows.le
 refine wp_seq ?_
 refine region_St (bf := [0, 0, 0]) (sp := [box _ _ 0 2 [(.int .i64 (t.k)), (.string (t.ch)), (.bool (t.ng)), t.rv.v, (.int .i64 (t.mn)), (.int .i64 (t.mx)), (.bool (t.lz)), t.kv.v], box _ _ 1 3 [(.int .i64 (b.k)), (.string (b.ch)), (.bool (b.ng)), b.rv.v, (.int .i64 (b.mn)), (.int .i64 (b.mx)), (.bool (b.lz)), b.kv.v], det _ 4 _]) [] mixed st0 (by kernel_rfl) trivial
  ⟨Ob.box (v := (.agg #[(.int .i64 (t.k)), (.string (t.ch)), (.bool (t.ng)), t.rv.v, (.int .i64 (t.mn)), (.int .i64 (t.mx)), (.bool (t.lz)), t.kv.v])) rfl rfl rfl rfl rfl (fun _ _ _ _ c => (c.p e0)),
  Ob.box (v := (.agg #[(.int .i64 (b.k)), (.string (b.ch)), (.bool (b.ng)), b.rv.v, (.int .i64 (b.mn)), (.int .i64 (b.mx)), (.bool (b.lz)), b.kv.v])) rfl rfl rfl rfl rfl (fun _ _ _ _ c => (c.p e1)),
  Ob.d fun c => r_assign rfl rfl, trivial⟩ ?_
 intro a1 w1 τ1 st1 f1
 obtain ⟨b1x2, e2⟩ : ∃ b, get a1 2 = b := ⟨_, rfl⟩
 obtain ⟨b1x3, e3⟩ : ∃ b, get a1 3 = b := ⟨_, rfl⟩
 have e4 : get a1 4 = (.bool (false)) := f1.v 2 rfl
 have r0 : boxR 25 [(.int .i64 (t.k)), (.string (t.ch)), (.bool (t.ng)), t.rv.v, (.int .i64 (t.mn)), (.int .i64 (t.mx)), (.bool (t.lz)), t.kv.v] (τ1 0) b1x2 w1 := f1.rb 0 e2 rfl
 have r1 : boxR 25 [(.int .i64 (b.k)), (.string (b.ch)), (.bool (b.ng)), b.rv.v, (.int .i64 (b.mn)), (.int .i64 (b.mx)), (.bool (b.lz)), b.kv.v] (τ1 1) b1x3 w1 := f1.rb 1 e3 rfl
 clear f1
 show Code.wp _ _ _ a1 w1
 refine wp_seq ?_
 refine region_St (bf := [0, 1, 0, 4, 15, 31, 63, 127, 63, 319, 1023, 2047, 4095, 8191, 16383, 8191, 40959, 131071, 262143, 524287, 1048575, 2097151, 1048575, 5242879, 16777215, 33554431, 67108863, 134217727, 268435455, 134217727, 671088639, 2147483647, 4294967295, 8589934591, 17179869183, 34359738367, 17179869183, 85899345919, 274877906943, 549755813887, 1099511627775, 2199023255551, 4398046511103, 2199023255551, 10995116277759, 35184372088831, 70368744177663, 140737488355327, 281474976710655, 562949953421311, 281474976710655, 1407374883553279, 4503599627370495, 9007199254740991, 18014398509481983]) (sp := [det _ 5 _, det _ 6 _, det _ 7 _, det _ 8 _, det _ 9 _, det _ 10 _, gdet _ 11 _ _, gdet _ 12 _ _, gdet _ 13 _ _, gdet _ 14 _ _, gdet _ 15 _ _, det _ 16 _, det _ 17 _, gdet _ 18 _ _, gdet _ 19 _ _, gdet _ 20 _ _, gdet _ 21 _ _, gdet _ 22 _ _, det _ 23 _, det _ 24 _, gdet _ 25 _ _, gdet _ 26 _ _, gdet _ 27 _ _, gdet _ 28 _ _, gdet _ 29 _ _, det _ 30 _, det _ 31 _, gdet _ 32 _ _, gdet _ 33 _ _, gdet _ 34 _ _, gdet _ 35 _ _, gdet _ 36 _ _, det _ 37 _, det _ 38 _, gdet _ 39 _ _, gdet _ 40 _ _, gdet _ 41 _ _, gdet _ 42 _ _, gdet _ 43 _ _, det _ 44 _, det _ 45 _, gdet _ 46 _ _, gdet _ 47 _ _, gdet _ 48 _ _, gdet _ 49 _ _, gdet _ 50 _ _, det _ 51 _, det _ 52 _, gdet _ 53 _ _, gdet _ 54 _ _, gdet _ 55 _ _, gdet _ 56 _ _, gdet _ 57 _ _, det _ 58 _, det _ 4 _]) [ib r0, ib r1] mixed st1 (by kernel_rfl) ⟨r0, r1, trivial⟩
  ⟨Ob.d fun c => r_fieldAddr rfl Try.underlying25 rfl rfl Try.sizeOf3 ((c.p e2).trans r0.ptr),
  Ob.d fun c => r_load1 rfl Try.isAgg3 (c.n 0 rfl) ((c.ib 0 rfl).cell (j := 0) rfl),
  Ob.d fun c => r_fieldAddr rfl Try.underlying25 rfl rfl Try.sizeOf3 ((c.p e3).trans r1.ptr),
  Ob.d fun c => r_load1 rfl Try.isAgg3 (c.n 2 rfl) ((c.ib 1 rfl).cell (j := 0) rfl),
  Ob.d fun c => r_eql rfl (c.n 1 rfl) (c.n 3 rfl),
  Ob.d fun c => r_move rfl (c.n 4 rfl),
  Ob.g 5 true rfl fun c hpc => r_fieldAddr rfl Try.underlying25 rfl rfl Try.sizeOf9 ((c.p e2).trans r0.ptr),
  Ob.g 5 true rfl fun c hpc => r_load1 rfl Try.isAgg9 (c.m 6 rfl hpc) ((c.ib 0 rfl).cell (j := 1) rfl),
  Ob.g 5 true rfl fun c hpc => r_fieldAddr rfl Try.underlying25 rfl rfl Try.sizeOf9 ((c.p e3).trans r1.ptr),
  Ob.g 5 true rfl fun c hpc => r_load1 rfl Try.isAgg9 (c.m 8 rfl hpc) ((c.ib 1 rfl).cell (j := 1) rfl),
  Ob.g 5 true rfl fun c hpc => r_seql rfl (c.m 7 rfl hpc) (c.m 9 rfl hpc),
  Ob.d fun c => r_and rfl (c.n 5 rfl) (fun h => c.m 10 rfl h),
  Ob.d fun c => r_move rfl (c.n 11 rfl),
  Ob.g 12 true rfl fun c hpc => r_fieldAddr rfl Try.underlying25 rfl rfl Try.sizeOf4 ((c.p e2).trans r0.ptr),
  Ob.g 12 true rfl fun c hpc => r_load1 rfl Try.isAgg4 (c.m 13 rfl hpc) ((c.ib 0 rfl).cell (j := 2) rfl),
  Ob.g 12 true rfl fun c hpc => r_fieldAddr rfl Try.underlying25 rfl rfl Try.sizeOf4 ((c.p e3).trans r1.ptr),
  Ob.g 12 true rfl fun c hpc => r_load1 rfl Try.isAgg4 (c.m 15 rfl hpc) ((c.ib 1 rfl).cell (j := 2) rfl),
  Ob.g 12 true rfl fun c hpc => r_beql rfl Try.underlying4 (c.m 14 rfl hpc) (c.m 16 rfl hpc),
  Ob.d fun c => r_and rfl (c.n 12 rfl) (fun h => c.m 17 rfl h),
  Ob.d fun c => r_move rfl (c.n 18 rfl),
  Ob.g 19 true rfl fun c hpc => r_fieldAddr rfl Try.underlying25 rfl rfl Try.sizeOf22 ((c.p e2).trans r0.ptr),
  Ob.g 19 true rfl fun c hpc => r_load1 rfl Try.isAgg22 (c.m 20 rfl hpc) ((c.ib 0 rfl).cell (j := 3) rfl),
  Ob.g 19 true rfl fun c hpc => r_fieldAddr rfl Try.underlying25 rfl rfl Try.sizeOf22 ((c.p e3).trans r1.ptr),
  Ob.g 19 true rfl fun c hpc => r_load1 rfl Try.isAgg22 (c.m 22 rfl hpc) ((c.ib 1 rfl).cell (j := 3) rfl),
  Ob.gc 19 true rfl fun c hpc => ⟨_, _, (e_call2 rfl rfl Try.call29 (c.m 21 rfl hpc) (c.m 23 rfl hpc)), eqRows_c t.rv.v b.rv.v t.rows b.rows _ (hT.at (st1.ext.trans c.J.ext)).rows (hB.at (st1.ext.trans c.J.ext)).rows⟩,
  Ob.d fun c => r_and rfl (c.n 19 rfl) (fun h => c.m 24 rfl h),
  Ob.d fun c => r_move rfl (c.n 25 rfl),
  Ob.g 26 true rfl fun c hpc => r_fieldAddr rfl Try.underlying25 rfl rfl Try.sizeOf3 ((c.p e2).trans r0.ptr),
  Ob.g 26 true rfl fun c hpc => r_load1 rfl Try.isAgg3 (c.m 27 rfl hpc) ((c.ib 0 rfl).cell (j := 4) rfl),
  Ob.g 26 true rfl fun c hpc => r_fieldAddr rfl Try.underlying25 rfl rfl Try.sizeOf3 ((c.p e3).trans r1.ptr),
  Ob.g 26 true rfl fun c hpc => r_load1 rfl Try.isAgg3 (c.m 29 rfl hpc) ((c.ib 1 rfl).cell (j := 4) rfl),
  Ob.g 26 true rfl fun c hpc => r_eql rfl (c.m 28 rfl hpc) (c.m 30 rfl hpc),
  Ob.d fun c => r_and rfl (c.n 26 rfl) (fun h => c.m 31 rfl h),
  Ob.d fun c => r_move rfl (c.n 32 rfl),
  Ob.g 33 true rfl fun c hpc => r_fieldAddr rfl Try.underlying25 rfl rfl Try.sizeOf3 ((c.p e2).trans r0.ptr),
  Ob.g 33 true rfl fun c hpc => r_load1 rfl Try.isAgg3 (c.m 34 rfl hpc) ((c.ib 0 rfl).cell (j := 5) rfl),
  Ob.g 33 true rfl fun c hpc => r_fieldAddr rfl Try.underlying25 rfl rfl Try.sizeOf3 ((c.p e3).trans r1.ptr),
  Ob.g 33 true rfl fun c hpc => r_load1 rfl Try.isAgg3 (c.m 36 rfl hpc) ((c.ib 1 rfl).cell (j := 5) rfl),
  Ob.g 33 true rfl fun c hpc => r_eql rfl (c.m 35 rfl hpc) (c.m 37 rfl hpc),
  Ob.d fun c => r_and rfl (c.n 33 rfl) (fun h => c.m 38 rfl h),
  Ob.d fun c => r_move rfl (c.n 39 rfl),
  Ob.g 40 true rfl fun c hpc => r_fieldAddr rfl Try.underlying25 rfl rfl Try.sizeOf4 ((c.p e2).trans r0.ptr),
  Ob.g 40 true rfl fun c hpc => r_load1 rfl Try.isAgg4 (c.m 41 rfl hpc) ((c.ib 0 rfl).cell (j := 6) rfl),
  Ob.g 40 true rfl fun c hpc => r_fieldAddr rfl Try.underlying25 rfl rfl Try.sizeOf4 ((c.p e3).trans r1.ptr),
  Ob.g 40 true rfl fun c hpc => r_load1 rfl Try.isAgg4 (c.m 43 rfl hpc) ((c.ib 1 rfl).cell (j := 6) rfl),
  Ob.g 40 true rfl fun c hpc => r_beql rfl Try.underlying4 (c.m 42 rfl hpc) (c.m 44 rfl hpc),
  Ob.d fun c => r_and rfl (c.n 40 rfl) (fun h => c.m 45 rfl h),
  Ob.d fun c => r_move rfl (c.n 46 rfl),
  Ob.g 47 true rfl fun c hpc => r_fieldAddr rfl Try.underlying25 rfl rfl Try.sizeOf23 ((c.p e2).trans r0.ptr),
  Ob.g 47 true rfl fun c hpc => r_load1 rfl Try.isAgg23 (c.m 48 rfl hpc) ((c.ib 0 rfl).cell (j := 7) rfl),
  Ob.g 47 true rfl fun c hpc => r_fieldAddr rfl Try.underlying25 rfl rfl Try.sizeOf23 ((c.p e3).trans r1.ptr),
  Ob.g 47 true rfl fun c hpc => r_load1 rfl Try.isAgg23 (c.m 50 rfl hpc) ((c.ib 1 rfl).cell (j := 7) rfl),
  Ob.gc 47 true rfl fun c hpc => ⟨_, _, (e_call3 rfl rfl Try.call30 (c.m 49 rfl hpc) (c.m 51 rfl hpc) rfl), eqFunc_c _ _ _ _ ih _ (hT.at (st1.ext.trans c.J.ext)).tl (hB.at (st1.ext.trans c.J.ext)).tl⟩,
  Ob.d fun c => r_and rfl (c.n 47 rfl) (fun h => c.m 52 rfl h),
  Ob.d fun c => r_assign rfl (c.n 53 rfl), trivial⟩ ?_
 intro a2 w2 τ2 st2 f2
 have e4 : get a2 4 = (.bool ((((((((decide (t.k = b.k)) && (eqT t.ch b.ch)) && (t.ng == b.ng)) && (decide (t.rows = b.rows))) && (decide (t.mn = b.mn))) && (decide (t.mx = b.mx))) && (t.lz == b.lz)) && (samesF t.kids b.kids))) := f2.v 54 rfl
 clear f2
 show Code.wp _ _ _ a2 w2
 refine wp_ret ?_
 repeat (first | with_reducible refine then_ret ?_ | with_reducible refine block_ret ?_)
 refine ret1 (fn := Try.f11) rfl st2.defers e4 ?_
 exact ⟨congrArg _ (congrArg _ (by rw [Bool.eq_iff_iff, sameF_parts]; simp [eqT_iff, and_assoc])), st2.ext0⟩
theorem same_c (t : Tr) : ∀ (b : Tr) (w : World), TrS w t → TrS w b → Calls Try.prog 11 #[t.v, b.v] w (fun e w' => e = .returned (.bool (sameF t b)) ∧ Ext none' w w') := Tr.ind (P := fun t => ∀ (b : Tr) (w : World), TrS w t → TrS w b → Calls Try.prog 11 #[t.v, b.v] w (fun e w' => e = .returned (.bool (sameF t b)) ∧ Ext none' w w')) same_c_step t
end B
end Go.Proofs.Ytocmchlhbniloaa
namespace Go.Proofs.Ytocmchlhbniloaa
namespace B
open Go.RowKit
open Srt
def bareF (ch : ByteArray) (ng : Bool) (rows : List Rw) (mn mx : Int) (lz : Bool) : Bool := ((((eqT ch (⟨#[]⟩ : ByteArray) && !ng) && decide ((rows.length : Int) = 0)) && decide (mn = 0)) && decide (mx = 0)) && !lz
set_option maxRecDepth 100000 in
theorem bare_c (k : Int) (ch : ByteArray) (ng : Bool) (rv : Value) (rows : List (ByteArray × ByteArray)) (mn mx : Int) (lz : Bool) (kv : Value) (ho : kv.oneCell' = true) (w : World) (hS : SlT RowE w rv rows) : Calls Try.prog 50 #[(.agg #[(.int .i64 (k)), (.string (ch)), (.bool (ng)), rv, (.int .i64 (mn)), (.int .i64 (mx)), (.bool (lz)), kv])] w (fun e w' => e = .returned (.bool (bareF ch ng rows mn mx lz)) ∧ Ext none' w w') := by
 refine enter (n := 32) Try.func50 rfl rfl (Nat.le_of_ble_eq_true rfl) ?_
 intro a0 τ0 ha st0
 have e0 : get a0 0 = (.agg #[(.int .i64 (k)), (.string (ch)), (.bool (ng)), rv, (.int .i64 (mn)), (.int .i64 (mx)), (.bool (lz)), kv]) := ha 0 _ rfl
 clear ha
 refine wp_seq ?_
 refine region_St (bf := [0, 0]) (sp := [box _ _ 0 1 [(.int .i64 (k)), (.string (ch)), (.bool (ng)), rv, (.int .i64 (mn)), (.int .i64 (mx)), (.bool (lz)), kv], det _ 2 _]) [] mixed st0 (by kernel_rfl) trivial
  ⟨Ob.box (v := (.agg #[(.int .i64 (k)), (.string (ch)), (.bool (ng)), rv, (.int .i64 (mn)), (.int .i64 (mx)), (.bool (lz)), kv])) rfl rfl rfl rfl rfl (fun _ _ _ _ c => (c.p e0)),
  Ob.d fun c => r_assign rfl rfl, trivial⟩ ?_
 intro a1 w1 τ1 st1 f1
 obtain ⟨b1x1, e1⟩ : ∃ b, get a1 1 = b := ⟨_, rfl⟩
 have e2 : get a1 2 = (.bool (false)) := f1.v 1 rfl
 have r0 : boxR 25 [(.int .i64 (k)), (.string (ch)), (.bool (ng)), rv, (.int .i64 (mn)), (.int .i64 (mx)), (.bool (lz)), kv] (τ1 0) b1x1 w1 := f1.rb 0 e1 rfl
 clear f1
 show Code.wp _ _ _ a1 w1
 refine wp_seq ?_
 refine region_St (bf := [0, 1, 3, 7, 15, 31, 63, 127, 255, 511, 1023, 2047, 4095, 8191, 16383, 32767, 65535, 131071, 262143, 524287, 1048575, 2097151, 4194303, 8388607, 16777215, 33554431, 67108863, 134217727, 268435455, 536870911]) (sp := [det _ 3 _, det _ 4 _, det _ 5 _, det _ 6 _, gdet _ 7 _ _, gdet _ 8 _ _, gdet _ 9 _ _, det _ 10 _, det _ 11 _, gdet _ 12 _ _, gdet _ 13 _ _, gdet _ 14 _ _, gdet _ 15 _ _, det _ 16 _, det _ 17 _, gdet _ 18 _ _, gdet _ 19 _ _, gdet _ 20 _ _, det _ 21 _, det _ 22 _, gdet _ 23 _ _, gdet _ 24 _ _, gdet _ 25 _ _, det _ 26 _, det _ 27 _, gdet _ 28 _ _, gdet _ 29 _ _, gdet _ 30 _ _, det _ 31 _, det _ 2 _]) [ib r0] mixed st1 (by kernel_rfl) ⟨r0, trivial⟩
  ⟨Ob.d fun c => r_fieldAddr rfl Try.underlying25 rfl rfl Try.sizeOf9 ((c.p e1).trans r0.ptr),
  Ob.d fun c => r_load1 rfl Try.isAgg9 (c.n 0 rfl) ((c.ib 0 rfl).cell (j := 1) rfl),
  Ob.d fun c => r_seql rfl (c.n 1 rfl) rfl,
  Ob.d fun c => r_move rfl (c.n 2 rfl),
  Ob.g 3 true rfl fun c hpc => r_fieldAddr rfl Try.underlying25 rfl rfl Try.sizeOf4 ((c.p e1).trans r0.ptr),
  Ob.g 3 true rfl fun c hpc => r_load1 rfl Try.isAgg4 (c.m 4 rfl hpc) ((c.ib 0 rfl).cell (j := 2) rfl),
  Ob.g 3 true rfl fun c hpc => r_not rfl (c.m 5 rfl hpc),
  Ob.d fun c => r_and rfl (c.n 3 rfl) (fun h => c.m 6 rfl h),
  Ob.d fun c => r_move rfl (c.n 7 rfl),
  Ob.g 8 true rfl fun c hpc => r_fieldAddr rfl Try.underlying25 rfl rfl Try.sizeOf22 ((c.p e1).trans r0.ptr),
  Ob.g 8 true rfl fun c hpc => r_load1 rfl Try.isAgg22 (c.m 9 rfl hpc) ((c.ib 0 rfl).cell (j := 3) rfl),
  Ob.g 8 true rfl fun c hpc => r_len rfl Try.underlying22 (c.m 10 rfl hpc) hS.sl,
  Ob.g 8 true rfl fun c hpc => r_eql rfl (c.m 11 rfl hpc) rfl,
  Ob.d fun c => r_and rfl (c.n 8 rfl) (fun h => c.m 12 rfl h),
  Ob.d fun c => r_move rfl (c.n 13 rfl),
  Ob.g 14 true rfl fun c hpc => r_fieldAddr rfl Try.underlying25 rfl rfl Try.sizeOf3 ((c.p e1).trans r0.ptr),
  Ob.g 14 true rfl fun c hpc => r_load1 rfl Try.isAgg3 (c.m 15 rfl hpc) ((c.ib 0 rfl).cell (j := 4) rfl),
  Ob.g 14 true rfl fun c hpc => r_eql rfl (c.m 16 rfl hpc) rfl,
  Ob.d fun c => r_and rfl (c.n 14 rfl) (fun h => c.m 17 rfl h),
  Ob.d fun c => r_move rfl (c.n 18 rfl),
  Ob.g 19 true rfl fun c hpc => r_fieldAddr rfl Try.underlying25 rfl rfl Try.sizeOf3 ((c.p e1).trans r0.ptr),
  Ob.g 19 true rfl fun c hpc => r_load1 rfl Try.isAgg3 (c.m 20 rfl hpc) ((c.ib 0 rfl).cell (j := 5) rfl),
  Ob.g 19 true rfl fun c hpc => r_eql rfl (c.m 21 rfl hpc) rfl,
  Ob.d fun c => r_and rfl (c.n 19 rfl) (fun h => c.m 22 rfl h),
  Ob.d fun c => r_move rfl (c.n 23 rfl),
  Ob.g 24 true rfl fun c hpc => r_fieldAddr rfl Try.underlying25 rfl rfl Try.sizeOf4 ((c.p e1).trans r0.ptr),
  Ob.g 24 true rfl fun c hpc => r_load1 rfl Try.isAgg4 (c.m 25 rfl hpc) ((c.ib 0 rfl).cell (j := 6) rfl),
  Ob.g 24 true rfl fun c hpc => r_not rfl (c.m 26 rfl hpc),
  Ob.d fun c => r_and rfl (c.n 24 rfl) (fun h => c.m 27 rfl h),
  Ob.d fun c => r_assign rfl (c.n 28 rfl), trivial⟩ ?_
 intro a2 w2 τ2 st2 f2
 have e2 : get a2 2 = (.bool ((((((eqT ch (⟨#[]⟩ : ByteArray)) && (!ng)) && (decide ((rows.length : Int) = 0))) && (decide (mn = 0))) && (decide (mx = 0))) && (!lz))) := f2.v 29 rfl
 clear f2
 show Code.wp _ _ _ a2 w2
 refine wp_ret ?_
 repeat (first | with_reducible refine then_ret ?_ | with_reducible refine block_ret ?_)
 refine ret1 (fn := Try.f50) rfl st2.defers e2 ?_
 exact ⟨rfl, st2.ext0⟩
end B
end Go.Proofs.Ytocmchlhbniloaa
namespace Go.Proofs.Ytocmchlhbniloaa
namespace B
open Go.RowKit
open Srt
theorem size_pos0 {s : ByteArray} (h : eqT s (⟨#[]⟩ : ByteArray) = false) : (0 : Int) < (s.size : Int) := by
  have hl := bs_len s
  rw [eqT_eq] at h
  cases hb : bs s with
  | nil =>
    have : s.data.toList = [] := hb
    rw [this] at h; simp at h
  | cons b l => rw [hb] at hl; simp at hl; omega
theorem spS_hit0 {s : ByteArray} {k : Nat} (h : (decide ((k : Int) + 1 = (s.size : Int)) || leadB (byteAt s ((k : Int) + 1))) = true) : spS s (k + 1) = ((spS s k).1 ++ [s.extract (spS s k).2 (k + 1)], k + 1) := by
  rw [spS, spStep, if_pos (by rw [show ((k + 1 : Nat) : Int) = (k : Int) + 1 by omega]; exact h)]
theorem spS_miss0 {s : ByteArray} {k : Nat} (h : (decide ((k : Int) + 1 = (s.size : Int)) || leadB (byteAt s ((k : Int) + 1))) = false) : spS s (k + 1) = spS s k := by
  rw [spS, spStep, if_neg (by rw [show ((k + 1 : Nat) : Int) = (k : Int) + 1 by omega, h]; decide)]
theorem spS_hit {s : ByteArray} {k : Nat} (h : (decide ((k : Int) + 1 = (s.size : Int)) || leadB (byteAt s ((k : Int) + 1))) = true) : (spS s (k + 1)).1 = (spS s k).1 ++ [s.extract (spS s k).2 ((k : Int) + 1).toNat] := by
  rw [spS_hit0 h]; rfl
theorem spS_miss {s : ByteArray} {k : Nat} (h : (decide ((k : Int) + 1 = (s.size : Int)) || leadB (byteAt s ((k : Int) + 1))) = false) : (spS s (k + 1)).1 = (spS s k).1 := by rw [spS_miss0 h]
theorem spS_hit2 {s : ByteArray} {k : Nat} (h : (decide ((k : Int) + 1 = (s.size : Int)) || leadB (byteAt s ((k : Int) + 1))) = true) : (spS s (k + 1)).2 = k + 1 := by rw [spS_hit0 h]
theorem spS_miss2 {s : ByteArray} {k : Nat} (h : (decide ((k : Int) + 1 = (s.size : Int)) || leadB (byteAt s ((k : Int) + 1))) = false) : (spS s (k + 1)).2 = (spS s k).2 := by rw [spS_miss0 h]
set_option maxRecDepth 100000 in
theorem inside_c (b : Int) (w : World) : Calls Try.prog 57 #[.int .u8 b] w (fun e w' => e = .returned (.bool (inB b)) ∧ Ext none' w w') := by
 refine enter (n := 9) Try.func57 rfl rfl (Nat.le_of_ble_eq_true rfl) ?_
 intro a0 τ0 ha st0
 have e0 : get a0 0 = (.int .u8 (b)) := ha 0 _ rfl
 clear ha
 refine wp_seq ?_
 refine region_St (bf := [0]) (sp := [det _ 2 _]) [] mixed st0 (by kernel_rfl) trivial
  ⟨Ob.d fun c => r_assign rfl rfl, trivial⟩ ?_
 intro a1 w1 τ1 st1 f1
 obtain ⟨e0, -⟩ := f1.ks [(0, _)] ⟨e0, trivial⟩
 have e2 : get a1 2 = (.bool (false)) := f1.v 0 rfl
 clear f1
 show Code.wp _ _ _ a1 w1
 refine wp_seq ?_
 refine region_St (bf := [0, 1, 3, 7, 15, 31, 63]) (sp := [det _ 3 _, det _ 4 _, det _ 5 _, gdet _ 6 _ _, gdet _ 7 _ _, det _ 8 _, det _ 2 _]) [] mixed st1 (by kernel_rfl) trivial
  ⟨Ob.d fun c => r_move rfl (c.p e0),
  Ob.d fun c => r_geq rfl (c.n 0 rfl) rfl,
  Ob.d fun c => r_move rfl (c.n 1 rfl),
  Ob.g 2 true rfl fun c hpc => r_move rfl (c.p e0),
  Ob.g 2 true rfl fun c hpc => r_leq rfl (c.m 3 rfl hpc) rfl,
  Ob.d fun c => r_and rfl (c.n 2 rfl) (fun h => c.m 4 rfl h),
  Ob.d fun c => r_assign rfl (c.n 5 rfl), trivial⟩ ?_
 intro a2 w2 τ2 st2 f2
 have e2 : get a2 2 = (.bool ((decide (128 ≤ b)) && (decide (b ≤ 191)))) := f2.v 6 rfl
 clear f2
 show Code.wp _ _ _ a2 w2
 refine wp_ret ?_
 repeat (first | with_reducible refine then_ret ?_ | with_reducible refine block_ret ?_)
 refine ret1 (fn := Try.f57) rfl st2.defers e2 ?_
 exact ⟨rfl, st2.ext0⟩
set_option maxRecDepth 100000 in
theorem lead_c (b : Int) (w : World) : Calls Try.prog 46 #[.int .u8 b] w (fun e w' => e = .returned (.bool (leadB b)) ∧ Ext none' w w') := by
 refine enter (n := 9) Try.func46 rfl rfl (Nat.le_of_ble_eq_true rfl) ?_
 intro a0 τ0 ha st0
 have e0 : get a0 0 = (.int .u8 (b)) := ha 0 _ rfl
 clear ha
 refine wp_seq ?_
 refine region_St (bf := [0]) (sp := [det _ 2 _]) [] mixed st0 (by kernel_rfl) trivial
  ⟨Ob.d fun c => r_assign rfl rfl, trivial⟩ ?_
 intro a1 w1 τ1 st1 f1
 obtain ⟨e0, -⟩ := f1.ks [(0, _)] ⟨e0, trivial⟩
 have e2 : get a1 2 = (.bool (false)) := f1.v 0 rfl
 clear f1
 show Code.wp _ _ _ a1 w1
 refine wp_seq ?_
 refine region_St (bf := [0, 1, 3, 7, 15, 31, 63]) (sp := [det _ 3 _, det _ 4 _, det _ 5 _, gdet _ 6 _ _, gdet _ 7 _ _, det _ 8 _, det _ 2 _]) [] mixed st1 (by kernel_rfl) trivial
  ⟨Ob.d fun c => r_move rfl (c.p e0),
  Ob.d fun c => r_lss rfl (c.n 0 rfl) rfl,
  Ob.d fun c => r_move rfl (c.n 1 rfl),
  Ob.g 2 false rfl fun c hpc => r_move rfl (c.p e0),
  Ob.g 2 false rfl fun c hpc => r_gtr rfl (c.m 3 rfl hpc) rfl,
  Ob.d fun c => r_or rfl (c.n 2 rfl) (fun h => c.m 4 rfl h),
  Ob.d fun c => r_assign rfl (c.n 5 rfl), trivial⟩ ?_
 intro a2 w2 τ2 st2 f2
 have e2 : get a2 2 = (.bool ((decide (b < 128)) || (decide (191 < b)))) := f2.v 6 rfl
 clear f2
 show Code.wp _ _ _ a2 w2
 refine wp_ret ?_
 repeat (first | with_reducible refine then_ret ?_ | with_reducible refine block_ret ?_)
 refine ret1 (fn := Try.f46) rfl st2.defers e2 ?_
 exact ⟨rfl, st2.ext0⟩
set_option maxRecDepth 100000 in
theorem end_c (s : ByteArray) (a : Nat) (w : World) (hs : s.size ≤ 1000000000) (ha : a ≤ 1000000000) : Calls Try.prog 58 #[(.string (s)), (.int .i64 ((a : Int)))] w (fun e w' => e = .returned (.int .i64 ((endF s a : Nat))) ∧ Ext none' w w') := by
 refine enter (n := 20) Try.func58 rfl rfl (Nat.le_of_ble_eq_true rfl) ?_
 intro a0 τ0 ha st0
 have e0 : get a0 0 = (.string (s)) := ha 0 _ rfl
 have e1 : get a0 1 = (.int .i64 ((a : Int))) := ha 1 _ rfl
 clear ha
 refine wp_seq ?_
 refine region_St (bf := [0]) (sp := [det _ 4 _]) [] mixed st0 (by kernel_rfl) trivial
  ⟨Ob.d fun c => r_assign rfl rfl, trivial⟩ ?_
 intro a1 w1 τ1 st1 f1
 obtain ⟨e0, e1, -⟩ := f1.ks [(0, _), (1, _)] ⟨e0, e1, trivial⟩
 have e4 : get a1 4 = (.int .i64 (0)) := f1.v 0 rfl
 clear f1
 show Code.wp _ _ _ a1 w1
 refine wp_seq ?_
 refine region_St (bf := [0, 1, 3]) (sp := [det _ 5 _, det _ 6 _, det _ 1 _]) [] mixed st1 (by kernel_rfl) trivial
  ⟨Ob.d fun c => r_move rfl (c.p e1),
  Ob.d fun c => r_add rfl (c.n 0 rfl) rfl (by omega),
  Ob.d fun c => r_assign rfl (c.n 1 rfl), trivial⟩ ?_
 intro a2 w2 τ2 st2 f2
 obtain ⟨e0, e4, -⟩ := f2.ks [(0, _), (4, _)] ⟨e0, e4, trivial⟩
 have e1 : get a2 1 = (.int .i64 ((a : Int) + 1)) := f2.v 2 rfl
 clear f2
 show Code.wp _ _ _ a2 w2
 refine wp_seq ?_
 refine wp_block ?_
 refine wp_loop (fun a_ w_ => ∃ (m : Nat) (τ : Nat → Foot), (m + tw s m = a + 1 + tw s (a + 1)) ∧
      (m ≤ 1000000000 + 1) ∧
      St (Nw w) w 20 a_ w_ τ ∧
      get a_ 1 = (.int .i64 ((m : Int))) ∧
      get a_ 0 = (.string (s)) ∧
      get a_ 4 = (.int .i64 (0))) (fun a_ _ => s.size - (intOf (get a_ 1)).toNat) ?_ ?_
 · refine ⟨a + 1, τ2, ?_, ?_, st2, (e1.trans (int_eq (by omega))), e0, e4⟩
   · rfl
   · omega
 intro a3 w3 hI
 obtain ⟨m, τ3, q0, q1, st3, e1, e0, e4⟩ := hI
 have m1 := e1
 refine wp_seq ?_
 refine wp_seq ?_
 refine region_St (bf := [0, 0, 2, 7, 15, 31, 31, 127, 255, 511]) (sp := [det _ 7 _, det _ 8 _, det _ 9 _, det _ 10 _, det _ 11 _, gdet _ 12 _ _, gdet _ 13 _ _, gdet _ 14 _ _, gdet _ 15 _ _, det _ 16 _]) [] mixed st3 (by kernel_rfl) trivial
  ⟨Ob.d fun c => r_move rfl (c.p e1),
  Ob.d fun c => r_move rfl (c.p e0),
  Ob.d fun c => r_lenS rfl Try.underlying9 (c.n 1 rfl),
  Ob.d fun c => r_lss rfl (c.n 0 rfl) (c.n 2 rfl),
  Ob.d fun c => r_move rfl (c.n 3 rfl),
  Ob.g 4 true rfl fun c hpc => r_move rfl (c.p e0),
  Ob.g 4 true rfl fun c hpc => r_move rfl (c.p e1),
  Ob.g 4 true rfl fun c hpc => r_sindex rfl Try.underlying9 (c.m 5 rfl hpc) (c.m 6 rfl hpc) (by have hq0 := bt hpc; omega) (by have hq0 := bt hpc; omega),
  Ob.gc 4 true rfl fun c hpc => ⟨_, _, (e_call1 rfl rfl Try.call57 (c.m 7 rfl hpc)), inside_c (byteAt s ((m : Int))) _⟩,
  Ob.d fun c => r_and rfl (c.n 4 rfl) (fun h => c.m 8 rfl h), trivial⟩ ?_
 intro a4 w4 τ4 st4 f4
 obtain ⟨e0, e1, e4, -⟩ := f4.ks [(0, _), (1, _), (4, _)] ⟨e0, e1, e4, trivial⟩
 have e16 : get a4 16 = (.bool ((decide ((m : Int) < (s.size : Int))) && (inB (byteAt s ((m : Int)))))) := f4.v 9 rfl
 clear f4
 show Code.wp _ _ _ a4 w4
 refine wp_cond_split (t := (decide ((m : Int) < (s.size : Int))) && (inB (byteAt s ((m : Int))))) e16 (fun hc1 => ?_) (fun hc1 => ?_)
 · try simp only [Bool.and_eq_true, decide_eq_true_eq] at hc1
   refine wp_skip ?_
   show Code.wp _ _ _ a4 w4
   refine wp_block ?_
   refine region_St (bf := [0, 1, 3]) (sp := [det _ 17 _, det _ 18 _, det _ 1 _]) [] mixed st4 (by kernel_rfl) trivial
    ⟨Ob.d fun c => r_move rfl (c.p e1),
    Ob.d fun c => r_add rfl (c.n 0 rfl) rfl (by omega),
    Ob.d fun c => r_assign rfl (c.n 1 rfl), trivial⟩ ?_
   intro a5 w5 τ5 st5 f5
   obtain ⟨e0, e4, e16, -⟩ := f5.ks [(0, _), (4, _), (16, _)] ⟨e0, e4, e16, trivial⟩
   have e1 : get a5 1 = (.int .i64 ((m : Int) + 1)) := f5.v 2 rfl
   clear f5
   show _
   refine ⟨⟨m + 1, τ5, ?_, ?_, st5, (e1.trans (int_eq (by omega))), e0, e4⟩, ?_⟩
   · obtain ⟨c1_, c2_⟩ := (by assumption : (m : Int) < (s.size : Int) ∧ inB (byteAt s (m : Int)) = true); rw [← q0, tw_step (by omega) c2_]
   · omega
   · simp only [m1, e1, intOf]; omega
 try simp only [Bool.and_eq_false_iff, decide_eq_false_iff_not, Int.not_lt] at hc1
 refine wp_exit ?_
 repeat (with_reducible refine then_exit ?_)
 refine exit_here ?_
 show Code.wp _ _ _ a4 w4
 refine wp_seq ?_
 refine region_St (bf := [0, 1]) (sp := [det _ 19 _, det _ 4 _]) [] mixed st4 (by kernel_rfl) trivial
  ⟨Ob.d fun c => r_move rfl (c.p e1),
  Ob.d fun c => r_assign rfl (c.n 0 rfl), trivial⟩ ?_
 intro a6 w6 τ6 st6 f6
 have e4 : get a6 4 = (.int .i64 ((m : Int))) := f6.v 1 rfl
 clear f6
 show Code.wp _ _ _ a6 w6
 refine wp_ret ?_
 repeat (first | with_reducible refine then_ret ?_ | with_reducible refine block_ret ?_)
 refine ret1 (fn := Try.f58) rfl st6.defers e4 ?_
 have h_ : (s.size : Int) ≤ (m : Int) ∨ inB (byteAt s (m : Int)) = false := by assumption
 have h2_ := tw_stop (s := s) (k := m) (h_.elim (fun h => .inl (by omega)) .inr)
 exact ⟨congrArg _ (int_eq (by unfold endF; omega)), st6.ext0⟩
set_option maxRecDepth 100000 in
theorem proper_c (s : ByteArray) (w : World) (hs : s.size ≤ 1000000000) : Calls Try.prog 51 #[(.string (s))] w (fun e w' => e = .returned (.bool (properB s)) ∧ Ext none' w w') := by
 refine enter (n := 18) Try.func51 rfl rfl (Nat.le_of_ble_eq_true rfl) ?_
 intro a0 τ0 ha st0
 have e0 : get a0 0 = (.string (s)) := ha 0 _ rfl
 clear ha
 refine wp_seq ?_
 refine region_St (bf := [0]) (sp := [det _ 2 _]) [] mixed st0 (by kernel_rfl) trivial
  ⟨Ob.d fun c => r_assign rfl rfl, trivial⟩ ?_
 intro a1 w1 τ1 st1 f1
 obtain ⟨e0, -⟩ := f1.ks [(0, _)] ⟨e0, trivial⟩
 have e2 : get a1 2 = (.bool (false)) := f1.v 0 rfl
 clear f1
 show Code.wp _ _ _ a1 w1
 refine wp_seq ?_
 refine region_St (bf := [0, 1, 3, 7, 15, 31, 63, 127, 255, 511, 1023, 511, 2559, 8191, 16383, 32767]) (sp := [det _ 3 _, det _ 4 _, det _ 5 _, gdet _ 6 _ _, gdet _ 7 _ _, gdet _ 8 _ _, gdet _ 9 _ _, det _ 10 _, det _ 11 _, gdet _ 12 _ _, gdet _ 13 _ _, gdet _ 14 _ _, gdet _ 15 _ _, gdet _ 16 _ _, det _ 17 _, det _ 2 _]) [] mixed st1 (by kernel_rfl) trivial
  ⟨Ob.d fun c => r_move rfl (c.p e0),
  Ob.d fun c => r_sneq rfl (c.n 0 rfl) rfl,
  Ob.d fun c => r_move rfl (c.n 1 rfl),
  Ob.g 2 true rfl fun c hpc => r_move rfl (c.p e0),
  Ob.g 2 true rfl fun c hpc => r_sindex rfl Try.underlying9 (c.m 3 rfl hpc) rfl (by have hq0 := hpc; (try simp only [Bool.not_eq_true', Bool.not_eq_false'] at hq0); first | omega | exact size_pos0 (by assumption)) (by have hq0 := hpc; (try simp only [Bool.not_eq_true', Bool.not_eq_false'] at hq0); first | omega | exact size_pos0 (by assumption)),
  Ob.gc 2 true rfl fun c hpc => ⟨_, _, (e_call1 rfl rfl Try.call57 (c.m 4 rfl hpc)), inside_c (byteAt s (0)) _⟩,
  Ob.g 2 true rfl fun c hpc => r_not rfl (c.m 5 rfl hpc),
  Ob.d fun c => r_and rfl (c.n 2 rfl) (fun h => c.m 6 rfl h),
  Ob.d fun c => r_move rfl (c.n 7 rfl),
  Ob.g 8 true rfl fun c hpc => r_move rfl (c.p e0),
  Ob.gc 8 true rfl fun c hpc => ⟨_, _, (e_call2 rfl rfl Try.call58 (c.m 9 rfl hpc) rfl), end_c s 0 _ (by have hq0 := hpc; (try simp only [Bool.and_eq_true, Bool.and_eq_false_iff, Bool.not_eq_true', Bool.not_eq_false'] at hq0); first | omega | exact size_pos0 (by assumption)) (by have hq0 := hpc; (try simp only [Bool.and_eq_true, Bool.and_eq_false_iff, Bool.not_eq_true', Bool.not_eq_false'] at hq0); first | omega | exact size_pos0 (by assumption))⟩,
  Ob.g 8 true rfl fun c hpc => r_move rfl (c.p e0),
  Ob.g 8 true rfl fun c hpc => r_lenS rfl Try.underlying9 (c.m 11 rfl hpc),
  Ob.g 8 true rfl fun c hpc => r_eql rfl (c.m 10 rfl hpc) (c.m 12 rfl hpc),
  Ob.d fun c => r_and rfl (c.n 8 rfl) (fun h => c.m 13 rfl h),
  Ob.d fun c => r_assign rfl (c.n 14 rfl), trivial⟩ ?_
 intro a2 w2 τ2 st2 f2
 have e2 : get a2 2 = (.bool (((!(eqT s (⟨#[]⟩ : ByteArray))) && (!(inB (byteAt s (0))))) && (decide (((endF s 0 : Nat) : Int) = (s.size : Int))))) := f2.v 15 rfl
 clear f2
 show Code.wp _ _ _ a2 w2
 refine wp_ret ?_
 repeat (first | with_reducible refine then_ret ?_ | with_reducible refine block_ret ?_)
 refine ret1 (fn := Try.f51) rfl st2.defers e2 ?_
 exact ⟨congrArg _ (congrArg _ (proper_eq s)), st2.ext0⟩
set_option maxRecDepth 100000 in
theorem split_c (s : ByteArray) (w : World) (hs : s.size ≤ 1000000000) : Calls Try.prog 38 #[(.string (s))] w (fun e w' => ∃ v', e = .returned v' ∧ Ext none' w w' ∧ NewT StrE 9 w w' v' (splitF s)) := by
 refine enter (n := 31) Try.func38 rfl rfl (Nat.le_of_ble_eq_true rfl) ?_
 intro a0 τ0 ha st0
 have e0 : get a0 0 = (.string (s)) := ha 0 _ rfl
 clear ha
 refine wp_seq ?_
 refine region_St (bf := [0]) (sp := [det _ 2 _]) [] mixed st0 (by kernel_rfl) trivial
  ⟨Ob.d fun c => r_assign rfl rfl, trivial⟩ ?_
 intro a1 w1 τ1 st1 f1
 obtain ⟨e0, -⟩ := f1.ks [(0, _)] ⟨e0, trivial⟩
 have e2 : get a1 2 = (.slice none 0 0) := f1.v 0 rfl
 clear f1
 show Code.wp _ _ _ a1 w1
 refine wp_seq ?_
 refine region_St (bf := [0]) (sp := [det _ 3 _]) [] mixed st1 (by kernel_rfl) trivial
  ⟨Ob.d fun c => r_assign rfl rfl, trivial⟩ ?_
 intro a2 w2 τ2 st2 f2
 obtain ⟨e0, e2, -⟩ := f2.ks [(0, _), (2, _)] ⟨e0, e2, trivial⟩
 have e3 : get a2 3 = (.slice none 0 0) := f2.v 0 rfl
 clear f2
 show Code.wp _ _ _ a2 w2
 refine wp_seq ?_
 refine region_St (bf := [0]) (sp := [det _ 4 _]) [] mixed st2 (by kernel_rfl) trivial
  ⟨Ob.d fun c => r_assign rfl rfl, trivial⟩ ?_
 intro a3 w3 τ3 st3 f3
 obtain ⟨e0, e2, e3, -⟩ := f3.ks [(0, _), (2, _), (3, _)] ⟨e0, e2, e3, trivial⟩
 have e4 : get a3 4 = (.int .i64 (0)) := f3.v 0 rfl
 clear f3
 show Code.wp _ _ _ a3 w3
 refine wp_seq ?_
 refine wp_seq ?_
 refine region_St (bf := [0]) (sp := [det _ 5 _]) [] mixed st3 (by kernel_rfl) trivial
  ⟨Ob.d fun c => r_assign rfl rfl, trivial⟩ ?_
 intro a4 w4 τ4 st4 f4
 obtain ⟨e0, e2, e3, e4, -⟩ := f4.ks [(0, _), (2, _), (3, _), (4, _)] ⟨e0, e2, e3, e4, trivial⟩
 have e5 : get a4 5 = (.int .i64 (1)) := f4.v 0 rfl
 clear f4
 show Code.wp _ _ _ a4 w4
 refine wp_block ?_
 refine wp_loop (fun a_ w_ => ∃ (k : Nat) (u : Value) (τ : Nat → Foot), (k ≤ s.size) ∧
      St (Nw w) w 31 a_ w_ τ ∧
      get a_ 3 = u ∧
      get a_ 4 = (.int .i64 (((spS s k).2 : Int))) ∧
      get a_ 5 = (.int .i64 ((k : Int) + 1)) ∧
      get a_ 0 = (.string (s)) ∧
      get a_ 2 = (.slice none 0 0) ∧
      ownR StrE 9 ((spS s k).1) (τ 0) u w_) (fun a_ _ => s.size + 1 - (intOf (get a_ 5)).toNat) ?_ ?_
 · refine ⟨0, (.slice none 0 0), τ4, ?_, st4, e3, (e4.trans (int_eq (by first | omega | rfl | (rw [spS_miss2 (by assumption)]) | (rw [spS_hit2 (by assumption)]; omega)))), (e5.trans (int_eq (by first | omega | rfl | (rw [spS_miss2 (by assumption)]) | (rw [spS_hit2 (by assumption)]; omega)))), e0, e2, ?_⟩
   · omega
   · exact ownR.nil _ _ _ _
 intro a5 w5 hI
 obtain ⟨k, u, τ5, q0, st5, e3, e4, e5, e0, e2, r0⟩ := hI
 have hfr := spS_from s k
 have hln := spS_len s k
 have m5 := e5
 refine wp_seq ?_
 refine wp_seq ?_
 refine region_St (bf := [0, 0, 2, 7]) (sp := [det _ 6 _, det _ 7 _, det _ 8 _, det _ 9 _]) [io r0] mixed st5 (by kernel_rfl) ⟨r0, trivial⟩
  ⟨Ob.d fun c => r_move rfl (c.p e5),
  Ob.d fun c => r_move rfl (c.p e0),
  Ob.d fun c => r_lenS rfl Try.underlying9 (c.n 1 rfl),
  Ob.d fun c => r_leq rfl (c.n 0 rfl) (c.n 2 rfl), trivial⟩ ?_
 intro a6 w6 τ6 st6 f6
 obtain ⟨e0, e2, e3, e4, e5, -⟩ := f6.ks [(0, _), (2, _), (3, _), (4, _), (5, _)] ⟨e0, e2, e3, e4, e5, trivial⟩
 have e9 : get a6 9 = (.bool (decide ((k : Int) + 1 ≤ (s.size : Int)))) := f6.v 3 rfl
 replace r0 := f6.io 0 rfl
 clear f6
 show Code.wp _ _ _ a6 w6
 refine wp_cond_split (t := decide ((k : Int) + 1 ≤ (s.size : Int))) e9 (fun hc1 => ?_) (fun hc1 => ?_)
 · try simp only [decide_eq_true_eq] at hc1
   refine wp_skip ?_
   show Code.wp _ _ _ a6 w6
   refine wp_seq ?_
   refine wp_block ?_
   refine wp_seq ?_
   refine region_St (bf := [0, 0, 2, 7, 15, 31, 31, 127, 255, 511]) (sp := [det _ 12 _, det _ 13 _, det _ 14 _, det _ 15 _, det _ 16 _, gdet _ 17 _ _, gdet _ 18 _ _, gdet _ 19 _ _, gdet _ 20 _ _, det _ 21 _]) [io r0] mixed st6 (by kernel_rfl) ⟨r0, trivial⟩
    ⟨Ob.d fun c => r_move rfl (c.p e5),
    Ob.d fun c => r_move rfl (c.p e0),
    Ob.d fun c => r_lenS rfl Try.underlying9 (c.n 1 rfl),
    Ob.d fun c => r_eql rfl (c.n 0 rfl) (c.n 2 rfl),
    Ob.d fun c => r_move rfl (c.n 3 rfl),
    Ob.g 4 false rfl fun c hpc => r_move rfl (c.p e0),
    Ob.g 4 false rfl fun c hpc => r_move rfl (c.p e5),
    Ob.g 4 false rfl fun c hpc => r_sindex rfl Try.underlying9 (c.m 5 rfl hpc) (c.m 6 rfl hpc) (by have hq0 := bn hpc; omega) (by have hq0 := bn hpc; omega),
    Ob.gc 4 false rfl fun c hpc => ⟨_, _, (e_call1 rfl rfl Try.call46 (c.m 7 rfl hpc)), lead_c (byteAt s ((k : Int) + 1)) _⟩,
    Ob.d fun c => r_or rfl (c.n 4 rfl) (fun h => c.m 8 rfl h), trivial⟩ ?_
   intro a7 w7 τ7 st7 f7
   obtain ⟨e0, e2, e3, e4, e5, e9, -⟩ := f7.ks [(0, _), (2, _), (3, _), (4, _), (5, _), (9, _)] ⟨e0, e2, e3, e4, e5, e9, trivial⟩
   have e21 : get a7 21 = (.bool ((decide ((k : Int) + 1 = (s.size : Int))) || (leadB (byteAt s ((k : Int) + 1))))) := f7.v 9 rfl
   replace r0 := f7.io 0 rfl
   clear f7
   show Code.wp _ _ _ a7 w7
   refine wp_cond_split (t := (decide ((k : Int) + 1 = (s.size : Int))) || (leadB (byteAt s ((k : Int) + 1)))) e21 (fun hc2 => ?_) (fun hc2 => ?_)
   · have hd2 := hc2; try simp only [Bool.or_eq_true, decide_eq_true_eq] at hd2
     refine wp_seq ?_
     refine region_St (bf := [0, 0, 0, 0, 14, 30, 63, 127]) (sp := [det _ 22 _, det _ 23 _, det _ 24 _, det _ 25 _, det _ 26 _, own StrE 9 _ 1 27 ([s.extract ((spS s k).2 : Int).toNat ((k : Int) + 1).toNat]), own _ _ _ 0 28 _, own _ _ _ 0 3 _]) [io r0] mixed st7 (by kernel_rfl) ⟨r0, trivial⟩
      ⟨Ob.d fun c => r_move rfl (c.p e3),
      Ob.d fun c => r_move rfl (c.p e0),
      Ob.d fun c => r_move rfl (c.p e4),
      Ob.d fun c => r_move rfl (c.p e5),
      Ob.d fun c => r_sub2 (s := s) (p := ((spS s k).2 : Int)) (q := (k : Int) + 1) rfl Try.underlying9 (c.n 1 rfl) (c.n 2 rfl) (c.n 3 rfl) (by omega) (by omega) (by omega),
      Ob.buildSlice (cells := #[(.string (s.extract ((spS s k).2 : Int).toNat ((k : Int) + 1).toNat))]) rfl rfl rfl rfl Try.underlying32 Try.sizeOf9 Try.zeroValue9 rfl (by decide) (by decide) (fun _ _ _ _ c => fill1 (c.n 4 rfl) (by kernel_rfl)) rfl,
      Ob.append (t0 := 3) rfl rfl rfl rfl Try.underlying32 (i := Try.t9) rfl rfl rfl rfl (by simp only [maxLen]; (try simp); omega) (by show _ * 16 ≤ _; (try simp); omega) (fun _ _ _ _ c => ⟨c.ip 0 rfl e3, c.sm (c.n 0 rfl) e3, ⟨_, rfl, (c.ro 5 rfl).1.sl⟩⟩),
      Ob.moveT (t0 := 28) rfl rfl rfl rfl rfl (.inr rfl) (fun _ _ _ _ c => ⟨c.ro 6 rfl, rfl⟩), trivial⟩ ?_
     intro a8 w8 τ8 st8 f8
     obtain ⟨b8x27, e27⟩ : ∃ b, get a8 27 = b := ⟨_, rfl⟩
     obtain ⟨b8x3, e3⟩ : ∃ b, get a8 3 = b := ⟨_, rfl⟩
     obtain ⟨e0, e2, e4, e5, e9, e21, -⟩ := f8.ks [(0, _), (2, _), (4, _), (5, _), (9, _), (21, _)] ⟨e0, e2, e4, e5, e9, e21, trivial⟩
     replace r0 : ownR StrE 9 (((spS s k).1) ++ [s.extract ((spS s k).2 : Int).toNat ((k : Int) + 1).toNat]) (τ8 0) b8x3 w8 := f8.ro 7 e3 rfl
     have r1 : ownR StrE 9 ([s.extract ((spS s k).2 : Int).toNat ((k : Int) + 1).toNat]) (τ8 1) b8x27 w8 := f8.ro 5 e27 rfl
     clear f8
     show Code.wp _ _ _ a8 w8
     refine region_St (bf := [0, 1]) (sp := [det _ 29 _, det _ 4 _]) [io r0, io r1] mixed st8 (by kernel_rfl) ⟨r0, r1, trivial⟩
      ⟨Ob.d fun c => r_move rfl (c.p e5),
      Ob.d fun c => r_assign rfl (c.n 0 rfl), trivial⟩ ?_
     intro a9 w9 τ9 st9 f9
     obtain ⟨e0, e2, e3, e5, e9, e21, -⟩ := f9.ks [(0, _), (2, _), (3, _), (5, _), (9, _), (21, _)] ⟨e0, e2, e3, e5, e9, e21, trivial⟩
     have e4 : get a9 4 = (.int .i64 ((k : Int) + 1)) := f9.v 1 rfl
     replace r0 := f9.io 0 rfl
     replace r1 := f9.io 1 rfl
     clear f9
     show _
     show Code.wp _ _ _ a9 w9
     refine region_St (bf := [0, 1, 3]) (sp := [det _ 10 _, det _ 11 _, det _ 5 _]) [io r0, io r1] mixed st9 (by kernel_rfl) ⟨r0, r1, trivial⟩
      ⟨Ob.d fun c => r_move rfl (c.p e5),
      Ob.d fun c => r_add rfl (c.n 0 rfl) rfl (by omega),
      Ob.d fun c => r_assign rfl (c.n 1 rfl), trivial⟩ ?_
     intro a10 w10 τ10 st10 f10
     obtain ⟨e0, e2, e3, e4, e9, e21, -⟩ := f10.ks [(0, _), (2, _), (3, _), (4, _), (9, _), (21, _)] ⟨e0, e2, e3, e4, e9, e21, trivial⟩
     have e5 : get a10 5 = (.int .i64 ((k : Int) + 1 + 1)) := f10.v 2 rfl
     replace r0 := f10.io 0 rfl
     replace r1 := f10.io 1 rfl
     clear f10
     refine ⟨⟨k + 1, b8x3, τ10, ?_, st10, e3, (e4.trans (int_eq (by first | omega | rfl | (rw [spS_miss2 (by assumption)]) | (rw [spS_hit2 (by assumption)]; omega)))), (e5.trans (int_eq (by first | omega | rfl | (rw [spS_miss2 (by assumption)]) | (rw [spS_hit2 (by assumption)]; omega)))), e0, e2, ?_⟩, ?_⟩
     · omega
     · exact r0.cast (by first | exact spS_hit (by assumption) | exact spS_miss (by assumption))
     · simp only [m5, e5, intOf]; omega
   have hd2 := hc2; try simp only [Bool.or_eq_false_iff, decide_eq_false_iff_not] at hd2
   refine wp_skip ?_
   show _
   show Code.wp _ _ _ a7 w7
   refine region_St (bf := [0, 1, 3]) (sp := [det _ 10 _, det _ 11 _, det _ 5 _]) [io r0] mixed st7 (by kernel_rfl) ⟨r0, trivial⟩
    ⟨Ob.d fun c => r_move rfl (c.p e5),
    Ob.d fun c => r_add rfl (c.n 0 rfl) rfl (by omega),
    Ob.d fun c => r_assign rfl (c.n 1 rfl), trivial⟩ ?_
   intro a11 w11 τ11 st11 f11
   obtain ⟨e0, e2, e3, e4, e9, e21, -⟩ := f11.ks [(0, _), (2, _), (3, _), (4, _), (9, _), (21, _)] ⟨e0, e2, e3, e4, e9, e21, trivial⟩
   have e5 : get a11 5 = (.int .i64 ((k : Int) + 1 + 1)) := f11.v 2 rfl
   replace r0 := f11.io 0 rfl
   clear f11
   refine ⟨⟨k + 1, u, τ11, ?_, st11, e3, (e4.trans (int_eq (by first | omega | rfl | (rw [spS_miss2 (by assumption)]) | (rw [spS_hit2 (by assumption)]; omega)))), (e5.trans (int_eq (by first | omega | rfl | (rw [spS_miss2 (by assumption)]) | (rw [spS_hit2 (by assumption)]; omega)))), e0, e2, ?_⟩, ?_⟩
   · omega
   · exact r0.cast (by first | exact spS_hit (by assumption) | exact spS_miss (by assumption))
   · simp only [m5, e5, intOf]; omega
 try simp only [decide_eq_false_iff_not, Int.not_le] at hc1
 refine wp_exit ?_
 repeat (with_reducible refine then_exit ?_)
 refine exit_here ?_
 show Code.wp _ _ _ a6 w6
 refine wp_seq ?_
 refine region_St (bf := [0, 1]) (sp := [det _ 30 _, det _ 2 _]) [io r0] mixed st6 (by kernel_rfl) ⟨r0, trivial⟩
  ⟨Ob.d fun c => r_move rfl (c.p e3),
  Ob.d fun c => r_assign rfl (c.n 0 rfl), trivial⟩ ?_
 intro a12 w12 τ12 st12 f12
 have e2 : get a12 2 = u := f12.v 1 rfl
 replace r0 := f12.io 0 rfl
 clear f12
 show Code.wp _ _ _ a12 w12
 refine wp_ret ?_
 repeat (first | with_reducible refine then_ret ?_ | with_reducible refine block_ret ?_)
 refine ret1 (fn := Try.f38) rfl st12.defers e2 ?_
 replace r0 := r0.cast (show splitF s = _ from by rw [splitF, show s.size = k by omega])
 exact ⟨_, rfl, st12.ext0, r0.1, fun g_ h_ => (st12.bnd _ g_ (r0.2 g_ h_)).1⟩
set_option maxRecDepth 100000 in
theorem refProper_c (s : ByteArray) (w : World) (hs : s.size ≤ 1000000000) : Calls Try.prog 42 #[(.string (s))] w (fun e w' => e = .returned (.bool (properB s)) ∧ Ext none' w w') := by
 refine enter (n := 17) Try.func42 rfl rfl (Nat.le_of_ble_eq_true rfl) ?_
 intro a0 τ0 ha st0
 have e0 : get a0 0 = (.string (s)) := ha 0 _ rfl
 clear ha
 refine wp_seq ?_
 refine region_St (bf := [0]) (sp := [det _ 2 _]) [] mixed st0 (by kernel_rfl) trivial
  ⟨Ob.d fun c => r_assign rfl rfl, trivial⟩ ?_
 intro a1 w1 τ1 st1 f1
 obtain ⟨e0, -⟩ := f1.ks [(0, _)] ⟨e0, trivial⟩
 have e2 : get a1 2 = (.bool (false)) := f1.v 0 rfl
 clear f1
 show Code.wp _ _ _ a1 w1
 refine wp_seq ?_
 refine region_St (bf := [0, 1, 3, 7, 15, 31, 63, 127, 255, 511, 1023, 2047, 4095, 8191, 16383]) (sp := [det _ 3 _, det _ 4 _, det _ 5 _, det _ 6 _, gdet _ 7 _ _, gdet _ 8 _ _, gdet _ 9 _ _, det _ 10 _, det _ 11 _, gdet _ 12 _ _, gown (((decide (0 < (s.size : Int))) && (leadB (byteAt s (0)))) = true) StrE 9 (Nw w) 0 13 (splitF s), gdet _ 14 _ _, gdet _ 15 _ _, det _ 16 _, det _ 2 _]) [] mixed st1 (by kernel_rfl) trivial
  ⟨Ob.d fun c => r_move rfl (c.p e0),
  Ob.d fun c => r_lenS rfl Try.underlying9 (c.n 0 rfl),
  Ob.d fun c => r_gtr rfl (c.n 1 rfl) rfl,
  Ob.d fun c => r_move rfl (c.n 2 rfl),
  Ob.g 3 true rfl fun c hpc => r_move rfl (c.p e0),
  Ob.g 3 true rfl fun c hpc => r_sindex rfl Try.underlying9 (c.m 4 rfl hpc) rfl (by have hq0 := bt hpc; omega) (by have hq0 := bt hpc; omega),
  Ob.gc 3 true rfl fun c hpc => ⟨_, _, (e_call1 rfl rfl Try.call46 (c.m 5 rfl hpc)), lead_c (byteAt s (0)) _⟩,
  Ob.d fun c => r_and rfl (c.n 3 rfl) (fun h => c.m 6 rfl h),
  Ob.d fun c => r_move rfl (c.n 7 rfl),
  Ob.g 8 true rfl fun c hpc => r_move rfl (c.p e0),
  Ob.gown (gi := 8) (tg := 11) rfl rfl rfl rfl rfl rfl Iff.rfl (fun hpc => Ob.callOwn rfl rfl rfl (fun _ a_ _ _ c => ⟨_, _, (e_call1 rfl rfl Try.call38 (c.m 9 rfl hpc)), split_c s _ (by have hq0 := hpc; (try simp only [Bool.and_eq_true, decide_eq_true_eq] at hq0); omega)⟩)),
  Ob.g 8 true rfl fun c hpc => r_len rfl Try.underlying32 rfl (c.rg 10 rfl hpc).isSl,
  Ob.g 8 true rfl fun c hpc => r_eql rfl (c.m 11 rfl hpc) rfl,
  Ob.d fun c => r_and rfl (c.n 8 rfl) (fun h => c.m 12 rfl h),
  Ob.d fun c => r_assign rfl (c.n 13 rfl), trivial⟩ ?_
 intro a2 w2 τ2 st2 f2
 have e2 : get a2 2 = (.bool (((decide (0 < (s.size : Int))) && (leadB (byteAt s (0)))) && (decide (((splitF s).length : Int) = 1)))) := f2.v 14 rfl
 clear f2
 show Code.wp _ _ _ a2 w2
 refine wp_ret ?_
 repeat (first | with_reducible refine then_ret ?_ | with_reducible refine block_ret ?_)
 refine ret1 (fn := Try.f42) rfl st2.defers e2 ?_
 exact ⟨congrArg _ (congrArg _ (refProper_eq s)), st2.ext0⟩
end B
end Go.Proofs.Ytocmchlhbniloaa
namespace Go.Proofs.Ytocmchlhbniloaa
namespace B
open Go.RowKit
open Srt
set_option maxRecDepth 100000 in
theorem row_c (r : ByteArray × ByteArray) (w : World) (h1 : r.1.size ≤ 1000000000) (h2 : r.2.size ≤ 1000000000) : Calls Try.prog 59 #[(.agg #[(.string (r.1)), (.string (r.2))])] w (fun e w' => e = .returned (.bool (rowB r)) ∧ Ext none' w w') := by
 refine enter (n := 18) Try.func59 rfl rfl (Nat.le_of_ble_eq_true rfl) ?_
 intro a0 τ0 ha st0
 have e0 : get a0 0 = (.agg #[(.string (r.1)), (.string (r.2))]) := ha 0 _ rfl
 clear ha
 refine wp_seq ?_
 refine region_St (bf := [0, 0]) (sp := [box _ _ 0 1 [(.string (r.1)), (.string (r.2))], det _ 2 _]) [] mixed st0 (by kernel_rfl) trivial
  ⟨Ob.box (v := (.agg #[(.string (r.1)), (.string (r.2))])) rfl rfl rfl rfl rfl (fun _ _ _ _ c => (c.p e0)),
  Ob.d fun c => r_assign rfl rfl, trivial⟩ ?_
 intro a1 w1 τ1 st1 f1
 obtain ⟨b1x1, e1⟩ : ∃ b, get a1 1 = b := ⟨_, rfl⟩
 have e2 : get a1 2 = (.bool (false)) := f1.v 1 rfl
 have r0 : boxR 43 [(.string (r.1)), (.string (r.2))] (τ1 0) b1x1 w1 := f1.rb 0 e1 rfl
 clear f1
 show Code.wp _ _ _ a1 w1
 refine wp_seq ?_
 refine region_St (bf := [0, 1, 3, 7, 15, 31, 63, 127, 255, 511, 1023, 511, 2559, 8191, 16383, 32767]) (sp := [det _ 3 _, det _ 4 _, det _ 5 _, det _ 6 _, gdet _ 7 _ _, gdet _ 8 _ _, gdet _ 9 _ _, det _ 10 _, det _ 11 _, gdet _ 12 _ _, gdet _ 13 _ _, gdet _ 14 _ _, gdet _ 15 _ _, gdet _ 16 _ _, det _ 17 _, det _ 2 _]) [ib r0] mixed st1 (by kernel_rfl) ⟨r0, trivial⟩
  ⟨Ob.d fun c => r_fieldAddr rfl Try.underlying43 rfl rfl Try.sizeOf9 ((c.p e1).trans r0.ptr),
  Ob.d fun c => r_load1 rfl Try.isAgg9 (c.n 0 rfl) ((c.ib 0 rfl).cell (j := 0) rfl),
  Ob.c fun c => ⟨_, _, (e_call1 rfl rfl Try.call51 (c.n 1 rfl)), proper_c r.1 _ (by omega)⟩,
  Ob.d fun c => r_move rfl (c.n 2 rfl),
  Ob.g 3 true rfl fun c hpc => r_fieldAddr rfl Try.underlying43 rfl rfl Try.sizeOf9 ((c.p e1).trans r0.ptr),
  Ob.g 3 true rfl fun c hpc => r_load1 rfl Try.isAgg9 (c.m 4 rfl hpc) ((c.ib 0 rfl).cell (j := 1) rfl),
  Ob.gc 3 true rfl fun c hpc => ⟨_, _, (e_call1 rfl rfl Try.call51 (c.m 5 rfl hpc)), proper_c r.2 _ (by have hq0 := hpc; omega)⟩,
  Ob.d fun c => r_and rfl (c.n 3 rfl) (fun h => c.m 6 rfl h),
  Ob.d fun c => r_move rfl (c.n 7 rfl),
  Ob.g 8 true rfl fun c hpc => r_fieldAddr rfl Try.underlying43 rfl rfl Try.sizeOf9 ((c.p e1).trans r0.ptr),
  Ob.g 8 true rfl fun c hpc => r_load1 rfl Try.isAgg9 (c.m 9 rfl hpc) ((c.ib 0 rfl).cell (j := 0) rfl),
  Ob.g 8 true rfl fun c hpc => r_fieldAddr rfl Try.underlying43 rfl rfl Try.sizeOf9 ((c.p e1).trans r0.ptr),
  Ob.g 8 true rfl fun c hpc => r_load1 rfl Try.isAgg9 (c.m 11 rfl hpc) ((c.ib 0 rfl).cell (j := 1) rfl),
  Ob.g 8 true rfl fun c hpc => r_sleq rfl (c.m 10 rfl hpc) (c.m 12 rfl hpc),
  Ob.d fun c => r_and rfl (c.n 8 rfl) (fun h => c.m 13 rfl h),
  Ob.d fun c => r_assign rfl (c.n 14 rfl), trivial⟩ ?_
 intro a2 w2 τ2 st2 f2
 have e2 : get a2 2 = (.bool (((properB r.1) && (properB r.2)) && (leT r.1 r.2))) := f2.v 15 rfl
 clear f2
 show Code.wp _ _ _ a2 w2
 refine wp_ret ?_
 repeat (first | with_reducible refine then_ret ?_ | with_reducible refine block_ret ?_)
 refine ret1 (fn := Try.f59) rfl st2.defers e2 ?_
 exact ⟨rfl, st2.ext0⟩
set_option maxRecDepth 100000 in
theorem mayR_c (v : Value) (xs : List (ByteArray × ByteArray)) (w : World) (hS : SlT RowE w v xs) (hz : Small xs) (hbig : xs.length ≤ 1000000000) : Calls Try.prog 52 #[v] w (fun e w' => e = .returned (.bool (mayRow xs)) ∧ Ext none' w w') := by
 refine enter (n := 31) Try.func52 rfl rfl (Nat.le_of_ble_eq_true rfl) ?_
 intro a0 τ0 ha st0
 have e0 : get a0 0 = v := ha 0 _ rfl
 clear ha
 have hle := hS.le
 refine wp_seq ?_
 refine region_St (bf := [0]) (sp := [det _ 2 _]) [] mixed st0 (by kernel_rfl) trivial
  ⟨Ob.d fun c => r_assign rfl rfl, trivial⟩ ?_
 intro a1 w1 τ1 st1 f1
 obtain ⟨e0, -⟩ := f1.ks [(0, _)] ⟨e0, trivial⟩
 have e2 : get a1 2 = (.bool (false)) := f1.v 0 rfl
 clear f1
 show Code.wp _ _ _ a1 w1
 refine wp_seq ?_
 refine wp_seq ?_
 refine region_St (bf := [0, 1, 0]) (sp := [det _ 5 _, det _ 6 _, det _ 7 _]) [] mixed st1 (by kernel_rfl) trivial
  ⟨Ob.d fun c => r_move rfl (c.p e0),
  Ob.d fun c => r_len rfl Try.underlying22 (c.n 0 rfl) hS.sl,
  Ob.d fun c => r_move rfl rfl, trivial⟩ ?_
 intro a2 w2 τ2 st2 f2
 obtain ⟨e0, e2, -⟩ := f2.ks [(0, _), (2, _)] ⟨e0, e2, trivial⟩
 have e5 : get a2 5 = v := f2.v 0 rfl
 have e6 : get a2 6 = (.int .i64 ((xs.length : Int))) := f2.v 1 rfl
 have e7 : get a2 7 = (.int .i64 (0)) := f2.v 2 rfl
 clear f2
 show Code.wp _ _ _ a2 w2
 refine wp_block ?_
 refine wp_loop (fun a_ w_ => ∃ (k : Nat) (τ : Nat → Foot), (k ≤ xs.length) ∧
      (∀ i < k, badRow xs ((i : Nat) : Int) = false) ∧
      St (Nw w) w 31 a_ w_ τ ∧
      get a_ 7 = (.int .i64 ((k : Int))) ∧
      get a_ 0 = v ∧
      get a_ 5 = v ∧
      get a_ 6 = (.int .i64 ((xs.length : Int)))) (fun a_ _ => xs.length - (intOf (get a_ 7)).toNat) ?_ ?_
 · refine ⟨0, τ2, ?_, ?_, st2, (e7.trans (int_eq (by omega))), e0, e5, e6⟩
   · omega
   · intro i hi; omega
 intro a3 w3 hI
 obtain ⟨k, τ3, q0, q1, st3, e7, e0, e5, e6⟩ := hI
 have hzk := small_at hz (k := k)
 have m7 := e7
 refine wp_seq ?_
 refine region_St (bf := [0]) (sp := [det _ 8 _]) [] mixed st3 (by kernel_rfl) trivial
  ⟨Ob.d fun c => r_lss rfl (c.p e7) (c.p e6), trivial⟩ ?_
 intro a4 w4 τ4 st4 f4
 obtain ⟨e0, e5, e6, e7, -⟩ := f4.ks [(0, _), (5, _), (6, _), (7, _)] ⟨e0, e5, e6, e7, trivial⟩
 have e8 : get a4 8 = (.bool (decide ((k : Int) < (xs.length : Int)))) := f4.v 0 rfl
 clear f4
 show Code.wp _ _ _ a4 w4
 refine wp_seq ?_
 refine wp_cond_split (t := decide ((k : Int) < (xs.length : Int))) e8 (fun hc1 => ?_) (fun hc1 => ?_)
 · try simp only [decide_eq_true_eq] at hc1
   refine wp_skip ?_
   show Code.wp _ _ _ a4 w4
   refine wp_seq ?_
   refine wp_block ?_
   refine wp_seq ?_
   refine region_St (bf := [0, 0, 2, 0, 15, 31]) (sp := [det _ 9 _, det _ 10 _, det _ 11 _, box _ _ 0 4 [(.string ((⟨#[]⟩ : ByteArray))), (.string ((⟨#[]⟩ : ByteArray)))], det _ 3 _, box _ _ 0 4 [(.string ((nth xs ((k : Int))).1)), (.string ((nth xs ((k : Int))).2))]]) [] mixed st4 (by kernel_rfl) trivial
    ⟨Ob.d fun c => r_move rfl (c.p e7),
    Ob.d fun c => r_indexAddr rfl Try.underlying22 Try.sizeOf43 (c.p e5) hS.sl (c.p e7) (by omega) (by omega),
    Ob.d fun c => r_loadN (vs := [(.string ((nth xs ((k : Int))).1)), (.string ((nth xs ((k : Int))).2))]) rfl Try.isAgg43 Try.sizeOf43 (c.n 1 rfl) rfl (fun _ _ hj => ((hS.at (st4.ext.trans c.J.ext))).elem (nth_some (i := (k : Int)) (by omega) (by omega)) hj),
    Ob.alloc rfl rfl rfl rfl Try.zeroValue43 rfl,
    Ob.d fun c => r_assign rfl (c.n 0 rfl),
    Ob.storeBox (off := 0) (v := (.agg #[(.string ((nth xs ((k : Int))).1)), (.string ((nth xs ((k : Int))).2))])) rfl rfl rfl rfl Try.sizeOf43 (Nat.le_of_ble_eq_true rfl) (by simp [Value.cells, Value.oneCell', Sv.v]) rfl (fun _ _ _ _ c => ⟨c.rb 3 rfl, (c.rb 3 rfl).ptr, (c.n 2 rfl)⟩), trivial⟩ ?_
   intro a5 w5 τ5 st5 f5
   obtain ⟨b5x4, e4⟩ : ∃ b, get a5 4 = b := ⟨_, rfl⟩
   obtain ⟨e0, e5, e6, e7, e8, -⟩ := f5.ks [(0, _), (5, _), (6, _), (7, _), (8, _)] ⟨e0, e5, e6, e7, e8, trivial⟩
   have e3 : get a5 3 = (.int .i64 ((k : Int))) := f5.v 4 rfl
   have r0 : boxR 43 [(.string ((nth xs ((k : Int))).1)), (.string ((nth xs ((k : Int))).2))] (τ5 0) b5x4 w5 := f5.rb 5 e4 rfl
   clear f5
   show Code.wp _ _ _ a5 w5
   refine wp_seq ?_
   refine region_St (bf := [0, 1, 3, 7, 15, 31, 63, 127, 255, 127, 127, 1151, 3711, 7807, 15999, 32767, 65535, 131071]) (sp := [det _ 12 _, det _ 13 _, det _ 14 _, det _ 15 _, gdet _ 16 _ _, gdet _ 17 _ _, gdet _ 18 _ _, gdet _ 19 _ _, gdet _ 20 _ _, gdet _ 21 _ _, gdet _ 22 _ _, gdet _ 23 _ _, gdet _ 24 _ _, gdet _ 25 _ _, gdet _ 26 _ _, gdet _ 27 _ _, gdet _ 28 _ _, det _ 29 _]) [ib r0] mixed st5 (by kernel_rfl) ⟨r0, trivial⟩
    ⟨Ob.d fun c => r_loadN (vs := [(.string ((nth xs ((k : Int))).1)), (.string ((nth xs ((k : Int))).2))]) rfl Try.isAgg43 Try.sizeOf43 ((c.p e4).trans r0.ptr) rfl (fun _ _ hj => (c.ib 0 rfl).cell hj),
    Ob.c fun c => ⟨_, _, (e_call1 rfl rfl Try.call59 (c.n 0 rfl)), row_c (nth xs ((k : Int))) _ (by omega) (by omega)⟩,
    Ob.d fun c => r_not rfl (c.n 1 rfl),
    Ob.d fun c => r_move rfl (c.n 2 rfl),
    Ob.g 3 false rfl fun c hpc => r_move rfl (c.p e3),
    Ob.g 3 false rfl fun c hpc => r_gtr rfl (c.m 4 rfl hpc) rfl,
    Ob.g 3 false rfl fun c hpc => r_move rfl (c.m 5 rfl hpc),
    Ob.gg 6 true rfl fun c hpc => r_fieldAddr rfl Try.underlying43 rfl rfl Try.sizeOf9 ((c.p e4).trans r0.ptr),
    Ob.gg 6 true rfl fun c hpc => r_load1 rfl Try.isAgg9 (c.m 7 rfl hpc) ((c.ib 0 rfl).cell (j := 0) rfl),
    Ob.gg 6 true rfl fun c hpc => r_move rfl (c.p e0),
    Ob.gg 6 true rfl fun c hpc => r_move rfl (c.p e3),
    Ob.gg 6 true rfl fun c hpc => r_sub rfl (c.m 10 rfl hpc) rfl (by have hq0 := bt (hpc.2); have hq1 := hpc.1; (try simp only [Bool.not_eq_true', Bool.not_eq_false'] at hq1); omega),
    Ob.gg 6 true rfl fun c hpc => r_indexAddr rfl Try.underlying22 Try.sizeOf43 (c.m 9 rfl hpc) hS.sl (c.m 11 rfl hpc) (by have hq0 := bt (hpc.2); have hq1 := hpc.1; (try simp only [Bool.not_eq_true', Bool.not_eq_false'] at hq1); omega) (by have hq0 := bt (hpc.2); have hq1 := hpc.1; (try simp only [Bool.not_eq_true', Bool.not_eq_false'] at hq1); omega),
    Ob.gg 6 true rfl fun c hpc => r_fieldAddr rfl Try.underlying43 rfl rfl Try.sizeOf9 (c.m 12 rfl hpc),
    Ob.gg 6 true rfl fun c hpc => r_load1 rfl Try.isAgg9 (c.m 13 rfl hpc) (((hS.at (st5.ext.trans c.J.ext))).elem (j := 1) (nth_some (i := (k : Int) - 1) (by have hq0 := bt (hpc.2); have hq1 := hpc.1; (try simp only [Bool.not_eq_true', Bool.not_eq_false'] at hq1); omega) (by have hq0 := bt (hpc.2); have hq1 := hpc.1; (try simp only [Bool.not_eq_true', Bool.not_eq_false'] at hq1); omega)) rfl),
    Ob.gg 6 true rfl fun c hpc => r_sleq rfl (c.m 8 rfl hpc) (c.m 14 rfl hpc),
    Ob.g 3 false rfl fun c hpc => r_and rfl (c.m 6 rfl hpc) (fun h => c.m 15 rfl (And.intro hpc h)),
    Ob.d fun c => r_or rfl (c.n 3 rfl) (fun h => c.m 16 rfl h), trivial⟩ ?_
   intro a6 w6 τ6 st6 f6
   obtain ⟨e0, e3, e4, e5, e6, e7, e8, -⟩ := f6.ks [(0, _), (3, _), (4, _), (5, _), (6, _), (7, _), (8, _)] ⟨e0, e3, e4, e5, e6, e7, e8, trivial⟩
   have e29 : get a6 29 = (.bool ((!(rowB (nth xs ((k : Int))))) || ((decide (0 < (k : Int))) && (leT ((nth xs ((k : Int))).1) ((nth xs ((k : Int) - 1)).2))))) := f6.v 17 rfl
   replace r0 := f6.ib 0 rfl
   clear f6
   show Code.wp _ _ _ a6 w6
   refine wp_cond_split (t := (!(rowB (nth xs ((k : Int))))) || ((decide (0 < (k : Int))) && (leT ((nth xs ((k : Int))).1) ((nth xs ((k : Int) - 1)).2)))) e29 (fun hc2 => ?_) (fun hc2 => ?_)
   · have hd2 := hc2; try simp only [Bool.and_eq_true, Bool.and_eq_false_iff, Bool.or_eq_true, Bool.or_eq_false_iff, Bool.not_eq_true', Bool.not_eq_false', decide_eq_true_eq, decide_eq_false_iff_not, Int.not_lt] at hd2
     refine wp_seq ?_
     refine region_St (bf := [0]) (sp := [det _ 2 _]) [ib r0] mixed st6 (by kernel_rfl) ⟨r0, trivial⟩
      ⟨Ob.d fun c => r_assign rfl rfl, trivial⟩ ?_
     intro a7 w7 τ7 st7 f7
     obtain ⟨e0, e3, e4, e5, e6, e7, e8, e29, -⟩ := f7.ks [(0, _), (3, _), (4, _), (5, _), (6, _), (7, _), (8, _), (29, _)] ⟨e0, e3, e4, e5, e6, e7, e8, e29, trivial⟩
     have e2 : get a7 2 = (.bool (false)) := f7.v 0 rfl
     replace r0 := f7.ib 0 rfl
     clear f7
     show Code.wp _ _ _ a7 w7
     refine wp_ret ?_
     repeat (first | with_reducible refine then_ret ?_ | with_reducible refine block_ret ?_)
     refine ret1 (fn := Try.f52) rfl st7.defers e2 ?_
     exact ⟨congrArg _ (congrArg _ (by exact (mayRow_no (k := k) (by omega) (by assumption)).symm)), st7.ext0⟩
   have hd2 := hc2; try simp only [Bool.and_eq_true, Bool.and_eq_false_iff, Bool.or_eq_true, Bool.or_eq_false_iff, Bool.not_eq_true', Bool.not_eq_false', decide_eq_true_eq, decide_eq_false_iff_not, Int.not_lt] at hd2
   refine wp_skip ?_
   show _
   show Code.wp _ _ _ a6 w6
   refine region_St (bf := [0, 1]) (sp := [det _ 30 _, det _ 7 _]) [ib r0] mixed st6 (by kernel_rfl) ⟨r0, trivial⟩
    ⟨Ob.d fun c => r_add rfl (c.p e7) rfl (by omega),
    Ob.d fun c => r_move rfl (c.n 0 rfl), trivial⟩ ?_
   intro a8 w8 τ8 st8 f8
   obtain ⟨e0, e3, e4, e5, e6, e8, e29, -⟩ := f8.ks [(0, _), (3, _), (4, _), (5, _), (6, _), (8, _), (29, _)] ⟨e0, e3, e4, e5, e6, e8, e29, trivial⟩
   have e7 : get a8 7 = (.int .i64 ((k : Int) + 1)) := f8.v 1 rfl
   replace r0 := f8.ib 0 rfl
   clear f8
   refine ⟨⟨k + 1, τ8, ?_, ?_, st8, (e7.trans (int_eq (by omega))), e0, e5, e6⟩, ?_⟩
   · omega
   · exact upto_succ q1 (by assumption)
   · simp only [m7, e7, intOf]; omega
 try simp only [decide_eq_false_iff_not, Int.not_lt] at hc1
 refine wp_exit ?_
 repeat (with_reducible refine then_exit ?_)
 refine exit_here ?_
 show Code.wp _ _ _ a4 w4
 refine wp_seq ?_
 refine region_St (bf := [0]) (sp := [det _ 2 _]) [] mixed st4 (by kernel_rfl) trivial
  ⟨Ob.d fun c => r_assign rfl rfl, trivial⟩ ?_
 intro a9 w9 τ9 st9 f9
 have e2 : get a9 2 = (.bool (true)) := f9.v 0 rfl
 clear f9
 show Code.wp _ _ _ a9 w9
 refine wp_ret ?_
 repeat (first | with_reducible refine then_ret ?_ | with_reducible refine block_ret ?_)
 refine ret1 (fn := Try.f52) rfl st9.defers e2 ?_
 exact ⟨congrArg _ (congrArg _ (by exact (mayRow_yes q1 (by omega)).symm)), st9.ext0⟩
end B
end Go.Proofs.Ytocmchlhbniloaa
namespace Go.Proofs.Ytocmchlhbniloaa
namespace B
open Go.RowKit
open Srt
def repB (k : Int) : Bool := decide (k = 2) || (decide (k = 3) || (decide (k = 4) || (decide (k = 5) || decide (k = 6))))
set_option maxRecDepth 100000 in
theorem repeated_c (k : Int) (w : World) : Calls Try.prog 53 #[(.int .i64 (k))] w (fun e w' => e = .returned (.bool (repB k)) ∧ Ext none' w w') := by
 refine enter (n := 10) Try.func53 rfl rfl (Nat.le_of_ble_eq_true rfl) ?_
 intro a0 τ0 ha st0
 have e0 : get a0 0 = (.int .i64 (k)) := ha 0 _ rfl
 clear ha
 refine wp_seq ?_
 refine region_St (bf := [0]) (sp := [det _ 2 _]) [] mixed st0 (by kernel_rfl) trivial
  ⟨Ob.d fun c => r_assign rfl rfl, trivial⟩ ?_
 intro a1 w1 τ1 st1 f1
 obtain ⟨e0, -⟩ := f1.ks [(0, _)] ⟨e0, trivial⟩
 have e2 : get a1 2 = (.bool (false)) := f1.v 0 rfl
 clear f1
 show Code.wp _ _ _ a1 w1
 refine wp_seq ?_
 refine wp_seq ?_
 refine region_St (bf := [0]) (sp := [det _ 3 _]) [] mixed st1 (by kernel_rfl) trivial
  ⟨Ob.d fun c => r_move rfl (c.p e0), trivial⟩ ?_
 intro a2 w2 τ2 st2 f2
 obtain ⟨e2, -⟩ := f2.ks [(2, _)] ⟨e2, trivial⟩
 have e3 : get a2 3 = (.int .i64 (k)) := f2.v 0 rfl
 clear f2
 show Code.wp _ _ _ a2 w2
 refine wp_block ?_
 refine wp_seq ?_
 refine wp_seq ?_
 refine region_St (bf := [0, 1]) (sp := [det _ 5 _, det _ 4 _]) [] mixed st2 (by kernel_rfl) trivial
  ⟨Ob.d fun c => r_eql rfl (c.p e3) rfl,
  Ob.d fun c => r_assign rfl (c.n 0 rfl), trivial⟩ ?_
 intro a3 w3 τ3 st3 f3
 obtain ⟨e2, e3, -⟩ := f3.ks [(2, _), (3, _)] ⟨e2, e3, trivial⟩
 have e4 : get a3 4 = (.bool (decide (k = 2))) := f3.v 1 rfl
 clear f3
 show Code.wp _ _ _ a3 w3
 refine wp_cond_split (t := decide (k = 2)) e4 (fun hc1 => ?_) (fun hc1 => ?_)
 · have hd1 := hc1; try simp only [decide_eq_true_eq] at hd1
   refine wp_skip ?_
   show Code.wp _ _ _ a3 w3
   refine wp_cond_true (e4.trans (congrArg _ hc1)) ?_
   refine wp_seq ?_
   refine region_St (bf := [0]) (sp := [det _ 2 _]) [] mixed st3 (by kernel_rfl) trivial
    ⟨Ob.d fun c => r_assign rfl rfl, trivial⟩ ?_
   intro a4 w4 τ4 st4 f4
   have e2 : get a4 2 = (.bool (true)) := f4.v 0 rfl
   clear f4
   show Code.wp _ _ _ a4 w4
   refine wp_ret ?_
   repeat (first | with_reducible refine then_ret ?_ | with_reducible refine block_ret ?_)
   refine ret1 (fn := Try.f53) rfl st4.defers e2 ?_
   exact ⟨congrArg _ (congrArg _ (by unfold repB; symm; simp; omega)), st4.ext0⟩
 have hd2 := hc1; try simp only [decide_eq_false_iff_not] at hd2
 refine wp_seq ?_
 refine region_St (bf := [0, 1]) (sp := [det _ 6 _, det _ 4 _]) [] mixed st3 (by kernel_rfl) trivial
  ⟨Ob.d fun c => r_eql rfl (c.p e3) rfl,
  Ob.d fun c => r_assign rfl (c.n 0 rfl), trivial⟩ ?_
 intro a5 w5 τ5 st5 f5
 obtain ⟨e2, e3, -⟩ := f5.ks [(2, _), (3, _)] ⟨e2, e3, trivial⟩
 have e4 : get a5 4 = (.bool (decide (k = 3))) := f5.v 1 rfl
 clear f5
 show Code.wp _ _ _ a5 w5
 refine wp_cond_split (t := decide (k = 3)) e4 (fun hc3 => ?_) (fun hc3 => ?_)
 · have hd3 := hc3; try simp only [decide_eq_true_eq] at hd3
   refine wp_skip ?_
   show Code.wp _ _ _ a5 w5
   refine wp_cond_true (e4.trans (congrArg _ hc3)) ?_
   refine wp_seq ?_
   refine region_St (bf := [0]) (sp := [det _ 2 _]) [] mixed st5 (by kernel_rfl) trivial
    ⟨Ob.d fun c => r_assign rfl rfl, trivial⟩ ?_
   intro a6 w6 τ6 st6 f6
   have e2 : get a6 2 = (.bool (true)) := f6.v 0 rfl
   clear f6
   show Code.wp _ _ _ a6 w6
   refine wp_ret ?_
   repeat (first | with_reducible refine then_ret ?_ | with_reducible refine block_ret ?_)
   refine ret1 (fn := Try.f53) rfl st6.defers e2 ?_
   exact ⟨congrArg _ (congrArg _ (by unfold repB; symm; simp; omega)), st6.ext0⟩
 have hd4 := hc3; try simp only [decide_eq_false_iff_not] at hd4
 refine wp_seq ?_
 refine region_St (bf := [0, 1]) (sp := [det _ 7 _, det _ 4 _]) [] mixed st5 (by kernel_rfl) trivial
  ⟨Ob.d fun c => r_eql rfl (c.p e3) rfl,
  Ob.d fun c => r_assign rfl (c.n 0 rfl), trivial⟩ ?_
 intro a7 w7 τ7 st7 f7
 obtain ⟨e2, e3, -⟩ := f7.ks [(2, _), (3, _)] ⟨e2, e3, trivial⟩
 have e4 : get a7 4 = (.bool (decide (k = 4))) := f7.v 1 rfl
 clear f7
 show Code.wp _ _ _ a7 w7
 refine wp_cond_split (t := decide (k = 4)) e4 (fun hc5 => ?_) (fun hc5 => ?_)
 · have hd5 := hc5; try simp only [decide_eq_true_eq] at hd5
   refine wp_skip ?_
   show Code.wp _ _ _ a7 w7
   refine wp_cond_true (e4.trans (congrArg _ hc5)) ?_
   refine wp_seq ?_
   refine region_St (bf := [0]) (sp := [det _ 2 _]) [] mixed st7 (by kernel_rfl) trivial
    ⟨Ob.d fun c => r_assign rfl rfl, trivial⟩ ?_
   intro a8 w8 τ8 st8 f8
   have e2 : get a8 2 = (.bool (true)) := f8.v 0 rfl
   clear f8
   show Code.wp _ _ _ a8 w8
   refine wp_ret ?_
   repeat (first | with_reducible refine then_ret ?_ | with_reducible refine block_ret ?_)
   refine ret1 (fn := Try.f53) rfl st8.defers e2 ?_
   exact ⟨congrArg _ (congrArg _ (by unfold repB; symm; simp; omega)), st8.ext0⟩
 have hd6 := hc5; try simp only [decide_eq_false_iff_not] at hd6
 refine wp_seq ?_
 refine region_St (bf := [0, 1]) (sp := [det _ 8 _, det _ 4 _]) [] mixed st7 (by kernel_rfl) trivial
  ⟨Ob.d fun c => r_eql rfl (c.p e3) rfl,
  Ob.d fun c => r_assign rfl (c.n 0 rfl), trivial⟩ ?_
 intro a9 w9 τ9 st9 f9
 obtain ⟨e2, e3, -⟩ := f9.ks [(2, _), (3, _)] ⟨e2, e3, trivial⟩
 have e4 : get a9 4 = (.bool (decide (k = 5))) := f9.v 1 rfl
 clear f9
 show Code.wp _ _ _ a9 w9
 refine wp_cond_split (t := decide (k = 5)) e4 (fun hc7 => ?_) (fun hc7 => ?_)
 · have hd7 := hc7; try simp only [decide_eq_true_eq] at hd7
   refine wp_skip ?_
   show Code.wp _ _ _ a9 w9
   refine wp_cond_true (e4.trans (congrArg _ hc7)) ?_
   refine wp_seq ?_
   refine region_St (bf := [0]) (sp := [det _ 2 _]) [] mixed st9 (by kernel_rfl) trivial
    ⟨Ob.d fun c => r_assign rfl rfl, trivial⟩ ?_
   intro a10 w10 τ10 st10 f10
   have e2 : get a10 2 = (.bool (true)) := f10.v 0 rfl
   clear f10
   show Code.wp _ _ _ a10 w10
   refine wp_ret ?_
   repeat (first | with_reducible refine then_ret ?_ | with_reducible refine block_ret ?_)
   refine ret1 (fn := Try.f53) rfl st10.defers e2 ?_
   exact ⟨congrArg _ (congrArg _ (by unfold repB; symm; simp; omega)), st10.ext0⟩
 have hd8 := hc7; try simp only [decide_eq_false_iff_not] at hd8
 refine region_St (bf := [0, 1]) (sp := [det _ 9 _, det _ 4 _]) [] mixed st9 (by kernel_rfl) trivial
  ⟨Ob.d fun c => r_eql rfl (c.p e3) rfl,
  Ob.d fun c => r_assign rfl (c.n 0 rfl), trivial⟩ ?_
 intro a11 w11 τ11 st11 f11
 obtain ⟨e2, -⟩ := f11.ks [(2, _)] ⟨e2, trivial⟩
 have e4 : get a11 4 = (.bool (decide (k = 6))) := f11.v 1 rfl
 clear f11
 show Code.wp _ _ _ a11 w11
 refine wp_cond_split (t := decide (k = 6)) e4 (fun hc9 => ?_) (fun hc9 => ?_)
 · have hd9 := hc9; try simp only [decide_eq_true_eq] at hd9
   refine wp_seq ?_
   refine region_St (bf := [0]) (sp := [det _ 2 _]) [] mixed st11 (by kernel_rfl) trivial
    ⟨Ob.d fun c => r_assign rfl rfl, trivial⟩ ?_
   intro a12 w12 τ12 st12 f12
   have e2 : get a12 2 = (.bool (true)) := f12.v 0 rfl
   clear f12
   show Code.wp _ _ _ a12 w12
   refine wp_ret ?_
   repeat (first | with_reducible refine then_ret ?_ | with_reducible refine block_ret ?_)
   refine ret1 (fn := Try.f53) rfl st12.defers e2 ?_
   exact ⟨congrArg _ (congrArg _ (by unfold repB; symm; simp; omega)), st12.ext0⟩
 have hd9 := hc9; try simp only [decide_eq_false_iff_not] at hd9
 refine wp_skip ?_
 show _
 show Code.wp _ _ _ a11 w11
 refine wp_seq ?_
 refine region_St (bf := [0]) (sp := [det _ 2 _]) [] mixed st11 (by kernel_rfl) trivial
  ⟨Ob.d fun c => r_assign rfl rfl, trivial⟩ ?_
 intro a13 w13 τ13 st13 f13
 have e2 : get a13 2 = (.bool (false)) := f13.v 0 rfl
 clear f13
 show Code.wp _ _ _ a13 w13
 refine wp_ret ?_
 repeat (first | with_reducible refine then_ret ?_ | with_reducible refine block_ret ?_)
 refine ret1 (fn := Try.f53) rfl st13.defers e2 ?_
 exact ⟨congrArg _ (congrArg _ (by unfold repB; symm; simp; omega)), st13.ext0⟩
set_option maxRecDepth 100000 in
theorem ixInt_c (v : Value) (xs : List Int) (x : Int) (w : World) (hS : SlT IntE w v xs) : Calls Try.prog 67 #[v, (.int .i64 (x))] w (fun e w' => e = .returned (.int .i64 (ixF (fun y => decide (x = y)) xs)) ∧ Ext none' w w') := by
 refine enter (n := 19) Try.func67 rfl rfl (Nat.le_of_ble_eq_true rfl) ?_
 intro a0 τ0 ha st0
 have e0 : get a0 0 = v := ha 0 _ rfl
 have e1 : get a0 1 = (.int .i64 (x)) := ha 1 _ rfl
 clear ha
 have hle := hS.le
 refine wp_seq ?_
 refine region_St (bf := [0]) (sp := [det _ 4 _]) [] mixed st0 (by kernel_rfl) trivial
  ⟨Ob.d fun c => r_assign rfl rfl, trivial⟩ ?_
 intro a1 w1 τ1 st1 f1
 obtain ⟨e0, e1, -⟩ := f1.ks [(0, _), (1, _)] ⟨e0, e1, trivial⟩
 have e4 : get a1 4 = (.int .i64 (0)) := f1.v 0 rfl
 clear f1
 show Code.wp _ _ _ a1 w1
 refine wp_seq ?_
 refine wp_seq ?_
 refine region_St (bf := [0, 1, 0]) (sp := [det _ 6 _, det _ 7 _, det _ 8 _]) [] mixed st1 (by kernel_rfl) trivial
  ⟨Ob.d fun c => r_move rfl (c.p e0),
  Ob.d fun c => r_len rfl Try.underlying70 (c.n 0 rfl) hS.sl,
  Ob.d fun c => r_move rfl rfl, trivial⟩ ?_
 intro a2 w2 τ2 st2 f2
 obtain ⟨e0, e1, e4, -⟩ := f2.ks [(0, _), (1, _), (4, _)] ⟨e0, e1, e4, trivial⟩
 have e7 : get a2 7 = (.int .i64 ((xs.length : Int))) := f2.v 1 rfl
 have e8 : get a2 8 = (.int .i64 (0)) := f2.v 2 rfl
 clear f2
 show Code.wp _ _ _ a2 w2
 refine wp_block ?_
 refine wp_loop (fun a_ w_ => ∃ (k : Nat) (τ : Nat → Foot), (k ≤ xs.length) ∧
      (∀ y ∈ xs.take k, decide (x = y) = false) ∧
      St (Nw w) w 19 a_ w_ τ ∧
      get a_ 8 = (.int .i64 ((k : Int))) ∧
      get a_ 0 = v ∧
      get a_ 1 = (.int .i64 (x)) ∧
      get a_ 7 = (.int .i64 ((xs.length : Int)))) (fun a_ _ => xs.length - (intOf (get a_ 8)).toNat) ?_ ?_
 · refine ⟨0, τ2, ?_, ?_, st2, (e8.trans (int_eq (by omega))), e0, e1, e7⟩
   · omega
   · simp
 intro a3 w3 hI
 obtain ⟨k, τ3, q0, q1, st3, e8, e0, e1, e7⟩ := hI
 have m8 := e8
 refine wp_seq ?_
 refine region_St (bf := [0]) (sp := [det _ 9 _]) [] mixed st3 (by kernel_rfl) trivial
  ⟨Ob.d fun c => r_lss rfl (c.p e8) (c.p e7), trivial⟩ ?_
 intro a4 w4 τ4 st4 f4
 obtain ⟨e0, e1, e7, e8, -⟩ := f4.ks [(0, _), (1, _), (7, _), (8, _)] ⟨e0, e1, e7, e8, trivial⟩
 have e9 : get a4 9 = (.bool (decide ((k : Int) < (xs.length : Int)))) := f4.v 0 rfl
 clear f4
 show Code.wp _ _ _ a4 w4
 refine wp_seq ?_
 refine wp_cond_split (t := decide ((k : Int) < (xs.length : Int))) e9 (fun hc1 => ?_) (fun hc1 => ?_)
 · try simp only [decide_eq_true_eq] at hc1
   refine wp_skip ?_
   show Code.wp _ _ _ a4 w4
   refine wp_seq ?_
   refine wp_block ?_
   refine wp_seq ?_
   refine region_St (bf := [0, 1]) (sp := [det _ 10 _, det _ 5 _]) [] mixed st4 (by kernel_rfl) trivial
    ⟨Ob.d fun c => r_move rfl (c.p e8),
    Ob.d fun c => r_assign rfl (c.n 0 rfl), trivial⟩ ?_
   intro a5 w5 τ5 st5 f5
   obtain ⟨e0, e1, e7, e8, e9, -⟩ := f5.ks [(0, _), (1, _), (7, _), (8, _), (9, _)] ⟨e0, e1, e7, e8, e9, trivial⟩
   have e5 : get a5 5 = (.int .i64 ((k : Int))) := f5.v 1 rfl
   clear f5
   show Code.wp _ _ _ a5 w5
   refine wp_seq ?_
   refine region_St (bf := [0, 0, 0, 6, 14, 31]) (sp := [det _ 11 _, det _ 12 _, det _ 13 _, det _ 14 _, det _ 15 _, det _ 16 _]) [] mixed st5 (by kernel_rfl) trivial
    ⟨Ob.d fun c => r_move rfl (c.p e1),
    Ob.d fun c => r_move rfl (c.p e0),
    Ob.d fun c => r_move rfl (c.p e5),
    Ob.d fun c => r_indexAddr rfl Try.underlying70 Try.sizeOf3 (c.n 1 rfl) hS.sl (c.n 2 rfl) (by omega) (by omega),
    Ob.d fun c => r_load1 rfl Try.isAgg3 (c.n 3 rfl) (((hS.at (st5.ext.trans c.J.ext))).elem (j := 0) (nth_some (i := (k : Int)) (by omega) (by omega)) rfl),
    Ob.d fun c => r_eql rfl (c.n 0 rfl) (c.n 4 rfl), trivial⟩ ?_
   intro a6 w6 τ6 st6 f6
   obtain ⟨e0, e1, e5, e7, e8, e9, -⟩ := f6.ks [(0, _), (1, _), (5, _), (7, _), (8, _), (9, _)] ⟨e0, e1, e5, e7, e8, e9, trivial⟩
   have e16 : get a6 16 = (.bool (decide (x = (nth xs ((k : Int)))))) := f6.v 5 rfl
   clear f6
   show Code.wp _ _ _ a6 w6
   refine wp_cond_split (t := decide (x = (nth xs ((k : Int))))) e16 (fun hc2 => ?_) (fun hc2 => ?_)
   · have hd2 := hc2; try simp only [decide_eq_true_eq] at hd2
     refine wp_seq ?_
     refine region_St (bf := [0, 1]) (sp := [det _ 17 _, det _ 4 _]) [] mixed st6 (by kernel_rfl) trivial
      ⟨Ob.d fun c => r_move rfl (c.p e5),
      Ob.d fun c => r_assign rfl (c.n 0 rfl), trivial⟩ ?_
     intro a7 w7 τ7 st7 f7
     obtain ⟨e0, e1, e5, e7, e8, e9, e16, -⟩ := f7.ks [(0, _), (1, _), (5, _), (7, _), (8, _), (9, _), (16, _)] ⟨e0, e1, e5, e7, e8, e9, e16, trivial⟩
     have e4 : get a7 4 = (.int .i64 ((k : Int))) := f7.v 1 rfl
     clear f7
     show Code.wp _ _ _ a7 w7
     refine wp_ret ?_
     repeat (first | with_reducible refine then_ret ?_ | with_reducible refine block_ret ?_)
     refine ret1 (fn := Try.f67) rfl st7.defers e4 ?_
     exact ⟨congrArg _ (int_eq (by first | exact (ix_hit (f := fun y => decide (x = y)) (by omega) q1 (by assumption)).symm | exact (ix_miss (f := fun y => decide (x = y)) (k := k) (by omega) q1).symm)), st7.ext0⟩
   have hd2 := hc2; try simp only [decide_eq_false_iff_not] at hd2
   refine wp_skip ?_
   show _
   show Code.wp _ _ _ a6 w6
   refine region_St (bf := [0, 1]) (sp := [det _ 18 _, det _ 8 _]) [] mixed st6 (by kernel_rfl) trivial
    ⟨Ob.d fun c => r_add rfl (c.p e8) rfl (by omega),
    Ob.d fun c => r_move rfl (c.n 0 rfl), trivial⟩ ?_
   intro a8 w8 τ8 st8 f8
   obtain ⟨e0, e1, e5, e7, e9, e16, -⟩ := f8.ks [(0, _), (1, _), (5, _), (7, _), (9, _), (16, _)] ⟨e0, e1, e5, e7, e9, e16, trivial⟩
   have e8 : get a8 8 = (.int .i64 ((k : Int) + 1)) := f8.v 1 rfl
   clear f8
   refine ⟨⟨k + 1, τ8, ?_, ?_, st8, (e8.trans (int_eq (by omega))), e0, e1, e7⟩, ?_⟩
   · omega
   · exact ix_step (f := fun y => decide (x = y)) (by omega) q1 (by assumption)
   · simp only [m8, e8, intOf]; omega
 try simp only [decide_eq_false_iff_not, Int.not_lt] at hc1
 refine wp_exit ?_
 repeat (with_reducible refine then_exit ?_)
 refine exit_here ?_
 show Code.wp _ _ _ a4 w4
 refine wp_seq ?_
 refine region_St (bf := [0]) (sp := [det _ 4 _]) [] mixed st4 (by kernel_rfl) trivial
  ⟨Ob.d fun c => r_assign rfl rfl, trivial⟩ ?_
 intro a9 w9 τ9 st9 f9
 have e4 : get a9 4 = (.int .i64 ((-1))) := f9.v 0 rfl
 clear f9
 show Code.wp _ _ _ a9 w9
 refine wp_ret ?_
 repeat (first | with_reducible refine then_ret ?_ | with_reducible refine block_ret ?_)
 refine ret1 (fn := Try.f67) rfl st9.defers e4 ?_
 exact ⟨congrArg _ (int_eq (by first | exact (ix_hit (f := fun y => decide (x = y)) (by omega) q1 (by assumption)).symm | exact (ix_miss (f := fun y => decide (x = y)) (k := k) (by omega) q1).symm)), st9.ext0⟩
set_option maxRecDepth 100000 in
theorem hasInt_c (v : Value) (xs : List Int) (x : Int) (w : World) (hS : SlT IntE w v xs) : Calls Try.prog 62 #[v, (.int .i64 (x))] w (fun e w' => e = .returned (.bool (xs.any fun y => decide (x = y))) ∧ Ext none' w w') := by
 refine enter (n := 9) Try.func62 rfl rfl (Nat.le_of_ble_eq_true rfl) ?_
 intro a0 τ0 ha st0
 have e0 : get a0 0 = v := ha 0 _ rfl
 have e1 : get a0 1 = (.int .i64 (x)) := ha 1 _ rfl
 clear ha
 have hle := hS.le
 refine wp_seq ?_
 refine region_St (bf := [0]) (sp := [det _ 4 _]) [] mixed st0 (by kernel_rfl) trivial
  ⟨Ob.d fun c => r_assign rfl rfl, trivial⟩ ?_
 intro a1 w1 τ1 st1 f1
 obtain ⟨e0, e1, -⟩ := f1.ks [(0, _), (1, _)] ⟨e0, e1, trivial⟩
 have e4 : get a1 4 = (.bool (false)) := f1.v 0 rfl
 clear f1
 show Code.wp _ _ _ a1 w1
 refine wp_seq ?_
 refine region_St (bf := [0, 0, 3, 7, 15]) (sp := [det _ 5 _, det _ 6 _, det _ 7 _, det _ 8 _, det _ 4 _]) [] mixed st1 (by kernel_rfl) trivial
  ⟨Ob.d fun c => r_move rfl (c.p e0),
  Ob.d fun c => r_move rfl (c.p e1),
  Ob.c fun c => ⟨_, _, (e_call2 rfl rfl Try.call67 (c.n 0 rfl) (c.n 1 rfl)), ixInt_c v xs x _ (hS.at (st1.ext.trans c.J.ext))⟩,
  Ob.d fun c => r_geq rfl (c.n 2 rfl) rfl,
  Ob.d fun c => r_assign rfl (c.n 3 rfl), trivial⟩ ?_
 intro a2 w2 τ2 st2 f2
 have e4 : get a2 4 = (.bool (decide (0 ≤ ixF (fun y => decide (x = y)) xs))) := f2.v 4 rfl
 clear f2
 show Code.wp _ _ _ a2 w2
 refine wp_ret ?_
 repeat (first | with_reducible refine then_ret ?_ | with_reducible refine block_ret ?_)
 refine ret1 (fn := Try.f62) rfl st2.defers e4 ?_
 exact ⟨congrArg _ (congrArg _ (ix_any _ _)), st2.ext0⟩
end B
end Go.Proofs.Ytocmchlhbniloaa
namespace Go.Proofs.Ytocmchlhbniloaa
namespace B
open Go.RowKit
def OpsWp (P : Program) (l : List Oper) (Q : Exit → Act → World → Prop) (a : Act) (w : World) : Prop := wpOps P l.toArray Q (List.range' 0 l.length) a w
theorem region_of_ops {P : Program} {id : Nat} {l : List Oper} {Q : Exit → Act → World → Prop} {a : Act} {w : World} (h : OpsWp P l Q a w) : (Code.region id l.toArray false).wp P Q a w := by
  refine wp_region ?_
  rw [List.range_eq_range']
  exact h
def Only (K : Act → World → Prop) : Exit → Act → World → Prop := fun e a w => e = .normal ∧ K a w
def reGuard (k : Nat) (g : Option (Nat × Bool)) : Option (Nat × Bool) := g.map fun p => (p.1 - k, p.2)
def reseqFrom (k : Nat) : Nat → List Oper → List Oper
  | _, [] => []
  | j, o :: l => { o with after := (match j with | 0 => #[] | i + 1 => #[⟨i, .data⟩]), guard := reGuard k o.guard } :: reseqFrom k (j + 1) l
def reseq (k : Nat) (l : List Oper) : List Oper := reseqFrom k 0 l
def okCut (l : List Oper) (k : Nat) : Bool := decide (k ≤ l.length) && ((l.take k).all fun o => match o.guard with | none => true | some g => decide (g.1 < k)) && ((l.drop k).all fun o => match o.guard with | none => true | some g => decide (k ≤ g.1))
theorem reseqFrom_get {k : Nat} : ∀ {l : List Oper} {j i : Nat}, (∀ o, l[i]? = some o → ∃ af, (reseqFrom k j l)[i]? = some { o with after := af, guard := reGuard k o.guard }) ∧ (l[i]? = none → (reseqFrom k j l)[i]? = none)
  | [], j, i => ⟨fun o h => by simp at h, fun _ => by simp [reseqFrom]⟩
  | o :: l, j, 0 => ⟨fun o' h => by simp at h; subst h; exact ⟨_, rfl⟩, fun h => by simp at h⟩
  | o :: l, j, i + 1 => by
    have := reseqFrom_get (k := k) (l := l) (j := j + 1) (i := i)
    simpa [reseqFrom] using this
theorem reseqFrom_len {k : Nat} : ∀ {l : List Oper} {j : Nat}, (reseqFrom k j l).length = l.length
  | [], _ => rfl
  | _ :: l, j => by simp [reseqFrom, reseqFrom_len (l := l)]
theorem wp_only {o : Oper} {P : Program} {a : Act} {w : World} {K K' : Act → World → Prop} {C : Act → World → Prop} {Q : Exit → Act → World → Prop} (h : ∀ a w, K a w → K' a w) (hh : o.wp P a w K (Only C)) : o.wp P a w K' Q := by
  unfold Oper.wp at *
  generalize (execOp a.eval o).run P w = r at *
  cases r with
  | ok n w' =>
    cases n <;> simp only [Oper.upon] at hh ⊢ <;>
      first
        | exact h _ _ hh
        | exact Calls.mono hh (fun e w'' he => by
            cases e with
            | returned v => exact h _ _ he
            | panicked c => exact absurd he.1 (by intro e; cases e)
            | outgrown => obtain ⟨_, _, h'⟩ := he; exact absurd h'.1 (by intro e; cases e))
        | exact Rows.mono hh (fun _ _ he => h _ _ he)
  | halt x w' => cases x <;> simp only [Oper.upon] at hh <;> exact absurd hh.1 (by intro e; cases e)
theorem ops_head {P : Program} {l : List Oper} {l1 : List Oper} (hl : l1 = l.take l1.length) {K : Act → World → Prop} {Q : Exit → Act → World → Prop} {rest : List Nat} (hg : ∀ o ∈ l1, ∀ g, o.guard = some g → g.1 < l1.length)
    (hK : ∀ a w, K a w → wpOps P l.toArray Q rest a w) : ∀ (m i : Nat) (a : Act) (w : World), i + m = l1.length → wpOps P l1.toArray (Only K) (List.range' i m) a w → wpOps P l.toArray Q (List.range' i m ++ rest) a w := by
  intro m
  induction m with
  | zero =>
    intro i a w hi h
    simp only [List.range'_zero, wpOps] at h
    simpa using hK _ _ h.2
  | succ m ih =>
    intro i a w hi h
    rw [List.range'_succ] at h ⊢
    rw [List.cons_append]
    rw [wpOps_cons] at h ⊢
    have hlt : i < l1.length := by omega
    have e0 : l1[i]? = l[i]? := by
      have h1 : l1[i]? = (l.take l1.length)[i]? := congrArg (fun q : List Oper => q[i]?) hl
      rw [h1, List.getElem?_take_of_lt hlt]
    have ho : l1[i]? = some l1[i] := by simp [hlt]
    have ho' : l[i]? = some l1[i] := by rw [← e0]; exact ho
    unfold wpOp at h ⊢
    simp only [List.getElem?_toArray, ho, ho'] at h ⊢
    have hy : Region.wanted l1[i] (yielded l.toArray a.tmps) = Region.wanted l1[i] (yielded l1.toArray a.tmps) := by
      unfold Region.wanted
      cases hgd : l1[i].guard with
      | none => rfl
      | some g =>
        have hlt2 := hg _ (List.getElem_mem hlt) g hgd
        have e1 : l1[g.1]? = l[g.1]? := by
          have h1 : l1[g.1]? = (l.take l1.length)[g.1]? := congrArg (fun q : List Oper => q[g.1]?) hl
          rw [h1, List.getElem?_take_of_lt hlt2]
        obtain ⟨g1, g2⟩ := g
        simp only [] at e1
        simp only [yielded, List.getElem?_toArray, e1]
    rw [hy]
    split
    · rename_i hw
      rw [if_pos hw] at h
      rcases h with h | ⟨_, x, y, h⟩
      · exact .inl (wp_only (fun a w hh => ih (i + 1) a w (by omega) hh) h)
      · exact absurd h.1 (by intro e; cases e)
    · rename_i hw
      rw [if_neg hw] at h
      exact ih (i + 1) _ _ (by omega) h
theorem ops_tail {P : Program} {l : List Oper} {k : Nat} {Q : Exit → Act → World → Prop} (hg : ∀ o ∈ l.drop k, ∀ g, o.guard = some g → k ≤ g.1) : ∀ (m i : Nat) (a : Act) (w : World), wpOps P (reseq k (l.drop k)).toArray Q (List.range' i m) a w → wpOps P l.toArray Q (List.range' (k + i) m) a w := by
  intro m
  induction m with
  | zero => intro i a w h; simpa [wpOps] using h
  | succ m ih =>
    intro i a w h
    rw [List.range'_succ] at h ⊢
    rw [wpOps_cons] at h ⊢
    have hd : (l.drop k)[i]? = l[k + i]? := by rw [List.getElem?_drop]
    unfold wpOp at h ⊢
    simp only [List.getElem?_toArray] at h ⊢
    have hr := reseqFrom_get (k := k) (l := l.drop k) (j := 0) (i := i)
    cases ho : l[k + i]? with
    | none =>
      rw [show (reseq k (l.drop k))[i]? = none from hr.2 (by rw [hd]; exact ho)] at h
      simp only [] at h ⊢
      exact ih (i + 1) _ _ h
    | some o =>
      obtain ⟨af, ha⟩ := hr.1 o (by rw [hd]; exact ho)
      rw [show (reseq k (l.drop k))[i]? = _ from ha] at h
      simp only [] at h ⊢
      have hy : Region.wanted { o with after := af, guard := reGuard k o.guard } (yielded (reseq k (l.drop k)).toArray a.tmps) = Region.wanted o (yielded l.toArray a.tmps) := by
        unfold Region.wanted
        simp only []
        cases hgd : o.guard with
        | none => rfl
        | some g =>
          have hle := hg o (List.mem_of_getElem? (by rw [hd]; exact ho)) g hgd
          obtain ⟨g1, g2⟩ := g
          simp only [] at hle
          simp only [reGuard, Option.map_some]
          have e1 : ((reseq k (l.drop k))[g1 - k]?).bind (·.dst) = (l[g1]?).bind (·.dst) := by
            have hr2 := reseqFrom_get (k := k) (l := l.drop k) (j := 0) (i := g1 - k)
            have hd2 : (l.drop k)[g1 - k]? = l[g1]? := by rw [List.getElem?_drop]; congr 1; omega
            cases hq : l[g1]? with
            | none => rw [show (reseq k (l.drop k))[g1 - k]? = none from hr2.2 (by rw [hd2]; exact hq)]
            | some o2 =>
              obtain ⟨af2, ha2⟩ := hr2.1 o2 (by rw [hd2]; exact hq)
              rw [show (reseq k (l.drop k))[g1 - k]? = _ from ha2]
              rfl
          simp only [yielded, List.getElem?_toArray, e1]
      rw [hy] at h
      have hwp : ∀ K, ({ o with after := af, guard := reGuard k o.guard } : Oper).wp P a w K Q = o.wp P a w K Q := fun K => rfl
      have hask : ({ o with after := af, guard := reGuard k o.guard } : Oper).asks P a w = o.asks P a w := rfl
      split
      · rename_i hw
        rw [if_pos hw] at h
        rcases h with h | h
        · exact .inl (Oper.wp_mono (fun a w hh => ih (i + 1) a w hh) h)
        · exact .inr h
      · rename_i hw
        rw [if_neg hw] at h
        exact ih (i + 1) _ _ h
theorem ops_cut {P : Program} {l : List Oper} {Q : Exit → Act → World → Prop} {a : Act} {w : World} (k : Nat) (hk : okCut l k = true) (h : OpsWp P (l.take k) (Only (OpsWp P (reseq k (l.drop k)) Q)) a w) : OpsWp P l Q a w := by
  unfold okCut at hk
  simp only [Bool.and_eq_true, List.all_eq_true, decide_eq_true_eq] at hk
  obtain ⟨⟨hkl, h1⟩, h2⟩ := hk
  unfold OpsWp
  have hlen : (l.take k).length = k := by simp; omega
  have e : List.range' 0 l.length = List.range' 0 k ++ List.range' k (l.length - k) := by
    conv => lhs; rw [show l.length = k + (l.length - k) by omega]
    have := @List.range'_append_1 0 k (l.length - k)
    rw [Nat.zero_add] at this
    exact this.symm
  rw [e]
  unfold OpsWp at h
  rw [hlen] at h
  refine ops_head (l1 := l.take k) (by rw [hlen]) (fun o ho g hgd => ?_) (fun a w hh => ?_) k 0 a w (by omega) h
  · have := h1 o ho
    rw [hgd] at this
    rw [hlen]; simpa using this
  · unfold OpsWp at hh
    have hl2 : (reseq k (l.drop k)).length = l.length - k := by unfold reseq; rw [reseqFrom_len]; simp
    rw [hl2] at hh
    have := ops_tail (l := l) (k := k) (fun o ho g hgd => by have := h2 o ho; rw [hgd] at this; simpa using this) (l.length - k) 0 a w hh
    simpa using this
theorem ops_J {N : Foot} {P : Program} {l : List Oper} {sp : List (Spec N)} {ini : Nat → Ini N} {a0 : Act} {w0 : World} {bf : List Nat} (hok : (okOps l.toArray a0.tmps.size && okBf l.toArray bf && okSp l.toArray bf (sp.map (·.slot)) (sp.map (·.tag))) = true)
    {Q : Exit → Act → World → Prop} {τ : Nat → Foot} (hb : ∀ k, w0.heap.size ≤ k → N k) (hdis : ∀ s t g, τ s g → τ t g → s = t) (hbnd : ∀ t g, τ t g → N g ∧ g < w0.heap.size) (hini : ∀ t, (ini t).I (Zof τ w0) (τ t) w0)
    (obs : ObList l.toArray sp ini a0 w0 P bf 0 l sp)
    (fin : ∀ done a w τ, (∀ i, i < l.length → done i = true) → J l.toArray sp ini a0 w0 done a w τ → Q .normal a w) : OpsWp P l Q a0 w0 := by
  rw [Bool.and_eq_true, Bool.and_eq_true] at hok
  obtain ⟨⟨h1, h2⟩, h3⟩ := hok
  have obs' : ∀ (j : Nat) (o : Oper) (s : Spec N), l.toArray[j]? = some o → sp[j]? = some s → Ob l.toArray sp ini a0 w0 P bf j o s := fun j o s ho hs => by
    have := ObList_get obs j o s (by simpa using ho) hs
    rwa [Nat.zero_add] at this
  refine J_range h1 h2 h3 obs' (fun a w τ hJ => fin _ a w τ (fun i hi => by simpa using hi) hJ) l.toArray.size 0 a0 w0 τ rfl ?_
  exact J.start hb hdis hbnd hini (.inl rfl) fun i _ => by simp
theorem ops_St {N : Foot} {n : Nat} {W0 : World} {P : Program} {l : List Oper} {sp : List (Spec N)} (il : List (Ini N)) {a0 : Act} {w0 : World} {τ0 : Nat → Foot} {bf : List Nat}
    {Q : Exit → Act → World → Prop} (hst : St N W0 n a0 w0 τ0) (hok : (okOps l.toArray n && okBf l.toArray bf && okSp l.toArray bf (sp.map (·.slot)) (sp.map (·.tag))) = true)
    (hini : IniAll τ0 w0 0 il) (obs : ObList l.toArray sp (iniOf il) a0 w0 P bf 0 l sp)
    (fin : ∀ a w τ, St N W0 n a w τ → Fin l sp il a0 a w τ → Q .normal a w) : OpsWp P l Q a0 w0 := by
  have hlen : sp.length = l.length := by
    simp only [Bool.and_eq_true] at hok
    have h3 := hok.2
    unfold okSp at h3
    simp only [Bool.and_eq_true, List.length_map, beq_iff_eq] at h3
    simpa using h3.1.1
  refine ops_J (N := N) (ini := iniOf il) (τ := τ0) (by rw [hst.size]; exact hok) hst.big hst.disj hst.bnd (fun t => ?_) obs fun done a w τ hd hJ => ?_
  · have := iniAll_spec hini t
    rwa [Nat.zero_add] at this
  · refine fin a w τ ⟨hJ.defers.trans hst.defers, hJ.size.trans hst.size, hst.ext.trans hJ.ext, hJ.big, hJ.disj, hJ.bnd⟩ ⟨fun t ht => ?_, fun j s hs ht => ?_, fun j t s hs ht hl => ?_, fun t hl => ?_⟩
    · refine hJ.un t fun i o hi hdst => ?_
      exfalso
      unfold unAll at ht
      rw [List.all_eq_true] at ht
      have := ht o (List.mem_of_getElem? (by simpa using hi))
      simp [hdst] at this
    · exact hJ.det j s hs ht (hd j (by rw [← hlen]; exact (List.getElem?_eq_some_iff.1 hs).1))
    · obtain ⟨h1, h2, h3⟩ := lastTag_some hl
      refine hJ.res j s t hs ht (hd j (by omega)) fun k s' hk hlt hkt => ?_
      exact absurd (by rw [tag_getD hk]; exact hkt) (h3 k hlt (List.getElem?_eq_some_iff.1 hk).1)
    · refine hJ.ini t fun k s' hk hkt => ?_
      exact absurd (by rw [tag_getD hk]; exact hkt) (lastTag_none hl k (List.getElem?_eq_some_iff.1 hk).1)
structure ZP where
  P : Foot → World → Prop
  st : ∀ {Z Z' : Foot} {w w' : World}, (∀ g, Z g → Z' g) → Ext (fun g => ¬ Z g) w w' → P Z w → P Z' w'
def Fz (Φ : ZP) (τ : Nat → Foot) (w : World) : Prop := Φ.P (Zof τ w) w
def izf (N : Foot) (Φ : ZP) : Ini N := ⟨fun Z _ w => Φ.P Z w, fun Z Z' T w w' hz he h => Φ.st hz (he.mono fun _ _ h => h.2.2) h⟩
abbrev iz {N : Foot} {Φ : ZP} {τ : Nat → Foot} {w : World} (_ : Fz Φ τ w) : Ini N := izf N Φ
def ZP.pure (p : Prop) : ZP := ⟨fun _ _ => p, fun _ _ h => h⟩
def ZP.and (Φ Ψ : ZP) : ZP := ⟨fun Z w => Φ.P Z w ∧ Ψ.P Z w, fun hz he h => ⟨Φ.st hz he h.1, Ψ.st hz he h.2⟩⟩
def zSl {α : Type} (E : Enc α) (G : Foot) (v : Value) (xs : List α) : ZP := ⟨fun Z w => SlT E w v xs ∧ (xs ≠ [] → Z (ptrOf v).block ∧ G (ptrOf v).block), fun hz he h => ⟨h.1.keep he fun hn hm => hm (h.2 hn).1, fun hn => ⟨hz _ (h.2 hn).1, (h.2 hn).2⟩⟩⟩
section
variable {N : Foot} {β : Type}
def zdet (N : Foot) (t : Nat) (f : β → Value) (Ψ : β → Prop) (Φ : β → ZP) : Spec N := ⟨none, t, fun Z _ v w => ∃ b, v = f b ∧ Ψ b ∧ (Φ b).P Z w, fun Z Z' T v w w' hz he ⟨b, h1, h2, h3⟩ => ⟨b, h1, h2, (Φ b).st hz (he.mono fun _ _ h => h.2.2) h3⟩, fun _ => True, fun _ _ _ _ _ => trivial⟩
def zown {α : Type} (E : Enc α) (ty : Nat) (N : Foot) (tag t : Nat) (xs : β → List α) (Ψ : β → Prop) (Φ : β → ZP) : Spec N := ⟨some tag, t, fun Z T v w => ∃ b, ownR E ty (xs b) T v w ∧ Ψ b ∧ (Φ b).P Z w, fun Z Z' T v w w' hz he ⟨b, h1, h2, h3⟩ => ⟨b, ownR_loc T v w w' he.less h1, h2, (Φ b).st hz (he.mono fun _ _ h => h.2.2) h3⟩, fun _ => True, fun _ _ _ _ _ => trivial⟩
def zbox (ty : Nat) (N : Foot) (tag t : Nat) (p : Value) (cells : β → List Value) (f : β → Value) (Ψ : β → Prop) (Φ : β → ZP) : Spec N := ⟨some tag, t, fun Z T v w => ∃ b, v = f b ∧ boxR ty (cells b) T p w ∧ Ψ b ∧ (Φ b).P Z w, fun Z Z' T v w w' hz he ⟨b, h0, h1, h2, h3⟩ => ⟨b, h0, boxR_loc T p w w' he.less h1, h2, (Φ b).st hz (he.mono fun _ _ h => h.2.2) h3⟩, fun _ => True, fun _ _ _ _ _ => trivial⟩
end
def Gn (F : Foot) (w : World) : Foot := fun g => F g ∨ w.heap.size ≤ g
section
variable {N : Foot} {P : Program} {ops : Array Oper} {sp : List (Spec N)} {In : Nat → Ini N} {a0 : Act} {w0 : World} {bf : List Nat} {j : Nat} {o : Oper} {s : Spec N} {β : Type}
theorem Ob.zc {t : Nat} {f : β → Value} {Ψ : β → Prop} {Φ : β → ZP} (h : ∀ {done a w τ}, Cx ops sp In a0 w0 bf j o done a w τ → ∃ g args, Enters P a o w g args ∧ Calls P g args w (fun e w' => ∃ b, e = .returned (f b) ∧ Ext none' w w' ∧ Ψ b ∧ (Φ b).P (Zof τ w') w'))
    (hs : s = zdet N t f Ψ Φ := by exact rfl) (hg : o.guard = none := by exact rfl) (hd : o.dst = some t := by exact rfl) : Ob ops sp In a0 w0 P bf j o s :=
  Ob.mk0 hg fun done a w τ c => by
    obtain ⟨g, args, h1, h2⟩ := h c
    subst hs
    unfold Oper.wp
    rw [h1]
    refine h2.mono fun e w' ⟨b, he, hx, hp, hz⟩ => ?_
    subst he
    refine ⟨f b, rfl, hx, b, ?_, hp, hz⟩
    show get (a.put o.dst (f b)) t = f b
    rw [hd, get_put a t t _ (c.lt t hd), if_pos rfl]
theorem zof_upd {τ : Nat → Foot} {tag : Nat} {T' : Foot} {w : World} (h : ∀ g, T' g → τ tag g) : ∀ g, Zof τ w g → Zof (upd τ tag T') w g := fun g hg => ⟨hg.1, fun t ht => by
  unfold upd at ht
  split at ht
  · exact hg.2 _ (h _ ht)
  · exact hg.2 _ ht⟩
theorem Ob.zo {α : Type} {E : Enc α} {ty tag t : Nat} {xs : β → List α} {Ψ : β → Prop} {Φ : β → ZP} (h : ∀ {done a w τ}, Cx ops sp In a0 w0 bf j o done a w τ → ∃ f args, Enters P a o w f args ∧ Calls P f args w (fun e w' => ∃ v b, e = .returned v ∧ Ext none' w w' ∧ NewT E ty w w' v (xs b) ∧ Ψ b ∧ (Φ b).P (Zof (upd τ tag fun g => v.ownBlock = some g) w') w'))
    (hs : s = zown E ty N tag t xs Ψ Φ := by exact rfl) (hg : o.guard = none := by exact rfl) (hd : o.dst = some t := by exact rfl) : Ob ops sp In a0 w0 P bf j o s := by
  subst hs
  refine Ob.callT (tag := tag) hg rfl fun done a w τ c => ?_
  obtain ⟨f, args, h1, h2⟩ := h c
  refine ⟨f, args, h1, h2.mono fun e w' ⟨v, b, he, hx, ho, hp, hz⟩ => ⟨v, he, hx.mono (fun _ _ h => h.elim), fun g => v.ownBlock = some g, fun g hg => .inr ⟨ho.2 g hg, ho.1.lt g hg⟩, b, ?_, hp, hz⟩⟩
  show ownR E ty (xs b) _ (get (a.put o.dst v) t) w'
  rw [hd, get_put a t t v (c.lt t hd), if_pos rfl]
  exact ⟨ho.1, fun g h => h⟩
theorem Ob.zb {ty tag t : Nat} {p : Value} {cells : β → List Value} {f : β → Value} {Ψ : β → Prop} {Φ : β → ZP} (h : ∀ {done a w τ}, Cx ops sp In a0 w0 bf j o done a w τ → ∃ g args, Enters P a o w g args ∧ Calls P g args w (fun e w' => ∃ b, e = .returned (f b) ∧ Ext (τ tag) w w' ∧ boxR ty (cells b) (τ tag) p w' ∧ Ψ b ∧ (Φ b).P (Zof τ w') w'))
    (hs : s = zbox ty N tag t p cells f Ψ Φ := by exact rfl) (hg : o.guard = none := by exact rfl) (hd : o.dst = some t := by exact rfl) : Ob ops sp In a0 w0 P bf j o s := by
  subst hs
  refine Ob.callT (tag := tag) hg rfl fun done a w τ c => ?_
  obtain ⟨g, args, h1, h2⟩ := h c
  refine ⟨g, args, h1, h2.mono fun e w' ⟨b, he, hx, hb, hp, hz⟩ => ⟨f b, he, hx, τ tag, fun g h => .inl h, b, ?_, hb, hp, (Φ b).st (zof_upd fun _ h => h) (Ext.refl _ _) hz⟩⟩
  show get (a.put o.dst (f b)) t = f b
  rw [hd, get_put a t t _ (c.lt t hd), if_pos rfl]
end
section
variable {N : Foot} {P : Program} {ops : Array Oper} {sp : List (Spec N)} {In : Nat → Ini N} {a0 : Act} {w0 : World} {bf : List Nat} {j : Nat} {o : Oper} {done : Nat → Bool} {a : Act} {w : World} {τ : Nat → Foot}
theorem Cx.iz {Φ : ZP} (c : Cx ops sp In a0 w0 bf j o done a w τ) (t : Nat) (hI : In t = izf N Φ) (hl : lastTag (sp.map (·.tag)) t j = none := by exact rfl) (hord : ordB (sp.map (·.tag)) bf t j = true := by kernel_rfl) : Φ.P (Zof τ w) w := c.ini t _ hI hl hord
theorem Cx.gz {F : Foot} {W w' : World} (c : Cx ops sp In a0 w0 bf j o done a w τ) (hW : W.heap.size ≤ w.heap.size) (hx : w.heap.size ≤ w'.heap.size) : ∀ g, Gn (fun g => Zof τ w g ∧ Gn F W g) w g → g < w'.heap.size → Zof τ w' g ∧ Gn F W g := fun g hg hlt => by
  rcases hg with ⟨⟨h1, h2⟩, h3⟩ | hg
  · exact ⟨⟨hlt, h2⟩, h3⟩
  · exact ⟨⟨hlt, fun t ht => by have := (c.J.bnd t g ht).2; omega⟩, .inr (by omega)⟩
theorem Cx.gzo {F : Foot} {W w' : World} {tag : Nat} {v : Value} (c : Cx ops sp In a0 w0 bf j o done a w τ) (hW : W.heap.size ≤ w.heap.size) (hx : w.heap.size ≤ w'.heap.size) (hv : ∀ g, v.ownBlock = some g → w.heap.size ≤ g) : ∀ g, Gn (fun g => Zof τ w g ∧ Gn F W g) w g ∧ v.ownBlock ≠ some g → g < w'.heap.size → Zof (upd τ tag fun g => v.ownBlock = some g) w' g ∧ Gn F W g := fun g hg hlt => by
  obtain ⟨hg, hne⟩ := hg
  have hG : Gn F W g := by
    rcases hg with ⟨_, h3⟩ | hg
    · exact h3
    · exact .inr (by omega)
  refine ⟨⟨hlt, fun t ht => ?_⟩, hG⟩
  unfold upd at ht
  split at ht
  · exact hne ht
  · rcases hg with ⟨⟨_, h2⟩, _⟩ | hg
    · exact h2 t ht
    · have := (c.J.bnd t g ht).2; omega
end
section
variable {N : Foot} {l : List Oper} {sp : List (Spec N)} {il : List (Ini N)} {a0 a : Act} {w : World} {τ : Nat → Foot} {β : Type}
theorem Fin.iz (h : Fin l sp il a0 a w τ) {Φ : ZP} (t : Nat) (hI : iniOf il t = izf N Φ) (hl : lastTag (sp.map (·.tag)) t sp.length = none := by exact rfl) : Fz Φ τ w := by
  have := h.ini t hl
  rw [hI] at this
  exact this
theorem Fin.zd (h : Fin l sp il a0 a w τ) {t : Nat} {f : β → Value} {Ψ : β → Prop} {Φ : β → ZP} (j : Nat) (hs : sp[j]? = some (zdet N t f Ψ Φ)) : ∃ b, get a t = f b ∧ Ψ b ∧ Fz (Φ b) τ w := h.det j _ hs rfl
theorem Fin.zo (h : Fin l sp il a0 a w τ) {α : Type} {E : Enc α} {ty t slot : Nat} {xs : β → List α} {Ψ : β → Prop} {Φ : β → ZP} (j : Nat) {v : Value} (hv : get a slot = v) (hs : sp[j]? = some (zown E ty N t slot xs Ψ Φ)) (hl : lastTag (sp.map (·.tag)) t sp.length = some j := by exact rfl) : ∃ b, ownR E ty (xs b) (τ t) v w ∧ Ψ b ∧ Fz (Φ b) τ w :=
  hv ▸ h.res j t _ hs rfl hl
theorem Fin.zb (h : Fin l sp il a0 a w τ) {ty t slot : Nat} {p : Value} {cells : β → List Value} {f : β → Value} {Ψ : β → Prop} {Φ : β → ZP} (j : Nat) (hs : sp[j]? = some (zbox ty N t slot p cells f Ψ Φ)) (hl : lastTag (sp.map (·.tag)) t sp.length = some j := by exact rfl) : ∃ b, get a slot = f b ∧ boxR ty (cells b) (τ t) p w ∧ Ψ b ∧ Fz (Φ b) τ w :=
  h.res j t _ hs rfl hl
end
section
variable {P : Program} {a : Act} {o : Oper} {w w' : World} {f : FuncId}
theorem r_makeFunc1 {x : Operand} {v : Value} (ho : o.op = .makeFunc (.func f) #[] #[x]) (hx : a.eval x = v) : Runs P a o w (.func (.func f) #[] #[v]) := by
  subst hx
  simp [Runs, execOp, ho, Instr.makeFunc]
theorem e_cap1_1 {x x1 : Operand} {ts : Array TypeId} {v1 c1 : Value} (ho : o.op = .call { callee := .value x, args := #[x1], argTypes := ts }) (hx : a.eval x = .func (.func f) #[] #[c1]) (hcall : ∀ args w, (callFunc f args).run P w = .ok (.enter f args) w) (h1 : a.eval x1 = v1) : Enters P a o w f #[v1, c1] :=
  e_call ho hx hcall (by simp [h1])
theorem Ext.fresh {W w : World} (h : Ext (fun k => W.heap.size ≤ k) W w) : Ext none' W w := ⟨h.os, h.tape, h.output, h.size, fun k hk _ => h.block k hk (fun hn : W.heap.size ≤ k => by omega)⟩
theorem Ext.cellAt {W w : World} (h : Ext (fun k => W.heap.size ≤ k) W w) {p : Addr} {v : Value} (hc : W.cell? p = some v) : w.cell? p = some v := h.fresh.cell_some hc (fun h => h)
end
section
variable {N : Foot} {β : Type}
def gzdet (N : Foot) (t : Nat) (pc : Prop) (f : β → Value) (Ψ : β → Prop) (Φ : β → ZP) : Spec N := ⟨none, t, fun Z _ v w => pc → ∃ b, v = f b ∧ Ψ b ∧ (Φ b).P Z w, fun Z Z' T v w w' hz he h hp => (h hp).elim fun b ⟨h1, h2, h3⟩ => ⟨b, h1, h2, (Φ b).st hz (he.mono fun _ _ h => h.2.2) h3⟩, fun _ => True, fun _ _ _ _ _ => trivial⟩
def gzown {α : Type} (E : Enc α) (ty : Nat) (N : Foot) (tag t : Nat) (pc : Prop) (xs : β → List α) (Ψ : β → Prop) (Φ : β → ZP) : Spec N := ⟨some tag, t, fun Z T v w => pc → ∃ b, ownR E ty (xs b) T v w ∧ Ψ b ∧ (Φ b).P Z w, fun Z Z' T v w w' hz he h hp => (h hp).elim fun b ⟨h1, h2, h3⟩ => ⟨b, ownR_loc T v w w' he.less h1, h2, (Φ b).st hz (he.mono fun _ _ h => h.2.2) h3⟩, fun _ => True, fun _ _ _ _ _ => trivial⟩
def gzbox (ty : Nat) (N : Foot) (tag t : Nat) (cells : β → List Value) (Ψ : β → Prop) (Φ : β → ZP) : Spec N := ⟨some tag, t, fun Z T v w => ∃ b, boxR ty (cells b) T v w ∧ Ψ b ∧ (Φ b).P Z w, fun Z Z' T v w w' hz he ⟨b, h1, h2, h3⟩ => ⟨b, boxR_loc T v w w' he.less h1, h2, (Φ b).st hz (he.mono fun _ _ h => h.2.2) h3⟩, fun _ => True, fun _ _ _ _ _ => trivial⟩
end
section
variable {N : Foot} {P : Program} {ops : Array Oper} {sp : List (Spec N)} {In : Nat → Ini N} {a0 : Act} {w0 : World} {bf : List Nat} {j : Nat} {o : Oper} {s : Spec N} {β : Type} {pc : Prop}
def GdOk (ops : Array Oper) (sp : List (Spec N)) (bf : List Nat) (j : Nat) (o : Oper) (pc : Prop) : Prop :=
  (o.guard = none ∧ pc) ∨ (∃ gi want tg b, o.guard = some (gi, want) ∧ ((ops[gi]?).bind (·.dst)) = some tg ∧ sp[gi]? = some (B.det N tg (.bool b)) ∧ (bf.getD j 0).testBit gi = true ∧ (pc ↔ b = want)) ∨
  (∃ gi want tg b pg, o.guard = some (gi, want) ∧ ((ops[gi]?).bind (·.dst)) = some tg ∧ sp[gi]? = some (B.gdet N tg pg (.bool b)) ∧ (bf.getD j 0).testBit gi = true ∧ (pc ↔ (pg ∧ b = want)))
theorem gd0 (hg : o.guard = none := by exact rfl) : GdOk ops sp bf j o True := .inl ⟨hg, trivial⟩
theorem gd1 (gi : Nat) (want : Bool) {tg : Nat} {b : Bool} (hgs : sp[gi]? = some (B.det N tg (.bool b)) := by exact rfl) (hg : o.guard = some (gi, want) := by exact rfl) (hgd : ((ops[gi]?).bind (·.dst)) = some tg := by exact rfl) (hb : (bf.getD j 0).testBit gi = true := by exact rfl) : GdOk ops sp bf j o (b = want) := .inr (.inl ⟨gi, want, tg, b, hg, hgd, hgs, hb, Iff.rfl⟩)
theorem get_bool {a : Act} {t : Nat} {b : Bool} (hv : get a t = .bool b) : a.tmps[t]? = some (.bool b) := by
  unfold get at hv
  rw [Array.getD_eq_getD_getElem?] at hv
  cases h' : a.tmps[t]? with
  | none => rw [h'] at hv; simp [undef] at hv
  | some u => rw [h'] at hv; simp at hv; rw [hv]
theorem get_undef {a : Act} {t : Nat} (hv : get a t = undef) : ∀ b, a.tmps[t]? ≠ some (.bool b) := by
  intro bb h'
  unfold get at hv
  rw [Array.getD_eq_getD_getElem?, h'] at hv
  simp [undef] at hv
theorem GdOk.known (h : GdOk ops sp bf j o pc) {done : Nat → Bool} {a : Act} {w : World} {τ : Nat → Foot} (c : Cx ops sp In a0 w0 bf j o done a w τ) : Region.wanted o (yielded ops a.tmps) = true ↔ pc := by
  rcases h with ⟨hg, hp⟩ | ⟨gi, want, tg, b, hg, hgd, hgs, hb, hpc⟩ | ⟨gi, want, tg, b, pg, hg, hgd, hgs, hb, hpc⟩
  · exact ⟨fun _ => hp, fun _ => wanted_none hg _⟩
  · have hv := get_bool (c.v gi hgs hb)
    rw [hpc]
    cases b <;> cases want <;> simp [Region.wanted, hg, yielded, hgd, hv]
  · have hv : (pg → get a tg = .bool b) ∧ (¬ pg → get a tg = undef) := c.J.det gi _ hgs rfl (c.pre gi hb)
    rw [hpc]
    by_cases hpg : pg
    · have hv := get_bool (hv.1 hpg)
      cases b <;> cases want <;> simp [Region.wanted, hg, yielded, hgd, hv, hpg]
    · have hv := get_undef (hv.2 hpg)
      have hy : yielded ops a.tmps gi = none := by
        cases h' : a.tmps[tg]? with
        | none => simp [yielded, hgd, h']
        | some u => cases u <;> first | exact absurd h' (hv _) | simp [yielded, hgd, h']
      simp [Region.wanted, hg, hy, hpg]
theorem Ob.gz {t : Nat} {f : β → Value} {Ψ : β → Prop} {Φ : β → ZP} (hgd : GdOk ops sp bf j o pc) (h : ∀ {done a w τ}, Cx ops sp In a0 w0 bf j o done a w τ → pc → ∃ g args, Enters P a o w g args ∧ Calls P g args w (fun e w' => ∃ b, e = .returned (f b) ∧ Ext none' w w' ∧ Ψ b ∧ (Φ b).P (Zof τ w') w'))
    (hs : s = gzdet N t pc f Ψ Φ := by exact rfl) (hd : o.dst = some t := by exact rfl) : Ob ops sp In a0 w0 P bf j o s := by
  subst hs
  intro done a w τ c
  refine ⟨fun hw => ?_, fun hw => ⟨Ext.refl _ _, fun hp => by rw [(hgd.known c).2 hp] at hw; cases hw⟩⟩
  have hp := (hgd.known c).1 hw
  obtain ⟨g, args, h1, h2⟩ := h c hp
  unfold Oper.wp
  rw [h1]
  refine h2.mono fun e w' ⟨b, he, hx, hq, hz⟩ => ?_
  subst he
  refine ⟨f b, rfl, hx, fun _ => ⟨b, ?_, hq, hz⟩⟩
  show get (a.put o.dst (f b)) t = f b
  rw [hd, get_put a t t _ (c.lt t hd), if_pos rfl]
theorem Ob.gzBuild {α : Type} {E : Enc α} {ty e tag t n : Nat} {xs : β → List α} {Ψ : β → Prop} {Φ : β → ZP} {parts : Array (Nat × Operand)} {z : Value} {cells : β → Array Value} (hgd : GdOk ops sp bf j o pc) (ho : o.op = .buildSlice ty n parts)
    (hty : P.underlying ty = some (.slice e)) (hsz : ∀ w, (sizeOf e).run P w = .ok E.sz w) (hz : ∀ w, (zeroValue e).run P w = .ok z w) (hn0 : 0 < n) (hsmall : n * E.sz ≤ 16777216) (hn : ∀ b, n = (xs b).length) (hc : ∀ b, (cells b).toList = E.row (xs b))
    (h : ∀ {done a w τ}, Cx ops sp In a0 w0 bf j o done a w τ → pc → ∃ b, Ψ b ∧ (Φ b).P (Zof τ w) w ∧ Instr.fill (fun i => some (i * E.sz, E.sz)) ((Array.range (n * E.sz)).map (z.cells[· % z.cells.size]!)) (parts.map fun (i, x) => (i, a.eval x)).toList = some (cells b))
    (hs : s = gzown E e N tag t pc xs Ψ Φ := by exact rfl) (hd : o.dst = some t := by exact rfl) : Ob ops sp In a0 w0 P bf j o s := by
  subst hs
  intro done a w τ c
  refine ⟨fun hw => ?_, fun hw => ⟨Ext.refl _ _, τ tag, fun g h => .inl h, fun hp => by rw [(hgd.known c).2 hp] at hw; cases hw⟩⟩
  have hp := (hgd.known c).1 hw
  obtain ⟨b, hq, hzz, hf⟩ := h c hp
  have h2 : ¬ (n * E.sz > 2 ^ 24) := by omega
  have h0 : ¬ (n * E.sz = 0) := by have := Nat.mul_pos hn0 E.pos; omega
  have hr : (execOp a.eval o).run P w = .ok (.value (.slice (some ⟨w.heap.size, 0, none⟩) n n)) (w.alloc (.cells (cells b) e)) := by
    simp only [execOp, ho, Instr.buildSlice, Sem.run_bind, run_underlying hty, Result.andThen_ok, hsz, h2, if_false, Sem.run_pure, h0, hz]
    rw [hf]
    rfl
  have hl : (cells b).size = n * E.sz := by rw [← Array.length_toList, hc, E.row_length, ← hn b]
  refine wp_of_run hr ⟨_, rfl, Ext.alloc _ _ _, fun g => g = w.heap.size, fun g hg => .inr (by subst hg; simp), fun _ => ⟨b, ?_, hq, ?_⟩⟩
  · show ownR E e (xs b) _ (get (a.put o.dst _) t) _
    rw [hd, get_put a t t _ (c.lt t hd), if_pos rfl]
    refine ⟨⟨E.row_length (xs b), .inr ⟨w.heap.size, n, cells b, by rw [← hn b], Nat.zero_le _, heap_alloc_new w _, by rw [← hn b]; exact Nat.le_refl _, ?_, hl, ?_⟩⟩, fun g h => ?_⟩
    · have := Nat.le_mul_of_pos_right n E.pos; simp only [maxLen]; omega
    · rw [hc, ← E.row_length]; exact List.take_length
    · simp only [Value.ownBlock, Option.some.injEq] at h; exact h.symm
  · refine (Φ b).st (fun g hg => ⟨Nat.lt_of_lt_of_le hg.1 (by simp), fun t ht => ?_⟩) ((Ext.alloc none' w _).mono fun _ _ h => h.elim) hzz
    unfold upd at ht
    split at ht
    · have := hg.1; omega
    · exact hg.2 t ht
theorem Ob.gzStore {ty tag t tt off : Nat} {cells0 : List Value} {cells : β → List Value} {Ψ : β → Prop} {Φ : β → ZP} {x y : Operand} {v : β → Value} (hg : o.guard = none) (ho : o.op = .store tt x y) (hsz : ∀ b w, (sizeOf tt).run P w = .ok (v b).cells.size w)
    (hfit : ∀ b, off + (v b).cells.size ≤ cells0.length) (h1 : ∀ b, ∀ u ∈ (v b).cells.toList, u.oneCell' = true) (hc : ∀ b, cells b = cells0.take off ++ (v b).cells.toList ++ cells0.drop (off + (v b).cells.size))
    (hp : ∀ {done a w τ}, Cx ops sp In a0 w0 bf j o done a w τ → ∃ b, Ψ b ∧ (Φ b).P (Zof τ w) w ∧ boxR ty cells0 (τ tag) (get a t) w ∧ a.eval x = .pointer (some ((ptrOf (get a t)).add off)) ∧ a.eval y = v b)
    (hs : s = gzbox ty N tag t cells Ψ Φ := by exact rfl) (hd : o.dst = none := by exact rfl) : Ob ops sp In a0 w0 P bf j o s := by
  subst hs
  refine Ob.tagged hg rfl fun done a w τ c => ?_
  obtain ⟨b, hq, hzz, ⟨g, hv, hlt, hT, hgg⟩, hx, hy⟩ := hp c
  have hx' : a.eval x = .pointer (some ⟨g, off, none⟩) := by rw [hx, hv]; simp only [ptrOf, addr_at]
  have hr := run_store (P := P) (t := tt) (off := off) hgg (hsz b) (by simpa using hfit b) (h1 b)
  have hr' : (execOp a.eval o).run P w = .ok .skip (w.setRow g (cells b).toArray) := by
    simp only [execOp, ho, hx', hy, Sem.run_bind, hr, Result.andThen_ok]
    rw [hc]
    rfl
  have hx : Ext (τ tag) w (w.setRow g (cells b).toArray) := (setRow_ext w g _).mono (fun k _ h => by rw [h]; exact hT)
  refine wp_of_skip hr' ⟨undef, rfl, hx, τ tag, fun g h => .inl h, b, ?_, hq, ?_⟩
  · show boxR ty (cells b) _ (get (a.put o.dst _) t) _
    rw [hd, get_put_none]
    exact ⟨g, hv, by simp [World.setRow, hlt], hT, setRow_heap w g _ _ ty _ hgg⟩
  · exact (Φ b).st (fun g hg => zof_upd (fun _ h => h) g ⟨Nat.lt_of_lt_of_le hg.1 hx.size, hg.2⟩) (hx.mono fun g _ hg hn => hn.2 _ hg) hzz
end
section
variable {N : Foot} {P : Program} {ops : Array Oper} {sp : List (Spec N)} {In : Nat → Ini N} {a0 : Act} {w0 : World} {bf : List Nat} {j : Nat} {o : Oper} {done : Nat → Bool} {a : Act} {w : World} {τ : Nat → Foot} {β : Type} {pc : Prop}
theorem Cx.zd (c : Cx ops sp In a0 w0 bf j o done a w τ) (i : Nat) {t : Nat} {f : β → Value} {Ψ : β → Prop} {Φ : β → ZP} (hs : sp[i]? = some (gzdet N t pc f Ψ Φ)) (hp : pc) (hb : (bf.getD j 0).testBit i = true := by exact rfl) : ∃ b, a.eval (.tmp t) = f b ∧ Ψ b ∧ (Φ b).P (Zof τ w) w := c.J.det i _ hs rfl (c.pre i hb) hp
theorem Cx.zo (c : Cx ops sp In a0 w0 bf j o done a w τ) {α : Type} {E : Enc α} {ty t slot : Nat} {xs : β → List α} {Ψ : β → Prop} {Φ : β → ZP} (i : Nat) (hs : sp[i]? = some (gzown E ty N t slot pc xs Ψ Φ)) (hp : pc) (hl : lastTag (sp.map (·.tag)) t j = some i := by exact rfl) (hord : ordB (sp.map (·.tag)) bf t j = true := by kernel_rfl) : ∃ b, ownR E ty (xs b) (τ t) (get a slot) w ∧ Ψ b ∧ (Φ b).P (Zof τ w) w := c.res i t _ hs hl hord hp
end
section
variable {N : Foot} {l : List Oper} {sp : List (Spec N)} {il : List (Ini N)} {a0 a : Act} {w : World} {τ : Nat → Foot} {β : Type} {pc : Prop}
theorem Fin.gzb (h : Fin l sp il a0 a w τ) {ty t slot : Nat} {cells : β → List Value} {Ψ : β → Prop} {Φ : β → ZP} (j : Nat) {v : Value} (hv : get a slot = v) (hs : sp[j]? = some (gzbox ty N t slot cells Ψ Φ)) (hl : lastTag (sp.map (·.tag)) t sp.length = some j := by exact rfl) : ∃ b, boxR ty (cells b) (τ t) v w ∧ Ψ b ∧ Fz (Φ b) τ w := hv ▸ h.res j t _ hs rfl hl
theorem Fin.gzd (h : Fin l sp il a0 a w τ) {t : Nat} {f : β → Value} {Ψ : β → Prop} {Φ : β → ZP} (j : Nat) (hs : sp[j]? = some (gzdet N t pc f Ψ Φ)) (hp : pc) : ∃ b, get a t = f b ∧ Ψ b ∧ Fz (Φ b) τ w := h.det j _ hs rfl hp
end
theorem Calls.isV {P : Program} {f : FuncId} {args : Array Value} {w : World} {v v' : Value} {M : Nat → Prop} (h : Calls P f args w (fun e w' => e = .returned v ∧ Ext M w w')) (e : v = v') : Calls P f args w (fun e w' => e = .returned v' ∧ Ext M w w') := e ▸ h
theorem IsSl.cells {v : Value} {n : Nat} (h : IsSl v n) : v.cells.toList = [v] ∧ v.cells.size = 1 ∧ v.oneCell' = true := by
  rcases h with ⟨rfl, _⟩ | ⟨b, cap, rfl, _⟩ <;> exact ⟨rfl, rfl, rfl⟩
section
variable {N : Foot} {P : Program} {ops : Array Oper} {sp : List (Spec N)} {In : Nat → Ini N} {a0 : Act} {w0 : World} {bf : List Nat} {j : Nat} {o : Oper} {s : Spec N}
end
section
variable {N : Foot} {l : List Oper} {sp : List (Spec N)} {il : List (Ini N)} {a0 a : Act} {w : World} {τ : Nat → Foot}
end
end B
end Go.Proofs.Ytocmchlhbniloaa
namespace Go.Proofs.Ytocmchlhbniloaa
namespace B
open Go.RowKit Srt
theorem only_mk {K : Act → World → Prop} {a : Act} {w : World} (h : K a w) : Only K .normal a w := ⟨rfl, h⟩
theorem IsSl.sv {v : Value} {n : Nat} (h : IsSl v n) : ∃ s : Sv, v = s.v := by
  rcases h with ⟨rfl, _⟩ | ⟨b, cap, rfl, _⟩
  · exact ⟨⟨none, 0, 0⟩, rfl⟩
  · exact ⟨⟨some b, n, cap⟩, rfl⟩
def zTr (G : Foot) (t : Tr) : ZP := ⟨fun Z w => TrT (fun g => Z g ∧ G g) w t, fun hz he h => (TrT.keep h he fun g hg hn => hn hg.1).mono fun g hg _ => ⟨hz g hg.1, hg.2⟩⟩
def zTl (G : Foot) (ts : List Tr) : ZP := ⟨fun Z w => ∀ t ∈ ts, TrT (fun g => Z g ∧ G g) w t, fun hz he h t ht => (zTr G t).st hz he (h t ht)⟩
section
variable {G F : Foot} {Z : Foot} {τ : Nat → Foot} {w w' : World} {t : Tr} {ts us : List Tr} {v : Value}
theorem Fz.s (h : Fz (zTr G t) τ w) : TrS w t := TrT.s h
theorem zs (h : (zTr G t).P Z w) : TrS w t := TrT.s h
theorem zl (h : (zTl G ts).P Z w) (hs : SlT TrE w v ts) : TlS w v ts := ⟨hs, fun t ht => TrT.s (h t ht)⟩
theorem Fz.l (h : Fz (zTl G ts) τ w) (hs : SlT TrE w v ts) : TlS w v ts := zl h hs
theorem zkl (h : (zTr G t).P Z w) : (zTl G t.kids).P Z w := fun k hk => TrT.kid h hk
theorem Fz.kl (h : Fz (zTr G t) τ w) : Fz (zTl G t.kids) τ w := zkl h
theorem ze {i : Int} (h : (zTl G ts).P Z w) (h0 : 0 ≤ i) (h1 : i < ts.length) : (zTr G (nth ts i)).P Z w := h _ (nth_memI h0 h1)
theorem Fz.e {i : Int} (h : Fz (zTl G ts) τ w) (h0 : 0 ≤ i) (h1 : i < ts.length) : Fz (zTr G (nth ts i)) τ w := ze h h0 h1
theorem Fz.tn (G : Foot) (τ : Nat → Foot) (w : World) : Fz (zTl G []) τ w := fun t h => by cases h
theorem Fz.snoc (h : Fz (zTl G ts) τ w) (h2 : Fz (zTr G t) τ w) : Fz (zTl G (ts ++ [t])) τ w := fun x hx => by
  rcases List.mem_append.1 hx with hx | hx
  · exact h x hx
  · simp at hx; subst hx; exact h2
theorem Fz.app (h : Fz (zTl G ts) τ w) (h2 : Fz (zTl G us) τ w) : Fz (zTl G (ts ++ us)) τ w := fun x hx => by
  rcases List.mem_append.1 hx with hx | hx
  · exact h x hx
  · exact h2 x hx
theorem TrT.inz {n : Nat} {a : Act} {τ0 : Nat → Foot} (h : TrT F w t) (st : St (Nw w) w n a w τ0) : Fz (zTr (Gn F w) t) τ0 w := TrT.mono h fun g hg hlt => ⟨⟨hlt, fun s hs => by have := (st.bnd s g hs).1; simp only [Nw] at this; omega⟩, .inl hg⟩
theorem TrT.inzs {n : Nat} {a : Act} {τ0 : Nat → Foot} (h : ∀ t ∈ ts, TrT F w t) (st : St (Nw w) w n a w τ0) : Fz (zTl (Gn F w) ts) τ0 w := fun t ht => (h t ht).inz st
theorem TrT.inT {n : Nat} {a : Act} {τ0 : Nat → Foot} {T : Foot} (h : TrT F w t) (hF : ∀ g, F g → ¬ T g) (st : St (fun k => T k ∨ w.heap.size ≤ k) w n a w τ0) : Fz (zTr (Gn F w) t) τ0 w := TrT.mono h fun g hg hlt => ⟨⟨hlt, fun s hs => by
  rcases (st.bnd s g hs).1 with h1 | h1
  · exact hF g hg h1
  · omega⟩, .inl hg⟩
theorem Fz.out (h : Fz (zTr G t) τ w) : TrT G w t := TrT.mono h fun g hg _ => hg.2
theorem Fz.outs (h : Fz (zTl G ts) τ w) : ∀ t ∈ ts, TrT G w t := fun t ht => TrT.mono (h t ht) fun g hg _ => hg.2
theorem Fz.outo (h : Fz (zTl G ts) τ w) {i : Nat} {v : Value} (hv : ∀ g, v.ownBlock = some g → τ i g) : ∀ t ∈ ts, TrT (fun g => G g ∧ v.ownBlock ≠ some g) w t := fun t ht => TrT.mono (h t ht) fun g hg _ => ⟨hg.2, fun e => hg.1.2 i (hv g e)⟩
end
section
variable {α : Type} {N : Foot} {P : Program} {ops : Array Oper} {sp : List (Spec N)} {In : Nat → Ini N} {a0 : Act} {w0 : World} {bf : List Nat} {j : Nat} {o : Oper} {done : Nat → Bool} {a : Act} {w w' W : World} {τ τ0 : Nat → Foot} {F : Foot} {t : Tr} {ts : List Tr} {n : Nat} {a1 : Act}
theorem Cx.hW (c : Cx ops sp In a0 w0 bf j o done a w τ) (st : St N W n a1 w0 τ0) : W.heap.size ≤ w.heap.size := Nat.le_trans st.ext.size c.J.ext.size
theorem Cx.tz (c : Cx ops sp In a0 w0 bf j o done a w τ) (st : St N W n a1 w0 τ0) (hx : Ext none' w w') (h : TrT (Gn (fun g => Zof τ w g ∧ Gn F W g) w) w' t) : (zTr (Gn F W) t).P (Zof τ w') w' := TrT.mono h (c.gz (c.hW st) hx.size)
theorem Cx.tn (c : Cx ops sp In a0 w0 bf j o done a w τ) (st : St N W n a1 w0 τ0) (hx : Ext none' w w') (h : TrT (Gn none' w) w' t) : (zTr (Gn F W) t).P (Zof τ w') w' := c.tz st hx (h.mono fun g hg _ => hg.elim (fun h => h.elim) .inr)
theorem Cx.tzo {tag : Nat} {v : Value} {E : Enc α} {ty : Nat} {xs : List α} (c : Cx ops sp In a0 w0 bf j o done a w τ) (st : St N W n a1 w0 τ0) (hx : Ext none' w w') (hv : NewT E ty w w' v xs) (h : ∀ t ∈ ts, TrT (fun g => Gn (fun g => Zof τ w g ∧ Gn F W g) w g ∧ v.ownBlock ≠ some g) w' t) : (zTl (Gn F W) ts).P (Zof (upd τ tag fun g => v.ownBlock = some g) w') w' := fun t ht => TrT.mono (h t ht) (c.gzo (c.hW st) hx.size hv.2)
theorem Cx.tno {tag : Nat} {v : Value} {E : Enc α} {ty : Nat} {xs : List α} (c : Cx ops sp In a0 w0 bf j o done a w τ) (st : St N W n a1 w0 τ0) (hx : Ext none' w w') (hv : NewT E ty w w' v xs) (h : ∀ t ∈ ts, TrT (fun g => Gn none' w g ∧ v.ownBlock ≠ some g) w' t) : (zTl (Gn F W) ts).P (Zof (upd τ tag fun g => v.ownBlock = some g) w') w' := c.tzo st hx hv fun t ht => (h t ht).mono fun g hg _ => ⟨hg.1.elim (fun h => h.elim) .inr, hg.2⟩
theorem Cx.sn {v : Value} {E : Enc α} {ty : Nat} {xs : List α} (c : Cx ops sp In a0 w0 bf j o done a w τ) (st : St N W n a1 w0 τ0) (hx : Ext none' w w') (h : NewT E ty w w' v xs) : (zSl E (Gn F W) v xs).P (Zof τ w') w' := ⟨h.1.sl, fun hn => by
  have hlt := h.1.sl.lt hn
  have hge : w.heap.size ≤ (ptrOf v).block := by
    rcases h.1.2 with ⟨_, h0⟩ | ⟨g, cap, cur, hv, _⟩
    · exact absurd (List.eq_nil_of_length_eq_zero h0) hn
    · subst hv; exact h.2 g rfl
  exact c.gz (c.hW st) hx.size _ (.inr hge) hlt⟩
end
theorem ownR.blk {α : Type} {E : Enc α} {ty : Nat} {xs : List α} {T : Foot} {v : Value} {w : World} (h : ownR E ty xs T v w) (hn : xs ≠ []) : T (ptrOf v).block := by
  rcases h.1.2 with ⟨_, h0⟩ | ⟨g, cap, cur, hv, _⟩
  · exact absurd (List.eq_nil_of_length_eq_zero h0) hn
  · subst hv; exact h.2 g rfl
theorem znil {G Z : Foot} {w : World} : (zTl G []).P Z w := fun t h => by cases h
theorem zcons {G Z : Foot} {w : World} {t : Tr} {ts : List Tr} (h : (zTr G t).P Z w) (h2 : (zTl G ts).P Z w) : (zTl G (t :: ts)).P Z w := fun x hx => by
  rcases List.mem_cons.1 hx with hx | hx
  · subst hx; exact h
  · exact h2 x hx
theorem zsub {G Z : Foot} {w : World} {ts : List Tr} {i j : Nat} (h : (zTl G ts).P Z w) : (zTl G ((ts.drop i).take j)).P Z w := fun x hx => h x (List.mem_of_mem_drop (List.mem_of_mem_take hx))
def leafT (k : Int) (ch : ByteArray) (ng : Bool) (mn mx : Int) (lz : Bool) : Tr := ⟨k, ch, ng, Sv.nil, [], mn, mx, lz, Sv.nil, []⟩
theorem leafTr (F : Foot) (w : World) (k : Int) (ch : ByteArray) (ng : Bool) (mn mx : Int) (lz : Bool) : TrT F w (leafT k ch ng mn mx lz) := .mk (SlT.nil _ _) (fun h => absurd rfl h) (SlT.nil _ _) (fun h => absurd rfl h) (fun k h => by cases h)
theorem leafZ (G Z : Foot) (w : World) (k : Int) (ch : ByteArray) (ng : Bool) (mn mx : Int) (lz : Bool) : (zTr G (leafT k ch ng mn mx lz)).P Z w := leafTr _ w k ch ng mn mx lz
def mkT (k : Int) (ks : List Tr) : Tr := ⟨k, ⟨#[]⟩, false, Sv.nil, [], 0, 0, false, Sv.nil, ks⟩
def flatF (k : Int) (l : List Tr) : List Tr := l.flatMap fun x => if x.k = k then x.kids else [x]
def seqF (l : List Tr) : Tr := match flatF 0 l with
  | [x] => x
  | ks => mkT 0 ks
def altF (l : List Tr) : Tr := match flatF 1 l with
  | [] => mkT 0 []
  | [x] => x
  | ks => mkT 1 ks
theorem flatF_snoc (k : Int) (l : List Tr) (x : Tr) : flatF k (l ++ [x]) = flatF k l ++ if x.k = k then x.kids else [x] := by simp [flatF]
theorem flat_hit {ts xs us : List Tr} {k : Int} {n : Nat} (h : n < xs.length) (hq : ts.map er = flatF k ((xs.take n).map er)) {t : Tr} (ht : er t = er (nth xs (n : Int))) (hk : t.k = k) (hu : us = t.kids) : (ts ++ us).map er = flatF k ((xs.take (n + 1)).map er) := by
  subst hu
  rw [take_snoc h, List.map_append, List.map_append, List.map_cons, List.map_nil, flatF_snoc, ← ht, er_k, if_pos hk, ← hq, er_kids]
theorem flat_miss {ts xs : List Tr} {k : Int} {n : Nat} (h : n < xs.length) (hq : ts.map er = flatF k ((xs.take n).map er)) {t : Tr} (ht : er t = er (nth xs (n : Int))) (hk : ¬ t.k = k) : (ts ++ [t]).map er = flatF k ((xs.take (n + 1)).map er) := by
  rw [take_snoc h, List.map_append, List.map_append, List.map_cons, List.map_nil, List.map_cons, List.map_nil, flatF_snoc, ← ht, er_k, if_neg hk, ← hq]
theorem kids_parts (t : Tr) : (t.kids.length : Int) + 1 ≤ partsF t := by
  have h : ∀ ks : List Tr, (ks.length : Int) ≤ sumL (ks.map partsF) := by
    intro ks
    induction ks using snoc_ind with
    | h0 => exact Int.le_refl _
    | h1 ks x ih =>
      rw [List.map_append, List.map_cons, List.map_nil, sumL_snoc, List.length_append]
      have := partsF_pos x
      simp; omega
  have := partsF_eq t
  have := h t.kids
  omega
def rwW (rs : List (ByteArray × ByteArray)) : Int := sumL (rs.map fun r => 1 + (r.1.size : Int) + (r.2.size : Int))
def wtF : Tr → Int := foldF fun t l => 1 + (t.ch.size : Int) + rwW t.rows + sumL l
theorem wtF_eq (t : Tr) : wtF t = 1 + (t.ch.size : Int) + rwW t.rows + sumL (t.kids.map wtF) := foldF_eq _ t
theorem rwW_len (rs : List (ByteArray × ByteArray)) : (rs.length : Int) ≤ rwW rs := by
  unfold rwW
  induction rs using snoc_ind with
  | h0 => exact Int.le_refl _
  | h1 rs r ih => rw [List.map_append, List.map_cons, List.map_nil, sumL_snoc, List.length_append]; simp; omega
theorem rwW_mem {rs : List (ByteArray × ByteArray)} {r : ByteArray × ByteArray} (h : r ∈ rs) : (r.1.size : Int) + (r.2.size : Int) ≤ rwW rs := by
  have := sumL_mem (xs := rs.map fun r => 1 + (r.1.size : Int) + (r.2.size : Int)) (fun x hx => by obtain ⟨q, _, rfl⟩ := List.mem_map.1 hx; omega) (List.mem_map.2 ⟨r, h, rfl⟩)
  unfold rwW; omega
theorem wtF_pos (t : Tr) : 1 ≤ wtF t := by
  induction t using Tr.ind with
  | h t ih =>
    rw [wtF_eq]
    have : 0 ≤ sumL (t.kids.map wtF) := sumL_pos fun x hx => by
      obtain ⟨k, hk, rfl⟩ := List.mem_map.1 hx
      have := ih k hk; omega
    have := rwW_len t.rows
    omega
theorem wtF_kid {t k : Tr} (h : k ∈ t.kids) : wtF k < wtF t := by
  have h1 := sum_mem (f := wtF) (fun q _ => by have := wtF_pos q; omega) h
  have := wtF_eq t
  have := rwW_len t.rows
  omega
theorem wtF_er (t : Tr) : wtF (er t) = wtF t := foldF_er (fun t l => by cases t; rfl) t
theorem parts_wt (t : Tr) : partsF t ≤ wtF t := by
  induction t using Tr.ind with
  | h t ih =>
    have h1 : ∀ ks : List Tr, (∀ k ∈ ks, partsF k ≤ wtF k) → sumL (ks.map partsF) ≤ sumL (ks.map wtF) := by
      intro ks
      induction ks using snoc_ind with
      | h0 => intro _; exact Int.le_refl _
      | h1 ks x ih2 =>
        intro h
        rw [List.map_append, List.map_append, List.map_cons, List.map_nil, List.map_cons, List.map_nil, sumL_snoc, sumL_snoc]
        have := ih2 fun k hk => h k (by simp [hk])
        have := h x (by simp)
        omega
    have := h1 t.kids ih
    have := rwW_len t.rows
    rw [partsF_eq, wtF_eq]; omega
theorem wtF_bound (t : Tr) : (t.kids.length : Int) + 1 ≤ wtF t ∧ (t.rows.length : Int) ≤ wtF t ∧ partsF t ≤ wtF t ∧ (t.ch.size : Int) ≤ wtF t := by
  have h0 := rwW_len t.rows
  have h1 := kids_parts t
  have h2 := parts_wt t
  have h3 := wtF_eq t
  have h4 : 0 ≤ sumL (t.kids.map wtF) := sumL_pos fun x hx => by
    obtain ⟨k, hk, rfl⟩ := List.mem_map.1 hx
    have := wtF_pos k; omega
  omega
theorem er_kidl {t u : Tr} (h : er t = er u) : t.kids.length = u.kids.length := by
  have := congrArg (fun x => x.kids.length) h
  simpa [er_kids] using this
theorem flat_len (k : Int) (l : List Tr) : (((flatF k l).length : Nat) : Int) ≤ sumL (l.map partsF) := by
  induction l using snoc_ind with
  | h0 => exact Int.le_refl _
  | h1 l x ih =>
    rw [flatF_snoc, List.map_append, List.map_cons, List.map_nil, sumL_snoc, List.length_append]
    have h1 := kids_parts x
    have h2 := partsF_pos x
    split <;> simp <;> omega
theorem parts_map (l : List Tr) : (l.map er).map partsF = l.map partsF := by
  rw [List.map_map]
  exact List.map_congr_left fun t _ => partsF_er t
theorem flat_room {ts xs : List Tr} {k : Int} {n : Nat} (hq : ts.map er = flatF k ((xs.take n).map er)) : (ts.length : Int) ≤ sumL ((xs.take n).map partsF) := by
  have h1 := flat_len k ((xs.take n).map er)
  rw [← hq, parts_map] at h1
  simpa using h1
theorem seq_one {ts l : List Tr} (h : ts.map er = flatF 0 l) (h1 : ts.length = 1) : er (nth ts 0) = seqF l := by
  match ts, h1 with
  | [x], _ =>
    unfold seqF
    rw [← h]; rfl
theorem seq_many {ts l : List Tr} (h : ts.map er = flatF 0 l) (h1 : ¬ ts.length = 1) : mkT 0 (ts.map er) = seqF l := by
  unfold seqF
  rw [← h]
  match ts, h1 with
  | [], _ => rfl
  | [x], h1 => exact absurd rfl h1
  | x :: y :: l, _ => rfl
theorem alt_none {ts l : List Tr} (h : ts.map er = flatF 1 l) (h1 : ts.length = 0) : mkT 0 [] = altF l := by
  match ts, h1 with
  | [], _ =>
    unfold altF
    rw [← h]; rfl
theorem alt_one {ts l : List Tr} (h : ts.map er = flatF 1 l) (h1 : ts.length = 1) : er (nth ts 0) = altF l := by
  match ts, h1 with
  | [x], _ =>
    unfold altF
    rw [← h]; rfl
theorem alt_many {ts l : List Tr} (h : ts.map er = flatF 1 l) (h0 : ¬ ts.length = 0) (h1 : ¬ ts.length = 1) : mkT 1 (ts.map er) = altF l := by
  unfold altF
  rw [← h]
  match ts, h0, h1 with
  | [], h0, _ => exact absurd rfl h0
  | [x], _, h1 => exact absurd rfl h1
  | x :: y :: l, _, _ => rfl
theorem mk_out {G : Foot} {w : World} {T : Foot} {kv : Sv} {ty : Nat} {ts : List Tr} {k : Int} (ho : ownR TrE ty ts T kv.v w) (hT : ∀ g, T g → G g) (ht : ∀ t ∈ ts, TrT G w t) : TrT G w ⟨k, ⟨#[]⟩, false, Sv.nil, [], 0, 0, false, kv, ts⟩ :=
  .mk (SlT.nil _ _) (fun h => absurd rfl h) ho.1.sl (fun hn => hT _ (ho.blk hn)) ht
theorem er_mk {k : Int} {kv : Sv} {ts : List Tr} : er ⟨k, ⟨#[]⟩, false, Sv.nil, [], 0, 0, false, kv, ts⟩ = mkT k (ts.map er) := by rw [er_eq]; rfl
def nodeT (k : Int) (ch : ByteArray) (ng : Bool) (mn mx : Int) (lz : Bool) (kv : Sv) (ks : List Tr) : Tr := ⟨k, ch, ng, Sv.nil, [], mn, mx, lz, kv, ks⟩
theorem er_node (k : Int) (ch : ByteArray) (ng : Bool) (mn mx : Int) (lz : Bool) (kv : Sv) (ks : List Tr) : er (nodeT k ch ng mn mx lz kv ks) = nodeT k ch ng mn mx lz Sv.nil (ks.map er) := by rw [er_eq]; rfl
theorem nodeZ {G Z : Foot} {w : World} {k : Int} {ch : ByteArray} {ng : Bool} {mn mx : Int} {lz : Bool} {kv : Sv} {ks : List Tr} (h : (zSl TrE G kv.v ks).P Z w) (h2 : (zTl G ks).P Z w) : (zTr G (nodeT k ch ng mn mx lz kv ks)).P Z w :=
  .mk (SlT.nil _ _) (fun h => absurd rfl h) h.1 h.2 h2
section
variable {N : Foot} {P : Program} {ops : Array Oper} {sp : List (Spec N)} {In : Nat → Ini N} {a0 : Act} {w0 W : World} {bf : List Nat} {j : Nat} {o : Oper} {s : Spec N} {pc : Prop} {n0 : Nat} {a1 : Act} {τ0 : Nat → Foot} {F : Foot} {β : Type}
theorem Ob.gzSl {α : Type} {E : Enc α} {ty e t n : Nat} {xs : List α} {parts : Array (Nat × Operand)} {z : Value} {cells : Array Value} (st : St N W n0 a1 w0 τ0) (hgd : GdOk ops sp bf j o pc) (ho : o.op = .buildSlice ty n parts)
    (hty : P.underlying ty = some (.slice e)) (hsz : ∀ w, (sizeOf e).run P w = .ok E.sz w) (hz : ∀ w, (zeroValue e).run P w = .ok z w) (hn0 : 0 < n) (hsmall : n * E.sz ≤ 16777216) (hn : n = xs.length) (hc : cells.toList = E.row xs)
    (h : ∀ {done a w τ}, Cx ops sp In a0 w0 bf j o done a w τ → pc → Instr.fill (fun i => some (i * E.sz, E.sz)) ((Array.range (n * E.sz)).map (z.cells[· % z.cells.size]!)) (parts.map fun (i, x) => (i, a.eval x)).toList = some cells)
    (hs : s = gzdet N t pc (fun b : Sv => b.v) (fun _ => True) (fun b => zSl E (Gn F W) b.v xs) := by exact rfl) (hd : o.dst = some t := by exact rfl) : Ob ops sp In a0 w0 P bf j o s := by
  subst hs
  intro done a w τ c
  refine ⟨fun hw => ?_, fun hw => ⟨Ext.refl _ _, fun hp => by rw [(hgd.known c).2 hp] at hw; cases hw⟩⟩
  have hp := (hgd.known c).1 hw
  have hf := h c hp
  have h2 : ¬ (n * E.sz > 2 ^ 24) := by omega
  have h0 : ¬ (n * E.sz = 0) := by have := Nat.mul_pos hn0 E.pos; omega
  have hr : (execOp a.eval o).run P w = .ok (.value (.slice (some ⟨w.heap.size, 0, none⟩) n n)) (w.alloc (.cells cells e)) := by
    simp only [execOp, ho, Instr.buildSlice, Sem.run_bind, run_underlying hty, Result.andThen_ok, hsz, h2, if_false, Sem.run_pure, h0, hz]
    rw [hf]
    rfl
  have hl : cells.size = n * E.sz := by rw [← Array.length_toList, hc, E.row_length, ← hn]
  have hown : OwnT E e (w.alloc (.cells cells e)) (.slice (some ⟨w.heap.size, 0, none⟩) n n) xs := ⟨E.row_length xs, .inr ⟨w.heap.size, n, cells, by rw [← hn], Nat.zero_le _, heap_alloc_new w _, by rw [← hn]; exact Nat.le_refl _, by have := Nat.le_mul_of_pos_right n E.pos; simp only [maxLen]; omega, hl, by rw [hc, ← E.row_length]; exact List.take_length⟩⟩
  have hx : Ext none' w (w.alloc (.cells cells e)) := Ext.alloc _ _ _
  refine wp_of_run hr ⟨_, rfl, hx, fun _ => ⟨⟨some ⟨w.heap.size, 0, none⟩, n, n⟩, ?_, trivial, ?_⟩⟩
  · show get (a.put o.dst _) t = _
    rw [hd, get_put a t t _ (c.lt t hd), if_pos rfl]; rfl
  · exact c.sn st hx ⟨hown, fun g hg => by have hg' : some w.heap.size = some g := hg; simp only [Option.some.injEq] at hg'; omega⟩
theorem Ob.gzRun {t : Nat} {f : β → Value} {Ψ : β → Prop} {Φ : β → ZP} (hgd : GdOk ops sp bf j o pc) (h : ∀ {done a w τ}, Cx ops sp In a0 w0 bf j o done a w τ → pc → ∃ b, Ψ b ∧ (Φ b).P (Zof τ w) w ∧ Runs P a o w (f b))
    (hs : s = gzdet N t pc f Ψ Φ := by exact rfl) (hd : o.dst = some t := by exact rfl) : Ob ops sp In a0 w0 P bf j o s := by
  subst hs
  intro done a w τ c
  refine ⟨fun hw => ?_, fun hw => ⟨Ext.refl _ _, fun hp => by rw [(hgd.known c).2 hp] at hw; cases hw⟩⟩
  obtain ⟨b, hq, hz, hr⟩ := h c ((hgd.known c).1 hw)
  refine wp_of_runs hr ⟨_, rfl, Ext.refl _ _, fun _ => ⟨b, ?_, hq, hz⟩⟩
  show get (a.put o.dst _) t = _
  rw [hd, get_put a t t _ (c.lt t hd), if_pos rfl]
end
theorem sumL_nil : sumL [] = 0 := rfl
theorem sumL_cons (x : Int) (l : List Int) : sumL (x :: l) = x + sumL l := by
  rw [show x :: l = [x] ++ l from rfl, sumL_app]; simp [sumL]
theorem wt_leaf (k : Int) (ch : ByteArray) (ng : Bool) (mn mx : Int) (lz : Bool) : wtF (leafT k ch ng mn mx lz) = 1 + (ch.size : Int) := by rw [wtF_eq]; simp [leafT, rwW, sumL]
theorem wt_node (k : Int) (ch : ByteArray) (ng : Bool) (mn mx : Int) (lz : Bool) (kv : Sv) (ks : List Tr) : wtF (nodeT k ch ng mn mx lz kv ks) = 1 + (ch.size : Int) + sumL (ks.map wtF) := by rw [wtF_eq]; simp [nodeT, rwW, sumL]
theorem wt_mk (k : Int) (ks : List Tr) : wtF (mkT k ks) = 1 + sumL (ks.map wtF) := by
  rw [wtF_eq]
  have h : ((⟨#[]⟩ : ByteArray).size : Int) = 0 := rfl
  simp [mkT, rwW, sumL, h]
theorem wt_flat (k : Int) (l : List Tr) : sumL ((flatF k l).map wtF) ≤ sumL (l.map wtF) := by
  induction l using snoc_ind with
  | h0 => exact Int.le_refl _
  | h1 l x ih =>
    rw [flatF_snoc, List.map_append, List.map_append, List.map_cons, List.map_nil, sumL_app, sumL_snoc]
    have h1 := wtF_eq x
    have h2 := rwW_len x.rows
    split
    · omega
    · rw [List.map_cons, List.map_nil]; simp [sumL] at ih ⊢; omega
theorem wt_map (l : List Tr) : (l.map er).map wtF = l.map wtF := by
  rw [List.map_map]
  exact List.map_congr_left fun t _ => wtF_er t
theorem wt_seq (l : List Tr) : wtF (seqF l) ≤ 1 + sumL (l.map wtF) := by
  have h := wt_flat 0 l
  unfold seqF
  split
  · rename_i x hx
    rw [hx] at h
    simp [sumL] at h ⊢; omega
  · rename_i ks _
    rw [wt_mk]; omega
theorem wt_alt (l : List Tr) : wtF (altF l) ≤ 1 + sumL (l.map wtF) := by
  have h := wt_flat 1 l
  unfold altF
  split
  · rename_i hx
    rw [hx] at h
    rw [wt_mk]; simp [sumL] at h ⊢; omega
  · rename_i x hx
    rw [hx] at h
    simp [sumL] at h ⊢; omega
  · rename_i ks _ _
    rw [wt_mk]; omega
theorem wt_seqb {t : Tr} {l : List Tr} (h : er t = seqF (l.map er)) : wtF t ≤ 1 + sumL (l.map wtF) := by
  have := wt_seq (l.map er)
  rw [wt_map] at this
  rw [← wtF_er t, h]; exact this
theorem wt_altb {t : Tr} {l : List Tr} (h : er t = altF (l.map er)) : wtF t ≤ 1 + sumL (l.map wtF) := by
  have := wt_alt (l.map er)
  rw [wt_map] at this
  rw [← wtF_er t, h]; exact this
end B
end Go.Proofs.Ytocmchlhbniloaa
namespace Go.Proofs.Ytocmchlhbniloaa
namespace B
open Go.RowKit
open Srt
set_option maxRecDepth 100000 in
theorem cloneRows_c (v : Value) (xs : List (ByteArray × ByteArray)) (w : World) (hS : SlT RowE w v xs) (hb : xs.length ≤ 1000000000) : Calls Try.prog 45 #[v] w (fun e w' => ∃ v', e = .returned v' ∧ Ext none' w w' ∧ NewT RowE 43 w w' v' (xs)) := by
 refine enter (n := 8) Try.func45 rfl rfl (Nat.le_of_ble_eq_true rfl) ?_
 intro a0 τ0 ha st0
 have e0 : get a0 0 = v := ha 0 _ rfl
 clear ha
 have hle := hS.le
 refine wp_seq ?_
 refine region_St (bf := [0]) (sp := [det _ 2 _]) [] mixed st0 (by kernel_rfl) trivial
  ⟨Ob.d fun c => r_assign rfl rfl, trivial⟩ ?_
 intro a1 w1 τ1 st1 f1
 obtain ⟨e0, -⟩ := f1.ks [(0, _)] ⟨e0, trivial⟩
 have e2 : get a1 2 = (.slice none 0 0) := f1.v 0 rfl
 clear f1
 show Code.wp _ _ _ a1 w1
 refine wp_seq ?_
 refine wp_seq ?_
 refine region_St (bf := [0, 1]) (sp := [det _ 3 _, det _ 4 _]) [] mixed st1 (by kernel_rfl) trivial
  ⟨Ob.d fun c => r_move rfl (c.p e0),
  Ob.d fun c => r_isNil rfl Try.underlying22 (c.n 0 rfl) hS.sl, trivial⟩ ?_
 intro a2 w2 τ2 st2 f2
 obtain ⟨e0, e2, -⟩ := f2.ks [(0, _), (2, _)] ⟨e0, e2, trivial⟩
 have e4 : get a2 4 = (.bool (isNil v)) := f2.v 1 rfl
 clear f2
 show Code.wp _ _ _ a2 w2
 refine wp_cond_split (t := isNil v) e4 (fun hc1 => ?_) (fun hc1 => ?_)
 · skip
   refine wp_seq ?_
   refine region_St (bf := [0]) (sp := [det _ 2 _]) [] mixed st2 (by kernel_rfl) trivial
    ⟨Ob.d fun c => r_assign rfl rfl, trivial⟩ ?_
   intro a3 w3 τ3 st3 f3
   obtain ⟨e0, -⟩ := f3.ks [(0, _)] ⟨e0, trivial⟩
   have e2 : get a3 2 = (.slice none 0 0) := f3.v 0 rfl
   clear f3
   show Code.wp _ _ _ a3 w3
   refine wp_ret ?_
   repeat (first | with_reducible refine then_ret ?_ | with_reducible refine block_ret ?_)
   refine ret1 (fn := Try.f45) rfl st3.defers e2 ?_
   have hnil : xs = [] := hS.isNil (by assumption)
   subst hnil
   exact ⟨_, rfl, st3.ext0, OwnT.nil _ _ _, fun g_ h_ => by simp [Value.ownBlock] at h_⟩
 skip
 refine wp_skip ?_
 show Code.wp _ _ _ a2 w2
 refine wp_seq ?_
 refine region_St (bf := [0, 0, 3, 7]) (sp := [own RowE 43 _ 0 5 ([]), det _ 6 _, own _ _ _ 0 7 _, own _ _ _ 0 2 _]) [] mixed st2 (by kernel_rfl) trivial
  ⟨Ob.buildEmpty rfl rfl rfl rfl Try.underlying22 Try.sizeOf43,
  Ob.d fun c => r_move rfl (c.p e0),
  Ob.append (t0 := 5) rfl rfl rfl rfl Try.underlying22 (i := Try.t43) rfl rfl rfl rfl (by simp only [maxLen]; (try simp); omega) (by show _ * 32 ≤ _; (try simp); omega) (fun _ _ _ _ c => ⟨c.ro 0 rfl, rfl, ⟨_, (c.n 1 rfl), (hS.at (st2.ext.trans c.J.ext))⟩⟩),
  Ob.moveT (t0 := 7) rfl rfl rfl rfl rfl (.inr rfl) (fun _ _ _ _ c => ⟨c.ro 2 rfl, rfl⟩), trivial⟩ ?_
 intro a4 w4 τ4 st4 f4
 obtain ⟨b4x2, e2⟩ : ∃ b, get a4 2 = b := ⟨_, rfl⟩
 have r0 : ownR RowE 43 ([] ++ xs) (τ4 0) b4x2 w4 := f4.ro 3 e2 rfl
 clear f4
 show Code.wp _ _ _ a4 w4
 refine wp_ret ?_
 repeat (first | with_reducible refine then_ret ?_ | with_reducible refine block_ret ?_)
 refine ret1 (fn := Try.f45) rfl st4.defers e2 ?_
 rw [List.nil_append] at r0
 exact ⟨_, rfl, st4.ext0, r0.1, fun g_ h_ => (st4.bnd _ g_ (r0.2 g_ h_)).1⟩
set_option maxRecDepth 100000 in
theorem clone_step (t : Tr) (ih : ∀ k ∈ t.kids, ∀ (w : World), TrS w k → wtF k ≤ 1000000 → Calls Try.prog 37 #[k.v] w (fun e w' => ∃ t' : Tr, e = .returned t'.v ∧ Ext none' w w' ∧ TrT (Gn none' w) w' t' ∧ er t' = er k)) (w : World) (hT : TrS w t) (hP : wtF t ≤ 1000000) : Calls Try.prog 37 #[t.v] w (fun e w' => ∃ t' : Tr, e = .returned t'.v ∧ Ext none' w w' ∧ TrT (Gn none' w) w' t' ∧ er t' = er t) := by
 refine enter (n := 26) Try.func37 rfl rfl (Nat.le_of_ble_eq_true rfl) ?_
 intro a0 τ0 ha st0
 have e0 : get a0 0 = (.agg #[(.int .i64 (t.k)), (.string (t.ch)), (.bool (t.ng)), t.rv.v, (.int .i64 (t.mn)), (.int .i64 (t.mx)), (.bool (t.lz)), t.kv.v]) := ha 0 _ rfl
 clear ha
 have hle := hT.kids.le
 have hwt := wtF_bound t
 have hpk : ∀ k : Nat, k < t.kids.length → wtF (nth t.kids (k : Int)) ≤ 1000000 := fun k h_ => by have h1_ := wtF_kid (nth_memI (xs := t.kids) (i := (k : Int)) (by omega) (by omega)); omega
 refine wp_seq ?_
 refine region_St (bf := [0, 0]) (sp := [box _ _ 0 1 [(.int .i64 (t.k)), (.string (t.ch)), (.bool (t.ng)), t.rv.v, (.int .i64 (t.mn)), (.int .i64 (t.mx)), (.bool (t.lz)), t.kv.v], box _ _ 1 2 [(.int .i64 (0)), (.string ((⟨#[]⟩ : ByteArray))), (.bool (false)), (.slice none 0 0), (.int .i64 (0)), (.int .i64 (0)), (.bool (false)), (.slice none 0 0)]]) [] mixed st0 (by kernel_rfl) trivial
  ⟨Ob.box (v := (.agg #[(.int .i64 (t.k)), (.string (t.ch)), (.bool (t.ng)), t.rv.v, (.int .i64 (t.mn)), (.int .i64 (t.mx)), (.bool (t.lz)), t.kv.v])) rfl rfl rfl rfl rfl (fun _ _ _ _ c => (c.p e0)),
  Ob.alloc rfl rfl rfl rfl Try.zeroValue25 rfl, trivial⟩ ?_
 intro a1 w1 τ1 st1 f1
 obtain ⟨b1x1, e1⟩ : ∃ b, get a1 1 = b := ⟨_, rfl⟩
 obtain ⟨b1x2, e2⟩ : ∃ b, get a1 2 = b := ⟨_, rfl⟩
 have r0 : boxR 25 [(.int .i64 (t.k)), (.string (t.ch)), (.bool (t.ng)), t.rv.v, (.int .i64 (t.mn)), (.int .i64 (t.mx)), (.bool (t.lz)), t.kv.v] (τ1 0) b1x1 w1 := f1.rb 0 e1 rfl
 have r1 : boxR 25 [(.int .i64 (0)), (.string ((⟨#[]⟩ : ByteArray))), (.bool (false)), (.slice none 0 0), (.int .i64 (0)), (.int .i64 (0)), (.bool (false)), (.slice none 0 0)] (τ1 1) b1x2 w1 := f1.rb 1 e2 rfl
 clear f1
 show Code.wp _ _ _ a1 w1
 refine wp_seq ?_
 refine region_of_ops ?_
 refine ops_cut 3 (by kernel_rfl) ?_
 refine ops_St (bf := [0, 1, 3]) (sp := [det _ 6 _, det _ 7 _, zdet _ 8 (fun b : Sv => b.v) (fun _ => True) (fun b : Sv => zSl RowE (Gn none' w) b.v t.rows)]) [ib r0, ib r1] st1 (by kernel_rfl) ⟨r0, r1, trivial⟩
  ⟨Ob.d fun c => r_fieldAddr rfl Try.underlying25 rfl rfl Try.sizeOf22 ((c.p e1).trans r0.ptr),
  Ob.d fun c => r_load1 rfl Try.isAgg22 (c.n 0 rfl) ((c.ib 0 rfl).cell (j := 3) rfl),
  Ob.zc (f := fun b : Sv => b.v) (Ψ := fun _ => True) (Φ := fun b : Sv => zSl RowE (Gn none' w) b.v t.rows) fun {_ a_ _ _} c => ⟨_, _, (e_call1 rfl rfl Try.call45 (c.n 1 rfl)), (cloneRows_c t.rv.v t.rows _ (hT.at (st1.ext.trans c.J.ext)).rows (by omega)).mono (fun e w' ⟨v_, he_, hx_, hn_⟩ => by obtain ⟨s_, rfl⟩ := hn_.1.sl.sl.sv; exact ⟨s_, he_, hx_, trivial, c.sn st1 hx_ hn_⟩)⟩, trivial⟩ ?_
 intro a2 w2 τ2 st2 f2
 obtain ⟨e1, e2, -⟩ := f2.ks [(1, _), (2, _)] ⟨e1, e2, trivial⟩
 obtain ⟨rw1_, e8, -, hz2⟩ := f2.zd 2 rfl
 have e8 : get a2 8 = rw1_.v := e8
 replace r0 := f2.ib 0 rfl
 replace r1 := f2.ib 1 rfl
 have r2 : Fz (zSl RowE (Gn none' w) rw1_.v t.rows) τ2 w2 := hz2
 clear f2
 refine only_mk ?_
 refine ops_St (bf := [0, 1]) (sp := [det _ 9 _, box _ _ 0 1 [(.int .i64 (t.k)), (.string (t.ch)), (.bool (t.ng)), rw1_.v, (.int .i64 (t.mn)), (.int .i64 (t.mx)), (.bool (t.lz)), t.kv.v]]) [ib r0, ib r1, iz r2] st2 (by kernel_rfl) ⟨r0, r1, r2, trivial⟩
  ⟨Ob.d fun c => r_fieldAddr rfl Try.underlying25 rfl rfl Try.sizeOf22 ((c.p e1).trans r0.ptr),
  Ob.storeBox (off := 3) (v := rw1_.v) rfl rfl rfl rfl Try.sizeOf22 (Nat.le_of_ble_eq_true rfl) (by simp [Value.cells, Value.oneCell', Sv.v]) rfl (fun _ _ _ _ c => ⟨c.bp 0 rfl e1, c.ad (c.n 0 rfl) e1 rfl, (c.p e8)⟩), trivial⟩ ?_
 intro a3 w3 τ3 st3 f3
 obtain ⟨e1, e2, -⟩ := f3.ks [(1, _), (2, _)] ⟨e1, e2, trivial⟩
 replace r0 : boxR 25 [(.int .i64 (t.k)), (.string (t.ch)), (.bool (t.ng)), rw1_.v, (.int .i64 (t.mn)), (.int .i64 (t.mx)), (.bool (t.lz)), t.kv.v] (τ3 0) b1x1 w3 := f3.rb 1 e1 rfl
 replace r1 := f3.ib 1 rfl
 replace r2 := f3.iz 2 rfl
 clear f3
 show Code.wp _ _ _ a3 w3
 refine wp_seq ?_
 refine region_St (bf := [0]) (sp := [det _ 3 _]) [ib r0, ib r1, iz r2] mixed st3 (by kernel_rfl) ⟨r0, r1, r2, trivial⟩
  ⟨Ob.d fun c => r_assign rfl rfl, trivial⟩ ?_
 intro a4 w4 τ4 st4 f4
 obtain ⟨e1, e2, -⟩ := f4.ks [(1, _), (2, _)] ⟨e1, e2, trivial⟩
 have e3 : get a4 3 = (.slice none 0 0) := f4.v 0 rfl
 replace r0 := f4.ib 0 rfl
 replace r1 := f4.ib 1 rfl
 replace r2 := f4.iz 2 rfl
 clear f4
 show Code.wp _ _ _ a4 w4
 refine wp_seq ?_
 refine wp_seq ?_
 refine region_St (bf := [0, 1, 3, 0]) (sp := [det _ 10 _, det _ 11 _, det _ 12 _, det _ 13 _]) [ib r0, ib r1, iz r2] mixed st4 (by kernel_rfl) ⟨r0, r1, r2, trivial⟩
  ⟨Ob.d fun c => r_fieldAddr rfl Try.underlying25 rfl rfl Try.sizeOf23 ((c.p e1).trans r0.ptr),
  Ob.d fun c => r_load1 rfl Try.isAgg23 (c.n 0 rfl) ((c.ib 0 rfl).cell (j := 7) rfl),
  Ob.d fun c => r_len rfl Try.underlying23 (c.n 1 rfl) (hT.at st4.ext).tl.sl.sl,
  Ob.d fun c => r_move rfl rfl, trivial⟩ ?_
 intro a5 w5 τ5 st5 f5
 obtain ⟨e1, e2, e3, -⟩ := f5.ks [(1, _), (2, _), (3, _)] ⟨e1, e2, e3, trivial⟩
 have e11 : get a5 11 = t.kv.v := f5.v 1 rfl
 have e12 : get a5 12 = (.int .i64 ((t.kids.length : Int))) := f5.v 2 rfl
 have e13 : get a5 13 = (.int .i64 (0)) := f5.v 3 rfl
 replace r0 := f5.ib 0 rfl
 replace r1 := f5.ib 1 rfl
 replace r2 := f5.iz 2 rfl
 clear f5
 show Code.wp _ _ _ a5 w5
 refine wp_block ?_
 refine wp_loop (fun a_ w_ => ∃ (k : Nat) (u : Value) (ts : List Tr) (τ : Nat → Foot), (k ≤ t.kids.length) ∧
      (ts.map er = (t.kids.take k).map er) ∧
      St (Nw w) w 26 a_ w_ τ ∧
      get a_ 3 = u ∧
      get a_ 13 = (.int .i64 ((k : Int))) ∧
      get a_ 1 = b1x1 ∧
      get a_ 2 = b1x2 ∧
      get a_ 11 = t.kv.v ∧
      get a_ 12 = (.int .i64 ((t.kids.length : Int))) ∧
      ownR TrE 25 (ts) (τ 5) u w_ ∧
      Fz (zTl (Gn none' w) ts) τ w_ ∧
      boxR 25 [(.int .i64 (t.k)), (.string (t.ch)), (.bool (t.ng)), rw1_.v, (.int .i64 (t.mn)), (.int .i64 (t.mx)), (.bool (t.lz)), t.kv.v] (τ 0) b1x1 w_ ∧
      boxR 25 [(.int .i64 (0)), (.string ((⟨#[]⟩ : ByteArray))), (.bool (false)), (.slice none 0 0), (.int .i64 (0)), (.int .i64 (0)), (.bool (false)), (.slice none 0 0)] (τ 1) b1x2 w_ ∧
      Fz (zSl RowE (Gn none' w) rw1_.v t.rows) τ w_) (fun a_ _ => t.kids.length - (intOf (get a_ 13)).toNat) ?_ ?_
 · refine ⟨0, (.slice none 0 0), [], τ5, ?_, ?_, st5, e3, (e13.trans (int_eq (by omega))), e1, e2, e11, e12, ?_, ?_, r0, r1, r2⟩
   · omega
   · simp
   · exact ownR.nil _ _ _ _
   · exact Fz.tn _ _ _
 intro a6 w6 hI
 obtain ⟨k, u, ts, τ6, q0, q1, st6, e3, e13, e1, e2, e11, e12, r5, r6, r0, r1, r2⟩ := hI
 have hpk0 := hpk k
 have htl : ts.length = k := by have h_ := congrArg List.length q1; simp at h_; omega
 have m13 := e13
 refine wp_seq ?_
 refine region_St (bf := [0]) (sp := [det _ 14 _]) [ib r0, ib r1, iz r2, Ini.any _, Ini.any _, io r5, iz r6] mixed st6 (by kernel_rfl) ⟨r0, r1, r2, trivial, trivial, r5, r6, trivial⟩
  ⟨Ob.d fun c => r_lss rfl (c.p e13) (c.p e12), trivial⟩ ?_
 intro a7 w7 τ7 st7 f7
 obtain ⟨e1, e2, e3, e11, e12, e13, -⟩ := f7.ks [(1, _), (2, _), (3, _), (11, _), (12, _), (13, _)] ⟨e1, e2, e3, e11, e12, e13, trivial⟩
 have e14 : get a7 14 = (.bool (decide ((k : Int) < (t.kids.length : Int)))) := f7.v 0 rfl
 replace r0 := f7.ib 0 rfl
 replace r1 := f7.ib 1 rfl
 replace r2 := f7.iz 2 rfl
 replace r5 := f7.io 5 rfl
 replace r6 := f7.iz 6 rfl
 clear f7
 show Code.wp _ _ _ a7 w7
 refine wp_seq ?_
 refine wp_cond_split (t := decide ((k : Int) < (t.kids.length : Int))) e14 (fun hc1 => ?_) (fun hc1 => ?_)
 · try simp only [decide_eq_true_eq] at hc1
   refine wp_skip ?_
   show Code.wp _ _ _ a7 w7
   refine wp_seq ?_
   refine wp_block ?_
   refine wp_seq ?_
   refine region_St (bf := [0, 1, 0, 7]) (sp := [det _ 15 _, det _ 16 _, box _ _ 3 5 [(.int .i64 (0)), (.string ((⟨#[]⟩ : ByteArray))), (.bool (false)), (.slice none 0 0), (.int .i64 (0)), (.int .i64 (0)), (.bool (false)), (.slice none 0 0)], box _ _ 3 5 [(.int .i64 ((nth t.kids ((k : Int))).k)), (.string ((nth t.kids ((k : Int))).ch)), (.bool ((nth t.kids ((k : Int))).ng)), (nth t.kids ((k : Int))).rv.v, (.int .i64 ((nth t.kids ((k : Int))).mn)), (.int .i64 ((nth t.kids ((k : Int))).mx)), (.bool ((nth t.kids ((k : Int))).lz)), (nth t.kids ((k : Int))).kv.v]]) [ib r0, ib r1, iz r2, Ini.any _, Ini.any _, io r5, iz r6] mixed st7 (by kernel_rfl) ⟨r0, r1, r2, trivial, trivial, r5, r6, trivial⟩
    ⟨Ob.d fun c => r_indexAddr rfl Try.underlying23 Try.sizeOf25 (c.p e11) (hT.at st7.ext).tl.sl.sl (c.p e13) (by omega) (by omega),
    Ob.d fun c => r_loadN (vs := [(.int .i64 ((nth t.kids ((k : Int))).k)), (.string ((nth t.kids ((k : Int))).ch)), (.bool ((nth t.kids ((k : Int))).ng)), (nth t.kids ((k : Int))).rv.v, (.int .i64 ((nth t.kids ((k : Int))).mn)), (.int .i64 ((nth t.kids ((k : Int))).mx)), (.bool ((nth t.kids ((k : Int))).lz)), (nth t.kids ((k : Int))).kv.v]) rfl Try.isAgg25 Try.sizeOf25 (c.n 0 rfl) rfl (fun _ _ hj => ((hT.at (st7.ext.trans c.J.ext)).tl.sl).elem (nth_some (i := (k : Int)) (by omega) (by omega)) hj),
    Ob.alloc rfl rfl rfl rfl Try.zeroValue25 rfl,
    Ob.storeBox (off := 0) (v := (.agg #[(.int .i64 ((nth t.kids ((k : Int))).k)), (.string ((nth t.kids ((k : Int))).ch)), (.bool ((nth t.kids ((k : Int))).ng)), (nth t.kids ((k : Int))).rv.v, (.int .i64 ((nth t.kids ((k : Int))).mn)), (.int .i64 ((nth t.kids ((k : Int))).mx)), (.bool ((nth t.kids ((k : Int))).lz)), (nth t.kids ((k : Int))).kv.v])) rfl rfl rfl rfl Try.sizeOf25 (Nat.le_of_ble_eq_true rfl) (by simp [Value.cells, Value.oneCell', Sv.v]) rfl (fun _ _ _ _ c => ⟨c.rb 2 rfl, (c.rb 2 rfl).ptr, (c.n 1 rfl)⟩), trivial⟩ ?_
   intro a8 w8 τ8 st8 f8
   obtain ⟨b8x5, e5⟩ : ∃ b, get a8 5 = b := ⟨_, rfl⟩
   obtain ⟨e1, e2, e3, e11, e12, e13, e14, -⟩ := f8.ks [(1, _), (2, _), (3, _), (11, _), (12, _), (13, _), (14, _)] ⟨e1, e2, e3, e11, e12, e13, e14, trivial⟩
   replace r0 := f8.ib 0 rfl
   replace r1 := f8.ib 1 rfl
   replace r2 := f8.iz 2 rfl
   have r3 : boxR 25 [(.int .i64 ((nth t.kids ((k : Int))).k)), (.string ((nth t.kids ((k : Int))).ch)), (.bool ((nth t.kids ((k : Int))).ng)), (nth t.kids ((k : Int))).rv.v, (.int .i64 ((nth t.kids ((k : Int))).mn)), (.int .i64 ((nth t.kids ((k : Int))).mx)), (.bool ((nth t.kids ((k : Int))).lz)), (nth t.kids ((k : Int))).kv.v] (τ8 3) b8x5 w8 := f8.rb 3 e5 rfl
   replace r5 := f8.io 5 rfl
   replace r6 := f8.iz 6 rfl
   clear f8
   show Code.wp _ _ _ a8 w8
   refine region_of_ops ?_
   refine ops_cut 3 (by kernel_rfl) ?_
   refine ops_St (bf := [0, 0, 2]) (sp := [det _ 17 _, det _ 18 _, zdet _ 19 (fun b : Tr => b.v) (fun b : Tr => er b = er (nth t.kids ((k : Int)))) (fun b : Tr => zTr (Gn none' w) b)]) [ib r0, ib r1, iz r2, ib r3, Ini.any _, io r5, iz r6] st8 (by kernel_rfl) ⟨r0, r1, r2, r3, trivial, r5, r6, trivial⟩
    ⟨Ob.d fun c => r_move rfl (c.p e3),
    Ob.d fun c => r_loadN (vs := [(.int .i64 ((nth t.kids ((k : Int))).k)), (.string ((nth t.kids ((k : Int))).ch)), (.bool ((nth t.kids ((k : Int))).ng)), (nth t.kids ((k : Int))).rv.v, (.int .i64 ((nth t.kids ((k : Int))).mn)), (.int .i64 ((nth t.kids ((k : Int))).mx)), (.bool ((nth t.kids ((k : Int))).lz)), (nth t.kids ((k : Int))).kv.v]) rfl Try.isAgg25 Try.sizeOf25 ((c.p e5).trans r3.ptr) rfl (fun _ _ hj => (c.ib 3 rfl).cell hj),
    Ob.zc (f := fun b : Tr => b.v) (Ψ := fun b : Tr => er b = er (nth t.kids ((k : Int)))) (Φ := fun b : Tr => zTr (Gn none' w) b) fun {_ a_ _ _} c => ⟨_, _, (e_call1 rfl rfl Try.call37 (c.n 1 rfl)), (ih _ (nth_memI (by omega) (by omega)) _ ((hT.at (st8.ext.trans c.J.ext)).tl.el (by omega) (by omega)) (by omega)).mono (fun e w' ⟨t_, he_, hx_, ht_, hq_⟩ => ⟨t_, he_, hx_, hq_, c.tn st8 hx_ ht_⟩)⟩, trivial⟩ ?_
   intro a9 w9 τ9 st9 f9
   obtain ⟨e1, e2, e3, e5, e11, e12, e13, e14, -⟩ := f9.ks [(1, _), (2, _), (3, _), (5, _), (11, _), (12, _), (13, _), (14, _)] ⟨e1, e2, e3, e5, e11, e12, e13, e14, trivial⟩
   have e17 : get a9 17 = u := f9.v 0 rfl
   obtain ⟨t2_, e19, hqt2_, hz9⟩ := f9.zd 2 rfl
   have e19 : get a9 19 = (.agg #[(.int .i64 (t2_.k)), (.string (t2_.ch)), (.bool (t2_.ng)), t2_.rv.v, (.int .i64 (t2_.mn)), (.int .i64 (t2_.mx)), (.bool (t2_.lz)), t2_.kv.v]) := e19
   replace r0 := f9.ib 0 rfl
   replace r1 := f9.ib 1 rfl
   replace r2 := f9.iz 2 rfl
   replace r3 := f9.ib 3 rfl
   replace r5 := f9.io 5 rfl
   replace r6 := f9.iz 6 rfl
   have r4 : Fz (zTr (Gn none' w) t2_) τ9 w9 := hz9
   clear f9
   refine only_mk ?_
   refine ops_St (bf := [0, 1, 3]) (sp := [own TrE 25 _ 7 20 ([t2_]), own _ _ _ 5 21 _, own _ _ _ 5 3 _]) [ib r0, ib r1, iz r2, ib r3, iz r4, io r5, iz r6] st9 (by kernel_rfl) ⟨r0, r1, r2, r3, r4, r5, r6, trivial⟩
    ⟨Ob.buildSlice (cells := #[(.int .i64 (t2_.k)), (.string (t2_.ch)), (.bool (t2_.ng)), t2_.rv.v, (.int .i64 (t2_.mn)), (.int .i64 (t2_.mx)), (.bool (t2_.lz)), t2_.kv.v]) rfl rfl rfl rfl Try.underlying23 Try.sizeOf25 Try.zeroValue25 rfl (by decide) (by decide) (fun _ _ _ _ c => fill1 (c.p e19) (by kernel_rfl)) rfl,
    Ob.append (t0 := 3) rfl rfl rfl rfl Try.underlying23 (i := Try.t25) rfl rfl rfl rfl (by simp only [maxLen]; (try simp); omega) (by show _ * 104 ≤ _; (try simp); omega) (fun _ _ _ _ c => ⟨c.ip 5 rfl e3, c.sm (c.p e17) e3, ⟨_, rfl, (c.ro 0 rfl).1.sl⟩⟩),
    Ob.moveT (t0 := 21) rfl rfl rfl rfl rfl (.inr rfl) (fun _ _ _ _ c => ⟨c.ro 1 rfl, rfl⟩), trivial⟩ ?_
   intro a10 w10 τ10 st10 f10
   obtain ⟨b10x20, e20⟩ : ∃ b, get a10 20 = b := ⟨_, rfl⟩
   obtain ⟨b10x3, e3⟩ : ∃ b, get a10 3 = b := ⟨_, rfl⟩
   obtain ⟨e1, e2, e5, e11, e12, e13, e14, -⟩ := f10.ks [(1, _), (2, _), (5, _), (11, _), (12, _), (13, _), (14, _)] ⟨e1, e2, e5, e11, e12, e13, e14, trivial⟩
   replace r0 := f10.ib 0 rfl
   replace r1 := f10.ib 1 rfl
   replace r2 := f10.iz 2 rfl
   replace r3 := f10.ib 3 rfl
   replace r4 := f10.iz 4 rfl
   replace r5 : ownR TrE 25 (ts ++ [t2_]) (τ10 5) b10x3 w10 := f10.ro 2 e3 rfl
   replace r6 := f10.iz 6 rfl
   have r7 : ownR TrE 25 ([t2_]) (τ10 7) b10x20 w10 := f10.ro 0 e20 rfl
   clear f10
   show _
   show Code.wp _ _ _ a10 w10
   refine region_St (bf := [0, 1]) (sp := [det _ 22 _, det _ 13 _]) [ib r0, ib r1, iz r2, ib r3, iz r4, io r5, iz r6, io r7] mixed st10 (by kernel_rfl) ⟨r0, r1, r2, r3, r4, r5, r6, r7, trivial⟩
    ⟨Ob.d fun c => r_add rfl (c.p e13) rfl (by omega),
    Ob.d fun c => r_move rfl (c.n 0 rfl), trivial⟩ ?_
   intro a11 w11 τ11 st11 f11
   obtain ⟨e1, e2, e3, e5, e11, e12, e14, -⟩ := f11.ks [(1, _), (2, _), (3, _), (5, _), (11, _), (12, _), (14, _)] ⟨e1, e2, e3, e5, e11, e12, e14, trivial⟩
   have e13 : get a11 13 = (.int .i64 ((k : Int) + 1)) := f11.v 1 rfl
   replace r0 := f11.ib 0 rfl
   replace r1 := f11.ib 1 rfl
   replace r2 := f11.iz 2 rfl
   replace r3 := f11.ib 3 rfl
   replace r4 := f11.iz 4 rfl
   replace r5 := f11.io 5 rfl
   replace r6 := f11.iz 6 rfl
   replace r7 := f11.io 7 rfl
   clear f11
   refine ⟨⟨k + 1, b10x3, ts ++ [t2_], τ11, ?_, ?_, st11, e3, (e13.trans (int_eq (by omega))), e1, e2, e11, e12, ?_, ?_, r0, r1, r2⟩, ?_⟩
   · omega
   · rw [take_snoc (by omega), List.map_append, List.map_append, q1]; simp [*]
   · exact r5.cast (by rfl)
   · exact Fz.snoc r6 r4
   · simp only [m13, e13, intOf]; omega
 try simp only [decide_eq_false_iff_not, Int.not_lt] at hc1
 refine wp_exit ?_
 repeat (with_reducible refine then_exit ?_)
 refine exit_here ?_
 show Code.wp _ _ _ a7 w7
 refine wp_seq ?_
 obtain ⟨kv0, rfl⟩ := r5.isSl.sv
 refine region_St (bf := [0, 1, 3]) (sp := [det _ 23 _, det _ 24 _, box _ _ 0 1 [(.int .i64 (t.k)), (.string (t.ch)), (.bool (t.ng)), rw1_.v, (.int .i64 (t.mn)), (.int .i64 (t.mx)), (.bool (t.lz)), kv0.v]]) [ib r0, ib r1, iz r2, Ini.any _, Ini.any _, io r5, iz r6] mixed st7 (by kernel_rfl) ⟨r0, r1, r2, trivial, trivial, r5, r6, trivial⟩
  ⟨Ob.d fun c => r_move rfl (c.p e3),
  Ob.d fun c => r_fieldAddr rfl Try.underlying25 rfl rfl Try.sizeOf23 ((c.p e1).trans r0.ptr),
  Ob.storeBox (off := 7) (v := kv0.v) rfl rfl rfl rfl Try.sizeOf23 (Nat.le_of_ble_eq_true rfl) (by simp [Value.cells, Value.oneCell', Sv.v]) rfl (fun _ _ _ _ c => ⟨c.bp 0 rfl e1, c.ad (c.n 1 rfl) e1 rfl, (c.n 0 rfl)⟩), trivial⟩ ?_
 intro a12 w12 τ12 st12 f12
 obtain ⟨e1, e2, -⟩ := f12.ks [(1, _), (2, _)] ⟨e1, e2, trivial⟩
 replace r0 : boxR 25 [(.int .i64 (t.k)), (.string (t.ch)), (.bool (t.ng)), rw1_.v, (.int .i64 (t.mn)), (.int .i64 (t.mx)), (.bool (t.lz)), kv0.v] (τ12 0) b1x1 w12 := f12.rb 2 e1 rfl
 replace r1 := f12.ib 1 rfl
 replace r2 := f12.iz 2 rfl
 replace r5 := f12.io 5 rfl
 replace r6 := f12.iz 6 rfl
 clear f12
 show Code.wp _ _ _ a12 w12
 refine wp_seq ?_
 refine region_St (bf := [0, 1]) (sp := [det _ 25 _, box _ _ 1 2 [(.int .i64 (t.k)), (.string (t.ch)), (.bool (t.ng)), rw1_.v, (.int .i64 (t.mn)), (.int .i64 (t.mx)), (.bool (t.lz)), kv0.v]]) [ib r0, ib r1, iz r2, Ini.any _, Ini.any _, io r5, iz r6] mixed st12 (by kernel_rfl) ⟨r0, r1, r2, trivial, trivial, r5, r6, trivial⟩
  ⟨Ob.d fun c => r_loadN (vs := [(.int .i64 (t.k)), (.string (t.ch)), (.bool (t.ng)), rw1_.v, (.int .i64 (t.mn)), (.int .i64 (t.mx)), (.bool (t.lz)), kv0.v]) rfl Try.isAgg25 Try.sizeOf25 ((c.p e1).trans r0.ptr) rfl (fun _ _ hj => (c.ib 0 rfl).cell hj),
  Ob.storeBox (off := 0) (v := (.agg #[(.int .i64 (t.k)), (.string (t.ch)), (.bool (t.ng)), rw1_.v, (.int .i64 (t.mn)), (.int .i64 (t.mx)), (.bool (t.lz)), kv0.v])) rfl rfl rfl rfl Try.sizeOf25 (Nat.le_of_ble_eq_true rfl) (by simp [Value.cells, Value.oneCell', Sv.v]) rfl (fun _ _ _ _ c => ⟨c.bp 1 rfl e2, c.ad ((c.p e2).trans r1.ptr) e2 rfl, (c.n 0 rfl)⟩), trivial⟩ ?_
 intro a13 w13 τ13 st13 f13
 obtain ⟨e2, -⟩ := f13.ks [(2, _)] ⟨e2, trivial⟩
 replace r1 : boxR 25 [(.int .i64 (t.k)), (.string (t.ch)), (.bool (t.ng)), rw1_.v, (.int .i64 (t.mn)), (.int .i64 (t.mx)), (.bool (t.lz)), kv0.v] (τ13 1) b1x2 w13 := f13.rb 1 e2 rfl
 replace r2 := f13.iz 2 rfl
 replace r5 := f13.io 5 rfl
 replace r6 := f13.iz 6 rfl
 clear f13
 show Code.wp _ _ _ a13 w13
 refine wp_ret ?_
 repeat (first | with_reducible refine then_ret ?_ | with_reducible refine block_ret ?_)
 refine ret1c (fn := Try.f37) rfl st13.defers e2 r1 Try.isAgg25 Try.sizeOf25 rfl ?_
 exact ⟨⟨t.k, t.ch, t.ng, rw1_, t.rows, t.mn, t.mx, t.lz, kv0, ts⟩, rfl, st13.ext0, .mk r2.1 (fun hn => (r2.2 hn).2) r5.1.sl (fun hn => .inr (st13.bnd _ _ (r5.blk hn)).1) r6.outs, by rw [er_eq, er_eq t, q1, List.take_of_length_le (by omega)]⟩
theorem clone_c (t : Tr) : ∀ (w : World), TrS w t → wtF t ≤ 1000000 → Calls Try.prog 37 #[t.v] w (fun e w' => ∃ t' : Tr, e = .returned t'.v ∧ Ext none' w w' ∧ TrT (Gn none' w) w' t' ∧ er t' = er t) := Tr.ind (P := fun t => ∀ (w : World), TrS w t → wtF t ≤ 1000000 → Calls Try.prog 37 #[t.v] w (fun e w' => ∃ t' : Tr, e = .returned t'.v ∧ Ext none' w w' ∧ TrT (Gn none' w) w' t' ∧ er t' = er t)) clone_step t
end B
end Go.Proofs.Ytocmchlhbniloaa
namespace Go.Proofs.Ytocmchlhbniloaa
namespace B
open Go.RowKit
open Srt
theorem wt_at {xs : List Tr} {k : Nat} (h : k < xs.length) : wtF (nth xs (k : Int)) ≤ sumL (xs.map wtF) ∧ sumL ((xs.take (k + 1)).map wtF) = sumL ((xs.take k).map wtF) + wtF (nth xs (k : Int)) ∧ sumL ((xs.take (k + 1)).map wtF) ≤ sumL (xs.map wtF) :=
  ⟨sum_mem (fun t _ => by have := wtF_pos t; omega) (nth_memI (by omega) (by omega)), sum_step h, (sum_le (fun t _ => by have := wtF_pos t; omega) _).2⟩
theorem flat_roomw {ts xs : List Tr} {k : Int} {n : Nat} (hq : ts.map er = flatF k ((xs.take n).map er)) : (ts.length : Int) ≤ sumL ((xs.take n).map wtF) := by
  have h := flat_room hq
  have h1 : ∀ l : List Tr, sumL (l.map partsF) ≤ sumL (l.map wtF) := by
    intro l
    induction l using snoc_ind with
    | h0 => exact Int.le_refl _
    | h1 l x ih =>
      rw [List.map_append, List.map_append, List.map_cons, List.map_nil, List.map_cons, List.map_nil, sumL_snoc, sumL_snoc]
      have := parts_wt x
      omega
  have := h1 (xs.take n)
  omega
set_option maxRecDepth 100000 in
theorem flat_c (kind : Int) (v : Value) (xs : List Tr) (w : World) (hS : TlS w v xs) (hP : sumL (xs.map wtF) ≤ 1000000) : Calls Try.prog 31 #[(.int .i64 (kind)), v] w (fun e w' => ∃ v' ts, e = .returned v' ∧ Ext none' w w' ∧ NewT TrE 25 w w' v' ts ∧ (∀ t ∈ ts, TrT (fun g => (Gn none' w) g ∧ v'.ownBlock ≠ some g) w' t) ∧ ts.map er = flatF kind (xs.map er)) := by
 refine enter (n := 30) Try.func31 rfl rfl (Nat.le_of_ble_eq_true rfl) ?_
 intro a0 τ0 ha st0
 have e0 : get a0 0 = (.int .i64 (kind)) := ha 0 _ rfl
 have e1 : get a0 1 = v := ha 1 _ rfl
 clear ha
 have hle := hS.sl.le
 refine wp_seq ?_
 refine region_St (bf := [0]) (sp := [det _ 4 _]) [] mixed st0 (by kernel_rfl) trivial
  ⟨Ob.d fun c => r_assign rfl rfl, trivial⟩ ?_
 intro a1 w1 τ1 st1 f1
 obtain ⟨e0, e1, -⟩ := f1.ks [(0, _), (1, _)] ⟨e0, e1, trivial⟩
 have e4 : get a1 4 = (.slice none 0 0) := f1.v 0 rfl
 clear f1
 show Code.wp _ _ _ a1 w1
 refine wp_seq ?_
 refine region_St (bf := [0]) (sp := [det _ 5 _]) [] mixed st1 (by kernel_rfl) trivial
  ⟨Ob.d fun c => r_assign rfl rfl, trivial⟩ ?_
 intro a2 w2 τ2 st2 f2
 obtain ⟨e0, e1, e4, -⟩ := f2.ks [(0, _), (1, _), (4, _)] ⟨e0, e1, e4, trivial⟩
 have e5 : get a2 5 = (.slice none 0 0) := f2.v 0 rfl
 clear f2
 show Code.wp _ _ _ a2 w2
 refine wp_seq ?_
 refine wp_seq ?_
 refine region_St (bf := [0, 1, 0]) (sp := [det _ 8 _, det _ 9 _, det _ 10 _]) [] mixed st2 (by kernel_rfl) trivial
  ⟨Ob.d fun c => r_move rfl (c.p e1),
  Ob.d fun c => r_len rfl Try.underlying23 (c.n 0 rfl) (hS.at st2.ext).sl.sl,
  Ob.d fun c => r_move rfl rfl, trivial⟩ ?_
 intro a3 w3 τ3 st3 f3
 obtain ⟨e0, e4, e5, -⟩ := f3.ks [(0, _), (4, _), (5, _)] ⟨e0, e4, e5, trivial⟩
 have e8 : get a3 8 = v := f3.v 0 rfl
 have e9 : get a3 9 = (.int .i64 ((xs.length : Int))) := f3.v 1 rfl
 have e10 : get a3 10 = (.int .i64 (0)) := f3.v 2 rfl
 clear f3
 show Code.wp _ _ _ a3 w3
 refine wp_block ?_
 refine wp_loop (fun a_ w_ => ∃ (k : Nat) (u : Value) (ts : List Tr) (τ : Nat → Foot), (k ≤ xs.length) ∧
      (ts.map er = flatF kind ((xs.take k).map er)) ∧
      St (Nw w) w 30 a_ w_ τ ∧
      get a_ 5 = u ∧
      get a_ 10 = (.int .i64 ((k : Int))) ∧
      get a_ 0 = (.int .i64 (kind)) ∧
      get a_ 4 = (.slice none 0 0) ∧
      get a_ 8 = v ∧
      get a_ 9 = (.int .i64 ((xs.length : Int))) ∧
      ownR TrE 25 (ts) (τ 5) u w_ ∧
      Fz (zTl (Gn none' w) ts) τ w_) (fun a_ _ => xs.length - (intOf (get a_ 10)).toNat) ?_ ?_
 · refine ⟨0, (.slice none 0 0), [], τ3, ?_, ?_, st3, e5, (e10.trans (int_eq (by omega))), e0, e4, e8, e9, ?_, ?_⟩
   · omega
   · simp [flatF]
   · exact ownR.nil _ _ _ _
   · exact Fz.tn _ _ _
 intro a4 w4 hI
 obtain ⟨k, u, ts, τ4, q0, q1, st4, e5, e10, e0, e4, e8, e9, r5, r6⟩ := hI
 have hw := wt_at (xs := xs) (k := k)
 have hrm := flat_roomw q1
 have hpk : k < xs.length → wtF (nth xs (k : Int)) ≤ 1000000 := fun h_ => by have h2_ := hw h_; omega
 have m10 := e10
 refine wp_seq ?_
 refine region_St (bf := [0]) (sp := [det _ 11 _]) [Ini.any _, Ini.any _, Ini.any _, Ini.any _, Ini.any _, io r5, iz r6] mixed st4 (by kernel_rfl) ⟨trivial, trivial, trivial, trivial, trivial, r5, r6, trivial⟩
  ⟨Ob.d fun c => r_lss rfl (c.p e10) (c.p e9), trivial⟩ ?_
 intro a5 w5 τ5 st5 f5
 obtain ⟨e0, e4, e5, e8, e9, e10, -⟩ := f5.ks [(0, _), (4, _), (5, _), (8, _), (9, _), (10, _)] ⟨e0, e4, e5, e8, e9, e10, trivial⟩
 have e11 : get a5 11 = (.bool (decide ((k : Int) < (xs.length : Int)))) := f5.v 0 rfl
 replace r5 := f5.io 5 rfl
 replace r6 := f5.iz 6 rfl
 clear f5
 show Code.wp _ _ _ a5 w5
 refine wp_seq ?_
 refine wp_cond_split (t := decide ((k : Int) < (xs.length : Int))) e11 (fun hc1 => ?_) (fun hc1 => ?_)
 · try simp only [decide_eq_true_eq] at hc1
   refine wp_skip ?_
   show Code.wp _ _ _ a5 w5
   refine wp_seq ?_
   refine wp_block ?_
   refine wp_seq ?_
   refine region_St (bf := [0, 1, 0, 7]) (sp := [det _ 12 _, det _ 13 _, box _ _ 0 7 [(.int .i64 (0)), (.string ((⟨#[]⟩ : ByteArray))), (.bool (false)), (.slice none 0 0), (.int .i64 (0)), (.int .i64 (0)), (.bool (false)), (.slice none 0 0)], box _ _ 0 7 [(.int .i64 ((nth xs ((k : Int))).k)), (.string ((nth xs ((k : Int))).ch)), (.bool ((nth xs ((k : Int))).ng)), (nth xs ((k : Int))).rv.v, (.int .i64 ((nth xs ((k : Int))).mn)), (.int .i64 ((nth xs ((k : Int))).mx)), (.bool ((nth xs ((k : Int))).lz)), (nth xs ((k : Int))).kv.v]]) [Ini.any _, Ini.any _, Ini.any _, Ini.any _, Ini.any _, io r5, iz r6] mixed st5 (by kernel_rfl) ⟨trivial, trivial, trivial, trivial, trivial, r5, r6, trivial⟩
    ⟨Ob.d fun c => r_indexAddr rfl Try.underlying23 Try.sizeOf25 (c.p e8) (hS.at st5.ext).sl.sl (c.p e10) (by omega) (by omega),
    Ob.d fun c => r_loadN (vs := [(.int .i64 ((nth xs ((k : Int))).k)), (.string ((nth xs ((k : Int))).ch)), (.bool ((nth xs ((k : Int))).ng)), (nth xs ((k : Int))).rv.v, (.int .i64 ((nth xs ((k : Int))).mn)), (.int .i64 ((nth xs ((k : Int))).mx)), (.bool ((nth xs ((k : Int))).lz)), (nth xs ((k : Int))).kv.v]) rfl Try.isAgg25 Try.sizeOf25 (c.n 0 rfl) rfl (fun _ _ hj => ((hS.at (st5.ext.trans c.J.ext)).sl).elem (nth_some (i := (k : Int)) (by omega) (by omega)) hj),
    Ob.alloc rfl rfl rfl rfl Try.zeroValue25 rfl,
    Ob.storeBox (off := 0) (v := (.agg #[(.int .i64 ((nth xs ((k : Int))).k)), (.string ((nth xs ((k : Int))).ch)), (.bool ((nth xs ((k : Int))).ng)), (nth xs ((k : Int))).rv.v, (.int .i64 ((nth xs ((k : Int))).mn)), (.int .i64 ((nth xs ((k : Int))).mx)), (.bool ((nth xs ((k : Int))).lz)), (nth xs ((k : Int))).kv.v])) rfl rfl rfl rfl Try.sizeOf25 (Nat.le_of_ble_eq_true rfl) (by simp [Value.cells, Value.oneCell', Sv.v]) rfl (fun _ _ _ _ c => ⟨c.rb 2 rfl, (c.rb 2 rfl).ptr, (c.n 1 rfl)⟩), trivial⟩ ?_
   intro a6 w6 τ6 st6 f6
   obtain ⟨b6x7, e7⟩ : ∃ b, get a6 7 = b := ⟨_, rfl⟩
   obtain ⟨e0, e4, e5, e8, e9, e10, e11, -⟩ := f6.ks [(0, _), (4, _), (5, _), (8, _), (9, _), (10, _), (11, _)] ⟨e0, e4, e5, e8, e9, e10, e11, trivial⟩
   have r0 : boxR 25 [(.int .i64 ((nth xs ((k : Int))).k)), (.string ((nth xs ((k : Int))).ch)), (.bool ((nth xs ((k : Int))).ng)), (nth xs ((k : Int))).rv.v, (.int .i64 ((nth xs ((k : Int))).mn)), (.int .i64 ((nth xs ((k : Int))).mx)), (.bool ((nth xs ((k : Int))).lz)), (nth xs ((k : Int))).kv.v] (τ6 0) b6x7 w6 := f6.rb 3 e7 rfl
   replace r5 := f6.io 5 rfl
   replace r6 := f6.iz 6 rfl
   clear f6
   show Code.wp _ _ _ a6 w6
   refine wp_seq ?_
   refine region_of_ops ?_
   refine ops_cut 2 (by kernel_rfl) ?_
   refine ops_St (bf := [0, 1]) (sp := [det _ 14 _, zdet _ 15 (fun b : Tr => b.v) (fun b : Tr => er b = er (nth xs ((k : Int)))) (fun b : Tr => zTr (Gn none' w) b)]) [ib r0, Ini.any _, Ini.any _, Ini.any _, Ini.any _, io r5, iz r6] st6 (by kernel_rfl) ⟨r0, trivial, trivial, trivial, trivial, r5, r6, trivial⟩
    ⟨Ob.d fun c => r_loadN (vs := [(.int .i64 ((nth xs ((k : Int))).k)), (.string ((nth xs ((k : Int))).ch)), (.bool ((nth xs ((k : Int))).ng)), (nth xs ((k : Int))).rv.v, (.int .i64 ((nth xs ((k : Int))).mn)), (.int .i64 ((nth xs ((k : Int))).mx)), (.bool ((nth xs ((k : Int))).lz)), (nth xs ((k : Int))).kv.v]) rfl Try.isAgg25 Try.sizeOf25 ((c.p e7).trans r0.ptr) rfl (fun _ _ hj => (c.ib 0 rfl).cell hj),
    Ob.zc (f := fun b : Tr => b.v) (Ψ := fun b : Tr => er b = er (nth xs ((k : Int)))) (Φ := fun b : Tr => zTr (Gn none' w) b) fun {_ a_ _ _} c => ⟨_, _, (e_call1 rfl rfl Try.call37 (c.n 0 rfl)), (clone_c (nth xs ((k : Int))) _ ((hS.at (st6.ext.trans c.J.ext)).el (by omega) (by omega)) (by omega)).mono (fun e w' ⟨t_, he_, hx_, ht_, hq_⟩ => ⟨t_, he_, hx_, hq_, c.tn st6 hx_ ht_⟩)⟩, trivial⟩ ?_
   intro a7 w7 τ7 st7 f7
   obtain ⟨e0, e4, e5, e7, e8, e9, e10, e11, -⟩ := f7.ks [(0, _), (4, _), (5, _), (7, _), (8, _), (9, _), (10, _), (11, _)] ⟨e0, e4, e5, e7, e8, e9, e10, e11, trivial⟩
   obtain ⟨t1_, e15, hqt1_, hz7⟩ := f7.zd 1 rfl
   have e15 : get a7 15 = (.agg #[(.int .i64 (t1_.k)), (.string (t1_.ch)), (.bool (t1_.ng)), t1_.rv.v, (.int .i64 (t1_.mn)), (.int .i64 (t1_.mx)), (.bool (t1_.lz)), t1_.kv.v]) := e15
   replace r0 := f7.ib 0 rfl
   replace r5 := f7.io 5 rfl
   replace r6 := f7.iz 6 rfl
   have r1 : Fz (zTr (Gn none' w) t1_) τ7 w7 := hz7
   clear f7
   refine only_mk ?_
   refine ops_St (bf := [0]) (sp := [box _ _ 0 7 [(.int .i64 (t1_.k)), (.string (t1_.ch)), (.bool (t1_.ng)), t1_.rv.v, (.int .i64 (t1_.mn)), (.int .i64 (t1_.mx)), (.bool (t1_.lz)), t1_.kv.v]]) [ib r0, iz r1, Ini.any _, Ini.any _, Ini.any _, io r5, iz r6] st7 (by kernel_rfl) ⟨r0, r1, trivial, trivial, trivial, r5, r6, trivial⟩
    ⟨Ob.storeBox (off := 0) (v := (.agg #[(.int .i64 (t1_.k)), (.string (t1_.ch)), (.bool (t1_.ng)), t1_.rv.v, (.int .i64 (t1_.mn)), (.int .i64 (t1_.mx)), (.bool (t1_.lz)), t1_.kv.v])) rfl rfl rfl rfl Try.sizeOf25 (Nat.le_of_ble_eq_true rfl) (by simp [Value.cells, Value.oneCell', Sv.v]) rfl (fun _ _ _ _ c => ⟨c.bp 0 rfl e7, c.ad ((c.p e7).trans r0.ptr) e7 rfl, (c.p e15)⟩), trivial⟩ ?_
   intro a8 w8 τ8 st8 f8
   obtain ⟨e0, e4, e5, e7, e8, e9, e10, e11, -⟩ := f8.ks [(0, _), (4, _), (5, _), (7, _), (8, _), (9, _), (10, _), (11, _)] ⟨e0, e4, e5, e7, e8, e9, e10, e11, trivial⟩
   replace r0 : boxR 25 [(.int .i64 (t1_.k)), (.string (t1_.ch)), (.bool (t1_.ng)), t1_.rv.v, (.int .i64 (t1_.mn)), (.int .i64 (t1_.mx)), (.bool (t1_.lz)), t1_.kv.v] (τ8 0) b6x7 w8 := f8.rb 0 e7 rfl
   replace r1 := f8.iz 1 rfl
   replace r5 := f8.io 5 rfl
   replace r6 := f8.iz 6 rfl
   clear f8
   have hek := er_kidl hqt1_
   have hew := (wtF_bound (nth xs (k : Int))).1
   show Code.wp _ _ _ a8 w8
   refine wp_seq ?_
   refine region_St (bf := [0, 1, 0, 7]) (sp := [det _ 16 _, det _ 17 _, det _ 18 _, det _ 19 _]) [ib r0, iz r1, Ini.any _, Ini.any _, Ini.any _, io r5, iz r6] mixed st8 (by kernel_rfl) ⟨r0, r1, trivial, trivial, trivial, r5, r6, trivial⟩
    ⟨Ob.d fun c => r_fieldAddr rfl Try.underlying25 rfl rfl Try.sizeOf3 ((c.p e7).trans r0.ptr),
    Ob.d fun c => r_load1 rfl Try.isAgg3 (c.n 0 rfl) ((c.ib 0 rfl).cell (j := 0) rfl),
    Ob.d fun c => r_move rfl (c.p e0),
    Ob.d fun c => r_eql rfl (c.n 1 rfl) (c.n 2 rfl), trivial⟩ ?_
   intro a9 w9 τ9 st9 f9
   obtain ⟨e0, e4, e5, e7, e8, e9, e10, e11, -⟩ := f9.ks [(0, _), (4, _), (5, _), (7, _), (8, _), (9, _), (10, _), (11, _)] ⟨e0, e4, e5, e7, e8, e9, e10, e11, trivial⟩
   have e19 : get a9 19 = (.bool (decide (t1_.k = kind))) := f9.v 3 rfl
   replace r0 := f9.ib 0 rfl
   replace r1 := f9.iz 1 rfl
   replace r5 := f9.io 5 rfl
   replace r6 := f9.iz 6 rfl
   clear f9
   show Code.wp _ _ _ a9 w9
   refine wp_cond_split (t := decide (t1_.k = kind)) e19 (fun hc2 => ?_) (fun hc2 => ?_)
   · try simp only [decide_eq_true_eq] at hc2
     refine region_St (bf := [0, 0, 2, 7, 15]) (sp := [det _ 20 _, det _ 21 _, det _ 22 _, own _ _ _ 5 23 _, own _ _ _ 5 5 _]) [ib r0, iz r1, Ini.any _, Ini.any _, Ini.any _, io r5, iz r6] mixed st9 (by kernel_rfl) ⟨r0, r1, trivial, trivial, trivial, r5, r6, trivial⟩
      ⟨Ob.d fun c => r_move rfl (c.p e5),
      Ob.d fun c => r_fieldAddr rfl Try.underlying25 rfl rfl Try.sizeOf23 ((c.p e7).trans r0.ptr),
      Ob.d fun c => r_load1 rfl Try.isAgg23 (c.n 1 rfl) ((c.ib 0 rfl).cell (j := 7) rfl),
      Ob.append (t0 := 5) rfl rfl rfl rfl Try.underlying23 (i := Try.t25) rfl rfl rfl rfl (by simp only [maxLen]; (try simp); omega) (by show _ * 104 ≤ _; (try simp); omega) (fun _ _ _ _ c => ⟨c.ip 5 rfl e5, c.sm (c.n 0 rfl) e5, ⟨_, (c.n 2 rfl), (zs (c.iz 1 rfl)).tl.sl⟩⟩),
      Ob.moveT (t0 := 23) rfl rfl rfl rfl rfl (.inr rfl) (fun _ _ _ _ c => ⟨c.ro 3 rfl, rfl⟩), trivial⟩ ?_
     intro a10 w10 τ10 st10 f10
     obtain ⟨b10x5, e5⟩ : ∃ b, get a10 5 = b := ⟨_, rfl⟩
     obtain ⟨e0, e4, e7, e8, e9, e10, e11, e19, -⟩ := f10.ks [(0, _), (4, _), (7, _), (8, _), (9, _), (10, _), (11, _), (19, _)] ⟨e0, e4, e7, e8, e9, e10, e11, e19, trivial⟩
     replace r0 := f10.ib 0 rfl
     replace r1 := f10.iz 1 rfl
     replace r5 : ownR TrE 25 (ts ++ t1_.kids) (τ10 5) b10x5 w10 := f10.ro 4 e5 rfl
     replace r6 := f10.iz 6 rfl
     clear f10
     show _
     show Code.wp _ _ _ a10 w10
     refine region_St (bf := [0, 1]) (sp := [det _ 28 _, det _ 10 _]) [ib r0, iz r1, Ini.any _, Ini.any _, Ini.any _, io r5, iz r6] mixed st10 (by kernel_rfl) ⟨r0, r1, trivial, trivial, trivial, r5, r6, trivial⟩
      ⟨Ob.d fun c => r_add rfl (c.p e10) rfl (by omega),
      Ob.d fun c => r_move rfl (c.n 0 rfl), trivial⟩ ?_
     intro a11 w11 τ11 st11 f11
     obtain ⟨e0, e4, e5, e7, e8, e9, e11, e19, -⟩ := f11.ks [(0, _), (4, _), (5, _), (7, _), (8, _), (9, _), (11, _), (19, _)] ⟨e0, e4, e5, e7, e8, e9, e11, e19, trivial⟩
     have e10 : get a11 10 = (.int .i64 ((k : Int) + 1)) := f11.v 1 rfl
     replace r0 := f11.ib 0 rfl
     replace r1 := f11.iz 1 rfl
     replace r5 := f11.io 5 rfl
     replace r6 := f11.iz 6 rfl
     clear f11
     refine ⟨⟨k + 1, b10x5, ts ++ t1_.kids, τ11, ?_, ?_, st11, e5, (e10.trans (int_eq (by omega))), e0, e4, e8, e9, ?_, ?_⟩, ?_⟩
     · omega
     · first | exact flat_hit (by omega) q1 (by assumption) (by assumption) rfl | exact flat_miss (by omega) q1 (by assumption) (by assumption)
     · exact r5.cast (by rfl)
     · exact Fz.app r6 r1.kl
     · simp only [m10, e10, intOf]; omega
   try simp only [decide_eq_false_iff_not] at hc2
   refine region_St (bf := [0, 0, 2, 7, 15]) (sp := [det _ 24 _, det _ 25 _, own TrE 25 _ 2 26 ([t1_]), own _ _ _ 5 27 _, own _ _ _ 5 5 _]) [ib r0, iz r1, Ini.any _, Ini.any _, Ini.any _, io r5, iz r6] mixed st9 (by kernel_rfl) ⟨r0, r1, trivial, trivial, trivial, r5, r6, trivial⟩
    ⟨Ob.d fun c => r_move rfl (c.p e5),
    Ob.d fun c => r_loadN (vs := [(.int .i64 (t1_.k)), (.string (t1_.ch)), (.bool (t1_.ng)), t1_.rv.v, (.int .i64 (t1_.mn)), (.int .i64 (t1_.mx)), (.bool (t1_.lz)), t1_.kv.v]) rfl Try.isAgg25 Try.sizeOf25 ((c.p e7).trans r0.ptr) rfl (fun _ _ hj => (c.ib 0 rfl).cell hj),
    Ob.buildSlice (cells := #[(.int .i64 (t1_.k)), (.string (t1_.ch)), (.bool (t1_.ng)), t1_.rv.v, (.int .i64 (t1_.mn)), (.int .i64 (t1_.mx)), (.bool (t1_.lz)), t1_.kv.v]) rfl rfl rfl rfl Try.underlying23 Try.sizeOf25 Try.zeroValue25 rfl (by decide) (by decide) (fun _ _ _ _ c => fill1 (c.n 1 rfl) (by kernel_rfl)) rfl,
    Ob.append (t0 := 5) rfl rfl rfl rfl Try.underlying23 (i := Try.t25) rfl rfl rfl rfl (by simp only [maxLen]; (try simp); omega) (by show _ * 104 ≤ _; (try simp); omega) (fun _ _ _ _ c => ⟨c.ip 5 rfl e5, c.sm (c.n 0 rfl) e5, ⟨_, rfl, (c.ro 2 rfl).1.sl⟩⟩),
    Ob.moveT (t0 := 27) rfl rfl rfl rfl rfl (.inr rfl) (fun _ _ _ _ c => ⟨c.ro 3 rfl, rfl⟩), trivial⟩ ?_
   intro a12 w12 τ12 st12 f12
   obtain ⟨b12x26, e26⟩ : ∃ b, get a12 26 = b := ⟨_, rfl⟩
   obtain ⟨b12x5, e5⟩ : ∃ b, get a12 5 = b := ⟨_, rfl⟩
   obtain ⟨e0, e4, e7, e8, e9, e10, e11, e19, -⟩ := f12.ks [(0, _), (4, _), (7, _), (8, _), (9, _), (10, _), (11, _), (19, _)] ⟨e0, e4, e7, e8, e9, e10, e11, e19, trivial⟩
   replace r0 := f12.ib 0 rfl
   replace r1 := f12.iz 1 rfl
   have r2 : ownR TrE 25 ([t1_]) (τ12 2) b12x26 w12 := f12.ro 2 e26 rfl
   replace r5 : ownR TrE 25 (ts ++ [t1_]) (τ12 5) b12x5 w12 := f12.ro 4 e5 rfl
   replace r6 := f12.iz 6 rfl
   clear f12
   show _
   show Code.wp _ _ _ a12 w12
   refine region_St (bf := [0, 1]) (sp := [det _ 28 _, det _ 10 _]) [ib r0, iz r1, io r2, Ini.any _, Ini.any _, io r5, iz r6] mixed st12 (by kernel_rfl) ⟨r0, r1, r2, trivial, trivial, r5, r6, trivial⟩
    ⟨Ob.d fun c => r_add rfl (c.p e10) rfl (by omega),
    Ob.d fun c => r_move rfl (c.n 0 rfl), trivial⟩ ?_
   intro a13 w13 τ13 st13 f13
   obtain ⟨e0, e4, e5, e7, e8, e9, e11, e19, -⟩ := f13.ks [(0, _), (4, _), (5, _), (7, _), (8, _), (9, _), (11, _), (19, _)] ⟨e0, e4, e5, e7, e8, e9, e11, e19, trivial⟩
   have e10 : get a13 10 = (.int .i64 ((k : Int) + 1)) := f13.v 1 rfl
   replace r0 := f13.ib 0 rfl
   replace r1 := f13.iz 1 rfl
   replace r2 := f13.io 2 rfl
   replace r5 := f13.io 5 rfl
   replace r6 := f13.iz 6 rfl
   clear f13
   refine ⟨⟨k + 1, b12x5, ts ++ [t1_], τ13, ?_, ?_, st13, e5, (e10.trans (int_eq (by omega))), e0, e4, e8, e9, ?_, ?_⟩, ?_⟩
   · omega
   · first | exact flat_hit (by omega) q1 (by assumption) (by assumption) rfl | exact flat_miss (by omega) q1 (by assumption) (by assumption)
   · exact r5.cast (by rfl)
   · exact Fz.snoc r6 r1
   · simp only [m10, e10, intOf]; omega
 try simp only [decide_eq_false_iff_not, Int.not_lt] at hc1
 refine wp_exit ?_
 repeat (with_reducible refine then_exit ?_)
 refine exit_here ?_
 show Code.wp _ _ _ a5 w5
 refine wp_seq ?_
 refine region_St (bf := [0, 1]) (sp := [det _ 29 _, det _ 4 _]) [Ini.any _, Ini.any _, Ini.any _, Ini.any _, Ini.any _, io r5, iz r6] mixed st5 (by kernel_rfl) ⟨trivial, trivial, trivial, trivial, trivial, r5, r6, trivial⟩
  ⟨Ob.d fun c => r_move rfl (c.p e5),
  Ob.d fun c => r_assign rfl (c.n 0 rfl), trivial⟩ ?_
 intro a14 w14 τ14 st14 f14
 have e4 : get a14 4 = u := f14.v 1 rfl
 replace r5 := f14.io 5 rfl
 replace r6 := f14.iz 6 rfl
 clear f14
 show Code.wp _ _ _ a14 w14
 refine wp_ret ?_
 repeat (first | with_reducible refine then_ret ?_ | with_reducible refine block_ret ?_)
 refine ret1 (fn := Try.f31) rfl st14.defers e4 ?_
 rw [List.take_of_length_le (by omega)] at q1
 exact ⟨_, ts, rfl, st14.ext0, ⟨r5.1, fun g_ h_ => (st14.bnd _ g_ (r5.2 g_ h_)).1⟩, r6.outo (i := 5) r5.2, q1⟩
set_option maxRecDepth 100000 in
theorem seq_c (v : Value) (xs : List Tr) (w : World) (hS : TlS w v xs) (hP : sumL (xs.map wtF) ≤ 1000000) : Calls Try.prog 13 #[v] w (fun e w' => ∃ t' : Tr, e = .returned t'.v ∧ Ext none' w w' ∧ TrT ((Gn none' w)) w' t' ∧ er t' = seqF (xs.map er)) := by
 refine enter (n := 14) Try.func13 rfl rfl (Nat.le_of_ble_eq_true rfl) ?_
 intro a0 τ0 ha st0
 have e0 : get a0 0 = v := ha 0 _ rfl
 clear ha
 have hle := hS.sl.le
 refine wp_seq ?_
 refine region_St (bf := [0]) (sp := [box _ _ 0 2 [(.int .i64 (0)), (.string ((⟨#[]⟩ : ByteArray))), (.bool (false)), (.slice none 0 0), (.int .i64 (0)), (.int .i64 (0)), (.bool (false)), (.slice none 0 0)]]) [] mixed st0 (by kernel_rfl) trivial
  ⟨Ob.alloc rfl rfl rfl rfl Try.zeroValue25 rfl, trivial⟩ ?_
 intro a1 w1 τ1 st1 f1
 obtain ⟨b1x2, e2⟩ : ∃ b, get a1 2 = b := ⟨_, rfl⟩
 obtain ⟨e0, -⟩ := f1.ks [(0, _)] ⟨e0, trivial⟩
 have r0 : boxR 25 [(.int .i64 (0)), (.string ((⟨#[]⟩ : ByteArray))), (.bool (false)), (.slice none 0 0), (.int .i64 (0)), (.int .i64 (0)), (.bool (false)), (.slice none 0 0)] (τ1 0) b1x2 w1 := f1.rb 0 e2 rfl
 clear f1
 show Code.wp _ _ _ a1 w1
 refine wp_seq ?_
 refine region_of_ops ?_
 refine ops_cut 2 (by kernel_rfl) ?_
 refine ops_St (bf := [0, 1]) (sp := [det _ 4 _, zown TrE 25 _ 1 5 (fun b : List Tr => b) (fun b : List Tr => b.map er = flatF 0 (xs.map er)) (fun b : List Tr => zTl (Gn none' w) b)]) [ib r0] st1 (by kernel_rfl) ⟨r0, trivial⟩
  ⟨Ob.d fun c => r_move rfl (c.p e0),
  Ob.zo (xs := fun b : List Tr => b) (Ψ := fun b : List Tr => b.map er = flatF 0 (xs.map er)) (Φ := fun b : List Tr => zTl (Gn none' w) b) fun {_ a_ _ _} c => ⟨_, _, (e_call2 rfl rfl Try.call31 rfl (c.n 0 rfl)), (flat_c 0 v xs _ (hS.at (st1.ext.trans c.J.ext)) (by omega)).mono (fun e w' ⟨v_, ts_, he_, hx_, ho_, ht_, hq_⟩ => ⟨v_, ts_, he_, hx_, ho_, hq_, c.tno (tag := 1) st1 hx_ ho_ ht_⟩)⟩, trivial⟩ ?_
 intro a2 w2 τ2 st2 f2
 obtain ⟨b2x5, e5⟩ : ∃ b, get a2 5 = b := ⟨_, rfl⟩
 obtain ⟨e2, -⟩ := f2.ks [(2, _)] ⟨e2, trivial⟩
 obtain ⟨ts1_, hro2, hqts1_, hz2⟩ := f2.zo 1 e5 rfl
 replace r0 := f2.ib 0 rfl
 have r1 : ownR TrE 25 (ts1_) (τ2 1) b2x5 w2 := hro2
 have r2 : Fz (zTl (Gn none' w) ts1_) τ2 w2 := hz2
 clear f2
 refine only_mk ?_
 refine ops_St (bf := [0]) (sp := [det _ 3 _]) [ib r0, io r1, iz r2] st2 (by kernel_rfl) ⟨r0, r1, r2, trivial⟩
  ⟨Ob.d fun c => r_assign rfl (c.p e5), trivial⟩ ?_
 intro a3 w3 τ3 st3 f3
 obtain ⟨e2, -⟩ := f3.ks [(2, _)] ⟨e2, trivial⟩
 have e3 : get a3 3 = b2x5 := f3.v 0 rfl
 replace r0 := f3.ib 0 rfl
 replace r1 := f3.io 1 rfl
 replace r2 := f3.iz 2 rfl
 clear f3
 obtain ⟨kv0, rfl⟩ := r1.isSl.sv
 show Code.wp _ _ _ a3 w3
 refine wp_seq ?_
 refine wp_seq ?_
 refine region_St (bf := [0, 1, 3]) (sp := [det _ 6 _, det _ 7 _, det _ 8 _]) [ib r0, io r1, iz r2] mixed st3 (by kernel_rfl) ⟨r0, r1, r2, trivial⟩
  ⟨Ob.d fun c => r_move rfl (c.p e3),
  Ob.d fun c => r_len rfl Try.underlying23 (c.n 0 rfl) r1.isSl,
  Ob.d fun c => r_eql rfl (c.n 1 rfl) rfl, trivial⟩ ?_
 intro a4 w4 τ4 st4 f4
 obtain ⟨e2, e3, -⟩ := f4.ks [(2, _), (3, _)] ⟨e2, e3, trivial⟩
 have e8 : get a4 8 = (.bool (decide ((ts1_.length : Int) = 1))) := f4.v 2 rfl
 replace r0 := f4.ib 0 rfl
 replace r1 := f4.io 1 rfl
 replace r2 := f4.iz 2 rfl
 clear f4
 show Code.wp _ _ _ a4 w4
 refine wp_cond_split (t := decide ((ts1_.length : Int) = 1)) e8 (fun hc1 => ?_) (fun hc1 => ?_)
 · try simp only [decide_eq_true_eq] at hc1
   refine wp_seq ?_
   refine region_St (bf := [0, 1, 3, 7]) (sp := [det _ 9 _, det _ 10 _, det _ 11 _, box _ _ 0 2 [(.int .i64 ((nth ts1_ (0)).k)), (.string ((nth ts1_ (0)).ch)), (.bool ((nth ts1_ (0)).ng)), (nth ts1_ (0)).rv.v, (.int .i64 ((nth ts1_ (0)).mn)), (.int .i64 ((nth ts1_ (0)).mx)), (.bool ((nth ts1_ (0)).lz)), (nth ts1_ (0)).kv.v]]) [ib r0, io r1, iz r2] mixed st4 (by kernel_rfl) ⟨r0, r1, r2, trivial⟩
    ⟨Ob.d fun c => r_move rfl (c.p e3),
    Ob.d fun c => r_indexAddr rfl Try.underlying23 Try.sizeOf25 (c.n 0 rfl) r1.isSl rfl (by omega) (by omega),
    Ob.d fun c => r_loadN (vs := [(.int .i64 ((nth ts1_ (0)).k)), (.string ((nth ts1_ (0)).ch)), (.bool ((nth ts1_ (0)).ng)), (nth ts1_ (0)).rv.v, (.int .i64 ((nth ts1_ (0)).mn)), (.int .i64 ((nth ts1_ (0)).mx)), (.bool ((nth ts1_ (0)).lz)), (nth ts1_ (0)).kv.v]) rfl Try.isAgg25 Try.sizeOf25 (c.n 1 rfl) rfl (fun _ _ hj => ((c.io 1 rfl).1.sl).elem (nth_some (i := 0) (by omega) (by omega)) hj),
    Ob.storeBox (off := 0) (v := (.agg #[(.int .i64 ((nth ts1_ (0)).k)), (.string ((nth ts1_ (0)).ch)), (.bool ((nth ts1_ (0)).ng)), (nth ts1_ (0)).rv.v, (.int .i64 ((nth ts1_ (0)).mn)), (.int .i64 ((nth ts1_ (0)).mx)), (.bool ((nth ts1_ (0)).lz)), (nth ts1_ (0)).kv.v])) rfl rfl rfl rfl Try.sizeOf25 (Nat.le_of_ble_eq_true rfl) (by simp [Value.cells, Value.oneCell', Sv.v]) rfl (fun _ _ _ _ c => ⟨c.bp 0 rfl e2, c.ad ((c.p e2).trans r0.ptr) e2 rfl, (c.n 2 rfl)⟩), trivial⟩ ?_
   intro a5 w5 τ5 st5 f5
   obtain ⟨e2, e3, -⟩ := f5.ks [(2, _), (3, _)] ⟨e2, e3, trivial⟩
   replace r0 : boxR 25 [(.int .i64 ((nth ts1_ (0)).k)), (.string ((nth ts1_ (0)).ch)), (.bool ((nth ts1_ (0)).ng)), (nth ts1_ (0)).rv.v, (.int .i64 ((nth ts1_ (0)).mn)), (.int .i64 ((nth ts1_ (0)).mx)), (.bool ((nth ts1_ (0)).lz)), (nth ts1_ (0)).kv.v] (τ5 0) b1x2 w5 := f5.rb 3 e2 rfl
   replace r1 := f5.io 1 rfl
   replace r2 := f5.iz 2 rfl
   clear f5
   show Code.wp _ _ _ a5 w5
   refine wp_ret ?_
   repeat (first | with_reducible refine then_ret ?_ | with_reducible refine block_ret ?_)
   refine ret1c (fn := Try.f13) rfl st5.defers e2 r0 Try.isAgg25 Try.sizeOf25 rfl ?_
   exact ⟨_, rfl, st5.ext0, (r2.e (by omega) (by omega)).out, seq_one hqts1_ (by omega)⟩
 try simp only [decide_eq_false_iff_not] at hc1
 refine wp_skip ?_
 show Code.wp _ _ _ a4 w4
 refine wp_seq ?_
 refine region_St (bf := [0, 1, 3]) (sp := [det _ 12 _, det _ 13 _, box _ _ 0 2 [(.int .i64 (0)), (.string ((⟨#[]⟩ : ByteArray))), (.bool (false)), (.slice none 0 0), (.int .i64 (0)), (.int .i64 (0)), (.bool (false)), kv0.v]]) [ib r0, io r1, iz r2] mixed st4 (by kernel_rfl) ⟨r0, r1, r2, trivial⟩
  ⟨Ob.d fun c => r_move rfl (c.p e3),
  Ob.d fun c => r_build (cells := #[(.int .i64 (0)), (.string ((⟨#[]⟩ : ByteArray))), (.bool (false)), (.slice none 0 0), (.int .i64 (0)), (.int .i64 (0)), (.bool (false)), kv0.v]) rfl Try.underlying25 Try.zeroValue25 (pl := #[(0, 1), (1, 1), (2, 1), (3, 1), (4, 1), (5, 1), (6, 1), (7, 1)]) (fun w_ => by simp [Try.sizeOf22, Try.sizeOf23, Try.sizeOf3, Try.sizeOf4, Try.sizeOf9]) (fill2 rfl (c.n 0 rfl) rfl),
  Ob.storeBox (off := 0) (v := (.agg #[(.int .i64 (0)), (.string ((⟨#[]⟩ : ByteArray))), (.bool (false)), (.slice none 0 0), (.int .i64 (0)), (.int .i64 (0)), (.bool (false)), kv0.v])) rfl rfl rfl rfl Try.sizeOf25 (Nat.le_of_ble_eq_true rfl) (by simp [Value.cells, Value.oneCell', Sv.v]) rfl (fun _ _ _ _ c => ⟨c.bp 0 rfl e2, c.ad ((c.p e2).trans r0.ptr) e2 rfl, (c.n 1 rfl)⟩), trivial⟩ ?_
 intro a6 w6 τ6 st6 f6
 obtain ⟨e2, -⟩ := f6.ks [(2, _)] ⟨e2, trivial⟩
 replace r0 : boxR 25 [(.int .i64 (0)), (.string ((⟨#[]⟩ : ByteArray))), (.bool (false)), (.slice none 0 0), (.int .i64 (0)), (.int .i64 (0)), (.bool (false)), kv0.v] (τ6 0) b1x2 w6 := f6.rb 2 e2 rfl
 replace r1 := f6.io 1 rfl
 replace r2 := f6.iz 2 rfl
 clear f6
 show Code.wp _ _ _ a6 w6
 refine wp_ret ?_
 repeat (first | with_reducible refine then_ret ?_ | with_reducible refine block_ret ?_)
 refine ret1c (fn := Try.f13) rfl st6.defers e2 r0 Try.isAgg25 Try.sizeOf25 rfl ?_
 exact ⟨⟨0, ⟨#[]⟩, false, Sv.nil, [], 0, 0, false, kv0, ts1_⟩, rfl, st6.ext0, mk_out r1 (fun g h => .inr (st6.bnd _ _ h).1) r2.outs, by rw [er_mk]; exact seq_many hqts1_ (by omega)⟩
set_option maxRecDepth 100000 in
theorem alt_c (v : Value) (xs : List Tr) (w : World) (hS : TlS w v xs) (hP : sumL (xs.map wtF) ≤ 1000000) : Calls Try.prog 15 #[v] w (fun e w' => ∃ t' : Tr, e = .returned t'.v ∧ Ext none' w w' ∧ TrT ((Gn none' w)) w' t' ∧ er t' = altF (xs.map er)) := by
 refine enter (n := 18) Try.func15 rfl rfl (Nat.le_of_ble_eq_true rfl) ?_
 intro a0 τ0 ha st0
 have e0 : get a0 0 = v := ha 0 _ rfl
 clear ha
 have hle := hS.sl.le
 refine wp_seq ?_
 refine region_St (bf := [0]) (sp := [box _ _ 0 2 [(.int .i64 (0)), (.string ((⟨#[]⟩ : ByteArray))), (.bool (false)), (.slice none 0 0), (.int .i64 (0)), (.int .i64 (0)), (.bool (false)), (.slice none 0 0)]]) [] mixed st0 (by kernel_rfl) trivial
  ⟨Ob.alloc rfl rfl rfl rfl Try.zeroValue25 rfl, trivial⟩ ?_
 intro a1 w1 τ1 st1 f1
 obtain ⟨b1x2, e2⟩ : ∃ b, get a1 2 = b := ⟨_, rfl⟩
 obtain ⟨e0, -⟩ := f1.ks [(0, _)] ⟨e0, trivial⟩
 have r0 : boxR 25 [(.int .i64 (0)), (.string ((⟨#[]⟩ : ByteArray))), (.bool (false)), (.slice none 0 0), (.int .i64 (0)), (.int .i64 (0)), (.bool (false)), (.slice none 0 0)] (τ1 0) b1x2 w1 := f1.rb 0 e2 rfl
 clear f1
 show Code.wp _ _ _ a1 w1
 refine wp_seq ?_
 refine region_of_ops ?_
 refine ops_cut 2 (by kernel_rfl) ?_
 refine ops_St (bf := [0, 1]) (sp := [det _ 4 _, zown TrE 25 _ 1 5 (fun b : List Tr => b) (fun b : List Tr => b.map er = flatF 1 (xs.map er)) (fun b : List Tr => zTl (Gn none' w) b)]) [ib r0] st1 (by kernel_rfl) ⟨r0, trivial⟩
  ⟨Ob.d fun c => r_move rfl (c.p e0),
  Ob.zo (xs := fun b : List Tr => b) (Ψ := fun b : List Tr => b.map er = flatF 1 (xs.map er)) (Φ := fun b : List Tr => zTl (Gn none' w) b) fun {_ a_ _ _} c => ⟨_, _, (e_call2 rfl rfl Try.call31 rfl (c.n 0 rfl)), (flat_c 1 v xs _ (hS.at (st1.ext.trans c.J.ext)) (by omega)).mono (fun e w' ⟨v_, ts_, he_, hx_, ho_, ht_, hq_⟩ => ⟨v_, ts_, he_, hx_, ho_, hq_, c.tno (tag := 1) st1 hx_ ho_ ht_⟩)⟩, trivial⟩ ?_
 intro a2 w2 τ2 st2 f2
 obtain ⟨b2x5, e5⟩ : ∃ b, get a2 5 = b := ⟨_, rfl⟩
 obtain ⟨e2, -⟩ := f2.ks [(2, _)] ⟨e2, trivial⟩
 obtain ⟨ts1_, hro2, hqts1_, hz2⟩ := f2.zo 1 e5 rfl
 replace r0 := f2.ib 0 rfl
 have r1 : ownR TrE 25 (ts1_) (τ2 1) b2x5 w2 := hro2
 have r2 : Fz (zTl (Gn none' w) ts1_) τ2 w2 := hz2
 clear f2
 refine only_mk ?_
 refine ops_St (bf := [0]) (sp := [det _ 3 _]) [ib r0, io r1, iz r2] st2 (by kernel_rfl) ⟨r0, r1, r2, trivial⟩
  ⟨Ob.d fun c => r_assign rfl (c.p e5), trivial⟩ ?_
 intro a3 w3 τ3 st3 f3
 obtain ⟨e2, -⟩ := f3.ks [(2, _)] ⟨e2, trivial⟩
 have e3 : get a3 3 = b2x5 := f3.v 0 rfl
 replace r0 := f3.ib 0 rfl
 replace r1 := f3.io 1 rfl
 replace r2 := f3.iz 2 rfl
 clear f3
 obtain ⟨kv0, rfl⟩ := r1.isSl.sv
 show Code.wp _ _ _ a3 w3
 refine wp_seq ?_
 refine wp_seq ?_
 refine region_St (bf := [0, 1]) (sp := [det _ 6 _, det _ 7 _]) [ib r0, io r1, iz r2] mixed st3 (by kernel_rfl) ⟨r0, r1, r2, trivial⟩
  ⟨Ob.d fun c => r_move rfl (c.p e3),
  Ob.d fun c => r_len rfl Try.underlying23 (c.n 0 rfl) r1.isSl, trivial⟩ ?_
 intro a4 w4 τ4 st4 f4
 obtain ⟨e2, e3, -⟩ := f4.ks [(2, _), (3, _)] ⟨e2, e3, trivial⟩
 have e7 : get a4 7 = (.int .i64 ((ts1_.length : Int))) := f4.v 1 rfl
 replace r0 := f4.ib 0 rfl
 replace r1 := f4.io 1 rfl
 replace r2 := f4.iz 2 rfl
 clear f4
 show Code.wp _ _ _ a4 w4
 refine wp_block ?_
 refine wp_seq ?_
 refine region_St (bf := [0, 1]) (sp := [det _ 9 _, det _ 8 _]) [ib r0, io r1, iz r2] mixed st4 (by kernel_rfl) ⟨r0, r1, r2, trivial⟩
  ⟨Ob.d fun c => r_eql rfl (c.p e7) rfl,
  Ob.d fun c => r_assign rfl (c.n 0 rfl), trivial⟩ ?_
 intro a5 w5 τ5 st5 f5
 obtain ⟨e2, e3, e7, -⟩ := f5.ks [(2, _), (3, _), (7, _)] ⟨e2, e3, e7, trivial⟩
 have e8 : get a5 8 = (.bool (decide ((ts1_.length : Int) = 0))) := f5.v 1 rfl
 replace r0 := f5.ib 0 rfl
 replace r1 := f5.io 1 rfl
 replace r2 := f5.iz 2 rfl
 clear f5
 show Code.wp _ _ _ a5 w5
 refine wp_cond_split (t := decide ((ts1_.length : Int) = 0)) e8 (fun hc1 => ?_) (fun hc1 => ?_)
 · try simp only [decide_eq_true_eq] at hc1
   refine wp_seq ?_
   refine region_St (bf := [0, 1]) (sp := [det _ 10 _, box _ _ 0 2 [(.int .i64 (0)), (.string ((⟨#[]⟩ : ByteArray))), (.bool (false)), (.slice none 0 0), (.int .i64 (0)), (.int .i64 (0)), (.bool (false)), (.slice none 0 0)]]) [ib r0, io r1, iz r2] mixed st5 (by kernel_rfl) ⟨r0, r1, r2, trivial⟩
    ⟨Ob.d fun c => r_build (cells := #[(.int .i64 (0)), (.string ((⟨#[]⟩ : ByteArray))), (.bool (false)), (.slice none 0 0), (.int .i64 (0)), (.int .i64 (0)), (.bool (false)), (.slice none 0 0)]) rfl Try.underlying25 Try.zeroValue25 (pl := #[(0, 1), (1, 1), (2, 1), (3, 1), (4, 1), (5, 1), (6, 1), (7, 1)]) (fun w_ => by simp [Try.sizeOf22, Try.sizeOf23, Try.sizeOf3, Try.sizeOf4, Try.sizeOf9]) (by simp only [List.map_toArray, List.map_nil]; rfl),
    Ob.storeBox (off := 0) (v := (.agg #[(.int .i64 (0)), (.string ((⟨#[]⟩ : ByteArray))), (.bool (false)), (.slice none 0 0), (.int .i64 (0)), (.int .i64 (0)), (.bool (false)), (.slice none 0 0)])) rfl rfl rfl rfl Try.sizeOf25 (Nat.le_of_ble_eq_true rfl) (by simp [Value.cells, Value.oneCell', Sv.v]) rfl (fun _ _ _ _ c => ⟨c.bp 0 rfl e2, c.ad ((c.p e2).trans r0.ptr) e2 rfl, (c.n 0 rfl)⟩), trivial⟩ ?_
   intro a6 w6 τ6 st6 f6
   obtain ⟨e2, e3, e7, -⟩ := f6.ks [(2, _), (3, _), (7, _)] ⟨e2, e3, e7, trivial⟩
   replace r0 : boxR 25 [(.int .i64 (0)), (.string ((⟨#[]⟩ : ByteArray))), (.bool (false)), (.slice none 0 0), (.int .i64 (0)), (.int .i64 (0)), (.bool (false)), (.slice none 0 0)] (τ6 0) b1x2 w6 := f6.rb 1 e2 rfl
   replace r1 := f6.io 1 rfl
   replace r2 := f6.iz 2 rfl
   clear f6
   show Code.wp _ _ _ a6 w6
   refine wp_ret ?_
   repeat (first | with_reducible refine then_ret ?_ | with_reducible refine block_ret ?_)
   refine ret1c (fn := Try.f15) rfl st6.defers e2 r0 Try.isAgg25 Try.sizeOf25 rfl ?_
   exact ⟨mkT 0 [], rfl, st6.ext0, leafTr _ _ _ _ _ _ _ _, alt_none hqts1_ (by omega)⟩
 try simp only [decide_eq_false_iff_not] at hc1
 refine wp_seq ?_
 refine region_St (bf := [0, 1]) (sp := [det _ 12 _, det _ 11 _]) [ib r0, io r1, iz r2] mixed st5 (by kernel_rfl) ⟨r0, r1, r2, trivial⟩
  ⟨Ob.d fun c => r_eql rfl (c.p e7) rfl,
  Ob.d fun c => r_assign rfl (c.n 0 rfl), trivial⟩ ?_
 intro a7 w7 τ7 st7 f7
 obtain ⟨e2, e3, -⟩ := f7.ks [(2, _), (3, _)] ⟨e2, e3, trivial⟩
 have e11 : get a7 11 = (.bool (decide ((ts1_.length : Int) = 1))) := f7.v 1 rfl
 replace r0 := f7.ib 0 rfl
 replace r1 := f7.io 1 rfl
 replace r2 := f7.iz 2 rfl
 clear f7
 show Code.wp _ _ _ a7 w7
 refine wp_cond_split (t := decide ((ts1_.length : Int) = 1)) e11 (fun hc2 => ?_) (fun hc2 => ?_)
 · try simp only [decide_eq_true_eq] at hc2
   refine wp_seq ?_
   refine region_St (bf := [0, 1, 3, 7]) (sp := [det _ 13 _, det _ 14 _, det _ 15 _, box _ _ 0 2 [(.int .i64 ((nth ts1_ (0)).k)), (.string ((nth ts1_ (0)).ch)), (.bool ((nth ts1_ (0)).ng)), (nth ts1_ (0)).rv.v, (.int .i64 ((nth ts1_ (0)).mn)), (.int .i64 ((nth ts1_ (0)).mx)), (.bool ((nth ts1_ (0)).lz)), (nth ts1_ (0)).kv.v]]) [ib r0, io r1, iz r2] mixed st7 (by kernel_rfl) ⟨r0, r1, r2, trivial⟩
    ⟨Ob.d fun c => r_move rfl (c.p e3),
    Ob.d fun c => r_indexAddr rfl Try.underlying23 Try.sizeOf25 (c.n 0 rfl) r1.isSl rfl (by omega) (by omega),
    Ob.d fun c => r_loadN (vs := [(.int .i64 ((nth ts1_ (0)).k)), (.string ((nth ts1_ (0)).ch)), (.bool ((nth ts1_ (0)).ng)), (nth ts1_ (0)).rv.v, (.int .i64 ((nth ts1_ (0)).mn)), (.int .i64 ((nth ts1_ (0)).mx)), (.bool ((nth ts1_ (0)).lz)), (nth ts1_ (0)).kv.v]) rfl Try.isAgg25 Try.sizeOf25 (c.n 1 rfl) rfl (fun _ _ hj => ((c.io 1 rfl).1.sl).elem (nth_some (i := 0) (by omega) (by omega)) hj),
    Ob.storeBox (off := 0) (v := (.agg #[(.int .i64 ((nth ts1_ (0)).k)), (.string ((nth ts1_ (0)).ch)), (.bool ((nth ts1_ (0)).ng)), (nth ts1_ (0)).rv.v, (.int .i64 ((nth ts1_ (0)).mn)), (.int .i64 ((nth ts1_ (0)).mx)), (.bool ((nth ts1_ (0)).lz)), (nth ts1_ (0)).kv.v])) rfl rfl rfl rfl Try.sizeOf25 (Nat.le_of_ble_eq_true rfl) (by simp [Value.cells, Value.oneCell', Sv.v]) rfl (fun _ _ _ _ c => ⟨c.bp 0 rfl e2, c.ad ((c.p e2).trans r0.ptr) e2 rfl, (c.n 2 rfl)⟩), trivial⟩ ?_
   intro a8 w8 τ8 st8 f8
   obtain ⟨e2, e3, -⟩ := f8.ks [(2, _), (3, _)] ⟨e2, e3, trivial⟩
   replace r0 : boxR 25 [(.int .i64 ((nth ts1_ (0)).k)), (.string ((nth ts1_ (0)).ch)), (.bool ((nth ts1_ (0)).ng)), (nth ts1_ (0)).rv.v, (.int .i64 ((nth ts1_ (0)).mn)), (.int .i64 ((nth ts1_ (0)).mx)), (.bool ((nth ts1_ (0)).lz)), (nth ts1_ (0)).kv.v] (τ8 0) b1x2 w8 := f8.rb 3 e2 rfl
   replace r1 := f8.io 1 rfl
   replace r2 := f8.iz 2 rfl
   clear f8
   show Code.wp _ _ _ a8 w8
   refine wp_ret ?_
   repeat (first | with_reducible refine then_ret ?_ | with_reducible refine block_ret ?_)
   refine ret1c (fn := Try.f15) rfl st8.defers e2 r0 Try.isAgg25 Try.sizeOf25 rfl ?_
   exact ⟨_, rfl, st8.ext0, (r2.e (by omega) (by omega)).out, alt_one hqts1_ (by omega)⟩
 try simp only [decide_eq_false_iff_not] at hc2
 refine wp_skip ?_
 show _
 show Code.wp _ _ _ a7 w7
 refine wp_seq ?_
 refine region_St (bf := [0, 1, 3]) (sp := [det _ 16 _, det _ 17 _, box _ _ 0 2 [(.int .i64 (1)), (.string ((⟨#[]⟩ : ByteArray))), (.bool (false)), (.slice none 0 0), (.int .i64 (0)), (.int .i64 (0)), (.bool (false)), kv0.v]]) [ib r0, io r1, iz r2] mixed st7 (by kernel_rfl) ⟨r0, r1, r2, trivial⟩
  ⟨Ob.d fun c => r_move rfl (c.p e3),
  Ob.d fun c => r_build (cells := #[(.int .i64 (1)), (.string ((⟨#[]⟩ : ByteArray))), (.bool (false)), (.slice none 0 0), (.int .i64 (0)), (.int .i64 (0)), (.bool (false)), kv0.v]) rfl Try.underlying25 Try.zeroValue25 (pl := #[(0, 1), (1, 1), (2, 1), (3, 1), (4, 1), (5, 1), (6, 1), (7, 1)]) (fun w_ => by simp [Try.sizeOf22, Try.sizeOf23, Try.sizeOf3, Try.sizeOf4, Try.sizeOf9]) (fill2 rfl (c.n 0 rfl) rfl),
  Ob.storeBox (off := 0) (v := (.agg #[(.int .i64 (1)), (.string ((⟨#[]⟩ : ByteArray))), (.bool (false)), (.slice none 0 0), (.int .i64 (0)), (.int .i64 (0)), (.bool (false)), kv0.v])) rfl rfl rfl rfl Try.sizeOf25 (Nat.le_of_ble_eq_true rfl) (by simp [Value.cells, Value.oneCell', Sv.v]) rfl (fun _ _ _ _ c => ⟨c.bp 0 rfl e2, c.ad ((c.p e2).trans r0.ptr) e2 rfl, (c.n 1 rfl)⟩), trivial⟩ ?_
 intro a9 w9 τ9 st9 f9
 obtain ⟨e2, -⟩ := f9.ks [(2, _)] ⟨e2, trivial⟩
 replace r0 : boxR 25 [(.int .i64 (1)), (.string ((⟨#[]⟩ : ByteArray))), (.bool (false)), (.slice none 0 0), (.int .i64 (0)), (.int .i64 (0)), (.bool (false)), kv0.v] (τ9 0) b1x2 w9 := f9.rb 2 e2 rfl
 replace r1 := f9.io 1 rfl
 replace r2 := f9.iz 2 rfl
 clear f9
 show Code.wp _ _ _ a9 w9
 refine wp_ret ?_
 repeat (first | with_reducible refine then_ret ?_ | with_reducible refine block_ret ?_)
 refine ret1c (fn := Try.f15) rfl st9.defers e2 r0 Try.isAgg25 Try.sizeOf25 rfl ?_
 exact ⟨⟨1, ⟨#[]⟩, false, Sv.nil, [], 0, 0, false, kv0, ts1_⟩, rfl, st9.ext0, mk_out r1 (fun g h => .inr (st9.bnd _ _ h).1) r2.outs, by rw [er_mk]; exact alt_many hqts1_ (by omega) (by omega)⟩
end B
end Go.Proofs.Ytocmchlhbniloaa
