/-
  The walks over package span and its reference, function by function: what each call hands back. Printed by a program (gen.py).
-/
import Derived.Test.YtocmchlhbniloaaStr
import Derived.Test.YtocmchlhbniloaaChecked
set_option linter.unusedSimpArgs false
set_option linter.unusedVariables false
namespace Go.Proofs.Ytocmchlhbniloaa
namespace B
open Go.RowKit
theorem mixed : Try.prog.follows .mixedOrders = true := by kernel_rfl
def lessB (p q : Int × Int) : Bool := decide (p.1 < q.1) || (decide (p.1 = q.1) && decide (p.2 < q.2))
def touchB (p q : Int × Int) : Bool := decide (max p.1 q.1 ≤ min p.2 q.2)
def overlapB (p q : Int × Int) : Bool := decide (max p.1 q.1 < min p.2 q.2)
def withinB (p q : Int × Int) : Bool := decide (q.1 ≤ p.1) && decide (p.2 ≤ q.2)
def hasB (p : Int × Int) (n : Int) : Bool := decide (p.1 ≤ n) && decide (n ≤ p.2)
def mayB (p : Int × Int) (n : Int) : Bool := decide (0 ≤ p.1) && decide (p.1 ≤ p.2) && decide (p.2 ≤ n)
def cmpI (x y : Int) : Int := if x < y then -1 else if y < x then 1 else 0
def orF (xs : List Int) : Int := (xs.find? (fun x => x != 0)).getD 0
def cmpS (p q : Int × Int) : Int := orF [cmpI p.1 q.1, cmpI p.2 q.2]
def lowF (x n : Int) : Int := IntKind.i64.wrap ((IntKind.u64.wrap x).tmod (IntKind.u64.wrap n))
theorem u64_pos {n : Int} (h : 0 < n) (h2 : n ≤ 9223372036854775807) : IntKind.u64.wrap n ≠ 0 := by
  have : IntKind.u64.wrap n = n := by simp [IntKind.wrap, IntKind.signed, IntKind.bits]; omega
  omega
theorem take_snoc {α : Type} [Inhabited α] {xs : List α} {k : Nat} (h : k < xs.length) : xs.take (k + 1) = xs.take k ++ [nth xs k] := by
  rw [List.take_succ_eq_append_getElem h]
  simp [nth, List.getD, List.getElem?_eq_getElem h]
theorem take_zero {xs : List Int} {k : Nat} (h : k < xs.length) (hq : ∀ x ∈ xs.take k, x = 0) (h0 : nth xs (k : Int) = 0) : ∀ x ∈ xs.take (k + 1), x = 0 := by
  rw [take_snoc h]
  intro x hx
  rcases List.mem_append.1 hx with hx | hx
  · exact hq x hx
  · simp at hx; rw [hx]; exact h0
theorem orF_hit {xs : List Int} {k : Nat} (hq : ∀ x ∈ xs.take k, x = 0) (h : k < xs.length) (h0 : ¬ nth xs (k : Int) = 0) : orF xs = nth xs (k : Int) := by
  have e : xs = xs.take k ++ nth xs (k : Int) :: xs.drop (k + 1) := by
    conv => lhs; rw [← List.take_append_drop (k + 1) xs, take_snoc h]
    simp
  have hn : (xs.take k).find? (fun x => x != 0) = none := List.find?_eq_none.2 fun x hx => by simp [hq x hx]
  unfold orF
  rw [e, List.find?_append, hn]
  rw [← e]
  simp [List.find?_cons, h0]
theorem orF_miss {xs : List Int} {k : Nat} (hk : k ≤ xs.length) (hq : ∀ x ∈ xs.take k, x = 0) (h : (xs.length : Int) ≤ k) : orF xs = 0 := by
  rw [List.take_of_length_le (by omega)] at hq
  have hn : xs.find? (fun x => x != 0) = none := List.find?_eq_none.2 fun x hx => by simp [hq x hx]
  simp [orF, hn]
theorem take_same {α : Type} [Inhabited α] {xs ys : List α} {k : Nat} (h : k < xs.length) (h' : k < ys.length) (hq : xs.take k = ys.take k) (h0 : nth xs (k : Int) = nth ys (k : Int)) : xs.take (k + 1) = ys.take (k + 1) := by
  rw [take_snoc h, take_snoc h', hq, h0]
theorem differ {α : Type} [Inhabited α] {xs ys : List α} {i : Int} (h : ¬ nth xs i = nth ys i) : ¬ xs = ys := fun e => h (by rw [e])
theorem all_same {α : Type} {xs ys : List α} {k : Nat} (hl : xs.length = ys.length) (hk : k ≤ xs.length) (hq : xs.take k = ys.take k) (h : (xs.length : Int) ≤ k) : xs = ys := by
  rwa [List.take_of_length_le (by omega), List.take_of_length_le (by omega)] at hq
theorem tn (m i : Nat) : ((m : Int) - (i : Int)).toNat = m - i := by omega
theorem tn2 (m j i : Nat) : ((m : Int) + (j : Int) - (i : Int)).toNat = m + j - i := by omega
set_option maxRecDepth 100000 in
theorem low_c (x n : Int) (w : World) (hn : 0 < n) (hn2 : n ≤ 9223372036854775807) : Calls Try.prog 21 #[.int .i64 x, .int .i64 n] w (fun e w' => e = .returned (.int .i64 (lowF x n)) ∧ Ext none' w w') := by
 refine enter (n := 11) Try.func21 rfl rfl (Nat.le_of_ble_eq_true rfl) ?_
 intro a0 τ0 ha st0
 have e0 : get a0 0 = (.int .i64 (x)) := ha 0 _ rfl
 have e1 : get a0 1 = (.int .i64 (n)) := ha 1 _ rfl
 clear ha
 refine wp_seq ?_
 refine region_St (bf := [0]) (sp := [det _ 4 _]) [] mixed st0 (by kernel_rfl) trivial
  ⟨Ob.d fun c => r_assign rfl rfl, trivial⟩ ?_
 intro a1 w1 τ1 st1 f1
 obtain ⟨e0, e1, -⟩ := f1.ks [(0, _), (1, _)] ⟨e0, e1, trivial⟩
 have e4 : get a1 4 = (.int .i64 (0)) := f1.v 0 rfl
 clear f1
 show Code.wp _ _ _ a1 w1
 refine wp_seq ?_
 refine region_St (bf := [0, 1, 0, 4, 15, 31, 63]) (sp := [det _ 5 _, det _ 6 _, det _ 7 _, det _ 8 _, det _ 9 _, det _ 10 _, det _ 4 _]) [] mixed st1 (by kernel_rfl) trivial
  ⟨Ob.d fun c => r_move rfl (c.p e0),
  Ob.d fun c => r_conv rfl Try.underlying3 Try.underlying52 (c.n 0 rfl),
  Ob.d fun c => r_move rfl (c.p e1),
  Ob.d fun c => r_conv rfl Try.underlying3 Try.underlying52 (c.n 2 rfl),
  Ob.d fun c => r_rem rfl (c.n 1 rfl) (c.n 3 rfl) (by exact u64_pos hn hn2),
  Ob.d fun c => r_conv rfl Try.underlying52 Try.underlying3 (c.n 4 rfl),
  Ob.d fun c => r_assign rfl (c.n 5 rfl), trivial⟩ ?_
 intro a2 w2 τ2 st2 f2
 have e4 : get a2 4 = (.int .i64 (IntKind.i64.wrap ((IntKind.u64.wrap (x)).tmod (IntKind.u64.wrap (n))))) := f2.v 6 rfl
 clear f2
 show Code.wp _ _ _ a2 w2
 refine wp_ret ?_
 repeat (first | with_reducible refine then_ret ?_ | with_reducible refine block_ret ?_)
 refine ret1 (fn := Try.f21) rfl st2.defers e4 ?_
 exact ⟨rfl, st2.ext0⟩
end B
end Go.Proofs.Ytocmchlhbniloaa
