/-
  Walks, printed by a program (gen.py): LChangeCodes.
-/
import Derived.Test.YtfkjmkngiiokmaaChC
import Derived.Test.YtfkjmkngiiokmaaChgL
set_option linter.unusedSimpArgs false
set_option linter.unusedVariables false
namespace Go.Proofs.Ytfkjmkngiiokmaa
namespace B
open Go.RowKit
open Srt
def strLen : Option Value → Nat
  | some (.string s) => s.size
  | _ => 0
set_option maxRecDepth 100000 in
set_option maxHeartbeats 4000000 in
theorem changeCodes_c (n a b : Int) (r : Bool) (w : World) : Calls Try.prog 10 #[(.int .i64 (n)), (.int .i64 (a)), (.int .i64 (b)), (.bool (r))] w (fun e w' => e = .returned (.bool (true)) ∧ Ext none' w w') := by
 refine enter (n := 134) Try.func10 rfl rfl (Nat.le_of_ble_eq_true rfl) ?_
 intro a0 τ0 ha st0
 have e0 : get a0 0 = (.int .i64 (n)) := ha 0 _ rfl
 have e1 : get a0 1 = (.int .i64 (a)) := ha 1 _ rfl
 have e2 : get a0 2 = (.int .i64 (b)) := ha 2 _ rfl
 have e3 : get a0 3 = (.bool (r)) := ha 3 _ rfl
 clear ha
 refine wp_seq ?_
 refine region_St (bf := [0]) (sp := [det _ 8 _]) [] mixed st0 (by kernel_rfl) trivial
  ⟨Ob.d fun c => r_assign rfl rfl, trivial⟩ ?_
 intro a1 w1 τ1 st1 f1
 obtain ⟨e0, e1, e2, e3, -⟩ := f1.ks [(0, _), (1, _), (2, _), (3, _)] ⟨e0, e1, e2, e3, trivial⟩
 have e8 : get a1 8 = (.bool (false)) := f1.v 0 rfl
 clear f1
 show Code.wp _ _ _ a1 w1
 refine wp_seq ?_
 refine region_St (bf := [0, 1, 3]) (sp := [det _ 18 _, det _ 19 _, det _ 9 _]) [] mixed st1 (by kernel_rfl) trivial
  ⟨Ob.d fun c => r_move rfl (c.p e0),
  Ob.c fun c => ⟨_, _, (e_call2 rfl rfl Try.call28 (c.n 0 rfl) rfl), low_c n 40 _ (by first | omega | (rw [sizes_cons, sizes_one]; simp only []; omega) | (simp only [List.length_cons, List.length_nil]; omega)) (by first | omega | (rw [sizes_cons, sizes_one]; simp only []; omega) | (simp only [List.length_cons, List.length_nil]; omega))⟩,
  Ob.d fun c => r_assign rfl (c.n 1 rfl), trivial⟩ ?_
 intro a2 w2 τ2 st2 f2
 obtain ⟨e1, e2, e3, e8, -⟩ := f2.ks [(1, _), (2, _), (3, _), (8, _)] ⟨e1, e2, e3, e8, trivial⟩
 have e9 : get a2 9 = (.int .i64 (lowF n 40)) := f2.v 2 rfl
 clear f2
 have hln := low_range n 40 (by omega) (by omega)
 have hla := low_range a 40 (by omega) (by omega)
 have hlb := low_range b 40 (by omega) (by omega)
 have hla3 := low_range a 3 (by omega) (by omega)
 have hlb3 := low_range b 3 (by omega) (by omega)
 have hw1 : lenW (lowF a 40, (lowF a 40 + lowF b 3)) = (lowF a 40 + lowF b 3) - lowF a 40 := w_in (by simp only []; omega)
 have hw2 : lenW (lowF b 40, (lowF b 40 + lowF a 3)) = (lowF b 40 + lowF a 3) - lowF b 40 := w_in (by simp only []; omega)
 have hus : (⟨#[117]⟩ : ByteArray).size = 1 := rfl
 obtain ⟨m, hm⟩ : ∃ x_ : Nat, lowF n 40 = (x_ : Int) := ⟨(lowF n 40).toNat, by omega⟩
 replace e9 := e9.trans (int_eq hm)
 show Code.wp _ _ _ a2 w2
 refine wp_seq ?_
 refine region_St (bf := [0, 1, 0, 7, 0, 31, 63, 127, 255, 0, 1023]) (sp := [det _ 20 _, det _ 21 _, det _ 22 _, det _ 23 _, det _ 24 _, det _ 25 _, det _ 26 _, det _ 27 _, det _ 28 _, box _ _ 0 10 [(.int .i64 (0)), (.int .i64 (0)), (.string ((⟨#[]⟩ : ByteArray)))], box _ _ 0 10 [(.int .i64 (lowF a 40)), (.int .i64 (lowF a 40 + (lowF b 3))), (.string ((⟨#[117]⟩ : ByteArray)))]]) [] mixed st2 (by kernel_rfl) trivial
  ⟨Ob.d fun c => r_move rfl (c.p e1),
  Ob.c fun c => ⟨_, _, (e_call2 rfl rfl Try.call28 (c.n 0 rfl) rfl), low_c a 40 _ (by first | omega | (rw [sizes_cons, sizes_one]; simp only []; omega) | (simp only [List.length_cons, List.length_nil]; omega)) (by first | omega | (rw [sizes_cons, sizes_one]; simp only []; omega) | (simp only [List.length_cons, List.length_nil]; omega))⟩,
  Ob.d fun c => r_move rfl (c.p e1),
  Ob.c fun c => ⟨_, _, (e_call2 rfl rfl Try.call28 (c.n 2 rfl) rfl), low_c a 40 _ (by first | omega | (rw [sizes_cons, sizes_one]; simp only []; omega) | (simp only [List.length_cons, List.length_nil]; omega)) (by first | omega | (rw [sizes_cons, sizes_one]; simp only []; omega) | (simp only [List.length_cons, List.length_nil]; omega))⟩,
  Ob.d fun c => r_move rfl (c.p e2),
  Ob.c fun c => ⟨_, _, (e_call2 rfl rfl Try.call28 (c.n 4 rfl) rfl), low_c b 3 _ (by first | omega | (rw [sizes_cons, sizes_one]; simp only []; omega) | (simp only [List.length_cons, List.length_nil]; omega)) (by first | omega | (rw [sizes_cons, sizes_one]; simp only []; omega) | (simp only [List.length_cons, List.length_nil]; omega))⟩,
  Ob.d fun c => r_add rfl (c.n 3 rfl) (c.n 5 rfl) (by first | omega | (rw [sizes_cons, sizes_one]; simp only []; omega) | (simp only [List.length_cons, List.length_nil]; omega)),
  Ob.d fun c => r_build (cells := #[(.int .i64 (lowF a 40)), (.int .i64 (lowF a 40 + (lowF b 3)))]) rfl Try.underlying43 Try.zeroValue43 (pl := #[(0, 1), (1, 1)]) (fun w_ => by simp [Try.sizeOf3]) (fill2 (c.n 1 rfl) (c.n 6 rfl) rfl),
  Ob.d fun c => r_build (cells := #[(.int .i64 (lowF a 40)), (.int .i64 (lowF a 40 + (lowF b 3))), (.string ((⟨#[117]⟩ : ByteArray)))]) rfl Try.underlying45 Try.zeroValue45 (pl := #[(0, 2), (2, 1)]) (fun w_ => by simp [Try.sizeOf43, Try.sizeOf9]) (fill2 (c.n 7 rfl) rfl rfl),
  Ob.alloc rfl rfl rfl rfl Try.zeroValue45 rfl,
  Ob.storeBox (off := 0) (v := (.agg #[(.int .i64 (lowF a 40)), (.int .i64 (lowF a 40 + (lowF b 3))), (.string ((⟨#[117]⟩ : ByteArray)))])) rfl rfl rfl rfl Try.sizeOf45 (Nat.le_of_ble_eq_true rfl) (by simp [Value.cells, Value.oneCell']) rfl (fun _ _ _ _ c => ⟨c.rb 9 rfl, (c.rb 9 rfl).ptr, (c.n 8 rfl)⟩), trivial⟩ ?_
 intro a3 w3 τ3 st3 f3
 obtain ⟨b3x10, e10⟩ : ∃ b, get a3 10 = b := ⟨_, rfl⟩
 obtain ⟨e1, e2, e3, e8, e9, -⟩ := f3.ks [(1, _), (2, _), (3, _), (8, _), (9, _)] ⟨e1, e2, e3, e8, e9, trivial⟩
 have r0 : boxR 45 [(.int .i64 (lowF a 40)), (.int .i64 (lowF a 40 + (lowF b 3))), (.string ((⟨#[117]⟩ : ByteArray)))] (τ3 0) b3x10 w3 := f3.rb 10 e10 rfl
 clear f3
 show Code.wp _ _ _ a3 w3
 refine wp_seq ?_
 refine region_St (bf := [0, 1, 0, 7, 0, 31, 63, 127, 255, 0, 1023]) (sp := [det _ 29 _, det _ 30 _, det _ 31 _, det _ 32 _, det _ 33 _, det _ 34 _, det _ 35 _, det _ 36 _, det _ 37 _, box _ _ 1 11 [(.int .i64 (0)), (.int .i64 (0)), (.string ((⟨#[]⟩ : ByteArray)))], box _ _ 1 11 [(.int .i64 (lowF b 40)), (.int .i64 (lowF b 40 + (lowF a 3))), (.string ((⟨#[118]⟩ : ByteArray)))]]) [ib r0] mixed st3 (by kernel_rfl) ⟨r0, trivial⟩
  ⟨Ob.d fun c => r_move rfl (c.p e2),
  Ob.c fun c => ⟨_, _, (e_call2 rfl rfl Try.call28 (c.n 0 rfl) rfl), low_c b 40 _ (by first | omega | (rw [sizes_cons, sizes_one]; simp only []; omega) | (simp only [List.length_cons, List.length_nil]; omega)) (by first | omega | (rw [sizes_cons, sizes_one]; simp only []; omega) | (simp only [List.length_cons, List.length_nil]; omega))⟩,
  Ob.d fun c => r_move rfl (c.p e2),
  Ob.c fun c => ⟨_, _, (e_call2 rfl rfl Try.call28 (c.n 2 rfl) rfl), low_c b 40 _ (by first | omega | (rw [sizes_cons, sizes_one]; simp only []; omega) | (simp only [List.length_cons, List.length_nil]; omega)) (by first | omega | (rw [sizes_cons, sizes_one]; simp only []; omega) | (simp only [List.length_cons, List.length_nil]; omega))⟩,
  Ob.d fun c => r_move rfl (c.p e1),
  Ob.c fun c => ⟨_, _, (e_call2 rfl rfl Try.call28 (c.n 4 rfl) rfl), low_c a 3 _ (by first | omega | (rw [sizes_cons, sizes_one]; simp only []; omega) | (simp only [List.length_cons, List.length_nil]; omega)) (by first | omega | (rw [sizes_cons, sizes_one]; simp only []; omega) | (simp only [List.length_cons, List.length_nil]; omega))⟩,
  Ob.d fun c => r_add rfl (c.n 3 rfl) (c.n 5 rfl) (by first | omega | (rw [sizes_cons, sizes_one]; simp only []; omega) | (simp only [List.length_cons, List.length_nil]; omega)),
  Ob.d fun c => r_build (cells := #[(.int .i64 (lowF b 40)), (.int .i64 (lowF b 40 + (lowF a 3)))]) rfl Try.underlying43 Try.zeroValue43 (pl := #[(0, 1), (1, 1)]) (fun w_ => by simp [Try.sizeOf3]) (fill2 (c.n 1 rfl) (c.n 6 rfl) rfl),
  Ob.d fun c => r_build (cells := #[(.int .i64 (lowF b 40)), (.int .i64 (lowF b 40 + (lowF a 3))), (.string ((⟨#[118]⟩ : ByteArray)))]) rfl Try.underlying45 Try.zeroValue45 (pl := #[(0, 2), (2, 1)]) (fun w_ => by simp [Try.sizeOf43, Try.sizeOf9]) (fill2 (c.n 7 rfl) rfl rfl),
  Ob.alloc rfl rfl rfl rfl Try.zeroValue45 rfl,
  Ob.storeBox (off := 0) (v := (.agg #[(.int .i64 (lowF b 40)), (.int .i64 (lowF b 40 + (lowF a 3))), (.string ((⟨#[118]⟩ : ByteArray)))])) rfl rfl rfl rfl Try.sizeOf45 (Nat.le_of_ble_eq_true rfl) (by simp [Value.cells, Value.oneCell']) rfl (fun _ _ _ _ c => ⟨c.rb 9 rfl, (c.rb 9 rfl).ptr, (c.n 8 rfl)⟩), trivial⟩ ?_
 intro a4 w4 τ4 st4 f4
 obtain ⟨b4x11, e11⟩ : ∃ b, get a4 11 = b := ⟨_, rfl⟩
 obtain ⟨e3, e8, e9, e10, -⟩ := f4.ks [(3, _), (8, _), (9, _), (10, _)] ⟨e3, e8, e9, e10, trivial⟩
 replace r0 := f4.ib 0 rfl
 have r1 : boxR 45 [(.int .i64 (lowF b 40)), (.int .i64 (lowF b 40 + (lowF a 3))), (.string ((⟨#[118]⟩ : ByteArray)))] (τ4 1) b4x11 w4 := f4.rb 10 e11 rfl
 clear f4
 rw [hm] at hln
 clear hm
 obtain ⟨xa, hxa⟩ : ∃ x_ : Int, lowF a 40 = x_ := ⟨_, rfl⟩
 obtain ⟨xb, hxb⟩ : ∃ x_ : Int, lowF b 40 = x_ := ⟨_, rfl⟩
 obtain ⟨ya, hya⟩ : ∃ x_ : Int, lowF a 3 = x_ := ⟨_, rfl⟩
 obtain ⟨yb, hyb⟩ : ∃ x_ : Int, lowF b 3 = x_ := ⟨_, rfl⟩
 simp only [hxa, hxb, hya, hyb] at r0 r1 hla hlb hla3 hlb3 hw1 hw2
 clear hxa hxb hya hyb
 show Code.wp _ _ _ a4 w4
 refine wp_seq ?_
 refine wp_seq ?_
 refine region_St (bf := [0]) (sp := [det _ 38 _]) [ib r0, ib r1] mixed st4 (by kernel_rfl) ⟨r0, r1, trivial⟩
  ⟨Ob.d fun c => r_move rfl (c.p e3), trivial⟩ ?_
 intro a5 w5 τ5 st5 f5
 obtain ⟨e3, e8, e9, e10, e11, -⟩ := f5.ks [(3, _), (8, _), (9, _), (10, _), (11, _)] ⟨e3, e8, e9, e10, e11, trivial⟩
 have e38 : get a5 38 = (.bool (r)) := f5.v 0 rfl
 replace r0 := f5.ib 0 rfl
 replace r1 := f5.ib 1 rfl
 clear f5
 show Code.wp _ _ _ a5 w5
 refine wp_cond_split (t := r) e38 (fun hc1 => ?_) (fun hc1 => ?_)
 · skip
   refine wp_block ?_
   refine wp_loop (fun a_ w_ => ∃ (j : Nat) (t : ByteArray) (τ : Nat → Foot), (j ≤ 16) ∧
          (t.size = 2 ^ j) ∧
          St (Nw w) w 134 a_ w_ τ ∧
          get a_ 3 = (.bool (r)) ∧
          get a_ 8 = (.bool (false)) ∧
          get a_ 9 = (.int .i64 ((m : Int))) ∧
          get a_ 10 = b3x10 ∧
          get a_ 11 = b4x11 ∧
          boxR 45 [(.int .i64 (xb)), (.int .i64 (xb + ya)), (.string (t))] (τ 1) b4x11 w_ ∧
          boxR 45 [(.int .i64 (xa)), (.int .i64 (xa + yb)), (.string ((⟨#[117]⟩ : ByteArray)))] (τ 0) b3x10 w_) (fun a_ w_ => 131072 - strLen (w_.cell? ((ptrOf (get a_ 11)).add 2))) ?_ ?_
   · refine ⟨0, (⟨#[118]⟩ : ByteArray), τ5, ?_, ?_, st5, e3, e8, e9, e10, e11, r1, r0⟩
     · omega
     · rfl
   intro a6 w6 hI
   obtain ⟨j, t, τ6, q0, q1, st6, e3, e8, e9, e10, e11, r1, r0⟩ := hI
   have mb := r1.cell (j := 2) rfl
   have m11 := e11
   have htb : 0 < t.size := by rw [q1]; exact Nat.pow_pos (by omega)
   refine wp_seq ?_
   refine wp_seq ?_
   refine region_St (bf := [0, 1, 3, 7]) (sp := [det _ 39 _, det _ 40 _, det _ 41 _, det _ 42 _]) [ib r0, ib r1] mixed st6 (by kernel_rfl) ⟨r0, r1, trivial⟩
    ⟨Ob.d fun c => r_fieldAddr rfl Try.underlying45 rfl rfl Try.sizeOf9 ((c.p e11).trans r1.ptr),
    Ob.d fun c => r_load1 rfl Try.isAgg9 (c.n 0 rfl) ((c.ib 1 rfl).cell (j := 2) rfl),
    Ob.d fun c => r_lenS rfl Try.underlying9 (c.n 1 rfl),
    Ob.d fun c => r_lss rfl (c.n 2 rfl) rfl, trivial⟩ ?_
   intro a7 w7 τ7 st7 f7
   obtain ⟨e3, e8, e9, e10, e11, -⟩ := f7.ks [(3, _), (8, _), (9, _), (10, _), (11, _)] ⟨e3, e8, e9, e10, e11, trivial⟩
   have e42 : get a7 42 = (.bool (decide ((t.size : Int) < 65536))) := f7.v 3 rfl
   replace r0 := f7.ib 0 rfl
   replace r1 := f7.ib 1 rfl
   clear f7
   show Code.wp _ _ _ a7 w7
   refine wp_cond_split (t := decide ((t.size : Int) < 65536)) e42 (fun hc2 => ?_) (fun hc2 => ?_)
   · try simp only [decide_eq_true_eq] at hc2
     refine wp_skip ?_
     show Code.wp _ _ _ a7 w7
     refine wp_block ?_
     refine region_St (bf := [0, 1, 0, 4, 15, 31, 63]) (sp := [det _ 43 _, det _ 44 _, det _ 45 _, det _ 46 _, det _ 47 _, det _ 48 _, box _ _ 1 11 [(.int .i64 (xb)), (.int .i64 (xb + ya)), (.string (t ++ t))]]) [ib r0, ib r1] mixed st7 (by kernel_rfl) ⟨r0, r1, trivial⟩
      ⟨Ob.d fun c => r_fieldAddr rfl Try.underlying45 rfl rfl Try.sizeOf9 ((c.p e11).trans r1.ptr),
      Ob.d fun c => r_load1 rfl Try.isAgg9 (c.n 0 rfl) ((c.ib 1 rfl).cell (j := 2) rfl),
      Ob.d fun c => r_fieldAddr rfl Try.underlying45 rfl rfl Try.sizeOf9 ((c.p e11).trans r1.ptr),
      Ob.d fun c => r_load1 rfl Try.isAgg9 (c.n 2 rfl) ((c.ib 1 rfl).cell (j := 2) rfl),
      Ob.d fun c => r_sadd rfl (c.n 1 rfl) (c.n 3 rfl) (by first | omega | (rw [sizes_cons, sizes_one]; simp only []; omega) | (simp only [List.length_cons, List.length_nil]; omega)),
      Ob.d fun c => r_fieldAddr rfl Try.underlying45 rfl rfl Try.sizeOf9 ((c.p e11).trans r1.ptr),
      Ob.storeBox (off := 2) (v := (.string (t ++ t))) rfl rfl rfl rfl Try.sizeOf9 (Nat.le_of_ble_eq_true rfl) (by simp [Value.cells, Value.oneCell']) rfl (fun _ _ _ _ c => ⟨c.bp 1 rfl e11, c.ad (c.n 5 rfl) e11 rfl, (c.n 4 rfl)⟩), trivial⟩ ?_
     intro a8 w8 τ8 st8 f8
     obtain ⟨e3, e8, e9, e10, e11, e42, -⟩ := f8.ks [(3, _), (8, _), (9, _), (10, _), (11, _), (42, _)] ⟨e3, e8, e9, e10, e11, e42, trivial⟩
     replace r0 := f8.ib 0 rfl
     replace r1 : boxR 45 [(.int .i64 (xb)), (.int .i64 (xb + ya)), (.string (t ++ t))] (τ8 1) b4x11 w8 := f8.rb 6 e11 rfl
     clear f8
     show _
     refine ⟨⟨j + 1, t ++ t, τ8, ?_, ?_, st8, e3, e8, e9, e10, e11, r1, r0⟩, ?_⟩
     · have h_ : (t.size : Int) < 65536 := by assumption
       have h2_ : (2 : Nat) ^ j < 2 ^ 16 := by omega
       have h3_ := (Nat.pow_lt_pow_iff_right (by omega)).1 h2_
       omega
     · rw [ByteArray.size_append, q1, Nat.pow_succ]; omega
     · have nb := r1.cell (j := 2) rfl
       have h_ : (t.size : Int) < 65536 := by assumption
       simp only [m11, e11, mb, nb, strLen, ByteArray.size_append]
       omega
   try simp only [decide_eq_false_iff_not, Int.not_lt] at hc2
   refine wp_exit ?_
   repeat (with_reducible refine then_exit ?_)
   refine exit_here ?_
   show Code.wp _ _ _ a7 w7
   refine wp_seq ?_
   obtain rfl : r = true := by assumption
   have htz : t.size = 65536 := by
     have h_ : (65536 : Int) ≤ (t.size : Int) := by assumption
     have h2_ : (2 : Nat) ^ j ≤ 2 ^ 16 := Nat.pow_le_pow_right (by omega) q0
     omega
   refine region_St (bf := [0]) (sp := [det _ 12 _]) [ib r0, ib r1] mixed st7 (by kernel_rfl) ⟨r0, r1, trivial⟩
    ⟨Ob.d fun c => r_assign rfl rfl, trivial⟩ ?_
   intro a9 w9 τ9 st9 f9
   obtain ⟨e3, e8, e9, e10, e11, -⟩ := f9.ks [(3, _), (8, _), (9, _), (10, _), (11, _)] ⟨e3, e8, e9, e10, e11, trivial⟩
   have e12 : get a9 12 = (.int .i64 (0)) := f9.v 0 rfl
   replace r0 := f9.ib 0 rfl
   replace r1 := f9.ib 1 rfl
   clear f9
   show Code.wp _ _ _ a9 w9
   refine wp_seq ?_
   refine wp_block ?_
   refine wp_seq ?_
   refine region_St (bf := [0, 1, 3, 0, 15, 31, 63, 127, 255, 63, 1023, 2047, 4095]) (sp := [det _ 50 _, det _ 51 _, det _ 52 _, det _ 53 _, det _ 54 _, det _ 55 _, gdet _ 56 _ _, gdet _ 57 _ _, gdet _ 58 _ _, gdet _ 59 _ _, gdet _ 60 _ _, det _ 61 _, det _ 49 _]) [ib r0, ib r1] mixed st9 (by kernel_rfl) ⟨r0, r1, trivial⟩
    ⟨Ob.d fun c => r_fieldAddr rfl Try.underlying45 rfl rfl Try.sizeOf43 ((c.p e10).trans r0.ptr),
    Ob.d fun c => r_fieldAddr rfl Try.underlying43 rfl rfl Try.sizeOf3 (c.n 0 rfl),
    Ob.d fun c => r_load1 rfl Try.isAgg3 (c.n 1 rfl) (by rw [add_add]; exact (c.ib 0 rfl).cell (j := 1) rfl),
    Ob.d fun c => r_move rfl (c.p e9),
    Ob.d fun c => r_gtr rfl (c.n 2 rfl) (c.n 3 rfl),
    Ob.d fun c => r_move rfl (c.n 4 rfl),
    Ob.g 5 false rfl fun c hpc => r_fieldAddr rfl Try.underlying45 rfl rfl Try.sizeOf43 ((c.p e11).trans r1.ptr),
    Ob.g 5 false rfl fun c hpc => r_fieldAddr rfl Try.underlying43 rfl rfl Try.sizeOf3 (c.m 6 rfl hpc),
    Ob.g 5 false rfl fun c hpc => r_load1 rfl Try.isAgg3 (c.m 7 rfl hpc) (by rw [add_add]; exact (c.ib 1 rfl).cell (j := 1) rfl),
    Ob.g 5 false rfl fun c hpc => r_move rfl (c.p e9),
    Ob.g 5 false rfl fun c hpc => r_gtr rfl (c.m 8 rfl hpc) (c.m 9 rfl hpc),
    Ob.d fun c => r_or rfl (c.n 5 rfl) (fun h => c.m 10 rfl h),
    Ob.d fun c => r_assign rfl (c.n 11 rfl), trivial⟩ ?_
   intro a10 w10 τ10 st10 f10
   obtain ⟨e3, e8, e9, e10, e11, e12, -⟩ := f10.ks [(3, _), (8, _), (9, _), (10, _), (11, _), (12, _)] ⟨e3, e8, e9, e10, e11, e12, trivial⟩
   have e49 : get a10 49 = (.bool ((decide ((m : Int) < xa + yb)) || (decide ((m : Int) < xb + ya)))) := f10.v 12 rfl
   replace r0 := f10.ib 0 rfl
   replace r1 := f10.ib 1 rfl
   clear f10
   show Code.wp _ _ _ a10 w10
   refine wp_cond_split (t := (decide ((m : Int) < xa + yb)) || (decide ((m : Int) < xb + ya))) e49 (fun hc3 => ?_) (fun hc3 => ?_)
   · try simp only [Bool.or_eq_true, decide_eq_true_eq] at hc3
     refine region_St (bf := [0]) (sp := [det _ 12 _]) [ib r0, ib r1] mixed st10 (by kernel_rfl) ⟨r0, r1, trivial⟩
      ⟨Ob.d fun c => r_assign rfl rfl, trivial⟩ ?_
     intro a11 w11 τ11 st11 f11
     obtain ⟨e3, e8, e9, e10, e11, -⟩ := f11.ks [(3, _), (8, _), (9, _), (10, _), (11, _)] ⟨e3, e8, e9, e10, e11, trivial⟩
     have e12 : get a11 12 = (.int .i64 (3)) := f11.v 0 rfl
     replace r0 := f11.ib 0 rfl
     replace r1 := f11.ib 1 rfl
     clear f11
     show _
     show Code.wp _ _ _ a11 w11
     refine wp_seq ?_
     have hdg : ((((⟨#[48, 49, 50, 51, 52, 53, 54, 55, 56, 57, 48, 49, 50, 51, 52, 53, 54, 55, 56, 57, 48, 49, 50, 51, 52, 53, 54, 55, 56, 57, 48, 49, 50, 51, 52, 53, 54, 55, 56, 57]⟩ : ByteArray))).size : Int) = 40 := rfl
     refine region_St (bf := [0, 1, 3]) (sp := [det _ 85 _, det _ 86 _, det _ 13 _]) [ib r0, ib r1] mixed st11 (by kernel_rfl) ⟨r0, r1, trivial⟩
      ⟨Ob.d fun c => r_move rfl (c.p e9),
      Ob.d fun c => r_subHi (s := (⟨#[48, 49, 50, 51, 52, 53, 54, 55, 56, 57, 48, 49, 50, 51, 52, 53, 54, 55, 56, 57, 48, 49, 50, 51, 52, 53, 54, 55, 56, 57, 48, 49, 50, 51, 52, 53, 54, 55, 56, 57]⟩ : ByteArray)) (q := (m : Int)) rfl Try.underlying9 (by kernel_rfl) (c.n 0 rfl) (by first | omega | (rw [sizes_cons, sizes_one]; simp only []; omega) | (simp only [List.length_cons, List.length_nil]; omega)) (by first | omega | (rw [sizes_cons, sizes_one]; simp only []; omega) | (simp only [List.length_cons, List.length_nil]; omega)),
      Ob.d fun c => r_assign rfl (c.n 1 rfl), trivial⟩ ?_
     intro a12 w12 τ12 st12 f12
     obtain ⟨e8, e9, e10, e11, e12, -⟩ := f12.ks [(8, _), (9, _), (10, _), (11, _), (12, _)] ⟨e8, e9, e10, e11, e12, trivial⟩
     have e13 : get a12 13 = (.string ((⟨#[48, 49, 50, 51, 52, 53, 54, 55, 56, 57, 48, 49, 50, 51, 52, 53, 54, 55, 56, 57, 48, 49, 50, 51, 52, 53, 54, 55, 56, 57, 48, 49, 50, 51, 52, 53, 54, 55, 56, 57]⟩ : ByteArray).extract 0 m)) := f12.v 2 rfl
     replace r0 := f12.ib 0 rfl
     replace r1 := f12.ib 1 rfl
     clear f12
     obtain ⟨sv, hsv⟩ : ∃ x_, (⟨#[48, 49, 50, 51, 52, 53, 54, 55, 56, 57, 48, 49, 50, 51, 52, 53, 54, 55, 56, 57, 48, 49, 50, 51, 52, 53, 54, 55, 56, 57, 48, 49, 50, 51, 52, 53, 54, 55, 56, 57]⟩ : ByteArray).extract 0 m = x_ := ⟨_, rfl⟩
     rw [hsv] at e13
     have hss : (sv.size : Int) = (m : Int) := by
       rw [← hsv, ByteArray.size_extract]
       omega
     have hM : mayEd (sv.size : Int) [(xa, xa + yb, (⟨#[117]⟩ : ByteArray)), (xb, xb + ya, t)] = (3 : Int) := by rw [hss]; exact codes_3 (by omega)
     have hO := codes_out (s := sv) (es := [(xa, xa + yb, (⟨#[117]⟩ : ByteArray)), (xb, xb + ya, t)]) (by rw [hM]; decide)
     show Code.wp _ _ _ a12 w12
     refine wp_seq ?_
     refine region_St (bf := [0, 0, 0, 6, 15, 31, 63, 63, 127, 511]) (sp := [det _ 88 _, det _ 89 _, det _ 90 _, own EditE 45 _ 2 91 ([(xa, xa + yb, (⟨#[117]⟩ : ByteArray)), (xb, xb + ya, t)]), det _ 92 _, det _ 87 _, det _ 93 _, det _ 94 _, det _ 14 _, det _ 15 _]) [ib r0, ib r1] mixed st12 (by kernel_rfl) ⟨r0, r1, trivial⟩
      ⟨Ob.d fun c => r_move rfl (c.p e13),
      Ob.d fun c => r_loadN (vs := [(.int .i64 (xa)), (.int .i64 (xa + yb)), (.string ((⟨#[117]⟩ : ByteArray)))]) rfl Try.isAgg45 Try.sizeOf45 ((c.p e10).trans r0.ptr) rfl (fun _ _ hj => (c.ib 0 rfl).cell hj),
      Ob.d fun c => r_loadN (vs := [(.int .i64 (xb)), (.int .i64 (xb + ya)), (.string (t))]) rfl Try.isAgg45 Try.sizeOf45 ((c.p e11).trans r1.ptr) rfl (fun _ _ hj => (c.ib 1 rfl).cell hj),
      Ob.buildSlice (cells := #[(.int .i64 (xa)), (.int .i64 (xa + yb)), (.string ((⟨#[117]⟩ : ByteArray))), (.int .i64 (xb)), (.int .i64 (xb + ya)), (.string (t))]) rfl rfl rfl rfl Try.underlying22 Try.sizeOf45 Try.zeroValue45 rfl (by decide) (by decide) (fun _ _ _ _ c => fill2 (c.n 1 rfl) (c.n 2 rfl) (by kernel_rfl)) rfl,
      Ob.c fun c => ⟨_, _, (e_call2 rfl rfl Try.call15 (c.n 0 rfl) (eval_tmp _ 91)), applyE_c sv _ ([(xa, xa + yb, (⟨#[117]⟩ : ByteArray)), (xb, xb + ya, t)]) _ (c.ro 3 rfl).1.sl (by first | omega | (rw [sizes_cons, sizes_one]; simp only []; omega) | (simp only [List.length_cons, List.length_nil]; omega)) (by first | omega | (rw [sizes_cons, sizes_one]; simp only []; omega) | (simp only [List.length_cons, List.length_nil]; omega)) (by first | omega | (rw [sizes_cons, sizes_one]; simp only []; omega) | (simp only [List.length_cons, List.length_nil]; omega))⟩,
      Ob.d fun c => r_move rfl (c.n 4 rfl),
      Ob.d fun c => r_extract rfl (c.n 5 rfl) rfl,
      Ob.d fun c => r_extract rfl (c.n 5 rfl) rfl,
      Ob.d fun c => r_assign rfl (c.n 6 rfl),
      Ob.d fun c => r_assign rfl (c.n 7 rfl), trivial⟩ ?_
     intro a13 w13 τ13 st13 f13
     obtain ⟨b13x91, e91⟩ : ∃ b, get a13 91 = b := ⟨_, rfl⟩
     obtain ⟨e8, e9, e10, e11, e12, e13, -⟩ := f13.ks [(8, _), (9, _), (10, _), (11, _), (12, _), (13, _)] ⟨e8, e9, e10, e11, e12, e13, trivial⟩
     have e14 : get a13 14 = (.string (applyF sv ([(xa, xa + yb, (⟨#[117]⟩ : ByteArray)), (xb, xb + ya, t)]))) := f13.v 8 rfl
     have e15 : get a13 15 = (.int .i64 (mayEd (sv.size : Int) ([(xa, xa + yb, (⟨#[117]⟩ : ByteArray)), (xb, xb + ya, t)]))) := f13.v 9 rfl
     replace r0 := f13.ib 0 rfl
     replace r1 := f13.ib 1 rfl
     clear f13
     replace e15 := e15.trans (int_eq (show mayEd (sv.size : Int) ([(xa, xa + yb, (⟨#[117]⟩ : ByteArray)), (xb, xb + ya, t)]) = ((3 : Int) : Int) from by exact hM))
     replace e14 := e14.trans (congrArg Value.string (show applyF sv ([(xa, xa + yb, (⟨#[117]⟩ : ByteArray)), (xb, xb + ya, t)]) = (⟨#[]⟩ : ByteArray) from by exact hO.1))
     show Code.wp _ _ _ a13 w13
     refine wp_seq ?_
     refine region_St (bf := [0, 0, 0, 6, 15, 31, 63, 63, 127, 511]) (sp := [det _ 96 _, det _ 97 _, det _ 98 _, own EditE 45 _ 2 99 ([(xa, xa + yb, (⟨#[117]⟩ : ByteArray)), (xb, xb + ya, t)]), tup _ _ _ 3 100 _ _, tup _ _ _ 3 95 _ _, own _ _ _ 3 101 _, det _ 102 _, own _ _ _ 3 16 _, det _ 17 _]) [ib r0, ib r1] mixed st13 (by kernel_rfl) ⟨r0, r1, trivial⟩
      ⟨Ob.d fun c => r_move rfl (c.p e13),
      Ob.d fun c => r_loadN (vs := [(.int .i64 (xa)), (.int .i64 (xa + yb)), (.string ((⟨#[117]⟩ : ByteArray)))]) rfl Try.isAgg45 Try.sizeOf45 ((c.p e10).trans r0.ptr) rfl (fun _ _ hj => (c.ib 0 rfl).cell hj),
      Ob.d fun c => r_loadN (vs := [(.int .i64 (xb)), (.int .i64 (xb + ya)), (.string (t))]) rfl Try.isAgg45 Try.sizeOf45 ((c.p e11).trans r1.ptr) rfl (fun _ _ hj => (c.ib 1 rfl).cell hj),
      Ob.buildSlice (cells := #[(.int .i64 (xa)), (.int .i64 (xa + yb)), (.string ((⟨#[117]⟩ : ByteArray))), (.int .i64 (xb)), (.int .i64 (xb + ya)), (.string (t))]) rfl rfl rfl rfl Try.underlying22 Try.sizeOf45 Try.zeroValue45 rfl (by decide) (by decide) (fun _ _ _ _ c => fill2 (c.n 1 rfl) (c.n 2 rfl) (by kernel_rfl)) rfl,
      Ob.callTup rfl rfl rfl (fun _ a_ _ _ c => ⟨_, _, (e_call2 rfl rfl Try.call17 (c.n 0 rfl) (eval_tmp _ 99)), backE_c sv _ ([(xa, xa + yb, (⟨#[117]⟩ : ByteArray)), (xb, xb + ya, t)]) _ (c.ro 3 rfl).1.sl (by first | omega | (rw [sizes_cons, sizes_one]; simp only []; omega) | (simp only [List.length_cons, List.length_nil]; omega)) (by first | omega | (rw [sizes_cons, sizes_one]; simp only []; omega) | (simp only [List.length_cons, List.length_nil]; omega)) (by first | omega | (rw [sizes_cons, sizes_one]; simp only []; omega) | (simp only [List.length_cons, List.length_nil]; omega))⟩),
      Ob.moveT (t0 := 100) rfl rfl rfl rfl rfl (.inl rfl) (fun _ _ _ _ c => ⟨c.rtup 4 rfl rfl (by kernel_rfl), rfl⟩),
      Ob.part0 (t0 := 95) (k := (.int .i64 (mayEd (sv.size : Int) ([(xa, xa + yb, (⟨#[117]⟩ : ByteArray)), (xb, xb + ya, t)])))) rfl rfl rfl rfl (fun _ _ _ _ c => c.rtup 5 rfl rfl (by kernel_rfl)),
      Ob.d fun c => c.part1 5 rfl rfl rfl,
      Ob.moveT (t0 := 101) rfl rfl rfl rfl rfl (.inr rfl) (fun _ _ _ _ c => ⟨c.ro 6 rfl, rfl⟩),
      Ob.d fun c => r_assign rfl (c.n 7 rfl), trivial⟩ ?_
     intro a14 w14 τ14 st14 f14
     obtain ⟨b14x99, e99⟩ : ∃ b, get a14 99 = b := ⟨_, rfl⟩
     obtain ⟨b14x16, e16⟩ : ∃ b, get a14 16 = b := ⟨_, rfl⟩
     obtain ⟨e8, e9, e10, e11, e12, e14, e15, -⟩ := f14.ks [(8, _), (9, _), (10, _), (11, _), (12, _), (14, _), (15, _)] ⟨e8, e9, e10, e11, e12, e14, e15, trivial⟩
     have e17 : get a14 17 = (.int .i64 (mayEd (sv.size : Int) ([(xa, xa + yb, (⟨#[117]⟩ : ByteArray)), (xb, xb + ya, t)]))) := f14.v 9 rfl
     replace r0 := f14.ib 0 rfl
     replace r1 := f14.ib 1 rfl
     have r3 : ownR EditE 45 (backF sv ([(xa, xa + yb, (⟨#[117]⟩ : ByteArray)), (xb, xb + ya, t)])) (τ14 3) b14x16 w14 := f14.ro 8 e16 rfl
     clear f14
     replace e17 := e17.trans (int_eq (show mayEd (sv.size : Int) ([(xa, xa + yb, (⟨#[117]⟩ : ByteArray)), (xb, xb + ya, t)]) = ((3 : Int) : Int) from by exact hM))
     replace r3 := r3.cast (show [] = backF sv ([(xa, xa + yb, (⟨#[117]⟩ : ByteArray)), (xb, xb + ya, t)]) from by exact hO.2.symm)
     show Code.wp _ _ _ a14 w14
     refine wp_seq ?_
     refine wp_seq ?_
     refine region_St (bf := [0, 0, 3, 7, 15, 15, 63, 127, 255, 511, 511, 511, 3583, 8191, 511, 32767, 65535]) (sp := [det _ 103 _, det _ 104 _, det _ 105 (.bool (false)), det _ 106 _, det _ 107 _, det _ 108 _, det _ 109 (.bool (false)), det _ 110 _, det _ 111 _, det _ 112 _, det _ 113 _, det _ 114 _, own EditE 45 _ 2 115 ([(xa, xa + yb, (⟨#[117]⟩ : ByteArray)), (xb, xb + ya, t)]), det _ 116 _, det _ 117 _, det _ 118 (.bool (false)), det _ 119 _]) [ib r0, ib r1, Ini.any _, io r3] mixed st14 (by kernel_rfl) ⟨r0, r1, trivial, r3, trivial⟩
      ⟨Ob.d fun c => r_move rfl (c.p e15),
      Ob.d fun c => r_move rfl (c.p e12),
      Ob.d (v := (.bool (false))) fun c => Runs.isB (b := !decide ((3 : Int) = (3 : Int))) (r_neq rfl (c.n 0 rfl) (c.n 1 rfl)) (by decide),
      Ob.d fun c => r_move rfl (c.n 2 rfl),
      Ob.lv 3 (Ob.d fun c => r_move rfl (c.p e17)),
      Ob.lv 3 (Ob.d fun c => r_move rfl (c.p e12)),
      Ob.lv 3 (Ob.d (v := (.bool (false))) fun c => Runs.isB (b := !decide ((3 : Int) = (3 : Int))) (r_neq rfl (c.n 4 rfl) (c.n 5 rfl)) (by decide)),
      Ob.d fun c => r_pick rfl (c.n 3 rfl) (fun h => by cases h) (fun _ => c.n 6 rfl),
      Ob.d fun c => r_move rfl (c.n 7 rfl),
      Ob.lv 8 (Ob.d fun c => r_move rfl (c.p e9)),
      Ob.lv 8 (Ob.d fun c => r_loadN (vs := [(.int .i64 (xa)), (.int .i64 (xa + yb)), (.string ((⟨#[117]⟩ : ByteArray)))]) rfl Try.isAgg45 Try.sizeOf45 ((c.p e10).trans r0.ptr) rfl (fun _ _ hj => (c.ib 0 rfl).cell hj)),
      Ob.lv 8 (Ob.d fun c => r_loadN (vs := [(.int .i64 (xb)), (.int .i64 (xb + ya)), (.string (t))]) rfl Try.isAgg45 Try.sizeOf45 ((c.p e11).trans r1.ptr) rfl (fun _ _ hj => (c.ib 1 rfl).cell hj)),
      Ob.lv 8 (Ob.buildSlice (cells := #[(.int .i64 (xa)), (.int .i64 (xa + yb)), (.string ((⟨#[117]⟩ : ByteArray))), (.int .i64 (xb)), (.int .i64 (xb + ya)), (.string (t))]) rfl rfl rfl rfl Try.underlying22 Try.sizeOf45 Try.zeroValue45 rfl (by decide) (by decide) (fun _ _ _ _ c => fill2 (c.n 10 rfl) (c.n 11 rfl) (by kernel_rfl)) rfl),
      Ob.lv 8 (Ob.c fun c => ⟨_, _, (e_call2 rfl rfl Try.call19 (c.n 9 rfl) (eval_tmp _ 115)), mayE_c (m : Int) _ ([(xa, xa + yb, (⟨#[117]⟩ : ByteArray)), (xb, xb + ya, t)]) _ (c.ro 12 rfl).1.sl (by first | omega | (rw [sizes_cons, sizes_one]; simp only []; omega) | (simp only [List.length_cons, List.length_nil]; omega))⟩),
      Ob.lv 8 (Ob.d fun c => r_move rfl (c.p e12)),
      Ob.lv 8 (Ob.d (v := (.bool (false))) fun c => Runs.isB (b := !decide (mayEd (m : Int) ([(xa, xa + yb, (⟨#[117]⟩ : ByteArray)), (xb, xb + ya, t)]) = (3 : Int))) (r_neq rfl (c.n 13 rfl) (c.n 14 rfl)) (by rw [← hss, hM]; decide)),
      Ob.d fun c => r_pick rfl (c.n 8 rfl) (fun h => by cases h) (fun _ => c.n 15 rfl), trivial⟩ ?_
     intro a15 w15 τ15 st15 f15
     obtain ⟨b15x115, e115⟩ : ∃ b, get a15 115 = b := ⟨_, rfl⟩
     obtain ⟨e8, e12, e14, e16, -⟩ := f15.ks [(8, _), (12, _), (14, _), (16, _)] ⟨e8, e12, e14, e16, trivial⟩
     have e119 : get a15 119 = (.bool (false)) := f15.v 16 rfl
     replace r3 := f15.io 3 rfl
     clear f15
     show Code.wp _ _ _ a15 w15
     refine wp_cond_false e119 ?_
     refine wp_skip ?_
     show Code.wp _ _ _ a15 w15
     refine wp_seq ?_
     refine region_St (bf := [0, 1, 3, 7, 15, 31, 63, 127, 255, 511, 1023, 2047, 4095, 8191, 16383]) (sp := [det _ 120 _, det _ 121 _, det _ 122 _, gdet _ 123 _ _, gdet _ 124 _ _, gdet _ 125 _ _, gdet _ 126 _ _, gdet _ 127 _ _, gdet _ 128 _ _, gdet _ 129 _ _, det _ 130 _, det _ 131 _, gdet _ 132 _ _, det _ 133 _, det _ 8 _]) [Ini.any _, Ini.any _, Ini.any _, io r3] mixed st15 (by kernel_rfl) ⟨trivial, trivial, trivial, r3, trivial⟩
      ⟨Ob.d fun c => r_move rfl (c.p e12),
      Ob.d fun c => r_eql rfl (c.n 0 rfl) rfl,
      Ob.d fun c => r_move rfl (c.n 1 rfl),
      Ob.g 2 false rfl fun c hpc => r_move rfl (c.p e14),
      Ob.g 2 false rfl fun c hpc => r_seql rfl (c.m 3 rfl hpc) rfl,
      Ob.g 2 false rfl fun c hpc => r_move rfl (c.m 4 rfl hpc),
      Ob.gg 5 true rfl fun c hpc => r_move rfl (c.p e16),
      Ob.gg 5 true rfl fun c hpc => r_len rfl Try.underlying22 (c.m 6 rfl hpc) r3.isSl,
      Ob.gg 5 true rfl fun c hpc => r_eql rfl (c.m 7 rfl hpc) rfl,
      Ob.g 2 false rfl fun c hpc => r_and rfl (c.m 5 rfl hpc) (fun h => c.m 8 rfl (And.intro hpc h)),
      Ob.d fun c => r_or rfl (c.n 2 rfl) (fun h => c.m 9 rfl h),
      Ob.d fun c => r_move rfl (c.n 10 rfl),
      Ob.gc 11 true rfl fun c hpc => ⟨_, _, (e_call0 rfl rfl Try.call14), awake_c _⟩,
      Ob.d fun c => r_and rfl (c.n 11 rfl) (fun h => c.m 12 rfl h),
      Ob.d fun c => r_assign rfl (c.n 13 rfl), trivial⟩ ?_
     intro a16 w16 τ16 st16 f16
     obtain ⟨e12, -⟩ := f16.ks [(12, _)] ⟨e12, trivial⟩
     have e8 : get a16 8 = (.bool (((decide ((3 : Int) = 0)) || ((eqT (⟨#[]⟩ : ByteArray) (⟨#[]⟩ : ByteArray)) && (decide ((([]).length : Int) = 0)))) && true)) := f16.v 14 rfl
     clear f16
     show Code.wp _ _ _ a16 w16
     refine wp_ret ?_
     repeat (first | with_reducible refine then_ret ?_ | with_reducible refine block_ret ?_)
     refine ret1 (fn := Try.f10) rfl st16.defers e8 ?_
     exact ⟨congrArg _ (congrArg _ (show (((decide ((3 : Int) = 0)) || ((eqT (⟨#[]⟩ : ByteArray) (⟨#[]⟩ : ByteArray)) && (decide ((([]).length : Int) = 0)))) && true) = true from by simp [eqT_self])), st16.ext0⟩
   try simp only [Bool.or_eq_false_iff, decide_eq_false_iff_not, Int.not_lt] at hc3
   refine wp_seq ?_
   refine region_St (bf := [0, 1, 0, 4, 15, 31, 63, 127]) (sp := [det _ 63 _, det _ 64 _, det _ 65 _, det _ 66 _, own SpanE 43 _ 2 67 ([(xa, xa + yb), (xb, xb + ya)]), det _ 68 _, det _ 69 _, det _ 62 _]) [ib r0, ib r1] mixed st10 (by kernel_rfl) ⟨r0, r1, trivial⟩
    ⟨Ob.d fun c => r_fieldAddr rfl Try.underlying45 rfl rfl Try.sizeOf43 ((c.p e10).trans r0.ptr),
    Ob.d fun c => r_loadN (vs := [(.int .i64 (xa)), (.int .i64 (xa + yb))]) rfl Try.isAgg43 Try.sizeOf43 (c.n 0 rfl) rfl (fun j_ _ hj => by rw [add_add]; exact (c.ib 0 rfl).cell (j := 0 + j_) (part_cells (l := [(.int .i64 (xa)), (.int .i64 (xa + yb)), (.string ((⟨#[117]⟩ : ByteArray)))]) (o := 0) (n := 2) rfl hj)),
    Ob.d fun c => r_fieldAddr rfl Try.underlying45 rfl rfl Try.sizeOf43 ((c.p e11).trans r1.ptr),
    Ob.d fun c => r_loadN (vs := [(.int .i64 (xb)), (.int .i64 (xb + ya))]) rfl Try.isAgg43 Try.sizeOf43 (c.n 2 rfl) rfl (fun j_ _ hj => by rw [add_add]; exact (c.ib 1 rfl).cell (j := 0 + j_) (part_cells (l := [(.int .i64 (xb)), (.int .i64 (xb + ya)), (.string (t))]) (o := 0) (n := 2) rfl hj)),
    Ob.buildSlice (cells := #[(.int .i64 (xa)), (.int .i64 (xa + yb)), (.int .i64 (xb)), (.int .i64 (xb + ya))]) rfl rfl rfl rfl Try.underlying53 Try.sizeOf43 Try.zeroValue43 rfl (by decide) (by decide) (fun _ _ _ _ c => fill2 (c.n 1 rfl) (c.n 3 rfl) (by kernel_rfl)) rfl,
    Ob.c fun c => ⟨_, _, (e_call1 rfl rfl Try.call29 (eval_tmp _ 67)), refApart_c _ ([(xa, xa + yb), (xb, xb + ya)]) _ (c.ro 4 rfl).1.sl (by first | omega | (rw [sizes_cons, sizes_one]; simp only []; omega) | (simp only [List.length_cons, List.length_nil]; omega))⟩,
    Ob.d fun c => r_not rfl (c.n 5 rfl),
    Ob.d fun c => r_assign rfl (c.n 6 rfl), trivial⟩ ?_
   intro a17 w17 τ17 st17 f17
   obtain ⟨b17x67, e67⟩ : ∃ b, get a17 67 = b := ⟨_, rfl⟩
   obtain ⟨e3, e8, e9, e10, e11, e12, -⟩ := f17.ks [(3, _), (8, _), (9, _), (10, _), (11, _), (12, _)] ⟨e3, e8, e9, e10, e11, e12, trivial⟩
   have e62 : get a17 62 = (.bool (!(apartR (isort lessB ([(xa, xa + yb), (xb, xb + ya)]))))) := f17.v 7 rfl
   replace r0 := f17.ib 0 rfl
   replace r1 := f17.ib 1 rfl
   clear f17
   show Code.wp _ _ _ a17 w17
   refine wp_cond_split (t := !(apartR (isort lessB ([(xa, xa + yb), (xb, xb + ya)])))) e62 (fun hc5 => ?_) (fun hc5 => ?_)
   · have hd5 := hc5; try simp only [Bool.not_eq_true', Bool.not_eq_false'] at hd5
     refine region_St (bf := [0]) (sp := [det _ 12 _]) [ib r0, ib r1] mixed st17 (by kernel_rfl) ⟨r0, r1, trivial⟩
      ⟨Ob.d fun c => r_assign rfl rfl, trivial⟩ ?_
     intro a18 w18 τ18 st18 f18
     obtain ⟨e3, e8, e9, e10, e11, -⟩ := f18.ks [(3, _), (8, _), (9, _), (10, _), (11, _)] ⟨e3, e8, e9, e10, e11, trivial⟩
     have e12 : get a18 12 = (.int .i64 (5)) := f18.v 0 rfl
     replace r0 := f18.ib 0 rfl
     replace r1 := f18.ib 1 rfl
     clear f18
     show _
     show Code.wp _ _ _ a18 w18
     refine wp_seq ?_
     have hdg : ((((⟨#[48, 49, 50, 51, 52, 53, 54, 55, 56, 57, 48, 49, 50, 51, 52, 53, 54, 55, 56, 57, 48, 49, 50, 51, 52, 53, 54, 55, 56, 57, 48, 49, 50, 51, 52, 53, 54, 55, 56, 57]⟩ : ByteArray))).size : Int) = 40 := rfl
     refine region_St (bf := [0, 1, 3]) (sp := [det _ 85 _, det _ 86 _, det _ 13 _]) [ib r0, ib r1] mixed st18 (by kernel_rfl) ⟨r0, r1, trivial⟩
      ⟨Ob.d fun c => r_move rfl (c.p e9),
      Ob.d fun c => r_subHi (s := (⟨#[48, 49, 50, 51, 52, 53, 54, 55, 56, 57, 48, 49, 50, 51, 52, 53, 54, 55, 56, 57, 48, 49, 50, 51, 52, 53, 54, 55, 56, 57, 48, 49, 50, 51, 52, 53, 54, 55, 56, 57]⟩ : ByteArray)) (q := (m : Int)) rfl Try.underlying9 (by kernel_rfl) (c.n 0 rfl) (by first | omega | (rw [sizes_cons, sizes_one]; simp only []; omega) | (simp only [List.length_cons, List.length_nil]; omega)) (by first | omega | (rw [sizes_cons, sizes_one]; simp only []; omega) | (simp only [List.length_cons, List.length_nil]; omega)),
      Ob.d fun c => r_assign rfl (c.n 1 rfl), trivial⟩ ?_
     intro a19 w19 τ19 st19 f19
     obtain ⟨e8, e9, e10, e11, e12, -⟩ := f19.ks [(8, _), (9, _), (10, _), (11, _), (12, _)] ⟨e8, e9, e10, e11, e12, trivial⟩
     have e13 : get a19 13 = (.string ((⟨#[48, 49, 50, 51, 52, 53, 54, 55, 56, 57, 48, 49, 50, 51, 52, 53, 54, 55, 56, 57, 48, 49, 50, 51, 52, 53, 54, 55, 56, 57, 48, 49, 50, 51, 52, 53, 54, 55, 56, 57]⟩ : ByteArray).extract 0 m)) := f19.v 2 rfl
     replace r0 := f19.ib 0 rfl
     replace r1 := f19.ib 1 rfl
     clear f19
     obtain ⟨sv, hsv⟩ : ∃ x_, (⟨#[48, 49, 50, 51, 52, 53, 54, 55, 56, 57, 48, 49, 50, 51, 52, 53, 54, 55, 56, 57, 48, 49, 50, 51, 52, 53, 54, 55, 56, 57, 48, 49, 50, 51, 52, 53, 54, 55, 56, 57]⟩ : ByteArray).extract 0 m = x_ := ⟨_, rfl⟩
     rw [hsv] at e13
     have hss : (sv.size : Int) = (m : Int) := by
       rw [← hsv, ByteArray.size_extract]
       omega
     have hM : mayEd (sv.size : Int) [(xa, xa + yb, (⟨#[117]⟩ : ByteArray)), (xb, xb + ya, t)] = (5 : Int) := by rw [hss]; exact codes_5 (by omega) (by omega) (by assumption)
     have hO := codes_out (s := sv) (es := [(xa, xa + yb, (⟨#[117]⟩ : ByteArray)), (xb, xb + ya, t)]) (by rw [hM]; decide)
     show Code.wp _ _ _ a19 w19
     refine wp_seq ?_
     refine region_St (bf := [0, 0, 0, 6, 15, 31, 63, 63, 127, 511]) (sp := [det _ 88 _, det _ 89 _, det _ 90 _, own EditE 45 _ 2 91 ([(xa, xa + yb, (⟨#[117]⟩ : ByteArray)), (xb, xb + ya, t)]), det _ 92 _, det _ 87 _, det _ 93 _, det _ 94 _, det _ 14 _, det _ 15 _]) [ib r0, ib r1] mixed st19 (by kernel_rfl) ⟨r0, r1, trivial⟩
      ⟨Ob.d fun c => r_move rfl (c.p e13),
      Ob.d fun c => r_loadN (vs := [(.int .i64 (xa)), (.int .i64 (xa + yb)), (.string ((⟨#[117]⟩ : ByteArray)))]) rfl Try.isAgg45 Try.sizeOf45 ((c.p e10).trans r0.ptr) rfl (fun _ _ hj => (c.ib 0 rfl).cell hj),
      Ob.d fun c => r_loadN (vs := [(.int .i64 (xb)), (.int .i64 (xb + ya)), (.string (t))]) rfl Try.isAgg45 Try.sizeOf45 ((c.p e11).trans r1.ptr) rfl (fun _ _ hj => (c.ib 1 rfl).cell hj),
      Ob.buildSlice (cells := #[(.int .i64 (xa)), (.int .i64 (xa + yb)), (.string ((⟨#[117]⟩ : ByteArray))), (.int .i64 (xb)), (.int .i64 (xb + ya)), (.string (t))]) rfl rfl rfl rfl Try.underlying22 Try.sizeOf45 Try.zeroValue45 rfl (by decide) (by decide) (fun _ _ _ _ c => fill2 (c.n 1 rfl) (c.n 2 rfl) (by kernel_rfl)) rfl,
      Ob.c fun c => ⟨_, _, (e_call2 rfl rfl Try.call15 (c.n 0 rfl) (eval_tmp _ 91)), applyE_c sv _ ([(xa, xa + yb, (⟨#[117]⟩ : ByteArray)), (xb, xb + ya, t)]) _ (c.ro 3 rfl).1.sl (by first | omega | (rw [sizes_cons, sizes_one]; simp only []; omega) | (simp only [List.length_cons, List.length_nil]; omega)) (by first | omega | (rw [sizes_cons, sizes_one]; simp only []; omega) | (simp only [List.length_cons, List.length_nil]; omega)) (by first | omega | (rw [sizes_cons, sizes_one]; simp only []; omega) | (simp only [List.length_cons, List.length_nil]; omega))⟩,
      Ob.d fun c => r_move rfl (c.n 4 rfl),
      Ob.d fun c => r_extract rfl (c.n 5 rfl) rfl,
      Ob.d fun c => r_extract rfl (c.n 5 rfl) rfl,
      Ob.d fun c => r_assign rfl (c.n 6 rfl),
      Ob.d fun c => r_assign rfl (c.n 7 rfl), trivial⟩ ?_
     intro a20 w20 τ20 st20 f20
     obtain ⟨b20x91, e91⟩ : ∃ b, get a20 91 = b := ⟨_, rfl⟩
     obtain ⟨e8, e9, e10, e11, e12, e13, -⟩ := f20.ks [(8, _), (9, _), (10, _), (11, _), (12, _), (13, _)] ⟨e8, e9, e10, e11, e12, e13, trivial⟩
     have e14 : get a20 14 = (.string (applyF sv ([(xa, xa + yb, (⟨#[117]⟩ : ByteArray)), (xb, xb + ya, t)]))) := f20.v 8 rfl
     have e15 : get a20 15 = (.int .i64 (mayEd (sv.size : Int) ([(xa, xa + yb, (⟨#[117]⟩ : ByteArray)), (xb, xb + ya, t)]))) := f20.v 9 rfl
     replace r0 := f20.ib 0 rfl
     replace r1 := f20.ib 1 rfl
     clear f20
     replace e15 := e15.trans (int_eq (show mayEd (sv.size : Int) ([(xa, xa + yb, (⟨#[117]⟩ : ByteArray)), (xb, xb + ya, t)]) = ((5 : Int) : Int) from by exact hM))
     replace e14 := e14.trans (congrArg Value.string (show applyF sv ([(xa, xa + yb, (⟨#[117]⟩ : ByteArray)), (xb, xb + ya, t)]) = (⟨#[]⟩ : ByteArray) from by exact hO.1))
     show Code.wp _ _ _ a20 w20
     refine wp_seq ?_
     refine region_St (bf := [0, 0, 0, 6, 15, 31, 63, 63, 127, 511]) (sp := [det _ 96 _, det _ 97 _, det _ 98 _, own EditE 45 _ 2 99 ([(xa, xa + yb, (⟨#[117]⟩ : ByteArray)), (xb, xb + ya, t)]), tup _ _ _ 3 100 _ _, tup _ _ _ 3 95 _ _, own _ _ _ 3 101 _, det _ 102 _, own _ _ _ 3 16 _, det _ 17 _]) [ib r0, ib r1] mixed st20 (by kernel_rfl) ⟨r0, r1, trivial⟩
      ⟨Ob.d fun c => r_move rfl (c.p e13),
      Ob.d fun c => r_loadN (vs := [(.int .i64 (xa)), (.int .i64 (xa + yb)), (.string ((⟨#[117]⟩ : ByteArray)))]) rfl Try.isAgg45 Try.sizeOf45 ((c.p e10).trans r0.ptr) rfl (fun _ _ hj => (c.ib 0 rfl).cell hj),
      Ob.d fun c => r_loadN (vs := [(.int .i64 (xb)), (.int .i64 (xb + ya)), (.string (t))]) rfl Try.isAgg45 Try.sizeOf45 ((c.p e11).trans r1.ptr) rfl (fun _ _ hj => (c.ib 1 rfl).cell hj),
      Ob.buildSlice (cells := #[(.int .i64 (xa)), (.int .i64 (xa + yb)), (.string ((⟨#[117]⟩ : ByteArray))), (.int .i64 (xb)), (.int .i64 (xb + ya)), (.string (t))]) rfl rfl rfl rfl Try.underlying22 Try.sizeOf45 Try.zeroValue45 rfl (by decide) (by decide) (fun _ _ _ _ c => fill2 (c.n 1 rfl) (c.n 2 rfl) (by kernel_rfl)) rfl,
      Ob.callTup rfl rfl rfl (fun _ a_ _ _ c => ⟨_, _, (e_call2 rfl rfl Try.call17 (c.n 0 rfl) (eval_tmp _ 99)), backE_c sv _ ([(xa, xa + yb, (⟨#[117]⟩ : ByteArray)), (xb, xb + ya, t)]) _ (c.ro 3 rfl).1.sl (by first | omega | (rw [sizes_cons, sizes_one]; simp only []; omega) | (simp only [List.length_cons, List.length_nil]; omega)) (by first | omega | (rw [sizes_cons, sizes_one]; simp only []; omega) | (simp only [List.length_cons, List.length_nil]; omega)) (by first | omega | (rw [sizes_cons, sizes_one]; simp only []; omega) | (simp only [List.length_cons, List.length_nil]; omega))⟩),
      Ob.moveT (t0 := 100) rfl rfl rfl rfl rfl (.inl rfl) (fun _ _ _ _ c => ⟨c.rtup 4 rfl rfl (by kernel_rfl), rfl⟩),
      Ob.part0 (t0 := 95) (k := (.int .i64 (mayEd (sv.size : Int) ([(xa, xa + yb, (⟨#[117]⟩ : ByteArray)), (xb, xb + ya, t)])))) rfl rfl rfl rfl (fun _ _ _ _ c => c.rtup 5 rfl rfl (by kernel_rfl)),
      Ob.d fun c => c.part1 5 rfl rfl rfl,
      Ob.moveT (t0 := 101) rfl rfl rfl rfl rfl (.inr rfl) (fun _ _ _ _ c => ⟨c.ro 6 rfl, rfl⟩),
      Ob.d fun c => r_assign rfl (c.n 7 rfl), trivial⟩ ?_
     intro a21 w21 τ21 st21 f21
     obtain ⟨b21x99, e99⟩ : ∃ b, get a21 99 = b := ⟨_, rfl⟩
     obtain ⟨b21x16, e16⟩ : ∃ b, get a21 16 = b := ⟨_, rfl⟩
     obtain ⟨e8, e9, e10, e11, e12, e14, e15, -⟩ := f21.ks [(8, _), (9, _), (10, _), (11, _), (12, _), (14, _), (15, _)] ⟨e8, e9, e10, e11, e12, e14, e15, trivial⟩
     have e17 : get a21 17 = (.int .i64 (mayEd (sv.size : Int) ([(xa, xa + yb, (⟨#[117]⟩ : ByteArray)), (xb, xb + ya, t)]))) := f21.v 9 rfl
     replace r0 := f21.ib 0 rfl
     replace r1 := f21.ib 1 rfl
     have r3 : ownR EditE 45 (backF sv ([(xa, xa + yb, (⟨#[117]⟩ : ByteArray)), (xb, xb + ya, t)])) (τ21 3) b21x16 w21 := f21.ro 8 e16 rfl
     clear f21
     replace e17 := e17.trans (int_eq (show mayEd (sv.size : Int) ([(xa, xa + yb, (⟨#[117]⟩ : ByteArray)), (xb, xb + ya, t)]) = ((5 : Int) : Int) from by exact hM))
     replace r3 := r3.cast (show [] = backF sv ([(xa, xa + yb, (⟨#[117]⟩ : ByteArray)), (xb, xb + ya, t)]) from by exact hO.2.symm)
     show Code.wp _ _ _ a21 w21
     refine wp_seq ?_
     refine wp_seq ?_
     refine region_St (bf := [0, 0, 3, 7, 15, 15, 63, 127, 255, 511, 511, 511, 3583, 8191, 511, 32767, 65535]) (sp := [det _ 103 _, det _ 104 _, det _ 105 (.bool (false)), det _ 106 _, det _ 107 _, det _ 108 _, det _ 109 (.bool (false)), det _ 110 _, det _ 111 _, det _ 112 _, det _ 113 _, det _ 114 _, own EditE 45 _ 2 115 ([(xa, xa + yb, (⟨#[117]⟩ : ByteArray)), (xb, xb + ya, t)]), det _ 116 _, det _ 117 _, det _ 118 (.bool (false)), det _ 119 _]) [ib r0, ib r1, Ini.any _, io r3] mixed st21 (by kernel_rfl) ⟨r0, r1, trivial, r3, trivial⟩
      ⟨Ob.d fun c => r_move rfl (c.p e15),
      Ob.d fun c => r_move rfl (c.p e12),
      Ob.d (v := (.bool (false))) fun c => Runs.isB (b := !decide ((5 : Int) = (5 : Int))) (r_neq rfl (c.n 0 rfl) (c.n 1 rfl)) (by decide),
      Ob.d fun c => r_move rfl (c.n 2 rfl),
      Ob.lv 3 (Ob.d fun c => r_move rfl (c.p e17)),
      Ob.lv 3 (Ob.d fun c => r_move rfl (c.p e12)),
      Ob.lv 3 (Ob.d (v := (.bool (false))) fun c => Runs.isB (b := !decide ((5 : Int) = (5 : Int))) (r_neq rfl (c.n 4 rfl) (c.n 5 rfl)) (by decide)),
      Ob.d fun c => r_pick rfl (c.n 3 rfl) (fun h => by cases h) (fun _ => c.n 6 rfl),
      Ob.d fun c => r_move rfl (c.n 7 rfl),
      Ob.lv 8 (Ob.d fun c => r_move rfl (c.p e9)),
      Ob.lv 8 (Ob.d fun c => r_loadN (vs := [(.int .i64 (xa)), (.int .i64 (xa + yb)), (.string ((⟨#[117]⟩ : ByteArray)))]) rfl Try.isAgg45 Try.sizeOf45 ((c.p e10).trans r0.ptr) rfl (fun _ _ hj => (c.ib 0 rfl).cell hj)),
      Ob.lv 8 (Ob.d fun c => r_loadN (vs := [(.int .i64 (xb)), (.int .i64 (xb + ya)), (.string (t))]) rfl Try.isAgg45 Try.sizeOf45 ((c.p e11).trans r1.ptr) rfl (fun _ _ hj => (c.ib 1 rfl).cell hj)),
      Ob.lv 8 (Ob.buildSlice (cells := #[(.int .i64 (xa)), (.int .i64 (xa + yb)), (.string ((⟨#[117]⟩ : ByteArray))), (.int .i64 (xb)), (.int .i64 (xb + ya)), (.string (t))]) rfl rfl rfl rfl Try.underlying22 Try.sizeOf45 Try.zeroValue45 rfl (by decide) (by decide) (fun _ _ _ _ c => fill2 (c.n 10 rfl) (c.n 11 rfl) (by kernel_rfl)) rfl),
      Ob.lv 8 (Ob.c fun c => ⟨_, _, (e_call2 rfl rfl Try.call19 (c.n 9 rfl) (eval_tmp _ 115)), mayE_c (m : Int) _ ([(xa, xa + yb, (⟨#[117]⟩ : ByteArray)), (xb, xb + ya, t)]) _ (c.ro 12 rfl).1.sl (by first | omega | (rw [sizes_cons, sizes_one]; simp only []; omega) | (simp only [List.length_cons, List.length_nil]; omega))⟩),
      Ob.lv 8 (Ob.d fun c => r_move rfl (c.p e12)),
      Ob.lv 8 (Ob.d (v := (.bool (false))) fun c => Runs.isB (b := !decide (mayEd (m : Int) ([(xa, xa + yb, (⟨#[117]⟩ : ByteArray)), (xb, xb + ya, t)]) = (5 : Int))) (r_neq rfl (c.n 13 rfl) (c.n 14 rfl)) (by rw [← hss, hM]; decide)),
      Ob.d fun c => r_pick rfl (c.n 8 rfl) (fun h => by cases h) (fun _ => c.n 15 rfl), trivial⟩ ?_
     intro a22 w22 τ22 st22 f22
     obtain ⟨b22x115, e115⟩ : ∃ b, get a22 115 = b := ⟨_, rfl⟩
     obtain ⟨e8, e12, e14, e16, -⟩ := f22.ks [(8, _), (12, _), (14, _), (16, _)] ⟨e8, e12, e14, e16, trivial⟩
     have e119 : get a22 119 = (.bool (false)) := f22.v 16 rfl
     replace r3 := f22.io 3 rfl
     clear f22
     show Code.wp _ _ _ a22 w22
     refine wp_cond_false e119 ?_
     refine wp_skip ?_
     show Code.wp _ _ _ a22 w22
     refine wp_seq ?_
     refine region_St (bf := [0, 1, 3, 7, 15, 31, 63, 127, 255, 511, 1023, 2047, 4095, 8191, 16383]) (sp := [det _ 120 _, det _ 121 _, det _ 122 _, gdet _ 123 _ _, gdet _ 124 _ _, gdet _ 125 _ _, gdet _ 126 _ _, gdet _ 127 _ _, gdet _ 128 _ _, gdet _ 129 _ _, det _ 130 _, det _ 131 _, gdet _ 132 _ _, det _ 133 _, det _ 8 _]) [Ini.any _, Ini.any _, Ini.any _, io r3] mixed st22 (by kernel_rfl) ⟨trivial, trivial, trivial, r3, trivial⟩
      ⟨Ob.d fun c => r_move rfl (c.p e12),
      Ob.d fun c => r_eql rfl (c.n 0 rfl) rfl,
      Ob.d fun c => r_move rfl (c.n 1 rfl),
      Ob.g 2 false rfl fun c hpc => r_move rfl (c.p e14),
      Ob.g 2 false rfl fun c hpc => r_seql rfl (c.m 3 rfl hpc) rfl,
      Ob.g 2 false rfl fun c hpc => r_move rfl (c.m 4 rfl hpc),
      Ob.gg 5 true rfl fun c hpc => r_move rfl (c.p e16),
      Ob.gg 5 true rfl fun c hpc => r_len rfl Try.underlying22 (c.m 6 rfl hpc) r3.isSl,
      Ob.gg 5 true rfl fun c hpc => r_eql rfl (c.m 7 rfl hpc) rfl,
      Ob.g 2 false rfl fun c hpc => r_and rfl (c.m 5 rfl hpc) (fun h => c.m 8 rfl (And.intro hpc h)),
      Ob.d fun c => r_or rfl (c.n 2 rfl) (fun h => c.m 9 rfl h),
      Ob.d fun c => r_move rfl (c.n 10 rfl),
      Ob.gc 11 true rfl fun c hpc => ⟨_, _, (e_call0 rfl rfl Try.call14), awake_c _⟩,
      Ob.d fun c => r_and rfl (c.n 11 rfl) (fun h => c.m 12 rfl h),
      Ob.d fun c => r_assign rfl (c.n 13 rfl), trivial⟩ ?_
     intro a23 w23 τ23 st23 f23
     obtain ⟨e12, -⟩ := f23.ks [(12, _)] ⟨e12, trivial⟩
     have e8 : get a23 8 = (.bool (((decide ((5 : Int) = 0)) || ((eqT (⟨#[]⟩ : ByteArray) (⟨#[]⟩ : ByteArray)) && (decide ((([]).length : Int) = 0)))) && true)) := f23.v 14 rfl
     clear f23
     show Code.wp _ _ _ a23 w23
     refine wp_ret ?_
     repeat (first | with_reducible refine then_ret ?_ | with_reducible refine block_ret ?_)
     refine ret1 (fn := Try.f10) rfl st23.defers e8 ?_
     exact ⟨congrArg _ (congrArg _ (show (((decide ((5 : Int) = 0)) || ((eqT (⟨#[]⟩ : ByteArray) (⟨#[]⟩ : ByteArray)) && (decide ((([]).length : Int) = 0)))) && true) = true from by simp [eqT_self])), st23.ext0⟩
   have hd6 := hc5; try simp only [Bool.not_eq_true', Bool.not_eq_false'] at hd6
   refine wp_seq ?_
   refine region_St (bf := [0, 1, 3, 3, 11, 27, 63, 3, 131, 443, 1023, 2047, 4095, 8191, 16383]) (sp := [det _ 71 _, det _ 72 _, det _ 73 _, det _ 74 _, det _ 75 _, det _ 76 _, det _ 77 _, det _ 78 _, det _ 79 _, det _ 80 _, det _ 81 _, det _ 82 _, det _ 83 _, det _ 84 _, det _ 70 _]) [ib r0, ib r1] mixed st17 (by kernel_rfl) ⟨r0, r1, trivial⟩
    ⟨Ob.d fun c => r_move rfl (c.p e3),
    Ob.d fun c => r_move rfl (c.n 0 rfl),
    Ob.lv 1 (Ob.d fun c => r_move rfl (c.p e9)),
    Ob.lv 1 (Ob.d fun c => r_fieldAddr rfl Try.underlying45 rfl rfl Try.sizeOf43 ((c.p e10).trans r0.ptr)),
    Ob.lv 1 (Ob.d fun c => r_loadN (vs := [(.int .i64 (xa)), (.int .i64 (xa + yb))]) rfl Try.isAgg43 Try.sizeOf43 (c.n 3 rfl) rfl (fun j_ _ hj => by rw [add_add]; exact (c.ib 0 rfl).cell (j := 0 + j_) (part_cells (l := [(.int .i64 (xa)), (.int .i64 (xa + yb)), (.string ((⟨#[117]⟩ : ByteArray)))]) (o := 0) (n := 2) rfl hj))),
    Ob.lv 1 (Ob.c fun c => ⟨_, _, (e_call1 rfl rfl Try.call30 (c.n 4 rfl)), len_c (xa, xa + yb) _⟩),
    Ob.lv 1 (Ob.d fun c => r_sub rfl (c.n 2 rfl) (c.n 5 rfl) (by first | omega | (rw [sizes_cons, sizes_one]; simp only []; omega) | (simp only [List.length_cons, List.length_nil]; omega))),
    Ob.lv 1 (Ob.d fun c => r_fieldAddr rfl Try.underlying45 rfl rfl Try.sizeOf43 ((c.p e11).trans r1.ptr)),
    Ob.lv 1 (Ob.d fun c => r_loadN (vs := [(.int .i64 (xb)), (.int .i64 (xb + ya))]) rfl Try.isAgg43 Try.sizeOf43 (c.n 7 rfl) rfl (fun j_ _ hj => by rw [add_add]; exact (c.ib 1 rfl).cell (j := 0 + j_) (part_cells (l := [(.int .i64 (xb)), (.int .i64 (xb + ya)), (.string (t))]) (o := 0) (n := 2) rfl hj))),
    Ob.lv 1 (Ob.c fun c => ⟨_, _, (e_call1 rfl rfl Try.call30 (c.n 8 rfl)), len_c (xb, xb + ya) _⟩),
    Ob.lv 1 (Ob.d fun c => r_sub rfl (c.n 6 rfl) (c.n 9 rfl) (by first | omega | (rw [sizes_cons, sizes_one]; simp only []; omega) | (simp only [List.length_cons, List.length_nil]; omega))),
    Ob.lv 1 (Ob.d fun c => r_add rfl (c.n 10 rfl) rfl (by first | omega | (rw [sizes_cons, sizes_one]; simp only []; omega) | (simp only [List.length_cons, List.length_nil]; omega))),
    Ob.lv 1 (Ob.d fun c => r_gtr rfl (c.n 11 rfl) rfl),
    Ob.d fun c => r_pick rfl (c.n 1 rfl) (fun _ => c.n 12 rfl) (fun h => by cases h),
    Ob.d fun c => r_assign rfl (c.n 13 rfl), trivial⟩ ?_
   intro a24 w24 τ24 st24 f24
   obtain ⟨e8, e9, e10, e11, e12, -⟩ := f24.ks [(8, _), (9, _), (10, _), (11, _), (12, _)] ⟨e8, e9, e10, e11, e12, trivial⟩
   have e70 : get a24 70 = (.bool (decide (0 < (m : Int) - (lenW (xa, xa + yb)) - (lenW (xb, xb + ya)) + 1))) := f24.v 14 rfl
   replace r0 := f24.ib 0 rfl
   replace r1 := f24.ib 1 rfl
   clear f24
   show Code.wp _ _ _ a24 w24
   refine wp_cond_split (t := decide (0 < (m : Int) - (lenW (xa, xa + yb)) - (lenW (xb, xb + ya)) + 1)) e70 (fun hc7 => ?_) (fun hc7 => ?_)
   · try simp only [decide_eq_true_eq] at hc7
     refine region_St (bf := [0]) (sp := [det _ 12 _]) [ib r0, ib r1] mixed st24 (by kernel_rfl) ⟨r0, r1, trivial⟩
      ⟨Ob.d fun c => r_assign rfl rfl, trivial⟩ ?_
     intro a25 w25 τ25 st25 f25
     obtain ⟨e8, e9, e10, e11, -⟩ := f25.ks [(8, _), (9, _), (10, _), (11, _)] ⟨e8, e9, e10, e11, trivial⟩
     have e12 : get a25 12 = (.int .i64 (4)) := f25.v 0 rfl
     replace r0 := f25.ib 0 rfl
     replace r1 := f25.ib 1 rfl
     clear f25
     show _
     show Code.wp _ _ _ a25 w25
     refine wp_seq ?_
     have hdg : ((((⟨#[48, 49, 50, 51, 52, 53, 54, 55, 56, 57, 48, 49, 50, 51, 52, 53, 54, 55, 56, 57, 48, 49, 50, 51, 52, 53, 54, 55, 56, 57, 48, 49, 50, 51, 52, 53, 54, 55, 56, 57]⟩ : ByteArray))).size : Int) = 40 := rfl
     refine region_St (bf := [0, 1, 3]) (sp := [det _ 85 _, det _ 86 _, det _ 13 _]) [ib r0, ib r1] mixed st25 (by kernel_rfl) ⟨r0, r1, trivial⟩
      ⟨Ob.d fun c => r_move rfl (c.p e9),
      Ob.d fun c => r_subHi (s := (⟨#[48, 49, 50, 51, 52, 53, 54, 55, 56, 57, 48, 49, 50, 51, 52, 53, 54, 55, 56, 57, 48, 49, 50, 51, 52, 53, 54, 55, 56, 57, 48, 49, 50, 51, 52, 53, 54, 55, 56, 57]⟩ : ByteArray)) (q := (m : Int)) rfl Try.underlying9 (by kernel_rfl) (c.n 0 rfl) (by first | omega | (rw [sizes_cons, sizes_one]; simp only []; omega) | (simp only [List.length_cons, List.length_nil]; omega)) (by first | omega | (rw [sizes_cons, sizes_one]; simp only []; omega) | (simp only [List.length_cons, List.length_nil]; omega)),
      Ob.d fun c => r_assign rfl (c.n 1 rfl), trivial⟩ ?_
     intro a26 w26 τ26 st26 f26
     obtain ⟨e8, e9, e10, e11, e12, -⟩ := f26.ks [(8, _), (9, _), (10, _), (11, _), (12, _)] ⟨e8, e9, e10, e11, e12, trivial⟩
     have e13 : get a26 13 = (.string ((⟨#[48, 49, 50, 51, 52, 53, 54, 55, 56, 57, 48, 49, 50, 51, 52, 53, 54, 55, 56, 57, 48, 49, 50, 51, 52, 53, 54, 55, 56, 57, 48, 49, 50, 51, 52, 53, 54, 55, 56, 57]⟩ : ByteArray).extract 0 m)) := f26.v 2 rfl
     replace r0 := f26.ib 0 rfl
     replace r1 := f26.ib 1 rfl
     clear f26
     obtain ⟨sv, hsv⟩ : ∃ x_, (⟨#[48, 49, 50, 51, 52, 53, 54, 55, 56, 57, 48, 49, 50, 51, 52, 53, 54, 55, 56, 57, 48, 49, 50, 51, 52, 53, 54, 55, 56, 57, 48, 49, 50, 51, 52, 53, 54, 55, 56, 57]⟩ : ByteArray).extract 0 m = x_ := ⟨_, rfl⟩
     rw [hsv] at e13
     have hss : (sv.size : Int) = (m : Int) := by
       rw [← hsv, ByteArray.size_extract]
       omega
     have hM : mayEd (sv.size : Int) [(xa, xa + yb, (⟨#[117]⟩ : ByteArray)), (xb, xb + ya, t)] = (4 : Int) := by rw [hss]; exact codes_4 (by omega) (by omega) (by omega) (by omega) (by omega) (by assumption) (by omega)
     have hO := codes_out (s := sv) (es := [(xa, xa + yb, (⟨#[117]⟩ : ByteArray)), (xb, xb + ya, t)]) (by rw [hM]; decide)
     show Code.wp _ _ _ a26 w26
     refine wp_seq ?_
     refine region_St (bf := [0, 0, 0, 6, 15, 31, 63, 63, 127, 511]) (sp := [det _ 88 _, det _ 89 _, det _ 90 _, own EditE 45 _ 2 91 ([(xa, xa + yb, (⟨#[117]⟩ : ByteArray)), (xb, xb + ya, t)]), det _ 92 _, det _ 87 _, det _ 93 _, det _ 94 _, det _ 14 _, det _ 15 _]) [ib r0, ib r1] mixed st26 (by kernel_rfl) ⟨r0, r1, trivial⟩
      ⟨Ob.d fun c => r_move rfl (c.p e13),
      Ob.d fun c => r_loadN (vs := [(.int .i64 (xa)), (.int .i64 (xa + yb)), (.string ((⟨#[117]⟩ : ByteArray)))]) rfl Try.isAgg45 Try.sizeOf45 ((c.p e10).trans r0.ptr) rfl (fun _ _ hj => (c.ib 0 rfl).cell hj),
      Ob.d fun c => r_loadN (vs := [(.int .i64 (xb)), (.int .i64 (xb + ya)), (.string (t))]) rfl Try.isAgg45 Try.sizeOf45 ((c.p e11).trans r1.ptr) rfl (fun _ _ hj => (c.ib 1 rfl).cell hj),
      Ob.buildSlice (cells := #[(.int .i64 (xa)), (.int .i64 (xa + yb)), (.string ((⟨#[117]⟩ : ByteArray))), (.int .i64 (xb)), (.int .i64 (xb + ya)), (.string (t))]) rfl rfl rfl rfl Try.underlying22 Try.sizeOf45 Try.zeroValue45 rfl (by decide) (by decide) (fun _ _ _ _ c => fill2 (c.n 1 rfl) (c.n 2 rfl) (by kernel_rfl)) rfl,
      Ob.c fun c => ⟨_, _, (e_call2 rfl rfl Try.call15 (c.n 0 rfl) (eval_tmp _ 91)), applyE_c sv _ ([(xa, xa + yb, (⟨#[117]⟩ : ByteArray)), (xb, xb + ya, t)]) _ (c.ro 3 rfl).1.sl (by first | omega | (rw [sizes_cons, sizes_one]; simp only []; omega) | (simp only [List.length_cons, List.length_nil]; omega)) (by first | omega | (rw [sizes_cons, sizes_one]; simp only []; omega) | (simp only [List.length_cons, List.length_nil]; omega)) (by first | omega | (rw [sizes_cons, sizes_one]; simp only []; omega) | (simp only [List.length_cons, List.length_nil]; omega))⟩,
      Ob.d fun c => r_move rfl (c.n 4 rfl),
      Ob.d fun c => r_extract rfl (c.n 5 rfl) rfl,
      Ob.d fun c => r_extract rfl (c.n 5 rfl) rfl,
      Ob.d fun c => r_assign rfl (c.n 6 rfl),
      Ob.d fun c => r_assign rfl (c.n 7 rfl), trivial⟩ ?_
     intro a27 w27 τ27 st27 f27
     obtain ⟨b27x91, e91⟩ : ∃ b, get a27 91 = b := ⟨_, rfl⟩
     obtain ⟨e8, e9, e10, e11, e12, e13, -⟩ := f27.ks [(8, _), (9, _), (10, _), (11, _), (12, _), (13, _)] ⟨e8, e9, e10, e11, e12, e13, trivial⟩
     have e14 : get a27 14 = (.string (applyF sv ([(xa, xa + yb, (⟨#[117]⟩ : ByteArray)), (xb, xb + ya, t)]))) := f27.v 8 rfl
     have e15 : get a27 15 = (.int .i64 (mayEd (sv.size : Int) ([(xa, xa + yb, (⟨#[117]⟩ : ByteArray)), (xb, xb + ya, t)]))) := f27.v 9 rfl
     replace r0 := f27.ib 0 rfl
     replace r1 := f27.ib 1 rfl
     clear f27
     replace e15 := e15.trans (int_eq (show mayEd (sv.size : Int) ([(xa, xa + yb, (⟨#[117]⟩ : ByteArray)), (xb, xb + ya, t)]) = ((4 : Int) : Int) from by exact hM))
     replace e14 := e14.trans (congrArg Value.string (show applyF sv ([(xa, xa + yb, (⟨#[117]⟩ : ByteArray)), (xb, xb + ya, t)]) = (⟨#[]⟩ : ByteArray) from by exact hO.1))
     show Code.wp _ _ _ a27 w27
     refine wp_seq ?_
     refine region_St (bf := [0, 0, 0, 6, 15, 31, 63, 63, 127, 511]) (sp := [det _ 96 _, det _ 97 _, det _ 98 _, own EditE 45 _ 2 99 ([(xa, xa + yb, (⟨#[117]⟩ : ByteArray)), (xb, xb + ya, t)]), tup _ _ _ 3 100 _ _, tup _ _ _ 3 95 _ _, own _ _ _ 3 101 _, det _ 102 _, own _ _ _ 3 16 _, det _ 17 _]) [ib r0, ib r1] mixed st27 (by kernel_rfl) ⟨r0, r1, trivial⟩
      ⟨Ob.d fun c => r_move rfl (c.p e13),
      Ob.d fun c => r_loadN (vs := [(.int .i64 (xa)), (.int .i64 (xa + yb)), (.string ((⟨#[117]⟩ : ByteArray)))]) rfl Try.isAgg45 Try.sizeOf45 ((c.p e10).trans r0.ptr) rfl (fun _ _ hj => (c.ib 0 rfl).cell hj),
      Ob.d fun c => r_loadN (vs := [(.int .i64 (xb)), (.int .i64 (xb + ya)), (.string (t))]) rfl Try.isAgg45 Try.sizeOf45 ((c.p e11).trans r1.ptr) rfl (fun _ _ hj => (c.ib 1 rfl).cell hj),
      Ob.buildSlice (cells := #[(.int .i64 (xa)), (.int .i64 (xa + yb)), (.string ((⟨#[117]⟩ : ByteArray))), (.int .i64 (xb)), (.int .i64 (xb + ya)), (.string (t))]) rfl rfl rfl rfl Try.underlying22 Try.sizeOf45 Try.zeroValue45 rfl (by decide) (by decide) (fun _ _ _ _ c => fill2 (c.n 1 rfl) (c.n 2 rfl) (by kernel_rfl)) rfl,
      Ob.callTup rfl rfl rfl (fun _ a_ _ _ c => ⟨_, _, (e_call2 rfl rfl Try.call17 (c.n 0 rfl) (eval_tmp _ 99)), backE_c sv _ ([(xa, xa + yb, (⟨#[117]⟩ : ByteArray)), (xb, xb + ya, t)]) _ (c.ro 3 rfl).1.sl (by first | omega | (rw [sizes_cons, sizes_one]; simp only []; omega) | (simp only [List.length_cons, List.length_nil]; omega)) (by first | omega | (rw [sizes_cons, sizes_one]; simp only []; omega) | (simp only [List.length_cons, List.length_nil]; omega)) (by first | omega | (rw [sizes_cons, sizes_one]; simp only []; omega) | (simp only [List.length_cons, List.length_nil]; omega))⟩),
      Ob.moveT (t0 := 100) rfl rfl rfl rfl rfl (.inl rfl) (fun _ _ _ _ c => ⟨c.rtup 4 rfl rfl (by kernel_rfl), rfl⟩),
      Ob.part0 (t0 := 95) (k := (.int .i64 (mayEd (sv.size : Int) ([(xa, xa + yb, (⟨#[117]⟩ : ByteArray)), (xb, xb + ya, t)])))) rfl rfl rfl rfl (fun _ _ _ _ c => c.rtup 5 rfl rfl (by kernel_rfl)),
      Ob.d fun c => c.part1 5 rfl rfl rfl,
      Ob.moveT (t0 := 101) rfl rfl rfl rfl rfl (.inr rfl) (fun _ _ _ _ c => ⟨c.ro 6 rfl, rfl⟩),
      Ob.d fun c => r_assign rfl (c.n 7 rfl), trivial⟩ ?_
     intro a28 w28 τ28 st28 f28
     obtain ⟨b28x99, e99⟩ : ∃ b, get a28 99 = b := ⟨_, rfl⟩
     obtain ⟨b28x16, e16⟩ : ∃ b, get a28 16 = b := ⟨_, rfl⟩
     obtain ⟨e8, e9, e10, e11, e12, e14, e15, -⟩ := f28.ks [(8, _), (9, _), (10, _), (11, _), (12, _), (14, _), (15, _)] ⟨e8, e9, e10, e11, e12, e14, e15, trivial⟩
     have e17 : get a28 17 = (.int .i64 (mayEd (sv.size : Int) ([(xa, xa + yb, (⟨#[117]⟩ : ByteArray)), (xb, xb + ya, t)]))) := f28.v 9 rfl
     replace r0 := f28.ib 0 rfl
     replace r1 := f28.ib 1 rfl
     have r3 : ownR EditE 45 (backF sv ([(xa, xa + yb, (⟨#[117]⟩ : ByteArray)), (xb, xb + ya, t)])) (τ28 3) b28x16 w28 := f28.ro 8 e16 rfl
     clear f28
     replace e17 := e17.trans (int_eq (show mayEd (sv.size : Int) ([(xa, xa + yb, (⟨#[117]⟩ : ByteArray)), (xb, xb + ya, t)]) = ((4 : Int) : Int) from by exact hM))
     replace r3 := r3.cast (show [] = backF sv ([(xa, xa + yb, (⟨#[117]⟩ : ByteArray)), (xb, xb + ya, t)]) from by exact hO.2.symm)
     show Code.wp _ _ _ a28 w28
     refine wp_seq ?_
     refine wp_seq ?_
     refine region_St (bf := [0, 0, 3, 7, 15, 15, 63, 127, 255, 511, 511, 511, 3583, 8191, 511, 32767, 65535]) (sp := [det _ 103 _, det _ 104 _, det _ 105 (.bool (false)), det _ 106 _, det _ 107 _, det _ 108 _, det _ 109 (.bool (false)), det _ 110 _, det _ 111 _, det _ 112 _, det _ 113 _, det _ 114 _, own EditE 45 _ 2 115 ([(xa, xa + yb, (⟨#[117]⟩ : ByteArray)), (xb, xb + ya, t)]), det _ 116 _, det _ 117 _, det _ 118 (.bool (false)), det _ 119 _]) [ib r0, ib r1, Ini.any _, io r3] mixed st28 (by kernel_rfl) ⟨r0, r1, trivial, r3, trivial⟩
      ⟨Ob.d fun c => r_move rfl (c.p e15),
      Ob.d fun c => r_move rfl (c.p e12),
      Ob.d (v := (.bool (false))) fun c => Runs.isB (b := !decide ((4 : Int) = (4 : Int))) (r_neq rfl (c.n 0 rfl) (c.n 1 rfl)) (by decide),
      Ob.d fun c => r_move rfl (c.n 2 rfl),
      Ob.lv 3 (Ob.d fun c => r_move rfl (c.p e17)),
      Ob.lv 3 (Ob.d fun c => r_move rfl (c.p e12)),
      Ob.lv 3 (Ob.d (v := (.bool (false))) fun c => Runs.isB (b := !decide ((4 : Int) = (4 : Int))) (r_neq rfl (c.n 4 rfl) (c.n 5 rfl)) (by decide)),
      Ob.d fun c => r_pick rfl (c.n 3 rfl) (fun h => by cases h) (fun _ => c.n 6 rfl),
      Ob.d fun c => r_move rfl (c.n 7 rfl),
      Ob.lv 8 (Ob.d fun c => r_move rfl (c.p e9)),
      Ob.lv 8 (Ob.d fun c => r_loadN (vs := [(.int .i64 (xa)), (.int .i64 (xa + yb)), (.string ((⟨#[117]⟩ : ByteArray)))]) rfl Try.isAgg45 Try.sizeOf45 ((c.p e10).trans r0.ptr) rfl (fun _ _ hj => (c.ib 0 rfl).cell hj)),
      Ob.lv 8 (Ob.d fun c => r_loadN (vs := [(.int .i64 (xb)), (.int .i64 (xb + ya)), (.string (t))]) rfl Try.isAgg45 Try.sizeOf45 ((c.p e11).trans r1.ptr) rfl (fun _ _ hj => (c.ib 1 rfl).cell hj)),
      Ob.lv 8 (Ob.buildSlice (cells := #[(.int .i64 (xa)), (.int .i64 (xa + yb)), (.string ((⟨#[117]⟩ : ByteArray))), (.int .i64 (xb)), (.int .i64 (xb + ya)), (.string (t))]) rfl rfl rfl rfl Try.underlying22 Try.sizeOf45 Try.zeroValue45 rfl (by decide) (by decide) (fun _ _ _ _ c => fill2 (c.n 10 rfl) (c.n 11 rfl) (by kernel_rfl)) rfl),
      Ob.lv 8 (Ob.c fun c => ⟨_, _, (e_call2 rfl rfl Try.call19 (c.n 9 rfl) (eval_tmp _ 115)), mayE_c (m : Int) _ ([(xa, xa + yb, (⟨#[117]⟩ : ByteArray)), (xb, xb + ya, t)]) _ (c.ro 12 rfl).1.sl (by first | omega | (rw [sizes_cons, sizes_one]; simp only []; omega) | (simp only [List.length_cons, List.length_nil]; omega))⟩),
      Ob.lv 8 (Ob.d fun c => r_move rfl (c.p e12)),
      Ob.lv 8 (Ob.d (v := (.bool (false))) fun c => Runs.isB (b := !decide (mayEd (m : Int) ([(xa, xa + yb, (⟨#[117]⟩ : ByteArray)), (xb, xb + ya, t)]) = (4 : Int))) (r_neq rfl (c.n 13 rfl) (c.n 14 rfl)) (by rw [← hss, hM]; decide)),
      Ob.d fun c => r_pick rfl (c.n 8 rfl) (fun h => by cases h) (fun _ => c.n 15 rfl), trivial⟩ ?_
     intro a29 w29 τ29 st29 f29
     obtain ⟨b29x115, e115⟩ : ∃ b, get a29 115 = b := ⟨_, rfl⟩
     obtain ⟨e8, e12, e14, e16, -⟩ := f29.ks [(8, _), (12, _), (14, _), (16, _)] ⟨e8, e12, e14, e16, trivial⟩
     have e119 : get a29 119 = (.bool (false)) := f29.v 16 rfl
     replace r3 := f29.io 3 rfl
     clear f29
     show Code.wp _ _ _ a29 w29
     refine wp_cond_false e119 ?_
     refine wp_skip ?_
     show Code.wp _ _ _ a29 w29
     refine wp_seq ?_
     refine region_St (bf := [0, 1, 3, 7, 15, 31, 63, 127, 255, 511, 1023, 2047, 4095, 8191, 16383]) (sp := [det _ 120 _, det _ 121 _, det _ 122 _, gdet _ 123 _ _, gdet _ 124 _ _, gdet _ 125 _ _, gdet _ 126 _ _, gdet _ 127 _ _, gdet _ 128 _ _, gdet _ 129 _ _, det _ 130 _, det _ 131 _, gdet _ 132 _ _, det _ 133 _, det _ 8 _]) [Ini.any _, Ini.any _, Ini.any _, io r3] mixed st29 (by kernel_rfl) ⟨trivial, trivial, trivial, r3, trivial⟩
      ⟨Ob.d fun c => r_move rfl (c.p e12),
      Ob.d fun c => r_eql rfl (c.n 0 rfl) rfl,
      Ob.d fun c => r_move rfl (c.n 1 rfl),
      Ob.g 2 false rfl fun c hpc => r_move rfl (c.p e14),
      Ob.g 2 false rfl fun c hpc => r_seql rfl (c.m 3 rfl hpc) rfl,
      Ob.g 2 false rfl fun c hpc => r_move rfl (c.m 4 rfl hpc),
      Ob.gg 5 true rfl fun c hpc => r_move rfl (c.p e16),
      Ob.gg 5 true rfl fun c hpc => r_len rfl Try.underlying22 (c.m 6 rfl hpc) r3.isSl,
      Ob.gg 5 true rfl fun c hpc => r_eql rfl (c.m 7 rfl hpc) rfl,
      Ob.g 2 false rfl fun c hpc => r_and rfl (c.m 5 rfl hpc) (fun h => c.m 8 rfl (And.intro hpc h)),
      Ob.d fun c => r_or rfl (c.n 2 rfl) (fun h => c.m 9 rfl h),
      Ob.d fun c => r_move rfl (c.n 10 rfl),
      Ob.gc 11 true rfl fun c hpc => ⟨_, _, (e_call0 rfl rfl Try.call14), awake_c _⟩,
      Ob.d fun c => r_and rfl (c.n 11 rfl) (fun h => c.m 12 rfl h),
      Ob.d fun c => r_assign rfl (c.n 13 rfl), trivial⟩ ?_
     intro a30 w30 τ30 st30 f30
     obtain ⟨e12, -⟩ := f30.ks [(12, _)] ⟨e12, trivial⟩
     have e8 : get a30 8 = (.bool (((decide ((4 : Int) = 0)) || ((eqT (⟨#[]⟩ : ByteArray) (⟨#[]⟩ : ByteArray)) && (decide ((([]).length : Int) = 0)))) && true)) := f30.v 14 rfl
     clear f30
     show Code.wp _ _ _ a30 w30
     refine wp_ret ?_
     repeat (first | with_reducible refine then_ret ?_ | with_reducible refine block_ret ?_)
     refine ret1 (fn := Try.f10) rfl st30.defers e8 ?_
     exact ⟨congrArg _ (congrArg _ (show (((decide ((4 : Int) = 0)) || ((eqT (⟨#[]⟩ : ByteArray) (⟨#[]⟩ : ByteArray)) && (decide ((([]).length : Int) = 0)))) && true) = true from by simp [eqT_self])), st30.ext0⟩
   try simp only [decide_eq_false_iff_not, Int.not_lt] at hc7
   refine wp_skip ?_
   show _
   show Code.wp _ _ _ a24 w24
   refine wp_seq ?_
   have hdg : ((((⟨#[48, 49, 50, 51, 52, 53, 54, 55, 56, 57, 48, 49, 50, 51, 52, 53, 54, 55, 56, 57, 48, 49, 50, 51, 52, 53, 54, 55, 56, 57, 48, 49, 50, 51, 52, 53, 54, 55, 56, 57]⟩ : ByteArray))).size : Int) = 40 := rfl
   refine region_St (bf := [0, 1, 3]) (sp := [det _ 85 _, det _ 86 _, det _ 13 _]) [ib r0, ib r1] mixed st24 (by kernel_rfl) ⟨r0, r1, trivial⟩
    ⟨Ob.d fun c => r_move rfl (c.p e9),
    Ob.d fun c => r_subHi (s := (⟨#[48, 49, 50, 51, 52, 53, 54, 55, 56, 57, 48, 49, 50, 51, 52, 53, 54, 55, 56, 57, 48, 49, 50, 51, 52, 53, 54, 55, 56, 57, 48, 49, 50, 51, 52, 53, 54, 55, 56, 57]⟩ : ByteArray)) (q := (m : Int)) rfl Try.underlying9 (by kernel_rfl) (c.n 0 rfl) (by first | omega | (rw [sizes_cons, sizes_one]; simp only []; omega) | (simp only [List.length_cons, List.length_nil]; omega)) (by first | omega | (rw [sizes_cons, sizes_one]; simp only []; omega) | (simp only [List.length_cons, List.length_nil]; omega)),
    Ob.d fun c => r_assign rfl (c.n 1 rfl), trivial⟩ ?_
   intro a31 w31 τ31 st31 f31
   obtain ⟨e8, e9, e10, e11, e12, -⟩ := f31.ks [(8, _), (9, _), (10, _), (11, _), (12, _)] ⟨e8, e9, e10, e11, e12, trivial⟩
   have e13 : get a31 13 = (.string ((⟨#[48, 49, 50, 51, 52, 53, 54, 55, 56, 57, 48, 49, 50, 51, 52, 53, 54, 55, 56, 57, 48, 49, 50, 51, 52, 53, 54, 55, 56, 57, 48, 49, 50, 51, 52, 53, 54, 55, 56, 57]⟩ : ByteArray).extract 0 m)) := f31.v 2 rfl
   replace r0 := f31.ib 0 rfl
   replace r1 := f31.ib 1 rfl
   clear f31
   obtain ⟨sv, hsv⟩ : ∃ x_, (⟨#[48, 49, 50, 51, 52, 53, 54, 55, 56, 57, 48, 49, 50, 51, 52, 53, 54, 55, 56, 57, 48, 49, 50, 51, 52, 53, 54, 55, 56, 57, 48, 49, 50, 51, 52, 53, 54, 55, 56, 57]⟩ : ByteArray).extract 0 m = x_ := ⟨_, rfl⟩
   rw [hsv] at e13
   have hss : (sv.size : Int) = (m : Int) := by
     rw [← hsv, ByteArray.size_extract]
     omega
   have hM : mayEd (sv.size : Int) [(xa, xa + yb, (⟨#[117]⟩ : ByteArray)), (xb, xb + ya, t)] = (0 : Int) := by rw [hss]; exact codes_0 (by omega) (by omega) (by omega) (by omega) (by omega) (by assumption) (by omega)
   show Code.wp _ _ _ a31 w31
   refine wp_seq ?_
   refine region_St (bf := [0, 0, 0, 6, 15, 31, 63, 63, 127, 511]) (sp := [det _ 88 _, det _ 89 _, det _ 90 _, own EditE 45 _ 2 91 ([(xa, xa + yb, (⟨#[117]⟩ : ByteArray)), (xb, xb + ya, t)]), det _ 92 _, det _ 87 _, det _ 93 _, det _ 94 _, det _ 14 _, det _ 15 _]) [ib r0, ib r1] mixed st31 (by kernel_rfl) ⟨r0, r1, trivial⟩
    ⟨Ob.d fun c => r_move rfl (c.p e13),
    Ob.d fun c => r_loadN (vs := [(.int .i64 (xa)), (.int .i64 (xa + yb)), (.string ((⟨#[117]⟩ : ByteArray)))]) rfl Try.isAgg45 Try.sizeOf45 ((c.p e10).trans r0.ptr) rfl (fun _ _ hj => (c.ib 0 rfl).cell hj),
    Ob.d fun c => r_loadN (vs := [(.int .i64 (xb)), (.int .i64 (xb + ya)), (.string (t))]) rfl Try.isAgg45 Try.sizeOf45 ((c.p e11).trans r1.ptr) rfl (fun _ _ hj => (c.ib 1 rfl).cell hj),
    Ob.buildSlice (cells := #[(.int .i64 (xa)), (.int .i64 (xa + yb)), (.string ((⟨#[117]⟩ : ByteArray))), (.int .i64 (xb)), (.int .i64 (xb + ya)), (.string (t))]) rfl rfl rfl rfl Try.underlying22 Try.sizeOf45 Try.zeroValue45 rfl (by decide) (by decide) (fun _ _ _ _ c => fill2 (c.n 1 rfl) (c.n 2 rfl) (by kernel_rfl)) rfl,
    Ob.c fun c => ⟨_, _, (e_call2 rfl rfl Try.call15 (c.n 0 rfl) (eval_tmp _ 91)), applyE_c sv _ ([(xa, xa + yb, (⟨#[117]⟩ : ByteArray)), (xb, xb + ya, t)]) _ (c.ro 3 rfl).1.sl (by first | omega | (rw [sizes_cons, sizes_one]; simp only []; omega) | (simp only [List.length_cons, List.length_nil]; omega)) (by first | omega | (rw [sizes_cons, sizes_one]; simp only []; omega) | (simp only [List.length_cons, List.length_nil]; omega)) (by first | omega | (rw [sizes_cons, sizes_one]; simp only []; omega) | (simp only [List.length_cons, List.length_nil]; omega))⟩,
    Ob.d fun c => r_move rfl (c.n 4 rfl),
    Ob.d fun c => r_extract rfl (c.n 5 rfl) rfl,
    Ob.d fun c => r_extract rfl (c.n 5 rfl) rfl,
    Ob.d fun c => r_assign rfl (c.n 6 rfl),
    Ob.d fun c => r_assign rfl (c.n 7 rfl), trivial⟩ ?_
   intro a32 w32 τ32 st32 f32
   obtain ⟨b32x91, e91⟩ : ∃ b, get a32 91 = b := ⟨_, rfl⟩
   obtain ⟨e8, e9, e10, e11, e12, e13, -⟩ := f32.ks [(8, _), (9, _), (10, _), (11, _), (12, _), (13, _)] ⟨e8, e9, e10, e11, e12, e13, trivial⟩
   have e14 : get a32 14 = (.string (applyF sv ([(xa, xa + yb, (⟨#[117]⟩ : ByteArray)), (xb, xb + ya, t)]))) := f32.v 8 rfl
   have e15 : get a32 15 = (.int .i64 (mayEd (sv.size : Int) ([(xa, xa + yb, (⟨#[117]⟩ : ByteArray)), (xb, xb + ya, t)]))) := f32.v 9 rfl
   replace r0 := f32.ib 0 rfl
   replace r1 := f32.ib 1 rfl
   clear f32
   replace e15 := e15.trans (int_eq (show mayEd (sv.size : Int) ([(xa, xa + yb, (⟨#[117]⟩ : ByteArray)), (xb, xb + ya, t)]) = ((0 : Int) : Int) from by exact hM))
   show Code.wp _ _ _ a32 w32
   refine wp_seq ?_
   refine region_St (bf := [0, 0, 0, 6, 15, 31, 63, 63, 127, 511]) (sp := [det _ 96 _, det _ 97 _, det _ 98 _, own EditE 45 _ 2 99 ([(xa, xa + yb, (⟨#[117]⟩ : ByteArray)), (xb, xb + ya, t)]), tup _ _ _ 3 100 _ _, tup _ _ _ 3 95 _ _, own _ _ _ 3 101 _, det _ 102 _, own _ _ _ 3 16 _, det _ 17 _]) [ib r0, ib r1] mixed st32 (by kernel_rfl) ⟨r0, r1, trivial⟩
    ⟨Ob.d fun c => r_move rfl (c.p e13),
    Ob.d fun c => r_loadN (vs := [(.int .i64 (xa)), (.int .i64 (xa + yb)), (.string ((⟨#[117]⟩ : ByteArray)))]) rfl Try.isAgg45 Try.sizeOf45 ((c.p e10).trans r0.ptr) rfl (fun _ _ hj => (c.ib 0 rfl).cell hj),
    Ob.d fun c => r_loadN (vs := [(.int .i64 (xb)), (.int .i64 (xb + ya)), (.string (t))]) rfl Try.isAgg45 Try.sizeOf45 ((c.p e11).trans r1.ptr) rfl (fun _ _ hj => (c.ib 1 rfl).cell hj),
    Ob.buildSlice (cells := #[(.int .i64 (xa)), (.int .i64 (xa + yb)), (.string ((⟨#[117]⟩ : ByteArray))), (.int .i64 (xb)), (.int .i64 (xb + ya)), (.string (t))]) rfl rfl rfl rfl Try.underlying22 Try.sizeOf45 Try.zeroValue45 rfl (by decide) (by decide) (fun _ _ _ _ c => fill2 (c.n 1 rfl) (c.n 2 rfl) (by kernel_rfl)) rfl,
    Ob.callTup rfl rfl rfl (fun _ a_ _ _ c => ⟨_, _, (e_call2 rfl rfl Try.call17 (c.n 0 rfl) (eval_tmp _ 99)), backE_c sv _ ([(xa, xa + yb, (⟨#[117]⟩ : ByteArray)), (xb, xb + ya, t)]) _ (c.ro 3 rfl).1.sl (by first | omega | (rw [sizes_cons, sizes_one]; simp only []; omega) | (simp only [List.length_cons, List.length_nil]; omega)) (by first | omega | (rw [sizes_cons, sizes_one]; simp only []; omega) | (simp only [List.length_cons, List.length_nil]; omega)) (by first | omega | (rw [sizes_cons, sizes_one]; simp only []; omega) | (simp only [List.length_cons, List.length_nil]; omega))⟩),
    Ob.moveT (t0 := 100) rfl rfl rfl rfl rfl (.inl rfl) (fun _ _ _ _ c => ⟨c.rtup 4 rfl rfl (by kernel_rfl), rfl⟩),
    Ob.part0 (t0 := 95) (k := (.int .i64 (mayEd (sv.size : Int) ([(xa, xa + yb, (⟨#[117]⟩ : ByteArray)), (xb, xb + ya, t)])))) rfl rfl rfl rfl (fun _ _ _ _ c => c.rtup 5 rfl rfl (by kernel_rfl)),
    Ob.d fun c => c.part1 5 rfl rfl rfl,
    Ob.moveT (t0 := 101) rfl rfl rfl rfl rfl (.inr rfl) (fun _ _ _ _ c => ⟨c.ro 6 rfl, rfl⟩),
    Ob.d fun c => r_assign rfl (c.n 7 rfl), trivial⟩ ?_
   intro a33 w33 τ33 st33 f33
   obtain ⟨b33x99, e99⟩ : ∃ b, get a33 99 = b := ⟨_, rfl⟩
   obtain ⟨b33x16, e16⟩ : ∃ b, get a33 16 = b := ⟨_, rfl⟩
   obtain ⟨e8, e9, e10, e11, e12, e14, e15, -⟩ := f33.ks [(8, _), (9, _), (10, _), (11, _), (12, _), (14, _), (15, _)] ⟨e8, e9, e10, e11, e12, e14, e15, trivial⟩
   have e17 : get a33 17 = (.int .i64 (mayEd (sv.size : Int) ([(xa, xa + yb, (⟨#[117]⟩ : ByteArray)), (xb, xb + ya, t)]))) := f33.v 9 rfl
   replace r0 := f33.ib 0 rfl
   replace r1 := f33.ib 1 rfl
   have r3 : ownR EditE 45 (backF sv ([(xa, xa + yb, (⟨#[117]⟩ : ByteArray)), (xb, xb + ya, t)])) (τ33 3) b33x16 w33 := f33.ro 8 e16 rfl
   clear f33
   replace e17 := e17.trans (int_eq (show mayEd (sv.size : Int) ([(xa, xa + yb, (⟨#[117]⟩ : ByteArray)), (xb, xb + ya, t)]) = ((0 : Int) : Int) from by exact hM))
   show Code.wp _ _ _ a33 w33
   refine wp_seq ?_
   refine wp_seq ?_
   refine region_St (bf := [0, 0, 3, 7, 15, 15, 63, 127, 255, 511, 511, 511, 3583, 8191, 511, 32767, 65535]) (sp := [det _ 103 _, det _ 104 _, det _ 105 (.bool (false)), det _ 106 _, det _ 107 _, det _ 108 _, det _ 109 (.bool (false)), det _ 110 _, det _ 111 _, det _ 112 _, det _ 113 _, det _ 114 _, own EditE 45 _ 2 115 ([(xa, xa + yb, (⟨#[117]⟩ : ByteArray)), (xb, xb + ya, t)]), det _ 116 _, det _ 117 _, det _ 118 (.bool (false)), det _ 119 _]) [ib r0, ib r1, Ini.any _, io r3] mixed st33 (by kernel_rfl) ⟨r0, r1, trivial, r3, trivial⟩
    ⟨Ob.d fun c => r_move rfl (c.p e15),
    Ob.d fun c => r_move rfl (c.p e12),
    Ob.d (v := (.bool (false))) fun c => Runs.isB (b := !decide ((0 : Int) = (0 : Int))) (r_neq rfl (c.n 0 rfl) (c.n 1 rfl)) (by decide),
    Ob.d fun c => r_move rfl (c.n 2 rfl),
    Ob.lv 3 (Ob.d fun c => r_move rfl (c.p e17)),
    Ob.lv 3 (Ob.d fun c => r_move rfl (c.p e12)),
    Ob.lv 3 (Ob.d (v := (.bool (false))) fun c => Runs.isB (b := !decide ((0 : Int) = (0 : Int))) (r_neq rfl (c.n 4 rfl) (c.n 5 rfl)) (by decide)),
    Ob.d fun c => r_pick rfl (c.n 3 rfl) (fun h => by cases h) (fun _ => c.n 6 rfl),
    Ob.d fun c => r_move rfl (c.n 7 rfl),
    Ob.lv 8 (Ob.d fun c => r_move rfl (c.p e9)),
    Ob.lv 8 (Ob.d fun c => r_loadN (vs := [(.int .i64 (xa)), (.int .i64 (xa + yb)), (.string ((⟨#[117]⟩ : ByteArray)))]) rfl Try.isAgg45 Try.sizeOf45 ((c.p e10).trans r0.ptr) rfl (fun _ _ hj => (c.ib 0 rfl).cell hj)),
    Ob.lv 8 (Ob.d fun c => r_loadN (vs := [(.int .i64 (xb)), (.int .i64 (xb + ya)), (.string (t))]) rfl Try.isAgg45 Try.sizeOf45 ((c.p e11).trans r1.ptr) rfl (fun _ _ hj => (c.ib 1 rfl).cell hj)),
    Ob.lv 8 (Ob.buildSlice (cells := #[(.int .i64 (xa)), (.int .i64 (xa + yb)), (.string ((⟨#[117]⟩ : ByteArray))), (.int .i64 (xb)), (.int .i64 (xb + ya)), (.string (t))]) rfl rfl rfl rfl Try.underlying22 Try.sizeOf45 Try.zeroValue45 rfl (by decide) (by decide) (fun _ _ _ _ c => fill2 (c.n 10 rfl) (c.n 11 rfl) (by kernel_rfl)) rfl),
    Ob.lv 8 (Ob.c fun c => ⟨_, _, (e_call2 rfl rfl Try.call19 (c.n 9 rfl) (eval_tmp _ 115)), mayE_c (m : Int) _ ([(xa, xa + yb, (⟨#[117]⟩ : ByteArray)), (xb, xb + ya, t)]) _ (c.ro 12 rfl).1.sl (by first | omega | (rw [sizes_cons, sizes_one]; simp only []; omega) | (simp only [List.length_cons, List.length_nil]; omega))⟩),
    Ob.lv 8 (Ob.d fun c => r_move rfl (c.p e12)),
    Ob.lv 8 (Ob.d (v := (.bool (false))) fun c => Runs.isB (b := !decide (mayEd (m : Int) ([(xa, xa + yb, (⟨#[117]⟩ : ByteArray)), (xb, xb + ya, t)]) = (0 : Int))) (r_neq rfl (c.n 13 rfl) (c.n 14 rfl)) (by rw [← hss, hM]; decide)),
    Ob.d fun c => r_pick rfl (c.n 8 rfl) (fun h => by cases h) (fun _ => c.n 15 rfl), trivial⟩ ?_
   intro a34 w34 τ34 st34 f34
   obtain ⟨b34x115, e115⟩ : ∃ b, get a34 115 = b := ⟨_, rfl⟩
   obtain ⟨e8, e12, e14, e16, -⟩ := f34.ks [(8, _), (12, _), (14, _), (16, _)] ⟨e8, e12, e14, e16, trivial⟩
   have e119 : get a34 119 = (.bool (false)) := f34.v 16 rfl
   replace r3 := f34.io 3 rfl
   clear f34
   show Code.wp _ _ _ a34 w34
   refine wp_cond_false e119 ?_
   refine wp_skip ?_
   show Code.wp _ _ _ a34 w34
   refine wp_seq ?_
   refine region_St (bf := [0, 1, 3, 7, 15, 31, 63, 127, 255, 511, 1023, 2047, 4095, 8191, 16383]) (sp := [det _ 120 _, det _ 121 _, det _ 122 _, gdet _ 123 _ _, gdet _ 124 _ _, gdet _ 125 _ _, gdet _ 126 _ _, gdet _ 127 _ _, gdet _ 128 _ _, gdet _ 129 _ _, det _ 130 _, det _ 131 _, gdet _ 132 _ _, det _ 133 _, det _ 8 _]) [Ini.any _, Ini.any _, Ini.any _, io r3] mixed st34 (by kernel_rfl) ⟨trivial, trivial, trivial, r3, trivial⟩
    ⟨Ob.d fun c => r_move rfl (c.p e12),
    Ob.d fun c => r_eql rfl (c.n 0 rfl) rfl,
    Ob.d fun c => r_move rfl (c.n 1 rfl),
    Ob.g 2 false rfl fun c hpc => r_move rfl (c.p e14),
    Ob.g 2 false rfl fun c hpc => r_seql rfl (c.m 3 rfl hpc) rfl,
    Ob.g 2 false rfl fun c hpc => r_move rfl (c.m 4 rfl hpc),
    Ob.gg 5 true rfl fun c hpc => r_move rfl (c.p e16),
    Ob.gg 5 true rfl fun c hpc => r_len rfl Try.underlying22 (c.m 6 rfl hpc) r3.isSl,
    Ob.gg 5 true rfl fun c hpc => r_eql rfl (c.m 7 rfl hpc) rfl,
    Ob.g 2 false rfl fun c hpc => r_and rfl (c.m 5 rfl hpc) (fun h => c.m 8 rfl (And.intro hpc h)),
    Ob.d fun c => r_or rfl (c.n 2 rfl) (fun h => c.m 9 rfl h),
    Ob.d fun c => r_move rfl (c.n 10 rfl),
    Ob.gc 11 true rfl fun c hpc => ⟨_, _, (e_call0 rfl rfl Try.call14), awake_c _⟩,
    Ob.d fun c => r_and rfl (c.n 11 rfl) (fun h => c.m 12 rfl h),
    Ob.d fun c => r_assign rfl (c.n 13 rfl), trivial⟩ ?_
   intro a35 w35 τ35 st35 f35
   obtain ⟨e12, -⟩ := f35.ks [(12, _)] ⟨e12, trivial⟩
   have e8 : get a35 8 = (.bool (((decide ((0 : Int) = 0)) || ((eqT (applyF sv ([(xa, xa + yb, (⟨#[117]⟩ : ByteArray)), (xb, xb + ya, t)])) (⟨#[]⟩ : ByteArray)) && (decide (((backF sv ([(xa, xa + yb, (⟨#[117]⟩ : ByteArray)), (xb, xb + ya, t)])).length : Int) = 0)))) && true)) := f35.v 14 rfl
   clear f35
   show Code.wp _ _ _ a35 w35
   refine wp_ret ?_
   repeat (first | with_reducible refine then_ret ?_ | with_reducible refine block_ret ?_)
   refine ret1 (fn := Try.f10) rfl st35.defers e8 ?_
   exact ⟨congrArg _ (congrArg _ (show (((decide ((0 : Int) = 0)) || ((eqT (applyF sv ([(xa, xa + yb, (⟨#[117]⟩ : ByteArray)), (xb, xb + ya, t)])) (⟨#[]⟩ : ByteArray)) && (decide (((backF sv ([(xa, xa + yb, (⟨#[117]⟩ : ByteArray)), (xb, xb + ya, t)])).length : Int) = 0)))) && true) = true from by simp [eqT_self])), st35.ext0⟩
 skip
 refine wp_skip ?_
 show Code.wp _ _ _ a5 w5
 refine wp_seq ?_
 obtain rfl : r = false := by assumption
 have htz : (⟨#[118]⟩ : ByteArray).size = 1 := rfl
 refine region_St (bf := [0]) (sp := [det _ 12 _]) [ib r0, ib r1] mixed st5 (by kernel_rfl) ⟨r0, r1, trivial⟩
  ⟨Ob.d fun c => r_assign rfl rfl, trivial⟩ ?_
 intro a36 w36 τ36 st36 f36
 obtain ⟨e3, e8, e9, e10, e11, -⟩ := f36.ks [(3, _), (8, _), (9, _), (10, _), (11, _)] ⟨e3, e8, e9, e10, e11, trivial⟩
 have e12 : get a36 12 = (.int .i64 (0)) := f36.v 0 rfl
 replace r0 := f36.ib 0 rfl
 replace r1 := f36.ib 1 rfl
 clear f36
 show Code.wp _ _ _ a36 w36
 refine wp_seq ?_
 refine wp_block ?_
 refine wp_seq ?_
 refine region_St (bf := [0, 1, 3, 0, 15, 31, 63, 127, 255, 63, 1023, 2047, 4095]) (sp := [det _ 50 _, det _ 51 _, det _ 52 _, det _ 53 _, det _ 54 _, det _ 55 _, gdet _ 56 _ _, gdet _ 57 _ _, gdet _ 58 _ _, gdet _ 59 _ _, gdet _ 60 _ _, det _ 61 _, det _ 49 _]) [ib r0, ib r1] mixed st36 (by kernel_rfl) ⟨r0, r1, trivial⟩
  ⟨Ob.d fun c => r_fieldAddr rfl Try.underlying45 rfl rfl Try.sizeOf43 ((c.p e10).trans r0.ptr),
  Ob.d fun c => r_fieldAddr rfl Try.underlying43 rfl rfl Try.sizeOf3 (c.n 0 rfl),
  Ob.d fun c => r_load1 rfl Try.isAgg3 (c.n 1 rfl) (by rw [add_add]; exact (c.ib 0 rfl).cell (j := 1) rfl),
  Ob.d fun c => r_move rfl (c.p e9),
  Ob.d fun c => r_gtr rfl (c.n 2 rfl) (c.n 3 rfl),
  Ob.d fun c => r_move rfl (c.n 4 rfl),
  Ob.g 5 false rfl fun c hpc => r_fieldAddr rfl Try.underlying45 rfl rfl Try.sizeOf43 ((c.p e11).trans r1.ptr),
  Ob.g 5 false rfl fun c hpc => r_fieldAddr rfl Try.underlying43 rfl rfl Try.sizeOf3 (c.m 6 rfl hpc),
  Ob.g 5 false rfl fun c hpc => r_load1 rfl Try.isAgg3 (c.m 7 rfl hpc) (by rw [add_add]; exact (c.ib 1 rfl).cell (j := 1) rfl),
  Ob.g 5 false rfl fun c hpc => r_move rfl (c.p e9),
  Ob.g 5 false rfl fun c hpc => r_gtr rfl (c.m 8 rfl hpc) (c.m 9 rfl hpc),
  Ob.d fun c => r_or rfl (c.n 5 rfl) (fun h => c.m 10 rfl h),
  Ob.d fun c => r_assign rfl (c.n 11 rfl), trivial⟩ ?_
 intro a37 w37 τ37 st37 f37
 obtain ⟨e3, e8, e9, e10, e11, e12, -⟩ := f37.ks [(3, _), (8, _), (9, _), (10, _), (11, _), (12, _)] ⟨e3, e8, e9, e10, e11, e12, trivial⟩
 have e49 : get a37 49 = (.bool ((decide ((m : Int) < xa + yb)) || (decide ((m : Int) < xb + ya)))) := f37.v 12 rfl
 replace r0 := f37.ib 0 rfl
 replace r1 := f37.ib 1 rfl
 clear f37
 show Code.wp _ _ _ a37 w37
 refine wp_cond_split (t := (decide ((m : Int) < xa + yb)) || (decide ((m : Int) < xb + ya))) e49 (fun hc10 => ?_) (fun hc10 => ?_)
 · try simp only [Bool.or_eq_true, decide_eq_true_eq] at hc10
   refine region_St (bf := [0]) (sp := [det _ 12 _]) [ib r0, ib r1] mixed st37 (by kernel_rfl) ⟨r0, r1, trivial⟩
    ⟨Ob.d fun c => r_assign rfl rfl, trivial⟩ ?_
   intro a38 w38 τ38 st38 f38
   obtain ⟨e3, e8, e9, e10, e11, -⟩ := f38.ks [(3, _), (8, _), (9, _), (10, _), (11, _)] ⟨e3, e8, e9, e10, e11, trivial⟩
   have e12 : get a38 12 = (.int .i64 (3)) := f38.v 0 rfl
   replace r0 := f38.ib 0 rfl
   replace r1 := f38.ib 1 rfl
   clear f38
   show _
   show Code.wp _ _ _ a38 w38
   refine wp_seq ?_
   have hdg : ((((⟨#[48, 49, 50, 51, 52, 53, 54, 55, 56, 57, 48, 49, 50, 51, 52, 53, 54, 55, 56, 57, 48, 49, 50, 51, 52, 53, 54, 55, 56, 57, 48, 49, 50, 51, 52, 53, 54, 55, 56, 57]⟩ : ByteArray))).size : Int) = 40 := rfl
   refine region_St (bf := [0, 1, 3]) (sp := [det _ 85 _, det _ 86 _, det _ 13 _]) [ib r0, ib r1] mixed st38 (by kernel_rfl) ⟨r0, r1, trivial⟩
    ⟨Ob.d fun c => r_move rfl (c.p e9),
    Ob.d fun c => r_subHi (s := (⟨#[48, 49, 50, 51, 52, 53, 54, 55, 56, 57, 48, 49, 50, 51, 52, 53, 54, 55, 56, 57, 48, 49, 50, 51, 52, 53, 54, 55, 56, 57, 48, 49, 50, 51, 52, 53, 54, 55, 56, 57]⟩ : ByteArray)) (q := (m : Int)) rfl Try.underlying9 (by kernel_rfl) (c.n 0 rfl) (by first | omega | (rw [sizes_cons, sizes_one]; simp only []; omega) | (simp only [List.length_cons, List.length_nil]; omega)) (by first | omega | (rw [sizes_cons, sizes_one]; simp only []; omega) | (simp only [List.length_cons, List.length_nil]; omega)),
    Ob.d fun c => r_assign rfl (c.n 1 rfl), trivial⟩ ?_
   intro a39 w39 τ39 st39 f39
   obtain ⟨e8, e9, e10, e11, e12, -⟩ := f39.ks [(8, _), (9, _), (10, _), (11, _), (12, _)] ⟨e8, e9, e10, e11, e12, trivial⟩
   have e13 : get a39 13 = (.string ((⟨#[48, 49, 50, 51, 52, 53, 54, 55, 56, 57, 48, 49, 50, 51, 52, 53, 54, 55, 56, 57, 48, 49, 50, 51, 52, 53, 54, 55, 56, 57, 48, 49, 50, 51, 52, 53, 54, 55, 56, 57]⟩ : ByteArray).extract 0 m)) := f39.v 2 rfl
   replace r0 := f39.ib 0 rfl
   replace r1 := f39.ib 1 rfl
   clear f39
   obtain ⟨sv, hsv⟩ : ∃ x_, (⟨#[48, 49, 50, 51, 52, 53, 54, 55, 56, 57, 48, 49, 50, 51, 52, 53, 54, 55, 56, 57, 48, 49, 50, 51, 52, 53, 54, 55, 56, 57, 48, 49, 50, 51, 52, 53, 54, 55, 56, 57]⟩ : ByteArray).extract 0 m = x_ := ⟨_, rfl⟩
   rw [hsv] at e13
   have hss : (sv.size : Int) = (m : Int) := by
     rw [← hsv, ByteArray.size_extract]
     omega
   have hM : mayEd (sv.size : Int) [(xa, xa + yb, (⟨#[117]⟩ : ByteArray)), (xb, xb + ya, (⟨#[118]⟩ : ByteArray))] = (3 : Int) := by rw [hss]; exact codes_3 (by omega)
   have hO := codes_out (s := sv) (es := [(xa, xa + yb, (⟨#[117]⟩ : ByteArray)), (xb, xb + ya, (⟨#[118]⟩ : ByteArray))]) (by rw [hM]; decide)
   show Code.wp _ _ _ a39 w39
   refine wp_seq ?_
   refine region_St (bf := [0, 0, 0, 6, 15, 31, 63, 63, 127, 511]) (sp := [det _ 88 _, det _ 89 _, det _ 90 _, own EditE 45 _ 2 91 ([(xa, xa + yb, (⟨#[117]⟩ : ByteArray)), (xb, xb + ya, (⟨#[118]⟩ : ByteArray))]), det _ 92 _, det _ 87 _, det _ 93 _, det _ 94 _, det _ 14 _, det _ 15 _]) [ib r0, ib r1] mixed st39 (by kernel_rfl) ⟨r0, r1, trivial⟩
    ⟨Ob.d fun c => r_move rfl (c.p e13),
    Ob.d fun c => r_loadN (vs := [(.int .i64 (xa)), (.int .i64 (xa + yb)), (.string ((⟨#[117]⟩ : ByteArray)))]) rfl Try.isAgg45 Try.sizeOf45 ((c.p e10).trans r0.ptr) rfl (fun _ _ hj => (c.ib 0 rfl).cell hj),
    Ob.d fun c => r_loadN (vs := [(.int .i64 (xb)), (.int .i64 (xb + ya)), (.string ((⟨#[118]⟩ : ByteArray)))]) rfl Try.isAgg45 Try.sizeOf45 ((c.p e11).trans r1.ptr) rfl (fun _ _ hj => (c.ib 1 rfl).cell hj),
    Ob.buildSlice (cells := #[(.int .i64 (xa)), (.int .i64 (xa + yb)), (.string ((⟨#[117]⟩ : ByteArray))), (.int .i64 (xb)), (.int .i64 (xb + ya)), (.string ((⟨#[118]⟩ : ByteArray)))]) rfl rfl rfl rfl Try.underlying22 Try.sizeOf45 Try.zeroValue45 rfl (by decide) (by decide) (fun _ _ _ _ c => fill2 (c.n 1 rfl) (c.n 2 rfl) (by kernel_rfl)) rfl,
    Ob.c fun c => ⟨_, _, (e_call2 rfl rfl Try.call15 (c.n 0 rfl) (eval_tmp _ 91)), applyE_c sv _ ([(xa, xa + yb, (⟨#[117]⟩ : ByteArray)), (xb, xb + ya, (⟨#[118]⟩ : ByteArray))]) _ (c.ro 3 rfl).1.sl (by first | omega | (rw [sizes_cons, sizes_one]; simp only []; omega) | (simp only [List.length_cons, List.length_nil]; omega)) (by first | omega | (rw [sizes_cons, sizes_one]; simp only []; omega) | (simp only [List.length_cons, List.length_nil]; omega)) (by first | omega | (rw [sizes_cons, sizes_one]; simp only []; omega) | (simp only [List.length_cons, List.length_nil]; omega))⟩,
    Ob.d fun c => r_move rfl (c.n 4 rfl),
    Ob.d fun c => r_extract rfl (c.n 5 rfl) rfl,
    Ob.d fun c => r_extract rfl (c.n 5 rfl) rfl,
    Ob.d fun c => r_assign rfl (c.n 6 rfl),
    Ob.d fun c => r_assign rfl (c.n 7 rfl), trivial⟩ ?_
   intro a40 w40 τ40 st40 f40
   obtain ⟨b40x91, e91⟩ : ∃ b, get a40 91 = b := ⟨_, rfl⟩
   obtain ⟨e8, e9, e10, e11, e12, e13, -⟩ := f40.ks [(8, _), (9, _), (10, _), (11, _), (12, _), (13, _)] ⟨e8, e9, e10, e11, e12, e13, trivial⟩
   have e14 : get a40 14 = (.string (applyF sv ([(xa, xa + yb, (⟨#[117]⟩ : ByteArray)), (xb, xb + ya, (⟨#[118]⟩ : ByteArray))]))) := f40.v 8 rfl
   have e15 : get a40 15 = (.int .i64 (mayEd (sv.size : Int) ([(xa, xa + yb, (⟨#[117]⟩ : ByteArray)), (xb, xb + ya, (⟨#[118]⟩ : ByteArray))]))) := f40.v 9 rfl
   replace r0 := f40.ib 0 rfl
   replace r1 := f40.ib 1 rfl
   clear f40
   replace e15 := e15.trans (int_eq (show mayEd (sv.size : Int) ([(xa, xa + yb, (⟨#[117]⟩ : ByteArray)), (xb, xb + ya, (⟨#[118]⟩ : ByteArray))]) = ((3 : Int) : Int) from by exact hM))
   replace e14 := e14.trans (congrArg Value.string (show applyF sv ([(xa, xa + yb, (⟨#[117]⟩ : ByteArray)), (xb, xb + ya, (⟨#[118]⟩ : ByteArray))]) = (⟨#[]⟩ : ByteArray) from by exact hO.1))
   show Code.wp _ _ _ a40 w40
   refine wp_seq ?_
   refine region_St (bf := [0, 0, 0, 6, 15, 31, 63, 63, 127, 511]) (sp := [det _ 96 _, det _ 97 _, det _ 98 _, own EditE 45 _ 2 99 ([(xa, xa + yb, (⟨#[117]⟩ : ByteArray)), (xb, xb + ya, (⟨#[118]⟩ : ByteArray))]), tup _ _ _ 3 100 _ _, tup _ _ _ 3 95 _ _, own _ _ _ 3 101 _, det _ 102 _, own _ _ _ 3 16 _, det _ 17 _]) [ib r0, ib r1] mixed st40 (by kernel_rfl) ⟨r0, r1, trivial⟩
    ⟨Ob.d fun c => r_move rfl (c.p e13),
    Ob.d fun c => r_loadN (vs := [(.int .i64 (xa)), (.int .i64 (xa + yb)), (.string ((⟨#[117]⟩ : ByteArray)))]) rfl Try.isAgg45 Try.sizeOf45 ((c.p e10).trans r0.ptr) rfl (fun _ _ hj => (c.ib 0 rfl).cell hj),
    Ob.d fun c => r_loadN (vs := [(.int .i64 (xb)), (.int .i64 (xb + ya)), (.string ((⟨#[118]⟩ : ByteArray)))]) rfl Try.isAgg45 Try.sizeOf45 ((c.p e11).trans r1.ptr) rfl (fun _ _ hj => (c.ib 1 rfl).cell hj),
    Ob.buildSlice (cells := #[(.int .i64 (xa)), (.int .i64 (xa + yb)), (.string ((⟨#[117]⟩ : ByteArray))), (.int .i64 (xb)), (.int .i64 (xb + ya)), (.string ((⟨#[118]⟩ : ByteArray)))]) rfl rfl rfl rfl Try.underlying22 Try.sizeOf45 Try.zeroValue45 rfl (by decide) (by decide) (fun _ _ _ _ c => fill2 (c.n 1 rfl) (c.n 2 rfl) (by kernel_rfl)) rfl,
    Ob.callTup rfl rfl rfl (fun _ a_ _ _ c => ⟨_, _, (e_call2 rfl rfl Try.call17 (c.n 0 rfl) (eval_tmp _ 99)), backE_c sv _ ([(xa, xa + yb, (⟨#[117]⟩ : ByteArray)), (xb, xb + ya, (⟨#[118]⟩ : ByteArray))]) _ (c.ro 3 rfl).1.sl (by first | omega | (rw [sizes_cons, sizes_one]; simp only []; omega) | (simp only [List.length_cons, List.length_nil]; omega)) (by first | omega | (rw [sizes_cons, sizes_one]; simp only []; omega) | (simp only [List.length_cons, List.length_nil]; omega)) (by first | omega | (rw [sizes_cons, sizes_one]; simp only []; omega) | (simp only [List.length_cons, List.length_nil]; omega))⟩),
    Ob.moveT (t0 := 100) rfl rfl rfl rfl rfl (.inl rfl) (fun _ _ _ _ c => ⟨c.rtup 4 rfl rfl (by kernel_rfl), rfl⟩),
    Ob.part0 (t0 := 95) (k := (.int .i64 (mayEd (sv.size : Int) ([(xa, xa + yb, (⟨#[117]⟩ : ByteArray)), (xb, xb + ya, (⟨#[118]⟩ : ByteArray))])))) rfl rfl rfl rfl (fun _ _ _ _ c => c.rtup 5 rfl rfl (by kernel_rfl)),
    Ob.d fun c => c.part1 5 rfl rfl rfl,
    Ob.moveT (t0 := 101) rfl rfl rfl rfl rfl (.inr rfl) (fun _ _ _ _ c => ⟨c.ro 6 rfl, rfl⟩),
    Ob.d fun c => r_assign rfl (c.n 7 rfl), trivial⟩ ?_
   intro a41 w41 τ41 st41 f41
   obtain ⟨b41x99, e99⟩ : ∃ b, get a41 99 = b := ⟨_, rfl⟩
   obtain ⟨b41x16, e16⟩ : ∃ b, get a41 16 = b := ⟨_, rfl⟩
   obtain ⟨e8, e9, e10, e11, e12, e14, e15, -⟩ := f41.ks [(8, _), (9, _), (10, _), (11, _), (12, _), (14, _), (15, _)] ⟨e8, e9, e10, e11, e12, e14, e15, trivial⟩
   have e17 : get a41 17 = (.int .i64 (mayEd (sv.size : Int) ([(xa, xa + yb, (⟨#[117]⟩ : ByteArray)), (xb, xb + ya, (⟨#[118]⟩ : ByteArray))]))) := f41.v 9 rfl
   replace r0 := f41.ib 0 rfl
   replace r1 := f41.ib 1 rfl
   have r3 : ownR EditE 45 (backF sv ([(xa, xa + yb, (⟨#[117]⟩ : ByteArray)), (xb, xb + ya, (⟨#[118]⟩ : ByteArray))])) (τ41 3) b41x16 w41 := f41.ro 8 e16 rfl
   clear f41
   replace e17 := e17.trans (int_eq (show mayEd (sv.size : Int) ([(xa, xa + yb, (⟨#[117]⟩ : ByteArray)), (xb, xb + ya, (⟨#[118]⟩ : ByteArray))]) = ((3 : Int) : Int) from by exact hM))
   replace r3 := r3.cast (show [] = backF sv ([(xa, xa + yb, (⟨#[117]⟩ : ByteArray)), (xb, xb + ya, (⟨#[118]⟩ : ByteArray))]) from by exact hO.2.symm)
   show Code.wp _ _ _ a41 w41
   refine wp_seq ?_
   refine wp_seq ?_
   refine region_St (bf := [0, 0, 3, 7, 15, 15, 63, 127, 255, 511, 511, 511, 3583, 8191, 511, 32767, 65535]) (sp := [det _ 103 _, det _ 104 _, det _ 105 (.bool (false)), det _ 106 _, det _ 107 _, det _ 108 _, det _ 109 (.bool (false)), det _ 110 _, det _ 111 _, det _ 112 _, det _ 113 _, det _ 114 _, own EditE 45 _ 2 115 ([(xa, xa + yb, (⟨#[117]⟩ : ByteArray)), (xb, xb + ya, (⟨#[118]⟩ : ByteArray))]), det _ 116 _, det _ 117 _, det _ 118 (.bool (false)), det _ 119 _]) [ib r0, ib r1, Ini.any _, io r3] mixed st41 (by kernel_rfl) ⟨r0, r1, trivial, r3, trivial⟩
    ⟨Ob.d fun c => r_move rfl (c.p e15),
    Ob.d fun c => r_move rfl (c.p e12),
    Ob.d (v := (.bool (false))) fun c => Runs.isB (b := !decide ((3 : Int) = (3 : Int))) (r_neq rfl (c.n 0 rfl) (c.n 1 rfl)) (by decide),
    Ob.d fun c => r_move rfl (c.n 2 rfl),
    Ob.lv 3 (Ob.d fun c => r_move rfl (c.p e17)),
    Ob.lv 3 (Ob.d fun c => r_move rfl (c.p e12)),
    Ob.lv 3 (Ob.d (v := (.bool (false))) fun c => Runs.isB (b := !decide ((3 : Int) = (3 : Int))) (r_neq rfl (c.n 4 rfl) (c.n 5 rfl)) (by decide)),
    Ob.d fun c => r_pick rfl (c.n 3 rfl) (fun h => by cases h) (fun _ => c.n 6 rfl),
    Ob.d fun c => r_move rfl (c.n 7 rfl),
    Ob.lv 8 (Ob.d fun c => r_move rfl (c.p e9)),
    Ob.lv 8 (Ob.d fun c => r_loadN (vs := [(.int .i64 (xa)), (.int .i64 (xa + yb)), (.string ((⟨#[117]⟩ : ByteArray)))]) rfl Try.isAgg45 Try.sizeOf45 ((c.p e10).trans r0.ptr) rfl (fun _ _ hj => (c.ib 0 rfl).cell hj)),
    Ob.lv 8 (Ob.d fun c => r_loadN (vs := [(.int .i64 (xb)), (.int .i64 (xb + ya)), (.string ((⟨#[118]⟩ : ByteArray)))]) rfl Try.isAgg45 Try.sizeOf45 ((c.p e11).trans r1.ptr) rfl (fun _ _ hj => (c.ib 1 rfl).cell hj)),
    Ob.lv 8 (Ob.buildSlice (cells := #[(.int .i64 (xa)), (.int .i64 (xa + yb)), (.string ((⟨#[117]⟩ : ByteArray))), (.int .i64 (xb)), (.int .i64 (xb + ya)), (.string ((⟨#[118]⟩ : ByteArray)))]) rfl rfl rfl rfl Try.underlying22 Try.sizeOf45 Try.zeroValue45 rfl (by decide) (by decide) (fun _ _ _ _ c => fill2 (c.n 10 rfl) (c.n 11 rfl) (by kernel_rfl)) rfl),
    Ob.lv 8 (Ob.c fun c => ⟨_, _, (e_call2 rfl rfl Try.call19 (c.n 9 rfl) (eval_tmp _ 115)), mayE_c (m : Int) _ ([(xa, xa + yb, (⟨#[117]⟩ : ByteArray)), (xb, xb + ya, (⟨#[118]⟩ : ByteArray))]) _ (c.ro 12 rfl).1.sl (by first | omega | (rw [sizes_cons, sizes_one]; simp only []; omega) | (simp only [List.length_cons, List.length_nil]; omega))⟩),
    Ob.lv 8 (Ob.d fun c => r_move rfl (c.p e12)),
    Ob.lv 8 (Ob.d (v := (.bool (false))) fun c => Runs.isB (b := !decide (mayEd (m : Int) ([(xa, xa + yb, (⟨#[117]⟩ : ByteArray)), (xb, xb + ya, (⟨#[118]⟩ : ByteArray))]) = (3 : Int))) (r_neq rfl (c.n 13 rfl) (c.n 14 rfl)) (by rw [← hss, hM]; decide)),
    Ob.d fun c => r_pick rfl (c.n 8 rfl) (fun h => by cases h) (fun _ => c.n 15 rfl), trivial⟩ ?_
   intro a42 w42 τ42 st42 f42
   obtain ⟨b42x115, e115⟩ : ∃ b, get a42 115 = b := ⟨_, rfl⟩
   obtain ⟨e8, e12, e14, e16, -⟩ := f42.ks [(8, _), (12, _), (14, _), (16, _)] ⟨e8, e12, e14, e16, trivial⟩
   have e119 : get a42 119 = (.bool (false)) := f42.v 16 rfl
   replace r3 := f42.io 3 rfl
   clear f42
   show Code.wp _ _ _ a42 w42
   refine wp_cond_false e119 ?_
   refine wp_skip ?_
   show Code.wp _ _ _ a42 w42
   refine wp_seq ?_
   refine region_St (bf := [0, 1, 3, 7, 15, 31, 63, 127, 255, 511, 1023, 2047, 4095, 8191, 16383]) (sp := [det _ 120 _, det _ 121 _, det _ 122 _, gdet _ 123 _ _, gdet _ 124 _ _, gdet _ 125 _ _, gdet _ 126 _ _, gdet _ 127 _ _, gdet _ 128 _ _, gdet _ 129 _ _, det _ 130 _, det _ 131 _, gdet _ 132 _ _, det _ 133 _, det _ 8 _]) [Ini.any _, Ini.any _, Ini.any _, io r3] mixed st42 (by kernel_rfl) ⟨trivial, trivial, trivial, r3, trivial⟩
    ⟨Ob.d fun c => r_move rfl (c.p e12),
    Ob.d fun c => r_eql rfl (c.n 0 rfl) rfl,
    Ob.d fun c => r_move rfl (c.n 1 rfl),
    Ob.g 2 false rfl fun c hpc => r_move rfl (c.p e14),
    Ob.g 2 false rfl fun c hpc => r_seql rfl (c.m 3 rfl hpc) rfl,
    Ob.g 2 false rfl fun c hpc => r_move rfl (c.m 4 rfl hpc),
    Ob.gg 5 true rfl fun c hpc => r_move rfl (c.p e16),
    Ob.gg 5 true rfl fun c hpc => r_len rfl Try.underlying22 (c.m 6 rfl hpc) r3.isSl,
    Ob.gg 5 true rfl fun c hpc => r_eql rfl (c.m 7 rfl hpc) rfl,
    Ob.g 2 false rfl fun c hpc => r_and rfl (c.m 5 rfl hpc) (fun h => c.m 8 rfl (And.intro hpc h)),
    Ob.d fun c => r_or rfl (c.n 2 rfl) (fun h => c.m 9 rfl h),
    Ob.d fun c => r_move rfl (c.n 10 rfl),
    Ob.gc 11 true rfl fun c hpc => ⟨_, _, (e_call0 rfl rfl Try.call14), awake_c _⟩,
    Ob.d fun c => r_and rfl (c.n 11 rfl) (fun h => c.m 12 rfl h),
    Ob.d fun c => r_assign rfl (c.n 13 rfl), trivial⟩ ?_
   intro a43 w43 τ43 st43 f43
   obtain ⟨e12, -⟩ := f43.ks [(12, _)] ⟨e12, trivial⟩
   have e8 : get a43 8 = (.bool (((decide ((3 : Int) = 0)) || ((eqT (⟨#[]⟩ : ByteArray) (⟨#[]⟩ : ByteArray)) && (decide ((([]).length : Int) = 0)))) && true)) := f43.v 14 rfl
   clear f43
   show Code.wp _ _ _ a43 w43
   refine wp_ret ?_
   repeat (first | with_reducible refine then_ret ?_ | with_reducible refine block_ret ?_)
   refine ret1 (fn := Try.f10) rfl st43.defers e8 ?_
   exact ⟨congrArg _ (congrArg _ (show (((decide ((3 : Int) = 0)) || ((eqT (⟨#[]⟩ : ByteArray) (⟨#[]⟩ : ByteArray)) && (decide ((([]).length : Int) = 0)))) && true) = true from by simp [eqT_self])), st43.ext0⟩
 try simp only [Bool.or_eq_false_iff, decide_eq_false_iff_not, Int.not_lt] at hc10
 refine wp_seq ?_
 refine region_St (bf := [0, 1, 0, 4, 15, 31, 63, 127]) (sp := [det _ 63 _, det _ 64 _, det _ 65 _, det _ 66 _, own SpanE 43 _ 2 67 ([(xa, xa + yb), (xb, xb + ya)]), det _ 68 _, det _ 69 _, det _ 62 _]) [ib r0, ib r1] mixed st37 (by kernel_rfl) ⟨r0, r1, trivial⟩
  ⟨Ob.d fun c => r_fieldAddr rfl Try.underlying45 rfl rfl Try.sizeOf43 ((c.p e10).trans r0.ptr),
  Ob.d fun c => r_loadN (vs := [(.int .i64 (xa)), (.int .i64 (xa + yb))]) rfl Try.isAgg43 Try.sizeOf43 (c.n 0 rfl) rfl (fun j_ _ hj => by rw [add_add]; exact (c.ib 0 rfl).cell (j := 0 + j_) (part_cells (l := [(.int .i64 (xa)), (.int .i64 (xa + yb)), (.string ((⟨#[117]⟩ : ByteArray)))]) (o := 0) (n := 2) rfl hj)),
  Ob.d fun c => r_fieldAddr rfl Try.underlying45 rfl rfl Try.sizeOf43 ((c.p e11).trans r1.ptr),
  Ob.d fun c => r_loadN (vs := [(.int .i64 (xb)), (.int .i64 (xb + ya))]) rfl Try.isAgg43 Try.sizeOf43 (c.n 2 rfl) rfl (fun j_ _ hj => by rw [add_add]; exact (c.ib 1 rfl).cell (j := 0 + j_) (part_cells (l := [(.int .i64 (xb)), (.int .i64 (xb + ya)), (.string ((⟨#[118]⟩ : ByteArray)))]) (o := 0) (n := 2) rfl hj)),
  Ob.buildSlice (cells := #[(.int .i64 (xa)), (.int .i64 (xa + yb)), (.int .i64 (xb)), (.int .i64 (xb + ya))]) rfl rfl rfl rfl Try.underlying53 Try.sizeOf43 Try.zeroValue43 rfl (by decide) (by decide) (fun _ _ _ _ c => fill2 (c.n 1 rfl) (c.n 3 rfl) (by kernel_rfl)) rfl,
  Ob.c fun c => ⟨_, _, (e_call1 rfl rfl Try.call29 (eval_tmp _ 67)), refApart_c _ ([(xa, xa + yb), (xb, xb + ya)]) _ (c.ro 4 rfl).1.sl (by first | omega | (rw [sizes_cons, sizes_one]; simp only []; omega) | (simp only [List.length_cons, List.length_nil]; omega))⟩,
  Ob.d fun c => r_not rfl (c.n 5 rfl),
  Ob.d fun c => r_assign rfl (c.n 6 rfl), trivial⟩ ?_
 intro a44 w44 τ44 st44 f44
 obtain ⟨b44x67, e67⟩ : ∃ b, get a44 67 = b := ⟨_, rfl⟩
 obtain ⟨e3, e8, e9, e10, e11, e12, -⟩ := f44.ks [(3, _), (8, _), (9, _), (10, _), (11, _), (12, _)] ⟨e3, e8, e9, e10, e11, e12, trivial⟩
 have e62 : get a44 62 = (.bool (!(apartR (isort lessB ([(xa, xa + yb), (xb, xb + ya)]))))) := f44.v 7 rfl
 replace r0 := f44.ib 0 rfl
 replace r1 := f44.ib 1 rfl
 clear f44
 show Code.wp _ _ _ a44 w44
 refine wp_cond_split (t := !(apartR (isort lessB ([(xa, xa + yb), (xb, xb + ya)])))) e62 (fun hc12 => ?_) (fun hc12 => ?_)
 · have hd12 := hc12; try simp only [Bool.not_eq_true', Bool.not_eq_false'] at hd12
   refine region_St (bf := [0]) (sp := [det _ 12 _]) [ib r0, ib r1] mixed st44 (by kernel_rfl) ⟨r0, r1, trivial⟩
    ⟨Ob.d fun c => r_assign rfl rfl, trivial⟩ ?_
   intro a45 w45 τ45 st45 f45
   obtain ⟨e3, e8, e9, e10, e11, -⟩ := f45.ks [(3, _), (8, _), (9, _), (10, _), (11, _)] ⟨e3, e8, e9, e10, e11, trivial⟩
   have e12 : get a45 12 = (.int .i64 (5)) := f45.v 0 rfl
   replace r0 := f45.ib 0 rfl
   replace r1 := f45.ib 1 rfl
   clear f45
   show _
   show Code.wp _ _ _ a45 w45
   refine wp_seq ?_
   have hdg : ((((⟨#[48, 49, 50, 51, 52, 53, 54, 55, 56, 57, 48, 49, 50, 51, 52, 53, 54, 55, 56, 57, 48, 49, 50, 51, 52, 53, 54, 55, 56, 57, 48, 49, 50, 51, 52, 53, 54, 55, 56, 57]⟩ : ByteArray))).size : Int) = 40 := rfl
   refine region_St (bf := [0, 1, 3]) (sp := [det _ 85 _, det _ 86 _, det _ 13 _]) [ib r0, ib r1] mixed st45 (by kernel_rfl) ⟨r0, r1, trivial⟩
    ⟨Ob.d fun c => r_move rfl (c.p e9),
    Ob.d fun c => r_subHi (s := (⟨#[48, 49, 50, 51, 52, 53, 54, 55, 56, 57, 48, 49, 50, 51, 52, 53, 54, 55, 56, 57, 48, 49, 50, 51, 52, 53, 54, 55, 56, 57, 48, 49, 50, 51, 52, 53, 54, 55, 56, 57]⟩ : ByteArray)) (q := (m : Int)) rfl Try.underlying9 (by kernel_rfl) (c.n 0 rfl) (by first | omega | (rw [sizes_cons, sizes_one]; simp only []; omega) | (simp only [List.length_cons, List.length_nil]; omega)) (by first | omega | (rw [sizes_cons, sizes_one]; simp only []; omega) | (simp only [List.length_cons, List.length_nil]; omega)),
    Ob.d fun c => r_assign rfl (c.n 1 rfl), trivial⟩ ?_
   intro a46 w46 τ46 st46 f46
   obtain ⟨e8, e9, e10, e11, e12, -⟩ := f46.ks [(8, _), (9, _), (10, _), (11, _), (12, _)] ⟨e8, e9, e10, e11, e12, trivial⟩
   have e13 : get a46 13 = (.string ((⟨#[48, 49, 50, 51, 52, 53, 54, 55, 56, 57, 48, 49, 50, 51, 52, 53, 54, 55, 56, 57, 48, 49, 50, 51, 52, 53, 54, 55, 56, 57, 48, 49, 50, 51, 52, 53, 54, 55, 56, 57]⟩ : ByteArray).extract 0 m)) := f46.v 2 rfl
   replace r0 := f46.ib 0 rfl
   replace r1 := f46.ib 1 rfl
   clear f46
   obtain ⟨sv, hsv⟩ : ∃ x_, (⟨#[48, 49, 50, 51, 52, 53, 54, 55, 56, 57, 48, 49, 50, 51, 52, 53, 54, 55, 56, 57, 48, 49, 50, 51, 52, 53, 54, 55, 56, 57, 48, 49, 50, 51, 52, 53, 54, 55, 56, 57]⟩ : ByteArray).extract 0 m = x_ := ⟨_, rfl⟩
   rw [hsv] at e13
   have hss : (sv.size : Int) = (m : Int) := by
     rw [← hsv, ByteArray.size_extract]
     omega
   have hM : mayEd (sv.size : Int) [(xa, xa + yb, (⟨#[117]⟩ : ByteArray)), (xb, xb + ya, (⟨#[118]⟩ : ByteArray))] = (5 : Int) := by rw [hss]; exact codes_5 (by omega) (by omega) (by assumption)
   have hO := codes_out (s := sv) (es := [(xa, xa + yb, (⟨#[117]⟩ : ByteArray)), (xb, xb + ya, (⟨#[118]⟩ : ByteArray))]) (by rw [hM]; decide)
   show Code.wp _ _ _ a46 w46
   refine wp_seq ?_
   refine region_St (bf := [0, 0, 0, 6, 15, 31, 63, 63, 127, 511]) (sp := [det _ 88 _, det _ 89 _, det _ 90 _, own EditE 45 _ 2 91 ([(xa, xa + yb, (⟨#[117]⟩ : ByteArray)), (xb, xb + ya, (⟨#[118]⟩ : ByteArray))]), det _ 92 _, det _ 87 _, det _ 93 _, det _ 94 _, det _ 14 _, det _ 15 _]) [ib r0, ib r1] mixed st46 (by kernel_rfl) ⟨r0, r1, trivial⟩
    ⟨Ob.d fun c => r_move rfl (c.p e13),
    Ob.d fun c => r_loadN (vs := [(.int .i64 (xa)), (.int .i64 (xa + yb)), (.string ((⟨#[117]⟩ : ByteArray)))]) rfl Try.isAgg45 Try.sizeOf45 ((c.p e10).trans r0.ptr) rfl (fun _ _ hj => (c.ib 0 rfl).cell hj),
    Ob.d fun c => r_loadN (vs := [(.int .i64 (xb)), (.int .i64 (xb + ya)), (.string ((⟨#[118]⟩ : ByteArray)))]) rfl Try.isAgg45 Try.sizeOf45 ((c.p e11).trans r1.ptr) rfl (fun _ _ hj => (c.ib 1 rfl).cell hj),
    Ob.buildSlice (cells := #[(.int .i64 (xa)), (.int .i64 (xa + yb)), (.string ((⟨#[117]⟩ : ByteArray))), (.int .i64 (xb)), (.int .i64 (xb + ya)), (.string ((⟨#[118]⟩ : ByteArray)))]) rfl rfl rfl rfl Try.underlying22 Try.sizeOf45 Try.zeroValue45 rfl (by decide) (by decide) (fun _ _ _ _ c => fill2 (c.n 1 rfl) (c.n 2 rfl) (by kernel_rfl)) rfl,
    Ob.c fun c => ⟨_, _, (e_call2 rfl rfl Try.call15 (c.n 0 rfl) (eval_tmp _ 91)), applyE_c sv _ ([(xa, xa + yb, (⟨#[117]⟩ : ByteArray)), (xb, xb + ya, (⟨#[118]⟩ : ByteArray))]) _ (c.ro 3 rfl).1.sl (by first | omega | (rw [sizes_cons, sizes_one]; simp only []; omega) | (simp only [List.length_cons, List.length_nil]; omega)) (by first | omega | (rw [sizes_cons, sizes_one]; simp only []; omega) | (simp only [List.length_cons, List.length_nil]; omega)) (by first | omega | (rw [sizes_cons, sizes_one]; simp only []; omega) | (simp only [List.length_cons, List.length_nil]; omega))⟩,
    Ob.d fun c => r_move rfl (c.n 4 rfl),
    Ob.d fun c => r_extract rfl (c.n 5 rfl) rfl,
    Ob.d fun c => r_extract rfl (c.n 5 rfl) rfl,
    Ob.d fun c => r_assign rfl (c.n 6 rfl),
    Ob.d fun c => r_assign rfl (c.n 7 rfl), trivial⟩ ?_
   intro a47 w47 τ47 st47 f47
   obtain ⟨b47x91, e91⟩ : ∃ b, get a47 91 = b := ⟨_, rfl⟩
   obtain ⟨e8, e9, e10, e11, e12, e13, -⟩ := f47.ks [(8, _), (9, _), (10, _), (11, _), (12, _), (13, _)] ⟨e8, e9, e10, e11, e12, e13, trivial⟩
   have e14 : get a47 14 = (.string (applyF sv ([(xa, xa + yb, (⟨#[117]⟩ : ByteArray)), (xb, xb + ya, (⟨#[118]⟩ : ByteArray))]))) := f47.v 8 rfl
   have e15 : get a47 15 = (.int .i64 (mayEd (sv.size : Int) ([(xa, xa + yb, (⟨#[117]⟩ : ByteArray)), (xb, xb + ya, (⟨#[118]⟩ : ByteArray))]))) := f47.v 9 rfl
   replace r0 := f47.ib 0 rfl
   replace r1 := f47.ib 1 rfl
   clear f47
   replace e15 := e15.trans (int_eq (show mayEd (sv.size : Int) ([(xa, xa + yb, (⟨#[117]⟩ : ByteArray)), (xb, xb + ya, (⟨#[118]⟩ : ByteArray))]) = ((5 : Int) : Int) from by exact hM))
   replace e14 := e14.trans (congrArg Value.string (show applyF sv ([(xa, xa + yb, (⟨#[117]⟩ : ByteArray)), (xb, xb + ya, (⟨#[118]⟩ : ByteArray))]) = (⟨#[]⟩ : ByteArray) from by exact hO.1))
   show Code.wp _ _ _ a47 w47
   refine wp_seq ?_
   refine region_St (bf := [0, 0, 0, 6, 15, 31, 63, 63, 127, 511]) (sp := [det _ 96 _, det _ 97 _, det _ 98 _, own EditE 45 _ 2 99 ([(xa, xa + yb, (⟨#[117]⟩ : ByteArray)), (xb, xb + ya, (⟨#[118]⟩ : ByteArray))]), tup _ _ _ 3 100 _ _, tup _ _ _ 3 95 _ _, own _ _ _ 3 101 _, det _ 102 _, own _ _ _ 3 16 _, det _ 17 _]) [ib r0, ib r1] mixed st47 (by kernel_rfl) ⟨r0, r1, trivial⟩
    ⟨Ob.d fun c => r_move rfl (c.p e13),
    Ob.d fun c => r_loadN (vs := [(.int .i64 (xa)), (.int .i64 (xa + yb)), (.string ((⟨#[117]⟩ : ByteArray)))]) rfl Try.isAgg45 Try.sizeOf45 ((c.p e10).trans r0.ptr) rfl (fun _ _ hj => (c.ib 0 rfl).cell hj),
    Ob.d fun c => r_loadN (vs := [(.int .i64 (xb)), (.int .i64 (xb + ya)), (.string ((⟨#[118]⟩ : ByteArray)))]) rfl Try.isAgg45 Try.sizeOf45 ((c.p e11).trans r1.ptr) rfl (fun _ _ hj => (c.ib 1 rfl).cell hj),
    Ob.buildSlice (cells := #[(.int .i64 (xa)), (.int .i64 (xa + yb)), (.string ((⟨#[117]⟩ : ByteArray))), (.int .i64 (xb)), (.int .i64 (xb + ya)), (.string ((⟨#[118]⟩ : ByteArray)))]) rfl rfl rfl rfl Try.underlying22 Try.sizeOf45 Try.zeroValue45 rfl (by decide) (by decide) (fun _ _ _ _ c => fill2 (c.n 1 rfl) (c.n 2 rfl) (by kernel_rfl)) rfl,
    Ob.callTup rfl rfl rfl (fun _ a_ _ _ c => ⟨_, _, (e_call2 rfl rfl Try.call17 (c.n 0 rfl) (eval_tmp _ 99)), backE_c sv _ ([(xa, xa + yb, (⟨#[117]⟩ : ByteArray)), (xb, xb + ya, (⟨#[118]⟩ : ByteArray))]) _ (c.ro 3 rfl).1.sl (by first | omega | (rw [sizes_cons, sizes_one]; simp only []; omega) | (simp only [List.length_cons, List.length_nil]; omega)) (by first | omega | (rw [sizes_cons, sizes_one]; simp only []; omega) | (simp only [List.length_cons, List.length_nil]; omega)) (by first | omega | (rw [sizes_cons, sizes_one]; simp only []; omega) | (simp only [List.length_cons, List.length_nil]; omega))⟩),
    Ob.moveT (t0 := 100) rfl rfl rfl rfl rfl (.inl rfl) (fun _ _ _ _ c => ⟨c.rtup 4 rfl rfl (by kernel_rfl), rfl⟩),
    Ob.part0 (t0 := 95) (k := (.int .i64 (mayEd (sv.size : Int) ([(xa, xa + yb, (⟨#[117]⟩ : ByteArray)), (xb, xb + ya, (⟨#[118]⟩ : ByteArray))])))) rfl rfl rfl rfl (fun _ _ _ _ c => c.rtup 5 rfl rfl (by kernel_rfl)),
    Ob.d fun c => c.part1 5 rfl rfl rfl,
    Ob.moveT (t0 := 101) rfl rfl rfl rfl rfl (.inr rfl) (fun _ _ _ _ c => ⟨c.ro 6 rfl, rfl⟩),
    Ob.d fun c => r_assign rfl (c.n 7 rfl), trivial⟩ ?_
   intro a48 w48 τ48 st48 f48
   obtain ⟨b48x99, e99⟩ : ∃ b, get a48 99 = b := ⟨_, rfl⟩
   obtain ⟨b48x16, e16⟩ : ∃ b, get a48 16 = b := ⟨_, rfl⟩
   obtain ⟨e8, e9, e10, e11, e12, e14, e15, -⟩ := f48.ks [(8, _), (9, _), (10, _), (11, _), (12, _), (14, _), (15, _)] ⟨e8, e9, e10, e11, e12, e14, e15, trivial⟩
   have e17 : get a48 17 = (.int .i64 (mayEd (sv.size : Int) ([(xa, xa + yb, (⟨#[117]⟩ : ByteArray)), (xb, xb + ya, (⟨#[118]⟩ : ByteArray))]))) := f48.v 9 rfl
   replace r0 := f48.ib 0 rfl
   replace r1 := f48.ib 1 rfl
   have r3 : ownR EditE 45 (backF sv ([(xa, xa + yb, (⟨#[117]⟩ : ByteArray)), (xb, xb + ya, (⟨#[118]⟩ : ByteArray))])) (τ48 3) b48x16 w48 := f48.ro 8 e16 rfl
   clear f48
   replace e17 := e17.trans (int_eq (show mayEd (sv.size : Int) ([(xa, xa + yb, (⟨#[117]⟩ : ByteArray)), (xb, xb + ya, (⟨#[118]⟩ : ByteArray))]) = ((5 : Int) : Int) from by exact hM))
   replace r3 := r3.cast (show [] = backF sv ([(xa, xa + yb, (⟨#[117]⟩ : ByteArray)), (xb, xb + ya, (⟨#[118]⟩ : ByteArray))]) from by exact hO.2.symm)
   show Code.wp _ _ _ a48 w48
   refine wp_seq ?_
   refine wp_seq ?_
   refine region_St (bf := [0, 0, 3, 7, 15, 15, 63, 127, 255, 511, 511, 511, 3583, 8191, 511, 32767, 65535]) (sp := [det _ 103 _, det _ 104 _, det _ 105 (.bool (false)), det _ 106 _, det _ 107 _, det _ 108 _, det _ 109 (.bool (false)), det _ 110 _, det _ 111 _, det _ 112 _, det _ 113 _, det _ 114 _, own EditE 45 _ 2 115 ([(xa, xa + yb, (⟨#[117]⟩ : ByteArray)), (xb, xb + ya, (⟨#[118]⟩ : ByteArray))]), det _ 116 _, det _ 117 _, det _ 118 (.bool (false)), det _ 119 _]) [ib r0, ib r1, Ini.any _, io r3] mixed st48 (by kernel_rfl) ⟨r0, r1, trivial, r3, trivial⟩
    ⟨Ob.d fun c => r_move rfl (c.p e15),
    Ob.d fun c => r_move rfl (c.p e12),
    Ob.d (v := (.bool (false))) fun c => Runs.isB (b := !decide ((5 : Int) = (5 : Int))) (r_neq rfl (c.n 0 rfl) (c.n 1 rfl)) (by decide),
    Ob.d fun c => r_move rfl (c.n 2 rfl),
    Ob.lv 3 (Ob.d fun c => r_move rfl (c.p e17)),
    Ob.lv 3 (Ob.d fun c => r_move rfl (c.p e12)),
    Ob.lv 3 (Ob.d (v := (.bool (false))) fun c => Runs.isB (b := !decide ((5 : Int) = (5 : Int))) (r_neq rfl (c.n 4 rfl) (c.n 5 rfl)) (by decide)),
    Ob.d fun c => r_pick rfl (c.n 3 rfl) (fun h => by cases h) (fun _ => c.n 6 rfl),
    Ob.d fun c => r_move rfl (c.n 7 rfl),
    Ob.lv 8 (Ob.d fun c => r_move rfl (c.p e9)),
    Ob.lv 8 (Ob.d fun c => r_loadN (vs := [(.int .i64 (xa)), (.int .i64 (xa + yb)), (.string ((⟨#[117]⟩ : ByteArray)))]) rfl Try.isAgg45 Try.sizeOf45 ((c.p e10).trans r0.ptr) rfl (fun _ _ hj => (c.ib 0 rfl).cell hj)),
    Ob.lv 8 (Ob.d fun c => r_loadN (vs := [(.int .i64 (xb)), (.int .i64 (xb + ya)), (.string ((⟨#[118]⟩ : ByteArray)))]) rfl Try.isAgg45 Try.sizeOf45 ((c.p e11).trans r1.ptr) rfl (fun _ _ hj => (c.ib 1 rfl).cell hj)),
    Ob.lv 8 (Ob.buildSlice (cells := #[(.int .i64 (xa)), (.int .i64 (xa + yb)), (.string ((⟨#[117]⟩ : ByteArray))), (.int .i64 (xb)), (.int .i64 (xb + ya)), (.string ((⟨#[118]⟩ : ByteArray)))]) rfl rfl rfl rfl Try.underlying22 Try.sizeOf45 Try.zeroValue45 rfl (by decide) (by decide) (fun _ _ _ _ c => fill2 (c.n 10 rfl) (c.n 11 rfl) (by kernel_rfl)) rfl),
    Ob.lv 8 (Ob.c fun c => ⟨_, _, (e_call2 rfl rfl Try.call19 (c.n 9 rfl) (eval_tmp _ 115)), mayE_c (m : Int) _ ([(xa, xa + yb, (⟨#[117]⟩ : ByteArray)), (xb, xb + ya, (⟨#[118]⟩ : ByteArray))]) _ (c.ro 12 rfl).1.sl (by first | omega | (rw [sizes_cons, sizes_one]; simp only []; omega) | (simp only [List.length_cons, List.length_nil]; omega))⟩),
    Ob.lv 8 (Ob.d fun c => r_move rfl (c.p e12)),
    Ob.lv 8 (Ob.d (v := (.bool (false))) fun c => Runs.isB (b := !decide (mayEd (m : Int) ([(xa, xa + yb, (⟨#[117]⟩ : ByteArray)), (xb, xb + ya, (⟨#[118]⟩ : ByteArray))]) = (5 : Int))) (r_neq rfl (c.n 13 rfl) (c.n 14 rfl)) (by rw [← hss, hM]; decide)),
    Ob.d fun c => r_pick rfl (c.n 8 rfl) (fun h => by cases h) (fun _ => c.n 15 rfl), trivial⟩ ?_
   intro a49 w49 τ49 st49 f49
   obtain ⟨b49x115, e115⟩ : ∃ b, get a49 115 = b := ⟨_, rfl⟩
   obtain ⟨e8, e12, e14, e16, -⟩ := f49.ks [(8, _), (12, _), (14, _), (16, _)] ⟨e8, e12, e14, e16, trivial⟩
   have e119 : get a49 119 = (.bool (false)) := f49.v 16 rfl
   replace r3 := f49.io 3 rfl
   clear f49
   show Code.wp _ _ _ a49 w49
   refine wp_cond_false e119 ?_
   refine wp_skip ?_
   show Code.wp _ _ _ a49 w49
   refine wp_seq ?_
   refine region_St (bf := [0, 1, 3, 7, 15, 31, 63, 127, 255, 511, 1023, 2047, 4095, 8191, 16383]) (sp := [det _ 120 _, det _ 121 _, det _ 122 _, gdet _ 123 _ _, gdet _ 124 _ _, gdet _ 125 _ _, gdet _ 126 _ _, gdet _ 127 _ _, gdet _ 128 _ _, gdet _ 129 _ _, det _ 130 _, det _ 131 _, gdet _ 132 _ _, det _ 133 _, det _ 8 _]) [Ini.any _, Ini.any _, Ini.any _, io r3] mixed st49 (by kernel_rfl) ⟨trivial, trivial, trivial, r3, trivial⟩
    ⟨Ob.d fun c => r_move rfl (c.p e12),
    Ob.d fun c => r_eql rfl (c.n 0 rfl) rfl,
    Ob.d fun c => r_move rfl (c.n 1 rfl),
    Ob.g 2 false rfl fun c hpc => r_move rfl (c.p e14),
    Ob.g 2 false rfl fun c hpc => r_seql rfl (c.m 3 rfl hpc) rfl,
    Ob.g 2 false rfl fun c hpc => r_move rfl (c.m 4 rfl hpc),
    Ob.gg 5 true rfl fun c hpc => r_move rfl (c.p e16),
    Ob.gg 5 true rfl fun c hpc => r_len rfl Try.underlying22 (c.m 6 rfl hpc) r3.isSl,
    Ob.gg 5 true rfl fun c hpc => r_eql rfl (c.m 7 rfl hpc) rfl,
    Ob.g 2 false rfl fun c hpc => r_and rfl (c.m 5 rfl hpc) (fun h => c.m 8 rfl (And.intro hpc h)),
    Ob.d fun c => r_or rfl (c.n 2 rfl) (fun h => c.m 9 rfl h),
    Ob.d fun c => r_move rfl (c.n 10 rfl),
    Ob.gc 11 true rfl fun c hpc => ⟨_, _, (e_call0 rfl rfl Try.call14), awake_c _⟩,
    Ob.d fun c => r_and rfl (c.n 11 rfl) (fun h => c.m 12 rfl h),
    Ob.d fun c => r_assign rfl (c.n 13 rfl), trivial⟩ ?_
   intro a50 w50 τ50 st50 f50
   obtain ⟨e12, -⟩ := f50.ks [(12, _)] ⟨e12, trivial⟩
   have e8 : get a50 8 = (.bool (((decide ((5 : Int) = 0)) || ((eqT (⟨#[]⟩ : ByteArray) (⟨#[]⟩ : ByteArray)) && (decide ((([]).length : Int) = 0)))) && true)) := f50.v 14 rfl
   clear f50
   show Code.wp _ _ _ a50 w50
   refine wp_ret ?_
   repeat (first | with_reducible refine then_ret ?_ | with_reducible refine block_ret ?_)
   refine ret1 (fn := Try.f10) rfl st50.defers e8 ?_
   exact ⟨congrArg _ (congrArg _ (show (((decide ((5 : Int) = 0)) || ((eqT (⟨#[]⟩ : ByteArray) (⟨#[]⟩ : ByteArray)) && (decide ((([]).length : Int) = 0)))) && true) = true from by simp [eqT_self])), st50.ext0⟩
 have hd13 := hc12; try simp only [Bool.not_eq_true', Bool.not_eq_false'] at hd13
 refine wp_seq ?_
 refine region_St (bf := [0, 1, 3, 3, 11, 27, 63, 3, 131, 443, 1023, 2047, 4095, 8191, 16383]) (sp := [det _ 71 _, det _ 72 _, unk _ 73, unk _ 74, unk _ 75, unk _ 76, unk _ 77, unk _ 78, unk _ 79, unk _ 80, unk _ 81, unk _ 82, unk _ 83, det _ 84 _, det _ 70 _]) [ib r0, ib r1] mixed st44 (by kernel_rfl) ⟨r0, r1, trivial⟩
  ⟨Ob.d fun c => r_move rfl (c.p e3),
  Ob.d fun c => r_move rfl (c.n 0 rfl),
  Ob.dd 1,
  Ob.dd 1,
  Ob.dd 1,
  Ob.dd 1,
  Ob.dd 1,
  Ob.dd 1,
  Ob.dd 1,
  Ob.dd 1,
  Ob.dd 1,
  Ob.dd 1,
  Ob.dd 1,
  Ob.d fun c => r_pick rfl (c.n 1 rfl) (fun h => by cases h) (fun _ => rfl),
  Ob.d fun c => r_assign rfl (c.n 13 rfl), trivial⟩ ?_
 intro a51 w51 τ51 st51 f51
 obtain ⟨e8, e9, e10, e11, e12, -⟩ := f51.ks [(8, _), (9, _), (10, _), (11, _), (12, _)] ⟨e8, e9, e10, e11, e12, trivial⟩
 have e70 : get a51 70 = (.bool (false)) := f51.v 14 rfl
 replace r0 := f51.ib 0 rfl
 replace r1 := f51.ib 1 rfl
 clear f51
 show Code.wp _ _ _ a51 w51
 refine wp_cond_false e70 ?_
 refine wp_skip ?_
 show _
 show Code.wp _ _ _ a51 w51
 refine wp_seq ?_
 have hdg : ((((⟨#[48, 49, 50, 51, 52, 53, 54, 55, 56, 57, 48, 49, 50, 51, 52, 53, 54, 55, 56, 57, 48, 49, 50, 51, 52, 53, 54, 55, 56, 57, 48, 49, 50, 51, 52, 53, 54, 55, 56, 57]⟩ : ByteArray))).size : Int) = 40 := rfl
 refine region_St (bf := [0, 1, 3]) (sp := [det _ 85 _, det _ 86 _, det _ 13 _]) [ib r0, ib r1] mixed st51 (by kernel_rfl) ⟨r0, r1, trivial⟩
  ⟨Ob.d fun c => r_move rfl (c.p e9),
  Ob.d fun c => r_subHi (s := (⟨#[48, 49, 50, 51, 52, 53, 54, 55, 56, 57, 48, 49, 50, 51, 52, 53, 54, 55, 56, 57, 48, 49, 50, 51, 52, 53, 54, 55, 56, 57, 48, 49, 50, 51, 52, 53, 54, 55, 56, 57]⟩ : ByteArray)) (q := (m : Int)) rfl Try.underlying9 (by kernel_rfl) (c.n 0 rfl) (by first | omega | (rw [sizes_cons, sizes_one]; simp only []; omega) | (simp only [List.length_cons, List.length_nil]; omega)) (by first | omega | (rw [sizes_cons, sizes_one]; simp only []; omega) | (simp only [List.length_cons, List.length_nil]; omega)),
  Ob.d fun c => r_assign rfl (c.n 1 rfl), trivial⟩ ?_
 intro a52 w52 τ52 st52 f52
 obtain ⟨e8, e9, e10, e11, e12, -⟩ := f52.ks [(8, _), (9, _), (10, _), (11, _), (12, _)] ⟨e8, e9, e10, e11, e12, trivial⟩
 have e13 : get a52 13 = (.string ((⟨#[48, 49, 50, 51, 52, 53, 54, 55, 56, 57, 48, 49, 50, 51, 52, 53, 54, 55, 56, 57, 48, 49, 50, 51, 52, 53, 54, 55, 56, 57, 48, 49, 50, 51, 52, 53, 54, 55, 56, 57]⟩ : ByteArray).extract 0 m)) := f52.v 2 rfl
 replace r0 := f52.ib 0 rfl
 replace r1 := f52.ib 1 rfl
 clear f52
 obtain ⟨sv, hsv⟩ : ∃ x_, (⟨#[48, 49, 50, 51, 52, 53, 54, 55, 56, 57, 48, 49, 50, 51, 52, 53, 54, 55, 56, 57, 48, 49, 50, 51, 52, 53, 54, 55, 56, 57, 48, 49, 50, 51, 52, 53, 54, 55, 56, 57]⟩ : ByteArray).extract 0 m = x_ := ⟨_, rfl⟩
 rw [hsv] at e13
 have hss : (sv.size : Int) = (m : Int) := by
   rw [← hsv, ByteArray.size_extract]
   omega
 have hM : mayEd (sv.size : Int) [(xa, xa + yb, (⟨#[117]⟩ : ByteArray)), (xb, xb + ya, (⟨#[118]⟩ : ByteArray))] = (0 : Int) := by rw [hss]; exact codes_0 (by omega) (by omega) (by omega) (by omega) (by omega) (by assumption) (by omega)
 show Code.wp _ _ _ a52 w52
 refine wp_seq ?_
 refine region_St (bf := [0, 0, 0, 6, 15, 31, 63, 63, 127, 511]) (sp := [det _ 88 _, det _ 89 _, det _ 90 _, own EditE 45 _ 2 91 ([(xa, xa + yb, (⟨#[117]⟩ : ByteArray)), (xb, xb + ya, (⟨#[118]⟩ : ByteArray))]), det _ 92 _, det _ 87 _, det _ 93 _, det _ 94 _, det _ 14 _, det _ 15 _]) [ib r0, ib r1] mixed st52 (by kernel_rfl) ⟨r0, r1, trivial⟩
  ⟨Ob.d fun c => r_move rfl (c.p e13),
  Ob.d fun c => r_loadN (vs := [(.int .i64 (xa)), (.int .i64 (xa + yb)), (.string ((⟨#[117]⟩ : ByteArray)))]) rfl Try.isAgg45 Try.sizeOf45 ((c.p e10).trans r0.ptr) rfl (fun _ _ hj => (c.ib 0 rfl).cell hj),
  Ob.d fun c => r_loadN (vs := [(.int .i64 (xb)), (.int .i64 (xb + ya)), (.string ((⟨#[118]⟩ : ByteArray)))]) rfl Try.isAgg45 Try.sizeOf45 ((c.p e11).trans r1.ptr) rfl (fun _ _ hj => (c.ib 1 rfl).cell hj),
  Ob.buildSlice (cells := #[(.int .i64 (xa)), (.int .i64 (xa + yb)), (.string ((⟨#[117]⟩ : ByteArray))), (.int .i64 (xb)), (.int .i64 (xb + ya)), (.string ((⟨#[118]⟩ : ByteArray)))]) rfl rfl rfl rfl Try.underlying22 Try.sizeOf45 Try.zeroValue45 rfl (by decide) (by decide) (fun _ _ _ _ c => fill2 (c.n 1 rfl) (c.n 2 rfl) (by kernel_rfl)) rfl,
  Ob.c fun c => ⟨_, _, (e_call2 rfl rfl Try.call15 (c.n 0 rfl) (eval_tmp _ 91)), applyE_c sv _ ([(xa, xa + yb, (⟨#[117]⟩ : ByteArray)), (xb, xb + ya, (⟨#[118]⟩ : ByteArray))]) _ (c.ro 3 rfl).1.sl (by first | omega | (rw [sizes_cons, sizes_one]; simp only []; omega) | (simp only [List.length_cons, List.length_nil]; omega)) (by first | omega | (rw [sizes_cons, sizes_one]; simp only []; omega) | (simp only [List.length_cons, List.length_nil]; omega)) (by first | omega | (rw [sizes_cons, sizes_one]; simp only []; omega) | (simp only [List.length_cons, List.length_nil]; omega))⟩,
  Ob.d fun c => r_move rfl (c.n 4 rfl),
  Ob.d fun c => r_extract rfl (c.n 5 rfl) rfl,
  Ob.d fun c => r_extract rfl (c.n 5 rfl) rfl,
  Ob.d fun c => r_assign rfl (c.n 6 rfl),
  Ob.d fun c => r_assign rfl (c.n 7 rfl), trivial⟩ ?_
 intro a53 w53 τ53 st53 f53
 obtain ⟨b53x91, e91⟩ : ∃ b, get a53 91 = b := ⟨_, rfl⟩
 obtain ⟨e8, e9, e10, e11, e12, e13, -⟩ := f53.ks [(8, _), (9, _), (10, _), (11, _), (12, _), (13, _)] ⟨e8, e9, e10, e11, e12, e13, trivial⟩
 have e14 : get a53 14 = (.string (applyF sv ([(xa, xa + yb, (⟨#[117]⟩ : ByteArray)), (xb, xb + ya, (⟨#[118]⟩ : ByteArray))]))) := f53.v 8 rfl
 have e15 : get a53 15 = (.int .i64 (mayEd (sv.size : Int) ([(xa, xa + yb, (⟨#[117]⟩ : ByteArray)), (xb, xb + ya, (⟨#[118]⟩ : ByteArray))]))) := f53.v 9 rfl
 replace r0 := f53.ib 0 rfl
 replace r1 := f53.ib 1 rfl
 clear f53
 replace e15 := e15.trans (int_eq (show mayEd (sv.size : Int) ([(xa, xa + yb, (⟨#[117]⟩ : ByteArray)), (xb, xb + ya, (⟨#[118]⟩ : ByteArray))]) = ((0 : Int) : Int) from by exact hM))
 show Code.wp _ _ _ a53 w53
 refine wp_seq ?_
 refine region_St (bf := [0, 0, 0, 6, 15, 31, 63, 63, 127, 511]) (sp := [det _ 96 _, det _ 97 _, det _ 98 _, own EditE 45 _ 2 99 ([(xa, xa + yb, (⟨#[117]⟩ : ByteArray)), (xb, xb + ya, (⟨#[118]⟩ : ByteArray))]), tup _ _ _ 3 100 _ _, tup _ _ _ 3 95 _ _, own _ _ _ 3 101 _, det _ 102 _, own _ _ _ 3 16 _, det _ 17 _]) [ib r0, ib r1] mixed st53 (by kernel_rfl) ⟨r0, r1, trivial⟩
  ⟨Ob.d fun c => r_move rfl (c.p e13),
  Ob.d fun c => r_loadN (vs := [(.int .i64 (xa)), (.int .i64 (xa + yb)), (.string ((⟨#[117]⟩ : ByteArray)))]) rfl Try.isAgg45 Try.sizeOf45 ((c.p e10).trans r0.ptr) rfl (fun _ _ hj => (c.ib 0 rfl).cell hj),
  Ob.d fun c => r_loadN (vs := [(.int .i64 (xb)), (.int .i64 (xb + ya)), (.string ((⟨#[118]⟩ : ByteArray)))]) rfl Try.isAgg45 Try.sizeOf45 ((c.p e11).trans r1.ptr) rfl (fun _ _ hj => (c.ib 1 rfl).cell hj),
  Ob.buildSlice (cells := #[(.int .i64 (xa)), (.int .i64 (xa + yb)), (.string ((⟨#[117]⟩ : ByteArray))), (.int .i64 (xb)), (.int .i64 (xb + ya)), (.string ((⟨#[118]⟩ : ByteArray)))]) rfl rfl rfl rfl Try.underlying22 Try.sizeOf45 Try.zeroValue45 rfl (by decide) (by decide) (fun _ _ _ _ c => fill2 (c.n 1 rfl) (c.n 2 rfl) (by kernel_rfl)) rfl,
  Ob.callTup rfl rfl rfl (fun _ a_ _ _ c => ⟨_, _, (e_call2 rfl rfl Try.call17 (c.n 0 rfl) (eval_tmp _ 99)), backE_c sv _ ([(xa, xa + yb, (⟨#[117]⟩ : ByteArray)), (xb, xb + ya, (⟨#[118]⟩ : ByteArray))]) _ (c.ro 3 rfl).1.sl (by first | omega | (rw [sizes_cons, sizes_one]; simp only []; omega) | (simp only [List.length_cons, List.length_nil]; omega)) (by first | omega | (rw [sizes_cons, sizes_one]; simp only []; omega) | (simp only [List.length_cons, List.length_nil]; omega)) (by first | omega | (rw [sizes_cons, sizes_one]; simp only []; omega) | (simp only [List.length_cons, List.length_nil]; omega))⟩),
  Ob.moveT (t0 := 100) rfl rfl rfl rfl rfl (.inl rfl) (fun _ _ _ _ c => ⟨c.rtup 4 rfl rfl (by kernel_rfl), rfl⟩),
  Ob.part0 (t0 := 95) (k := (.int .i64 (mayEd (sv.size : Int) ([(xa, xa + yb, (⟨#[117]⟩ : ByteArray)), (xb, xb + ya, (⟨#[118]⟩ : ByteArray))])))) rfl rfl rfl rfl (fun _ _ _ _ c => c.rtup 5 rfl rfl (by kernel_rfl)),
  Ob.d fun c => c.part1 5 rfl rfl rfl,
  Ob.moveT (t0 := 101) rfl rfl rfl rfl rfl (.inr rfl) (fun _ _ _ _ c => ⟨c.ro 6 rfl, rfl⟩),
  Ob.d fun c => r_assign rfl (c.n 7 rfl), trivial⟩ ?_
 intro a54 w54 τ54 st54 f54
 obtain ⟨b54x99, e99⟩ : ∃ b, get a54 99 = b := ⟨_, rfl⟩
 obtain ⟨b54x16, e16⟩ : ∃ b, get a54 16 = b := ⟨_, rfl⟩
 obtain ⟨e8, e9, e10, e11, e12, e14, e15, -⟩ := f54.ks [(8, _), (9, _), (10, _), (11, _), (12, _), (14, _), (15, _)] ⟨e8, e9, e10, e11, e12, e14, e15, trivial⟩
 have e17 : get a54 17 = (.int .i64 (mayEd (sv.size : Int) ([(xa, xa + yb, (⟨#[117]⟩ : ByteArray)), (xb, xb + ya, (⟨#[118]⟩ : ByteArray))]))) := f54.v 9 rfl
 replace r0 := f54.ib 0 rfl
 replace r1 := f54.ib 1 rfl
 have r3 : ownR EditE 45 (backF sv ([(xa, xa + yb, (⟨#[117]⟩ : ByteArray)), (xb, xb + ya, (⟨#[118]⟩ : ByteArray))])) (τ54 3) b54x16 w54 := f54.ro 8 e16 rfl
 clear f54
 replace e17 := e17.trans (int_eq (show mayEd (sv.size : Int) ([(xa, xa + yb, (⟨#[117]⟩ : ByteArray)), (xb, xb + ya, (⟨#[118]⟩ : ByteArray))]) = ((0 : Int) : Int) from by exact hM))
 show Code.wp _ _ _ a54 w54
 refine wp_seq ?_
 refine wp_seq ?_
 refine region_St (bf := [0, 0, 3, 7, 15, 15, 63, 127, 255, 511, 511, 511, 3583, 8191, 511, 32767, 65535]) (sp := [det _ 103 _, det _ 104 _, det _ 105 (.bool (false)), det _ 106 _, det _ 107 _, det _ 108 _, det _ 109 (.bool (false)), det _ 110 _, det _ 111 _, det _ 112 _, det _ 113 _, det _ 114 _, own EditE 45 _ 2 115 ([(xa, xa + yb, (⟨#[117]⟩ : ByteArray)), (xb, xb + ya, (⟨#[118]⟩ : ByteArray))]), det _ 116 _, det _ 117 _, det _ 118 (.bool (false)), det _ 119 _]) [ib r0, ib r1, Ini.any _, io r3] mixed st54 (by kernel_rfl) ⟨r0, r1, trivial, r3, trivial⟩
  ⟨Ob.d fun c => r_move rfl (c.p e15),
  Ob.d fun c => r_move rfl (c.p e12),
  Ob.d (v := (.bool (false))) fun c => Runs.isB (b := !decide ((0 : Int) = (0 : Int))) (r_neq rfl (c.n 0 rfl) (c.n 1 rfl)) (by decide),
  Ob.d fun c => r_move rfl (c.n 2 rfl),
  Ob.lv 3 (Ob.d fun c => r_move rfl (c.p e17)),
  Ob.lv 3 (Ob.d fun c => r_move rfl (c.p e12)),
  Ob.lv 3 (Ob.d (v := (.bool (false))) fun c => Runs.isB (b := !decide ((0 : Int) = (0 : Int))) (r_neq rfl (c.n 4 rfl) (c.n 5 rfl)) (by decide)),
  Ob.d fun c => r_pick rfl (c.n 3 rfl) (fun h => by cases h) (fun _ => c.n 6 rfl),
  Ob.d fun c => r_move rfl (c.n 7 rfl),
  Ob.lv 8 (Ob.d fun c => r_move rfl (c.p e9)),
  Ob.lv 8 (Ob.d fun c => r_loadN (vs := [(.int .i64 (xa)), (.int .i64 (xa + yb)), (.string ((⟨#[117]⟩ : ByteArray)))]) rfl Try.isAgg45 Try.sizeOf45 ((c.p e10).trans r0.ptr) rfl (fun _ _ hj => (c.ib 0 rfl).cell hj)),
  Ob.lv 8 (Ob.d fun c => r_loadN (vs := [(.int .i64 (xb)), (.int .i64 (xb + ya)), (.string ((⟨#[118]⟩ : ByteArray)))]) rfl Try.isAgg45 Try.sizeOf45 ((c.p e11).trans r1.ptr) rfl (fun _ _ hj => (c.ib 1 rfl).cell hj)),
  Ob.lv 8 (Ob.buildSlice (cells := #[(.int .i64 (xa)), (.int .i64 (xa + yb)), (.string ((⟨#[117]⟩ : ByteArray))), (.int .i64 (xb)), (.int .i64 (xb + ya)), (.string ((⟨#[118]⟩ : ByteArray)))]) rfl rfl rfl rfl Try.underlying22 Try.sizeOf45 Try.zeroValue45 rfl (by decide) (by decide) (fun _ _ _ _ c => fill2 (c.n 10 rfl) (c.n 11 rfl) (by kernel_rfl)) rfl),
  Ob.lv 8 (Ob.c fun c => ⟨_, _, (e_call2 rfl rfl Try.call19 (c.n 9 rfl) (eval_tmp _ 115)), mayE_c (m : Int) _ ([(xa, xa + yb, (⟨#[117]⟩ : ByteArray)), (xb, xb + ya, (⟨#[118]⟩ : ByteArray))]) _ (c.ro 12 rfl).1.sl (by first | omega | (rw [sizes_cons, sizes_one]; simp only []; omega) | (simp only [List.length_cons, List.length_nil]; omega))⟩),
  Ob.lv 8 (Ob.d fun c => r_move rfl (c.p e12)),
  Ob.lv 8 (Ob.d (v := (.bool (false))) fun c => Runs.isB (b := !decide (mayEd (m : Int) ([(xa, xa + yb, (⟨#[117]⟩ : ByteArray)), (xb, xb + ya, (⟨#[118]⟩ : ByteArray))]) = (0 : Int))) (r_neq rfl (c.n 13 rfl) (c.n 14 rfl)) (by rw [← hss, hM]; decide)),
  Ob.d fun c => r_pick rfl (c.n 8 rfl) (fun h => by cases h) (fun _ => c.n 15 rfl), trivial⟩ ?_
 intro a55 w55 τ55 st55 f55
 obtain ⟨b55x115, e115⟩ : ∃ b, get a55 115 = b := ⟨_, rfl⟩
 obtain ⟨e8, e12, e14, e16, -⟩ := f55.ks [(8, _), (12, _), (14, _), (16, _)] ⟨e8, e12, e14, e16, trivial⟩
 have e119 : get a55 119 = (.bool (false)) := f55.v 16 rfl
 replace r3 := f55.io 3 rfl
 clear f55
 show Code.wp _ _ _ a55 w55
 refine wp_cond_false e119 ?_
 refine wp_skip ?_
 show Code.wp _ _ _ a55 w55
 refine wp_seq ?_
 refine region_St (bf := [0, 1, 3, 7, 15, 31, 63, 127, 255, 511, 1023, 2047, 4095, 8191, 16383]) (sp := [det _ 120 _, det _ 121 _, det _ 122 _, gdet _ 123 _ _, gdet _ 124 _ _, gdet _ 125 _ _, gdet _ 126 _ _, gdet _ 127 _ _, gdet _ 128 _ _, gdet _ 129 _ _, det _ 130 _, det _ 131 _, gdet _ 132 _ _, det _ 133 _, det _ 8 _]) [Ini.any _, Ini.any _, Ini.any _, io r3] mixed st55 (by kernel_rfl) ⟨trivial, trivial, trivial, r3, trivial⟩
  ⟨Ob.d fun c => r_move rfl (c.p e12),
  Ob.d fun c => r_eql rfl (c.n 0 rfl) rfl,
  Ob.d fun c => r_move rfl (c.n 1 rfl),
  Ob.g 2 false rfl fun c hpc => r_move rfl (c.p e14),
  Ob.g 2 false rfl fun c hpc => r_seql rfl (c.m 3 rfl hpc) rfl,
  Ob.g 2 false rfl fun c hpc => r_move rfl (c.m 4 rfl hpc),
  Ob.gg 5 true rfl fun c hpc => r_move rfl (c.p e16),
  Ob.gg 5 true rfl fun c hpc => r_len rfl Try.underlying22 (c.m 6 rfl hpc) r3.isSl,
  Ob.gg 5 true rfl fun c hpc => r_eql rfl (c.m 7 rfl hpc) rfl,
  Ob.g 2 false rfl fun c hpc => r_and rfl (c.m 5 rfl hpc) (fun h => c.m 8 rfl (And.intro hpc h)),
  Ob.d fun c => r_or rfl (c.n 2 rfl) (fun h => c.m 9 rfl h),
  Ob.d fun c => r_move rfl (c.n 10 rfl),
  Ob.gc 11 true rfl fun c hpc => ⟨_, _, (e_call0 rfl rfl Try.call14), awake_c _⟩,
  Ob.d fun c => r_and rfl (c.n 11 rfl) (fun h => c.m 12 rfl h),
  Ob.d fun c => r_assign rfl (c.n 13 rfl), trivial⟩ ?_
 intro a56 w56 τ56 st56 f56
 obtain ⟨e12, -⟩ := f56.ks [(12, _)] ⟨e12, trivial⟩
 have e8 : get a56 8 = (.bool (((decide ((0 : Int) = 0)) || ((eqT (applyF sv ([(xa, xa + yb, (⟨#[117]⟩ : ByteArray)), (xb, xb + ya, (⟨#[118]⟩ : ByteArray))])) (⟨#[]⟩ : ByteArray)) && (decide (((backF sv ([(xa, xa + yb, (⟨#[117]⟩ : ByteArray)), (xb, xb + ya, (⟨#[118]⟩ : ByteArray))])).length : Int) = 0)))) && true)) := f56.v 14 rfl
 clear f56
 show Code.wp _ _ _ a56 w56
 refine wp_ret ?_
 repeat (first | with_reducible refine then_ret ?_ | with_reducible refine block_ret ?_)
 refine ret1 (fn := Try.f10) rfl st56.defers e8 ?_
 exact ⟨congrArg _ (congrArg _ (show (((decide ((0 : Int) = 0)) || ((eqT (applyF sv ([(xa, xa + yb, (⟨#[117]⟩ : ByteArray)), (xb, xb + ya, (⟨#[118]⟩ : ByteArray))])) (⟨#[]⟩ : ByteArray)) && (decide (((backF sv ([(xa, xa + yb, (⟨#[117]⟩ : ByteArray)), (xb, xb + ya, (⟨#[118]⟩ : ByteArray))])).length : Int) = 0)))) && true) = true from by simp [eqT_self])), st56.ext0⟩
end B
end Go.Proofs.Ytfkjmkngiiokmaa
