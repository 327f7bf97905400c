/-
  Walks, printed by a program (gen.py): LSetLetters.
-/
import Derived.Test.YthaeepiichphjaaSetF
import Derived.Test.YthaeepiichphjaaRowP
set_option linter.unusedSimpArgs false
set_option linter.unusedVariables false
namespace Go.Proofs.Ythaeepiichphjaa
namespace B
open Go.RowKit
open Srt
set_option maxRecDepth 100000 in
set_option maxHeartbeats 4000000 in
theorem setLetters_c (v : Value) (xs : List (ByteArray × ByteArray)) (n : Int) (w : World) (hS : SlT RowE w v xs) : Calls Try.prog 8 #[v, (.int .i64 (n))] w (fun e w' => e = .returned (.bool (true)) ∧ Ext none' w w') := by
 refine enter (n := 46) Try.func8 rfl rfl (Nat.le_of_ble_eq_true rfl) ?_
 intro a0 τ0 ha st0
 have e0 : get a0 0 = v := ha 0 _ rfl
 have e1 : get a0 1 = (.int .i64 (n)) := ha 1 _ rfl
 clear ha
 have hle := hS.le
 refine wp_seq ?_
 refine region_St (bf := [0]) (sp := [det _ 4 _]) [] mixed st0 (by kernel_rfl) trivial
  ⟨Ob.d fun c => r_assign rfl rfl, trivial⟩ ?_
 intro a1 w1 τ1 st1 f1
 obtain ⟨e0, e1, -⟩ := f1.ks [(0, _), (1, _)] ⟨e0, e1, trivial⟩
 have e4 : get a1 4 = (.bool (false)) := f1.v 0 rfl
 clear f1
 show Code.wp _ _ _ a1 w1
 refine wp_seq ?_
 refine wp_seq ?_
 refine region_St (bf := [0, 1]) (sp := [det _ 9 _, det _ 10 _]) [] mixed st1 (by kernel_rfl) trivial
  ⟨Ob.d fun c => r_move rfl (c.p e0),
  Ob.c fun c => ⟨_, _, (e_call3 rfl rfl Try.call9 rfl rfl (c.n 0 rfl)), much_c 20 200 v xs _ (hS.at (st1.ext.trans c.J.ext)) (by first | omega | exact (u8w _).1 | exact (u8w _).2)⟩, trivial⟩ ?_
 intro a2 w2 τ2 st2 f2
 obtain ⟨e0, e1, e4, -⟩ := f2.ks [(0, _), (1, _), (4, _)] ⟨e0, e1, e4, trivial⟩
 have e10 : get a2 10 = (.bool (muchR 20 200 xs)) := f2.v 1 rfl
 clear f2
 show Code.wp _ _ _ a2 w2
 refine wp_cond_split (t := muchR 20 200 xs) e10 (fun hc1 => ?_) (fun hc1 => ?_)
 · skip
   refine wp_seq ?_
   refine region_St (bf := [0, 1]) (sp := [det _ 11 _, det _ 4 _]) [] mixed st2 (by kernel_rfl) trivial
    ⟨Ob.c fun c => ⟨_, _, (e_call0 rfl rfl Try.call10), awake_c _⟩,
    Ob.d fun c => r_assign rfl (c.n 0 rfl), trivial⟩ ?_
   intro a3 w3 τ3 st3 f3
   obtain ⟨e0, e1, -⟩ := f3.ks [(0, _), (1, _)] ⟨e0, e1, trivial⟩
   have e4 : get a3 4 = (.bool (true)) := f3.v 1 rfl
   clear f3
   show Code.wp _ _ _ a3 w3
   refine wp_ret ?_
   repeat (first | with_reducible refine then_ret ?_ | with_reducible refine block_ret ?_)
   refine ret1 (fn := Try.f8) rfl st3.defers e4 ?_
   exact ⟨rfl, st3.ext0⟩
 skip
 refine wp_skip ?_
 show Code.wp _ _ _ a2 w2
 refine wp_seq ?_
 have hmu : muchR 20 200 xs = false := by assumption
 obtain ⟨hz, hml⟩ := much_Small hmu (by omega)
 have hbig : xs.length ≤ 1000000000 := by omega
 refine region_St (bf := [0, 1, 3, 7]) (sp := [det _ 12 _, det _ 13 _, det _ 14 _, det _ 5 _]) [] mixed st2 (by kernel_rfl) trivial
  ⟨Ob.d fun c => r_move rfl (c.p e1),
  Ob.c fun c => ⟨_, _, (e_call2 rfl rfl Try.call23 (c.n 0 rfl) rfl), low_c n 26 _ (by first | omega | exact (u8w _).1 | exact (u8w _).2) (by first | omega | exact (u8w _).1 | exact (u8w _).2)⟩,
  Ob.d fun c => r_conv rfl Try.underlying3 Try.underlying5 (c.n 1 rfl),
  Ob.d fun c => r_assign rfl (c.n 2 rfl), trivial⟩ ?_
 intro a4 w4 τ4 st4 f4
 obtain ⟨e0, e4, -⟩ := f4.ks [(0, _), (4, _)] ⟨e0, e4, trivial⟩
 have e5 : get a4 5 = (.int .u8 (IntKind.u8.wrap (lowF n 26))) := f4.v 3 rfl
 clear f4
 have hlow := low_range n 26 (by omega) (by omega)
 have hu8 := u8_in hlow.1 (by omega)
 obtain ⟨k, hk⟩ : ∃ x_ : Nat, lowF n 26 = (x_ : Int) := ⟨(lowF n 26).toNat, by omega⟩
 replace e5 := e5.trans (congrArg (Value.int .u8) (hu8.trans hk))
 show Code.wp _ _ _ a4 w4
 refine wp_seq ?_
 refine region_St (bf := [0, 1, 3, 7, 0, 16, 48, 112, 15, 511]) (sp := [det _ 15 _, det _ 16 _, own ByteE 5 _ 0 17 ([(UInt8.ofNat (IntKind.u8.wrap (97 + (k : Int))).toNat)]), det _ 18 _, det _ 19 _, det _ 20 _, own ByteE 5 _ 1 21 ([(UInt8.ofNat (IntKind.u8.wrap (65 + (k : Int))).toNat)]), det _ 22 _, det _ 6 _, det _ 7 _]) [] mixed st4 (by kernel_rfl) trivial
  ⟨Ob.d fun c => r_move rfl (c.p e5),
  Ob.d fun c => r_addW rfl rfl (c.n 0 rfl),
  Ob.buildSlice (cells := #[(.int .u8 (IntKind.u8.wrap (97 + (k : Int))))]) rfl rfl rfl rfl Try.underlying39 Try.sizeOf5 Try.zeroValue5 rfl (by decide) (by decide) (fun _ _ _ _ c => fill1 (c.n 1 rfl) (by kernel_rfl)) (byteRow1 (by first | omega | exact (u8w _).1 | exact (u8w _).2) (by first | omega | exact (u8w _).1 | exact (u8w _).2)),
  Ob.d fun c => r_ofBytes rfl Try.underlying39 Try.underlying5 Try.underlying9 rfl (c.ro 2 rfl).1.sl,
  Ob.d fun c => r_move rfl (c.p e5),
  Ob.d fun c => r_addW rfl rfl (c.n 4 rfl),
  Ob.buildSlice (cells := #[(.int .u8 (IntKind.u8.wrap (65 + (k : Int))))]) rfl rfl rfl rfl Try.underlying39 Try.sizeOf5 Try.zeroValue5 rfl (by decide) (by decide) (fun _ _ _ _ c => fill1 (c.n 5 rfl) (by kernel_rfl)) (byteRow1 (by first | omega | exact (u8w _).1 | exact (u8w _).2) (by first | omega | exact (u8w _).1 | exact (u8w _).2)),
  Ob.d fun c => r_ofBytes rfl Try.underlying39 Try.underlying5 Try.underlying9 rfl (c.ro 6 rfl).1.sl,
  Ob.d fun c => r_assign rfl (c.n 3 rfl),
  Ob.d fun c => r_assign rfl (c.n 7 rfl), trivial⟩ ?_
 intro a5 w5 τ5 st5 f5
 obtain ⟨b5x17, e17⟩ : ∃ b, get a5 17 = b := ⟨_, rfl⟩
 obtain ⟨b5x21, e21⟩ : ∃ b, get a5 21 = b := ⟨_, rfl⟩
 obtain ⟨e0, e4, -⟩ := f5.ks [(0, _), (4, _)] ⟨e0, e4, trivial⟩
 have e6 : get a5 6 = (.string (⟨([(UInt8.ofNat (IntKind.u8.wrap (97 + (k : Int))).toNat)]).toArray⟩)) := f5.v 8 rfl
 have e7 : get a5 7 = (.string (⟨([(UInt8.ofNat (IntKind.u8.wrap (65 + (k : Int))).toNat)]).toArray⟩)) := f5.v 9 rfl
 clear f5
 replace e6 := e6.trans (congrArg Value.string (show ⟨([(UInt8.ofNat (IntKind.u8.wrap (97 + (k : Int))).toNat)]).toArray⟩ = smallS k from small_eq (by omega)))
 replace e7 := e7.trans (congrArg Value.string (show ⟨([(UInt8.ofNat (IntKind.u8.wrap (65 + (k : Int))).toNat)]).toArray⟩ = bigS k from big_eq (by omega)))
 have hss : (smallS k).size = 1 := rfl
 have hbs : (bigS k).size = 1 := rfl
 show Code.wp _ _ _ a5 w5
 refine wp_seq ?_
 refine region_St (bf := [0, 0, 3, 7]) (sp := [det _ 23 _, det _ 24 _, det _ 25 _, det _ 8 _]) [] mixed st5 (by kernel_rfl) trivial
  ⟨Ob.d fun c => r_move rfl (c.p e0),
  Ob.d fun c => r_move rfl (c.p e6),
  Ob.c fun c => ⟨_, _, (e_call4 rfl rfl Try.call16 (c.n 0 rfl) rfl rfl (c.n 1 rfl)), has_c v xs false true (smallS k) _ (hS.at (st5.ext.trans c.J.ext)) (by first | omega | exact (u8w _).1 | exact (u8w _).2)⟩,
  Ob.d fun c => r_assign rfl (c.n 2 rfl), trivial⟩ ?_
 intro a6 w6 τ6 st6 f6
 obtain ⟨e0, e4, e6, e7, -⟩ := f6.ks [(0, _), (4, _), (6, _), (7, _)] ⟨e0, e4, e6, e7, trivial⟩
 have e8 : get a6 8 = (.bool (hasF xs false true (smallS k))) := f6.v 3 rfl
 clear f6
 show Code.wp _ _ _ a6 w6
 refine wp_seq ?_
 refine region_St (bf := [0, 0, 0, 6, 15, 31, 63, 63, 63, 447, 959, 1983, 1983, 8127, 16319, 32767, 65535, 131071, 262143, 524287, 1048575]) (sp := [det _ 26 _, det _ 27 _, det _ 28 _, det _ 29 _, det _ 30 _, det _ 31 _, gdet _ 32 _ _, gdet _ 33 _ _, gdet _ 34 _ _, gdet _ 35 _ _, gdet _ 36 _ _, gdet _ 37 _ _, gdet _ 38 _ _, gdet _ 39 _ _, gdet _ 40 _ _, gdet _ 41 _ _, det _ 42 _, det _ 43 _, gdet _ 44 _ _, det _ 45 _, det _ 4 _]) [] mixed st6 (by kernel_rfl) trivial
  ⟨Ob.d fun c => r_move rfl (c.p e8),
  Ob.d fun c => r_move rfl (c.p e0),
  Ob.d fun c => r_move rfl (c.p e7),
  Ob.c fun c => ⟨_, _, (e_call4 rfl rfl Try.call16 (c.n 1 rfl) rfl rfl (c.n 2 rfl)), has_c v xs false true (bigS k) _ (hS.at (st6.ext.trans c.J.ext)) (by first | omega | exact (u8w _).1 | exact (u8w _).2)⟩,
  Ob.d fun c => r_beql rfl Try.underlying4 (c.n 0 rfl) (c.n 3 rfl),
  Ob.d fun c => r_move rfl (c.n 4 rfl),
  Ob.g 5 true rfl fun c hpc => r_move rfl (c.p e8),
  Ob.g 5 true rfl fun c hpc => r_move rfl (c.p e0),
  Ob.g 5 true rfl fun c hpc => r_move rfl (c.p e6),
  Ob.gc 5 true rfl fun c hpc => ⟨_, _, (e_call4 rfl rfl Try.call16 (c.m 7 rfl hpc) rfl rfl (c.m 8 rfl hpc)), has_c v xs false false (smallS k) _ (hS.at (st6.ext.trans c.J.ext)) (by have hq0 := hpc; (try simp only [Bool.not_eq_true', Bool.not_eq_false', beq_iff_eq] at hq0); first | omega | exact (u8w _).1 | exact (u8w _).2)⟩,
  Ob.g 5 true rfl fun c hpc => r_move rfl (c.m 9 rfl hpc),
  Ob.gg 10 false rfl fun c hpc => r_move rfl (c.p e0),
  Ob.gg 10 false rfl fun c hpc => r_move rfl (c.p e7),
  Ob.ggc 10 false rfl fun c hpc => ⟨_, _, (e_call4 rfl rfl Try.call16 (c.m 11 rfl hpc) rfl rfl (c.m 12 rfl hpc)), has_c v xs false false (bigS k) _ (hS.at (st6.ext.trans c.J.ext)) (by have hq0 := hpc.2; have hq1 := hpc.1; (try simp only [Bool.not_eq_true', Bool.not_eq_false', beq_iff_eq] at hq1); first | omega | exact (u8w _).1 | exact (u8w _).2)⟩,
  Ob.g 5 true rfl fun c hpc => r_or rfl (c.m 10 rfl hpc) (fun h => c.m 13 rfl (And.intro hpc h)),
  Ob.g 5 true rfl fun c hpc => r_beql rfl Try.underlying4 (c.m 6 rfl hpc) (c.m 14 rfl hpc),
  Ob.d fun c => r_and rfl (c.n 5 rfl) (fun h => c.m 15 rfl h),
  Ob.d fun c => r_move rfl (c.n 16 rfl),
  Ob.gc 17 true rfl fun c hpc => ⟨_, _, (e_call0 rfl rfl Try.call10), awake_c _⟩,
  Ob.d fun c => r_and rfl (c.n 17 rfl) (fun h => c.m 18 rfl h),
  Ob.d fun c => r_assign rfl (c.n 19 rfl), trivial⟩ ?_
 intro a7 w7 τ7 st7 f7
 have e4 : get a7 4 = (.bool ((((hasF xs false true (smallS k)) == (hasF xs false true (bigS k))) && ((hasF xs false true (smallS k)) == ((hasF xs false false (smallS k)) || (hasF xs false false (bigS k))))) && true)) := f7.v 20 rfl
 clear f7
 show Code.wp _ _ _ a7 w7
 refine wp_ret ?_
 repeat (first | with_reducible refine then_ret ?_ | with_reducible refine block_ret ?_)
 refine ret1 (fn := Try.f8) rfl st7.defers e4 ?_
 exact ⟨congrArg _ (congrArg _ (show ((((hasF xs false true (smallS k)) == (hasF xs false true (bigS k))) && ((hasF xs false true (smallS k)) == ((hasF xs false false (smallS k)) || (hasF xs false false (bigS k))))) && true) = true from by rw [(letters xs (show k < 26 by omega)).1, ← (letters xs (show k < 26 by omega)).1, (letters xs (show k < 26 by omega)).2]; simp)), st7.ext0⟩
end B
end Go.Proofs.Ythaeepiichphjaa
