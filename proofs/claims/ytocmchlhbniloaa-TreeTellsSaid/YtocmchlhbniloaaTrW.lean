/-
  Walks, printed by a program (gen.py): TrW.
-/
import Derived.Test.YtocmchlhbniloaaTreeL
set_option linter.unusedSimpArgs false
set_option linter.unusedVariables false
namespace Go.Proofs.Ytocmchlhbniloaa
namespace B
open Go.RowKit
open Srt
set_option maxRecDepth 100000 in
theorem char_c (s : ByteArray) (w : World) : Calls Try.prog 22 #[(.string (s))] w (fun e w' => e = .returned (leafT 2 s false 0 0 false).v ∧ Ext none' w w') := by
 refine enter (n := 5) Try.func22 rfl rfl (Nat.le_of_ble_eq_true rfl) ?_
 intro a0 τ0 ha st0
 have e0 : get a0 0 = (.string (s)) := ha 0 _ rfl
 clear ha
 refine wp_seq ?_
 refine region_St (bf := [0]) (sp := [box _ _ 0 2 [(.int .i64 (0)), (.string ((⟨#[]⟩ : ByteArray))), (.bool (false)), (.slice none 0 0), (.int .i64 (0)), (.int .i64 (0)), (.bool (false)), (.slice none 0 0)]]) [] mixed st0 (by kernel_rfl) trivial
  ⟨Ob.alloc rfl rfl rfl rfl Try.zeroValue25 rfl, trivial⟩ ?_
 intro a1 w1 τ1 st1 f1
 obtain ⟨b1x2, e2⟩ : ∃ b, get a1 2 = b := ⟨_, rfl⟩
 obtain ⟨e0, -⟩ := f1.ks [(0, _)] ⟨e0, trivial⟩
 have r0 : boxR 25 [(.int .i64 (0)), (.string ((⟨#[]⟩ : ByteArray))), (.bool (false)), (.slice none 0 0), (.int .i64 (0)), (.int .i64 (0)), (.bool (false)), (.slice none 0 0)] (τ1 0) b1x2 w1 := f1.rb 0 e2 rfl
 clear f1
 show Code.wp _ _ _ a1 w1
 refine wp_seq ?_
 refine region_St (bf := [0, 1, 3]) (sp := [det _ 3 _, det _ 4 _, box _ _ 0 2 [(.int .i64 (2)), (.string (s)), (.bool (false)), (.slice none 0 0), (.int .i64 (0)), (.int .i64 (0)), (.bool (false)), (.slice none 0 0)]]) [ib r0] mixed st1 (by kernel_rfl) ⟨r0, trivial⟩
  ⟨Ob.d fun c => r_move rfl (c.p e0),
  Ob.d fun c => r_build (cells := #[(.int .i64 (2)), (.string (s)), (.bool (false)), (.slice none 0 0), (.int .i64 (0)), (.int .i64 (0)), (.bool (false)), (.slice none 0 0)]) rfl Try.underlying25 Try.zeroValue25 (pl := #[(0, 1), (1, 1), (2, 1), (3, 1), (4, 1), (5, 1), (6, 1), (7, 1)]) (fun w_ => by simp [Try.sizeOf22, Try.sizeOf23, Try.sizeOf3, Try.sizeOf4, Try.sizeOf9]) (fill2 rfl (c.n 0 rfl) rfl),
  Ob.storeBox (off := 0) (v := (.agg #[(.int .i64 (2)), (.string (s)), (.bool (false)), (.slice none 0 0), (.int .i64 (0)), (.int .i64 (0)), (.bool (false)), (.slice none 0 0)])) rfl rfl rfl rfl Try.sizeOf25 (Nat.le_of_ble_eq_true rfl) (by simp [Value.cells, Value.oneCell', Sv.v]) rfl (fun _ _ _ _ c => ⟨c.bp 0 rfl e2, c.ad ((c.p e2).trans r0.ptr) e2 rfl, (c.n 1 rfl)⟩), trivial⟩ ?_
 intro a2 w2 τ2 st2 f2
 obtain ⟨e2, -⟩ := f2.ks [(2, _)] ⟨e2, trivial⟩
 replace r0 : boxR 25 [(.int .i64 (2)), (.string (s)), (.bool (false)), (.slice none 0 0), (.int .i64 (0)), (.int .i64 (0)), (.bool (false)), (.slice none 0 0)] (τ2 0) b1x2 w2 := f2.rb 2 e2 rfl
 clear f2
 show Code.wp _ _ _ a2 w2
 refine wp_ret ?_
 repeat (first | with_reducible refine then_ret ?_ | with_reducible refine block_ret ?_)
 refine ret1c (fn := Try.f22) rfl st2.defers e2 r0 Try.isAgg25 Try.sizeOf25 rfl ?_
 exact ⟨rfl, st2.ext0⟩

def chA : Tr := leafT 2 ⟨#[97]⟩ false 0 0 false
def chB : Tr := leafT 2 ⟨#[98]⟩ false 0 0 false
theorem sameAB : sameF (leafT 2 ⟨#[97]⟩ false 0 0 false) (leafT 2 ⟨#[98]⟩ false 0 0 false) = false := by
  rw [← Bool.not_eq_true, sameF_iff]
  intro h
  exact absurd (congrArg Tr.ch h) (by decide)
def chC : Tr := leafT 2 ⟨#[99]⟩ false 0 0 false

set_option maxRecDepth 100000 in
theorem awake_c  (w : World) : Calls Try.prog 10 #[] w (fun e w' => e = .returned (.bool (true)) ∧ Ext none' w w') := by
 refine enter (n := 51) Try.func10 rfl rfl (Nat.le_of_ble_eq_true rfl) ?_
 intro a0 τ0 ha st0
 clear ha
 refine wp_seq ?_
 refine region_St (bf := [0]) (sp := [det _ 0 _]) [] mixed st0 (by kernel_rfl) trivial
  ⟨Ob.d fun c => r_assign rfl rfl, trivial⟩ ?_
 intro a1 w1 τ1 st1 f1
 have e0 : get a1 0 = (.bool (false)) := f1.v 0 rfl
 clear f1
 show Code.wp _ _ _ a1 w1
 refine wp_seq ?_
 refine region_St (bf := [0, 1, 3, 0, 0, 0, 63, 127, 255]) (sp := [det _ 5 _, det _ 6 _, det _ 7 _, box _ _ 0 1 [(.int .i64 (0)), (.string ((⟨#[]⟩ : ByteArray))), (.bool (false)), (.slice none 0 0), (.int .i64 (0)), (.int .i64 (0)), (.bool (false)), (.slice none 0 0)], box _ _ 1 2 [(.int .i64 (0)), (.string ((⟨#[]⟩ : ByteArray))), (.bool (false)), (.slice none 0 0), (.int .i64 (0)), (.int .i64 (0)), (.bool (false)), (.slice none 0 0)], box _ _ 2 3 [(.int .i64 (0)), (.string ((⟨#[]⟩ : ByteArray))), (.bool (false)), (.slice none 0 0), (.int .i64 (0)), (.int .i64 (0)), (.bool (false)), (.slice none 0 0)], box _ _ 0 1 [(.int .i64 ((leafT 2 (⟨#[97]⟩ : ByteArray) false 0 0 false).k)), (.string ((leafT 2 (⟨#[97]⟩ : ByteArray) false 0 0 false).ch)), (.bool ((leafT 2 (⟨#[97]⟩ : ByteArray) false 0 0 false).ng)), (leafT 2 (⟨#[97]⟩ : ByteArray) false 0 0 false).rv.v, (.int .i64 ((leafT 2 (⟨#[97]⟩ : ByteArray) false 0 0 false).mn)), (.int .i64 ((leafT 2 (⟨#[97]⟩ : ByteArray) false 0 0 false).mx)), (.bool ((leafT 2 (⟨#[97]⟩ : ByteArray) false 0 0 false).lz)), (leafT 2 (⟨#[97]⟩ : ByteArray) false 0 0 false).kv.v], box _ _ 1 2 [(.int .i64 ((leafT 2 (⟨#[98]⟩ : ByteArray) false 0 0 false).k)), (.string ((leafT 2 (⟨#[98]⟩ : ByteArray) false 0 0 false).ch)), (.bool ((leafT 2 (⟨#[98]⟩ : ByteArray) false 0 0 false).ng)), (leafT 2 (⟨#[98]⟩ : ByteArray) false 0 0 false).rv.v, (.int .i64 ((leafT 2 (⟨#[98]⟩ : ByteArray) false 0 0 false).mn)), (.int .i64 ((leafT 2 (⟨#[98]⟩ : ByteArray) false 0 0 false).mx)), (.bool ((leafT 2 (⟨#[98]⟩ : ByteArray) false 0 0 false).lz)), (leafT 2 (⟨#[98]⟩ : ByteArray) false 0 0 false).kv.v], box _ _ 2 3 [(.int .i64 ((leafT 2 (⟨#[99]⟩ : ByteArray) false 0 0 false).k)), (.string ((leafT 2 (⟨#[99]⟩ : ByteArray) false 0 0 false).ch)), (.bool ((leafT 2 (⟨#[99]⟩ : ByteArray) false 0 0 false).ng)), (leafT 2 (⟨#[99]⟩ : ByteArray) false 0 0 false).rv.v, (.int .i64 ((leafT 2 (⟨#[99]⟩ : ByteArray) false 0 0 false).mn)), (.int .i64 ((leafT 2 (⟨#[99]⟩ : ByteArray) false 0 0 false).mx)), (.bool ((leafT 2 (⟨#[99]⟩ : ByteArray) false 0 0 false).lz)), (leafT 2 (⟨#[99]⟩ : ByteArray) false 0 0 false).kv.v]]) [] mixed st1 (by kernel_rfl) trivial
  ⟨Ob.c fun c => ⟨_, _, (e_call1 rfl rfl Try.call22 rfl), char_c (⟨#[97]⟩ : ByteArray) _⟩,
  Ob.c fun c => ⟨_, _, (e_call1 rfl rfl Try.call22 rfl), char_c (⟨#[98]⟩ : ByteArray) _⟩,
  Ob.c fun c => ⟨_, _, (e_call1 rfl rfl Try.call22 rfl), char_c (⟨#[99]⟩ : ByteArray) _⟩,
  Ob.alloc rfl rfl rfl rfl Try.zeroValue25 rfl,
  Ob.alloc rfl rfl rfl rfl Try.zeroValue25 rfl,
  Ob.alloc rfl rfl rfl rfl Try.zeroValue25 rfl,
  Ob.storeBox (off := 0) (v := (.agg #[(.int .i64 ((leafT 2 (⟨#[97]⟩ : ByteArray) false 0 0 false).k)), (.string ((leafT 2 (⟨#[97]⟩ : ByteArray) false 0 0 false).ch)), (.bool ((leafT 2 (⟨#[97]⟩ : ByteArray) false 0 0 false).ng)), (leafT 2 (⟨#[97]⟩ : ByteArray) false 0 0 false).rv.v, (.int .i64 ((leafT 2 (⟨#[97]⟩ : ByteArray) false 0 0 false).mn)), (.int .i64 ((leafT 2 (⟨#[97]⟩ : ByteArray) false 0 0 false).mx)), (.bool ((leafT 2 (⟨#[97]⟩ : ByteArray) false 0 0 false).lz)), (leafT 2 (⟨#[97]⟩ : ByteArray) false 0 0 false).kv.v])) rfl rfl rfl rfl Try.sizeOf25 (Nat.le_of_ble_eq_true rfl) (by simp [Value.cells, Value.oneCell', Sv.v]) rfl (fun _ _ _ _ c => ⟨c.rb 3 rfl, (c.rb 3 rfl).ptr, (c.n 0 rfl)⟩),
  Ob.storeBox (off := 0) (v := (.agg #[(.int .i64 ((leafT 2 (⟨#[98]⟩ : ByteArray) false 0 0 false).k)), (.string ((leafT 2 (⟨#[98]⟩ : ByteArray) false 0 0 false).ch)), (.bool ((leafT 2 (⟨#[98]⟩ : ByteArray) false 0 0 false).ng)), (leafT 2 (⟨#[98]⟩ : ByteArray) false 0 0 false).rv.v, (.int .i64 ((leafT 2 (⟨#[98]⟩ : ByteArray) false 0 0 false).mn)), (.int .i64 ((leafT 2 (⟨#[98]⟩ : ByteArray) false 0 0 false).mx)), (.bool ((leafT 2 (⟨#[98]⟩ : ByteArray) false 0 0 false).lz)), (leafT 2 (⟨#[98]⟩ : ByteArray) false 0 0 false).kv.v])) rfl rfl rfl rfl Try.sizeOf25 (Nat.le_of_ble_eq_true rfl) (by simp [Value.cells, Value.oneCell', Sv.v]) rfl (fun _ _ _ _ c => ⟨c.rb 4 rfl, (c.rb 4 rfl).ptr, (c.n 1 rfl)⟩),
  Ob.storeBox (off := 0) (v := (.agg #[(.int .i64 ((leafT 2 (⟨#[99]⟩ : ByteArray) false 0 0 false).k)), (.string ((leafT 2 (⟨#[99]⟩ : ByteArray) false 0 0 false).ch)), (.bool ((leafT 2 (⟨#[99]⟩ : ByteArray) false 0 0 false).ng)), (leafT 2 (⟨#[99]⟩ : ByteArray) false 0 0 false).rv.v, (.int .i64 ((leafT 2 (⟨#[99]⟩ : ByteArray) false 0 0 false).mn)), (.int .i64 ((leafT 2 (⟨#[99]⟩ : ByteArray) false 0 0 false).mx)), (.bool ((leafT 2 (⟨#[99]⟩ : ByteArray) false 0 0 false).lz)), (leafT 2 (⟨#[99]⟩ : ByteArray) false 0 0 false).kv.v])) rfl rfl rfl rfl Try.sizeOf25 (Nat.le_of_ble_eq_true rfl) (by simp [Value.cells, Value.oneCell', Sv.v]) rfl (fun _ _ _ _ c => ⟨c.rb 5 rfl, (c.rb 5 rfl).ptr, (c.n 2 rfl)⟩), trivial⟩ ?_
 intro a2 w2 τ2 st2 f2
 obtain ⟨b2x1, e1⟩ : ∃ b, get a2 1 = b := ⟨_, rfl⟩
 obtain ⟨b2x2, e2⟩ : ∃ b, get a2 2 = b := ⟨_, rfl⟩
 obtain ⟨b2x3, e3⟩ : ∃ b, get a2 3 = b := ⟨_, rfl⟩
 obtain ⟨e0, -⟩ := f2.ks [(0, _)] ⟨e0, trivial⟩
 have r0 : boxR 25 [(.int .i64 ((leafT 2 (⟨#[97]⟩ : ByteArray) false 0 0 false).k)), (.string ((leafT 2 (⟨#[97]⟩ : ByteArray) false 0 0 false).ch)), (.bool ((leafT 2 (⟨#[97]⟩ : ByteArray) false 0 0 false).ng)), (leafT 2 (⟨#[97]⟩ : ByteArray) false 0 0 false).rv.v, (.int .i64 ((leafT 2 (⟨#[97]⟩ : ByteArray) false 0 0 false).mn)), (.int .i64 ((leafT 2 (⟨#[97]⟩ : ByteArray) false 0 0 false).mx)), (.bool ((leafT 2 (⟨#[97]⟩ : ByteArray) false 0 0 false).lz)), (leafT 2 (⟨#[97]⟩ : ByteArray) false 0 0 false).kv.v] (τ2 0) b2x1 w2 := f2.rb 6 e1 rfl
 have r1 : boxR 25 [(.int .i64 ((leafT 2 (⟨#[98]⟩ : ByteArray) false 0 0 false).k)), (.string ((leafT 2 (⟨#[98]⟩ : ByteArray) false 0 0 false).ch)), (.bool ((leafT 2 (⟨#[98]⟩ : ByteArray) false 0 0 false).ng)), (leafT 2 (⟨#[98]⟩ : ByteArray) false 0 0 false).rv.v, (.int .i64 ((leafT 2 (⟨#[98]⟩ : ByteArray) false 0 0 false).mn)), (.int .i64 ((leafT 2 (⟨#[98]⟩ : ByteArray) false 0 0 false).mx)), (.bool ((leafT 2 (⟨#[98]⟩ : ByteArray) false 0 0 false).lz)), (leafT 2 (⟨#[98]⟩ : ByteArray) false 0 0 false).kv.v] (τ2 1) b2x2 w2 := f2.rb 7 e2 rfl
 have r2 : boxR 25 [(.int .i64 ((leafT 2 (⟨#[99]⟩ : ByteArray) false 0 0 false).k)), (.string ((leafT 2 (⟨#[99]⟩ : ByteArray) false 0 0 false).ch)), (.bool ((leafT 2 (⟨#[99]⟩ : ByteArray) false 0 0 false).ng)), (leafT 2 (⟨#[99]⟩ : ByteArray) false 0 0 false).rv.v, (.int .i64 ((leafT 2 (⟨#[99]⟩ : ByteArray) false 0 0 false).mn)), (.int .i64 ((leafT 2 (⟨#[99]⟩ : ByteArray) false 0 0 false).mx)), (.bool ((leafT 2 (⟨#[99]⟩ : ByteArray) false 0 0 false).lz)), (leafT 2 (⟨#[99]⟩ : ByteArray) false 0 0 false).kv.v] (τ2 2) b2x3 w2 := f2.rb 8 e3 rfl
 clear f2
 show Code.wp _ _ _ a2 w2
 refine wp_seq ?_
 refine region_St (bf := [0, 0, 0, 6, 14, 31, 63, 0, 255]) (sp := [det _ 8 _, det _ 9 _, det _ 10 _, own TrE 25 _ 3 11 ([(leafT 2 (⟨#[98]⟩ : ByteArray) false 0 0 false), (leafT 2 (⟨#[99]⟩ : ByteArray) false 0 0 false)]), gzdet _ 12 (True) (fun b : Tr => b.v) (fun b : Tr => er b = seqF (([(leafT 2 (⟨#[98]⟩ : ByteArray) false 0 0 false), (leafT 2 (⟨#[99]⟩ : ByteArray) false 0 0 false)]).map er)) (fun b : Tr => zTr (Gn none' w) b), gzown TrE 25 _ 4 13 (True) (fun b : Tr => [(leafT 2 (⟨#[97]⟩ : ByteArray) false 0 0 false), b]) (fun b : Tr => (fun b : Tr => er b = seqF (([(leafT 2 (⟨#[98]⟩ : ByteArray) false 0 0 false), (leafT 2 (⟨#[99]⟩ : ByteArray) false 0 0 false)]).map er)) b) (fun b : Tr => ((fun b : Tr => zTr (Gn none' w) b) b)), gzdet _ 14 (True) (fun b : Tr => b.v) (fun b : Tr => er b = seqF (([(leafT 2 (⟨#[97]⟩ : ByteArray) false 0 0 false), (seqF (([(leafT 2 (⟨#[98]⟩ : ByteArray) false 0 0 false), (leafT 2 (⟨#[99]⟩ : ByteArray) false 0 0 false)]).map er))]).map er)) (fun b : Tr => zTr (Gn none' w) b), box _ _ 5 4 [(.int .i64 (0)), (.string ((⟨#[]⟩ : ByteArray))), (.bool (false)), (.slice none 0 0), (.int .i64 (0)), (.int .i64 (0)), (.bool (false)), (.slice none 0 0)], gzbox 25 _ 5 4 (fun b : Tr => [(.int .i64 (b.k)), (.string (b.ch)), (.bool (b.ng)), b.rv.v, (.int .i64 (b.mn)), (.int .i64 (b.mx)), (.bool (b.lz)), b.kv.v]) (fun b : Tr => er b = seqF (([(leafT 2 (⟨#[97]⟩ : ByteArray) false 0 0 false), (seqF (([(leafT 2 (⟨#[98]⟩ : ByteArray) false 0 0 false), (leafT 2 (⟨#[99]⟩ : ByteArray) false 0 0 false)]).map er))]).map er)) (fun b : Tr => zTr (Gn none' w) b)]) [ib r0, ib r1, ib r2] mixed st2 (by kernel_rfl) ⟨r0, r1, r2, trivial⟩
  ⟨Ob.d fun c => r_loadN (vs := [(.int .i64 ((leafT 2 (⟨#[97]⟩ : ByteArray) false 0 0 false).k)), (.string ((leafT 2 (⟨#[97]⟩ : ByteArray) false 0 0 false).ch)), (.bool ((leafT 2 (⟨#[97]⟩ : ByteArray) false 0 0 false).ng)), (leafT 2 (⟨#[97]⟩ : ByteArray) false 0 0 false).rv.v, (.int .i64 ((leafT 2 (⟨#[97]⟩ : ByteArray) false 0 0 false).mn)), (.int .i64 ((leafT 2 (⟨#[97]⟩ : ByteArray) false 0 0 false).mx)), (.bool ((leafT 2 (⟨#[97]⟩ : ByteArray) false 0 0 false).lz)), (leafT 2 (⟨#[97]⟩ : ByteArray) false 0 0 false).kv.v]) rfl Try.isAgg25 Try.sizeOf25 ((c.p e1).trans r0.ptr) rfl (fun _ _ hj => (c.ib 0 rfl).cell hj),
  Ob.d fun c => r_loadN (vs := [(.int .i64 ((leafT 2 (⟨#[98]⟩ : ByteArray) false 0 0 false).k)), (.string ((leafT 2 (⟨#[98]⟩ : ByteArray) false 0 0 false).ch)), (.bool ((leafT 2 (⟨#[98]⟩ : ByteArray) false 0 0 false).ng)), (leafT 2 (⟨#[98]⟩ : ByteArray) false 0 0 false).rv.v, (.int .i64 ((leafT 2 (⟨#[98]⟩ : ByteArray) false 0 0 false).mn)), (.int .i64 ((leafT 2 (⟨#[98]⟩ : ByteArray) false 0 0 false).mx)), (.bool ((leafT 2 (⟨#[98]⟩ : ByteArray) false 0 0 false).lz)), (leafT 2 (⟨#[98]⟩ : ByteArray) false 0 0 false).kv.v]) rfl Try.isAgg25 Try.sizeOf25 ((c.p e2).trans r1.ptr) rfl (fun _ _ hj => (c.ib 1 rfl).cell hj),
  Ob.d fun c => r_loadN (vs := [(.int .i64 ((leafT 2 (⟨#[99]⟩ : ByteArray) false 0 0 false).k)), (.string ((leafT 2 (⟨#[99]⟩ : ByteArray) false 0 0 false).ch)), (.bool ((leafT 2 (⟨#[99]⟩ : ByteArray) false 0 0 false).ng)), (leafT 2 (⟨#[99]⟩ : ByteArray) false 0 0 false).rv.v, (.int .i64 ((leafT 2 (⟨#[99]⟩ : ByteArray) false 0 0 false).mn)), (.int .i64 ((leafT 2 (⟨#[99]⟩ : ByteArray) false 0 0 false).mx)), (.bool ((leafT 2 (⟨#[99]⟩ : ByteArray) false 0 0 false).lz)), (leafT 2 (⟨#[99]⟩ : ByteArray) false 0 0 false).kv.v]) rfl Try.isAgg25 Try.sizeOf25 ((c.p e3).trans r2.ptr) rfl (fun _ _ hj => (c.ib 2 rfl).cell hj),
  Ob.buildSlice (cells := #[(.int .i64 ((leafT 2 (⟨#[98]⟩ : ByteArray) false 0 0 false).k)), (.string ((leafT 2 (⟨#[98]⟩ : ByteArray) false 0 0 false).ch)), (.bool ((leafT 2 (⟨#[98]⟩ : ByteArray) false 0 0 false).ng)), (leafT 2 (⟨#[98]⟩ : ByteArray) false 0 0 false).rv.v, (.int .i64 ((leafT 2 (⟨#[98]⟩ : ByteArray) false 0 0 false).mn)), (.int .i64 ((leafT 2 (⟨#[98]⟩ : ByteArray) false 0 0 false).mx)), (.bool ((leafT 2 (⟨#[98]⟩ : ByteArray) false 0 0 false).lz)), (leafT 2 (⟨#[98]⟩ : ByteArray) false 0 0 false).kv.v, (.int .i64 ((leafT 2 (⟨#[99]⟩ : ByteArray) false 0 0 false).k)), (.string ((leafT 2 (⟨#[99]⟩ : ByteArray) false 0 0 false).ch)), (.bool ((leafT 2 (⟨#[99]⟩ : ByteArray) false 0 0 false).ng)), (leafT 2 (⟨#[99]⟩ : ByteArray) false 0 0 false).rv.v, (.int .i64 ((leafT 2 (⟨#[99]⟩ : ByteArray) false 0 0 false).mn)), (.int .i64 ((leafT 2 (⟨#[99]⟩ : ByteArray) false 0 0 false).mx)), (.bool ((leafT 2 (⟨#[99]⟩ : ByteArray) false 0 0 false).lz)), (leafT 2 (⟨#[99]⟩ : ByteArray) false 0 0 false).kv.v]) rfl rfl rfl rfl Try.underlying23 Try.sizeOf25 Try.zeroValue25 rfl (by decide) (by decide) (fun _ _ _ _ c => fill2 (c.n 1 rfl) (c.n 2 rfl) (by kernel_rfl)) rfl,
  Ob.gz (f := fun b : Tr => b.v) (Ψ := fun b : Tr => er b = seqF (([(leafT 2 (⟨#[98]⟩ : ByteArray) false 0 0 false), (leafT 2 (⟨#[99]⟩ : ByteArray) false 0 0 false)]).map er)) (Φ := fun b : Tr => zTr (Gn none' w) b) gd0 fun {_ a_ _ _} c hpc => ⟨_, _, (e_call1 rfl rfl Try.call13 (eval_tmp _ 11)), (seq_c _ ([(leafT 2 (⟨#[98]⟩ : ByteArray) false 0 0 false), (leafT 2 (⟨#[99]⟩ : ByteArray) false 0 0 false)]) _ (zl (G := none') (Z := none') (zcons (leafZ _ _ _ _ _ _ _ _ _) (zcons (leafZ _ _ _ _ _ _ _ _ _) znil)) (c.ro 3 rfl).1.sl) (by first | omega | decide | (simp only [List.map_cons, List.map_nil, sumL_cons, sumL_nil, wt_leaf, wt_node, ByteArray.size, List.size_toArray, List.length_cons, List.length_nil] at *; omega))).mono (fun e w' ⟨t_, he_, hx_, ht_, hq_⟩ => ⟨t_, he_, hx_, hq_, c.tn st2 hx_ ht_⟩)⟩,
  Ob.gzBuild (E := TrE) (xs := fun b : Tr => [(leafT 2 (⟨#[97]⟩ : ByteArray) false 0 0 false), b]) (Ψ := fun b : Tr => (fun b : Tr => er b = seqF (([(leafT 2 (⟨#[98]⟩ : ByteArray) false 0 0 false), (leafT 2 (⟨#[99]⟩ : ByteArray) false 0 0 false)]).map er)) b) (Φ := fun b : Tr => ((fun b : Tr => zTr (Gn none' w) b) b)) (cells := fun b : Tr => #[(.int .i64 ((leafT 2 (⟨#[97]⟩ : ByteArray) false 0 0 false).k)), (.string ((leafT 2 (⟨#[97]⟩ : ByteArray) false 0 0 false).ch)), (.bool ((leafT 2 (⟨#[97]⟩ : ByteArray) false 0 0 false).ng)), (leafT 2 (⟨#[97]⟩ : ByteArray) false 0 0 false).rv.v, (.int .i64 ((leafT 2 (⟨#[97]⟩ : ByteArray) false 0 0 false).mn)), (.int .i64 ((leafT 2 (⟨#[97]⟩ : ByteArray) false 0 0 false).mx)), (.bool ((leafT 2 (⟨#[97]⟩ : ByteArray) false 0 0 false).lz)), (leafT 2 (⟨#[97]⟩ : ByteArray) false 0 0 false).kv.v, (.int .i64 (b.k)), (.string (b.ch)), (.bool (b.ng)), b.rv.v, (.int .i64 (b.mn)), (.int .i64 (b.mx)), (.bool (b.lz)), b.kv.v]) gd0 rfl Try.underlying23 Try.sizeOf25 Try.zeroValue25 (by decide) (by decide) (fun b => rfl) (fun b => rfl) fun c hpc => by obtain ⟨t1_, hv4, hqt1_, hzt1_⟩ := c.zd 4 rfl trivial; have hwt1_ := wt_seqb hqt1_; exact ⟨t1_, hqt1_, hzt1_, fill2 (c.n 0 rfl) hv4 (by kernel_rfl)⟩,
  Ob.gz (f := fun b : Tr => b.v) (Ψ := fun b : Tr => er b = seqF (([(leafT 2 (⟨#[97]⟩ : ByteArray) false 0 0 false), (seqF (([(leafT 2 (⟨#[98]⟩ : ByteArray) false 0 0 false), (leafT 2 (⟨#[99]⟩ : ByteArray) false 0 0 false)]).map er))]).map er)) (Φ := fun b : Tr => zTr (Gn none' w) b) gd0 fun {_ a_ _ _} c hpc => by obtain ⟨t1_, ho5, hqt1_, hzt1_⟩ := c.zo 5 rfl trivial; have hwt1_ := wt_seqb hqt1_; exact ⟨_, _, (e_call1 rfl rfl Try.call13 (eval_tmp _ 13)), (seq_c _ ([(leafT 2 (⟨#[97]⟩ : ByteArray) false 0 0 false), t1_]) _ (zl (zcons (leafZ _ _ _ _ _ _ _ _ _) (zcons hzt1_ znil)) ho5.1.sl) (by first | omega | decide | (simp only [List.map_cons, List.map_nil, sumL_cons, sumL_nil, wt_leaf, wt_node, ByteArray.size, List.size_toArray, List.length_cons, List.length_nil] at *; omega))).mono (fun e w' ⟨t_, he_, hx_, ht_, hq_⟩ => ⟨t_, he_, hx_, hq_.trans (by rw [← hqt1_]; simp only [List.map_cons, List.map_nil, er_er]), c.tn st2 hx_ ht_⟩)⟩,
  Ob.alloc rfl rfl rfl rfl Try.zeroValue25 rfl,
  Ob.gzStore (off := 0) (cells0 := [(.int .i64 (0)), (.string ((⟨#[]⟩ : ByteArray))), (.bool (false)), (.slice none 0 0), (.int .i64 (0)), (.int .i64 (0)), (.bool (false)), (.slice none 0 0)]) (cells := fun b : Tr => [(.int .i64 (b.k)), (.string (b.ch)), (.bool (b.ng)), b.rv.v, (.int .i64 (b.mn)), (.int .i64 (b.mx)), (.bool (b.lz)), b.kv.v]) (v := fun b : Tr => (.agg #[(.int .i64 (b.k)), (.string (b.ch)), (.bool (b.ng)), b.rv.v, (.int .i64 (b.mn)), (.int .i64 (b.mx)), (.bool (b.lz)), b.kv.v])) rfl rfl (fun b => Try.sizeOf25) (fun b => Nat.le_of_ble_eq_true rfl) (fun b => (by simp [Value.cells, Value.oneCell', Sv.v])) (fun b => rfl) fun c => by obtain ⟨t2_, hv6, hqt2_, hzt2_⟩ := c.zd 6 rfl trivial; have hwt2_ := wt_seqb hqt2_; exact ⟨t2_, hqt2_, hzt2_, c.rb 7 rfl, (c.rb 7 rfl).ptr, hv6⟩, trivial⟩ ?_
 intro a3 w3 τ3 st3 f3
 obtain ⟨b3x11, e11⟩ : ∃ b, get a3 11 = b := ⟨_, rfl⟩
 obtain ⟨b3x4, e4⟩ : ∃ b, get a3 4 = b := ⟨_, rfl⟩
 obtain ⟨e0, e1, e2, -⟩ := f3.ks [(0, _), (1, _), (2, _)] ⟨e0, e1, e2, trivial⟩
 replace r0 := f3.ib 0 rfl
 replace r1 := f3.ib 1 rfl
 obtain ⟨t2_, hro5, hqt2_, hz5⟩ := f3.gzb 8 e4 rfl
 have hwt2_ := wt_seqb hqt2_
 have r5 : boxR 25 [(.int .i64 (t2_.k)), (.string (t2_.ch)), (.bool (t2_.ng)), t2_.rv.v, (.int .i64 (t2_.mn)), (.int .i64 (t2_.mx)), (.bool (t2_.lz)), t2_.kv.v] (τ3 5) b3x4 w3 := hro5
 have r2 : Fz (zTr (Gn none' w) t2_) τ3 w3 := hz5
 clear f3
 obtain ⟨g1, g2, g3, g4, g5⟩ := er_fold hqt2_
 replace g5 := g5.trans (show _ = (7 : Int) from by kernel_rfl)
 have g6 := wtF_bound t2_
 show Code.wp _ _ _ a3 w3
 refine wp_seq ?_
 refine region_St (bf := [0, 1, 3, 7, 15, 31, 63, 127, 255, 511, 1023, 2047, 4095, 8191, 16383, 32767, 65535, 131071, 262143, 524287, 1048575, 2097151, 4194303, 8388607, 16777215, 33554431, 67108863, 67108863, 268435455, 536870911, 1073741823, 2147483647, 2147483647, 8589934591, 17179869183, 34359738367, 68719476735]) (sp := [det _ 15 _, det _ 16 _, det _ 17 _, det _ 18 _, gdet _ 19 _ _, gdet _ 20 _ _, gdet _ 21 _ _, gdet _ 22 _ _, det _ 23 _, det _ 24 _, gdet _ 25 _ _, gdet _ 26 _ _, det _ 27 _, det _ 28 _, gdet _ 29 _ _, gzdet _ 30 ((((decide (t2_.k = 0)) && (decide ((t2_.kids.length : Int) = 3))) && ((fitsF t2_ 512 16).2)) = true) (fun b : Sv => b.v) (fun _ => True) (fun b : Sv => zSl TrE (Gn none' w) b.v [(leafT 2 (⟨#[97]⟩ : ByteArray) false 0 0 false)]), gzdet _ 31 ((((decide (t2_.k = 0)) && (decide ((t2_.kids.length : Int) = 3))) && ((fitsF t2_ 512 16).2)) = true) (fun b : Tr => b.v) (fun b : Tr => er b = nodeT 0 (⟨#[]⟩ : ByteArray) false 0 0 false Sv.nil [(leafT 2 (⟨#[97]⟩ : ByteArray) false 0 0 false)]) (fun b : Tr => zTr (Gn none' w) b), gdet _ 32 _ _, gdet _ 33 _ _, det _ 34 _, det _ 35 _, gdet _ 36 _ _, gdet _ 37 _ _, gdet _ 38 _ _, det _ 39 _, det _ 40 _, gdet _ 41 _ _, gdet _ 42 _ _, gdet _ 43 _ _, det _ 44 _, det _ 45 _, gdet _ 46 _ _, gdet _ 47 _ _, gdet _ 48 _ _, gdet _ 49 _ _, det _ 50 _, det _ 0 _]) [ib r0, ib r1, iz r2, Ini.any _, Ini.any _, ib r5] mixed st3 (by kernel_rfl) ⟨r0, r1, r2, trivial, trivial, r5, trivial⟩
  ⟨Ob.d fun c => r_fieldAddr rfl Try.underlying25 rfl rfl Try.sizeOf3 ((c.p e4).trans r5.ptr),
  Ob.d fun c => r_load1 rfl Try.isAgg3 (c.n 0 rfl) ((c.ib 5 rfl).cell (j := 0) rfl),
  Ob.d fun c => r_eql rfl (c.n 1 rfl) rfl,
  Ob.d fun c => r_move rfl (c.n 2 rfl),
  Ob.g 3 true rfl fun c hpc => r_fieldAddr rfl Try.underlying25 rfl rfl Try.sizeOf23 ((c.p e4).trans r5.ptr),
  Ob.g 3 true rfl fun c hpc => r_load1 rfl Try.isAgg23 (c.m 4 rfl hpc) ((c.ib 5 rfl).cell (j := 7) rfl),
  Ob.g 3 true rfl fun c hpc => r_len rfl Try.underlying23 (c.m 5 rfl hpc) r2.s.tl.sl.sl,
  Ob.g 3 true rfl fun c hpc => r_eql rfl (c.m 6 rfl hpc) rfl,
  Ob.d fun c => r_and rfl (c.n 3 rfl) (fun h => c.m 7 rfl h),
  Ob.d fun c => r_move rfl (c.n 8 rfl),
  Ob.g 9 true rfl fun c hpc => r_loadN (vs := [(.int .i64 (t2_.k)), (.string (t2_.ch)), (.bool (t2_.ng)), t2_.rv.v, (.int .i64 (t2_.mn)), (.int .i64 (t2_.mx)), (.bool (t2_.lz)), t2_.kv.v]) rfl Try.isAgg25 Try.sizeOf25 ((c.p e4).trans r5.ptr) rfl (fun _ _ hj => (c.ib 5 rfl).cell hj),
  Ob.gc 9 true rfl fun c hpc => ⟨_, _, (e_call1 rfl rfl Try.call20 (c.m 10 rfl hpc)), may_c t2_ _ (zs (c.iz 2 rfl)) (by have hq0 := hpc; (try simp only [Bool.and_eq_true, decide_eq_true_eq] at hq0); first | omega | decide | (simp only [List.map_cons, List.map_nil, sumL_cons, sumL_nil, wt_leaf, wt_node, ByteArray.size, List.size_toArray, List.length_cons, List.length_nil] at *; omega))⟩,
  Ob.d fun c => r_and rfl (c.n 9 rfl) (fun h => c.m 11 rfl h),
  Ob.d fun c => r_move rfl (c.n 12 rfl),
  Ob.g 13 true rfl fun c hpc => r_loadN (vs := [(.int .i64 ((leafT 2 (⟨#[97]⟩ : ByteArray) false 0 0 false).k)), (.string ((leafT 2 (⟨#[97]⟩ : ByteArray) false 0 0 false).ch)), (.bool ((leafT 2 (⟨#[97]⟩ : ByteArray) false 0 0 false).ng)), (leafT 2 (⟨#[97]⟩ : ByteArray) false 0 0 false).rv.v, (.int .i64 ((leafT 2 (⟨#[97]⟩ : ByteArray) false 0 0 false).mn)), (.int .i64 ((leafT 2 (⟨#[97]⟩ : ByteArray) false 0 0 false).mx)), (.bool ((leafT 2 (⟨#[97]⟩ : ByteArray) false 0 0 false).lz)), (leafT 2 (⟨#[97]⟩ : ByteArray) false 0 0 false).kv.v]) rfl Try.isAgg25 Try.sizeOf25 ((c.p e1).trans r0.ptr) rfl (fun _ _ hj => (c.ib 0 rfl).cell hj),
  Ob.gzSl (E := TrE) (xs := [(leafT 2 (⟨#[97]⟩ : ByteArray) false 0 0 false)]) (cells := #[(.int .i64 ((leafT 2 (⟨#[97]⟩ : ByteArray) false 0 0 false).k)), (.string ((leafT 2 (⟨#[97]⟩ : ByteArray) false 0 0 false).ch)), (.bool ((leafT 2 (⟨#[97]⟩ : ByteArray) false 0 0 false).ng)), (leafT 2 (⟨#[97]⟩ : ByteArray) false 0 0 false).rv.v, (.int .i64 ((leafT 2 (⟨#[97]⟩ : ByteArray) false 0 0 false).mn)), (.int .i64 ((leafT 2 (⟨#[97]⟩ : ByteArray) false 0 0 false).mx)), (.bool ((leafT 2 (⟨#[97]⟩ : ByteArray) false 0 0 false).lz)), (leafT 2 (⟨#[97]⟩ : ByteArray) false 0 0 false).kv.v]) st3 (gd1 13 true) rfl Try.underlying23 Try.sizeOf25 Try.zeroValue25 (by decide) (by decide) rfl rfl fun c hpc => fill1 (c.m 14 rfl hpc) (by kernel_rfl),
  Ob.gzRun (f := fun b : Tr => b.v) (Ψ := fun b : Tr => er b = nodeT 0 (⟨#[]⟩ : ByteArray) false 0 0 false Sv.nil [(leafT 2 (⟨#[97]⟩ : ByteArray) false 0 0 false)]) (Φ := fun b : Tr => zTr (Gn none' w) b) (gd1 13 true) fun c hpc => by obtain ⟨kv3_, hv15, -, hzkv3_⟩ := c.zd 15 rfl hpc; exact ⟨nodeT 0 (⟨#[]⟩ : ByteArray) false 0 0 false kv3_ [(leafT 2 (⟨#[97]⟩ : ByteArray) false 0 0 false)], er_node _ _ _ _ _ _ _ _, nodeZ hzkv3_ (zcons (leafZ _ _ _ _ _ _ _ _ _) znil), r_build (cells := #[(.int .i64 (0)), (.string ((⟨#[]⟩ : ByteArray))), (.bool (false)), (.slice none 0 0), (.int .i64 (0)), (.int .i64 (0)), (.bool (false)), kv3_.v]) rfl Try.underlying25 Try.zeroValue25 (pl := #[(0, 1), (1, 1), (2, 1), (3, 1), (4, 1), (5, 1), (6, 1), (7, 1)]) (fun w_ => by simp [Try.sizeOf22, Try.sizeOf23, Try.sizeOf3, Try.sizeOf4, Try.sizeOf9]) (fill1 hv15 rfl)⟩,
  Ob.gc 13 true rfl fun c hpc => by obtain ⟨t4_, hv16, hqt4_, hzt4_⟩ := c.zd 16 rfl hpc; have hwt4_ := (er_fold hqt4_).2.2.2.2; exact ⟨_, _, (e_call1 rfl rfl Try.call20 hv16), Calls.isV (may_c t4_ _ (zs hzt4_) (by have hq0 := hpc; (try simp only [Bool.and_eq_true, decide_eq_true_eq] at hq0); first | omega | decide | (simp only [List.map_cons, List.map_nil, sumL_cons, sumL_nil, wt_leaf, wt_node, ByteArray.size, List.size_toArray, List.length_cons, List.length_nil] at *; omega))) (congrArg _ (show ((fitsF t4_ 512 16).2) = ((fitsF (nodeT 0 (⟨#[]⟩ : ByteArray) false 0 0 false Sv.nil [(leafT 2 (⟨#[97]⟩ : ByteArray) false 0 0 false)]) 512 16).2) from by first | (rw [← hqt4_]; simp only [fitsF_er, sameF_er2]) | (rw [← sameF_er2, hqt4_])))⟩,
  Ob.g 13 true rfl fun c hpc => r_not rfl (c.m 17 rfl hpc),
  Ob.d fun c => r_and rfl (c.n 13 rfl) (fun h => c.m 18 rfl h),
  Ob.d fun c => r_move rfl (c.n 19 rfl),
  Ob.g 20 true rfl fun c hpc => r_loadN (vs := [(.int .i64 (t2_.k)), (.string (t2_.ch)), (.bool (t2_.ng)), t2_.rv.v, (.int .i64 (t2_.mn)), (.int .i64 (t2_.mx)), (.bool (t2_.lz)), t2_.kv.v]) rfl Try.isAgg25 Try.sizeOf25 ((c.p e4).trans r5.ptr) rfl (fun _ _ hj => (c.ib 5 rfl).cell hj),
  Ob.gc 20 true rfl fun c hpc => ⟨_, _, (e_call1 rfl rfl Try.call19 (c.m 21 rfl hpc)), parts_c t2_ _ (zs (c.iz 2 rfl)) (by have hq0 := hpc; (try simp only [Bool.and_eq_true, Bool.and_eq_false_iff, Bool.not_eq_true', Bool.not_eq_false', decide_eq_true_eq, decide_eq_false_iff_not] at hq0); first | omega | decide | (simp only [List.map_cons, List.map_nil, sumL_cons, sumL_nil, wt_leaf, wt_node, ByteArray.size, List.size_toArray, List.length_cons, List.length_nil] at *; omega))⟩,
  Ob.g 20 true rfl fun c hpc => r_eql rfl (c.m 22 rfl hpc) rfl,
  Ob.d fun c => r_and rfl (c.n 20 rfl) (fun h => c.m 23 rfl h),
  Ob.d fun c => r_move rfl (c.n 24 rfl),
  Ob.g 25 true rfl fun c hpc => r_loadN (vs := [(.int .i64 (t2_.k)), (.string (t2_.ch)), (.bool (t2_.ng)), t2_.rv.v, (.int .i64 (t2_.mn)), (.int .i64 (t2_.mx)), (.bool (t2_.lz)), t2_.kv.v]) rfl Try.isAgg25 Try.sizeOf25 ((c.p e4).trans r5.ptr) rfl (fun _ _ hj => (c.ib 5 rfl).cell hj),
  Ob.g 25 true rfl fun c hpc => r_loadN (vs := [(.int .i64 (t2_.k)), (.string (t2_.ch)), (.bool (t2_.ng)), t2_.rv.v, (.int .i64 (t2_.mn)), (.int .i64 (t2_.mx)), (.bool (t2_.lz)), t2_.kv.v]) rfl Try.isAgg25 Try.sizeOf25 ((c.p e4).trans r5.ptr) rfl (fun _ _ hj => (c.ib 5 rfl).cell hj),
  Ob.gc 25 true rfl fun c hpc => ⟨_, _, (e_call2 rfl rfl Try.call11 (c.m 26 rfl hpc) (c.m 27 rfl hpc)), same_c t2_ t2_ _ (zs (c.iz 2 rfl)) (zs (c.iz 2 rfl))⟩,
  Ob.d fun c => r_and rfl (c.n 25 rfl) (fun h => c.m 28 rfl h),
  Ob.d fun c => r_move rfl (c.n 29 rfl),
  Ob.g 30 true rfl fun c hpc => r_loadN (vs := [(.int .i64 ((leafT 2 (⟨#[97]⟩ : ByteArray) false 0 0 false).k)), (.string ((leafT 2 (⟨#[97]⟩ : ByteArray) false 0 0 false).ch)), (.bool ((leafT 2 (⟨#[97]⟩ : ByteArray) false 0 0 false).ng)), (leafT 2 (⟨#[97]⟩ : ByteArray) false 0 0 false).rv.v, (.int .i64 ((leafT 2 (⟨#[97]⟩ : ByteArray) false 0 0 false).mn)), (.int .i64 ((leafT 2 (⟨#[97]⟩ : ByteArray) false 0 0 false).mx)), (.bool ((leafT 2 (⟨#[97]⟩ : ByteArray) false 0 0 false).lz)), (leafT 2 (⟨#[97]⟩ : ByteArray) false 0 0 false).kv.v]) rfl Try.isAgg25 Try.sizeOf25 ((c.p e1).trans r0.ptr) rfl (fun _ _ hj => (c.ib 0 rfl).cell hj),
  Ob.g 30 true rfl fun c hpc => r_loadN (vs := [(.int .i64 ((leafT 2 (⟨#[98]⟩ : ByteArray) false 0 0 false).k)), (.string ((leafT 2 (⟨#[98]⟩ : ByteArray) false 0 0 false).ch)), (.bool ((leafT 2 (⟨#[98]⟩ : ByteArray) false 0 0 false).ng)), (leafT 2 (⟨#[98]⟩ : ByteArray) false 0 0 false).rv.v, (.int .i64 ((leafT 2 (⟨#[98]⟩ : ByteArray) false 0 0 false).mn)), (.int .i64 ((leafT 2 (⟨#[98]⟩ : ByteArray) false 0 0 false).mx)), (.bool ((leafT 2 (⟨#[98]⟩ : ByteArray) false 0 0 false).lz)), (leafT 2 (⟨#[98]⟩ : ByteArray) false 0 0 false).kv.v]) rfl Try.isAgg25 Try.sizeOf25 ((c.p e2).trans r1.ptr) rfl (fun _ _ hj => (c.ib 1 rfl).cell hj),
  Ob.gc 30 true rfl fun c hpc => ⟨_, _, (e_call2 rfl rfl Try.call11 (c.m 31 rfl hpc) (c.m 32 rfl hpc)), same_c (leafT 2 (⟨#[97]⟩ : ByteArray) false 0 0 false) (leafT 2 (⟨#[98]⟩ : ByteArray) false 0 0 false) _ (leafTr _ _ _ _ _ _ _ _) (leafTr _ _ _ _ _ _ _ _)⟩,
  Ob.g 30 true rfl fun c hpc => r_not rfl (c.m 33 rfl hpc),
  Ob.d fun c => r_and rfl (c.n 30 rfl) (fun h => c.m 34 rfl h),
  Ob.d fun c => r_assign rfl (c.n 35 rfl), trivial⟩ ?_
 intro a4 w4 τ4 st4 f4
 have e0 : get a4 0 = (.bool (((((((decide (t2_.k = 0)) && (decide ((t2_.kids.length : Int) = 3))) && ((fitsF t2_ 512 16).2)) && (!((fitsF (nodeT 0 (⟨#[]⟩ : ByteArray) false 0 0 false Sv.nil [(leafT 2 (⟨#[97]⟩ : ByteArray) false 0 0 false)]) 512 16).2))) && (decide (partsF t2_ = 4))) && (sameF t2_ t2_)) && (!(sameF (leafT 2 (⟨#[97]⟩ : ByteArray) false 0 0 false) (leafT 2 (⟨#[98]⟩ : ByteArray) false 0 0 false))))) := f4.v 36 rfl
 replace r2 := f4.iz 2 rfl
 clear f4
 show Code.wp _ _ _ a4 w4
 refine wp_ret ?_
 repeat (first | with_reducible refine then_ret ?_ | with_reducible refine block_ret ?_)
 refine ret1 (fn := Try.f10) rfl st4.defers e0 ?_
 skip
 exact ⟨congrArg _ (congrArg _ (by rw [g1, g2, g3, g4, sameF_self, sameAB]; kernel_rfl)), st4.ext0⟩
end B
end Go.Proofs.Ytocmchlhbniloaa
