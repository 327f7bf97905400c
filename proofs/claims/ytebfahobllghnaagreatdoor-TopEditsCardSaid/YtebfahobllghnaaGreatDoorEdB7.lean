/-
  TopEdits: PnL, PnLow, LongW, Base8.
-/
import Derived.Test.YtebfahobllghnaaGreatDoorChecked
import Derived.Shelf.SlIterI.Nil
import Derived.Shelf.SlIterI.Sorted
import Derived.Shelf.SortM.Plain
import Derived.Shelf.SortM.SortNone
import Derived.Test.YtebfahobllghnaaGreatDoorEdB0
import Derived.Test.YtebfahobllghnaaGreatDoorEdB1
import Derived.Test.YtebfahobllghnaaGreatDoorEdB6
import Derived.ProofKit
import Derived.Deep.Slices
import Derived.WideKeyArgs
import Derived.OpenShut
import Derived.Test.YtebfahobllghnaaGreatDoorEdA1
set_option linter.unusedSimpArgs false
set_option linter.unusedVariables false
namespace Go.Proofs.YtebfahobllghnaaGreatDoor
namespace X
open Go.RowKit B
section
open Go.Maps Go.Sort Go.Shelf
def kRenA : Ren := ⟨fun | 7 => 79 | 10 => 132 | n => n, fun | 23 => 160 | 26 => 3 | 3 => 3 | 28 => 163 | 0 => 0 | 27 => 162 | 33 => 234 | 4 => 4 | n => n, fun n => n⟩
theorem kLayA : SlLaysZI.n7 Tryz.prog kRenA where
  mixed := by kernel_rfl
  f7 := ⟨ "maps.Keys[map[int]int,int,int]", by decide, Tryz.func79.trans (congrArg some (by kernel_rfl))⟩
  f10 := ⟨ "maps.Keys[map[int]int,int,int]$1", by decide, Tryz.func132.trans (congrArg some (by kernel_rfl))⟩
  t0 := Tryz.underlying0
  a0 := Tryz.isAgg0
  z0 := Tryz.sizeOf0
  v0 := Tryz.zeroValue0
  t4 := Tryz.underlying4
  a4 := Tryz.isAgg4
  z4 := Tryz.sizeOf4
  v4 := Tryz.zeroValue4
  t23 := Tryz.underlying160
  a23 := Tryz.isAgg160
  z23 := Tryz.sizeOf160
  v23 := Tryz.zeroValue160
  t26 := Tryz.underlying3
  a26 := Tryz.isAgg3
  z26 := Tryz.sizeOf3
  v26 := Tryz.zeroValue3
  t27 := Tryz.underlying162
  a27 := Tryz.isAgg162
  z27 := Tryz.sizeOf162
  v27 := Tryz.zeroValue162
  t28 := Tryz.underlying163
  a28 := Tryz.isAgg163
  z28 := Tryz.sizeOf163
  v28 := Tryz.zeroValue163
  t33 := Tryz.underlying234
  a33 := Tryz.isAgg234
  z33 := Tryz.sizeOf234
  v33 := Tryz.zeroValue234
def kRenB : Ren := ⟨fun | 7 => 233 | 10 => 289 | n => n, fun | 23 => 216 | 26 => 3 | 3 => 288 | 28 => 163 | 0 => 0 | 27 => 162 | 33 => 234 | 4 => 4 | n => n, fun n => n⟩
theorem kLayB : SlLaysZI.n7 Tryz.prog kRenB where
  mixed := by kernel_rfl
  f7 := ⟨ "maps.Keys[map[int]gimlet/api.Range,int,gimlet/api.Range]", by decide, Tryz.func233.trans (congrArg some (by kernel_rfl))⟩
  f10 := ⟨ "maps.Keys[map[int]gimlet/api.Range,int,gimlet/api.Range]$1", by decide, Tryz.func289.trans (congrArg some (by kernel_rfl))⟩
  t0 := Tryz.underlying0
  a0 := Tryz.isAgg0
  z0 := Tryz.sizeOf0
  v0 := Tryz.zeroValue0
  t4 := Tryz.underlying4
  a4 := Tryz.isAgg4
  z4 := Tryz.sizeOf4
  v4 := Tryz.zeroValue4
  t23 := Tryz.underlying216
  a23 := Tryz.isAgg216
  z23 := Tryz.sizeOf216
  v23 := Tryz.zeroValue216
  t26 := Tryz.underlying3
  a26 := Tryz.isAgg3
  z26 := Tryz.sizeOf3
  v26 := Tryz.zeroValue3
  t27 := Tryz.underlying162
  a27 := Tryz.isAgg162
  z27 := Tryz.sizeOf162
  v27 := Tryz.zeroValue162
  t28 := Tryz.underlying163
  a28 := Tryz.isAgg163
  z28 := Tryz.sizeOf163
  v28 := Tryz.zeroValue163
  t33 := Tryz.underlying234
  a33 := Tryz.isAgg234
  z33 := Tryz.sizeOf234
  v33 := Tryz.zeroValue234
def sRen : Ren := ⟨fun | 6 => 78 | 8 => 130 | 9 => 131 | 11 => 196 | 13 => 198 | 12 => 197 | 23 => 258 | 24 => 259 | 14 => 249 | 15 => 250 | 16 => 251 | 17 => 252 | 18 => 253 | 19 => 254 | 20 => 255 | 21 => 256 | 22 => 257 | 25 => 308 | 26 => 309 | 27 => 310 | 28 => 311 | 29 => 312 | 30 => 201 | 31 => 343 | n => n, fun | 26 => 3 | 28 => 163 | 24 => 97 | 0 => 0 | 3 => 3 | 37 => 58 | 48 => 52 | 50 => 394 | 4 => 4 | 40 => 387 | 39 => 386 | 45 => 202 | 5 => 5 | 9 => 9 | 51 => 434 | 55 => 429 | 57 => 460 | 58 => 259 | 33 => 234 | n => n, fun n => n⟩
theorem sLay : SlLaysZI.n6 Tryz.prog sRen where
  mixed := by kernel_rfl
  f6 := ⟨ "slices.Sorted[int]", by decide, Tryz.func78.trans (congrArg some (by kernel_rfl))⟩
  f8 := ⟨ "slices.Collect[int]", by decide, Tryz.func130.trans (congrArg some (by kernel_rfl))⟩
  f11 := ⟨ "slices.AppendSeq[[]int,int]", by decide, Tryz.func196.trans (congrArg some (by kernel_rfl))⟩
  t0 := Tryz.underlying0
  a0 := Tryz.isAgg0
  z0 := Tryz.sizeOf0
  v0 := Tryz.zeroValue0
  t24 := Tryz.underlying97
  a24 := Tryz.isAgg97
  z24 := Tryz.sizeOf97
  v24 := Tryz.zeroValue97
  t26 := Tryz.underlying3
  a26 := Tryz.isAgg3
  z26 := Tryz.sizeOf3
  v26 := Tryz.zeroValue3
  t28 := Tryz.underlying163
  a28 := Tryz.isAgg163
  z28 := Tryz.sizeOf163
  v28 := Tryz.zeroValue163
  i26 := by kernel_rfl
def tRen : Ren := ⟨fun | 5 => 131 | 8 => 198 | 7 => 197 | 19 => 258 | 20 => 259 | 10 => 249 | 11 => 250 | 12 => 251 | 13 => 252 | 14 => 253 | 15 => 254 | 16 => 255 | 17 => 256 | 18 => 257 | 30 => 308 | 31 => 309 | 32 => 310 | 33 => 311 | 34 => 312 | 35 => 201 | 40 => 343 | n => n, fun | 23 => 97 | 25 => 3 | 3 => 3 | 32 => 58 | 22 => 97 | 0 => 0 | 44 => 52 | 46 => 394 | 4 => 4 | 36 => 387 | 35 => 386 | 41 => 202 | 5 => 5 | 9 => 9 | 53 => 434 | 57 => 429 | 63 => 460 | 64 => 259 | n => n, fun n => n⟩
theorem tLay : SlLaysM.n5 Tryz.prog tRen where
  mixed := by kernel_rfl
  f5 := ⟨ "slices.Sort[[]int,int]", by decide, Tryz.func131.trans (congrArg some (by kernel_rfl))⟩
  f7 := ⟨ "slices.pdqsortOrdered[int]", by decide, Tryz.func197.trans (congrArg some (by kernel_rfl))⟩
  f8 := Tryz.func198.trans (congrArg some (by kernel_rfl))
  f10 := ⟨ "slices.insertionSortOrdered[int]", by decide, Tryz.func249.trans (congrArg some (by kernel_rfl))⟩
  f11 := ⟨ "slices.heapSortOrdered[int]", by decide, Tryz.func250.trans (congrArg some (by kernel_rfl))⟩
  f12 := ⟨ "slices.breakPatternsOrdered[int]", by decide, Tryz.func251.trans (congrArg some (by kernel_rfl))⟩
  f13 := ⟨ "slices.choosePivotOrdered[int]", by decide, Tryz.func252.trans (congrArg some (by kernel_rfl))⟩
  f14 := ⟨ "slices.reverseRangeOrdered[int]", by decide, Tryz.func253.trans (congrArg some (by kernel_rfl))⟩
  f15 := ⟨ "slices.partialInsertionSortOrdered[int]", by decide, Tryz.func254.trans (congrArg some (by kernel_rfl))⟩
  f16 := ⟨ "cmp.Less[int]", by decide, Tryz.func255.trans (congrArg some (by kernel_rfl))⟩
  f17 := ⟨ "slices.partitionEqualOrdered[int]", by decide, Tryz.func256.trans (congrArg some (by kernel_rfl))⟩
  f18 := ⟨ "slices.partitionOrdered[int]", by decide, Tryz.func257.trans (congrArg some (by kernel_rfl))⟩
  f19 := Tryz.func258.trans (congrArg some (by kernel_rfl))
  f20 := Tryz.func259.trans (congrArg some (by kernel_rfl))
  f30 := ⟨ "slices.siftDownOrdered[int]", by decide, Tryz.func308.trans (congrArg some (by kernel_rfl))⟩
  f31 := Tryz.func309.trans (congrArg some (by kernel_rfl))
  f32 := Tryz.func310.trans (congrArg some (by kernel_rfl))
  f33 := ⟨ "slices.medianAdjacentOrdered[int]", by decide, Tryz.func311.trans (congrArg some (by kernel_rfl))⟩
  f34 := ⟨ "slices.medianOrdered[int]", by decide, Tryz.func312.trans (congrArg some (by kernel_rfl))⟩
  f35 := ⟨ "cmp.isNaN[int]", by decide, Tryz.func201.trans (congrArg some (by kernel_rfl))⟩
  f40 := ⟨ "slices.order2Ordered[int]", by decide, Tryz.func343.trans (congrArg some (by kernel_rfl))⟩
  t0 := Tryz.underlying0
  a0 := Tryz.isAgg0
  z0 := Tryz.sizeOf0
  v0 := Tryz.zeroValue0
  t3 := Tryz.underlying3
  a3 := Tryz.isAgg3
  z3 := Tryz.sizeOf3
  v3 := Tryz.zeroValue3
  t4 := Tryz.underlying4
  a4 := Tryz.isAgg4
  z4 := Tryz.sizeOf4
  v4 := Tryz.zeroValue4
  t5 := Tryz.underlying5
  a5 := Tryz.isAgg5
  z5 := Tryz.sizeOf5
  v5 := Tryz.zeroValue5
  t9 := Tryz.underlying9
  a9 := Tryz.isAgg9
  z9 := Tryz.sizeOf9
  v9 := Tryz.zeroValue9
  t22 := Tryz.underlying97
  a22 := Tryz.isAgg97
  z22 := Tryz.sizeOf97
  v22 := Tryz.zeroValue97
  t23 := Tryz.underlying97
  a23 := Tryz.isAgg97
  z23 := Tryz.sizeOf97
  v23 := Tryz.zeroValue97
  t25 := Tryz.underlying3
  a25 := Tryz.isAgg3
  z25 := Tryz.sizeOf3
  v25 := Tryz.zeroValue3
  t32 := Tryz.underlying58
  a32 := Tryz.isAgg58
  z32 := Tryz.sizeOf58
  v32 := Tryz.zeroValue58
  t35 := Tryz.underlying386
  a35 := Tryz.isAgg386
  z35 := Tryz.sizeOf386
  v35 := Tryz.zeroValue386
  t36 := Tryz.underlying387
  a36 := Tryz.isAgg387
  z36 := Tryz.sizeOf387
  v36 := Tryz.zeroValue387
  t41 := Tryz.underlying202
  a41 := Tryz.isAgg202
  z41 := Tryz.sizeOf202
  v41 := Tryz.zeroValue202
  t44 := Tryz.underlying52
  a44 := Tryz.isAgg52
  z44 := Tryz.sizeOf52
  v44 := Tryz.zeroValue52
  t46 := Tryz.underlying394
  a46 := Tryz.isAgg394
  z46 := Tryz.sizeOf394
  v46 := Tryz.zeroValue394
  t53 := Tryz.underlying434
  a53 := Tryz.isAgg434
  z53 := Tryz.sizeOf434
  v53 := Tryz.zeroValue434
  t57 := Tryz.underlying429
  a57 := Tryz.isAgg429
  z57 := Tryz.sizeOf429
  v57 := Tryz.zeroValue429
  t63 := Tryz.underlying460
  a63 := Tryz.isAgg460
  z63 := Tryz.sizeOf460
  v63 := Tryz.zeroValue460
  t64 := Tryz.underlying259
  a64 := Tryz.isAgg259
  z64 := Tryz.sizeOf259
  v64 := Tryz.zeroValue259
theorem sortsIn (m : Nat) : AnyZI.SortsIn Tryz.prog sRen Fence.wide m :=
  ⟨fun blk off cap ss W hH hblk hsz => callsIn_wide.2 (AnyM.slices_Sort_int (ρ := tRen) tLay blk off cap ss W hH hblk hsz),
   fun p cap W => callsIn_wide.2 (AnyM.slices_Sort_int_none (ρ := tRen) tLay p cap W)⟩
def anyR : Value → Option (DataW Unit × List MemPlace) := fun _ => some (.nil, [])
noncomputable def datumOf (es : Array MapEntry) : DataW Unit := .map ((es.toList.map (Go.WideElems.rg Tryz.prog 3 anyR)).foldr DataW.insert [])
theorem sorted_run {R : Ren} (L : SlLaysZI.n7 Tryz.prog R) (hR : R.t 26 = 3) (eg : ∀ args w, (callFunc (R.f 10) args).run Tryz.prog w = .ok (.enter (R.f 10) args) w) {w : World} {Bm b ck : Nat} {es : Array MapEntry} (hcell : w.cell? ⟨Bm, 0, none⟩ = some (.map (some b))) (hBm : Bm < w.heap.size)
    (hes : w.heap[b]? = some (.map es ck)) (fit : Go.WideElems.Fit Tryz.prog 3 anyR es ck) (hsz : es.size ≤ 1000) :
    Calls Tryz.prog 78 #[.func (.func (R.f 10)) #[] #[.pointer (some ⟨Bm, 0, none⟩)]] w fun e w' => ∃ (v : Value) (ss : List Int), e = .returned v ∧ ss.Perm (intKeys (datumOf es)) ∧
      w'.ownsRow w.heap.size 3 1 v ss.length ((ss.mergeSort (fun x y => decide (x ≤ y))).map encZ) ∧ (v = .slice none 0 0 ↔ ss = []) ∧ Below w.heap.size w w' := by
  have hown : w.ownsMap Tryz.prog (R.t 26) anyR b es.size (datumOf es) := by
    rw [hR]
    exact ⟨es, ck, hes, fit, Nat.le_refl _, rfl⟩
  have hlen : Go.Maps.size (datumOf es) = es.size := by
    simp [datumOf, Go.Maps.size, (Go.WideShapes.sorted_perm _).length_eq]
  have hseq : SeqGives Fence.wide 2 Tryz.prog (R.f 10) #[.pointer (some ⟨Bm, 0, none⟩)] encZ (fun ss => ss.Perm (intKeys (datumOf es))) (Go.Maps.size (datumOf es)) w :=
    AnyZI.keys_gives (ρ := R) { L with } Fence.wide _ trivial rfl (by omega) Bm b es.size (datumOf es) w hBm hcell hown
  exact callsIn_wide.1 (AnyZI.sorted_in sLay Fence.wide 5 trivial trivial trivial trivial rfl (by omega) (sortsIn _) (fun args w => enter_run (fn := Tryz.f131) Tryz.func131 (by kernel_rfl) rfl args w) (R.f 10) #[.pointer (some ⟨Bm, 0, none⟩)] trivial eg _ _ (by rw [hlen]; simp [maxLen]; omega) (by rw [hlen]; omega) _ hseq)
theorem sorted_nil {R : Ren} (L : SlLaysZI.n7 Tryz.prog R) (eg : ∀ args w, (callFunc (R.f 10) args).run Tryz.prog w = .ok (.enter (R.f 10) args) w) {w : World} {Bm : Nat} (hcell : w.cell? ⟨Bm, 0, none⟩ = some (.map none)) (hBm : Bm < w.heap.size) :
    Calls Tryz.prog 78 #[.func (.func (R.f 10)) #[] #[.pointer (some ⟨Bm, 0, none⟩)]] w fun e w' => e = .returned (.slice none 0 0) ∧ Below w.heap.size w w' := by
  have hseq : SeqGives Fence.wide 2 Tryz.prog (R.f 10) #[.pointer (some ⟨Bm, 0, none⟩)] encZ (fun ss : List Int => ss = []) 0 w :=
    AnyZI.keys_gives_nil (ρ := R) { L with } Fence.wide _ trivial rfl Bm w hBm hcell
  refine calls_mono (callsIn_wide.1 (AnyZI.sorted_in sLay Fence.wide 5 trivial trivial trivial trivial rfl (by omega) (sortsIn _) (fun args w => enter_run (fn := Tryz.f131) Tryz.func131 (by kernel_rfl) rfl args w) (R.f 10) #[.pointer (some ⟨Bm, 0, none⟩)] trivial eg _ 0 (Nat.zero_le _) (by omega) _ hseq)) fun e w' ⟨v, ss, h1, h2, h3, h4, h5⟩ => ⟨?_, h5⟩
  rw [h1, h4.2 h2]
end
theorem ext_below {w w' : World} (h : Below w.heap.size w w') : Ext none' w w' := ⟨h.os, h.tape, h.output, h.size, fun k hk _ => h.block k hk⟩
theorem enter78 (args : Array Value) (w : World) : (callFunc 78 args).run Tryz.prog w = .ok (.enter 78 args) w := enter_run (fn := Tryz.f78) Tryz.func78 (by kernel_rfl) rfl args w
theorem enter132 (args : Array Value) (w : World) : (callFunc 132 args).run Tryz.prog w = .ok (.enter 132 args) w := enter_run (fn := Tryz.f132) Tryz.func132 (by kernel_rfl) rfl args w
theorem enter289 (args : Array Value) (w : World) : (callFunc 289 args).run Tryz.prog w = .ok (.enter 289 args) w := enter_run (fn := Tryz.f289) Tryz.func289 (by kernel_rfl) rfl args w
def keyI : SV × SV × Nat → Int
  | (.i _ n, _, _) => n
  | _ => 0
theorem insI_ok {n : Int} : ∀ {l : List Int}, l.Pairwise (· ≤ ·) → (insI n l).Perm (n :: l) ∧ (insI n l).Pairwise (· ≤ ·)
  | [], _ => ⟨List.Perm.refl _, List.pairwise_singleton _ _⟩
  | k :: l, h => by
    simp only [insI]
    split
    · rename_i hk
      have hk := leI_iff.1 hk
      refine ⟨List.Perm.refl _, List.Pairwise.cons (fun a ha => ?_) h⟩
      rcases List.mem_cons.1 ha with rfl | ha
      · exact hk
      · have := (List.pairwise_cons.1 h).1 a ha; omega
    · rename_i hk
      have hk : ¬ n ≤ k := fun q => by rw [leI_iff.2 q] at hk; cases hk
      obtain ⟨h1, h2⟩ := insI_ok (n := n) (List.pairwise_cons.1 h).2
      refine ⟨(h1.cons k).trans (List.Perm.swap n k l), List.Pairwise.cons (fun a ha => ?_) h2⟩
      rcases List.mem_cons.1 (h1.mem_iff.1 ha) with rfl | ha
      · omega
      · exact (List.pairwise_cons.1 h).1 a ha
theorem keysI_yl : ∀ {es : List (SV × SV × Nat)}, Yl (keysI es) fun l => l.Perm (es.map keyI) ∧ l.Pairwise (· ≤ ·)
  | [] => Yl.pure _ ⟨List.Perm.refl _, .nil⟩
  | (k, v, n) :: es => by
    have ih := keysI_yl (es := es)
    cases k with
    | i ik n =>
      cases ik with
      | i64 =>
        refine Yl.map (F := keysI es) (fun r => insI n r) ih fun r hr => ?_
        obtain ⟨h1, h2⟩ := insI_ok (n := n) hr.2
        exact ⟨h1.trans (hr.1.cons n), h2⟩
      | _ => exact Yl.no
    | _ => exact Yl.no
theorem svI_yl : ∀ {l : List Int}, Yl (svI l) fun cs => cs = l.map (SV.i .i64)
  | [] => Yl.pure _ rfl
  | n :: l => Yl.map (F := svI l) (fun r => SV.i .i64 n :: r) svI_yl fun r hr => by rw [hr]; rfl
theorem notIn_ok {n : Int} {b : Nat} : ∀ {l : List (SV × SV × Nat)}, notIn n b l = true → ∀ x ∈ l, n ≠ keyI x ∧ b ≠ x.2.2
  | [], _, x, hx => by cases hx
  | (k, v, c) :: l, h, x, hx => by
    cases k <;> first | (simp [notIn] at h; done) | skip
    rename_i ik m
    cases ik <;> first | (simp [notIn] at h; done) | skip
    simp only [notIn, Bool.and_eq_true, Bool.not_eq_true'] at h
    rcases List.mem_cons.1 hx with rfl | hx
    · refine ⟨fun e => ?_, Nat.ne_of_beq_eq_false h.1.2⟩
      have : eqI n m = true := eqI_iff.2 e
      rw [h.1.1] at this; cases this
    · exact notIn_ok h.2 x hx
theorem mapOk_den {ρ : Rho} {θ : Th} {ck : Nat} : ∀ {es : List (SV × SV × Nat)} {l : List MapEntry}, mapOk es ck = true → denE ρ θ es = some l →
    l.map (·.key) = es.map (fun x => Value.int .i64 (keyI x)) ∧ l.map (·.born) = es.map (·.2.2) ∧ (∀ x ∈ l, x.born < ck) ∧ (l.map (·.born)).Nodup ∧ (l.map (·.key)).Nodup ∧ ∀ x ∈ l, ∃ n : Int, x.key = .int .i64 n ∧ -9223372036854775808 ≤ n ∧ n ≤ 9223372036854775807
  | [], l, _, h => by cases h; simp
  | (k, v, b) :: es, l, ho, h => by
    cases k <;> first | (simp [mapOk] at ho; done) | skip
    rename_i ik n
    cases ik <;> first | (simp [mapOk] at ho; done) | skip
    simp only [mapOk, Bool.and_eq_true, leI_iff, Nat.blt_eq] at ho
    obtain ⟨⟨⟨⟨o1, o2⟩, o3⟩, o4⟩, o5⟩ := ho
    simp only [denE, den, Option.bind_some, Option.bind_eq_some_iff, Option.map_eq_some_iff] at h
    obtain ⟨u, h1, l', h2, rfl⟩ := h
    obtain ⟨e1, e2, e3, e4, e5, e6⟩ := mapOk_den o5 h2
    have nin := notIn_ok o4
    refine ⟨by simp [e1, keyI], by simp [e2], fun x hx => ?_, ?_, ?_, fun x hx => ?_⟩
    · rcases List.mem_cons.1 hx with rfl | hx
      · exact o3
      · exact e3 x hx
    · rw [List.map_cons, List.nodup_cons]
      refine ⟨fun hm => ?_, e4⟩
      rw [e2, List.mem_map] at hm
      obtain ⟨x, hx, hb⟩ := hm
      exact (nin x hx).2 hb.symm
    · rw [List.map_cons, List.nodup_cons]
      refine ⟨fun hm => ?_, e5⟩
      rw [e1, List.mem_map] at hm
      obtain ⟨x, hx, hb⟩ := hm
      have : keyI x = n := by simpa using hb
      exact (nin x hx).1 this.symm
    · rcases List.mem_cons.1 hx with rfl | hx
      · exact ⟨n, rfl, o1, o2⟩
      · exact e6 x hx
def valI : Value → Int
  | .int _ n => n
  | _ => 0
section
open Go.Maps Go.Sort Go.Shelf
theorem rd_key3 {x : MapEntry} {n : Int} (hk : x.key = .int .i64 n) (h1 : -9223372036854775808 ≤ n) (h2 : n ≤ 9223372036854775807) : Go.WideElems.rd Tryz.prog 3 anyR x = some (.int .i64 n, .nil) := by
  have hw : (Lit.int .i64 n).wf = true := by simp [Lit.wf, IntKind.min, IntKind.max, IntKind.signed, IntKind.bits]; omega
  have : keyOf Tryz.prog 3 x.key = some (.int .i64 n) := by
    rw [hk]; simp [keyOf, Tryz.underlying3, mapKey, hw]
  simp [Go.WideElems.rd, this, anyR]
theorem map_facts {ρ : Rho} {θ : Th} {ck : Nat} {es : List (SV × SV × Nat)} {arr : Array MapEntry} (ho : mapOk es ck = true) (hl : es.length ≤ 1000) (hd : denE ρ θ es = some arr.toList) :
    (intKeys (datumOf arr)).Perm (es.map keyI) ∧ Go.WideElems.Fit Tryz.prog 3 anyR arr ck ∧ arr.size ≤ 1000 := by
  obtain ⟨e1, e2, e3, e4, e5, e6⟩ := mapOk_den ho hd
  have hsz : arr.size ≤ 1000 := by
    have := congrArg List.length e1
    simp at this; omega
  refine ⟨?_, ⟨by simp [maxLen]; omega, ⟨e3, e4, e5⟩, fun x hx => ?_⟩, hsz⟩
  · have h1 : (intKeys (datumOf arr)).Perm ((arr.toList.map (Go.WideElems.rg Tryz.prog 3 anyR)).map fun p => Go.intOf p.1) := (Go.WideShapes.sorted_perm _).map _
    refine h1.trans ?_
    rw [List.map_map]
    have h2 : arr.toList.map ((fun p : Lit × DataW Unit => Go.intOf p.1) ∘ Go.WideElems.rg Tryz.prog 3 anyR) = (arr.toList.map (·.key)).map valI := by
      rw [List.map_map]
      refine List.map_congr_left fun x hx => ?_
      obtain ⟨n, k1, k2, k3⟩ := e6 x hx
      simp only [Function.comp, Go.WideElems.rg_of (rd_key3 k1 k2 k3), k1]
      rfl
    rw [h2, e1, List.map_map]
    exact List.Perm.refl _
  · obtain ⟨n, k1, k2, k3⟩ := e6 x hx
    exact ⟨_, rd_key3 k1 k2 k3⟩
end
theorem dens_ints {ρ : Rho} {θ : Th} : ∀ {l : List Int}, dens ρ θ (l.map (SV.i .i64)) = some (l.map encZ)
  | [] => rfl
  | n :: l => by simp only [List.map_cons, dens, den, Option.bind_some, dens_ints (l := l), Option.map_some]
theorem fn_arg {ρ : Rho} {θ : Th} {f t q c : Nat} {vs : List Value} (hq : θ t = some (q, c)) (h : dens ρ θ [.fn f [] [.p t 0]] = some vs) : vs = [.func (.func f) #[] #[.pointer (some ⟨q, 0, none⟩)]] := by
  simp only [dens, den, hq, Option.map_some, Option.bind_some, Option.some.injEq] at h
  rw [← h]
section
variable {ρ : Rho} {m : Mem} {nx : Nat} {pc : PC}
theorem sorted_yl {args : List SV} (hs : Sat ρ pc) : Yl (fun K => sortedKeys [132, 289] 3 args m nx pc fun v m nx pc => K ⟨v, m, nx, pc⟩) (CallR Tryz.prog ρ 78 args m nx) := by
  unfold sortedKeys
  split
  · rename_i f t
    split
    · rename_i hf
      have hf : f = 132 ∨ f = 289 := by simpa using memN_iff.1 hf
      split
      · rename_i ty ex hg
        refine Yl.pure (⟨.ns, m, nx, pc⟩ : O4) ⟨enter78, hs, Nat.le_refl _, fun t h1 h2 => absurd h1 h2, fun w θ vs hvs hM _ => ?_⟩
        obtain ⟨q, c, us, h1, h2, _, h4, _⟩ := (hM.holds t _ hg).cells
        cases h2
        have hcell := h4 0 _ rfl
        have hq : q < w.heap.size := (hM.holds t _ hg).lt (fa := true) h1 rfl
        rw [fn_arg h1 hvs]
        have key : Calls Tryz.prog 78 #[.func (.func f) #[] #[.pointer (some ⟨q, 0, none⟩)]] w fun e w' => e = .returned (.slice none 0 0) ∧ Below w.heap.size w w' := by
          rcases hf with rfl | rfl
          · exact sorted_nil kLayA enter132 hcell hq
          · exact sorted_nil kLayB enter289 hcell hq
        exact calls_mono key fun e w' ⟨k1, k2⟩ => ⟨_, θ, k1, SP.still' hM (ext_below k2), rfl⟩
      · rename_i ty g ex hg
        split
        · rename_i es ck hes
          split
          · rename_i hc
            simp only [Bool.and_eq_true, Nat.ble_eq] at hc
            refine Yl.bind keysI_yl fun l hl => ?_
            have main : ∀ (w : World) (θ : Th) (vs : List Value), dens ρ θ [.fn f [] [.p t 0]] = some vs → MemOk ρ θ m.get w → Calls Tryz.prog 78 vs.toArray w fun e w' => ∃ v : Value, e = .returned v ∧ w'.ownsRow w.heap.size 3 1 v l.length (l.map encZ) ∧ (v = .slice none 0 0 ↔ l = []) ∧ Below w.heap.size w w' := fun w θ vs hvs hM => by
              obtain ⟨q, c, us, h1, h2, _, h4, _⟩ := (hM.holds t _ hg).cells
              obtain ⟨g', cg, arr, b1, b2, b3⟩ := hM.holds g _ hes
              have hq : q < w.heap.size := (hM.holds t _ hg).lt (fa := true) h1 rfl
              simp only [dens, den, b1, Option.map_some, Option.bind_some, Option.some.injEq] at h2
              subst h2
              have hcell := h4 0 _ rfl
              obtain ⟨f1, f2, f3⟩ := map_facts hc.1 hc.2 b3
              rw [fn_arg h1 hvs]
              have key : Calls Tryz.prog 78 #[.func (.func f) #[] #[.pointer (some ⟨q, 0, none⟩)]] w fun e w' => ∃ (v : Value) (ss : List Int), e = .returned v ∧ ss.Perm (intKeys (datumOf arr)) ∧
                  w'.ownsRow w.heap.size 3 1 v ss.length ((ss.mergeSort (fun x y => decide (x ≤ y))).map encZ) ∧ (v = .slice none 0 0 ↔ ss = []) ∧ Below w.heap.size w w' := by
                rcases hf with rfl | rfl
                · exact sorted_run kLayA rfl enter132 hcell hq b2 f2 f3
                · exact sorted_run kLayB rfl enter289 hcell hq b2 f2 f3
              refine calls_mono key fun e w' ⟨v, ss, k1, k2, k3, k4, k5⟩ => ?_
              have p1 : ss.Perm l := (k2.trans f1).trans hl.1.symm
              have e2 : ss.mergeSort (fun x y => decide (x ≤ y)) = l := by
                have h1 : ss.mergeSort (fun x y => decide (x ≤ y)) = l.mergeSort (fun x y => decide (x ≤ y)) := mergeSort_of_perm_i p1
                rw [h1]
                exact List.mergeSort_of_pairwise (hl.2.imp fun h => by simpa using h)
              rw [e2, p1.length_eq] at k3
              refine ⟨v, k1, k3, k4.trans ⟨fun h => ?_, fun h => ?_⟩, k5⟩
              · subst h; exact List.nil_perm.1 p1
              · subst h; exact List.perm_nil.1 p1
            split
            · refine Yl.pure (⟨.ns, m, nx, pc⟩ : O4) ⟨enter78, hs, Nat.le_refl _, fun t h1 h2 => absurd h1 h2, fun w θ vs hvs hM _ => ?_⟩
              refine calls_mono (main w θ vs hvs hM) fun e w' ⟨v, k1, k2, k3, k4⟩ => ?_
              have := k3.2 rfl
              subst this
              exact ⟨_, θ, k1, SP.still' hM (ext_below k4), rfl⟩
            · rename_i hne
              refine Yl.bind svI_yl fun cs hcs => ?_
              subst hcs
              unfold newB
              refine Yl.bind frn_yl fun nx' hnx => ?_
              subst hnx
              refine Yl.bind set_yl fun m' hm' => ?_
              refine Yl.map (fun n => (⟨.sl nx' 0 n (.q 1), m', nx' + 1, pc⟩ : O4)) frn_yl fun n hn => ?_
              have hn : n = l.length := by rw [hn, lenC0]; simp
              subst hn
              refine ⟨enter78, hs, Nat.le_succ _, fun t h1 h2 => ?_, fun w θ vs hvs hM hfr => ?_⟩
              · by_cases e : t = nx'
                · subst e; exact ⟨Nat.le_refl _, Nat.lt_succ_self _⟩
                · exact absurd h1 (by have := hm' t; rw [if_neg e] at this; rw [← this]; exact h2)
              · refine calls_mono (main w θ vs hvs hM) fun e w' ⟨v, k1, k2, k3, k4⟩ => ?_
                have hx := hfr nx' (Nat.le_refl _) (Nat.lt_succ_self _)
                rcases k2.2 with ⟨h0, _⟩ | ⟨gb, cap, cur, rfl, hbase, hgb, r1, r2, r3, r4⟩
                · exact absurd (k3.1 h0) hne
                · rw [Nat.mul_one] at r3 r4
                  refine ⟨_, updT θ nx' (gb, cap), k1, SP.alloc (b := .ce 3 (l.map (SV.i .i64)) false) hM hx (ext_below k4) hbase ⟨gb, cap, l.map encZ, cur, cur.toList.drop l.length, by simp [updT], hgb, r3, dens_ints, fun v hv => ?_, ?_, fun h => by cases h⟩ fun t b' hb => ?_, ?_⟩
                  · obtain ⟨n, _, rfl⟩ := List.mem_map.1 hv
                    rfl
                  · rw [← r4]; exact (List.take_append_drop _ _).symm
                  · rw [hm' t] at hb
                    by_cases e : t = nx'
                    · rw [if_pos e] at hb; exact .inl ⟨e, (Option.some.inj hb).symm⟩
                    · rw [if_neg e] at hb; exact .inr ⟨e, hb⟩
                  · simp [den, updT, Cap.den]
          · exact Yl.no
        · exact Yl.no
      · exact Yl.no
    · exact Yl.no
  · exact Yl.no
end
end X
end Go.Proofs.YtebfahobllghnaaGreatDoor
namespace Go.Proofs.YtebfahobllghnaaGreatDoor
namespace X
open Go.RowKit B
set_option maxRecDepth 1000000
theorem ops_step {P : Program} {ops : Array Oper} {Q : Exit → Act → World → Prop} {i : Nat} {rest : List Nat} {a : Act} {w : World} {o : Oper} {v : Value} (ho : ops[i]? = some o) (hg : o.guard = none) (h : Runs P a o w v) (k : wpOps P ops Q rest (a.put o.dst v) w) : wpOps P ops Q (i :: rest) a w := by
  rw [wpOps_cons]
  unfold wpOp
  rw [ho]
  have hw : Region.wanted o (yielded ops a.tmps) = true := by simp [Region.wanted, hg]
  simp only [hw, if_true]
  exact .inl (wp_val h k)
theorem ops_next {P : Program} {ops : Array Oper} {Q : Exit → Act → World → Prop} {i d : Nat} {rest : List Nat} {a : Act} {w : World} {o : Oper} {v : Value} (ho : ops[i]? = some o) (hd : o.dst = some d) (hg : o.guard = none) (hs : d < a.tmps.size) (h : Runs P a o w v)
    (k : ∀ a', a'.defers = a.defers → a'.tmps.size = a.tmps.size → B.get a' d = v → (∀ k, k ≠ d → B.get a' k = B.get a k) → wpOps P ops Q rest a' w) : wpOps P ops Q (i :: rest) a w :=
  ops_step ho hg h (k _ (defers_put _ _ _) (size_put _ _ _) (by rw [hd, get_put a d d v hs, if_pos rfl]) fun j hj => by rw [hd, get_put a d j v hs, if_neg hj])
def lowF (x n : Int) : Int := x % 18446744073709551616 % n
theorem lowF_ok {x n : Int} (hn : 0 < n) : 0 ≤ lowF x n ∧ lowF x n < n := ⟨Int.emod_nonneg _ (by omega), Int.emod_lt_of_pos _ hn⟩
theorem low_c (x n : Int) (w : World) (hn : 0 < n) (hn2 : n ≤ 9223372036854775807) : Calls Tryz.prog 7 #[.int .i64 x, .int .i64 n] w (fun e w' => e = .returned (.int .i64 (lowF x n)) ∧ w' = w) := by
  have t3 : Tryz.prog.underlying 3 = some (.int .i64) := by kernel_rfl
  have tU64 : Tryz.prog.underlying 394 = some (.int .u64) := by kernel_rfl
  obtain ⟨l1, l2⟩ := lowF_ok (x := x) hn
  have e1 : IntKind.u64.wrap x = x % 18446744073709551616 := by simp [IntKind.wrap, IntKind.signed, IntKind.bits]
  have e2 : IntKind.u64.wrap n = n := by simp [IntKind.wrap, IntKind.signed, IntKind.bits]; omega
  have e3 : (x % 18446744073709551616).tmod n = lowF x n := Int.tmod_eq_emod_of_nonneg (Int.emod_nonneg _ (by omega))
  have e4 : IntKind.i64.wrap (lowF x n) = lowF x n := IntWalk.i64_in _ (by omega)
  have hf : Tryz.prog.funcs[7]? = some Tryz.f7 := by kernel_rfl
  have hb : Tryz.f7.body = some _ := rfl
  refine calls_of_wp hf hb ?_
  generalize ha : ({ tmps := #[Value.int .i64 x, .int .i64 n] ++ Array.replicate (Tryz.f7.ntmps - #[Value.int .i64 x, .int .i64 n].size) undef, defers := [] } : Act) = a
  have hd : a.defers = [] := by rw [← ha]
  have hs : a.tmps.size = 11 := by rw [← ha]; rfl
  have h0 : B.get a 0 = .int .i64 x := by rw [← ha]; rfl
  have h1 : B.get a 1 = .int .i64 n := by rw [← ha]; rfl
  clear ha
  refine wp_seq (wp_region ?_)
  refine ops_next (d := 4) (i := 0) (rest := []) rfl rfl rfl (by omega) (r_assign rfl rfl) fun a1 d1 s1 g1 k1 => ?_
  refine wp_seq (wp_region ?_)
  refine ops_next (d := 5) (i := 0) (rest := [1, 2, 3, 4, 5, 6]) rfl rfl rfl (by omega) (r_move rfl ((B.eval_tmp _ _).trans ((k1 0 (by omega)).trans h0))) fun a2 d2 s2 g2 k2 => ?_
  refine ops_next (d := 6) (i := 1) (rest := [2, 3, 4, 5, 6]) rfl rfl rfl (by omega) (r_conv rfl t3 tU64 ((B.eval_tmp _ _).trans g2)) fun a3 d3 s3 g3 k3 => ?_
  refine ops_next (d := 7) (i := 2) (rest := [3, 4, 5, 6]) rfl rfl rfl (by omega) (r_move rfl ((B.eval_tmp _ _).trans ((k3 1 (by omega)).trans ((k2 1 (by omega)).trans ((k1 1 (by omega)).trans h1))))) fun a4 d4 s4 g4 k4 => ?_
  refine ops_next (d := 8) (i := 3) (rest := [4, 5, 6]) rfl rfl rfl (by omega) (r_conv rfl t3 tU64 ((B.eval_tmp _ _).trans g4)) fun a5 d5 s5 g5 k5 => ?_
  have q6 : B.get a5 6 = .int .u64 (x % 18446744073709551616) := by rw [k5 6 (by omega), k4 6 (by omega), g3, e1]
  have q8 : B.get a5 8 = .int .u64 n := by rw [g5, e2]
  refine ops_next (d := 9) (v := .int .u64 (lowF x n)) (i := 4) (rest := [5, 6]) rfl rfl rfl (by omega) (r_bin (u := .int .u64 (x % 18446744073709551616)) (v := .int .u64 n) rfl ((B.eval_tmp _ _).trans q6) ((B.eval_tmp _ _).trans q8) (guard_ok (by simp) (by simp)) (by
    have : n ≠ 0 := by omega
    simp [binOp, Op.intDiv, this, e3])) fun a6 d6 s6 g6 k6 => ?_
  refine ops_next (d := 10) (i := 5) (rest := [6]) rfl rfl rfl (by omega) (r_conv rfl tU64 t3 ((B.eval_tmp _ _).trans g6)) fun a7 d7 s7 g7 k7 => ?_
  refine ops_next (d := 4) (i := 6) (rest := []) rfl rfl rfl (by omega) (r_assign rfl ((B.eval_tmp _ _).trans g7)) fun a8 d8 s8 g8 k8 => ?_
  rw [e4] at g8
  refine wp_ret ⟨by rw [d8, d7, d6, d5, d4, d3, d2, d1, hd], .int .i64 (lowF x n), ?_, rfl, rfl⟩
  refine run_results (us := [.int .i64 (lowF x n)]) ?_
  show ([ResultVar.tmp 4].mapM (resM a8)).run Tryz.prog w = _
  have g9 : a8.tmps.getD 4 undef = .int .i64 (lowF x n) := g8
  simp [resM, g9]
end X
end Go.Proofs.YtebfahobllghnaaGreatDoor
namespace Go.Proofs.YtebfahobllghnaaGreatDoor
namespace B
open Go.RowKit
theorem drop_cons {α : Type} [Inhabited α] {xs : List α} {n : Nat} (h : n < xs.length) : xs.drop n = nth xs (n : Int) :: xs.drop (n + 1) := by
  rw [List.drop_eq_getElem_cons h]
  simp [nth, List.getD, List.getElem?_eq_getElem h]
def longL : Int → List ByteArray → Bool
  | _, [] => false
  | n, s :: ss => decide (n ≤ (s.size : Int)) || longL (n - (s.size : Int) - 1) ss
theorem longL_hit {es : List ByteArray} {n m : Int} {k : Nat} (h : k < es.length) (hq : longL n es = longL m (es.drop k)) (hc : m ≤ ((nth es (k : Int)).size : Int)) : longL n es = true := by
  rw [hq, drop_cons h, longL, decide_eq_true hc]; rfl
theorem longL_next {es : List ByteArray} {n m : Int} {k : Nat} (h : k < es.length) (hq : longL n es = longL m (es.drop k)) (hc : ((nth es (k : Int)).size : Int) < m) : longL n es = longL (m - ((nth es (k : Int)).size : Int) - 1) (es.drop (k + 1)) := by
  rw [hq, drop_cons h, longL, decide_eq_false (by omega)]; rfl
theorem longL_end {es : List ByteArray} {n m : Int} {k : Nat} (h : es.length ≤ k) (hq : longL n es = longL m (es.drop k)) : longL n es = false := by
  rw [hq, List.drop_of_length_le h]; rfl
set_option maxRecDepth 100000 in
theorem long_c (n : Int) (v : Value) (xs : List ByteArray) (w : World) (hS : SlT StrE w v xs) (hn : -1000000000 ≤ n ∧ n ≤ 1000000000) : Calls Tryz.prog 4 #[(.int .i64 (n)), v] w (fun e w' => e = .returned (.bool (longL n xs)) ∧ Ext none' w w') := by
 refine enter (n := 27) Tryz.func4 rfl rfl (Nat.le_of_ble_eq_true rfl) ?_
 intro a0 τ0 ha st0
 have e0 : get a0 0 = (.int .i64 (n)) := ha 0 _ rfl
 have e1 : get a0 1 = v := ha 1 _ rfl
 clear ha
 have hle := hS.le
 refine wp_seq ?_
 refine region_St (bf := [0]) (sp := [det _ 4 _]) [] mixed st0 (by kernel_rfl) trivial
  ⟨Ob.d fun c => r_assign rfl rfl, trivial⟩ ?_
 intro a1 w1 τ1 st1 f1
 obtain ⟨e0, e1, -⟩ := f1.ks [(0, _), (1, _)] ⟨e0, e1, trivial⟩
 have e4 : get a1 4 = (.bool (false)) := f1.v 0 rfl
 clear f1
 show Code.wp _ _ _ a1 w1
 refine wp_seq ?_
 refine wp_seq ?_
 refine region_St (bf := [0]) (sp := [det _ 5 _]) [] mixed st1 (by kernel_rfl) trivial
  ⟨Ob.d fun c => r_assign rfl rfl, trivial⟩ ?_
 intro a2 w2 τ2 st2 f2
 obtain ⟨e0, e1, e4, -⟩ := f2.ks [(0, _), (1, _), (4, _)] ⟨e0, e1, e4, trivial⟩
 have e5 : get a2 5 = (.int .i64 (0)) := f2.v 0 rfl
 clear f2
 show Code.wp _ _ _ a2 w2
 refine wp_block ?_
 refine wp_loop (fun a_ w_ => ∃ (k : Nat) (l : Int) (τ : Nat → Foot), (k ≤ xs.length) ∧
      (-1000000000 ≤ l ∧ l ≤ 1000000000) ∧
      (longL n xs = longL l (xs.drop k)) ∧
      St (Nw w) w 27 a_ w_ τ ∧
      get a_ 0 = (.int .i64 (l)) ∧
      get a_ 5 = (.int .i64 ((k : Int))) ∧
      get a_ 1 = v) (fun a_ _ => xs.length - (intOf (get a_ 5)).toNat) ?_ ?_
 · refine ⟨0, n, τ2, ?_, ?_, ?_, st2, (e0.trans (int_eq (by omega))), (e5.trans (int_eq (by omega))), e1⟩
   · omega
   · omega
   · rfl
 intro a3 w3 hI
 obtain ⟨k, l, τ3, q0, q1, q2, st3, e0, e5, e1⟩ := hI
 have m5 := e5
 refine wp_seq ?_
 refine wp_seq ?_
 refine region_St (bf := [0, 0, 2, 7]) (sp := [det _ 6 _, det _ 7 _, det _ 8 _, det _ 9 _]) [] mixed st3 (by kernel_rfl) trivial
  ⟨Ob.d fun c => r_move rfl (c.p e5),
  Ob.d fun c => r_move rfl (c.p e1),
  Ob.d fun c => r_len rfl Tryz.underlying23 (c.n 1 rfl) hS.sl,
  Ob.d fun c => r_lss rfl (c.n 0 rfl) (c.n 2 rfl), trivial⟩ ?_
 intro a4 w4 τ4 st4 f4
 obtain ⟨e0, e1, e5, -⟩ := f4.ks [(0, _), (1, _), (5, _)] ⟨e0, e1, e5, trivial⟩
 have e9 : get a4 9 = (.bool (decide ((k : Int) < (xs.length : Int)))) := f4.v 3 rfl
 clear f4
 show Code.wp _ _ _ a4 w4
 refine wp_cond_split (t := decide ((k : Int) < (xs.length : Int))) e9 (fun hc1 => ?_) (fun hc1 => ?_)
 · try simp only [decide_eq_true_eq] at hc1
   refine wp_skip ?_
   show Code.wp _ _ _ a4 w4
   refine wp_seq ?_
   refine wp_block ?_
   refine wp_seq ?_
   refine wp_seq ?_
   refine region_St (bf := [0, 0, 3, 7, 15, 0, 63]) (sp := [det _ 12 _, det _ 13 _, det _ 14 _, det _ 15 _, det _ 16 _, det _ 17 _, det _ 18 _]) [] mixed st4 (by kernel_rfl) trivial
    ⟨Ob.d fun c => r_move rfl (c.p e1),
    Ob.d fun c => r_move rfl (c.p e5),
    Ob.d fun c => r_indexAddr rfl Tryz.underlying23 Tryz.sizeOf9 (c.n 0 rfl) hS.sl (c.n 1 rfl) (by omega) (by omega),
    Ob.d fun c => r_load1 rfl Tryz.isAgg9 (c.n 2 rfl) (((hS.at (st4.ext.trans c.J.ext))).elem (j := 0) (nth_some (i := (k : Int)) (by omega) (by omega)) rfl),
    Ob.d fun c => r_lenS rfl Tryz.underlying9 (c.n 3 rfl),
    Ob.d fun c => r_move rfl (c.p e0),
    Ob.d fun c => r_geq rfl (c.n 4 rfl) (c.n 5 rfl), trivial⟩ ?_
   intro a5 w5 τ5 st5 f5
   obtain ⟨e0, e1, e5, e9, -⟩ := f5.ks [(0, _), (1, _), (5, _), (9, _)] ⟨e0, e1, e5, e9, trivial⟩
   have e18 : get a5 18 = (.bool (decide (l ≤ ((nth xs ((k : Int))).size : Int)))) := f5.v 6 rfl
   clear f5
   show Code.wp _ _ _ a5 w5
   refine wp_cond_split (t := decide (l ≤ ((nth xs ((k : Int))).size : Int))) e18 (fun hc2 => ?_) (fun hc2 => ?_)
   · try simp only [decide_eq_true_eq] at hc2
     refine wp_seq ?_
     refine region_St (bf := [0]) (sp := [det _ 4 _]) [] mixed st5 (by kernel_rfl) trivial
      ⟨Ob.d fun c => r_assign rfl rfl, trivial⟩ ?_
     intro a6 w6 τ6 st6 f6
     obtain ⟨e0, e1, e5, e9, e18, -⟩ := f6.ks [(0, _), (1, _), (5, _), (9, _), (18, _)] ⟨e0, e1, e5, e9, e18, trivial⟩
     have e4 : get a6 4 = (.bool (true)) := f6.v 0 rfl
     clear f6
     show Code.wp _ _ _ a6 w6
     refine wp_ret ?_
     repeat (first | with_reducible refine then_ret ?_ | with_reducible refine block_ret ?_)
     refine ret1 (fn := Tryz.f4) rfl st6.defers e4 ?_
     exact ⟨congrArg _ (congrArg _ (by first | exact (longL_hit (k := k) (by omega) q2 (by omega)).symm | exact (longL_end (k := k) (by omega) q2).symm)), st6.ext0⟩
   try simp only [decide_eq_false_iff_not, Int.not_le] at hc2
   refine wp_skip ?_
   show Code.wp _ _ _ a5 w5
   refine region_St (bf := [0, 0, 0, 6, 14, 30, 63, 127, 255]) (sp := [det _ 19 _, det _ 20 _, det _ 21 _, det _ 22 _, det _ 23 _, det _ 24 _, det _ 25 _, det _ 26 _, det _ 0 _]) [] mixed st5 (by kernel_rfl) trivial
    ⟨Ob.d fun c => r_move rfl (c.p e0),
    Ob.d fun c => r_move rfl (c.p e1),
    Ob.d fun c => r_move rfl (c.p e5),
    Ob.d fun c => r_indexAddr rfl Tryz.underlying23 Tryz.sizeOf9 (c.n 1 rfl) hS.sl (c.n 2 rfl) (by omega) (by omega),
    Ob.d fun c => r_load1 rfl Tryz.isAgg9 (c.n 3 rfl) (((hS.at (st5.ext.trans c.J.ext))).elem (j := 0) (nth_some (i := (k : Int)) (by omega) (by omega)) rfl),
    Ob.d fun c => r_lenS rfl Tryz.underlying9 (c.n 4 rfl),
    Ob.d fun c => r_sub rfl (c.n 0 rfl) (c.n 5 rfl) (by omega),
    Ob.d fun c => r_sub rfl (c.n 6 rfl) rfl (by omega),
    Ob.d fun c => r_assign rfl (c.n 7 rfl), trivial⟩ ?_
   intro a7 w7 τ7 st7 f7
   obtain ⟨e1, e5, e9, e18, -⟩ := f7.ks [(1, _), (5, _), (9, _), (18, _)] ⟨e1, e5, e9, e18, trivial⟩
   have e0 : get a7 0 = (.int .i64 (l - ((nth xs ((k : Int))).size : Int) - 1)) := f7.v 8 rfl
   clear f7
   show _
   show Code.wp _ _ _ a7 w7
   refine region_St (bf := [0, 1, 3]) (sp := [det _ 10 _, det _ 11 _, det _ 5 _]) [] mixed st7 (by kernel_rfl) trivial
    ⟨Ob.d fun c => r_move rfl (c.p e5),
    Ob.d fun c => r_add rfl (c.n 0 rfl) rfl (by omega),
    Ob.d fun c => r_assign rfl (c.n 1 rfl), trivial⟩ ?_
   intro a8 w8 τ8 st8 f8
   obtain ⟨e0, e1, e9, e18, -⟩ := f8.ks [(0, _), (1, _), (9, _), (18, _)] ⟨e0, e1, e9, e18, trivial⟩
   have e5 : get a8 5 = (.int .i64 ((k : Int) + 1)) := f8.v 2 rfl
   clear f8
   refine ⟨⟨k + 1, l - ((nth xs ((k : Int))).size : Int) - 1, τ8, ?_, ?_, ?_, st8, (e0.trans (int_eq (by omega))), (e5.trans (int_eq (by omega))), e1⟩, ?_⟩
   · omega
   · omega
   · exact longL_next (by omega) q2 (by omega)
   · simp only [m5, e5, intOf]; omega
 try simp only [decide_eq_false_iff_not, Int.not_lt] at hc1
 refine wp_exit ?_
 repeat (with_reducible refine then_exit ?_)
 refine exit_here ?_
 show Code.wp _ _ _ a4 w4
 refine wp_seq ?_
 refine region_St (bf := [0]) (sp := [det _ 4 _]) [] mixed st4 (by kernel_rfl) trivial
  ⟨Ob.d fun c => r_assign rfl rfl, trivial⟩ ?_
 intro a9 w9 τ9 st9 f9
 have e4 : get a9 4 = (.bool (false)) := f9.v 0 rfl
 clear f9
 show Code.wp _ _ _ a9 w9
 refine wp_ret ?_
 repeat (first | with_reducible refine then_ret ?_ | with_reducible refine block_ret ?_)
 refine ret1 (fn := Tryz.f4) rfl st9.defers e4 ?_
 exact ⟨congrArg _ (congrArg _ (by first | exact (longL_hit (k := k) (by omega) q2 (by omega)).symm | exact (longL_end (k := k) (by omega) q2).symm)), st9.ext0⟩
end B
end Go.Proofs.YtebfahobllghnaaGreatDoor
namespace Go.Proofs.YtebfahobllghnaaGreatDoor
namespace B
open Go.ChangeShapes Go.WideShapes Go.ChangeAt Go.RowKit
def Reads {α : Type} (P : Program) (e : TypeId) (E : Enc α) : Prop :=
  ∀ (H : Type) (enc : TypeId × Value → H) (w : World) (base : Nat) (spare : Nat → Bool) (held : Bool) (n : Nat) (cs : List Value) (y : DataW H × List MemPlace), DataW.trod enc P w base spare held n e cs = some y → ∃ x : α, cs = E.cells x
section
variable {P : Program} {e : TypeId}
theorem reads_str (he : P.underlying e = some .string) : Reads P e StrE := fun H enc w base spare held n cs y h => by
  obtain ⟨k, rfl, _⟩ := DataW.trod_string he h
  exact ⟨k, rfl⟩
theorem two_cells {cs : List Value} {v0 v1 : Value} (hl : cs.length = 2) (h0 : cs.take 1 = [v0]) (h1 : (cs.drop 1).take 1 = [v1]) : cs = [v0, v1] := by
  match cs, hl with
  | [a, b], _ => simp at h0 h1; rw [h0, h1]
theorem reads_arr2 {e' : TypeId} (he : P.underlying e = some (.array 2 e')) (ce : P.cellsOf e = 2) (c0 : P.cellsOf e' = 1) (t0 : P.underlying e' = some (.int .i64)) : Reads P e SpanE := fun H enc w base spare held n cs y h => by
  obtain ⟨xs, m, _, _, hl, hn, hx⟩ := DataW.trod_array he h
  have h0 := hx 0 (by omega)
  have h1 := hx 1 (by omega)
  rw [List.getElem?_eq_getElem (by omega)] at h0 h1
  obtain ⟨a, ha, _⟩ := DataW.trod_int t0 h0
  obtain ⟨b, hb, _⟩ := DataW.trod_int t0 h1
  simp only [c0, Nat.zero_mul, Nat.one_mul, List.drop_zero] at ha hb
  exact ⟨(a, b), two_cells (hl.trans ce) ha hb⟩
end
section
variable {P : Program} {W : World} {H : Type} {enc : TypeId × Value → H} {base : Nat} {spare : Nat → Bool} {held : Bool}
theorem cells_slice (a : Option Addr) (l c : Nat) : (Value.slice a l c).cells = #[.slice a l c] := rfl
theorem open_sl {α : Type} [Inhabited α] {E : Enc α} {t e : TypeId} (ht : P.underlying t = some (.slice e)) (hC : P.cellsOf e = E.sz) (hE : Reads P e E) {r : Reach} {b0 : Nat} {v : Value} {d : DataW H} {p : List MemPlace} (hv : Value.okWide P W r b0 t v)
    (h : DataW.Trod enc P W base spare held t v d p) : ∃ xs : List α, SlT E W v xs := by
  obtain ⟨a, len, cap, rfl⟩ := okWide_slice ht hv
  obtain ⟨fuel, hf⟩ := h
  rw [cells_slice] at hf
  rcases Deep.open_slice ht hf with ⟨h0, _⟩ | ⟨a', len', cap', m, n, D, Pl, h0, hb, hl, hm, hmm, _, hx⟩
  · simp only [List.cons.injEq, Value.slice.injEq, and_true] at h0
    obtain ⟨rfl, rfl, rfl⟩ := h0
    exact ⟨[], SlT.nil _ _⟩
  · simp only [List.cons.injEq, Value.slice.injEq, and_true] at h0
    obtain ⟨rfl, rfl, rfl⟩ := h0
    have hlm : len ≤ m := by rw [hmm]; split <;> omega
    have each : ∀ i, i < len → ∃ x : α, W.cells? base (a'.add (i * P.cellsOf e)) (P.cellsOf e) = some (E.cells x) := by
      intro i hi
      obtain ⟨cs, h1, h2⟩ := hx i (by omega)
      obtain ⟨x, rfl⟩ := hE _ _ _ _ _ _ _ _ _ h2
      exact ⟨x, h1⟩
    obtain ⟨X, hX⟩ := Deep.choose_lt each
    refine ⟨(List.range len).map X, .inr ⟨a', cap, by simp, by simpa using hl, hm⟩, fun j u hj => ?_⟩
    have hlen : j < len * E.sz := by
      have := (List.getElem?_eq_some_iff.1 hj).1
      rw [E.row_length] at this
      simpa using this
    have hi : j / E.sz < len := Nat.div_lt_of_lt_mul (by rw [Nat.mul_comm]; exact hlen)
    have hr : j % E.sz < E.sz := Nat.mod_lt _ E.pos
    have hj' : j = j / E.sz * E.sz + j % E.sz := by rw [Nat.mul_comm]; exact (Nat.div_add_mod j E.sz).symm
    have hx' : ((List.range len).map X)[j / E.sz]? = some (X (j / E.sz)) := by simp [hi]
    rw [hj', E.row_get hx' hr] at hj
    obtain ⟨_, _, hc⟩ := World.cells?_some (hX _ hi)
    rw [hC] at hc
    have := hc (j % E.sz) hr
    rw [hj] at this
    rw [hj', ← add_add]
    exact this
theorem open_i64 {t : TypeId} (ht : P.underlying t = some (.int .i64)) {r : Reach} {b0 : Nat} {v : Value} (hv : Value.okWide P W r b0 t v) {d : DataW H} {p : List MemPlace} (h : DataW.Trod enc P W base spare held t v d p) : ∃ n, v = .int .i64 n ∧ -9223372036854775808 ≤ n ∧ n ≤ 9223372036854775807 := by
  obtain ⟨n, rfl, _, _, hw⟩ := open_int ht hv h
  simp [Lit.wf, IntKind.min, IntKind.max, IntKind.signed, IntKind.bits] at hw
  exact ⟨n, rfl, hw⟩
theorem trodAll_stay (hl : laidOutB P = true) {W' : World} {sp : Nat → Bool} : ∀ {ts : List TypeId} {vs : List Value} {ds : List (DataW H)} {p : List MemPlace}, (ts.all fun t => P.readableRec t && decide (t < P.types.size)) = true →
    DataW.TrodAll enc P W 0 (fun _ => true) true ts vs ds p → (∀ x ∈ p, W.sameAt W' x) → (∀ x ∈ p, sp x.block = true) → DataW.TrodAll enc P W' 0 sp true ts vs ds p
  | [], [], [], _, _, h, _, _ => h
  | [], [], _ :: _, _, _, h, _, _ => h.elim
  | [], _ :: _, _, _, _, h, _, _ => h.elim
  | _ :: _, [], _, _, _, h, _, _ => h.elim
  | _ :: _, _ :: _, [], _, _, h, _, _ => h.elim
  | t :: ts, v :: vs, d :: ds, p, hr, h, h1, h2 => by
    obtain ⟨q, q', a, b, rfl⟩ := h
    simp only [List.all_cons, Bool.and_eq_true, decide_eq_true_eq] at hr
    exact ⟨q, q', WideElems.Trod_stays hl hr.1.1 hr.1.2 a (fun x hx => h1 x (by simp [hx])) (fun x hx => h2 x (by simp [hx])), trodAll_stay hl hr.2 b (fun x hx => h1 x (by simp [hx])) (fun x hx => h2 x (by simp [hx])), rfl⟩
theorem post_true {f : Func} {s : ChangeSpec} {apart handsOn : Bool} {W' : World} {args : Array Value} {ds gs : List (DataW H)} {before : List MemPlace} {t : TypeId} (hl : laidOutB P = true)
    (hW : DataW.Whole enc P f.params.toList s.vars apart W args.toList ds gs before) (hvars : s.vars = []) (hread : (f.params.toList.all fun t => P.readableRec t && decide (t < P.types.size)) = true)
    (hfn : s.fn H ds = { results := [.lit (.bool true)], args := ds }) (hrt : f.resultTypes = #[t]) (ht : P.underlying t = some .bool) (hx : Ext none' W W') : s.post enc P f apart true handsOn false W args (.bool true) W' := by
  have hlt := hW.lt
  have hW' := hW
  obtain ⟨p, q, hA, hV, rfl, hz, hn⟩ := hW
  rw [hvars] at hV
  have hgq : gs = [] ∧ q = [] := by
    cases gs with
    | nil => exact ⟨rfl, hV⟩
    | cons g gs => exact hV.elim
  obtain ⟨rfl, rfl⟩ := hgq
  have hb := hx.below
  refine ⟨ds, [], p ++ [], [], p, [], hW', ?_, ?_, ?_, hb.frame _, fun h => by cases h⟩
  · rw [List.append_nil, hfn, hrt]
    exact trodAll_mk1 (shut_bool ht true)
  · rw [List.append_nil, hfn]
    exact trodAll_stay hl hread hA (fun x hx => hb.same (hlt x (by simp [hx]))) (fun x hx => by simpa using hlt x (by simp [hx]))
  · rw [List.append_nil, hfn, hvars]
    exact rfl
end
end B
end Go.Proofs.YtebfahobllghnaaGreatDoor
