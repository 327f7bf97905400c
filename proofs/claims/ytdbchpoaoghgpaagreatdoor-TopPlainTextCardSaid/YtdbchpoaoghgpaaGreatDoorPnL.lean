/-
  slices.Sorted of maps.Keys, as the executor calls it.
-/
import Derived.Test.YtdbchpoaoghgpaaGreatDoorChecked
import Derived.Test.YtdbchpoaoghgpaaGreatDoorWa
import Derived.Test.YtdbchpoaoghgpaaGreatDoorP1
import Derived.Shelf.SlIterI.Nil
import Derived.Shelf.SlIterI.Sorted
import Derived.Shelf.SortM.Plain
import Derived.Shelf.SortM.SortNone
set_option linter.unusedSimpArgs false
set_option linter.unusedVariables false
namespace Go.Proofs.YtdbchpoaoghgpaaGreatDoor
namespace X
open Go.RowKit B

/-! ### The shelf's contracts, laid here (the lines are those that the kit's word for it writes) -/
section
open Go.Maps Go.Sort Go.Shelf
def kRenA : Ren := ⟨fun | 7 => 78 | 10 => 131 | n => n, fun | 23 => 161 | 26 => 3 | 3 => 3 | 28 => 164 | 0 => 0 | 27 => 163 | 33 => 234 | 4 => 4 | n => n, fun n => n⟩
theorem kLayA : SlLaysZI.n7 Tryz.prog kRenA where
  mixed := by kernel_rfl
  f7 := ⟨ "maps.Keys[map[int]int,int,int]", by decide, Tryz.func78.trans (congrArg some (by kernel_rfl))⟩
  f10 := ⟨ "maps.Keys[map[int]int,int,int]$1", by decide, Tryz.func131.trans (congrArg some (by kernel_rfl))⟩
  t0 := Tryz.underlying0
  a0 := Tryz.isAgg0
  z0 := Tryz.sizeOf0
  v0 := Tryz.zeroValue0
  t4 := Tryz.underlying4
  a4 := Tryz.isAgg4
  z4 := Tryz.sizeOf4
  v4 := Tryz.zeroValue4
  t23 := Tryz.underlying161
  a23 := Tryz.isAgg161
  z23 := Tryz.sizeOf161
  v23 := Tryz.zeroValue161
  t26 := Tryz.underlying3
  a26 := Tryz.isAgg3
  z26 := Tryz.sizeOf3
  v26 := Tryz.zeroValue3
  t27 := Tryz.underlying163
  a27 := Tryz.isAgg163
  z27 := Tryz.sizeOf163
  v27 := Tryz.zeroValue163
  t28 := Tryz.underlying164
  a28 := Tryz.isAgg164
  z28 := Tryz.sizeOf164
  v28 := Tryz.zeroValue164
  t33 := Tryz.underlying234
  a33 := Tryz.isAgg234
  z33 := Tryz.sizeOf234
  v33 := Tryz.zeroValue234
def kRenB : Ren := ⟨fun | 7 => 231 | 10 => 288 | n => n, fun | 23 => 216 | 26 => 3 | 3 => 286 | 28 => 164 | 0 => 0 | 27 => 163 | 33 => 234 | 4 => 4 | n => n, fun n => n⟩
theorem kLayB : SlLaysZI.n7 Tryz.prog kRenB where
  mixed := by kernel_rfl
  f7 := ⟨ "maps.Keys[map[int]gimlet/api.Range,int,gimlet/api.Range]", by decide, Tryz.func231.trans (congrArg some (by kernel_rfl))⟩
  f10 := ⟨ "maps.Keys[map[int]gimlet/api.Range,int,gimlet/api.Range]$1", by decide, Tryz.func288.trans (congrArg some (by kernel_rfl))⟩
  t0 := Tryz.underlying0
  a0 := Tryz.isAgg0
  z0 := Tryz.sizeOf0
  v0 := Tryz.zeroValue0
  t4 := Tryz.underlying4
  a4 := Tryz.isAgg4
  z4 := Tryz.sizeOf4
  v4 := Tryz.zeroValue4
  t23 := Tryz.underlying216
  a23 := Tryz.isAgg216
  z23 := Tryz.sizeOf216
  v23 := Tryz.zeroValue216
  t26 := Tryz.underlying3
  a26 := Tryz.isAgg3
  z26 := Tryz.sizeOf3
  v26 := Tryz.zeroValue3
  t27 := Tryz.underlying163
  a27 := Tryz.isAgg163
  z27 := Tryz.sizeOf163
  v27 := Tryz.zeroValue163
  t28 := Tryz.underlying164
  a28 := Tryz.isAgg164
  z28 := Tryz.sizeOf164
  v28 := Tryz.zeroValue164
  t33 := Tryz.underlying234
  a33 := Tryz.isAgg234
  z33 := Tryz.sizeOf234
  v33 := Tryz.zeroValue234
def sRen : Ren := ⟨fun | 6 => 77 | 8 => 129 | 9 => 130 | 11 => 195 | 13 => 197 | 12 => 196 | 23 => 257 | 24 => 258 | 14 => 248 | 15 => 249 | 16 => 250 | 17 => 251 | 18 => 252 | 19 => 253 | 20 => 254 | 21 => 255 | 22 => 256 | 25 => 307 | 26 => 308 | 27 => 309 | 28 => 310 | 29 => 311 | 30 => 199 | 31 => 342 | n => n, fun | 26 => 3 | 28 => 164 | 24 => 94 | 0 => 0 | 3 => 3 | 37 => 97 | 48 => 45 | 50 => 394 | 4 => 4 | 40 => 387 | 39 => 386 | 45 => 201 | 5 => 5 | 9 => 9 | 51 => 434 | 55 => 429 | 57 => 460 | 58 => 257 | 33 => 234 | n => n, fun n => n⟩
theorem sLay : SlLaysZI.n6 Tryz.prog sRen where
  mixed := by kernel_rfl
  f6 := ⟨ "slices.Sorted[int]", by decide, Tryz.func77.trans (congrArg some (by kernel_rfl))⟩
  f8 := ⟨ "slices.Collect[int]", by decide, Tryz.func129.trans (congrArg some (by kernel_rfl))⟩
  f11 := ⟨ "slices.AppendSeq[[]int,int]", by decide, Tryz.func195.trans (congrArg some (by kernel_rfl))⟩
  t0 := Tryz.underlying0
  a0 := Tryz.isAgg0
  z0 := Tryz.sizeOf0
  v0 := Tryz.zeroValue0
  t24 := Tryz.underlying94
  a24 := Tryz.isAgg94
  z24 := Tryz.sizeOf94
  v24 := Tryz.zeroValue94
  t26 := Tryz.underlying3
  a26 := Tryz.isAgg3
  z26 := Tryz.sizeOf3
  v26 := Tryz.zeroValue3
  t28 := Tryz.underlying164
  a28 := Tryz.isAgg164
  z28 := Tryz.sizeOf164
  v28 := Tryz.zeroValue164
  i26 := by kernel_rfl
def tRen : Ren := ⟨fun | 5 => 130 | 8 => 197 | 7 => 196 | 19 => 257 | 20 => 258 | 10 => 248 | 11 => 249 | 12 => 250 | 13 => 251 | 14 => 252 | 15 => 253 | 16 => 254 | 17 => 255 | 18 => 256 | 30 => 307 | 31 => 308 | 32 => 309 | 33 => 310 | 34 => 311 | 35 => 199 | 40 => 342 | n => n, fun | 23 => 94 | 25 => 3 | 3 => 3 | 32 => 97 | 22 => 94 | 0 => 0 | 44 => 45 | 46 => 394 | 4 => 4 | 36 => 387 | 35 => 386 | 41 => 201 | 5 => 5 | 9 => 9 | 53 => 434 | 57 => 429 | 63 => 460 | 64 => 257 | n => n, fun n => n⟩
theorem tLay : SlLaysM.n5 Tryz.prog tRen where
  mixed := by kernel_rfl
  f5 := ⟨ "slices.Sort[[]int,int]", by decide, Tryz.func130.trans (congrArg some (by kernel_rfl))⟩
  f7 := ⟨ "slices.pdqsortOrdered[int]", by decide, Tryz.func196.trans (congrArg some (by kernel_rfl))⟩
  f8 := Tryz.func197.trans (congrArg some (by kernel_rfl))
  f10 := ⟨ "slices.insertionSortOrdered[int]", by decide, Tryz.func248.trans (congrArg some (by kernel_rfl))⟩
  f11 := ⟨ "slices.heapSortOrdered[int]", by decide, Tryz.func249.trans (congrArg some (by kernel_rfl))⟩
  f12 := ⟨ "slices.breakPatternsOrdered[int]", by decide, Tryz.func250.trans (congrArg some (by kernel_rfl))⟩
  f13 := ⟨ "slices.choosePivotOrdered[int]", by decide, Tryz.func251.trans (congrArg some (by kernel_rfl))⟩
  f14 := ⟨ "slices.reverseRangeOrdered[int]", by decide, Tryz.func252.trans (congrArg some (by kernel_rfl))⟩
  f15 := ⟨ "slices.partialInsertionSortOrdered[int]", by decide, Tryz.func253.trans (congrArg some (by kernel_rfl))⟩
  f16 := ⟨ "cmp.Less[int]", by decide, Tryz.func254.trans (congrArg some (by kernel_rfl))⟩
  f17 := ⟨ "slices.partitionEqualOrdered[int]", by decide, Tryz.func255.trans (congrArg some (by kernel_rfl))⟩
  f18 := ⟨ "slices.partitionOrdered[int]", by decide, Tryz.func256.trans (congrArg some (by kernel_rfl))⟩
  f19 := Tryz.func257.trans (congrArg some (by kernel_rfl))
  f20 := Tryz.func258.trans (congrArg some (by kernel_rfl))
  f30 := ⟨ "slices.siftDownOrdered[int]", by decide, Tryz.func307.trans (congrArg some (by kernel_rfl))⟩
  f31 := Tryz.func308.trans (congrArg some (by kernel_rfl))
  f32 := Tryz.func309.trans (congrArg some (by kernel_rfl))
  f33 := ⟨ "slices.medianAdjacentOrdered[int]", by decide, Tryz.func310.trans (congrArg some (by kernel_rfl))⟩
  f34 := ⟨ "slices.medianOrdered[int]", by decide, Tryz.func311.trans (congrArg some (by kernel_rfl))⟩
  f35 := ⟨ "cmp.isNaN[int]", by decide, Tryz.func199.trans (congrArg some (by kernel_rfl))⟩
  f40 := ⟨ "slices.order2Ordered[int]", by decide, Tryz.func342.trans (congrArg some (by kernel_rfl))⟩
  t0 := Tryz.underlying0
  a0 := Tryz.isAgg0
  z0 := Tryz.sizeOf0
  v0 := Tryz.zeroValue0
  t3 := Tryz.underlying3
  a3 := Tryz.isAgg3
  z3 := Tryz.sizeOf3
  v3 := Tryz.zeroValue3
  t4 := Tryz.underlying4
  a4 := Tryz.isAgg4
  z4 := Tryz.sizeOf4
  v4 := Tryz.zeroValue4
  t5 := Tryz.underlying5
  a5 := Tryz.isAgg5
  z5 := Tryz.sizeOf5
  v5 := Tryz.zeroValue5
  t9 := Tryz.underlying9
  a9 := Tryz.isAgg9
  z9 := Tryz.sizeOf9
  v9 := Tryz.zeroValue9
  t22 := Tryz.underlying94
  a22 := Tryz.isAgg94
  z22 := Tryz.sizeOf94
  v22 := Tryz.zeroValue94
  t23 := Tryz.underlying94
  a23 := Tryz.isAgg94
  z23 := Tryz.sizeOf94
  v23 := Tryz.zeroValue94
  t25 := Tryz.underlying3
  a25 := Tryz.isAgg3
  z25 := Tryz.sizeOf3
  v25 := Tryz.zeroValue3
  t32 := Tryz.underlying97
  a32 := Tryz.isAgg97
  z32 := Tryz.sizeOf97
  v32 := Tryz.zeroValue97
  t35 := Tryz.underlying386
  a35 := Tryz.isAgg386
  z35 := Tryz.sizeOf386
  v35 := Tryz.zeroValue386
  t36 := Tryz.underlying387
  a36 := Tryz.isAgg387
  z36 := Tryz.sizeOf387
  v36 := Tryz.zeroValue387
  t41 := Tryz.underlying201
  a41 := Tryz.isAgg201
  z41 := Tryz.sizeOf201
  v41 := Tryz.zeroValue201
  t44 := Tryz.underlying45
  a44 := Tryz.isAgg45
  z44 := Tryz.sizeOf45
  v44 := Tryz.zeroValue45
  t46 := Tryz.underlying394
  a46 := Tryz.isAgg394
  z46 := Tryz.sizeOf394
  v46 := Tryz.zeroValue394
  t53 := Tryz.underlying434
  a53 := Tryz.isAgg434
  z53 := Tryz.sizeOf434
  v53 := Tryz.zeroValue434
  t57 := Tryz.underlying429
  a57 := Tryz.isAgg429
  z57 := Tryz.sizeOf429
  v57 := Tryz.zeroValue429
  t63 := Tryz.underlying460
  a63 := Tryz.isAgg460
  z63 := Tryz.sizeOf460
  v63 := Tryz.zeroValue460
  t64 := Tryz.underlying257
  a64 := Tryz.isAgg257
  z64 := Tryz.sizeOf257
  v64 := Tryz.zeroValue257
theorem sortsIn (m : Nat) : AnyZI.SortsIn Tryz.prog sRen Fence.wide m :=
  ⟨fun blk off cap ss W hH hblk hsz => callsIn_wide.2 (AnyM.slices_Sort_int (ρ := tRen) tLay blk off cap ss W hH hblk hsz),
   fun p cap W => callsIn_wide.2 (AnyM.slices_Sort_int_none (ρ := tRen) tLay p cap W)⟩
/-- whatever a key leads to -/
def anyR : Value → Option (DataW Unit × List MemPlace) := fun _ => some (.nil, [])
noncomputable def datumOf (es : Array MapEntry) : DataW Unit := .map ((es.toList.map (Go.WideElems.rg Tryz.prog 3 anyR)).foldr DataW.insert [])
theorem sorted_run {R : Ren} (L : SlLaysZI.n7 Tryz.prog R) (hR : R.t 26 = 3) (eg : ∀ args w, (callFunc (R.f 10) args).run Tryz.prog w = .ok (.enter (R.f 10) args) w) {w : World} {Bm b ck : Nat} {es : Array MapEntry} (hcell : w.cell? ⟨Bm, 0, none⟩ = some (.map (some b))) (hBm : Bm < w.heap.size)
    (hes : w.heap[b]? = some (.map es ck)) (fit : Go.WideElems.Fit Tryz.prog 3 anyR es ck) (hsz : es.size ≤ 1000) :
    Calls Tryz.prog 77 #[.func (.func (R.f 10)) #[] #[.pointer (some ⟨Bm, 0, none⟩)]] w fun e w' => ∃ (v : Value) (ss : List Int), e = .returned v ∧ ss.Perm (intKeys (datumOf es)) ∧
      w'.ownsRow w.heap.size 3 1 v ss.length ((ss.mergeSort (fun x y => decide (x ≤ y))).map encZ) ∧ (v = .slice none 0 0 ↔ ss = []) ∧ Below w.heap.size w w' := by
  have hown : w.ownsMap Tryz.prog (R.t 26) anyR b es.size (datumOf es) := by
    rw [hR]
    exact ⟨es, ck, hes, fit, Nat.le_refl _, rfl⟩
  have hlen : Go.Maps.size (datumOf es) = es.size := by
    simp [datumOf, Go.Maps.size, (Go.WideShapes.sorted_perm _).length_eq]
  have hseq : SeqGives Fence.wide 2 Tryz.prog (R.f 10) #[.pointer (some ⟨Bm, 0, none⟩)] encZ (fun ss => ss.Perm (intKeys (datumOf es))) (Go.Maps.size (datumOf es)) w :=
    AnyZI.keys_gives (ρ := R) { L with } Fence.wide _ trivial rfl (by omega) Bm b es.size (datumOf es) w hBm hcell hown
  exact callsIn_wide.1 (AnyZI.sorted_in sLay Fence.wide 5 trivial trivial trivial trivial rfl (by omega) (sortsIn _) (fun args w => enter_run (fn := Tryz.f130) Tryz.func130 (by kernel_rfl) rfl args w) (R.f 10) #[.pointer (some ⟨Bm, 0, none⟩)] trivial eg _ _ (by rw [hlen]; simp [maxLen]; omega) (by rw [hlen]; omega) _ hseq)
theorem sorted_nil {R : Ren} (L : SlLaysZI.n7 Tryz.prog R) (eg : ∀ args w, (callFunc (R.f 10) args).run Tryz.prog w = .ok (.enter (R.f 10) args) w) {w : World} {Bm : Nat} (hcell : w.cell? ⟨Bm, 0, none⟩ = some (.map none)) (hBm : Bm < w.heap.size) :
    Calls Tryz.prog 77 #[.func (.func (R.f 10)) #[] #[.pointer (some ⟨Bm, 0, none⟩)]] w fun e w' => e = .returned (.slice none 0 0) ∧ Below w.heap.size w w' := by
  have hseq : SeqGives Fence.wide 2 Tryz.prog (R.f 10) #[.pointer (some ⟨Bm, 0, none⟩)] encZ (fun ss : List Int => ss = []) 0 w :=
    AnyZI.keys_gives_nil (ρ := R) { L with } Fence.wide _ trivial rfl Bm w hBm hcell
  refine calls_mono (callsIn_wide.1 (AnyZI.sorted_in sLay Fence.wide 5 trivial trivial trivial trivial rfl (by omega) (sortsIn _) (fun args w => enter_run (fn := Tryz.f130) Tryz.func130 (by kernel_rfl) rfl args w) (R.f 10) #[.pointer (some ⟨Bm, 0, none⟩)] trivial eg _ 0 (Nat.zero_le _) (by omega) _ hseq)) fun e w' ⟨v, ss, h1, h2, h3, h4, h5⟩ => ⟨?_, h5⟩
  rw [h1, h4.2 h2]
end
theorem ext_below {w w' : World} (h : Below w.heap.size w w') : Ext none' w w' := ⟨h.os, h.tape, h.output, h.size, fun k hk _ => h.block k hk⟩
theorem enter77 (args : Array Value) (w : World) : (callFunc 77 args).run Tryz.prog w = .ok (.enter 77 args) w := enter_run (fn := Tryz.f77) Tryz.func77 (by kernel_rfl) rfl args w
theorem enter131 (args : Array Value) (w : World) : (callFunc 131 args).run Tryz.prog w = .ok (.enter 131 args) w := enter_run (fn := Tryz.f131) Tryz.func131 (by kernel_rfl) rfl args w
theorem enter288 (args : Array Value) (w : World) : (callFunc 288 args).run Tryz.prog w = .ok (.enter 288 args) w := enter_run (fn := Tryz.f288) Tryz.func288 (by kernel_rfl) rfl args w

/-! ### Keys, sorted -/
def keyI : SV × SV × Nat → Int
  | (.i _ n, _, _) => n
  | _ => 0
theorem insI_ok {n : Int} : ∀ {l : List Int}, l.Pairwise (· ≤ ·) → (insI n l).Perm (n :: l) ∧ (insI n l).Pairwise (· ≤ ·)
  | [], _ => ⟨List.Perm.refl _, List.pairwise_singleton _ _⟩
  | k :: l, h => by
    simp only [insI]
    split
    · rename_i hk
      have hk := leI_iff.1 hk
      refine ⟨List.Perm.refl _, List.Pairwise.cons (fun a ha => ?_) h⟩
      rcases List.mem_cons.1 ha with rfl | ha
      · exact hk
      · have := (List.pairwise_cons.1 h).1 a ha; omega
    · rename_i hk
      have hk : ¬ n ≤ k := fun q => by rw [leI_iff.2 q] at hk; cases hk
      obtain ⟨h1, h2⟩ := insI_ok (n := n) (List.pairwise_cons.1 h).2
      refine ⟨(h1.cons k).trans (List.Perm.swap n k l), List.Pairwise.cons (fun a ha => ?_) h2⟩
      rcases List.mem_cons.1 (h1.mem_iff.1 ha) with rfl | ha
      · omega
      · exact (List.pairwise_cons.1 h).1 a ha
theorem keysI_yl : ∀ {es : List (SV × SV × Nat)}, Yl (keysI es) fun l => l.Perm (es.map keyI) ∧ l.Pairwise (· ≤ ·)
  | [] => Yl.pure _ ⟨List.Perm.refl _, .nil⟩
  | (k, v, n) :: es => by
    have ih := keysI_yl (es := es)
    cases k with
    | i ik n =>
      cases ik with
      | i64 =>
        refine Yl.map (F := keysI es) (fun r => insI n r) ih fun r hr => ?_
        obtain ⟨h1, h2⟩ := insI_ok (n := n) hr.2
        exact ⟨h1.trans (hr.1.cons n), h2⟩
      | _ => exact Yl.no
    | _ => exact Yl.no
theorem svI_yl : ∀ {l : List Int}, Yl (svI l) fun cs => cs = l.map (SV.i .i64)
  | [] => Yl.pure _ rfl
  | n :: l => Yl.map (F := svI l) (fun r => SV.i .i64 n :: r) svI_yl fun r hr => by rw [hr]; rfl
theorem notIn_ok {n : Int} {b : Nat} : ∀ {l : List (SV × SV × Nat)}, notIn n b l = true → ∀ x ∈ l, n ≠ keyI x ∧ b ≠ x.2.2
  | [], _, x, hx => by cases hx
  | (k, v, c) :: l, h, x, hx => by
    cases k <;> first | (simp [notIn] at h; done) | skip
    rename_i ik m
    cases ik <;> first | (simp [notIn] at h; done) | skip
    simp only [notIn, Bool.and_eq_true, Bool.not_eq_true'] at h
    rcases List.mem_cons.1 hx with rfl | hx
    · refine ⟨fun e => ?_, Nat.ne_of_beq_eq_false h.1.2⟩
      have : eqI n m = true := eqI_iff.2 e
      rw [h.1.1] at this; cases this
    · exact notIn_ok h.2 x hx
theorem mapOk_den {ρ : Rho} {θ : Th} {ck : Nat} : ∀ {es : List (SV × SV × Nat)} {l : List MapEntry}, mapOk es ck = true → denE ρ θ es = some l →
    l.map (·.key) = es.map (fun x => Value.int .i64 (keyI x)) ∧ l.map (·.born) = es.map (·.2.2) ∧ (∀ x ∈ l, x.born < ck) ∧ (l.map (·.born)).Nodup ∧ (l.map (·.key)).Nodup ∧ ∀ x ∈ l, ∃ n : Int, x.key = .int .i64 n ∧ -9223372036854775808 ≤ n ∧ n ≤ 9223372036854775807
  | [], l, _, h => by cases h; simp
  | (k, v, b) :: es, l, ho, h => by
    cases k <;> first | (simp [mapOk] at ho; done) | skip
    rename_i ik n
    cases ik <;> first | (simp [mapOk] at ho; done) | skip
    simp only [mapOk, Bool.and_eq_true, leI_iff, Nat.blt_eq] at ho
    obtain ⟨⟨⟨⟨o1, o2⟩, o3⟩, o4⟩, o5⟩ := ho
    simp only [denE, den, Option.bind_some, Option.bind_eq_some_iff, Option.map_eq_some_iff] at h
    obtain ⟨u, h1, l', h2, rfl⟩ := h
    obtain ⟨e1, e2, e3, e4, e5, e6⟩ := mapOk_den o5 h2
    have nin := notIn_ok o4
    refine ⟨by simp [e1, keyI], by simp [e2], fun x hx => ?_, ?_, ?_, fun x hx => ?_⟩
    · rcases List.mem_cons.1 hx with rfl | hx
      · exact o3
      · exact e3 x hx
    · rw [List.map_cons, List.nodup_cons]
      refine ⟨fun hm => ?_, e4⟩
      rw [e2, List.mem_map] at hm
      obtain ⟨x, hx, hb⟩ := hm
      exact (nin x hx).2 hb.symm
    · rw [List.map_cons, List.nodup_cons]
      refine ⟨fun hm => ?_, e5⟩
      rw [e1, List.mem_map] at hm
      obtain ⟨x, hx, hb⟩ := hm
      have : keyI x = n := by simpa using hb
      exact (nin x hx).1 this.symm
    · rcases List.mem_cons.1 hx with rfl | hx
      · exact ⟨n, rfl, o1, o2⟩
      · exact e6 x hx
def valI : Value → Int
  | .int _ n => n
  | _ => 0
section
open Go.Maps Go.Sort Go.Shelf
theorem rd_key3 {x : MapEntry} {n : Int} (hk : x.key = .int .i64 n) (h1 : -9223372036854775808 ≤ n) (h2 : n ≤ 9223372036854775807) : Go.WideElems.rd Tryz.prog 3 anyR x = some (.int .i64 n, .nil) := by
  have hw : (Lit.int .i64 n).wf = true := by simp [Lit.wf, IntKind.min, IntKind.max, IntKind.signed, IntKind.bits]; omega
  have : keyOf Tryz.prog 3 x.key = some (.int .i64 n) := by
    rw [hk]; simp [keyOf, Tryz.underlying3, mapKey, hw]
  simp [Go.WideElems.rd, this, anyR]
theorem map_facts {ρ : Rho} {θ : Th} {ck : Nat} {es : List (SV × SV × Nat)} {arr : Array MapEntry} (ho : mapOk es ck = true) (hl : es.length ≤ 1000) (hd : denE ρ θ es = some arr.toList) :
    (intKeys (datumOf arr)).Perm (es.map keyI) ∧ Go.WideElems.Fit Tryz.prog 3 anyR arr ck ∧ arr.size ≤ 1000 := by
  obtain ⟨e1, e2, e3, e4, e5, e6⟩ := mapOk_den ho hd
  have hsz : arr.size ≤ 1000 := by
    have := congrArg List.length e1
    simp at this; omega
  refine ⟨?_, ⟨by simp [maxLen]; omega, ⟨e3, e4, e5⟩, fun x hx => ?_⟩, hsz⟩
  · have h1 : (intKeys (datumOf arr)).Perm ((arr.toList.map (Go.WideElems.rg Tryz.prog 3 anyR)).map fun p => Go.intOf p.1) := (Go.WideShapes.sorted_perm _).map _
    refine h1.trans ?_
    rw [List.map_map]
    have h2 : arr.toList.map ((fun p : Lit × DataW Unit => Go.intOf p.1) ∘ Go.WideElems.rg Tryz.prog 3 anyR) = (arr.toList.map (·.key)).map valI := by
      rw [List.map_map]
      refine List.map_congr_left fun x hx => ?_
      obtain ⟨n, k1, k2, k3⟩ := e6 x hx
      simp only [Function.comp, Go.WideElems.rg_of (rd_key3 k1 k2 k3), k1]
      rfl
    rw [h2, e1, List.map_map]
    exact List.Perm.refl _
  · obtain ⟨n, k1, k2, k3⟩ := e6 x hx
    exact ⟨_, rd_key3 k1 k2 k3⟩
end
theorem dens_ints {ρ : Rho} {θ : Th} : ∀ {l : List Int}, dens ρ θ (l.map (SV.i .i64)) = some (l.map encZ)
  | [] => rfl
  | n :: l => by simp only [List.map_cons, dens, den, Option.bind_some, dens_ints (l := l), Option.map_some]
theorem fn_arg {ρ : Rho} {θ : Th} {f t q c : Nat} {vs : List Value} (hq : θ t = some (q, c)) (h : dens ρ θ [.fn f [] [.p t 0]] = some vs) : vs = [.func (.func f) #[] #[.pointer (some ⟨q, 0, none⟩)]] := by
  simp only [dens, den, hq, Option.map_some, Option.bind_some, Option.some.injEq] at h
  rw [← h]
section
variable {ρ : Rho} {m : Mem} {nx : Nat} {pc : PC}
theorem sorted_yl {args : List SV} (hs : Sat ρ pc) : Yl (fun K => sortedKeys [131, 288] 3 args m nx pc fun v m nx pc => K ⟨v, m, nx, pc⟩) (CallR Tryz.prog ρ 77 args m nx) := by
  unfold sortedKeys
  split
  · rename_i f t
    split
    · rename_i hf
      have hf : f = 131 ∨ f = 288 := by simpa using memN_iff.1 hf
      split
      · rename_i ty ex hg
        refine Yl.pure (⟨.ns, m, nx, pc⟩ : O4) ⟨enter77, hs, Nat.le_refl _, fun t h1 h2 => absurd h1 h2, fun w θ vs hvs hM _ => ?_⟩
        obtain ⟨q, c, us, h1, h2, _, h4, _⟩ := (hM.holds t _ hg).cells
        cases h2
        have hcell := h4 0 _ rfl
        have hq := (hM.holds t _ hg).th
        obtain ⟨q', c', e1, hq⟩ := hq
        rw [h1] at e1; cases e1
        rw [fn_arg h1 hvs]
        have key : Calls Tryz.prog 77 #[.func (.func f) #[] #[.pointer (some ⟨q, 0, none⟩)]] w fun e w' => e = .returned (.slice none 0 0) ∧ Below w.heap.size w w' := by
          rcases hf with rfl | rfl
          · exact sorted_nil kLayA enter131 hcell hq
          · exact sorted_nil kLayB enter288 hcell hq
        exact calls_mono key fun e w' ⟨k1, k2⟩ => ⟨_, θ, k1, SP.still' hM (ext_below k2), rfl⟩
      · rename_i ty g ex hg
        split
        · rename_i es ck hes
          split
          · rename_i hc
            simp only [Bool.and_eq_true, Nat.ble_eq] at hc
            refine Yl.bind keysI_yl fun l hl => ?_
            have main : ∀ (w : World) (θ : Th) (vs : List Value), dens ρ θ [.fn f [] [.p t 0]] = some vs → MemOk ρ θ m.get w → Calls Tryz.prog 77 vs.toArray w fun e w' => ∃ v : Value, e = .returned v ∧ w'.ownsRow w.heap.size 3 1 v l.length (l.map encZ) ∧ (v = .slice none 0 0 ↔ l = []) ∧ Below w.heap.size w w' := fun w θ vs hvs hM => by
              obtain ⟨q, c, us, h1, h2, _, h4, _⟩ := (hM.holds t _ hg).cells
              obtain ⟨g', cg, arr, b1, b2, b3⟩ := hM.holds g _ hes
              obtain ⟨q', c', e1, hq⟩ := (hM.holds t _ hg).th
              rw [h1] at e1; cases e1
              simp only [dens, den, b1, Option.map_some, Option.bind_some, Option.some.injEq] at h2
              subst h2
              have hcell := h4 0 _ rfl
              obtain ⟨f1, f2, f3⟩ := map_facts hc.1 hc.2 b3
              rw [fn_arg h1 hvs]
              have key : Calls Tryz.prog 77 #[.func (.func f) #[] #[.pointer (some ⟨q, 0, none⟩)]] w fun e w' => ∃ (v : Value) (ss : List Int), e = .returned v ∧ ss.Perm (intKeys (datumOf arr)) ∧
                  w'.ownsRow w.heap.size 3 1 v ss.length ((ss.mergeSort (fun x y => decide (x ≤ y))).map encZ) ∧ (v = .slice none 0 0 ↔ ss = []) ∧ Below w.heap.size w w' := by
                rcases hf with rfl | rfl
                · exact sorted_run kLayA rfl enter131 hcell hq b2 f2 f3
                · exact sorted_run kLayB rfl enter288 hcell hq b2 f2 f3
              refine calls_mono key fun e w' ⟨v, ss, k1, k2, k3, k4, k5⟩ => ?_
              have p1 : ss.Perm l := (k2.trans f1).trans hl.1.symm
              have e2 : ss.mergeSort (fun x y => decide (x ≤ y)) = l := by
                have h1 : ss.mergeSort (fun x y => decide (x ≤ y)) = l.mergeSort (fun x y => decide (x ≤ y)) := mergeSort_of_perm_i p1
                rw [h1]
                exact List.mergeSort_of_pairwise (hl.2.imp fun h => by simpa using h)
              rw [e2, p1.length_eq] at k3
              refine ⟨v, k1, k3, k4.trans ⟨fun h => ?_, fun h => ?_⟩, k5⟩
              · subst h; exact List.nil_perm.1 p1
              · subst h; exact List.perm_nil.1 p1
            split
            · refine Yl.pure (⟨.ns, m, nx, pc⟩ : O4) ⟨enter77, hs, Nat.le_refl _, fun t h1 h2 => absurd h1 h2, fun w θ vs hvs hM _ => ?_⟩
              refine calls_mono (main w θ vs hvs hM) fun e w' ⟨v, k1, k2, k3, k4⟩ => ?_
              have := k3.2 rfl
              subst this
              exact ⟨_, θ, k1, SP.still' hM (ext_below k4), rfl⟩
            · rename_i hne
              refine Yl.bind svI_yl fun cs hcs => ?_
              subst hcs
              unfold newB
              refine Yl.bind frn_yl fun nx' hnx => ?_
              subst hnx
              refine Yl.bind set_yl fun m' hm' => ?_
              refine Yl.map (fun n => (⟨.sl nx' 0 n (.q 1), m', nx' + 1, pc⟩ : O4)) frn_yl fun n hn => ?_
              have hn : n = l.length := by rw [hn, lenC0]; simp
              subst hn
              refine ⟨enter77, hs, Nat.le_succ _, fun t h1 h2 => ?_, fun w θ vs hvs hM hfr => ?_⟩
              · by_cases e : t = nx'
                · subst e; exact ⟨Nat.le_refl _, Nat.lt_succ_self _⟩
                · exact absurd h1 (by have := hm' t; rw [if_neg e] at this; rw [← this]; exact h2)
              · refine calls_mono (main w θ vs hvs hM) fun e w' ⟨v, k1, k2, k3, k4⟩ => ?_
                have hx := hfr nx' (Nat.le_refl _) (Nat.lt_succ_self _)
                rcases k2.2 with ⟨h0, _⟩ | ⟨gb, cap, cur, rfl, hbase, hgb, r1, r2, r3, r4⟩
                · exact absurd (k3.1 h0) hne
                · rw [Nat.mul_one] at r3 r4
                  refine ⟨_, updT θ nx' (gb, cap), k1, SP.alloc (b := .ce 3 (l.map (SV.i .i64)) false) hM hx (ext_below k4) hbase ⟨gb, cap, l.map encZ, cur, cur.toList.drop l.length, by simp [updT], hgb, r3, dens_ints, fun v hv => ?_, ?_, fun h => by cases h⟩ fun t b' hb => ?_, ?_⟩
                  · obtain ⟨n, _, rfl⟩ := List.mem_map.1 hv
                    rfl
                  · rw [← r4]; exact (List.take_append_drop _ _).symm
                  · rw [hm' t] at hb
                    by_cases e : t = nx'
                    · rw [if_pos e] at hb; exact .inl ⟨e, (Option.some.inj hb).symm⟩
                    · rw [if_neg e] at hb; exact .inr ⟨e, hb⟩
                  · simp [den, updT, Cap.den]
          · exact Yl.no
        · exact Yl.no
      · exact Yl.no
    · exact Yl.no
  · exact Yl.no
end
end X
end Go.Proofs.YtdbchpoaoghgpaaGreatDoor
