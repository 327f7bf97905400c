/-
  Strings: what operations on them come to; bytes appended to a slice of the call's own. Over any program.
-/
import Derived.Test.YtbhdplicjiejnaaGreatDoorBase7
import Derived.Lib.AppendStr
import Derived.Lib.ConvBytes
import Derived.Laws.Strings
import Derived.Laws.IdiomStrings
set_option linter.unusedSimpArgs false
set_option linter.unusedVariables false
namespace Go.Proofs.YtbhdplicjiejnaaGreatDoor
namespace B
open Go.RowKit
def ltT (x y : ByteArray) : Bool := Op.bytesLess x.toList y.toList
def eqT (x y : ByteArray) : Bool := x.toList == y.toList
def leT (x y : ByteArray) : Bool := ltT x y || eqT x y
section
variable {P : Program} {a : Act} {o : Oper} {w : World} {t t' : TypeId} {x y z : Operand} {s u : ByteArray} {k k' : IntKind} {p q : Int}
theorem r_slss (ho : o.op = .binOp .lss t x y t') (hx : a.eval x = .string s) (hy : a.eval y = .string u) : Runs P a o w (.bool (ltT s u)) := by
  simp [Runs, execOp, ho, hx, hy, eqGuard, binOp, Op.stringOp, ltT]
theorem r_sleq (ho : o.op = .binOp .leq t x y t') (hx : a.eval x = .string s) (hy : a.eval y = .string u) : Runs P a o w (.bool (ltT s u || eqT s u)) := by
  simp [Runs, execOp, ho, hx, hy, eqGuard, binOp, Op.stringOp, ltT, eqT]
theorem r_sgtr (ho : o.op = .binOp .gtr t x y t') (hx : a.eval x = .string s) (hy : a.eval y = .string u) : Runs P a o w (.bool (!(ltT s u || eqT s u))) := by
  simp [Runs, execOp, ho, hx, hy, eqGuard, binOp, Op.stringOp, ltT, eqT]
theorem r_sgeq (ho : o.op = .binOp .geq t x y t') (hx : a.eval x = .string s) (hy : a.eval y = .string u) : Runs P a o w (.bool (!ltT s u)) := by
  simp [Runs, execOp, ho, hx, hy, eqGuard, binOp, Op.stringOp, ltT]
theorem r_seql (ho : o.op = .binOp .eql t x y t') (hx : a.eval x = .string s) (hy : a.eval y = .string u) : Runs P a o w (.bool (eqT s u)) := by
  simp [Runs, execOp, ho, hx, hy, eqGuard, binOp, Op.stringOp, eqT]
theorem r_sneq (ho : o.op = .binOp .neq t x y t') (hx : a.eval x = .string s) (hy : a.eval y = .string u) : Runs P a o w (.bool (!eqT s u)) := by
  simp [Runs, execOp, ho, hx, hy, eqGuard, binOp, Op.stringOp, eqT]
theorem r_sadd (ho : o.op = .binOp .add t x y t') (hx : a.eval x = .string s) (hy : a.eval y = .string u) (hb : s.size + u.size ≤ 9223372036854775807) : Runs P a o w (.string (s ++ u)) := by
  have h : ¬ (9223372036854775807 < (s.size : Int) + (u.size : Int)) := by omega
  simp [Runs, execOp, ho, hx, hy, eqGuard, binOp, Op.stringOp, IntKind.max, IntKind.signed, IntKind.bits, h]
theorem r_sub2 (ho : o.op = .slice t x (some y) (some z) none) (ht : P.underlying t = some .string) (hx : a.eval x = .string s) (hy : a.eval y = .int k p) (hz : a.eval z = .int k' q) (h0 : 0 ≤ p) (h1 : p ≤ q) (h2 : q ≤ s.size) : Runs P a o w (.string (s.extract p.toNat q.toNat)) := by
  have h4 : 0 ≤ q := by omega
  have h5 : p ≤ max q 0 := by omega
  simp [Runs, execOp, ho, hx, hy, hz, Instr.sliceAt, Instr.slice, run_underlying ht, Instr.sliceBounds, Instr.sliceBound, asIntOf, h0, h2, h4, h1]
  intro h6; omega
theorem r_subHi (ho : o.op = .slice t x none (some z) none) (ht : P.underlying t = some .string) (hx : a.eval x = .string s) (hz : a.eval z = .int k' q) (h4 : 0 ≤ q) (h2 : q ≤ s.size) : Runs P a o w (.string (s.extract 0 q.toNat)) := by
  simp [Runs, execOp, ho, hx, hz, Instr.sliceAt, Instr.slice, run_underlying ht, Instr.sliceBounds, Instr.sliceBound, asIntOf, h2, h4]
theorem r_subLo (ho : o.op = .slice t x (some y) none none) (ht : P.underlying t = some .string) (hx : a.eval x = .string s) (hy : a.eval y = .int k p) (h0 : 0 ≤ p) (h1 : p ≤ s.size) : Runs P a o w (.string (s.extract p.toNat s.size)) := by
  simp [Runs, execOp, ho, hx, hy, Instr.sliceAt, Instr.slice, run_underlying ht, Instr.sliceBounds, Instr.sliceBound, asIntOf, h0, h1]
end
/-- a string's byte -/
def byteAt (s : ByteArray) (i : Int) : Int := ((s.data.toList.getD i.toNat 0).toNat : Int)
theorem byteAt_range (s : ByteArray) (i : Int) : 0 ≤ byteAt s i ∧ byteAt s i ≤ 255 := by
  unfold byteAt
  have := (s.data.toList.getD i.toNat 0).toNat_lt
  omega
theorem r_sindex {P : Program} {a : Act} {o : Oper} {w : World} {t : TypeId} {x y : Operand} {s : ByteArray} {k : IntKind} {p : Int} (ho : o.op = .index t x y) (ht : P.underlying t = some .string) (hx : a.eval x = .string s) (hy : a.eval y = .int k p) (h0 : 0 ≤ p) (h1 : p < s.size) : Runs P a o w (.int .u8 (byteAt s p)) := by
  have hlt : p.toNat < s.size := by omega
  have e : s[p.toNat]? = some (s.data.toList.getD p.toNat 0) := by
    rw [getElem?_pos s p.toNat hlt]
    have h2 : s.data.toList.getD p.toNat 0 = s.data.toList[p.toNat]'(by simpa using hlt) := by
      rw [List.getD_eq_getElem?_getD, List.getElem?_eq_getElem (by simpa using hlt)]; rfl
    rw [h2]
    rfl
  simp [Runs, execOp, ho, hx, hy, Instr.index, run_underlying ht, asIntOf, h0, e, byteAt]
theorem eqT_iff {s u : ByteArray} : eqT s u = true ↔ s = u := by
  unfold eqT
  rw [beq_iff_eq, ByteArray.toList_eq, ByteArray.toList_eq]
  constructor
  · intro h
    cases s; cases u
    congr 1
    exact Array.ext' h
  · rintro rfl; rfl
theorem eqT_eq (s u : ByteArray) : eqT s u = decide (s.data.toList = u.data.toList) := by
  unfold eqT
  rw [ByteArray.toList_eq, ByteArray.toList_eq, Bool.eq_iff_iff]
  simp
def ByteE : Enc UInt8 := ⟨fun p => [.int .u8 p.toNat], 1, by decide, fun _ => rfl, fun x u hu => by simp at hu; rcases hu with rfl; rfl⟩
theorem byte_row (l : List UInt8) : ByteE.row l = l.map fun b => Value.int .u8 b.toNat := by
  induction l with
  | nil => rfl
  | cons b l ih =>
    have e : ByteE.row (b :: l) = ByteE.cells b ++ ByteE.row l := by simp [Enc.row]
    rw [e, ih]; rfl
section
variable {N : Foot} {P : Program} {ops : Array Oper} {sp : List (Spec N)} {In : Nat → Ini N} {a0 : Act} {w0 : World} {bf : List Nat} {j : Nat} {o : Oper} {s : Spec N}
theorem origin {P : Program} {w w' : World} {t u ty e : TypeId} {i : TypeInfo} {v v' : Value} {n : Nat} {xs : List Value} {s : ByteArray} (ht : P.underlying t = some (.slice e)) (hu : P.underlying u = some .string) (hi : P.info? e = some i) (hz : i.zero = some (.int .u8 0)) (hsize : i.size = 1) (hby : i.bytes = 1)
    (hown : w.ownsRow 0 e 1 v n xs) (h63 : n + s.size ≤ 140737488355328) (hr : (Builtin.append_ #[t, u] ty #[v, .string s]).run P w = .ok v' w') : ∀ g, v'.ownBlock = some g → v.ownBlock = some g ∨ (w.heap.size ≤ g ∧ g < w'.heap.size) := by
  have hxl : xs.length = n := by simpa using hown.1
  rcases hown.2 with ⟨rfl, rfl⟩ | ⟨g, cap, cur, rfl, hbg, hg, hnc, hcm, hcs, htake⟩
  · by_cases hm : s.size = 0
    · have hf := Lib.run_firstCells_string (P := P) w 1 s
      rw [hm] at hf
      have hr2 : (Builtin.append_ #[t, u] ty #[.slice none 0 0, .string s]).run P w = .ok (.slice none 0 0) w := by
        simp [Builtin.append_, run_underlying ht, run_underlying hu, sizeOf, typeInfo, hi, hsize, Builtin.lenOf, hm, hf]
      rw [hr2] at hr
      simp only [Result.ok.injEq] at hr
      obtain ⟨rfl, rfl⟩ := hr
      intro g h; simp [Value.ownBlock] at h
    · have hr2 := run_append_nil_string (P := P) w t u ty e i (.int .u8 0) ht hu hi hz s (by omega) (by omega) (by rw [hby]; omega)
      rw [hr2] at hr
      simp only [Result.ok.injEq] at hr
      obtain ⟨rfl, rfl⟩ := hr
      intro g h
      simp only [Value.ownBlock, Option.some.injEq] at h
      subst h
      right; simp
  · by_cases hroom : n + s.size ≤ cap
    · have hcs' : cur.size = cap := by simpa using hcs
      have hr2 := Lib.run_append_room_string (P := P) w t u ty e i ht hu hi hsize g n cap cur hg s hroom (by omega)
      rw [hr2] at hr
      simp only [Result.ok.injEq] at hr
      obtain ⟨rfl, rfl⟩ := hr
      intro g' h; exact .inl h
    · have holds : ∀ j u, xs[j]? = some u → w.cell? ((⟨g, 0, none⟩ : Addr).add j) = some u := World.ownsRow.cells hown (g := g) rfl
      have hr2 := Lib.run_append_grow_string (P := P) w t u ty e i (.int .u8 0) ht hu hi hz ⟨g, 0, none⟩ n cap xs (by rw [hsize]; simpa using hxl) holds s (by omega) (by omega) (by rw [hby]; exact growslice_fits (by omega) (by omega))
      rw [hr2] at hr
      simp only [Result.ok.injEq] at hr
      obtain ⟨rfl, rfl⟩ := hr
      intro g' h
      simp only [Value.ownBlock, Option.some.injEq] at h
      subst h
      right; simp
/-- append a string's bytes to a slice of the call's own -/
theorem Ob.appendStr {ty sty e tag t t0 : Nat} {xs : List UInt8} {u : ByteArray} {x y : Operand} {i : TypeInfo} (hs : s = own ByteE e N tag t (xs ++ u.data.toList)) (hg : o.guard = none) (hd : o.dst = some t)
    (ho : o.op = .call { callee := .builtin .append, args := #[x, y], argTypes := #[ty, sty] })
    (hty : P.underlying ty = some (.slice e)) (hsty : P.underlying sty = some .string) (hi : P.info? e = some i) (hz : i.zero = some (.int .u8 0)) (hsize : i.size = 1) (hby : i.bytes = 1)
    (h63 : xs.length + u.size ≤ 140737488355328)
    (hp : ∀ done a w τ, Cx ops sp In a0 w0 bf j o done a w τ → ownR ByteE e xs (τ tag) (get a t0) w ∧ a.eval x = get a t0 ∧ a.eval y = .string u) : Ob ops sp In a0 w0 P bf j o s := by
  subst hs
  refine Ob.tagged hg rfl fun done a w τ c => ?_
  obtain ⟨⟨hown, hT⟩, hx, hy⟩ := hp done a w τ c
  have hown' : w.ownsRow 0 e 1 (get a t0) xs.length (ByteE.row xs) := hown
  obtain ⟨v', w', hr, h2, h3, _⟩ := Lib.run_append_own_string (P := P) w 0 ty sty o.type e i hty hsty hi hz hsize hby (get a t0) xs.length (ByteE.row xs) hown' u (by simp only [maxLen]; omega) (by omega) (Nat.zero_le _)
  have hr' : (execOp a.eval o).run P w = .ok (.value v') w' := by
    simp only [execOp, ho, resolve, invoke, builtin, Sem.run_bind, Sem.run_pure, Result.andThen_ok, List.map_toArray, List.map_cons, List.map_nil, hx, hy, hr]
  have hsz : u.size = u.data.toList.length := by rw [Array.length_toList]; rfl
  have e2 : ByteE.row xs ++ Lib.strCells u = ByteE.row (xs ++ u.data.toList) := by rw [byte_row, byte_row, List.map_append]; rfl
  have h2' : OwnT ByteE e w' v' (xs ++ u.data.toList) := by
    unfold OwnT
    rw [List.length_append, ← hsz, ← e2]
    exact h2
  have hgr := Ext.grown h3
  refine wp_of_run hr' ⟨_, rfl, hgr.mono (fun k _ h => hT k h), fun g => v'.ownBlock = some g, fun g hg => (origin hty hsty hi hz hsize hby hown' (by omega) hr g hg).elim (fun h => .inl (hT g h)) (fun h => .inr h), ?_⟩
  · show ownR ByteE e (xs ++ u.data.toList) _ (get (a.put o.dst _) t) _
    rw [hd, get_put a t t _ (c.lt t hd), if_pos rfl]
    exact ⟨h2', fun g h => h⟩
end
theorem r_ofBytes {P : Program} {a : Act} {o : Oper} {w : World} {src dst e : TypeId} {x : Operand} {v : Value} {xs : List UInt8} (ho : o.op = .convert src dst x) (hs : P.underlying src = some (.slice e)) (he : P.underlying e = some (.int .u8)) (hd : P.underlying dst = some .string) (hx : a.eval x = v) (h : SlT ByteE w v xs) : Runs P a o w (.string ⟨xs.toArray⟩) := by
  rcases h.sl with ⟨rfl, h0⟩ | ⟨b, cap, rfl, _⟩
  · obtain rfl := List.eq_nil_of_length_eq_zero h0
    simp [Runs, execOp, ho, hx, convert, run_underlying hs, run_underlying hd, run_underlying he, Conv.bytesToString]
    rfl
  · have hc : ∀ j u, (xs.map fun b => Value.int .u8 b.toNat)[j]? = some u → w.cell? (b.add j) = some u := fun j u hj => h.cell j u (by rw [byte_row]; exact hj)
    have hr := run_convert_bytes_back (P := P) w src dst e b cap xs hs he hd (fun j hj => hc j _ (by simp [List.getElem?_eq_getElem hj]))
    simp only [Runs, execOp, ho, hx]
    simp [hr]
end B
end Go.Proofs.YtbhdplicjiejnaaGreatDoor
