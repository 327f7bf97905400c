/-
  Strings: what operations on them come to; bytes appended to a slice of the call's own. Over any program.
-/
import Derived.Test.YtdbchpoaoghgpaaGreatDoorBb
import Derived.Lib.AppendStr
import Derived.Lib.ConvBytes
import Derived.Laws.Strings
import Derived.Laws.IdiomStrings
set_option linter.unusedSimpArgs false
set_option linter.unusedVariables false
namespace Go.Proofs.YtdbchpoaoghgpaaGreatDoor
namespace B
open Go.RowKit
def ltT (x y : ByteArray) : Bool := Op.bytesLess x.toList y.toList
def eqT (x y : ByteArray) : Bool := x.toList == y.toList
def leT (x y : ByteArray) : Bool := ltT x y || eqT x y
section
variable {P : Program} {a : Act} {o : Oper} {w : World} {t t' : TypeId} {x y z : Operand} {s u : ByteArray} {k k' : IntKind} {p q : Int}
theorem r_slss (ho : o.op = .binOp .lss t x y t') (hx : a.eval x = .string s) (hy : a.eval y = .string u) : Runs P a o w (.bool (ltT s u)) := by
  simp [Runs, execOp, ho, hx, hy, eqGuard, binOp, Op.stringOp, ltT]
theorem r_sleq (ho : o.op = .binOp .leq t x y t') (hx : a.eval x = .string s) (hy : a.eval y = .string u) : Runs P a o w (.bool (ltT s u || eqT s u)) := by
  simp [Runs, execOp, ho, hx, hy, eqGuard, binOp, Op.stringOp, ltT, eqT]
theorem r_sgtr (ho : o.op = .binOp .gtr t x y t') (hx : a.eval x = .string s) (hy : a.eval y = .string u) : Runs P a o w (.bool (!(ltT s u || eqT s u))) := by
  simp [Runs, execOp, ho, hx, hy, eqGuard, binOp, Op.stringOp, ltT, eqT]
theorem r_sgeq (ho : o.op = .binOp .geq t x y t') (hx : a.eval x = .string s) (hy : a.eval y = .string u) : Runs P a o w (.bool (!ltT s u)) := by
  simp [Runs, execOp, ho, hx, hy, eqGuard, binOp, Op.stringOp, ltT]
theorem r_seql (ho : o.op = .binOp .eql t x y t') (hx : a.eval x = .string s) (hy : a.eval y = .string u) : Runs P a o w (.bool (eqT s u)) := by
  simp [Runs, execOp, ho, hx, hy, eqGuard, binOp, Op.stringOp, eqT]
theorem r_sneq (ho : o.op = .binOp .neq t x y t') (hx : a.eval x = .string s) (hy : a.eval y = .string u) : Runs P a o w (.bool (!eqT s u)) := by
  simp [Runs, execOp, ho, hx, hy, eqGuard, binOp, Op.stringOp, eqT]
theorem r_sadd (ho : o.op = .binOp .add t x y t') (hx : a.eval x = .string s) (hy : a.eval y = .string u) (hb : s.size + u.size ≤ 9223372036854775807) : Runs P a o w (.string (s ++ u)) := by
  have h : ¬ (9223372036854775807 < (s.size : Int) + (u.size : Int)) := by omega
  simp [Runs, execOp, ho, hx, hy, eqGuard, binOp, Op.stringOp, IntKind.max, IntKind.signed, IntKind.bits, h]
theorem r_sub2 (ho : o.op = .slice t x (some y) (some z) none) (ht : P.underlying t = some .string) (hx : a.eval x = .string s) (hy : a.eval y = .int k p) (hz : a.eval z = .int k' q) (h0 : 0 ≤ p) (h1 : p ≤ q) (h2 : q ≤ s.size) : Runs P a o w (.string (s.extract p.toNat q.toNat)) := by
  have h4 : 0 ≤ q := by omega
  have h5 : p ≤ max q 0 := by omega
  simp [Runs, execOp, ho, hx, hy, hz, Instr.sliceAt, Instr.slice, run_underlying ht, Instr.sliceBounds, Instr.sliceBound, asIntOf, h0, h2, h4, h1]
  intro h6; omega
theorem r_subHi (ho : o.op = .slice t x none (some z) none) (ht : P.underlying t = some .string) (hx : a.eval x = .string s) (hz : a.eval z = .int k' q) (h4 : 0 ≤ q) (h2 : q ≤ s.size) : Runs P a o w (.string (s.extract 0 q.toNat)) := by
  simp [Runs, execOp, ho, hx, hz, Instr.sliceAt, Instr.slice, run_underlying ht, Instr.sliceBounds, Instr.sliceBound, asIntOf, h2, h4]
theorem r_subLo (ho : o.op = .slice t x (some y) none none) (ht : P.underlying t = some .string) (hx : a.eval x = .string s) (hy : a.eval y = .int k p) (h0 : 0 ≤ p) (h1 : p ≤ s.size) : Runs P a o w (.string (s.extract p.toNat s.size)) := by
  simp [Runs, execOp, ho, hx, hy, Instr.sliceAt, Instr.slice, run_underlying ht, Instr.sliceBounds, Instr.sliceBound, asIntOf, h0, h1]
end
/-- a string's byte -/
def byteAt (s : ByteArray) (i : Int) : Int := ((s.data.toList.getD i.toNat 0).toNat : Int)
theorem byteAt_range (s : ByteArray) (i : Int) : 0 ≤ byteAt s i ∧ byteAt s i ≤ 255 := by
  unfold byteAt
  have := (s.data.toList.getD i.toNat 0).toNat_lt
  omega
theorem r_sindex {P : Program} {a : Act} {o : Oper} {w : World} {t : TypeId} {x y : Operand} {s : ByteArray} {k : IntKind} {p : Int} (ho : o.op = .index t x y) (ht : P.underlying t = some .string) (hx : a.eval x = .string s) (hy : a.eval y = .int k p) (h0 : 0 ≤ p) (h1 : p < s.size) : Runs P a o w (.int .u8 (byteAt s p)) := by
  have hlt : p.toNat < s.size := by omega
  have e : s[p.toNat]? = some (s.data.toList.getD p.toNat 0) := by
    rw [getElem?_pos s p.toNat hlt]
    have h2 : s.data.toList.getD p.toNat 0 = s.data.toList[p.toNat]'(by simpa using hlt) := by
      rw [List.getD_eq_getElem?_getD, List.getElem?_eq_getElem (by simpa using hlt)]; rfl
    rw [h2]
    rfl
  simp [Runs, execOp, ho, hx, hy, Instr.index, run_underlying ht, asIntOf, h0, e, byteAt]
theorem eqT_iff {s u : ByteArray} : eqT s u = true ↔ s = u := by
  unfold eqT
  rw [beq_iff_eq, ByteArray.toList_eq, ByteArray.toList_eq]
  constructor
  · intro h
    cases s; cases u
    congr 1
    exact Array.ext' h
  · rintro rfl; rfl
theorem eqT_eq (s u : ByteArray) : eqT s u = decide (s.data.toList = u.data.toList) := by
  unfold eqT
  rw [ByteArray.toList_eq, ByteArray.toList_eq, Bool.eq_iff_iff]
  simp
def ByteE : Enc UInt8 := ⟨fun p => [.int .u8 p.toNat], 1, by decide, fun _ => rfl, fun x u hu => by simp at hu; rcases hu with rfl; rfl⟩
theorem byte_row (l : List UInt8) : ByteE.row l = l.map fun b => Value.int .u8 b.toNat := by
  induction l with
  | nil => rfl
  | cons b l ih =>
    have e : ByteE.row (b :: l) = ByteE.cells b ++ ByteE.row l := by simp [Enc.row]
    rw [e, ih]; rfl
section
variable {N : Foot} {P : Program} {ops : Array Oper} {sp : List (Spec N)} {In : Nat → Ini N} {a0 : Act} {w0 : World} {bf : List Nat} {j : Nat} {o : Oper} {s : Spec N}
theorem origin {P : Program} {w w' : World} {t u ty e : TypeId} {i : TypeInfo} {v v' : Value} {n : Nat} {xs : List Value} {s : ByteArray} (ht : P.underlying t = some (.slice e)) (hu : P.underlying u = some .string) (hi : P.info? e = some i) (hz : i.zero = some (.int .u8 0)) (hsize : i.size = 1) (hby : i.bytes = 1)
    (hown : w.ownsRow 0 e 1 v n xs) (h63 : n + s.size ≤ 140737488355328) (hr : (Builtin.append_ #[t, u] ty #[v, .string s]).run P w = .ok v' w') : ∀ g, v'.ownBlock = some g → v.ownBlock = some g ∨ (w.heap.size ≤ g ∧ g < w'.heap.size) := by
  have hxl : xs.length = n := by simpa using hown.1
  rcases hown.2 with ⟨rfl, rfl⟩ | ⟨g, cap, cur, rfl, hbg, hg, hnc, hcm, hcs, htake⟩
  · by_cases hm : s.size = 0
    · have hf := Lib.run_firstCells_string (P := P) w 1 s
      rw [hm] at hf
      have hr2 : (Builtin.append_ #[t, u] ty #[.slice none 0 0, .string s]).run P w = .ok (.slice none 0 0) w := by
        simp [Builtin.append_, run_underlying ht, run_underlying hu, sizeOf, typeInfo, hi, hsize, Builtin.lenOf, hm, hf]
      rw [hr2] at hr
      simp only [Result.ok.injEq] at hr
      obtain ⟨rfl, rfl⟩ := hr
      intro g h; simp [Value.ownBlock] at h
    · have hr2 := run_append_nil_string (P := P) w t u ty e i (.int .u8 0) ht hu hi hz s (by omega) (by omega) (by rw [hby]; omega)
      rw [hr2] at hr
      simp only [Result.ok.injEq] at hr
      obtain ⟨rfl, rfl⟩ := hr
      intro g h
      simp only [Value.ownBlock, Option.some.injEq] at h
      subst h
      right; simp
  · by_cases hroom : n + s.size ≤ cap
    · have hcs' : cur.size = cap := by simpa using hcs
      have hr2 := Lib.run_append_room_string (P := P) w t u ty e i ht hu hi hsize g n cap cur hg s hroom (by omega)
      rw [hr2] at hr
      simp only [Result.ok.injEq] at hr
      obtain ⟨rfl, rfl⟩ := hr
      intro g' h; exact .inl h
    · have holds : ∀ j u, xs[j]? = some u → w.cell? ((⟨g, 0, none⟩ : Addr).add j) = some u := World.ownsRow.cells hown (g := g) rfl
      have hr2 := Lib.run_append_grow_string (P := P) w t u ty e i (.int .u8 0) ht hu hi hz ⟨g, 0, none⟩ n cap xs (by rw [hsize]; simpa using hxl) holds s (by omega) (by omega) (by rw [hby]; exact growslice_fits (by omega) (by omega))
      rw [hr2] at hr
      simp only [Result.ok.injEq] at hr
      obtain ⟨rfl, rfl⟩ := hr
      intro g' h
      simp only [Value.ownBlock, Option.some.injEq] at h
      subst h
      right; simp
/-- append a string's bytes to a slice of the call's own -/
theorem Ob.appendStr {ty sty e tag t t0 : Nat} {xs : List UInt8} {u : ByteArray} {x y : Operand} {i : TypeInfo} (hs : s = own ByteE e N tag t (xs ++ u.data.toList)) (hg : o.guard = none) (hd : o.dst = some t)
    (ho : o.op = .call { callee := .builtin .append, args := #[x, y], argTypes := #[ty, sty] })
    (hty : P.underlying ty = some (.slice e)) (hsty : P.underlying sty = some .string) (hi : P.info? e = some i) (hz : i.zero = some (.int .u8 0)) (hsize : i.size = 1) (hby : i.bytes = 1)
    (h63 : xs.length + u.size ≤ 140737488355328)
    (hp : ∀ done a w τ, Cx ops sp In a0 w0 bf j o done a w τ → ownR ByteE e xs (τ tag) (get a t0) w ∧ a.eval x = get a t0 ∧ a.eval y = .string u) : Ob ops sp In a0 w0 P bf j o s := by
  subst hs
  refine Ob.tagged hg rfl fun done a w τ c => ?_
  obtain ⟨⟨hown, hT⟩, hx, hy⟩ := hp done a w τ c
  have hown' : w.ownsRow 0 e 1 (get a t0) xs.length (ByteE.row xs) := hown
  obtain ⟨v', w', hr, h2, h3, _⟩ := Lib.run_append_own_string (P := P) w 0 ty sty o.type e i hty hsty hi hz hsize hby (get a t0) xs.length (ByteE.row xs) hown' u (by simp only [maxLen]; omega) (by omega) (Nat.zero_le _)
  have hr' : (execOp a.eval o).run P w = .ok (.value v') w' := by
    simp only [execOp, ho, resolve, invoke, builtin, Sem.run_bind, Sem.run_pure, Result.andThen_ok, List.map_toArray, List.map_cons, List.map_nil, hx, hy, hr]
  have hsz : u.size = u.data.toList.length := by rw [Array.length_toList]; rfl
  have e2 : ByteE.row xs ++ Lib.strCells u = ByteE.row (xs ++ u.data.toList) := by rw [byte_row, byte_row, List.map_append]; rfl
  have h2' : OwnT ByteE e w' v' (xs ++ u.data.toList) := by
    unfold OwnT
    rw [List.length_append, ← hsz, ← e2]
    exact h2
  have hgr := Ext.grown h3
  refine wp_of_run hr' ⟨_, rfl, hgr.mono (fun k _ h => hT k h), fun g => v'.ownBlock = some g, fun g hg => (origin hty hsty hi hz hsize hby hown' (by omega) hr g hg).elim (fun h => .inl (hT g h)) (fun h => .inr h), ?_⟩
  · show ownR ByteE e (xs ++ u.data.toList) _ (get (a.put o.dst _) t) _
    rw [hd, get_put a t t _ (c.lt t hd), if_pos rfl]
    exact ⟨h2', fun g h => h⟩
end
theorem r_ofBytes {P : Program} {a : Act} {o : Oper} {w : World} {src dst e : TypeId} {x : Operand} {v : Value} {xs : List UInt8} (ho : o.op = .convert src dst x) (hs : P.underlying src = some (.slice e)) (he : P.underlying e = some (.int .u8)) (hd : P.underlying dst = some .string) (hx : a.eval x = v) (h : SlT ByteE w v xs) : Runs P a o w (.string ⟨xs.toArray⟩) := by
  rcases h.sl with ⟨rfl, h0⟩ | ⟨b, cap, rfl, _⟩
  · obtain rfl := List.eq_nil_of_length_eq_zero h0
    simp [Runs, execOp, ho, hx, convert, run_underlying hs, run_underlying hd, run_underlying he, Conv.bytesToString]
    rfl
  · have hc : ∀ j u, (xs.map fun b => Value.int .u8 b.toNat)[j]? = some u → w.cell? (b.add j) = some u := fun j u hj => h.cell j u (by rw [byte_row]; exact hj)
    have hr := run_convert_bytes_back (P := P) w src dst e b cap xs hs he hd (fun j hj => hc j _ (by simp [List.getElem?_eq_getElem hj]))
    simp only [Runs, execOp, ho, hx]
    simp [hr]
end B
end Go.Proofs.YtdbchpoaoghgpaaGreatDoor

set_option linter.unusedSimpArgs false
set_option linter.unusedVariables false
namespace Go.Proofs.YtdbchpoaoghgpaaGreatDoor
namespace B
open Go.RowKit
section
variable {N : Foot} {P : Program} {ops : Array Oper} {sp : List (Spec N)} {In : Nat → Ini N} {a0 : Act} {w0 : World} {bf : List Nat} {j : Nat} {o : Oper} {s : Spec N}
theorem Ob.d {t : Nat} {v : Value} (h : ∀ {done a w τ}, Cx ops sp In a0 w0 bf j o done a w τ → Runs P a o w v) (hs : s = B.det N t v := by exact rfl) (hg : o.guard = none := by exact rfl) (hd : o.dst = some t := by exact rfl) : Ob ops sp In a0 w0 P bf j o s :=
  Ob.det hs hg hd fun _ _ _ _ c => h c
theorem Ob.c {t : Nat} {v : Value} (h : ∀ {done a w τ}, Cx ops sp In a0 w0 bf j o done a w τ → ∃ f args, Enters P a o w f args ∧ Calls P f args w (fun e w' => e = .returned v ∧ Ext none' w w')) (hs : s = B.det N t v := by exact rfl) (hg : o.guard = none := by exact rfl) (hd : o.dst = some t := by exact rfl) : Ob ops sp In a0 w0 P bf j o s :=
  Ob.call hs hg hd fun _ _ _ _ c => h c
theorem Ob.g {t tg : Nat} {b : Bool} {v : Value} (gi : Nat) (want : Bool) (hgs : sp[gi]? = some (B.det N tg (.bool b))) (h : ∀ {done a w τ}, Cx ops sp In a0 w0 bf j o done a w τ → b = want → Runs P a o w v)
    (hs : s = B.gdet N t (b = want) v := by exact rfl) (hg : o.guard = some (gi, want) := by exact rfl) (hd : o.dst = some t := by exact rfl) (hgd : ((ops[gi]?).bind (·.dst)) = some tg := by exact rfl) (hb : (bf.getD j 0).testBit gi = true := by exact rfl) : Ob ops sp In a0 w0 P bf j o s :=
  Ob.gdet hs hg hd hgd hgs hb Iff.rfl fun _ _ _ _ c => h c
theorem Ob.gg {t tg : Nat} {b : Bool} {pg : Prop} {v : Value} (gi : Nat) (want : Bool) (hgs : sp[gi]? = some (B.gdet N tg pg (.bool b))) (h : ∀ {done a w τ}, Cx ops sp In a0 w0 bf j o done a w τ → (pg ∧ b = want) → Runs P a o w v)
    (hs : s = B.gdet N t (pg ∧ b = want) v := by exact rfl) (hg : o.guard = some (gi, want) := by exact rfl) (hd : o.dst = some t := by exact rfl) (hgd : ((ops[gi]?).bind (·.dst)) = some tg := by exact rfl) (hb : (bf.getD j 0).testBit gi = true := by exact rfl) : Ob ops sp In a0 w0 P bf j o s :=
  Ob.ggdet hs hg hd hgd hgs hb Iff.rfl fun _ _ _ _ c => h c
theorem Ob.gc {t tg : Nat} {b : Bool} {v : Value} (gi : Nat) (want : Bool) (hgs : sp[gi]? = some (B.det N tg (.bool b))) (h : ∀ {done a w τ}, Cx ops sp In a0 w0 bf j o done a w τ → b = want → ∃ f args, Enters P a o w f args ∧ Calls P f args w (fun e w' => e = .returned v ∧ Ext none' w w'))
    (hs : s = B.gdet N t (b = want) v := by exact rfl) (hg : o.guard = some (gi, want) := by exact rfl) (hd : o.dst = some t := by exact rfl) (hgd : ((ops[gi]?).bind (·.dst)) = some tg := by exact rfl) (hb : (bf.getD j 0).testBit gi = true := by exact rfl) : Ob ops sp In a0 w0 P bf j o s :=
  Ob.gcall hs hg hd hgd hgs hb Iff.rfl fun _ _ _ _ c => h c
theorem Ob.ggc {t tg : Nat} {b : Bool} {pg : Prop} {v : Value} (gi : Nat) (want : Bool) (hgs : sp[gi]? = some (B.gdet N tg pg (.bool b))) (h : ∀ {done a w τ}, Cx ops sp In a0 w0 bf j o done a w τ → (pg ∧ b = want) → ∃ f args, Enters P a o w f args ∧ Calls P f args w (fun e w' => e = .returned v ∧ Ext none' w w'))
    (hs : s = B.gdet N t (pg ∧ b = want) v := by exact rfl) (hg : o.guard = some (gi, want) := by exact rfl) (hd : o.dst = some t := by exact rfl) (hgd : ((ops[gi]?).bind (·.dst)) = some tg := by exact rfl) (hb : (bf.getD j 0).testBit gi = true := by exact rfl) : Ob ops sp In a0 w0 P bf j o s :=
  Ob.ggcall hs hg hd hgd hgs hb Iff.rfl fun _ _ _ _ c => h c
theorem Ob.lv (gi : Nat) {tg : Nat} {want : Bool} (h : Ob ops sp In a0 w0 P bf j { o with guard := none } s) (hgs : sp[gi]? = some (B.det N tg (.bool want)) := by exact rfl) (hg : o.guard = some (gi, want) := by exact rfl) (hgd : ((ops[gi]?).bind (·.dst)) = some tg := by exact rfl) (hb : (bf.getD j 0).testBit gi = true := by exact rfl) : Ob ops sp In a0 w0 P bf j o s :=
  Ob.live hg hgd hgs hb h
theorem Ob.dd (gi : Nat) {tg t : Nat} {want b : Bool} (hs : s = unk N t := by exact rfl) (hg : o.guard = some (gi, want) := by exact rfl) (hgd : ((ops[gi]?).bind (·.dst)) = some tg := by exact rfl) (hgs : sp[gi]? = some (B.det N tg (.bool b)) := by exact rfl) (hb : (bf.getD j 0).testBit gi = true := by exact rfl) (hne : b ≠ want := by decide) : Ob ops sp In a0 w0 P bf j o s :=
  Ob.dead hs hg hgd hgs hb hne
end
section
variable {N : Foot} {P : Program} {ops : Array Oper} {sp : List (Spec N)} {In : Nat → Ini N} {a0 : Act} {w0 : World} {bf : List Nat} {j : Nat} {o : Oper} {done : Nat → Bool} {a : Act} {w : World} {τ : Nat → Foot}
theorem Cx.n (c : Cx ops sp In a0 w0 bf j o done a w τ) (i : Nat) {t : Nat} {val : Value} (hs : sp[i]? = some (B.det N t val)) (hb : (bf.getD j 0).testBit i = true := by exact rfl) : a.eval (.tmp t) = val := c.ev i hs hb
theorem Cx.m (c : Cx ops sp In a0 w0 bf j o done a w τ) (i : Nat) {t : Nat} {pc : Prop} {val : Value} (hs : sp[i]? = some (B.gdet N t pc val)) (hpc : pc) (hb : (bf.getD j 0).testBit i = true := by exact rfl) : a.eval (.tmp t) = val := c.eg i hs hb hpc
theorem Cx.p (c : Cx ops sp In a0 w0 bf j o done a w τ) {t : Nat} {val : Value} (h0 : get a0 t = val) (h : unB ops bf j t = true := by kernel_rfl) : a.eval (.tmp t) = val := c.eo h0 h
theorem Cx.ib {ty : Nat} {v : Value} {cells : List Value} (c : Cx ops sp In a0 w0 bf j o done a w τ) (t : Nat) (hI : In t = B.ibox ty N v cells) (hl : lastTag (sp.map (·.tag)) t j = none := by exact rfl) (hord : ordB (sp.map (·.tag)) bf t j = true := by kernel_rfl) : boxR ty cells (τ t) v w := c.ibox t hI hl hord
theorem Cx.io {α : Type} {E : Enc α} {ty : Nat} {v : Value} {xs : List α} (c : Cx ops sp In a0 w0 bf j o done a w τ) (t : Nat) (hI : In t = B.iown E ty N v xs) (hl : lastTag (sp.map (·.tag)) t j = none := by exact rfl) (hord : ordB (sp.map (·.tag)) bf t j = true := by kernel_rfl) : ownR E ty xs (τ t) v w := c.iown t hI hl hord
theorem Cx.rb {ty t slot : Nat} {cells : List Value} (c : Cx ops sp In a0 w0 bf j o done a w τ) (i : Nat) (hs : sp[i]? = some (B.box ty N t slot cells)) (hl : lastTag (sp.map (·.tag)) t j = some i := by exact rfl) (hord : ordB (sp.map (·.tag)) bf t j = true := by kernel_rfl) : boxR ty cells (τ t) (get a slot) w := c.rbox i hs hl hord
theorem Cx.ro {α : Type} {E : Enc α} {ty t slot : Nat} {xs : List α} (c : Cx ops sp In a0 w0 bf j o done a w τ) (i : Nat) (hs : sp[i]? = some (B.own E ty N t slot xs)) (hl : lastTag (sp.map (·.tag)) t j = some i := by exact rfl) (hord : ordB (sp.map (·.tag)) bf t j = true := by kernel_rfl) : ownR E ty xs (τ t) (get a slot) w := c.rown i hs hl hord
theorem Cx.rg {α : Type} {E : Enc α} {ty t slot : Nat} {pc : Prop} {xs : List α} (c : Cx ops sp In a0 w0 bf j o done a w τ) (i : Nat) (hs : sp[i]? = some (B.gown pc E ty N t slot xs)) (hp : pc) (hl : lastTag (sp.map (·.tag)) t j = some i := by exact rfl) (hord : ordB (sp.map (·.tag)) bf t j = true := by kernel_rfl) : ownR E ty xs (τ t) (get a slot) w := c.rgown i hs hl hord hp
/-- a slice of the call's own, by its place -/
theorem Cx.ip {α : Type} {E : Enc α} {ty slot : Nat} {v : Value} {xs : List α} (c : Cx ops sp In a0 w0 bf j o done a w τ) (t : Nat) (hI : In t = B.iown E ty N v xs) (e : get a0 slot = v) (hl : lastTag (sp.map (·.tag)) t j = none := by exact rfl) (hord : ordB (sp.map (·.tag)) bf t j = true := by kernel_rfl) (h : unB ops bf j slot = true := by kernel_rfl) : ownR E ty xs (τ t) (get a slot) w := by
  rw [show get a slot = v from c.old e h]; exact c.iown t hI hl hord
theorem Cx.bp {ty slot : Nat} {v : Value} {cells : List Value} (c : Cx ops sp In a0 w0 bf j o done a w τ) (t : Nat) (hI : In t = B.ibox ty N v cells) (e : get a0 slot = v) (hl : lastTag (sp.map (·.tag)) t j = none := by exact rfl) (hord : ordB (sp.map (·.tag)) bf t j = true := by kernel_rfl) (h : unB ops bf j slot = true := by kernel_rfl) : boxR ty cells (τ t) (get a slot) w := by
  rw [show get a slot = v from c.old e h]; exact c.ibox t hI hl hord
theorem Cx.sm {slot : Nat} {v : Value} {x : Operand} (c : Cx ops sp In a0 w0 bf j o done a w τ) (px : a.eval x = v) (e : get a0 slot = v) (h : unB ops bf j slot = true := by kernel_rfl) : a.eval x = get a slot := px.trans (c.old e h).symm
theorem Cx.ad {slot k : Nat} {v : Value} {x : Operand} {p : Addr} (c : Cx ops sp In a0 w0 bf j o done a w τ) (px : a.eval x = .pointer (some p)) (e : get a0 slot = v) (hp : p = (ptrOf v).add k) (h : unB ops bf j slot = true := by kernel_rfl) : a.eval x = .pointer (some ((ptrOf (get a slot)).add k)) := by
  rw [show get a slot = v from c.old e h, px, hp]
end
section
variable {N : Foot} {l : List Oper} {sp : List (Spec N)} {il : List (Ini N)} {a0 a : Act} {w : World} {τ : Nat → Foot}
def Alls (a : Act) : List (Nat × Value) → Prop
  | [] => True
  | p :: l => get a p.1 = p.2 ∧ Alls a l
theorem Fin.olds (h : Fin l sp il a0 a w τ) : ∀ (L : List (Nat × Value)) (_ : Alls a0 L) (_ : (L.all fun p => unAll l p.1) = true), Alls a L
  | [], _, _ => trivial
  | p :: L, hE, hu => by
    rw [List.all_cons, Bool.and_eq_true] at hu
    exact ⟨h.old hE.1 hu.1, h.olds L hE.2 hu.2⟩
theorem Fin.ks (h : Fin l sp il a0 a w τ) (L : List (Nat × Value)) (hE : Alls a0 L) (hu : (L.all fun p => unAll l p.1) = true := by kernel_rfl) : Alls a L := h.olds L hE hu
theorem Fin.ib (h : Fin l sp il a0 a w τ) {ty : Nat} {v : Value} {cells : List Value} (t : Nat) (hI : iniOf il t = B.ibox ty N v cells) (hl : lastTag (sp.map (·.tag)) t sp.length = none := by exact rfl) : boxR ty cells (τ t) v w := h.ibox t hI hl
theorem Fin.io (h : Fin l sp il a0 a w τ) {α : Type} {E : Enc α} {ty : Nat} {v : Value} {xs : List α} (t : Nat) (hI : iniOf il t = B.iown E ty N v xs) (hl : lastTag (sp.map (·.tag)) t sp.length = none := by exact rfl) : ownR E ty xs (τ t) v w := h.iown t hI hl
theorem Fin.rb (h : Fin l sp il a0 a w τ) {ty t slot : Nat} {cells : List Value} (j : Nat) {v : Value} (hv : get a slot = v) (hs : sp[j]? = some (B.box ty N t slot cells)) (hl : lastTag (sp.map (·.tag)) t sp.length = some j := by exact rfl) : boxR ty cells (τ t) v w := h.rbox j hs hl hv
theorem Fin.ro (h : Fin l sp il a0 a w τ) {α : Type} {E : Enc α} {ty t slot : Nat} {xs : List α} (j : Nat) {v : Value} (hv : get a slot = v) (hs : sp[j]? = some (B.own E ty N t slot xs)) (hl : lastTag (sp.map (·.tag)) t sp.length = some j := by exact rfl) : ownR E ty xs (τ t) v w := h.rown j hs hl hv
/-- what is known of the call's own memory, by what shows it -/
abbrev io {N : Foot} {α : Type} {E : Enc α} {ty : Nat} {xs : List α} {T : Foot} {v : Value} {w : World} (_ : ownR E ty xs T v w) : Ini N := iown E ty N v xs
abbrev ib {N : Foot} {ty : Nat} {cells : List Value} {T : Foot} {v : Value} {w : World} (_ : boxR ty cells T v w) : Ini N := ibox ty N v cells
end
theorem fill1 {a : Act} {f : Nat → Option (Nat × Nat)} {z cells : Array Value} {i0 : Nat} {x0 : Operand} {v0 : Value} (h0 : a.eval x0 = v0) (hf : Instr.fill f z [(i0, v0)] = some cells) : Instr.fill f z ((#[(i0, x0)]).map fun (i, x) => (i, a.eval x)).toList = some cells := by
  subst h0
  simp only [List.map_toArray, List.map_cons, List.map_nil]
  exact hf
theorem fill2 {a : Act} {f : Nat → Option (Nat × Nat)} {z cells : Array Value} {i0 i1 : Nat} {x0 x1 : Operand} {v0 v1 : Value} (h0 : a.eval x0 = v0) (h1 : a.eval x1 = v1) (hf : Instr.fill f z [(i0, v0), (i1, v1)] = some cells) : Instr.fill f z ((#[(i0, x0), (i1, x1)]).map fun (i, x) => (i, a.eval x)).toList = some cells := by
  subst h0 h1
  simp only [List.map_toArray, List.map_cons, List.map_nil]
  exact hf
theorem fill3 {a : Act} {f : Nat → Option (Nat × Nat)} {z cells : Array Value} {i0 i1 i2 : Nat} {x0 x1 x2 : Operand} {v0 v1 v2 : Value} (h0 : a.eval x0 = v0) (h1 : a.eval x1 = v1) (h2 : a.eval x2 = v2) (hf : Instr.fill f z [(i0, v0), (i1, v1), (i2, v2)] = some cells) : Instr.fill f z ((#[(i0, x0), (i1, x1), (i2, x2)]).map fun (i, x) => (i, a.eval x)).toList = some cells := by
  subst h0 h1 h2
  simp only [List.map_toArray, List.map_cons, List.map_nil]
  exact hf
theorem fill4 {a : Act} {f : Nat → Option (Nat × Nat)} {z cells : Array Value} {i0 i1 i2 i3 : Nat} {x0 x1 x2 x3 : Operand} {v0 v1 v2 v3 : Value} (h0 : a.eval x0 = v0) (h1 : a.eval x1 = v1) (h2 : a.eval x2 = v2) (h3 : a.eval x3 = v3) (hf : Instr.fill f z [(i0, v0), (i1, v1), (i2, v2), (i3, v3)] = some cells) : Instr.fill f z ((#[(i0, x0), (i1, x1), (i2, x2), (i3, x3)]).map fun (i, x) => (i, a.eval x)).toList = some cells := by
  subst h0 h1 h2 h3
  simp only [List.map_toArray, List.map_cons, List.map_nil]
  exact hf
theorem fill5 {a : Act} {f : Nat → Option (Nat × Nat)} {z cells : Array Value} {i0 i1 i2 i3 i4 : Nat} {x0 x1 x2 x3 x4 : Operand} {v0 v1 v2 v3 v4 : Value} (h0 : a.eval x0 = v0) (h1 : a.eval x1 = v1) (h2 : a.eval x2 = v2) (h3 : a.eval x3 = v3) (h4 : a.eval x4 = v4) (hf : Instr.fill f z [(i0, v0), (i1, v1), (i2, v2), (i3, v3), (i4, v4)] = some cells) : Instr.fill f z ((#[(i0, x0), (i1, x1), (i2, x2), (i3, x3), (i4, x4)]).map fun (i, x) => (i, a.eval x)).toList = some cells := by
  subst h0 h1 h2 h3 h4
  simp only [List.map_toArray, List.map_cons, List.map_nil]
  exact hf
theorem fill6 {a : Act} {f : Nat → Option (Nat × Nat)} {z cells : Array Value} {i0 i1 i2 i3 i4 i5 : Nat} {x0 x1 x2 x3 x4 x5 : Operand} {v0 v1 v2 v3 v4 v5 : Value} (h0 : a.eval x0 = v0) (h1 : a.eval x1 = v1) (h2 : a.eval x2 = v2) (h3 : a.eval x3 = v3) (h4 : a.eval x4 = v4) (h5 : a.eval x5 = v5) (hf : Instr.fill f z [(i0, v0), (i1, v1), (i2, v2), (i3, v3), (i4, v4), (i5, v5)] = some cells) : Instr.fill f z ((#[(i0, x0), (i1, x1), (i2, x2), (i3, x3), (i4, x4), (i5, x5)]).map fun (i, x) => (i, a.eval x)).toList = some cells := by
  subst h0 h1 h2 h3 h4 h5
  simp only [List.map_toArray, List.map_cons, List.map_nil]
  exact hf
theorem fill7 {a : Act} {f : Nat → Option (Nat × Nat)} {z cells : Array Value} {i0 i1 i2 i3 i4 i5 i6 : Nat} {x0 x1 x2 x3 x4 x5 x6 : Operand} {v0 v1 v2 v3 v4 v5 v6 : Value} (h0 : a.eval x0 = v0) (h1 : a.eval x1 = v1) (h2 : a.eval x2 = v2) (h3 : a.eval x3 = v3) (h4 : a.eval x4 = v4) (h5 : a.eval x5 = v5) (h6 : a.eval x6 = v6) (hf : Instr.fill f z [(i0, v0), (i1, v1), (i2, v2), (i3, v3), (i4, v4), (i5, v5), (i6, v6)] = some cells) : Instr.fill f z ((#[(i0, x0), (i1, x1), (i2, x2), (i3, x3), (i4, x4), (i5, x5), (i6, x6)]).map fun (i, x) => (i, a.eval x)).toList = some cells := by
  subst h0 h1 h2 h3 h4 h5 h6
  simp only [List.map_toArray, List.map_cons, List.map_nil]
  exact hf
theorem fill8 {a : Act} {f : Nat → Option (Nat × Nat)} {z cells : Array Value} {i0 i1 i2 i3 i4 i5 i6 i7 : Nat} {x0 x1 x2 x3 x4 x5 x6 x7 : Operand} {v0 v1 v2 v3 v4 v5 v6 v7 : Value} (h0 : a.eval x0 = v0) (h1 : a.eval x1 = v1) (h2 : a.eval x2 = v2) (h3 : a.eval x3 = v3) (h4 : a.eval x4 = v4) (h5 : a.eval x5 = v5) (h6 : a.eval x6 = v6) (h7 : a.eval x7 = v7) (hf : Instr.fill f z [(i0, v0), (i1, v1), (i2, v2), (i3, v3), (i4, v4), (i5, v5), (i6, v6), (i7, v7)] = some cells) : Instr.fill f z ((#[(i0, x0), (i1, x1), (i2, x2), (i3, x3), (i4, x4), (i5, x5), (i6, x6), (i7, x7)]).map fun (i, x) => (i, a.eval x)).toList = some cells := by
  subst h0 h1 h2 h3 h4 h5 h6 h7
  simp only [List.map_toArray, List.map_cons, List.map_nil]
  exact hf
theorem fill9 {a : Act} {f : Nat → Option (Nat × Nat)} {z cells : Array Value} {i0 i1 i2 i3 i4 i5 i6 i7 i8 : Nat} {x0 x1 x2 x3 x4 x5 x6 x7 x8 : Operand} {v0 v1 v2 v3 v4 v5 v6 v7 v8 : Value} (h0 : a.eval x0 = v0) (h1 : a.eval x1 = v1) (h2 : a.eval x2 = v2) (h3 : a.eval x3 = v3) (h4 : a.eval x4 = v4) (h5 : a.eval x5 = v5) (h6 : a.eval x6 = v6) (h7 : a.eval x7 = v7) (h8 : a.eval x8 = v8) (hf : Instr.fill f z [(i0, v0), (i1, v1), (i2, v2), (i3, v3), (i4, v4), (i5, v5), (i6, v6), (i7, v7), (i8, v8)] = some cells) : Instr.fill f z ((#[(i0, x0), (i1, x1), (i2, x2), (i3, x3), (i4, x4), (i5, x5), (i6, x6), (i7, x7), (i8, x8)]).map fun (i, x) => (i, a.eval x)).toList = some cells := by
  subst h0 h1 h2 h3 h4 h5 h6 h7 h8
  simp only [List.map_toArray, List.map_cons, List.map_nil]
  exact hf
theorem bt {p : Prop} [Decidable p] (h : decide p = true) : p := of_decide_eq_true h
theorem bl {p q : Int} (h : decide (p < q) = false) : q ≤ p := by simpa using h
theorem be {p q : Int} (h : decide (p ≤ q) = false) : q < p := by simpa using h
theorem bn {p : Prop} [Decidable p] (h : decide p = false) : ¬ p := of_decide_eq_false h
theorem nt {p : Prop} [Decidable p] (h : (!decide p) = true) : ¬ p := by simpa using h
theorem nf {p : Prop} [Decidable p] (h : (!decide p) = false) : p := by simpa using h
end B
end Go.Proofs.YtdbchpoaoghgpaaGreatDoor
