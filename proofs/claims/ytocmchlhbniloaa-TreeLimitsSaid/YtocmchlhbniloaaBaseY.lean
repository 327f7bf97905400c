/-
  Bytes made from a string, and turned one by one; max of strings. Over any program.
-/
import Derived.Test.YtocmchlhbniloaaBaseS
set_option linter.unusedSimpArgs false
set_option linter.unusedVariables false
namespace Go.Proofs.Ytocmchlhbniloaa
namespace B
open Go.RowKit
/-- v is a row of bytes of the call's own, as a conversion of a string makes it -/
def YT (e : Nat) (w : World) (v : Value) (xs : List UInt8) : Prop := ∃ g cap cur k, v = .slice (some ⟨g, 0, none⟩) xs.length cap ∧ w.heap[g]? = some (.cells cur e (k, k + 1)) ∧ xs.length ≤ cap ∧ cap ≤ maxLen ∧ cap ≤ k ∧ cap ≤ cur.size ∧ cur.toList.take xs.length = ByteE.row xs
theorem YT.sl {e : Nat} {w : World} {v : Value} {xs : List UInt8} (h : YT e w v xs) : SlT ByteE w v xs := by
  obtain ⟨g, cap, cur, k, rfl, hg, h1, h2, h3, h4, h5⟩ := h
  refine ⟨.inr ⟨_, cap, rfl, h1, h2⟩, fun j u hj => ?_⟩
  have hlt : j < xs.length := by
    have := (List.getElem?_eq_some_iff.1 hj).1
    rw [ByteE.row_length] at this
    simpa [ByteE] using this
  rw [← h5, List.getElem?_take_of_lt hlt] at hj
  simp only [ptrOf, addr_at]
  simp [World.cell?, hg]
  simpa using hj
theorem YT.keep {e : Nat} {M : Nat → Prop} {w w' : World} {v : Value} {xs : List UInt8} (h : YT e w v xs) (he : Ext M w w') (hm : ∀ g, v.ownBlock = some g → ¬ M g) : YT e w' v xs := by
  obtain ⟨g, cap, cur, k, rfl, hg, r⟩ := h
  exact ⟨g, cap, cur, k, rfl, by rw [he.block g (Array.getElem?_eq_some_iff.1 hg).1 (hm g rfl)]; exact hg, r⟩
def bytR (e : Nat) (xs : List UInt8) (T : Foot) (v : Value) (w : World) : Prop := YT e w v xs ∧ ∀ g, v.ownBlock = some g → T g
theorem bytR_loc {N : Foot} {e : Nat} {xs : List UInt8} (T : Foot) (v : Value) (w w' : World) (h : Ext (fun g => N g ∧ ¬ T g) w w') (hr : bytR e xs T v w) : bytR e xs T v w' :=
  ⟨hr.1.keep h fun g hg hn => hn.2 (hr.2 g hg), hr.2⟩
def byt (e : Nat) (N : Foot) (tag t : Nat) (xs : List UInt8) : Spec N := ⟨some tag, t, fun _ => bytR e xs, fun _ _ T v w w' _ h hr => bytR_loc T v w w' h.less hr, fun _ => True, fun _ _ _ _ _ => trivial⟩
def ibyt (e : Nat) (N : Foot) (v : Value) (xs : List UInt8) : Ini N := ⟨fun _ T w => bytR e xs T v w, fun _ _ T w w' _ h => bytR_loc T v w w' h.less⟩
theorem bytR.isSl {e : Nat} {xs : List UInt8} {T : Foot} {v : Value} {w : World} (h : bytR e xs T v w) : IsSl v xs.length := h.1.sl.sl
theorem bytR.cast {e : Nat} {xs ys : List UInt8} {T : Foot} {v : Value} {w : World} (h : bytR e xs T v w) (q : ys = xs) : bytR e ys T v w := q ▸ h
theorem bytR.le {e : Nat} {xs : List UInt8} {T : Foot} {v : Value} {w : World} (h : bytR e xs T v w) : xs.length ≤ 9223372036854775807 := h.1.sl.sl.le
section
variable {N : Foot} {P : Program} {ops : Array Oper} {sp : List (Spec N)} {In : Nat → Ini N} {a0 : Act} {w0 : World} {bf : List Nat} {j : Nat} {o : Oper} {s : Spec N}
/-- a string's bytes -/
theorem Ob.toBytes {src dst e : TypeId} {tag t : Nat} {x : Operand} {u : ByteArray} (hs : s = byt e N tag t u.data.toList) (hg : o.guard = none) (hd : o.dst = some t) (ho : o.op = .convert src dst x)
    (hsrc : P.underlying src = some .string) (hdst : P.underlying dst = some (.slice e)) (he : P.underlying e = some (.int .u8)) (hle : u.size ≤ 140737488355328)
    (h : ∀ {done a w τ}, Cx ops sp In a0 w0 bf j o done a w τ → a.eval x = .string u) : Ob ops sp In a0 w0 P bf j o s := by
  subst hs
  refine Ob.tagged hg rfl fun done a w τ c => ?_
  have hr : (execOp a.eval o).run P w = .ok (.value (.slice (some ⟨w.heap.size, 0, none⟩) u.size (grownCap w u.size 0 e))) (Lib.bytesWorld w e u) := by
    have := Lib.run_convert_string_bytes (P := P) w src dst e u hsrc hdst he
    simp only [execOp, ho, h c, Sem.run_bind, this, Result.andThen_ok]
    rfl
  have hge := grownCap_ge w u.size 0 e
  have hcm : grownCap w u.size 0 e ≤ maxLen := grownCap_le_maxLen w _ 0 e (by simp only [maxLen]; omega)
  have hl : u.data.toList.length = u.size := by simp
  have hcs : (Lib.bytesCells w e u).size = grownCap w u.size 0 e := by
    simp only [Lib.bytesCells, Array.size_append, Array.size_map, Array.size_replicate]
    have : u.data.size = u.size := rfl
    omega
  refine wp_of_run hr ⟨_, rfl, ⟨rfl, rfl, rfl, by rw [Lib.bytesWorld_size]; omega, fun k hk _ => Lib.bytesWorld_at_old w e u k hk⟩, fun g => g = w.heap.size, fun g hg => .inr (by subst hg; rw [Lib.bytesWorld_size]; omega), ?_⟩
  show bytR e u.data.toList _ (get (a.put o.dst _) t) _
  rw [hd, get_put a t t _ (c.lt t hd), if_pos rfl]
  refine ⟨⟨w.heap.size, _, _, _, by rw [hl], Lib.bytesWorld_at_new w e u, by rw [hl]; exact hge, hcm, by rw [hcs]; omega, by rw [hcs]; omega, ?_⟩, fun g h => ?_⟩
  · rw [hl, byte_row, Lib.bytesCells, Array.toList_append, Array.toList_map, List.take_append_of_le_length (by simp), List.take_of_length_le (by simp)]
  · simp only [Value.ownBlock, Option.some.injEq] at h; exact h.symm
theorem run_storeY {P : Program} {w : World} {e tt : Nat} {v : Value} {xs : List UInt8} {i : Nat} {n : Int} (h : YT e w v xs) (hi : i < xs.length) (hsz : ∀ w, (sizeOf tt).run P w = .ok 1 w) (h0 : 0 ≤ n) (h1 : n ≤ 255) :
    ∃ w', (Instr.storeAt tt (.pointer (some ((ptrOf v).add (i * 1)))) (.int .u8 n)).run P w = .ok () w' ∧ YT e w' v (xs.set i (UInt8.ofNat n.toNat)) ∧ Ext (fun k => v.ownBlock = some k) w w' := by
  obtain ⟨g, cap, cur, k, rfl, hg, h2, h3, h4, h5, h6⟩ := h
  have hi' : i < cur.size := by omega
  have hcell : w.cell? ⟨g, i, none⟩ = some cur[i] := by simp [World.cell?, hg, hi']
  have hfro : w.frozen? ⟨g, i, none⟩ = false := by
    simp only [World.frozen?, hg, Bool.and_eq_false_iff, decide_eq_false_iff_not]
    left; omega
  have hst : (store ⟨g, i, none⟩ (.int .u8 n)).run P w = .ok () (w.setRow g (cur.setIfInBounds i (.int .u8 n))) := by
    rw [Go.run_store P w _ (.int .u8 n) _ rfl, hcell]
    simp [hfro, setCell_eq_setRow w g i cur e (k, k + 1) (.int .u8 n) hg]
  have hr : (Instr.storeAt tt (.pointer (some ⟨g, i, none⟩)) (.int .u8 n)).run P w = .ok () (w.setRow g (cur.setIfInBounds i (.int .u8 n))) := by
    have hc : (Value.int IntKind.u8 n).cells = #[.int .u8 n] := rfl
    have ha : ((⟨g, i, none⟩ : Addr).add 0) = ⟨g, i, none⟩ := rfl
    simp only [Instr.storeAt, Instr.sureAddr, Sem.run_bind, Sem.run_pure, Result.andThen_ok, storeVar, hsz, hc]
    simp [storeCells, ha, hst]
  refine ⟨_, by simp only [ptrOf, addr_at, Nat.mul_one]; exact hr, ⟨g, cap, cur.setIfInBounds i (.int .u8 n), k, by rw [List.length_set], setRow_heap w g cur _ e _ hg, by rw [List.length_set]; exact h2, h3, h4, by simpa using h5, ?_⟩, (setRow_ext w g _).mono fun k _ h => by rw [h]; rfl⟩
  rw [List.length_set, Array.toList_setIfInBounds, List.take_set, h6, byte_row, byte_row, List.map_set]
  congr 2
  have e1 : (UInt8.ofNat n.toNat).toNat = n.toNat := by
    rw [UInt8.toNat_ofNat']
    exact Nat.mod_eq_of_lt (by omega)
  rw [e1]; omega
/-- a byte is turned -/
theorem Ob.storeY {e tag t tt i : Nat} {xs : List UInt8} {p q : Operand} {n : Int} (hs : s = byt e N tag t (xs.set i (UInt8.ofNat n.toNat))) (hg : o.guard = none) (hd : o.dst = none) (ho : o.op = .store tt p q) (hsz : ∀ w, (sizeOf tt).run P w = .ok 1 w)
    (hi : i < xs.length) (h0 : 0 ≤ n) (h1 : n ≤ 255)
    (hp : ∀ {done a w τ}, Cx ops sp In a0 w0 bf j o done a w τ → bytR e xs (τ tag) (get a t) w ∧ a.eval p = .pointer (some ((ptrOf (get a t)).add (i * 1))) ∧ a.eval q = .int .u8 n) : Ob ops sp In a0 w0 P bf j o s := by
  subst hs
  refine Ob.tagged hg rfl fun done a w τ c => ?_
  obtain ⟨⟨hown, hT⟩, hp', hq⟩ := hp c
  obtain ⟨w', hr, h2, h3⟩ := run_storeY (P := P) (tt := tt) hown hi hsz h0 h1
  have hr' : (execOp a.eval o).run P w = .ok .skip w' := by
    simp only [execOp, ho, hp', hq, Sem.run_bind, hr, Result.andThen_ok]
    rfl
  refine wp_of_skip hr' ⟨undef, rfl, h3.mono (fun k _ h => hT k h), τ tag, fun g h => .inl h, ?_⟩
  show bytR e (xs.set i _) _ (get (a.put o.dst _) t) _
  rw [hd, get_put_none]
  exact ⟨h2, hT⟩
end
section
variable {N : Foot} {P : Program} {ops : Array Oper} {sp : List (Spec N)} {In : Nat → Ini N} {a0 : Act} {w0 : World} {bf : List Nat} {j : Nat} {o : Oper} {done : Nat → Bool} {a : Act} {w : World} {τ : Nat → Foot}
theorem Cx.iy {e : Nat} {v : Value} {xs : List UInt8} (c : Cx ops sp In a0 w0 bf j o done a w τ) (t : Nat) (hI : In t = ibyt e N v xs) (hl : lastTag (sp.map (·.tag)) t j = none := by exact rfl) (hord : ordB (sp.map (·.tag)) bf t j = true := by kernel_rfl) : bytR e xs (τ t) v w := c.ini t _ hI hl hord
theorem Cx.ry {e t slot : Nat} {xs : List UInt8} (c : Cx ops sp In a0 w0 bf j o done a w τ) (i : Nat) (hs : sp[i]? = some (byt e N t slot xs)) (hl : lastTag (sp.map (·.tag)) t j = some i := by exact rfl) (hord : ordB (sp.map (·.tag)) bf t j = true := by kernel_rfl) : bytR e xs (τ t) (get a slot) w := c.res i t _ hs hl hord
theorem Cx.yp {e slot : Nat} {v : Value} {xs : List UInt8} (c : Cx ops sp In a0 w0 bf j o done a w τ) (t : Nat) (hI : In t = ibyt e N v xs) (q : get a0 slot = v) (hl : lastTag (sp.map (·.tag)) t j = none := by exact rfl) (hord : ordB (sp.map (·.tag)) bf t j = true := by kernel_rfl) (h : unB ops bf j slot = true := by kernel_rfl) : bytR e xs (τ t) (get a slot) w := by
  rw [show get a slot = v from c.old q h]; exact c.iy t hI hl hord
end
section
variable {N : Foot} {l : List Oper} {sp : List (Spec N)} {il : List (Ini N)} {a0 a : Act} {w : World} {τ : Nat → Foot}
theorem Fin.iy (h : Fin l sp il a0 a w τ) {e : Nat} {v : Value} {xs : List UInt8} (t : Nat) (hI : iniOf il t = ibyt e N v xs) (hl : lastTag (sp.map (·.tag)) t sp.length = none := by exact rfl) : bytR e xs (τ t) v w := by
  have := h.ini t hl
  rw [hI] at this
  exact this
theorem Fin.ry (h : Fin l sp il a0 a w τ) {e t slot : Nat} {xs : List UInt8} (j : Nat) {v : Value} (hv : get a slot = v) (hs : sp[j]? = some (byt e N t slot xs)) (hl : lastTag (sp.map (·.tag)) t sp.length = some j := by exact rfl) : bytR e xs (τ t) v w := hv ▸ h.res j t _ hs rfl hl
abbrev iy {N : Foot} {e : Nat} {xs : List UInt8} {T : Foot} {v : Value} {w : World} (_ : bytR e xs T v w) : Ini N := ibyt e N v xs
end
section
variable {P : Program} {a : Act} {o : Oper} {w : World} {x y : Operand} {t t' : TypeId} {s u : ByteArray}
/-- max of two strings -/
def maxT (x y : ByteArray) : ByteArray := if ltT x y = true then y else x
theorem r_smax (hc : o.op = .call { callee := .builtin .max, args := #[x, y], argTypes := #[t, t'] }) (hx : a.eval x = .string s) (hy : a.eval y = .string u) : Runs P a o w (.string (maxT s u)) := by
  have h : (Builtin.max_ #[t, t'] o.type #[.string s, .string u]).run P w = .ok (.string (maxT s u)) w := by
    cases hb : Op.bytesLess s.toList u.toList <;> simp [Builtin.max_, Builtin.max2, Op.stringOp, asBool, maxT, ltT, hb]
  simp only [Runs, execOp, hc, resolve, invoke, builtin, Sem.run_bind, Sem.run_pure, Result.andThen_ok, List.map_toArray, List.map_cons, List.map_nil, hx, hy, h]
end
end B
end Go.Proofs.Ytocmchlhbniloaa
