/-
  Stores into the call's own slices; calls that turn what they are handed. Over any program.
-/
import Derived.Test.YtbhdplicjiejnaaGreatDoorBase5
namespace Go.Proofs.YtbhdplicjiejnaaGreatDoor
namespace B
open Go.RowKit

def splice (l : List Value) (o : Nat) (vs : List Value) : List Value := l.take o ++ vs ++ l.drop (o + vs.length)
theorem splice_head {l r vs : List Value} {o : Nat} (h : o + vs.length ≤ l.length) : splice (l ++ r) o vs = splice l o vs ++ r := by
  unfold splice
  rw [List.take_append_of_le_length (by omega), List.drop_append_of_le_length (by omega)]
  simp
theorem splice_tail {l r vs : List Value} {o : Nat} : splice (l ++ r) (l.length + o) vs = l ++ splice r o vs := by
  unfold splice
  rw [List.take_append, List.drop_append]
  rw [List.take_of_length_le (by omega), List.drop_of_length_le (by omega), show l.length + o - l.length = o by omega, show l.length + o + vs.length - l.length = o + vs.length by omega]
  simp
theorem Enc.row_set {α : Type} (E : Enc α) {xs : List α} {i off : Nat} {x x' : α} {vs : List Value} (hx : xs[i]? = some x) (hl : off + vs.length ≤ E.sz) (hc : E.cells x' = splice (E.cells x) off vs) : splice (E.row xs) (i * E.sz + off) vs = E.row (xs.set i x') := by
  induction xs generalizing i with
  | nil => simp at hx
  | cons y ys ih =>
    have e : E.row (y :: ys) = E.cells y ++ E.row ys := by simp [Enc.row]
    cases i with
    | zero =>
      simp at hx; subst hx
      rw [e, show 0 * E.sz + off = off by omega, splice_head (by rw [E.len]; exact hl), ← hc]
      simp [Enc.row]
    | succ i =>
      rw [e, show (i + 1) * E.sz + off = (E.cells y).length + (i * E.sz + off) by rw [E.len, Nat.add_mul]; omega, splice_tail, ih (by simpa using hx)]
      simp [Enc.row]
theorem splice_take {l vs : List Value} {o n : Nat} (h : o + vs.length ≤ n) (hn : n ≤ l.length) : (splice l o vs).take n = splice (l.take n) o vs := by
  have e : l = l.take n ++ l.drop n := (List.take_append_drop n l).symm
  have hl : (l.take n).length = n := by simp; omega
  conv => lhs; rw [e]
  rw [splice_head (by omega)]
  have h2 : (splice (l.take n) o vs).length = n := by simp [splice]; omega
  rw [List.take_append_of_le_length (by omega), List.take_of_length_le (by omega)]

section
variable {α : Type} {E : Enc α} {ty : Nat} {P : Program} {w : World}
theorem run_storeElem {v u : Value} {xs : List α} {i off tt : Nat} {x x' : α} (h : OwnT E ty w v xs) (hx : xs[i]? = some x) (hsz : ∀ w, (sizeOf tt).run P w = .ok u.cells.size w) (hl : off + u.cells.size ≤ E.sz) (h1 : ∀ c ∈ u.cells.toList, c.oneCell' = true)
    (hc : E.cells x' = splice (E.cells x) off u.cells.toList) :
    ∃ w', (Instr.storeAt tt (.pointer (some ((ptrOf v).add (i * E.sz + off)))) u).run P w = .ok () w' ∧ OwnT E ty w' v (xs.set i x') ∧ Ext (fun k => v.ownBlock = some k) w w' := by
  have hi : i < xs.length := (List.getElem?_eq_some_iff.1 hx).1
  rcases h.2 with ⟨rfl, h0⟩ | ⟨g, cap, cur, rfl, hb, hg, h2, h3, h4, h5⟩
  · omega
  · have hmul : (i + 1) * E.sz ≤ xs.length * E.sz := Nat.mul_le_mul_right _ hi
    have hmul2 : xs.length * E.sz ≤ cap * E.sz := Nat.mul_le_mul_right _ h2
    rw [Nat.add_mul] at hmul
    have hfit : i * E.sz + off + u.cells.size ≤ cur.size := by omega
    have hr := run_store (P := P) (t := tt) (off := i * E.sz + off) hg hsz hfit h1
    refine ⟨_, by simp only [ptrOf, addr_at]; exact hr, ⟨by rw [E.row_length, List.length_set], .inr ⟨g, cap, _, by rw [List.length_set], hb, setRow_heap w g cur _ ty _ hg, by rw [List.length_set]; exact h2, h3, ?_, ?_⟩⟩, ?_⟩
    · simp only [List.size_toArray, List.length_append, List.length_take, List.length_drop, Array.length_toList]
      omega
    · rw [List.length_set, ← E.row_set hx (by simpa using hl) hc, ← h5]
      have := splice_take (l := cur.toList) (vs := u.cells.toList) (o := i * E.sz + off) (n := xs.length * E.sz) (by simp; omega) (by simp; omega)
      rw [← this]
      simp [splice]
    · exact (setRow_ext w g _).mono fun k _ h => by rw [h]; rfl
end

section obs
variable {N : Foot} {P : Program} {ops : Array Oper} {sp : List (Spec N)} {In : Nat → Ini N} {a0 : Act} {w0 : World} {bf : List Nat} {j : Nat} {o : Oper} {s : Spec N}
/-- a store into an element (or a part of it) of a slice of the call's own -/
theorem Ob.storeElem {α : Type} {E : Enc α} {ty tag t tt i off : Nat} {xs : List α} {x x' : α} {p q : Operand} {u : Value} (hs : s = own E ty N tag t (xs.set i x')) (hg : o.guard = none) (hd : o.dst = none) (ho : o.op = .store tt p q) (hsz : ∀ w, (sizeOf tt).run P w = .ok u.cells.size w)
    (hx : xs[i]? = some x) (hl : off + u.cells.size ≤ E.sz) (h1 : ∀ c ∈ u.cells.toList, c.oneCell' = true) (hc : E.cells x' = splice (E.cells x) off u.cells.toList)
    (hp : ∀ done a w τ, Cx ops sp In a0 w0 bf j o done a w τ → ownR E ty xs (τ tag) (get a t) w ∧ a.eval p = .pointer (some ((ptrOf (get a t)).add (i * E.sz + off))) ∧ a.eval q = u) : Ob ops sp In a0 w0 P bf j o s := by
  subst hs
  refine Ob.tagged hg rfl fun done a w τ c => ?_
  obtain ⟨⟨hown, hT⟩, hp', hq⟩ := hp done a w τ c
  obtain ⟨w', hr, h2, h3⟩ := run_storeElem (P := P) (tt := tt) hown hx hsz hl h1 hc
  have hr' : (execOp a.eval o).run P w = .ok .skip w' := by
    simp only [execOp, ho, hp', hq, Sem.run_bind, hr, Result.andThen_ok]
    rfl
  refine wp_of_skip hr' ⟨undef, rfl, h3.mono (fun k _ h => hT k h), τ tag, fun g h => .inl h, ?_⟩
  show ownR E ty (xs.set i x') _ (get (a.put o.dst _) t) _
  rw [hd, get_put_none]
  exact ⟨h2, hT⟩
/-- a call that turns a slice of the call's own in place -/
theorem Ob.callIn {α : Type} {E : Enc α} {ty tag t d : Nat} {xs xs' : List α} {v r : Value} (hs : s = own E ty N tag t xs') (hg : o.guard = none) (hd : o.dst = some d) (hne : t ≠ d)
    (h : ∀ done a w τ, Cx ops sp In a0 w0 bf j o done a w τ → ∃ f args, Enters P a o w f args ∧ get a t = v ∧ ownR E ty xs (τ tag) v w ∧ (OwnT E ty w v xs → Calls P f args w (fun e w' => e = .returned r ∧ OwnT E ty w' v xs' ∧ Ext (fun k => v.ownBlock = some k) w w'))) : Ob ops sp In a0 w0 P bf j o s := by
  subst hs
  refine Ob.callT (tag := tag) hg rfl fun done a w τ c => ?_
  obtain ⟨f, args, h1, h2, h3, h4⟩ := h done a w τ c
  refine ⟨f, args, h1, (h4 h3.1).mono fun e w' ⟨he, ho, hx⟩ => ⟨r, he, hx.mono (fun k _ hk => h3.2 k hk), τ tag, fun g h => .inl h, ?_⟩⟩
  show ownR E ty xs' _ (get (a.put o.dst r) t) w'
  rw [hd, get_put a d t r (c.lt d hd), if_neg hne, h2]
  exact ⟨ho, h3.2⟩
end obs
theorem then_ret {K : Act → World → Prop} {Q : Exit → Act → World → Prop} {a : Act} {w : World} (h : Q .ret a w) : Exit.then K Q .ret a w := h
theorem block_ret {id : Nat} {Q : Exit → Act → World → Prop} {a : Act} {w : World} (h : Q .ret a w) : Exit.inBlock id Q .ret a w := h
theorem then_exit {id : Nat} {K : Act → World → Prop} {Q : Exit → Act → World → Prop} {a : Act} {w : World} (h : Q (.exit id) a w) : Exit.then K Q (.exit id) a w := h
/-- what a call that turns v alone has turned -/
theorem St.extIn {n : Nat} {T : Foot} {W : World} {a : Act} {w : World} {τ : Nat → Foot} (h : St (fun k => T k ∨ W.heap.size ≤ k) W n a w τ) : Ext T W w :=
  h.ext.mono fun k hk hn => hn.resolve_right (by omega)
theorem end0r {P : Program} {fn : Func} {R : Ending → World → Prop} {a : Act} {w : World} (hr : fn.results = #[]) (hd : a.defers = []) (h : R (.returned (.tuple #[])) w) : bodyPost P fn R .ret a w :=
  bodyPost_ret (v := .tuple #[]) (results_none hr _ _ _) hd h
theorem eval_trans {a : Act} {t : Nat} {v v' : Value} (h : get a t = v) (e : v = v') : a.eval (.tmp t) = v' := h.trans e
end B
end Go.Proofs.YtbhdplicjiejnaaGreatDoor
