/-
  Operations that make or turn memory of the call's own, and calls, inside a region; a function's state between its regions. Over any program.
-/
import Derived.Test.YtbhdplicjiejnaaGreatDoorBase3
namespace Go.Proofs.YtbhdplicjiejnaaGreatDoor
namespace B
open Go.RowKit

section run
variable {P : Program} {w : World} {α : Type} {E : Enc α}

theorem setRow_ext (w : World) (g : Nat) (cs : Array Value) : Ext (fun k => k = g) w (w.setRow g cs) :=
  ⟨rfl, rfl, rfl, by simp [World.setRow], fun k _ h => setRow_other w g k cs h⟩

/-- append to a slice of the call's own: where the array is behind it -/
theorem run_append (t ty e : TypeId) (i : TypeInfo) (z : Value) (ht : P.underlying t = some (.slice e)) (hi : P.info? e = some i) (hz : i.zero = some z) (hsize : i.size = E.sz) (hzs : z.cells.size = E.sz)
    {v u : Value} {xs ys : List α} (hown : OwnT E e w v xs) (hu : SlT E w u ys) (h63 : xs.length + ys.length ≤ maxLen) (hby : (xs.length + ys.length) * i.bytes ≤ 140737488355328) :
    ∃ v' w', (Builtin.append_ #[t, t] ty #[v, u]).run P w = .ok v' w' ∧ OwnT E e w' v' (xs ++ ys) ∧ Ext (fun k => v.ownBlock = some k) w w' ∧ (∀ g, v'.ownBlock = some g → v.ownBlock = some g ∨ (w.heap.size ≤ g ∧ g < w'.heap.size)) := by
  have hy1 : ∀ x ∈ E.row ys, x.oneCell' = true := E.row_one
  have hyl : (E.row ys).length = ys.length * i.size := by rw [E.row_length, hsize]
  have hpos := E.pos
  simp only [maxLen] at h63
  have hrow : E.row xs ++ E.row ys = E.row (xs ++ ys) := (E.row_append xs ys).symm
  have newb : ∀ (old : Nat), OwnT E e (w.drew.alloc (.cells ((E.row xs).toArray ++ (E.row ys).toArray ++ Builtin.zeroCells z.cells (grownCap w (xs.length + ys.length) old e - (xs.length + ys.length))) e))
      (.slice (some ⟨w.heap.size, 0, none⟩) (xs.length + ys.length) (grownCap w (xs.length + ys.length) old e)) (xs ++ ys) := by
    intro old
    have hge := grownCap_ge w (xs.length + ys.length) old e
    have hcm : grownCap w (xs.length + ys.length) old e ≤ maxLen := grownCap_le_maxLen w _ old e (by simp only [maxLen]; omega)
    refine ⟨E.row_length _, .inr ⟨w.heap.size, _, _, by rw [List.length_append], Nat.zero_le _, heap_alloc_new w.drew _, by rw [List.length_append]; exact hge, hcm, ?_, ?_⟩⟩
    · simp only [Array.size_append, List.size_toArray, size_zeroCells, hzs, E.row_length, ← Nat.add_mul]
      congr 1; omega
    · simp only [Array.toList_append, List.append_assoc]
      rw [← List.append_assoc, hrow, ← E.row_length]
      exact List.take_left
  have newe : ∀ (o : Obj), Ext (fun k => v.ownBlock = some k) w (w.drew.alloc o) := fun o => (Ext.refl _ w).drew.trans (Ext.alloc _ _ _)
  rcases hu.sl with ⟨rfl, hu0⟩ | ⟨b, cap, rfl, hle, hcap⟩
  · have hys : ys = [] := List.eq_nil_of_length_eq_zero hu0
    subst hys
    refine ⟨v, w, ?_, by rw [List.append_nil]; exact hown, Ext.refl _ _, fun g h => .inl h⟩
    have hl := hown.sl.sl
    rcases hl with ⟨rfl, _⟩ | ⟨b, cap, rfl, h1, h2⟩
    · simp [Builtin.append_, run_underlying ht, sizeOf, typeInfo, hi, Builtin.lenOf, Builtin.firstCells]
    · simp [Builtin.append_, run_underlying ht, sizeOf, typeInfo, hi, Builtin.lenOf, Builtin.firstCells, h1, storeCells]
  · have hcell : ∀ j x, (E.row ys)[j]? = some x → w.cell? (b.add j) = some x := hu.cell
    rcases hown.2 with ⟨rfl, hx0⟩ | ⟨g, c, cur, rfl, hb, hg, h1, h2, h3, h4⟩
    · have hxs : xs = [] := List.eq_nil_of_length_eq_zero hx0
      subst hxs
      by_cases h0 : ys.length = 0
      · have : ys = [] := List.eq_nil_of_length_eq_zero h0
        subst this
        refine ⟨_, w, ?_, hown, Ext.refl _ _, fun g h => .inl h⟩
        simp [Builtin.append_, run_underlying ht, sizeOf, typeInfo, hi, Builtin.lenOf, Builtin.firstCells, loadCells, loadCellsFrom]
      · have hr := run_append_nil (P := P) w t ty e i z ht hi hz b ys.length cap (E.row ys) hyl hcell (by omega) (by omega) (by simp at hby; omega)
        have hnew := newb 0
        simp only [List.length_nil, Nat.zero_add, List.nil_append, show (E.row ([] : List α)) = [] from rfl, Array.empty_append] at hnew ⊢
        refine ⟨_, _, hr, hnew, newe _, fun g hg => .inr ?_⟩
        simp only [Value.ownBlock, Option.some.injEq] at hg
        subst hg
        simp
    · by_cases hroom : xs.length + ys.length ≤ c
      · have hfit : xs.length * i.size + (E.row ys).length ≤ cur.size := by rw [hyl, h3, hsize, ← Nat.add_mul]; exact Nat.mul_le_mul_right _ hroom
        have hr := run_append_room (P := P) w t ty e i ht hi g xs.length c cur hg b ys.length cap (E.row ys) hyl hcell hy1 hroom hfit
        refine ⟨_, _, hr, ⟨E.row_length _, .inr ⟨g, c, _, by rw [List.length_append], hb, setRow_heap w g cur _ e _ hg, by rw [List.length_append]; exact hroom, h2, ?_, ?_⟩⟩, ?_, fun k hk => .inl hk⟩
        · simp only [List.size_toArray, List.length_append, List.length_take, List.length_drop, Array.length_toList]
          omega
        · simp only [hsize]
          rw [h4, hrow, ← E.row_length]
          exact List.take_left
        · exact (setRow_ext w g _).mono fun k _ h => by rw [h]; rfl
      · have holds : ∀ j x, (E.row xs)[j]? = some x → w.cell? ((⟨g, 0, none⟩ : Addr).add j) = some x := World.ownsRow.cells hown (g := g) rfl
        have hr := run_append_grow (P := P) w t ty e i z ht hi hz ⟨g, 0, none⟩ xs.length c (E.row xs) (by rw [E.row_length, hsize]) holds b ys.length cap (E.row ys) hyl hcell (by omega) (by omega) (growslice_fits (by omega) hby)
        refine ⟨_, _, hr, newb c, newe _, fun k hk => .inr ?_⟩
        simp only [Value.ownBlock, Option.some.injEq] at hk
        subst hk
        simp
end run

/-- a slice that the call has made -/
def NewT {α : Type} (E : Enc α) (ty : Nat) (w w' : World) (v : Value) (xs : List α) : Prop := OwnT E ty w' v xs ∧ ∀ g, v.ownBlock = some g → w.heap.size ≤ g

section obs
variable {N : Foot} {P : Program} {ops : Array Oper} {sp : List (Spec N)} {In : Nat → Ini N} {a0 : Act} {w0 : World} {bf : List Nat} {j : Nat} {o : Oper} {s : Spec N}

/-- an operation with a mark, by what it does -/
theorem Ob.tagged {tag : Nat} (hg : o.guard = none) (ht : s.tag = some tag)
    (h : ∀ done a w τ, Cx ops sp In a0 w0 bf j o done a w τ → o.wp P a w (fun a' w' => ∃ v, a' = a.put o.dst v ∧ Ext (τ tag) w w' ∧ ∃ T' : Foot, (∀ g, T' g → τ tag g ∨ (w.heap.size ≤ g ∧ g < w'.heap.size)) ∧ s.R (Zof (upd τ tag T') w') T' (get a' s.slot) w') (fun _ _ _ => False)) : Ob ops sp In a0 w0 P bf j o s :=
  Ob.mk0 hg fun done a w τ c => by
    have := h done a w τ c
    unfold StepOk
    rw [ht]
    exact this

theorem wp_of_run {P : Program} {o : Oper} {a : Act} {w w' : World} {K : Act → World → Prop} {Q : Exit → Act → World → Prop} {v : Value} (h : (execOp a.eval o).run P w = .ok (.value v) w') (hK : K (a.put o.dst v) w') : o.wp P a w K Q := by
  unfold Oper.wp
  rw [h]
  exact hK
theorem wp_of_skip {P : Program} {o : Oper} {a : Act} {w w' : World} {K : Act → World → Prop} {Q : Exit → Act → World → Prop} (h : (execOp a.eval o).run P w = .ok .skip w') (hK : K (a.put o.dst undef) w') : o.wp P a w K Q := by
  unfold Oper.wp
  rw [h]
  exact hK

theorem box_new {ty : Nat} {cells : List Value} {w : World} : boxR ty cells (fun g => g = w.heap.size) (.pointer (some ⟨w.heap.size, 0, none⟩)) (w.alloc (.cells cells.toArray ty)) :=
  ⟨w.heap.size, rfl, by simp, rfl, heap_alloc_new w _⟩

/-- a variable made with its value -/
theorem Ob.box {ty tag t : Nat} {cells : List Value} {x : Operand} {v : Value} (hs : s = B.box ty N tag t cells) (hg : o.guard = none) (hd : o.dst = some t) (ho : o.op = .box ty x) (hc : v.cells = cells.toArray)
    (h : ∀ done a w τ, Cx ops sp In a0 w0 bf j o done a w τ → a.eval x = v) : Ob ops sp In a0 w0 P bf j o s := by
  subst hs
  refine Ob.tagged hg rfl fun done a w τ c => ?_
  have hr : (execOp a.eval o).run P w = .ok (.value (.pointer (some ⟨w.heap.size, 0, none⟩))) (w.alloc (.cells cells.toArray ty)) := by
    simp only [execOp, ho, h done a w τ c, Instr.box, newVar, newRow, newObj, hc]
    rfl
  refine wp_of_run hr ⟨_, rfl, Ext.alloc _ _ _, fun g => g = w.heap.size, fun g hg => .inr (by subst hg; simp), ?_⟩
  show boxR ty cells _ (get (a.put o.dst _) t) _
  rw [hd, get_put a t t _ (c.lt t hd), if_pos rfl]
  exact box_new
/-- a variable made with its zero value -/
theorem Ob.alloc {ty tag t : Nat} {cells : List Value} {z : Value} (hs : s = B.box ty N tag t cells) (hg : o.guard = none) (hd : o.dst = some t) (ho : o.op = .alloc ty) (hz : ∀ w, (zeroValue ty).run P w = .ok z w) (hc : z.cells = cells.toArray) : Ob ops sp In a0 w0 P bf j o s := by
  subst hs
  refine Ob.tagged hg rfl fun done a w τ c => ?_
  have hr : (execOp a.eval o).run P w = .ok (.value (.pointer (some ⟨w.heap.size, 0, none⟩))) (w.alloc (.cells cells.toArray ty)) := by
    simp only [execOp, ho, Instr.alloc, Sem.run_bind, hz, Result.andThen_ok, newVar, newRow, newObj, hc]
    rfl
  refine wp_of_run hr ⟨_, rfl, Ext.alloc _ _ _, fun g => g = w.heap.size, fun g hg => .inr (by subst hg; simp), ?_⟩
  show boxR ty cells _ (get (a.put o.dst _) t) _
  rw [hd, get_put a t t _ (c.lt t hd), if_pos rfl]
  exact box_new

theorem run_store {P : Program} {w : World} {t ty g off : Nat} {cur : Array Value} {v : Value} (hg : w.heap[g]? = some (.cells cur ty (0, 0))) (hsz : ∀ w, (sizeOf t).run P w = .ok v.cells.size w) (hfit : off + v.cells.size ≤ cur.size) (h1 : ∀ u ∈ v.cells.toList, u.oneCell' = true) :
    (Instr.storeAt t (.pointer (some ⟨g, off, none⟩)) v).run P w = .ok () (w.setRow g (cur.toList.take off ++ v.cells.toList ++ cur.toList.drop (off + v.cells.size)).toArray) := by
  have h := run_storeCells_at P g off ty v.cells.toList 0 cur w hg (by simpa using hfit) h1
  simp only [Nat.add_zero, Array.length_toList] at h
  simp only [Instr.storeAt, Instr.sureAddr, Sem.run_bind, Sem.run_pure, Result.andThen_ok, storeVar, hsz, ne_eq, not_true_eq_false, if_false]
  exact h

theorem addr_at (g k : Nat) : ((⟨g, 0, none⟩ : Addr).add k) = ⟨g, k, none⟩ := by unfold Addr.add; split <;> simp_all

/-- a store into a variable of the call's own -/
theorem Ob.storeBox {ty tag t tt off : Nat} {cells cells' : List Value} {x y : Operand} {v : Value} (hs : s = B.box ty N tag t cells') (hg : o.guard = none) (hd : o.dst = none) (ho : o.op = .store tt x y) (hsz : ∀ w, (sizeOf tt).run P w = .ok v.cells.size w)
    (hfit : off + v.cells.size ≤ cells.length) (h1 : ∀ u ∈ v.cells.toList, u.oneCell' = true) (hc : cells' = cells.take off ++ v.cells.toList ++ cells.drop (off + v.cells.size))
    (hp : ∀ done a w τ, Cx ops sp In a0 w0 bf j o done a w τ → boxR ty cells (τ tag) (get a t) w ∧ a.eval x = .pointer (some ((ptrOf (get a t)).add off)) ∧ a.eval y = v) : Ob ops sp In a0 w0 P bf j o s := by
  subst hs
  refine Ob.tagged hg rfl fun done a w τ c => ?_
  obtain ⟨⟨g, hv, hlt, hT, hgg⟩, hx, hy⟩ := hp done a w τ c
  have hx' : a.eval x = .pointer (some ⟨g, off, none⟩) := by rw [hx, hv]; simp only [ptrOf, addr_at]
  have hr := run_store (P := P) (t := tt) (off := off) hgg hsz (by simpa using hfit) h1
  have hr' : (execOp a.eval o).run P w = .ok .skip (w.setRow g cells'.toArray) := by
    simp only [execOp, ho, hx', hy, Sem.run_bind, hr, Result.andThen_ok]
    rw [hc]
    rfl
  refine wp_of_skip hr' ⟨undef, rfl, (setRow_ext w g _).mono (fun k _ h => by rw [h]; exact hT), τ tag, fun g h => .inl h, ?_⟩
  show boxR ty cells' _ (get (a.put o.dst _) t) _
  rw [hd, get_put_none]
  exact ⟨g, hv, by simp [World.setRow, hlt], hT, setRow_heap w g _ _ ty _ hgg⟩

/-- a list written out -/
theorem Ob.buildSlice {α : Type} {E : Enc α} {ty e tag t n : Nat} {xs : List α} {parts : Array (Nat × Operand)} {z : Value} {cells : Array Value} (hs : s = own E e N tag t xs) (hg : o.guard = none) (hd : o.dst = some t) (ho : o.op = .buildSlice ty n parts)
    (hty : P.underlying ty = some (.slice e)) (hsz : ∀ w, (sizeOf e).run P w = .ok E.sz w) (hz : ∀ w, (zeroValue e).run P w = .ok z w) (hn : n = xs.length) (hn0 : 0 < n) (hsmall : n * E.sz ≤ 16777216)
    (hf : ∀ done a w τ, Cx ops sp In a0 w0 bf j o done a w τ → Instr.fill (fun i => some (i * E.sz, E.sz)) ((Array.range (n * E.sz)).map (z.cells[· % z.cells.size]!)) (parts.map fun (i, x) => (i, a.eval x)).toList = some cells)
    (hc : cells.toList = E.row xs) : Ob ops sp In a0 w0 P bf j o s := by
  subst hs
  refine Ob.tagged hg rfl fun done a w τ c => ?_
  have h2 : ¬ (n * E.sz > 2 ^ 24) := by omega
  have h0 : ¬ (n * E.sz = 0) := by have := Nat.mul_pos hn0 E.pos; omega
  have hr : (execOp a.eval o).run P w = .ok (.value (.slice (some ⟨w.heap.size, 0, none⟩) n n)) (w.alloc (.cells cells e)) := by
    have hfz := hf done a w τ c
    simp only [execOp, ho, Instr.buildSlice, Sem.run_bind, run_underlying hty, Result.andThen_ok, hsz, h2, if_false, Sem.run_pure, h0, hz]
    rw [hfz]
    rfl
  have hl : cells.size = n * E.sz := by rw [← Array.length_toList, hc, E.row_length, hn]
  refine wp_of_run hr ⟨_, rfl, Ext.alloc _ _ _, fun g => g = w.heap.size, fun g hg => .inr (by subst hg; simp), ?_⟩
  show ownR E e xs _ (get (a.put o.dst _) t) _
  rw [hd, get_put a t t _ (c.lt t hd), if_pos rfl]
  refine ⟨⟨E.row_length xs, .inr ⟨w.heap.size, n, cells, by rw [hn], Nat.zero_le _, heap_alloc_new w _, by omega, ?_, hl, ?_⟩⟩, fun g h => ?_⟩
  · have := Nat.le_mul_of_pos_right n E.pos; simp only [maxLen]; omega
  · rw [hc, ← E.row_length]; exact List.take_length
  · simp only [Value.ownBlock, Option.some.injEq] at h; exact h.symm
theorem Ob.buildEmpty {α : Type} {E : Enc α} {ty e tag t : Nat} (hs : s = own E e N tag t ([] : List α)) (hg : o.guard = none) (hd : o.dst = some t) (ho : o.op = .buildSlice ty 0 #[])
    (hty : P.underlying ty = some (.slice e)) (hsz : ∀ w, (sizeOf e).run P w = .ok E.sz w) : Ob ops sp In a0 w0 P bf j o s := by
  subst hs
  refine Ob.tagged hg rfl fun done a w τ c => ?_
  have hr : (execOp a.eval o).run P w = .ok (.value (.slice (some ⟨w.heap.size, 0, none⟩) 0 0)) (w.alloc (.cells #[] e)) := by
    have e0 : Array.range 0 = #[] := Array.eq_empty_of_size_eq_zero (by simp)
    simp [execOp, ho, Instr.buildSlice, run_underlying hty, hsz, Instr.fill, newRow, newObj, e0]
    rfl
  refine wp_of_run hr ⟨_, rfl, Ext.alloc _ _ _, fun g => g = w.heap.size, fun g hg => .inr (by subst hg; simp), ?_⟩
  show ownR E e [] _ (get (a.put o.dst _) t) _
  rw [hd, get_put a t t _ (c.lt t hd), if_pos rfl]
  refine ⟨⟨E.row_length [], .inr ⟨w.heap.size, 0, #[], rfl, Nat.zero_le _, heap_alloc_new w _, Nat.le_refl _, Nat.zero_le _, by simp, by simp [Enc.row]⟩⟩, fun g h => ?_⟩
  simp only [Value.ownBlock, Option.some.injEq] at h; exact h.symm

/-- append to a slice of the call's own -/
theorem Ob.append {α : Type} {E : Enc α} {ty e tag t t0 : Nat} {xs ys : List α} {x y : Operand} {z : Value} {i : TypeInfo} (hs : s = own E e N tag t (xs ++ ys)) (hg : o.guard = none) (hd : o.dst = some t)
    (ho : o.op = .call { callee := .builtin .append, args := #[x, y], argTypes := #[ty, ty] })
    (hty : P.underlying ty = some (.slice e)) (hi : P.info? e = some i) (hz : i.zero = some z) (hsize : i.size = E.sz) (hzs : z.cells.size = E.sz)
    (h63 : xs.length + ys.length ≤ maxLen) (hby : (xs.length + ys.length) * i.bytes ≤ 140737488355328)
    (hp : ∀ done a w τ, Cx ops sp In a0 w0 bf j o done a w τ → ownR E e xs (τ tag) (get a t0) w ∧ a.eval x = get a t0 ∧ ∃ u, a.eval y = u ∧ SlT E w u ys) : Ob ops sp In a0 w0 P bf j o s := by
  subst hs
  refine Ob.tagged hg rfl fun done a w τ c => ?_
  obtain ⟨⟨hown, hT⟩, hx, u, hy, hsl⟩ := hp done a w τ c
  obtain ⟨v', w', hr, h2, h3, h4⟩ := run_append (P := P) (E := E) ty o.type e i z hty hi hz hsize hzs hown hsl h63 hby
  have hr' : (execOp a.eval o).run P w = .ok (.value v') w' := by
    simp only [execOp, ho, resolve, invoke, builtin, Sem.run_bind, Sem.run_pure, Result.andThen_ok, List.map_toArray, List.map_cons, List.map_nil, hx, hy, hr]
  refine wp_of_run hr' ⟨_, rfl, h3.mono (fun k _ h => hT k h), fun g => v'.ownBlock = some g, fun g hg => (h4 g hg).elim (fun h => .inl (hT g h)) (fun h => .inr h), ?_⟩
  show ownR E e (xs ++ ys) _ (get (a.put o.dst _) t) _
  rw [hd, get_put a t t _ (c.lt t hd), if_pos rfl]
  exact ⟨h2, fun g h => h⟩

/-- what a mark bears moves to another place -/
theorem Ob.moveT {tag t t0 : Nat} {R : Foot → Foot → Value → World → Prop} {x : Operand} (ht : s.tag = some tag) (hsl : s.slot = t) (hR : s.R = R) (hg : o.guard = none) (hd : o.dst = some t) (ho : o.op = .move x ∨ o.op = .assign x)
    (hp : ∀ done a w τ, Cx ops sp In a0 w0 bf j o done a w τ → R (Zof τ w) (τ tag) (get a t0) w ∧ a.eval x = get a t0) : Ob ops sp In a0 w0 P bf j o s := by
  refine Ob.tagged hg ht fun done a w τ c => ?_
  obtain ⟨h1, hx⟩ := hp done a w τ c
  have hr : Runs P a o w (get a t0) := by
    rcases ho with ho | ho
    · exact r_move ho hx
    · exact r_assign ho hx
  refine wp_of_run hr ⟨_, rfl, Ext.refl _ _, τ tag, fun g h => .inl h, ?_⟩
  rw [hsl, hd, get_put a t t _ (c.lt t hd), if_pos rfl]
  have e1 : upd τ tag (τ tag) = τ := by
    funext t g
    unfold upd
    split
    · rename_i e; rw [e]
    · rfl
  rw [e1, hR]
  exact h1

def Enters (P : Program) (a : Act) (o : Oper) (w : World) (f : FuncId) (args : Array Value) : Prop := (execOp a.eval o).run P w = .ok (.enter f args) w
theorem e_call {a : Act} {w : World} {x : Operand} {as : Array Operand} {ts : Array TypeId} {f : FuncId} {caps args : Array Value} (ho : o.op = .call { callee := .value x, args := as, argTypes := ts }) (hx : a.eval x = .func (.func f) #[] caps)
    (hcall : ∀ args w, (callFunc f args).run P w = .ok (.enter f args) w) (has : as.map a.eval ++ caps = args) : Enters P a o w f args := by
  subst has
  simp only [Enters, execOp, ho, resolve, hx, Deferred.ofValue, Sem.run_bind, Sem.run_pure, Result.andThen_ok, invoke, hcall]
  simp

/-- a call whose answer is known, which makes memory alone -/
theorem Ob.call {t : Nat} {v : Value} (hs : s = B.det N t v) (hg : o.guard = none) (hd : o.dst = some t)
    (h : ∀ done a w τ, Cx ops sp In a0 w0 bf j o done a w τ → ∃ f args, Enters P a o w f args ∧ Calls P f args w (fun e w' => e = .returned v ∧ Ext none' w w')) : Ob ops sp In a0 w0 P bf j o s :=
  Ob.mk0 hg fun done a w τ c => by
    obtain ⟨f, args, h1, h2⟩ := h done a w τ c
    subst hs
    unfold Oper.wp
    rw [h1]
    refine h2.mono fun e w' ⟨he, hx⟩ => ?_
    subst he
    refine ⟨v, rfl, hx, ?_⟩
    show get (a.put o.dst v) t = v
    rw [hd, get_put a t t v (c.lt t hd), if_pos rfl]
/-- .. under a guard -/
theorem Ob.gcall {t gi tg : Nat} {want b : Bool} {pc : Prop} {v : Value} (hs : s = B.gdet N t pc v) (hg : o.guard = some (gi, want)) (hd : o.dst = some t) (hgd : ((ops[gi]?).bind (·.dst)) = some tg)
    (hgs : sp[gi]? = some (B.det N tg (.bool b))) (hb : (bf.getD j 0).testBit gi = true) (hpc : pc ↔ b = want)
    (h : ∀ done a w τ, Cx ops sp In a0 w0 bf j o done a w τ → pc → ∃ f args, Enters P a o w f args ∧ Calls P f args w (fun e w' => e = .returned v ∧ Ext none' w w')) : Ob ops sp In a0 w0 P bf j o s := by
  intro done a w τ c
  have hv : get a tg = .bool b := c.v gi hgs hb
  have hw : Region.wanted o (yielded ops a.tmps) = (b == want) := by
    have : a.tmps[tg]? = some (.bool b) := by
      unfold get at hv
      rw [Array.getD_eq_getD_getElem?] at hv
      cases h' : a.tmps[tg]? with
      | none => rw [h'] at hv; simp [undef] at hv
      | some u => rw [h'] at hv; simp at hv; rw [hv]
    cases b <;> cases want <;> simp [Region.wanted, hg, yielded, hgd, this]
  subst hs
  refine ⟨fun hw' => ?_, fun hw' => ?_⟩
  · rw [hw] at hw'
    have hp : pc := hpc.2 (by simpa using hw')
    obtain ⟨f, args, h1, h2⟩ := h done a w τ c hp
    unfold Oper.wp
    rw [h1]
    refine h2.mono fun e w' ⟨he, hx⟩ => ?_
    subst he
    refine ⟨v, rfl, hx, ?_⟩
    show (pc → get (a.put o.dst v) t = v) ∧ (¬ pc → get (a.put o.dst v) t = undef)
    rw [hd, get_put a t t v (c.lt t hd), if_pos rfl]
    exact ⟨fun _ => rfl, fun hn => absurd hp hn⟩
  · rw [hw] at hw'
    have hp : ¬ pc := fun hp => by rw [hpc.1 hp] at hw'; simp at hw'
    refine ⟨Ext.refl _ _, ?_⟩
    show (pc → get (a.put o.dst undef) t = v) ∧ (¬ pc → get (a.put o.dst undef) t = undef)
    rw [hd, get_put a t t undef (c.lt t hd), if_pos rfl]
    exact ⟨fun h => absurd h hp, fun _ => rfl⟩
theorem Ob.ggcall {t gi tg : Nat} {want b : Bool} {pc pg : Prop} {v : Value} (hs : s = B.gdet N t pc v) (hg : o.guard = some (gi, want)) (hd : o.dst = some t) (hgd : ((ops[gi]?).bind (·.dst)) = some tg)
    (hgs : sp[gi]? = some (B.gdet N tg pg (.bool b))) (hb : (bf.getD j 0).testBit gi = true) (hpc : pc ↔ (pg ∧ b = want))
    (h : ∀ done a w τ, Cx ops sp In a0 w0 bf j o done a w τ → pc → ∃ f args, Enters P a o w f args ∧ Calls P f args w (fun e w' => e = .returned v ∧ Ext none' w w')) : Ob ops sp In a0 w0 P bf j o s := by
  intro done a w τ c
  have hv : (pg → get a tg = .bool b) ∧ (¬ pg → get a tg = undef) := c.J.det gi _ hgs rfl (c.pre gi hb)
  subst hs
  by_cases hpg : pg
  · have hv' := hv.1 hpg
    have hw : Region.wanted o (yielded ops a.tmps) = (b == want) := by
      have : a.tmps[tg]? = some (.bool b) := by
        unfold get at hv'
        rw [Array.getD_eq_getD_getElem?] at hv'
        cases h' : a.tmps[tg]? with
        | none => rw [h'] at hv'; simp [undef] at hv'
        | some u => rw [h'] at hv'; simp at hv'; rw [hv']
      cases b <;> cases want <;> simp [Region.wanted, hg, yielded, hgd, this]
    refine ⟨fun hw' => ?_, fun hw' => ?_⟩
    · rw [hw] at hw'
      have hp : pc := hpc.2 ⟨hpg, by simpa using hw'⟩
      obtain ⟨f, args, h1, h2⟩ := h done a w τ c hp
      unfold Oper.wp
      rw [h1]
      refine h2.mono fun e w' ⟨he, hx⟩ => ?_
      subst he
      refine ⟨v, rfl, hx, ?_⟩
      show (pc → get (a.put o.dst v) t = v) ∧ (¬ pc → get (a.put o.dst v) t = undef)
      rw [hd, get_put a t t v (c.lt t hd), if_pos rfl]
      exact ⟨fun _ => rfl, fun hn => absurd hp hn⟩
    · rw [hw] at hw'
      have hp : ¬ pc := fun hp => by rw [(hpc.1 hp).2] at hw'; simp at hw'
      refine ⟨Ext.refl _ _, ?_⟩
      show (pc → get (a.put o.dst undef) t = v) ∧ (¬ pc → get (a.put o.dst undef) t = undef)
      rw [hd, get_put a t t undef (c.lt t hd), if_pos rfl]
      exact ⟨fun h => absurd h hp, fun _ => rfl⟩
  · have hv' := hv.2 hpg
    have hw : Region.wanted o (yielded ops a.tmps) = false := by
      have : ∀ bb, a.tmps[tg]? ≠ some (.bool bb) := by
        intro bb h'
        unfold get at hv'
        rw [Array.getD_eq_getD_getElem?, h'] at hv'
        simp [undef] at hv'
      have hy : yielded ops a.tmps gi = none := by
        cases h' : a.tmps[tg]? with
        | none => simp [yielded, hgd, h']
        | some u => cases u <;> first | exact absurd h' (this _) | simp [yielded, hgd, h']
      simp [Region.wanted, hg, hy]
    have hp : ¬ pc := fun hp => hpg (hpc.1 hp).1
    refine ⟨fun hw' => (by rw [hw] at hw'; cases hw'), fun _ => ⟨Ext.refl _ _, ?_⟩⟩
    show (pc → get (a.put o.dst undef) t = v) ∧ (¬ pc → get (a.put o.dst undef) t = undef)
    rw [hd, get_put a t t undef (c.lt t hd), if_pos rfl]
    exact ⟨fun h => absurd h hp, fun _ => rfl⟩
/-- a call that hands back, or turns, memory of the call's own -/
theorem Ob.callT {tag : Nat} (hg : o.guard = none) (ht : s.tag = some tag)
    (h : ∀ done a w τ, Cx ops sp In a0 w0 bf j o done a w τ → ∃ f args, Enters P a o w f args ∧ Calls P f args w (fun e w' => ∃ v, e = .returned v ∧ Ext (τ tag) w w' ∧ ∃ T' : Foot, (∀ g, T' g → τ tag g ∨ (w.heap.size ≤ g ∧ g < w'.heap.size)) ∧ s.R (Zof (upd τ tag T') w') T' (get (a.put o.dst v) s.slot) w')) : Ob ops sp In a0 w0 P bf j o s :=
  Ob.tagged hg ht fun done a w τ c => by
    obtain ⟨f, args, h1, h2⟩ := h done a w τ c
    unfold Oper.wp
    rw [h1]
    refine h2.mono fun e w' ⟨v, he, h3⟩ => ?_
    subst he
    exact ⟨v, rfl, h3⟩
/-- .. that hands back a slice of its own -/
theorem Ob.callOwn {α : Type} {E : Enc α} {ty tag t : Nat} {xs : List α} (hs : s = own E ty N tag t xs) (hg : o.guard = none) (hd : o.dst = some t)
    (h : ∀ done a w τ, Cx ops sp In a0 w0 bf j o done a w τ → ∃ f args, Enters P a o w f args ∧ Calls P f args w (fun e w' => ∃ v, e = .returned v ∧ Ext none' w w' ∧ NewT E ty w w' v xs)) : Ob ops sp In a0 w0 P bf j o s := by
  subst hs
  refine Ob.callT (tag := tag) hg rfl fun done a w τ c => ?_
  obtain ⟨f, args, h1, h2⟩ := h done a w τ c
  refine ⟨f, args, h1, h2.mono fun e w' ⟨v, he, hx, ho⟩ => ⟨v, he, hx.mono (fun _ _ h => h.elim), fun g => v.ownBlock = some g, fun g hg => .inr ⟨ho.2 g hg, ho.1.lt g hg⟩, ?_⟩⟩
  show ownR E ty xs _ (get (a.put o.dst v) t) w'
  rw [hd, get_put a t t v (c.lt t hd), if_pos rfl]
  exact ⟨ho.1, fun g h => h⟩
end obs

/-! ### A function's state between its regions -/
structure St (N : Foot) (W0 : World) (n : Nat) (a : Act) (w : World) (τ : Nat → Foot) : Prop where
  defers : a.defers = []
  size : a.tmps.size = n
  ext : Ext N W0 w
  big : ∀ k, w.heap.size ≤ k → N k
  disj : ∀ s t g, τ s g → τ t g → s = t
  bnd : ∀ t g, τ t g → N g ∧ g < w.heap.size

def iniOf {N : Foot} (l : List (Ini N)) (t : Nat) : Ini N := l.getD t (Ini.any N)
def IniAll {N : Foot} (τ : Nat → Foot) (w : World) : Nat → List (Ini N) → Prop
  | _, [] => True
  | k, i :: l => i.I (Zof τ w) (τ k) w ∧ IniAll τ w (k + 1) l
theorem iniAll_spec {N : Foot} {τ : Nat → Foot} {w : World} : ∀ {l : List (Ini N)} {k : Nat}, IniAll τ w k l → ∀ t, (l.getD t (Ini.any N)).I (Zof τ w) (τ (k + t)) w
  | [], _, _, t => trivial
  | i :: l, k, h, 0 => h.1
  | i :: l, k, h, t + 1 => by
    have := iniAll_spec h.2 t
    rwa [show k + (t + 1) = k + 1 + t by omega]

def unAll (ops : List Oper) (t : Nat) : Bool := ops.all fun o => o.dst != some t

structure Fin {N : Foot} (l : List Oper) (sp : List (Spec N)) (il : List (Ini N)) (a0 a : Act) (w : World) (τ : Nat → Foot) : Prop where
  same : ∀ t, unAll l t = true → get a t = get a0 t
  det : ∀ (j : Nat) (s : Spec N), sp[j]? = some s → s.tag = none → s.R (Zof τ w) none' (get a s.slot) w
  res : ∀ (j t : Nat) (s : Spec N), sp[j]? = some s → s.tag = some t → lastTag (sp.map (·.tag)) t sp.length = some j → s.R (Zof τ w) (τ t) (get a s.slot) w
  ini : ∀ t, lastTag (sp.map (·.tag)) t sp.length = none → (iniOf il t).I (Zof τ w) (τ t) w
theorem Fin.old {N : Foot} {l : List Oper} {sp : List (Spec N)} {il : List (Ini N)} {a0 a : Act} {w : World} {τ : Nat → Foot} (h : Fin l sp il a0 a w τ) {t : Nat} {v : Value} (h0 : get a0 t = v) (hu : unAll l t = true) : get a t = v := (h.same t hu).trans h0
theorem Fin.v {N : Foot} {l : List Oper} {sp : List (Spec N)} {il : List (Ini N)} {a0 a : Act} {w : World} {τ : Nat → Foot} (h : Fin l sp il a0 a w τ) (j : Nat) {t : Nat} {v : Value} (hs : sp[j]? = some (B.det N t v)) : get a t = v := h.det j _ hs rfl

/-- THE RULE, for a function's state -/
theorem region_St {N : Foot} {n : Nat} {W0 : World} {P : Program} {l : List Oper} {sp : List (Spec N)} (il : List (Ini N)) {a0 : Act} {w0 : World} {τ0 : Nat → Foot} {bf : List Nat} {id : Nat} {draw : Bool} (hm : P.follows .mixedOrders = true)
    {Q : Exit → Act → World → Prop} (hst : St N W0 n a0 w0 τ0) (hok : (okOps l.toArray n && okBf l.toArray bf && okSp l.toArray bf (sp.map (·.slot)) (sp.map (·.tag))) = true)
    (hini : IniAll τ0 w0 0 il) (obs : ObList l.toArray sp (iniOf il) a0 w0 P bf 0 l sp)
    (fin : ∀ a w τ, St N W0 n a w τ → Fin l sp il a0 a w τ → Q .normal a w) : (Code.region id l.toArray draw).wp P Q a0 w0 := by
  have hlen : sp.length = l.length := by
    simp only [Bool.and_eq_true] at hok
    have h3 := hok.2
    unfold okSp at h3
    simp only [Bool.and_eq_true, List.length_map, beq_iff_eq] at h3
    simpa using h3.1.1
  refine region_J (N := N) (ini := iniOf il) (τ := τ0) hm (by rw [hst.size]; exact hok) hst.big hst.disj hst.bnd (fun t => ?_) obs fun done a w τ hd hJ => ?_
  · have := iniAll_spec hini t
    rwa [Nat.zero_add] at this
  · refine fin a w τ ⟨hJ.defers.trans hst.defers, hJ.size.trans hst.size, hst.ext.trans hJ.ext, hJ.big, hJ.disj, hJ.bnd⟩ ⟨fun t ht => ?_, fun j s hs ht => ?_, fun j t s hs ht hl => ?_, fun t hl => ?_⟩
    · refine hJ.un t fun i o hi hdst => ?_
      exfalso
      unfold unAll at ht
      rw [List.all_eq_true] at ht
      have := ht o (List.mem_of_getElem? (by simpa using hi))
      simp [hdst] at this
    · exact hJ.det j s hs ht (hd j (by rw [← hlen]; exact (List.getElem?_eq_some_iff.1 hs).1))
    · obtain ⟨h1, h2, h3⟩ := lastTag_some hl
      refine hJ.res j s t hs ht (hd j (by omega)) fun k s' hk hlt hkt => ?_
      exact absurd (by rw [tag_getD hk]; exact hkt) (h3 k hlt (List.getElem?_eq_some_iff.1 hk).1)
    · refine hJ.ini t fun k s' hk hkt => ?_
      exact absurd (by rw [tag_getD hk]; exact hkt) (lastTag_none hl k (List.getElem?_eq_some_iff.1 hk).1)
end B
end Go.Proofs.YtbhdplicjiejnaaGreatDoor
