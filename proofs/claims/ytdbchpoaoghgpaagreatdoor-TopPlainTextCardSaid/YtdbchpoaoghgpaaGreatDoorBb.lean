/-
  Operations that make or turn memory of the call's own, and calls, inside a region; a function's state between its regions. Over any program.
-/
import Derived.Test.YtdbchpoaoghgpaaGreatDoorBa
import Derived.Lib.SliceRun
namespace Go.Proofs.YtdbchpoaoghgpaaGreatDoor
namespace B
open Go.RowKit

section run
variable {P : Program} {w : World} {α : Type} {E : Enc α}

theorem setRow_ext (w : World) (g : Nat) (cs : Array Value) : Ext (fun k => k = g) w (w.setRow g cs) :=
  ⟨rfl, rfl, rfl, by simp [World.setRow], fun k _ h => setRow_other w g k cs h⟩

/-- append to a slice of the call's own: where the array is behind it -/
theorem run_append (t ty e : TypeId) (i : TypeInfo) (z : Value) (ht : P.underlying t = some (.slice e)) (hi : P.info? e = some i) (hz : i.zero = some z) (hsize : i.size = E.sz) (hzs : z.cells.size = E.sz)
    {v u : Value} {xs ys : List α} (hown : OwnT E e w v xs) (hu : SlT E w u ys) (h63 : xs.length + ys.length ≤ maxLen) (hby : (xs.length + ys.length) * i.bytes ≤ 140737488355328) :
    ∃ v' w', (Builtin.append_ #[t, t] ty #[v, u]).run P w = .ok v' w' ∧ OwnT E e w' v' (xs ++ ys) ∧ Ext (fun k => v.ownBlock = some k) w w' ∧ (∀ g, v'.ownBlock = some g → v.ownBlock = some g ∨ (w.heap.size ≤ g ∧ g < w'.heap.size)) := by
  have hy1 : ∀ x ∈ E.row ys, x.oneCell' = true := E.row_one
  have hyl : (E.row ys).length = ys.length * i.size := by rw [E.row_length, hsize]
  have hpos := E.pos
  simp only [maxLen] at h63
  have hrow : E.row xs ++ E.row ys = E.row (xs ++ ys) := (E.row_append xs ys).symm
  have newb : ∀ (old : Nat), OwnT E e (w.drew.alloc (.cells ((E.row xs).toArray ++ (E.row ys).toArray ++ Builtin.zeroCells z.cells (grownCap w (xs.length + ys.length) old e - (xs.length + ys.length))) e))
      (.slice (some ⟨w.heap.size, 0, none⟩) (xs.length + ys.length) (grownCap w (xs.length + ys.length) old e)) (xs ++ ys) := by
    intro old
    have hge := grownCap_ge w (xs.length + ys.length) old e
    have hcm : grownCap w (xs.length + ys.length) old e ≤ maxLen := grownCap_le_maxLen w _ old e (by simp only [maxLen]; omega)
    refine ⟨E.row_length _, .inr ⟨w.heap.size, _, _, by rw [List.length_append], Nat.zero_le _, heap_alloc_new w.drew _, by rw [List.length_append]; exact hge, hcm, ?_, ?_⟩⟩
    · simp only [Array.size_append, List.size_toArray, size_zeroCells, hzs, E.row_length, ← Nat.add_mul]
      congr 1; omega
    · simp only [Array.toList_append, List.append_assoc]
      rw [← List.append_assoc, hrow, ← E.row_length]
      exact List.take_left
  have newe : ∀ (o : Obj), Ext (fun k => v.ownBlock = some k) w (w.drew.alloc o) := fun o => (Ext.refl _ w).drew.trans (Ext.alloc _ _ _)
  rcases hu.sl with ⟨rfl, hu0⟩ | ⟨b, cap, rfl, hle, hcap⟩
  · have hys : ys = [] := List.eq_nil_of_length_eq_zero hu0
    subst hys
    refine ⟨v, w, ?_, by rw [List.append_nil]; exact hown, Ext.refl _ _, fun g h => .inl h⟩
    have hl := hown.sl.sl
    rcases hl with ⟨rfl, _⟩ | ⟨b, cap, rfl, h1, h2⟩
    · simp [Builtin.append_, run_underlying ht, sizeOf, typeInfo, hi, Builtin.lenOf, Builtin.firstCells]
    · simp [Builtin.append_, run_underlying ht, sizeOf, typeInfo, hi, Builtin.lenOf, Builtin.firstCells, h1, storeCells]
  · have hcell : ∀ j x, (E.row ys)[j]? = some x → w.cell? (b.add j) = some x := hu.cell
    rcases hown.2 with ⟨rfl, hx0⟩ | ⟨g, c, cur, rfl, hb, hg, h1, h2, h3, h4⟩
    · have hxs : xs = [] := List.eq_nil_of_length_eq_zero hx0
      subst hxs
      by_cases h0 : ys.length = 0
      · have : ys = [] := List.eq_nil_of_length_eq_zero h0
        subst this
        refine ⟨_, w, ?_, hown, Ext.refl _ _, fun g h => .inl h⟩
        simp [Builtin.append_, run_underlying ht, sizeOf, typeInfo, hi, Builtin.lenOf, Builtin.firstCells, loadCells, loadCellsFrom]
      · have hr := run_append_nil (P := P) w t ty e i z ht hi hz b ys.length cap (E.row ys) hyl hcell (by omega) (by omega) (by simp at hby; omega)
        have hnew := newb 0
        simp only [List.length_nil, Nat.zero_add, List.nil_append, show (E.row ([] : List α)) = [] from rfl, Array.empty_append] at hnew ⊢
        refine ⟨_, _, hr, hnew, newe _, fun g hg => .inr ?_⟩
        simp only [Value.ownBlock, Option.some.injEq] at hg
        subst hg
        simp
    · by_cases hroom : xs.length + ys.length ≤ c
      · have hfit : xs.length * i.size + (E.row ys).length ≤ cur.size := by rw [hyl, h3, hsize, ← Nat.add_mul]; exact Nat.mul_le_mul_right _ hroom
        have hr := run_append_room (P := P) w t ty e i ht hi g xs.length c cur hg b ys.length cap (E.row ys) hyl hcell hy1 hroom hfit
        refine ⟨_, _, hr, ⟨E.row_length _, .inr ⟨g, c, _, by rw [List.length_append], hb, setRow_heap w g cur _ e _ hg, by rw [List.length_append]; exact hroom, h2, ?_, ?_⟩⟩, ?_, fun k hk => .inl hk⟩
        · simp only [List.size_toArray, List.length_append, List.length_take, List.length_drop, Array.length_toList]
          omega
        · simp only [hsize]
          rw [h4, hrow, ← E.row_length]
          exact List.take_left
        · exact (setRow_ext w g _).mono fun k _ h => by rw [h]; rfl
      · have holds : ∀ j x, (E.row xs)[j]? = some x → w.cell? ((⟨g, 0, none⟩ : Addr).add j) = some x := World.ownsRow.cells hown (g := g) rfl
        have hr := run_append_grow (P := P) w t ty e i z ht hi hz ⟨g, 0, none⟩ xs.length c (E.row xs) (by rw [E.row_length, hsize]) holds b ys.length cap (E.row ys) hyl hcell (by omega) (by omega) (growslice_fits (by omega) hby)
        refine ⟨_, _, hr, newb c, newe _, fun k hk => .inr ?_⟩
        simp only [Value.ownBlock, Option.some.injEq] at hk
        subst hk
        simp
end run

/-- a slice that the call has made -/
def NewT {α : Type} (E : Enc α) (ty : Nat) (w w' : World) (v : Value) (xs : List α) : Prop := OwnT E ty w' v xs ∧ ∀ g, v.ownBlock = some g → w.heap.size ≤ g

section obs
variable {N : Foot} {P : Program} {ops : Array Oper} {sp : List (Spec N)} {In : Nat → Ini N} {a0 : Act} {w0 : World} {bf : List Nat} {j : Nat} {o : Oper} {s : Spec N}

/-- an operation with a mark, by what it does -/
theorem Ob.tagged {tag : Nat} (hg : o.guard = none) (ht : s.tag = some tag)
    (h : ∀ done a w τ, Cx ops sp In a0 w0 bf j o done a w τ → o.wp P a w (fun a' w' => ∃ v, a' = a.put o.dst v ∧ Ext (τ tag) w w' ∧ ∃ T' : Foot, (∀ g, T' g → τ tag g ∨ (w.heap.size ≤ g ∧ g < w'.heap.size)) ∧ s.R (Zof (upd τ tag T') w') T' (get a' s.slot) w') (fun _ _ _ => False)) : Ob ops sp In a0 w0 P bf j o s :=
  Ob.mk0 hg fun done a w τ c => by
    have := h done a w τ c
    unfold StepOk
    rw [ht]
    exact this

theorem wp_of_run {P : Program} {o : Oper} {a : Act} {w w' : World} {K : Act → World → Prop} {Q : Exit → Act → World → Prop} {v : Value} (h : (execOp a.eval o).run P w = .ok (.value v) w') (hK : K (a.put o.dst v) w') : o.wp P a w K Q := by
  unfold Oper.wp
  rw [h]
  exact hK
theorem wp_of_skip {P : Program} {o : Oper} {a : Act} {w w' : World} {K : Act → World → Prop} {Q : Exit → Act → World → Prop} (h : (execOp a.eval o).run P w = .ok .skip w') (hK : K (a.put o.dst undef) w') : o.wp P a w K Q := by
  unfold Oper.wp
  rw [h]
  exact hK

theorem box_new {ty : Nat} {cells : List Value} {w : World} : boxR ty cells (fun g => g = w.heap.size) (.pointer (some ⟨w.heap.size, 0, none⟩)) (w.alloc (.cells cells.toArray ty)) :=
  ⟨w.heap.size, rfl, by simp, rfl, heap_alloc_new w _⟩

/-- a variable made with its value -/
theorem Ob.box {ty tag t : Nat} {cells : List Value} {x : Operand} {v : Value} (hs : s = B.box ty N tag t cells) (hg : o.guard = none) (hd : o.dst = some t) (ho : o.op = .box ty x) (hc : v.cells = cells.toArray)
    (h : ∀ done a w τ, Cx ops sp In a0 w0 bf j o done a w τ → a.eval x = v) : Ob ops sp In a0 w0 P bf j o s := by
  subst hs
  refine Ob.tagged hg rfl fun done a w τ c => ?_
  have hr : (execOp a.eval o).run P w = .ok (.value (.pointer (some ⟨w.heap.size, 0, none⟩))) (w.alloc (.cells cells.toArray ty)) := by
    simp only [execOp, ho, h done a w τ c, Instr.box, newVar, newRow, newObj, hc]
    rfl
  refine wp_of_run hr ⟨_, rfl, Ext.alloc _ _ _, fun g => g = w.heap.size, fun g hg => .inr (by subst hg; simp), ?_⟩
  show boxR ty cells _ (get (a.put o.dst _) t) _
  rw [hd, get_put a t t _ (c.lt t hd), if_pos rfl]
  exact box_new
/-- a variable made with its zero value -/
theorem Ob.alloc {ty tag t : Nat} {cells : List Value} {z : Value} (hs : s = B.box ty N tag t cells) (hg : o.guard = none) (hd : o.dst = some t) (ho : o.op = .alloc ty) (hz : ∀ w, (zeroValue ty).run P w = .ok z w) (hc : z.cells = cells.toArray) : Ob ops sp In a0 w0 P bf j o s := by
  subst hs
  refine Ob.tagged hg rfl fun done a w τ c => ?_
  have hr : (execOp a.eval o).run P w = .ok (.value (.pointer (some ⟨w.heap.size, 0, none⟩))) (w.alloc (.cells cells.toArray ty)) := by
    simp only [execOp, ho, Instr.alloc, Sem.run_bind, hz, Result.andThen_ok, newVar, newRow, newObj, hc]
    rfl
  refine wp_of_run hr ⟨_, rfl, Ext.alloc _ _ _, fun g => g = w.heap.size, fun g hg => .inr (by subst hg; simp), ?_⟩
  show boxR ty cells _ (get (a.put o.dst _) t) _
  rw [hd, get_put a t t _ (c.lt t hd), if_pos rfl]
  exact box_new

theorem run_store {P : Program} {w : World} {t ty g off : Nat} {cur : Array Value} {v : Value} (hg : w.heap[g]? = some (.cells cur ty (0, 0))) (hsz : ∀ w, (sizeOf t).run P w = .ok v.cells.size w) (hfit : off + v.cells.size ≤ cur.size) (h1 : ∀ u ∈ v.cells.toList, u.oneCell' = true) :
    (Instr.storeAt t (.pointer (some ⟨g, off, none⟩)) v).run P w = .ok () (w.setRow g (cur.toList.take off ++ v.cells.toList ++ cur.toList.drop (off + v.cells.size)).toArray) := by
  have h := run_storeCells_at P g off ty v.cells.toList 0 cur w hg (by simpa using hfit) h1
  simp only [Nat.add_zero, Array.length_toList] at h
  simp only [Instr.storeAt, Instr.sureAddr, Sem.run_bind, Sem.run_pure, Result.andThen_ok, storeVar, hsz, ne_eq, not_true_eq_false, if_false]
  exact h

theorem addr_at (g k : Nat) : ((⟨g, 0, none⟩ : Addr).add k) = ⟨g, k, none⟩ := by unfold Addr.add; split <;> simp_all

/-- a store into a variable of the call's own -/
theorem Ob.storeBox {ty tag t tt off : Nat} {cells cells' : List Value} {x y : Operand} {v : Value} (hs : s = B.box ty N tag t cells') (hg : o.guard = none) (hd : o.dst = none) (ho : o.op = .store tt x y) (hsz : ∀ w, (sizeOf tt).run P w = .ok v.cells.size w)
    (hfit : off + v.cells.size ≤ cells.length) (h1 : ∀ u ∈ v.cells.toList, u.oneCell' = true) (hc : cells' = cells.take off ++ v.cells.toList ++ cells.drop (off + v.cells.size))
    (hp : ∀ done a w τ, Cx ops sp In a0 w0 bf j o done a w τ → boxR ty cells (τ tag) (get a t) w ∧ a.eval x = .pointer (some ((ptrOf (get a t)).add off)) ∧ a.eval y = v) : Ob ops sp In a0 w0 P bf j o s := by
  subst hs
  refine Ob.tagged hg rfl fun done a w τ c => ?_
  obtain ⟨⟨g, hv, hlt, hT, hgg⟩, hx, hy⟩ := hp done a w τ c
  have hx' : a.eval x = .pointer (some ⟨g, off, none⟩) := by rw [hx, hv]; simp only [ptrOf, addr_at]
  have hr := run_store (P := P) (t := tt) (off := off) hgg hsz (by simpa using hfit) h1
  have hr' : (execOp a.eval o).run P w = .ok .skip (w.setRow g cells'.toArray) := by
    simp only [execOp, ho, hx', hy, Sem.run_bind, hr, Result.andThen_ok]
    rw [hc]
    rfl
  refine wp_of_skip hr' ⟨undef, rfl, (setRow_ext w g _).mono (fun k _ h => by rw [h]; exact hT), τ tag, fun g h => .inl h, ?_⟩
  show boxR ty cells' _ (get (a.put o.dst _) t) _
  rw [hd, get_put_none]
  exact ⟨g, hv, by simp [World.setRow, hlt], hT, setRow_heap w g _ _ ty _ hgg⟩

/-- a list written out -/
theorem Ob.buildSlice {α : Type} {E : Enc α} {ty e tag t n : Nat} {xs : List α} {parts : Array (Nat × Operand)} {z : Value} {cells : Array Value} (hs : s = own E e N tag t xs) (hg : o.guard = none) (hd : o.dst = some t) (ho : o.op = .buildSlice ty n parts)
    (hty : P.underlying ty = some (.slice e)) (hsz : ∀ w, (sizeOf e).run P w = .ok E.sz w) (hz : ∀ w, (zeroValue e).run P w = .ok z w) (hn : n = xs.length) (hn0 : 0 < n) (hsmall : n * E.sz ≤ 16777216)
    (hf : ∀ done a w τ, Cx ops sp In a0 w0 bf j o done a w τ → Instr.fill (fun i => some (i * E.sz, E.sz)) ((Array.range (n * E.sz)).map (z.cells[· % z.cells.size]!)) (parts.map fun (i, x) => (i, a.eval x)).toList = some cells)
    (hc : cells.toList = E.row xs) : Ob ops sp In a0 w0 P bf j o s := by
  subst hs
  refine Ob.tagged hg rfl fun done a w τ c => ?_
  have h2 : ¬ (n * E.sz > 2 ^ 24) := by omega
  have h0 : ¬ (n * E.sz = 0) := by have := Nat.mul_pos hn0 E.pos; omega
  have hr : (execOp a.eval o).run P w = .ok (.value (.slice (some ⟨w.heap.size, 0, none⟩) n n)) (w.alloc (.cells cells e)) := by
    have hfz := hf done a w τ c
    simp only [execOp, ho, Instr.buildSlice, Sem.run_bind, run_underlying hty, Result.andThen_ok, hsz, h2, if_false, Sem.run_pure, h0, hz]
    rw [hfz]
    rfl
  have hl : cells.size = n * E.sz := by rw [← Array.length_toList, hc, E.row_length, hn]
  refine wp_of_run hr ⟨_, rfl, Ext.alloc _ _ _, fun g => g = w.heap.size, fun g hg => .inr (by subst hg; simp), ?_⟩
  show ownR E e xs _ (get (a.put o.dst _) t) _
  rw [hd, get_put a t t _ (c.lt t hd), if_pos rfl]
  refine ⟨⟨E.row_length xs, .inr ⟨w.heap.size, n, cells, by rw [hn], Nat.zero_le _, heap_alloc_new w _, by omega, ?_, hl, ?_⟩⟩, fun g h => ?_⟩
  · have := Nat.le_mul_of_pos_right n E.pos; simp only [maxLen]; omega
  · rw [hc, ← E.row_length]; exact List.take_length
  · simp only [Value.ownBlock, Option.some.injEq] at h; exact h.symm
theorem Ob.buildEmpty {α : Type} {E : Enc α} {ty e tag t : Nat} (hs : s = own E e N tag t ([] : List α)) (hg : o.guard = none) (hd : o.dst = some t) (ho : o.op = .buildSlice ty 0 #[])
    (hty : P.underlying ty = some (.slice e)) (hsz : ∀ w, (sizeOf e).run P w = .ok E.sz w) : Ob ops sp In a0 w0 P bf j o s := by
  subst hs
  refine Ob.tagged hg rfl fun done a w τ c => ?_
  have hr : (execOp a.eval o).run P w = .ok (.value (.slice (some ⟨w.heap.size, 0, none⟩) 0 0)) (w.alloc (.cells #[] e)) := by
    have e0 : Array.range 0 = #[] := Array.eq_empty_of_size_eq_zero (by simp)
    simp [execOp, ho, Instr.buildSlice, run_underlying hty, hsz, Instr.fill, newRow, newObj, e0]
    rfl
  refine wp_of_run hr ⟨_, rfl, Ext.alloc _ _ _, fun g => g = w.heap.size, fun g hg => .inr (by subst hg; simp), ?_⟩
  show ownR E e [] _ (get (a.put o.dst _) t) _
  rw [hd, get_put a t t _ (c.lt t hd), if_pos rfl]
  refine ⟨⟨E.row_length [], .inr ⟨w.heap.size, 0, #[], rfl, Nat.zero_le _, heap_alloc_new w _, Nat.le_refl _, Nat.zero_le _, by simp, by simp [Enc.row]⟩⟩, fun g h => ?_⟩
  simp only [Value.ownBlock, Option.some.injEq] at h; exact h.symm

/-- append to a slice of the call's own -/
theorem Ob.append {α : Type} {E : Enc α} {ty e tag t t0 : Nat} {xs ys : List α} {x y : Operand} {z : Value} {i : TypeInfo} (hs : s = own E e N tag t (xs ++ ys)) (hg : o.guard = none) (hd : o.dst = some t)
    (ho : o.op = .call { callee := .builtin .append, args := #[x, y], argTypes := #[ty, ty] })
    (hty : P.underlying ty = some (.slice e)) (hi : P.info? e = some i) (hz : i.zero = some z) (hsize : i.size = E.sz) (hzs : z.cells.size = E.sz)
    (h63 : xs.length + ys.length ≤ maxLen) (hby : (xs.length + ys.length) * i.bytes ≤ 140737488355328)
    (hp : ∀ done a w τ, Cx ops sp In a0 w0 bf j o done a w τ → ownR E e xs (τ tag) (get a t0) w ∧ a.eval x = get a t0 ∧ ∃ u, a.eval y = u ∧ SlT E w u ys) : Ob ops sp In a0 w0 P bf j o s := by
  subst hs
  refine Ob.tagged hg rfl fun done a w τ c => ?_
  obtain ⟨⟨hown, hT⟩, hx, u, hy, hsl⟩ := hp done a w τ c
  obtain ⟨v', w', hr, h2, h3, h4⟩ := run_append (P := P) (E := E) ty o.type e i z hty hi hz hsize hzs hown hsl h63 hby
  have hr' : (execOp a.eval o).run P w = .ok (.value v') w' := by
    simp only [execOp, ho, resolve, invoke, builtin, Sem.run_bind, Sem.run_pure, Result.andThen_ok, List.map_toArray, List.map_cons, List.map_nil, hx, hy, hr]
  refine wp_of_run hr' ⟨_, rfl, h3.mono (fun k _ h => hT k h), fun g => v'.ownBlock = some g, fun g hg => (h4 g hg).elim (fun h => .inl (hT g h)) (fun h => .inr h), ?_⟩
  show ownR E e (xs ++ ys) _ (get (a.put o.dst _) t) _
  rw [hd, get_put a t t _ (c.lt t hd), if_pos rfl]
  exact ⟨h2, fun g h => h⟩

/-- what a mark bears moves to another place -/
theorem Ob.moveT {tag t t0 : Nat} {R : Foot → Foot → Value → World → Prop} {x : Operand} (ht : s.tag = some tag) (hsl : s.slot = t) (hR : s.R = R) (hg : o.guard = none) (hd : o.dst = some t) (ho : o.op = .move x ∨ o.op = .assign x)
    (hp : ∀ done a w τ, Cx ops sp In a0 w0 bf j o done a w τ → R (Zof τ w) (τ tag) (get a t0) w ∧ a.eval x = get a t0) : Ob ops sp In a0 w0 P bf j o s := by
  refine Ob.tagged hg ht fun done a w τ c => ?_
  obtain ⟨h1, hx⟩ := hp done a w τ c
  have hr : Runs P a o w (get a t0) := by
    rcases ho with ho | ho
    · exact r_move ho hx
    · exact r_assign ho hx
  refine wp_of_run hr ⟨_, rfl, Ext.refl _ _, τ tag, fun g h => .inl h, ?_⟩
  rw [hsl, hd, get_put a t t _ (c.lt t hd), if_pos rfl]
  have e1 : upd τ tag (τ tag) = τ := by
    funext t g
    unfold upd
    split
    · rename_i e; rw [e]
    · rfl
  rw [e1, hR]
  exact h1

def Enters (P : Program) (a : Act) (o : Oper) (w : World) (f : FuncId) (args : Array Value) : Prop := (execOp a.eval o).run P w = .ok (.enter f args) w
theorem e_call {a : Act} {w : World} {x : Operand} {as : Array Operand} {ts : Array TypeId} {f : FuncId} {caps args : Array Value} (ho : o.op = .call { callee := .value x, args := as, argTypes := ts }) (hx : a.eval x = .func (.func f) #[] caps)
    (hcall : ∀ args w, (callFunc f args).run P w = .ok (.enter f args) w) (has : as.map a.eval ++ caps = args) : Enters P a o w f args := by
  subst has
  simp only [Enters, execOp, ho, resolve, hx, Deferred.ofValue, Sem.run_bind, Sem.run_pure, Result.andThen_ok, invoke, hcall]
  simp

/-- a call whose answer is known, which makes memory alone -/
theorem Ob.call {t : Nat} {v : Value} (hs : s = B.det N t v) (hg : o.guard = none) (hd : o.dst = some t)
    (h : ∀ done a w τ, Cx ops sp In a0 w0 bf j o done a w τ → ∃ f args, Enters P a o w f args ∧ Calls P f args w (fun e w' => e = .returned v ∧ Ext none' w w')) : Ob ops sp In a0 w0 P bf j o s :=
  Ob.mk0 hg fun done a w τ c => by
    obtain ⟨f, args, h1, h2⟩ := h done a w τ c
    subst hs
    unfold Oper.wp
    rw [h1]
    refine h2.mono fun e w' ⟨he, hx⟩ => ?_
    subst he
    refine ⟨v, rfl, hx, ?_⟩
    show get (a.put o.dst v) t = v
    rw [hd, get_put a t t v (c.lt t hd), if_pos rfl]
/-- .. under a guard -/
theorem Ob.gcall {t gi tg : Nat} {want b : Bool} {pc : Prop} {v : Value} (hs : s = B.gdet N t pc v) (hg : o.guard = some (gi, want)) (hd : o.dst = some t) (hgd : ((ops[gi]?).bind (·.dst)) = some tg)
    (hgs : sp[gi]? = some (B.det N tg (.bool b))) (hb : (bf.getD j 0).testBit gi = true) (hpc : pc ↔ b = want)
    (h : ∀ done a w τ, Cx ops sp In a0 w0 bf j o done a w τ → pc → ∃ f args, Enters P a o w f args ∧ Calls P f args w (fun e w' => e = .returned v ∧ Ext none' w w')) : Ob ops sp In a0 w0 P bf j o s := by
  intro done a w τ c
  have hv : get a tg = .bool b := c.v gi hgs hb
  have hw : Region.wanted o (yielded ops a.tmps) = (b == want) := by
    have : a.tmps[tg]? = some (.bool b) := by
      unfold get at hv
      rw [Array.getD_eq_getD_getElem?] at hv
      cases h' : a.tmps[tg]? with
      | none => rw [h'] at hv; simp [undef] at hv
      | some u => rw [h'] at hv; simp at hv; rw [hv]
    cases b <;> cases want <;> simp [Region.wanted, hg, yielded, hgd, this]
  subst hs
  refine ⟨fun hw' => ?_, fun hw' => ?_⟩
  · rw [hw] at hw'
    have hp : pc := hpc.2 (by simpa using hw')
    obtain ⟨f, args, h1, h2⟩ := h done a w τ c hp
    unfold Oper.wp
    rw [h1]
    refine h2.mono fun e w' ⟨he, hx⟩ => ?_
    subst he
    refine ⟨v, rfl, hx, ?_⟩
    show (pc → get (a.put o.dst v) t = v) ∧ (¬ pc → get (a.put o.dst v) t = undef)
    rw [hd, get_put a t t v (c.lt t hd), if_pos rfl]
    exact ⟨fun _ => rfl, fun hn => absurd hp hn⟩
  · rw [hw] at hw'
    have hp : ¬ pc := fun hp => by rw [hpc.1 hp] at hw'; simp at hw'
    refine ⟨Ext.refl _ _, ?_⟩
    show (pc → get (a.put o.dst undef) t = v) ∧ (¬ pc → get (a.put o.dst undef) t = undef)
    rw [hd, get_put a t t undef (c.lt t hd), if_pos rfl]
    exact ⟨fun h => absurd h hp, fun _ => rfl⟩
theorem Ob.ggcall {t gi tg : Nat} {want b : Bool} {pc pg : Prop} {v : Value} (hs : s = B.gdet N t pc v) (hg : o.guard = some (gi, want)) (hd : o.dst = some t) (hgd : ((ops[gi]?).bind (·.dst)) = some tg)
    (hgs : sp[gi]? = some (B.gdet N tg pg (.bool b))) (hb : (bf.getD j 0).testBit gi = true) (hpc : pc ↔ (pg ∧ b = want))
    (h : ∀ done a w τ, Cx ops sp In a0 w0 bf j o done a w τ → pc → ∃ f args, Enters P a o w f args ∧ Calls P f args w (fun e w' => e = .returned v ∧ Ext none' w w')) : Ob ops sp In a0 w0 P bf j o s := by
  intro done a w τ c
  have hv : (pg → get a tg = .bool b) ∧ (¬ pg → get a tg = undef) := c.J.det gi _ hgs rfl (c.pre gi hb)
  subst hs
  by_cases hpg : pg
  · have hv' := hv.1 hpg
    have hw : Region.wanted o (yielded ops a.tmps) = (b == want) := by
      have : a.tmps[tg]? = some (.bool b) := by
        unfold get at hv'
        rw [Array.getD_eq_getD_getElem?] at hv'
        cases h' : a.tmps[tg]? with
        | none => rw [h'] at hv'; simp [undef] at hv'
        | some u => rw [h'] at hv'; simp at hv'; rw [hv']
      cases b <;> cases want <;> simp [Region.wanted, hg, yielded, hgd, this]
    refine ⟨fun hw' => ?_, fun hw' => ?_⟩
    · rw [hw] at hw'
      have hp : pc := hpc.2 ⟨hpg, by simpa using hw'⟩
      obtain ⟨f, args, h1, h2⟩ := h done a w τ c hp
      unfold Oper.wp
      rw [h1]
      refine h2.mono fun e w' ⟨he, hx⟩ => ?_
      subst he
      refine ⟨v, rfl, hx, ?_⟩
      show (pc → get (a.put o.dst v) t = v) ∧ (¬ pc → get (a.put o.dst v) t = undef)
      rw [hd, get_put a t t v (c.lt t hd), if_pos rfl]
      exact ⟨fun _ => rfl, fun hn => absurd hp hn⟩
    · rw [hw] at hw'
      have hp : ¬ pc := fun hp => by rw [(hpc.1 hp).2] at hw'; simp at hw'
      refine ⟨Ext.refl _ _, ?_⟩
      show (pc → get (a.put o.dst undef) t = v) ∧ (¬ pc → get (a.put o.dst undef) t = undef)
      rw [hd, get_put a t t undef (c.lt t hd), if_pos rfl]
      exact ⟨fun h => absurd h hp, fun _ => rfl⟩
  · have hv' := hv.2 hpg
    have hw : Region.wanted o (yielded ops a.tmps) = false := by
      have : ∀ bb, a.tmps[tg]? ≠ some (.bool bb) := by
        intro bb h'
        unfold get at hv'
        rw [Array.getD_eq_getD_getElem?, h'] at hv'
        simp [undef] at hv'
      have hy : yielded ops a.tmps gi = none := by
        cases h' : a.tmps[tg]? with
        | none => simp [yielded, hgd, h']
        | some u => cases u <;> first | exact absurd h' (this _) | simp [yielded, hgd, h']
      simp [Region.wanted, hg, hy]
    have hp : ¬ pc := fun hp => hpg (hpc.1 hp).1
    refine ⟨fun hw' => (by rw [hw] at hw'; cases hw'), fun _ => ⟨Ext.refl _ _, ?_⟩⟩
    show (pc → get (a.put o.dst undef) t = v) ∧ (¬ pc → get (a.put o.dst undef) t = undef)
    rw [hd, get_put a t t undef (c.lt t hd), if_pos rfl]
    exact ⟨fun h => absurd h hp, fun _ => rfl⟩
/-- a call that hands back, or turns, memory of the call's own -/
theorem Ob.callT {tag : Nat} (hg : o.guard = none) (ht : s.tag = some tag)
    (h : ∀ done a w τ, Cx ops sp In a0 w0 bf j o done a w τ → ∃ f args, Enters P a o w f args ∧ Calls P f args w (fun e w' => ∃ v, e = .returned v ∧ Ext (τ tag) w w' ∧ ∃ T' : Foot, (∀ g, T' g → τ tag g ∨ (w.heap.size ≤ g ∧ g < w'.heap.size)) ∧ s.R (Zof (upd τ tag T') w') T' (get (a.put o.dst v) s.slot) w')) : Ob ops sp In a0 w0 P bf j o s :=
  Ob.tagged hg ht fun done a w τ c => by
    obtain ⟨f, args, h1, h2⟩ := h done a w τ c
    unfold Oper.wp
    rw [h1]
    refine h2.mono fun e w' ⟨v, he, h3⟩ => ?_
    subst he
    exact ⟨v, rfl, h3⟩
/-- .. that hands back a slice of its own -/
theorem Ob.callOwn {α : Type} {E : Enc α} {ty tag t : Nat} {xs : List α} (hs : s = own E ty N tag t xs) (hg : o.guard = none) (hd : o.dst = some t)
    (h : ∀ done a w τ, Cx ops sp In a0 w0 bf j o done a w τ → ∃ f args, Enters P a o w f args ∧ Calls P f args w (fun e w' => ∃ v, e = .returned v ∧ Ext none' w w' ∧ NewT E ty w w' v xs)) : Ob ops sp In a0 w0 P bf j o s := by
  subst hs
  refine Ob.callT (tag := tag) hg rfl fun done a w τ c => ?_
  obtain ⟨f, args, h1, h2⟩ := h done a w τ c
  refine ⟨f, args, h1, h2.mono fun e w' ⟨v, he, hx, ho⟩ => ⟨v, he, hx.mono (fun _ _ h => h.elim), fun g => v.ownBlock = some g, fun g hg => .inr ⟨ho.2 g hg, ho.1.lt g hg⟩, ?_⟩⟩
  show ownR E ty xs _ (get (a.put o.dst v) t) w'
  rw [hd, get_put a t t v (c.lt t hd), if_pos rfl]
  exact ⟨ho.1, fun g h => h⟩
end obs

/-! ### A function's state between its regions -/
structure St (N : Foot) (W0 : World) (n : Nat) (a : Act) (w : World) (τ : Nat → Foot) : Prop where
  defers : a.defers = []
  size : a.tmps.size = n
  ext : Ext N W0 w
  big : ∀ k, w.heap.size ≤ k → N k
  disj : ∀ s t g, τ s g → τ t g → s = t
  bnd : ∀ t g, τ t g → N g ∧ g < w.heap.size

def iniOf {N : Foot} (l : List (Ini N)) (t : Nat) : Ini N := l.getD t (Ini.any N)
def IniAll {N : Foot} (τ : Nat → Foot) (w : World) : Nat → List (Ini N) → Prop
  | _, [] => True
  | k, i :: l => i.I (Zof τ w) (τ k) w ∧ IniAll τ w (k + 1) l
theorem iniAll_spec {N : Foot} {τ : Nat → Foot} {w : World} : ∀ {l : List (Ini N)} {k : Nat}, IniAll τ w k l → ∀ t, (l.getD t (Ini.any N)).I (Zof τ w) (τ (k + t)) w
  | [], _, _, t => trivial
  | i :: l, k, h, 0 => h.1
  | i :: l, k, h, t + 1 => by
    have := iniAll_spec h.2 t
    rwa [show k + (t + 1) = k + 1 + t by omega]

def unAll (ops : List Oper) (t : Nat) : Bool := ops.all fun o => o.dst != some t

structure Fin {N : Foot} (l : List Oper) (sp : List (Spec N)) (il : List (Ini N)) (a0 a : Act) (w : World) (τ : Nat → Foot) : Prop where
  same : ∀ t, unAll l t = true → get a t = get a0 t
  det : ∀ (j : Nat) (s : Spec N), sp[j]? = some s → s.tag = none → s.R (Zof τ w) none' (get a s.slot) w
  res : ∀ (j t : Nat) (s : Spec N), sp[j]? = some s → s.tag = some t → lastTag (sp.map (·.tag)) t sp.length = some j → s.R (Zof τ w) (τ t) (get a s.slot) w
  ini : ∀ t, lastTag (sp.map (·.tag)) t sp.length = none → (iniOf il t).I (Zof τ w) (τ t) w
theorem Fin.old {N : Foot} {l : List Oper} {sp : List (Spec N)} {il : List (Ini N)} {a0 a : Act} {w : World} {τ : Nat → Foot} (h : Fin l sp il a0 a w τ) {t : Nat} {v : Value} (h0 : get a0 t = v) (hu : unAll l t = true) : get a t = v := (h.same t hu).trans h0
theorem Fin.v {N : Foot} {l : List Oper} {sp : List (Spec N)} {il : List (Ini N)} {a0 a : Act} {w : World} {τ : Nat → Foot} (h : Fin l sp il a0 a w τ) (j : Nat) {t : Nat} {v : Value} (hs : sp[j]? = some (B.det N t v)) : get a t = v := h.det j _ hs rfl

/-- THE RULE, for a function's state -/
theorem region_St {N : Foot} {n : Nat} {W0 : World} {P : Program} {l : List Oper} {sp : List (Spec N)} (il : List (Ini N)) {a0 : Act} {w0 : World} {τ0 : Nat → Foot} {bf : List Nat} {id : Nat} {draw : Bool} (hm : P.follows .mixedOrders = true)
    {Q : Exit → Act → World → Prop} (hst : St N W0 n a0 w0 τ0) (hok : (okOps l.toArray n && okBf l.toArray bf && okSp l.toArray bf (sp.map (·.slot)) (sp.map (·.tag))) = true)
    (hini : IniAll τ0 w0 0 il) (obs : ObList l.toArray sp (iniOf il) a0 w0 P bf 0 l sp)
    (fin : ∀ a w τ, St N W0 n a w τ → Fin l sp il a0 a w τ → Q .normal a w) : (Code.region id l.toArray draw).wp P Q a0 w0 := by
  have hlen : sp.length = l.length := by
    simp only [Bool.and_eq_true] at hok
    have h3 := hok.2
    unfold okSp at h3
    simp only [Bool.and_eq_true, List.length_map, beq_iff_eq] at h3
    simpa using h3.1.1
  refine region_J (N := N) (ini := iniOf il) (τ := τ0) hm (by rw [hst.size]; exact hok) hst.big hst.disj hst.bnd (fun t => ?_) obs fun done a w τ hd hJ => ?_
  · have := iniAll_spec hini t
    rwa [Nat.zero_add] at this
  · refine fin a w τ ⟨hJ.defers.trans hst.defers, hJ.size.trans hst.size, hst.ext.trans hJ.ext, hJ.big, hJ.disj, hJ.bnd⟩ ⟨fun t ht => ?_, fun j s hs ht => ?_, fun j t s hs ht hl => ?_, fun t hl => ?_⟩
    · refine hJ.un t fun i o hi hdst => ?_
      exfalso
      unfold unAll at ht
      rw [List.all_eq_true] at ht
      have := ht o (List.mem_of_getElem? (by simpa using hi))
      simp [hdst] at this
    · exact hJ.det j s hs ht (hd j (by rw [← hlen]; exact (List.getElem?_eq_some_iff.1 hs).1))
    · obtain ⟨h1, h2, h3⟩ := lastTag_some hl
      refine hJ.res j s t hs ht (hd j (by omega)) fun k s' hk hlt hkt => ?_
      exact absurd (by rw [tag_getD hk]; exact hkt) (h3 k hlt (List.getElem?_eq_some_iff.1 hk).1)
    · refine hJ.ini t fun k s' hk hkt => ?_
      exact absurd (by rw [tag_getD hk]; exact hkt) (lastTag_none hl k (List.getElem?_eq_some_iff.1 hk).1)
end B
end Go.Proofs.YtdbchpoaoghgpaaGreatDoor

namespace Go.Proofs.YtdbchpoaoghgpaaGreatDoor
namespace B
open Go.RowKit

/-- own territory: what is new since the call began -/
def Nw (w : World) : Foot := fun k => w.heap.size ≤ k

theorem enter {P : Program} {f : FuncId} {fn : Func} {c : Code} {args : Array Value} {w : World} {R : Ending → World → Prop} {n : Nat} (hf : P.funcs[f]? = some fn) (hb : fn.body = some c) (hn : fn.ntmps = n) (hle : args.size ≤ n)
    (h : ∀ a τ, (∀ i v, args[i]? = some v → get a i = v) → St (Nw w) w n a w τ → c.wp P (bodyPost P fn R) a w) : Calls P f args w R := by
  refine calls_of_wp hf hb (h _ (fun _ _ => False) (fun i v hi => ?_) ⟨rfl, ?_, Ext.refl _ _, fun k hk => hk, fun s t g h => h.elim, fun t g h => h.elim⟩)
  · unfold get
    have hlt : i < args.size := (Array.getElem?_eq_some_iff.1 hi).1
    rw [Array.getD_eq_getD_getElem?, Array.getElem?_append_left hlt, hi]
    rfl
  · simp [hn]; omega
/-- the same for a function that turns memory that it was handed -/
theorem enterIn {P : Program} {f : FuncId} {fn : Func} {c : Code} {args : Array Value} {w : World} {R : Ending → World → Prop} {n : Nat} (T : Foot) (hT : ∀ g, T g → g < w.heap.size) (hf : P.funcs[f]? = some fn) (hb : fn.body = some c) (hn : fn.ntmps = n) (hle : args.size ≤ n)
    (h : ∀ a τ, (∀ i v, args[i]? = some v → get a i = v) → τ 0 = T → St (fun k => T k ∨ w.heap.size ≤ k) w n a w τ → c.wp P (bodyPost P fn R) a w) : Calls P f args w R := by
  refine calls_of_wp hf hb (h _ (fun t g => t = 0 ∧ T g) (fun i v hi => ?_) (by funext g; simp) ⟨rfl, ?_, Ext.refl _ _, fun k hk => .inr hk, fun s t g h1 h2 => by rw [h1.1, h2.1], fun t g h => ⟨.inl h.2, hT g h.2⟩⟩)
  · unfold get
    have hlt : i < args.size := (Array.getElem?_eq_some_iff.1 hi).1
    rw [Array.getD_eq_getD_getElem?, Array.getElem?_append_left hlt, hi]
    rfl
  · simp [hn]; omega

theorem ret1 {P : Program} {fn : Func} {R : Ending → World → Prop} {a : Act} {w : World} {t : Nat} {v : Value} (hr : fn.results = #[.tmp t]) (hd : a.defers = []) (hv : get a t = v) (h : R (.returned v) w) : bodyPost P fn R .ret a w :=
  bodyPost_ret (v := v) (by rw [results_tmp hr]; exact congrArg (fun v => Result.ok v w) hv) hd h
theorem end0 {P : Program} {fn : Func} {R : Ending → World → Prop} {a : Act} {w : World} (hr : fn.results = #[]) (hd : a.defers = []) (h : R (.returned (.tuple #[])) w) : bodyPost P fn R .normal a w :=
  bodyPost_end (results_none hr _ _ _) hd h
theorem ret2 {P : Program} {fn : Func} {R : Ending → World → Prop} {a : Act} {w : World} {t t' : Nat} {v v' : Value} (hr : fn.results = #[.tmp t, .tmp t']) (hd : a.defers = []) (hv : get a t = v) (hv' : get a t' = v') (h : R (.returned (.tuple #[v, v'])) w) : bodyPost P fn R .ret a w :=
  bodyPost_ret (v := .tuple #[v, v']) (by rw [results_tmp2 hr]; exact (by rw [← hv, ← hv']; rfl)) hd h

theorem St.ext0 {n : Nat} {W : World} {a : Act} {w : World} {τ : Nat → Foot} (h : St (Nw W) W n a w τ) : Ext none' W w :=
  ⟨h.ext.os, h.ext.tape, h.ext.output, h.ext.size, fun k hk _ => h.ext.block k hk (fun hn : W.heap.size ≤ k => by omega)⟩

/-- what came in reads as it did -/
theorem SlT.at {α : Type} {E : Enc α} {W w : World} {v : Value} {xs : List α} (h : SlT E W v xs) (he : Ext (Nw W) W w) : SlT E w v xs :=
  h.keep he fun hne hn => by have := h.lt hne; simp only [Nw] at hn; omega

def nth {α : Type} [Inhabited α] (xs : List α) (i : Int) : α := xs.getD i.toNat default
theorem nth_some {α : Type} [Inhabited α] {xs : List α} {i : Int} (h0 : 0 ≤ i) (h1 : i < xs.length) : xs[i.toNat]? = some (nth xs i) := by
  have : i.toNat < xs.length := by omega
  simp [nth, List.getD, List.getElem?_eq_getElem this]
theorem nth_nat {α : Type} [Inhabited α] (xs : List α) (k : Nat) : nth xs (k : Int) = xs.getD k default := rfl

section
variable {N : Foot} {P : Program} {ops : Array Oper} {sp : List (Spec N)} {In : Nat → Ini N} {a0 : Act} {w0 : World} {bf : List Nat} {j : Nat} {o : Oper} {done : Nat → Bool} {a : Act} {w : World} {τ : Nat → Foot}
theorem Cx.ev (c : Cx ops sp In a0 w0 bf j o done a w τ) (i : Nat) {t : Nat} {val : Value} (hs : sp[i]? = some (B.det N t val)) (hb : (bf.getD j 0).testBit i = true) : a.eval (.tmp t) = val := c.v i hs hb
theorem Cx.eg (c : Cx ops sp In a0 w0 bf j o done a w τ) (i : Nat) {t : Nat} {pc : Prop} {val : Value} (hs : sp[i]? = some (B.gdet N t pc val)) (hb : (bf.getD j 0).testBit i = true) (hpc : pc) : a.eval (.tmp t) = val := c.g i hs hb hpc
theorem Cx.eo (c : Cx ops sp In a0 w0 bf j o done a w τ) {t : Nat} {val : Value} (h0 : get a0 t = val) (h : unB ops bf j t = true) : a.eval (.tmp t) = val := c.old h0 h
theorem Cx.ibox {ty : Nat} {v : Value} {cells : List Value} (c : Cx ops sp In a0 w0 bf j o done a w τ) (t : Nat) (hI : In t = B.ibox ty N v cells) (hl : lastTag (sp.map (·.tag)) t j = none) (hord : ordB (sp.map (·.tag)) bf t j = true) : boxR ty cells (τ t) v w :=
  c.ini t _ hI hl hord
theorem Cx.iown {α : Type} {E : Enc α} {ty : Nat} {v : Value} {xs : List α} (c : Cx ops sp In a0 w0 bf j o done a w τ) (t : Nat) (hI : In t = B.iown E ty N v xs) (hl : lastTag (sp.map (·.tag)) t j = none) (hord : ordB (sp.map (·.tag)) bf t j = true) : ownR E ty xs (τ t) v w :=
  c.ini t _ hI hl hord
theorem Cx.rbox {ty t slot : Nat} {cells : List Value} (c : Cx ops sp In a0 w0 bf j o done a w τ) (i : Nat) (hs : sp[i]? = some (B.box ty N t slot cells)) (hl : lastTag (sp.map (·.tag)) t j = some i) (hord : ordB (sp.map (·.tag)) bf t j = true) : boxR ty cells (τ t) (get a slot) w :=
  c.res i t _ hs hl hord
theorem Cx.rown {α : Type} {E : Enc α} {ty t slot : Nat} {xs : List α} (c : Cx ops sp In a0 w0 bf j o done a w τ) (i : Nat) (hs : sp[i]? = some (B.own E ty N t slot xs)) (hl : lastTag (sp.map (·.tag)) t j = some i) (hord : ordB (sp.map (·.tag)) bf t j = true) : ownR E ty xs (τ t) (get a slot) w :=
  c.res i t _ hs hl hord
end
section
variable {N : Foot} {l : List Oper} {sp : List (Spec N)} {il : List (Ini N)} {a0 a : Act} {w : World} {τ : Nat → Foot}
theorem Fin.rbox (h : Fin l sp il a0 a w τ) {ty t slot : Nat} {cells : List Value} (j : Nat) (hs : sp[j]? = some (B.box ty N t slot cells)) (hl : lastTag (sp.map (·.tag)) t sp.length = some j) {v : Value} (hv : get a slot = v) : boxR ty cells (τ t) v w :=
  hv ▸ h.res j t _ hs rfl hl
theorem Fin.rown (h : Fin l sp il a0 a w τ) {α : Type} {E : Enc α} {ty t slot : Nat} {xs : List α} (j : Nat) (hs : sp[j]? = some (B.own E ty N t slot xs)) (hl : lastTag (sp.map (·.tag)) t sp.length = some j) {v : Value} (hv : get a slot = v) : ownR E ty xs (τ t) v w :=
  hv ▸ h.res j t _ hs rfl hl
theorem Fin.ibox (h : Fin l sp il a0 a w τ) {ty : Nat} {v : Value} {cells : List Value} (t : Nat) (hI : iniOf il t = B.ibox ty N v cells) (hl : lastTag (sp.map (·.tag)) t sp.length = none) : boxR ty cells (τ t) v w := by
  have := h.ini t hl
  rw [hI] at this
  exact this
theorem Fin.iown (h : Fin l sp il a0 a w τ) {α : Type} {E : Enc α} {ty : Nat} {v : Value} {xs : List α} (t : Nat) (hI : iniOf il t = B.iown E ty N v xs) (hl : lastTag (sp.map (·.tag)) t sp.length = none) : ownR E ty xs (τ t) v w := by
  have := h.ini t hl
  rw [hI] at this
  exact this
end
theorem ownR.cast {α : Type} {E : Enc α} {ty : Nat} {xs ys : List α} {T : Foot} {v : Value} {w : World} (h : ownR E ty xs T v w) (e : ys = xs) : ownR E ty ys T v w := e ▸ h
theorem ownR.nil {α : Type} (E : Enc α) (ty : Nat) (T : Foot) (w : World) : ownR E ty ([] : List α) T (.slice none 0 0) w := ⟨OwnT.nil E ty w, fun g h => by simp [Value.ownBlock] at h⟩
theorem ownR.isSl {α : Type} {E : Enc α} {ty : Nat} {xs : List α} {T : Foot} {v : Value} {w : World} (h : ownR E ty xs T v w) : IsSl v xs.length := h.1.sl.sl
theorem SlT.le {α : Type} {E : Enc α} {xs : List α} {v : Value} {w : World} (h : SlT E w v xs) : xs.length ≤ 9223372036854775807 := h.sl.le
theorem ownR.le {α : Type} {E : Enc α} {ty : Nat} {xs : List α} {T : Foot} {v : Value} {w : World} (h : ownR E ty xs T v w) : xs.length ≤ 9223372036854775807 := h.1.sl.sl.le
theorem exit_here {id : Nat} {Q : Exit → Act → World → Prop} {a : Act} {w : World} (h : Q .normal a w) : Exit.inBlock id Q (.exit id) a w := by simpa [Exit.inBlock] using h
theorem exit_out {id id' : Nat} {Q : Exit → Act → World → Prop} {a : Act} {w : World} (hne : id' ≠ id) (h : Q (.exit id') a w) : Exit.inBlock id Q (.exit id') a w := by simpa [Exit.inBlock, hne] using h
theorem int_eq {k : IntKind} {p q : Int} (h : p = q) : Value.int k p = Value.int k q := h ▸ rfl
section
variable {P : Program} {a : Act} {o : Oper} {w : World} {x : Operand} {ts : Array TypeId} {f : FuncId}
theorem e_call0 (ho : o.op = .call { callee := .value x, args := #[], argTypes := ts }) (hx : a.eval x = .func (.func f) #[] #[]) (hcall : ∀ args w, (callFunc f args).run P w = .ok (.enter f args) w) : Enters P a o w f #[] :=
  e_call ho hx hcall (by simp)
theorem e_call1 {x1 : Operand} {v1 : Value} (ho : o.op = .call { callee := .value x, args := #[x1], argTypes := ts }) (hx : a.eval x = .func (.func f) #[] #[]) (hcall : ∀ args w, (callFunc f args).run P w = .ok (.enter f args) w) (h1 : a.eval x1 = v1) : Enters P a o w f #[v1] :=
  e_call ho hx hcall (by simp [h1])
theorem e_call2 {x1 x2 : Operand} {v1 v2 : Value} (ho : o.op = .call { callee := .value x, args := #[x1, x2], argTypes := ts }) (hx : a.eval x = .func (.func f) #[] #[]) (hcall : ∀ args w, (callFunc f args).run P w = .ok (.enter f args) w) (h1 : a.eval x1 = v1) (h2 : a.eval x2 = v2) : Enters P a o w f #[v1, v2] :=
  e_call ho hx hcall (by simp [h1, h2])
theorem e_call3 {x1 x2 x3 : Operand} {v1 v2 v3 : Value} (ho : o.op = .call { callee := .value x, args := #[x1, x2, x3], argTypes := ts }) (hx : a.eval x = .func (.func f) #[] #[]) (hcall : ∀ args w, (callFunc f args).run P w = .ok (.enter f args) w) (h1 : a.eval x1 = v1) (h2 : a.eval x2 = v2) (h3 : a.eval x3 = v3) : Enters P a o w f #[v1, v2, v3] :=
  e_call ho hx hcall (by simp [h1, h2, h3])
theorem e_call4 {x1 x2 x3 x4 : Operand} {v1 v2 v3 v4 : Value} (ho : o.op = .call { callee := .value x, args := #[x1, x2, x3, x4], argTypes := ts }) (hx : a.eval x = .func (.func f) #[] #[]) (hcall : ∀ args w, (callFunc f args).run P w = .ok (.enter f args) w) (h1 : a.eval x1 = v1) (h2 : a.eval x2 = v2) (h3 : a.eval x3 = v3) (h4 : a.eval x4 = v4) : Enters P a o w f #[v1, v2, v3, v4] :=
  e_call ho hx hcall (by simp [h1, h2, h3, h4])
theorem e_call5 {x1 x2 x3 x4 x5 : Operand} {v1 v2 v3 v4 v5 : Value} (ho : o.op = .call { callee := .value x, args := #[x1, x2, x3, x4, x5], argTypes := ts }) (hx : a.eval x = .func (.func f) #[] #[]) (hcall : ∀ args w, (callFunc f args).run P w = .ok (.enter f args) w) (h1 : a.eval x1 = v1) (h2 : a.eval x2 = v2) (h3 : a.eval x3 = v3) (h4 : a.eval x4 = v4) (h5 : a.eval x5 = v5) : Enters P a o w f #[v1, v2, v3, v4, v5] :=
  e_call ho hx hcall (by simp [h1, h2, h3, h4, h5])
end
def SpanE : Enc (Int × Int) := ⟨fun p => [.int .i64 p.1, .int .i64 p.2], 2, by decide, fun _ => rfl, fun x u hu => by simp at hu; rcases hu with rfl | rfl <;> rfl⟩
def IntE : Enc Int := ⟨fun p => [.int .i64 p], 1, by decide, fun _ => rfl, fun x u hu => by simp at hu; rcases hu with rfl; rfl⟩
def BoolE : Enc Bool := ⟨fun p => [.bool p], 1, by decide, fun _ => rfl, fun x u hu => by simp at hu; rcases hu with rfl; rfl⟩
def StrE : Enc ByteArray := ⟨fun p => [.string p], 1, by decide, fun _ => rfl, fun x u hu => by simp at hu; rcases hu with rfl; rfl⟩
def RowE : Enc (ByteArray × ByteArray) := ⟨fun p => [.string p.1, .string p.2], 2, by decide, fun _ => rfl, fun x u hu => by simp at hu; rcases hu with rfl | rfl <;> rfl⟩
def EditE : Enc (Int × Int × ByteArray) := ⟨fun p => [.int .i64 p.1, .int .i64 p.2.1, .string p.2.2], 3, by decide, fun _ => rfl, fun x u hu => by simp at hu; rcases hu with rfl | rfl | rfl <;> rfl⟩
def spanV (p : Int × Int) : Value := .agg #[.int .i64 p.1, .int .i64 p.2]
end B
end Go.Proofs.YtdbchpoaoghgpaaGreatDoor

namespace Go.Proofs.YtdbchpoaoghgpaaGreatDoor
namespace B
open Go.RowKit

def splice (l : List Value) (o : Nat) (vs : List Value) : List Value := l.take o ++ vs ++ l.drop (o + vs.length)
theorem splice_head {l r vs : List Value} {o : Nat} (h : o + vs.length ≤ l.length) : splice (l ++ r) o vs = splice l o vs ++ r := by
  unfold splice
  rw [List.take_append_of_le_length (by omega), List.drop_append_of_le_length (by omega)]
  simp
theorem splice_tail {l r vs : List Value} {o : Nat} : splice (l ++ r) (l.length + o) vs = l ++ splice r o vs := by
  unfold splice
  rw [List.take_append, List.drop_append]
  rw [List.take_of_length_le (by omega), List.drop_of_length_le (by omega), show l.length + o - l.length = o by omega, show l.length + o + vs.length - l.length = o + vs.length by omega]
  simp
theorem Enc.row_set {α : Type} (E : Enc α) {xs : List α} {i off : Nat} {x x' : α} {vs : List Value} (hx : xs[i]? = some x) (hl : off + vs.length ≤ E.sz) (hc : E.cells x' = splice (E.cells x) off vs) : splice (E.row xs) (i * E.sz + off) vs = E.row (xs.set i x') := by
  induction xs generalizing i with
  | nil => simp at hx
  | cons y ys ih =>
    have e : E.row (y :: ys) = E.cells y ++ E.row ys := by simp [Enc.row]
    cases i with
    | zero =>
      simp at hx; subst hx
      rw [e, show 0 * E.sz + off = off by omega, splice_head (by rw [E.len]; exact hl), ← hc]
      simp [Enc.row]
    | succ i =>
      rw [e, show (i + 1) * E.sz + off = (E.cells y).length + (i * E.sz + off) by rw [E.len, Nat.add_mul]; omega, splice_tail, ih (by simpa using hx)]
      simp [Enc.row]
theorem splice_take {l vs : List Value} {o n : Nat} (h : o + vs.length ≤ n) (hn : n ≤ l.length) : (splice l o vs).take n = splice (l.take n) o vs := by
  have e : l = l.take n ++ l.drop n := (List.take_append_drop n l).symm
  have hl : (l.take n).length = n := by simp; omega
  conv => lhs; rw [e]
  rw [splice_head (by omega)]
  have h2 : (splice (l.take n) o vs).length = n := by simp [splice]; omega
  rw [List.take_append_of_le_length (by omega), List.take_of_length_le (by omega)]

section
variable {α : Type} {E : Enc α} {ty : Nat} {P : Program} {w : World}
theorem run_storeElem {v u : Value} {xs : List α} {i off tt : Nat} {x x' : α} (h : OwnT E ty w v xs) (hx : xs[i]? = some x) (hsz : ∀ w, (sizeOf tt).run P w = .ok u.cells.size w) (hl : off + u.cells.size ≤ E.sz) (h1 : ∀ c ∈ u.cells.toList, c.oneCell' = true)
    (hc : E.cells x' = splice (E.cells x) off u.cells.toList) :
    ∃ w', (Instr.storeAt tt (.pointer (some ((ptrOf v).add (i * E.sz + off)))) u).run P w = .ok () w' ∧ OwnT E ty w' v (xs.set i x') ∧ Ext (fun k => v.ownBlock = some k) w w' := by
  have hi : i < xs.length := (List.getElem?_eq_some_iff.1 hx).1
  rcases h.2 with ⟨rfl, h0⟩ | ⟨g, cap, cur, rfl, hb, hg, h2, h3, h4, h5⟩
  · omega
  · have hmul : (i + 1) * E.sz ≤ xs.length * E.sz := Nat.mul_le_mul_right _ hi
    have hmul2 : xs.length * E.sz ≤ cap * E.sz := Nat.mul_le_mul_right _ h2
    rw [Nat.add_mul] at hmul
    have hfit : i * E.sz + off + u.cells.size ≤ cur.size := by omega
    have hr := run_store (P := P) (t := tt) (off := i * E.sz + off) hg hsz hfit h1
    refine ⟨_, by simp only [ptrOf, addr_at]; exact hr, ⟨by rw [E.row_length, List.length_set], .inr ⟨g, cap, _, by rw [List.length_set], hb, setRow_heap w g cur _ ty _ hg, by rw [List.length_set]; exact h2, h3, ?_, ?_⟩⟩, ?_⟩
    · simp only [List.size_toArray, List.length_append, List.length_take, List.length_drop, Array.length_toList]
      omega
    · rw [List.length_set, ← E.row_set hx (by simpa using hl) hc, ← h5]
      have := splice_take (l := cur.toList) (vs := u.cells.toList) (o := i * E.sz + off) (n := xs.length * E.sz) (by simp; omega) (by simp; omega)
      rw [← this]
      simp [splice]
    · exact (setRow_ext w g _).mono fun k _ h => by rw [h]; rfl
end

section obs
variable {N : Foot} {P : Program} {ops : Array Oper} {sp : List (Spec N)} {In : Nat → Ini N} {a0 : Act} {w0 : World} {bf : List Nat} {j : Nat} {o : Oper} {s : Spec N}
/-- a store into an element (or a part of it) of a slice of the call's own -/
theorem Ob.storeElem {α : Type} {E : Enc α} {ty tag t tt i off : Nat} {xs : List α} {x x' : α} {p q : Operand} {u : Value} (hs : s = own E ty N tag t (xs.set i x')) (hg : o.guard = none) (hd : o.dst = none) (ho : o.op = .store tt p q) (hsz : ∀ w, (sizeOf tt).run P w = .ok u.cells.size w)
    (hx : xs[i]? = some x) (hl : off + u.cells.size ≤ E.sz) (h1 : ∀ c ∈ u.cells.toList, c.oneCell' = true) (hc : E.cells x' = splice (E.cells x) off u.cells.toList)
    (hp : ∀ done a w τ, Cx ops sp In a0 w0 bf j o done a w τ → ownR E ty xs (τ tag) (get a t) w ∧ a.eval p = .pointer (some ((ptrOf (get a t)).add (i * E.sz + off))) ∧ a.eval q = u) : Ob ops sp In a0 w0 P bf j o s := by
  subst hs
  refine Ob.tagged hg rfl fun done a w τ c => ?_
  obtain ⟨⟨hown, hT⟩, hp', hq⟩ := hp done a w τ c
  obtain ⟨w', hr, h2, h3⟩ := run_storeElem (P := P) (tt := tt) hown hx hsz hl h1 hc
  have hr' : (execOp a.eval o).run P w = .ok .skip w' := by
    simp only [execOp, ho, hp', hq, Sem.run_bind, hr, Result.andThen_ok]
    rfl
  refine wp_of_skip hr' ⟨undef, rfl, h3.mono (fun k _ h => hT k h), τ tag, fun g h => .inl h, ?_⟩
  show ownR E ty (xs.set i x') _ (get (a.put o.dst _) t) _
  rw [hd, get_put_none]
  exact ⟨h2, hT⟩
/-- a call that turns a slice of the call's own in place -/
theorem Ob.callIn {α : Type} {E : Enc α} {ty tag t d : Nat} {xs xs' : List α} {v r : Value} (hs : s = own E ty N tag t xs') (hg : o.guard = none) (hd : o.dst = some d) (hne : t ≠ d)
    (h : ∀ done a w τ, Cx ops sp In a0 w0 bf j o done a w τ → ∃ f args, Enters P a o w f args ∧ get a t = v ∧ ownR E ty xs (τ tag) v w ∧ (OwnT E ty w v xs → Calls P f args w (fun e w' => e = .returned r ∧ OwnT E ty w' v xs' ∧ Ext (fun k => v.ownBlock = some k) w w'))) : Ob ops sp In a0 w0 P bf j o s := by
  subst hs
  refine Ob.callT (tag := tag) hg rfl fun done a w τ c => ?_
  obtain ⟨f, args, h1, h2, h3, h4⟩ := h done a w τ c
  refine ⟨f, args, h1, (h4 h3.1).mono fun e w' ⟨he, ho, hx⟩ => ⟨r, he, hx.mono (fun k _ hk => h3.2 k hk), τ tag, fun g h => .inl h, ?_⟩⟩
  show ownR E ty xs' _ (get (a.put o.dst r) t) w'
  rw [hd, get_put a d t r (c.lt d hd), if_neg hne, h2]
  exact ⟨ho, h3.2⟩
end obs
theorem then_ret {K : Act → World → Prop} {Q : Exit → Act → World → Prop} {a : Act} {w : World} (h : Q .ret a w) : Exit.then K Q .ret a w := h
theorem block_ret {id : Nat} {Q : Exit → Act → World → Prop} {a : Act} {w : World} (h : Q .ret a w) : Exit.inBlock id Q .ret a w := h
theorem then_exit {id : Nat} {K : Act → World → Prop} {Q : Exit → Act → World → Prop} {a : Act} {w : World} (h : Q (.exit id) a w) : Exit.then K Q (.exit id) a w := h
/-- what a call that turns v alone has turned -/
theorem St.extIn {n : Nat} {T : Foot} {W : World} {a : Act} {w : World} {τ : Nat → Foot} (h : St (fun k => T k ∨ W.heap.size ≤ k) W n a w τ) : Ext T W w :=
  h.ext.mono fun k hk hn => hn.resolve_right (by omega)
theorem end0r {P : Program} {fn : Func} {R : Ending → World → Prop} {a : Act} {w : World} (hr : fn.results = #[]) (hd : a.defers = []) (h : R (.returned (.tuple #[])) w) : bodyPost P fn R .ret a w :=
  bodyPost_ret (v := .tuple #[]) (results_none hr _ _ _) hd h
theorem eval_trans {a : Act} {t : Nat} {v v' : Value} (h : get a t = v) (e : v = v') : a.eval (.tmp t) = v' := h.trans e
end B
end Go.Proofs.YtdbchpoaoghgpaaGreatDoor

set_option linter.unusedSimpArgs false
set_option linter.unusedVariables false
namespace Go.Proofs.YtdbchpoaoghgpaaGreatDoor
namespace B
open Go.RowKit

/-- v[lo:hi], elements of m cells -/
def subV (v : Value) (lo hi m : Nat) : Value := match v with
  | .slice a _ cap => .slice (if cap = lo then a else a.map (·.add (lo * m))) (hi - lo) (cap - lo)
  | v => v
def isNil (v : Value) : Bool := match v with
  | .slice none _ _ => true
  | _ => false
section
variable {α : Type} {E : Enc α} {w : World} {v : Value} {xs : List α}
theorem Enc.row_drop (E : Enc α) : ∀ (xs : List α) (n : Nat), E.row (xs.drop n) = (E.row xs).drop (n * E.sz)
  | xs, 0 => by simp
  | [], n + 1 => by simp [Enc.row]
  | x :: xs, n + 1 => by
    have e : E.row (x :: xs) = E.cells x ++ E.row xs := by simp [Enc.row]
    rw [List.drop_succ_cons, E.row_drop xs n, e, List.drop_append, E.len, List.drop_of_length_le (l := E.cells x) (by rw [E.len, Nat.add_mul]; omega), Nat.add_mul, List.nil_append]
    congr 1; omega
theorem Enc.row_take (E : Enc α) : ∀ (xs : List α) (n : Nat), E.row (xs.take n) = (E.row xs).take (n * E.sz)
  | xs, 0 => by simp [Enc.row]
  | [], n + 1 => by simp [Enc.row]
  | x :: xs, n + 1 => by
    have e : E.row (x :: xs) = E.cells x ++ E.row xs := by simp [Enc.row]
    have e' : E.row (x :: xs.take n) = E.cells x ++ E.row (xs.take n) := by simp [Enc.row]
    rw [List.take_succ_cons, e', E.row_take xs n, e, List.take_append, E.len, List.take_of_length_le (l := E.cells x) (by rw [E.len, Nat.add_mul]; omega), Nat.add_mul]
    congr 2; omega
theorem SlT.sub (h : SlT E w v xs) {lo hi : Nat} (h1 : lo ≤ hi) (h2 : hi ≤ xs.length) : SlT E w (subV v lo hi E.sz) ((xs.drop lo).take (hi - lo)) := by
  have hl : ((xs.drop lo).take (hi - lo)).length = hi - lo := by simp; omega
  rcases h.sl with ⟨rfl, h0⟩ | ⟨b, cap, rfl, hc, hm⟩
  · obtain rfl : hi = 0 := by omega
    obtain rfl : lo = 0 := by omega
    exact ⟨.inl ⟨by simp [subV], by simp⟩, fun j u hj => by simp [Enc.row] at hj⟩
  · refine ⟨.inr ⟨if cap = lo then b else b.add (lo * E.sz), cap - lo, ?_, by rw [hl]; omega, by omega⟩, fun j u hj => ?_⟩
    · rw [hl]; simp only [subV]; split <;> rfl
    · have hne : ¬ cap = lo := fun e => by
        have : (xs.drop lo).take (hi - lo) = [] := List.eq_nil_of_length_eq_zero (by omega)
        rw [this] at hj; simp [Enc.row] at hj
      have hp : ptrOf (subV (.slice (some b) xs.length cap) lo hi E.sz) = b.add (lo * E.sz) := by simp [subV, hne, ptrOf]
      rw [hp, add_add]
      refine h.cell (lo * E.sz + j) u ?_
      rw [E.row_take, E.row_drop] at hj
      have hlt : j < (hi - lo) * E.sz := by
        have := (List.getElem?_eq_some_iff.1 hj).1
        simp only [List.length_take] at this; omega
      rw [List.getElem?_take_of_lt hlt, List.getElem?_drop] at hj
      exact hj
theorem SlT.isNil (h : SlT E w v xs) (hn : isNil v = true) : xs = [] := by
  rcases h.sl with ⟨rfl, h0⟩ | ⟨b, cap, rfl, _⟩
  · exact List.eq_nil_of_length_eq_zero h0
  · simp [B.isNil] at hn
end
section
variable {P : Program} {a : Act} {o : Oper} {w : World} {t e : TypeId} {x y z : Operand} {v : Value} {n m : Nat} {k k' : IntKind} {p q : Int}
theorem r_sliceHi (ho : o.op = .slice t x none (some y) none) (ht : P.underlying t = some (.slice e)) (hz : ∀ w, (sizeOf e).run P w = .ok m w) (hx : a.eval x = v) (hv : IsSl v n) (hy : a.eval y = .int k p) (h0 : 0 ≤ p) (h1 : p ≤ n) : Runs P a o w (subV v 0 p.toNat m) := by
  rcases hv with ⟨rfl, rfl⟩ | ⟨b, cap, rfl, hc, _⟩
  · obtain rfl : p = 0 := by omega
    simp [Runs, execOp, ho, hx, hy, Instr.sliceAt, Instr.slice, run_underlying ht, Instr.sliceBounds, Instr.sliceBound, asIntOf, hz, subV]
  · have h2 : p ≤ cap := by omega
    simp [Runs, execOp, ho, hx, hy, Instr.sliceAt, Instr.slice, run_underlying ht, Instr.sliceBounds, Instr.sliceBound, asIntOf, hz, subV, h0, h2]
theorem r_sliceLo (ho : o.op = .slice t x (some y) none none) (ht : P.underlying t = some (.slice e)) (hz : ∀ w, (sizeOf e).run P w = .ok m w) (hx : a.eval x = v) (hv : IsSl v n) (hy : a.eval y = .int k p) (h0 : 0 ≤ p) (h1 : p ≤ n) : Runs P a o w (subV v p.toNat n m) := by
  rcases hv with ⟨rfl, rfl⟩ | ⟨b, cap, rfl, hc, _⟩
  · obtain rfl : p = 0 := by omega
    simp [Runs, execOp, ho, hx, hy, Instr.sliceAt, Instr.slice, run_underlying ht, Instr.sliceBounds, Instr.sliceBound, asIntOf, hz, subV]
  · simp [Runs, execOp, ho, hx, hy, Instr.sliceAt, Instr.slice, run_underlying ht, Instr.sliceBounds, Instr.sliceBound, asIntOf, hz, subV, h0, h1]
theorem r_sliceLH (ho : o.op = .slice t x (some y) (some z) none) (ht : P.underlying t = some (.slice e)) (hz : ∀ w, (sizeOf e).run P w = .ok m w) (hx : a.eval x = v) (hv : IsSl v n) (hy : a.eval y = .int k p) (hq : a.eval z = .int k' q) (h0 : 0 ≤ p) (h1 : p ≤ q) (h2 : q ≤ n) : Runs P a o w (subV v p.toNat q.toNat m) := by
  rcases hv with ⟨rfl, rfl⟩ | ⟨b, cap, rfl, hc, _⟩
  · obtain rfl : p = 0 := by omega
    obtain rfl : q = 0 := by omega
    simp [Runs, execOp, ho, hx, hy, hq, Instr.sliceAt, Instr.slice, run_underlying ht, Instr.sliceBounds, Instr.sliceBound, asIntOf, hz, subV]
  · have h3 : q ≤ cap := by omega
    have h4 : 0 ≤ q := by omega
    have h5 : p ≤ max q 0 := by omega
    simp [Runs, execOp, ho, hx, hy, hq, Instr.sliceAt, Instr.slice, run_underlying ht, Instr.sliceBounds, Instr.sliceBound, asIntOf, hz, subV, h0, h3, h4, h1]
    intro h6; omega
theorem r_isNil {t' : TypeId} (ho : o.op = .binOp .eql t x (.const (.slice none 0 0)) t') (ht : P.underlying t = some (.slice e)) (hx : a.eval x = v) (hv : IsSl v n) : Runs P a o w (.bool (isNil v)) := by
  rcases hv with ⟨rfl, rfl⟩ | ⟨b, cap, rfl, hc, _⟩
  · have := Lib.run_eql_slice_nil (P := P) w t e none 0 0 0 0 ht
    simp [Runs, execOp, ho, hx, eqGuard, isNil, show a.eval (.const (.slice none 0 0)) = .slice none 0 0 from rfl]
    simp only [this, Result.andThen_ok]
    rfl
  · have := Lib.run_eql_slice_nil (P := P) w t e (some b) n cap 0 0 ht
    simp [Runs, execOp, ho, hx, eqGuard, isNil, show a.eval (.const (.slice none 0 0)) = .slice none 0 0 from rfl]
    simp only [this, Result.andThen_ok]
    rfl
theorem r_isNot {t' : TypeId} (ho : o.op = .binOp .neq t x (.const (.slice none 0 0)) t') (ht : P.underlying t = some (.slice e)) (hx : a.eval x = v) (hv : IsSl v n) : Runs P a o w (.bool (!isNil v)) := by
  rcases hv with ⟨rfl, rfl⟩ | ⟨b, cap, rfl, hc, _⟩
  · have := run_neq_slice_nil_any (P := P) w t e none 0 0 0 0 ht
    simp [Runs, execOp, ho, hx, eqGuard, isNil, show a.eval (.const (.slice none 0 0)) = .slice none 0 0 from rfl]
    simp only [this, Result.andThen_ok]
    rfl
  · have := run_neq_slice_nil_any (P := P) w t e (some b) n cap 0 0 ht
    simp [Runs, execOp, ho, hx, eqGuard, isNil, show a.eval (.const (.slice none 0 0)) = .slice none 0 0 from rfl]
    simp only [this, Result.andThen_ok]
    rfl
theorem r_indexArr {k0 : Nat} (ho : o.op = .indexAddr t x y) (ht : P.underlying t = some (.array n e)) (hz : ∀ w, (sizeOf e).run P w = .ok m w) {ad : Addr} (hx : a.eval x = .pointer (some ad)) (hy : a.eval y = .int k (k0 : Int)) (h0 : (0 : Int) ≤ (k0 : Int)) (h1 : (k0 : Int) < n) :
    Runs P a o w (.pointer (some (ad.add (k0 * m)))) := by
  simp [Runs, execOp, ho, hx, hy, Instr.indexAt, Instr.sureAddr, run_underlying ht, hz, asIntOf, h0, h1]
  intro h; omega
theorem part_cells {l vs : List Value} {o n : Nat} (hv : vs = (l.drop o).take n) {j : Nat} {u : Value} (hj : vs[j]? = some u) : l[o + j]? = some u := by
  subst hv
  have hlt : j < n := by
    have := (List.getElem?_eq_some_iff.1 hj).1
    simp only [List.length_take] at this; omega
  rw [List.getElem?_take_of_lt hlt, List.getElem?_drop] at hj
  exact hj
theorem r_field {fs : Array Field} {f : Nat} {fd : Field} {cs : Array Value} {u : Value} (ho : o.op = .field t x f) (ht : P.underlying t = some (.struct fs)) (hf : fs[f]? = some fd) (hz : ∀ w, (isAgg fd.type).run P w = .ok false w) (hx : a.eval x = .agg cs) (hc : cs[fd.offset]? = some u) : Runs P a o w u := by
  simp [Runs, execOp, ho, Instr.field, run_underlying ht, hf, part, hz, hx, asAgg, hc]
theorem Runs.isB {b b' : Bool} (h : Runs P a o w (.bool b)) (e : b = b') : Runs P a o w (.bool b') := e ▸ h
end
section
variable {N : Foot} {W : World} {n : Nat} {a : Act} {w : World} {τ : Nat → Foot}
/-- marks renamed: (new, old) -/
def retag (τ : Nat → Foot) (l : List (Nat × Nat)) (t : Nat) : Foot := match l.lookup t with
  | some j => τ j
  | none => none'
theorem lookup_mem {l : List (Nat × Nat)} {t j : Nat} (h : l.lookup t = some j) : (t, j) ∈ l := by
  induction l with
  | nil => simp at h
  | cons p l ih =>
    obtain ⟨a, b⟩ := p
    simp only [List.lookup_cons] at h
    split at h
    · rename_i heq
      simp at heq h
      subst heq; subst h
      exact List.mem_cons_self ..
    · exact List.mem_cons_of_mem _ (ih h)
theorem retag_some {l : List (Nat × Nat)} {t g : Nat} (h : retag τ l t g) : ∃ j, l.lookup t = some j ∧ τ j g := by
  unfold retag at h
  cases hj : l.lookup t with
  | none => rw [hj] at h; exact h.elim
  | some j => rw [hj] at h; exact ⟨j, rfl, h⟩
theorem St.retag (h : St N W n a w τ) (l : List (Nat × Nat)) (hl : (l.all fun p => l.all fun q => p.2 != q.2 || p.1 == q.1) = true) : St N W n a w (retag τ l) := by
  refine ⟨h.defers, h.size, h.ext, h.big, fun s t g h1 h2 => ?_, fun t g h1 => ?_⟩
  · obtain ⟨j, hj, h1⟩ := retag_some h1
    obtain ⟨j', hj', h2⟩ := retag_some h2
    have e := h.disj j j' g h1 h2
    subst e
    rw [List.all_eq_true] at hl
    have := hl _ (lookup_mem hj)
    rw [List.all_eq_true] at this
    have := this _ (lookup_mem hj')
    simpa using this
  · obtain ⟨j, hj, h1⟩ := retag_some h1
    exact h.bnd _ g h1
end
section
variable {N : Foot} {P : Program} {ops : Array Oper} {sp : List (Spec N)} {In : Nat → Ini N} {a0 : Act} {w0 : World} {bf : List Nat} {j : Nat} {o : Oper} {s : Spec N}
/-- an operation whose guard is known to hold -/
theorem Ob.live {gi tg : Nat} {want : Bool} (hg : o.guard = some (gi, want)) (hgd : ((ops[gi]?).bind (·.dst)) = some tg) (hgs : sp[gi]? = some (B.det N tg (.bool want))) (hb : (bf.getD j 0).testBit gi = true)
    (h : Ob ops sp In a0 w0 P bf j { o with guard := none } s) : Ob ops sp In a0 w0 P bf j o s := by
  intro done a w τ c
  have c' : Cx ops sp In a0 w0 bf j { o with guard := none } done a w τ := ⟨c.J, c.hj, c.pre, c.post, c.lt⟩
  have hw := (h done a w τ c').1 (wanted_none rfl _)
  refine ⟨fun _ => hw, fun hn => ?_⟩
  have hv : get a tg = .bool want := c.v gi hgs hb
  have : a.tmps[tg]? = some (.bool want) := by
    unfold get at hv
    rw [Array.getD_eq_getD_getElem?] at hv
    cases h' : a.tmps[tg]? with
    | none => rw [h'] at hv; simp [undef] at hv
    | some u => rw [h'] at hv; simp at hv; rw [hv]
  exfalso
  cases want <;> simp [Region.wanted, hg, yielded, hgd, this] at hn
/-- .. to fail: nothing is done -/
theorem Ob.dead {gi tg t : Nat} {want b : Bool} (hs : s = unk N t) (hg : o.guard = some (gi, want)) (hgd : ((ops[gi]?).bind (·.dst)) = some tg) (hgs : sp[gi]? = some (B.det N tg (.bool b))) (hb : (bf.getD j 0).testBit gi = true) (hne : b ≠ want) : Ob ops sp In a0 w0 P bf j o s := by
  intro done a w τ c
  subst hs
  have hv : get a tg = .bool b := c.v gi hgs hb
  have : a.tmps[tg]? = some (.bool b) := by
    unfold get at hv
    rw [Array.getD_eq_getD_getElem?] at hv
    cases h' : a.tmps[tg]? with
    | none => rw [h'] at hv; simp [undef] at hv
    | some u => rw [h'] at hv; simp at hv; rw [hv]
  refine ⟨fun hn => ?_, fun _ => ⟨Ext.refl _ _, trivial⟩⟩
  exfalso
  cases want <;> cases b <;> simp [Region.wanted, hg, yielded, hgd, this] at hn hne
end
/-- a result that lies in a variable of the call's own -/
theorem load_box {P : Program} {w : World} {ty : Nat} {cells : List Value} {T : Foot} {v : Value} {m : Nat} (hb : boxR ty cells T v w) (hz : ∀ w, (isAgg ty).run P w = .ok true w) (hm : ∀ w, (sizeOf ty).run P w = .ok m w) (hl : cells.length = m) :
    (loadVar ty (ptrOf v)).run P w = .ok (.agg cells.toArray) w := by
  subst hl
  simp only [loadVar, Sem.run_bind, hz, Result.andThen_ok, if_true, hm, loadCells]
  rw [run_loadCellsFrom cells (ptrOf v) 0 #[] (fun j u hj => by rw [Nat.zero_add]; exact hb.cell hj)]
  simp
theorem ret1c {P : Program} {fn : Func} {R : Ending → World → Prop} {a : Act} {w : World} {t ty m : Nat} {v : Value} {cells : List Value} {T : Foot} (hr : fn.results = #[.cell t ty]) (hd : a.defers = []) (hv : get a t = v) (hb : boxR ty cells T v w)
    (hz : ∀ w, (isAgg ty).run P w = .ok true w) (hm : ∀ w, (sizeOf ty).run P w = .ok m w) (hl : cells.length = m) (h : R (.returned (.agg cells.toArray)) w) : bodyPost P fn R .ret a w :=
  bodyPost_ret (v := .agg cells.toArray) (by
    have hp := hb.ptr
    have hv' : (a.tmps[t]?).getD undef = .pointer (some (ptrOf v)) := by rw [← Array.getD_eq_getD_getElem?]; exact hv.trans hp
    simp only [results, hr]
    simp [hv', asAddr, load_box hb hz hm hl]) hd h
theorem ret2c {P : Program} {fn : Func} {R : Ending → World → Prop} {a : Act} {w : World} {t t' ty m : Nat} {v v' : Value} {cells : List Value} {T : Foot} (hr : fn.results = #[.cell t ty, .tmp t']) (hd : a.defers = []) (hv : get a t = v) (hv2 : get a t' = v') (hb : boxR ty cells T v w)
    (hz : ∀ w, (isAgg ty).run P w = .ok true w) (hm : ∀ w, (sizeOf ty).run P w = .ok m w) (hl : cells.length = m) (h : R (.returned (.tuple #[.agg cells.toArray, v'])) w) : bodyPost P fn R .ret a w :=
  bodyPost_ret (v := .tuple #[.agg cells.toArray, v']) (by
    have hp := hb.ptr
    have hv' : (a.tmps[t]?).getD undef = .pointer (some (ptrOf v)) := by rw [← Array.getD_eq_getD_getElem?]; exact hv.trans hp
    have hv3 : (a.tmps[t']?).getD undef = v' := by rw [← Array.getD_eq_getD_getElem?]; exact hv2
    simp only [results, hr]
    simp [hv', hv3, asAddr, load_box hb hz hm hl]) hd h
/-- a slice of the call's own, where pc holds -/
def gownR {α : Type} (E : Enc α) (ty : Nat) (pc : Prop) (xs : List α) (T : Foot) (v : Value) (w : World) : Prop := pc → ownR E ty xs T v w
def gown {α : Type} (pc : Prop) (E : Enc α) (ty : Nat) (N : Foot) (tag t : Nat) (xs : List α) : Spec N := ⟨some tag, t, fun _ => gownR E ty pc xs, fun _ _ T v w w' _ h hr hp => ownR_loc T v w w' h.less (hr hp), fun _ => True, fun _ _ _ _ _ => trivial⟩
section
variable {N : Foot} {P : Program} {ops : Array Oper} {sp : List (Spec N)} {In : Nat → Ini N} {a0 : Act} {w0 : World} {bf : List Nat} {j : Nat} {o : Oper} {s : Spec N} {done : Nat → Bool} {a : Act} {w : World} {τ : Nat → Foot}
/-- what makes a slice, under a guard whose value is known -/
theorem Ob.gown {α : Type} {E : Enc α} {ty tag t gi tg : Nat} {want b : Bool} {pc : Prop} {xs : List α} (hs : s = B.gown pc E ty N tag t xs) (hg : o.guard = some (gi, want)) (hd : o.dst = some t) (hgd : ((ops[gi]?).bind (·.dst)) = some tg)
    (hgs : sp[gi]? = some (B.det N tg (.bool b))) (hb : (bf.getD j 0).testBit gi = true) (hpc : pc ↔ b = want)
    (h : pc → Ob ops sp In a0 w0 P bf j { o with guard := none } (own E ty N tag t xs)) : Ob ops sp In a0 w0 P bf j o s := by
  intro done a w τ c
  subst hs
  have c' : Cx ops sp In a0 w0 bf j { o with guard := none } done a w τ := ⟨c.J, c.hj, c.pre, c.post, c.lt⟩
  have hv : get a tg = .bool b := c.v gi hgs hb
  have hw : Region.wanted o (yielded ops a.tmps) = (b == want) := by
    have : a.tmps[tg]? = some (.bool b) := by
      unfold get at hv
      rw [Array.getD_eq_getD_getElem?] at hv
      cases h' : a.tmps[tg]? with
      | none => rw [h'] at hv; simp [undef] at hv
      | some u => rw [h'] at hv; simp at hv; rw [hv]
    cases b <;> cases want <;> simp [Region.wanted, hg, yielded, hgd, this]
  refine ⟨fun hw' => ?_, fun hw' => ?_⟩
  · rw [hw] at hw'
    have hp : pc := hpc.2 (by simpa using hw')
    have hw2 : o.wp P a w (fun a' w' => ∃ v, a' = a.put o.dst v ∧ StepOk (own E ty N tag t xs) a' τ w w') (fun _ _ _ => False) := (h hp done a w τ c').1 (wanted_none rfl _)
    refine Oper.wp_mono ?_ hw2
    intro a' w' hK
    obtain ⟨v, ha, hx, T', hT, hr⟩ := hK
    exact ⟨v, ha, hx, T', hT, fun _ => hr⟩
  · rw [hw] at hw'
    have hp : ¬ pc := fun hp => by rw [hpc.1 hp] at hw'; simp at hw'
    exact ⟨Ext.refl _ _, τ tag, fun g h => .inl h, fun hp' => absurd hp' hp⟩
theorem Cx.rgown {α : Type} {E : Enc α} {ty t slot : Nat} {pc : Prop} {xs : List α} (c : Cx ops sp In a0 w0 bf j o done a w τ) (i : Nat) (hs : sp[i]? = some (B.gown pc E ty N t slot xs)) (hl : lastTag (sp.map (·.tag)) t j = some i) (hord : ordB (sp.map (·.tag)) bf t j = true) (hp : pc) : ownR E ty xs (τ t) (get a slot) w :=
  c.res i t _ hs hl hord hp
end
/-- a pair whose first part is a slice of the call's own, the second one is known -/
def tupR {α : Type} (E : Enc α) (ty : Nat) (xs : List α) (k : Value) (T : Foot) (v : Value) (w : World) : Prop := ∃ u, v = .tuple #[u, k] ∧ ownR E ty xs T u w
def tup {α : Type} (E : Enc α) (ty : Nat) (N : Foot) (tag t : Nat) (xs : List α) (k : Value) : Spec N := ⟨some tag, t, fun _ => tupR E ty xs k, fun _ _ T v w w' _ h ⟨u, hv, hr⟩ => ⟨u, hv, ownR_loc T u w w' h.less hr⟩, fun v => ∃ u, v = .tuple #[u, k], fun _ _ _ _ ⟨u, hv, _⟩ => ⟨u, hv⟩⟩
section
variable {N : Foot} {P : Program} {ops : Array Oper} {sp : List (Spec N)} {In : Nat → Ini N} {a0 : Act} {w0 : World} {bf : List Nat} {j : Nat} {o : Oper} {s : Spec N} {done : Nat → Bool} {a : Act} {w : World} {τ : Nat → Foot}
theorem Ob.callTup {α : Type} {E : Enc α} {ty tag t : Nat} {xs : List α} {k : Value} (hs : s = tup E ty N tag t xs k) (hg : o.guard = none) (hd : o.dst = some t)
    (h : ∀ done a w τ, Cx ops sp In a0 w0 bf j o done a w τ → ∃ f args, Enters P a o w f args ∧ Calls P f args w (fun e w' => ∃ v, e = .returned (.tuple #[v, k]) ∧ Ext none' w w' ∧ NewT E ty w w' v xs)) : Ob ops sp In a0 w0 P bf j o s := by
  subst hs
  refine Ob.callT (tag := tag) hg rfl fun done a w τ c => ?_
  obtain ⟨f, args, h1, h2⟩ := h done a w τ c
  refine ⟨f, args, h1, h2.mono fun e w' ⟨v, he, hx, ho⟩ => ⟨.tuple #[v, k], he, hx.mono (fun _ _ h => h.elim), fun g => v.ownBlock = some g, fun g hg => .inr ⟨ho.2 g hg, ho.1.lt g hg⟩, ?_⟩⟩
  show tupR E ty xs k _ (get (a.put o.dst _) t) w'
  rw [hd, get_put a t t _ (c.lt t hd), if_pos rfl]
  exact ⟨v, rfl, ho.1, fun g h => h⟩
theorem Cx.rtup {α : Type} {E : Enc α} {ty t slot : Nat} {xs : List α} {k : Value} (c : Cx ops sp In a0 w0 bf j o done a w τ) (i : Nat) (hs : sp[i]? = some (B.tup E ty N t slot xs k)) (hl : lastTag (sp.map (·.tag)) t j = some i) (hord : ordB (sp.map (·.tag)) bf t j = true) : tupR E ty xs k (τ t) (get a slot) w :=
  c.res i t _ hs hl hord
/-- the first part comes out -/
theorem Ob.part0 {α : Type} {E : Enc α} {ty tag t t0 : Nat} {xs : List α} {k : Value} (hs : s = own E ty N tag t xs) (hg : o.guard = none) (hd : o.dst = some t) (ho : o.op = .extract (.tmp t0) 0)
    (hp : ∀ done a w τ, Cx ops sp In a0 w0 bf j o done a w τ → tupR E ty xs k (τ tag) (get a t0) w) : Ob ops sp In a0 w0 P bf j o s := by
  subst hs
  refine Ob.tagged hg rfl fun done a w τ c => ?_
  obtain ⟨u, hu, hr⟩ := hp done a w τ c
  refine wp_of_runs (v := u) (r_extract ho hu rfl) ⟨_, rfl, Ext.refl _ _, τ tag, fun g h => .inl h, ?_⟩
  show ownR E ty xs _ (get (a.put o.dst u) t) w
  rw [hd, get_put a t t _ (c.lt t hd), if_pos rfl]
  exact hr
/-- the second part -/
theorem Cx.part1 {α : Type} {E : Enc α} {ty tag t0 : Nat} {xs : List α} {k : Value} (c : Cx ops sp In a0 w0 bf j o done a w τ) (i : Nat) (hs : sp[i]? = some (B.tup E ty N tag t0 xs k)) (hb : (bf.getD j 0).testBit i = true) (ho : o.op = .extract (.tmp t0) 1) : Runs P a o w k := by
  obtain ⟨u, hu⟩ := c.J.pur i _ hs (c.pre i hb)
  exact r_extract ho hu rfl
end
theorem Calls.isB {P : Program} {f : FuncId} {args : Array Value} {w : World} {b b' : Bool} {M : Nat → Prop} (h : Calls P f args w (fun e w' => e = .returned (.bool b) ∧ Ext M w w')) (e : b = b') : Calls P f args w (fun e w' => e = .returned (.bool b') ∧ Ext M w w') := e ▸ h
end B
end Go.Proofs.YtdbchpoaoghgpaaGreatDoor
