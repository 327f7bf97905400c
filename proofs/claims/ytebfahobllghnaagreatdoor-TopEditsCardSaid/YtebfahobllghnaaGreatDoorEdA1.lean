/-
  TopEdits: Base4, Base5, Base6, Base7, Base9, VA, VB, VBo, VBp.
-/
import Derived.Test.YtebfahobllghnaaGreatDoorEdA0
import Derived.Lib.SliceRun
import Derived.Lib.AppendStr
import Derived.Lib.ConvBytes
import Derived.Laws.Strings
import Derived.Laws.IdiomStrings
set_option linter.unusedSimpArgs false
set_option linter.unusedVariables false
namespace Go.Proofs.YtebfahobllghnaaGreatDoor
namespace B
open Go.RowKit
section run
variable {P : Program} {w : World} {α : Type} {E : Enc α}
theorem setRow_ext (w : World) (g : Nat) (cs : Array Value) : Ext (fun k => k = g) w (w.setRow g cs) :=
  ⟨rfl, rfl, rfl, by simp [World.setRow], fun k _ h => setRow_other w g k cs h⟩
theorem run_append (t ty e : TypeId) (i : TypeInfo) (z : Value) (ht : P.underlying t = some (.slice e)) (hi : P.info? e = some i) (hz : i.zero = some z) (hsize : i.size = E.sz) (hzs : z.cells.size = E.sz)
    {v u : Value} {xs ys : List α} (hown : OwnT E e w v xs) (hu : SlT E w u ys) (h63 : xs.length + ys.length ≤ maxLen) (hby : (xs.length + ys.length) * i.bytes ≤ 140737488355328) :
    ∃ v' w', (Builtin.append_ #[t, t] ty #[v, u]).run P w = .ok v' w' ∧ OwnT E e w' v' (xs ++ ys) ∧ Ext (fun k => v.ownBlock = some k) w w' ∧ (∀ g, v'.ownBlock = some g → v.ownBlock = some g ∨ (w.heap.size ≤ g ∧ g < w'.heap.size)) := by
  have hy1 : ∀ x ∈ E.row ys, x.oneCell' = true := E.row_one
  have hyl : (E.row ys).length = ys.length * i.size := by rw [E.row_length, hsize]
  have hpos := E.pos
  simp only [maxLen] at h63
  have hrow : E.row xs ++ E.row ys = E.row (xs ++ ys) := (E.row_append xs ys).symm
  have newb : ∀ (old : Nat), OwnT E e (w.drew.alloc (.cells ((E.row xs).toArray ++ (E.row ys).toArray ++ Builtin.zeroCells z.cells (grownCap w (xs.length + ys.length) old e - (xs.length + ys.length))) e))
      (.slice (some ⟨w.heap.size, 0, none⟩) (xs.length + ys.length) (grownCap w (xs.length + ys.length) old e)) (xs ++ ys) := by
    intro old
    have hge := grownCap_ge w (xs.length + ys.length) old e
    have hcm : grownCap w (xs.length + ys.length) old e ≤ maxLen := grownCap_le_maxLen w _ old e (by simp only [maxLen]; omega)
    refine ⟨E.row_length _, .inr ⟨w.heap.size, _, _, by rw [List.length_append], Nat.zero_le _, heap_alloc_new w.drew _, by rw [List.length_append]; exact hge, hcm, ?_, ?_⟩⟩
    · simp only [Array.size_append, List.size_toArray, size_zeroCells, hzs, E.row_length, ← Nat.add_mul]
      congr 1; omega
    · simp only [Array.toList_append, List.append_assoc]
      rw [← List.append_assoc, hrow, ← E.row_length]
      exact List.take_left
  have newe : ∀ (o : Obj), Ext (fun k => v.ownBlock = some k) w (w.drew.alloc o) := fun o => (Ext.refl _ w).drew.trans (Ext.alloc _ _ _)
  rcases hu.sl with ⟨rfl, hu0⟩ | ⟨b, cap, rfl, hle, hcap⟩
  · have hys : ys = [] := List.eq_nil_of_length_eq_zero hu0
    subst hys
    refine ⟨v, w, ?_, by rw [List.append_nil]; exact hown, Ext.refl _ _, fun g h => .inl h⟩
    have hl := hown.sl.sl
    rcases hl with ⟨rfl, _⟩ | ⟨b, cap, rfl, h1, h2⟩
    · simp [Builtin.append_, run_underlying ht, sizeOf, typeInfo, hi, Builtin.lenOf, Builtin.firstCells]
    · simp [Builtin.append_, run_underlying ht, sizeOf, typeInfo, hi, Builtin.lenOf, Builtin.firstCells, h1, storeCells]
  · have hcell : ∀ j x, (E.row ys)[j]? = some x → w.cell? (b.add j) = some x := hu.cell
    rcases hown.2 with ⟨rfl, hx0⟩ | ⟨g, c, cur, rfl, hb, hg, h1, h2, h3, h4⟩
    · have hxs : xs = [] := List.eq_nil_of_length_eq_zero hx0
      subst hxs
      by_cases h0 : ys.length = 0
      · have : ys = [] := List.eq_nil_of_length_eq_zero h0
        subst this
        refine ⟨_, w, ?_, hown, Ext.refl _ _, fun g h => .inl h⟩
        simp [Builtin.append_, run_underlying ht, sizeOf, typeInfo, hi, Builtin.lenOf, Builtin.firstCells, loadCells, loadCellsFrom]
      · have hr := run_append_nil (P := P) w t ty e i z ht hi hz b ys.length cap (E.row ys) hyl hcell (by omega) (by omega) (by simp at hby; omega)
        have hnew := newb 0
        simp only [List.length_nil, Nat.zero_add, List.nil_append, show (E.row ([] : List α)) = [] from rfl, Array.empty_append] at hnew ⊢
        refine ⟨_, _, hr, hnew, newe _, fun g hg => .inr ?_⟩
        simp only [Value.ownBlock, Option.some.injEq] at hg
        subst hg
        simp
    · by_cases hroom : xs.length + ys.length ≤ c
      · have hfit : xs.length * i.size + (E.row ys).length ≤ cur.size := by rw [hyl, h3, hsize, ← Nat.add_mul]; exact Nat.mul_le_mul_right _ hroom
        have hr := run_append_room (P := P) w t ty e i ht hi g xs.length c cur hg b ys.length cap (E.row ys) hyl hcell hy1 hroom hfit
        refine ⟨_, _, hr, ⟨E.row_length _, .inr ⟨g, c, _, by rw [List.length_append], hb, setRow_heap w g cur _ e _ hg, by rw [List.length_append]; exact hroom, h2, ?_, ?_⟩⟩, ?_, fun k hk => .inl hk⟩
        · simp only [List.size_toArray, List.length_append, List.length_take, List.length_drop, Array.length_toList]
          omega
        · simp only [hsize]
          rw [h4, hrow, ← E.row_length]
          exact List.take_left
        · exact (setRow_ext w g _).mono fun k _ h => by rw [h]; rfl
      · have holds : ∀ j x, (E.row xs)[j]? = some x → w.cell? ((⟨g, 0, none⟩ : Addr).add j) = some x := World.ownsRow.cells hown (g := g) rfl
        have hr := run_append_grow (P := P) w t ty e i z ht hi hz ⟨g, 0, none⟩ xs.length c (E.row xs) (by rw [E.row_length, hsize]) holds b ys.length cap (E.row ys) hyl hcell (by omega) (by omega) (growslice_fits (by omega) hby)
        refine ⟨_, _, hr, newb c, newe _, fun k hk => .inr ?_⟩
        simp only [Value.ownBlock, Option.some.injEq] at hk
        subst hk
        simp
end run
section obs
variable {N : Foot} {P : Program} {ops : Array Oper} {sp : List (Spec N)} {In : Nat → Ini N} {a0 : Act} {w0 : World} {bf : List Nat} {j : Nat} {o : Oper} {s : Spec N}
theorem Ob.tagged {tag : Nat} (hg : o.guard = none) (ht : s.tag = some tag)
    (h : ∀ done a w τ, Cx ops sp In a0 w0 bf j o done a w τ → o.wp P a w (fun a' w' => ∃ v, a' = a.put o.dst v ∧ Ext (τ tag) w w' ∧ ∃ T' : Foot, (∀ g, T' g → τ tag g ∨ (w.heap.size ≤ g ∧ g < w'.heap.size)) ∧ s.R (Zof (upd τ tag T') w') T' (get a' s.slot) w') (fun _ _ _ => False)) : Ob ops sp In a0 w0 P bf j o s :=
  Ob.mk0 hg fun done a w τ c => by
    have := h done a w τ c
    unfold StepOk
    rw [ht]
    exact this
theorem wp_of_run {P : Program} {o : Oper} {a : Act} {w w' : World} {K : Act → World → Prop} {Q : Exit → Act → World → Prop} {v : Value} (h : (execOp a.eval o).run P w = .ok (.value v) w') (hK : K (a.put o.dst v) w') : o.wp P a w K Q := by
  unfold Oper.wp
  rw [h]
  exact hK
theorem wp_of_skip {P : Program} {o : Oper} {a : Act} {w w' : World} {K : Act → World → Prop} {Q : Exit → Act → World → Prop} (h : (execOp a.eval o).run P w = .ok .skip w') (hK : K (a.put o.dst undef) w') : o.wp P a w K Q := by
  unfold Oper.wp
  rw [h]
  exact hK
theorem box_new {ty : Nat} {cells : List Value} {w : World} : boxR ty cells (fun g => g = w.heap.size) (.pointer (some ⟨w.heap.size, 0, none⟩)) (w.alloc (.cells cells.toArray ty)) :=
  ⟨w.heap.size, rfl, by simp, rfl, heap_alloc_new w _⟩
theorem Ob.box {ty tag t : Nat} {cells : List Value} {x : Operand} {v : Value} (hs : s = B.box ty N tag t cells) (hg : o.guard = none) (hd : o.dst = some t) (ho : o.op = .box ty x) (hc : v.cells = cells.toArray)
    (h : ∀ done a w τ, Cx ops sp In a0 w0 bf j o done a w τ → a.eval x = v) : Ob ops sp In a0 w0 P bf j o s := by
  subst hs
  refine Ob.tagged hg rfl fun done a w τ c => ?_
  have hr : (execOp a.eval o).run P w = .ok (.value (.pointer (some ⟨w.heap.size, 0, none⟩))) (w.alloc (.cells cells.toArray ty)) := by
    simp only [execOp, ho, h done a w τ c, Instr.box, newVar, newRow, newObj, hc]
    rfl
  refine wp_of_run hr ⟨_, rfl, Ext.alloc _ _ _, fun g => g = w.heap.size, fun g hg => .inr (by subst hg; simp), ?_⟩
  show boxR ty cells _ (get (a.put o.dst _) t) _
  rw [hd, get_put a t t _ (c.lt t hd), if_pos rfl]
  exact box_new
theorem Ob.alloc {ty tag t : Nat} {cells : List Value} {z : Value} (hs : s = B.box ty N tag t cells) (hg : o.guard = none) (hd : o.dst = some t) (ho : o.op = .alloc ty) (hz : ∀ w, (zeroValue ty).run P w = .ok z w) (hc : z.cells = cells.toArray) : Ob ops sp In a0 w0 P bf j o s := by
  subst hs
  refine Ob.tagged hg rfl fun done a w τ c => ?_
  have hr : (execOp a.eval o).run P w = .ok (.value (.pointer (some ⟨w.heap.size, 0, none⟩))) (w.alloc (.cells cells.toArray ty)) := by
    simp only [execOp, ho, Instr.alloc, Sem.run_bind, hz, Result.andThen_ok, newVar, newRow, newObj, hc]
    rfl
  refine wp_of_run hr ⟨_, rfl, Ext.alloc _ _ _, fun g => g = w.heap.size, fun g hg => .inr (by subst hg; simp), ?_⟩
  show boxR ty cells _ (get (a.put o.dst _) t) _
  rw [hd, get_put a t t _ (c.lt t hd), if_pos rfl]
  exact box_new
theorem run_store {P : Program} {w : World} {t ty g off : Nat} {cur : Array Value} {v : Value} (hg : w.heap[g]? = some (.cells cur ty (0, 0))) (hsz : ∀ w, (sizeOf t).run P w = .ok v.cells.size w) (hfit : off + v.cells.size ≤ cur.size) (h1 : ∀ u ∈ v.cells.toList, u.oneCell' = true) :
    (Instr.storeAt t (.pointer (some ⟨g, off, none⟩)) v).run P w = .ok () (w.setRow g (cur.toList.take off ++ v.cells.toList ++ cur.toList.drop (off + v.cells.size)).toArray) := by
  have h := run_storeCells_at P g off ty v.cells.toList 0 cur w hg (by simpa using hfit) h1
  simp only [Nat.add_zero, Array.length_toList] at h
  simp only [Instr.storeAt, Instr.sureAddr, Sem.run_bind, Sem.run_pure, Result.andThen_ok, storeVar, hsz, ne_eq, not_true_eq_false, if_false]
  exact h
theorem addr_at (g k : Nat) : ((⟨g, 0, none⟩ : Addr).add k) = ⟨g, k, none⟩ := by unfold Addr.add; split <;> simp_all
theorem Ob.storeBox {ty tag t tt off : Nat} {cells cells' : List Value} {x y : Operand} {v : Value} (hs : s = B.box ty N tag t cells') (hg : o.guard = none) (hd : o.dst = none) (ho : o.op = .store tt x y) (hsz : ∀ w, (sizeOf tt).run P w = .ok v.cells.size w)
    (hfit : off + v.cells.size ≤ cells.length) (h1 : ∀ u ∈ v.cells.toList, u.oneCell' = true) (hc : cells' = cells.take off ++ v.cells.toList ++ cells.drop (off + v.cells.size))
    (hp : ∀ done a w τ, Cx ops sp In a0 w0 bf j o done a w τ → boxR ty cells (τ tag) (get a t) w ∧ a.eval x = .pointer (some ((ptrOf (get a t)).add off)) ∧ a.eval y = v) : Ob ops sp In a0 w0 P bf j o s := by
  subst hs
  refine Ob.tagged hg rfl fun done a w τ c => ?_
  obtain ⟨⟨g, hv, hlt, hT, hgg⟩, hx, hy⟩ := hp done a w τ c
  have hx' : a.eval x = .pointer (some ⟨g, off, none⟩) := by rw [hx, hv]; simp only [ptrOf, addr_at]
  have hr := run_store (P := P) (t := tt) (off := off) hgg hsz (by simpa using hfit) h1
  have hr' : (execOp a.eval o).run P w = .ok .skip (w.setRow g cells'.toArray) := by
    simp only [execOp, ho, hx', hy, Sem.run_bind, hr, Result.andThen_ok]
    rw [hc]
    rfl
  refine wp_of_skip hr' ⟨undef, rfl, (setRow_ext w g _).mono (fun k _ h => by rw [h]; exact hT), τ tag, fun g h => .inl h, ?_⟩
  show boxR ty cells' _ (get (a.put o.dst _) t) _
  rw [hd, get_put_none]
  exact ⟨g, hv, by simp [World.setRow, hlt], hT, setRow_heap w g _ _ ty _ hgg⟩
theorem Ob.buildSlice {α : Type} {E : Enc α} {ty e tag t n : Nat} {xs : List α} {parts : Array (Nat × Operand)} {z : Value} {cells : Array Value} (hs : s = own E e N tag t xs) (hg : o.guard = none) (hd : o.dst = some t) (ho : o.op = .buildSlice ty n parts)
    (hty : P.underlying ty = some (.slice e)) (hsz : ∀ w, (sizeOf e).run P w = .ok E.sz w) (hz : ∀ w, (zeroValue e).run P w = .ok z w) (hn : n = xs.length) (hn0 : 0 < n) (hsmall : n * E.sz ≤ 16777216)
    (hf : ∀ done a w τ, Cx ops sp In a0 w0 bf j o done a w τ → Instr.fill (fun i => some (i * E.sz, E.sz)) ((Array.range (n * E.sz)).map (z.cells[· % z.cells.size]!)) (parts.map fun (i, x) => (i, a.eval x)).toList = some cells)
    (hc : cells.toList = E.row xs) : Ob ops sp In a0 w0 P bf j o s := by
  subst hs
  refine Ob.tagged hg rfl fun done a w τ c => ?_
  have h2 : ¬ (n * E.sz > 2 ^ 24) := by omega
  have h0 : ¬ (n * E.sz = 0) := by have := Nat.mul_pos hn0 E.pos; omega
  have hr : (execOp a.eval o).run P w = .ok (.value (.slice (some ⟨w.heap.size, 0, none⟩) n n)) (w.alloc (.cells cells e)) := by
    have hfz := hf done a w τ c
    simp only [execOp, ho, Instr.buildSlice, Sem.run_bind, run_underlying hty, Result.andThen_ok, hsz, h2, if_false, Sem.run_pure, h0, hz]
    rw [hfz]
    rfl
  have hl : cells.size = n * E.sz := by rw [← Array.length_toList, hc, E.row_length, hn]
  refine wp_of_run hr ⟨_, rfl, Ext.alloc _ _ _, fun g => g = w.heap.size, fun g hg => .inr (by subst hg; simp), ?_⟩
  show ownR E e xs _ (get (a.put o.dst _) t) _
  rw [hd, get_put a t t _ (c.lt t hd), if_pos rfl]
  refine ⟨⟨E.row_length xs, .inr ⟨w.heap.size, n, cells, by rw [hn], Nat.zero_le _, heap_alloc_new w _, by omega, ?_, hl, ?_⟩⟩, fun g h => ?_⟩
  · have := Nat.le_mul_of_pos_right n E.pos; simp only [maxLen]; omega
  · rw [hc, ← E.row_length]; exact List.take_length
  · simp only [Value.ownBlock, Option.some.injEq] at h; exact h.symm
theorem Ob.append {α : Type} {E : Enc α} {ty e tag t t0 : Nat} {xs ys : List α} {x y : Operand} {z : Value} {i : TypeInfo} (hs : s = own E e N tag t (xs ++ ys)) (hg : o.guard = none) (hd : o.dst = some t)
    (ho : o.op = .call { callee := .builtin .append, args := #[x, y], argTypes := #[ty, ty] })
    (hty : P.underlying ty = some (.slice e)) (hi : P.info? e = some i) (hz : i.zero = some z) (hsize : i.size = E.sz) (hzs : z.cells.size = E.sz)
    (h63 : xs.length + ys.length ≤ maxLen) (hby : (xs.length + ys.length) * i.bytes ≤ 140737488355328)
    (hp : ∀ done a w τ, Cx ops sp In a0 w0 bf j o done a w τ → ownR E e xs (τ tag) (get a t0) w ∧ a.eval x = get a t0 ∧ ∃ u, a.eval y = u ∧ SlT E w u ys) : Ob ops sp In a0 w0 P bf j o s := by
  subst hs
  refine Ob.tagged hg rfl fun done a w τ c => ?_
  obtain ⟨⟨hown, hT⟩, hx, u, hy, hsl⟩ := hp done a w τ c
  obtain ⟨v', w', hr, h2, h3, h4⟩ := run_append (P := P) (E := E) ty o.type e i z hty hi hz hsize hzs hown hsl h63 hby
  have hr' : (execOp a.eval o).run P w = .ok (.value v') w' := by
    simp only [execOp, ho, resolve, invoke, builtin, Sem.run_bind, Sem.run_pure, Result.andThen_ok, List.map_toArray, List.map_cons, List.map_nil, hx, hy, hr]
  refine wp_of_run hr' ⟨_, rfl, h3.mono (fun k _ h => hT k h), fun g => v'.ownBlock = some g, fun g hg => (h4 g hg).elim (fun h => .inl (hT g h)) (fun h => .inr h), ?_⟩
  show ownR E e (xs ++ ys) _ (get (a.put o.dst _) t) _
  rw [hd, get_put a t t _ (c.lt t hd), if_pos rfl]
  exact ⟨h2, fun g h => h⟩
theorem Ob.moveT {tag t t0 : Nat} {R : Foot → Foot → Value → World → Prop} {x : Operand} (ht : s.tag = some tag) (hsl : s.slot = t) (hR : s.R = R) (hg : o.guard = none) (hd : o.dst = some t) (ho : o.op = .move x ∨ o.op = .assign x)
    (hp : ∀ done a w τ, Cx ops sp In a0 w0 bf j o done a w τ → R (Zof τ w) (τ tag) (get a t0) w ∧ a.eval x = get a t0) : Ob ops sp In a0 w0 P bf j o s := by
  refine Ob.tagged hg ht fun done a w τ c => ?_
  obtain ⟨h1, hx⟩ := hp done a w τ c
  have hr : Runs P a o w (get a t0) := by
    rcases ho with ho | ho
    · exact r_move ho hx
    · exact r_assign ho hx
  refine wp_of_run hr ⟨_, rfl, Ext.refl _ _, τ tag, fun g h => .inl h, ?_⟩
  rw [hsl, hd, get_put a t t _ (c.lt t hd), if_pos rfl]
  have e1 : upd τ tag (τ tag) = τ := by
    funext t g
    unfold upd
    split
    · rename_i e; rw [e]
    · rfl
  rw [e1, hR]
  exact h1
def Enters (P : Program) (a : Act) (o : Oper) (w : World) (f : FuncId) (args : Array Value) : Prop := (execOp a.eval o).run P w = .ok (.enter f args) w
theorem Ob.call {t : Nat} {v : Value} (hs : s = B.det N t v) (hg : o.guard = none) (hd : o.dst = some t)
    (h : ∀ done a w τ, Cx ops sp In a0 w0 bf j o done a w τ → ∃ f args, Enters P a o w f args ∧ Calls P f args w (fun e w' => e = .returned v ∧ Ext none' w w')) : Ob ops sp In a0 w0 P bf j o s :=
  Ob.mk0 hg fun done a w τ c => by
    obtain ⟨f, args, h1, h2⟩ := h done a w τ c
    subst hs
    unfold Oper.wp
    rw [h1]
    refine h2.mono fun e w' ⟨he, hx⟩ => ?_
    subst he
    refine ⟨v, rfl, hx, ?_⟩
    show get (a.put o.dst v) t = v
    rw [hd, get_put a t t v (c.lt t hd), if_pos rfl]
end obs
structure St (N : Foot) (W0 : World) (n : Nat) (a : Act) (w : World) (τ : Nat → Foot) : Prop where
  defers : a.defers = []
  size : a.tmps.size = n
  ext : Ext N W0 w
  big : ∀ k, w.heap.size ≤ k → N k
  disj : ∀ s t g, τ s g → τ t g → s = t
  bnd : ∀ t g, τ t g → N g ∧ g < w.heap.size
def iniOf {N : Foot} (l : List (Ini N)) (t : Nat) : Ini N := l.getD t (Ini.any N)
def IniAll {N : Foot} (τ : Nat → Foot) (w : World) : Nat → List (Ini N) → Prop
  | _, [] => True
  | k, i :: l => i.I (Zof τ w) (τ k) w ∧ IniAll τ w (k + 1) l
theorem iniAll_spec {N : Foot} {τ : Nat → Foot} {w : World} : ∀ {l : List (Ini N)} {k : Nat}, IniAll τ w k l → ∀ t, (l.getD t (Ini.any N)).I (Zof τ w) (τ (k + t)) w
  | [], _, _, t => trivial
  | i :: l, k, h, 0 => h.1
  | i :: l, k, h, t + 1 => by
    have := iniAll_spec h.2 t
    rwa [show k + (t + 1) = k + 1 + t by omega]
def unAll (ops : List Oper) (t : Nat) : Bool := ops.all fun o => o.dst != some t
structure Fin {N : Foot} (l : List Oper) (sp : List (Spec N)) (il : List (Ini N)) (a0 a : Act) (w : World) (τ : Nat → Foot) : Prop where
  same : ∀ t, unAll l t = true → get a t = get a0 t
  det : ∀ (j : Nat) (s : Spec N), sp[j]? = some s → s.tag = none → s.R (Zof τ w) none' (get a s.slot) w
  res : ∀ (j t : Nat) (s : Spec N), sp[j]? = some s → s.tag = some t → lastTag (sp.map (·.tag)) t sp.length = some j → s.R (Zof τ w) (τ t) (get a s.slot) w
  ini : ∀ t, lastTag (sp.map (·.tag)) t sp.length = none → (iniOf il t).I (Zof τ w) (τ t) w
theorem Fin.old {N : Foot} {l : List Oper} {sp : List (Spec N)} {il : List (Ini N)} {a0 a : Act} {w : World} {τ : Nat → Foot} (h : Fin l sp il a0 a w τ) {t : Nat} {v : Value} (h0 : get a0 t = v) (hu : unAll l t = true) : get a t = v := (h.same t hu).trans h0
theorem Fin.v {N : Foot} {l : List Oper} {sp : List (Spec N)} {il : List (Ini N)} {a0 a : Act} {w : World} {τ : Nat → Foot} (h : Fin l sp il a0 a w τ) (j : Nat) {t : Nat} {v : Value} (hs : sp[j]? = some (B.det N t v)) : get a t = v := h.det j _ hs rfl
theorem region_St {N : Foot} {n : Nat} {W0 : World} {P : Program} {l : List Oper} {sp : List (Spec N)} (il : List (Ini N)) {a0 : Act} {w0 : World} {τ0 : Nat → Foot} {bf : List Nat} {id : Nat} {draw : Bool} (hm : P.follows .mixedOrders = true)
    {Q : Exit → Act → World → Prop} (hst : St N W0 n a0 w0 τ0) (hok : (okOps l.toArray n && okBf l.toArray bf && okSp l.toArray bf (sp.map (·.slot)) (sp.map (·.tag))) = true)
    (hini : IniAll τ0 w0 0 il) (obs : ObList l.toArray sp (iniOf il) a0 w0 P bf 0 l sp)
    (fin : ∀ a w τ, St N W0 n a w τ → Fin l sp il a0 a w τ → Q .normal a w) : (Code.region id l.toArray draw).wp P Q a0 w0 := by
  have hlen : sp.length = l.length := by
    simp only [Bool.and_eq_true] at hok
    have h3 := hok.2
    unfold okSp at h3
    simp only [Bool.and_eq_true, List.length_map, beq_iff_eq] at h3
    simpa using h3.1.1
  refine region_J (N := N) (ini := iniOf il) (τ := τ0) hm (by rw [hst.size]; exact hok) hst.big hst.disj hst.bnd (fun t => ?_) obs fun done a w τ hd hJ => ?_
  · have := iniAll_spec hini t
    rwa [Nat.zero_add] at this
  · refine fin a w τ ⟨hJ.defers.trans hst.defers, hJ.size.trans hst.size, hst.ext.trans hJ.ext, hJ.big, hJ.disj, hJ.bnd⟩ ⟨fun t ht => ?_, fun j s hs ht => ?_, fun j t s hs ht hl => ?_, fun t hl => ?_⟩
    · refine hJ.un t fun i o hi hdst => ?_
      exfalso
      unfold unAll at ht
      rw [List.all_eq_true] at ht
      have := ht o (List.mem_of_getElem? (by simpa using hi))
      simp [hdst] at this
    · exact hJ.det j s hs ht (hd j (by rw [← hlen]; exact (List.getElem?_eq_some_iff.1 hs).1))
    · obtain ⟨h1, h2, h3⟩ := lastTag_some hl
      refine hJ.res j s t hs ht (hd j (by omega)) fun k s' hk hlt hkt => ?_
      exact absurd (by rw [tag_getD hk]; exact hkt) (h3 k hlt (List.getElem?_eq_some_iff.1 hk).1)
    · refine hJ.ini t fun k s' hk hkt => ?_
      exact absurd (by rw [tag_getD hk]; exact hkt) (lastTag_none hl k (List.getElem?_eq_some_iff.1 hk).1)
end B
end Go.Proofs.YtebfahobllghnaaGreatDoor
namespace Go.Proofs.YtebfahobllghnaaGreatDoor
namespace B
open Go.RowKit
def Nw (w : World) : Foot := fun k => w.heap.size ≤ k
theorem enter {P : Program} {f : FuncId} {fn : Func} {c : Code} {args : Array Value} {w : World} {R : Ending → World → Prop} {n : Nat} (hf : P.funcs[f]? = some fn) (hb : fn.body = some c) (hn : fn.ntmps = n) (hle : args.size ≤ n)
    (h : ∀ a τ, (∀ i v, args[i]? = some v → get a i = v) → St (Nw w) w n a w τ → c.wp P (bodyPost P fn R) a w) : Calls P f args w R := by
  refine calls_of_wp hf hb (h _ (fun _ _ => False) (fun i v hi => ?_) ⟨rfl, ?_, Ext.refl _ _, fun k hk => hk, fun s t g h => h.elim, fun t g h => h.elim⟩)
  · unfold get
    have hlt : i < args.size := (Array.getElem?_eq_some_iff.1 hi).1
    rw [Array.getD_eq_getD_getElem?, Array.getElem?_append_left hlt, hi]
    rfl
  · simp [hn]; omega
theorem ret1 {P : Program} {fn : Func} {R : Ending → World → Prop} {a : Act} {w : World} {t : Nat} {v : Value} (hr : fn.results = #[.tmp t]) (hd : a.defers = []) (hv : get a t = v) (h : R (.returned v) w) : bodyPost P fn R .ret a w :=
  bodyPost_ret (v := v) (by rw [results_tmp hr]; exact congrArg (fun v => Result.ok v w) hv) hd h
theorem St.ext0 {n : Nat} {W : World} {a : Act} {w : World} {τ : Nat → Foot} (h : St (Nw W) W n a w τ) : Ext none' W w :=
  ⟨h.ext.os, h.ext.tape, h.ext.output, h.ext.size, fun k hk _ => h.ext.block k hk (fun hn : W.heap.size ≤ k => by omega)⟩
theorem SlT.at {α : Type} {E : Enc α} {W w : World} {v : Value} {xs : List α} (h : SlT E W v xs) (he : Ext (Nw W) W w) : SlT E w v xs :=
  h.keep he fun hne hn => by have := h.lt hne; simp only [Nw] at hn; omega
def nth {α : Type} [Inhabited α] (xs : List α) (i : Int) : α := xs.getD i.toNat default
theorem nth_some {α : Type} [Inhabited α] {xs : List α} {i : Int} (h0 : 0 ≤ i) (h1 : i < xs.length) : xs[i.toNat]? = some (nth xs i) := by
  have : i.toNat < xs.length := by omega
  simp [nth, List.getD, List.getElem?_eq_getElem this]
section
variable {N : Foot} {P : Program} {ops : Array Oper} {sp : List (Spec N)} {In : Nat → Ini N} {a0 : Act} {w0 : World} {bf : List Nat} {j : Nat} {o : Oper} {done : Nat → Bool} {a : Act} {w : World} {τ : Nat → Foot}
theorem Cx.ev (c : Cx ops sp In a0 w0 bf j o done a w τ) (i : Nat) {t : Nat} {val : Value} (hs : sp[i]? = some (B.det N t val)) (hb : (bf.getD j 0).testBit i = true) : a.eval (.tmp t) = val := c.v i hs hb
theorem Cx.eg (c : Cx ops sp In a0 w0 bf j o done a w τ) (i : Nat) {t : Nat} {pc : Prop} {val : Value} (hs : sp[i]? = some (B.gdet N t pc val)) (hb : (bf.getD j 0).testBit i = true) (hpc : pc) : a.eval (.tmp t) = val := c.g i hs hb hpc
theorem Cx.eo (c : Cx ops sp In a0 w0 bf j o done a w τ) {t : Nat} {val : Value} (h0 : get a0 t = val) (h : unB ops bf j t = true) : a.eval (.tmp t) = val := c.old h0 h
theorem Cx.ibox {ty : Nat} {v : Value} {cells : List Value} (c : Cx ops sp In a0 w0 bf j o done a w τ) (t : Nat) (hI : In t = B.ibox ty N v cells) (hl : lastTag (sp.map (·.tag)) t j = none) (hord : ordB (sp.map (·.tag)) bf t j = true) : boxR ty cells (τ t) v w :=
  c.ini t _ hI hl hord
theorem Cx.rbox {ty t slot : Nat} {cells : List Value} (c : Cx ops sp In a0 w0 bf j o done a w τ) (i : Nat) (hs : sp[i]? = some (B.box ty N t slot cells)) (hl : lastTag (sp.map (·.tag)) t j = some i) (hord : ordB (sp.map (·.tag)) bf t j = true) : boxR ty cells (τ t) (get a slot) w :=
  c.res i t _ hs hl hord
theorem Cx.rown {α : Type} {E : Enc α} {ty t slot : Nat} {xs : List α} (c : Cx ops sp In a0 w0 bf j o done a w τ) (i : Nat) (hs : sp[i]? = some (B.own E ty N t slot xs)) (hl : lastTag (sp.map (·.tag)) t j = some i) (hord : ordB (sp.map (·.tag)) bf t j = true) : ownR E ty xs (τ t) (get a slot) w :=
  c.res i t _ hs hl hord
end
section
variable {N : Foot} {l : List Oper} {sp : List (Spec N)} {il : List (Ini N)} {a0 a : Act} {w : World} {τ : Nat → Foot}
theorem Fin.rbox (h : Fin l sp il a0 a w τ) {ty t slot : Nat} {cells : List Value} (j : Nat) (hs : sp[j]? = some (B.box ty N t slot cells)) (hl : lastTag (sp.map (·.tag)) t sp.length = some j) {v : Value} (hv : get a slot = v) : boxR ty cells (τ t) v w :=
  hv ▸ h.res j t _ hs rfl hl
theorem Fin.rown (h : Fin l sp il a0 a w τ) {α : Type} {E : Enc α} {ty t slot : Nat} {xs : List α} (j : Nat) (hs : sp[j]? = some (B.own E ty N t slot xs)) (hl : lastTag (sp.map (·.tag)) t sp.length = some j) {v : Value} (hv : get a slot = v) : ownR E ty xs (τ t) v w :=
  hv ▸ h.res j t _ hs rfl hl
theorem Fin.ibox (h : Fin l sp il a0 a w τ) {ty : Nat} {v : Value} {cells : List Value} (t : Nat) (hI : iniOf il t = B.ibox ty N v cells) (hl : lastTag (sp.map (·.tag)) t sp.length = none) : boxR ty cells (τ t) v w := by
  have := h.ini t hl
  rw [hI] at this
  exact this
end
theorem ownR.nil {α : Type} (E : Enc α) (ty : Nat) (T : Foot) (w : World) : ownR E ty ([] : List α) T (.slice none 0 0) w := ⟨OwnT.nil E ty w, fun g h => by simp [Value.ownBlock] at h⟩
theorem SlT.le {α : Type} {E : Enc α} {xs : List α} {v : Value} {w : World} (h : SlT E w v xs) : xs.length ≤ 9223372036854775807 := h.sl.le
theorem ownR.le {α : Type} {E : Enc α} {ty : Nat} {xs : List α} {T : Foot} {v : Value} {w : World} (h : ownR E ty xs T v w) : xs.length ≤ 9223372036854775807 := h.1.sl.sl.le
theorem exit_here {id : Nat} {Q : Exit → Act → World → Prop} {a : Act} {w : World} (h : Q .normal a w) : Exit.inBlock id Q (.exit id) a w := by simpa [Exit.inBlock] using h
theorem int_eq {k : IntKind} {p q : Int} (h : p = q) : Value.int k p = Value.int k q := h ▸ rfl
section
variable {P : Program} {a : Act} {o : Oper} {w : World} {x : Operand} {ts : Array TypeId} {f : FuncId}
end
def SpanE : Enc (Int × Int) := ⟨fun p => [.int .i64 p.1, .int .i64 p.2], 2, by decide, fun _ => rfl, fun x u hu => by simp at hu; rcases hu with rfl | rfl <;> rfl⟩
def StrE : Enc ByteArray := ⟨fun p => [.string p], 1, by decide, fun _ => rfl, fun x u hu => by simp at hu; rcases hu with rfl; rfl⟩
end B
end Go.Proofs.YtebfahobllghnaaGreatDoor
namespace Go.Proofs.YtebfahobllghnaaGreatDoor
namespace B
open Go.RowKit
def splice (l : List Value) (o : Nat) (vs : List Value) : List Value := l.take o ++ vs ++ l.drop (o + vs.length)
theorem splice_head {l r vs : List Value} {o : Nat} (h : o + vs.length ≤ l.length) : splice (l ++ r) o vs = splice l o vs ++ r := by
  unfold splice
  rw [List.take_append_of_le_length (by omega), List.drop_append_of_le_length (by omega)]
  simp
section
variable {α : Type} {E : Enc α} {ty : Nat} {P : Program} {w : World}
end
section obs
variable {N : Foot} {P : Program} {ops : Array Oper} {sp : List (Spec N)} {In : Nat → Ini N} {a0 : Act} {w0 : World} {bf : List Nat} {j : Nat} {o : Oper} {s : Spec N}
end obs
theorem then_ret {K : Act → World → Prop} {Q : Exit → Act → World → Prop} {a : Act} {w : World} (h : Q .ret a w) : Exit.then K Q .ret a w := h
theorem block_ret {id : Nat} {Q : Exit → Act → World → Prop} {a : Act} {w : World} (h : Q .ret a w) : Exit.inBlock id Q .ret a w := h
theorem then_exit {id : Nat} {K : Act → World → Prop} {Q : Exit → Act → World → Prop} {a : Act} {w : World} (h : Q (.exit id) a w) : Exit.then K Q (.exit id) a w := h
end B
end Go.Proofs.YtebfahobllghnaaGreatDoor
namespace Go.Proofs.YtebfahobllghnaaGreatDoor
namespace B
open Go.RowKit
def subV (v : Value) (lo hi m : Nat) : Value := match v with
  | .slice a _ cap => .slice (if cap = lo then a else a.map (·.add (lo * m))) (hi - lo) (cap - lo)
  | v => v
def isNil (v : Value) : Bool := match v with
  | .slice none _ _ => true
  | _ => false
section
variable {α : Type} {E : Enc α} {w : World} {v : Value} {xs : List α}
theorem Enc.row_drop (E : Enc α) : ∀ (xs : List α) (n : Nat), E.row (xs.drop n) = (E.row xs).drop (n * E.sz)
  | xs, 0 => by simp
  | [], n + 1 => by simp [Enc.row]
  | x :: xs, n + 1 => by
    have e : E.row (x :: xs) = E.cells x ++ E.row xs := by simp [Enc.row]
    rw [List.drop_succ_cons, E.row_drop xs n, e, List.drop_append, E.len, List.drop_of_length_le (l := E.cells x) (by rw [E.len, Nat.add_mul]; omega), Nat.add_mul, List.nil_append]
    congr 1; omega
theorem Enc.row_take (E : Enc α) : ∀ (xs : List α) (n : Nat), E.row (xs.take n) = (E.row xs).take (n * E.sz)
  | xs, 0 => by simp [Enc.row]
  | [], n + 1 => by simp [Enc.row]
  | x :: xs, n + 1 => by
    have e : E.row (x :: xs) = E.cells x ++ E.row xs := by simp [Enc.row]
    have e' : E.row (x :: xs.take n) = E.cells x ++ E.row (xs.take n) := by simp [Enc.row]
    rw [List.take_succ_cons, e', E.row_take xs n, e, List.take_append, E.len, List.take_of_length_le (l := E.cells x) (by rw [E.len, Nat.add_mul]; omega), Nat.add_mul]
    congr 2; omega
theorem SlT.sub (h : SlT E w v xs) {lo hi : Nat} (h1 : lo ≤ hi) (h2 : hi ≤ xs.length) : SlT E w (subV v lo hi E.sz) ((xs.drop lo).take (hi - lo)) := by
  have hl : ((xs.drop lo).take (hi - lo)).length = hi - lo := by simp; omega
  rcases h.sl with ⟨rfl, h0⟩ | ⟨b, cap, rfl, hc, hm⟩
  · obtain rfl : hi = 0 := by omega
    obtain rfl : lo = 0 := by omega
    exact ⟨.inl ⟨by simp [subV], by simp⟩, fun j u hj => by simp [Enc.row] at hj⟩
  · refine ⟨.inr ⟨if cap = lo then b else b.add (lo * E.sz), cap - lo, ?_, by rw [hl]; omega, by omega⟩, fun j u hj => ?_⟩
    · rw [hl]; simp only [subV]; split <;> rfl
    · have hne : ¬ cap = lo := fun e => by
        have : (xs.drop lo).take (hi - lo) = [] := List.eq_nil_of_length_eq_zero (by omega)
        rw [this] at hj; simp [Enc.row] at hj
      have hp : ptrOf (subV (.slice (some b) xs.length cap) lo hi E.sz) = b.add (lo * E.sz) := by simp [subV, hne, ptrOf]
      rw [hp, add_add]
      refine h.cell (lo * E.sz + j) u ?_
      rw [E.row_take, E.row_drop] at hj
      have hlt : j < (hi - lo) * E.sz := by
        have := (List.getElem?_eq_some_iff.1 hj).1
        simp only [List.length_take] at this; omega
      rw [List.getElem?_take_of_lt hlt, List.getElem?_drop] at hj
      exact hj
theorem SlT.isNil (h : SlT E w v xs) (hn : isNil v = true) : xs = [] := by
  rcases h.sl with ⟨rfl, h0⟩ | ⟨b, cap, rfl, _⟩
  · exact List.eq_nil_of_length_eq_zero h0
  · simp [B.isNil] at hn
end
section
variable {P : Program} {a : Act} {o : Oper} {w : World} {t e : TypeId} {x y z : Operand} {v : Value} {n m : Nat} {k k' : IntKind} {p q : Int}
end
section
variable {N : Foot} {W : World} {n : Nat} {a : Act} {w : World} {τ : Nat → Foot}
end
section
variable {N : Foot} {P : Program} {ops : Array Oper} {sp : List (Spec N)} {In : Nat → Ini N} {a0 : Act} {w0 : World} {bf : List Nat} {j : Nat} {o : Oper} {s : Spec N}
theorem Ob.live {gi tg : Nat} {want : Bool} (hg : o.guard = some (gi, want)) (hgd : ((ops[gi]?).bind (·.dst)) = some tg) (hgs : sp[gi]? = some (B.det N tg (.bool want))) (hb : (bf.getD j 0).testBit gi = true)
    (h : Ob ops sp In a0 w0 P bf j { o with guard := none } s) : Ob ops sp In a0 w0 P bf j o s := by
  intro done a w τ c
  have c' : Cx ops sp In a0 w0 bf j { o with guard := none } done a w τ := ⟨c.J, c.hj, c.pre, c.post, c.lt⟩
  have hw := (h done a w τ c').1 (wanted_none rfl _)
  refine ⟨fun _ => hw, fun hn => ?_⟩
  have hv : get a tg = .bool want := c.v gi hgs hb
  have : a.tmps[tg]? = some (.bool want) := by
    unfold get at hv
    rw [Array.getD_eq_getD_getElem?] at hv
    cases h' : a.tmps[tg]? with
    | none => rw [h'] at hv; simp [undef] at hv
    | some u => rw [h'] at hv; simp at hv; rw [hv]
  exfalso
  cases want <;> simp [Region.wanted, hg, yielded, hgd, this] at hn
theorem Ob.dead {gi tg t : Nat} {want b : Bool} (hs : s = unk N t) (hg : o.guard = some (gi, want)) (hgd : ((ops[gi]?).bind (·.dst)) = some tg) (hgs : sp[gi]? = some (B.det N tg (.bool b))) (hb : (bf.getD j 0).testBit gi = true) (hne : b ≠ want) : Ob ops sp In a0 w0 P bf j o s := by
  intro done a w τ c
  subst hs
  have hv : get a tg = .bool b := c.v gi hgs hb
  have : a.tmps[tg]? = some (.bool b) := by
    unfold get at hv
    rw [Array.getD_eq_getD_getElem?] at hv
    cases h' : a.tmps[tg]? with
    | none => rw [h'] at hv; simp [undef] at hv
    | some u => rw [h'] at hv; simp at hv; rw [hv]
  refine ⟨fun hn => ?_, fun _ => ⟨Ext.refl _ _, trivial⟩⟩
  exfalso
  cases want <;> cases b <;> simp [Region.wanted, hg, yielded, hgd, this] at hn hne
end
theorem load_box {P : Program} {w : World} {ty : Nat} {cells : List Value} {T : Foot} {v : Value} {m : Nat} (hb : boxR ty cells T v w) (hz : ∀ w, (isAgg ty).run P w = .ok true w) (hm : ∀ w, (sizeOf ty).run P w = .ok m w) (hl : cells.length = m) :
    (loadVar ty (ptrOf v)).run P w = .ok (.agg cells.toArray) w := by
  subst hl
  simp only [loadVar, Sem.run_bind, hz, Result.andThen_ok, if_true, hm, loadCells]
  rw [run_loadCellsFrom cells (ptrOf v) 0 #[] (fun j u hj => by rw [Nat.zero_add]; exact hb.cell hj)]
  simp
theorem ret1c {P : Program} {fn : Func} {R : Ending → World → Prop} {a : Act} {w : World} {t ty m : Nat} {v : Value} {cells : List Value} {T : Foot} (hr : fn.results = #[.cell t ty]) (hd : a.defers = []) (hv : get a t = v) (hb : boxR ty cells T v w)
    (hz : ∀ w, (isAgg ty).run P w = .ok true w) (hm : ∀ w, (sizeOf ty).run P w = .ok m w) (hl : cells.length = m) (h : R (.returned (.agg cells.toArray)) w) : bodyPost P fn R .ret a w :=
  bodyPost_ret (v := .agg cells.toArray) (by
    have hp := hb.ptr
    have hv' : (a.tmps[t]?).getD undef = .pointer (some (ptrOf v)) := by rw [← Array.getD_eq_getD_getElem?]; exact hv.trans hp
    simp only [results, hr]
    simp [hv', asAddr, load_box hb hz hm hl]) hd h
def gownR {α : Type} (E : Enc α) (ty : Nat) (pc : Prop) (xs : List α) (T : Foot) (v : Value) (w : World) : Prop := pc → ownR E ty xs T v w
def gown {α : Type} (pc : Prop) (E : Enc α) (ty : Nat) (N : Foot) (tag t : Nat) (xs : List α) : Spec N := ⟨some tag, t, fun _ => gownR E ty pc xs, fun _ _ T v w w' _ h hr hp => ownR_loc T v w w' h.less (hr hp), fun _ => True, fun _ _ _ _ _ => trivial⟩
section
variable {N : Foot} {P : Program} {ops : Array Oper} {sp : List (Spec N)} {In : Nat → Ini N} {a0 : Act} {w0 : World} {bf : List Nat} {j : Nat} {o : Oper} {s : Spec N} {done : Nat → Bool} {a : Act} {w : World} {τ : Nat → Foot}
theorem Ob.gown {α : Type} {E : Enc α} {ty tag t gi tg : Nat} {want b : Bool} {pc : Prop} {xs : List α} (hs : s = B.gown pc E ty N tag t xs) (hg : o.guard = some (gi, want)) (hd : o.dst = some t) (hgd : ((ops[gi]?).bind (·.dst)) = some tg)
    (hgs : sp[gi]? = some (B.det N tg (.bool b))) (hb : (bf.getD j 0).testBit gi = true) (hpc : pc ↔ b = want)
    (h : pc → Ob ops sp In a0 w0 P bf j { o with guard := none } (own E ty N tag t xs)) : Ob ops sp In a0 w0 P bf j o s := by
  intro done a w τ c
  subst hs
  have c' : Cx ops sp In a0 w0 bf j { o with guard := none } done a w τ := ⟨c.J, c.hj, c.pre, c.post, c.lt⟩
  have hv : get a tg = .bool b := c.v gi hgs hb
  have hw : Region.wanted o (yielded ops a.tmps) = (b == want) := by
    have : a.tmps[tg]? = some (.bool b) := by
      unfold get at hv
      rw [Array.getD_eq_getD_getElem?] at hv
      cases h' : a.tmps[tg]? with
      | none => rw [h'] at hv; simp [undef] at hv
      | some u => rw [h'] at hv; simp at hv; rw [hv]
    cases b <;> cases want <;> simp [Region.wanted, hg, yielded, hgd, this]
  refine ⟨fun hw' => ?_, fun hw' => ?_⟩
  · rw [hw] at hw'
    have hp : pc := hpc.2 (by simpa using hw')
    have hw2 : o.wp P a w (fun a' w' => ∃ v, a' = a.put o.dst v ∧ StepOk (own E ty N tag t xs) a' τ w w') (fun _ _ _ => False) := (h hp done a w τ c').1 (wanted_none rfl _)
    refine Oper.wp_mono ?_ hw2
    intro a' w' hK
    obtain ⟨v, ha, hx, T', hT, hr⟩ := hK
    exact ⟨v, ha, hx, T', hT, fun _ => hr⟩
  · rw [hw] at hw'
    have hp : ¬ pc := fun hp => by rw [hpc.1 hp] at hw'; simp at hw'
    exact ⟨Ext.refl _ _, τ tag, fun g h => .inl h, fun hp' => absurd hp' hp⟩
theorem Cx.rgown {α : Type} {E : Enc α} {ty t slot : Nat} {pc : Prop} {xs : List α} (c : Cx ops sp In a0 w0 bf j o done a w τ) (i : Nat) (hs : sp[i]? = some (B.gown pc E ty N t slot xs)) (hl : lastTag (sp.map (·.tag)) t j = some i) (hord : ordB (sp.map (·.tag)) bf t j = true) (hp : pc) : ownR E ty xs (τ t) (get a slot) w :=
  c.res i t _ hs hl hord hp
end
section
variable {N : Foot} {P : Program} {ops : Array Oper} {sp : List (Spec N)} {In : Nat → Ini N} {a0 : Act} {w0 : World} {bf : List Nat} {j : Nat} {o : Oper} {s : Spec N} {done : Nat → Bool} {a : Act} {w : World} {τ : Nat → Foot}
end
end B
end Go.Proofs.YtebfahobllghnaaGreatDoor
namespace Go.Proofs.YtebfahobllghnaaGreatDoor
namespace B
open Go.RowKit
section
variable {P : Program} {a : Act} {o : Oper} {w : World} {t t' : TypeId} {x y z : Operand} {s u : ByteArray} {k k' : IntKind} {p q : Int}
theorem r_sub2 (ho : o.op = .slice t x (some y) (some z) none) (ht : P.underlying t = some .string) (hx : a.eval x = .string s) (hy : a.eval y = .int k p) (hz : a.eval z = .int k' q) (h0 : 0 ≤ p) (h1 : p ≤ q) (h2 : q ≤ s.size) : Runs P a o w (.string (s.extract p.toNat q.toNat)) := by
  have h4 : 0 ≤ q := by omega
  have h5 : p ≤ max q 0 := by omega
  simp [Runs, execOp, ho, hx, hy, hz, Instr.sliceAt, Instr.slice, run_underlying ht, Instr.sliceBounds, Instr.sliceBound, asIntOf, h0, h2, h4, h1]
  intro h6; omega
end
def byteAt (s : ByteArray) (i : Int) : Int := ((s.data.toList.getD i.toNat 0).toNat : Int)
theorem r_sindex {P : Program} {a : Act} {o : Oper} {w : World} {t : TypeId} {x y : Operand} {s : ByteArray} {k : IntKind} {p : Int} (ho : o.op = .index t x y) (ht : P.underlying t = some .string) (hx : a.eval x = .string s) (hy : a.eval y = .int k p) (h0 : 0 ≤ p) (h1 : p < s.size) : Runs P a o w (.int .u8 (byteAt s p)) := by
  have hlt : p.toNat < s.size := by omega
  have e : s[p.toNat]? = some (s.data.toList.getD p.toNat 0) := by
    rw [getElem?_pos s p.toNat hlt]
    have h2 : s.data.toList.getD p.toNat 0 = s.data.toList[p.toNat]'(by simpa using hlt) := by
      rw [List.getD_eq_getElem?_getD, List.getElem?_eq_getElem (by simpa using hlt)]; rfl
    rw [h2]
    rfl
  simp [Runs, execOp, ho, hx, hy, Instr.index, run_underlying ht, asIntOf, h0, e, byteAt]
section
variable {N : Foot} {P : Program} {ops : Array Oper} {sp : List (Spec N)} {In : Nat → Ini N} {a0 : Act} {w0 : World} {bf : List Nat} {j : Nat} {o : Oper} {s : Spec N}
theorem origin {P : Program} {w w' : World} {t u ty e : TypeId} {i : TypeInfo} {v v' : Value} {n : Nat} {xs : List Value} {s : ByteArray} (ht : P.underlying t = some (.slice e)) (hu : P.underlying u = some .string) (hi : P.info? e = some i) (hz : i.zero = some (.int .u8 0)) (hsize : i.size = 1) (hby : i.bytes = 1)
    (hown : w.ownsRow 0 e 1 v n xs) (h63 : n + s.size ≤ 140737488355328) (hr : (Builtin.append_ #[t, u] ty #[v, .string s]).run P w = .ok v' w') : ∀ g, v'.ownBlock = some g → v.ownBlock = some g ∨ (w.heap.size ≤ g ∧ g < w'.heap.size) := by
  have hxl : xs.length = n := by simpa using hown.1
  rcases hown.2 with ⟨rfl, rfl⟩ | ⟨g, cap, cur, rfl, hbg, hg, hnc, hcm, hcs, htake⟩
  · by_cases hm : s.size = 0
    · have hf := Lib.run_firstCells_string (P := P) w 1 s
      rw [hm] at hf
      have hr2 : (Builtin.append_ #[t, u] ty #[.slice none 0 0, .string s]).run P w = .ok (.slice none 0 0) w := by
        simp [Builtin.append_, run_underlying ht, run_underlying hu, sizeOf, typeInfo, hi, hsize, Builtin.lenOf, hm, hf]
      rw [hr2] at hr
      simp only [Result.ok.injEq] at hr
      obtain ⟨rfl, rfl⟩ := hr
      intro g h; simp [Value.ownBlock] at h
    · have hr2 := run_append_nil_string (P := P) w t u ty e i (.int .u8 0) ht hu hi hz s (by omega) (by omega) (by rw [hby]; omega)
      rw [hr2] at hr
      simp only [Result.ok.injEq] at hr
      obtain ⟨rfl, rfl⟩ := hr
      intro g h
      simp only [Value.ownBlock, Option.some.injEq] at h
      subst h
      right; simp
  · by_cases hroom : n + s.size ≤ cap
    · have hcs' : cur.size = cap := by simpa using hcs
      have hr2 := Lib.run_append_room_string (P := P) w t u ty e i ht hu hi hsize g n cap cur hg s hroom (by omega)
      rw [hr2] at hr
      simp only [Result.ok.injEq] at hr
      obtain ⟨rfl, rfl⟩ := hr
      intro g' h; exact .inl h
    · have holds : ∀ j u, xs[j]? = some u → w.cell? ((⟨g, 0, none⟩ : Addr).add j) = some u := World.ownsRow.cells hown (g := g) rfl
      have hr2 := Lib.run_append_grow_string (P := P) w t u ty e i (.int .u8 0) ht hu hi hz ⟨g, 0, none⟩ n cap xs (by rw [hsize]; simpa using hxl) holds s (by omega) (by omega) (by rw [hby]; exact growslice_fits (by omega) (by omega))
      rw [hr2] at hr
      simp only [Result.ok.injEq] at hr
      obtain ⟨rfl, rfl⟩ := hr
      intro g' h
      simp only [Value.ownBlock, Option.some.injEq] at h
      subst h
      right; simp
end
end B
end Go.Proofs.YtebfahobllghnaaGreatDoor
namespace Go.Proofs.YtebfahobllghnaaGreatDoor
namespace B
open Go.RowKit
def okAft (ops : Array Oper) : Bool :=
  (List.range ops.size).all fun j => match ops[j]? with
    | none => false
    | some o => o.after.all (fun e => !Region.binds .any e || e.on < j)
theorem okAft_spec {ops : Array Oper} (h : okAft ops = true) {j : Nat} {o : Oper} (ho : ops[j]? = some o) : ∀ e ∈ o.after, Region.binds .any e = true → e.on < j := by
  unfold okAft at h
  rw [List.all_eq_true] at h
  have := h j (by simpa using (Array.getElem?_eq_some_iff.1 ho).1)
  simp only [ho, Array.all_eq_true_iff_forall_mem, Bool.or_eq_true, Bool.not_eq_true', decide_eq_true_eq] at this
  exact fun e he hb => (this e he).resolve_left (by simp [hb])
theorem pre_of_closed2 {ops : Array Oper} {bf : List Nat} (hok : okAft ops = true) (hbf : okBf ops bf = true) {done : Nat → Bool} (hc : Closed ops done) :
    ∀ (m j : Nat), j ≤ m → (∀ o, ops[j]? = some o → ∀ e ∈ o.after, Region.binds .any e = true → done e.on = true) → ∀ i, (bf.getD j 0).testBit i = true → done i = true := by
  intro m
  induction m with
  | zero =>
    intro j hj h i hb
    have := (okBf_spec hbf hb).1
    omega
  | succ m ih =>
    intro j hj h i hb
    obtain ⟨_, _, o, ho, e, he, hbi, h2⟩ := okBf_spec hbf hb
    have hd := h o ho e he hbi
    rcases h2 with h2 | h2
    · rw [← h2]; exact hd
    · have hlt := okAft_spec hok ho e he hbi
      exact ih e.on (by omega) (fun o' ho' => hc e.on o' ho' hd) i h2
def Next (draw : Bool) (bf : List Nat) (D : Nat → Bool) (j : Nat) : Prop :=
  (draw = false ∧ ∀ i, D i = decide (i < j)) ∨ (draw = true ∧ D j = false ∧ (∀ i, (bf.getD j 0).testBit i = true → D i = true) ∧ ∀ k, (bf.getD k 0).testBit j = true → D k = false)
section
variable {P : Program} {ops : Array Oper} {bf : List Nat} {Inv : (Nat → Bool) → Act → World → Prop} {Q : Exit → Act → World → Prop}
def StepI (P : Program) (ops : Array Oper) (Inv : (Nat → Bool) → Act → World → Prop) (D : Nat → Bool) (o : Oper) (j : Nat) (a : Act) (w : World) : Prop :=
  (Region.wanted o (yielded ops a.tmps) = true → o.wp P a w (fun a' w' => Inv (fun i => i == j || D i) a' w') (fun _ _ _ => False)) ∧ (Region.wanted o (yielded ops a.tmps) = false → Inv (fun i => i == j || D i) (a.put o.dst undef) w)
theorem wpOp_inv {D : Nat → Bool} {j : Nat} {o : Oper} {a : Act} {w : World} {K : Act → World → Prop} (ho : ops[j]? = some o) (h : StepI P ops Inv D o j a w) (hK : ∀ a' w', Inv (fun i => i == j || D i) a' w' → K a' w') : wpOp P ops Q j K a w := by
  unfold wpOp
  rw [ho]
  simp only []
  by_cases hw : Region.wanted o (yielded ops a.tmps) = true
  · rw [if_pos hw]
    exact .inl (wp_weaken hK (h.1 hw))
  · rw [if_neg hw]
    exact hK _ _ (h.2 (by simpa using hw))
theorem inv_any (hok : okAft ops = true) (hbf : okBf ops bf = true)
    (step : ∀ D j o a w, ops[j]? = some o → Next true bf D j → Inv D a w → StepI P ops Inv D o j a w)
    (fin : ∀ D a w, (∀ i, i < ops.size → D i = true) → Inv D a w → Q .normal a w) : ∀ (fuel : Nat) (listed : Array Bool) (a : Act) (w : World),
      (List.range ops.size).countP (fun i => !listed.getD i true) ≤ fuel → listed.size = ops.size → Inv (fun i => listed.getD i true) a w → Closed ops (fun i => listed.getD i true) → wpAny P .any ops Q fuel listed a w := by
  have allDone : ∀ (listed : Array Bool), listed.size = ops.size → Region.ready .any ops listed = [] → ∀ m i, i ≤ m → listed.getD i true = true := by
    intro listed hsz hr m
    induction m with
    | zero =>
      intro i hi
      by_cases hlt : i < ops.size
      · cases hg : listed.getD i true with
        | true => rfl
        | false =>
          exfalso
          have : i ∈ Region.ready .any ops listed := mem_ready.2 ⟨hg, ops[i], by simp [hlt], fun e he hb => by
            have := okAft_spec hok (j := i) (o := ops[i]) (by simp [hlt]) e he hb; omega⟩
          rw [hr] at this; cases this
      · simp [Array.getD_eq_getD_getElem?, Array.getElem?_eq_none (show listed.size ≤ i by omega)]
    | succ m ih =>
      intro i hi
      by_cases hlt : i < ops.size
      · cases hg : listed.getD i true with
        | true => rfl
        | false =>
          exfalso
          have : i ∈ Region.ready .any ops listed := mem_ready.2 ⟨hg, ops[i], by simp [hlt], fun e he hb => by
            have h1 := okAft_spec hok (j := i) (o := ops[i]) (by simp [hlt]) e he hb
            have h2 := ih e.on (by omega)
            rw [Array.getD_eq_getD_getElem?] at h2 ⊢
            have h3 : e.on < listed.size := by omega
            simpa [Array.getElem?_eq_getElem h3] using h2⟩
          rw [hr] at this; cases this
      · simp [Array.getD_eq_getD_getElem?, Array.getElem?_eq_none (show listed.size ≤ i by omega)]
  have finish : ∀ (listed : Array Bool) (a : Act) (w : World), listed.size = ops.size → Region.ready .any ops listed = [] → Inv (fun i => listed.getD i true) a w → Q .normal a w :=
    fun listed a w hsz hr hJ => fin _ a w (fun i _ => allDone listed hsz hr i i (Nat.le_refl _)) hJ
  intro fuel
  induction fuel with
  | zero =>
    intro listed a w hcount hsz hJ hc
    have hr : Region.ready .any ops listed = [] := by
      cases hrr : Region.ready .any ops listed with
      | nil => rfl
      | cons x xs =>
        exfalso
        have hx : x ∈ Region.ready .any ops listed := by rw [hrr]; exact List.mem_cons_self
        obtain ⟨h1, o, ho, _⟩ := mem_ready.1 hx
        have hpos : 0 < (List.range ops.size).countP (fun i => !listed.getD i true) :=
          List.countP_pos_iff.2 ⟨x, by simpa using (Array.getElem?_eq_some_iff.1 ho).1, by simp only [h1, Bool.not_false]⟩
        omega
    exact ⟨hr, finish listed a w hsz hr hJ⟩
  | succ fuel ih =>
    intro listed a w hcount hsz hJ hc
    refine ⟨fun hr => finish listed a w hsz hr hJ, fun j hjr => ?_⟩
    obtain ⟨hj, o, ho, hpre⟩ := mem_ready.1 hjr
    have hjs : j < ops.size := (Array.getElem?_eq_some_iff.1 ho).1
    have hpre' : ∀ e ∈ o.after, Region.binds .any e = true → listed.getD e.on true = true := fun e he hb => by
      have h1 := hpre e he hb
      have h2 := okAft_spec hok ho e he hb
      rw [Array.getD_eq_getD_getElem?] at h1 ⊢
      have h3 : e.on < listed.size := by omega
      simpa [Array.getElem?_eq_getElem h3] using h1
    have hset : (fun i => (listed.setIfInBounds j true).getD i true) = (fun i => i == j || listed.getD i true) := by
      funext i
      simp only [Array.getD_eq_getD_getElem?, Array.getElem?_setIfInBounds]
      by_cases h : j = i
      · subst h; simp [hsz, hjs]
      · have : (i == j) = false := by simp; exact fun e => h e.symm
        simp [h, this]
    have p1 : ∀ i, (bf.getD j 0).testBit i = true → listed.getD i true = true := pre_of_closed2 hok hbf hc j j (Nat.le_refl _) (fun o' ho' => by rw [ho] at ho'; cases ho'; exact hpre')
    have p2 : ∀ k, (bf.getD k 0).testBit j = true → listed.getD k true = false := fun k hb => by
      cases hd : listed.getD k true with
      | false => rfl
      | true =>
        have := pre_of_closed2 hok hbf hc k k (Nat.le_refl _) (fun o' ho' => hc k o' ho' hd) j hb
        rw [hj] at this; cases this
    refine wpOp_inv ho (step _ j o a w ho (.inr ⟨rfl, hj, p1, p2⟩) hJ) fun a' w' hJ' => ?_
    refine ih _ a' w' ?_ (by simpa using hsz) (by rw [hset]; exact hJ') (by rw [hset]; exact closed_add hc ho hpre')
    have hlt : (List.range ops.size).countP (fun i => !(listed.setIfInBounds j true).getD i true) < (List.range ops.size).countP (fun i => !listed.getD i true) := by
      have e1 : (fun i => !(listed.setIfInBounds j true).getD i true) = (fun i => !(i == j || listed.getD i true)) := by
        funext i; rw [congrFun hset i]
      rw [e1]
      have hjm : j ∈ List.range ops.size := by simpa using hjs
      generalize List.range ops.size = l at hjm
      clear hcount ih
      induction l with
      | nil => cases hjm
      | cons x l ihl =>
        simp only [List.countP_cons]
        have hle : l.countP (fun i => !(i == j || listed.getD i true)) ≤ l.countP (fun i => !listed.getD i true) :=
          List.countP_mono_left fun y _ hy => by
            simp only [Bool.not_eq_true', Bool.or_eq_false_iff] at hy ⊢; exact hy.2
        by_cases hx : x = j
        · subst hx
          simp only [beq_self_eq_true, Bool.true_or, Bool.not_true, hj, Bool.not_false, if_true]
          simp only [Bool.false_eq_true, if_false]
          omega
        · have hjl : j ∈ l := by
            rcases List.mem_cons.1 hjm with h | h
            · exact absurd h.symm hx
            · exact h
          have := ihl hjl
          have hb : (x == j) = false := by simp [hx]
          simp only [hb, Bool.false_or]
          split <;> omega
    omega
theorem inv_range
    (step : ∀ D j o a w, ops[j]? = some o → Next false bf D j → Inv D a w → StepI P ops Inv D o j a w)
    (fin : ∀ D a w, (∀ i, i < ops.size → D i = true) → Inv D a w → Q .normal a w) : ∀ (m k : Nat) (D : Nat → Bool) (a : Act) (w : World), m + k = ops.size → (∀ i, D i = decide (i < k)) → Inv D a w → wpOps P ops Q (List.range' k m) a w := by
  intro m
  induction m with
  | zero =>
    intro k D a w hk hD hJ
    simp only [List.range'_zero, wpOps]
    exact fin D a w (fun i hi => by rw [hD]; simpa using (by omega : i < k)) hJ
  | succ m ih =>
    intro k D a w hk hD hJ
    have hks : k < ops.size := by omega
    rw [List.range'_succ, wpOps_cons]
    have ho : ops[k]? = some ops[k] := by simp [hks]
    refine wpOp_inv ho (step D k _ a w ho (.inl ⟨rfl, hD⟩) hJ) fun a' w' hJ' => ?_
    refine ih (k + 1) _ a' w' (by omega) (fun i => ?_) hJ'
    rw [hD i, Bool.eq_iff_iff]; simp; omega
end
theorem region_inv {P : Program} {l : List Oper} {bf : List Nat} {Inv : (Nat → Bool) → Act → World → Prop} {Q : Exit → Act → World → Prop} {a : Act} {w : World} {id : Nat} {draw : Bool} (hm : P.follows .mixedOrders = true)
    (hok : draw = true → (okAft l.toArray && okBf l.toArray bf) = true) (h0 : ∀ w', w' = w ∨ w' = w.drew → Inv (fun _ => false) a w')
    (step : ∀ D j o a w, l[j]? = some o → Next draw bf D j → Inv D a w → StepI P l.toArray Inv D o j a w)
    (fin : ∀ D a w, (∀ i, i < l.length → D i = true) → Inv D a w → Q .normal a w)
    (hD : draw = true → ∀ D D' a w, (∀ i, i < l.length → D i = D' i) → Inv D a w → Inv D' a w) : (Code.region id l.toArray draw).wp P Q a w := by
  cases draw with
  | true =>
    have h1 := hok rfl
    rw [Bool.and_eq_true] at h1
    refine wp_region_any hm ?_
    refine inv_any h1.1 h1.2 (fun D j o a w ho => step D j o a w (by simpa using ho)) (fun D a w hd => fin D a w (by simpa using hd)) l.toArray.size _ a _ ?_ (by simp) ?_ ?_
    · have := List.countP_le_length (p := fun i => !(Array.replicate l.toArray.size false).getD i true) (l := List.range l.toArray.size)
      simpa using this
    · refine hD rfl _ _ _ _ (fun i hi => ?_) (h0 _ (.inr rfl))
      simp [Array.getD_eq_getD_getElem?, hi]
    · intro j o ho hd
      have hlt : j < l.length := by simpa using (Array.getElem?_eq_some_iff.1 ho).1
      simp [Array.getD_eq_getD_getElem?, hlt] at hd
  | false =>
    refine wp_region ?_
    rw [List.range_eq_range']
    exact inv_range (bf := bf) (fun D j o a w ho => step D j o a w (by simpa using ho)) (fun D a w hd => fin D a w (by simpa using hd)) l.toArray.size 0 (fun _ => false) a w rfl (fun i => by simp) (h0 _ (.inl rfl))
end B
end Go.Proofs.YtebfahobllghnaaGreatDoor
namespace Go.Proofs.YtebfahobllghnaaGreatDoor
namespace X
open Go.RowKit
inductive Lin where
  | mk (c : Int) (ts : List (Nat × Int))
inductive Pc where
  | c (n : Nat)
  | a (i : Nat)
abbrev Str := List Pc
inductive Cap where
  | k (n : Nat)
  | q (sz : Nat)
inductive SV where
  | i (k : IntKind) (n : Int)
  | x (k : IntKind) (e : Lin)
  | b (b : Bool)
  | s (l : Str)
  | p (t off : Nat)
  | np
  | sl (t off len : Nat) (cap : Cap)
  | sb (t : Nat) (e : Str)
  | su (t : Nat)
  | ns
  | ag (l : List SV)
  | tu (l : List SV)
  | fn (f : Nat) (fi ca : List SV)
  | nf
  | ni
  | nm
  | mp (t : Nat)
  | g (g off : Nat)
  | un
  | sv (t : Nat) (e : Lin)
  | pv (t i : Nat)
  | sx (t n : Nat)
  | tp (t : Nat) (e : Lin)
inductive Blk where
  | ce (ty : Nat) (cs : List SV) (ex : Bool)
  | bt (ty : Nat) (l : Str)
  | mp (es : List (SV × SV × Nat)) (ck : Nat)
  | ob (ty : Nat) (l : Str)
  | cv (cs : List SV)
  | cq (n b : Nat)
  | cx (ty n b : Nat)
  | hb (k : List Nat) (l q : Str)
inductive Tr (α : Type) where
  | lf
  | nd (l : Tr α) (v : Option α) (r : Tr α)
def Tr.get {α : Type} : Tr α → Nat → Option α
  | .lf, _ => none
  | .nd l v r, k => match k with
    | 0 => v
    | k + 1 => match Nat.beq (Nat.mod k 2) 0 with
      | true => l.get (Nat.div k 2)
      | false => r.get (Nat.div k 2)
def Tr.up {α : Type} : Nat → Tr α → Nat → Option α → Tr α
  | 0, t, _, _ => t
  | f + 1, .lf, k, x => match k with
    | 0 => .nd .lf x .lf
    | k + 1 => match Nat.beq (Nat.mod k 2) 0 with
      | true => .nd (Tr.up f .lf (Nat.div k 2) x) none .lf
      | false => .nd .lf none (Tr.up f .lf (Nat.div k 2) x)
  | f + 1, .nd l v r, k, x => match k with
    | 0 => .nd l x r
    | k + 1 => match Nat.beq (Nat.mod k 2) 0 with
      | true => .nd (Tr.up f l (Nat.div k 2) x) v r
      | false => .nd l v (Tr.up f r (Nat.div k 2) x)
def Tr.put {α : Type} : Nat → Tr α → Nat → Option α → (Tr α → Bool) → Bool
  | 0, _, _, _, _ => false
  | f + 1, .lf, k, x, c => match k with
    | 0 => c (.nd .lf x .lf)
    | k + 1 => match Nat.beq (Nat.mod k 2) 0 with
      | true => Tr.put f .lf (Nat.div k 2) x fun l => c (.nd l none .lf)
      | false => Tr.put f .lf (Nat.div k 2) x fun r => c (.nd .lf none r)
  | f + 1, .nd l v r, k, x, c => match k with
    | 0 => c (.nd l x r)
    | k + 1 => match Nat.beq (Nat.mod k 2) 0 with
      | true => Tr.put f l (Nat.div k 2) x fun l => c (.nd l v r)
      | false => Tr.put f r (Nat.div k 2) x fun r => c (.nd l v r)
theorem Tr.up_get {α : Type} : ∀ {f : Nat} {t : Tr α} {k : Nat} {x : Option α}, k < 2 ^ f → ∀ j, (Tr.up (f + 1) t k x).get j = if j = k then x else t.get j := by
  intro f
  induction f with
  | zero =>
    intro t k x hk j
    have : k = 0 := by simpa using hk
    subst this
    cases t <;> cases j <;> simp [Tr.up, Tr.get]
    split <;> rfl
  | succ f ih =>
    intro t k x hk j
    have ih' : ∀ (t : Tr α) (k' : Nat), k = k' + 1 → ∀ j, (Tr.up (f + 1) t (k' / 2) x).get j = if j = k' / 2 then x else t.get j := fun t k' e j =>
      ih (by rw [Nat.pow_succ] at hk; omega) j
    have hmod : ∀ n, n % 2 = 0 ∨ n % 2 = 1 := fun n => by omega
    have bt : ∀ n, n % 2 = 0 → Nat.beq (Nat.mod n 2) 0 = true := fun n h => by show Nat.beq (n % 2) 0 = true; rw [h]; rfl
    have bf : ∀ n, n % 2 = 1 → Nat.beq (Nat.mod n 2) 0 = false := fun n h => by show Nat.beq (n % 2) 0 = false; rw [h]; rfl
    cases t with
    | lf =>
      cases k with
      | zero => cases j <;> simp [Tr.up, Tr.get] ; split <;> rfl
      | succ k =>
        have e := fun t => ih' t k rfl
        rcases hmod k with hk2 | hk2
        · simp only [Tr.up, bt k hk2]
          cases j with
          | zero => simp [Tr.get]
          | succ j =>
            rcases hmod j with hj | hj
            · simp only [Tr.get, bt j hj]
              show (Tr.up (f + 1) Tr.lf (k / 2) x).get (j / 2) = _
              rw [e]
              simp only [Tr.get]
              split <;> split <;> first | rfl | omega
            · simp only [Tr.get, bf j hj]
              split
              · omega
              · rfl
        · simp only [Tr.up, bf k hk2]
          cases j with
          | zero => simp [Tr.get]
          | succ j =>
            rcases hmod j with hj | hj
            · simp only [Tr.get, bt j hj]
              split
              · omega
              · rfl
            · simp only [Tr.get, bf j hj]
              show (Tr.up (f + 1) Tr.lf (k / 2) x).get (j / 2) = _
              rw [e]
              simp only [Tr.get]
              split <;> split <;> first | rfl | omega
    | nd l v r =>
      cases k with
      | zero => cases j <;> simp [Tr.up, Tr.get]
      | succ k =>
        have e := fun t => ih' t k rfl
        rcases hmod k with hk2 | hk2
        · simp only [Tr.up, bt k hk2]
          cases j with
          | zero => simp [Tr.get]
          | succ j =>
            rcases hmod j with hj | hj
            · simp only [Tr.get, bt j hj]
              show (Tr.up (f + 1) l (k / 2) x).get (j / 2) = _
              rw [e]
              split <;> split <;> first | rfl | omega
            · simp only [Tr.get, bf j hj]
              split
              · omega
              · rfl
        · simp only [Tr.up, bf k hk2]
          cases j with
          | zero => simp [Tr.get]
          | succ j =>
            rcases hmod j with hj | hj
            · simp only [Tr.get, bt j hj]
              split
              · omega
              · rfl
            · simp only [Tr.get, bf j hj]
              show (Tr.up (f + 1) r (k / 2) x).get (j / 2) = _
              rw [e]
              split <;> split <;> first | rfl | omega
theorem Tr.put_eq {α : Type} : ∀ {f : Nat} {t : Tr α} {k : Nat} {x : Option α} {c : Tr α → Bool}, k < 2 ^ f → Tr.put (f + 1) t k x c = c (Tr.up (f + 1) t k x) := by
  intro f
  induction f with
  | zero =>
    intro t k x c hk
    have : k = 0 := by simpa using hk
    subst this
    cases t <;> simp [Tr.put, Tr.up]
  | succ f ih =>
    intro t k x c hk
    cases t <;> cases k with
    | zero => simp [Tr.put, Tr.up]
    | succ k =>
      have hk' : Nat.div k 2 < 2 ^ f := by
        show k / 2 < 2 ^ f
        rw [Nat.pow_succ] at hk; omega
      first
        | (show (match Nat.beq (Nat.mod k 2) 0 with
            | true => Tr.put (f + 1) .lf (Nat.div k 2) x fun l => c (.nd l none .lf)
            | false => Tr.put (f + 1) .lf (Nat.div k 2) x fun r => c (.nd .lf none r)) = c (match Nat.beq (Nat.mod k 2) 0 with
            | true => .nd (Tr.up (f + 1) .lf (Nat.div k 2) x) none .lf
            | false => .nd .lf none (Tr.up (f + 1) .lf (Nat.div k 2) x)))
        | (rename_i l v r; show (match Nat.beq (Nat.mod k 2) 0 with
            | true => Tr.put (f + 1) l (Nat.div k 2) x fun l => c (.nd l v r)
            | false => Tr.put (f + 1) r (Nat.div k 2) x fun r => c (.nd l v r)) = c (match Nat.beq (Nat.mod k 2) 0 with
            | true => .nd (Tr.up (f + 1) l (Nat.div k 2) x) v r
            | false => .nd l v (Tr.up (f + 1) r (Nat.div k 2) x)))
      split <;> exact ih hk'
def Tr.set {α : Type} (t : Tr α) (k : Nat) (x : Option α) (c : Tr α → Bool) : Bool := match Nat.ble k 4194303 with
  | true => Tr.put 23 t k x c
  | false => false
theorem Tr.set_spec {α : Type} {t : Tr α} {k : Nat} {x : Option α} {c : Tr α → Bool} (h : Tr.set t k x c = true) : ∃ t', c t' = true ∧ (∀ j, t'.get j = if j = k then x else t.get j) ∧ ∀ c', Tr.set t k x c' = true → c' t' = true := by
  unfold Tr.set at h
  split at h
  · rename_i hk
    have hk' : k < 2 ^ 22 := by have := Nat.le_of_ble_eq_true hk; omega
    rw [Tr.put_eq (f := 22) hk'] at h
    refine ⟨_, h, Tr.up_get hk', fun c' hc => ?_⟩
    unfold Tr.set at hc
    rw [hk] at hc
    simp only at hc
    rwa [Tr.put_eq (f := 22) hk'] at hc
  · cases h
end X
end Go.Proofs.YtebfahobllghnaaGreatDoor
namespace Go.Proofs.YtebfahobllghnaaGreatDoor
namespace X
open Go.RowKit
def unp : Nat → Nat × Nat
  | 0 => (0, 0)
  | n + 1 => match unp n with
    | (a, 0) => (0, a + 1)
    | (a, b + 1) => (a + 1, b)
theorem unp_up {a b n : Nat} : ∀ {k : Nat}, unp n = (a, b + k) → unp (n + k) = (a + k, b)
  | 0, h => h
  | k + 1, h => by
    have h1 : unp (n + 1) = (a + 1, b + k) := by
      rw [unp, h]; rfl
    have := unp_up (n := n + 1) h1
    rw [show n + (k + 1) = n + 1 + k by omega, this, show a + (k + 1) = a + 1 + k by omega]
theorem unp_diag : ∀ s, ∃ n, unp n = (0, s)
  | 0 => ⟨0, rfl⟩
  | s + 1 => by
    obtain ⟨n, hn⟩ := unp_diag s
    have h1 := unp_up (a := 0) (b := 0) (n := n) (k := s) (by rw [hn, Nat.zero_add])
    refine ⟨n + s + 1, ?_⟩
    rw [unp, h1, Nat.zero_add]
theorem unp_all (a b : Nat) : ∃ n, unp n = (a, b) := by
  obtain ⟨n, hn⟩ := unp_diag (a + b)
  have := unp_up (a := 0) (b := b) (n := n) (k := a) (by rw [hn, Nat.add_comm])
  exact ⟨n + a, by rw [this, Nat.zero_add]⟩
noncomputable def prN (a b : Nat) : Nat := Classical.choose (unp_all a b)
theorem prN_inj {a b c d : Nat} (h : prN a b = prN c d) : a = c ∧ b = d := by
  have h1 := Classical.choose_spec (unp_all a b)
  have h2 := Classical.choose_spec (unp_all c d)
  have h1 : unp (prN a b) = (a, b) := h1
  have h2 : unp (prN c d) = (c, d) := h2
  rw [h, h2] at h1
  cases h1; exact ⟨rfl, rfl⟩
noncomputable def lsE : List Nat → Nat
  | [] => 0
  | a :: l => prN a (lsE l) + 1
theorem lsE_inj : ∀ {l m : List Nat}, lsE l = lsE m → l = m
  | [], [], _ => rfl
  | [], b :: m, h => by simp [lsE] at h
  | a :: l, [], h => by simp [lsE] at h
  | a :: l, b :: m, h => by
    obtain ⟨h1, h2⟩ := prN_inj (Nat.succ.inj h)
    rw [h1, lsE_inj h2]
def intE : Int → Nat
  | .ofNat n => 2 * n
  | .negSucc n => 2 * n + 1
theorem intE_inj {a b : Int} (h : intE a = intE b) : a = b := by
  cases a <;> cases b <;> simp only [intE] at h <;> first | omega | (congr 1; omega)
def ikE : IntKind → Nat
  | .i8 => 0 | .i16 => 1 | .i32 => 2 | .i64 => 3 | .u8 => 4 | .u16 => 5 | .u32 => 6 | .u64 => 7
theorem ikE_inj {a b : IntKind} (h : ikE a = ikE b) : a = b := by cases a <;> cases b <;> first | rfl | (simp [ikE] at h)
def fkE : FloatKind → Nat
  | .f32 => 0 | .f64 => 1
theorem fkE_inj {a b : FloatKind} (h : fkE a = fkE b) : a = b := by cases a <;> cases b <;> first | rfl | (simp [fkE] at h)
def opE : Option Nat → Nat
  | none => 0
  | some n => n + 1
theorem opE_inj {a b : Option Nat} (h : opE a = opE b) : a = b := by cases a <;> cases b <;> simp [opE] at h <;> simp [h]
noncomputable def adE : Option Addr → Nat
  | none => lsE []
  | some a => lsE [a.block, a.off, opE a.spot]
theorem adE_inj {a b : Option Addr} (h : adE a = adE b) : a = b := by
  cases a with
  | none => cases b with
    | none => rfl
    | some b => have := lsE_inj h; simp at this
  | some a => cases b with
    | none => have := lsE_inj h; simp at this
    | some b =>
      have := lsE_inj h
      simp only [List.cons.injEq, and_true] at this
      obtain ⟨h1, h2, h3⟩ := this
      obtain ⟨a1, a2, a3⟩ := a
      obtain ⟨b1, b2, b3⟩ := b
      simp only at h1 h2 h3
      rw [h1, h2, opE_inj h3]
theorem map_inj' {α : Type} {F : α → Nat} : ∀ {l m : List α}, (∀ a ∈ l, ∀ b ∈ m, F a = F b → a = b) → l.map F = m.map F → l = m
  | [], [], _, _ => rfl
  | [], b :: m, _, h => by simp at h
  | a :: l, [], _, h => by simp at h
  | a :: l, b :: m, hF, h => by
    simp only [List.map_cons, List.cons.injEq] at h
    rw [hF a (by simp) b (by simp) h.1, map_inj' (fun x hx y hy => hF x (by simp [hx]) y (by simp [hy])) h.2]
noncomputable def baE (s : ByteArray) : Nat := lsE (s.data.toList.map UInt8.toNat)
theorem baE_inj {a b : ByteArray} (h : baE a = baE b) : a = b := by
  have := map_inj' (fun x _ y _ e => UInt8.toNat_inj.1 e) (lsE_inj h)
  obtain ⟨a⟩ := a
  obtain ⟨b⟩ := b
  simp only at this
  rw [Array.toList_inj.1 this]
noncomputable def stE (s : String) : Nat := lsE (s.toList.map Char.toNat)
theorem stE_inj {a b : String} (h : stE a = stE b) : a = b := by
  have := map_inj' (fun x _ y _ e => Char.ext (UInt32.toNat_inj.1 e)) (lsE_inj h)
  exact String.toList_inj.1 this
noncomputable def fsE (s : FieldStep) : Nat := lsE [s.struct, s.index, s.deref.toNat]
theorem bl_inj {a b : Bool} (h : a.toNat = b.toNat) : a = b := by cases a <;> cases b <;> first | rfl | (simp at h)
theorem fsE_inj {a b : FieldStep} (h : fsE a = fsE b) : a = b := by
  have := lsE_inj h
  simp only [List.cons.injEq, and_true] at this
  obtain ⟨h1, h2, h3⟩ := this
  obtain ⟨a1, a2, a3⟩ := a
  obtain ⟨b1, b2, b3⟩ := b
  simp only at h1 h2 h3
  rw [h1, h2, bl_inj h3]
noncomputable def fnE : Fn → Nat
  | .func f => lsE [0, f]
  | .method n => lsE [1, stE n]
  | .methodOf t n => lsE [2, t, stE n]
  | .via t p f q => lsE [3, t, lsE (p.toList.map fsE), f, q.toNat]
  | .yield l => lsE [4, l]
theorem fnE_inj {a b : Fn} (h : fnE a = fnE b) : a = b := by
  cases a <;> cases b <;> have h := lsE_inj h <;> simp only [List.cons.injEq, and_true, reduceCtorEq, false_and, and_false, Nat.reduceEqDiff, Nat.zero_ne_one, Nat.one_ne_zero, true_and] at h
  · rw [h]
  · rw [stE_inj h]
  · rw [h.1, stE_inj h.2]
  · obtain ⟨h1, h2, h3, h4⟩ := h
    rw [h1, Array.toList_inj.1 (map_inj' (fun x _ y _ e => fsE_inj e) (lsE_inj h2)), h3, bl_inj h4]
  · rw [h]
noncomputable def vlE (F : Value → Nat) : Value → Nat
  | .bool b => lsE [0, b.toNat]
  | .int k n => lsE [1, ikE k, intE n]
  | .float k b => lsE [2, fkE k, b]
  | .complex k a b => lsE [3, fkE k, a, b]
  | .string s => lsE [4, baE s]
  | .pointer a => lsE [5, adE a]
  | .slice a l c => lsE [6, adE a, l, c]
  | .map r => lsE [7, opE r]
  | .chan r => lsE [8, opE r]
  | .func fn a b => lsE [9, fnE fn, lsE (a.toList.map F), lsE (b.toList.map F)]
  | .nilFunc => lsE [10]
  | .iface t v => lsE [11, t, F v]
  | .nilIface => lsE [12]
  | .agg cs => lsE [13, lsE (cs.toList.map F)]
  | .tuple vs => lsE [14, lsE (vs.toList.map F)]
theorem arr_inj {n : Nat} {F : Value → Nat} (hF : ∀ a b, SizeOf.sizeOf a < n → SizeOf.sizeOf b < n → F a = F b → a = b) {a b : Array Value} (ha : SizeOf.sizeOf a ≤ n) (hb : SizeOf.sizeOf b ≤ n) (h : lsE (a.toList.map F) = lsE (b.toList.map F)) : a = b :=
  Array.toList_inj.1 (map_inj' (fun x hx y hy e => hF x y (Nat.lt_of_lt_of_le (Array.sizeOf_lt_of_mem (by simpa using hx)) ha) (Nat.lt_of_lt_of_le (Array.sizeOf_lt_of_mem (by simpa using hy)) hb) e) (lsE_inj h))
theorem vlE_inj {n : Nat} {F : Value → Nat} (hF : ∀ a b, SizeOf.sizeOf a < n → SizeOf.sizeOf b < n → F a = F b → a = b) : ∀ a b, SizeOf.sizeOf a ≤ n → SizeOf.sizeOf b ≤ n → vlE F a = vlE F b → a = b := fun a b ha hb h => by
  cases a <;> cases b <;> have h := lsE_inj h <;> simp only [List.cons.injEq, and_true, reduceCtorEq, false_and, and_false, Nat.reduceEqDiff, Nat.zero_ne_one, Nat.one_ne_zero, true_and] at h
  · rw [bl_inj h]
  · rw [ikE_inj h.1, intE_inj h.2]
  · rw [fkE_inj h.1, h.2]
  · rw [fkE_inj h.1, h.2.1, h.2.2]
  · rw [baE_inj h]
  · rw [adE_inj h]
  · rw [adE_inj h.1, h.2.1, h.2.2]
  · rw [opE_inj h]
  · rw [opE_inj h]
  · simp only [Value.func.sizeOf_spec] at ha hb
    obtain ⟨h1, h2, h3⟩ := h
    rw [fnE_inj h1, arr_inj hF (by omega) (by omega) h2, arr_inj hF (by omega) (by omega) h3]
  · rfl
  · simp only [Value.iface.sizeOf_spec] at ha hb
    rw [h.1, hF _ _ (by omega) (by omega) h.2]
  · rfl
  · simp only [Value.agg.sizeOf_spec] at ha hb
    rw [arr_inj hF (by omega) (by omega) h]
  · simp only [Value.tuple.sizeOf_spec] at ha hb
    rw [arr_inj hF (by omega) (by omega) h]
theorem vl_ex : ∀ n, ∃ F : Value → Nat, ∀ a b, SizeOf.sizeOf a < n → SizeOf.sizeOf b < n → F a = F b → a = b
  | 0 => ⟨fun _ => 0, fun a b h => absurd h (by omega)⟩
  | n + 1 => by
    obtain ⟨F, hF⟩ := vl_ex n
    exact ⟨vlE F, fun a b ha hb h => vlE_inj hF a b (by omega) (by omega) h⟩
noncomputable def vlF (n : Nat) : Value → Nat := Classical.choose (vl_ex n)
noncomputable def valE (v : Value) : Nat := lsE [SizeOf.sizeOf v, vlF (SizeOf.sizeOf v + 1) v]
theorem valE_inj {a b : Value} (h : valE a = valE b) : a = b := by
  have := lsE_inj h
  simp only [List.cons.injEq, and_true] at this
  obtain ⟨h1, h2⟩ := this
  rw [← h1] at h2
  exact Classical.choose_spec (vl_ex (SizeOf.sizeOf a + 1)) a b (by omega) (by omega) h2
noncomputable def objE (o : Array Value × Nat × Nat × Nat) : Nat := lsE [lsE (o.1.toList.map valE), o.2.1, o.2.2.1, o.2.2.2]
theorem objE_inj {a b : Array Value × Nat × Nat × Nat} (h : objE a = objE b) : a = b := by
  have := lsE_inj h
  simp only [List.cons.injEq, and_true] at this
  obtain ⟨h1, h2, h3, h4⟩ := this
  obtain ⟨a1, a2, a3, a4⟩ := a
  obtain ⟨b1, b2, b3, b4⟩ := b
  simp only at h1 h2 h3 h4
  rw [Array.toList_inj.1 (map_inj' (fun x _ y _ e => valE_inj e) (lsE_inj h1)), h2, h3, h4]
open Classical in
noncomputable def objD (n : Nat) : Option Obj := if h : ∃ o, objE o = n then some (.cells (Classical.choose h).1 (Classical.choose h).2.1 (Classical.choose h).2.2) else none
theorem objD_all (o : Array Value × Nat × Nat × Nat) : ∃ n, objD n = some (.cells o.1 o.2.1 o.2.2) := by
  refine ⟨objE o, ?_⟩
  unfold objD
  have h : ∃ o', objE o' = objE o := ⟨o, rfl⟩
  rw [dif_pos h]
  have e := objE_inj (Classical.choose_spec h)
  rw [e]
end X
end Go.Proofs.YtebfahobllghnaaGreatDoor
namespace Go.Proofs.YtebfahobllghnaaGreatDoor
namespace X
open Go.RowKit B
def bstr (l : List UInt8) : ByteArray := ⟨l.toArray⟩
open Classical in
noncomputable def lsD (n : Nat) : List Nat := if h : ∃ l, lsE l = n then Classical.choose h else []
theorem lsD_E (l : List Nat) : lsD (lsE l) = l := by
  unfold lsD
  have h : ∃ l', lsE l' = lsE l := ⟨l, rfl⟩
  rw [dif_pos h]
  exact lsE_inj (Classical.choose_spec h)
def tB (l : List UInt8) : Int := (l.countP fun c => c == 10 : Nat)
def tR (l : List UInt8) : Int := (l.countP fun c => decide (c.toNat < 128 ∨ 191 < c.toNat) : Nat)
def tU (l : List UInt8) : Int := tR l + (l.countP fun c => decide (240 ≤ c.toNat) : Nat)
theorem tB_rng (l : List UInt8) : 0 ≤ tB l ∧ tB l ≤ l.length := ⟨by unfold tB; omega, by unfold tB; exact Int.ofNat_le.2 List.countP_le_length⟩
theorem tR_rng (l : List UInt8) : 0 ≤ tR l ∧ tR l ≤ l.length := ⟨by unfold tR; omega, by unfold tR; exact Int.ofNat_le.2 List.countP_le_length⟩
theorem tU_rng (l : List UInt8) : 0 ≤ tU l ∧ tU l ≤ 2 * l.length := by
  have h1 := tR_rng l
  have h2 : ((l.countP fun c => decide (240 ≤ c.toNat) : Nat) : Int) ≤ l.length := Int.ofNat_le.2 List.countP_le_length
  unfold tU
  omega
inductive PTr where
  | lf
  | nd (g : Nat) (o : List UInt8) (p : Int) (l r : PTr)
def PTr.blocks : PTr → List Nat
  | .lf => []
  | .nd g _ _ l r => g :: (l.blocks ++ r.blocks)
def PTr.text : PTr → List UInt8
  | .lf => []
  | .nd _ o _ l r => l.text ++ o ++ r.text
def PTr.lens : PTr → List UInt8
  | .lf => []
  | .nd _ o _ l r => l.lens ++ UInt8.ofNat o.length :: r.lens
def PTr.ptr : PTr → Value
  | .lf => .pointer none
  | .nd g _ _ _ _ => .pointer (some ⟨g, 0, none⟩)
def PTr.root (d : PTr) (g : Nat) : Prop := match d with
  | .lf => True
  | .nd g' _ _ _ _ => g = g'
def nodeV (L o R : List UInt8) (p : Int) : List Value := [.int .i64 (L ++ o ++ R).length, .int .i64 (tB (L ++ o ++ R)), .int .i64 (tR (L ++ o ++ R)), .int .i64 (tU (L ++ o ++ R)), .string (bstr o), .int .i64 o.length, .int .i64 (tB o), .int .i64 (tR o), .int .i64 (tU o), .int .u32 p]
def TreeT (w : World) (ty : Nat) : PTr → Prop
  | .lf => True
  | .nd g o p l r => (∃ arr, w.heap[g]? = some (.cells arr ty (0, 0)) ∧ arr.toList = nodeV l.text o r.text p ++ [l.ptr, r.ptr]) ∧ (1 ≤ o.length ∧ o.length ≤ 64) ∧ (0 ≤ p ∧ p ≤ 4294967295) ∧ TreeT w ty l ∧ TreeT w ty r
theorem TreeT.lt {w : World} {ty : Nat} : ∀ {d : PTr}, TreeT w ty d → ∀ g ∈ d.blocks, g < w.heap.size
  | .lf, _, g, hg => by cases hg
  | .nd g' o p l r, h, g, hg => by
    obtain ⟨⟨arr, h1, _⟩, _, _, hl, hr⟩ := h
    rcases List.mem_cons.1 hg with rfl | hg
    · exact (Array.getElem?_eq_some_iff.1 h1).1
    · rcases List.mem_append.1 hg with hg | hg
      · exact TreeT.lt hl g hg
      · exact TreeT.lt hr g hg
theorem TreeT.keep {w w' : World} {ty : Nat} : ∀ {d : PTr}, TreeT w ty d → (∀ g ∈ d.blocks, w'.heap[g]? = w.heap[g]?) → TreeT w' ty d
  | .lf, _, _ => trivial
  | .nd g' o p l r, h, hg => by
    obtain ⟨⟨arr, h1, h2⟩, h3, h4, hl, hr⟩ := h
    exact ⟨⟨arr, by rw [hg g' (by simp [PTr.blocks])]; exact h1, h2⟩, h3, h4, TreeT.keep hl fun g q => hg g (by simp [PTr.blocks, q]), TreeT.keep hr fun g q => hg g (by simp [PTr.blocks, q])⟩
def DiceT (w : World) (td tu gd gn : Nat) : Prop := ∃ (told last : Int) (da na : Array Value) (a b c : Int) (rest : List Value), (w.heap[gd]? = some (.cells da td (0, 0)) ∧ da.toList = [.slice (some ⟨gn, 0, none⟩) 3 na.size, .int .i64 told, .int .u32 last]) ∧ (0 ≤ told ∧ told ≤ 3) ∧ (0 ≤ last ∧ last ≤ 4294967295) ∧
  (w.heap[gn]? = some (.cells na tu (0, 0)) ∧ na.toList = [.int .u32 a, .int .u32 b, .int .u32 c] ++ rest) ∧ (0 ≤ a ∧ a ≤ 4294967295) ∧ (0 ≤ b ∧ b ≤ 4294967295) ∧ 0 ≤ c ∧ c ≤ 4294967295
theorem DiceT.keep {w w' : World} {td tu gd gn : Nat} (h : DiceT w td tu gd gn) (h1 : w'.heap[gd]? = w.heap[gd]?) (h2 : w'.heap[gn]? = w.heap[gn]?) : DiceT w' td tu gd gn := by
  obtain ⟨told, last, da, na, a, b, c, rest, g1, g2, g3, g4, g5⟩ := h
  exact ⟨told, last, da, na, a, b, c, rest, ⟨by rw [h1]; exact g1.1, g1.2⟩, g2, g3, ⟨by rw [h2]; exact g4.1, g4.2⟩, g5⟩
def Hid (k : List Nat) (w : World) (x : Nat × Nat) (L Q : List UInt8) : Prop := match k with
  | [0, ty] => ∃ d : PTr, lsD x.2 = d.blocks ∧ d.blocks.Nodup ∧ TreeT w ty d ∧ d.text = L ∧ d.lens = Q ∧ d.root x.1
  | [1, tr, tn, td, tu] => ∃ (d : PTr) (gd gn : Nat) (ra : Array Value), lsD x.2 = x.1 :: gd :: gn :: d.blocks ∧ (x.1 :: gd :: gn :: d.blocks).Nodup ∧ TreeT w tn d ∧ d.text = L ∧
      (w.heap[x.1]? = some (.cells ra tr (0, 0)) ∧ ra.toList = [.pointer (some ⟨gd, 0, none⟩), d.ptr]) ∧ DiceT w td tu gd gn
  | [2, td, tu] => ∃ gn, lsD x.2 = [x.1, gn] ∧ x.1 ≠ gn ∧ DiceT w td tu x.1 gn
  | _ => False
theorem Hid.lt {k : List Nat} {w : World} {x : Nat × Nat} {L Q : List UInt8} (h : Hid k w x L Q) : ∀ g ∈ lsD x.2, g < w.heap.size := fun g hg => by
  have lt : ∀ {g : Nat} {o : Obj}, w.heap[g]? = some o → g < w.heap.size := fun h => (Array.getElem?_eq_some_iff.1 h).1
  unfold Hid at h
  split at h
  · obtain ⟨d, h1, _, h2, _⟩ := h
    rw [h1] at hg
    exact h2.lt g hg
  · obtain ⟨d, gd, gn, ra, h1, _, h2, _, h3, told, last, da, na, a, b, c, rest, g1, g2, g3, g4, g5⟩ := h
    rw [h1] at hg
    simp only [List.mem_cons] at hg
    rcases hg with rfl | rfl | rfl | hg
    · exact lt h3.1
    · exact lt g1.1
    · exact lt g4.1
    · exact h2.lt g hg
  · obtain ⟨gn, h1, _, told, last, da, na, a, b, c, rest, g1, g2, g3, g4, g5⟩ := h
    rw [h1] at hg
    simp only [List.mem_cons, List.not_mem_nil, or_false] at hg
    rcases hg with rfl | rfl
    · exact lt g1.1
    · exact lt g4.1
  · exact h.elim
theorem Hid.keep {k : List Nat} {w w' : World} {x : Nat × Nat} {L Q : List UInt8} (h : Hid k w x L Q) (hk : ∀ g ∈ lsD x.2, w'.heap[g]? = w.heap[g]?) : Hid k w' x L Q := by
  unfold Hid at h ⊢
  split at h
  · obtain ⟨d, h1, h0, h2, h3⟩ := h
    exact ⟨d, h1, h0, h2.keep fun g hg => hk g (by rw [h1]; exact hg), h3⟩
  · obtain ⟨d, gd, gn, ra, h1, h0, h2, hL, h3, h4⟩ := h
    have hm : ∀ g, g ∈ x.1 :: gd :: gn :: d.blocks → w'.heap[g]? = w.heap[g]? := fun g hg => hk g (by rw [h1]; exact hg)
    exact ⟨d, gd, gn, ra, h1, h0, h2.keep fun g hg => hm g (by simp [hg]), hL, ⟨by rw [hm _ (by simp)]; exact h3.1, h3.2⟩, h4.keep (hm _ (by simp)) (hm _ (by simp))⟩
  · obtain ⟨gn, h1, h0, h2⟩ := h
    have hm : ∀ g, g ∈ [x.1, gn] → w'.heap[g]? = w.heap[g]? := fun g hg => hk g (by rw [h1]; exact hg)
    exact ⟨gn, h1, h0, h2.keep (hm _ (by simp)) (hm _ (by simp))⟩
  · exact h.elim
end X
end Go.Proofs.YtebfahobllghnaaGreatDoor
