/-
  Short forms of the rules: what a text can leave to Lean. Over any program.
-/
import Derived.Test.YtjmnenjejgahjaaGreatDoorBase9
set_option linter.unusedSimpArgs false
set_option linter.unusedVariables false
namespace Go.Proofs.YtjmnenjejgahjaaGreatDoor
namespace B
open Go.RowKit
section
variable {N : Foot} {P : Program} {ops : Array Oper} {sp : List (Spec N)} {In : Nat → Ini N} {a0 : Act} {w0 : World} {bf : List Nat} {j : Nat} {o : Oper} {s : Spec N}
theorem Ob.d {t : Nat} {v : Value} (h : ∀ {done a w τ}, Cx ops sp In a0 w0 bf j o done a w τ → Runs P a o w v) (hs : s = B.det N t v := by exact rfl) (hg : o.guard = none := by exact rfl) (hd : o.dst = some t := by exact rfl) : Ob ops sp In a0 w0 P bf j o s :=
  Ob.det hs hg hd fun _ _ _ _ c => h c
theorem Ob.c {t : Nat} {v : Value} (h : ∀ {done a w τ}, Cx ops sp In a0 w0 bf j o done a w τ → ∃ f args, Enters P a o w f args ∧ Calls P f args w (fun e w' => e = .returned v ∧ Ext none' w w')) (hs : s = B.det N t v := by exact rfl) (hg : o.guard = none := by exact rfl) (hd : o.dst = some t := by exact rfl) : Ob ops sp In a0 w0 P bf j o s :=
  Ob.call hs hg hd fun _ _ _ _ c => h c
theorem Ob.g {t tg : Nat} {b : Bool} {v : Value} (gi : Nat) (want : Bool) (hgs : sp[gi]? = some (B.det N tg (.bool b))) (h : ∀ {done a w τ}, Cx ops sp In a0 w0 bf j o done a w τ → b = want → Runs P a o w v)
    (hs : s = B.gdet N t (b = want) v := by exact rfl) (hg : o.guard = some (gi, want) := by exact rfl) (hd : o.dst = some t := by exact rfl) (hgd : ((ops[gi]?).bind (·.dst)) = some tg := by exact rfl) (hb : (bf.getD j 0).testBit gi = true := by exact rfl) : Ob ops sp In a0 w0 P bf j o s :=
  Ob.gdet hs hg hd hgd hgs hb Iff.rfl fun _ _ _ _ c => h c
theorem Ob.gg {t tg : Nat} {b : Bool} {pg : Prop} {v : Value} (gi : Nat) (want : Bool) (hgs : sp[gi]? = some (B.gdet N tg pg (.bool b))) (h : ∀ {done a w τ}, Cx ops sp In a0 w0 bf j o done a w τ → (pg ∧ b = want) → Runs P a o w v)
    (hs : s = B.gdet N t (pg ∧ b = want) v := by exact rfl) (hg : o.guard = some (gi, want) := by exact rfl) (hd : o.dst = some t := by exact rfl) (hgd : ((ops[gi]?).bind (·.dst)) = some tg := by exact rfl) (hb : (bf.getD j 0).testBit gi = true := by exact rfl) : Ob ops sp In a0 w0 P bf j o s :=
  Ob.ggdet hs hg hd hgd hgs hb Iff.rfl fun _ _ _ _ c => h c
theorem Ob.gc {t tg : Nat} {b : Bool} {v : Value} (gi : Nat) (want : Bool) (hgs : sp[gi]? = some (B.det N tg (.bool b))) (h : ∀ {done a w τ}, Cx ops sp In a0 w0 bf j o done a w τ → b = want → ∃ f args, Enters P a o w f args ∧ Calls P f args w (fun e w' => e = .returned v ∧ Ext none' w w'))
    (hs : s = B.gdet N t (b = want) v := by exact rfl) (hg : o.guard = some (gi, want) := by exact rfl) (hd : o.dst = some t := by exact rfl) (hgd : ((ops[gi]?).bind (·.dst)) = some tg := by exact rfl) (hb : (bf.getD j 0).testBit gi = true := by exact rfl) : Ob ops sp In a0 w0 P bf j o s :=
  Ob.gcall hs hg hd hgd hgs hb Iff.rfl fun _ _ _ _ c => h c
theorem Ob.ggc {t tg : Nat} {b : Bool} {pg : Prop} {v : Value} (gi : Nat) (want : Bool) (hgs : sp[gi]? = some (B.gdet N tg pg (.bool b))) (h : ∀ {done a w τ}, Cx ops sp In a0 w0 bf j o done a w τ → (pg ∧ b = want) → ∃ f args, Enters P a o w f args ∧ Calls P f args w (fun e w' => e = .returned v ∧ Ext none' w w'))
    (hs : s = B.gdet N t (pg ∧ b = want) v := by exact rfl) (hg : o.guard = some (gi, want) := by exact rfl) (hd : o.dst = some t := by exact rfl) (hgd : ((ops[gi]?).bind (·.dst)) = some tg := by exact rfl) (hb : (bf.getD j 0).testBit gi = true := by exact rfl) : Ob ops sp In a0 w0 P bf j o s :=
  Ob.ggcall hs hg hd hgd hgs hb Iff.rfl fun _ _ _ _ c => h c
theorem Ob.lv (gi : Nat) {tg : Nat} {want : Bool} (h : Ob ops sp In a0 w0 P bf j { o with guard := none } s) (hgs : sp[gi]? = some (B.det N tg (.bool want)) := by exact rfl) (hg : o.guard = some (gi, want) := by exact rfl) (hgd : ((ops[gi]?).bind (·.dst)) = some tg := by exact rfl) (hb : (bf.getD j 0).testBit gi = true := by exact rfl) : Ob ops sp In a0 w0 P bf j o s :=
  Ob.live hg hgd hgs hb h
theorem Ob.dd (gi : Nat) {tg t : Nat} {want b : Bool} (hs : s = unk N t := by exact rfl) (hg : o.guard = some (gi, want) := by exact rfl) (hgd : ((ops[gi]?).bind (·.dst)) = some tg := by exact rfl) (hgs : sp[gi]? = some (B.det N tg (.bool b)) := by exact rfl) (hb : (bf.getD j 0).testBit gi = true := by exact rfl) (hne : b ≠ want := by decide) : Ob ops sp In a0 w0 P bf j o s :=
  Ob.dead hs hg hgd hgs hb hne
end
section
variable {N : Foot} {P : Program} {ops : Array Oper} {sp : List (Spec N)} {In : Nat → Ini N} {a0 : Act} {w0 : World} {bf : List Nat} {j : Nat} {o : Oper} {done : Nat → Bool} {a : Act} {w : World} {τ : Nat → Foot}
theorem Cx.n (c : Cx ops sp In a0 w0 bf j o done a w τ) (i : Nat) {t : Nat} {val : Value} (hs : sp[i]? = some (B.det N t val)) (hb : (bf.getD j 0).testBit i = true := by exact rfl) : a.eval (.tmp t) = val := c.ev i hs hb
theorem Cx.m (c : Cx ops sp In a0 w0 bf j o done a w τ) (i : Nat) {t : Nat} {pc : Prop} {val : Value} (hs : sp[i]? = some (B.gdet N t pc val)) (hpc : pc) (hb : (bf.getD j 0).testBit i = true := by exact rfl) : a.eval (.tmp t) = val := c.eg i hs hb hpc
theorem Cx.p (c : Cx ops sp In a0 w0 bf j o done a w τ) {t : Nat} {val : Value} (h0 : get a0 t = val) (h : unB ops bf j t = true := by kernel_rfl) : a.eval (.tmp t) = val := c.eo h0 h
theorem Cx.ib {ty : Nat} {v : Value} {cells : List Value} (c : Cx ops sp In a0 w0 bf j o done a w τ) (t : Nat) (hI : In t = B.ibox ty N v cells) (hl : lastTag (sp.map (·.tag)) t j = none := by exact rfl) (hord : ordB (sp.map (·.tag)) bf t j = true := by kernel_rfl) : boxR ty cells (τ t) v w := c.ibox t hI hl hord
theorem Cx.io {α : Type} {E : Enc α} {ty : Nat} {v : Value} {xs : List α} (c : Cx ops sp In a0 w0 bf j o done a w τ) (t : Nat) (hI : In t = B.iown E ty N v xs) (hl : lastTag (sp.map (·.tag)) t j = none := by exact rfl) (hord : ordB (sp.map (·.tag)) bf t j = true := by kernel_rfl) : ownR E ty xs (τ t) v w := c.iown t hI hl hord
theorem Cx.rb {ty t slot : Nat} {cells : List Value} (c : Cx ops sp In a0 w0 bf j o done a w τ) (i : Nat) (hs : sp[i]? = some (B.box ty N t slot cells)) (hl : lastTag (sp.map (·.tag)) t j = some i := by exact rfl) (hord : ordB (sp.map (·.tag)) bf t j = true := by kernel_rfl) : boxR ty cells (τ t) (get a slot) w := c.rbox i hs hl hord
theorem Cx.ro {α : Type} {E : Enc α} {ty t slot : Nat} {xs : List α} (c : Cx ops sp In a0 w0 bf j o done a w τ) (i : Nat) (hs : sp[i]? = some (B.own E ty N t slot xs)) (hl : lastTag (sp.map (·.tag)) t j = some i := by exact rfl) (hord : ordB (sp.map (·.tag)) bf t j = true := by kernel_rfl) : ownR E ty xs (τ t) (get a slot) w := c.rown i hs hl hord
theorem Cx.rg {α : Type} {E : Enc α} {ty t slot : Nat} {pc : Prop} {xs : List α} (c : Cx ops sp In a0 w0 bf j o done a w τ) (i : Nat) (hs : sp[i]? = some (B.gown pc E ty N t slot xs)) (hp : pc) (hl : lastTag (sp.map (·.tag)) t j = some i := by exact rfl) (hord : ordB (sp.map (·.tag)) bf t j = true := by kernel_rfl) : ownR E ty xs (τ t) (get a slot) w := c.rgown i hs hl hord hp
/-- a slice of the call's own, by its place -/
theorem Cx.ip {α : Type} {E : Enc α} {ty slot : Nat} {v : Value} {xs : List α} (c : Cx ops sp In a0 w0 bf j o done a w τ) (t : Nat) (hI : In t = B.iown E ty N v xs) (e : get a0 slot = v) (hl : lastTag (sp.map (·.tag)) t j = none := by exact rfl) (hord : ordB (sp.map (·.tag)) bf t j = true := by kernel_rfl) (h : unB ops bf j slot = true := by kernel_rfl) : ownR E ty xs (τ t) (get a slot) w := by
  rw [show get a slot = v from c.old e h]; exact c.iown t hI hl hord
theorem Cx.bp {ty slot : Nat} {v : Value} {cells : List Value} (c : Cx ops sp In a0 w0 bf j o done a w τ) (t : Nat) (hI : In t = B.ibox ty N v cells) (e : get a0 slot = v) (hl : lastTag (sp.map (·.tag)) t j = none := by exact rfl) (hord : ordB (sp.map (·.tag)) bf t j = true := by kernel_rfl) (h : unB ops bf j slot = true := by kernel_rfl) : boxR ty cells (τ t) (get a slot) w := by
  rw [show get a slot = v from c.old e h]; exact c.ibox t hI hl hord
theorem Cx.sm {slot : Nat} {v : Value} {x : Operand} (c : Cx ops sp In a0 w0 bf j o done a w τ) (px : a.eval x = v) (e : get a0 slot = v) (h : unB ops bf j slot = true := by kernel_rfl) : a.eval x = get a slot := px.trans (c.old e h).symm
theorem Cx.ad {slot k : Nat} {v : Value} {x : Operand} {p : Addr} (c : Cx ops sp In a0 w0 bf j o done a w τ) (px : a.eval x = .pointer (some p)) (e : get a0 slot = v) (hp : p = (ptrOf v).add k) (h : unB ops bf j slot = true := by kernel_rfl) : a.eval x = .pointer (some ((ptrOf (get a slot)).add k)) := by
  rw [show get a slot = v from c.old e h, px, hp]
end
section
variable {N : Foot} {l : List Oper} {sp : List (Spec N)} {il : List (Ini N)} {a0 a : Act} {w : World} {τ : Nat → Foot}
def Alls (a : Act) : List (Nat × Value) → Prop
  | [] => True
  | p :: l => get a p.1 = p.2 ∧ Alls a l
theorem Fin.olds (h : Fin l sp il a0 a w τ) : ∀ (L : List (Nat × Value)) (_ : Alls a0 L) (_ : (L.all fun p => unAll l p.1) = true), Alls a L
  | [], _, _ => trivial
  | p :: L, hE, hu => by
    rw [List.all_cons, Bool.and_eq_true] at hu
    exact ⟨h.old hE.1 hu.1, h.olds L hE.2 hu.2⟩
theorem Fin.ks (h : Fin l sp il a0 a w τ) (L : List (Nat × Value)) (hE : Alls a0 L) (hu : (L.all fun p => unAll l p.1) = true := by kernel_rfl) : Alls a L := h.olds L hE hu
theorem Fin.ib (h : Fin l sp il a0 a w τ) {ty : Nat} {v : Value} {cells : List Value} (t : Nat) (hI : iniOf il t = B.ibox ty N v cells) (hl : lastTag (sp.map (·.tag)) t sp.length = none := by exact rfl) : boxR ty cells (τ t) v w := h.ibox t hI hl
theorem Fin.io (h : Fin l sp il a0 a w τ) {α : Type} {E : Enc α} {ty : Nat} {v : Value} {xs : List α} (t : Nat) (hI : iniOf il t = B.iown E ty N v xs) (hl : lastTag (sp.map (·.tag)) t sp.length = none := by exact rfl) : ownR E ty xs (τ t) v w := h.iown t hI hl
theorem Fin.rb (h : Fin l sp il a0 a w τ) {ty t slot : Nat} {cells : List Value} (j : Nat) {v : Value} (hv : get a slot = v) (hs : sp[j]? = some (B.box ty N t slot cells)) (hl : lastTag (sp.map (·.tag)) t sp.length = some j := by exact rfl) : boxR ty cells (τ t) v w := h.rbox j hs hl hv
theorem Fin.ro (h : Fin l sp il a0 a w τ) {α : Type} {E : Enc α} {ty t slot : Nat} {xs : List α} (j : Nat) {v : Value} (hv : get a slot = v) (hs : sp[j]? = some (B.own E ty N t slot xs)) (hl : lastTag (sp.map (·.tag)) t sp.length = some j := by exact rfl) : ownR E ty xs (τ t) v w := h.rown j hs hl hv
/-- what is known of the call's own memory, by what shows it -/
abbrev io {N : Foot} {α : Type} {E : Enc α} {ty : Nat} {xs : List α} {T : Foot} {v : Value} {w : World} (_ : ownR E ty xs T v w) : Ini N := iown E ty N v xs
abbrev ib {N : Foot} {ty : Nat} {cells : List Value} {T : Foot} {v : Value} {w : World} (_ : boxR ty cells T v w) : Ini N := ibox ty N v cells
end
theorem fill1 {a : Act} {f : Nat → Option (Nat × Nat)} {z cells : Array Value} {i0 : Nat} {x0 : Operand} {v0 : Value} (h0 : a.eval x0 = v0) (hf : Instr.fill f z [(i0, v0)] = some cells) : Instr.fill f z ((#[(i0, x0)]).map fun (i, x) => (i, a.eval x)).toList = some cells := by
  subst h0
  simp only [List.map_toArray, List.map_cons, List.map_nil]
  exact hf
theorem fill2 {a : Act} {f : Nat → Option (Nat × Nat)} {z cells : Array Value} {i0 i1 : Nat} {x0 x1 : Operand} {v0 v1 : Value} (h0 : a.eval x0 = v0) (h1 : a.eval x1 = v1) (hf : Instr.fill f z [(i0, v0), (i1, v1)] = some cells) : Instr.fill f z ((#[(i0, x0), (i1, x1)]).map fun (i, x) => (i, a.eval x)).toList = some cells := by
  subst h0 h1
  simp only [List.map_toArray, List.map_cons, List.map_nil]
  exact hf
theorem fill3 {a : Act} {f : Nat → Option (Nat × Nat)} {z cells : Array Value} {i0 i1 i2 : Nat} {x0 x1 x2 : Operand} {v0 v1 v2 : Value} (h0 : a.eval x0 = v0) (h1 : a.eval x1 = v1) (h2 : a.eval x2 = v2) (hf : Instr.fill f z [(i0, v0), (i1, v1), (i2, v2)] = some cells) : Instr.fill f z ((#[(i0, x0), (i1, x1), (i2, x2)]).map fun (i, x) => (i, a.eval x)).toList = some cells := by
  subst h0 h1 h2
  simp only [List.map_toArray, List.map_cons, List.map_nil]
  exact hf
theorem fill4 {a : Act} {f : Nat → Option (Nat × Nat)} {z cells : Array Value} {i0 i1 i2 i3 : Nat} {x0 x1 x2 x3 : Operand} {v0 v1 v2 v3 : Value} (h0 : a.eval x0 = v0) (h1 : a.eval x1 = v1) (h2 : a.eval x2 = v2) (h3 : a.eval x3 = v3) (hf : Instr.fill f z [(i0, v0), (i1, v1), (i2, v2), (i3, v3)] = some cells) : Instr.fill f z ((#[(i0, x0), (i1, x1), (i2, x2), (i3, x3)]).map fun (i, x) => (i, a.eval x)).toList = some cells := by
  subst h0 h1 h2 h3
  simp only [List.map_toArray, List.map_cons, List.map_nil]
  exact hf
theorem fill5 {a : Act} {f : Nat → Option (Nat × Nat)} {z cells : Array Value} {i0 i1 i2 i3 i4 : Nat} {x0 x1 x2 x3 x4 : Operand} {v0 v1 v2 v3 v4 : Value} (h0 : a.eval x0 = v0) (h1 : a.eval x1 = v1) (h2 : a.eval x2 = v2) (h3 : a.eval x3 = v3) (h4 : a.eval x4 = v4) (hf : Instr.fill f z [(i0, v0), (i1, v1), (i2, v2), (i3, v3), (i4, v4)] = some cells) : Instr.fill f z ((#[(i0, x0), (i1, x1), (i2, x2), (i3, x3), (i4, x4)]).map fun (i, x) => (i, a.eval x)).toList = some cells := by
  subst h0 h1 h2 h3 h4
  simp only [List.map_toArray, List.map_cons, List.map_nil]
  exact hf
theorem fill6 {a : Act} {f : Nat → Option (Nat × Nat)} {z cells : Array Value} {i0 i1 i2 i3 i4 i5 : Nat} {x0 x1 x2 x3 x4 x5 : Operand} {v0 v1 v2 v3 v4 v5 : Value} (h0 : a.eval x0 = v0) (h1 : a.eval x1 = v1) (h2 : a.eval x2 = v2) (h3 : a.eval x3 = v3) (h4 : a.eval x4 = v4) (h5 : a.eval x5 = v5) (hf : Instr.fill f z [(i0, v0), (i1, v1), (i2, v2), (i3, v3), (i4, v4), (i5, v5)] = some cells) : Instr.fill f z ((#[(i0, x0), (i1, x1), (i2, x2), (i3, x3), (i4, x4), (i5, x5)]).map fun (i, x) => (i, a.eval x)).toList = some cells := by
  subst h0 h1 h2 h3 h4 h5
  simp only [List.map_toArray, List.map_cons, List.map_nil]
  exact hf
theorem fill7 {a : Act} {f : Nat → Option (Nat × Nat)} {z cells : Array Value} {i0 i1 i2 i3 i4 i5 i6 : Nat} {x0 x1 x2 x3 x4 x5 x6 : Operand} {v0 v1 v2 v3 v4 v5 v6 : Value} (h0 : a.eval x0 = v0) (h1 : a.eval x1 = v1) (h2 : a.eval x2 = v2) (h3 : a.eval x3 = v3) (h4 : a.eval x4 = v4) (h5 : a.eval x5 = v5) (h6 : a.eval x6 = v6) (hf : Instr.fill f z [(i0, v0), (i1, v1), (i2, v2), (i3, v3), (i4, v4), (i5, v5), (i6, v6)] = some cells) : Instr.fill f z ((#[(i0, x0), (i1, x1), (i2, x2), (i3, x3), (i4, x4), (i5, x5), (i6, x6)]).map fun (i, x) => (i, a.eval x)).toList = some cells := by
  subst h0 h1 h2 h3 h4 h5 h6
  simp only [List.map_toArray, List.map_cons, List.map_nil]
  exact hf
theorem fill8 {a : Act} {f : Nat → Option (Nat × Nat)} {z cells : Array Value} {i0 i1 i2 i3 i4 i5 i6 i7 : Nat} {x0 x1 x2 x3 x4 x5 x6 x7 : Operand} {v0 v1 v2 v3 v4 v5 v6 v7 : Value} (h0 : a.eval x0 = v0) (h1 : a.eval x1 = v1) (h2 : a.eval x2 = v2) (h3 : a.eval x3 = v3) (h4 : a.eval x4 = v4) (h5 : a.eval x5 = v5) (h6 : a.eval x6 = v6) (h7 : a.eval x7 = v7) (hf : Instr.fill f z [(i0, v0), (i1, v1), (i2, v2), (i3, v3), (i4, v4), (i5, v5), (i6, v6), (i7, v7)] = some cells) : Instr.fill f z ((#[(i0, x0), (i1, x1), (i2, x2), (i3, x3), (i4, x4), (i5, x5), (i6, x6), (i7, x7)]).map fun (i, x) => (i, a.eval x)).toList = some cells := by
  subst h0 h1 h2 h3 h4 h5 h6 h7
  simp only [List.map_toArray, List.map_cons, List.map_nil]
  exact hf
theorem fill9 {a : Act} {f : Nat → Option (Nat × Nat)} {z cells : Array Value} {i0 i1 i2 i3 i4 i5 i6 i7 i8 : Nat} {x0 x1 x2 x3 x4 x5 x6 x7 x8 : Operand} {v0 v1 v2 v3 v4 v5 v6 v7 v8 : Value} (h0 : a.eval x0 = v0) (h1 : a.eval x1 = v1) (h2 : a.eval x2 = v2) (h3 : a.eval x3 = v3) (h4 : a.eval x4 = v4) (h5 : a.eval x5 = v5) (h6 : a.eval x6 = v6) (h7 : a.eval x7 = v7) (h8 : a.eval x8 = v8) (hf : Instr.fill f z [(i0, v0), (i1, v1), (i2, v2), (i3, v3), (i4, v4), (i5, v5), (i6, v6), (i7, v7), (i8, v8)] = some cells) : Instr.fill f z ((#[(i0, x0), (i1, x1), (i2, x2), (i3, x3), (i4, x4), (i5, x5), (i6, x6), (i7, x7), (i8, x8)]).map fun (i, x) => (i, a.eval x)).toList = some cells := by
  subst h0 h1 h2 h3 h4 h5 h6 h7 h8
  simp only [List.map_toArray, List.map_cons, List.map_nil]
  exact hf
theorem bt {p : Prop} [Decidable p] (h : decide p = true) : p := of_decide_eq_true h
theorem bl {p q : Int} (h : decide (p < q) = false) : q ≤ p := by simpa using h
theorem be {p q : Int} (h : decide (p ≤ q) = false) : q < p := by simpa using h
theorem bn {p : Prop} [Decidable p] (h : decide p = false) : ¬ p := of_decide_eq_false h
theorem nt {p : Prop} [Decidable p] (h : (!decide p) = true) : ¬ p := by simpa using h
theorem nf {p : Prop} [Decidable p] (h : (!decide p) = false) : p := by simpa using h
end B
end Go.Proofs.YtjmnenjejgahjaaGreatDoor
