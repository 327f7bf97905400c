/-
  Regions taken in parts; what lies in memory that nothing turns any more; calls whose answers lie there. Over any program.
-/
import Derived.Test.YtocmchlhbniloaaBaseY
set_option linter.unusedSimpArgs false
set_option linter.unusedVariables false
namespace Go.Proofs.Ytocmchlhbniloaa
namespace B
open Go.RowKit

/-! ### A region that is taken in its order, part by part -/
def OpsWp (P : Program) (l : List Oper) (Q : Exit → Act → World → Prop) (a : Act) (w : World) : Prop := wpOps P l.toArray Q (List.range' 0 l.length) a w
theorem region_of_ops {P : Program} {id : Nat} {l : List Oper} {Q : Exit → Act → World → Prop} {a : Act} {w : World} (h : OpsWp P l Q a w) : (Code.region id l.toArray false).wp P Q a w := by
  refine wp_region ?_
  rw [List.range_eq_range']
  exact h
def Only (K : Act → World → Prop) : Exit → Act → World → Prop := fun e a w => e = .normal ∧ K a w
def reGuard (k : Nat) (g : Option (Nat × Bool)) : Option (Nat × Bool) := g.map fun p => (p.1 - k, p.2)
def reseqFrom (k : Nat) : Nat → List Oper → List Oper
  | _, [] => []
  | j, o :: l => { o with after := (match j with | 0 => #[] | i + 1 => #[⟨i, .data⟩]), guard := reGuard k o.guard } :: reseqFrom k (j + 1) l
def reseq (k : Nat) (l : List Oper) : List Oper := reseqFrom k 0 l
def okCut (l : List Oper) (k : Nat) : Bool := decide (k ≤ l.length) && ((l.take k).all fun o => match o.guard with | none => true | some g => decide (g.1 < k)) && ((l.drop k).all fun o => match o.guard with | none => true | some g => decide (k ≤ g.1))
theorem reseqFrom_get {k : Nat} : ∀ {l : List Oper} {j i : Nat}, (∀ o, l[i]? = some o → ∃ af, (reseqFrom k j l)[i]? = some { o with after := af, guard := reGuard k o.guard }) ∧ (l[i]? = none → (reseqFrom k j l)[i]? = none)
  | [], j, i => ⟨fun o h => by simp at h, fun _ => by simp [reseqFrom]⟩
  | o :: l, j, 0 => ⟨fun o' h => by simp at h; subst h; exact ⟨_, rfl⟩, fun h => by simp at h⟩
  | o :: l, j, i + 1 => by
    have := reseqFrom_get (k := k) (l := l) (j := j + 1) (i := i)
    simpa [reseqFrom] using this
theorem reseqFrom_len {k : Nat} : ∀ {l : List Oper} {j : Nat}, (reseqFrom k j l).length = l.length
  | [], _ => rfl
  | _ :: l, j => by simp [reseqFrom, reseqFrom_len (l := l)]
theorem wp_only {o : Oper} {P : Program} {a : Act} {w : World} {K K' : Act → World → Prop} {C : Act → World → Prop} {Q : Exit → Act → World → Prop} (h : ∀ a w, K a w → K' a w) (hh : o.wp P a w K (Only C)) : o.wp P a w K' Q := by
  unfold Oper.wp at *
  generalize (execOp a.eval o).run P w = r at *
  cases r with
  | ok n w' =>
    cases n <;> simp only [Oper.upon] at hh ⊢ <;>
      first
        | exact h _ _ hh
        | exact Calls.mono hh (fun e w'' he => by
            cases e with
            | returned v => exact h _ _ he
            | panicked c => exact absurd he.1 (by intro e; cases e)
            | outgrown => obtain ⟨_, _, h'⟩ := he; exact absurd h'.1 (by intro e; cases e))
        | exact Rows.mono hh (fun _ _ he => h _ _ he)
  | halt x w' => cases x <;> simp only [Oper.upon] at hh <;> exact absurd hh.1 (by intro e; cases e)
theorem ops_head {P : Program} {l : List Oper} {l1 : List Oper} (hl : l1 = l.take l1.length) {K : Act → World → Prop} {Q : Exit → Act → World → Prop} {rest : List Nat} (hg : ∀ o ∈ l1, ∀ g, o.guard = some g → g.1 < l1.length)
    (hK : ∀ a w, K a w → wpOps P l.toArray Q rest a w) : ∀ (m i : Nat) (a : Act) (w : World), i + m = l1.length → wpOps P l1.toArray (Only K) (List.range' i m) a w → wpOps P l.toArray Q (List.range' i m ++ rest) a w := by
  intro m
  induction m with
  | zero =>
    intro i a w hi h
    simp only [List.range'_zero, wpOps] at h
    simpa using hK _ _ h.2
  | succ m ih =>
    intro i a w hi h
    rw [List.range'_succ] at h ⊢
    rw [List.cons_append]
    rw [wpOps_cons] at h ⊢
    have hlt : i < l1.length := by omega
    have e0 : l1[i]? = l[i]? := by
      have h1 : l1[i]? = (l.take l1.length)[i]? := congrArg (fun q : List Oper => q[i]?) hl
      rw [h1, List.getElem?_take_of_lt hlt]
    have ho : l1[i]? = some l1[i] := by simp [hlt]
    have ho' : l[i]? = some l1[i] := by rw [← e0]; exact ho
    unfold wpOp at h ⊢
    simp only [List.getElem?_toArray, ho, ho'] at h ⊢
    have hy : Region.wanted l1[i] (yielded l.toArray a.tmps) = Region.wanted l1[i] (yielded l1.toArray a.tmps) := by
      unfold Region.wanted
      cases hgd : l1[i].guard with
      | none => rfl
      | some g =>
        have hlt2 := hg _ (List.getElem_mem hlt) g hgd
        have e1 : l1[g.1]? = l[g.1]? := by
          have h1 : l1[g.1]? = (l.take l1.length)[g.1]? := congrArg (fun q : List Oper => q[g.1]?) hl
          rw [h1, List.getElem?_take_of_lt hlt2]
        obtain ⟨g1, g2⟩ := g
        simp only [] at e1
        simp only [yielded, List.getElem?_toArray, e1]
    rw [hy]
    split
    · rename_i hw
      rw [if_pos hw] at h
      rcases h with h | ⟨_, x, y, h⟩
      · exact .inl (wp_only (fun a w hh => ih (i + 1) a w (by omega) hh) h)
      · exact absurd h.1 (by intro e; cases e)
    · rename_i hw
      rw [if_neg hw] at h
      exact ih (i + 1) _ _ (by omega) h
theorem ops_tail {P : Program} {l : List Oper} {k : Nat} {Q : Exit → Act → World → Prop} (hg : ∀ o ∈ l.drop k, ∀ g, o.guard = some g → k ≤ g.1) : ∀ (m i : Nat) (a : Act) (w : World), wpOps P (reseq k (l.drop k)).toArray Q (List.range' i m) a w → wpOps P l.toArray Q (List.range' (k + i) m) a w := by
  intro m
  induction m with
  | zero => intro i a w h; simpa [wpOps] using h
  | succ m ih =>
    intro i a w h
    rw [List.range'_succ] at h ⊢
    rw [wpOps_cons] at h ⊢
    have hd : (l.drop k)[i]? = l[k + i]? := by rw [List.getElem?_drop]
    unfold wpOp at h ⊢
    simp only [List.getElem?_toArray] at h ⊢
    have hr := reseqFrom_get (k := k) (l := l.drop k) (j := 0) (i := i)
    cases ho : l[k + i]? with
    | none =>
      rw [show (reseq k (l.drop k))[i]? = none from hr.2 (by rw [hd]; exact ho)] at h
      simp only [] at h ⊢
      exact ih (i + 1) _ _ h
    | some o =>
      obtain ⟨af, ha⟩ := hr.1 o (by rw [hd]; exact ho)
      rw [show (reseq k (l.drop k))[i]? = _ from ha] at h
      simp only [] at h ⊢
      have hy : Region.wanted { o with after := af, guard := reGuard k o.guard } (yielded (reseq k (l.drop k)).toArray a.tmps) = Region.wanted o (yielded l.toArray a.tmps) := by
        unfold Region.wanted
        simp only []
        cases hgd : o.guard with
        | none => rfl
        | some g =>
          have hle := hg o (List.mem_of_getElem? (by rw [hd]; exact ho)) g hgd
          obtain ⟨g1, g2⟩ := g
          simp only [] at hle
          simp only [reGuard, Option.map_some]
          have e1 : ((reseq k (l.drop k))[g1 - k]?).bind (·.dst) = (l[g1]?).bind (·.dst) := by
            have hr2 := reseqFrom_get (k := k) (l := l.drop k) (j := 0) (i := g1 - k)
            have hd2 : (l.drop k)[g1 - k]? = l[g1]? := by rw [List.getElem?_drop]; congr 1; omega
            cases hq : l[g1]? with
            | none => rw [show (reseq k (l.drop k))[g1 - k]? = none from hr2.2 (by rw [hd2]; exact hq)]
            | some o2 =>
              obtain ⟨af2, ha2⟩ := hr2.1 o2 (by rw [hd2]; exact hq)
              rw [show (reseq k (l.drop k))[g1 - k]? = _ from ha2]
              rfl
          simp only [yielded, List.getElem?_toArray, e1]
      rw [hy] at h
      have hwp : ∀ K, ({ o with after := af, guard := reGuard k o.guard } : Oper).wp P a w K Q = o.wp P a w K Q := fun K => rfl
      have hask : ({ o with after := af, guard := reGuard k o.guard } : Oper).asks P a w = o.asks P a w := rfl
      split
      · rename_i hw
        rw [if_pos hw] at h
        rcases h with h | h
        · exact .inl (Oper.wp_mono (fun a w hh => ih (i + 1) a w hh) h)
        · exact .inr h
      · rename_i hw
        rw [if_neg hw] at h
        exact ih (i + 1) _ _ h
/-- the first k operations, then the others -/
theorem ops_cut {P : Program} {l : List Oper} {Q : Exit → Act → World → Prop} {a : Act} {w : World} (k : Nat) (hk : okCut l k = true) (h : OpsWp P (l.take k) (Only (OpsWp P (reseq k (l.drop k)) Q)) a w) : OpsWp P l Q a w := by
  unfold okCut at hk
  simp only [Bool.and_eq_true, List.all_eq_true, decide_eq_true_eq] at hk
  obtain ⟨⟨hkl, h1⟩, h2⟩ := hk
  unfold OpsWp
  have hlen : (l.take k).length = k := by simp; omega
  have e : List.range' 0 l.length = List.range' 0 k ++ List.range' k (l.length - k) := by
    conv => lhs; rw [show l.length = k + (l.length - k) by omega]
    have := @List.range'_append_1 0 k (l.length - k)
    rw [Nat.zero_add] at this
    exact this.symm
  rw [e]
  unfold OpsWp at h
  rw [hlen] at h
  refine ops_head (l1 := l.take k) (by rw [hlen]) (fun o ho g hgd => ?_) (fun a w hh => ?_) k 0 a w (by omega) h
  · have := h1 o ho
    rw [hgd] at this
    rw [hlen]; simpa using this
  · unfold OpsWp at hh
    have hl2 : (reseq k (l.drop k)).length = l.length - k := by unfold reseq; rw [reseqFrom_len]; simp
    rw [hl2] at hh
    have := ops_tail (l := l) (k := k) (fun o ho g hgd => by have := h2 o ho; rw [hgd] at this; simpa using this) (l.length - k) 0 a w hh
    simpa using this
theorem ops_J {N : Foot} {P : Program} {l : List Oper} {sp : List (Spec N)} {ini : Nat → Ini N} {a0 : Act} {w0 : World} {bf : List Nat} (hok : (okOps l.toArray a0.tmps.size && okBf l.toArray bf && okSp l.toArray bf (sp.map (·.slot)) (sp.map (·.tag))) = true)
    {Q : Exit → Act → World → Prop} {τ : Nat → Foot} (hb : ∀ k, w0.heap.size ≤ k → N k) (hdis : ∀ s t g, τ s g → τ t g → s = t) (hbnd : ∀ t g, τ t g → N g ∧ g < w0.heap.size) (hini : ∀ t, (ini t).I (Zof τ w0) (τ t) w0)
    (obs : ObList l.toArray sp ini a0 w0 P bf 0 l sp)
    (fin : ∀ done a w τ, (∀ i, i < l.length → done i = true) → J l.toArray sp ini a0 w0 done a w τ → Q .normal a w) : OpsWp P l Q a0 w0 := by
  rw [Bool.and_eq_true, Bool.and_eq_true] at hok
  obtain ⟨⟨h1, h2⟩, h3⟩ := hok
  have obs' : ∀ (j : Nat) (o : Oper) (s : Spec N), l.toArray[j]? = some o → sp[j]? = some s → Ob l.toArray sp ini a0 w0 P bf j o s := fun j o s ho hs => by
    have := ObList_get obs j o s (by simpa using ho) hs
    rwa [Nat.zero_add] at this
  refine J_range h1 h2 h3 obs' (fun a w τ hJ => fin _ a w τ (fun i hi => by simpa using hi) hJ) l.toArray.size 0 a0 w0 τ rfl ?_
  exact J.start hb hdis hbnd hini (.inl rfl) fun i _ => by simp
/-- THE RULE, for a part of a region -/
theorem ops_St {N : Foot} {n : Nat} {W0 : World} {P : Program} {l : List Oper} {sp : List (Spec N)} (il : List (Ini N)) {a0 : Act} {w0 : World} {τ0 : Nat → Foot} {bf : List Nat}
    {Q : Exit → Act → World → Prop} (hst : St N W0 n a0 w0 τ0) (hok : (okOps l.toArray n && okBf l.toArray bf && okSp l.toArray bf (sp.map (·.slot)) (sp.map (·.tag))) = true)
    (hini : IniAll τ0 w0 0 il) (obs : ObList l.toArray sp (iniOf il) a0 w0 P bf 0 l sp)
    (fin : ∀ a w τ, St N W0 n a w τ → Fin l sp il a0 a w τ → Q .normal a w) : OpsWp P l Q a0 w0 := by
  have hlen : sp.length = l.length := by
    simp only [Bool.and_eq_true] at hok
    have h3 := hok.2
    unfold okSp at h3
    simp only [Bool.and_eq_true, List.length_map, beq_iff_eq] at h3
    simpa using h3.1.1
  refine ops_J (N := N) (ini := iniOf il) (τ := τ0) (by rw [hst.size]; exact hok) hst.big hst.disj hst.bnd (fun t => ?_) obs fun done a w τ hd hJ => ?_
  · have := iniAll_spec hini t
    rwa [Nat.zero_add] at this
  · refine fin a w τ ⟨hJ.defers.trans hst.defers, hJ.size.trans hst.size, hst.ext.trans hJ.ext, hJ.big, hJ.disj, hJ.bnd⟩ ⟨fun t ht => ?_, fun j s hs ht => ?_, fun j t s hs ht hl => ?_, fun t hl => ?_⟩
    · refine hJ.un t fun i o hi hdst => ?_
      exfalso
      unfold unAll at ht
      rw [List.all_eq_true] at ht
      have := ht o (List.mem_of_getElem? (by simpa using hi))
      simp [hdst] at this
    · exact hJ.det j s hs ht (hd j (by rw [← hlen]; exact (List.getElem?_eq_some_iff.1 hs).1))
    · obtain ⟨h1, h2, h3⟩ := lastTag_some hl
      refine hJ.res j s t hs ht (hd j (by omega)) fun k s' hk hlt hkt => ?_
      exact absurd (by rw [tag_getD hk]; exact hkt) (h3 k hlt (List.getElem?_eq_some_iff.1 hk).1)
    · refine hJ.ini t fun k s' hk hkt => ?_
      exact absurd (by rw [tag_getD hk]; exact hkt) (lastTag_none hl k (List.getElem?_eq_some_iff.1 hk).1)

/-! ### What nothing turns any more -/
structure ZP where
  P : Foot → World → Prop
  st : ∀ {Z Z' : Foot} {w w' : World}, (∀ g, Z g → Z' g) → Ext (fun g => ¬ Z g) w w' → P Z w → P Z' w'
def Fz (Φ : ZP) (τ : Nat → Foot) (w : World) : Prop := Φ.P (Zof τ w) w
def izf (N : Foot) (Φ : ZP) : Ini N := ⟨fun Z _ w => Φ.P Z w, fun Z Z' T w w' hz he h => Φ.st hz (he.mono fun _ _ h => h.2.2) h⟩
abbrev iz {N : Foot} {Φ : ZP} {τ : Nat → Foot} {w : World} (_ : Fz Φ τ w) : Ini N := izf N Φ
def ZP.pure (p : Prop) : ZP := ⟨fun _ _ => p, fun _ _ h => h⟩
def ZP.and (Φ Ψ : ZP) : ZP := ⟨fun Z w => Φ.P Z w ∧ Ψ.P Z w, fun hz he h => ⟨Φ.st hz he h.1, Ψ.st hz he h.2⟩⟩
/-- a slice that lies there, within G -/
def zSl {α : Type} (E : Enc α) (G : Foot) (v : Value) (xs : List α) : ZP := ⟨fun Z w => SlT E w v xs ∧ (xs ≠ [] → Z (ptrOf v).block ∧ G (ptrOf v).block), fun hz he h => ⟨h.1.keep he fun hn hm => hm (h.2 hn).1, fun hn => ⟨hz _ (h.2 hn).1, (h.2 hn).2⟩⟩⟩
section
variable {N : Foot} {β : Type}
/-- an answer that is told but for where it lies -/
def zdet (N : Foot) (t : Nat) (f : β → Value) (Ψ : β → Prop) (Φ : β → ZP) : Spec N := ⟨none, t, fun Z _ v w => ∃ b, v = f b ∧ Ψ b ∧ (Φ b).P Z w, fun Z Z' T v w w' hz he ⟨b, h1, h2, h3⟩ => ⟨b, h1, h2, (Φ b).st hz (he.mono fun _ _ h => h.2.2) h3⟩, fun _ => True, fun _ _ _ _ _ => trivial⟩
/-- a slice of the call's own, the same -/
def zown {α : Type} (E : Enc α) (ty : Nat) (N : Foot) (tag t : Nat) (xs : β → List α) (Ψ : β → Prop) (Φ : β → ZP) : Spec N := ⟨some tag, t, fun Z T v w => ∃ b, ownR E ty (xs b) T v w ∧ Ψ b ∧ (Φ b).P Z w, fun Z Z' T v w w' hz he ⟨b, h1, h2, h3⟩ => ⟨b, ownR_loc T v w w' he.less h1, h2, (Φ b).st hz (he.mono fun _ _ h => h.2.2) h3⟩, fun _ => True, fun _ _ _ _ _ => trivial⟩
/-- an answer, and a variable of the call's own (at p) that the call has turned -/
def zbox (ty : Nat) (N : Foot) (tag t : Nat) (p : Value) (cells : β → List Value) (f : β → Value) (Ψ : β → Prop) (Φ : β → ZP) : Spec N := ⟨some tag, t, fun Z T v w => ∃ b, v = f b ∧ boxR ty (cells b) T p w ∧ Ψ b ∧ (Φ b).P Z w, fun Z Z' T v w w' hz he ⟨b, h0, h1, h2, h3⟩ => ⟨b, h0, boxR_loc T p w w' he.less h1, h2, (Φ b).st hz (he.mono fun _ _ h => h.2.2) h3⟩, fun _ => True, fun _ _ _ _ _ => trivial⟩
end
/-- memory that a call may hand back: what lies in F, and what is new -/
def Gn (F : Foot) (w : World) : Foot := fun g => F g ∨ w.heap.size ≤ g
section
variable {N : Foot} {P : Program} {ops : Array Oper} {sp : List (Spec N)} {In : Nat → Ini N} {a0 : Act} {w0 : World} {bf : List Nat} {j : Nat} {o : Oper} {s : Spec N} {β : Type}
theorem Ob.zc {t : Nat} {f : β → Value} {Ψ : β → Prop} {Φ : β → ZP} (h : ∀ {done a w τ}, Cx ops sp In a0 w0 bf j o done a w τ → ∃ g args, Enters P a o w g args ∧ Calls P g args w (fun e w' => ∃ b, e = .returned (f b) ∧ Ext none' w w' ∧ Ψ b ∧ (Φ b).P (Zof τ w') w'))
    (hs : s = zdet N t f Ψ Φ := by exact rfl) (hg : o.guard = none := by exact rfl) (hd : o.dst = some t := by exact rfl) : Ob ops sp In a0 w0 P bf j o s :=
  Ob.mk0 hg fun done a w τ c => by
    obtain ⟨g, args, h1, h2⟩ := h c
    subst hs
    unfold Oper.wp
    rw [h1]
    refine h2.mono fun e w' ⟨b, he, hx, hp, hz⟩ => ?_
    subst he
    refine ⟨f b, rfl, hx, b, ?_, hp, hz⟩
    show get (a.put o.dst (f b)) t = f b
    rw [hd, get_put a t t _ (c.lt t hd), if_pos rfl]
theorem zof_upd {τ : Nat → Foot} {tag : Nat} {T' : Foot} {w : World} (h : ∀ g, T' g → τ tag g) : ∀ g, Zof τ w g → Zof (upd τ tag T') w g := fun g hg => ⟨hg.1, fun t ht => by
  unfold upd at ht
  split at ht
  · exact hg.2 _ (h _ ht)
  · exact hg.2 _ ht⟩
/-- a call that hands back a slice of its own, whose elements are told but for where they lie -/
theorem Ob.zo {α : Type} {E : Enc α} {ty tag t : Nat} {xs : β → List α} {Ψ : β → Prop} {Φ : β → ZP} (h : ∀ {done a w τ}, Cx ops sp In a0 w0 bf j o done a w τ → ∃ f args, Enters P a o w f args ∧ Calls P f args w (fun e w' => ∃ v b, e = .returned v ∧ Ext none' w w' ∧ NewT E ty w w' v (xs b) ∧ Ψ b ∧ (Φ b).P (Zof (upd τ tag fun g => v.ownBlock = some g) w') w'))
    (hs : s = zown E ty N tag t xs Ψ Φ := by exact rfl) (hg : o.guard = none := by exact rfl) (hd : o.dst = some t := by exact rfl) : Ob ops sp In a0 w0 P bf j o s := by
  subst hs
  refine Ob.callT (tag := tag) hg rfl fun done a w τ c => ?_
  obtain ⟨f, args, h1, h2⟩ := h c
  refine ⟨f, args, h1, h2.mono fun e w' ⟨v, b, he, hx, ho, hp, hz⟩ => ⟨v, he, hx.mono (fun _ _ h => h.elim), fun g => v.ownBlock = some g, fun g hg => .inr ⟨ho.2 g hg, ho.1.lt g hg⟩, b, ?_, hp, hz⟩⟩
  show ownR E ty (xs b) _ (get (a.put o.dst v) t) w'
  rw [hd, get_put a t t v (c.lt t hd), if_pos rfl]
  exact ⟨ho.1, fun g h => h⟩
/-- a call that turns a variable of the call's own -/
theorem Ob.zb {ty tag t : Nat} {p : Value} {cells : β → List Value} {f : β → Value} {Ψ : β → Prop} {Φ : β → ZP} (h : ∀ {done a w τ}, Cx ops sp In a0 w0 bf j o done a w τ → ∃ g args, Enters P a o w g args ∧ Calls P g args w (fun e w' => ∃ b, e = .returned (f b) ∧ Ext (τ tag) w w' ∧ boxR ty (cells b) (τ tag) p w' ∧ Ψ b ∧ (Φ b).P (Zof τ w') w'))
    (hs : s = zbox ty N tag t p cells f Ψ Φ := by exact rfl) (hg : o.guard = none := by exact rfl) (hd : o.dst = some t := by exact rfl) : Ob ops sp In a0 w0 P bf j o s := by
  subst hs
  refine Ob.callT (tag := tag) hg rfl fun done a w τ c => ?_
  obtain ⟨g, args, h1, h2⟩ := h c
  refine ⟨g, args, h1, h2.mono fun e w' ⟨b, he, hx, hb, hp, hz⟩ => ⟨f b, he, hx, τ tag, fun g h => .inl h, b, ?_, hb, hp, (Φ b).st (zof_upd fun _ h => h) (Ext.refl _ _) hz⟩⟩
  show get (a.put o.dst (f b)) t = f b
  rw [hd, get_put a t t _ (c.lt t hd), if_pos rfl]
end
section
variable {N : Foot} {P : Program} {ops : Array Oper} {sp : List (Spec N)} {In : Nat → Ini N} {a0 : Act} {w0 : World} {bf : List Nat} {j : Nat} {o : Oper} {done : Nat → Bool} {a : Act} {w : World} {τ : Nat → Foot}
/-- what is frozen, at an operation -/
theorem Cx.iz {Φ : ZP} (c : Cx ops sp In a0 w0 bf j o done a w τ) (t : Nat) (hI : In t = izf N Φ) (hl : lastTag (sp.map (·.tag)) t j = none := by exact rfl) (hord : ordB (sp.map (·.tag)) bf t j = true := by kernel_rfl) : Φ.P (Zof τ w) w := c.ini t _ hI hl hord
/-- what a call handed back lies in memory that nobody claims -/
theorem Cx.gz {F : Foot} {W w' : World} (c : Cx ops sp In a0 w0 bf j o done a w τ) (hW : W.heap.size ≤ w.heap.size) (hx : w.heap.size ≤ w'.heap.size) : ∀ g, Gn (fun g => Zof τ w g ∧ Gn F W g) w g → g < w'.heap.size → Zof τ w' g ∧ Gn F W g := fun g hg hlt => by
  rcases hg with ⟨⟨h1, h2⟩, h3⟩ | hg
  · exact ⟨⟨hlt, h2⟩, h3⟩
  · exact ⟨⟨hlt, fun t ht => by have := (c.J.bnd t g ht).2; omega⟩, .inr (by omega)⟩
/-- .. but for a slice that is the caller's from now on -/
theorem Cx.gzo {F : Foot} {W w' : World} {tag : Nat} {v : Value} (c : Cx ops sp In a0 w0 bf j o done a w τ) (hW : W.heap.size ≤ w.heap.size) (hx : w.heap.size ≤ w'.heap.size) (hv : ∀ g, v.ownBlock = some g → w.heap.size ≤ g) : ∀ g, Gn (fun g => Zof τ w g ∧ Gn F W g) w g ∧ v.ownBlock ≠ some g → g < w'.heap.size → Zof (upd τ tag fun g => v.ownBlock = some g) w' g ∧ Gn F W g := fun g hg hlt => by
  obtain ⟨hg, hne⟩ := hg
  have hG : Gn F W g := by
    rcases hg with ⟨_, h3⟩ | hg
    · exact h3
    · exact .inr (by omega)
  refine ⟨⟨hlt, fun t ht => ?_⟩, hG⟩
  unfold upd at ht
  split at ht
  · exact hne ht
  · rcases hg with ⟨⟨_, h2⟩, _⟩ | hg
    · exact h2 t ht
    · have := (c.J.bnd t g ht).2; omega
end
section
variable {N : Foot} {l : List Oper} {sp : List (Spec N)} {il : List (Ini N)} {a0 a : Act} {w : World} {τ : Nat → Foot} {β : Type}
theorem Fin.iz (h : Fin l sp il a0 a w τ) {Φ : ZP} (t : Nat) (hI : iniOf il t = izf N Φ) (hl : lastTag (sp.map (·.tag)) t sp.length = none := by exact rfl) : Fz Φ τ w := by
  have := h.ini t hl
  rw [hI] at this
  exact this
theorem Fin.zd (h : Fin l sp il a0 a w τ) {t : Nat} {f : β → Value} {Ψ : β → Prop} {Φ : β → ZP} (j : Nat) (hs : sp[j]? = some (zdet N t f Ψ Φ)) : ∃ b, get a t = f b ∧ Ψ b ∧ Fz (Φ b) τ w := h.det j _ hs rfl
theorem Fin.zo (h : Fin l sp il a0 a w τ) {α : Type} {E : Enc α} {ty t slot : Nat} {xs : β → List α} {Ψ : β → Prop} {Φ : β → ZP} (j : Nat) {v : Value} (hv : get a slot = v) (hs : sp[j]? = some (zown E ty N t slot xs Ψ Φ)) (hl : lastTag (sp.map (·.tag)) t sp.length = some j := by exact rfl) : ∃ b, ownR E ty (xs b) (τ t) v w ∧ Ψ b ∧ Fz (Φ b) τ w :=
  hv ▸ h.res j t _ hs rfl hl
theorem Fin.zb (h : Fin l sp il a0 a w τ) {ty t slot : Nat} {p : Value} {cells : β → List Value} {f : β → Value} {Ψ : β → Prop} {Φ : β → ZP} (j : Nat) (hs : sp[j]? = some (zbox ty N t slot p cells f Ψ Φ)) (hl : lastTag (sp.map (·.tag)) t sp.length = some j := by exact rfl) : ∃ b, get a slot = f b ∧ boxR ty (cells b) (τ t) p w ∧ Ψ b ∧ Fz (Φ b) τ w :=
  h.res j t _ hs rfl hl
end
/-! ### Functions with captured variables -/
section
variable {P : Program} {a : Act} {o : Oper} {w w' : World} {f : FuncId}
theorem r_makeFunc1 {x : Operand} {v : Value} (ho : o.op = .makeFunc (.func f) #[] #[x]) (hx : a.eval x = v) : Runs P a o w (.func (.func f) #[] #[v]) := by
  subst hx
  simp [Runs, execOp, ho, Instr.makeFunc]
theorem r_makeFunc2 {x y : Operand} {v u : Value} (ho : o.op = .makeFunc (.func f) #[] #[x, y]) (hx : a.eval x = v) (hy : a.eval y = u) : Runs P a o w (.func (.func f) #[] #[v, u]) := by
  subst hx hy
  simp [Runs, execOp, ho, Instr.makeFunc]
theorem r_makeFunc3 {x y z : Operand} {v u q : Value} (ho : o.op = .makeFunc (.func f) #[] #[x, y, z]) (hx : a.eval x = v) (hy : a.eval y = u) (hz : a.eval z = q) : Runs P a o w (.func (.func f) #[] #[v, u, q]) := by
  subst hx hy hz
  simp [Runs, execOp, ho, Instr.makeFunc]
theorem r_makeFunc4 {x y z x4 : Operand} {v u q v4 : Value} (ho : o.op = .makeFunc (.func f) #[] #[x, y, z, x4]) (hx : a.eval x = v) (hy : a.eval y = u) (hz : a.eval z = q) (h4 : a.eval x4 = v4) : Runs P a o w (.func (.func f) #[] #[v, u, q, v4]) := by
  subst hx hy hz h4
  simp [Runs, execOp, ho, Instr.makeFunc]
/-- a call of a function with captured variables -/
theorem e_cap1_1 {x x1 : Operand} {ts : Array TypeId} {v1 c1 : Value} (ho : o.op = .call { callee := .value x, args := #[x1], argTypes := ts }) (hx : a.eval x = .func (.func f) #[] #[c1]) (hcall : ∀ args w, (callFunc f args).run P w = .ok (.enter f args) w) (h1 : a.eval x1 = v1) : Enters P a o w f #[v1, c1] :=
  e_call ho hx hcall (by simp [h1])
theorem e_cap1_2 {x x1 : Operand} {ts : Array TypeId} {v1 c1 c2 : Value} (ho : o.op = .call { callee := .value x, args := #[x1], argTypes := ts }) (hx : a.eval x = .func (.func f) #[] #[c1, c2]) (hcall : ∀ args w, (callFunc f args).run P w = .ok (.enter f args) w) (h1 : a.eval x1 = v1) : Enters P a o w f #[v1, c1, c2] :=
  e_call ho hx hcall (by simp [h1])
theorem e_cap1_3 {x x1 : Operand} {ts : Array TypeId} {v1 c1 c2 c3 : Value} (ho : o.op = .call { callee := .value x, args := #[x1], argTypes := ts }) (hx : a.eval x = .func (.func f) #[] #[c1, c2, c3]) (hcall : ∀ args w, (callFunc f args).run P w = .ok (.enter f args) w) (h1 : a.eval x1 = v1) : Enters P a o w f #[v1, c1, c2, c3] :=
  e_call ho hx hcall (by simp [h1])
theorem e_cap1_4 {x x1 : Operand} {ts : Array TypeId} {v1 c1 c2 c3 c4 : Value} (ho : o.op = .call { callee := .value x, args := #[x1], argTypes := ts }) (hx : a.eval x = .func (.func f) #[] #[c1, c2, c3, c4]) (hcall : ∀ args w, (callFunc f args).run P w = .ok (.enter f args) w) (h1 : a.eval x1 = v1) : Enters P a o w f #[v1, c1, c2, c3, c4] :=
  e_call ho hx hcall (by simp [h1])
theorem e_cap1_5 {x x1 : Operand} {ts : Array TypeId} {v1 c1 c2 c3 c4 c5 : Value} (ho : o.op = .call { callee := .value x, args := #[x1], argTypes := ts }) (hx : a.eval x = .func (.func f) #[] #[c1, c2, c3, c4, c5]) (hcall : ∀ args w, (callFunc f args).run P w = .ok (.enter f args) w) (h1 : a.eval x1 = v1) : Enters P a o w f #[v1, c1, c2, c3, c4, c5] :=
  e_call ho hx hcall (by simp [h1])
theorem e_cap1_6 {x x1 : Operand} {ts : Array TypeId} {v1 c1 c2 c3 c4 c5 c6 : Value} (ho : o.op = .call { callee := .value x, args := #[x1], argTypes := ts }) (hx : a.eval x = .func (.func f) #[] #[c1, c2, c3, c4, c5, c6]) (hcall : ∀ args w, (callFunc f args).run P w = .ok (.enter f args) w) (h1 : a.eval x1 = v1) : Enters P a o w f #[v1, c1, c2, c3, c4, c5, c6] :=
  e_call ho hx hcall (by simp [h1])
theorem Ext.fresh {W w : World} (h : Ext (fun k => W.heap.size ≤ k) W w) : Ext none' W w := ⟨h.os, h.tape, h.output, h.size, fun k hk _ => h.block k hk (fun hn : W.heap.size ≤ k => by omega)⟩
theorem Ext.cellAt {W w : World} (h : Ext (fun k => W.heap.size ≤ k) W w) {p : Addr} {v : Value} (hc : W.cell? p = some v) : w.cell? p = some v := h.fresh.cell_some hc (fun h => h)
end
/-! ### Where a region draws its order: what an operation leaves, told but for where it lies; pc: it was done at all -/
section
variable {N : Foot} {β : Type}
def gzdet (N : Foot) (t : Nat) (pc : Prop) (f : β → Value) (Ψ : β → Prop) (Φ : β → ZP) : Spec N := ⟨none, t, fun Z _ v w => pc → ∃ b, v = f b ∧ Ψ b ∧ (Φ b).P Z w, fun Z Z' T v w w' hz he h hp => (h hp).elim fun b ⟨h1, h2, h3⟩ => ⟨b, h1, h2, (Φ b).st hz (he.mono fun _ _ h => h.2.2) h3⟩, fun _ => True, fun _ _ _ _ _ => trivial⟩
def gzown {α : Type} (E : Enc α) (ty : Nat) (N : Foot) (tag t : Nat) (pc : Prop) (xs : β → List α) (Ψ : β → Prop) (Φ : β → ZP) : Spec N := ⟨some tag, t, fun Z T v w => pc → ∃ b, ownR E ty (xs b) T v w ∧ Ψ b ∧ (Φ b).P Z w, fun Z Z' T v w w' hz he h hp => (h hp).elim fun b ⟨h1, h2, h3⟩ => ⟨b, ownR_loc T v w w' he.less h1, h2, (Φ b).st hz (he.mono fun _ _ h => h.2.2) h3⟩, fun _ => True, fun _ _ _ _ _ => trivial⟩
def gzbox (ty : Nat) (N : Foot) (tag t : Nat) (cells : β → List Value) (Ψ : β → Prop) (Φ : β → ZP) : Spec N := ⟨some tag, t, fun Z T v w => ∃ b, boxR ty (cells b) T v w ∧ Ψ b ∧ (Φ b).P Z w, fun Z Z' T v w w' hz he ⟨b, h1, h2, h3⟩ => ⟨b, boxR_loc T v w w' he.less h1, h2, (Φ b).st hz (he.mono fun _ _ h => h.2.2) h3⟩, fun _ => True, fun _ _ _ _ _ => trivial⟩
end
section
variable {N : Foot} {P : Program} {ops : Array Oper} {sp : List (Spec N)} {In : Nat → Ini N} {a0 : Act} {w0 : World} {bf : List Nat} {j : Nat} {o : Oper} {s : Spec N} {β : Type} {pc : Prop}
/-- is an operation done? -/
def GdOk (ops : Array Oper) (sp : List (Spec N)) (bf : List Nat) (j : Nat) (o : Oper) (pc : Prop) : Prop :=
  (o.guard = none ∧ pc) ∨ (∃ gi want tg b, o.guard = some (gi, want) ∧ ((ops[gi]?).bind (·.dst)) = some tg ∧ sp[gi]? = some (B.det N tg (.bool b)) ∧ (bf.getD j 0).testBit gi = true ∧ (pc ↔ b = want)) ∨
  (∃ gi want tg b pg, o.guard = some (gi, want) ∧ ((ops[gi]?).bind (·.dst)) = some tg ∧ sp[gi]? = some (B.gdet N tg pg (.bool b)) ∧ (bf.getD j 0).testBit gi = true ∧ (pc ↔ (pg ∧ b = want)))
theorem gd0 (hg : o.guard = none := by exact rfl) : GdOk ops sp bf j o True := .inl ⟨hg, trivial⟩
theorem gd1 (gi : Nat) (want : Bool) {tg : Nat} {b : Bool} (hgs : sp[gi]? = some (B.det N tg (.bool b)) := by exact rfl) (hg : o.guard = some (gi, want) := by exact rfl) (hgd : ((ops[gi]?).bind (·.dst)) = some tg := by exact rfl) (hb : (bf.getD j 0).testBit gi = true := by exact rfl) : GdOk ops sp bf j o (b = want) := .inr (.inl ⟨gi, want, tg, b, hg, hgd, hgs, hb, Iff.rfl⟩)
theorem gd2 (gi : Nat) (want : Bool) {tg : Nat} {b : Bool} {pg : Prop} (hgs : sp[gi]? = some (B.gdet N tg pg (.bool b)) := by exact rfl) (hg : o.guard = some (gi, want) := by exact rfl) (hgd : ((ops[gi]?).bind (·.dst)) = some tg := by exact rfl) (hb : (bf.getD j 0).testBit gi = true := by exact rfl) : GdOk ops sp bf j o (pg ∧ b = want) := .inr (.inr ⟨gi, want, tg, b, pg, hg, hgd, hgs, hb, Iff.rfl⟩)
theorem get_bool {a : Act} {t : Nat} {b : Bool} (hv : get a t = .bool b) : a.tmps[t]? = some (.bool b) := by
  unfold get at hv
  rw [Array.getD_eq_getD_getElem?] at hv
  cases h' : a.tmps[t]? with
  | none => rw [h'] at hv; simp [undef] at hv
  | some u => rw [h'] at hv; simp at hv; rw [hv]
theorem get_undef {a : Act} {t : Nat} (hv : get a t = undef) : ∀ b, a.tmps[t]? ≠ some (.bool b) := by
  intro bb h'
  unfold get at hv
  rw [Array.getD_eq_getD_getElem?, h'] at hv
  simp [undef] at hv
theorem GdOk.known (h : GdOk ops sp bf j o pc) {done : Nat → Bool} {a : Act} {w : World} {τ : Nat → Foot} (c : Cx ops sp In a0 w0 bf j o done a w τ) : Region.wanted o (yielded ops a.tmps) = true ↔ pc := by
  rcases h with ⟨hg, hp⟩ | ⟨gi, want, tg, b, hg, hgd, hgs, hb, hpc⟩ | ⟨gi, want, tg, b, pg, hg, hgd, hgs, hb, hpc⟩
  · exact ⟨fun _ => hp, fun _ => wanted_none hg _⟩
  · have hv := get_bool (c.v gi hgs hb)
    rw [hpc]
    cases b <;> cases want <;> simp [Region.wanted, hg, yielded, hgd, hv]
  · have hv : (pg → get a tg = .bool b) ∧ (¬ pg → get a tg = undef) := c.J.det gi _ hgs rfl (c.pre gi hb)
    rw [hpc]
    by_cases hpg : pg
    · have hv := get_bool (hv.1 hpg)
      cases b <;> cases want <;> simp [Region.wanted, hg, yielded, hgd, hv, hpg]
    · have hv := get_undef (hv.2 hpg)
      have hy : yielded ops a.tmps gi = none := by
        cases h' : a.tmps[tg]? with
        | none => simp [yielded, hgd, h']
        | some u => cases u <;> first | exact absurd h' (hv _) | simp [yielded, hgd, h']
      simp [Region.wanted, hg, hy, hpg]
theorem Ob.gz {t : Nat} {f : β → Value} {Ψ : β → Prop} {Φ : β → ZP} (hgd : GdOk ops sp bf j o pc) (h : ∀ {done a w τ}, Cx ops sp In a0 w0 bf j o done a w τ → pc → ∃ g args, Enters P a o w g args ∧ Calls P g args w (fun e w' => ∃ b, e = .returned (f b) ∧ Ext none' w w' ∧ Ψ b ∧ (Φ b).P (Zof τ w') w'))
    (hs : s = gzdet N t pc f Ψ Φ := by exact rfl) (hd : o.dst = some t := by exact rfl) : Ob ops sp In a0 w0 P bf j o s := by
  subst hs
  intro done a w τ c
  refine ⟨fun hw => ?_, fun hw => ⟨Ext.refl _ _, fun hp => by rw [(hgd.known c).2 hp] at hw; cases hw⟩⟩
  have hp := (hgd.known c).1 hw
  obtain ⟨g, args, h1, h2⟩ := h c hp
  unfold Oper.wp
  rw [h1]
  refine h2.mono fun e w' ⟨b, he, hx, hq, hz⟩ => ?_
  subst he
  refine ⟨f b, rfl, hx, fun _ => ⟨b, ?_, hq, hz⟩⟩
  show get (a.put o.dst (f b)) t = f b
  rw [hd, get_put a t t _ (c.lt t hd), if_pos rfl]
/-- a list written out, of what lies somewhere -/
theorem Ob.gzBuild {α : Type} {E : Enc α} {ty e tag t n : Nat} {xs : β → List α} {Ψ : β → Prop} {Φ : β → ZP} {parts : Array (Nat × Operand)} {z : Value} {cells : β → Array Value} (hgd : GdOk ops sp bf j o pc) (ho : o.op = .buildSlice ty n parts)
    (hty : P.underlying ty = some (.slice e)) (hsz : ∀ w, (sizeOf e).run P w = .ok E.sz w) (hz : ∀ w, (zeroValue e).run P w = .ok z w) (hn0 : 0 < n) (hsmall : n * E.sz ≤ 16777216) (hn : ∀ b, n = (xs b).length) (hc : ∀ b, (cells b).toList = E.row (xs b))
    (h : ∀ {done a w τ}, Cx ops sp In a0 w0 bf j o done a w τ → pc → ∃ b, Ψ b ∧ (Φ b).P (Zof τ w) w ∧ Instr.fill (fun i => some (i * E.sz, E.sz)) ((Array.range (n * E.sz)).map (z.cells[· % z.cells.size]!)) (parts.map fun (i, x) => (i, a.eval x)).toList = some (cells b))
    (hs : s = gzown E e N tag t pc xs Ψ Φ := by exact rfl) (hd : o.dst = some t := by exact rfl) : Ob ops sp In a0 w0 P bf j o s := by
  subst hs
  intro done a w τ c
  refine ⟨fun hw => ?_, fun hw => ⟨Ext.refl _ _, τ tag, fun g h => .inl h, fun hp => by rw [(hgd.known c).2 hp] at hw; cases hw⟩⟩
  have hp := (hgd.known c).1 hw
  obtain ⟨b, hq, hzz, hf⟩ := h c hp
  have h2 : ¬ (n * E.sz > 2 ^ 24) := by omega
  have h0 : ¬ (n * E.sz = 0) := by have := Nat.mul_pos hn0 E.pos; omega
  have hr : (execOp a.eval o).run P w = .ok (.value (.slice (some ⟨w.heap.size, 0, none⟩) n n)) (w.alloc (.cells (cells b) e)) := by
    simp only [execOp, ho, Instr.buildSlice, Sem.run_bind, run_underlying hty, Result.andThen_ok, hsz, h2, if_false, Sem.run_pure, h0, hz]
    rw [hf]
    rfl
  have hl : (cells b).size = n * E.sz := by rw [← Array.length_toList, hc, E.row_length, ← hn b]
  refine wp_of_run hr ⟨_, rfl, Ext.alloc _ _ _, fun g => g = w.heap.size, fun g hg => .inr (by subst hg; simp), fun _ => ⟨b, ?_, hq, ?_⟩⟩
  · show ownR E e (xs b) _ (get (a.put o.dst _) t) _
    rw [hd, get_put a t t _ (c.lt t hd), if_pos rfl]
    refine ⟨⟨E.row_length (xs b), .inr ⟨w.heap.size, n, cells b, by rw [← hn b], Nat.zero_le _, heap_alloc_new w _, by rw [← hn b]; exact Nat.le_refl _, ?_, hl, ?_⟩⟩, fun g h => ?_⟩
    · have := Nat.le_mul_of_pos_right n E.pos; simp only [maxLen]; omega
    · rw [hc, ← E.row_length]; exact List.take_length
    · simp only [Value.ownBlock, Option.some.injEq] at h; exact h.symm
  · refine (Φ b).st (fun g hg => ⟨Nat.lt_of_lt_of_le hg.1 (by simp), fun t ht => ?_⟩) ((Ext.alloc none' w _).mono fun _ _ h => h.elim) hzz
    unfold upd at ht
    split at ht
    · have := hg.1; omega
    · exact hg.2 t ht
/-- a store into a variable of the call's own, of what lies somewhere -/
theorem Ob.gzStore {ty tag t tt off : Nat} {cells0 : List Value} {cells : β → List Value} {Ψ : β → Prop} {Φ : β → ZP} {x y : Operand} {v : β → Value} (hg : o.guard = none) (ho : o.op = .store tt x y) (hsz : ∀ b w, (sizeOf tt).run P w = .ok (v b).cells.size w)
    (hfit : ∀ b, off + (v b).cells.size ≤ cells0.length) (h1 : ∀ b, ∀ u ∈ (v b).cells.toList, u.oneCell' = true) (hc : ∀ b, cells b = cells0.take off ++ (v b).cells.toList ++ cells0.drop (off + (v b).cells.size))
    (hp : ∀ {done a w τ}, Cx ops sp In a0 w0 bf j o done a w τ → ∃ b, Ψ b ∧ (Φ b).P (Zof τ w) w ∧ boxR ty cells0 (τ tag) (get a t) w ∧ a.eval x = .pointer (some ((ptrOf (get a t)).add off)) ∧ a.eval y = v b)
    (hs : s = gzbox ty N tag t cells Ψ Φ := by exact rfl) (hd : o.dst = none := by exact rfl) : Ob ops sp In a0 w0 P bf j o s := by
  subst hs
  refine Ob.tagged hg rfl fun done a w τ c => ?_
  obtain ⟨b, hq, hzz, ⟨g, hv, hlt, hT, hgg⟩, hx, hy⟩ := hp c
  have hx' : a.eval x = .pointer (some ⟨g, off, none⟩) := by rw [hx, hv]; simp only [ptrOf, addr_at]
  have hr := run_store (P := P) (t := tt) (off := off) hgg (hsz b) (by simpa using hfit b) (h1 b)
  have hr' : (execOp a.eval o).run P w = .ok .skip (w.setRow g (cells b).toArray) := by
    simp only [execOp, ho, hx', hy, Sem.run_bind, hr, Result.andThen_ok]
    rw [hc]
    rfl
  have hx : Ext (τ tag) w (w.setRow g (cells b).toArray) := (setRow_ext w g _).mono (fun k _ h => by rw [h]; exact hT)
  refine wp_of_skip hr' ⟨undef, rfl, hx, τ tag, fun g h => .inl h, b, ?_, hq, ?_⟩
  · show boxR ty (cells b) _ (get (a.put o.dst _) t) _
    rw [hd, get_put_none]
    exact ⟨g, hv, by simp [World.setRow, hlt], hT, setRow_heap w g _ _ ty _ hgg⟩
  · exact (Φ b).st (fun g hg => zof_upd (fun _ h => h) g ⟨Nat.lt_of_lt_of_le hg.1 hx.size, hg.2⟩) (hx.mono fun g _ hg hn => hn.2 _ hg) hzz
end
section
variable {N : Foot} {P : Program} {ops : Array Oper} {sp : List (Spec N)} {In : Nat → Ini N} {a0 : Act} {w0 : World} {bf : List Nat} {j : Nat} {o : Oper} {done : Nat → Bool} {a : Act} {w : World} {τ : Nat → Foot} {β : Type} {pc : Prop}
theorem Cx.zd (c : Cx ops sp In a0 w0 bf j o done a w τ) (i : Nat) {t : Nat} {f : β → Value} {Ψ : β → Prop} {Φ : β → ZP} (hs : sp[i]? = some (gzdet N t pc f Ψ Φ)) (hp : pc) (hb : (bf.getD j 0).testBit i = true := by exact rfl) : ∃ b, a.eval (.tmp t) = f b ∧ Ψ b ∧ (Φ b).P (Zof τ w) w := c.J.det i _ hs rfl (c.pre i hb) hp
theorem Cx.zo (c : Cx ops sp In a0 w0 bf j o done a w τ) {α : Type} {E : Enc α} {ty t slot : Nat} {xs : β → List α} {Ψ : β → Prop} {Φ : β → ZP} (i : Nat) (hs : sp[i]? = some (gzown E ty N t slot pc xs Ψ Φ)) (hp : pc) (hl : lastTag (sp.map (·.tag)) t j = some i := by exact rfl) (hord : ordB (sp.map (·.tag)) bf t j = true := by kernel_rfl) : ∃ b, ownR E ty (xs b) (τ t) (get a slot) w ∧ Ψ b ∧ (Φ b).P (Zof τ w) w := c.res i t _ hs hl hord hp
end
section
variable {N : Foot} {l : List Oper} {sp : List (Spec N)} {il : List (Ini N)} {a0 a : Act} {w : World} {τ : Nat → Foot} {β : Type} {pc : Prop}
theorem Fin.gzb (h : Fin l sp il a0 a w τ) {ty t slot : Nat} {cells : β → List Value} {Ψ : β → Prop} {Φ : β → ZP} (j : Nat) {v : Value} (hv : get a slot = v) (hs : sp[j]? = some (gzbox ty N t slot cells Ψ Φ)) (hl : lastTag (sp.map (·.tag)) t sp.length = some j := by exact rfl) : ∃ b, boxR ty (cells b) (τ t) v w ∧ Ψ b ∧ Fz (Φ b) τ w := hv ▸ h.res j t _ hs rfl hl
theorem Fin.gzd (h : Fin l sp il a0 a w τ) {t : Nat} {f : β → Value} {Ψ : β → Prop} {Φ : β → ZP} (j : Nat) (hs : sp[j]? = some (gzdet N t pc f Ψ Φ)) (hp : pc) : ∃ b, get a t = f b ∧ Ψ b ∧ Fz (Φ b) τ w := h.det j _ hs rfl hp
end
/-- a call's answer by another name -/
theorem Calls.isV {P : Program} {f : FuncId} {args : Array Value} {w : World} {v v' : Value} {M : Nat → Prop} (h : Calls P f args w (fun e w' => e = .returned v ∧ Ext M w w')) (e : v = v') : Calls P f args w (fun e w' => e = .returned v' ∧ Ext M w w') := e ▸ h
/-! ### A variable that holds what another place holds -/
def vbox (ty : Nat) (N : Foot) (tag t : Nat) (p : Value) (cells : Value → List Value) : Spec N := ⟨some tag, t, fun _ T v w => boxR ty (cells v) T p w, fun _ _ T v w w' _ h hr => boxR_loc T p w w' h.less hr, fun _ => True, fun _ _ _ _ _ => trivial⟩
theorem IsSl.cells {v : Value} {n : Nat} (h : IsSl v n) : v.cells.toList = [v] ∧ v.cells.size = 1 ∧ v.oneCell' = true := by
  rcases h with ⟨rfl, _⟩ | ⟨b, cap, rfl, _⟩ <;> exact ⟨rfl, rfl, rfl⟩
section
variable {N : Foot} {P : Program} {ops : Array Oper} {sp : List (Spec N)} {In : Nat → Ini N} {a0 : Act} {w0 : World} {bf : List Nat} {j : Nat} {o : Oper} {s : Spec N}
theorem Ob.storeBoxV {ty tag t tt off : Nat} {p : Value} {cells0 : List Value} {cells : Value → List Value} {x y : Operand} (hs : s = vbox ty N tag t p cells) (hg : o.guard = none) (hd : o.dst = none) (ho : o.op = .store tt x y) (hsz : ∀ w, (sizeOf tt).run P w = .ok 1 w)
    (hfit : off + 1 ≤ cells0.length) (hc : ∀ v, cells v = cells0.take off ++ [v] ++ cells0.drop (off + 1))
    (hp : ∀ {done a w τ}, Cx ops sp In a0 w0 bf j o done a w τ → boxR ty cells0 (τ tag) p w ∧ a.eval x = .pointer (some ((ptrOf p).add off)) ∧ a.eval y = get a t ∧ ∃ n, IsSl (get a t) n) : Ob ops sp In a0 w0 P bf j o s := by
  subst hs
  refine Ob.tagged hg rfl fun done a w τ c => ?_
  obtain ⟨⟨g, hv, hlt, hT, hgg⟩, hx, hy, n, hsl⟩ := hp c
  obtain ⟨h1, h2, h3⟩ := hsl.cells
  have hx' : a.eval x = .pointer (some ⟨g, off, none⟩) := by rw [hx, hv]; simp only [ptrOf, addr_at]
  have hr := run_store (P := P) (t := tt) (off := off) (v := get a t) hgg (by rw [h2]; exact hsz) (by rw [h2]; simpa using hfit) (by rw [h1]; intro u hu; simp at hu; rw [hu]; exact h3)
  have hr' : (execOp a.eval o).run P w = .ok .skip (w.setRow g (cells (get a t)).toArray) := by
    simp only [execOp, ho, hx', hy, Sem.run_bind, hr, Result.andThen_ok]
    rw [hc, h1, h2]
    rfl
  refine wp_of_skip hr' ⟨undef, rfl, (setRow_ext w g _).mono (fun k _ h => by rw [h]; exact hT), τ tag, fun g h => .inl h, ?_⟩
  show boxR ty (cells (get (a.put o.dst _) t)) _ p _
  rw [hd, get_put_none]
  exact ⟨g, hv, by simp [World.setRow, hlt], hT, setRow_heap w g _ _ ty _ hgg⟩
end
section
variable {N : Foot} {l : List Oper} {sp : List (Spec N)} {il : List (Ini N)} {a0 a : Act} {w : World} {τ : Nat → Foot}
theorem Fin.vb (h : Fin l sp il a0 a w τ) {ty t slot : Nat} {p : Value} {cells : Value → List Value} (j : Nat) {v : Value} (hv : get a slot = v) (hs : sp[j]? = some (vbox ty N t slot p cells)) (hl : lastTag (sp.map (·.tag)) t sp.length = some j := by exact rfl) : boxR ty (cells v) (τ t) p w := hv ▸ h.res j t _ hs rfl hl
end
end B
end Go.Proofs.Ytocmchlhbniloaa
