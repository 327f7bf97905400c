/-
  Trees that nothing turns any more. Over any program.
-/
import Derived.Test.YtocmchlhbniloaaBaseZ
import Derived.Test.YtocmchlhbniloaaTreeF
set_option linter.unusedSimpArgs false
set_option linter.unusedVariables false
namespace Go.Proofs.Ytocmchlhbniloaa
namespace B
open Go.RowKit Srt
theorem only_mk {K : Act → World → Prop} {a : Act} {w : World} (h : K a w) : Only K .normal a w := ⟨rfl, h⟩
theorem IsSl.sv {v : Value} {n : Nat} (h : IsSl v n) : ∃ s : Sv, v = s.v := by
  rcases h with ⟨rfl, _⟩ | ⟨b, cap, rfl, _⟩
  · exact ⟨⟨none, 0, 0⟩, rfl⟩
  · exact ⟨⟨some b, n, cap⟩, rfl⟩
def zTr (G : Foot) (t : Tr) : ZP := ⟨fun Z w => TrT (fun g => Z g ∧ G g) w t, fun hz he h => (TrT.keep h he fun g hg hn => hn hg.1).mono fun g hg _ => ⟨hz g hg.1, hg.2⟩⟩
def zTl (G : Foot) (ts : List Tr) : ZP := ⟨fun Z w => ∀ t ∈ ts, TrT (fun g => Z g ∧ G g) w t, fun hz he h t ht => (zTr G t).st hz he (h t ht)⟩
section
variable {G F : Foot} {Z : Foot} {τ : Nat → Foot} {w w' : World} {t : Tr} {ts us : List Tr} {v : Value}
theorem Fz.s (h : Fz (zTr G t) τ w) : TrS w t := TrT.s h
theorem zs (h : (zTr G t).P Z w) : TrS w t := TrT.s h
theorem zl (h : (zTl G ts).P Z w) (hs : SlT TrE w v ts) : TlS w v ts := ⟨hs, fun t ht => TrT.s (h t ht)⟩
theorem Fz.l (h : Fz (zTl G ts) τ w) (hs : SlT TrE w v ts) : TlS w v ts := zl h hs
theorem zk (h : (zTr G t).P Z w) {k : Tr} (hk : k ∈ t.kids) : (zTr G k).P Z w := TrT.kid h hk
theorem zkl (h : (zTr G t).P Z w) : (zTl G t.kids).P Z w := fun k hk => TrT.kid h hk
theorem Fz.kl (h : Fz (zTr G t) τ w) : Fz (zTl G t.kids) τ w := zkl h
theorem ze {i : Int} (h : (zTl G ts).P Z w) (h0 : 0 ≤ i) (h1 : i < ts.length) : (zTr G (nth ts i)).P Z w := h _ (nth_memI h0 h1)
theorem Fz.e {i : Int} (h : Fz (zTl G ts) τ w) (h0 : 0 ≤ i) (h1 : i < ts.length) : Fz (zTr G (nth ts i)) τ w := ze h h0 h1
theorem Fz.tn (G : Foot) (τ : Nat → Foot) (w : World) : Fz (zTl G []) τ w := fun t h => by cases h
theorem Fz.snoc (h : Fz (zTl G ts) τ w) (h2 : Fz (zTr G t) τ w) : Fz (zTl G (ts ++ [t])) τ w := fun x hx => by
  rcases List.mem_append.1 hx with hx | hx
  · exact h x hx
  · simp at hx; subst hx; exact h2
theorem Fz.app (h : Fz (zTl G ts) τ w) (h2 : Fz (zTl G us) τ w) : Fz (zTl G (ts ++ us)) τ w := fun x hx => by
  rcases List.mem_append.1 hx with hx | hx
  · exact h x hx
  · exact h2 x hx
/-- what came in -/
theorem TrT.inz {n : Nat} {a : Act} {τ0 : Nat → Foot} (h : TrT F w t) (st : St (Nw w) w n a w τ0) : Fz (zTr (Gn F w) t) τ0 w := TrT.mono h fun g hg hlt => ⟨⟨hlt, fun s hs => by have := (st.bnd s g hs).1; simp only [Nw] at this; omega⟩, .inl hg⟩
theorem TrT.inzs {n : Nat} {a : Act} {τ0 : Nat → Foot} (h : ∀ t ∈ ts, TrT F w t) (st : St (Nw w) w n a w τ0) : Fz (zTl (Gn F w) ts) τ0 w := fun t ht => (h t ht).inz st
theorem TrT.inT {n : Nat} {a : Act} {τ0 : Nat → Foot} {T : Foot} (h : TrT F w t) (hF : ∀ g, F g → ¬ T g) (st : St (fun k => T k ∨ w.heap.size ≤ k) w n a w τ0) : Fz (zTr (Gn F w) t) τ0 w := TrT.mono h fun g hg hlt => ⟨⟨hlt, fun s hs => by
  rcases (st.bnd s g hs).1 with h1 | h1
  · exact hF g hg h1
  · omega⟩, .inl hg⟩
theorem TrT.inTs {n : Nat} {a : Act} {τ0 : Nat → Foot} {T : Foot} (h : ∀ t ∈ ts, TrT F w t) (hF : ∀ g, F g → ¬ T g) (st : St (fun k => T k ∨ w.heap.size ≤ k) w n a w τ0) : Fz (zTl (Gn F w) ts) τ0 w := fun t ht => (h t ht).inT hF st
/-- what goes out -/
theorem Fz.out (h : Fz (zTr G t) τ w) : TrT G w t := TrT.mono h fun g hg _ => hg.2
theorem Fz.outs (h : Fz (zTl G ts) τ w) : ∀ t ∈ ts, TrT G w t := fun t ht => TrT.mono (h t ht) fun g hg _ => hg.2
theorem Fz.outo (h : Fz (zTl G ts) τ w) {i : Nat} {v : Value} (hv : ∀ g, v.ownBlock = some g → τ i g) : ∀ t ∈ ts, TrT (fun g => G g ∧ v.ownBlock ≠ some g) w t := fun t ht => TrT.mono (h t ht) fun g hg _ => ⟨hg.2, fun e => hg.1.2 i (hv g e)⟩
end
section
variable {α : Type} {N : Foot} {P : Program} {ops : Array Oper} {sp : List (Spec N)} {In : Nat → Ini N} {a0 : Act} {w0 : World} {bf : List Nat} {j : Nat} {o : Oper} {done : Nat → Bool} {a : Act} {w w' W : World} {τ τ0 : Nat → Foot} {F : Foot} {t : Tr} {ts : List Tr} {n : Nat} {a1 : Act}
theorem Cx.hW (c : Cx ops sp In a0 w0 bf j o done a w τ) (st : St N W n a1 w0 τ0) : W.heap.size ≤ w.heap.size := Nat.le_trans st.ext.size c.J.ext.size
/-- a tree that a call has handed back -/
theorem Cx.tz (c : Cx ops sp In a0 w0 bf j o done a w τ) (st : St N W n a1 w0 τ0) (hx : Ext none' w w') (h : TrT (Gn (fun g => Zof τ w g ∧ Gn F W g) w) w' t) : (zTr (Gn F W) t).P (Zof τ w') w' := TrT.mono h (c.gz (c.hW st) hx.size)
theorem Cx.tn (c : Cx ops sp In a0 w0 bf j o done a w τ) (st : St N W n a1 w0 τ0) (hx : Ext none' w w') (h : TrT (Gn none' w) w' t) : (zTr (Gn F W) t).P (Zof τ w') w' := c.tz st hx (h.mono fun g hg _ => hg.elim (fun h => h.elim) .inr)
theorem Cx.tzo {tag : Nat} {v : Value} {E : Enc α} {ty : Nat} {xs : List α} (c : Cx ops sp In a0 w0 bf j o done a w τ) (st : St N W n a1 w0 τ0) (hx : Ext none' w w') (hv : NewT E ty w w' v xs) (h : ∀ t ∈ ts, TrT (fun g => Gn (fun g => Zof τ w g ∧ Gn F W g) w g ∧ v.ownBlock ≠ some g) w' t) : (zTl (Gn F W) ts).P (Zof (upd τ tag fun g => v.ownBlock = some g) w') w' := fun t ht => TrT.mono (h t ht) (c.gzo (c.hW st) hx.size hv.2)
theorem Cx.tno {tag : Nat} {v : Value} {E : Enc α} {ty : Nat} {xs : List α} (c : Cx ops sp In a0 w0 bf j o done a w τ) (st : St N W n a1 w0 τ0) (hx : Ext none' w w') (hv : NewT E ty w w' v xs) (h : ∀ t ∈ ts, TrT (fun g => Gn none' w g ∧ v.ownBlock ≠ some g) w' t) : (zTl (Gn F W) ts).P (Zof (upd τ tag fun g => v.ownBlock = some g) w') w' := c.tzo st hx hv fun t ht => (h t ht).mono fun g hg _ => ⟨hg.1.elim (fun h => h.elim) .inr, hg.2⟩
/-- a slice that a call has made -/
theorem Cx.sn {v : Value} {E : Enc α} {ty : Nat} {xs : List α} (c : Cx ops sp In a0 w0 bf j o done a w τ) (st : St N W n a1 w0 τ0) (hx : Ext none' w w') (h : NewT E ty w w' v xs) : (zSl E (Gn F W) v xs).P (Zof τ w') w' := ⟨h.1.sl, fun hn => by
  have hlt := h.1.sl.lt hn
  have hge : w.heap.size ≤ (ptrOf v).block := by
    rcases h.1.2 with ⟨_, h0⟩ | ⟨g, cap, cur, hv, _⟩
    · exact absurd (List.eq_nil_of_length_eq_zero h0) hn
    · subst hv; exact h.2 g rfl
  exact c.gz (c.hW st) hx.size _ (.inr hge) hlt⟩
end
/-- a slice of the call's own is one of its memory -/
theorem ownR.blk {α : Type} {E : Enc α} {ty : Nat} {xs : List α} {T : Foot} {v : Value} {w : World} (h : ownR E ty xs T v w) (hn : xs ≠ []) : T (ptrOf v).block := by
  rcases h.1.2 with ⟨_, h0⟩ | ⟨g, cap, cur, hv, _⟩
  · exact absurd (List.eq_nil_of_length_eq_zero h0) hn
  · subst hv; exact h.2 g rfl
/-! ### Lists of trees, leaves -/
theorem znil {G Z : Foot} {w : World} : (zTl G []).P Z w := fun t h => by cases h
theorem zcons {G Z : Foot} {w : World} {t : Tr} {ts : List Tr} (h : (zTr G t).P Z w) (h2 : (zTl G ts).P Z w) : (zTl G (t :: ts)).P Z w := fun x hx => by
  rcases List.mem_cons.1 hx with hx | hx
  · subst hx; exact h
  · exact h2 x hx
theorem zsub {G Z : Foot} {w : World} {ts : List Tr} {i j : Nat} (h : (zTl G ts).P Z w) : (zTl G ((ts.drop i).take j)).P Z w := fun x hx => h x (List.mem_of_mem_drop (List.mem_of_mem_take hx))
def leafT (k : Int) (ch : ByteArray) (ng : Bool) (mn mx : Int) (lz : Bool) : Tr := ⟨k, ch, ng, Sv.nil, [], mn, mx, lz, Sv.nil, []⟩
theorem leafTr (F : Foot) (w : World) (k : Int) (ch : ByteArray) (ng : Bool) (mn mx : Int) (lz : Bool) : TrT F w (leafT k ch ng mn mx lz) := .mk (SlT.nil _ _) (fun h => absurd rfl h) (SlT.nil _ _) (fun h => absurd rfl h) (fun k h => by cases h)
theorem leafZ (G Z : Foot) (w : World) (k : Int) (ch : ByteArray) (ng : Bool) (mn mx : Int) (lz : Bool) : (zTr G (leafT k ch ng mn mx lz)).P Z w := leafTr _ w k ch ng mn mx lz
theorem er_leaf (k : Int) (ch : ByteArray) (ng : Bool) (mn mx : Int) (lz : Bool) : er (leafT k ch ng mn mx lz) = leafT k ch ng mn mx lz := rfl
/-! ### Trees one behind the other -/
def mkT (k : Int) (ks : List Tr) : Tr := ⟨k, ⟨#[]⟩, false, Sv.nil, [], 0, 0, false, Sv.nil, ks⟩
def flatF (k : Int) (l : List Tr) : List Tr := l.flatMap fun x => if x.k = k then x.kids else [x]
def seqF (l : List Tr) : Tr := match flatF 0 l with
  | [x] => x
  | ks => mkT 0 ks
def altF (l : List Tr) : Tr := match flatF 1 l with
  | [] => mkT 0 []
  | [x] => x
  | ks => mkT 1 ks
theorem flatF_snoc (k : Int) (l : List Tr) (x : Tr) : flatF k (l ++ [x]) = flatF k l ++ if x.k = k then x.kids else [x] := by simp [flatF]
theorem flat_hit {ts xs us : List Tr} {k : Int} {n : Nat} (h : n < xs.length) (hq : ts.map er = flatF k ((xs.take n).map er)) {t : Tr} (ht : er t = er (nth xs (n : Int))) (hk : t.k = k) (hu : us = t.kids) : (ts ++ us).map er = flatF k ((xs.take (n + 1)).map er) := by
  subst hu
  rw [take_snoc h, List.map_append, List.map_append, List.map_cons, List.map_nil, flatF_snoc, ← ht, er_k, if_pos hk, ← hq, er_kids]
theorem flat_miss {ts xs : List Tr} {k : Int} {n : Nat} (h : n < xs.length) (hq : ts.map er = flatF k ((xs.take n).map er)) {t : Tr} (ht : er t = er (nth xs (n : Int))) (hk : ¬ t.k = k) : (ts ++ [t]).map er = flatF k ((xs.take (n + 1)).map er) := by
  rw [take_snoc h, List.map_append, List.map_append, List.map_cons, List.map_nil, List.map_cons, List.map_nil, flatF_snoc, ← ht, er_k, if_neg hk, ← hq]
theorem kids_parts (t : Tr) : (t.kids.length : Int) + 1 ≤ partsF t := by
  have h : ∀ ks : List Tr, (ks.length : Int) ≤ sumL (ks.map partsF) := by
    intro ks
    induction ks using snoc_ind with
    | h0 => exact Int.le_refl _
    | h1 ks x ih =>
      rw [List.map_append, List.map_cons, List.map_nil, sumL_snoc, List.length_append]
      have := partsF_pos x
      simp; omega
  have := partsF_eq t
  have := h t.kids
  omega
theorem er_parts {t u : Tr} (h : er t = er u) : partsF t = partsF u := by rw [← partsF_er t, h, partsF_er]
/-- how much lies in memory of a tree -/
def rwW (rs : List (ByteArray × ByteArray)) : Int := sumL (rs.map fun r => 1 + (r.1.size : Int) + (r.2.size : Int))
def wtF : Tr → Int := foldF fun t l => 1 + (t.ch.size : Int) + rwW t.rows + sumL l
theorem wtF_eq (t : Tr) : wtF t = 1 + (t.ch.size : Int) + rwW t.rows + sumL (t.kids.map wtF) := foldF_eq _ t
theorem rwW_len (rs : List (ByteArray × ByteArray)) : (rs.length : Int) ≤ rwW rs := by
  unfold rwW
  induction rs using snoc_ind with
  | h0 => exact Int.le_refl _
  | h1 rs r ih => rw [List.map_append, List.map_cons, List.map_nil, sumL_snoc, List.length_append]; simp; omega
theorem rwW_mem {rs : List (ByteArray × ByteArray)} {r : ByteArray × ByteArray} (h : r ∈ rs) : (r.1.size : Int) + (r.2.size : Int) ≤ rwW rs := by
  have := sumL_mem (xs := rs.map fun r => 1 + (r.1.size : Int) + (r.2.size : Int)) (fun x hx => by obtain ⟨q, _, rfl⟩ := List.mem_map.1 hx; omega) (List.mem_map.2 ⟨r, h, rfl⟩)
  unfold rwW; omega
theorem wtF_pos (t : Tr) : 1 ≤ wtF t := by
  induction t using Tr.ind with
  | h t ih =>
    rw [wtF_eq]
    have : 0 ≤ sumL (t.kids.map wtF) := sumL_pos fun x hx => by
      obtain ⟨k, hk, rfl⟩ := List.mem_map.1 hx
      have := ih k hk; omega
    have := rwW_len t.rows
    omega
theorem wtF_kid {t k : Tr} (h : k ∈ t.kids) : wtF k < wtF t := by
  have h1 := sum_mem (f := wtF) (fun q _ => by have := wtF_pos q; omega) h
  have := wtF_eq t
  have := rwW_len t.rows
  omega
theorem wtF_er (t : Tr) : wtF (er t) = wtF t := foldF_er (fun t l => by cases t; rfl) t
theorem parts_wt (t : Tr) : partsF t ≤ wtF t := by
  induction t using Tr.ind with
  | h t ih =>
    have h1 : ∀ ks : List Tr, (∀ k ∈ ks, partsF k ≤ wtF k) → sumL (ks.map partsF) ≤ sumL (ks.map wtF) := by
      intro ks
      induction ks using snoc_ind with
      | h0 => intro _; exact Int.le_refl _
      | h1 ks x ih2 =>
        intro h
        rw [List.map_append, List.map_append, List.map_cons, List.map_nil, List.map_cons, List.map_nil, sumL_snoc, sumL_snoc]
        have := ih2 fun k hk => h k (by simp [hk])
        have := h x (by simp)
        omega
    have := h1 t.kids ih
    have := rwW_len t.rows
    rw [partsF_eq, wtF_eq]; omega
theorem wtF_bound (t : Tr) : (t.kids.length : Int) + 1 ≤ wtF t ∧ (t.rows.length : Int) ≤ wtF t ∧ partsF t ≤ wtF t ∧ (t.ch.size : Int) ≤ wtF t := by
  have h0 := rwW_len t.rows
  have h1 := kids_parts t
  have h2 := parts_wt t
  have h3 := wtF_eq t
  have h4 : 0 ≤ sumL (t.kids.map wtF) := sumL_pos fun x hx => by
    obtain ⟨k, hk, rfl⟩ := List.mem_map.1 hx
    have := wtF_pos k; omega
  omega
theorem er_wt {t u : Tr} (h : er t = er u) : wtF t = wtF u := by rw [← wtF_er t, h, wtF_er]
theorem er_kidl {t u : Tr} (h : er t = er u) : t.kids.length = u.kids.length := by
  have := congrArg (fun x => x.kids.length) h
  simpa [er_kids] using this
theorem flat_len (k : Int) (l : List Tr) : (((flatF k l).length : Nat) : Int) ≤ sumL (l.map partsF) := by
  induction l using snoc_ind with
  | h0 => exact Int.le_refl _
  | h1 l x ih =>
    rw [flatF_snoc, List.map_append, List.map_cons, List.map_nil, sumL_snoc, List.length_append]
    have h1 := kids_parts x
    have h2 := partsF_pos x
    split <;> simp <;> omega
theorem parts_map (l : List Tr) : (l.map er).map partsF = l.map partsF := by
  rw [List.map_map]
  exact List.map_congr_left fun t _ => partsF_er t
/-- how long the list can be: for a loop over the trees -/
theorem flat_room {ts xs : List Tr} {k : Int} {n : Nat} (hq : ts.map er = flatF k ((xs.take n).map er)) : (ts.length : Int) ≤ sumL ((xs.take n).map partsF) := by
  have h1 := flat_len k ((xs.take n).map er)
  rw [← hq, parts_map] at h1
  simpa using h1
theorem er_rows {t u : Tr} (h : er t = er u) : t.rows = u.rows := by
  have := congrArg Tr.rows h
  simpa [er_eq] using this
theorem seq_one {ts l : List Tr} (h : ts.map er = flatF 0 l) (h1 : ts.length = 1) : er (nth ts 0) = seqF l := by
  match ts, h1 with
  | [x], _ =>
    unfold seqF
    rw [← h]; rfl
theorem seq_many {ts l : List Tr} (h : ts.map er = flatF 0 l) (h1 : ¬ ts.length = 1) : mkT 0 (ts.map er) = seqF l := by
  unfold seqF
  rw [← h]
  match ts, h1 with
  | [], _ => rfl
  | [x], h1 => exact absurd rfl h1
  | x :: y :: l, _ => rfl
theorem alt_none {ts l : List Tr} (h : ts.map er = flatF 1 l) (h1 : ts.length = 0) : mkT 0 [] = altF l := by
  match ts, h1 with
  | [], _ =>
    unfold altF
    rw [← h]; rfl
theorem alt_one {ts l : List Tr} (h : ts.map er = flatF 1 l) (h1 : ts.length = 1) : er (nth ts 0) = altF l := by
  match ts, h1 with
  | [x], _ =>
    unfold altF
    rw [← h]; rfl
theorem alt_many {ts l : List Tr} (h : ts.map er = flatF 1 l) (h0 : ¬ ts.length = 0) (h1 : ¬ ts.length = 1) : mkT 1 (ts.map er) = altF l := by
  unfold altF
  rw [← h]
  match ts, h0, h1 with
  | [], h0, _ => exact absurd rfl h0
  | [x], _, h1 => exact absurd rfl h1
  | x :: y :: l, _, _ => rfl
/-- a tree out of a slice of the call's own -/
theorem mk_out {G : Foot} {w : World} {T : Foot} {kv : Sv} {ty : Nat} {ts : List Tr} {k : Int} (ho : ownR TrE ty ts T kv.v w) (hT : ∀ g, T g → G g) (ht : ∀ t ∈ ts, TrT G w t) : TrT G w ⟨k, ⟨#[]⟩, false, Sv.nil, [], 0, 0, false, kv, ts⟩ :=
  .mk (SlT.nil _ _) (fun h => absurd rfl h) ho.1.sl (fun hn => hT _ (ho.blk hn)) ht
theorem er_mk {k : Int} {kv : Sv} {ts : List Tr} : er ⟨k, ⟨#[]⟩, false, Sv.nil, [], 0, 0, false, kv, ts⟩ = mkT k (ts.map er) := by rw [er_eq]; rfl
/-! ### A slice written out, which nobody turns; a tree made of it -/
def nodeT (k : Int) (ch : ByteArray) (ng : Bool) (mn mx : Int) (lz : Bool) (kv : Sv) (ks : List Tr) : Tr := ⟨k, ch, ng, Sv.nil, [], mn, mx, lz, kv, ks⟩
theorem er_node (k : Int) (ch : ByteArray) (ng : Bool) (mn mx : Int) (lz : Bool) (kv : Sv) (ks : List Tr) : er (nodeT k ch ng mn mx lz kv ks) = nodeT k ch ng mn mx lz Sv.nil (ks.map er) := by rw [er_eq]; rfl
theorem nodeZ {G Z : Foot} {w : World} {k : Int} {ch : ByteArray} {ng : Bool} {mn mx : Int} {lz : Bool} {kv : Sv} {ks : List Tr} (h : (zSl TrE G kv.v ks).P Z w) (h2 : (zTl G ks).P Z w) : (zTr G (nodeT k ch ng mn mx lz kv ks)).P Z w :=
  .mk (SlT.nil _ _) (fun h => absurd rfl h) h.1 h.2 h2
theorem nodeS {w : World} {k : Int} {ch : ByteArray} {ng : Bool} {mn mx : Int} {lz : Bool} {kv : Sv} {ks : List Tr} (h : TlS w kv.v ks) : TrS w (nodeT k ch ng mn mx lz kv ks) :=
  .mk (SlT.nil _ _) (fun h => absurd rfl h) h.sl (fun hn => h.sl.lt hn) h.all
section
variable {N : Foot} {P : Program} {ops : Array Oper} {sp : List (Spec N)} {In : Nat → Ini N} {a0 : Act} {w0 W : World} {bf : List Nat} {j : Nat} {o : Oper} {s : Spec N} {pc : Prop} {n0 : Nat} {a1 : Act} {τ0 : Nat → Foot} {F : Foot} {β : Type}
theorem Ob.gzSl {α : Type} {E : Enc α} {ty e t n : Nat} {xs : List α} {parts : Array (Nat × Operand)} {z : Value} {cells : Array Value} (st : St N W n0 a1 w0 τ0) (hgd : GdOk ops sp bf j o pc) (ho : o.op = .buildSlice ty n parts)
    (hty : P.underlying ty = some (.slice e)) (hsz : ∀ w, (sizeOf e).run P w = .ok E.sz w) (hz : ∀ w, (zeroValue e).run P w = .ok z w) (hn0 : 0 < n) (hsmall : n * E.sz ≤ 16777216) (hn : n = xs.length) (hc : cells.toList = E.row xs)
    (h : ∀ {done a w τ}, Cx ops sp In a0 w0 bf j o done a w τ → pc → Instr.fill (fun i => some (i * E.sz, E.sz)) ((Array.range (n * E.sz)).map (z.cells[· % z.cells.size]!)) (parts.map fun (i, x) => (i, a.eval x)).toList = some cells)
    (hs : s = gzdet N t pc (fun b : Sv => b.v) (fun _ => True) (fun b => zSl E (Gn F W) b.v xs) := by exact rfl) (hd : o.dst = some t := by exact rfl) : Ob ops sp In a0 w0 P bf j o s := by
  subst hs
  intro done a w τ c
  refine ⟨fun hw => ?_, fun hw => ⟨Ext.refl _ _, fun hp => by rw [(hgd.known c).2 hp] at hw; cases hw⟩⟩
  have hp := (hgd.known c).1 hw
  have hf := h c hp
  have h2 : ¬ (n * E.sz > 2 ^ 24) := by omega
  have h0 : ¬ (n * E.sz = 0) := by have := Nat.mul_pos hn0 E.pos; omega
  have hr : (execOp a.eval o).run P w = .ok (.value (.slice (some ⟨w.heap.size, 0, none⟩) n n)) (w.alloc (.cells cells e)) := by
    simp only [execOp, ho, Instr.buildSlice, Sem.run_bind, run_underlying hty, Result.andThen_ok, hsz, h2, if_false, Sem.run_pure, h0, hz]
    rw [hf]
    rfl
  have hl : cells.size = n * E.sz := by rw [← Array.length_toList, hc, E.row_length, ← hn]
  have hown : OwnT E e (w.alloc (.cells cells e)) (.slice (some ⟨w.heap.size, 0, none⟩) n n) xs := ⟨E.row_length xs, .inr ⟨w.heap.size, n, cells, by rw [← hn], Nat.zero_le _, heap_alloc_new w _, by rw [← hn]; exact Nat.le_refl _, by have := Nat.le_mul_of_pos_right n E.pos; simp only [maxLen]; omega, hl, by rw [hc, ← E.row_length]; exact List.take_length⟩⟩
  have hx : Ext none' w (w.alloc (.cells cells e)) := Ext.alloc _ _ _
  refine wp_of_run hr ⟨_, rfl, hx, fun _ => ⟨⟨some ⟨w.heap.size, 0, none⟩, n, n⟩, ?_, trivial, ?_⟩⟩
  · show get (a.put o.dst _) t = _
    rw [hd, get_put a t t _ (c.lt t hd), if_pos rfl]; rfl
  · exact c.sn st hx ⟨hown, fun g hg => by have hg' : some w.heap.size = some g := hg; simp only [Option.some.injEq] at hg'; omega⟩
/-- what only computes, of what lies somewhere -/
theorem Ob.gzRun {t : Nat} {f : β → Value} {Ψ : β → Prop} {Φ : β → ZP} (hgd : GdOk ops sp bf j o pc) (h : ∀ {done a w τ}, Cx ops sp In a0 w0 bf j o done a w τ → pc → ∃ b, Ψ b ∧ (Φ b).P (Zof τ w) w ∧ Runs P a o w (f b))
    (hs : s = gzdet N t pc f Ψ Φ := by exact rfl) (hd : o.dst = some t := by exact rfl) : Ob ops sp In a0 w0 P bf j o s := by
  subst hs
  intro done a w τ c
  refine ⟨fun hw => ?_, fun hw => ⟨Ext.refl _ _, fun hp => by rw [(hgd.known c).2 hp] at hw; cases hw⟩⟩
  obtain ⟨b, hq, hz, hr⟩ := h c ((hgd.known c).1 hw)
  refine wp_of_runs hr ⟨_, rfl, Ext.refl _ _, fun _ => ⟨b, ?_, hq, hz⟩⟩
  show get (a.put o.dst _) t = _
  rw [hd, get_put a t t _ (c.lt t hd), if_pos rfl]
end
/-! ### How much what is made of trees is -/
theorem sumL_nil : sumL [] = 0 := rfl
theorem sumL_cons (x : Int) (l : List Int) : sumL (x :: l) = x + sumL l := by
  rw [show x :: l = [x] ++ l from rfl, sumL_app]; simp [sumL]
theorem wt_leaf (k : Int) (ch : ByteArray) (ng : Bool) (mn mx : Int) (lz : Bool) : wtF (leafT k ch ng mn mx lz) = 1 + (ch.size : Int) := by rw [wtF_eq]; simp [leafT, rwW, sumL]
theorem wt_node (k : Int) (ch : ByteArray) (ng : Bool) (mn mx : Int) (lz : Bool) (kv : Sv) (ks : List Tr) : wtF (nodeT k ch ng mn mx lz kv ks) = 1 + (ch.size : Int) + sumL (ks.map wtF) := by rw [wtF_eq]; simp [nodeT, rwW, sumL]
theorem wt_mk (k : Int) (ks : List Tr) : wtF (mkT k ks) = 1 + sumL (ks.map wtF) := by
  rw [wtF_eq]
  have h : ((⟨#[]⟩ : ByteArray).size : Int) = 0 := rfl
  simp [mkT, rwW, sumL, h]
theorem wt_flat (k : Int) (l : List Tr) : sumL ((flatF k l).map wtF) ≤ sumL (l.map wtF) := by
  induction l using snoc_ind with
  | h0 => exact Int.le_refl _
  | h1 l x ih =>
    rw [flatF_snoc, List.map_append, List.map_append, List.map_cons, List.map_nil, sumL_app, sumL_snoc]
    have h1 := wtF_eq x
    have h2 := rwW_len x.rows
    split
    · omega
    · rw [List.map_cons, List.map_nil]; simp [sumL] at ih ⊢; omega
theorem wt_map (l : List Tr) : (l.map er).map wtF = l.map wtF := by
  rw [List.map_map]
  exact List.map_congr_left fun t _ => wtF_er t
theorem wt_seq (l : List Tr) : wtF (seqF l) ≤ 1 + sumL (l.map wtF) := by
  have h := wt_flat 0 l
  unfold seqF
  split
  · rename_i x hx
    rw [hx] at h
    simp [sumL] at h ⊢; omega
  · rename_i ks _
    rw [wt_mk]; omega
theorem wt_alt (l : List Tr) : wtF (altF l) ≤ 1 + sumL (l.map wtF) := by
  have h := wt_flat 1 l
  unfold altF
  split
  · rename_i hx
    rw [hx] at h
    rw [wt_mk]; simp [sumL] at h ⊢; omega
  · rename_i x hx
    rw [hx] at h
    simp [sumL] at h ⊢; omega
  · rename_i ks _ _
    rw [wt_mk]; omega
theorem wt_seqb {t : Tr} {l : List Tr} (h : er t = seqF (l.map er)) : wtF t ≤ 1 + sumL (l.map wtF) := by
  have := wt_seq (l.map er)
  rw [wt_map] at this
  rw [← wtF_er t, h]; exact this
theorem wt_altb {t : Tr} {l : List Tr} (h : er t = altF (l.map er)) : wtF t ≤ 1 + sumL (l.map wtF) := by
  have := wt_alt (l.map er)
  rw [wt_map] at this
  rw [← wtF_er t, h]; exact this
end B
end Go.Proofs.Ytocmchlhbniloaa
