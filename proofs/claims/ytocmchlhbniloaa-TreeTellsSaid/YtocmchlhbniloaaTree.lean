/-
  Trees of parts, as they lie in memory. Over any program.
-/
import Derived.Test.YtocmchlhbniloaaBaseY
set_option linter.unusedSimpArgs false
set_option linter.unusedVariables false
namespace Go.Proofs.Ytocmchlhbniloaa
namespace B
/-- where a slice's elements lie -/
structure Sv where
  a : Option Addr
  l : Nat
  c : Nat
def Sv.v (s : Sv) : Value := .slice s.a s.l s.c
def Sv.nil : Sv := ⟨none, 0, 0⟩
/-- a part: its fields, and where its rows and its kids lie -/
structure Tr where
  k : Int
  ch : ByteArray
  ng : Bool
  rv : Sv
  rows : List (ByteArray × ByteArray)
  mn : Int
  mx : Int
  lz : Bool
  kv : Sv
  kids : List Tr
instance : Inhabited Tr := ⟨⟨0, ⟨#[]⟩, false, Sv.nil, [], 0, 0, false, Sv.nil, []⟩⟩
theorem Tr.kid_lt {t k : Tr} (h : k ∈ t.kids) : SizeOf.sizeOf k < SizeOf.sizeOf t := by
  have := List.sizeOf_lt_of_mem h
  cases t
  simp at this ⊢
  omega
theorem Tr.ind {P : Tr → Prop} (h : ∀ t, (∀ k ∈ t.kids, P k) → P t) (t : Tr) : P t := h t fun k hk => Tr.ind h k
termination_by SizeOf.sizeOf t
decreasing_by exact Tr.kid_lt hk
def TrE : Enc Tr := ⟨fun t => [.int .i64 t.k, .string t.ch, .bool t.ng, t.rv.v, .int .i64 t.mn, .int .i64 t.mx, .bool t.lz, t.kv.v], 8, by decide, fun _ => rfl, fun x u hu => by
  simp at hu; rcases hu with rfl | rfl | rfl | rfl | rfl | rfl | rfl | rfl <;> rfl⟩
def Tr.v (t : Tr) : Value := .agg #[.int .i64 t.k, .string t.ch, .bool t.ng, t.rv.v, .int .i64 t.mn, .int .i64 t.mx, .bool t.lz, t.kv.v]
/-- a tree lies in memory of F -/
inductive TrT (F : Foot) (w : World) : Tr → Prop
  | mk {t : Tr} : SlT RowE w t.rv.v t.rows → (t.rows ≠ [] → F (ptrOf t.rv.v).block) → SlT TrE w t.kv.v t.kids → (t.kids ≠ [] → F (ptrOf t.kv.v).block) → (∀ k ∈ t.kids, TrT F w k) → TrT F w t
section
variable {F F' : Foot} {w w' : World} {t : Tr}
theorem TrT.rows (h : TrT F w t) : SlT RowE w t.rv.v t.rows := by cases h; assumption
theorem TrT.rowsF (h : TrT F w t) : t.rows ≠ [] → F (ptrOf t.rv.v).block := by cases h; assumption
theorem TrT.kids (h : TrT F w t) : SlT TrE w t.kv.v t.kids := by cases h; assumption
theorem TrT.kidsF (h : TrT F w t) : t.kids ≠ [] → F (ptrOf t.kv.v).block := by cases h; assumption
theorem TrT.kid (h : TrT F w t) {k : Tr} (hk : k ∈ t.kids) : TrT F w k := by cases h; rename_i h; exact h k hk
theorem TrT.keep (h : TrT F w t) {M : Nat → Prop} (he : Ext M w w') (hm : ∀ g, F g → ¬ M g) : TrT F w' t := by
  induction t using Tr.ind with
  | h t ih => exact .mk (h.rows.keep he fun hn => hm _ (h.rowsF hn)) h.rowsF (h.kids.keep he fun hn => hm _ (h.kidsF hn)) h.kidsF fun k hk => ih k hk (h.kid hk)
theorem TrT.mono (h : TrT F w t) (hf : ∀ g, F g → g < w.heap.size → F' g) : TrT F' w t := by
  induction t using Tr.ind with
  | h t ih => exact .mk h.rows (fun hn => hf _ (h.rowsF hn) (h.rows.lt hn)) h.kids (fun hn => hf _ (h.kidsF hn) (h.kids.lt hn)) fun k hk => ih k hk (h.kid hk)
/-- a tree to be read -/
def TrS (w : World) (t : Tr) : Prop := TrT (fun g => g < w.heap.size) w t
theorem TrT.s (h : TrT F w t) : TrS w t := h.mono fun _ _ h => h
theorem TrS.at (h : TrS w t) (he : Ext (Nw w) w w') : TrS w' t := (TrT.keep h he fun g hg hn => by simp only [Nw] at hn; omega).s
theorem TrS.keep (h : TrS w t) (he : Ext none' w w') : TrS w' t := (TrT.keep h he fun _ _ hn => hn).s
/-- trees in a row, to be read -/
structure TlS (w : World) (v : Value) (ts : List Tr) : Prop where
  sl : SlT TrE w v ts
  all : ∀ t ∈ ts, TrS w t
theorem TrS.tl (h : TrS w t) : TlS w t.kv.v t.kids := ⟨h.kids, fun k hk => (h.kid hk)⟩
theorem TlS.el {v : Value} {ts : List Tr} (h : TlS w v ts) {i : Int} (h0 : 0 ≤ i) (h1 : i < ts.length) : TrS w (nth ts i) := h.all _ (by
  obtain ⟨k, rfl⟩ : ∃ k : Nat, i = (k : Int) := ⟨i.toNat, by omega⟩
  have hk : k < ts.length := by omega
  have : nth ts (k : Int) = ts[k] := by simp [B.nth, List.getD, List.getElem?_eq_getElem hk]
  rw [this]; exact List.getElem_mem hk)
end
/-! ### The same but for where it lies -/
mutual
def er : Tr → Tr
  | ⟨k, ch, ng, _, rows, mn, mx, lz, _, kids⟩ => ⟨k, ch, ng, Sv.nil, rows, mn, mx, lz, Sv.nil, ers kids⟩
def ers : List Tr → List Tr
  | [] => []
  | t :: ts => er t :: ers ts
end
theorem ers_map (ts : List Tr) : ers ts = ts.map er := by
  induction ts with
  | nil => rfl
  | cons t ts ih => rw [ers, ih]; rfl
theorem er_kids (t : Tr) : (er t).kids = t.kids.map er := by cases t; simp [er, ers_map]
theorem er_eq (t : Tr) : er t = ⟨t.k, t.ch, t.ng, Sv.nil, t.rows, t.mn, t.mx, t.lz, Sv.nil, t.kids.map er⟩ := by cases t; simp [er, ers_map]
theorem er_er (t : Tr) : er (er t) = er t := by
  induction t using Tr.ind with
  | h t ih =>
    rw [er_eq t, er_eq]
    congr 1
    rw [List.map_map]
    exact List.map_congr_left fun k hk => ih k hk
end B
end Go.Proofs.Ytocmchlhbniloaa
