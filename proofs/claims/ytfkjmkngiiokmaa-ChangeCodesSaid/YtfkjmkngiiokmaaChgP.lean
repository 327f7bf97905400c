/-
  Plain lists of edits: doing them to a text, what turns it back, where offsets go. No program.
-/
import Derived.Test.YtfkjmkngiiokmaaEdC
import Derived.Test.YtfkjmkngiiokmaaApart
set_option linter.unusedSimpArgs false
set_option linter.unusedVariables false
namespace Go.Proofs.Ytfkjmkngiiokmaa
namespace B
open Srt
abbrev Ed := Int × Int × ByteArray
def bs (s : ByteArray) : List UInt8 := s.data.toList
def tx (l : List UInt8) : ByteArray := ⟨l.toArray⟩
def sp (e : Ed) : Int × Int := (e.1, e.2.1)
theorem bs_tx (l : List UInt8) : bs (tx l) = l := by simp [bs, tx]
theorem tx_bs (s : ByteArray) : tx (bs s) = s := by cases s; simp [bs, tx]
theorem bs_len (s : ByteArray) : (bs s).length = s.size := by simp [bs]
theorem tx_size (l : List UInt8) : (tx l).size = l.length := by rw [← bs_len, bs_tx]
theorem bs_append (s u : ByteArray) : bs (s ++ u) = bs s ++ bs u := by simp [bs]
theorem bs_inj {s u : ByteArray} (h : bs s = bs u) : s = u := by rw [← tx_bs s, h, tx_bs]
theorem tx_append (l m : List UInt8) : tx (l ++ m) = tx l ++ tx m := bs_inj (by rw [bs_append, bs_tx, bs_tx, bs_tx])
theorem bs_extract (s : ByteArray) (i j : Nat) : bs (s.extract i j) = seg (bs s) i j := by
  simp [bs, seg, ByteArray.data_extract]
/-- edits in their order, from a on, of a text that ends at n -/
def Ap (a n : Int) (L : List Ed) : Prop := a ≤ n ∧ (∀ e ∈ L, a ≤ e.1 ∧ e.1 ≤ e.2.1 ∧ e.2.1 ≤ n) ∧ L.Pairwise fun p q => p.1 < q.1 ∧ p.2.1 ≤ q.1
theorem ap_nil {a n : Int} : Ap a n [] ↔ a ≤ n := by simp [Ap]
theorem ap_cons {a n : Int} {e : Ed} {L : List Ed} : Ap a n (e :: L) ↔ a ≤ e.1 ∧ e.1 ≤ e.2.1 ∧ (∀ f ∈ L, e.1 < f.1) ∧ Ap e.2.1 n L := by
  unfold Ap
  rw [List.pairwise_cons]
  constructor
  · rintro ⟨h0, h1, h2, h3⟩
    have he := h1 e (by simp)
    exact ⟨he.1, he.2.1, fun f hf => (h2 f hf).1, he.2.2, fun f hf => ⟨(h2 f hf).2, (h1 f (by simp [hf])).2⟩, h3⟩
  · rintro ⟨h1, h2, h3, h4, h5, h6⟩
    refine ⟨by omega, fun f hf => ?_, fun f hf => ⟨h3 f hf, (h5 f hf).1⟩, h6⟩
    rcases List.mem_cons.1 hf with rfl | hf
    · exact ⟨h1, h2, h4⟩
    · have := h5 f hf; exact ⟨by omega, this.2⟩
theorem Ap.le {a n : Int} {L : List Ed} (h : Ap a n L) : a ≤ n := h.1
theorem Ap.mono {a b n m : Int} {L : List Ed} (h : Ap a n L) (h1 : b ≤ a) (h2 : n ≤ m) : Ap b m L :=
  ⟨by have := h.1; omega, fun e he => by have := h.2.1 e he; omega, h.2.2⟩
theorem ap_append {a n : Int} {A C : List Ed} : Ap a n (A ++ C) ↔ Ap a n A ∧ Ap a n C ∧ ∀ p ∈ A, ∀ q ∈ C, p.1 < q.1 ∧ p.2.1 ≤ q.1 := by
  unfold Ap
  rw [List.pairwise_append]
  constructor
  · rintro ⟨h0, h1, h2, h3, h4⟩
    exact ⟨⟨h0, fun e he => h1 e (by simp [he]), h2⟩, ⟨h0, fun e he => h1 e (by simp [he]), h3⟩, h4⟩
  · rintro ⟨⟨h0, h1, h2⟩, ⟨_, h4, h5⟩, h6⟩
    exact ⟨h0, fun e he => (List.mem_append.1 he).elim (h1 e) (h4 e), h2, h5, h6⟩
/-! ### The order -/
theorem ap_sorted {a n : Int} {L : List Ed} (h : Ap a n L) : Sorted ltE L := by
  refine h.2.2.imp fun {p q} hpq => ?_
  rw [← Bool.not_eq_true, ltE_iff]
  omega
theorem perm_ap {a n : Int} : ∀ {L M : List Ed}, Ap a n L → Sorted ltE M → M.Perm L → M = L := by
  intro L
  induction L generalizing a with
  | nil => intro M _ _ hp; exact hp.eq_nil
  | cons e L ih =>
    intro M h hM hp
    obtain ⟨h1, h2, h3, h4⟩ := ap_cons.1 h
    cases M with
    | nil => exact absurd hp.symm.eq_nil (by simp)
    | cons m M =>
      have hm : m = e := by
        have hmem : m ∈ e :: L := hp.mem_iff.1 (by simp)
        rcases List.mem_cons.1 hmem with h' | h'
        · exact h'
        · exfalso
          have he : e ∈ m :: M := hp.mem_iff.2 (by simp)
          have hlt := h3 m h'
          rcases List.mem_cons.1 he with h'' | h''
          · rw [h''] at hlt; omega
          · have := (List.pairwise_cons.1 hM).1 e h''
            rw [← Bool.not_eq_true, ltE_iff] at this
            omega
      subst hm
      rw [ih h4 (List.pairwise_cons.1 hM).2 (List.Perm.cons_inv hp)]
theorem isort_ap {a n : Int} {L es : List Ed} (h : Ap a n L) (hp : es.Perm L) : isort ltE es = L :=
  perm_ap h (isort_sorted ltE_swo es) ((isort_perm es).trans hp)
theorem map_isort_ap {n : Int} {es : List Ed} (h : ∀ e ∈ es, mayB (sp e) n = true) (h2 : (es.map sp).Pairwise R) (h0 : 0 ≤ n) : Ap 0 n (isort ltE es) := by
  have hp := isort_perm (lt := ltE) es
  refine ⟨h0, fun e he => ?_, ?_⟩
  · have := h e (hp.mem_iff.1 he)
    simp only [mayB, Bool.and_eq_true, decide_eq_true_eq] at this
    have h' : (0 ≤ e.1 ∧ e.1 ≤ e.2.1) ∧ e.2.1 ≤ n := this
    exact ⟨h'.1.1, h'.1.2, h'.2⟩
  · have hR : (isort ltE es).Pairwise fun p q => R (sp p) (sp q) := by
      have := (hp.pairwise_iff (R := fun p q => R (sp p) (sp q)) (fun h => R_symm h)).2 (List.pairwise_map.1 h2)
      exact this
    have hs := isort_sorted ltE_swo es
    refine (hR.and hs).imp fun {p q} hpq => ?_
    obtain ⟨⟨r1, r2, r3⟩, h5⟩ := hpq
    rw [← Bool.not_eq_true, ltE_iff] at h5
    simp only [sp] at r1 r2 r3
    omega
theorem ap_pair {a n : Int} {L : List Ed} (h : Ap a n L) : (L.map sp).Pairwise R := by
  rw [List.pairwise_map]
  refine h.2.2.imp fun {p q} hpq => ?_
  unfold R sp
  refine ⟨by simp only []; omega, by simp only []; omega, by simp only []; omega⟩
/-! ### Doing them -/
/-- a text, from a on, with each edit done -/
def appL (s : List UInt8) : Nat → List Ed → List UInt8
  | a, [] => s.drop a
  | a, e :: L => seg s a e.1.toNat ++ (bs e.2.2 ++ appL s e.2.1.toNat L)
/-- from the last one to the first -/
def appR (s : List UInt8) (L : List Ed) : List UInt8 := L.foldr (fun e s => s.take e.1.toNat ++ (bs e.2.2 ++ s.drop e.2.1.toNat)) s
def sizes (L : List Ed) : Int := L.foldl (fun a e => a + (e.2.2.size : Int)) 0
def grown (n : Int) (L : List Ed) : Int := L.foldl (fun a e => a + ((e.2.2.size : Int) - (e.2.1 - e.1))) n
theorem grown_cons (n : Int) (e : Ed) (L : List Ed) : grown n (e :: L) = grown (n + ((e.2.2.size : Int) - (e.2.1 - e.1))) L := rfl
theorem grown_add (n m : Int) (L : List Ed) : grown (n + m) L = grown n L + m := by
  induction L generalizing n with
  | nil => rfl
  | cons e L ih =>
    rw [grown_cons, grown_cons, ← ih]
    congr 1; omega
theorem grown_zero (n : Int) (L : List Ed) : grown n L = n + grown 0 L := by
  have := grown_add 0 n L
  rw [show (0 : Int) + n = n by omega] at this
  omega
theorem grown_append (n : Int) (A C : List Ed) : grown n (A ++ C) = grown (grown n A) C := by simp [grown]
theorem grown_perm {n : Int} {A C : List Ed} (h : A.Perm C) : grown n A = grown n C := by
  induction h generalizing n with
  | nil => rfl
  | cons x _ ih => rw [grown_cons, grown_cons, ih]
  | swap x y l => rw [grown_cons, grown_cons, grown_cons, grown_cons]; congr 1; omega
  | trans _ _ h1 h2 => rw [h1, h2]
theorem sizes_acc (n : Int) (L : List Ed) : L.foldl (fun a e => a + (e.2.2.size : Int)) n = n + sizes L := by
  unfold sizes
  induction L generalizing n with
  | nil => simp
  | cons e L ih => simp only [List.foldl_cons]; rw [ih, ih (0 + _)]; omega
theorem sizes_cons (e : Ed) (L : List Ed) : sizes (e :: L) = (e.2.2.size : Int) + sizes L := by
  unfold sizes
  simp only [List.foldl_cons]
  rw [sizes_acc, show (0 : Int) + (e.2.2.size : Int) = (e.2.2.size : Int) by omega]
  rfl
theorem sizes_nonneg (L : List Ed) : 0 ≤ sizes L := by
  induction L with
  | nil => simp [sizes]
  | cons e L ih => rw [sizes_cons]; omega
theorem sizes_append (A C : List Ed) : sizes (A ++ C) = sizes A + sizes C := by
  induction A with
  | nil => simp [sizes]
  | cons e A ih => rw [List.cons_append, sizes_cons, sizes_cons, ih]; omega
theorem sizes_perm {A C : List Ed} (h : A.Perm C) : sizes A = sizes C := by
  induction h with
  | nil => rfl
  | cons x _ ih => rw [sizes_cons, sizes_cons, ih]
  | swap x y l => rw [sizes_cons, sizes_cons, sizes_cons, sizes_cons]; omega
  | trans _ _ h1 h2 => rw [h1, h2]
theorem sizes_mem {e : Ed} {L : List Ed} (h : e ∈ L) : (e.2.2.size : Int) ≤ sizes L := by
  induction L with
  | nil => cases h
  | cons f L ih =>
    rw [sizes_cons]
    rcases List.mem_cons.1 h with rfl | h
    · have := sizes_nonneg L; omega
    · have := ih h; omega
theorem appL_len {s : List UInt8} : ∀ {L : List Ed} {a : Nat}, Ap a s.length L → ((appL s a L).length : Int) = (s.length : Int) - a + grown 0 L := by
  intro L
  induction L with
  | nil => intro a h; have := h.le; simp [appL, grown]; omega
  | cons e L ih =>
    intro a h
    obtain ⟨h1, h2, h3, h4⟩ := ap_cons.1 h
    have hn := h4.le
    have := ih (a := e.2.1.toNat) (by rw [Int.toNat_of_nonneg (by omega)]; exact h4)
    rw [appL, List.length_append, List.length_append, seg_len (by omega), bs_len, grown_cons, grown_zero]
    omega
/-- going from the front: what lies ahead of the first one stays -/
theorem appL_from {s : List UInt8} {L : List Ed} {a b : Nat} (hab : a ≤ b) (h : Ap b s.length L) : appL s a L = seg s a b ++ appL s b L := by
  cases L with
  | nil => have := h.le; simp only [appL]; exact seg_drop hab
  | cons e L =>
    obtain ⟨h1, h2, h3, h4⟩ := ap_cons.1 h
    have := h4.le
    simp only [appL]
    rw [seg_append (i := a) (j := b) (k := e.1.toNat) hab (by omega), List.append_assoc]
theorem appR_eq {s : List UInt8} : ∀ {L : List Ed} {a : Nat}, Ap a s.length L → appR s L = s.take a ++ appL s a L := by
  intro L
  induction L with
  | nil => intro a h; simp [appR, appL]
  | cons e L ih =>
    intro a h
    obtain ⟨h1, h2, h3, h4⟩ := ap_cons.1 h
    have hn := h4.le
    have hr := ih (a := e.2.1.toNat) (by rw [Int.toNat_of_nonneg (by omega)]; exact h4)
    have e1 : appR s (e :: L) = (appR s L).take e.1.toNat ++ (bs e.2.2 ++ (appR s L).drop e.2.1.toNat) := rfl
    have hl : (s.take e.2.1.toNat).length = e.2.1.toNat := by simp; omega
    rw [e1, hr, appL]
    rw [List.take_append_of_le_length (by omega), List.take_take, Nat.min_eq_left (by omega)]
    rw [List.drop_append_of_le_length (by omega), List.drop_of_length_le (by omega), List.nil_append]
    rw [take_seg (i := a) (j := e.1.toNat) (by omega), List.append_assoc]
/-- those behind first, then those ahead -/
theorem appL_parts {s : List UInt8} {C : List Ed} : ∀ {A : List Ed} {a : Nat}, Ap a s.length (A ++ C) → appL (appL s 0 C) a A = appL s a (A ++ C) := by
  intro A a h
  obtain ⟨hA, hC, hAC⟩ := ap_append.1 h
  induction A generalizing a with
  | nil =>
    simp only [appL, List.nil_append]
    rw [appL_from (Nat.zero_le a) hC]
    have hl : (seg s 0 a).length = a := by rw [seg_len]; omega; have := hC.le; omega
    rw [List.drop_append_of_le_length (by omega), List.drop_of_length_le (by omega), List.nil_append]
  | cons e A ih =>
    obtain ⟨h1, h2, h3, h4⟩ := ap_cons.1 hA
    have hn := h4.le
    have hC' : Ap e.2.1 s.length C := ⟨hn, fun q hq => by
      have := hC.2.1 q hq; have := (hAC e (by simp) q hq); omega, hC.2.2⟩
    have hn' : ((e.2.1.toNat : Nat) : Int) = e.2.1 := Int.toNat_of_nonneg (by omega)
    have h' : Ap e.2.1.toNat s.length (A ++ C) := by rw [hn']; exact ap_append.2 ⟨h4, hC', fun p hp q hq => hAC p (by simp [hp]) q hq⟩
    have hi := ih h' (by rw [hn']; exact h4) (by rw [hn']; exact hC') (fun p hp q hq => hAC p (by simp [hp]) q hq)
    simp only [appL, List.cons_append]
    rw [hi]
    congr 1
    rw [appL_from (Nat.zero_le e.2.1.toNat) (by rw [hn']; exact hC')]
    have hl : (seg s 0 e.2.1.toNat).length = e.2.1.toNat := by rw [seg_len]; omega; omega
    unfold seg at hl ⊢
    simp only [List.drop_zero, Nat.sub_zero] at hl ⊢
    rw [List.drop_append_of_le_length (by omega), List.take_append_of_le_length (by simp; omega), List.drop_take, List.take_take, Nat.min_eq_left (by omega)]
/-! ### Pieces: what lies ahead, what is taken away, what is put in -/
abbrev Pc := List UInt8 × List UInt8 × List UInt8
def sOf : List Pc → List UInt8 → List UInt8
  | [], t => t
  | p :: ps, t => p.1 ++ (p.2.1 ++ sOf ps t)
def swap (p : Pc) : Pc := (p.1, p.2.2, p.2.1)
def edOf : Nat → List Pc → List Ed
  | _, [] => []
  | a, p :: ps => ((a + p.1.length : Nat), (a + p.1.length + p.2.1.length : Nat), tx p.2.2) :: edOf (a + p.1.length + p.2.1.length) ps
theorem rep : ∀ (L : List Ed) (s : List UInt8) (a : Nat), Ap a (a + s.length) L → ∃ ps t, edOf a ps = L ∧ sOf ps t = s := by
  intro L
  induction L with
  | nil => intro s a _; exact ⟨[], s, rfl, rfl⟩
  | cons e L ih =>
    intro s a h
    obtain ⟨h1, h2, h3, h4⟩ := ap_cons.1 h
    have hn := h4.le
    obtain ⟨ps, t, k1, k2⟩ := ih (s.drop (e.2.1.toNat - a)) e.2.1.toNat (by
      have : ((e.2.1.toNat : Nat) : Int) + ((s.drop (e.2.1.toNat - a)).length : Int) = a + s.length := by simp; omega
      rw [this, Int.toNat_of_nonneg (by omega)]; exact h4)
    refine ⟨(s.take (e.1.toNat - a), seg s (e.1.toNat - a) (e.2.1.toNat - a), bs e.2.2) :: ps, t, ?_, ?_⟩
    · have l1 : (s.take (e.1.toNat - a)).length = e.1.toNat - a := by simp; omega
      have l2 : (seg s (e.1.toNat - a) (e.2.1.toNat - a)).length = e.2.1.toNat - e.1.toNat := by rw [seg_len (by omega)]; omega
      simp only [edOf, l1, l2, tx_bs]
      rw [show a + (e.1.toNat - a) + (e.2.1.toNat - e.1.toNat) = e.2.1.toNat by omega, k1, show a + (e.1.toNat - a) = e.1.toNat by omega, Int.toNat_of_nonneg (by omega), Int.toNat_of_nonneg (by omega)]
    · simp only [sOf, k2]
      rw [← seg_drop (by omega), List.take_append_drop]
theorem appL_pc : ∀ (ps : List Pc) (t s A : List UInt8) (a : Nat), A.length = a → s = A ++ sOf ps t → appL s a (edOf a ps) = sOf (ps.map swap) t := by
  intro ps
  induction ps with
  | nil => intro t s A a hA hs; subst hs; simp only [edOf, appL, sOf, List.map_nil]; rw [List.drop_append_of_le_length (by omega), List.drop_of_length_le (by omega), List.nil_append]
  | cons p ps ih =>
    intro t s A a hA hs
    simp only [edOf, appL, List.map_cons, sOf, swap, bs_tx, Int.toNat_natCast]
    rw [ih t s (A ++ (p.1 ++ p.2.1)) _ (by simp; omega) (by rw [hs]; simp [sOf])]
    congr 1
    rw [hs, sOf, ← List.append_assoc]
    exact seg_put (A := A) (B := p.1) hA (by omega)
def Good : List Pc → Prop
  | [] => True
  | p :: ps => (∀ q, ps.head? = some q → 0 < p.2.1.length + q.1.length) ∧ Good ps
theorem good_ap : ∀ (ps : List Pc) (t : List UInt8) (a : Nat), Good ps → Ap a (a + (sOf ps t).length) (edOf a ps) := by
  intro ps
  induction ps with
  | nil => intro t a _; simp only [edOf, ap_nil]; omega
  | cons p ps ih =>
    intro t a h
    have hi := ih t (a + p.1.length + p.2.1.length) h.2
    rw [edOf, ap_cons]
    refine ⟨by simp only []; omega, by simp only []; omega, fun f hf => ?_, ?_⟩
    · cases ps with
      | nil => simp [edOf] at hf
      | cons q ps =>
        have hq := h.1 q rfl
        have hle : ∀ f ∈ edOf (a + p.1.length + p.2.1.length) (q :: ps), ((a + p.1.length + p.2.1.length + q.1.length : Nat) : Int) ≤ f.1 := by
          intro f hf
          rw [edOf] at hf hi
          have hc := ap_cons.1 hi
          rcases List.mem_cons.1 hf with rfl | hf
          · simp
          · have := hc.2.2.1 f hf; simp only [] at this; omega
        have := hle f hf
        simp only []; omega
    · have e : ((a + (sOf (p :: ps) t).length : Nat) : Int) = ((a + p.1.length + p.2.1.length : Nat) : Int) + ((sOf ps t).length : Int) := by
        simp only [sOf, List.length_append]; omega
      have e' : (a : Int) + ((sOf (p :: ps) t).length : Int) = ((a + (sOf (p :: ps) t).length : Nat) : Int) := by omega
      rw [e', e]
      exact hi
/-- those put together that have nothing between them -/
def nrm : Pc → List Pc → List Pc
  | p, [] => [p]
  | p, q :: qs => if q.1 = [] then nrm (p.1, p.2.1 ++ q.2.1, p.2.2 ++ q.2.2) qs else p :: nrm q qs
def norm : List Pc → List Pc
  | [] => []
  | p :: ps => nrm p ps
theorem nrm_sOf (t : List UInt8) : ∀ (qs : List Pc) (p : Pc), sOf (nrm p qs) t = sOf (p :: qs) t := by
  intro qs
  induction qs with
  | nil => intro p; rfl
  | cons q qs ih =>
    intro p
    rw [nrm]
    split
    · rename_i h; rw [ih]; simp [sOf, h]
    · simp only [sOf] at ih ⊢; rw [ih]
theorem norm_sOf (ps : List Pc) (t : List UInt8) : sOf (norm ps) t = sOf ps t := by
  cases ps with
  | nil => rfl
  | cons p ps => exact nrm_sOf t ps p
theorem nrm_swap : ∀ (qs : List Pc) (p : Pc), nrm (swap p) (qs.map swap) = (nrm p qs).map swap := by
  intro qs
  induction qs with
  | nil => intro p; rfl
  | cons q qs ih =>
    intro p
    rw [List.map_cons, nrm, nrm]
    have e : (swap q).1 = q.1 := rfl
    rw [e]
    split
    · rw [← ih]; rfl
    · rw [ih]; rfl
theorem norm_swap (ps : List Pc) : norm (ps.map swap) = (norm ps).map swap := by
  cases ps with
  | nil => rfl
  | cons p ps => exact nrm_swap ps p
theorem nrm_sOf' (t : List UInt8) (ps : List Pc) : sOf ((norm ps).map swap) t = sOf (ps.map swap) t := by
  rw [← norm_swap, norm_sOf]
theorem nrm_len : ∀ (qs : List Pc) (p : Pc), (nrm p qs).length ≤ qs.length + 1 := by
  intro qs
  induction qs with
  | nil => intro p; simp [nrm]
  | cons q qs ih =>
    intro p
    rw [nrm]
    split
    · have := ih (p.1, p.2.1 ++ q.2.1, p.2.2 ++ q.2.2); simp; omega
    · have := ih q; simp; omega
theorem norm_len (ps : List Pc) : (norm ps).length ≤ ps.length := by
  cases ps with
  | nil => simp [norm]
  | cons p ps => simpa [norm] using nrm_len ps p
/-- all but the first one have something ahead -/
def Gaps : List Pc → Prop
  | [] => True
  | _ :: ps => ∀ q ∈ ps, q.1 ≠ []
theorem nrm_head : ∀ (qs : List Pc) (p : Pc), ∃ r rs, nrm p qs = r :: rs ∧ r.1 = p.1 ∧ ∀ q ∈ rs, q.1 ≠ [] := by
  intro qs
  induction qs with
  | nil => intro p; exact ⟨p, [], rfl, rfl, by simp⟩
  | cons q qs ih =>
    intro p
    rw [nrm]
    split
    · obtain ⟨r, rs, h1, h2, h3⟩ := ih (p.1, p.2.1 ++ q.2.1, p.2.2 ++ q.2.2)
      exact ⟨r, rs, h1, h2, h3⟩
    · rename_i h
      obtain ⟨r, rs, h1, h2, h3⟩ := ih q
      refine ⟨p, nrm q qs, rfl, rfl, fun q' hq => ?_⟩
      rw [h1] at hq
      rcases List.mem_cons.1 hq with rfl | hq
      · rw [h2]; exact h
      · exact h3 q' hq
theorem norm_gaps (ps : List Pc) : Gaps (norm ps) := by
  cases ps with
  | nil => trivial
  | cons p ps =>
    obtain ⟨r, rs, h1, h2, h3⟩ := nrm_head ps p
    show Gaps (nrm p ps)
    rw [h1]; exact h3
theorem gaps_swap {ps : List Pc} (h : Gaps ps) : Gaps (ps.map swap) := by
  cases ps with
  | nil => trivial
  | cons p ps =>
    intro q hq
    obtain ⟨r, hr, rfl⟩ := List.mem_map.1 hq
    exact h r hr
theorem gaps_good : ∀ {ps : List Pc}, Gaps ps → Good ps := by
  intro ps
  induction ps with
  | nil => intro _; trivial
  | cons p ps ih =>
    intro h
    refine ⟨fun q hq => ?_, ih ?_⟩
    · have := h q (List.mem_of_head? hq)
      have := List.length_pos_iff.2 this
      omega
    · cases ps with
      | nil => trivial
      | cons q ps => exact fun r hr => h r (by simp [hr])
theorem gaps_nrm : ∀ {qs : List Pc} {p : Pc}, (∀ q ∈ qs, q.1 ≠ []) → nrm p qs = p :: qs := by
  intro qs
  induction qs with
  | nil => intro p _; rfl
  | cons q qs ih =>
    intro p h
    rw [nrm, if_neg (h q (by simp)), ih fun r hr => h r (by simp [hr])]
theorem gaps_norm {ps : List Pc} (h : Gaps ps) : norm ps = ps := by
  cases ps with
  | nil => rfl
  | cons p ps => exact gaps_nrm h
theorem swap_swap (ps : List Pc) : (ps.map swap).map swap = ps := by
  rw [List.map_map]
  have : (swap ∘ swap) = id := by funext p; rfl
  rw [this, List.map_id]
theorem edOf_len : ∀ (ps : List Pc) (a : Nat), (edOf a ps).length = ps.length := by
  intro ps
  induction ps with
  | nil => intro a; rfl
  | cons p ps ih => intro a; simp [edOf, ih]
/-- each begins behind the end of the one ahead -/
theorem edOf_gaps : ∀ {ps : List Pc} {a : Nat}, Gaps ps → (edOf a ps).Pairwise fun p q => p.2.1 < q.1 := by
  intro ps
  induction ps with
  | nil => intro a _; exact List.Pairwise.nil
  | cons p ps ih =>
    intro a h
    have hg : Gaps ps := by
      cases ps with
      | nil => trivial
      | cons q ps => exact fun r hr => h r (by simp [hr])
    rw [edOf, List.pairwise_cons]
    refine ⟨fun f hf => ?_, ih hg⟩
    cases ps with
    | nil => simp [edOf] at hf
    | cons q ps =>
      have h1 := List.length_pos_iff.2 (h q (by simp))
      have hap := good_ap (q :: ps) [] (a + p.1.length + p.2.1.length) (gaps_good hg)
      rw [edOf] at hf hap
      have hc := ap_cons.1 hap
      rcases List.mem_cons.1 hf with rfl | hf
      · simp only []; omega
      · have := hc.2.2.1 f hf; simp only [] at this ⊢; omega
/-! ### What turns them back -/
def backStep (s : ByteArray) (st : List Ed × Int × Int) (e : Ed) : List Ed × Int × Int :=
  (if (decide (0 ≤ (st.1.length : Int) - 1) && decide (e.1 = st.2.2)) = true then
      st.1.set ((st.1.length : Int) - 1).toNat ((nth st.1 ((st.1.length : Int) - 1)).1, (nth st.1 ((st.1.length : Int) - 1)).2.1 + (e.2.2.size : Int), (nth st.1 ((st.1.length : Int) - 1)).2.2 ++ s.extract e.1.toNat e.2.1.toNat)
    else st.1 ++ [(e.1 + st.2.1, e.1 + st.2.1 + (e.2.2.size : Int), s.extract e.1.toNat e.2.1.toNat)],
   st.2.1 + ((e.2.2.size : Int) - (e.2.1 - e.1)), e.2.1)
def backS (s : ByteArray) (L : List Ed) : List Ed × Int × Int := L.foldl (backStep s) ([], 0, -1)
def backL (s : ByteArray) (L : List Ed) : List Ed := (backS s L).1
theorem nth_endE (A : List Ed) (l : Ed) : nth (A ++ [l]) (((A ++ [l]).length : Int) - 1) = l := nth_app (A := A) (B := []) (by simp)
theorem set_endE (A : List Ed) (l m : Ed) : (A ++ [l]).set (((A ++ [l]).length : Int) - 1).toNat m = A ++ [m] := by
  rw [show (((A ++ [l]).length : Int) - 1).toNat = A.length by simp]
  simp
theorem back_pc (s : ByteArray) (t : List UInt8) : ∀ (qs : List Pc) (p : Pc) (A : List Ed) (D : List UInt8) (a b : Nat), bs s = D ++ sOf qs t → D.length = a →
    (List.foldl (backStep s) (A ++ [(((b + p.1.length : Nat), (b + p.1.length + p.2.2.length : Nat), tx p.2.1) : Ed)], ((b + p.1.length + p.2.2.length : Nat) : Int) - (a : Int), (a : Int)) (edOf a qs)).1 = A ++ edOf b ((nrm p qs).map swap) := by
  intro qs
  induction qs with
  | nil => intro p A D a b hs hD; simp [edOf, nrm, swap]
  | cons q qs ih =>
    intro p A D a b hs hD
    have hseg : s.extract (a + q.1.length) (a + q.1.length + q.2.1.length) = tx q.2.1 := by
      refine bs_inj ?_
      rw [bs_extract, bs_tx, hs, sOf, ← List.append_assoc, ← List.append_assoc]
      exact seg_put (by simp; omega) (by omega)
    rw [edOf, List.foldl_cons, nrm]
    by_cases hq : q.1 = []
    · rw [if_pos hq]
      have hseg' : s.extract a (a + q.2.1.length) = tx q.2.1 := by have := hseg; rw [hq] at this; simpa using this
      have h1 := ih (p.1, p.2.1 ++ q.2.1, p.2.2 ++ q.2.2) A (D ++ q.2.1) (a + q.2.1.length) b (by rw [hs, sOf, hq]; simp) (by simp; omega)
      rw [← h1]
      have hb : backStep s (A ++ [(((b + p.1.length : Nat), (b + p.1.length + p.2.2.length : Nat), tx p.2.1) : Ed)], ((b + p.1.length + p.2.2.length : Nat) : Int) - (a : Int), (a : Int)) ((a + q.1.length : Nat), (a + q.1.length + q.2.1.length : Nat), tx q.2.2)
          = (A ++ [(((b + p.1.length : Nat), (b + p.1.length + (p.2.2 ++ q.2.2).length : Nat), tx (p.2.1 ++ q.2.1)) : Ed)], ((b + p.1.length + (p.2.2 ++ q.2.2).length : Nat) : Int) - ((a + q.2.1.length : Nat) : Int), ((a + q.2.1.length : Nat) : Int)) := by
        unfold backStep
        simp only [nth_endE, set_endE]
        rw [if_pos (by simp [hq])]
        simp only [Int.toNat_natCast, hseg', tx_append, tx_size, hq, List.length_nil, Nat.add_zero, List.length_append]
        refine Prod.ext ?_ (Prod.ext ?_ rfl)
        · simp only []
          congr 3
          · refine Prod.ext ?_ rfl
            simp only []; omega
        · simp only []; omega
      rw [hb, hq]
      simp only [List.length_nil, Nat.add_zero]
    · rw [if_neg hq]
      have hpos := List.length_pos_iff.2 hq
      have h1 := ih q (A ++ [(((b + p.1.length : Nat), (b + p.1.length + p.2.2.length : Nat), tx p.2.1) : Ed)]) (D ++ (q.1 ++ q.2.1)) (a + q.1.length + q.2.1.length) (b + p.1.length + p.2.2.length) (by rw [hs, sOf]; simp) (by simp; omega)
      have hb : backStep s (A ++ [(((b + p.1.length : Nat), (b + p.1.length + p.2.2.length : Nat), tx p.2.1) : Ed)], ((b + p.1.length + p.2.2.length : Nat) : Int) - (a : Int), (a : Int)) ((a + q.1.length : Nat), (a + q.1.length + q.2.1.length : Nat), tx q.2.2)
          = (A ++ [(((b + p.1.length : Nat), (b + p.1.length + p.2.2.length : Nat), tx p.2.1) : Ed)] ++ [(((b + p.1.length + p.2.2.length + q.1.length : Nat), (b + p.1.length + p.2.2.length + q.1.length + q.2.2.length : Nat), tx q.2.1) : Ed)], ((b + p.1.length + p.2.2.length + q.1.length + q.2.2.length : Nat) : Int) - ((a + q.1.length + q.2.1.length : Nat) : Int), ((a + q.1.length + q.2.1.length : Nat) : Int)) := by
        unfold backStep
        rw [if_neg (by simp; omega)]
        simp only [Int.toNat_natCast, hseg, tx_size]
        refine Prod.ext ?_ (Prod.ext ?_ rfl)
        · simp only []
          congr 2
          refine Prod.ext ?_ (Prod.ext ?_ rfl)
          · simp only []; omega
          · simp only []; omega
        · simp only []; omega
      rw [hb, h1]
      simp [edOf, swap]
theorem backL_pc (s : ByteArray) (ps : List Pc) (t : List UInt8) (hs : bs s = sOf ps t) : backL s (edOf 0 ps) = edOf 0 ((norm ps).map swap) := by
  unfold backL backS
  cases ps with
  | nil => rfl
  | cons p ps =>
    have hseg : s.extract (0 + p.1.length) (0 + p.1.length + p.2.1.length) = tx p.2.1 := by
      refine bs_inj ?_
      rw [bs_extract, bs_tx, hs, sOf, ← List.append_assoc]
      exact seg_put (by omega) (by omega)
    have h1 := back_pc s t ps p [] (p.1 ++ p.2.1) (0 + p.1.length + p.2.1.length) 0 (by rw [hs, sOf]; simp) (by simp)
    rw [edOf, List.foldl_cons]
    have hb : backStep s ([], 0, -1) ((0 + p.1.length : Nat), (0 + p.1.length + p.2.1.length : Nat), tx p.2.2) = ([] ++ [(((0 + p.1.length : Nat), (0 + p.1.length + p.2.2.length : Nat), tx p.2.1) : Ed)], ((0 + p.1.length + p.2.2.length : Nat) : Int) - ((0 + p.1.length + p.2.1.length : Nat) : Int), ((0 + p.1.length + p.2.1.length : Nat) : Int)) := by
      unfold backStep
      rw [if_neg (by simp)]
      simp only [Int.toNat_natCast, hseg, tx_size, List.nil_append]
      refine Prod.ext ?_ (Prod.ext ?_ rfl)
      · simp only []
        congr 1
      · simp only []; omega
    rw [hb, h1]
    rfl
/-! ### Where offsets go -/
def one (a : Int) (r : Bool) (e : Ed) : Int := if a < e.1 then a else if e.2.1 < a then a + ((e.2.2.size : Int) - (e.2.1 - e.1)) else if r = true then e.1 + (e.2.2.size : Int) else e.1
def mvL (r : Bool) (n : Int) (L : List Ed) : Int := L.foldr (fun e a => one a r e) n
theorem mvL_cons (r : Bool) (n : Int) (e : Ed) (L : List Ed) : mvL r n (e :: L) = one (mvL r n L) r e := rfl
theorem mvL_append (r : Bool) (n : Int) (A C : List Ed) : mvL r n (A ++ C) = mvL r (mvL r n C) A := by simp [mvL]
theorem one_mono {a b : Int} {r : Bool} {e : Ed} (h : a ≤ b) (he : e.1 ≤ e.2.1) : one a r e ≤ one b r e := by
  unfold one
  cases r <;> simp only [Bool.false_eq_true, if_false, if_true] <;> (repeat' split) <;> omega
theorem one_right {a b : Int} {e : Ed} (h : a ≤ b) (he : e.1 ≤ e.2.1) : one a false e ≤ one b true e := by
  unfold one
  simp only [Bool.false_eq_true, if_false, if_true]
  (repeat' split) <;> omega
theorem mv_mono {r : Bool} {L : List Ed} (hL : ∀ e ∈ L, e.1 ≤ e.2.1) {a b : Int} (h : a ≤ b) : mvL r a L ≤ mvL r b L := by
  induction L with
  | nil => exact h
  | cons e L ih => rw [mvL_cons, mvL_cons]; exact one_mono (ih fun f hf => hL f (by simp [hf])) (hL e (by simp))
theorem mv_right {L : List Ed} (hL : ∀ e ∈ L, e.1 ≤ e.2.1) {a b : Int} (h : a ≤ b) : mvL false a L ≤ mvL true b L := by
  induction L with
  | nil => exact h
  | cons e L ih => rw [mvL_cons, mvL_cons]; exact one_right (ih fun f hf => hL f (by simp [hf])) (hL e (by simp))
/-- what lies ahead of all of them stays -/
theorem mv_ahead {r : Bool} {n : Int} {L : List Ed} (h : ∀ e ∈ L, n < e.1) : mvL r n L = n := by
  induction L with
  | nil => rfl
  | cons e L ih => rw [mvL_cons, ih fun f hf => h f (by simp [hf])]; unfold one; rw [if_pos (h e (by simp))]
theorem mv_ge {r : Bool} {b k n : Int} {L : List Ed} (h : Ap b n L) (hk : b ≤ k) : b ≤ mvL r k L := by
  have h0 : b ≤ mvL r b L := by
    induction L generalizing n with
    | nil => exact Int.le_refl _
    | cons e L ih =>
      obtain ⟨h1, h2, h3, h4⟩ := ap_cons.1 h
      have hi := ih (h4.mono (b := b) (by omega) (Int.le_refl _))
      rw [mvL_cons]
      unfold one
      cases r <;> simp only [Bool.false_eq_true, if_false, if_true] <;> (repeat' split) <;> omega
  have hm := mv_mono (r := r) (L := L) (fun e he => (h.2.1 e he).2.1) hk
  omega
theorem mv_end {n : Int} : ∀ {L : List Ed} {b : Int}, Ap b n L → mvL true n L = grown n L := by
  intro L
  induction L with
  | nil => intro b _; rfl
  | cons e L ih =>
    intro b h
    obtain ⟨h1, h2, h3, h4⟩ := ap_cons.1 h
    have hi := ih h4
    have hg := mv_ge (r := true) (k := n) h4 h4.le
    rw [mvL_cons, hi, grown_cons, grown_add]
    rw [hi] at hg
    unfold one
    simp only [if_true]
    (repeat' split) <;> omega
theorem mv_zero : ∀ {L : List Ed} {n : Int}, Ap 0 n L → mvL false 0 L = 0 := by
  intro L
  induction L with
  | nil => intro n _; rfl
  | cons e L ih =>
    intro n h
    obtain ⟨h1, h2, h3, h4⟩ := ap_cons.1 h
    rw [mvL_cons, ih (h4.mono (b := 0) (by omega) (Int.le_refl _))]
    unfold one
    simp only [Bool.false_eq_true, if_false]
    (repeat' split) <;> omega
/-- a byte that no edit takes away -/
def Kept (k : Int) (L : List Ed) : Prop := ∀ e ∈ L, k < e.1 ∨ e.2.1 ≤ k
theorem mv_kept : ∀ {L : List Ed} {n b k : Int}, Ap b n L → Kept k L → mvL false (k + 1) L = mvL true k L + 1 := by
  intro L
  induction L with
  | nil => intro n b k _ _; rfl
  | cons e L ih =>
    intro n b k h hk
    obtain ⟨h1, h2, h3, h4⟩ := ap_cons.1 h
    have hi := ih h4 (fun f hf => hk f (by simp [hf]))
    rw [mvL_cons, mvL_cons, hi]
    rcases hk e (by simp) with hlt | hge
    · have ha := mv_ahead (r := true) (n := k) (L := L) (fun f hf => by have := h3 f hf; omega)
      rw [ha]
      unfold one
      simp only [Bool.false_eq_true, if_false, if_true]
      (repeat' split) <;> omega
    · have hg := mv_ge (r := true) (k := k) h4 hge
      unfold one
      simp only [Bool.false_eq_true, if_false, if_true]
      (repeat' split) <;> omega
theorem app_kept {s : List UInt8} : ∀ {L : List Ed} {a : Nat} {k : Nat}, Ap a s.length L → Kept k L → a ≤ k → k < s.length → a ≤ (mvL true k L).toNat ∧ (appL s a L)[(mvL true k L).toNat - a]? = s[k]? := by
  intro L
  induction L with
  | nil => intro a k _ _ hak _; refine ⟨by simpa [mvL] using hak, ?_⟩; simp only [mvL, List.foldr_nil, appL, Int.toNat_natCast]; rw [List.getElem?_drop]; congr 1; omega
  | cons e L ih =>
    intro a k h hk hak hks
    obtain ⟨h1, h2, h3, h4⟩ := ap_cons.1 h
    have hn := h4.le
    rw [mvL_cons, appL]
    rcases hk e (by simp) with hlt | hge
    · have ha := mv_ahead (r := true) (n := k) (L := L) (fun f hf => by have := h3 f hf; omega)
      have e1 : one (mvL true k L) true e = k := by rw [ha]; unfold one; rw [if_pos hlt]
      rw [e1, Int.toNat_natCast]
      refine ⟨hak, ?_⟩
      rw [List.getElem?_append_left (by rw [seg_len (by omega)]; omega), seg_get (by omega)]
      congr 1; omega
    · have hn' : ((e.2.1.toNat : Nat) : Int) = e.2.1 := Int.toNat_of_nonneg (by omega)
      obtain ⟨i1, i2⟩ := ih (a := e.2.1.toNat) (k := k) (by rw [hn']; exact h4) (fun f hf => hk f (by simp [hf])) (by omega) hks
      have hg := mv_ge (r := true) (k := k) h4 hge
      have e1 : one (mvL true k L) true e = mvL true k L + ((e.2.2.size : Int) - (e.2.1 - e.1)) := by
        unfold one
        simp only [if_true]
        (repeat' split) <;> omega
      rw [e1]
      refine ⟨by omega, ?_⟩
      have hl : (seg s a e.1.toNat).length = e.1.toNat - a := seg_len (by omega)
      rw [List.getElem?_append_right (by omega), List.getElem?_append_right (by rw [bs_len]; omega), bs_len, ← i2]
      congr 1; omega
/-- a place of s and where it is in t -/
def At : Nat → Nat → List Pc → Nat → Nat → Prop
  | a, b, [], k, m => a ≤ k ∧ m + a = k + b
  | a, b, p :: ps, k, m => (a ≤ k ∧ k < a + p.1.length ∧ m + a = k + b) ∨ At (a + p.1.length + p.2.1.length) (b + p.1.length + p.2.2.length) ps k m
theorem at_swap : ∀ {ps : List Pc} {a b k m : Nat}, At a b ps k m → At b a (ps.map swap) m k := by
  intro ps
  induction ps with
  | nil => intro a b k m h; simp only [At, List.map_nil] at h ⊢; omega
  | cons p ps ih =>
    intro a b k m h
    simp only [At, List.map_cons, swap] at h ⊢
    rcases h with h | h
    · exact .inl (by omega)
    · exact .inr (ih h)
theorem at_nrm : ∀ {qs : List Pc} {p : Pc} {a b k m : Nat}, At a b (p :: qs) k m → At a b (nrm p qs) k m := by
  intro qs
  induction qs with
  | nil => intro p a b k m h; exact h
  | cons q qs ih =>
    intro p a b k m h
    rw [nrm]
    split
    · rename_i hq
      refine ih ?_
      simp only [At, hq, List.length_nil, List.length_append] at h ⊢
      rcases h with h | h | h
      · exact .inl h
      · omega
      · refine .inr ?_
        rw [show a + p.1.length + (p.2.1.length + q.2.1.length) = a + p.1.length + p.2.1.length + 0 + q.2.1.length by omega, show b + p.1.length + (p.2.2.length + q.2.2.length) = b + p.1.length + p.2.2.length + 0 + q.2.2.length by omega]
        exact h
    · rcases h with h | h
      · exact .inl h
      · exact .inr (ih h)
theorem at_norm {ps : List Pc} {a b k m : Nat} (h : At a b ps k m) : At a b (norm ps) k m := by
  cases ps with
  | nil => exact h
  | cons p ps => exact at_nrm h
theorem at_ge : ∀ {ps : List Pc} {a b k m : Nat}, At a b ps k m → a ≤ k ∧ b ≤ m := by
  intro ps
  induction ps with
  | nil => intro a b k m h; simp only [At] at h; omega
  | cons p ps ih =>
    intro a b k m h
    rcases h with h | h
    · omega
    · have := ih h; omega
theorem at_mv : ∀ {ps : List Pc} {a b k m : Nat}, Good ps → At a b ps k m → mvL true k (edOf a ps) + b = (m : Int) + a := by
  intro ps
  induction ps with
  | nil => intro a b k m _ h; simp only [At] at h; simp only [edOf, mvL, List.foldr_nil]; omega
  | cons p ps ih =>
    intro a b k m hg h
    have hap := good_ap (p :: ps) [] a hg
    rw [edOf] at hap
    obtain ⟨h1, h2, h3, h4⟩ := ap_cons.1 hap
    rw [edOf, mvL_cons]
    rcases h with h | h
    · rw [mv_ahead (fun f hf => by have := h3 f hf; simp only [] at this; omega)]
      unfold one
      rw [if_pos (by simp only []; omega)]
      omega
    · have hi := ih hg.2 h
      have hge := at_ge h
      have hm := mv_ge (r := true) (k := k) h4 (by simp only []; omega)
      unfold one
      simp only [tx_size, if_true] at hm ⊢
      (repeat' split) <;> omega
theorem kept_at : ∀ {ps : List Pc} {t : List UInt8} {a b k : Nat}, Good ps → Kept k (edOf a ps) → a ≤ k → ∃ m, At a b ps k m := by
  intro ps
  induction ps with
  | nil => intro t a b k _ _ h; exact ⟨k + b - a, by simp only [At]; omega⟩
  | cons p ps ih =>
    intro t a b k hg hk hak
    rw [edOf] at hk
    rcases hk _ List.mem_cons_self with h | h
    · refine ⟨k + b - a, .inl ?_⟩
      simp only [] at h; omega
    · obtain ⟨m, hm⟩ := ih (t := t) (a := a + p.1.length + p.2.1.length) (b := b + p.1.length + p.2.2.length) (k := k) hg.2 (fun f hf => hk f (by simp [hf])) (by simp only [] at h; omega)
      exact ⟨m, .inr hm⟩
theorem ap_good : ∀ {ps : List Pc} {a : Nat} {n : Int}, Ap a n (edOf a ps) → Good ps := by
  intro ps
  induction ps with
  | nil => intro a n _; trivial
  | cons p ps ih =>
    intro a n h
    rw [edOf] at h
    obtain ⟨h1, h2, h3, h4⟩ := ap_cons.1 h
    refine ⟨fun q hq => ?_, ih h4⟩
    cases ps with
    | nil => simp at hq
    | cons r ps =>
      simp at hq; subst hq
      have := h3 _ (by rw [edOf]; exact List.mem_cons_self)
      simp only [] at this
      omega
end B
end Go.Proofs.Ytfkjmkngiiokmaa
