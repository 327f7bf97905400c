/-
  TopEdits: PnA, PnC, PnP, PnR, PnS, PnB, PnT, VLj, PnF, PnG, PnE.
-/
import Derived.Test.YtebfahobllghnaaGreatDoorEdB0
import Derived.Test.YtebfahobllghnaaGreatDoorChecked
import Derived.Test.YtebfahobllghnaaGreatDoorEdA0
set_option linter.unusedSimpArgs false
set_option linter.unusedVariables false
namespace Go.Proofs.YtebfahobllghnaaGreatDoor
namespace X
open Go.RowKit B
def eA (e : Nat) : Nat := Nat.add 2000 (Nat.mul 8 e)
def eH (e : Nat) : Nat := Nat.add 2002 (Nat.mul 8 e)
def eF (e : Nat) : Nat := Nat.add 2004 (Nat.mul 8 e)
def eT (e : Nat) : Nat := Nat.add 2006 (Nat.mul 8 e)
def xv (i : Nat) : SV := .x .i64 (.mk 0 [(i, 1)])
def lv (i : Nat) : Lin := .mk 0 [(i, 1)]
def selC (e : Nat) : List SV := [xv (eA e), xv (eH e)]
def selsC : List Nat → List SV
  | [] => []
  | e :: l => xv (eA e) :: xv (eH e) :: selsC l
def keyL (e : Nat) : Lin := .mk 0 [(eF e, 1001), (eT e, 1)]
def upto (a : Nat) : Nat → List Nat
  | 0 => []
  | n + 1 => a :: upto (Nat.succ a) n
def sId (s k : Nat) : Nat := match s with
  | 0 => 0
  | s => Nat.add 16 (Nat.add (Nat.mul 8 s) k)
def cId (i : Nat) : Nat := Nat.add 80 i
def dId (j : Nat) : Nat := Nat.add 96 j
def gV (i : Nat) : Nat := Nat.add 6000 (Nat.mul 2 i)
def mapL {α β : Type} (f : α → β) : List α → List β
  | [] => []
  | a :: l => f a :: mapL f l
def catL {α β : Type} (f : α → List β) : List α → List β
  | [] => []
  | a :: l => appL (f a) (catL f l)
def ge (a b : Lin) : Lin := a.sub b
def gt (a b : Lin) : Lin := (a.sub b).add (.mk (-1) [])
def eqE (g : PC) (x y : Nat) : List (PC × Lin × Lin) := [(g, lv (eA x), lv (eA y)), (g, lv (eH x), lv (eH y))]
def sortR (s : Nat) : List (PC × Lin × Lin) := catL (fun k =>
  appL (match Nat.blt k s with
    | true => eqE [ge (keyL s) (keyL (sId (Nat.pred s) k))] (sId s k) (sId (Nat.pred s) k)
    | false => [])
  (appL (eqE (appL (match Nat.blt k s with
      | true => [gt (keyL (sId (Nat.pred s) k)) (keyL s)]
      | false => []) (match k with
      | 0 => []
      | k' + 1 => [ge (keyL s) (keyL (sId (Nat.pred s) k'))])) (sId s k) s)
  (match k with
    | 0 => []
    | k' + 1 => eqE [gt (keyL (sId (Nat.pred s) k')) (keyL s)] (sId s k) (sId (Nat.pred s) k')))) (upto 0 (Nat.succ s))
def sortP (s : Nat) : PC := mapL (fun k => ge (keyL (sId s (Nat.succ k))) (keyL (sId s k))) (upto 0 s)
def sortFr (s : Nat) : FR := mapL (fun e => ([], e)) (sortP s)
def sortRs (s : Nat) : Rules := ⟨[], sortR s⟩
def sortT (n i ty : Nat) (d : Nat) (ex : Bool) (v0 v1 v2 v3 : SV) (nx : Nat) : TS :=
  ⟨[(0, v0), (1, v1), (2, v2), (3, v3), (8, .i .i64 (.ofNat i))], [(d, .ce ty (selsC (appL (mapL (sId (Nat.pred i)) (upto 0 i)) (upto i (Nat.sub n i)))) ex)], sortP (Nat.pred i), nx⟩
def sortTrig : Trig2 := fun s m nx pc => match s.get 0, s.get 1, s.get 2, s.get 3, s.get 8 with
  | some (.sl d 0 n c), some (.i .i64 (.ofNat 0)), some (.i .i64 (.ofNat b)), some f, some (.i .i64 (.ofNat 1)) => match Nat.beq n b && Nat.blt 1 n && Nat.ble n 6 with
    | true => match m.get d with
      | some (.ce ty _ ex) => match mapL (fun i => (sortT n i ty d ex (.sl d 0 n c) (.i .i64 (.ofNat 0)) (.i .i64 (.ofNat b)) f nx, sortRs i, sortFr i)) (upto 1 (Nat.pred n)) with
        | (T, rs, fr) :: Is => .fam rs fr [] T Is [sortT n n ty d ex (.sl d 0 n c) (.i .i64 (.ofNat 0)) (.i .i64 (.ofNat b)) f nx] (Nat.add nx 200)
        | [] => .step
      | _ => .step
    | false => .step
  | _, _, _, _, _ => .step
def is (x : Nat) (n : Nat) : PC := [(lv x).sub (.mk (.ofNat n) []), (Lin.mk (.ofNat n) []).sub (lv x)]
def touchP (x y : Nat) : PC := [ge (lv (eT x)) (lv (eF y))]
def apartP (x y : Nat) : PC := [gt (lv (eF y)) (lv (eT x))]
def joinR (n i : Nat) : List (PC × Lin × Lin) :=
  let c := cId i
  let c' := cId (Nat.succ i)
  let x := sId (Nat.pred n) i
  let fw : PC := [ge (lv (eH c)) (lv (eA c))]
  let bw : PC := [gt (lv (eA c)) (lv (eH c))]
  let lo : PC := [ge (lv (eT c)) (lv (eT x))]
  let hi : PC := [ge (lv (eT x)) (lv (eT c))]
  appL (eqE (apartP c x) c' x) (appL [(appL (touchP c x) fw, lv (eA c'), lv (eF c)), (appL (touchP c x) bw, lv (eH c'), lv (eF c)),
    (appL (touchP c x) (appL fw lo), lv (eH c'), lv (eT c)), (appL (touchP c x) (appL fw hi), lv (eH c'), lv (eT x)),
    (appL (touchP c x) (appL bw lo), lv (eA c'), lv (eT c)), (appL (touchP c x) (appL bw hi), lv (eA c'), lv (eT x))]
    (catL (fun g => eqE (appL (is (gV i) (Nat.succ g)) (apartP c x)) (dId g) c) (upto 0 i)))
def joinR0 (n : Nat) : List (PC × Lin × Lin) := eqE [] (cId 1) (sId (Nat.pred n) 0)
def joinFr0 : FR := mapL (fun e => ([], e)) (is (gV 1) 1)
def joinFrG (n i g : Nat) : FR := appL (mapL (fun e => (appL (is (gV i) g) (apartP (cId i) (sId (Nat.pred n) i)), e)) (is (gV (Nat.succ i)) (Nat.succ g)))
    (mapL (fun e => (appL (is (gV i) g) (touchP (cId i) (sId (Nat.pred n) i)), e)) (is (gV (Nat.succ i)) g))
def joinP (n i : Nat) : PC := match Nat.blt i n with
  | true => let c := cId i
    let x := sId (Nat.pred n) i
    [ge (lv (eF x)) (lv (eF c)), ge (lv (eT x)) (lv (eF x)), ge (lv (eT c)) (lv (eF c))]
  | false => []
def joinT (n i g ty d o : Nat) (ex : Bool) (v14 v15 : SV) (nx : Nat) : TS :=
  ⟨[(14, v14), (15, v15), (16, .i .i64 (.ofNat i)), (4, .sl o 0 g (.q 2))], [(d, .ce ty (selsC (mapL (sId (Nat.pred n)) (upto 0 n))) ex), (o, .ce ty (selsC (appL (mapL dId (upto 0 (Nat.pred g))) [cId i])) false)], appL (is (gV i) g) (joinP n i), Nat.succ o⟩
def joinTrig (N : Nat) : Trig2 := fun s m nx pc => match s.get 4, s.get 14, s.get 15, s.get 16 with
  | some (.sl o 0 1 (.q 2)), some (.sl d 0 n c), some v15, some (.i .i64 (.ofNat 1)) => match Nat.beq n N && Nat.blt 1 n with
    | true => match m.get d with
      | some (.ce ty _ ex) => match catL (fun i => mapL (fun g => (joinT n i g ty d nx ex (.sl d 0 n c) v15 nx, (⟨[], appL (joinR n i) (joinR0 n)⟩ : Rules), appL (mapL (fun e => ([], e)) (appL (joinP n i) (joinP n (Nat.succ i)))) (appL joinFr0 (joinFrG n i g)))) (upto 1 i)) (upto 1 (Nat.pred n)) with
        | (T, rs, fr) :: Is => .fam rs fr [] T Is (mapL (fun g => joinT n n g ty d nx ex (.sl d 0 n c) v15 nx) (upto 1 n)) (Nat.add nx 200)
        | [] => .step
      | _ => .step
    | false => .step
  | _, _, _, _ => .step
def isEl (i : Nat) : Bool := Nat.ble 2000 i && Nat.ble i 2872 && Nat.beq (Nat.mod i 8) 0
def spanE (v : SV) : Option (Nat × Nat) := match v with
  | .ag [.x .i64 (.mk 0 [(i, 1)]), .x .i64 (.mk 0 [(j, 1)])] => match isEl i && Nat.beq j (Nat.add i 2) with
    | true => some (Nat.add i 4, Nat.add i 6)
    | false => none
  | _ => none
def spanS (P : Program) (sm : SumT) (f : Nat) : SumF := fun args m nx pc K => match args with
  | [v] => match spanE v with
    | some (i, j) => K (.ag [xv i, xv j]) m nx pc
    | none => callBy P sm (ev P sm 1000000) f args m nx pc K
  | _ => false
def cmpS (P : Program) (sm : SumT) (f : Nat) : SumF := fun args m nx pc K => match args with
  | [a, b] => match spanE a, spanE b with
    | some (i, j), some (k, l) => dec2 pc (ge (.mk 0 [(i, 1001), (j, 1)]) (.mk 0 [(k, 1001), (l, 1)])) fun r pc => match r with
      | true => dec2 pc (ge (.mk 0 [(k, 1001), (l, 1)]) (.mk 0 [(i, 1001), (j, 1)])) fun q pc => match q with
        | true => K (.i .i64 (.ofNat 0)) m nx pc
        | false => K (.i .i64 (.ofNat 1)) m nx pc
      | false => K (.i .i64 (.negSucc 0)) m nx pc
    | _, _ => callBy P sm (ev P sm 1000000) f args m nx pc K
  | _ => false
end X
end Go.Proofs.YtebfahobllghnaaGreatDoor
namespace Go.Proofs.YtebfahobllghnaaGreatDoor
namespace X
open Go.RowKit B
def CallY (P : Program) (ρ : Rho) (f : Nat) (g : SumF) : Prop := ∀ args m nx pc, Sat ρ pc → Yl (fun K => g args m nx pc fun v m nx pc => K ⟨v, m, nx, pc⟩) (CallR P ρ f args m nx)
theorem withF_ok {P : Program} {ρ : Rho} {sm : SumT} {f : Nat} {g : SumF} (h : SumOk P ρ sm) (hg : CallY P ρ f g) : SumOk P ρ (withF f g sm) := fun x y hy args m nx pc hs => by
  unfold withF at hy
  split at hy
  · rename_i hf
    have := Nat.eq_of_beq_eq_true hf
    subst this
    cases hy
    exact hg args m nx pc hs
  · exact h x y hy args m nx pc hs
theorem callX_ok {P : Program} {ρ : Rho} (hm : P.follows .mixedOrders = true) {sm : SumT} (hsm : ∀ ρ', Agree ρ ρ' → SumOk P ρ' sm) {f : Nat} {c : Code} {l : List Trig2} {fn : Func} (hf : P.funcs[f]? = some fn) (hb : fn.body = some (mkX c l).1.code) (htr : ∀ t ∈ l, Tr2Ok ρ t) : CallY P ρ f (callX' P sm f c l) := fun args m nx pc hs =>
  callX_yl hm hsm hf hb (mkX_tr htr).1 hs
theorem callBy_c {P : Program} {ρ : Rho} (hm : P.follows .mixedOrders = true) {sm : SumT} (hsm : SumOk P ρ sm) {f : Nat} : CallY P ρ f (callBy P sm (ev P sm 1000000) f) := fun args m nx pc hs => callBy_ok hm hsm 1000000 f args m nx pc hs
theorem pure_of {P : Program} {ρ : Rho} {f : Nat} {args : List SV} {pc : PC} {vs : List Value} {g : SumF} {K : SV → Mem → Nat → PC → Bool} (hg : CallY P ρ f g) (hs : Sat ρ pc) (hk : g args .lf 0 pc K = true) (hd : dens ρ (fun _ => none) args = some vs) : ∃ r : O4, K r.v r.m r.nx r.pc = true ∧ Sat ρ r.pc ∧
    ∀ w, Calls P f vs.toArray w (fun e w' => ∃ v θ', e = .returned v ∧ den ρ θ' r.v = some v ∧ Ext none' w w') := by
  obtain ⟨r, hr, hv, _⟩ := hg args .lf 0 pc hs (fun r => K r.v r.m r.nx r.pc) hk
  refine ⟨r, hv, hr.pc, fun w => ?_⟩
  have hM : MemOk ρ (fun _ => none) (Tr.get (α := Blk) .lf) w := memOk_lf
  exact calls_mono (hr.run w _ vs hd hM fun t _ _ => rfl) fun e w' ⟨v, θ', h1, h2, h3⟩ => ⟨v, θ', h1, h3, h2.ext.mono fun g _ q => (bl_lf q).elim⟩
theorem SP.still' {ρ : Rho} {nx : Nat} {θ : Th} {R : Nat → Option Blk} {w w' : World} (h : MemOk ρ θ R w) (hx : Ext none' w w') : SP ρ nx nx θ R w θ R w' :=
  ⟨ThLe.refl _, fun t ht => .inl ht, ⟨fun t b hb => (h.holds t b hb).keep (ThLe.refl _) hx fun _ _ _ _ h => h, h.inj⟩, hx.mono fun _ _ h => h.elim, fun g hg => .inl hg⟩
theorem CallR.pur {P : Program} {ρ : Rho} {m : Mem} {nx : Nat} {f : Nat} {args : List SV} {v : SV} {pc' : PC} (he : ∀ args w, (callFunc f args).run P w = .ok (.enter f args) w) (hs : Sat ρ pc') (h : ∀ (θ : Th) (w : World) (vs : List Value), dens ρ θ args = some vs → ∃ u, den ρ θ v = some u ∧ Calls P f vs.toArray w (fun e w' => e = .returned u ∧ Ext none' w w')) : CallR P ρ f args m nx ⟨v, m, nx, pc'⟩ :=
  ⟨he, hs, Nat.le_refl _, fun t h1 h2 => absurd h1 h2, fun w θ vs hvs hM _ => by
    obtain ⟨u, h1, h2⟩ := h θ w vs hvs
    exact calls_mono h2 fun e w' ⟨e1, e2⟩ => ⟨u, θ, e1, SP.still' hM e2, h1⟩⟩
end X
end Go.Proofs.YtebfahobllghnaaGreatDoor
namespace Go.Proofs.YtebfahobllghnaaGreatDoor
namespace X
open Go.RowKit B
abbrev Se := Int × Int
def fE (x : Se) : Int := min x.1 x.2
def tE (x : Se) : Int := max x.1 x.2
def keyE (x : Se) : Int := 1001 * fE x + tE x
theorem fE_le (x : Se) : fE x ≤ tE x := by unfold fE tE; omega
def insE (x : Se) : List Se → List Se
  | [] => [x]
  | p :: l => if keyE x < keyE p then x :: p :: l else p :: insE x l
theorem insE_len (x : Se) : ∀ l : List Se, (insE x l).length = l.length + 1
  | [] => rfl
  | p :: l => by
    unfold insE
    split
    · rfl
    · simp [insE_len x l]
def z0 : Se := (0, 0)
def Rise (l : List Se) : Prop := ∀ k, k + 1 < l.length → keyE (l.getD k z0) ≤ keyE (l.getD (k + 1) z0)
theorem Rise.tl {p : Se} {l : List Se} (h : Rise (p :: l)) : Rise l := fun k hk => by
  have := h (k + 1) (by simp; omega)
  simpa using this
theorem Rise.le {l : List Se} (h : Rise l) : ∀ {j k : Nat}, j ≤ k → k < l.length → keyE (l.getD j z0) ≤ keyE (l.getD k z0) := fun {j k} hjk hk => by
  induction k with
  | zero => have : j = 0 := by omega
            subst this; exact Int.le_refl _
  | succ k ih =>
    by_cases e : j = k + 1
    · subst e; exact Int.le_refl _
    · exact Int.le_trans (ih (by omega) (by omega)) (h k hk)
theorem insE_at (x : Se) : ∀ {l : List Se}, Rise l → ∀ k, (k < l.length → keyE (l.getD k z0) ≤ keyE x → (insE x l).getD k z0 = l.getD k z0) ∧
    ((k = l.length ∨ (k < l.length ∧ keyE x < keyE (l.getD k z0))) → (k = 0 ∨ (∃ j, k = j + 1 ∧ keyE (l.getD j z0) ≤ keyE x)) → (insE x l).getD k z0 = x) ∧
    (∀ j, k = j + 1 → j < l.length → keyE x < keyE (l.getD j z0) → (insE x l).getD k z0 = l.getD j z0)
  | [], h, k => ⟨fun hk => by simp at hk, fun hk _ => by
      have : k = 0 := by simpa using hk
      subst this; rfl, fun j _ hj => by simp at hj⟩
  | p :: l, h, k => by
    have ih := insE_at x (l := l) h.tl
    have h0 : ∀ j, j < (p :: l).length → keyE p ≤ keyE ((p :: l).getD j z0) := fun j hj => by simpa using h.le (j := 0) (k := j) (by omega) hj
    unfold insE
    split
    · rename_i hx
      refine ⟨fun hk hq => ?_, fun h1 h2 => ?_, fun j hj hjl hq => ?_⟩
      · exact absurd (Int.lt_of_lt_of_le hx (h0 k hk)) (by omega)
      · rcases h2 with rfl | ⟨j, rfl, hq⟩
        · rfl
        · exfalso
          have hj : j < (p :: l).length := by rcases h1 with h1 | h1 <;> omega
          have := h0 j hj
          omega
      · subst hj; simp
    · rename_i hx
      cases k with
      | zero =>
        refine ⟨fun _ _ => by simp, fun h1 _ => ?_, fun j hj => by omega⟩
        rcases h1 with h1 | ⟨_, h1⟩
        · simp at h1
        · simp at h1; omega
      | succ k =>
        obtain ⟨i1, i2, i3⟩ := ih k
        simp only [List.length_cons, List.getD_cons_succ]
        refine ⟨fun hk hq => i1 (by omega) hq, fun h1 h2 => ?_, fun j hj hjl hq => ?_⟩
        · have h1' : k = l.length ∨ (k < l.length ∧ keyE x < keyE (l.getD k z0)) := by
            rcases h1 with h1 | ⟨h1, h3⟩
            · exact .inl (by simpa using h1)
            · exact .inr ⟨by simpa using h1, by simpa using h3⟩
          refine i2 h1' ?_
          rcases h2 with h2 | ⟨j, hj, hq⟩
          · cases h2
          · have : k = j := Nat.succ.inj hj
            subst this
            cases k with
            | zero => exact .inl rfl
            | succ j => exact .inr ⟨j, rfl, by simpa using hq⟩
        · cases j with
          | zero => simp at hq; omega
          | succ j => exact i3 j (by omega) (by omega) (by simpa using hq)
theorem insE_rise (x : Se) : ∀ {l : List Se}, Rise l → Rise (insE x l)
  | [], h => fun k hk => by simp [insE] at hk
  | p :: l, h => by
    unfold insE
    split
    · rename_i hx
      intro k hk
      cases k with
      | zero => simp; omega
      | succ k => simpa using h k (by simpa using hk)
    · rename_i hx
      have ih := insE_rise x (l := l) h.tl
      intro k hk
      cases k with
      | zero =>
        simp only [List.getD_cons_zero, List.getD_cons_succ]
        cases l with
        | nil => simp [insE]; omega
        | cons q l =>
          have hq := h 0 (by simp)
          simp at hq
          unfold insE
          split
          · simp; omega
          · simp; exact hq
      | succ k => simpa using ih k (by simpa using hk)
theorem insE_mem {x y : Se} : ∀ {l : List Se}, y ∈ insE x l ↔ y = x ∨ y ∈ l
  | [] => by simp [insE]
  | p :: l => by
    unfold insE
    split
    · simp
    · simp only [List.mem_cons, insE_mem]
      constructor <;> (intro h; rcases h with h | h | h <;> simp [h])
def stg (xs : List Se) : Nat → List Se
  | 0 => [xs.getD 0 z0]
  | s + 1 => insE (xs.getD (s + 1) z0) (stg xs s)
theorem stg_len (xs : List Se) : ∀ s, (stg xs s).length = s + 1
  | 0 => rfl
  | s + 1 => by rw [stg, insE_len, stg_len xs s]
theorem stg_rise (xs : List Se) : ∀ s, Rise (stg xs s)
  | 0 => fun k hk => by simp [stg] at hk
  | s + 1 => insE_rise _ (stg_rise xs s)
theorem stg_mem {xs : List Se} : ∀ {s : Nat} {y : Se}, s < xs.length → y ∈ stg xs s → y ∈ xs
  | 0, y, hs, h => by
    cases xs with
    | nil => simp at hs
    | cons a l => simp [stg] at h; simp [h]
  | s + 1, y, hs, h => by
    rcases insE_mem.1 h with rfl | h
    · rw [List.getD_eq_getElem?_getD, List.getElem?_eq_getElem hs]; simp
    · exact stg_mem (by omega) h
def mergE (c x : Se) : Se := if c.2 < c.1 then (max (tE c) (tE x), fE c) else (fE c, max (tE c) (tE x))
theorem mergE_f (c x : Se) : fE (mergE c x) = fE c := by
  unfold mergE fE tE
  split <;> simp only <;> omega
theorem mergE_t (c x : Se) : tE (mergE c x) = max (tE c) (tE x) := by
  unfold mergE fE tE
  split <;> simp only <;> omega
structure Gr where
  cl : List Se
  cur : Se
def stepG (g : Gr) (x : Se) : Gr := if fE x ≤ tE g.cur then ⟨g.cl, mergE g.cur x⟩ else ⟨g.cl ++ [g.cur], x⟩
def grp (l : List Se) : Nat → Gr
  | 0 => ⟨[], l.getD 0 z0⟩
  | i + 1 => stepG (grp l i) (l.getD (i + 1) z0)
theorem grp_pre (l : List Se) {i j : Nat} (h : i ≤ j) : ∃ r, (grp l j).cl = (grp l i).cl ++ r := by
  induction j with
  | zero => have : i = 0 := by omega
            subst this; exact ⟨[], by simp⟩
  | succ j ih =>
    by_cases e : i = j + 1
    · subst e; exact ⟨[], by simp⟩
    · obtain ⟨r, hr⟩ := ih (by omega)
      show ∃ r, (stepG (grp l j) _).cl = _
      unfold stepG
      split
      · exact ⟨r, hr⟩
      · exact ⟨r ++ [(grp l j).cur], by simp [hr]⟩
def outG (l : List Se) (i : Nat) : List Se := (grp l i).cl ++ [(grp l i).cur]
theorem grp_len (l : List Se) : ∀ i, (grp l i).cl.length ≤ i
  | 0 => Nat.le_refl _
  | i + 1 => by
    show (stepG (grp l i) _).cl.length ≤ i + 1
    unfold stepG
    have := grp_len l i
    split <;> simp <;> omega
def InE (L : Int) (x : Se) : Prop := 0 ≤ fE x ∧ tE x ≤ L
def Apt (l : List Se) : Prop := ∀ k, k + 1 < l.length → tE (l.getD k z0) < fE (l.getD (k + 1) z0)
theorem getD_app1 {l r : List Se} {k : Nat} (h : k < l.length) : (l ++ r).getD k z0 = l.getD k z0 := by
  rw [List.getD_eq_getElem?_getD, List.getD_eq_getElem?_getD, List.getElem?_append_left h]
theorem getD_app2 {l : List Se} {c : Se} : (l ++ [c]).getD l.length z0 = c := by
  rw [List.getD_eq_getElem?_getD, List.getElem?_append_right (Nat.le_refl _), Nat.sub_self]; rfl
theorem Apt.set {l : List Se} {c d : Se} (h : Apt (l ++ [c])) (e : fE d = fE c) : Apt (l ++ [d]) := fun k hk => by
  have hk1 : k + 1 < l.length + 1 := by simpa using hk
  have q := h k (by simpa using hk)
  rw [getD_app1 (show k < l.length by omega)] at q ⊢
  by_cases e2 : k + 1 < l.length
  · rw [getD_app1 e2] at q ⊢; exact q
  · have e3 : k + 1 = l.length := by omega
    rw [e3, getD_app2] at q ⊢
    rw [e]; exact q
theorem Apt.add {l : List Se} {c x : Se} (h : Apt (l ++ [c])) (e : tE c < fE x) : Apt (l ++ [c] ++ [x]) := fun k hk => by
  have hk1 : k + 1 < l.length + 1 + 1 := by simpa using hk
  rw [getD_app1 (show k < (l ++ [c]).length by simp; omega)]
  by_cases e2 : k + 1 < (l ++ [c]).length
  · rw [getD_app1 e2]; exact h k e2
  · have e3 : k + 1 = (l ++ [c]).length := by simp at e2 ⊢; omega
    rw [e3, getD_app2]
    have : k = l.length := by simp at e3; omega
    rw [this, getD_app2]; exact e
theorem outG_ok {l : List Se} (hr : ∀ j k, j ≤ k → k < l.length → fE (l.getD j z0) ≤ fE (l.getD k z0)) {L : Int} (hL : ∀ k, k < l.length → InE L (l.getD k z0)) : ∀ i, i < l.length → Apt (outG l i) ∧ (∀ y ∈ outG l i, InE L y) ∧ fE (grp l i).cur ≤ fE (l.getD i z0)
  | 0, h => ⟨fun k hk => by simp [outG, grp] at hk, fun y hy => by
      have : y = l.getD 0 z0 := by simpa [outG, grp] using hy
      rw [this]; exact hL 0 h, Int.le_refl _⟩
  | i + 1, h => by
    obtain ⟨a1, a2, a3⟩ := outG_ok hr hL i (by omega)
    have hx := hL (i + 1) h
    have hf := hr i (i + 1) (by omega) h
    have hcur := a2 (grp l i).cur (by simp [outG])
    have e : grp l (i + 1) = stepG (grp l i) (l.getD (i + 1) z0) := rfl
    unfold outG at a1 a2 ⊢
    rw [e]
    generalize l.getD (i + 1) z0 = x at hx hf ⊢
    unfold stepG
    split
    · rename_i ht
      refine ⟨a1.set (mergE_f _ _), fun y hy => ?_, ?_⟩
      · rcases List.mem_append.1 hy with hy | hy
        · exact a2 y (List.mem_append.2 (.inl hy))
        · have : y = mergE (grp l i).cur x := by simpa using hy
          rw [this]
          refine ⟨by rw [mergE_f]; exact hcur.1, ?_⟩
          rw [mergE_t]
          have := hcur.2
          have := hx.2
          omega
      · show fE (mergE _ _) ≤ _
        rw [mergE_f]; omega
    · rename_i ht
      refine ⟨a1.add (x := x) (show tE (grp l i).cur < fE x by omega), fun y hy => ?_, Int.le_refl _⟩
      rcases List.mem_append.1 hy with hy | hy
      · exact a2 y hy
      · have : y = x := by simpa using hy
        rw [this]; exact hx
end X
end Go.Proofs.YtebfahobllghnaaGreatDoor
namespace Go.Proofs.YtebfahobllghnaaGreatDoor
namespace X
open Go.RowKit B
def srt (xs : List Se) : List Se := stg xs (xs.length - 1)
def elF (xs : List Se) (e : Nat) : Se :=
  if e < 16 then xs.getD e z0 else if e < 80 then (stg xs ((e - 16) / 8)).getD ((e - 16) % 8) z0 else if e < 96 then (grp (srt xs) (e - 81)).cur else (outG (srt xs) (xs.length - 1)).getD (e - 96) z0
structure NormR (ρ : Rho) (xs : List Se) : Prop where
  n1 : 1 ≤ xs.length
  n6 : xs.length ≤ 6
  a : ∀ e, e < 110 → ρ.v (1000 + 4 * e) = (elF xs e).1
  h : ∀ e, e < 110 → ρ.v (1001 + 4 * e) = (elF xs e).2
  f : ∀ e, e < 110 → ρ.v (1002 + 4 * e) = fE (elF xs e)
  t : ∀ e, e < 110 → ρ.v (1003 + 4 * e) = tE (elF xs e)
  g : ∀ i, i < 6 → ρ.v (3001 + i) = ((grp (srt xs) i).cl.length + 1 : Nat)
  b : ∀ x ∈ xs, 0 ≤ fE x ∧ tE x ≤ 1000
theorem mem_appL {α : Type} {x : α} : ∀ {l m : List α}, x ∈ appL l m ↔ x ∈ l ∨ x ∈ m
  | [], m => by simp [appL]
  | a :: l, m => by simp [appL, mem_appL, or_assoc]
theorem mem_catL {α β : Type} {f : α → List β} {y : β} : ∀ {l : List α}, y ∈ catL f l ↔ ∃ x, x ∈ l ∧ y ∈ f x
  | [] => by simp [catL]
  | a :: l => by simp [catL, mem_appL, mem_catL]
theorem mem_mapL {α β : Type} {f : α → β} {y : β} : ∀ {l : List α}, y ∈ mapL f l ↔ ∃ x, x ∈ l ∧ y = f x
  | [] => by simp [mapL]
  | a :: l => by simp [mapL, mem_mapL]
theorem mem_upto {x : Nat} : ∀ {n a : Nat}, x ∈ upto a n ↔ a ≤ x ∧ x < a + n
  | 0, a => by simp [upto]
  | n + 1, a => by
    simp only [upto, List.mem_cons, mem_upto (n := n) (a := Nat.succ a)]
    omega
section
variable {ρ : Rho} {xs : List Se}
theorem lv_den (ρ : Rho) (i : Nat) : (lv (2 * i)).den ρ = ρ.v i := by simp [lv, Lin.den, dts, Rho.at_v]
theorem NormR.aD (h : NormR ρ xs) {e : Nat} (he : e < 110) : (lv (eA e)).den ρ = (elF xs e).1 := by
  rw [← h.a e he, ← lv_den]; congr 2; show 2000 + 8 * e = _; omega
theorem NormR.hD (h : NormR ρ xs) {e : Nat} (he : e < 110) : (lv (eH e)).den ρ = (elF xs e).2 := by
  rw [← h.h e he, ← lv_den]; congr 2; show 2002 + 8 * e = _; omega
theorem NormR.fD (h : NormR ρ xs) {e : Nat} (he : e < 110) : (lv (eF e)).den ρ = fE (elF xs e) := by
  rw [← h.f e he, ← lv_den]; congr 2; show 2004 + 8 * e = _; omega
theorem NormR.tD (h : NormR ρ xs) {e : Nat} (he : e < 110) : (lv (eT e)).den ρ = tE (elF xs e) := by
  rw [← h.t e he, ← lv_den]; congr 2; show 2006 + 8 * e = _; omega
theorem NormR.kD (h : NormR ρ xs) {e : Nat} (he : e < 110) : (keyL e).den ρ = keyE (elF xs e) := by
  have h1 := h.fD he
  have h2 := h.tD he
  simp only [lv, Lin.den, dts] at h1 h2
  simp only [keyL, Lin.den, dts, keyE, ← h1, ← h2]
  omega
theorem ge_den {a b : Lin} : (ge a b).den ρ = a.den ρ - b.den ρ := sub_den
theorem gt_den {a b : Lin} : (gt a b).den ρ = a.den ρ - b.den ρ - 1 := by
  unfold gt
  rw [add_den, sub_den, const_den]; omega
theorem sat_ge {a b : Lin} (h : 0 ≤ (ge a b).den ρ) : b.den ρ ≤ a.den ρ := by rw [ge_den] at h; omega
theorem sat_gt {a b : Lin} (h : 0 ≤ (gt a b).den ρ) : b.den ρ < a.den ρ := by rw [gt_den] at h; omega
theorem is_ok {i k : Nat} : Sat ρ (is (2 * i) k) ↔ ρ.v i = k := by
  have e1 : (lv (2 * i)).den ρ = ρ.v i := lv_den ρ i
  constructor
  · intro h
    have h1 := h _ (List.mem_cons_self)
    have h2 := h _ (List.mem_cons_of_mem _ List.mem_cons_self)
    rw [sub_den, const_den, e1] at h1 h2
    have : (Int.ofNat k) = (k : Int) := rfl
    omega
  · intro h e he
    have hk : (Int.ofNat k) = (k : Int) := rfl
    simp only [is, List.mem_cons, List.not_mem_nil, or_false] at he
    rcases he with rfl | rfl <;> rw [sub_den, const_den, e1] <;> omega
theorem NormR.eqE_ok (h : NormR ρ xs) {g : PC} {x y : Nat} (hx : x < 110) (hy : y < 110) (he : Sat ρ g → elF xs x = elF xs y) : ∀ g' u v, (g', u, v) ∈ eqE g x y → Sat ρ g' → u.den ρ = v.den ρ := fun g' u v hm hs => by
  simp only [eqE, List.mem_cons, Prod.mk.injEq, List.not_mem_nil, or_false] at hm
  rcases hm with ⟨rfl, rfl, rfl⟩ | ⟨rfl, rfl, rfl⟩
  · rw [h.aD hx, h.aD hy, he hs]
  · rw [h.hD hx, h.hD hy, he hs]
theorem el_in {e : Nat} (he : e < 16) : elF xs e = xs.getD e z0 := by unfold elF; rw [if_pos he]
theorem el_s {s k : Nat} (hk : k ≤ s) (hs : s ≤ 6) : elF xs (sId s k) = (stg xs s).getD k z0 := by
  unfold sId
  cases s with
  | zero =>
    have : k = 0 := by omega
    subst this
    show elF xs 0 = _
    rw [el_in (by omega)]; simp [stg]
  | succ s =>
    show elF xs (16 + (8 * (s + 1) + k)) = _
    unfold elF
    rw [if_neg (by omega), if_pos (by omega), show (16 + (8 * (s + 1) + k) - 16) / 8 = s + 1 by omega, show (16 + (8 * (s + 1) + k) - 16) % 8 = k by omega]
theorem el_c {i : Nat} (hi : i < 15) : elF xs (cId (i + 1)) = (grp (srt xs) i).cur := by
  show elF xs (80 + (i + 1)) = _
  unfold elF
  rw [if_neg (by omega), if_neg (by omega), if_pos (by omega), show 80 + (i + 1) - 81 = i by omega]
theorem el_d {j : Nat} : elF xs (dId j) = (outG (srt xs) (xs.length - 1)).getD j z0 := by
  show elF xs (96 + j) = _
  unfold elF
  rw [if_neg (by omega), if_neg (by omega), if_neg (by omega), show 96 + j - 96 = j by omega]
theorem sId_lt {s k : Nat} (hs : s ≤ 6) (hk : k ≤ s) : sId s k < 110 := by
  unfold sId
  cases s with
  | zero => simp
  | succ s => show 16 + (8 * (s + 1) + k) < 110; omega
theorem NormR.sort_ok (h : NormR ρ xs) {s : Nat} (h1 : 1 ≤ s) (h6 : s ≤ 6) : RulesOk ρ (sortRs s) := ⟨fun g x y hm => (by cases hm), fun g u v hm hs => by
  obtain ⟨k, hk, hm⟩ := mem_catL.1 hm
  have hk := (mem_upto.1 hk).2
  have hk : k ≤ s := by have : k < 0 + Nat.succ s := hk; omega
  obtain ⟨r, rfl⟩ : ∃ r, s = r + 1 := ⟨s - 1, by omega⟩
  have eS : elF xs (sId (r + 1) k) = (insE (xs.getD (r + 1) z0) (stg xs r)).getD k z0 := el_s hk h6
  have eX : elF xs (r + 1) = xs.getD (r + 1) z0 := el_in (by omega)
  have kX : (keyL (r + 1)).den ρ = keyE (xs.getD (r + 1) z0) := by rw [h.kD (by omega), eX]
  have eP : ∀ j, j ≤ r → elF xs (sId r j) = (stg xs r).getD j z0 := fun j hj => el_s hj (by omega)
  have kP : ∀ j, j ≤ r → (keyL (sId r j)).den ρ = keyE ((stg xs r).getD j z0) := fun j hj => by rw [h.kD (sId_lt (by omega) hj), eP j hj]
  have hl := stg_len xs r
  obtain ⟨i1, i2, i3⟩ := insE_at (xs.getD (r + 1) z0) (stg_rise xs r) k
  rw [hl] at i1 i2 i3
  have hpred : Nat.pred (r + 1) = r := rfl
  rw [hpred] at hm
  rcases mem_appL.1 hm with hm | hm
  · split at hm
    · rename_i hks
      have hks : k < r + 1 := by simpa [Nat.blt_eq] using hks
      refine h.eqE_ok (sId_lt h6 hk) (sId_lt (by omega) (by omega)) (fun hg => ?_) g u v hm hs
      have := sat_ge (hg _ List.mem_cons_self)
      rw [kX, kP k (by omega)] at this
      rw [eS, eP k (by omega)]
      exact i1 hks this
    · cases hm
  · rcases mem_appL.1 hm with hm | hm
    · refine h.eqE_ok (sId_lt h6 hk) (by omega) (fun hg => ?_) g u v hm hs
      rw [eS, eX]
      refine i2 ?_ ?_
      · by_cases hks : k < r + 1
        · have hb : Nat.blt k (r + 1) = true := by simpa [Nat.blt_eq] using hks
          rw [hb] at hg
          have := sat_gt (hg _ (mem_appL.2 (.inl List.mem_cons_self)))
          rw [kX, kP k (by omega)] at this
          exact .inr ⟨hks, this⟩
        · exact .inl (by omega)
      · cases k with
        | zero => exact .inl rfl
        | succ j =>
          have := sat_ge (hg _ (mem_appL.2 (.inr List.mem_cons_self)))
          rw [kX, kP j (by omega)] at this
          exact .inr ⟨j, rfl, this⟩
    · cases k with
      | zero => cases hm
      | succ j =>
        refine h.eqE_ok (sId_lt h6 hk) (sId_lt (by omega) (by omega)) (fun hg => ?_) g u v hm hs
        have := sat_gt (hg _ List.mem_cons_self)
        rw [kX, kP j (by omega)] at this
        rw [eS, eP j (by omega)]
        exact i3 j rfl (by omega) this⟩
theorem NormR.sortP_ok (h : NormR ρ xs) {s : Nat} (h6 : s ≤ 6) : Sat ρ (sortP s) := fun e he => by
  obtain ⟨k, hk, rfl⟩ := mem_mapL.1 he
  have hk := (mem_upto.1 hk).2
  rw [ge_den, h.kD (sId_lt h6 (show Nat.succ k ≤ s by omega)), h.kD (sId_lt h6 (show k ≤ s by omega)), el_s (show Nat.succ k ≤ s by omega) h6, el_s (show k ≤ s by omega) h6]
  have := stg_rise xs s k (by rw [stg_len]; omega)
  have e : Nat.succ k = k + 1 := rfl
  rw [e]
  omega
theorem NormR.sortFr_ok (h : NormR ρ xs) {s : Nat} (h6 : s ≤ 6) : FrOk ρ (sortFr s) := fun g e hm _ => by
  obtain ⟨x, hx, hq⟩ := mem_mapL.1 hm
  cases hq
  exact h.sortP_ok h6 _ hx
end
end X
end Go.Proofs.YtebfahobllghnaaGreatDoor
namespace Go.Proofs.YtebfahobllghnaaGreatDoor
namespace X
open Go.RowKit B
section
variable {ρ : Rho} {xs : List Se}
theorem srt_len (h : 1 ≤ xs.length) : (srt xs).length = xs.length := by
  unfold srt
  rw [stg_len]; omega
theorem NormR.srt_in (h : NormR ρ xs) {y : Se} (hy : y ∈ srt xs) : 0 ≤ fE y ∧ tE y ≤ 1000 := h.b y (stg_mem (by have := h.n1; omega) hy)
theorem getD_mem {l : List Se} {k : Nat} (hk : k < l.length) : l.getD k z0 ∈ l := by
  rw [List.getD_eq_getElem?_getD, List.getElem?_eq_getElem hk]; simp
theorem NormR.srt_f (h : NormR ρ xs) : ∀ j k, j ≤ k → k < (srt xs).length → fE ((srt xs).getD j z0) ≤ fE ((srt xs).getD k z0) := fun j k hjk hk => by
  have h1 := (stg_rise xs (xs.length - 1)).le hjk hk
  have b1 := h.srt_in (getD_mem (k := j) (by omega))
  have b2 := h.srt_in (getD_mem hk)
  have f1 := fE_le ((srt xs).getD j z0)
  have f2 := fE_le ((srt xs).getD k z0)
  unfold keyE at h1
  unfold srt at b1 b2 f1 f2 ⊢
  omega
theorem NormR.out_ok (h : NormR ρ xs) : ∀ i, i < xs.length → Apt (outG (srt xs) i) ∧ (∀ y ∈ outG (srt xs) i, InE 1000 y) ∧ fE (grp (srt xs) i).cur ≤ fE ((srt xs).getD i z0) := fun i hi =>
  outG_ok h.srt_f (L := 1000) (fun k hk => h.srt_in (getD_mem hk)) i (by rw [srt_len h.n1]; exact hi)
theorem NormR.gD (h : NormR ρ xs) {i k : Nat} (hi : i < 6) : Sat ρ (is (gV (i + 1)) k) ↔ (grp (srt xs) i).cl.length + 1 = k := by
  have e : gV (i + 1) = 2 * (3001 + i) := by show 6000 + 2 * (i + 1) = _; omega
  rw [e, is_ok, h.g i hi]
  omega
theorem sat_appL {a b : PC} : Sat ρ (appL a b) ↔ Sat ρ a ∧ Sat ρ b := by
  constructor
  · intro h
    exact ⟨fun e he => h e (mem_appL.2 (.inl he)), fun e he => h e (mem_appL.2 (.inr he))⟩
  · intro ⟨h1, h2⟩ e he
    rcases mem_appL.1 he with he | he
    · exact h1 e he
    · exact h2 e he
theorem NormR.apart_ok (h : NormR ρ xs) {x y : Nat} (hx : x < 110) (hy : y < 110) (hs : Sat ρ (apartP x y)) : tE (elF xs x) < fE (elF xs y) := by
  have := sat_gt (hs _ List.mem_cons_self)
  rwa [h.tD hx, h.fD hy] at this
theorem NormR.touch_ok (h : NormR ρ xs) {x y : Nat} (hx : x < 110) (hy : y < 110) (hs : Sat ρ (touchP x y)) : fE (elF xs y) ≤ tE (elF xs x) := by
  have := sat_ge (hs _ List.mem_cons_self)
  rwa [h.tD hx, h.fD hy] at this
theorem grp_out {S : List Se} {i m : Nat} (him : i ≤ m) : (grp S i).cl.length ≤ (grp S m).cl.length ∧ ∀ k, k < (grp S i).cl.length → (outG S m).getD k z0 = (grp S i).cl.getD k z0 := by
  obtain ⟨r, hr⟩ := grp_pre S him
  refine ⟨by rw [hr]; simp, fun k hk => ?_⟩
  unfold outG
  rw [getD_app1 (by rw [hr, List.length_append]; omega), hr, getD_app1 hk]
theorem NormR.join_ok (h : NormR ρ xs) {i : Nat} (h1 : 1 ≤ i) (hi : i < xs.length) : RulesOk ρ ⟨[], appL (joinR xs.length i) (joinR0 xs.length)⟩ := ⟨fun g x y hm => (by cases hm), fun g u v hm hs => by
  have n6 := h.n6
  obtain ⟨j, rfl⟩ : ∃ j, i = j + 1 := ⟨i - 1, by omega⟩
  have hp : Nat.pred xs.length = xs.length - 1 := rfl
  have eX : elF xs (sId (xs.length - 1) (j + 1)) = (srt xs).getD (j + 1) z0 := el_s (by omega) (by omega)
  have eC : elF xs (cId (j + 1)) = (grp (srt xs) j).cur := el_c (by omega)
  have eC' : elF xs (cId (Nat.succ (j + 1))) = (grp (srt xs) (j + 1)).cur := el_c (i := j + 1) (by omega)
  have lX : sId (xs.length - 1) (j + 1) < 110 := sId_lt (by omega) (by omega)
  have lC : cId (j + 1) < 110 := by show 80 + (j + 1) < 110; omega
  have lC' : cId (Nat.succ (j + 1)) < 110 := by show 80 + (j + 1 + 1) < 110; omega
  have st : grp (srt xs) (j + 1) = stepG (grp (srt xs) j) ((srt xs).getD (j + 1) z0) := rfl
  have ap : Sat ρ (apartP (cId (j + 1)) (sId (xs.length - 1) (j + 1))) → grp (srt xs) (j + 1) = ⟨(grp (srt xs) j).cl ++ [(grp (srt xs) j).cur], (srt xs).getD (j + 1) z0⟩ := fun q => by
    have := h.apart_ok lC lX q
    rw [eC, eX] at this
    rw [st]
    unfold stepG
    rw [if_neg (by omega)]
  have to : Sat ρ (touchP (cId (j + 1)) (sId (xs.length - 1) (j + 1))) → (grp (srt xs) (j + 1)).cur = mergE (grp (srt xs) j).cur ((srt xs).getD (j + 1) z0) := fun q => by
    have := h.touch_ok lC lX q
    rw [eC, eX] at this
    rw [st]
    unfold stepG
    rw [if_pos this]
  have fw : Sat ρ [ge (lv (eH (cId (j + 1)))) (lv (eA (cId (j + 1))))] → ¬ (grp (srt xs) j).cur.2 < (grp (srt xs) j).cur.1 := fun q => by
    have := sat_ge (q _ List.mem_cons_self)
    rw [h.hD lC, h.aD lC, eC] at this
    omega
  have bw : Sat ρ [gt (lv (eA (cId (j + 1)))) (lv (eH (cId (j + 1))))] → (grp (srt xs) j).cur.2 < (grp (srt xs) j).cur.1 := fun q => by
    have := sat_gt (q _ List.mem_cons_self)
    rw [h.hD lC, h.aD lC, eC] at this
    omega
  have lo : Sat ρ [ge (lv (eT (cId (j + 1)))) (lv (eT (sId (xs.length - 1) (j + 1))))] → tE ((srt xs).getD (j + 1) z0) ≤ tE (grp (srt xs) j).cur := fun q => by
    have := sat_ge (q _ List.mem_cons_self)
    rwa [h.tD lC, h.tD lX, eC, eX] at this
  have hi' : Sat ρ [ge (lv (eT (sId (xs.length - 1) (j + 1)))) (lv (eT (cId (j + 1))))] → tE (grp (srt xs) j).cur ≤ tE ((srt xs).getD (j + 1) z0) := fun q => by
    have := sat_ge (q _ List.mem_cons_self)
    rwa [h.tD lC, h.tD lX, eC, eX] at this
  rcases mem_appL.1 hm with hm | hm
  · simp only [joinR, hp] at hm
    rcases mem_appL.1 hm with hm | hm
    · exact h.eqE_ok lC' lX (fun q => by rw [eC', eX, ap q]) g u v hm hs
    rcases mem_appL.1 hm with hm | hm
    · simp only [List.mem_cons, Prod.mk.injEq, List.not_mem_nil, or_false] at hm
      rcases hm with ⟨rfl, rfl, rfl⟩ | ⟨rfl, rfl, rfl⟩ | ⟨rfl, rfl, rfl⟩ | ⟨rfl, rfl, rfl⟩ | ⟨rfl, rfl, rfl⟩ | ⟨rfl, rfl, rfl⟩
      · obtain ⟨q1, q2⟩ := sat_appL.1 hs
        rw [h.aD lC', h.fD lC, eC', eC, to q1, mergE, if_neg (fw q2)]
      · obtain ⟨q1, q2⟩ := sat_appL.1 hs
        rw [h.hD lC', h.fD lC, eC', eC, to q1, mergE, if_pos (bw q2)]
      · obtain ⟨q1, q2⟩ := sat_appL.1 hs
        obtain ⟨q2, q3⟩ := sat_appL.1 q2
        have := lo q3
        rw [h.hD lC', h.tD lC, eC', eC, to q1, mergE, if_neg (fw q2)]
        show max _ _ = _
        omega
      · obtain ⟨q1, q2⟩ := sat_appL.1 hs
        obtain ⟨q2, q3⟩ := sat_appL.1 q2
        have := hi' q3
        rw [h.hD lC', h.tD lX, eC', eX, to q1, mergE, if_neg (fw q2)]
        show max _ _ = _
        omega
      · obtain ⟨q1, q2⟩ := sat_appL.1 hs
        obtain ⟨q2, q3⟩ := sat_appL.1 q2
        have := lo q3
        rw [h.aD lC', h.tD lC, eC', eC, to q1, mergE, if_pos (bw q2)]
        show max _ _ = _
        omega
      · obtain ⟨q1, q2⟩ := sat_appL.1 hs
        obtain ⟨q2, q3⟩ := sat_appL.1 q2
        have := hi' q3
        rw [h.aD lC', h.tD lX, eC', eX, to q1, mergE, if_pos (bw q2)]
        show max _ _ = _
        omega
    · obtain ⟨k, hk, hm⟩ := mem_catL.1 hm
      have hk := (mem_upto.1 hk).2
      have lD : dId k < 110 := by show 96 + k < 110; omega
      refine h.eqE_ok lD lC (fun q => ?_) g u v hm hs
      obtain ⟨q1, q2⟩ := sat_appL.1 q
      have hg := (h.gD (by omega)).1 q1
      have e1 := ap q2
      obtain ⟨z1, z2⟩ := grp_out (S := srt xs) (i := j + 1) (m := xs.length - 1) (by omega)
      have hgk : (grp (srt xs) j).cl.length = k := Nat.succ.inj hg
      rw [el_d, eC, z2 k (by rw [e1]; simp [hgk]), e1]
      show ((grp (srt xs) j).cl ++ [(grp (srt xs) j).cur]).getD k z0 = _
      rw [← hgk, getD_app2]
  · simp only [joinR0, hp] at hm
    have l0 : sId (xs.length - 1) 0 < 110 := sId_lt (by omega) (by omega)
    have l1 : cId 1 < 110 := by show 80 + 1 < 110; omega
    refine h.eqE_ok l1 l0 (fun _ => ?_) g u v hm hs
    rw [el_c (i := 0) (by omega), el_s (show 0 ≤ xs.length - 1 by omega) (by omega)]
    rfl⟩
theorem NormR.joinP_ok (h : NormR ρ xs) {i : Nat} (h1 : 1 ≤ i) (h6 : i ≤ 6) : Sat ρ (joinP xs.length i) := by
  have n6 := h.n6
  unfold joinP
  split
  · rename_i hb
    have hi : i < xs.length := by simpa [Nat.blt_eq] using hb
    obtain ⟨j, rfl⟩ : ∃ j, i = j + 1 := ⟨i - 1, by omega⟩
    have hp : Nat.pred xs.length = xs.length - 1 := rfl
    have eX : elF xs (sId (xs.length - 1) (j + 1)) = (srt xs).getD (j + 1) z0 := el_s (by omega) (by omega)
    have eC : elF xs (cId (j + 1)) = (grp (srt xs) j).cur := el_c (by omega)
    have lX : sId (xs.length - 1) (j + 1) < 110 := sId_lt (by omega) (by omega)
    have lC : cId (j + 1) < 110 := by show 80 + (j + 1) < 110; omega
    have o := (h.out_ok j (by omega)).2.2
    have r := h.srt_f j (j + 1) (by omega) (by rw [srt_len h.n1]; exact hi)
    intro e he
    simp only [hp, List.mem_cons, List.not_mem_nil, or_false] at he
    rcases he with rfl | rfl | rfl
    · rw [ge_den, h.fD lX, h.fD lC, eX, eC]; omega
    · rw [ge_den, h.tD lX, h.fD lX]; have := fE_le (elF xs (sId (xs.length - 1) (j + 1))); omega
    · rw [ge_den, h.tD lC, h.fD lC]; have := fE_le (elF xs (cId (j + 1))); omega
  · intro e he; cases he
theorem NormR.joinFr_ok (h : NormR ρ xs) {i g : Nat} (h1 : 1 ≤ i) (hi : i < xs.length) : FrOk ρ (appL (mapL (fun e => ([], e)) (appL (joinP xs.length i) (joinP xs.length (Nat.succ i)))) (appL joinFr0 (joinFrG xs.length i g))) := fun gd e hm hs => by
  have n6 := h.n6
  rcases mem_appL.1 hm with hm | hm
  · obtain ⟨x, hx, hq⟩ := mem_mapL.1 hm
    cases hq
    rcases mem_appL.1 hx with hx | hx
    · exact h.joinP_ok h1 (by omega) _ hx
    · exact h.joinP_ok (by omega) (show i + 1 ≤ 6 by omega) _ hx
  rcases mem_appL.1 hm with hm | hm
  · obtain ⟨x, hx, hq⟩ := mem_mapL.1 hm
    cases hq
    exact (h.gD (i := 0) (k := 1) (by omega)).2 rfl _ hx
  · obtain ⟨j, rfl⟩ : ∃ j, i = j + 1 := ⟨i - 1, by omega⟩
    have hp : Nat.pred xs.length = xs.length - 1 := rfl
    have eX : elF xs (sId (xs.length - 1) (j + 1)) = (srt xs).getD (j + 1) z0 := el_s (by omega) (by omega)
    have eC : elF xs (cId (j + 1)) = (grp (srt xs) j).cur := el_c (by omega)
    have lX : sId (xs.length - 1) (j + 1) < 110 := sId_lt (by omega) (by omega)
    have lC : cId (j + 1) < 110 := by show 80 + (j + 1) < 110; omega
    have st : grp (srt xs) (j + 1) = stepG (grp (srt xs) j) ((srt xs).getD (j + 1) z0) := rfl
    simp only [joinFrG, hp] at hm
    rcases mem_appL.1 hm with hm | hm <;> obtain ⟨x, hx, hq⟩ := mem_mapL.1 hm <;> cases hq <;> obtain ⟨q1, q2⟩ := sat_appL.1 hs <;> have hg := (h.gD (by omega)).1 q1
    · have := h.apart_ok lC lX q2
      rw [eC, eX] at this
      refine (h.gD (i := j + 1) (k := Nat.succ g) (by omega)).2 ?_ _ hx
      rw [st]
      unfold stepG
      rw [if_neg (by omega)]
      simp; omega
    · have := h.touch_ok lC lX q2
      rw [eC, eX] at this
      refine (h.gD (i := j + 1) (k := g) (by omega)).2 ?_ _ hx
      rw [st]
      unfold stepG
      rw [if_pos this]
      exact hg
def normE (xs : List Se) : List Se := outG (srt xs) (xs.length - 1)
theorem NormR.end_ok (h : NormR ρ xs) {g : Nat} (hg : Sat ρ (is (gV xs.length) (g + 1))) : (normE xs).length = g + 1 ∧ elF xs (dId g) = elF xs (cId xs.length) := by
  have n1 := h.n1
  have n6 := h.n6
  obtain ⟨j, hj⟩ : ∃ j, xs.length = j + 1 := ⟨xs.length - 1, by omega⟩
  have hjj : xs.length - 1 = j := by omega
  have hl : (grp (srt xs) j).cl.length = g := by
    rw [hj] at hg
    exact Nat.succ.inj ((h.gD (by omega)).1 hg)
  refine ⟨by unfold normE outG; rw [hjj]; simp [hl], ?_⟩
  rw [el_d, hj, el_c (by omega), show j + 1 - 1 = j by omega]
  unfold outG
  rw [← hl, getD_app2]
end
def rhoV (xs : List Se) (base : Nat → Int) (j : Nat) : Int :=
  if 1000 ≤ j ∧ j < 1440 then (if (j - 1000) % 4 = 0 then (elF xs ((j - 1000) / 4)).1 else if (j - 1000) % 4 = 1 then (elF xs ((j - 1000) / 4)).2 else if (j - 1000) % 4 = 2 then fE (elF xs ((j - 1000) / 4)) else tE (elF xs ((j - 1000) / 4)))
  else if 3001 ≤ j ∧ j < 3007 then (((grp (srt xs) (j - 3001)).cl.length + 1 : Nat) : Int) else base j
theorem rhoV_ok {xs : List Se} {base : Nat → Int} {s : Nat → List UInt8} (n1 : 1 ≤ xs.length) (n6 : xs.length ≤ 6) (b : ∀ x ∈ xs, 0 ≤ fE x ∧ tE x ≤ 1000) : NormR ⟨rhoV xs base, s⟩ xs where
  n1 := n1
  n6 := n6
  b := b
  a := fun e he => by
    show rhoV xs base (1000 + 4 * e) = _
    unfold rhoV
    rw [if_pos (by omega), if_pos (by omega), show (1000 + 4 * e - 1000) / 4 = e by omega]
  h := fun e he => by
    show rhoV xs base (1001 + 4 * e) = _
    unfold rhoV
    rw [if_pos (by omega), if_neg (by omega), if_pos (by omega), show (1001 + 4 * e - 1000) / 4 = e by omega]
  f := fun e he => by
    show rhoV xs base (1002 + 4 * e) = _
    unfold rhoV
    rw [if_pos (by omega), if_neg (by omega), if_neg (by omega), if_pos (by omega), show (1002 + 4 * e - 1000) / 4 = e by omega]
  t := fun e he => by
    show rhoV xs base (1003 + 4 * e) = _
    unfold rhoV
    rw [if_pos (by omega), if_neg (by omega), if_neg (by omega), if_neg (by omega), show (1003 + 4 * e - 1000) / 4 = e by omega]
  g := fun i hi => by
    show rhoV xs base (3001 + i) = _
    unfold rhoV
    rw [if_neg (by omega), if_pos (by omega), show 3001 + i - 3001 = i by omega]
theorem NormR.agree {ρ ρ' : Rho} {xs : List Se} (h : NormR ρ xs) (k : Agree ρ ρ') : NormR ρ' xs := by
  refine ⟨h.n1, h.n6, ?_, ?_, ?_, ?_, ?_, h.b⟩ <;> rw [k.v]
  · exact h.a
  · exact h.h
  · exact h.f
  · exact h.t
  · exact h.g
end X
end Go.Proofs.YtebfahobllghnaaGreatDoor
namespace Go.Proofs.YtebfahobllghnaaGreatDoor
namespace X
open Go.RowKit B
noncomputable def cIns : Code := bodyOf Tryz.f260.body
noncomputable def cOrder : Code := bodyOf Tryz.f87.body
def smZ : SumT := fun _ => none
noncomputable def smN1 : SumT := withF 86 (spanS Tryz.prog smZ 86) smZ
noncomputable def smN2 : SumT := withF 137 (cmpS Tryz.prog smN1 137) smN1
noncomputable def smN3 : SumT := withF 260 (callX' Tryz.prog smN2 260 cIns [sortTrig]) smN2
noncomputable def smN4 (n : Nat) : SumT := withF 87 (callX' Tryz.prog smN3 87 cOrder [joinTrig n]) smN3
def inP (e : Nat) : PC := [lv (eF e), ge (lv 25) (lv (eT e)), ge (lv (eT e)) (lv (eF e))]
def normP (n : Nat) : PC := appL (is (gV 1) 1) (catL inP (upto 0 n))
def normV (g : Nat) : SV := .tu [.sl 1 0 g (.q 2), .i .i64 (.ofNat 0)]
def normL (n g : Nat) : ML := [(0, .ce 57 (selsC (upto 0 n)) false), (1, .ce 57 (selsC (mapL dId (upto 0 g))) false)]
def endRs (n g : Nat) : Rules := ⟨[], match n with
  | 1 => eqE [] (dId 0) 0
  | n => eqE (is (gV n) g) (dId (Nat.pred g)) (cId n)⟩
def normEnd (n : Nat) (v : SV) (m : Mem) (nx : Nat) (pc : PC) : Bool := match v with
  | .tu [.sl _ 0 g (.q 2), .i .i64 (.ofNat 0)] => Nat.blt 0 g && allP pc (is (gV n) g) && cutEnd (endRs n g) 1 (normV g) (normL n g) 700 [] v m nx pc
  | _ => false
noncomputable def normK (n : Nat) : Bool := mkK [(0, .ce 57 (selsC (upto 0 n)) false)] .lf fun m0 => callBy Tryz.prog (smN4 n) (ev Tryz.prog (smN4 n) 1000000) 51 [xv 25, .sl 0 0 n (.q 2)] m0 1 (normP n) (normEnd n)
end X
end Go.Proofs.YtebfahobllghnaaGreatDoor
namespace Go.Proofs.YtebfahobllghnaaGreatDoor
namespace X
open Go.RowKit B
theorem mixP : Tryz.prog.follows .mixedOrders = true := by kernel_rfl
theorem smZ_okN (P : Program) (ρ : Rho) : SumOk P ρ smZ := fun f h hh => by cases hh
def isI : SV → Bool
  | .x .i64 _ => true
  | .i .i64 _ => true
  | _ => false
def linI : SV → Lin
  | .x _ e => e
  | .i _ n => .mk n []
  | _ => .mk 0 []
theorem isI_den {v : SV} (h : isI v = true) (ρ : Rho) (θ : Th) : den ρ θ v = some (.int .i64 ((linI v).den ρ)) := by
  unfold isI at h
  split at h
  · rfl
  · simp [den, linI, const_den]
  · cases h
def spanPost (v : SV) (_ : Mem) (_ : Nat) (pc : PC) : Bool := match v with
  | .ag [a, b] => isI a && isI b && proves pc (ge (lv 0) (linI a)) && proves pc (ge (lv 2) (linI a)) && proves pc (ge (linI b) (lv 0)) && proves pc (ge (linI b) (lv 2)) &&
    (proves pc (ge (linI a) (lv 0)) || proves pc (ge (linI a) (lv 2))) && (proves pc (ge (lv 0) (linI b)) || proves pc (ge (lv 2) (linI b)))
  | _ => false
set_option maxRecDepth 100000 in
theorem span_kN : callBy Tryz.prog smZ (ev Tryz.prog smZ 1000000) 86 [.ag [xv 0, xv 2]] .lf 0 [] spanPost = true := by kernel_rfl
theorem span_c (x : Se) (w : World) : Calls Tryz.prog 86 #[.agg #[.int .i64 x.1, .int .i64 x.2]] w (fun e w' => e = .returned (.agg #[.int .i64 (fE x), .int .i64 (tE x)]) ∧ Ext none' w w') := by
  let ρ : Rho := ⟨fun i => if i = 0 then x.1 else x.2, fun _ => []⟩
  have l0 : (lv 0).den ρ = x.1 := lv_den ρ 0
  have l2 : (lv 2).den ρ = x.2 := lv_den ρ 1
  have x0 : (Lin.mk 0 [(0, 1)]).den ρ = x.1 := l0
  have x2 : (Lin.mk 0 [(2, 1)]).den ρ = x.2 := l2
  obtain ⟨r, h1, h2, h3⟩ := pure_of (ρ := ρ) (args := [.ag [xv 0, xv 2]]) (vs := [.agg #[.int .i64 x.1, .int .i64 x.2]]) (callBy_c mixP (smZ_okN _ ρ)) (fun e h => by cases h) span_kN (by simp [dens, den, xv, x0, x2])
  unfold spanPost at h1
  split at h1
  · rename_i a b hv
    simp only [Bool.and_eq_true, Bool.or_eq_true] at h1
    obtain ⟨⟨⟨⟨⟨⟨⟨ia, ib⟩, p1⟩, p2⟩, p3⟩, p4⟩, p5⟩, p6⟩ := h1
    have q1 := sat_ge (proves_ok p1 h2)
    have q2 := sat_ge (proves_ok p2 h2)
    have q3 := sat_ge (proves_ok p3 h2)
    have q4 := sat_ge (proves_ok p4 h2)
    have q5 : x.1 ≤ (linI a).den ρ ∨ x.2 ≤ (linI a).den ρ := by
      rcases p5 with p | p
      · have := sat_ge (proves_ok p h2); rw [l0] at this; exact .inl this
      · have := sat_ge (proves_ok p h2); rw [l2] at this; exact .inr this
    have q6 : (linI b).den ρ ≤ x.1 ∨ (linI b).den ρ ≤ x.2 := by
      rcases p6 with p | p
      · have := sat_ge (proves_ok p h2); rw [l0] at this; exact .inl this
      · have := sat_ge (proves_ok p h2); rw [l2] at this; exact .inr this
    rw [l0] at q1 q3
    rw [l2] at q2 q4
    refine calls_mono (h3 w) fun e w' ⟨v, θ', e1, e2, e3⟩ => ⟨?_, e3⟩
    rw [e1]
    rw [hv] at e2
    simp only [den, dens, isI_den ia, isI_den ib, Option.bind_some, Option.map_some, Option.some.injEq] at e2
    rw [← e2]
    have ea : (linI a).den ρ = fE x := by unfold fE; omega
    have eb : (linI b).den ρ = tE x := by unfold tE; omega
    rw [ea, eb]
  · cases h1
theorem enterSpan (args : Array Value) (w : World) : (callFunc 86 args).run Tryz.prog w = .ok (.enter 86 args) w := enter_run (fn := Tryz.f86) (by kernel_rfl) (by kernel_rfl) rfl args w
theorem enterCmp (args : Array Value) (w : World) : (callFunc 137 args).run Tryz.prog w = .ok (.enter 137 args) w := enter_run (fn := Tryz.f137) (by kernel_rfl) (by kernel_rfl) rfl args w
section
variable {ρ : Rho} {xs : List Se}
theorem spanE_ok {v : SV} {i j : Nat} (h : spanE v = some (i, j)) : ∃ e, e < 110 ∧ v = .ag (selC e) ∧ i = eF e ∧ j = eT e := by
  unfold spanE at h
  split at h
  · rename_i a b
    split at h
    · rename_i hc
      simp only [isEl, Bool.and_eq_true, Nat.beq_eq, Nat.ble_eq] at hc
      obtain ⟨⟨⟨c1, c2⟩, c3⟩, c4⟩ := hc
      have c3 : a % 8 = 0 := c3
      have c4 : b = a + 2 := c4
      cases h
      refine ⟨(a - 2000) / 8, by omega, ?_, ?_, ?_⟩
      · have e1 : eA ((a - 2000) / 8) = a := by show 2000 + 8 * ((a - 2000) / 8) = a; omega
        have e2 : eH ((a - 2000) / 8) = b := by show 2002 + 8 * ((a - 2000) / 8) = b; omega
        simp only [selC, xv, e1, e2]
      · show a + 4 = 2004 + 8 * ((a - 2000) / 8); omega
      · show a + 6 = 2006 + 8 * ((a - 2000) / 8); omega
    · cases h
  · cases h
theorem NormR.selD (h : NormR ρ xs) {e : Nat} (he : e < 110) (θ : Th) : den ρ θ (.ag (selC e)) = some (.agg #[.int .i64 (elF xs e).1, .int .i64 (elF xs e).2]) := by
  have h1 := h.aD he
  have h2 := h.hD he
  simp only [lv] at h1 h2
  simp only [selC, xv, den, dens, h1, h2, Option.bind_some, Option.map_some]
theorem spanS_ok (h : NormR ρ xs) : CallY Tryz.prog ρ 86 (spanS Tryz.prog smZ 86) := fun args m nx pc hs => by
  unfold spanS
  split
  · rename_i v
    split
    · rename_i i j hv
      obtain ⟨e, he, rfl, rfl, rfl⟩ := spanE_ok hv
      refine Yl.pure (⟨.ag [xv (eF e), xv (eT e)], m, nx, pc⟩ : O4) (CallR.pur enterSpan hs fun θ w vs hvs => ?_)
      have h1 := h.fD he
      have h2 := h.tD he
      simp only [lv] at h1 h2
      simp only [dens, h.selD he, Option.bind_some, Option.map_some, Option.some.injEq] at hvs
      subst hvs
      exact ⟨_, by simp only [xv, den, dens, h1, h2, Option.bind_some, Option.map_some], span_c _ w⟩
    · exact callBy_c mixP (smZ_okN _ ρ) _ m nx pc hs
  · exact Yl.no
theorem smN1_ok (h : NormR ρ xs) : SumOk Tryz.prog ρ smN1 := withF_ok (smZ_okN _ ρ) (spanS_ok h)
end
def bndP (e : Nat) : PC := [lv (eF e), ge (.mk 1000 []) (lv (eT e)), ge (lv (eT e)) (lv (eF e))]
def cmpPost (v : SV) (_ : Mem) (_ : Nat) (pc : PC) : Bool := match v with
  | .i .i64 (.ofNat 0) => proves pc (ge (keyL 0) (keyL 1)) && proves pc (ge (keyL 1) (keyL 0))
  | .i .i64 (.ofNat 1) => proves pc (gt (keyL 0) (keyL 1))
  | .i .i64 (.negSucc 0) => proves pc (gt (keyL 1) (keyL 0))
  | _ => false
set_option maxRecDepth 100000 in
theorem cmp_k : callBy Tryz.prog smN1 (ev Tryz.prog smN1 1000000) 137 [.ag (selC 0), .ag (selC 1)] .lf 0 (appL (bndP 0) (bndP 1)) cmpPost = true := by kernel_rfl
def cmpI (x y : Se) : Int := if keyE x < keyE y then -1 else if keyE y < keyE x then 1 else 0
theorem cmp_c (x y : Se) (hx : 0 ≤ fE x ∧ tE x ≤ 1000) (hy : 0 ≤ fE y ∧ tE y ≤ 1000) (w : World) : Calls Tryz.prog 137 #[.agg #[.int .i64 x.1, .int .i64 x.2], .agg #[.int .i64 y.1, .int .i64 y.2]] w (fun e w' => e = .returned (.int .i64 (cmpI x y)) ∧ Ext none' w w') := by
  let ρ : Rho := ⟨rhoV [x, y] (fun _ => 0), fun _ => []⟩
  have h : NormR ρ [x, y] := rhoV_ok (by simp) (by simp) (fun z hz => by
    rcases List.mem_cons.1 hz with rfl | hz
    · exact hx
    · have : z = y := by simpa using hz
      rw [this]; exact hy)
  have e0 : elF [x, y] 0 = x := rfl
  have e1 : elF [x, y] 1 = y := rfl
  have k0 : (keyL 0).den ρ = keyE x := h.kD (by omega)
  have k1 : (keyL 1).den ρ = keyE y := h.kD (by omega)
  have hs : Sat ρ (appL (bndP 0) (bndP 1)) := by
    have bnd : ∀ e z, e < 110 → elF [x, y] e = z → (0 ≤ fE z ∧ tE z ≤ 1000) → Sat ρ (bndP e) := fun e z he hz hb q hq => by
      have := fE_le z
      simp only [bndP, List.mem_cons, List.not_mem_nil, or_false] at hq
      rcases hq with rfl | rfl | rfl
      · rw [h.fD he, hz]; exact hb.1
      · rw [ge_den, const_den, h.tD he, hz]; omega
      · rw [ge_den, h.fD he, h.tD he, hz]; omega
    exact sat_appL.2 ⟨bnd 0 x (by omega) e0 hx, bnd 1 y (by omega) e1 hy⟩
  obtain ⟨r, h1, h2, h3⟩ := pure_of (ρ := ρ) (args := [.ag (selC 0), .ag (selC 1)]) (vs := [.agg #[.int .i64 x.1, .int .i64 x.2], .agg #[.int .i64 y.1, .int .i64 y.2]]) (callBy_c mixP (smN1_ok h)) hs cmp_k (by
    simp only [dens, h.selD (show 0 < 110 by omega), h.selD (show 1 < 110 by omega), e0, e1, Option.bind_some, Option.map_some])
  have key : den ρ (fun _ => none) r.v = some (.int .i64 (cmpI x y)) ∧ ∀ θ, den ρ θ r.v = some (.int .i64 (cmpI x y)) := by
    unfold cmpPost at h1
    split at h1
    · rename_i hv
      simp only [Bool.and_eq_true] at h1
      have q1 := sat_ge (proves_ok h1.1 h2)
      have q2 := sat_ge (proves_ok h1.2 h2)
      rw [k0, k1] at q1 q2
      have : cmpI x y = 0 := by unfold cmpI; rw [if_neg (by omega), if_neg (by omega)]
      rw [hv, this]
      exact ⟨rfl, fun _ => rfl⟩
    · rename_i hv
      have q1 := sat_gt (proves_ok h1 h2)
      rw [k0, k1] at q1
      have : cmpI x y = 1 := by unfold cmpI; rw [if_neg (by omega), if_pos (by omega)]
      rw [hv, this]
      exact ⟨rfl, fun _ => rfl⟩
    · rename_i hv
      have q1 := sat_gt (proves_ok h1 h2)
      rw [k0, k1] at q1
      have : cmpI x y = -1 := by unfold cmpI; rw [if_pos (by omega)]
      rw [hv, this]
      exact ⟨rfl, fun _ => rfl⟩
    · cases h1
  refine calls_mono (h3 w) fun e w' ⟨v, θ', e1, e2, e3⟩ => ⟨?_, e3⟩
  rw [key.2 θ'] at e2
  cases e2
  exact e1
section
variable {ρ : Rho} {xs : List Se}
theorem cmpS_ok (h : NormR ρ xs) (hb : ∀ e, e < 110 → 0 ≤ fE (elF xs e) ∧ tE (elF xs e) ≤ 1000) : CallY Tryz.prog ρ 137 (cmpS Tryz.prog smN1 137) := fun args m nx pc hs => by
  unfold cmpS
  split
  · rename_i a b
    split
    · rename_i i j k l ha hb'
      obtain ⟨e, he, rfl, rfl, rfl⟩ := spanE_ok ha
      obtain ⟨e', he', rfl, rfl, rfl⟩ := spanE_ok hb'
      have k0 : (Lin.mk 0 [(eF e, 1001), (eT e, 1)]).den ρ = keyE (elF xs e) := h.kD he
      have k1 : (Lin.mk 0 [(eF e', 1001), (eT e', 1)]).den ρ = keyE (elF xs e') := h.kD he'
      have fin : ∀ {n : Int} {pc' : PC}, Sat ρ pc' → n = cmpI (elF xs e) (elF xs e') → CallR Tryz.prog ρ 137 [.ag (selC e), .ag (selC e')] m nx ⟨.i .i64 n, m, nx, pc'⟩ := fun {n pc'} hs' hn => CallR.pur enterCmp hs' fun θ w vs hvs => by
        simp only [dens, h.selD he, h.selD he', Option.bind_some, Option.map_some, Option.some.injEq] at hvs
        subst hvs
        exact ⟨_, by rw [hn]; rfl, cmp_c _ _ (hb e he) (hb e' he') w⟩
      refine Yl.bind (α := Bool × PC) (β := O4) (F := fun K => dec2 pc (ge (.mk 0 [(eF e, 1001), (eT e, 1)]) (.mk 0 [(eF e', 1001), (eT e', 1)])) fun r pc => K (r, pc)) (G := fun r K => match r.1 with
        | true => dec2 r.2 (ge (.mk 0 [(eF e', 1001), (eT e', 1)]) (.mk 0 [(eF e, 1001), (eT e, 1)])) fun q pc => match q with
          | true => K ⟨.i .i64 (.ofNat 0), m, nx, pc⟩
          | false => K ⟨.i .i64 (.ofNat 1), m, nx, pc⟩
        | false => K ⟨.i .i64 (.negSucc 0), m, nx, r.2⟩) (dec2_yl hs) fun r hr => ?_
      obtain ⟨r, pc1⟩ := r
      obtain ⟨hr1, hr2⟩ := hr
      simp only at hr1 hr2
      rw [ge_den, k0, k1] at hr1
      cases r with
      | false =>
        refine Yl.pure _ (fin hr2 ?_)
        have : ¬ (0 ≤ keyE (elF xs e) - keyE (elF xs e')) := by simpa using hr1
        unfold cmpI
        rw [if_pos (by omega)]
        rfl
      | true =>
        have hr1 : 0 ≤ keyE (elF xs e) - keyE (elF xs e') := by simpa using hr1
        refine Yl.bind (α := Bool × PC) (β := O4) (F := fun K => dec2 pc1 (ge (.mk 0 [(eF e', 1001), (eT e', 1)]) (.mk 0 [(eF e, 1001), (eT e, 1)])) fun r pc => K (r, pc)) (G := fun q K => match q.1 with
          | true => K ⟨.i .i64 (.ofNat 0), m, nx, q.2⟩
          | false => K ⟨.i .i64 (.ofNat 1), m, nx, q.2⟩) (dec2_yl hr2) fun q hq => ?_
        obtain ⟨q, pc2⟩ := q
        obtain ⟨hq1, hq2⟩ := hq
        simp only at hq1 hq2
        rw [ge_den, k0, k1] at hq1
        cases q with
        | true =>
          have hq1 : 0 ≤ keyE (elF xs e') - keyE (elF xs e) := by simpa using hq1
          refine Yl.pure _ (fin hq2 ?_)
          unfold cmpI
          rw [if_neg (by omega), if_neg (by omega)]
          rfl
        | false =>
          have : ¬ (0 ≤ keyE (elF xs e') - keyE (elF xs e)) := by simpa using hq1
          refine Yl.pure _ (fin hq2 ?_)
          unfold cmpI
          rw [if_neg (by omega), if_pos (by omega)]
          rfl
    · exact callBy_c mixP (smN1_ok h) _ m nx pc hs
  · exact Yl.no
end
end X
end Go.Proofs.YtebfahobllghnaaGreatDoor
namespace Go.Proofs.YtebfahobllghnaaGreatDoor
namespace X
open Go.RowKit B
structure Sb where
  s : List (Nat × Str)
  v : List (Nat × Lin)
def fndS : List (Nat × Str) → Nat → Str
  | [], _ => []
  | (j, l) :: r, i => match Nat.beq i j with
    | true => l
    | false => fndS r i
def fndL : List (Nat × Lin) → Nat → Lin
  | [], _ => .mk 0 []
  | (j, l) :: r, i => match Nat.beq i j with
    | true => l
    | false => fndL r i
def appS' : Str → Str → Str
  | [], m => m
  | a :: l, m => a :: appS' l m
def subS (τ : Sb) : Str → Str
  | [] => []
  | .c n :: l => .c n :: subS τ l
  | .a i :: l => appS' (fndS τ.s i) (subS τ l)
def subV (τ : Sb) (j : Nat) : Lin := match Nat.beq (Nat.mod j 4) 1 with
  | true => lenS (fndS τ.s (Nat.div j 4))
  | false => fndL τ.v (Nat.div j 2)
def okV' (j : Nat) : Bool := Nat.beq (Nat.mod j 4) 1 || Nat.beq (Nat.mod j 2) 0
def rhoS (τ : Sb) (ρ : Rho) : Rho := ⟨fun i => (fndL τ.v i).den ρ, fun i => denS ρ (fndS τ.s i)⟩
section
variable {τ : Sb} {ρ : Rho}
theorem appS'_eq : ∀ {l m : Str}, appS' l m = l ++ m
  | [], m => rfl
  | a :: l, m => by rw [appS', appS'_eq]; rfl
theorem subS_den : ∀ {l : Str}, denS ρ (subS τ l) = denS (rhoS τ ρ) l
  | [] => rfl
  | .c n :: l => by rw [subS, denS_cons, denS_cons, subS_den]; rfl
  | .a i :: l => by rw [subS, appS'_eq, denS_app', denS_cons, subS_den]; rfl
theorem subV_den {j : Nat} (hj : okV' j = true) : (subV τ j).den ρ = (rhoS τ ρ).at j := by
  unfold subV
  split
  · rename_i h
    have h : j % 4 = 1 := Nat.eq_of_beq_eq_true h
    obtain ⟨i, rfl⟩ : ∃ i, j = 4 * i + 1 := ⟨j / 4, by omega⟩
    rw [lenS_den, Rho.at_l, show Nat.div (4 * i + 1) 4 = i by show (4 * i + 1) / 4 = i; omega]
    rfl
  · rename_i h
    simp only [okV', h, Bool.false_or] at hj
    have hj : j % 2 = 0 := Nat.eq_of_beq_eq_true hj
    obtain ⟨i, rfl⟩ : ∃ i, j = 2 * i := ⟨j / 2, by omega⟩
    rw [Rho.at_v, show Nat.div (2 * i) 2 = i by show 2 * i / 2 = i; omega]
    rfl
theorem sbt_ok : MpOk (rhoS τ ρ) ρ (subS τ) (sbL (subV τ)) (fun _ => true) (onL okV') :=
  ⟨fun l _ => subS_den, fun e he => sbL_den (fun i hi => subV_den hi) he⟩
end
def alL (pS : Str → Bool) (pL : Lin → Bool) : ML → Bool
  | [] => true
  | (_, b) :: l => alB pS pL b && alL pS pL l
theorem alL_ok {pS : Str → Bool} {pL : Lin → Bool} : ∀ {l : ML}, alL pS pL l = true → ∀ t b, (t, b) ∈ l → alB pS pL b = true
  | [], _, t, b, h => by cases h
  | (s, c) :: l, hp, t, b, h => by
    simp only [alL, Bool.and_eq_true] at hp
    rcases List.mem_cons.1 h with h | h
    · cases h; exact hp.1
    · exact alL_ok hp.2 t b h
theorem CallR.mp {P : Program} {ρ ρ' : Rho} {fS : Str → Str} {fL : Lin → Lin} {pS : Str → Bool} {pL : Lin → Bool} (h : MpOk ρ ρ' fS fL pS pL) {f : Nat} {args : List SV} {m0 m0' m1 m1' : Mem} {nx nx1 : Nat} {v1 : SV} {pc1 pc' : PC} (hc : CallR P ρ f args m0 nx ⟨v1, m1, nx1, pc1⟩)
    (hs : Sat ρ' pc') (ha : alVs pS pL args = true) (hv : alV pS pL v1 = true) (e0 : ∀ t, m0'.get t = (m0.get t).map (mpB fS fL)) (e1 : ∀ t, m1'.get t = (m1.get t).map (mpB fS fL)) (h0 : ∀ t b, m0.get t = some b → alB pS pL b = true) (h1 : ∀ t b, m1.get t = some b → alB pS pL b = true) :
    CallR P ρ' f (mpVs fS fL args) m0' nx ⟨mpV fS fL v1, m1', nx1, pc'⟩ := by
  have n0 := mp_ne e0
  have n1 := mp_ne e1
  refine ⟨hc.enter, hs, hc.le, fun t q1 q2 => hc.new t ?_ ((n1 t).1 q2), fun w θ us hus hM hfr => ?_⟩
  · cases hq : m0.get t with
    | none => rfl
    | some b => have := e0 t; rw [q1, hq] at this; cases this
  · rw [mpVs_den h ha] at hus
    refine calls_mono (hc.run w θ us hus ((mem_mp h e0 h0).1 hM) hfr) fun e w' ⟨v, θ2, he, hsp, hv2⟩ => ⟨v, θ2, he, ⟨hsp.le, hsp.new, (mem_mp h e1 h1).2 hsp.mem, hsp.ext.mono fun g _ ⟨t, z⟩ => ⟨t, (own_mp e0).2 z⟩, fun g ⟨t, z⟩ => ?_⟩, by rw [mpV_den h hv]; exact hv2⟩
    rcases hsp.own g ⟨t, (own_mp e1).1 z⟩ with ⟨t', y⟩ | z
    · exact .inl ⟨t', (own_mp e0).2 y⟩
    · exact .inr z
structure Known where
  a0 : List SV
  l0 : ML
  nx0 : Nat
  pc0 : PC
  v1 : SV
  l1 : ML
  nx1 : Nat
  pc1 : PC
def okK (k : Known) : Bool := alVs (fun _ => true) (onL okV') k.a0 && alL (fun _ => true) (onL okV') k.l0 && alP (onL okV') k.pc0 && alV (fun _ => true) (onL okV') k.v1 && alL (fun _ => true) (onL okV') k.l1 && alP (onL okV') k.pc1
def mpvs (τ : Sb) (l : List SV) : List SV := mpVs (subS τ) (sbL (subV τ)) l
def cutT (rs : Rules) (k : Known) (τ : Sb) : List SV → Mem → Nat → PC → (SV → Mem → Nat → PC → Bool) → Bool := fun args m nx pc K =>
  match okK k with
  | true => mkK k.l0 .lf fun _ => mkK k.l1 .lf fun _ => mkK (mpM (subS τ) (sbL (subV τ)) k.l0) .lf fun _ => mkK (mpM (subS τ) (sbL (subV τ)) k.l1) .lf fun _ =>
    cutG rs (mpvs τ k.a0) (mpM (subS τ) (sbL (subV τ)) k.l0) k.nx0 (mpP (sbL (subV τ)) k.pc0) (mpV (subS τ) (sbL (subV τ)) k.v1) (mpM (subS τ) (sbL (subV τ)) k.l1) k.nx1 (mpP (sbL (subV τ)) k.pc1) args m nx pc K
  | false => false
def KnownOk (P : Program) (f : Nat) (k : Known) (ρ : Rho) : Prop := Sat ρ k.pc0 → CallR P ρ f k.a0 (mkU k.l0 .lf) k.nx0 ⟨k.v1, mkU k.l1 .lf, k.nx1, k.pc1⟩
theorem cutT_yl {P : Program} {ρ : Rho} {rs : Rules} (hr : RulesOk ρ rs) {f : Nat} {k : Known} {τ : Sb} (hk : KnownOk P f k (rhoS τ ρ)) {args : List SV} {m : Mem} {nx : Nat} {pc : PC} (hs : Sat ρ pc) :
    Yl (fun K => cutT rs k τ args m nx pc fun v m nx pc => K ⟨v, m, nx, pc⟩) (CallR P ρ f args m nx) := by
  unfold cutT
  split
  · rename_i hok
    simp only [okK, Bool.and_eq_true] at hok
    obtain ⟨⟨⟨⟨⟨o1, o2⟩, o3⟩, o4⟩, o5⟩, o6⟩ := hok
    refine Yl.bind mkK_yl fun m0 h0 => Yl.bind mkK_yl fun m1 h1 => Yl.bind mkK_yl fun m2 h2 => Yl.bind mkK_yl fun m3 h3 => ?_
    refine cutG_yl hr (fun pc hpc h => ?_) hs
    have hm := sbt_ok (τ := τ) (ρ := ρ)
    have h' : Sat (rhoS τ ρ) k.pc0 := (mpP_ok hm o3).1 h
    have hc := hk h'
    have hp1 : Sat ρ (mpP (sbL (subV τ)) k.pc1) := (mpP_ok hm o6).2 hc.pc
    rw [← h0.1, ← h1.1] at hc
    rw [← h2.1, ← h3.1]
    have lfB : ∀ t, Tr.get (α := Blk) .lf t = none := fun t => by simp [Tr.get]
    have look : ∀ {l : ML} {r : Mem}, (∀ t, r.get t = lookU l t (Tr.get .lf t)) → alL (fun _ => true) (onL okV') l = true → ∀ t b, r.get t = some b → alB (fun _ => true) (onL okV') b = true := fun {l r} hr hl t b hb => by
      rw [hr, lfB] at hb
      rcases lookU_mem hb with hb | hb
      · exact alL_ok hl t b hb
      · cases hb
    have mapd : ∀ {l : ML} {r r' : Mem}, (∀ t, r.get t = lookU l t (Tr.get .lf t)) → (∀ t, r'.get t = lookU (mpM (subS τ) (sbL (subV τ)) l) t (Tr.get .lf t)) → ∀ t, r'.get t = (r.get t).map (mpB (subS τ) (sbL (subV τ))) := fun {l r r'} q1 q2 t => by
      rw [q2, q1, lfB]
      exact lookU_mp (o := none)
    exact CallR.mp hm hc (sat_app hp1 hpc) o1 o4 (mapd h0.2 h2.2) (mapd h1.2 h3.2) (look h0.2 o2) (look h1.2 o5)
  · exact Yl.no
theorem known_of {P : Program} {ρ : Rho} (hm : P.follows .mixedOrders = true) {sm : SumT} (hsm : SumOk P ρ sm) {rs : Rules} (hr : RulesOk ρ rs) {fuel f : Nat} {k : Known}
    (hk : mkK k.l0 .lf (fun m0 => callBy P sm (ev P sm fuel) f k.a0 m0 k.nx0 k.pc0 (cutEnd rs k.nx0 k.v1 k.l1 k.nx1 k.pc1)) = true) : KnownOk P f k ρ := fun h0 => by
  have := (cut_call hm hsm hr hk (pc := []) (fun e he => by cases he) h0).2
  rwa [List.append_nil] at this
end X
end Go.Proofs.YtebfahobllghnaaGreatDoor
namespace Go.Proofs.YtebfahobllghnaaGreatDoor
namespace X
open Go.RowKit B
section
variable {e k many hi nx : Nat} {s : Tr SV} {m : Mem} {pc : PC} {c c' : Cc} {T : TS} {Ts : List TS} {sl : SL} {l : ML} {v : SV}
def TrC (c : Cc) (t : Tr2) : Prop := match t with
  | .step => True
  | .view _ _ _ => True
  | .tail c' _ _ _ => c' = c
  | .fam .. => False
theorem trc_ok {ρ : Rho} {trig : Trig2} {enc : UInt8 → List UInt8} {l : List UInt8} {I : Rho → Prop} (h : ∀ s m nx pc, TrC c (trig s m nx pc)) (hc : CcR ρ c enc l I) : Tr2Ok ρ trig := by
  constructor
  · intro s m nx pc c' T Ts hi ht
    have := h s m nx pc
    rw [ht] at this
    cases this
    exact ⟨_, _, _, hc⟩
  · intro s m nx pc rs fr pc0 T Is Fs hi ht
    have := h s m nx pc
    rw [ht] at this
    exact this.elim
end
section
variable {ρ ρ0 : Rho} {b : UInt8} {n : Nat}
theorem noB_ok (h1 : ρ.s 1 = [b]) (hn : n < 256) (hb : b ≠ UInt8.ofNat n) : 0 ≤ (noB n).den ρ := by
  have := ρ.at_e 1 n (by omega) hn
  rw [h1, if_neg (by simpa using hb)] at this
  show 0 ≤ (0 : Int) + (-1 * ρ.at (8 * (1 + 16 * n) + 7) + 0)
  omega
theorem bvE_ok (h1 : ρ.s 1 = [b]) (hv : ρ.v 500 = 0) (hb : b.toNat = n) : Sat ρ (bvE n) := by
  have := ρ.at_b 1 500 (by omega)
  rw [h1, hv] at this
  have : ρ.at 64011 = (n : Int) := by rw [this]; simp [hb]
  have ng (m : Nat) : Int.negOfNat m = -(m : Int) := by cases m <;> rfl
  intro e he
  simp only [bvE, List.mem_cons, List.not_mem_nil, or_false] at he
  rcases he with rfl | rfl
  · simp only [Lin.den, dts, this, ng]; omega
  · simp only [Lin.den, dts, this, Int.ofNat_eq_natCast]; omega
theorem sat_cons {e : Lin} {l : PC} (h : 0 ≤ e.den ρ) (hl : Sat ρ l) : Sat ρ (e :: l) := fun x hx => by
  rcases List.mem_cons.1 hx with rfl | hx
  · exact h
  · exact hl x hx
theorem sat_nil : Sat ρ [] := fun x hx => by cases hx
theorem oneB1_ok (h1 : ρ.s 1 = [b]) {pc : PC} (h : Sat ρ pc) : Sat ρ (oneB1 pc) := by
  have a1 : ρ.at 5 = ((ρ.s 1).length : Int) := ρ.at_l 1
  rw [h1] at a1
  simp only [List.length_cons, List.length_nil] at a1
  exact sat_cons (by simp only [Lin.den, dts, a1]; omega) (sat_cons (by simp only [Lin.den, dts, a1]; omega) h)
end
end X
end Go.Proofs.YtebfahobllghnaaGreatDoor
namespace Go.Proofs.YtebfahobllghnaaGreatDoor
namespace X
open Go.RowKit B
def provA (pc : PC) : PC → Bool
  | [] => true
  | e :: l => match proves pc e with
    | true => provA pc l
    | false => false
theorem provA_ok {ρ : Rho} {pc : PC} (hs : Sat ρ pc) : ∀ {l : PC}, provA pc l = true → Sat ρ l
  | [], _ => sat_nil
  | e :: l, h => by
    simp only [provA] at h
    split at h
    · rename_i hp; exact sat_cons (proves_ok hp hs) (provA_ok hs h)
    · cases h
def factS (fs : PC) (g : SumF) : SumF := fun args m nx pc K => match provA pc fs with
  | true => g args m nx (fs ++ pc) fun v m nx _ => K v m nx pc
  | false => false
section
variable {P : Program} {ρ ρ' : Rho} {f : Nat}
theorem CallR.pcs {args : List SV} {m : Mem} {nx : Nat} {r : O4} (h : CallR P ρ f args m nx r) {pc : PC} (hs : Sat ρ pc) : CallR P ρ f args m nx ⟨r.v, r.m, r.nx, pc⟩ := ⟨h.enter, hs, h.le, h.new, h.run⟩
theorem factS_ok {fs : PC} {g : SumF} (hg : CallY P ρ f g) : CallY P ρ f (factS fs g) := fun args m nx pc hs => by
  unfold factS
  split
  · rename_i h
    exact Yl.map (fun r : O4 => (⟨r.v, r.m, r.nx, pc⟩ : O4)) (hg args m nx (fs ++ pc) (sat_app (provA_ok hs h) hs)) fun r hr => hr.pcs hs
  · exact Yl.no
theorem CallY.of {g : SumF} (h : ∀ args m nx pc, Sat ρ pc → ∃ h : SumF, CallY P ρ f h ∧ ∀ K, g args m nx pc K = h args m nx pc K) : CallY P ρ f g := fun args m nx pc hs => by
  obtain ⟨g', h1, h2⟩ := h args m nx pc hs
  refine Yl.sub (fun K hK => ?_) (h1 args m nx pc hs)
  rw [← h2]; exact hK
theorem CallY.no : CallY P ρ f (fun _ _ _ _ _ => false) := fun _ _ _ _ _ => Yl.no
mutual
theorem mpV_id : ∀ v : SV, mpV (fun l => l) (fun e => e) v = v
  | .ag l => by rw [mpV, mpVs_id]
  | .tu l => by rw [mpV, mpVs_id]
  | .fn f a b => by rw [mpV, mpVs_id, mpVs_id]
  | .i k n => rfl
  | .x k e => rfl
  | .b b => rfl
  | .s l => rfl
  | .p t o => rfl
  | .np => rfl
  | .sl t o k c => rfl
  | .sb t l => rfl
  | .ns => rfl
  | .nf => rfl
  | .ni => rfl
  | .nm => rfl
  | .mp t => rfl
  | .su t => rfl
  | .g a b => rfl
  | .un => rfl
  | .sv t n => rfl
  | .pv t n => rfl
  | .sx t n => rfl
  | .tp t n => rfl
theorem mpVs_id : ∀ l : List SV, mpVs (fun l => l) (fun e => e) l = l
  | [] => rfl
  | v :: l => by rw [mpVs, mpV_id, mpVs_id]
end
theorem mpE_id : ∀ l : List (SV × SV × Nat), mpE (fun l => l) (fun e => e) l = l
  | [] => rfl
  | (a, b, n) :: l => by rw [mpE, mpV_id, mpV_id, mpE_id l]
theorem mpB_id (b : Blk) : mpB (fun l => l) (fun e => e) b = b := by
  cases b with
  | ce t l x => rw [mpB, mpVs_id]
  | bt t l => rfl
  | mp es c => rw [mpB, mpE_id]
  | ob t l => rfl
  | cv l => rw [mpB, mpVs_id]
  | cq n b => rfl
  | cx t n b => rfl
  | hb k l q => rfl
def visS (a : List Nat) : Str → Bool
  | [] => true
  | .c _ :: l => visS a l
  | .a i :: l => memN i a && visS a l
def visJ (a b : List Nat) (j : Nat) : Bool := match Nat.beq (Nat.mod j 4) 1 with
  | true => memN (Nat.div j 4) a
  | false => Nat.beq (Nat.mod j 2) 0 && memN (Nat.div j 2) b
def visK (a b : List Nat) (k : Known) : Bool := alVs (visS a) (onL (visJ a b)) k.a0 && alL (visS a) (onL (visJ a b)) k.l0 && alP (onL (visJ a b)) k.pc0 && alV (visS a) (onL (visJ a b)) k.v1 && alL (visS a) (onL (visJ a b)) k.l1 && alP (onL (visJ a b)) k.pc1
theorem visS_den {a : List Nat} (h : ∀ i, i ∈ a → ρ'.s i = ρ.s i) : ∀ {l : Str}, visS a l = true → denS ρ' l = denS ρ l
  | [], _ => rfl
  | .c n :: l, hl => by rw [denS_cons, denS_cons, visS_den h (show visS a l = true from hl)]; rfl
  | .a i :: l, hl => by
    simp only [visS, Bool.and_eq_true] at hl
    rw [denS_cons, denS_cons, visS_den h hl.2]
    show ρ'.s i ++ _ = ρ.s i ++ _
    rw [h i (memN_iff.1 hl.1)]
theorem visJ_at {a b : List Nat} (h : ∀ i, i ∈ a → ρ'.s i = ρ.s i) (hv : ∀ i, i ∈ b → ρ'.v i = ρ.v i) {j : Nat} (hj : visJ a b j = true) : ρ'.at j = ρ.at j := by
  unfold visJ at hj
  split at hj
  · rename_i hm
    have hm : j % 4 = 1 := Nat.eq_of_beq_eq_true hm
    obtain ⟨i, rfl⟩ : ∃ i, j = 4 * i + 1 := ⟨j / 4, by omega⟩
    have hj := memN_iff.1 hj
    rw [show Nat.div (4 * i + 1) 4 = i by show (4 * i + 1) / 4 = i; omega] at hj
    rw [Rho.at_l, Rho.at_l, h i hj]
  · simp only [Bool.and_eq_true] at hj
    have hm : j % 2 = 0 := Nat.eq_of_beq_eq_true hj.1
    obtain ⟨i, rfl⟩ : ∃ i, j = 2 * i := ⟨j / 2, by omega⟩
    have hj := memN_iff.1 hj.2
    rw [show Nat.div (2 * i) 2 = i by show 2 * i / 2 = i; omega] at hj
    rw [Rho.at_v, Rho.at_v, hv i hj]
theorem vis_mp {a b : List Nat} (h : ∀ i, i ∈ a → ρ'.s i = ρ.s i) (hv : ∀ i, i ∈ b → ρ'.v i = ρ.v i) : MpOk ρ ρ' (fun l => l) (fun e => e) (visS a) (onL (visJ a b)) :=
  ⟨fun l hl => visS_den h hl, fun e he => by
    have := sbL_den (ρ := ρ) (ρ' := ρ') (f := fun i => .mk 0 [(i, 1)]) (p := visJ a b) (fun i hi => by
      simp only [Lin.den, dts]
      rw [visJ_at h hv hi]; omega) he
    rw [← this]
    have id : ∀ (l : List (Nat × Int)) (r : Lin), (sbT (fun i => .mk 0 [(i, 1)]) l r).den ρ' = r.den ρ' + dts ρ' l := fun l r => sbT_den (ρ := ρ') (p := fun _ => true) (fun i _ => by simp only [Lin.den, dts]; omega) (by
      induction l with
      | nil => rfl
      | cons x l ih => exact ih)
    cases e with
    | mk c l =>
      show c + dts ρ' l = (sbT (fun i => .mk 0 [(i, 1)]) l (.mk c [])).den ρ'
      rw [id, const_den]⟩
theorem KnownOk.vis {k : Known} {a b : List Nat} (hk : visK a b k = true) (hl0 : mkK k.l0 .lf (fun _ => true) = true) (hl1 : mkK k.l1 .lf (fun _ => true) = true) (h : ∀ i, i ∈ a → ρ'.s i = ρ.s i) (hv : ∀ i, i ∈ b → ρ'.v i = ρ.v i) (hK : KnownOk P f k ρ) : KnownOk P f k ρ' := fun h0 => by
  simp only [visK, Bool.and_eq_true] at hk
  obtain ⟨⟨⟨⟨⟨k1, k2⟩, k3⟩, k4⟩, k5⟩, k6⟩ := hk
  have hm := vis_mp (ρ := ρ) (ρ' := ρ') h hv
  have idP : ∀ l : PC, mpP (fun e => e) l = l := fun l => by
    induction l with
    | nil => rfl
    | cons x l ih => rw [mpP, ih]
  have s0 : Sat ρ k.pc0 := (mpP_ok hm k3).1 (by rw [idP]; exact h0)
  have hc := hK s0
  have s1 : Sat ρ' k.pc1 := by
    have := (mpP_ok hm k6).2 hc.pc
    rwa [idP] at this
  have mid : ∀ (m : Mem) t, m.get t = (m.get t).map (mpB (fun l => l) (fun e => e)) := fun m t => by
    cases m.get t with
    | none => rfl
    | some b => rw [Option.map_some, mpB_id]
  have := CallR.mp hm hc s1 k1 k4 (mid _) (mid _) (fun t b hb => alL_ok k2 t b ((mkK_told hl0).2 t b hb)) (fun t b hb => alL_ok k5 t b ((mkK_told hl1).2 t b hb))
  rwa [mpVs_id, mpV_id] at this
end
end X
end Go.Proofs.YtebfahobllghnaaGreatDoor
namespace Go.Proofs.YtebfahobllghnaaGreatDoor
namespace X
def brk : List UInt8 → Nat
  | [] => 0
  | b :: l => (if b = 10 then 1 else 0) + brk l
end X
end Go.Proofs.YtebfahobllghnaaGreatDoor
