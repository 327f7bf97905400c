/-
  Own texts, put together by a program (flat.py): ReadW, RdA, RdB, RdZ, RdC, RdD, RdE.
-/
import Derived.Test.YtocmchlhbniloaaFt3
set_option linter.unusedSimpArgs false
set_option linter.unusedVariables false
set_option linter.unusedSectionVars false
namespace Go.Proofs.Ytocmchlhbniloaa
namespace B
open Go.RowKit
theorem r_nilCheck {P : Program} {a : Act} {o : Oper} {w : World} {x : Operand} {v : Value} {p : Addr} (ho : o.op = .nilCheck x) (hx : a.eval x = v) (hv : v = .pointer (some p)) : Runs P a o w v := by
  subst hv
  simp [Runs, execOp, ho, hx]
def Al : Foot := fun _ => True
def ptrFoot (v : Value) : Foot := fun g => v = .pointer (some ⟨g, 0, none⟩)
theorem boxR.foot {ty : Nat} {cells : List Value} {T : Foot} {v : Value} {w : World} (h : boxR ty cells T v w) : boxR ty cells (ptrFoot v) v w := by
  obtain ⟨g, rfl, hlt, _, hg⟩ := h
  exact ⟨g, rfl, hlt, rfl, hg⟩
theorem boxR.own {ty : Nat} {cells : List Value} {T : Foot} {v : Value} {w : World} (h : boxR ty cells T v w) {g : Nat} (hg : ptrFoot v g) : T g := by
  obtain ⟨g', rfl, _, hT, _⟩ := h
  unfold ptrFoot at hg
  simp at hg
  rw [← hg]; exact hT
theorem boxR.back {ty ty' : Nat} {cells cells' : List Value} {T : Foot} {v : Value} {w w' : World} (h : boxR ty cells (ptrFoot v) v w') (h' : boxR ty' cells' T v w) : boxR ty cells T v w' := by
  obtain ⟨g, hv, hlt, hT, hg⟩ := h
  exact ⟨g, hv, hlt, h'.own hT, hg⟩
theorem boxR.ext {ty : Nat} {cells : List Value} {T : Foot} {v : Value} {w w1 w2 : World} (h : boxR ty cells T v w) (hx : Ext (ptrFoot v) w1 w2) : Ext T w1 w2 := hx.mono fun _ _ hg => h.own hg
theorem boxR.lt {ty : Nat} {cells : List Value} {T : Foot} {v : Value} {w : World} (h : boxR ty cells T v w) : ∀ g, ptrFoot v g → g < w.heap.size := fun g hg => by
  obtain ⟨g', rfl, hlt, _, _⟩ := h
  unfold ptrFoot at hg
  simp at hg
  omega
structure RdR (ty : Nat) (v : Value) (cv : Sv) (cs : List ByteArray) (i : Nat) (w : World) : Prop where
  box : boxR ty [cv.v, .int .i64 (i : Int)] (ptrFoot v) v w
  sl : SlT StrE w cv.v cs
  ne : cs ≠ [] → ¬ ptrFoot v (ptrOf cv.v).block
theorem rdr {ty : Nat} {v : Value} {cv : Sv} {cs : List ByteArray} {i : Nat} {w : World} {T Z : Foot} (hb : boxR ty [cv.v, .int .i64 (i : Int)] T v w) (hz : (zSl StrE Al cv.v cs).P Z w) (hd : ∀ g, T g → ¬ Z g) : RdR ty v cv cs i w :=
  ⟨hb.foot, hz.1, fun hn hg => hd _ (hb.own hg) (hz.2 hn).1⟩
theorem RdR.inz {ty : Nat} {v : Value} {cv : Sv} {cs : List ByteArray} {i : Nat} {w : World} {n : Nat} {a : Act} {τ0 : Nat → Foot} (h : RdR ty v cv cs i w) (st : St (fun k => ptrFoot v k ∨ w.heap.size ≤ k) w n a w τ0) : Fz (zSl StrE Al cv.v cs) τ0 w :=
  ⟨h.sl, fun hn => ⟨⟨h.sl.lt hn, fun s hs => by
    rcases (st.bnd s _ hs).1 with h1 | h1
    · exact h.ne hn h1
    · have := h.sl.lt hn; omega⟩, trivial⟩⟩
def dbox (ty : Nat) (N : Foot) (tag t : Nat) (p : Value) (cells : List Value) (v : Value) : Spec N := ⟨some tag, t, fun _ T u w => u = v ∧ boxR ty cells T p w, fun _ _ T u w w' _ h hr => ⟨hr.1, boxR_loc T p w w' h.less hr.2⟩, fun u => u = v, fun _ _ _ _ h => h.1⟩
section
variable {N : Foot} {P : Program} {ops : Array Oper} {sp : List (Spec N)} {In : Nat → Ini N} {a0 : Act} {w0 W : World} {bf : List Nat} {j : Nat} {o : Oper} {s : Spec N} {done : Nat → Bool} {a : Act} {w : World} {τ : Nat → Foot}
theorem Ob.db {ty tag t : Nat} {p v : Value} {cells : List Value} (h : ∀ {done a w τ}, Cx ops sp In a0 w0 bf j o done a w τ → ∃ g args, Enters P a o w g args ∧ Calls P g args w (fun e w' => e = .returned v ∧ Ext (τ tag) w w' ∧ boxR ty cells (τ tag) p w'))
    (hs : s = dbox ty N tag t p cells v := by exact rfl) (hg : o.guard = none := by exact rfl) (hd : o.dst = some t := by exact rfl) : Ob ops sp In a0 w0 P bf j o s := by
  subst hs
  refine Ob.callT (tag := tag) hg rfl fun done a w τ c => ?_
  obtain ⟨g, args, h1, h2⟩ := h c
  refine ⟨g, args, h1, h2.mono fun e w' ⟨he, hx, hb⟩ => ⟨v, he, hx, τ tag, fun g h => .inl h, ?_, hb⟩⟩
  show get (a.put o.dst v) t = v
  rw [hd, get_put a t t _ (c.lt t hd), if_pos rfl]
theorem Cx.dv {ty t slot : Nat} {p v : Value} {cells : List Value} (c : Cx ops sp In a0 w0 bf j o done a w τ) (i : Nat) (hs : sp[i]? = some (dbox ty N t slot p cells v)) (hb : (bf.getD j 0).testBit i = true := by exact rfl) : a.eval (.tmp slot) = v := c.J.pur i _ hs (c.pre i hb)
theorem Cx.db {ty t slot : Nat} {p v : Value} {cells : List Value} (c : Cx ops sp In a0 w0 bf j o done a w τ) (i : Nat) (hs : sp[i]? = some (dbox ty N t slot p cells v)) (hl : lastTag (sp.map (·.tag)) t j = some i := by exact rfl) (hord : ordB (sp.map (·.tag)) bf t j = true := by kernel_rfl) : boxR ty cells (τ t) p w := (c.res i t _ hs hl hord).2
theorem db_of {f : FuncId} {args : Array Value} {ty ty' : Nat} {p v : Value} {cells cells' : List Value} {T : Foot} (hb : boxR ty' cells' T p w) (h : Calls P f args w (fun e w' => e = .returned v ∧ Ext (ptrFoot p) w w' ∧ boxR ty cells (ptrFoot p) p w')) : Calls P f args w (fun e w' => e = .returned v ∧ Ext T w w' ∧ boxR ty cells T p w') :=
  h.mono fun e w' ⟨h1, h2, h3⟩ => ⟨h1, hb.ext h2, h3.back hb⟩
theorem Cx.tzs {t : Tr} {F : Foot} {n : Nat} {a1 : Act} {τ0 : Nat → Foot} {w' : World} (c : Cx ops sp In a0 w0 bf j o done a w τ) (st : St N W n a1 w0 τ0) (hx : w.heap.size ≤ w'.heap.size) (h : TrT (Gn (fun g => Zof τ w g ∧ Gn F W g) w) w' t) : (zTr (Gn F W) t).P (Zof τ w') w' := TrT.mono h (c.gz (c.hW st) hx)
theorem Cx.tns {t : Tr} {F : Foot} {n : Nat} {a1 : Act} {τ0 : Nat → Foot} {w' : World} (c : Cx ops sp In a0 w0 bf j o done a w τ) (st : St N W n a1 w0 τ0) (hx : w.heap.size ≤ w'.heap.size) (h : TrT (Gn none' w) w' t) : (zTr (Gn F W) t).P (Zof τ w') w' := c.tzs st hx (h.mono fun g hg _ => hg.elim (fun h => h.elim) .inr)
theorem Cx.sns {α : Type} {E : Enc α} {xs : List α} {v : Value} {F : Foot} {n : Nat} {a1 : Act} {τ0 : Nat → Foot} {w' : World} (c : Cx ops sp In a0 w0 bf j o done a w τ) (st : St N W n a1 w0 τ0) (hx : w.heap.size ≤ w'.heap.size) (h : SlT E w' v xs ∧ (xs ≠ [] → w.heap.size ≤ (ptrOf v).block)) : (zSl E (Gn F W) v xs).P (Zof τ w') w' :=
  ⟨h.1, fun hn => c.gz (c.hW st) hx _ (.inr (h.2 hn)) (h.1.lt hn)⟩
end
section
variable {N : Foot} {l : List Oper} {sp : List (Spec N)} {il : List (Ini N)} {a0 a : Act} {w : World} {τ : Nat → Foot}
theorem Fin.dv (h : Fin l sp il a0 a w τ) {ty t slot : Nat} {p v : Value} {cells : List Value} (j : Nat) (hs : sp[j]? = some (dbox ty N t slot p cells v)) (hl : lastTag (sp.map (·.tag)) t sp.length = some j := by exact rfl) : get a slot = v := (h.res j t _ hs rfl hl).1
theorem Fin.db (h : Fin l sp il a0 a w τ) {ty t slot : Nat} {p v : Value} {cells : List Value} (j : Nat) (hs : sp[j]? = some (dbox ty N t slot p cells v)) (hl : lastTag (sp.map (·.tag)) t sp.length = some j := by exact rfl) : boxR ty cells (τ t) p w := (h.res j t _ hs rfl hl).2
end
theorem boxR.cast {ty : Nat} {cs cs' : List Value} {T : Foot} {v : Value} {w : World} (h : boxR ty cs T v w) (e : cs' = cs) : boxR ty cs' T v w := e ▸ h
theorem ret3 {P : Program} {fn : Func} {R : Ending → World → Prop} {a : Act} {w : World} {t t' t2 : Nat} {v v' v2 : Value} (hr : fn.results = #[.tmp t, .tmp t', .tmp t2]) (hd : a.defers = []) (hv : get a t = v) (hv' : get a t' = v') (hv2 : get a t2 = v2) (h : R (.returned (.tuple #[v, v', v2])) w) : bodyPost P fn R .ret a w :=
  bodyPost_ret (v := .tuple #[v, v', v2]) (by
    have h0 : (a.tmps[t]?).getD undef = v := by rw [← Array.getD_eq_getD_getElem?]; exact hv
    have h1 : (a.tmps[t']?).getD undef = v' := by rw [← Array.getD_eq_getD_getElem?]; exact hv'
    have h2 : (a.tmps[t2]?).getD undef = v2 := by rw [← Array.getD_eq_getD_getElem?]; exact hv2
    simp only [results, hr]
    simp [h0, h1, h2]) hd h
def rdAt (v : Value) (w : World) : Nat := match w.cell? ((ptrOf v).add 1) with
  | some (.int _ n) => n.toNat
  | _ => 0
theorem rdAt_eq {ty : Nat} {v x : Value} {i : Nat} {T : Foot} {w : World} (h : boxR ty [x, .int .i64 (i : Int)] T v w) : rdAt v w = i := by
  unfold rdAt
  rw [h.cell (j := 1) rfl]
  simp
section
variable {N : Foot} {P : Program} {ops : Array Oper} {sp : List (Spec N)} {In : Nat → Ini N} {a0 : Act} {w0 : World} {bf : List Nat} {j : Nat} {o : Oper} {s : Spec N}
theorem Ob.du (gi : Nat) {tg t : Nat} {want b : Bool} (hs : s = B.det N t undef := by exact rfl) (hg : o.guard = some (gi, want) := by exact rfl) (hd : o.dst = some t := by exact rfl) (hgd : ((ops[gi]?).bind (·.dst)) = some tg := by exact rfl) (hgs : sp[gi]? = some (B.det N tg (.bool b)) := by exact rfl) (hb : (bf.getD j 0).testBit gi = true := by exact rfl) (hne : b ≠ want := by decide) : Ob ops sp In a0 w0 P bf j o s := by
  intro done a w τ c
  subst hs
  have hv := get_bool (c.v gi hgs hb)
  refine ⟨fun hn => ?_, fun _ => ⟨Ext.refl _ _, ?_⟩⟩
  · exfalso
    cases want <;> cases b <;> simp [Region.wanted, hg, yielded, hgd, hv] at hn hne
  · show get (a.put o.dst undef) t = undef
    rw [hd, get_put a t t _ (c.lt t hd), if_pos rfl]
theorem Ob.du2 (gi : Nat) {tg t : Nat} {want : Bool} (hs : s = B.det N t undef := by exact rfl) (hg : o.guard = some (gi, want) := by exact rfl) (hd : o.dst = some t := by exact rfl) (hgd : ((ops[gi]?).bind (·.dst)) = some tg := by exact rfl) (hgs : sp[gi]? = some (B.det N tg undef) := by exact rfl) (hb : (bf.getD j 0).testBit gi = true := by exact rfl) : Ob ops sp In a0 w0 P bf j o s := by
  intro done a w τ c
  subst hs
  have hv := get_undef (c.v gi hgs hb)
  have hy : yielded ops a.tmps gi = none := by
    cases h' : a.tmps[tg]? with
    | none => simp [yielded, hgd, h']
    | some u => cases u <;> first | exact absurd h' (hv _) | simp [yielded, hgd, h']
  refine ⟨fun hn => ?_, fun _ => ⟨Ext.refl _ _, ?_⟩⟩
  · exfalso
    simp [Region.wanted, hg, hy] at hn
  · show get (a.put o.dst undef) t = undef
    rw [hd, get_put a t t _ (c.lt t hd), if_pos rfl]
end
theorem zapp {G Z : Foot} {w : World} {ts us : List Tr} (h : (zTl G ts).P Z w) (h2 : (zTl G us).P Z w) : (zTl G (ts ++ us)).P Z w := fun x hx => (List.mem_append.1 hx).elim (h x) (h2 x)
end B
end Go.Proofs.Ytocmchlhbniloaa
namespace Go.Proofs.Ytocmchlhbniloaa
namespace B
open Go.RowKit
open Srt
set_option maxRecDepth 100000 in
theorem digit_c (b : Int) (w : World) : Calls Try.prog 73 #[.int .u8 b] w (fun e w' => e = .returned (.bool (digitB b)) ∧ Ext none' w w') := by
 refine enter (n := 9) Try.func73 rfl rfl (Nat.le_of_ble_eq_true rfl) ?_
 intro a0 τ0 ha st0
 have e0 : get a0 0 = (.int .u8 (b)) := ha 0 _ rfl
 clear ha
 refine wp_seq ?_
 refine region_St (bf := [0]) (sp := [det _ 2 _]) [] mixed st0 (by kernel_rfl) trivial
  ⟨Ob.d fun c => r_assign rfl rfl, trivial⟩ ?_
 intro a1 w1 τ1 st1 f1
 obtain ⟨e0, -⟩ := f1.ks [(0, _)] ⟨e0, trivial⟩
 have e2 : get a1 2 = (.bool (false)) := f1.v 0 rfl
 clear f1
 show Code.wp _ _ _ a1 w1
 refine wp_seq ?_
 refine region_St (bf := [0, 1, 3, 7, 15, 31, 63]) (sp := [det _ 3 _, det _ 4 _, det _ 5 _, gdet _ 6 _ _, gdet _ 7 _ _, det _ 8 _, det _ 2 _]) [] mixed st1 (by kernel_rfl) trivial
  ⟨Ob.d fun c => r_move rfl (c.p e0),
  Ob.d fun c => r_geq rfl (c.n 0 rfl) rfl,
  Ob.d fun c => r_move rfl (c.n 1 rfl),
  Ob.g 2 true rfl fun c hpc => r_move rfl (c.p e0),
  Ob.g 2 true rfl fun c hpc => r_leq rfl (c.m 3 rfl hpc) rfl,
  Ob.d fun c => r_and rfl (c.n 2 rfl) (fun h => c.m 4 rfl h),
  Ob.d fun c => r_assign rfl (c.n 5 rfl), trivial⟩ ?_
 intro a2 w2 τ2 st2 f2
 have e2 : get a2 2 = (.bool ((decide (48 ≤ b)) && (decide (b ≤ 57)))) := f2.v 6 rfl
 clear f2
 show Code.wp _ _ _ a2 w2
 refine wp_ret ?_
 repeat (first | with_reducible refine then_ret ?_ | with_reducible refine block_ret ?_)
 refine ret1 (fn := Try.f73) rfl st2.defers e2 ?_
 exact ⟨rfl, st2.ext0⟩
set_option maxRecDepth 100000 in
theorem letter_c (b : Int) (w : World) : Calls Try.prog 74 #[.int .u8 b] w (fun e w' => e = .returned (.bool (letterB b)) ∧ Ext none' w w') := by
 refine enter (n := 17) Try.func74 rfl rfl (Nat.le_of_ble_eq_true rfl) ?_
 intro a0 τ0 ha st0
 have e0 : get a0 0 = (.int .u8 (b)) := ha 0 _ rfl
 clear ha
 refine wp_seq ?_
 refine region_St (bf := [0]) (sp := [det _ 2 _]) [] mixed st0 (by kernel_rfl) trivial
  ⟨Ob.d fun c => r_assign rfl rfl, trivial⟩ ?_
 intro a1 w1 τ1 st1 f1
 obtain ⟨e0, -⟩ := f1.ks [(0, _)] ⟨e0, trivial⟩
 have e2 : get a1 2 = (.bool (false)) := f1.v 0 rfl
 clear f1
 show Code.wp _ _ _ a1 w1
 refine wp_seq ?_
 refine region_St (bf := [0, 1, 3, 7, 15, 31, 63, 127, 255, 511, 1023, 2047, 4095, 8191, 16383]) (sp := [det _ 3 _, det _ 4 _, det _ 5 _, gdet _ 6 _ _, gdet _ 7 _ _, det _ 8 _, det _ 9 _, gdet _ 10 _ _, gdet _ 11 _ _, gdet _ 12 _ _, gdet _ 13 _ _, gdet _ 14 _ _, gdet _ 15 _ _, det _ 16 _, det _ 2 _]) [] mixed st1 (by kernel_rfl) trivial
  ⟨Ob.d fun c => r_move rfl (c.p e0),
  Ob.d fun c => r_geq rfl (c.n 0 rfl) rfl,
  Ob.d fun c => r_move rfl (c.n 1 rfl),
  Ob.g 2 true rfl fun c hpc => r_move rfl (c.p e0),
  Ob.g 2 true rfl fun c hpc => r_leq rfl (c.m 3 rfl hpc) rfl,
  Ob.d fun c => r_and rfl (c.n 2 rfl) (fun h => c.m 4 rfl h),
  Ob.d fun c => r_move rfl (c.n 5 rfl),
  Ob.g 6 false rfl fun c hpc => r_move rfl (c.p e0),
  Ob.g 6 false rfl fun c hpc => r_geq rfl (c.m 7 rfl hpc) rfl,
  Ob.g 6 false rfl fun c hpc => r_move rfl (c.m 8 rfl hpc),
  Ob.gg 9 true rfl fun c hpc => r_move rfl (c.p e0),
  Ob.gg 9 true rfl fun c hpc => r_leq rfl (c.m 10 rfl hpc) rfl,
  Ob.g 6 false rfl fun c hpc => r_and rfl (c.m 9 rfl hpc) (fun h => c.m 11 rfl (And.intro hpc h)),
  Ob.d fun c => r_or rfl (c.n 6 rfl) (fun h => c.m 12 rfl h),
  Ob.d fun c => r_assign rfl (c.n 13 rfl), trivial⟩ ?_
 intro a2 w2 τ2 st2 f2
 have e2 : get a2 2 = (.bool (((decide (65 ≤ b)) && (decide (b ≤ 90))) || ((decide (97 ≤ b)) && (decide (b ≤ 122))))) := f2.v 14 rfl
 clear f2
 show Code.wp _ _ _ a2 w2
 refine wp_ret ?_
 repeat (first | with_reducible refine then_ret ?_ | with_reducible refine block_ret ?_)
 refine ret1 (fn := Try.f74) rfl st2.defers e2 ?_
 exact ⟨rfl, st2.ext0⟩
set_option maxRecDepth 100000 in
theorem esc_c (s : ByteArray) (w : World) : Calls Try.prog 72 #[(.string (s))] w (fun e w' => e = .returned (.tuple #[.string (escF s).1, .bool (escF s).2]) ∧ Ext none' w w') := by
 refine enter (n := 31) Try.func72 rfl rfl (Nat.le_of_ble_eq_true rfl) ?_
 intro a0 τ0 ha st0
 have e0 : get a0 0 = (.string (s)) := ha 0 _ rfl
 clear ha
 refine wp_seq ?_
 refine region_St (bf := [0, 1]) (sp := [det _ 2 _, det _ 3 _]) [] mixed st0 (by kernel_rfl) trivial
  ⟨Ob.d fun c => r_assign rfl rfl,
  Ob.d fun c => r_assign rfl rfl, trivial⟩ ?_
 intro a1 w1 τ1 st1 f1
 obtain ⟨e0, -⟩ := f1.ks [(0, _)] ⟨e0, trivial⟩
 have e2 : get a1 2 = (.string ((⟨#[]⟩ : ByteArray))) := f1.v 0 rfl
 have e3 : get a1 3 = (.bool (false)) := f1.v 1 rfl
 clear f1
 show Code.wp _ _ _ a1 w1
 refine wp_seq ?_
 refine wp_seq ?_
 refine region_St (bf := [0]) (sp := [det _ 4 _]) [] mixed st1 (by kernel_rfl) trivial
  ⟨Ob.d fun c => r_move rfl (c.p e0), trivial⟩ ?_
 intro a2 w2 τ2 st2 f2
 obtain ⟨e0, e2, e3, -⟩ := f2.ks [(0, _), (2, _), (3, _)] ⟨e0, e2, e3, trivial⟩
 have e4 : get a2 4 = (.string (s)) := f2.v 0 rfl
 clear f2
 show Code.wp _ _ _ a2 w2
 refine wp_block ?_
 refine wp_seq ?_
 refine region_St (bf := [0, 1]) (sp := [det _ 6 _, det _ 5 _]) [] mixed st2 (by kernel_rfl) trivial
  ⟨Ob.d fun c => r_seql rfl (c.p e4) rfl,
  Ob.d fun c => r_assign rfl (c.n 0 rfl), trivial⟩ ?_
 intro a3 w3 τ3 st3 f3
 obtain ⟨e0, e2, e3, e4, -⟩ := f3.ks [(0, _), (2, _), (3, _), (4, _)] ⟨e0, e2, e3, e4, trivial⟩
 have e5 : get a3 5 = (.bool (eqT s (⟨#[]⟩ : ByteArray))) := f3.v 1 rfl
 clear f3
 show Code.wp _ _ _ a3 w3
 refine wp_cond_split (t := eqT s (⟨#[]⟩ : ByteArray)) e5 (fun hc1 => ?_) (fun hc1 => ?_)
 · have hd1 := hc1; skip
   refine wp_seq ?_
   refine region_St (bf := [0, 1]) (sp := [det _ 2 _, det _ 3 _]) [] mixed st3 (by kernel_rfl) trivial
    ⟨Ob.d fun c => r_assign rfl rfl,
    Ob.d fun c => r_assign rfl rfl, trivial⟩ ?_
   intro a4 w4 τ4 st4 f4
   obtain ⟨e0, e4, -⟩ := f4.ks [(0, _), (4, _)] ⟨e0, e4, trivial⟩
   have e2 : get a4 2 = (.string ((⟨#[]⟩ : ByteArray))) := f4.v 0 rfl
   have e3 : get a4 3 = (.bool (false)) := f4.v 1 rfl
   clear f4
   show Code.wp _ _ _ a4 w4
   refine wp_ret ?_
   repeat (first | with_reducible refine then_ret ?_ | with_reducible refine block_ret ?_)
   refine ret2 (fn := Try.f72) rfl st4.defers e2 e3 ?_
   exact ⟨congrArg _ (show (Value.tuple #[(.string ((⟨#[]⟩ : ByteArray))), (.bool (false))]) = .tuple #[.string (escF s).1, .bool (escF s).2] from by rw [show escF s = ((⟨#[]⟩ : ByteArray), false) from (by unfold escF; (repeat (first | rw [if_neg (by first | assumption | (simp only [Bool.not_eq_true]; assumption) | (simp only [Bool.not_eq_false]; assumption))] | rw [if_pos (by assumption)])))]), st4.ext0⟩
 have hd1 := hc1; skip
 refine wp_seq ?_
 refine region_St (bf := [0, 1]) (sp := [det _ 8 _, det _ 7 _]) [] mixed st3 (by kernel_rfl) trivial
  ⟨Ob.d fun c => r_seql rfl (c.p e4) rfl,
  Ob.d fun c => r_assign rfl (c.n 0 rfl), trivial⟩ ?_
 intro a5 w5 τ5 st5 f5
 obtain ⟨e0, e2, e3, e4, -⟩ := f5.ks [(0, _), (2, _), (3, _), (4, _)] ⟨e0, e2, e3, e4, trivial⟩
 have e7 : get a5 7 = (.bool (eqT s (⟨#[110]⟩ : ByteArray))) := f5.v 1 rfl
 clear f5
 show Code.wp _ _ _ a5 w5
 refine wp_cond_split (t := eqT s (⟨#[110]⟩ : ByteArray)) e7 (fun hc2 => ?_) (fun hc2 => ?_)
 · have hd2 := hc2; skip
   refine wp_seq ?_
   refine region_St (bf := [0, 1]) (sp := [det _ 2 _, det _ 3 _]) [] mixed st5 (by kernel_rfl) trivial
    ⟨Ob.d fun c => r_assign rfl rfl,
    Ob.d fun c => r_assign rfl rfl, trivial⟩ ?_
   intro a6 w6 τ6 st6 f6
   obtain ⟨e0, e4, -⟩ := f6.ks [(0, _), (4, _)] ⟨e0, e4, trivial⟩
   have e2 : get a6 2 = (.string ((⟨#[10]⟩ : ByteArray))) := f6.v 0 rfl
   have e3 : get a6 3 = (.bool (true)) := f6.v 1 rfl
   clear f6
   show Code.wp _ _ _ a6 w6
   refine wp_ret ?_
   repeat (first | with_reducible refine then_ret ?_ | with_reducible refine block_ret ?_)
   refine ret2 (fn := Try.f72) rfl st6.defers e2 e3 ?_
   exact ⟨congrArg _ (show (Value.tuple #[(.string ((⟨#[10]⟩ : ByteArray))), (.bool (true))]) = .tuple #[.string (escF s).1, .bool (escF s).2] from by rw [show escF s = ((⟨#[10]⟩ : ByteArray), true) from (by unfold escF; (repeat (first | rw [if_neg (by first | assumption | (simp only [Bool.not_eq_true]; assumption) | (simp only [Bool.not_eq_false]; assumption))] | rw [if_pos (by assumption)])))]), st6.ext0⟩
 have hd2 := hc2; skip
 refine wp_seq ?_
 refine region_St (bf := [0, 1]) (sp := [det _ 10 _, det _ 9 _]) [] mixed st5 (by kernel_rfl) trivial
  ⟨Ob.d fun c => r_seql rfl (c.p e4) rfl,
  Ob.d fun c => r_assign rfl (c.n 0 rfl), trivial⟩ ?_
 intro a7 w7 τ7 st7 f7
 obtain ⟨e0, e2, e3, e4, -⟩ := f7.ks [(0, _), (2, _), (3, _), (4, _)] ⟨e0, e2, e3, e4, trivial⟩
 have e9 : get a7 9 = (.bool (eqT s (⟨#[114]⟩ : ByteArray))) := f7.v 1 rfl
 clear f7
 show Code.wp _ _ _ a7 w7
 refine wp_cond_split (t := eqT s (⟨#[114]⟩ : ByteArray)) e9 (fun hc3 => ?_) (fun hc3 => ?_)
 · have hd3 := hc3; skip
   refine wp_seq ?_
   refine region_St (bf := [0, 1]) (sp := [det _ 2 _, det _ 3 _]) [] mixed st7 (by kernel_rfl) trivial
    ⟨Ob.d fun c => r_assign rfl rfl,
    Ob.d fun c => r_assign rfl rfl, trivial⟩ ?_
   intro a8 w8 τ8 st8 f8
   obtain ⟨e0, e4, -⟩ := f8.ks [(0, _), (4, _)] ⟨e0, e4, trivial⟩
   have e2 : get a8 2 = (.string ((⟨#[13]⟩ : ByteArray))) := f8.v 0 rfl
   have e3 : get a8 3 = (.bool (true)) := f8.v 1 rfl
   clear f8
   show Code.wp _ _ _ a8 w8
   refine wp_ret ?_
   repeat (first | with_reducible refine then_ret ?_ | with_reducible refine block_ret ?_)
   refine ret2 (fn := Try.f72) rfl st8.defers e2 e3 ?_
   exact ⟨congrArg _ (show (Value.tuple #[(.string ((⟨#[13]⟩ : ByteArray))), (.bool (true))]) = .tuple #[.string (escF s).1, .bool (escF s).2] from by rw [show escF s = ((⟨#[13]⟩ : ByteArray), true) from (by unfold escF; (repeat (first | rw [if_neg (by first | assumption | (simp only [Bool.not_eq_true]; assumption) | (simp only [Bool.not_eq_false]; assumption))] | rw [if_pos (by assumption)])))]), st8.ext0⟩
 have hd3 := hc3; skip
 refine wp_seq ?_
 refine region_St (bf := [0, 1]) (sp := [det _ 12 _, det _ 11 _]) [] mixed st7 (by kernel_rfl) trivial
  ⟨Ob.d fun c => r_seql rfl (c.p e4) rfl,
  Ob.d fun c => r_assign rfl (c.n 0 rfl), trivial⟩ ?_
 intro a9 w9 τ9 st9 f9
 obtain ⟨e0, e2, e3, e4, -⟩ := f9.ks [(0, _), (2, _), (3, _), (4, _)] ⟨e0, e2, e3, e4, trivial⟩
 have e11 : get a9 11 = (.bool (eqT s (⟨#[116]⟩ : ByteArray))) := f9.v 1 rfl
 clear f9
 show Code.wp _ _ _ a9 w9
 refine wp_cond_split (t := eqT s (⟨#[116]⟩ : ByteArray)) e11 (fun hc4 => ?_) (fun hc4 => ?_)
 · have hd4 := hc4; skip
   refine wp_seq ?_
   refine region_St (bf := [0, 1]) (sp := [det _ 2 _, det _ 3 _]) [] mixed st9 (by kernel_rfl) trivial
    ⟨Ob.d fun c => r_assign rfl rfl,
    Ob.d fun c => r_assign rfl rfl, trivial⟩ ?_
   intro a10 w10 τ10 st10 f10
   obtain ⟨e0, e4, -⟩ := f10.ks [(0, _), (4, _)] ⟨e0, e4, trivial⟩
   have e2 : get a10 2 = (.string ((⟨#[9]⟩ : ByteArray))) := f10.v 0 rfl
   have e3 : get a10 3 = (.bool (true)) := f10.v 1 rfl
   clear f10
   show Code.wp _ _ _ a10 w10
   refine wp_ret ?_
   repeat (first | with_reducible refine then_ret ?_ | with_reducible refine block_ret ?_)
   refine ret2 (fn := Try.f72) rfl st10.defers e2 e3 ?_
   exact ⟨congrArg _ (show (Value.tuple #[(.string ((⟨#[9]⟩ : ByteArray))), (.bool (true))]) = .tuple #[.string (escF s).1, .bool (escF s).2] from by rw [show escF s = ((⟨#[9]⟩ : ByteArray), true) from (by unfold escF; (repeat (first | rw [if_neg (by first | assumption | (simp only [Bool.not_eq_true]; assumption) | (simp only [Bool.not_eq_false]; assumption))] | rw [if_pos (by assumption)])))]), st10.ext0⟩
 have hd4 := hc4; skip
 refine wp_seq ?_
 refine region_St (bf := [0, 1]) (sp := [det _ 14 _, det _ 13 _]) [] mixed st9 (by kernel_rfl) trivial
  ⟨Ob.d fun c => r_seql rfl (c.p e4) rfl,
  Ob.d fun c => r_assign rfl (c.n 0 rfl), trivial⟩ ?_
 intro a11 w11 τ11 st11 f11
 obtain ⟨e0, e2, e3, e4, -⟩ := f11.ks [(0, _), (2, _), (3, _), (4, _)] ⟨e0, e2, e3, e4, trivial⟩
 have e13 : get a11 13 = (.bool (eqT s (⟨#[102]⟩ : ByteArray))) := f11.v 1 rfl
 clear f11
 show Code.wp _ _ _ a11 w11
 refine wp_cond_split (t := eqT s (⟨#[102]⟩ : ByteArray)) e13 (fun hc5 => ?_) (fun hc5 => ?_)
 · have hd5 := hc5; skip
   refine wp_seq ?_
   refine region_St (bf := [0, 1]) (sp := [det _ 2 _, det _ 3 _]) [] mixed st11 (by kernel_rfl) trivial
    ⟨Ob.d fun c => r_assign rfl rfl,
    Ob.d fun c => r_assign rfl rfl, trivial⟩ ?_
   intro a12 w12 τ12 st12 f12
   obtain ⟨e0, e4, -⟩ := f12.ks [(0, _), (4, _)] ⟨e0, e4, trivial⟩
   have e2 : get a12 2 = (.string ((⟨#[12]⟩ : ByteArray))) := f12.v 0 rfl
   have e3 : get a12 3 = (.bool (true)) := f12.v 1 rfl
   clear f12
   show Code.wp _ _ _ a12 w12
   refine wp_ret ?_
   repeat (first | with_reducible refine then_ret ?_ | with_reducible refine block_ret ?_)
   refine ret2 (fn := Try.f72) rfl st12.defers e2 e3 ?_
   exact ⟨congrArg _ (show (Value.tuple #[(.string ((⟨#[12]⟩ : ByteArray))), (.bool (true))]) = .tuple #[.string (escF s).1, .bool (escF s).2] from by rw [show escF s = ((⟨#[12]⟩ : ByteArray), true) from (by unfold escF; (repeat (first | rw [if_neg (by first | assumption | (simp only [Bool.not_eq_true]; assumption) | (simp only [Bool.not_eq_false]; assumption))] | rw [if_pos (by assumption)])))]), st12.ext0⟩
 have hd5 := hc5; skip
 refine wp_seq ?_
 refine region_St (bf := [0, 1]) (sp := [det _ 16 _, det _ 15 _]) [] mixed st11 (by kernel_rfl) trivial
  ⟨Ob.d fun c => r_seql rfl (c.p e4) rfl,
  Ob.d fun c => r_assign rfl (c.n 0 rfl), trivial⟩ ?_
 intro a13 w13 τ13 st13 f13
 obtain ⟨e0, e2, e3, -⟩ := f13.ks [(0, _), (2, _), (3, _)] ⟨e0, e2, e3, trivial⟩
 have e15 : get a13 15 = (.bool (eqT s (⟨#[118]⟩ : ByteArray))) := f13.v 1 rfl
 clear f13
 show Code.wp _ _ _ a13 w13
 refine wp_cond_split (t := eqT s (⟨#[118]⟩ : ByteArray)) e15 (fun hc6 => ?_) (fun hc6 => ?_)
 · have hd6 := hc6; skip
   refine wp_seq ?_
   refine region_St (bf := [0, 1]) (sp := [det _ 2 _, det _ 3 _]) [] mixed st13 (by kernel_rfl) trivial
    ⟨Ob.d fun c => r_assign rfl rfl,
    Ob.d fun c => r_assign rfl rfl, trivial⟩ ?_
   intro a14 w14 τ14 st14 f14
   obtain ⟨e0, -⟩ := f14.ks [(0, _)] ⟨e0, trivial⟩
   have e2 : get a14 2 = (.string ((⟨#[11]⟩ : ByteArray))) := f14.v 0 rfl
   have e3 : get a14 3 = (.bool (true)) := f14.v 1 rfl
   clear f14
   show Code.wp _ _ _ a14 w14
   refine wp_ret ?_
   repeat (first | with_reducible refine then_ret ?_ | with_reducible refine block_ret ?_)
   refine ret2 (fn := Try.f72) rfl st14.defers e2 e3 ?_
   exact ⟨congrArg _ (show (Value.tuple #[(.string ((⟨#[11]⟩ : ByteArray))), (.bool (true))]) = .tuple #[.string (escF s).1, .bool (escF s).2] from by rw [show escF s = ((⟨#[11]⟩ : ByteArray), true) from (by unfold escF; (repeat (first | rw [if_neg (by first | assumption | (simp only [Bool.not_eq_true]; assumption) | (simp only [Bool.not_eq_false]; assumption))] | rw [if_pos (by assumption)])))]), st14.ext0⟩
 have hd6 := hc6; skip
 refine wp_skip ?_
 show _
 show Code.wp _ _ _ a13 w13
 refine wp_seq ?_
 refine wp_seq ?_
 refine region_St (bf := [0, 1, 3, 7, 15, 31, 63, 127, 255, 511, 1023, 2047, 4095]) (sp := [det _ 17 _, det _ 18 _, det _ 19 _, det _ 20 _, gdet _ 21 _ _, gdet _ 22 _ _, gdet _ 23 _ _, gdet _ 24 _ _, gdet _ 25 _ _, gdet _ 26 _ _, gdet _ 27 _ _, gdet _ 28 _ _, det _ 29 _]) [] mixed st13 (by kernel_rfl) trivial
  ⟨Ob.d fun c => r_move rfl (c.p e0),
  Ob.d fun c => r_lenS rfl Try.underlying9 (c.n 0 rfl),
  Ob.d fun c => r_eql rfl (c.n 1 rfl) rfl,
  Ob.d fun c => r_move rfl (c.n 2 rfl),
  Ob.g 3 true rfl fun c hpc => r_move rfl (c.p e0),
  Ob.g 3 true rfl fun c hpc => r_sindex rfl Try.underlying9 (c.m 4 rfl hpc) rfl (by have hq0 := bt hpc; omega) (by have hq0 := bt hpc; omega),
  Ob.gc 3 true rfl fun c hpc => ⟨_, _, (e_call1 rfl rfl Try.call74 (c.m 5 rfl hpc)), letter_c (byteAt s (0)) _⟩,
  Ob.g 3 true rfl fun c hpc => r_move rfl (c.m 6 rfl hpc),
  Ob.gg 7 false rfl fun c hpc => r_move rfl (c.p e0),
  Ob.gg 7 false rfl fun c hpc => r_sindex rfl Try.underlying9 (c.m 8 rfl hpc) rfl (by have hq0 := hpc.2; have hq1 := bt (hpc.1); omega) (by have hq0 := hpc.2; have hq1 := bt (hpc.1); omega),
  Ob.ggc 7 false rfl fun c hpc => ⟨_, _, (e_call1 rfl rfl Try.call73 (c.m 9 rfl hpc)), digit_c (byteAt s (0)) _⟩,
  Ob.g 3 true rfl fun c hpc => r_or rfl (c.m 7 rfl hpc) (fun h => c.m 10 rfl (And.intro hpc h)),
  Ob.d fun c => r_and rfl (c.n 3 rfl) (fun h => c.m 11 rfl h), trivial⟩ ?_
 intro a15 w15 τ15 st15 f15
 obtain ⟨e0, e2, e3, -⟩ := f15.ks [(0, _), (2, _), (3, _)] ⟨e0, e2, e3, trivial⟩
 have e29 : get a15 29 = (.bool ((decide ((s.size : Int) = 1)) && ((letterB (byteAt s (0))) || (digitB (byteAt s (0)))))) := f15.v 12 rfl
 clear f15
 show Code.wp _ _ _ a15 w15
 refine wp_cond_split (t := (decide ((s.size : Int) = 1)) && ((letterB (byteAt s (0))) || (digitB (byteAt s (0))))) e29 (fun hc7 => ?_) (fun hc7 => ?_)
 · have hd7 := hc7; try simp only [Bool.and_eq_true, Bool.or_eq_true, decide_eq_true_eq] at hd7
   refine wp_seq ?_
   refine region_St (bf := [0, 1]) (sp := [det _ 2 _, det _ 3 _]) [] mixed st15 (by kernel_rfl) trivial
    ⟨Ob.d fun c => r_assign rfl rfl,
    Ob.d fun c => r_assign rfl rfl, trivial⟩ ?_
   intro a16 w16 τ16 st16 f16
   obtain ⟨e0, -⟩ := f16.ks [(0, _)] ⟨e0, trivial⟩
   have e2 : get a16 2 = (.string ((⟨#[]⟩ : ByteArray))) := f16.v 0 rfl
   have e3 : get a16 3 = (.bool (false)) := f16.v 1 rfl
   clear f16
   show Code.wp _ _ _ a16 w16
   refine wp_ret ?_
   repeat (first | with_reducible refine then_ret ?_ | with_reducible refine block_ret ?_)
   refine ret2 (fn := Try.f72) rfl st16.defers e2 e3 ?_
   exact ⟨congrArg _ (show (Value.tuple #[(.string ((⟨#[]⟩ : ByteArray))), (.bool (false))]) = .tuple #[.string (escF s).1, .bool (escF s).2] from by rw [show escF s = ((⟨#[]⟩ : ByteArray), false) from (by unfold escF; (repeat (first | rw [if_neg (by first | assumption | (simp only [Bool.not_eq_true]; assumption) | (simp only [Bool.not_eq_false]; assumption))] | rw [if_pos (by assumption)])))]), st16.ext0⟩
 have hd7 := hc7; try simp only [Bool.and_eq_false_iff, Bool.or_eq_false_iff, decide_eq_false_iff_not] at hd7
 refine wp_skip ?_
 show Code.wp _ _ _ a15 w15
 refine wp_seq ?_
 refine region_St (bf := [0, 1, 3]) (sp := [det _ 30 _, det _ 2 _, det _ 3 _]) [] mixed st15 (by kernel_rfl) trivial
  ⟨Ob.d fun c => r_move rfl (c.p e0),
  Ob.d fun c => r_assign rfl (c.n 0 rfl),
  Ob.d fun c => r_assign rfl rfl, trivial⟩ ?_
 intro a17 w17 τ17 st17 f17
 have e2 : get a17 2 = (.string (s)) := f17.v 1 rfl
 have e3 : get a17 3 = (.bool (true)) := f17.v 2 rfl
 clear f17
 show Code.wp _ _ _ a17 w17
 refine wp_ret ?_
 repeat (first | with_reducible refine then_ret ?_ | with_reducible refine block_ret ?_)
 refine ret2 (fn := Try.f72) rfl st17.defers e2 e3 ?_
 exact ⟨congrArg _ (show (Value.tuple #[(.string (s)), (.bool (true))]) = .tuple #[.string (escF s).1, .bool (escF s).2] from by rw [show escF s = (s, true) from (by unfold escF; (repeat (first | rw [if_neg (by first | assumption | (simp only [Bool.not_eq_true]; assumption) | (simp only [Bool.not_eq_false]; assumption))] | rw [if_pos (by assumption)])))]), st17.ext0⟩
set_option maxRecDepth 100000 in
theorem see_p (v : Value) (cv : Sv) (cs : List ByteArray) (i : Nat) (w : World) (hm0 : w.cell? (ptrOf v) = some cv.v) (hm1 : w.cell? ((ptrOf v).add 1) = some (.int .i64 (i : Int))) (hS : SlT StrE w cv.v cs) : Calls Try.prog 47 #[(.pointer (some (ptrOf v)))] w (fun e w' => e = .returned (.string (seeF cs i)) ∧ Ext none' w w') := by
 refine enter (n := 23) Try.func47 rfl rfl (Nat.le_of_ble_eq_true rfl) ?_
 intro a0 τ0 ha st0
 have e0 : get a0 0 = (.pointer (some (ptrOf v))) := ha 0 _ rfl
 clear ha
 have hle := hS.le
 refine wp_seq ?_
 refine region_St (bf := [0]) (sp := [det _ 2 _]) [] mixed st0 (by kernel_rfl) trivial
  ⟨Ob.d fun c => r_assign rfl rfl, trivial⟩ ?_
 intro a1 w1 τ1 st1 f1
 obtain ⟨e0, -⟩ := f1.ks [(0, _)] ⟨e0, trivial⟩
 have e2 : get a1 2 = (.string ((⟨#[]⟩ : ByteArray))) := f1.v 0 rfl
 clear f1
 show Code.wp _ _ _ a1 w1
 refine wp_seq ?_
 refine wp_seq ?_
 refine region_St (bf := [0, 1, 3, 7, 0, 16, 48, 112, 240, 511]) (sp := [det _ 3 _, det _ 4 _, det _ 5 _, det _ 6 _, det _ 7 _, det _ 8 _, det _ 9 _, det _ 10 _, det _ 11 _, det _ 12 _]) [] mixed st1 (by kernel_rfl) trivial
  ⟨Ob.d fun c => r_move rfl (c.p e0),
  Ob.d fun c => r_nilCheck rfl (c.n 0 rfl) rfl,
  Ob.d fun c => r_fieldAddr rfl Try.underlying58 rfl rfl Try.sizeOf3 (c.n 1 rfl),
  Ob.d fun c => r_load1 rfl Try.isAgg3 (c.n 2 rfl) ((st1.ext.trans c.J.ext).cellAt hm1),
  Ob.d fun c => r_move rfl (c.p e0),
  Ob.d fun c => r_nilCheck rfl (c.n 4 rfl) rfl,
  Ob.d fun c => r_fieldAddr rfl Try.underlying58 rfl rfl Try.sizeOf32 (c.n 5 rfl),
  Ob.d fun c => r_load1 rfl Try.isAgg32 (c.n 6 rfl) ((st1.ext.trans c.J.ext).cellAt hm0),
  Ob.d fun c => r_len rfl Try.underlying32 (c.n 7 rfl) hS.sl,
  Ob.d fun c => r_geq rfl (c.n 3 rfl) (c.n 8 rfl), trivial⟩ ?_
 intro a2 w2 τ2 st2 f2
 obtain ⟨e0, e2, -⟩ := f2.ks [(0, _), (2, _)] ⟨e0, e2, trivial⟩
 have e12 : get a2 12 = (.bool (decide ((cs.length : Int) ≤ (i : Int)))) := f2.v 9 rfl
 clear f2
 show Code.wp _ _ _ a2 w2
 refine wp_cond_split (t := decide ((cs.length : Int) ≤ (i : Int))) e12 (fun hc1 => ?_) (fun hc1 => ?_)
 · try simp only [decide_eq_true_eq] at hc1
   refine wp_seq ?_
   refine region_St (bf := [0]) (sp := [det _ 2 _]) [] mixed st2 (by kernel_rfl) trivial
    ⟨Ob.d fun c => r_assign rfl rfl, trivial⟩ ?_
   intro a3 w3 τ3 st3 f3
   obtain ⟨e0, -⟩ := f3.ks [(0, _)] ⟨e0, trivial⟩
   have e2 : get a3 2 = (.string ((⟨#[]⟩ : ByteArray))) := f3.v 0 rfl
   clear f3
   show Code.wp _ _ _ a3 w3
   refine wp_ret ?_
   repeat (first | with_reducible refine then_ret ?_ | with_reducible refine block_ret ?_)
   refine ret1 (fn := Try.f47) rfl st3.defers e2 ?_
   exact ⟨congrArg _ (congrArg _ (by unfold seeF; first | rw [if_pos (by omega)] | rw [if_neg (by omega)])), st3.ext0⟩
 try simp only [decide_eq_false_iff_not, Int.not_le] at hc1
 refine wp_skip ?_
 show Code.wp _ _ _ a2 w2
 refine wp_seq ?_
 refine region_St (bf := [0, 1, 3, 7, 0, 16, 48, 112, 255, 511, 1023]) (sp := [det _ 13 _, det _ 14 _, det _ 15 _, det _ 16 _, det _ 17 _, det _ 18 _, det _ 19 _, det _ 20 _, det _ 21 _, det _ 22 _, det _ 2 _]) [] mixed st2 (by kernel_rfl) trivial
  ⟨Ob.d fun c => r_move rfl (c.p e0),
  Ob.d fun c => r_nilCheck rfl (c.n 0 rfl) rfl,
  Ob.d fun c => r_fieldAddr rfl Try.underlying58 rfl rfl Try.sizeOf32 (c.n 1 rfl),
  Ob.d fun c => r_load1 rfl Try.isAgg32 (c.n 2 rfl) ((st2.ext.trans c.J.ext).cellAt hm0),
  Ob.d fun c => r_move rfl (c.p e0),
  Ob.d fun c => r_nilCheck rfl (c.n 4 rfl) rfl,
  Ob.d fun c => r_fieldAddr rfl Try.underlying58 rfl rfl Try.sizeOf3 (c.n 5 rfl),
  Ob.d fun c => r_load1 rfl Try.isAgg3 (c.n 6 rfl) ((st2.ext.trans c.J.ext).cellAt hm1),
  Ob.d fun c => r_indexAddr rfl Try.underlying32 Try.sizeOf9 (c.n 3 rfl) hS.sl (c.n 7 rfl) (by omega) (by omega),
  Ob.d fun c => r_load1 rfl Try.isAgg9 (c.n 8 rfl) (((hS.at (st2.ext.trans c.J.ext))).elem (j := 0) (nth_some (i := (i : Int)) (by omega) (by omega)) rfl),
  Ob.d fun c => r_assign rfl (c.n 9 rfl), trivial⟩ ?_
 intro a4 w4 τ4 st4 f4
 have e2 : get a4 2 = (.string ((nth cs ((i : Int))))) := f4.v 10 rfl
 clear f4
 show Code.wp _ _ _ a4 w4
 refine wp_ret ?_
 repeat (first | with_reducible refine then_ret ?_ | with_reducible refine block_ret ?_)
 refine ret1 (fn := Try.f47) rfl st4.defers e2 ?_
 exact ⟨congrArg _ (congrArg _ (by unfold seeF; first | rw [if_pos (by omega)] | rw [if_neg (by omega)])), st4.ext0⟩
theorem see_c (v : Value) (cv : Sv) (cs : List ByteArray) (i : Nat) (w : World) (hR : RdR 58 v cv cs i w) : Calls Try.prog 47 #[v] w (fun e w' => e = .returned (.string (seeF cs i)) ∧ Ext none' w w') := by
  have h := see_p v cv cs i w (hR.box.cell (j := 0) rfl) (hR.box.cell (j := 1) rfl) hR.sl
  rwa [← hR.box.ptr] at h
set_option maxRecDepth 100000 in
theorem take_c (v : Value) (cv : Sv) (cs : List ByteArray) (i : Nat) (s : ByteArray) (w : World) (hR : RdR 58 v cv cs i w) (hL : CsOk cs) (hi : i ≤ cs.length + 5) : Calls Try.prog 49 #[v, (.string (s))] w (fun e w' => e = .returned (.bool (tkF cs i s)) ∧ Ext (ptrFoot v) w w' ∧ boxR 58 [cv.v, .int .i64 ((tkN cs i s : Nat) : Int)] (ptrFoot v) v w') := by
 refine enterIn (ptrFoot v) (fun g hg => hR.box.lt g hg) (n := 36) Try.func49 rfl rfl (Nat.le_of_ble_eq_true rfl) ?_
 intro a0 τ0 ha hτ st0
 have e0 : get a0 0 = v := ha 0 _ rfl
 have e1 : get a0 1 = (.string (s)) := ha 1 _ rfl
 clear ha
 have hL1 := hL.1
 have r0 : boxR 58 [cv.v, .int .i64 ((i : Nat) : Int)] (τ0 0) v w := by rw [hτ]; exact hR.box
 have r9 : Fz (zSl StrE Al cv.v cs) τ0 w := hR.inz st0
 refine wp_seq ?_
 refine region_St (bf := [0]) (sp := [det _ 4 _]) [ib r0, Ini.any _, Ini.any _, Ini.any _, Ini.any _, Ini.any _, Ini.any _, Ini.any _, Ini.any _, iz r9] mixed st0 (by kernel_rfl) ⟨r0, trivial, trivial, trivial, trivial, trivial, trivial, trivial, trivial, r9, trivial⟩
  ⟨Ob.d fun c => r_assign rfl rfl, trivial⟩ ?_
 intro a1 w1 τ1 st1 f1
 obtain ⟨e0, e1, -⟩ := f1.ks [(0, _), (1, _)] ⟨e0, e1, trivial⟩
 have e4 : get a1 4 = (.bool (false)) := f1.v 0 rfl
 replace r0 := f1.ib 0 rfl
 replace r9 := f1.iz 9 rfl
 clear f1
 show Code.wp _ _ _ a1 w1
 refine wp_seq ?_
 refine wp_seq ?_
 refine region_St (bf := [0, 1, 3, 7, 0, 16, 48, 112, 240, 511, 1023, 2047, 4095, 8191, 16383, 2047, 34815, 100351, 231423, 524287, 1048575, 2047, 4194303, 8388607]) (sp := [det _ 5 _, det _ 6 _, det _ 7 _, det _ 8 _, det _ 9 _, det _ 10 _, det _ 11 _, det _ 12 _, det _ 13 _, det _ 14 _, det _ 15 _, gdet _ 16 _ _, gdet _ 17 _ _, gdet _ 18 _ _, gdet _ 19 _ _, gdet _ 20 _ _, gdet _ 21 _ _, gdet _ 22 _ _, gdet _ 23 _ _, gdet _ 24 _ _, gdet _ 25 _ _, gdet _ 26 _ _, gdet _ 27 _ _, det _ 28 _]) [ib r0, Ini.any _, Ini.any _, Ini.any _, Ini.any _, Ini.any _, Ini.any _, Ini.any _, Ini.any _, iz r9] mixed st1 (by kernel_rfl) ⟨r0, trivial, trivial, trivial, trivial, trivial, trivial, trivial, trivial, r9, trivial⟩
  ⟨Ob.d fun c => r_move rfl (c.p e0),
  Ob.d fun c => r_nilCheck rfl (c.n 0 rfl) r0.ptr,
  Ob.d fun c => r_fieldAddr rfl Try.underlying58 rfl rfl Try.sizeOf3 ((c.n 1 rfl).trans r0.ptr),
  Ob.d fun c => r_load1 rfl Try.isAgg3 (c.n 2 rfl) ((c.ib 0 rfl).cell (j := 1) rfl),
  Ob.d fun c => r_move rfl (c.p e0),
  Ob.d fun c => r_nilCheck rfl (c.n 4 rfl) r0.ptr,
  Ob.d fun c => r_fieldAddr rfl Try.underlying58 rfl rfl Try.sizeOf32 ((c.n 5 rfl).trans r0.ptr),
  Ob.d fun c => r_load1 rfl Try.isAgg32 (c.n 6 rfl) ((c.ib 0 rfl).cell (j := 0) rfl),
  Ob.d fun c => r_len rfl Try.underlying32 (c.n 7 rfl) (r9).1.sl,
  Ob.d fun c => r_geq rfl (c.n 3 rfl) (c.n 8 rfl),
  Ob.d fun c => r_move rfl (c.n 9 rfl),
  Ob.g 10 false rfl fun c hpc => r_move rfl (c.p e0),
  Ob.g 10 false rfl fun c hpc => r_nilCheck rfl (c.m 11 rfl hpc) r0.ptr,
  Ob.g 10 false rfl fun c hpc => r_fieldAddr rfl Try.underlying58 rfl rfl Try.sizeOf32 ((c.m 12 rfl hpc).trans r0.ptr),
  Ob.g 10 false rfl fun c hpc => r_load1 rfl Try.isAgg32 (c.m 13 rfl hpc) ((c.ib 0 rfl).cell (j := 0) rfl),
  Ob.g 10 false rfl fun c hpc => r_move rfl (c.p e0),
  Ob.g 10 false rfl fun c hpc => r_nilCheck rfl (c.m 15 rfl hpc) r0.ptr,
  Ob.g 10 false rfl fun c hpc => r_fieldAddr rfl Try.underlying58 rfl rfl Try.sizeOf3 ((c.m 16 rfl hpc).trans r0.ptr),
  Ob.g 10 false rfl fun c hpc => r_load1 rfl Try.isAgg3 (c.m 17 rfl hpc) ((c.ib 0 rfl).cell (j := 1) rfl),
  Ob.g 10 false rfl fun c hpc => r_indexAddr rfl Try.underlying32 Try.sizeOf9 (c.m 14 rfl hpc) (r9).1.sl (c.m 18 rfl hpc) (by have hq0 := bn hpc; omega) (by have hq0 := bn hpc; omega),
  Ob.g 10 false rfl fun c hpc => r_load1 rfl Try.isAgg9 (c.m 19 rfl hpc) ((((c.iz 9 rfl)).1).elem (j := 0) (nth_some (i := ((i : Nat) : Int)) (by have hq0 := bn hpc; omega) (by have hq0 := bn hpc; omega)) rfl),
  Ob.g 10 false rfl fun c hpc => r_move rfl (c.p e1),
  Ob.g 10 false rfl fun c hpc => r_sneq rfl (c.m 20 rfl hpc) (c.m 21 rfl hpc),
  Ob.d fun c => r_or rfl (c.n 10 rfl) (fun h => c.m 22 rfl h), trivial⟩ ?_
 intro a2 w2 τ2 st2 f2
 obtain ⟨e0, e4, -⟩ := f2.ks [(0, _), (4, _)] ⟨e0, e4, trivial⟩
 have e28 : get a2 28 = (.bool ((decide ((cs.length : Int) ≤ ((i : Nat) : Int))) || (!(eqT (nth cs (((i : Nat) : Int))) s)))) := f2.v 23 rfl
 replace r0 := f2.ib 0 rfl
 replace r9 := f2.iz 9 rfl
 clear f2
 show Code.wp _ _ _ a2 w2
 refine wp_cond_split (t := (decide ((cs.length : Int) ≤ ((i : Nat) : Int))) || (!(eqT (nth cs (((i : Nat) : Int))) s))) e28 (fun hc1 => ?_) (fun hc1 => ?_)
 · have hd1 := hc1; try simp only [Bool.or_eq_true, Bool.or_eq_false_iff, Bool.not_eq_true', Bool.not_eq_false', decide_eq_true_eq, decide_eq_false_iff_not, Int.not_le] at hd1
   refine wp_seq ?_
   refine region_St (bf := [0]) (sp := [det _ 4 _]) [ib r0, Ini.any _, Ini.any _, Ini.any _, Ini.any _, Ini.any _, Ini.any _, Ini.any _, Ini.any _, iz r9] mixed st2 (by kernel_rfl) ⟨r0, trivial, trivial, trivial, trivial, trivial, trivial, trivial, trivial, r9, trivial⟩
    ⟨Ob.d fun c => r_assign rfl rfl, trivial⟩ ?_
   intro a3 w3 τ3 st3 f3
   obtain ⟨e0, -⟩ := f3.ks [(0, _)] ⟨e0, trivial⟩
   have e4 : get a3 4 = (.bool (false)) := f3.v 0 rfl
   replace r0 := f3.ib 0 rfl
   replace r9 := f3.iz 9 rfl
   clear f3
   show Code.wp _ _ _ a3 w3
   refine wp_ret ?_
   repeat (first | with_reducible refine then_ret ?_ | with_reducible refine block_ret ?_)
   refine ret1 (fn := Try.f49) rfl st3.defers e4 ?_
   have hb_ : tkF cs i s = false := by unfold tkF; first | (rw [show (decide ((cs.length : Int) ≤ (i : Int)) || (!(eqT (nth cs (i : Int)) s))) = true from by assumption]; rfl) | (rw [show (decide ((cs.length : Int) ≤ (i : Int)) || (!(eqT (nth cs (i : Int)) s))) = false from by assumption]; rfl)
   rw [hb_, tkN_f hb_]
   exact ⟨rfl, st3.extIn, r0.foot⟩
 have hd1 := hc1; try simp only [Bool.or_eq_true, Bool.or_eq_false_iff, Bool.not_eq_true', Bool.not_eq_false', decide_eq_true_eq, decide_eq_false_iff_not, Int.not_le] at hd1
 refine wp_skip ?_
 show Code.wp _ _ _ a2 w2
 refine wp_seq ?_
 refine region_St (bf := [0, 1, 3, 7, 15, 31, 63, 127]) (sp := [det _ 29 _, det _ 30 _, det _ 31 _, det _ 32 _, det _ 33 _, det _ 34 _, det _ 35 _, box _ _ 0 0 [cv.v, (.int .i64 (((i : Nat) : Int) + 1))]]) [ib r0, Ini.any _, Ini.any _, Ini.any _, Ini.any _, Ini.any _, Ini.any _, Ini.any _, Ini.any _, iz r9] mixed st2 (by kernel_rfl) ⟨r0, trivial, trivial, trivial, trivial, trivial, trivial, trivial, trivial, r9, trivial⟩
  ⟨Ob.d fun c => r_move rfl (c.p e0),
  Ob.d fun c => r_nilCheck rfl (c.n 0 rfl) r0.ptr,
  Ob.d fun c => r_fieldAddr rfl Try.underlying58 rfl rfl Try.sizeOf3 ((c.n 1 rfl).trans r0.ptr),
  Ob.d fun c => r_load1 rfl Try.isAgg3 (c.n 2 rfl) ((c.ib 0 rfl).cell (j := 1) rfl),
  Ob.d fun c => r_add rfl (c.n 3 rfl) rfl (by omega),
  Ob.d fun c => r_nilCheck rfl (c.n 0 rfl) r0.ptr,
  Ob.d fun c => r_fieldAddr rfl Try.underlying58 rfl rfl Try.sizeOf3 ((c.n 5 rfl).trans r0.ptr),
  Ob.storeBox (off := 1) (v := (.int .i64 (((i : Nat) : Int) + 1))) rfl rfl rfl rfl Try.sizeOf3 (Nat.le_of_ble_eq_true rfl) (by simp [Value.cells, Value.oneCell', Sv.v]) rfl (fun _ _ _ _ c => ⟨c.bp 0 rfl e0, c.ad (c.n 6 rfl) e0 rfl, (c.n 4 rfl)⟩), trivial⟩ ?_
 intro a4 w4 τ4 st4 f4
 obtain ⟨e0, e4, -⟩ := f4.ks [(0, _), (4, _)] ⟨e0, e4, trivial⟩
 replace r0 : boxR 58 [cv.v, (.int .i64 (((i : Nat) : Int) + 1))] (τ4 0) v w4 := f4.rb 7 e0 rfl
 replace r9 := f4.iz 9 rfl
 clear f4
 replace r0 : boxR 58 [cv.v, .int .i64 ((i + 1 : Nat) : Int)] (τ4 0) v w4 := by rw [show ((i + 1 : Nat) : Int) = ((i : Nat) : Int) + 1 from by omega]; exact r0
 show Code.wp _ _ _ a4 w4
 refine wp_seq ?_
 refine region_St (bf := [0]) (sp := [det _ 4 _]) [ib r0, Ini.any _, Ini.any _, Ini.any _, Ini.any _, Ini.any _, Ini.any _, Ini.any _, Ini.any _, iz r9] mixed st4 (by kernel_rfl) ⟨r0, trivial, trivial, trivial, trivial, trivial, trivial, trivial, trivial, r9, trivial⟩
  ⟨Ob.d fun c => r_assign rfl rfl, trivial⟩ ?_
 intro a5 w5 τ5 st5 f5
 obtain ⟨e0, -⟩ := f5.ks [(0, _)] ⟨e0, trivial⟩
 have e4 : get a5 4 = (.bool (true)) := f5.v 0 rfl
 replace r0 := f5.ib 0 rfl
 replace r9 := f5.iz 9 rfl
 clear f5
 show Code.wp _ _ _ a5 w5
 refine wp_ret ?_
 repeat (first | with_reducible refine then_ret ?_ | with_reducible refine block_ret ?_)
 refine ret1 (fn := Try.f49) rfl st5.defers e4 ?_
 have hb_ : tkF cs i s = true := by unfold tkF; first | (rw [show (decide ((cs.length : Int) ≤ (i : Int)) || (!(eqT (nth cs (i : Int)) s))) = true from by assumption]; rfl) | (rw [show (decide ((cs.length : Int) ≤ (i : Int)) || (!(eqT (nth cs (i : Int)) s))) = false from by assumption]; rfl)
 rw [hb_, tkN_t hb_]
 exact ⟨rfl, st5.extIn, r0.foot⟩
end B
end Go.Proofs.Ytocmchlhbniloaa
namespace Go.Proofs.Ytocmchlhbniloaa
namespace B
open Go.RowKit
open Srt
theorem numL_go {cs : List ByteArray} {f : Nat} {n : Int} {m i : Nat} (h : ((decide ((m : Int) < 3) && decide (((seeF cs i).size : Int) = 1)) && digitB (byteAt (seeF cs i) 0)) = true) : numL cs (f + 1) n m i = numL cs f (n * 10 + (byteAt (seeF cs i) 0 - 48)) (m + 1) (i + 1) := by rw [numL, if_pos h]
theorem numL_end {cs : List ByteArray} {f : Nat} {n : Int} {m i : Nat} (h : ((decide ((m : Int) < 3) && decide (((seeF cs i).size : Int) = 1)) && digitB (byteAt (seeF cs i) 0)) = false) : numL cs (f + 1) n m i = (n, m, i) := by rw [numL, if_neg (by rw [h]; decide)]
theorem u8sub {b : Int} (h : digitB b = true) : IntKind.u8.wrap (b - 48) = b - 48 := by
  simp only [digitB, Bool.and_eq_true, decide_eq_true_eq] at h
  simp [IntKind.wrap, IntKind.signed, IntKind.bits]; omega
theorem i64u8 {b : Int} (h : 0 ≤ b ∧ b ≤ 255) : IntKind.i64.wrap b = b := IntWalk.i64_in _ (by omega)
set_option maxRecDepth 100000 in
theorem num_c (v : Value) (cv : Sv) (cs : List ByteArray) (i : Nat) (w : World) (hR : RdR 58 v cv cs i w) (hL : CsOk cs) (hi : i ≤ cs.length + 5) : Calls Try.prog 65 #[v] w (fun e w' => e = .returned (.tuple #[.int .i64 (numF cs i).1, .bool (numB (numF cs i))]) ∧ Ext (ptrFoot v) w w' ∧ boxR 58 [cv.v, .int .i64 (((numF cs i).2.2 : Nat) : Int)] (ptrFoot v) v w') := by
 refine enterIn (ptrFoot v) (fun g hg => hR.box.lt g hg) (n := 44) Try.func65 rfl rfl (Nat.le_of_ble_eq_true rfl) ?_
 intro a0 τ0 ha hτ st0
 have e0 : get a0 0 = v := ha 0 _ rfl
 clear ha
 have hL1 := hL.1
 have r0 : boxR 58 [cv.v, .int .i64 ((i : Nat) : Int)] (τ0 0) v w := by rw [hτ]; exact hR.box
 have r9 : Fz (zSl StrE Al cv.v cs) τ0 w := hR.inz st0
 refine wp_seq ?_
 refine region_St (bf := [0, 1]) (sp := [det _ 2 _, det _ 3 _]) [ib r0, Ini.any _, Ini.any _, Ini.any _, Ini.any _, Ini.any _, Ini.any _, Ini.any _, Ini.any _, iz r9] mixed st0 (by kernel_rfl) ⟨r0, trivial, trivial, trivial, trivial, trivial, trivial, trivial, trivial, r9, trivial⟩
  ⟨Ob.d fun c => r_assign rfl rfl,
  Ob.d fun c => r_assign rfl rfl, trivial⟩ ?_
 intro a1 w1 τ1 st1 f1
 obtain ⟨e0, -⟩ := f1.ks [(0, _)] ⟨e0, trivial⟩
 have e2 : get a1 2 = (.int .i64 (0)) := f1.v 0 rfl
 have e3 : get a1 3 = (.bool (false)) := f1.v 1 rfl
 replace r0 := f1.ib 0 rfl
 replace r9 := f1.iz 9 rfl
 clear f1
 show Code.wp _ _ _ a1 w1
 refine wp_seq ?_
 refine region_St (bf := [0, 1]) (sp := [det _ 4 _, det _ 5 _]) [ib r0, Ini.any _, Ini.any _, Ini.any _, Ini.any _, Ini.any _, Ini.any _, Ini.any _, Ini.any _, iz r9] mixed st1 (by kernel_rfl) ⟨r0, trivial, trivial, trivial, trivial, trivial, trivial, trivial, trivial, r9, trivial⟩
  ⟨Ob.d fun c => r_assign rfl rfl,
  Ob.d fun c => r_assign rfl rfl, trivial⟩ ?_
 intro a2 w2 τ2 st2 f2
 obtain ⟨e0, e2, e3, -⟩ := f2.ks [(0, _), (2, _), (3, _)] ⟨e0, e2, e3, trivial⟩
 have e4 : get a2 4 = (.int .i64 (0)) := f2.v 0 rfl
 have e5 : get a2 5 = (.int .i64 (0)) := f2.v 1 rfl
 replace r0 := f2.ib 0 rfl
 replace r9 := f2.iz 9 rfl
 clear f2
 show Code.wp _ _ _ a2 w2
 refine wp_seq ?_
 refine wp_block ?_
 refine wp_loop (fun a_ w_ => ∃ (n : Int) (m j f : Nat) (τ : Nat → Foot), (0 ≤ n ∧ n < 10 ^ m) ∧
      (m + f = 3) ∧
      (i ≤ j) ∧
      (j ≤ i + m) ∧
      (numL cs 4 0 0 i = numL cs (f + 1) n m j) ∧
      St (fun k => ptrFoot v k ∨ w.heap.size ≤ k) w 44 a_ w_ τ ∧
      get a_ 4 = (.int .i64 (n)) ∧
      get a_ 5 = (.int .i64 ((m : Int))) ∧
      get a_ 0 = v ∧
      get a_ 2 = (.int .i64 (0)) ∧
      get a_ 3 = (.bool (false)) ∧
      boxR 58 [cv.v, (.int .i64 (((j : Nat) : Int)))] (τ 0) v w_ ∧
      Fz (zSl StrE Al cv.v cs) τ w_) (fun a_ _ => (3 - intOf (get a_ 5)).toNat) ?_ ?_
 · refine ⟨0, 0, i, 3, τ2, ?_, ?_, ?_, ?_, ?_, st2, (e4.trans (int_eq (by omega))), (e5.trans (int_eq (by omega))), e0, e2, e3, r0, r9⟩
   · decide
   · omega
   · omega
   · omega
   · rfl
 intro a3 w3 hI
 obtain ⟨n, m, j, f, τ3, q0, q1, q2, q3, q4, st3, e4, e5, e0, e2, e3, r0, r9⟩ := hI
 have hn1000 : n < 1000 := Int.lt_of_lt_of_le q0.2 (by show (10 : Int) ^ m ≤ 1000; match m, (show m ≤ 3 by omega) with | 0, _ => decide | 1, _ => decide | 2, _ => decide | 3, _ => decide)
 have m5 := e5
 refine wp_seq ?_
 refine wp_seq ?_
 refine region_St (bf := [0, 1, 3, 7, 15, 31, 63, 127, 255, 511, 1023, 2047, 4095, 8191]) (sp := [det _ 6 _, det _ 7 _, det _ 8 _, gdet _ 9 _ _, gdet _ 10 _ _, gdet _ 11 _ _, gdet _ 12 _ _, det _ 13 _, det _ 14 _, gdet _ 15 _ _, gdet _ 16 _ _, gdet _ 17 _ _, gdet _ 18 _ _, det _ 19 _]) [ib r0, Ini.any _, Ini.any _, Ini.any _, Ini.any _, Ini.any _, Ini.any _, Ini.any _, Ini.any _, iz r9] mixed st3 (by kernel_rfl) ⟨r0, trivial, trivial, trivial, trivial, trivial, trivial, trivial, trivial, r9, trivial⟩
  ⟨Ob.d fun c => r_move rfl (c.p e5),
  Ob.d fun c => r_lss rfl (c.n 0 rfl) rfl,
  Ob.d fun c => r_move rfl (c.n 1 rfl),
  Ob.g 2 true rfl fun c hpc => r_move rfl (c.p e0),
  Ob.gc 2 true rfl fun c hpc => ⟨_, _, (e_call1 rfl rfl Try.call47 (c.m 3 rfl hpc)), see_c v cv cs j _ (rdr (c.ib 0 rfl) (c.iz 9 rfl) (fun g_ h_ hz_ => hz_.2 _ h_))⟩,
  Ob.g 2 true rfl fun c hpc => r_lenS rfl Try.underlying9 (c.m 4 rfl hpc),
  Ob.g 2 true rfl fun c hpc => r_eql rfl (c.m 5 rfl hpc) rfl,
  Ob.d fun c => r_and rfl (c.n 2 rfl) (fun h => c.m 6 rfl h),
  Ob.d fun c => r_move rfl (c.n 7 rfl),
  Ob.g 8 true rfl fun c hpc => r_move rfl (c.p e0),
  Ob.gc 8 true rfl fun c hpc => ⟨_, _, (e_call1 rfl rfl Try.call47 (c.m 9 rfl hpc)), see_c v cv cs j _ (rdr (c.ib 0 rfl) (c.iz 9 rfl) (fun g_ h_ hz_ => hz_.2 _ h_))⟩,
  Ob.g 8 true rfl fun c hpc => r_sindex rfl Try.underlying9 (c.m 10 rfl hpc) rfl (by have hq0 := hpc; (try simp only [Bool.and_eq_true, decide_eq_true_eq] at hq0); first | omega | (have h_ := byteAt_range (seeF cs j) 0; omega) | (have h_ := see_size (by omega : ((seeF cs j).size : Int) = 1); omega)) (by have hq0 := hpc; (try simp only [Bool.and_eq_true, decide_eq_true_eq] at hq0); first | omega | (have h_ := byteAt_range (seeF cs j) 0; omega) | (have h_ := see_size (by omega : ((seeF cs j).size : Int) = 1); omega)),
  Ob.gc 8 true rfl fun c hpc => ⟨_, _, (e_call1 rfl rfl Try.call73 (c.m 11 rfl hpc)), digit_c (byteAt (seeF cs j) (0)) _⟩,
  Ob.d fun c => r_and rfl (c.n 8 rfl) (fun h => c.m 12 rfl h), trivial⟩ ?_
 intro a4 w4 τ4 st4 f4
 obtain ⟨e0, e2, e3, e4, e5, -⟩ := f4.ks [(0, _), (2, _), (3, _), (4, _), (5, _)] ⟨e0, e2, e3, e4, e5, trivial⟩
 have e19 : get a4 19 = (.bool (((decide ((m : Int) < 3)) && (decide (((seeF cs j).size : Int) = 1))) && (digitB (byteAt (seeF cs j) (0))))) := f4.v 13 rfl
 replace r0 := f4.ib 0 rfl
 replace r9 := f4.iz 9 rfl
 clear f4
 show Code.wp _ _ _ a4 w4
 refine wp_cond_split (t := ((decide ((m : Int) < 3)) && (decide (((seeF cs j).size : Int) = 1))) && (digitB (byteAt (seeF cs j) (0)))) e19 (fun hc1 => ?_) (fun hc1 => ?_)
 · have hd1 := hc1; try simp only [Bool.and_eq_true, decide_eq_true_eq] at hd1
   refine wp_skip ?_
   show Code.wp _ _ _ a4 w4
   refine wp_block ?_
   refine wp_seq ?_
   have hcond : ((decide ((m : Int) < 3) && decide (((seeF cs j).size : Int) = 1)) && digitB (byteAt (seeF cs j) 0)) = true := by assumption
   have hbr := byteAt_range (seeF cs j) 0
   have hca := hcond
   simp only [Bool.and_eq_true, decide_eq_true_eq] at hca
   have hdb := hca.2
   simp only [digitB, Bool.and_eq_true, decide_eq_true_eq] at hdb
   have hwr : IntKind.i64.wrap (IntKind.u8.wrap (byteAt (seeF cs j) 0 - 48)) = byteAt (seeF cs j) 0 - 48 := by rw [u8sub hca.2, i64u8 (by omega)]
   have hsz1 := see_size hca.1.2
   refine region_St (bf := [0, 1, 0, 4, 12, 28, 60, 127, 255]) (sp := [det _ 20 _, det _ 21 _, det _ 22 _, det _ 23 _, det _ 24 _, det _ 25 _, det _ 26 _, det _ 27 _, det _ 4 _]) [ib r0, Ini.any _, Ini.any _, Ini.any _, Ini.any _, Ini.any _, Ini.any _, Ini.any _, Ini.any _, iz r9] mixed st4 (by kernel_rfl) ⟨r0, trivial, trivial, trivial, trivial, trivial, trivial, trivial, trivial, r9, trivial⟩
    ⟨Ob.d fun c => r_move rfl (c.p e4),
    Ob.d fun c => r_mul rfl (c.n 0 rfl) rfl (by first | omega | (have h_ := byteAt_range (seeF cs j) 0; omega) | (have h_ := see_size (by omega : ((seeF cs j).size : Int) = 1); omega)),
    Ob.d fun c => r_move rfl (c.p e0),
    Ob.c fun c => ⟨_, _, (e_call1 rfl rfl Try.call47 (c.n 2 rfl)), see_c v cv cs j _ (rdr (c.ib 0 rfl) (c.iz 9 rfl) (fun g_ h_ hz_ => hz_.2 _ h_))⟩,
    Ob.d fun c => r_sindex rfl Try.underlying9 (c.n 3 rfl) rfl (by first | omega | (have h_ := byteAt_range (seeF cs j) 0; omega) | (have h_ := see_size (by omega : ((seeF cs j).size : Int) = 1); omega)) (by first | omega | (have h_ := byteAt_range (seeF cs j) 0; omega) | (have h_ := see_size (by omega : ((seeF cs j).size : Int) = 1); omega)),
    Ob.d fun c => r_subW rfl (c.n 4 rfl) rfl,
    Ob.d fun c => r_conv rfl Try.underlying5 Try.underlying3 (c.n 5 rfl),
    Ob.d fun c => r_add rfl (c.n 1 rfl) (c.n 6 rfl) (by first | omega | (have h_ := byteAt_range (seeF cs j) 0; omega) | (have h_ := see_size (by omega : ((seeF cs j).size : Int) = 1); omega)),
    Ob.d fun c => r_assign rfl (c.n 7 rfl), trivial⟩ ?_
   intro a5 w5 τ5 st5 f5
   obtain ⟨e0, e2, e3, e5, e19, -⟩ := f5.ks [(0, _), (2, _), (3, _), (5, _), (19, _)] ⟨e0, e2, e3, e5, e19, trivial⟩
   have e4 : get a5 4 = (.int .i64 (n * 10 + (IntKind.i64.wrap (IntKind.u8.wrap (byteAt (seeF cs j) (0) - 48))))) := f5.v 8 rfl
   replace r0 := f5.ib 0 rfl
   replace r9 := f5.iz 9 rfl
   clear f5
   have hcb := hcond
   simp only [Bool.and_eq_true, decide_eq_true_eq] at hcb
   have hdg := hcb.2
   simp only [digitB, Bool.and_eq_true, decide_eq_true_eq] at hdg
   have hsz := see_size hcb.1.2
   replace e4 : get a5 4 = .int .i64 (n * 10 + (byteAt (seeF cs j) 0 - 48)) := by rw [e4, u8sub hcb.2, i64u8 (by omega)]
   show Code.wp _ _ _ a5 w5
   refine wp_seq ?_
   refine region_St (bf := [0, 1, 3]) (sp := [det _ 28 _, det _ 29 _, det _ 5 _]) [ib r0, Ini.any _, Ini.any _, Ini.any _, Ini.any _, Ini.any _, Ini.any _, Ini.any _, Ini.any _, iz r9] mixed st5 (by kernel_rfl) ⟨r0, trivial, trivial, trivial, trivial, trivial, trivial, trivial, trivial, r9, trivial⟩
    ⟨Ob.d fun c => r_move rfl (c.p e5),
    Ob.d fun c => r_add rfl (c.n 0 rfl) rfl (by first | omega | (have h_ := byteAt_range (seeF cs j) 0; omega) | (have h_ := see_size (by omega : ((seeF cs j).size : Int) = 1); omega)),
    Ob.d fun c => r_assign rfl (c.n 1 rfl), trivial⟩ ?_
   intro a6 w6 τ6 st6 f6
   obtain ⟨e0, e2, e3, e4, e19, -⟩ := f6.ks [(0, _), (2, _), (3, _), (4, _), (19, _)] ⟨e0, e2, e3, e4, e19, trivial⟩
   have e5 : get a6 5 = (.int .i64 ((m : Int) + 1)) := f6.v 2 rfl
   replace r0 := f6.ib 0 rfl
   replace r9 := f6.iz 9 rfl
   clear f6
   show Code.wp _ _ _ a6 w6
   refine region_St (bf := [0, 1, 3, 7, 15, 31, 63, 127]) (sp := [det _ 30 _, det _ 31 _, det _ 32 _, det _ 33 _, det _ 34 _, det _ 35 _, det _ 36 _, box _ _ 0 0 [cv.v, (.int .i64 (((j : Nat) : Int) + 1))]]) [ib r0, Ini.any _, Ini.any _, Ini.any _, Ini.any _, Ini.any _, Ini.any _, Ini.any _, Ini.any _, iz r9] mixed st6 (by kernel_rfl) ⟨r0, trivial, trivial, trivial, trivial, trivial, trivial, trivial, trivial, r9, trivial⟩
    ⟨Ob.d fun c => r_move rfl (c.p e0),
    Ob.d fun c => r_nilCheck rfl (c.n 0 rfl) r0.ptr,
    Ob.d fun c => r_fieldAddr rfl Try.underlying58 rfl rfl Try.sizeOf3 ((c.n 1 rfl).trans r0.ptr),
    Ob.d fun c => r_load1 rfl Try.isAgg3 (c.n 2 rfl) ((c.ib 0 rfl).cell (j := 1) rfl),
    Ob.d fun c => r_add rfl (c.n 3 rfl) rfl (by first | omega | (have h_ := byteAt_range (seeF cs j) 0; omega) | (have h_ := see_size (by omega : ((seeF cs j).size : Int) = 1); omega)),
    Ob.d fun c => r_nilCheck rfl (c.n 0 rfl) r0.ptr,
    Ob.d fun c => r_fieldAddr rfl Try.underlying58 rfl rfl Try.sizeOf3 ((c.n 5 rfl).trans r0.ptr),
    Ob.storeBox (off := 1) (v := (.int .i64 (((j : Nat) : Int) + 1))) rfl rfl rfl rfl Try.sizeOf3 (Nat.le_of_ble_eq_true rfl) (by simp [Value.cells, Value.oneCell', Sv.v]) rfl (fun _ _ _ _ c => ⟨c.bp 0 rfl e0, c.ad (c.n 6 rfl) e0 rfl, (c.n 4 rfl)⟩), trivial⟩ ?_
   intro a7 w7 τ7 st7 f7
   obtain ⟨e0, e2, e3, e4, e5, e19, -⟩ := f7.ks [(0, _), (2, _), (3, _), (4, _), (5, _), (19, _)] ⟨e0, e2, e3, e4, e5, e19, trivial⟩
   replace r0 : boxR 58 [cv.v, (.int .i64 (((j : Nat) : Int) + 1))] (τ7 0) v w7 := f7.rb 7 e0 rfl
   replace r9 := f7.iz 9 rfl
   clear f7
   replace r0 : boxR 58 [cv.v, .int .i64 ((j + 1 : Nat) : Int)] (τ7 0) v w7 := by rw [show ((j + 1 : Nat) : Int) = ((j : Nat) : Int) + 1 from by omega]; exact r0
   show _
   refine ⟨⟨n * 10 + (byteAt (seeF cs j) 0 - 48), m + 1, j + 1, f - 1, τ7, ?_, ?_, ?_, ?_, ?_, st7, (e4.trans (int_eq (by omega))), (e5.trans (int_eq (by omega))), e0, e2, e3, r0, r9⟩, ?_⟩
   · rw [Int.pow_succ]; omega
   · omega
   · omega
   · omega
   · obtain ⟨f, rfl⟩ : ∃ f_, f = f_ + 1 := ⟨f - 1, by omega⟩; rw [q4, numL_go hcond]; rfl
   · simp only [m5, e5, intOf]; omega
 have hd1 := hc1; try simp only [Bool.and_eq_false_iff, decide_eq_false_iff_not, Int.not_lt] at hd1
 refine wp_exit ?_
 repeat (with_reducible refine then_exit ?_)
 refine exit_here ?_
 show Code.wp _ _ _ a4 w4
 refine wp_seq ?_
 have hcond : ((decide ((m : Int) < 3) && decide (((seeF cs j).size : Int) = 1)) && digitB (byteAt (seeF cs j) 0)) = false := by assumption
 refine region_St (bf := [0, 0, 2, 6, 14, 30, 62, 15, 255]) (sp := [det _ 37 _, det _ 38 _, det _ 39 _, det _ 40 _, gdet _ 41 _ _, gdet _ 42 _ _, det _ 43 _, det _ 2 _, det _ 3 _]) [ib r0, Ini.any _, Ini.any _, Ini.any _, Ini.any _, Ini.any _, Ini.any _, Ini.any _, Ini.any _, iz r9] mixed st4 (by kernel_rfl) ⟨r0, trivial, trivial, trivial, trivial, trivial, trivial, trivial, trivial, r9, trivial⟩
  ⟨Ob.d fun c => r_move rfl (c.p e4),
  Ob.d fun c => r_move rfl (c.p e5),
  Ob.d fun c => r_gtr rfl (c.n 1 rfl) rfl,
  Ob.d fun c => r_move rfl (c.n 2 rfl),
  Ob.g 3 true rfl fun c hpc => r_move rfl (c.p e4),
  Ob.g 3 true rfl fun c hpc => r_leq rfl (c.m 4 rfl hpc) rfl,
  Ob.d fun c => r_and rfl (c.n 3 rfl) (fun h => c.m 5 rfl h),
  Ob.d fun c => r_assign rfl (c.n 0 rfl),
  Ob.d fun c => r_assign rfl (c.n 6 rfl), trivial⟩ ?_
 intro a8 w8 τ8 st8 f8
 obtain ⟨e0, -⟩ := f8.ks [(0, _)] ⟨e0, trivial⟩
 have e2 : get a8 2 = (.int .i64 (n)) := f8.v 7 rfl
 have e3 : get a8 3 = (.bool ((decide (0 < (m : Int))) && (decide (n ≤ 255)))) := f8.v 8 rfl
 replace r0 := f8.ib 0 rfl
 replace r9 := f8.iz 9 rfl
 clear f8
 show Code.wp _ _ _ a8 w8
 refine wp_ret ?_
 repeat (first | with_reducible refine then_ret ?_ | with_reducible refine block_ret ?_)
 refine ret2 (fn := Try.f65) rfl st8.defers e2 e3 ?_
 have he_ : numF cs i = (n, m, j) := by rw [numF, q4, numL_end hcond]
 rw [he_]
 exact ⟨rfl, st8.extIn, r0.foot⟩
end B
end Go.Proofs.Ytocmchlhbniloaa
namespace Go.Proofs.Ytocmchlhbniloaa
namespace B
open Go.RowKit
open Srt
theorem and2 {a b : Bool} (h : (a && b) = true) : b = true := by cases a <;> simp_all
theorem row_no {r : Rw} (h : ((!properB r.1 || !properB r.2) || !leT r.1 r.2) = true) : rowB r = false := by rw [row_ref] at h; simpa using h
theorem row_yes {r : Rw} (h : ((!properB r.1 || !properB r.2) || !leT r.1 r.2) = false) : rowB r = true := by rw [row_ref] at h; simpa using h
theorem named_100 {n : Int} (h : n = 100) : namedF n = [(⟨#[48]⟩, ⟨#[57]⟩)] ∧ namedB n = true := by subst h; exact ⟨rfl, rfl⟩
theorem named_119 {n : Int} (h : n = 119) : namedF n = [(⟨#[48]⟩, ⟨#[57]⟩), (⟨#[65]⟩, ⟨#[90]⟩), (⟨#[95]⟩, ⟨#[95]⟩), (⟨#[97]⟩, ⟨#[122]⟩)] ∧ namedB n = true := by subst h; exact ⟨rfl, rfl⟩
theorem named_115 {n : Int} (h : n = 115) : namedF n = [(⟨#[9]⟩, ⟨#[13]⟩), (⟨#[32]⟩, ⟨#[32]⟩)] ∧ namedB n = true := by subst h; exact ⟨rfl, rfl⟩
theorem named_no {n : Int} (h1 : ¬ n = 100) (h2 : ¬ n = 119) (h3 : ¬ n = 115) : namedF n = [] ∧ namedB n = false := by
  unfold namedF namedB
  rw [if_neg h1, if_neg h2, if_neg h3, decide_eq_false h1, decide_eq_false h2, decide_eq_false h3]
  exact ⟨rfl, rfl⟩
set_option maxRecDepth 100000 in
theorem refFold_c (s : ByteArray) (w : World) (hs : s.size ≤ 1000000000) : Calls Try.prog 70 #[(.string (s))] w (fun e w' => e = .returned (.string (foldT s)) ∧ Ext none' w w') := by
 refine enter (n := 35) Try.func70 rfl rfl (Nat.le_of_ble_eq_true rfl) ?_
 intro a0 τ0 ha st0
 have e0 : get a0 0 = (.string (s)) := ha 0 _ rfl
 clear ha
 have hbl := bs_len s
 have hbd : s.data.toList.length = s.size := bs_len s
 refine wp_seq ?_
 refine region_St (bf := [0]) (sp := [det _ 2 _]) [] mixed st0 (by kernel_rfl) trivial
  ⟨Ob.d fun c => r_assign rfl rfl, trivial⟩ ?_
 intro a1 w1 τ1 st1 f1
 obtain ⟨e0, -⟩ := f1.ks [(0, _)] ⟨e0, trivial⟩
 have e2 : get a1 2 = (.string ((⟨#[]⟩ : ByteArray))) := f1.v 0 rfl
 clear f1
 show Code.wp _ _ _ a1 w1
 refine wp_seq ?_
 refine region_St (bf := [0, 1, 3]) (sp := [det _ 5 _, byt 5 _ 0 6 _, byt 5 _ 0 3 _]) [] mixed st1 (by kernel_rfl) trivial
  ⟨Ob.d fun c => r_move rfl (c.p e0),
  Ob.toBytes rfl rfl rfl rfl Try.underlying9 Try.underlying84 Try.underlying5 (by first | omega | exact (u8w _).1 | exact (u8w _).2) fun c => (c.n 0 rfl),
  Ob.moveT (t0 := 6) rfl rfl rfl rfl rfl (.inr rfl) (fun _ _ _ _ c => ⟨c.ry 1 rfl, rfl⟩), trivial⟩ ?_
 intro a2 w2 τ2 st2 f2
 obtain ⟨b2x3, e3⟩ : ∃ b, get a2 3 = b := ⟨_, rfl⟩
 obtain ⟨e2, -⟩ := f2.ks [(2, _)] ⟨e2, trivial⟩
 have r0 : bytR 5 (s.data.toList) (τ2 0) b2x3 w2 := f2.ry 2 e3 rfl
 clear f2
 show Code.wp _ _ _ a2 w2
 refine wp_seq ?_
 refine wp_seq ?_
 refine region_St (bf := [0]) (sp := [det _ 4 _]) [iy r0] mixed st2 (by kernel_rfl) ⟨r0, trivial⟩
  ⟨Ob.d fun c => r_assign rfl rfl, trivial⟩ ?_
 intro a3 w3 τ3 st3 f3
 obtain ⟨e2, e3, -⟩ := f3.ks [(2, _), (3, _)] ⟨e2, e3, trivial⟩
 have e4 : get a3 4 = (.int .i64 (0)) := f3.v 0 rfl
 replace r0 := f3.iy 0 rfl
 clear f3
 show Code.wp _ _ _ a3 w3
 refine wp_block ?_
 refine wp_loop (fun a_ w_ => ∃ (k : Nat) (τ : Nat → Foot), (k ≤ (bs s).length) ∧
      St (Nw w) w 35 a_ w_ τ ∧
      get a_ 4 = (.int .i64 ((k : Int))) ∧
      get a_ 2 = (.string ((⟨#[]⟩ : ByteArray))) ∧
      get a_ 3 = b2x3 ∧
      bytR 5 (mapTo foldU (bs s) k) (τ 0) b2x3 w_) (fun a_ _ => (bs s).length - (intOf (get a_ 4)).toNat) ?_ ?_
 · refine ⟨0, τ3, ?_, st3, (e4.trans (int_eq (by omega))), e2, e3, ?_⟩
   · omega
   · exact r0.cast (by exact mapTo_zero _ _)
 intro a4 w4 hI
 obtain ⟨k, τ4, q0, st4, e4, e2, e3, r0⟩ := hI
 have hml := mapTo_len foldU (bs s) k
 have m4 := e4
 refine wp_seq ?_
 refine wp_seq ?_
 refine region_St (bf := [0, 0, 2, 7]) (sp := [det _ 7 _, det _ 8 _, det _ 9 _, det _ 10 _]) [iy r0] mixed st4 (by kernel_rfl) ⟨r0, trivial⟩
  ⟨Ob.d fun c => r_move rfl (c.p e4),
  Ob.d fun c => r_move rfl (c.p e3),
  Ob.d fun c => r_len rfl Try.underlying84 (c.n 1 rfl) r0.isSl,
  Ob.d fun c => r_lss rfl (c.n 0 rfl) (c.n 2 rfl), trivial⟩ ?_
 intro a5 w5 τ5 st5 f5
 obtain ⟨e2, e3, e4, -⟩ := f5.ks [(2, _), (3, _), (4, _)] ⟨e2, e3, e4, trivial⟩
 have e10 : get a5 10 = (.bool (decide ((k : Int) < ((mapTo foldU (bs s) k).length : Int)))) := f5.v 3 rfl
 replace r0 := f5.iy 0 rfl
 clear f5
 show Code.wp _ _ _ a5 w5
 refine wp_cond_split (t := decide ((k : Int) < ((mapTo foldU (bs s) k).length : Int))) e10 (fun hc1 => ?_) (fun hc1 => ?_)
 · try simp only [decide_eq_true_eq] at hc1
   refine wp_skip ?_
   show Code.wp _ _ _ a5 w5
   refine wp_seq ?_
   refine wp_block ?_
   refine wp_seq ?_
   refine region_St (bf := [0, 0, 3, 7, 15, 31, 63, 63, 255, 511, 1023, 2047]) (sp := [det _ 13 _, det _ 14 _, det _ 15 _, det _ 16 _, det _ 17 _, det _ 18 _, gdet _ 19 _ _, gdet _ 20 _ _, gdet _ 21 _ _, gdet _ 22 _ _, gdet _ 23 _ _, det _ 24 _]) [iy r0] mixed st5 (by kernel_rfl) ⟨r0, trivial⟩
    ⟨Ob.d fun c => r_move rfl (c.p e3),
    Ob.d fun c => r_move rfl (c.p e4),
    Ob.d fun c => r_indexAddr rfl Try.underlying84 Try.sizeOf5 (c.n 0 rfl) r0.isSl (c.n 1 rfl) (by first | omega | exact (u8w _).1 | exact (u8w _).2) (by first | omega | exact (u8w _).1 | exact (u8w _).2),
    Ob.d fun c => r_load1 rfl Try.isAgg5 (c.n 2 rfl) (((c.iy 0 rfl).1.sl).elem (j := 0) (nth_some (i := (k : Int)) (by first | omega | exact (u8w _).1 | exact (u8w _).2) (by first | omega | exact (u8w _).1 | exact (u8w _).2)) rfl),
    Ob.d fun c => r_geq rfl (c.n 3 rfl) rfl,
    Ob.d fun c => r_move rfl (c.n 4 rfl),
    Ob.g 5 true rfl fun c hpc => r_move rfl (c.p e3),
    Ob.g 5 true rfl fun c hpc => r_move rfl (c.p e4),
    Ob.g 5 true rfl fun c hpc => r_indexAddr rfl Try.underlying84 Try.sizeOf5 (c.m 6 rfl hpc) r0.isSl (c.m 7 rfl hpc) (by have hq0 := bt hpc; first | omega | exact (u8w _).1 | exact (u8w _).2) (by have hq0 := bt hpc; first | omega | exact (u8w _).1 | exact (u8w _).2),
    Ob.g 5 true rfl fun c hpc => r_load1 rfl Try.isAgg5 (c.m 8 rfl hpc) (((c.iy 0 rfl).1.sl).elem (j := 0) (nth_some (i := (k : Int)) (by have hq0 := bt hpc; first | omega | exact (u8w _).1 | exact (u8w _).2) (by have hq0 := bt hpc; first | omega | exact (u8w _).1 | exact (u8w _).2)) rfl),
    Ob.g 5 true rfl fun c hpc => r_leq rfl (c.m 9 rfl hpc) rfl,
    Ob.d fun c => r_and rfl (c.n 5 rfl) (fun h => c.m 10 rfl h), trivial⟩ ?_
   intro a6 w6 τ6 st6 f6
   obtain ⟨e2, e3, e4, e10, -⟩ := f6.ks [(2, _), (3, _), (4, _), (10, _)] ⟨e2, e3, e4, e10, trivial⟩
   have e24 : get a6 24 = (.bool ((decide (65 ≤ ((nth (mapTo foldU (bs s) k) ((k : Int))).toNat : Int))) && (decide (((nth (mapTo foldU (bs s) k) ((k : Int))).toNat : Int) ≤ 90)))) := f6.v 11 rfl
   replace r0 := f6.iy 0 rfl
   clear f6
   show Code.wp _ _ _ a6 w6
   refine wp_cond_split (t := (decide (65 ≤ ((nth (mapTo foldU (bs s) k) ((k : Int))).toNat : Int))) && (decide (((nth (mapTo foldU (bs s) k) ((k : Int))).toNat : Int) ≤ 90))) e24 (fun hc2 => ?_) (fun hc2 => ?_)
   · have hd2 := hc2; try simp only [Bool.and_eq_true, decide_eq_true_eq] at hd2
     refine region_St (bf := [0, 0, 0, 0, 12, 28, 60, 127, 255]) (sp := [det _ 25 _, det _ 26 _, det _ 27 _, det _ 28 _, det _ 29 _, det _ 30 _, det _ 31 _, det _ 32 _, byt 5 _ 0 3 _]) [iy r0] mixed st6 (by kernel_rfl) ⟨r0, trivial⟩
      ⟨Ob.d fun c => r_move rfl (c.p e3),
      Ob.d fun c => r_move rfl (c.p e4),
      Ob.d fun c => r_move rfl (c.p e3),
      Ob.d fun c => r_move rfl (c.p e4),
      Ob.d fun c => r_indexAddr rfl Try.underlying84 Try.sizeOf5 (c.n 2 rfl) r0.isSl (c.n 3 rfl) (by first | omega | exact (u8w _).1 | exact (u8w _).2) (by first | omega | exact (u8w _).1 | exact (u8w _).2),
      Ob.d fun c => r_load1 rfl Try.isAgg5 (c.n 4 rfl) (((c.iy 0 rfl).1.sl).elem (j := 0) (nth_some (i := (k : Int)) (by first | omega | exact (u8w _).1 | exact (u8w _).2) (by first | omega | exact (u8w _).1 | exact (u8w _).2)) rfl),
      Ob.d fun c => r_addW rfl (c.n 5 rfl) rfl,
      Ob.d fun c => r_indexAddr rfl Try.underlying84 Try.sizeOf5 (c.n 0 rfl) r0.isSl (c.n 1 rfl) (by first | omega | exact (u8w _).1 | exact (u8w _).2) (by first | omega | exact (u8w _).1 | exact (u8w _).2),
      Ob.storeY (i := ((k : Int)).toNat) (n := IntKind.u8.wrap (((nth (mapTo foldU (bs s) k) ((k : Int))).toNat : Int) + 32)) rfl rfl rfl rfl Try.sizeOf5 (by first | omega | exact (u8w _).1 | exact (u8w _).2) (by first | omega | exact (u8w _).1 | exact (u8w _).2) (by first | omega | exact (u8w _).1 | exact (u8w _).2) fun c => ⟨c.yp 0 rfl e3, c.ad (c.n 7 rfl) e3 rfl, (c.n 6 rfl)⟩, trivial⟩ ?_
     intro a7 w7 τ7 st7 f7
     obtain ⟨e2, e3, e4, e10, e24, -⟩ := f7.ks [(2, _), (3, _), (4, _), (10, _), (24, _)] ⟨e2, e3, e4, e10, e24, trivial⟩
     replace r0 : bytR 5 ((mapTo foldU (bs s) k).set ((k : Int)).toNat (UInt8.ofNat (IntKind.u8.wrap (((nth (mapTo foldU (bs s) k) ((k : Int))).toNat : Int) + 32)).toNat)) (τ7 0) b2x3 w7 := f7.ry 8 e3 rfl
     clear f7
     show _
     show Code.wp _ _ _ a7 w7
     refine region_St (bf := [0, 1, 3]) (sp := [det _ 11 _, det _ 12 _, det _ 4 _]) [iy r0] mixed st7 (by kernel_rfl) ⟨r0, trivial⟩
      ⟨Ob.d fun c => r_move rfl (c.p e4),
      Ob.d fun c => r_add rfl (c.n 0 rfl) rfl (by first | omega | exact (u8w _).1 | exact (u8w _).2),
      Ob.d fun c => r_assign rfl (c.n 1 rfl), trivial⟩ ?_
     intro a8 w8 τ8 st8 f8
     obtain ⟨e2, e3, e10, e24, -⟩ := f8.ks [(2, _), (3, _), (10, _), (24, _)] ⟨e2, e3, e10, e24, trivial⟩
     have e4 : get a8 4 = (.int .i64 ((k : Int) + 1)) := f8.v 2 rfl
     replace r0 := f8.iy 0 rfl
     clear f8
     refine ⟨⟨k + 1, τ8, ?_, st8, (e4.trans (int_eq (by omega))), e2, e3, ?_⟩, ?_⟩
     · omega
     · exact r0.cast (by first | exact fold_hit (by omega) (by assumption) | exact fold_miss (by omega) (by assumption))
     · simp only [m4, e4, intOf]; omega
   have hd2 := hc2; try simp only [Bool.and_eq_false_iff, decide_eq_false_iff_not, Int.not_le] at hd2
   refine wp_skip ?_
   show _
   show Code.wp _ _ _ a6 w6
   refine region_St (bf := [0, 1, 3]) (sp := [det _ 11 _, det _ 12 _, det _ 4 _]) [iy r0] mixed st6 (by kernel_rfl) ⟨r0, trivial⟩
    ⟨Ob.d fun c => r_move rfl (c.p e4),
    Ob.d fun c => r_add rfl (c.n 0 rfl) rfl (by first | omega | exact (u8w _).1 | exact (u8w _).2),
    Ob.d fun c => r_assign rfl (c.n 1 rfl), trivial⟩ ?_
   intro a9 w9 τ9 st9 f9
   obtain ⟨e2, e3, e10, e24, -⟩ := f9.ks [(2, _), (3, _), (10, _), (24, _)] ⟨e2, e3, e10, e24, trivial⟩
   have e4 : get a9 4 = (.int .i64 ((k : Int) + 1)) := f9.v 2 rfl
   replace r0 := f9.iy 0 rfl
   clear f9
   refine ⟨⟨k + 1, τ9, ?_, st9, (e4.trans (int_eq (by omega))), e2, e3, ?_⟩, ?_⟩
   · omega
   · exact r0.cast (by first | exact fold_hit (by omega) (by assumption) | exact fold_miss (by omega) (by assumption))
   · simp only [m4, e4, intOf]; omega
 try simp only [decide_eq_false_iff_not, Int.not_lt] at hc1
 refine wp_exit ?_
 repeat (with_reducible refine then_exit ?_)
 refine exit_here ?_
 show Code.wp _ _ _ a5 w5
 refine wp_seq ?_
 refine region_St (bf := [0, 1, 3]) (sp := [det _ 33 _, det _ 34 _, det _ 2 _]) [iy r0] mixed st5 (by kernel_rfl) ⟨r0, trivial⟩
  ⟨Ob.d fun c => r_move rfl (c.p e3),
  Ob.d fun c => r_ofBytes rfl Try.underlying84 Try.underlying5 Try.underlying9 (c.n 0 rfl) (c.iy 0 rfl).1.sl,
  Ob.d fun c => r_assign rfl (c.n 1 rfl), trivial⟩ ?_
 intro a10 w10 τ10 st10 f10
 have e2 : get a10 2 = (.string (⟨(mapTo foldU (bs s) k).toArray⟩)) := f10.v 2 rfl
 clear f10
 show Code.wp _ _ _ a10 w10
 refine wp_ret ?_
 repeat (first | with_reducible refine then_ret ?_ | with_reducible refine block_ret ?_)
 refine ret1 (fn := Try.f70) rfl st10.defers e2 ?_
 exact ⟨congrArg (fun l_ => Ending.returned (.string ⟨List.toArray l_⟩)) (mapTo_all (by omega)), st10.ext0⟩
set_option maxRecDepth 100000 in
theorem refUnion_c (v : Value) (xs : List (ByteArray × ByteArray)) (w : World) (hS : SlT RowE w v xs) (hz : Small xs) (hbig : xs.length ≤ 1000000000) : Calls Try.prog 69 #[v] w (fun e w' => ∃ v', e = .returned v' ∧ Ext none' w w' ∧ NewT RowE 43 w w' v' (unionT xs)) := by
 refine enter (n := 137) Try.func69 rfl rfl (Nat.le_of_ble_eq_true rfl) ?_
 intro a0 τ0 ha st0
 have e0 : get a0 0 = v := ha 0 _ rfl
 clear ha
 have hle := hS.le
 refine wp_seq ?_
 refine region_St (bf := [0]) (sp := [det _ 2 _]) [] mixed st0 (by kernel_rfl) trivial
  ⟨Ob.d fun c => r_assign rfl rfl, trivial⟩ ?_
 intro a1 w1 τ1 st1 f1
 obtain ⟨e0, -⟩ := f1.ks [(0, _)] ⟨e0, trivial⟩
 have e2 : get a1 2 = (.slice none 0 0) := f1.v 0 rfl
 clear f1
 show Code.wp _ _ _ a1 w1
 refine wp_seq ?_
 refine region_St (bf := [0]) (sp := [det _ 3 _]) [] mixed st1 (by kernel_rfl) trivial
  ⟨Ob.d fun c => r_assign rfl rfl, trivial⟩ ?_
 intro a2 w2 τ2 st2 f2
 obtain ⟨e0, e2, -⟩ := f2.ks [(0, _), (2, _)] ⟨e0, e2, trivial⟩
 have e3 : get a2 3 = (.slice none 0 0) := f2.v 0 rfl
 clear f2
 show Code.wp _ _ _ a2 w2
 refine wp_seq ?_
 refine wp_seq ?_
 refine region_St (bf := [0]) (sp := [det _ 4 _]) [] mixed st2 (by kernel_rfl) trivial
  ⟨Ob.d fun c => r_assign rfl rfl, trivial⟩ ?_
 intro a3 w3 τ3 st3 f3
 obtain ⟨e0, e2, e3, -⟩ := f3.ks [(0, _), (2, _), (3, _)] ⟨e0, e2, e3, trivial⟩
 have e4 : get a3 4 = (.int .i64 (0)) := f3.v 0 rfl
 clear f3
 show Code.wp _ _ _ a3 w3
 refine wp_block ?_
 refine wp_loop (fun a_ w_ => ∃ (i : Nat) (o : Value) (τ : Nat → Foot), (i ≤ xs.length) ∧
      St (Nw w) w 137 a_ w_ τ ∧
      get a_ 3 = o ∧
      get a_ 4 = (.int .i64 ((i : Int))) ∧
      get a_ 0 = v ∧
      get a_ 2 = (.slice none 0 0) ∧
      ownR RowE 43 ((isort ltQ ((xs.take i).filter rowB))) (τ 0) o w_) (fun a_ _ => xs.length - (intOf (get a_ 4)).toNat) ?_ ?_
 · refine ⟨0, (.slice none 0 0), τ3, ?_, st3, e3, (e4.trans (int_eq (by omega))), e0, e2, ?_⟩
   · omega
   · exact ownR.nil _ _ _ _
 intro a4 w4 hI
 obtain ⟨i, o, τ4, q0, st4, e3, e4, e0, e2, r0⟩ := hI
 have hil := isort_length (lt := ltQ) ((xs.take i).filter rowB)
 have hfl := filter_le (f := rowB) (xs := xs) (k := i)
 have hzk := small_at hz (k := i)
 have m4 := e4
 refine wp_seq ?_
 refine wp_seq ?_
 refine region_St (bf := [0, 0, 2, 7]) (sp := [det _ 10 _, det _ 11 _, det _ 12 _, det _ 13 _]) [io r0] mixed st4 (by kernel_rfl) ⟨r0, trivial⟩
  ⟨Ob.d fun c => r_move rfl (c.p e4),
  Ob.d fun c => r_move rfl (c.p e0),
  Ob.d fun c => r_len rfl Try.underlying22 (c.n 1 rfl) hS.sl,
  Ob.d fun c => r_lss rfl (c.n 0 rfl) (c.n 2 rfl), trivial⟩ ?_
 intro a5 w5 τ5 st5 f5
 obtain ⟨e0, e2, e3, e4, -⟩ := f5.ks [(0, _), (2, _), (3, _), (4, _)] ⟨e0, e2, e3, e4, trivial⟩
 have e13 : get a5 13 = (.bool (decide ((i : Int) < (xs.length : Int)))) := f5.v 3 rfl
 replace r0 := f5.io 0 rfl
 clear f5
 show Code.wp _ _ _ a5 w5
 refine wp_cond_split (t := decide ((i : Int) < (xs.length : Int))) e13 (fun hc1 => ?_) (fun hc1 => ?_)
 · try simp only [decide_eq_true_eq] at hc1
   refine wp_skip ?_
   show Code.wp _ _ _ a5 w5
   refine wp_seq ?_
   refine wp_block ?_
   refine wp_seq ?_
   refine region_St (bf := [0, 0, 3, 7, 0, 31]) (sp := [det _ 16 _, det _ 17 _, det _ 18 _, det _ 19 _, box _ _ 2 5 [(.string ((⟨#[]⟩ : ByteArray))), (.string ((⟨#[]⟩ : ByteArray)))], box _ _ 2 5 [(.string ((nth xs ((i : Int))).1)), (.string ((nth xs ((i : Int))).2))]]) [io r0] mixed st5 (by kernel_rfl) ⟨r0, trivial⟩
    ⟨Ob.d fun c => r_move rfl (c.p e0),
    Ob.d fun c => r_move rfl (c.p e4),
    Ob.d fun c => r_indexAddr rfl Try.underlying22 Try.sizeOf43 (c.n 0 rfl) hS.sl (c.n 1 rfl) (by omega) (by omega),
    Ob.d fun c => r_loadN (vs := [(.string ((nth xs ((i : Int))).1)), (.string ((nth xs ((i : Int))).2))]) rfl Try.isAgg43 Try.sizeOf43 (c.n 2 rfl) rfl (fun _ _ hj => ((hS.at (st5.ext.trans c.J.ext))).elem (nth_some (i := (i : Int)) (by omega) (by omega)) hj),
    Ob.alloc rfl rfl rfl rfl Try.zeroValue43 rfl,
    Ob.storeBox (off := 0) (v := (.agg #[(.string ((nth xs ((i : Int))).1)), (.string ((nth xs ((i : Int))).2))])) rfl rfl rfl rfl Try.sizeOf43 (Nat.le_of_ble_eq_true rfl) (by simp [Value.cells, Value.oneCell', Sv.v]) rfl (fun _ _ _ _ c => ⟨c.rb 4 rfl, (c.rb 4 rfl).ptr, (c.n 3 rfl)⟩), trivial⟩ ?_
   intro a6 w6 τ6 st6 f6
   obtain ⟨b6x5, e5⟩ : ∃ b, get a6 5 = b := ⟨_, rfl⟩
   obtain ⟨e0, e2, e3, e4, e13, -⟩ := f6.ks [(0, _), (2, _), (3, _), (4, _), (13, _)] ⟨e0, e2, e3, e4, e13, trivial⟩
   replace r0 := f6.io 0 rfl
   have r2 : boxR 43 [(.string ((nth xs ((i : Int))).1)), (.string ((nth xs ((i : Int))).2))] (τ6 2) b6x5 w6 := f6.rb 5 e5 rfl
   clear f6
   show Code.wp _ _ _ a6 w6
   refine wp_seq ?_
   refine wp_seq ?_
   refine region_St (bf := [0, 1, 3, 7, 15, 31, 63, 127, 255, 511, 1023, 2047, 4095, 2047, 10239, 32767, 65535]) (sp := [det _ 20 _, det _ 21 _, det _ 22 _, det _ 23 _, det _ 24 _, gdet _ 25 _ _, gdet _ 26 _ _, gdet _ 27 _ _, gdet _ 28 _ _, det _ 29 _, det _ 30 _, gdet _ 31 _ _, gdet _ 32 _ _, gdet _ 33 _ _, gdet _ 34 _ _, gdet _ 35 _ _, det _ 36 _]) [io r0, Ini.any _, ib r2] mixed st6 (by kernel_rfl) ⟨r0, trivial, r2, trivial⟩
    ⟨Ob.d fun c => r_fieldAddr rfl Try.underlying43 rfl rfl Try.sizeOf9 ((c.p e5).trans r2.ptr),
    Ob.d fun c => r_load1 rfl Try.isAgg9 (c.n 0 rfl) ((c.ib 2 rfl).cell (j := 0) rfl),
    Ob.c fun c => ⟨_, _, (e_call1 rfl rfl Try.call42 (c.n 1 rfl)), refProper_c ((nth xs ((i : Int))).1) _ (by omega)⟩,
    Ob.d fun c => r_not rfl (c.n 2 rfl),
    Ob.d fun c => r_move rfl (c.n 3 rfl),
    Ob.g 4 false rfl fun c hpc => r_fieldAddr rfl Try.underlying43 rfl rfl Try.sizeOf9 ((c.p e5).trans r2.ptr),
    Ob.g 4 false rfl fun c hpc => r_load1 rfl Try.isAgg9 (c.m 5 rfl hpc) ((c.ib 2 rfl).cell (j := 1) rfl),
    Ob.gc 4 false rfl fun c hpc => ⟨_, _, (e_call1 rfl rfl Try.call42 (c.m 6 rfl hpc)), refProper_c ((nth xs ((i : Int))).2) _ (by have hq0 := hpc; (try simp only [Bool.not_eq_true', Bool.not_eq_false'] at hq0); omega)⟩,
    Ob.g 4 false rfl fun c hpc => r_not rfl (c.m 7 rfl hpc),
    Ob.d fun c => r_or rfl (c.n 4 rfl) (fun h => c.m 8 rfl h),
    Ob.d fun c => r_move rfl (c.n 9 rfl),
    Ob.g 10 false rfl fun c hpc => r_fieldAddr rfl Try.underlying43 rfl rfl Try.sizeOf9 ((c.p e5).trans r2.ptr),
    Ob.g 10 false rfl fun c hpc => r_load1 rfl Try.isAgg9 (c.m 11 rfl hpc) ((c.ib 2 rfl).cell (j := 0) rfl),
    Ob.g 10 false rfl fun c hpc => r_fieldAddr rfl Try.underlying43 rfl rfl Try.sizeOf9 ((c.p e5).trans r2.ptr),
    Ob.g 10 false rfl fun c hpc => r_load1 rfl Try.isAgg9 (c.m 13 rfl hpc) ((c.ib 2 rfl).cell (j := 1) rfl),
    Ob.g 10 false rfl fun c hpc => r_sgtr rfl (c.m 12 rfl hpc) (c.m 14 rfl hpc),
    Ob.d fun c => r_or rfl (c.n 10 rfl) (fun h => c.m 15 rfl h), trivial⟩ ?_
   intro a7 w7 τ7 st7 f7
   obtain ⟨e0, e2, e3, e4, e5, e13, -⟩ := f7.ks [(0, _), (2, _), (3, _), (4, _), (5, _), (13, _)] ⟨e0, e2, e3, e4, e5, e13, trivial⟩
   have e36 : get a7 36 = (.bool (((!(properB ((nth xs ((i : Int))).1))) || (!(properB ((nth xs ((i : Int))).2)))) || (!(leT ((nth xs ((i : Int))).1) ((nth xs ((i : Int))).2))))) := f7.v 16 rfl
   replace r0 := f7.io 0 rfl
   replace r2 := f7.ib 2 rfl
   clear f7
   show Code.wp _ _ _ a7 w7
   refine wp_cond_split (t := ((!(properB ((nth xs ((i : Int))).1))) || (!(properB ((nth xs ((i : Int))).2)))) || (!(leT ((nth xs ((i : Int))).1) ((nth xs ((i : Int))).2)))) e36 (fun hc2 => ?_) (fun hc2 => ?_)
   · have hd2 := hc2; try simp only [Bool.or_eq_true, Bool.or_eq_false_iff, Bool.not_eq_true', Bool.not_eq_false'] at hd2
     refine wp_exit ?_
     repeat (with_reducible refine then_exit ?_)
     refine exit_here ?_
     show Code.wp _ _ _ a7 w7
     refine region_St (bf := [0, 1, 3]) (sp := [det _ 14 _, det _ 15 _, det _ 4 _]) [io r0, Ini.any _, ib r2] mixed st7 (by kernel_rfl) ⟨r0, trivial, r2, trivial⟩
      ⟨Ob.d fun c => r_move rfl (c.p e4),
      Ob.d fun c => r_add rfl (c.n 0 rfl) rfl (by omega),
      Ob.d fun c => r_assign rfl (c.n 1 rfl), trivial⟩ ?_
     intro a8 w8 τ8 st8 f8
     obtain ⟨e0, e2, e3, e5, e13, e36, -⟩ := f8.ks [(0, _), (2, _), (3, _), (5, _), (13, _), (36, _)] ⟨e0, e2, e3, e5, e13, e36, trivial⟩
     have e4 : get a8 4 = (.int .i64 ((i : Int) + 1)) := f8.v 2 rfl
     replace r0 := f8.io 0 rfl
     replace r2 := f8.ib 2 rfl
     clear f8
     refine ⟨⟨i + 1, o, τ8, ?_, st8, e3, (e4.trans (int_eq (by omega))), e0, e2, ?_⟩, ?_⟩
     · omega
     · exact r0.cast (by first | exact refIns_f (by omega) (row_yes (by assumption)) q0 q1 (by assumption) | (rw [filter_f (by omega) (row_no (by assumption))]))
     · simp only [m4, e4, intOf]; omega
   have hd2 := hc2; try simp only [Bool.or_eq_true, Bool.or_eq_false_iff, Bool.not_eq_true', Bool.not_eq_false'] at hd2
   refine wp_skip ?_
   show Code.wp _ _ _ a7 w7
   refine wp_seq ?_
   refine region_St (bf := [0, 1, 3]) (sp := [det _ 37 _, det _ 38 _, det _ 6 _]) [io r0, Ini.any _, ib r2] mixed st7 (by kernel_rfl) ⟨r0, trivial, r2, trivial⟩
    ⟨Ob.d fun c => r_move rfl (c.p e3),
    Ob.d fun c => r_len rfl Try.underlying22 (c.n 0 rfl) r0.isSl,
    Ob.d fun c => r_assign rfl (c.n 1 rfl), trivial⟩ ?_
   intro a9 w9 τ9 st9 f9
   obtain ⟨e0, e2, e3, e4, e5, e13, e36, -⟩ := f9.ks [(0, _), (2, _), (3, _), (4, _), (5, _), (13, _), (36, _)] ⟨e0, e2, e3, e4, e5, e13, e36, trivial⟩
   have e6 : get a9 6 = (.int .i64 (((isort ltQ ((xs.take i).filter rowB)).length : Int))) := f9.v 2 rfl
   replace r0 := f9.io 0 rfl
   replace r2 := f9.ib 2 rfl
   clear f9
   show Code.wp _ _ _ a9 w9
   refine wp_seq ?_
   refine wp_block ?_
   refine wp_loop (fun a_ w_ => ∃ (k : Nat) (τ : Nat → Foot), (k ≤ (isort ltQ ((xs.take i).filter rowB)).length) ∧
          (∀ q ∈ (isort ltQ ((xs.take i).filter rowB)).drop k, ltQ (nth xs (i : Int)) q = true) ∧
          St (Nw w) w 137 a_ w_ τ ∧
          get a_ 6 = (.int .i64 ((k : Int))) ∧
          get a_ 0 = v ∧
          get a_ 2 = (.slice none 0 0) ∧
          get a_ 3 = o ∧
          get a_ 4 = (.int .i64 ((i : Int))) ∧
          get a_ 5 = b6x5 ∧
          get a_ 13 = (.bool (decide ((i : Int) < (xs.length : Int)))) ∧
          get a_ 36 = (.bool (((!(properB ((nth xs ((i : Int))).1))) || (!(properB ((nth xs ((i : Int))).2)))) || (!(leT ((nth xs ((i : Int))).1) ((nth xs ((i : Int))).2))))) ∧
          ownR RowE 43 ((isort ltQ ((xs.take i).filter rowB))) (τ 0) o w_ ∧
          boxR 43 [(.string ((nth xs ((i : Int))).1)), (.string ((nth xs ((i : Int))).2))] (τ 2) b6x5 w_) (fun a_ _ => (intOf (get a_ 6)).toNat) ?_ ?_
   · refine ⟨(isort ltQ ((xs.take i).filter rowB)).length, τ9, ?_, ?_, st9, (e6.trans (int_eq (by omega))), e0, e2, e3, e4, e5, e13, e36, r0, r2⟩
     · omega
     · simp
   intro a10 w10 hI
   obtain ⟨k, τ10, q0, q1, st10, e6, e0, e2, e3, e4, e5, e13, e36, r0, r2⟩ := hI
   have m6 := e6
   refine wp_seq ?_
   refine wp_seq ?_
   refine region_St (bf := [0, 1, 3, 7, 15, 7, 7, 71, 231, 487, 999, 2047, 4095, 8191, 16383, 8191, 8191, 73727, 237567, 499711, 1023999, 2097151, 4194303, 8388607, 16777215, 8388607, 8388607, 75497471, 243269631, 511705087, 1048575999, 2147483647, 4294967295, 8589934591, 17179869183]) (sp := [det _ 39 _, det _ 40 _, det _ 41 _, gdet _ 42 _ _, gdet _ 43 _ _, gdet _ 44 _ _, gdet _ 45 _ _, gdet _ 46 _ _, gdet _ 47 _ _, gdet _ 48 _ _, gdet _ 49 _ _, gdet _ 50 _ _, gdet _ 51 _ _, gdet _ 52 _ _, gdet _ 53 _ _, gdet _ 54 _ _, gdet _ 55 _ _, gdet _ 56 _ _, gdet _ 57 _ _, gdet _ 58 _ _, gdet _ 59 _ _, gdet _ 60 _ _, gdet _ 61 _ _, gdet _ 62 _ _, gdet _ 63 _ _, gdet _ 64 _ _, gdet _ 65 _ _, gdet _ 66 _ _, gdet _ 67 _ _, gdet _ 68 _ _, gdet _ 69 _ _, gdet _ 70 _ _, gdet _ 71 _ _, gdet _ 72 _ _, det _ 73 _]) [io r0, Ini.any _, ib r2] mixed st10 (by kernel_rfl) ⟨r0, trivial, r2, trivial⟩
    ⟨Ob.d fun c => r_move rfl (c.p e6),
    Ob.d fun c => r_gtr rfl (c.n 0 rfl) rfl,
    Ob.d fun c => r_move rfl (c.n 1 rfl),
    Ob.g 2 true rfl fun c hpc => r_fieldAddr rfl Try.underlying43 rfl rfl Try.sizeOf9 ((c.p e5).trans r2.ptr),
    Ob.g 2 true rfl fun c hpc => r_load1 rfl Try.isAgg9 (c.m 3 rfl hpc) ((c.ib 2 rfl).cell (j := 0) rfl),
    Ob.g 2 true rfl fun c hpc => r_move rfl (c.p e3),
    Ob.g 2 true rfl fun c hpc => r_move rfl (c.p e6),
    Ob.g 2 true rfl fun c hpc => r_sub rfl (c.m 6 rfl hpc) rfl (by have hq0 := bt hpc; omega),
    Ob.g 2 true rfl fun c hpc => r_indexAddr rfl Try.underlying22 Try.sizeOf43 (c.m 5 rfl hpc) r0.isSl (c.m 7 rfl hpc) (by have hq0 := bt hpc; omega) (by have hq0 := bt hpc; omega),
    Ob.g 2 true rfl fun c hpc => r_fieldAddr rfl Try.underlying43 rfl rfl Try.sizeOf9 (c.m 8 rfl hpc),
    Ob.g 2 true rfl fun c hpc => r_load1 rfl Try.isAgg9 (c.m 9 rfl hpc) (((c.io 0 rfl).1.sl).elem (j := 0) (nth_some (i := (k : Int) - 1) (by have hq0 := bt hpc; omega) (by have hq0 := bt hpc; omega)) rfl),
    Ob.g 2 true rfl fun c hpc => r_slss rfl (c.m 4 rfl hpc) (c.m 10 rfl hpc),
    Ob.g 2 true rfl fun c hpc => r_move rfl (c.m 11 rfl hpc),
    Ob.gg 12 false rfl fun c hpc => r_fieldAddr rfl Try.underlying43 rfl rfl Try.sizeOf9 ((c.p e5).trans r2.ptr),
    Ob.gg 12 false rfl fun c hpc => r_load1 rfl Try.isAgg9 (c.m 13 rfl hpc) ((c.ib 2 rfl).cell (j := 0) rfl),
    Ob.gg 12 false rfl fun c hpc => r_move rfl (c.p e3),
    Ob.gg 12 false rfl fun c hpc => r_move rfl (c.p e6),
    Ob.gg 12 false rfl fun c hpc => r_sub rfl (c.m 16 rfl hpc) rfl (by have hq0 := hpc.2; have hq1 := bt (hpc.1); omega),
    Ob.gg 12 false rfl fun c hpc => r_indexAddr rfl Try.underlying22 Try.sizeOf43 (c.m 15 rfl hpc) r0.isSl (c.m 17 rfl hpc) (by have hq0 := hpc.2; have hq1 := bt (hpc.1); omega) (by have hq0 := hpc.2; have hq1 := bt (hpc.1); omega),
    Ob.gg 12 false rfl fun c hpc => r_fieldAddr rfl Try.underlying43 rfl rfl Try.sizeOf9 (c.m 18 rfl hpc),
    Ob.gg 12 false rfl fun c hpc => r_load1 rfl Try.isAgg9 (c.m 19 rfl hpc) (((c.io 0 rfl).1.sl).elem (j := 0) (nth_some (i := (k : Int) - 1) (by have hq0 := hpc.2; have hq1 := bt (hpc.1); omega) (by have hq0 := hpc.2; have hq1 := bt (hpc.1); omega)) rfl),
    Ob.gg 12 false rfl fun c hpc => r_seql rfl (c.m 14 rfl hpc) (c.m 20 rfl hpc),
    Ob.gg 12 false rfl fun c hpc => r_move rfl (c.m 21 rfl hpc),
    Ob.gg 22 true rfl fun c hpc => r_fieldAddr rfl Try.underlying43 rfl rfl Try.sizeOf9 ((c.p e5).trans r2.ptr),
    Ob.gg 22 true rfl fun c hpc => r_load1 rfl Try.isAgg9 (c.m 23 rfl hpc) ((c.ib 2 rfl).cell (j := 1) rfl),
    Ob.gg 22 true rfl fun c hpc => r_move rfl (c.p e3),
    Ob.gg 22 true rfl fun c hpc => r_move rfl (c.p e6),
    Ob.gg 22 true rfl fun c hpc => r_sub rfl (c.m 26 rfl hpc) rfl (by have hq0 := hpc.2; have hq1 := hpc.1.2; have hq2 := bt (hpc.1.1); omega),
    Ob.gg 22 true rfl fun c hpc => r_indexAddr rfl Try.underlying22 Try.sizeOf43 (c.m 25 rfl hpc) r0.isSl (c.m 27 rfl hpc) (by have hq0 := hpc.2; have hq1 := hpc.1.2; have hq2 := bt (hpc.1.1); omega) (by have hq0 := hpc.2; have hq1 := hpc.1.2; have hq2 := bt (hpc.1.1); omega),
    Ob.gg 22 true rfl fun c hpc => r_fieldAddr rfl Try.underlying43 rfl rfl Try.sizeOf9 (c.m 28 rfl hpc),
    Ob.gg 22 true rfl fun c hpc => r_load1 rfl Try.isAgg9 (c.m 29 rfl hpc) (((c.io 0 rfl).1.sl).elem (j := 1) (nth_some (i := (k : Int) - 1) (by have hq0 := hpc.2; have hq1 := hpc.1.2; have hq2 := bt (hpc.1.1); omega) (by have hq0 := hpc.2; have hq1 := hpc.1.2; have hq2 := bt (hpc.1.1); omega)) rfl),
    Ob.gg 22 true rfl fun c hpc => r_slss rfl (c.m 24 rfl hpc) (c.m 30 rfl hpc),
    Ob.gg 12 false rfl fun c hpc => r_and rfl (c.m 22 rfl hpc) (fun h => c.m 31 rfl (And.intro hpc h)),
    Ob.g 2 true rfl fun c hpc => r_or rfl (c.m 12 rfl hpc) (fun h => c.m 32 rfl (And.intro hpc h)),
    Ob.d fun c => r_and rfl (c.n 2 rfl) (fun h => c.m 33 rfl h), trivial⟩ ?_
   intro a11 w11 τ11 st11 f11
   obtain ⟨e0, e2, e3, e4, e5, e6, e13, e36, -⟩ := f11.ks [(0, _), (2, _), (3, _), (4, _), (5, _), (6, _), (13, _), (36, _)] ⟨e0, e2, e3, e4, e5, e6, e13, e36, trivial⟩
   have e73 : get a11 73 = (.bool ((decide (0 < (k : Int))) && ((ltT ((nth xs ((i : Int))).1) ((nth (isort ltQ ((xs.take i).filter rowB)) ((k : Int) - 1)).1)) || ((eqT ((nth xs ((i : Int))).1) ((nth (isort ltQ ((xs.take i).filter rowB)) ((k : Int) - 1)).1)) && (ltT ((nth xs ((i : Int))).2) ((nth (isort ltQ ((xs.take i).filter rowB)) ((k : Int) - 1)).2)))))) := f11.v 34 rfl
   replace r0 := f11.io 0 rfl
   replace r2 := f11.ib 2 rfl
   clear f11
   show Code.wp _ _ _ a11 w11
   refine wp_cond_split (t := (decide (0 < (k : Int))) && ((ltT ((nth xs ((i : Int))).1) ((nth (isort ltQ ((xs.take i).filter rowB)) ((k : Int) - 1)).1)) || ((eqT ((nth xs ((i : Int))).1) ((nth (isort ltQ ((xs.take i).filter rowB)) ((k : Int) - 1)).1)) && (ltT ((nth xs ((i : Int))).2) ((nth (isort ltQ ((xs.take i).filter rowB)) ((k : Int) - 1)).2))))) e73 (fun hc3 => ?_) (fun hc3 => ?_)
   · have hd3 := hc3; try simp only [Bool.and_eq_true, Bool.or_eq_true, decide_eq_true_eq] at hd3
     refine wp_skip ?_
     show Code.wp _ _ _ a11 w11
     refine wp_block ?_
     refine region_St (bf := [0, 1, 3]) (sp := [det _ 74 _, det _ 75 _, det _ 6 _]) [io r0, Ini.any _, ib r2] mixed st11 (by kernel_rfl) ⟨r0, trivial, r2, trivial⟩
      ⟨Ob.d fun c => r_move rfl (c.p e6),
      Ob.d fun c => r_sub rfl (c.n 0 rfl) rfl (by omega),
      Ob.d fun c => r_assign rfl (c.n 1 rfl), trivial⟩ ?_
     intro a12 w12 τ12 st12 f12
     obtain ⟨e0, e2, e3, e4, e5, e13, e36, e73, -⟩ := f12.ks [(0, _), (2, _), (3, _), (4, _), (5, _), (13, _), (36, _), (73, _)] ⟨e0, e2, e3, e4, e5, e13, e36, e73, trivial⟩
     have e6 : get a12 6 = (.int .i64 ((k : Int) - 1)) := f12.v 2 rfl
     replace r0 := f12.io 0 rfl
     replace r2 := f12.ib 2 rfl
     clear f12
     show _
     refine ⟨⟨k - 1, τ12, ?_, ?_, st12, (e6.trans (int_eq (by omega))), e0, e2, e3, e4, e5, e13, e36, r0, r2⟩, ?_⟩
     · omega
     · exact down_step (lt := ltQ) (by omega) q0 q1 (and2 (a := decide ((0 : Int) < (k : Int))) (by assumption))
     · simp only [m6, e6, intOf]; omega
   have hd3 := hc3; try simp only [Bool.and_eq_false_iff, Bool.or_eq_false_iff, decide_eq_false_iff_not, Int.not_lt] at hd3
   refine wp_exit ?_
   repeat (with_reducible refine then_exit ?_)
   refine exit_here ?_
   show Code.wp _ _ _ a11 w11
   refine region_St (bf := [0, 0, 0, 6, 15, 0, 32, 127, 0, 0, 768, 2047, 4095]) (sp := [own RowE 43 _ 3 76 ([]), det _ 77 _, det _ 78 _, det _ 79 _, own _ _ _ 3 80 _, det _ 81 _, own RowE 43 _ 4 82 ([(nth xs ((i : Int)))]), own _ _ _ 3 83 _, det _ 84 _, det _ 85 _, det _ 86 _, own _ _ _ 3 87 _, own _ _ _ 3 3 _]) [io r0, Ini.any _, ib r2] mixed st11 (by kernel_rfl) ⟨r0, trivial, r2, trivial⟩
    ⟨Ob.buildEmpty rfl rfl rfl rfl Try.underlying22 Try.sizeOf43,
    Ob.d fun c => r_move rfl (c.p e3),
    Ob.d fun c => r_move rfl (c.p e6),
    Ob.d fun c => r_sliceHi rfl Try.underlying22 Try.sizeOf43 (c.n 1 rfl) r0.isSl (c.n 2 rfl) (by omega) (by omega),
    Ob.append (t0 := 76) rfl rfl rfl rfl Try.underlying22 (i := Try.t43) rfl rfl rfl rfl (by simp only [maxLen]; (try simp); omega) (by show _ * 32 ≤ _; (try simp); omega) (fun _ _ _ _ c => ⟨c.ro 0 rfl, rfl, ⟨_, (c.n 3 rfl), ((c.io 0 rfl).1.sl.sub (lo := 0) (hi := k) (by omega) (by omega))⟩⟩),
    Ob.d fun c => r_loadN (vs := [(.string ((nth xs ((i : Int))).1)), (.string ((nth xs ((i : Int))).2))]) rfl Try.isAgg43 Try.sizeOf43 ((c.p e5).trans r2.ptr) rfl (fun _ _ hj => (c.ib 2 rfl).cell hj),
    Ob.buildSlice (cells := #[(.string ((nth xs ((i : Int))).1)), (.string ((nth xs ((i : Int))).2))]) rfl rfl rfl rfl Try.underlying22 Try.sizeOf43 Try.zeroValue43 rfl (by decide) (by decide) (fun _ _ _ _ c => fill1 (c.n 5 rfl) (by kernel_rfl)) rfl,
    Ob.append (t0 := 80) rfl rfl rfl rfl Try.underlying22 (i := Try.t43) rfl rfl rfl rfl (by simp only [maxLen]; (try simp); omega) (by show _ * 32 ≤ _; (try simp); omega) (fun _ _ _ _ c => ⟨c.ro 4 rfl, rfl, ⟨_, rfl, (c.ro 6 rfl).1.sl⟩⟩),
    Ob.d fun c => r_move rfl (c.p e3),
    Ob.d fun c => r_move rfl (c.p e6),
    Ob.d fun c => r_sliceLo rfl Try.underlying22 Try.sizeOf43 (c.n 8 rfl) r0.isSl (c.n 9 rfl) (by omega) (by omega),
    Ob.append (t0 := 83) rfl rfl rfl rfl Try.underlying22 (i := Try.t43) rfl rfl rfl rfl (by simp only [maxLen]; (try simp); omega) (by show _ * 32 ≤ _; (try simp); omega) (fun _ _ _ _ c => ⟨c.ro 7 rfl, rfl, ⟨_, (c.n 10 rfl), ((c.io 0 rfl).1.sl.sub (lo := k) (hi := (isort ltQ ((xs.take i).filter rowB)).length) (by omega) (by omega))⟩⟩),
    Ob.moveT (t0 := 87) rfl rfl rfl rfl rfl (.inr rfl) (fun _ _ _ _ c => ⟨c.ro 11 rfl, rfl⟩), trivial⟩ ?_
   intro a13 w13 τ13 st13 f13
   obtain ⟨b13x3, e3⟩ : ∃ b, get a13 3 = b := ⟨_, rfl⟩
   obtain ⟨b13x82, e82⟩ : ∃ b, get a13 82 = b := ⟨_, rfl⟩
   obtain ⟨e0, e2, e4, e5, e6, e13, e36, e73, -⟩ := f13.ks [(0, _), (2, _), (4, _), (5, _), (6, _), (13, _), (36, _), (73, _)] ⟨e0, e2, e4, e5, e6, e13, e36, e73, trivial⟩
   replace r0 := f13.io 0 rfl
   replace r2 := f13.ib 2 rfl
   have r3 : ownR RowE 43 ((([] ++ (((isort ltQ ((xs.take i).filter rowB)).drop 0).take (k - 0))) ++ [(nth xs ((i : Int)))]) ++ (((isort ltQ ((xs.take i).filter rowB)).drop k).take (((isort ltQ ((xs.take i).filter rowB)).length) - k))) (τ13 3) b13x3 w13 := f13.ro 12 e3 rfl
   have r4 : ownR RowE 43 ([(nth xs ((i : Int)))]) (τ13 4) b13x82 w13 := f13.ro 6 e82 rfl
   clear f13
   show _
   show Code.wp _ _ _ a13 w13
   refine region_St (bf := [0, 1, 3]) (sp := [det _ 14 _, det _ 15 _, det _ 4 _]) [io r0, Ini.any _, ib r2, io r3, io r4] mixed st13 (by kernel_rfl) ⟨r0, trivial, r2, r3, r4, trivial⟩
    ⟨Ob.d fun c => r_move rfl (c.p e4),
    Ob.d fun c => r_add rfl (c.n 0 rfl) rfl (by omega),
    Ob.d fun c => r_assign rfl (c.n 1 rfl), trivial⟩ ?_
   intro a14 w14 τ14 st14 f14
   obtain ⟨e0, e2, e3, e5, e6, e13, e36, e73, -⟩ := f14.ks [(0, _), (2, _), (3, _), (5, _), (6, _), (13, _), (36, _), (73, _)] ⟨e0, e2, e3, e5, e6, e13, e36, e73, trivial⟩
   have e4 : get a14 4 = (.int .i64 ((i : Int) + 1)) := f14.v 2 rfl
   replace r0 := f14.io 0 rfl
   replace r2 := f14.ib 2 rfl
   replace r3 := f14.io 3 rfl
   replace r4 := f14.io 4 rfl
   clear f14
   refine ⟨⟨i + 1, b13x3, (retag τ14 [(0, 3)]), ?_, (st14.retag [(0, 3)] (by decide)), e3, (e4.trans (int_eq (by omega))), e0, e2, ?_⟩, ?_⟩
   · omega
   · exact r3.cast (by first | exact refIns_f (by omega) (row_yes (by assumption)) q0 q1 (by assumption) | (rw [filter_f (by omega) (row_no (by assumption))]))
   · simp only [m4, e4, intOf]; omega
 try simp only [decide_eq_false_iff_not, Int.not_lt] at hc1
 refine wp_exit ?_
 repeat (with_reducible refine then_exit ?_)
 refine exit_here ?_
 show Code.wp _ _ _ a5 w5
 refine wp_seq ?_
 refine region_St (bf := [0]) (sp := [det _ 7 _]) [io r0] mixed st5 (by kernel_rfl) ⟨r0, trivial⟩
  ⟨Ob.d fun c => r_assign rfl rfl, trivial⟩ ?_
 intro a15 w15 τ15 st15 f15
 obtain ⟨e2, e3, -⟩ := f15.ks [(2, _), (3, _)] ⟨e2, e3, trivial⟩
 have e7 : get a15 7 = (.slice none 0 0) := f15.v 0 rfl
 replace r0 := f15.io 0 rfl
 clear f15
 replace r0 := r0.cast (show isort ltR (xs.filter rowB) = (isort ltQ ((xs.take i).filter rowB)) from by rw [List.take_of_length_le (by omega), ltQ_eq])
 have hil := sort_filter_le xs
 show Code.wp _ _ _ a15 w15
 refine wp_seq ?_
 refine wp_seq ?_
 refine region_St (bf := [0]) (sp := [det _ 8 _]) [io r0] mixed st15 (by kernel_rfl) ⟨r0, trivial⟩
  ⟨Ob.d fun c => r_assign rfl rfl, trivial⟩ ?_
 intro a16 w16 τ16 st16 f16
 obtain ⟨e2, e3, e7, -⟩ := f16.ks [(2, _), (3, _), (7, _)] ⟨e2, e3, e7, trivial⟩
 have e8 : get a16 8 = (.int .i64 (0)) := f16.v 0 rfl
 replace r0 := f16.io 0 rfl
 clear f16
 show Code.wp _ _ _ a16 w16
 refine wp_block ?_
 refine wp_loop (fun a_ w_ => ∃ (m : Nat) (u : Value) (τ : Nat → Foot), (m ≤ (isort ltR (xs.filter rowB)).length) ∧
      St (Nw w) w 137 a_ w_ τ ∧
      get a_ 7 = u ∧
      get a_ 8 = (.int .i64 ((m : Int))) ∧
      get a_ 2 = (.slice none 0 0) ∧
      get a_ 3 = o ∧
      ownR RowE 43 (joinT ((isort ltR (xs.filter rowB)).take m)) (τ 1) u w_ ∧
      ownR RowE 43 (isort ltR (xs.filter rowB)) (τ 0) o w_) (fun a_ _ => (isort ltR (xs.filter rowB)).length - (intOf (get a_ 8)).toNat) ?_ ?_
 · refine ⟨0, (.slice none 0 0), τ16, ?_, st16, e7, (e8.trans (int_eq (by omega))), e2, e3, ?_, r0⟩
   · omega
   · exact ownR.nil _ _ _ _
 intro a17 w17 hI
 obtain ⟨m, u, τ17, q0, st17, e7, e8, e2, e3, r1, r0⟩ := hI
 have hjl := joinT_take (xs := (isort ltR (xs.filter rowB))) (k := m)
 have m8 := e8
 refine wp_seq ?_
 refine wp_seq ?_
 refine region_St (bf := [0, 0, 2, 7]) (sp := [det _ 88 _, det _ 89 _, det _ 90 _, det _ 91 _]) [io r0, io r1] mixed st17 (by kernel_rfl) ⟨r0, r1, trivial⟩
  ⟨Ob.d fun c => r_move rfl (c.p e8),
  Ob.d fun c => r_move rfl (c.p e3),
  Ob.d fun c => r_len rfl Try.underlying22 (c.n 1 rfl) r0.isSl,
  Ob.d fun c => r_lss rfl (c.n 0 rfl) (c.n 2 rfl), trivial⟩ ?_
 intro a18 w18 τ18 st18 f18
 obtain ⟨e2, e3, e7, e8, -⟩ := f18.ks [(2, _), (3, _), (7, _), (8, _)] ⟨e2, e3, e7, e8, trivial⟩
 have e91 : get a18 91 = (.bool (decide ((m : Int) < ((isort ltR (xs.filter rowB)).length : Int)))) := f18.v 3 rfl
 replace r0 := f18.io 0 rfl
 replace r1 := f18.io 1 rfl
 clear f18
 show Code.wp _ _ _ a18 w18
 refine wp_cond_split (t := decide ((m : Int) < ((isort ltR (xs.filter rowB)).length : Int))) e91 (fun hc4 => ?_) (fun hc4 => ?_)
 · try simp only [decide_eq_true_eq] at hc4
   refine wp_skip ?_
   show Code.wp _ _ _ a18 w18
   refine wp_seq ?_
   refine wp_block ?_
   refine wp_seq ?_
   refine region_St (bf := [0, 1, 3]) (sp := [det _ 94 _, det _ 95 _, det _ 9 _]) [io r0, io r1] mixed st18 (by kernel_rfl) ⟨r0, r1, trivial⟩
    ⟨Ob.d fun c => r_move rfl (c.p e7),
    Ob.d fun c => r_len rfl Try.underlying22 (c.n 0 rfl) r1.isSl,
    Ob.d fun c => r_assign rfl (c.n 1 rfl), trivial⟩ ?_
   intro a19 w19 τ19 st19 f19
   obtain ⟨e2, e3, e7, e8, e91, -⟩ := f19.ks [(2, _), (3, _), (7, _), (8, _), (91, _)] ⟨e2, e3, e7, e8, e91, trivial⟩
   have e9 : get a19 9 = (.int .i64 (((joinT ((isort ltR (xs.filter rowB)).take m)).length : Int))) := f19.v 2 rfl
   replace r0 := f19.io 0 rfl
   replace r1 := f19.io 1 rfl
   clear f19
   show Code.wp _ _ _ a19 w19
   refine wp_seq ?_
   refine region_St (bf := [0, 1, 3, 7, 7, 31, 63, 127, 7, 7, 519, 1799, 3847, 7943, 16383, 32767]) (sp := [det _ 96 _, det _ 97 _, det _ 98 _, gdet _ 99 _ _, gdet _ 100 _ _, gdet _ 101 _ _, gdet _ 102 _ _, gdet _ 103 _ _, gdet _ 104 _ _, gdet _ 105 _ _, gdet _ 106 _ _, gdet _ 107 _ _, gdet _ 108 _ _, gdet _ 109 _ _, gdet _ 110 _ _, det _ 111 _]) [io r0, io r1] mixed st19 (by kernel_rfl) ⟨r0, r1, trivial⟩
    ⟨Ob.d fun c => r_move rfl (c.p e9),
    Ob.d fun c => r_gtr rfl (c.n 0 rfl) rfl,
    Ob.d fun c => r_move rfl (c.n 1 rfl),
    Ob.g 2 true rfl fun c hpc => r_move rfl (c.p e3),
    Ob.g 2 true rfl fun c hpc => r_move rfl (c.p e8),
    Ob.g 2 true rfl fun c hpc => r_indexAddr rfl Try.underlying22 Try.sizeOf43 (c.m 3 rfl hpc) r0.isSl (c.m 4 rfl hpc) (by have hq0 := bt hpc; omega) (by have hq0 := bt hpc; omega),
    Ob.g 2 true rfl fun c hpc => r_fieldAddr rfl Try.underlying43 rfl rfl Try.sizeOf9 (c.m 5 rfl hpc),
    Ob.g 2 true rfl fun c hpc => r_load1 rfl Try.isAgg9 (c.m 6 rfl hpc) (((c.io 0 rfl).1.sl).elem (j := 0) (nth_some (i := (m : Int)) (by have hq0 := bt hpc; omega) (by have hq0 := bt hpc; omega)) rfl),
    Ob.g 2 true rfl fun c hpc => r_move rfl (c.p e7),
    Ob.g 2 true rfl fun c hpc => r_move rfl (c.p e9),
    Ob.g 2 true rfl fun c hpc => r_sub rfl (c.m 9 rfl hpc) rfl (by have hq0 := bt hpc; omega),
    Ob.g 2 true rfl fun c hpc => r_indexAddr rfl Try.underlying22 Try.sizeOf43 (c.m 8 rfl hpc) r1.isSl (c.m 10 rfl hpc) (by have hq0 := bt hpc; omega) (by have hq0 := bt hpc; omega),
    Ob.g 2 true rfl fun c hpc => r_fieldAddr rfl Try.underlying43 rfl rfl Try.sizeOf9 (c.m 11 rfl hpc),
    Ob.g 2 true rfl fun c hpc => r_load1 rfl Try.isAgg9 (c.m 12 rfl hpc) (((c.io 1 rfl).1.sl).elem (j := 1) (nth_some (i := ((joinT ((isort ltR (xs.filter rowB)).take m)).length : Int) - 1) (by have hq0 := bt hpc; omega) (by have hq0 := bt hpc; omega)) rfl),
    Ob.g 2 true rfl fun c hpc => r_sleq rfl (c.m 7 rfl hpc) (c.m 13 rfl hpc),
    Ob.d fun c => r_and rfl (c.n 2 rfl) (fun h => c.m 14 rfl h), trivial⟩ ?_
   intro a20 w20 τ20 st20 f20
   obtain ⟨e2, e3, e7, e8, e9, e91, -⟩ := f20.ks [(2, _), (3, _), (7, _), (8, _), (9, _), (91, _)] ⟨e2, e3, e7, e8, e9, e91, trivial⟩
   have e111 : get a20 111 = (.bool ((decide (0 < ((joinT ((isort ltR (xs.filter rowB)).take m)).length : Int))) && (leT ((nth (isort ltR (xs.filter rowB)) ((m : Int))).1) ((nth (joinT ((isort ltR (xs.filter rowB)).take m)) (((joinT ((isort ltR (xs.filter rowB)).take m)).length : Int) - 1)).2)))) := f20.v 15 rfl
   replace r0 := f20.io 0 rfl
   replace r1 := f20.io 1 rfl
   clear f20
   show Code.wp _ _ _ a20 w20
   refine wp_cond_split (t := (decide (0 < ((joinT ((isort ltR (xs.filter rowB)).take m)).length : Int))) && (leT ((nth (isort ltR (xs.filter rowB)) ((m : Int))).1) ((nth (joinT ((isort ltR (xs.filter rowB)).take m)) (((joinT ((isort ltR (xs.filter rowB)).take m)).length : Int) - 1)).2))) e111 (fun hc5 => ?_) (fun hc5 => ?_)
   · have hd5 := hc5; try simp only [Bool.and_eq_true, decide_eq_true_eq] at hd5
     refine region_St (bf := [0, 0, 2, 0, 0, 16, 56, 120, 248, 0, 0, 1536, 3584, 7680, 16376, 32767, 65535, 131071]) (sp := [det _ 112 _, det _ 113 _, det _ 114 _, det _ 115 _, det _ 116 _, det _ 117 _, det _ 118 _, det _ 119 _, det _ 120 _, det _ 121 _, det _ 122 _, det _ 123 _, det _ 124 _, det _ 125 _, det _ 126 _, det _ 127 _, det _ 128 _, own _ _ _ 1 7 _]) [io r0, io r1] mixed st20 (by kernel_rfl) ⟨r0, r1, trivial⟩
      ⟨Ob.d fun c => r_move rfl (c.p e7),
      Ob.d fun c => r_move rfl (c.p e9),
      Ob.d fun c => r_sub rfl (c.n 1 rfl) rfl (by omega),
      Ob.d fun c => r_move rfl (c.p e7),
      Ob.d fun c => r_move rfl (c.p e9),
      Ob.d fun c => r_sub rfl (c.n 4 rfl) rfl (by omega),
      Ob.d fun c => r_indexAddr rfl Try.underlying22 Try.sizeOf43 (c.n 3 rfl) r1.isSl (c.n 5 rfl) (by omega) (by omega),
      Ob.d fun c => r_fieldAddr rfl Try.underlying43 rfl rfl Try.sizeOf9 (c.n 6 rfl),
      Ob.d fun c => r_load1 rfl Try.isAgg9 (c.n 7 rfl) (((c.io 1 rfl).1.sl).elem (j := 1) (nth_some (i := ((joinT ((isort ltR (xs.filter rowB)).take m)).length : Int) - 1) (by omega) (by omega)) rfl),
      Ob.d fun c => r_move rfl (c.p e3),
      Ob.d fun c => r_move rfl (c.p e8),
      Ob.d fun c => r_indexAddr rfl Try.underlying22 Try.sizeOf43 (c.n 9 rfl) r0.isSl (c.n 10 rfl) (by omega) (by omega),
      Ob.d fun c => r_fieldAddr rfl Try.underlying43 rfl rfl Try.sizeOf9 (c.n 11 rfl),
      Ob.d fun c => r_load1 rfl Try.isAgg9 (c.n 12 rfl) (((c.io 0 rfl).1.sl).elem (j := 1) (nth_some (i := (m : Int)) (by omega) (by omega)) rfl),
      Ob.d fun c => r_smax rfl (c.n 8 rfl) (c.n 13 rfl),
      Ob.d fun c => r_indexAddr rfl Try.underlying22 Try.sizeOf43 (c.n 0 rfl) r1.isSl (c.n 2 rfl) (by omega) (by omega),
      Ob.d fun c => r_fieldAddr rfl Try.underlying43 rfl rfl Try.sizeOf9 (c.n 15 rfl),
      Ob.storeElem (E := RowE) (i := (((joinT ((isort ltR (xs.filter rowB)).take m)).length : Int) - 1).toNat) (off := 1) (u := (.string (maxT ((nth (joinT ((isort ltR (xs.filter rowB)).take m)) (((joinT ((isort ltR (xs.filter rowB)).take m)).length : Int) - 1)).2) ((nth (isort ltR (xs.filter rowB)) ((m : Int))).2)))) (x := nth (joinT ((isort ltR (xs.filter rowB)).take m)) (((joinT ((isort ltR (xs.filter rowB)).take m)).length : Int) - 1)) (x' := ((nth (joinT ((isort ltR (xs.filter rowB)).take m)) (((joinT ((isort ltR (xs.filter rowB)).take m)).length : Int) - 1)).1, maxT ((nth (joinT ((isort ltR (xs.filter rowB)).take m)) (((joinT ((isort ltR (xs.filter rowB)).take m)).length : Int) - 1)).2) ((nth (isort ltR (xs.filter rowB)) ((m : Int))).2))) rfl rfl rfl rfl Try.sizeOf9 (nth_some (by omega) (by (try simp only [List.length_set]); omega)) (Nat.le_of_ble_eq_true rfl) (by simp [Value.cells, Value.oneCell', Sv.v]) rfl (fun _ a_ _ _ c => ⟨c.ip 1 rfl e7, c.ad (c.n 16 rfl) e7 (by rw [add_add]; rfl), (c.n 14 rfl)⟩), trivial⟩ ?_
     intro a21 w21 τ21 st21 f21
     obtain ⟨e2, e3, e7, e8, e9, e91, e111, -⟩ := f21.ks [(2, _), (3, _), (7, _), (8, _), (9, _), (91, _), (111, _)] ⟨e2, e3, e7, e8, e9, e91, e111, trivial⟩
     replace r0 := f21.io 0 rfl
     replace r1 : ownR RowE 43 ((joinT ((isort ltR (xs.filter rowB)).take m)).set (((joinT ((isort ltR (xs.filter rowB)).take m)).length : Int) - 1).toNat ((nth (joinT ((isort ltR (xs.filter rowB)).take m)) (((joinT ((isort ltR (xs.filter rowB)).take m)).length : Int) - 1)).1, maxT ((nth (joinT ((isort ltR (xs.filter rowB)).take m)) (((joinT ((isort ltR (xs.filter rowB)).take m)).length : Int) - 1)).2) ((nth (isort ltR (xs.filter rowB)) ((m : Int))).2))) (τ21 1) u w21 := f21.ro 17 e7 rfl
     clear f21
     show _
     show Code.wp _ _ _ a21 w21
     refine region_St (bf := [0, 1, 3]) (sp := [det _ 92 _, det _ 93 _, det _ 8 _]) [io r0, io r1] mixed st21 (by kernel_rfl) ⟨r0, r1, trivial⟩
      ⟨Ob.d fun c => r_move rfl (c.p e8),
      Ob.d fun c => r_add rfl (c.n 0 rfl) rfl (by omega),
      Ob.d fun c => r_assign rfl (c.n 1 rfl), trivial⟩ ?_
     intro a22 w22 τ22 st22 f22
     obtain ⟨e2, e3, e7, e9, e91, e111, -⟩ := f22.ks [(2, _), (3, _), (7, _), (9, _), (91, _), (111, _)] ⟨e2, e3, e7, e9, e91, e111, trivial⟩
     have e8 : get a22 8 = (.int .i64 ((m : Int) + 1)) := f22.v 2 rfl
     replace r0 := f22.io 0 rfl
     replace r1 := f22.io 1 rfl
     clear f22
     refine ⟨⟨m + 1, u, τ22, ?_, st22, e7, (e8.trans (int_eq (by omega))), e2, e3, ?_, r0⟩, ?_⟩
     · omega
     · exact r1.cast (by first | exact joinT_hit (by omega) (hitT_ref (by assumption)) | exact joinT_miss (by omega) (hitT_ref (by assumption)))
     · simp only [m8, e8, intOf]; omega
   have hd5 := hc5; try simp only [Bool.and_eq_false_iff, decide_eq_false_iff_not, Int.not_lt] at hd5
   refine region_St (bf := [0, 0, 0, 6, 14, 30, 63, 127]) (sp := [det _ 129 _, det _ 130 _, det _ 131 _, det _ 132 _, det _ 133 _, own RowE 43 _ 2 134 ([(nth (isort ltR (xs.filter rowB)) ((m : Int)))]), own _ _ _ 1 135 _, own _ _ _ 1 7 _]) [io r0, io r1] mixed st20 (by kernel_rfl) ⟨r0, r1, trivial⟩
    ⟨Ob.d fun c => r_move rfl (c.p e7),
    Ob.d fun c => r_move rfl (c.p e3),
    Ob.d fun c => r_move rfl (c.p e8),
    Ob.d fun c => r_indexAddr rfl Try.underlying22 Try.sizeOf43 (c.n 1 rfl) r0.isSl (c.n 2 rfl) (by omega) (by omega),
    Ob.d fun c => r_loadN (vs := [(.string ((nth (isort ltR (xs.filter rowB)) ((m : Int))).1)), (.string ((nth (isort ltR (xs.filter rowB)) ((m : Int))).2))]) rfl Try.isAgg43 Try.sizeOf43 (c.n 3 rfl) rfl (fun _ _ hj => ((c.io 0 rfl).1.sl).elem (nth_some (i := (m : Int)) (by omega) (by omega)) hj),
    Ob.buildSlice (cells := #[(.string ((nth (isort ltR (xs.filter rowB)) ((m : Int))).1)), (.string ((nth (isort ltR (xs.filter rowB)) ((m : Int))).2))]) rfl rfl rfl rfl Try.underlying22 Try.sizeOf43 Try.zeroValue43 rfl (by decide) (by decide) (fun _ _ _ _ c => fill1 (c.n 4 rfl) (by kernel_rfl)) rfl,
    Ob.append (t0 := 7) rfl rfl rfl rfl Try.underlying22 (i := Try.t43) rfl rfl rfl rfl (by simp only [maxLen]; (try simp); omega) (by show _ * 32 ≤ _; (try simp); omega) (fun _ _ _ _ c => ⟨c.ip 1 rfl e7, c.sm (c.n 0 rfl) e7, ⟨_, rfl, (c.ro 5 rfl).1.sl⟩⟩),
    Ob.moveT (t0 := 135) rfl rfl rfl rfl rfl (.inr rfl) (fun _ _ _ _ c => ⟨c.ro 6 rfl, rfl⟩), trivial⟩ ?_
   intro a23 w23 τ23 st23 f23
   obtain ⟨b23x134, e134⟩ : ∃ b, get a23 134 = b := ⟨_, rfl⟩
   obtain ⟨b23x7, e7⟩ : ∃ b, get a23 7 = b := ⟨_, rfl⟩
   obtain ⟨e2, e3, e8, e9, e91, e111, -⟩ := f23.ks [(2, _), (3, _), (8, _), (9, _), (91, _), (111, _)] ⟨e2, e3, e8, e9, e91, e111, trivial⟩
   replace r0 := f23.io 0 rfl
   replace r1 : ownR RowE 43 ((joinT ((isort ltR (xs.filter rowB)).take m)) ++ [(nth (isort ltR (xs.filter rowB)) ((m : Int)))]) (τ23 1) b23x7 w23 := f23.ro 7 e7 rfl
   have r2 : ownR RowE 43 ([(nth (isort ltR (xs.filter rowB)) ((m : Int)))]) (τ23 2) b23x134 w23 := f23.ro 5 e134 rfl
   clear f23
   show _
   show Code.wp _ _ _ a23 w23
   refine region_St (bf := [0, 1, 3]) (sp := [det _ 92 _, det _ 93 _, det _ 8 _]) [io r0, io r1, io r2] mixed st23 (by kernel_rfl) ⟨r0, r1, r2, trivial⟩
    ⟨Ob.d fun c => r_move rfl (c.p e8),
    Ob.d fun c => r_add rfl (c.n 0 rfl) rfl (by omega),
    Ob.d fun c => r_assign rfl (c.n 1 rfl), trivial⟩ ?_
   intro a24 w24 τ24 st24 f24
   obtain ⟨e2, e3, e7, e9, e91, e111, -⟩ := f24.ks [(2, _), (3, _), (7, _), (9, _), (91, _), (111, _)] ⟨e2, e3, e7, e9, e91, e111, trivial⟩
   have e8 : get a24 8 = (.int .i64 ((m : Int) + 1)) := f24.v 2 rfl
   replace r0 := f24.io 0 rfl
   replace r1 := f24.io 1 rfl
   replace r2 := f24.io 2 rfl
   clear f24
   refine ⟨⟨m + 1, b23x7, τ24, ?_, st24, e7, (e8.trans (int_eq (by omega))), e2, e3, ?_, r0⟩, ?_⟩
   · omega
   · exact r1.cast (by first | exact joinT_hit (by omega) (hitT_ref (by assumption)) | exact joinT_miss (by omega) (hitT_ref (by assumption)))
   · simp only [m8, e8, intOf]; omega
 try simp only [decide_eq_false_iff_not, Int.not_lt] at hc4
 refine wp_exit ?_
 repeat (with_reducible refine then_exit ?_)
 refine exit_here ?_
 show Code.wp _ _ _ a18 w18
 refine wp_seq ?_
 refine region_St (bf := [0, 1]) (sp := [det _ 136 _, det _ 2 _]) [io r0, io r1] mixed st18 (by kernel_rfl) ⟨r0, r1, trivial⟩
  ⟨Ob.d fun c => r_move rfl (c.p e7),
  Ob.d fun c => r_assign rfl (c.n 0 rfl), trivial⟩ ?_
 intro a25 w25 τ25 st25 f25
 have e2 : get a25 2 = u := f25.v 1 rfl
 replace r1 := f25.io 1 rfl
 clear f25
 show Code.wp _ _ _ a25 w25
 refine wp_ret ?_
 repeat (first | with_reducible refine then_ret ?_ | with_reducible refine block_ret ?_)
 refine ret1 (fn := Try.f69) rfl st25.defers e2 ?_
 replace r1 := r1.cast (show unionT xs = _ from by rw [unionT, List.take_of_length_le (l := (isort ltR (xs.filter rowB))) (by omega)])
 exact ⟨_, rfl, st25.ext0, r1.1, fun g_ h_ => (st25.bnd _ g_ (r1.2 g_ h_)).1⟩
set_option maxRecDepth 100000 in
theorem refNamed_c (n : Int) (w : World) : Calls Try.prog 71 #[.int .u8 n] w (fun e w' => ∃ v', e = .returned (.tuple #[v', .bool (namedB n)]) ∧ Ext none' w w' ∧ NewT RowE 43 w w' v' (namedF n)) := by
 refine enter (n := 21) Try.func71 rfl rfl (Nat.le_of_ble_eq_true rfl) ?_
 intro a0 τ0 ha st0
 have e0 : get a0 0 = (.int .u8 (n)) := ha 0 _ rfl
 clear ha
 refine wp_seq ?_
 refine region_St (bf := [0, 1]) (sp := [det _ 2 _, det _ 3 _]) [] mixed st0 (by kernel_rfl) trivial
  ⟨Ob.d fun c => r_assign rfl rfl,
  Ob.d fun c => r_assign rfl rfl, trivial⟩ ?_
 intro a1 w1 τ1 st1 f1
 obtain ⟨e0, -⟩ := f1.ks [(0, _)] ⟨e0, trivial⟩
 have e2 : get a1 2 = (.slice none 0 0) := f1.v 0 rfl
 have e3 : get a1 3 = (.bool (false)) := f1.v 1 rfl
 clear f1
 show Code.wp _ _ _ a1 w1
 refine wp_seq ?_
 refine wp_seq ?_
 refine region_St (bf := [0]) (sp := [det _ 4 _]) [] mixed st1 (by kernel_rfl) trivial
  ⟨Ob.d fun c => r_move rfl (c.p e0), trivial⟩ ?_
 intro a2 w2 τ2 st2 f2
 obtain ⟨e2, e3, -⟩ := f2.ks [(2, _), (3, _)] ⟨e2, e3, trivial⟩
 have e4 : get a2 4 = (.int .u8 (n)) := f2.v 0 rfl
 clear f2
 show Code.wp _ _ _ a2 w2
 refine wp_block ?_
 refine wp_seq ?_
 refine region_St (bf := [0, 1]) (sp := [det _ 6 _, det _ 5 _]) [] mixed st2 (by kernel_rfl) trivial
  ⟨Ob.d fun c => r_eql rfl (c.p e4) rfl,
  Ob.d fun c => r_assign rfl (c.n 0 rfl), trivial⟩ ?_
 intro a3 w3 τ3 st3 f3
 obtain ⟨e2, e3, e4, -⟩ := f3.ks [(2, _), (3, _), (4, _)] ⟨e2, e3, e4, trivial⟩
 have e5 : get a3 5 = (.bool (decide (n = 100))) := f3.v 1 rfl
 clear f3
 show Code.wp _ _ _ a3 w3
 refine wp_cond_split (t := decide (n = 100)) e5 (fun hc1 => ?_) (fun hc1 => ?_)
 · try simp only [decide_eq_true_eq] at hc1
   refine wp_seq ?_
   refine region_St (bf := [0, 1, 3, 7]) (sp := [det _ 7 _, own RowE 43 _ 0 8 ([((⟨#[48]⟩ : ByteArray), (⟨#[57]⟩ : ByteArray))]), own _ _ _ 0 2 _, det _ 3 _]) [] mixed st3 (by kernel_rfl) trivial
    ⟨Ob.d fun c => r_build (cells := #[(.string ((⟨#[48]⟩ : ByteArray))), (.string ((⟨#[57]⟩ : ByteArray)))]) rfl Try.underlying43 Try.zeroValue43 (pl := #[(0, 1), (1, 1)]) (fun w_ => by simp [Try.sizeOf9]) (fill2 rfl rfl rfl),
    Ob.buildSlice (cells := #[(.string ((⟨#[48]⟩ : ByteArray))), (.string ((⟨#[57]⟩ : ByteArray)))]) rfl rfl rfl rfl Try.underlying22 Try.sizeOf43 Try.zeroValue43 rfl (by decide) (by decide) (fun _ _ _ _ c => fill1 (c.n 0 rfl) (by kernel_rfl)) rfl,
    Ob.moveT (t0 := 8) rfl rfl rfl rfl rfl (.inr rfl) (fun _ _ _ _ c => ⟨c.ro 1 rfl, rfl⟩),
    Ob.d fun c => r_assign rfl rfl, trivial⟩ ?_
   intro a4 w4 τ4 st4 f4
   obtain ⟨b4x2, e2⟩ : ∃ b, get a4 2 = b := ⟨_, rfl⟩
   obtain ⟨e4, -⟩ := f4.ks [(4, _)] ⟨e4, trivial⟩
   have e3 : get a4 3 = (.bool (true)) := f4.v 3 rfl
   have r0 : ownR RowE 43 ([((⟨#[48]⟩ : ByteArray), (⟨#[57]⟩ : ByteArray))]) (τ4 0) b4x2 w4 := f4.ro 2 e2 rfl
   clear f4
   show Code.wp _ _ _ a4 w4
   refine wp_ret ?_
   repeat (first | with_reducible refine then_ret ?_ | with_reducible refine block_ret ?_)
   refine ret2 (fn := Try.f71) rfl st4.defers e2 e3 ?_
   obtain ⟨k1, k2⟩ := (by first | exact named_100 (by assumption) | exact named_119 (by assumption) | exact named_115 (by assumption) : namedF n = [((⟨#[48]⟩ : ByteArray), (⟨#[57]⟩ : ByteArray))] ∧ namedB n = true)
   rw [k1, k2]
   exact ⟨_, rfl, st4.ext0, r0.1, fun g_ h_ => (st4.bnd _ g_ (r0.2 g_ h_)).1⟩
 try simp only [decide_eq_false_iff_not] at hc1
 refine wp_seq ?_
 refine region_St (bf := [0, 1]) (sp := [det _ 10 _, det _ 9 _]) [] mixed st3 (by kernel_rfl) trivial
  ⟨Ob.d fun c => r_eql rfl (c.p e4) rfl,
  Ob.d fun c => r_assign rfl (c.n 0 rfl), trivial⟩ ?_
 intro a5 w5 τ5 st5 f5
 obtain ⟨e2, e3, e4, -⟩ := f5.ks [(2, _), (3, _), (4, _)] ⟨e2, e3, e4, trivial⟩
 have e9 : get a5 9 = (.bool (decide (n = 119))) := f5.v 1 rfl
 clear f5
 show Code.wp _ _ _ a5 w5
 refine wp_cond_split (t := decide (n = 119)) e9 (fun hc2 => ?_) (fun hc2 => ?_)
 · try simp only [decide_eq_true_eq] at hc2
   refine wp_seq ?_
   refine region_St (bf := [0, 0, 0, 0, 15, 31, 63]) (sp := [det _ 11 _, det _ 12 _, det _ 13 _, det _ 14 _, own RowE 43 _ 0 15 ([((⟨#[48]⟩ : ByteArray), (⟨#[57]⟩ : ByteArray)), ((⟨#[65]⟩ : ByteArray), (⟨#[90]⟩ : ByteArray)), ((⟨#[95]⟩ : ByteArray), (⟨#[95]⟩ : ByteArray)), ((⟨#[97]⟩ : ByteArray), (⟨#[122]⟩ : ByteArray))]), own _ _ _ 0 2 _, det _ 3 _]) [] mixed st5 (by kernel_rfl) trivial
    ⟨Ob.d fun c => r_build (cells := #[(.string ((⟨#[48]⟩ : ByteArray))), (.string ((⟨#[57]⟩ : ByteArray)))]) rfl Try.underlying43 Try.zeroValue43 (pl := #[(0, 1), (1, 1)]) (fun w_ => by simp [Try.sizeOf9]) (fill2 rfl rfl rfl),
    Ob.d fun c => r_build (cells := #[(.string ((⟨#[65]⟩ : ByteArray))), (.string ((⟨#[90]⟩ : ByteArray)))]) rfl Try.underlying43 Try.zeroValue43 (pl := #[(0, 1), (1, 1)]) (fun w_ => by simp [Try.sizeOf9]) (fill2 rfl rfl rfl),
    Ob.d fun c => r_build (cells := #[(.string ((⟨#[95]⟩ : ByteArray))), (.string ((⟨#[95]⟩ : ByteArray)))]) rfl Try.underlying43 Try.zeroValue43 (pl := #[(0, 1), (1, 1)]) (fun w_ => by simp [Try.sizeOf9]) (fill2 rfl rfl rfl),
    Ob.d fun c => r_build (cells := #[(.string ((⟨#[97]⟩ : ByteArray))), (.string ((⟨#[122]⟩ : ByteArray)))]) rfl Try.underlying43 Try.zeroValue43 (pl := #[(0, 1), (1, 1)]) (fun w_ => by simp [Try.sizeOf9]) (fill2 rfl rfl rfl),
    Ob.buildSlice (cells := #[(.string ((⟨#[48]⟩ : ByteArray))), (.string ((⟨#[57]⟩ : ByteArray))), (.string ((⟨#[65]⟩ : ByteArray))), (.string ((⟨#[90]⟩ : ByteArray))), (.string ((⟨#[95]⟩ : ByteArray))), (.string ((⟨#[95]⟩ : ByteArray))), (.string ((⟨#[97]⟩ : ByteArray))), (.string ((⟨#[122]⟩ : ByteArray)))]) rfl rfl rfl rfl Try.underlying22 Try.sizeOf43 Try.zeroValue43 rfl (by decide) (by decide) (fun _ _ _ _ c => fill4 (c.n 0 rfl) (c.n 1 rfl) (c.n 2 rfl) (c.n 3 rfl) (by kernel_rfl)) rfl,
    Ob.moveT (t0 := 15) rfl rfl rfl rfl rfl (.inr rfl) (fun _ _ _ _ c => ⟨c.ro 4 rfl, rfl⟩),
    Ob.d fun c => r_assign rfl rfl, trivial⟩ ?_
   intro a6 w6 τ6 st6 f6
   obtain ⟨b6x2, e2⟩ : ∃ b, get a6 2 = b := ⟨_, rfl⟩
   obtain ⟨e4, -⟩ := f6.ks [(4, _)] ⟨e4, trivial⟩
   have e3 : get a6 3 = (.bool (true)) := f6.v 6 rfl
   have r0 : ownR RowE 43 ([((⟨#[48]⟩ : ByteArray), (⟨#[57]⟩ : ByteArray)), ((⟨#[65]⟩ : ByteArray), (⟨#[90]⟩ : ByteArray)), ((⟨#[95]⟩ : ByteArray), (⟨#[95]⟩ : ByteArray)), ((⟨#[97]⟩ : ByteArray), (⟨#[122]⟩ : ByteArray))]) (τ6 0) b6x2 w6 := f6.ro 5 e2 rfl
   clear f6
   show Code.wp _ _ _ a6 w6
   refine wp_ret ?_
   repeat (first | with_reducible refine then_ret ?_ | with_reducible refine block_ret ?_)
   refine ret2 (fn := Try.f71) rfl st6.defers e2 e3 ?_
   obtain ⟨k1, k2⟩ := (by first | exact named_100 (by assumption) | exact named_119 (by assumption) | exact named_115 (by assumption) : namedF n = [((⟨#[48]⟩ : ByteArray), (⟨#[57]⟩ : ByteArray)), ((⟨#[65]⟩ : ByteArray), (⟨#[90]⟩ : ByteArray)), ((⟨#[95]⟩ : ByteArray), (⟨#[95]⟩ : ByteArray)), ((⟨#[97]⟩ : ByteArray), (⟨#[122]⟩ : ByteArray))] ∧ namedB n = true)
   rw [k1, k2]
   exact ⟨_, rfl, st6.ext0, r0.1, fun g_ h_ => (st6.bnd _ g_ (r0.2 g_ h_)).1⟩
 try simp only [decide_eq_false_iff_not] at hc2
 refine wp_seq ?_
 refine region_St (bf := [0, 1]) (sp := [det _ 17 _, det _ 16 _]) [] mixed st5 (by kernel_rfl) trivial
  ⟨Ob.d fun c => r_eql rfl (c.p e4) rfl,
  Ob.d fun c => r_assign rfl (c.n 0 rfl), trivial⟩ ?_
 intro a7 w7 τ7 st7 f7
 obtain ⟨e2, e3, -⟩ := f7.ks [(2, _), (3, _)] ⟨e2, e3, trivial⟩
 have e16 : get a7 16 = (.bool (decide (n = 115))) := f7.v 1 rfl
 clear f7
 show Code.wp _ _ _ a7 w7
 refine wp_cond_split (t := decide (n = 115)) e16 (fun hc3 => ?_) (fun hc3 => ?_)
 · try simp only [decide_eq_true_eq] at hc3
   refine wp_seq ?_
   refine region_St (bf := [0, 0, 3, 7, 15]) (sp := [det _ 18 _, det _ 19 _, own RowE 43 _ 0 20 ([((⟨#[9]⟩ : ByteArray), (⟨#[13]⟩ : ByteArray)), ((⟨#[32]⟩ : ByteArray), (⟨#[32]⟩ : ByteArray))]), own _ _ _ 0 2 _, det _ 3 _]) [] mixed st7 (by kernel_rfl) trivial
    ⟨Ob.d fun c => r_build (cells := #[(.string ((⟨#[9]⟩ : ByteArray))), (.string ((⟨#[13]⟩ : ByteArray)))]) rfl Try.underlying43 Try.zeroValue43 (pl := #[(0, 1), (1, 1)]) (fun w_ => by simp [Try.sizeOf9]) (fill2 rfl rfl rfl),
    Ob.d fun c => r_build (cells := #[(.string ((⟨#[32]⟩ : ByteArray))), (.string ((⟨#[32]⟩ : ByteArray)))]) rfl Try.underlying43 Try.zeroValue43 (pl := #[(0, 1), (1, 1)]) (fun w_ => by simp [Try.sizeOf9]) (fill2 rfl rfl rfl),
    Ob.buildSlice (cells := #[(.string ((⟨#[9]⟩ : ByteArray))), (.string ((⟨#[13]⟩ : ByteArray))), (.string ((⟨#[32]⟩ : ByteArray))), (.string ((⟨#[32]⟩ : ByteArray)))]) rfl rfl rfl rfl Try.underlying22 Try.sizeOf43 Try.zeroValue43 rfl (by decide) (by decide) (fun _ _ _ _ c => fill2 (c.n 0 rfl) (c.n 1 rfl) (by kernel_rfl)) rfl,
    Ob.moveT (t0 := 20) rfl rfl rfl rfl rfl (.inr rfl) (fun _ _ _ _ c => ⟨c.ro 2 rfl, rfl⟩),
    Ob.d fun c => r_assign rfl rfl, trivial⟩ ?_
   intro a8 w8 τ8 st8 f8
   obtain ⟨b8x2, e2⟩ : ∃ b, get a8 2 = b := ⟨_, rfl⟩
   have e3 : get a8 3 = (.bool (true)) := f8.v 4 rfl
   have r0 : ownR RowE 43 ([((⟨#[9]⟩ : ByteArray), (⟨#[13]⟩ : ByteArray)), ((⟨#[32]⟩ : ByteArray), (⟨#[32]⟩ : ByteArray))]) (τ8 0) b8x2 w8 := f8.ro 3 e2 rfl
   clear f8
   show Code.wp _ _ _ a8 w8
   refine wp_ret ?_
   repeat (first | with_reducible refine then_ret ?_ | with_reducible refine block_ret ?_)
   refine ret2 (fn := Try.f71) rfl st8.defers e2 e3 ?_
   obtain ⟨k1, k2⟩ := (by first | exact named_100 (by assumption) | exact named_119 (by assumption) | exact named_115 (by assumption) : namedF n = [((⟨#[9]⟩ : ByteArray), (⟨#[13]⟩ : ByteArray)), ((⟨#[32]⟩ : ByteArray), (⟨#[32]⟩ : ByteArray))] ∧ namedB n = true)
   rw [k1, k2]
   exact ⟨_, rfl, st8.ext0, r0.1, fun g_ h_ => (st8.bnd _ g_ (r0.2 g_ h_)).1⟩
 try simp only [decide_eq_false_iff_not] at hc3
 refine wp_skip ?_
 show _
 show Code.wp _ _ _ a7 w7
 refine wp_seq ?_
 refine region_St (bf := [0, 1]) (sp := [det _ 2 _, det _ 3 _]) [] mixed st7 (by kernel_rfl) trivial
  ⟨Ob.d fun c => r_assign rfl rfl,
  Ob.d fun c => r_assign rfl rfl, trivial⟩ ?_
 intro a9 w9 τ9 st9 f9
 have e2 : get a9 2 = (.slice none 0 0) := f9.v 0 rfl
 have e3 : get a9 3 = (.bool (false)) := f9.v 1 rfl
 clear f9
 show Code.wp _ _ _ a9 w9
 refine wp_ret ?_
 repeat (first | with_reducible refine then_ret ?_ | with_reducible refine block_ret ?_)
 refine ret2 (fn := Try.f71) rfl st9.defers e2 e3 ?_
 obtain ⟨k1, k2⟩ := named_no (n := n) (by assumption) (by assumption) (by assumption)
 rw [k1, k2]
 exact ⟨_, rfl, st9.ext0, OwnT.nil _ _ _, fun g_ h_ => by simp [Value.ownBlock] at h_⟩
set_option maxRecDepth 100000 in
theorem long_c (n : Int) (v : Value) (xs : List ByteArray) (w : World) (hS : SlT StrE w v xs) (hn : -1000000000 ≤ n ∧ n ≤ 1000000000) : Calls Try.prog 17 #[(.int .i64 (n)), v] w (fun e w' => e = .returned (.bool (longL n xs)) ∧ Ext none' w w') := by
 refine enter (n := 27) Try.func17 rfl rfl (Nat.le_of_ble_eq_true rfl) ?_
 intro a0 τ0 ha st0
 have e0 : get a0 0 = (.int .i64 (n)) := ha 0 _ rfl
 have e1 : get a0 1 = v := ha 1 _ rfl
 clear ha
 have hle := hS.le
 refine wp_seq ?_
 refine region_St (bf := [0]) (sp := [det _ 4 _]) [] mixed st0 (by kernel_rfl) trivial
  ⟨Ob.d fun c => r_assign rfl rfl, trivial⟩ ?_
 intro a1 w1 τ1 st1 f1
 obtain ⟨e0, e1, -⟩ := f1.ks [(0, _), (1, _)] ⟨e0, e1, trivial⟩
 have e4 : get a1 4 = (.bool (false)) := f1.v 0 rfl
 clear f1
 show Code.wp _ _ _ a1 w1
 refine wp_seq ?_
 refine wp_seq ?_
 refine region_St (bf := [0]) (sp := [det _ 5 _]) [] mixed st1 (by kernel_rfl) trivial
  ⟨Ob.d fun c => r_assign rfl rfl, trivial⟩ ?_
 intro a2 w2 τ2 st2 f2
 obtain ⟨e0, e1, e4, -⟩ := f2.ks [(0, _), (1, _), (4, _)] ⟨e0, e1, e4, trivial⟩
 have e5 : get a2 5 = (.int .i64 (0)) := f2.v 0 rfl
 clear f2
 show Code.wp _ _ _ a2 w2
 refine wp_block ?_
 refine wp_loop (fun a_ w_ => ∃ (k : Nat) (l : Int) (τ : Nat → Foot), (k ≤ xs.length) ∧
      (-1000000000 ≤ l ∧ l ≤ 1000000000) ∧
      (longL n xs = longL l (xs.drop k)) ∧
      St (Nw w) w 27 a_ w_ τ ∧
      get a_ 0 = (.int .i64 (l)) ∧
      get a_ 5 = (.int .i64 ((k : Int))) ∧
      get a_ 1 = v) (fun a_ _ => xs.length - (intOf (get a_ 5)).toNat) ?_ ?_
 · refine ⟨0, n, τ2, ?_, ?_, ?_, st2, (e0.trans (int_eq (by omega))), (e5.trans (int_eq (by omega))), e1⟩
   · omega
   · omega
   · rfl
 intro a3 w3 hI
 obtain ⟨k, l, τ3, q0, q1, q2, st3, e0, e5, e1⟩ := hI
 have m5 := e5
 refine wp_seq ?_
 refine wp_seq ?_
 refine region_St (bf := [0, 0, 2, 7]) (sp := [det _ 6 _, det _ 7 _, det _ 8 _, det _ 9 _]) [] mixed st3 (by kernel_rfl) trivial
  ⟨Ob.d fun c => r_move rfl (c.p e5),
  Ob.d fun c => r_move rfl (c.p e1),
  Ob.d fun c => r_len rfl Try.underlying32 (c.n 1 rfl) hS.sl,
  Ob.d fun c => r_lss rfl (c.n 0 rfl) (c.n 2 rfl), trivial⟩ ?_
 intro a4 w4 τ4 st4 f4
 obtain ⟨e0, e1, e5, -⟩ := f4.ks [(0, _), (1, _), (5, _)] ⟨e0, e1, e5, trivial⟩
 have e9 : get a4 9 = (.bool (decide ((k : Int) < (xs.length : Int)))) := f4.v 3 rfl
 clear f4
 show Code.wp _ _ _ a4 w4
 refine wp_cond_split (t := decide ((k : Int) < (xs.length : Int))) e9 (fun hc1 => ?_) (fun hc1 => ?_)
 · try simp only [decide_eq_true_eq] at hc1
   refine wp_skip ?_
   show Code.wp _ _ _ a4 w4
   refine wp_seq ?_
   refine wp_block ?_
   refine wp_seq ?_
   refine wp_seq ?_
   refine region_St (bf := [0, 0, 3, 7, 15, 0, 63]) (sp := [det _ 12 _, det _ 13 _, det _ 14 _, det _ 15 _, det _ 16 _, det _ 17 _, det _ 18 _]) [] mixed st4 (by kernel_rfl) trivial
    ⟨Ob.d fun c => r_move rfl (c.p e1),
    Ob.d fun c => r_move rfl (c.p e5),
    Ob.d fun c => r_indexAddr rfl Try.underlying32 Try.sizeOf9 (c.n 0 rfl) hS.sl (c.n 1 rfl) (by omega) (by omega),
    Ob.d fun c => r_load1 rfl Try.isAgg9 (c.n 2 rfl) (((hS.at (st4.ext.trans c.J.ext))).elem (j := 0) (nth_some (i := (k : Int)) (by omega) (by omega)) rfl),
    Ob.d fun c => r_lenS rfl Try.underlying9 (c.n 3 rfl),
    Ob.d fun c => r_move rfl (c.p e0),
    Ob.d fun c => r_geq rfl (c.n 4 rfl) (c.n 5 rfl), trivial⟩ ?_
   intro a5 w5 τ5 st5 f5
   obtain ⟨e0, e1, e5, e9, -⟩ := f5.ks [(0, _), (1, _), (5, _), (9, _)] ⟨e0, e1, e5, e9, trivial⟩
   have e18 : get a5 18 = (.bool (decide (l ≤ ((nth xs ((k : Int))).size : Int)))) := f5.v 6 rfl
   clear f5
   show Code.wp _ _ _ a5 w5
   refine wp_cond_split (t := decide (l ≤ ((nth xs ((k : Int))).size : Int))) e18 (fun hc2 => ?_) (fun hc2 => ?_)
   · try simp only [decide_eq_true_eq] at hc2
     refine wp_seq ?_
     refine region_St (bf := [0]) (sp := [det _ 4 _]) [] mixed st5 (by kernel_rfl) trivial
      ⟨Ob.d fun c => r_assign rfl rfl, trivial⟩ ?_
     intro a6 w6 τ6 st6 f6
     obtain ⟨e0, e1, e5, e9, e18, -⟩ := f6.ks [(0, _), (1, _), (5, _), (9, _), (18, _)] ⟨e0, e1, e5, e9, e18, trivial⟩
     have e4 : get a6 4 = (.bool (true)) := f6.v 0 rfl
     clear f6
     show Code.wp _ _ _ a6 w6
     refine wp_ret ?_
     repeat (first | with_reducible refine then_ret ?_ | with_reducible refine block_ret ?_)
     refine ret1 (fn := Try.f17) rfl st6.defers e4 ?_
     exact ⟨congrArg _ (congrArg _ (by first | exact (longL_hit (k := k) (by omega) q2 (by omega)).symm | exact (longL_end (k := k) (by omega) q2).symm)), st6.ext0⟩
   try simp only [decide_eq_false_iff_not, Int.not_le] at hc2
   refine wp_skip ?_
   show Code.wp _ _ _ a5 w5
   refine region_St (bf := [0, 0, 0, 6, 14, 30, 63, 127, 255]) (sp := [det _ 19 _, det _ 20 _, det _ 21 _, det _ 22 _, det _ 23 _, det _ 24 _, det _ 25 _, det _ 26 _, det _ 0 _]) [] mixed st5 (by kernel_rfl) trivial
    ⟨Ob.d fun c => r_move rfl (c.p e0),
    Ob.d fun c => r_move rfl (c.p e1),
    Ob.d fun c => r_move rfl (c.p e5),
    Ob.d fun c => r_indexAddr rfl Try.underlying32 Try.sizeOf9 (c.n 1 rfl) hS.sl (c.n 2 rfl) (by omega) (by omega),
    Ob.d fun c => r_load1 rfl Try.isAgg9 (c.n 3 rfl) (((hS.at (st5.ext.trans c.J.ext))).elem (j := 0) (nth_some (i := (k : Int)) (by omega) (by omega)) rfl),
    Ob.d fun c => r_lenS rfl Try.underlying9 (c.n 4 rfl),
    Ob.d fun c => r_sub rfl (c.n 0 rfl) (c.n 5 rfl) (by omega),
    Ob.d fun c => r_sub rfl (c.n 6 rfl) rfl (by omega),
    Ob.d fun c => r_assign rfl (c.n 7 rfl), trivial⟩ ?_
   intro a7 w7 τ7 st7 f7
   obtain ⟨e1, e5, e9, e18, -⟩ := f7.ks [(1, _), (5, _), (9, _), (18, _)] ⟨e1, e5, e9, e18, trivial⟩
   have e0 : get a7 0 = (.int .i64 (l - ((nth xs ((k : Int))).size : Int) - 1)) := f7.v 8 rfl
   clear f7
   show _
   show Code.wp _ _ _ a7 w7
   refine region_St (bf := [0, 1, 3]) (sp := [det _ 10 _, det _ 11 _, det _ 5 _]) [] mixed st7 (by kernel_rfl) trivial
    ⟨Ob.d fun c => r_move rfl (c.p e5),
    Ob.d fun c => r_add rfl (c.n 0 rfl) rfl (by omega),
    Ob.d fun c => r_assign rfl (c.n 1 rfl), trivial⟩ ?_
   intro a8 w8 τ8 st8 f8
   obtain ⟨e0, e1, e9, e18, -⟩ := f8.ks [(0, _), (1, _), (9, _), (18, _)] ⟨e0, e1, e9, e18, trivial⟩
   have e5 : get a8 5 = (.int .i64 ((k : Int) + 1)) := f8.v 2 rfl
   clear f8
   refine ⟨⟨k + 1, l - ((nth xs ((k : Int))).size : Int) - 1, τ8, ?_, ?_, ?_, st8, (e0.trans (int_eq (by omega))), (e5.trans (int_eq (by omega))), e1⟩, ?_⟩
   · omega
   · omega
   · exact longL_next (by omega) q2 (by omega)
   · simp only [m5, e5, intOf]; omega
 try simp only [decide_eq_false_iff_not, Int.not_lt] at hc1
 refine wp_exit ?_
 repeat (with_reducible refine then_exit ?_)
 refine exit_here ?_
 show Code.wp _ _ _ a4 w4
 refine wp_seq ?_
 refine region_St (bf := [0]) (sp := [det _ 4 _]) [] mixed st4 (by kernel_rfl) trivial
  ⟨Ob.d fun c => r_assign rfl rfl, trivial⟩ ?_
 intro a9 w9 τ9 st9 f9
 have e4 : get a9 4 = (.bool (false)) := f9.v 0 rfl
 clear f9
 show Code.wp _ _ _ a9 w9
 refine wp_ret ?_
 repeat (first | with_reducible refine then_ret ?_ | with_reducible refine block_ret ?_)
 refine ret1 (fn := Try.f17) rfl st9.defers e4 ?_
 exact ⟨congrArg _ (congrArg _ (by first | exact (longL_hit (k := k) (by omega) q2 (by omega)).symm | exact (longL_end (k := k) (by omega) q2).symm)), st9.ext0⟩
end B
end Go.Proofs.Ytocmchlhbniloaa
namespace Go.Proofs.Ytocmchlhbniloaa
namespace B
open Go.RowKit
open Srt
theorem ownR.sn {α : Type} {E : Enc α} {ty : Nat} {xs : List α} {T : Foot} {v : Value} {w W : World} (h : ownR E ty xs T v w) (hT : ∀ g, T g → W.heap.size ≤ g) : SlT E w v xs ∧ (xs ≠ [] → W.heap.size ≤ (ptrOf v).block) := ⟨h.1.sl, fun hn => hT _ (h.blk hn)⟩
set_option maxRecDepth 100000 in
theorem item_c (v : Value) (cv : Sv) (cs : List ByteArray) (i : Nat) (w : World) (hR : RdR 58 v cv cs i w) (hL : CsOk cs) (hi : i ≤ cs.length + 5) : Calls Try.prog 68 #[v] w (fun e w' => ∃ b : Sv, e = .returned (.tuple #[b.v, .string (itemF cs i).2.1, .bool (itemF cs i).2.2.1]) ∧ Ext (ptrFoot v) w w' ∧ boxR 58 [cv.v, .int .i64 (((itemF cs i).2.2.2 : Nat) : Int)] (ptrFoot v) v w' ∧ SlT RowE w' b.v (itemF cs i).1 ∧ ((itemF cs i).1 ≠ [] → w.heap.size ≤ (ptrOf b.v).block)) := by
 refine enterIn (ptrFoot v) (fun g hg => hR.box.lt g hg) (n := 62) Try.func68 rfl rfl (Nat.le_of_ble_eq_true rfl) ?_
 intro a0 τ0 ha hτ st0
 have e0 : get a0 0 = v := ha 0 _ rfl
 clear ha
 have hL1 := hL.1
 have r0 : boxR 58 [cv.v, .int .i64 ((i : Nat) : Int)] (τ0 0) v w := by rw [hτ]; exact hR.box
 have r9 : Fz (zSl StrE Al cv.v cs) τ0 w := hR.inz st0
 refine wp_seq ?_
 refine region_St (bf := [0, 1, 3]) (sp := [det _ 2 _, det _ 3 _, det _ 4 _]) [ib r0, Ini.any _, Ini.any _, Ini.any _, Ini.any _, Ini.any _, Ini.any _, Ini.any _, Ini.any _, iz r9] mixed st0 (by kernel_rfl) ⟨r0, trivial, trivial, trivial, trivial, trivial, trivial, trivial, trivial, r9, trivial⟩
  ⟨Ob.d fun c => r_assign rfl rfl,
  Ob.d fun c => r_assign rfl rfl,
  Ob.d fun c => r_assign rfl rfl, trivial⟩ ?_
 intro a1 w1 τ1 st1 f1
 obtain ⟨e0, -⟩ := f1.ks [(0, _)] ⟨e0, trivial⟩
 have e2 : get a1 2 = (.slice none 0 0) := f1.v 0 rfl
 have e3 : get a1 3 = (.string ((⟨#[]⟩ : ByteArray))) := f1.v 1 rfl
 have e4 : get a1 4 = (.bool (false)) := f1.v 2 rfl
 replace r0 := f1.ib 0 rfl
 replace r9 := f1.iz 9 rfl
 clear f1
 show Code.wp _ _ _ a1 w1
 refine wp_seq ?_
 refine region_St (bf := [0, 1, 3]) (sp := [det _ 10 _, det _ 11 _, det _ 5 _]) [ib r0, Ini.any _, Ini.any _, Ini.any _, Ini.any _, Ini.any _, Ini.any _, Ini.any _, Ini.any _, iz r9] mixed st1 (by kernel_rfl) ⟨r0, trivial, trivial, trivial, trivial, trivial, trivial, trivial, trivial, r9, trivial⟩
  ⟨Ob.d fun c => r_move rfl (c.p e0),
  Ob.c fun c => ⟨_, _, (e_call1 rfl rfl Try.call47 (c.n 0 rfl)), see_c v cv cs i _ (rdr (c.ib 0 rfl) (c.iz 9 rfl) (fun g_ h_ hz_ => hz_.2 _ h_))⟩,
  Ob.d fun c => r_assign rfl (c.n 1 rfl), trivial⟩ ?_
 intro a2 w2 τ2 st2 f2
 obtain ⟨e0, e2, e3, e4, -⟩ := f2.ks [(0, _), (2, _), (3, _), (4, _)] ⟨e0, e2, e3, e4, trivial⟩
 have e5 : get a2 5 = (.string (seeF cs i)) := f2.v 2 rfl
 replace r0 := f2.ib 0 rfl
 replace r9 := f2.iz 9 rfl
 clear f2
 show Code.wp _ _ _ a2 w2
 refine wp_seq ?_
 refine wp_seq ?_
 refine region_St (bf := [0, 1, 3, 7, 15, 31]) (sp := [det _ 12 _, det _ 13 _, det _ 14 _, gdet _ 15 _ _, gdet _ 16 _ _, det _ 17 _]) [ib r0, Ini.any _, Ini.any _, Ini.any _, Ini.any _, Ini.any _, Ini.any _, Ini.any _, Ini.any _, iz r9] mixed st2 (by kernel_rfl) ⟨r0, trivial, trivial, trivial, trivial, trivial, trivial, trivial, trivial, r9, trivial⟩
  ⟨Ob.d fun c => r_move rfl (c.p e5),
  Ob.d fun c => r_seql rfl (c.n 0 rfl) rfl,
  Ob.d fun c => r_move rfl (c.n 1 rfl),
  Ob.g 2 false rfl fun c hpc => r_move rfl (c.p e5),
  Ob.g 2 false rfl fun c hpc => r_seql rfl (c.m 3 rfl hpc) rfl,
  Ob.d fun c => r_or rfl (c.n 2 rfl) (fun h => c.m 4 rfl h), trivial⟩ ?_
 intro a3 w3 τ3 st3 f3
 obtain ⟨e0, e2, e3, e4, e5, -⟩ := f3.ks [(0, _), (2, _), (3, _), (4, _), (5, _)] ⟨e0, e2, e3, e4, e5, trivial⟩
 have e17 : get a3 17 = (.bool ((eqT (seeF cs i) (⟨#[]⟩ : ByteArray)) || (eqT (seeF cs i) (⟨#[93]⟩ : ByteArray)))) := f3.v 5 rfl
 replace r0 := f3.ib 0 rfl
 replace r9 := f3.iz 9 rfl
 clear f3
 show Code.wp _ _ _ a3 w3
 refine wp_cond_split (t := (eqT (seeF cs i) (⟨#[]⟩ : ByteArray)) || (eqT (seeF cs i) (⟨#[93]⟩ : ByteArray))) e17 (fun hc1 => ?_) (fun hc1 => ?_)
 · have hd1 := hc1; try simp only [Bool.or_eq_true] at hd1
   refine wp_seq ?_
   refine region_St (bf := [0, 1, 3]) (sp := [det _ 2 _, det _ 3 _, det _ 4 _]) [ib r0, Ini.any _, Ini.any _, Ini.any _, Ini.any _, Ini.any _, Ini.any _, Ini.any _, Ini.any _, iz r9] mixed st3 (by kernel_rfl) ⟨r0, trivial, trivial, trivial, trivial, trivial, trivial, trivial, trivial, r9, trivial⟩
    ⟨Ob.d fun c => r_assign rfl rfl,
    Ob.d fun c => r_assign rfl rfl,
    Ob.d fun c => r_assign rfl rfl, trivial⟩ ?_
   intro a4 w4 τ4 st4 f4
   obtain ⟨e0, e5, -⟩ := f4.ks [(0, _), (5, _)] ⟨e0, e5, trivial⟩
   have e2 : get a4 2 = (.slice none 0 0) := f4.v 0 rfl
   have e3 : get a4 3 = (.string ((⟨#[]⟩ : ByteArray))) := f4.v 1 rfl
   have e4 : get a4 4 = (.bool (false)) := f4.v 2 rfl
   replace r0 := f4.ib 0 rfl
   replace r9 := f4.iz 9 rfl
   clear f4
   show Code.wp _ _ _ a4 w4
   refine wp_ret ?_
   repeat (first | with_reducible refine then_ret ?_ | with_reducible refine block_ret ?_)
   refine ret3 (fn := Try.f68) rfl st4.defers e2 e3 e4 ?_
   have he_ : itemF cs i = ([], (⟨#[]⟩ : ByteArray), false, i) := by unfold itemF; (repeat (first | rw [if_neg (by first | assumption | (simp only [Bool.not_eq_true]; assumption) | (simp only [Bool.not_eq_false]; assumption))] | rw [if_pos (by assumption)])); (try rfl)
   rw [he_]
   exact ⟨Sv.nil, rfl, st4.extIn, r0.foot, SlT.nil _ _, fun h => absurd rfl h⟩
 have hd1 := hc1; try simp only [Bool.or_eq_false_iff] at hd1
 refine wp_skip ?_
 show Code.wp _ _ _ a3 w3
 refine wp_seq ?_
 have hlt_ : i < cs.length := by
   have h_ : (eqT (seeF cs i) (⟨#[]⟩ : ByteArray) || eqT (seeF cs i) (⟨#[93]⟩ : ByteArray)) = false := by assumption
   rw [Bool.or_eq_false_iff] at h_
   exact see_ne h_.1
 refine region_St (bf := [0, 1, 3, 7, 15, 31, 63, 127]) (sp := [det _ 18 _, det _ 19 _, det _ 20 _, det _ 21 _, det _ 22 _, det _ 23 _, det _ 24 _, box _ _ 0 0 [cv.v, (.int .i64 (((i : Nat) : Int) + 1))]]) [ib r0, Ini.any _, Ini.any _, Ini.any _, Ini.any _, Ini.any _, Ini.any _, Ini.any _, Ini.any _, iz r9] mixed st3 (by kernel_rfl) ⟨r0, trivial, trivial, trivial, trivial, trivial, trivial, trivial, trivial, r9, trivial⟩
  ⟨Ob.d fun c => r_move rfl (c.p e0),
  Ob.d fun c => r_nilCheck rfl (c.n 0 rfl) r0.ptr,
  Ob.d fun c => r_fieldAddr rfl Try.underlying58 rfl rfl Try.sizeOf3 ((c.n 1 rfl).trans r0.ptr),
  Ob.d fun c => r_load1 rfl Try.isAgg3 (c.n 2 rfl) ((c.ib 0 rfl).cell (j := 1) rfl),
  Ob.d fun c => r_add rfl (c.n 3 rfl) rfl (by omega),
  Ob.d fun c => r_nilCheck rfl (c.n 0 rfl) r0.ptr,
  Ob.d fun c => r_fieldAddr rfl Try.underlying58 rfl rfl Try.sizeOf3 ((c.n 5 rfl).trans r0.ptr),
  Ob.storeBox (off := 1) (v := (.int .i64 (((i : Nat) : Int) + 1))) rfl rfl rfl rfl Try.sizeOf3 (Nat.le_of_ble_eq_true rfl) (by simp [Value.cells, Value.oneCell', Sv.v]) rfl (fun _ _ _ _ c => ⟨c.bp 0 rfl e0, c.ad (c.n 6 rfl) e0 rfl, (c.n 4 rfl)⟩), trivial⟩ ?_
 intro a5 w5 τ5 st5 f5
 obtain ⟨e0, e2, e3, e4, e5, -⟩ := f5.ks [(0, _), (2, _), (3, _), (4, _), (5, _)] ⟨e0, e2, e3, e4, e5, trivial⟩
 replace r0 : boxR 58 [cv.v, (.int .i64 (((i : Nat) : Int) + 1))] (τ5 0) v w5 := f5.rb 7 e0 rfl
 replace r9 := f5.iz 9 rfl
 clear f5
 replace r0 : boxR 58 [cv.v, .int .i64 ((i + 1 : Nat) : Int)] (τ5 0) v w5 := by rw [show ((i + 1 : Nat) : Int) = ((i : Nat) : Int) + 1 from by omega]; exact r0
 show Code.wp _ _ _ a5 w5
 refine wp_seq ?_
 refine wp_seq ?_
 refine region_St (bf := [0, 1]) (sp := [det _ 25 _, det _ 26 _]) [ib r0, Ini.any _, Ini.any _, Ini.any _, Ini.any _, Ini.any _, Ini.any _, Ini.any _, Ini.any _, iz r9] mixed st5 (by kernel_rfl) ⟨r0, trivial, trivial, trivial, trivial, trivial, trivial, trivial, trivial, r9, trivial⟩
  ⟨Ob.d fun c => r_move rfl (c.p e5),
  Ob.d fun c => r_sneq rfl (c.n 0 rfl) rfl, trivial⟩ ?_
 intro a6 w6 τ6 st6 f6
 obtain ⟨e0, e2, e3, e4, e5, -⟩ := f6.ks [(0, _), (2, _), (3, _), (4, _), (5, _)] ⟨e0, e2, e3, e4, e5, trivial⟩
 have e26 : get a6 26 = (.bool (!(eqT (seeF cs i) (⟨#[92]⟩ : ByteArray)))) := f6.v 1 rfl
 replace r0 := f6.ib 0 rfl
 replace r9 := f6.iz 9 rfl
 clear f6
 show Code.wp _ _ _ a6 w6
 refine wp_cond_split (t := !(eqT (seeF cs i) (⟨#[92]⟩ : ByteArray))) e26 (fun hc2 => ?_) (fun hc2 => ?_)
 · try simp only [Bool.not_eq_true', Bool.not_eq_false'] at hc2
   refine wp_seq ?_
   refine region_St (bf := [0, 0, 3, 7]) (sp := [det _ 27 _, det _ 2 _, det _ 3 _, det _ 4 _]) [ib r0, Ini.any _, Ini.any _, Ini.any _, Ini.any _, Ini.any _, Ini.any _, Ini.any _, Ini.any _, iz r9] mixed st6 (by kernel_rfl) ⟨r0, trivial, trivial, trivial, trivial, trivial, trivial, trivial, trivial, r9, trivial⟩
    ⟨Ob.d fun c => r_move rfl (c.p e5),
    Ob.d fun c => r_assign rfl rfl,
    Ob.d fun c => r_assign rfl (c.n 0 rfl),
    Ob.d fun c => r_assign rfl rfl, trivial⟩ ?_
   intro a7 w7 τ7 st7 f7
   obtain ⟨e0, e5, -⟩ := f7.ks [(0, _), (5, _)] ⟨e0, e5, trivial⟩
   have e2 : get a7 2 = (.slice none 0 0) := f7.v 1 rfl
   have e3 : get a7 3 = (.string (seeF cs i)) := f7.v 2 rfl
   have e4 : get a7 4 = (.bool (true)) := f7.v 3 rfl
   replace r0 := f7.ib 0 rfl
   replace r9 := f7.iz 9 rfl
   clear f7
   show Code.wp _ _ _ a7 w7
   refine wp_ret ?_
   repeat (first | with_reducible refine then_ret ?_ | with_reducible refine block_ret ?_)
   refine ret3 (fn := Try.f68) rfl st7.defers e2 e3 e4 ?_
   have he_ : itemF cs i = ([], seeF cs i, true, i + 1) := by unfold itemF; (repeat (first | rw [if_neg (by first | assumption | (simp only [Bool.not_eq_true]; assumption) | (simp only [Bool.not_eq_false]; assumption))] | rw [if_pos (by assumption)])); (try rfl)
   rw [he_]
   exact ⟨Sv.nil, rfl, st7.extIn, r0.foot, SlT.nil _ _, fun h => absurd rfl h⟩
 try simp only [Bool.not_eq_true', Bool.not_eq_false'] at hc2
 refine wp_skip ?_
 show Code.wp _ _ _ a6 w6
 refine wp_seq ?_
 refine region_St (bf := [0, 1, 3]) (sp := [det _ 28 _, det _ 29 _, det _ 5 _]) [ib r0, Ini.any _, Ini.any _, Ini.any _, Ini.any _, Ini.any _, Ini.any _, Ini.any _, Ini.any _, iz r9] mixed st6 (by kernel_rfl) ⟨r0, trivial, trivial, trivial, trivial, trivial, trivial, trivial, trivial, r9, trivial⟩
  ⟨Ob.d fun c => r_move rfl (c.p e0),
  Ob.c fun c => ⟨_, _, (e_call1 rfl rfl Try.call47 (c.n 0 rfl)), see_c v cv cs (i + 1) _ (rdr (c.ib 0 rfl) (c.iz 9 rfl) (fun g_ h_ hz_ => hz_.2 _ h_))⟩,
  Ob.d fun c => r_assign rfl (c.n 1 rfl), trivial⟩ ?_
 intro a8 w8 τ8 st8 f8
 obtain ⟨e0, e2, e3, e4, -⟩ := f8.ks [(0, _), (2, _), (3, _), (4, _)] ⟨e0, e2, e3, e4, trivial⟩
 have e5 : get a8 5 = (.string (seeF cs (i + 1))) := f8.v 2 rfl
 replace r0 := f8.ib 0 rfl
 replace r9 := f8.iz 9 rfl
 clear f8
 show Code.wp _ _ _ a8 w8
 refine wp_seq ?_
 refine wp_seq ?_
 refine region_St (bf := [0, 1, 3]) (sp := [det _ 30 _, det _ 31 _, det _ 32 _]) [ib r0, Ini.any _, Ini.any _, Ini.any _, Ini.any _, Ini.any _, Ini.any _, Ini.any _, Ini.any _, iz r9] mixed st8 (by kernel_rfl) ⟨r0, trivial, trivial, trivial, trivial, trivial, trivial, trivial, trivial, r9, trivial⟩
  ⟨Ob.d fun c => r_move rfl (c.p e5),
  Ob.d fun c => r_lenS rfl Try.underlying9 (c.n 0 rfl),
  Ob.d fun c => r_eql rfl (c.n 1 rfl) rfl, trivial⟩ ?_
 intro a9 w9 τ9 st9 f9
 obtain ⟨e0, e2, e3, e4, e5, -⟩ := f9.ks [(0, _), (2, _), (3, _), (4, _), (5, _)] ⟨e0, e2, e3, e4, e5, trivial⟩
 have e32 : get a9 32 = (.bool (decide (((seeF cs (i + 1)).size : Int) = 1))) := f9.v 2 rfl
 replace r0 := f9.ib 0 rfl
 replace r9 := f9.iz 9 rfl
 clear f9
 show Code.wp _ _ _ a9 w9
 refine wp_cond_split (t := decide (((seeF cs (i + 1)).size : Int) = 1)) e32 (fun hc3 => ?_) (fun hc3 => ?_)
 · try simp only [decide_eq_true_eq] at hc3
   refine wp_seq ?_
   refine region_St (bf := [0, 1, 3, 7, 15, 15, 31, 127]) (sp := [det _ 34 _, det _ 35 _, tup _ _ _ 1 36 _ _, tup _ _ _ 1 33 _ _, own _ _ _ 1 37 _, det _ 38 _, own _ _ _ 1 6 _, det _ 7 _]) [ib r0, Ini.any _, Ini.any _, Ini.any _, Ini.any _, Ini.any _, Ini.any _, Ini.any _, Ini.any _, iz r9] mixed st9 (by kernel_rfl) ⟨r0, trivial, trivial, trivial, trivial, trivial, trivial, trivial, trivial, r9, trivial⟩
    ⟨Ob.d fun c => r_move rfl (c.p e5),
    Ob.d fun c => r_sindex rfl Try.underlying9 (c.n 0 rfl) rfl (by omega) (by omega),
    Ob.callTup rfl rfl rfl (fun _ a_ _ _ c => ⟨_, _, (e_call1 rfl rfl Try.call71 (c.n 1 rfl)), refNamed_c (byteAt (seeF cs (i + 1)) (0)) _⟩),
    Ob.moveT (t0 := 36) rfl rfl rfl rfl rfl (.inl rfl) (fun _ _ _ _ c => ⟨c.rtup 2 rfl rfl (by kernel_rfl), rfl⟩),
    Ob.part0 (t0 := 33) (k := (.bool (namedB (byteAt (seeF cs (i + 1)) (0))))) rfl rfl rfl rfl (fun _ _ _ _ c => c.rtup 3 rfl rfl (by kernel_rfl)),
    Ob.d fun c => c.part1 3 rfl rfl rfl,
    Ob.moveT (t0 := 37) rfl rfl rfl rfl rfl (.inr rfl) (fun _ _ _ _ c => ⟨c.ro 4 rfl, rfl⟩),
    Ob.d fun c => r_assign rfl (c.n 5 rfl), trivial⟩ ?_
   intro a10 w10 τ10 st10 f10
   obtain ⟨b10x6, e6⟩ : ∃ b, get a10 6 = b := ⟨_, rfl⟩
   obtain ⟨e0, e2, e3, e4, e5, -⟩ := f10.ks [(0, _), (2, _), (3, _), (4, _), (5, _)] ⟨e0, e2, e3, e4, e5, trivial⟩
   have e7 : get a10 7 = (.bool (namedB (byteAt (seeF cs (i + 1)) (0)))) := f10.v 7 rfl
   replace r0 := f10.ib 0 rfl
   have r1 : ownR RowE 43 (namedF (byteAt (seeF cs (i + 1)) (0))) (τ10 1) b10x6 w10 := f10.ro 6 e6 rfl
   replace r9 := f10.iz 9 rfl
   clear f10
   show Code.wp _ _ _ a10 w10
   refine wp_seq ?_
   refine region_St (bf := [0]) (sp := [det _ 39 _]) [ib r0, io r1, Ini.any _, Ini.any _, Ini.any _, Ini.any _, Ini.any _, Ini.any _, Ini.any _, iz r9] mixed st10 (by kernel_rfl) ⟨r0, r1, trivial, trivial, trivial, trivial, trivial, trivial, trivial, r9, trivial⟩
    ⟨Ob.d fun c => r_move rfl (c.p e7), trivial⟩ ?_
   intro a11 w11 τ11 st11 f11
   obtain ⟨e0, e2, e3, e4, e5, e6, -⟩ := f11.ks [(0, _), (2, _), (3, _), (4, _), (5, _), (6, _)] ⟨e0, e2, e3, e4, e5, e6, trivial⟩
   have e39 : get a11 39 = (.bool (namedB (byteAt (seeF cs (i + 1)) (0)))) := f11.v 0 rfl
   replace r0 := f11.ib 0 rfl
   replace r1 := f11.io 1 rfl
   replace r9 := f11.iz 9 rfl
   clear f11
   show Code.wp _ _ _ a11 w11
   refine wp_cond_split (t := namedB (byteAt (seeF cs (i + 1)) (0))) e39 (fun hc4 => ?_) (fun hc4 => ?_)
   · skip
     refine wp_seq ?_
     have hnm : (decide (((seeF cs (i + 1)).size : Int) = 1) && namedB (byteAt (seeF cs (i + 1)) 0)) = true := by rw [Bool.and_eq_true]; exact ⟨decide_eq_true (by assumption), by assumption⟩
     refine region_St (bf := [0, 1, 3, 7, 15, 31, 63, 127]) (sp := [det _ 40 _, det _ 41 _, det _ 42 _, det _ 43 _, det _ 44 _, det _ 45 _, det _ 46 _, box _ _ 0 0 [cv.v, (.int .i64 (((i + 1 : Nat) : Int) + 1))]]) [ib r0, io r1, Ini.any _, Ini.any _, Ini.any _, Ini.any _, Ini.any _, Ini.any _, Ini.any _, iz r9] mixed st11 (by kernel_rfl) ⟨r0, r1, trivial, trivial, trivial, trivial, trivial, trivial, trivial, r9, trivial⟩
      ⟨Ob.d fun c => r_move rfl (c.p e0),
      Ob.d fun c => r_nilCheck rfl (c.n 0 rfl) r0.ptr,
      Ob.d fun c => r_fieldAddr rfl Try.underlying58 rfl rfl Try.sizeOf3 ((c.n 1 rfl).trans r0.ptr),
      Ob.d fun c => r_load1 rfl Try.isAgg3 (c.n 2 rfl) ((c.ib 0 rfl).cell (j := 1) rfl),
      Ob.d fun c => r_add rfl (c.n 3 rfl) rfl (by omega),
      Ob.d fun c => r_nilCheck rfl (c.n 0 rfl) r0.ptr,
      Ob.d fun c => r_fieldAddr rfl Try.underlying58 rfl rfl Try.sizeOf3 ((c.n 5 rfl).trans r0.ptr),
      Ob.storeBox (off := 1) (v := (.int .i64 (((i + 1 : Nat) : Int) + 1))) rfl rfl rfl rfl Try.sizeOf3 (Nat.le_of_ble_eq_true rfl) (by simp [Value.cells, Value.oneCell', Sv.v]) rfl (fun _ _ _ _ c => ⟨c.bp 0 rfl e0, c.ad (c.n 6 rfl) e0 rfl, (c.n 4 rfl)⟩), trivial⟩ ?_
     intro a12 w12 τ12 st12 f12
     obtain ⟨e0, e2, e3, e4, e5, e6, -⟩ := f12.ks [(0, _), (2, _), (3, _), (4, _), (5, _), (6, _)] ⟨e0, e2, e3, e4, e5, e6, trivial⟩
     replace r0 : boxR 58 [cv.v, (.int .i64 (((i + 1 : Nat) : Int) + 1))] (τ12 0) v w12 := f12.rb 7 e0 rfl
     replace r1 := f12.io 1 rfl
     replace r9 := f12.iz 9 rfl
     clear f12
     replace r0 : boxR 58 [cv.v, .int .i64 ((i + 2 : Nat) : Int)] (τ12 0) v w12 := by rw [show ((i + 2 : Nat) : Int) = ((i + 1 : Nat) : Int) + 1 from by omega]; exact r0
     show Code.wp _ _ _ a12 w12
     refine wp_seq ?_
     refine region_St (bf := [0, 1, 3, 7]) (sp := [det _ 47 _, det _ 2 _, det _ 3 _, det _ 4 _]) [ib r0, io r1, Ini.any _, Ini.any _, Ini.any _, Ini.any _, Ini.any _, Ini.any _, Ini.any _, iz r9] mixed st12 (by kernel_rfl) ⟨r0, r1, trivial, trivial, trivial, trivial, trivial, trivial, trivial, r9, trivial⟩
      ⟨Ob.d fun c => r_move rfl (c.p e6),
      Ob.d fun c => r_assign rfl (c.n 0 rfl),
      Ob.d fun c => r_assign rfl rfl,
      Ob.d fun c => r_assign rfl rfl, trivial⟩ ?_
     intro a13 w13 τ13 st13 f13
     obtain ⟨e0, e5, -⟩ := f13.ks [(0, _), (5, _)] ⟨e0, e5, trivial⟩
     have e2 : get a13 2 = b10x6 := f13.v 1 rfl
     have e3 : get a13 3 = (.string ((⟨#[]⟩ : ByteArray))) := f13.v 2 rfl
     have e4 : get a13 4 = (.bool (true)) := f13.v 3 rfl
     replace r0 := f13.ib 0 rfl
     replace r1 := f13.io 1 rfl
     replace r9 := f13.iz 9 rfl
     clear f13
     show Code.wp _ _ _ a13 w13
     refine wp_ret ?_
     repeat (first | with_reducible refine then_ret ?_ | with_reducible refine block_ret ?_)
     refine ret3 (fn := Try.f68) rfl st13.defers e2 e3 e4 ?_
     have he_ : itemF cs i = (namedF (byteAt (seeF cs (i + 1)) (0)), (⟨#[]⟩ : ByteArray), true, i + 2) := by unfold itemF; (repeat (first | rw [if_neg (by first | assumption | (simp only [Bool.not_eq_true]; assumption) | (simp only [Bool.not_eq_false]; assumption))] | rw [if_pos (by assumption)])); (try rfl)
     rw [he_]
     obtain ⟨sv_, rfl⟩ := r1.isSl.sv
     exact ⟨sv_, rfl, st13.extIn, r0.foot, r1.sn (fun g_ h_ => ((st13.bnd _ g_ h_).1.resolve_left (fun hp_ => absurd (st13.disj _ _ g_ h_ (r0.own hp_)) (by decide))))⟩
   skip
   refine wp_skip ?_
   show Code.wp _ _ _ a11 w11
   refine wp_seq ?_
   have hnm : (decide (((seeF cs (i + 1)).size : Int) = 1) && namedB (byteAt (seeF cs (i + 1)) 0)) = false := by rw [Bool.and_eq_false_iff]; first | (right; assumption) | (left; exact decide_eq_false (by assumption))
   refine region_St (bf := [0, 1, 3, 7, 7, 15, 63]) (sp := [det _ 49 _, det _ 50 _, det _ 48 _, det _ 51 _, det _ 52 _, det _ 8 _, det _ 9 _]) [ib r0, io r1, Ini.any _, Ini.any _, Ini.any _, Ini.any _, Ini.any _, Ini.any _, Ini.any _, iz r9] mixed st11 (by kernel_rfl) ⟨r0, r1, trivial, trivial, trivial, trivial, trivial, trivial, trivial, r9, trivial⟩
    ⟨Ob.d fun c => r_move rfl (c.p e5),
    Ob.c fun c => ⟨_, _, (e_call1 rfl rfl Try.call72 (c.n 0 rfl)), esc_c (seeF cs (i + 1)) _⟩,
    Ob.d fun c => r_move rfl (c.n 1 rfl),
    Ob.d fun c => r_extract rfl (c.n 2 rfl) rfl,
    Ob.d fun c => r_extract rfl (c.n 2 rfl) rfl,
    Ob.d fun c => r_assign rfl (c.n 3 rfl),
    Ob.d fun c => r_assign rfl (c.n 4 rfl), trivial⟩ ?_
   intro a14 w14 τ14 st14 f14
   obtain ⟨e0, e2, e3, e4, -⟩ := f14.ks [(0, _), (2, _), (3, _), (4, _)] ⟨e0, e2, e3, e4, trivial⟩
   have e8 : get a14 8 = (.string ((escF (seeF cs (i + 1))).1)) := f14.v 5 rfl
   have e9 : get a14 9 = (.bool ((escF (seeF cs (i + 1))).2)) := f14.v 6 rfl
   replace r0 := f14.ib 0 rfl
   replace r9 := f14.iz 9 rfl
   clear f14
   show Code.wp _ _ _ a14 w14
   refine wp_seq ?_
   refine region_St (bf := [0, 1, 3, 7, 15, 31, 63, 127]) (sp := [det _ 53 _, det _ 54 _, det _ 55 _, det _ 56 _, det _ 57 _, det _ 58 _, det _ 59 _, box _ _ 0 0 [cv.v, (.int .i64 (((i + 1 : Nat) : Int) + 1))]]) [ib r0, Ini.any _, Ini.any _, Ini.any _, Ini.any _, Ini.any _, Ini.any _, Ini.any _, Ini.any _, iz r9] mixed st14 (by kernel_rfl) ⟨r0, trivial, trivial, trivial, trivial, trivial, trivial, trivial, trivial, r9, trivial⟩
    ⟨Ob.d fun c => r_move rfl (c.p e0),
    Ob.d fun c => r_nilCheck rfl (c.n 0 rfl) r0.ptr,
    Ob.d fun c => r_fieldAddr rfl Try.underlying58 rfl rfl Try.sizeOf3 ((c.n 1 rfl).trans r0.ptr),
    Ob.d fun c => r_load1 rfl Try.isAgg3 (c.n 2 rfl) ((c.ib 0 rfl).cell (j := 1) rfl),
    Ob.d fun c => r_add rfl (c.n 3 rfl) rfl (by omega),
    Ob.d fun c => r_nilCheck rfl (c.n 0 rfl) r0.ptr,
    Ob.d fun c => r_fieldAddr rfl Try.underlying58 rfl rfl Try.sizeOf3 ((c.n 5 rfl).trans r0.ptr),
    Ob.storeBox (off := 1) (v := (.int .i64 (((i + 1 : Nat) : Int) + 1))) rfl rfl rfl rfl Try.sizeOf3 (Nat.le_of_ble_eq_true rfl) (by simp [Value.cells, Value.oneCell', Sv.v]) rfl (fun _ _ _ _ c => ⟨c.bp 0 rfl e0, c.ad (c.n 6 rfl) e0 rfl, (c.n 4 rfl)⟩), trivial⟩ ?_
   intro a15 w15 τ15 st15 f15
   obtain ⟨e0, e2, e3, e4, e8, e9, -⟩ := f15.ks [(0, _), (2, _), (3, _), (4, _), (8, _), (9, _)] ⟨e0, e2, e3, e4, e8, e9, trivial⟩
   replace r0 : boxR 58 [cv.v, (.int .i64 (((i + 1 : Nat) : Int) + 1))] (τ15 0) v w15 := f15.rb 7 e0 rfl
   replace r9 := f15.iz 9 rfl
   clear f15
   replace r0 : boxR 58 [cv.v, .int .i64 ((i + 2 : Nat) : Int)] (τ15 0) v w15 := by rw [show ((i + 2 : Nat) : Int) = ((i + 1 : Nat) : Int) + 1 from by omega]; exact r0
   show Code.wp _ _ _ a15 w15
   refine wp_seq ?_
   refine region_St (bf := [0, 0, 0, 5, 15]) (sp := [det _ 60 _, det _ 61 _, det _ 2 _, det _ 3 _, det _ 4 _]) [ib r0, Ini.any _, Ini.any _, Ini.any _, Ini.any _, Ini.any _, Ini.any _, Ini.any _, Ini.any _, iz r9] mixed st15 (by kernel_rfl) ⟨r0, trivial, trivial, trivial, trivial, trivial, trivial, trivial, trivial, r9, trivial⟩
    ⟨Ob.d fun c => r_move rfl (c.p e8),
    Ob.d fun c => r_move rfl (c.p e9),
    Ob.d fun c => r_assign rfl rfl,
    Ob.d fun c => r_assign rfl (c.n 0 rfl),
    Ob.d fun c => r_assign rfl (c.n 1 rfl), trivial⟩ ?_
   intro a16 w16 τ16 st16 f16
   obtain ⟨e0, -⟩ := f16.ks [(0, _)] ⟨e0, trivial⟩
   have e2 : get a16 2 = (.slice none 0 0) := f16.v 2 rfl
   have e3 : get a16 3 = (.string ((escF (seeF cs (i + 1))).1)) := f16.v 3 rfl
   have e4 : get a16 4 = (.bool ((escF (seeF cs (i + 1))).2)) := f16.v 4 rfl
   replace r0 := f16.ib 0 rfl
   replace r9 := f16.iz 9 rfl
   clear f16
   show Code.wp _ _ _ a16 w16
   refine wp_ret ?_
   repeat (first | with_reducible refine then_ret ?_ | with_reducible refine block_ret ?_)
   refine ret3 (fn := Try.f68) rfl st16.defers e2 e3 e4 ?_
   have he_ : itemF cs i = ([], (escF (seeF cs (i + 1))).1, (escF (seeF cs (i + 1))).2, i + 2) := by unfold itemF; (repeat (first | rw [if_neg (by first | assumption | (simp only [Bool.not_eq_true]; assumption) | (simp only [Bool.not_eq_false]; assumption))] | rw [if_pos (by assumption)])); (try rfl)
   rw [he_]
   exact ⟨Sv.nil, rfl, st16.extIn, r0.foot, SlT.nil _ _, fun h => absurd rfl h⟩
 try simp only [decide_eq_false_iff_not] at hc3
 refine wp_skip ?_
 show Code.wp _ _ _ a9 w9
 refine wp_seq ?_
 have hnm : (decide (((seeF cs (i + 1)).size : Int) = 1) && namedB (byteAt (seeF cs (i + 1)) 0)) = false := by rw [Bool.and_eq_false_iff]; first | (right; assumption) | (left; exact decide_eq_false (by assumption))
 refine region_St (bf := [0, 1, 3, 7, 7, 15, 63]) (sp := [det _ 49 _, det _ 50 _, det _ 48 _, det _ 51 _, det _ 52 _, det _ 8 _, det _ 9 _]) [ib r0, Ini.any _, Ini.any _, Ini.any _, Ini.any _, Ini.any _, Ini.any _, Ini.any _, Ini.any _, iz r9] mixed st9 (by kernel_rfl) ⟨r0, trivial, trivial, trivial, trivial, trivial, trivial, trivial, trivial, r9, trivial⟩
  ⟨Ob.d fun c => r_move rfl (c.p e5),
  Ob.c fun c => ⟨_, _, (e_call1 rfl rfl Try.call72 (c.n 0 rfl)), esc_c (seeF cs (i + 1)) _⟩,
  Ob.d fun c => r_move rfl (c.n 1 rfl),
  Ob.d fun c => r_extract rfl (c.n 2 rfl) rfl,
  Ob.d fun c => r_extract rfl (c.n 2 rfl) rfl,
  Ob.d fun c => r_assign rfl (c.n 3 rfl),
  Ob.d fun c => r_assign rfl (c.n 4 rfl), trivial⟩ ?_
 intro a17 w17 τ17 st17 f17
 obtain ⟨e0, e2, e3, e4, -⟩ := f17.ks [(0, _), (2, _), (3, _), (4, _)] ⟨e0, e2, e3, e4, trivial⟩
 have e8 : get a17 8 = (.string ((escF (seeF cs (i + 1))).1)) := f17.v 5 rfl
 have e9 : get a17 9 = (.bool ((escF (seeF cs (i + 1))).2)) := f17.v 6 rfl
 replace r0 := f17.ib 0 rfl
 replace r9 := f17.iz 9 rfl
 clear f17
 show Code.wp _ _ _ a17 w17
 refine wp_seq ?_
 refine region_St (bf := [0, 1, 3, 7, 15, 31, 63, 127]) (sp := [det _ 53 _, det _ 54 _, det _ 55 _, det _ 56 _, det _ 57 _, det _ 58 _, det _ 59 _, box _ _ 0 0 [cv.v, (.int .i64 (((i + 1 : Nat) : Int) + 1))]]) [ib r0, Ini.any _, Ini.any _, Ini.any _, Ini.any _, Ini.any _, Ini.any _, Ini.any _, Ini.any _, iz r9] mixed st17 (by kernel_rfl) ⟨r0, trivial, trivial, trivial, trivial, trivial, trivial, trivial, trivial, r9, trivial⟩
  ⟨Ob.d fun c => r_move rfl (c.p e0),
  Ob.d fun c => r_nilCheck rfl (c.n 0 rfl) r0.ptr,
  Ob.d fun c => r_fieldAddr rfl Try.underlying58 rfl rfl Try.sizeOf3 ((c.n 1 rfl).trans r0.ptr),
  Ob.d fun c => r_load1 rfl Try.isAgg3 (c.n 2 rfl) ((c.ib 0 rfl).cell (j := 1) rfl),
  Ob.d fun c => r_add rfl (c.n 3 rfl) rfl (by omega),
  Ob.d fun c => r_nilCheck rfl (c.n 0 rfl) r0.ptr,
  Ob.d fun c => r_fieldAddr rfl Try.underlying58 rfl rfl Try.sizeOf3 ((c.n 5 rfl).trans r0.ptr),
  Ob.storeBox (off := 1) (v := (.int .i64 (((i + 1 : Nat) : Int) + 1))) rfl rfl rfl rfl Try.sizeOf3 (Nat.le_of_ble_eq_true rfl) (by simp [Value.cells, Value.oneCell', Sv.v]) rfl (fun _ _ _ _ c => ⟨c.bp 0 rfl e0, c.ad (c.n 6 rfl) e0 rfl, (c.n 4 rfl)⟩), trivial⟩ ?_
 intro a18 w18 τ18 st18 f18
 obtain ⟨e0, e2, e3, e4, e8, e9, -⟩ := f18.ks [(0, _), (2, _), (3, _), (4, _), (8, _), (9, _)] ⟨e0, e2, e3, e4, e8, e9, trivial⟩
 replace r0 : boxR 58 [cv.v, (.int .i64 (((i + 1 : Nat) : Int) + 1))] (τ18 0) v w18 := f18.rb 7 e0 rfl
 replace r9 := f18.iz 9 rfl
 clear f18
 replace r0 : boxR 58 [cv.v, .int .i64 ((i + 2 : Nat) : Int)] (τ18 0) v w18 := by rw [show ((i + 2 : Nat) : Int) = ((i + 1 : Nat) : Int) + 1 from by omega]; exact r0
 show Code.wp _ _ _ a18 w18
 refine wp_seq ?_
 refine region_St (bf := [0, 0, 0, 5, 15]) (sp := [det _ 60 _, det _ 61 _, det _ 2 _, det _ 3 _, det _ 4 _]) [ib r0, Ini.any _, Ini.any _, Ini.any _, Ini.any _, Ini.any _, Ini.any _, Ini.any _, Ini.any _, iz r9] mixed st18 (by kernel_rfl) ⟨r0, trivial, trivial, trivial, trivial, trivial, trivial, trivial, trivial, r9, trivial⟩
  ⟨Ob.d fun c => r_move rfl (c.p e8),
  Ob.d fun c => r_move rfl (c.p e9),
  Ob.d fun c => r_assign rfl rfl,
  Ob.d fun c => r_assign rfl (c.n 0 rfl),
  Ob.d fun c => r_assign rfl (c.n 1 rfl), trivial⟩ ?_
 intro a19 w19 τ19 st19 f19
 obtain ⟨e0, -⟩ := f19.ks [(0, _)] ⟨e0, trivial⟩
 have e2 : get a19 2 = (.slice none 0 0) := f19.v 2 rfl
 have e3 : get a19 3 = (.string ((escF (seeF cs (i + 1))).1)) := f19.v 3 rfl
 have e4 : get a19 4 = (.bool ((escF (seeF cs (i + 1))).2)) := f19.v 4 rfl
 replace r0 := f19.ib 0 rfl
 replace r9 := f19.iz 9 rfl
 clear f19
 show Code.wp _ _ _ a19 w19
 refine wp_ret ?_
 repeat (first | with_reducible refine then_ret ?_ | with_reducible refine block_ret ?_)
 refine ret3 (fn := Try.f68) rfl st19.defers e2 e3 e4 ?_
 have he_ : itemF cs i = ([], (escF (seeF cs (i + 1))).1, (escF (seeF cs (i + 1))).2, i + 2) := by unfold itemF; (repeat (first | rw [if_neg (by first | assumption | (simp only [Bool.not_eq_true]; assumption) | (simp only [Bool.not_eq_false]; assumption))] | rw [if_pos (by assumption)])); (try rfl)
 rw [he_]
 exact ⟨Sv.nil, rfl, st19.extIn, r0.foot, SlT.nil _ _, fun h => absurd rfl h⟩
end B
end Go.Proofs.Ytocmchlhbniloaa
namespace Go.Proofs.Ytocmchlhbniloaa
namespace B
open Go.RowKit
open Srt
theorem fold1 {c : ByteArray} (h : (c.size : Int) = 1) : ((foldT c).size : Int) = 1 := by
  have h1 := bs_len c
  have h2 : (foldT c).size = ((bs c).map foldU).length := by
    show ((bs c).map foldU).toArray.size = _
    simp
  rw [h2, List.length_map]; omega
set_option maxRecDepth 100000 in
theorem back_c (v : Value) (cv : Sv) (cs : List ByteArray) (i : Nat) (w : World) (hR : RdR 58 v cv cs i w) (hL : CsOk cs) (hi : i ≤ cs.length + 5) : Calls Try.prog 64 #[v] w (fun e w' => ∃ t' : Tr, e = .returned (.tuple #[t'.v, .int .i64 (backF cs i).2.1]) ∧ Ext (ptrFoot v) w w' ∧ boxR 58 [cv.v, .int .i64 (((backF cs i).2.2 : Nat) : Int)] (ptrFoot v) v w' ∧ TrT (Gn none' w) w' t' ∧ er t' = (backF cs i).1) := by
 refine enterIn (ptrFoot v) (fun g hg => hR.box.lt g hg) (n := 53) Try.func64 rfl rfl (Nat.le_of_ble_eq_true rfl) ?_
 intro a0 τ0 ha hτ st0
 have e0 : get a0 0 = v := ha 0 _ rfl
 clear ha
 have hL1 := hL.1
 have r0 : boxR 58 [cv.v, .int .i64 ((i : Nat) : Int)] (τ0 0) v w := by rw [hτ]; exact hR.box
 have r9 : Fz (zSl StrE Al cv.v cs) τ0 w := hR.inz st0
 refine wp_seq ?_
 refine region_St (bf := [0, 0]) (sp := [box _ _ 1 2 [(.int .i64 (0)), (.string ((⟨#[]⟩ : ByteArray))), (.bool (false)), (.slice none 0 0), (.int .i64 (0)), (.int .i64 (0)), (.bool (false)), (.slice none 0 0)], det _ 3 _]) [ib r0, Ini.any _, Ini.any _, Ini.any _, Ini.any _, Ini.any _, Ini.any _, Ini.any _, Ini.any _, iz r9] mixed st0 (by kernel_rfl) ⟨r0, trivial, trivial, trivial, trivial, trivial, trivial, trivial, trivial, r9, trivial⟩
  ⟨Ob.alloc rfl rfl rfl rfl Try.zeroValue25 rfl,
  Ob.d fun c => r_assign rfl rfl, trivial⟩ ?_
 intro a1 w1 τ1 st1 f1
 obtain ⟨b1x2, e2⟩ : ∃ b, get a1 2 = b := ⟨_, rfl⟩
 obtain ⟨e0, -⟩ := f1.ks [(0, _)] ⟨e0, trivial⟩
 have e3 : get a1 3 = (.int .i64 (0)) := f1.v 1 rfl
 replace r0 := f1.ib 0 rfl
 have r1 : boxR 25 [(.int .i64 (0)), (.string ((⟨#[]⟩ : ByteArray))), (.bool (false)), (.slice none 0 0), (.int .i64 (0)), (.int .i64 (0)), (.bool (false)), (.slice none 0 0)] (τ1 1) b1x2 w1 := f1.rb 0 e2 rfl
 replace r9 := f1.iz 9 rfl
 clear f1
 show Code.wp _ _ _ a1 w1
 refine wp_seq ?_
 refine region_St (bf := [0, 1, 3]) (sp := [det _ 10 _, det _ 11 _, det _ 4 _]) [ib r0, ib r1, Ini.any _, Ini.any _, Ini.any _, Ini.any _, Ini.any _, Ini.any _, Ini.any _, iz r9] mixed st1 (by kernel_rfl) ⟨r0, r1, trivial, trivial, trivial, trivial, trivial, trivial, trivial, r9, trivial⟩
  ⟨Ob.d fun c => r_move rfl (c.p e0),
  Ob.c fun c => ⟨_, _, (e_call1 rfl rfl Try.call47 (c.n 0 rfl)), see_c v cv cs i _ (rdr (c.ib 0 rfl) (c.iz 9 rfl) (fun g_ h_ hz_ => hz_.2 _ h_))⟩,
  Ob.d fun c => r_assign rfl (c.n 1 rfl), trivial⟩ ?_
 intro a2 w2 τ2 st2 f2
 obtain ⟨e0, e2, e3, -⟩ := f2.ks [(0, _), (2, _), (3, _)] ⟨e0, e2, e3, trivial⟩
 have e4 : get a2 4 = (.string (seeF cs i)) := f2.v 2 rfl
 replace r0 := f2.ib 0 rfl
 replace r1 := f2.ib 1 rfl
 replace r9 := f2.iz 9 rfl
 clear f2
 show Code.wp _ _ _ a2 w2
 refine wp_seq ?_
 refine region_St (bf := [0, 1, 3]) (sp := [det _ 12 _, det _ 13 _, det _ 5 _]) [ib r0, ib r1, Ini.any _, Ini.any _, Ini.any _, Ini.any _, Ini.any _, Ini.any _, Ini.any _, iz r9] mixed st2 (by kernel_rfl) ⟨r0, r1, trivial, trivial, trivial, trivial, trivial, trivial, trivial, r9, trivial⟩
  ⟨Ob.d fun c => r_move rfl (c.p e4),
  Ob.c fun c => ⟨_, _, (e_call1 rfl rfl Try.call70 (c.n 0 rfl)), refFold_c (seeF cs i) _ (by first | omega | (have h_ := fold1 (by assumption : ((seeF cs i).size : Int) = 1); omega) | (have h_ := see_size_le hL i; omega))⟩,
  Ob.d fun c => r_assign rfl (c.n 1 rfl), trivial⟩ ?_
 intro a3 w3 τ3 st3 f3
 obtain ⟨e0, e2, e3, e4, -⟩ := f3.ks [(0, _), (2, _), (3, _), (4, _)] ⟨e0, e2, e3, e4, trivial⟩
 have e5 : get a3 5 = (.string (foldT (seeF cs i))) := f3.v 2 rfl
 replace r0 := f3.ib 0 rfl
 replace r1 := f3.ib 1 rfl
 replace r9 := f3.iz 9 rfl
 clear f3
 show Code.wp _ _ _ a3 w3
 refine wp_seq ?_
 refine wp_seq ?_
 refine region_St (bf := [0, 1, 3]) (sp := [det _ 14 _, det _ 15 _, det _ 16 _]) [ib r0, ib r1, Ini.any _, Ini.any _, Ini.any _, Ini.any _, Ini.any _, Ini.any _, Ini.any _, iz r9] mixed st3 (by kernel_rfl) ⟨r0, r1, trivial, trivial, trivial, trivial, trivial, trivial, trivial, r9, trivial⟩
  ⟨Ob.d fun c => r_move rfl (c.p e4),
  Ob.d fun c => r_lenS rfl Try.underlying9 (c.n 0 rfl),
  Ob.d fun c => r_eql rfl (c.n 1 rfl) rfl, trivial⟩ ?_
 intro a4 w4 τ4 st4 f4
 obtain ⟨e0, e2, e3, e4, e5, -⟩ := f4.ks [(0, _), (2, _), (3, _), (4, _), (5, _)] ⟨e0, e2, e3, e4, e5, trivial⟩
 have e16 : get a4 16 = (.bool (decide (((seeF cs i).size : Int) = 1))) := f4.v 2 rfl
 replace r0 := f4.ib 0 rfl
 replace r1 := f4.ib 1 rfl
 replace r9 := f4.iz 9 rfl
 clear f4
 show Code.wp _ _ _ a4 w4
 refine wp_cond_split (t := decide (((seeF cs i).size : Int) = 1)) e16 (fun hc1 => ?_) (fun hc1 => ?_)
 · try simp only [decide_eq_true_eq] at hc1
   refine wp_seq ?_
   refine region_of_ops ?_
   refine ops_cut 3 (by kernel_rfl) ?_
   refine ops_St (bf := [0, 1, 3]) (sp := [det _ 18 _, det _ 19 _, zdet _ 20 (fun b : Sv => .tuple #[b.v, .bool (namedB (byteAt (foldT (seeF cs i)) (0)))]) (fun _ => True) (fun b : Sv => zSl RowE (Gn none' w) b.v (namedF (byteAt (foldT (seeF cs i)) (0))))]) [ib r0, ib r1, Ini.any _, Ini.any _, Ini.any _, Ini.any _, Ini.any _, Ini.any _, Ini.any _, iz r9] st4 (by kernel_rfl) ⟨r0, r1, trivial, trivial, trivial, trivial, trivial, trivial, trivial, r9, trivial⟩
    ⟨Ob.d fun c => r_move rfl (c.p e5),
    Ob.d fun c => r_sindex rfl Try.underlying9 (c.n 0 rfl) rfl (by first | omega | (have h_ := fold1 (by assumption : ((seeF cs i).size : Int) = 1); omega) | (have h_ := see_size_le hL i; omega)) (by first | omega | (have h_ := fold1 (by assumption : ((seeF cs i).size : Int) = 1); omega) | (have h_ := see_size_le hL i; omega)),
    Ob.zc (f := fun b : Sv => .tuple #[b.v, .bool (namedB (byteAt (foldT (seeF cs i)) (0)))]) (Ψ := fun _ => True) (Φ := fun b : Sv => zSl RowE (Gn none' w) b.v (namedF (byteAt (foldT (seeF cs i)) (0)))) fun {_ a_ _ _} c => ⟨_, _, (e_call1 rfl rfl Try.call71 (c.n 1 rfl)), (refNamed_c (byteAt (foldT (seeF cs i)) (0)) _).mono (fun e w' ⟨v_, he_, hx_, hn_⟩ => by obtain ⟨s_, rfl⟩ := hn_.1.sl.sl.sv; exact ⟨s_, he_, hx_, trivial, c.sn st4 hx_ hn_⟩)⟩, trivial⟩ ?_
   intro a5 w5 τ5 st5 f5
   obtain ⟨e0, e2, e3, e4, e5, -⟩ := f5.ks [(0, _), (2, _), (3, _), (4, _), (5, _)] ⟨e0, e2, e3, e4, e5, trivial⟩
   obtain ⟨rw1_, e20, -, hz5⟩ := f5.zd 2 rfl
   have e20 : get a5 20 = (.tuple #[rw1_.v, (.bool (namedB (byteAt (foldT (seeF cs i)) (0))))]) := e20
   replace r0 := f5.ib 0 rfl
   replace r1 := f5.ib 1 rfl
   replace r9 := f5.iz 9 rfl
   have r2 : Fz (zSl RowE (Gn none' w) rw1_.v (namedF (byteAt (foldT (seeF cs i)) (0)))) τ5 w5 := hz5
   clear f5
   refine only_mk ?_
   refine ops_St (bf := [0, 1, 3, 7, 15]) (sp := [det _ 17 _, det _ 21 _, det _ 22 _, det _ 6 _, det _ 7 _]) [ib r0, ib r1, iz r2, Ini.any _, Ini.any _, Ini.any _, Ini.any _, Ini.any _, Ini.any _, iz r9] st5 (by kernel_rfl) ⟨r0, r1, r2, trivial, trivial, trivial, trivial, trivial, trivial, r9, trivial⟩
    ⟨Ob.d fun c => r_move rfl (c.p e20),
    Ob.d fun c => r_extract rfl (c.n 0 rfl) rfl,
    Ob.d fun c => r_extract rfl (c.n 0 rfl) rfl,
    Ob.d fun c => r_assign rfl (c.n 1 rfl),
    Ob.d fun c => r_assign rfl (c.n 2 rfl), trivial⟩ ?_
   intro a6 w6 τ6 st6 f6
   obtain ⟨e0, e2, e3, e4, e5, -⟩ := f6.ks [(0, _), (2, _), (3, _), (4, _), (5, _)] ⟨e0, e2, e3, e4, e5, trivial⟩
   have e6 : get a6 6 = rw1_.v := f6.v 3 rfl
   have e7 : get a6 7 = (.bool (namedB (byteAt (foldT (seeF cs i)) (0)))) := f6.v 4 rfl
   replace r0 := f6.ib 0 rfl
   replace r1 := f6.ib 1 rfl
   replace r2 := f6.iz 2 rfl
   replace r9 := f6.iz 9 rfl
   clear f6
   show Code.wp _ _ _ a6 w6
   refine wp_seq ?_
   refine region_St (bf := [0]) (sp := [det _ 23 _]) [ib r0, ib r1, iz r2, Ini.any _, Ini.any _, Ini.any _, Ini.any _, Ini.any _, Ini.any _, iz r9] mixed st6 (by kernel_rfl) ⟨r0, r1, r2, trivial, trivial, trivial, trivial, trivial, trivial, r9, trivial⟩
    ⟨Ob.d fun c => r_move rfl (c.p e7), trivial⟩ ?_
   intro a7 w7 τ7 st7 f7
   obtain ⟨e0, e2, e3, e4, e5, e6, -⟩ := f7.ks [(0, _), (2, _), (3, _), (4, _), (5, _), (6, _)] ⟨e0, e2, e3, e4, e5, e6, trivial⟩
   have e23 : get a7 23 = (.bool (namedB (byteAt (foldT (seeF cs i)) (0)))) := f7.v 0 rfl
   replace r0 := f7.ib 0 rfl
   replace r1 := f7.ib 1 rfl
   replace r2 := f7.iz 2 rfl
   replace r9 := f7.iz 9 rfl
   clear f7
   show Code.wp _ _ _ a7 w7
   refine wp_cond_split (t := namedB (byteAt (foldT (seeF cs i)) (0))) e23 (fun hc2 => ?_) (fun hc2 => ?_)
   · skip
     refine wp_seq ?_
     have hnm : (decide (((seeF cs i).size : Int) = 1) && namedB (byteAt (foldT (seeF cs i)) 0)) = true := by rw [Bool.and_eq_true]; exact ⟨decide_eq_true (by assumption), by assumption⟩
     have hlt_ : i < cs.length := see_size (by assumption : ((seeF cs i).size : Int) = 1)
     refine region_St (bf := [0, 1, 3, 7, 15, 31, 63, 127]) (sp := [det _ 24 _, det _ 25 _, det _ 26 _, det _ 27 _, det _ 28 _, det _ 29 _, det _ 30 _, box _ _ 0 0 [cv.v, (.int .i64 (((i : Nat) : Int) + 1))]]) [ib r0, ib r1, iz r2, Ini.any _, Ini.any _, Ini.any _, Ini.any _, Ini.any _, Ini.any _, iz r9] mixed st7 (by kernel_rfl) ⟨r0, r1, r2, trivial, trivial, trivial, trivial, trivial, trivial, r9, trivial⟩
      ⟨Ob.d fun c => r_move rfl (c.p e0),
      Ob.d fun c => r_nilCheck rfl (c.n 0 rfl) r0.ptr,
      Ob.d fun c => r_fieldAddr rfl Try.underlying58 rfl rfl Try.sizeOf3 ((c.n 1 rfl).trans r0.ptr),
      Ob.d fun c => r_load1 rfl Try.isAgg3 (c.n 2 rfl) ((c.ib 0 rfl).cell (j := 1) rfl),
      Ob.d fun c => r_add rfl (c.n 3 rfl) rfl (by first | omega | (have h_ := fold1 (by assumption : ((seeF cs i).size : Int) = 1); omega) | (have h_ := see_size_le hL i; omega)),
      Ob.d fun c => r_nilCheck rfl (c.n 0 rfl) r0.ptr,
      Ob.d fun c => r_fieldAddr rfl Try.underlying58 rfl rfl Try.sizeOf3 ((c.n 5 rfl).trans r0.ptr),
      Ob.storeBox (off := 1) (v := (.int .i64 (((i : Nat) : Int) + 1))) rfl rfl rfl rfl Try.sizeOf3 (Nat.le_of_ble_eq_true rfl) (by simp [Value.cells, Value.oneCell', Sv.v]) rfl (fun _ _ _ _ c => ⟨c.bp 0 rfl e0, c.ad (c.n 6 rfl) e0 rfl, (c.n 4 rfl)⟩), trivial⟩ ?_
     intro a8 w8 τ8 st8 f8
     obtain ⟨e0, e2, e3, e4, e5, e6, -⟩ := f8.ks [(0, _), (2, _), (3, _), (4, _), (5, _), (6, _)] ⟨e0, e2, e3, e4, e5, e6, trivial⟩
     replace r0 : boxR 58 [cv.v, (.int .i64 (((i : Nat) : Int) + 1))] (τ8 0) v w8 := f8.rb 7 e0 rfl
     replace r1 := f8.ib 1 rfl
     replace r2 := f8.iz 2 rfl
     replace r9 := f8.iz 9 rfl
     clear f8
     replace r0 : boxR 58 [cv.v, .int .i64 ((i + 1 : Nat) : Int)] (τ8 0) v w8 := by rw [show ((i + 1 : Nat) : Int) = ((i : Nat) : Int) + 1 from by omega]; exact r0
     show Code.wp _ _ _ a8 w8
     refine wp_seq ?_
     refine region_St (bf := [0, 0, 0, 6, 15, 31, 63]) (sp := [det _ 31 _, det _ 32 _, det _ 33 _, det _ 34 _, det _ 35 _, box _ _ 1 2 [(.int .i64 (4)), (.string ((⟨#[]⟩ : ByteArray))), (.bool (!(eqT (seeF cs i) (foldT (seeF cs i))))), rw1_.v, (.int .i64 (0)), (.int .i64 (0)), (.bool (false)), (.slice none 0 0)], det _ 3 _]) [ib r0, ib r1, iz r2, Ini.any _, Ini.any _, Ini.any _, Ini.any _, Ini.any _, Ini.any _, iz r9] mixed st8 (by kernel_rfl) ⟨r0, r1, r2, trivial, trivial, trivial, trivial, trivial, trivial, r9, trivial⟩
      ⟨Ob.d fun c => r_move rfl (c.p e6),
      Ob.d fun c => r_move rfl (c.p e4),
      Ob.d fun c => r_move rfl (c.p e5),
      Ob.d fun c => r_sneq rfl (c.n 1 rfl) (c.n 2 rfl),
      Ob.d fun c => r_build (cells := #[(.int .i64 (4)), (.string ((⟨#[]⟩ : ByteArray))), (.bool (!(eqT (seeF cs i) (foldT (seeF cs i))))), rw1_.v, (.int .i64 (0)), (.int .i64 (0)), (.bool (false)), (.slice none 0 0)]) rfl Try.underlying25 Try.zeroValue25 (pl := #[(0, 1), (1, 1), (2, 1), (3, 1), (4, 1), (5, 1), (6, 1), (7, 1)]) (fun w_ => by simp [Try.sizeOf22, Try.sizeOf23, Try.sizeOf3, Try.sizeOf4, Try.sizeOf9]) (fill3 rfl (c.n 0 rfl) (c.n 3 rfl) rfl),
      Ob.storeBox (off := 0) (v := (.agg #[(.int .i64 (4)), (.string ((⟨#[]⟩ : ByteArray))), (.bool (!(eqT (seeF cs i) (foldT (seeF cs i))))), rw1_.v, (.int .i64 (0)), (.int .i64 (0)), (.bool (false)), (.slice none 0 0)])) rfl rfl rfl rfl Try.sizeOf25 (Nat.le_of_ble_eq_true rfl) (by simp [Value.cells, Value.oneCell', Sv.v]) rfl (fun _ _ _ _ c => ⟨c.bp 1 rfl e2, c.ad ((c.p e2).trans r1.ptr) e2 rfl, (c.n 4 rfl)⟩),
      Ob.d fun c => r_assign rfl rfl, trivial⟩ ?_
     intro a9 w9 τ9 st9 f9
     obtain ⟨e0, e2, e4, -⟩ := f9.ks [(0, _), (2, _), (4, _)] ⟨e0, e2, e4, trivial⟩
     have e3 : get a9 3 = (.int .i64 (0)) := f9.v 6 rfl
     replace r0 := f9.ib 0 rfl
     replace r1 : boxR 25 [(.int .i64 (4)), (.string ((⟨#[]⟩ : ByteArray))), (.bool (!(eqT (seeF cs i) (foldT (seeF cs i))))), rw1_.v, (.int .i64 (0)), (.int .i64 (0)), (.bool (false)), (.slice none 0 0)] (τ9 1) b1x2 w9 := f9.rb 5 e2 rfl
     replace r2 := f9.iz 2 rfl
     replace r9 := f9.iz 9 rfl
     clear f9
     show Code.wp _ _ _ a9 w9
     refine wp_ret ?_
     repeat (first | with_reducible refine then_ret ?_ | with_reducible refine block_ret ?_)
     refine ret2c (fn := Try.f64) rfl st9.defers e2 e3 r1 Try.isAgg25 Try.sizeOf25 rfl ?_
     have he_ : backF cs i = ((setT (!(eqT (seeF cs i) (foldT (seeF cs i)))) Sv.nil (namedF (byteAt (foldT (seeF cs i)) (0)))), 0, i + 1) := by unfold backF; (repeat (first | rw [if_neg (by first | assumption | (simp only [Bool.not_eq_true]; assumption) | (simp only [Bool.not_eq_false]; assumption) | (exact fun h_ => h_ (by assumption)) | omega)] | rw [if_pos (by first | assumption | omega)])); (try rfl)
     rw [he_]
     exact ⟨(setT (!(eqT (seeF cs i) (foldT (seeF cs i)))) rw1_ (namedF (byteAt (foldT (seeF cs i)) (0)))), rfl, st9.extIn, r0.foot, (Fz.out (setZ r2)), er_set _ _ _⟩
   skip
   refine wp_skip ?_
   show Code.wp _ _ _ a7 w7
   refine wp_seq ?_
   have hnm : (decide (((seeF cs i).size : Int) = 1) && namedB (byteAt (foldT (seeF cs i)) 0)) = false := by rw [Bool.and_eq_false_iff]; first | (right; assumption) | (left; exact decide_eq_false (by assumption))
   refine region_St (bf := [0, 1, 3, 7, 7, 15, 63]) (sp := [det _ 37 _, det _ 38 _, det _ 36 _, det _ 39 _, det _ 40 _, det _ 8 _, det _ 9 _]) [ib r0, ib r1, iz r2, Ini.any _, Ini.any _, Ini.any _, Ini.any _, Ini.any _, Ini.any _, iz r9] mixed st7 (by kernel_rfl) ⟨r0, r1, r2, trivial, trivial, trivial, trivial, trivial, trivial, r9, trivial⟩
    ⟨Ob.d fun c => r_move rfl (c.p e4),
    Ob.c fun c => ⟨_, _, (e_call1 rfl rfl Try.call72 (c.n 0 rfl)), esc_c (seeF cs i) _⟩,
    Ob.d fun c => r_move rfl (c.n 1 rfl),
    Ob.d fun c => r_extract rfl (c.n 2 rfl) rfl,
    Ob.d fun c => r_extract rfl (c.n 2 rfl) rfl,
    Ob.d fun c => r_assign rfl (c.n 3 rfl),
    Ob.d fun c => r_assign rfl (c.n 4 rfl), trivial⟩ ?_
   intro a10 w10 τ10 st10 f10
   obtain ⟨e0, e2, e3, -⟩ := f10.ks [(0, _), (2, _), (3, _)] ⟨e0, e2, e3, trivial⟩
   have e8 : get a10 8 = (.string ((escF (seeF cs i)).1)) := f10.v 5 rfl
   have e9 : get a10 9 = (.bool ((escF (seeF cs i)).2)) := f10.v 6 rfl
   replace r0 := f10.ib 0 rfl
   replace r1 := f10.ib 1 rfl
   replace r2 := f10.iz 2 rfl
   replace r9 := f10.iz 9 rfl
   clear f10
   show Code.wp _ _ _ a10 w10
   refine wp_seq ?_
   refine wp_seq ?_
   refine region_St (bf := [0, 1]) (sp := [det _ 41 _, det _ 42 _]) [ib r0, ib r1, Ini.any _, Ini.any _, Ini.any _, Ini.any _, Ini.any _, Ini.any _, Ini.any _, iz r9] mixed st10 (by kernel_rfl) ⟨r0, r1, trivial, trivial, trivial, trivial, trivial, trivial, trivial, r9, trivial⟩
    ⟨Ob.d fun c => r_move rfl (c.p e9),
    Ob.d fun c => r_not rfl (c.n 0 rfl), trivial⟩ ?_
   intro a11 w11 τ11 st11 f11
   obtain ⟨e0, e2, e3, e8, -⟩ := f11.ks [(0, _), (2, _), (3, _), (8, _)] ⟨e0, e2, e3, e8, trivial⟩
   have e42 : get a11 42 = (.bool (!((escF (seeF cs i)).2))) := f11.v 1 rfl
   replace r0 := f11.ib 0 rfl
   replace r1 := f11.ib 1 rfl
   replace r9 := f11.iz 9 rfl
   clear f11
   show Code.wp _ _ _ a11 w11
   refine wp_cond_split (t := !((escF (seeF cs i)).2)) e42 (fun hc3 => ?_) (fun hc3 => ?_)
   · try simp only [Bool.not_eq_true', Bool.not_eq_false'] at hc3
     refine wp_seq ?_
     refine region_St (bf := [0, 1, 3]) (sp := [det _ 43 _, box _ _ 1 2 [(.int .i64 (0)), (.string ((⟨#[]⟩ : ByteArray))), (.bool (false)), (.slice none 0 0), (.int .i64 (0)), (.int .i64 (0)), (.bool (false)), (.slice none 0 0)], det _ 3 _]) [ib r0, ib r1, Ini.any _, Ini.any _, Ini.any _, Ini.any _, Ini.any _, Ini.any _, Ini.any _, iz r9] mixed st11 (by kernel_rfl) ⟨r0, r1, trivial, trivial, trivial, trivial, trivial, trivial, trivial, r9, trivial⟩
      ⟨Ob.d fun c => r_build (cells := #[(.int .i64 (0)), (.string ((⟨#[]⟩ : ByteArray))), (.bool (false)), (.slice none 0 0), (.int .i64 (0)), (.int .i64 (0)), (.bool (false)), (.slice none 0 0)]) rfl Try.underlying25 Try.zeroValue25 (pl := #[(0, 1), (1, 1), (2, 1), (3, 1), (4, 1), (5, 1), (6, 1), (7, 1)]) (fun w_ => by simp [Try.sizeOf22, Try.sizeOf23, Try.sizeOf3, Try.sizeOf4, Try.sizeOf9]) (by simp only [List.map_toArray, List.map_nil]; rfl),
      Ob.storeBox (off := 0) (v := (.agg #[(.int .i64 (0)), (.string ((⟨#[]⟩ : ByteArray))), (.bool (false)), (.slice none 0 0), (.int .i64 (0)), (.int .i64 (0)), (.bool (false)), (.slice none 0 0)])) rfl rfl rfl rfl Try.sizeOf25 (Nat.le_of_ble_eq_true rfl) (by simp [Value.cells, Value.oneCell', Sv.v]) rfl (fun _ _ _ _ c => ⟨c.bp 1 rfl e2, c.ad ((c.p e2).trans r1.ptr) e2 rfl, (c.n 0 rfl)⟩),
      Ob.d fun c => r_assign rfl rfl, trivial⟩ ?_
     intro a12 w12 τ12 st12 f12
     obtain ⟨e0, e2, e8, -⟩ := f12.ks [(0, _), (2, _), (8, _)] ⟨e0, e2, e8, trivial⟩
     have e3 : get a12 3 = (.int .i64 (10)) := f12.v 2 rfl
     replace r0 := f12.ib 0 rfl
     replace r1 : boxR 25 [(.int .i64 (0)), (.string ((⟨#[]⟩ : ByteArray))), (.bool (false)), (.slice none 0 0), (.int .i64 (0)), (.int .i64 (0)), (.bool (false)), (.slice none 0 0)] (τ12 1) b1x2 w12 := f12.rb 1 e2 rfl
     replace r9 := f12.iz 9 rfl
     clear f12
     show Code.wp _ _ _ a12 w12
     refine wp_ret ?_
     repeat (first | with_reducible refine then_ret ?_ | with_reducible refine block_ret ?_)
     refine ret2c (fn := Try.f64) rfl st12.defers e2 e3 r1 Try.isAgg25 Try.sizeOf25 rfl ?_
     have he_ : backF cs i = ((leafT 0 (⟨#[]⟩ : ByteArray) false 0 0 false), 10, i) := by unfold backF; (repeat (first | rw [if_neg (by first | assumption | (simp only [Bool.not_eq_true]; assumption) | (simp only [Bool.not_eq_false]; assumption) | (exact fun h_ => h_ (by assumption)) | omega)] | rw [if_pos (by first | assumption | omega)])); (try rfl)
     rw [he_]
     exact ⟨(leafT 0 (⟨#[]⟩ : ByteArray) false 0 0 false), rfl, st12.extIn, r0.foot, (leafTr _ _ _ _ _ _ _ _), rfl⟩
   try simp only [Bool.not_eq_true', Bool.not_eq_false'] at hc3
   refine wp_skip ?_
   show Code.wp _ _ _ a11 w11
   refine wp_seq ?_
   have hlt_ : i < cs.length := by
     cases hz_ : eqT (seeF cs i) (⟨#[]⟩ : ByteArray) with
     | false => exact see_ne hz_
     | true =>
       have hx_ : (escF (seeF cs i)).2 = true := by assumption
       unfold escF at hx_
       rw [if_pos hz_] at hx_; cases hx_
   refine region_St (bf := [0, 1, 3, 7, 15, 31, 63, 127]) (sp := [det _ 44 _, det _ 45 _, det _ 46 _, det _ 47 _, det _ 48 _, det _ 49 _, det _ 50 _, box _ _ 0 0 [cv.v, (.int .i64 (((i : Nat) : Int) + 1))]]) [ib r0, ib r1, Ini.any _, Ini.any _, Ini.any _, Ini.any _, Ini.any _, Ini.any _, Ini.any _, iz r9] mixed st11 (by kernel_rfl) ⟨r0, r1, trivial, trivial, trivial, trivial, trivial, trivial, trivial, r9, trivial⟩
    ⟨Ob.d fun c => r_move rfl (c.p e0),
    Ob.d fun c => r_nilCheck rfl (c.n 0 rfl) r0.ptr,
    Ob.d fun c => r_fieldAddr rfl Try.underlying58 rfl rfl Try.sizeOf3 ((c.n 1 rfl).trans r0.ptr),
    Ob.d fun c => r_load1 rfl Try.isAgg3 (c.n 2 rfl) ((c.ib 0 rfl).cell (j := 1) rfl),
    Ob.d fun c => r_add rfl (c.n 3 rfl) rfl (by first | omega | (have h_ := fold1 (by assumption : ((seeF cs i).size : Int) = 1); omega) | (have h_ := see_size_le hL i; omega)),
    Ob.d fun c => r_nilCheck rfl (c.n 0 rfl) r0.ptr,
    Ob.d fun c => r_fieldAddr rfl Try.underlying58 rfl rfl Try.sizeOf3 ((c.n 5 rfl).trans r0.ptr),
    Ob.storeBox (off := 1) (v := (.int .i64 (((i : Nat) : Int) + 1))) rfl rfl rfl rfl Try.sizeOf3 (Nat.le_of_ble_eq_true rfl) (by simp [Value.cells, Value.oneCell', Sv.v]) rfl (fun _ _ _ _ c => ⟨c.bp 0 rfl e0, c.ad (c.n 6 rfl) e0 rfl, (c.n 4 rfl)⟩), trivial⟩ ?_
   intro a13 w13 τ13 st13 f13
   obtain ⟨e0, e2, e3, e8, -⟩ := f13.ks [(0, _), (2, _), (3, _), (8, _)] ⟨e0, e2, e3, e8, trivial⟩
   replace r0 : boxR 58 [cv.v, (.int .i64 (((i : Nat) : Int) + 1))] (τ13 0) v w13 := f13.rb 7 e0 rfl
   replace r1 := f13.ib 1 rfl
   replace r9 := f13.iz 9 rfl
   clear f13
   replace r0 : boxR 58 [cv.v, .int .i64 ((i + 1 : Nat) : Int)] (τ13 0) v w13 := by rw [show ((i + 1 : Nat) : Int) = ((i : Nat) : Int) + 1 from by omega]; exact r0
   show Code.wp _ _ _ a13 w13
   refine wp_seq ?_
   refine region_St (bf := [0, 1, 3, 7]) (sp := [det _ 51 _, det _ 52 _, box _ _ 1 2 [(.int .i64 (2)), (.string ((escF (seeF cs i)).1)), (.bool (false)), (.slice none 0 0), (.int .i64 (0)), (.int .i64 (0)), (.bool (false)), (.slice none 0 0)], det _ 3 _]) [ib r0, ib r1, Ini.any _, Ini.any _, Ini.any _, Ini.any _, Ini.any _, Ini.any _, Ini.any _, iz r9] mixed st13 (by kernel_rfl) ⟨r0, r1, trivial, trivial, trivial, trivial, trivial, trivial, trivial, r9, trivial⟩
    ⟨Ob.d fun c => r_move rfl (c.p e8),
    Ob.d fun c => r_build (cells := #[(.int .i64 (2)), (.string ((escF (seeF cs i)).1)), (.bool (false)), (.slice none 0 0), (.int .i64 (0)), (.int .i64 (0)), (.bool (false)), (.slice none 0 0)]) rfl Try.underlying25 Try.zeroValue25 (pl := #[(0, 1), (1, 1), (2, 1), (3, 1), (4, 1), (5, 1), (6, 1), (7, 1)]) (fun w_ => by simp [Try.sizeOf22, Try.sizeOf23, Try.sizeOf3, Try.sizeOf4, Try.sizeOf9]) (fill2 rfl (c.n 0 rfl) rfl),
    Ob.storeBox (off := 0) (v := (.agg #[(.int .i64 (2)), (.string ((escF (seeF cs i)).1)), (.bool (false)), (.slice none 0 0), (.int .i64 (0)), (.int .i64 (0)), (.bool (false)), (.slice none 0 0)])) rfl rfl rfl rfl Try.sizeOf25 (Nat.le_of_ble_eq_true rfl) (by simp [Value.cells, Value.oneCell', Sv.v]) rfl (fun _ _ _ _ c => ⟨c.bp 1 rfl e2, c.ad ((c.p e2).trans r1.ptr) e2 rfl, (c.n 1 rfl)⟩),
    Ob.d fun c => r_assign rfl rfl, trivial⟩ ?_
   intro a14 w14 τ14 st14 f14
   obtain ⟨e0, e2, -⟩ := f14.ks [(0, _), (2, _)] ⟨e0, e2, trivial⟩
   have e3 : get a14 3 = (.int .i64 (0)) := f14.v 3 rfl
   replace r0 := f14.ib 0 rfl
   replace r1 : boxR 25 [(.int .i64 (2)), (.string ((escF (seeF cs i)).1)), (.bool (false)), (.slice none 0 0), (.int .i64 (0)), (.int .i64 (0)), (.bool (false)), (.slice none 0 0)] (τ14 1) b1x2 w14 := f14.rb 2 e2 rfl
   replace r9 := f14.iz 9 rfl
   clear f14
   show Code.wp _ _ _ a14 w14
   refine wp_ret ?_
   repeat (first | with_reducible refine then_ret ?_ | with_reducible refine block_ret ?_)
   refine ret2c (fn := Try.f64) rfl st14.defers e2 e3 r1 Try.isAgg25 Try.sizeOf25 rfl ?_
   have he_ : backF cs i = ((leafT 2 ((escF (seeF cs i)).1) false 0 0 false), 0, i + 1) := by unfold backF; (repeat (first | rw [if_neg (by first | assumption | (simp only [Bool.not_eq_true]; assumption) | (simp only [Bool.not_eq_false]; assumption) | (exact fun h_ => h_ (by assumption)) | omega)] | rw [if_pos (by first | assumption | omega)])); (try rfl)
   rw [he_]
   exact ⟨(leafT 2 ((escF (seeF cs i)).1) false 0 0 false), rfl, st14.extIn, r0.foot, (leafTr _ _ _ _ _ _ _ _), rfl⟩
 try simp only [decide_eq_false_iff_not] at hc1
 refine wp_skip ?_
 show Code.wp _ _ _ a4 w4
 refine wp_seq ?_
 have hnm : (decide (((seeF cs i).size : Int) = 1) && namedB (byteAt (foldT (seeF cs i)) 0)) = false := by rw [Bool.and_eq_false_iff]; first | (right; assumption) | (left; exact decide_eq_false (by assumption))
 refine region_St (bf := [0, 1, 3, 7, 7, 15, 63]) (sp := [det _ 37 _, det _ 38 _, det _ 36 _, det _ 39 _, det _ 40 _, det _ 8 _, det _ 9 _]) [ib r0, ib r1, Ini.any _, Ini.any _, Ini.any _, Ini.any _, Ini.any _, Ini.any _, Ini.any _, iz r9] mixed st4 (by kernel_rfl) ⟨r0, r1, trivial, trivial, trivial, trivial, trivial, trivial, trivial, r9, trivial⟩
  ⟨Ob.d fun c => r_move rfl (c.p e4),
  Ob.c fun c => ⟨_, _, (e_call1 rfl rfl Try.call72 (c.n 0 rfl)), esc_c (seeF cs i) _⟩,
  Ob.d fun c => r_move rfl (c.n 1 rfl),
  Ob.d fun c => r_extract rfl (c.n 2 rfl) rfl,
  Ob.d fun c => r_extract rfl (c.n 2 rfl) rfl,
  Ob.d fun c => r_assign rfl (c.n 3 rfl),
  Ob.d fun c => r_assign rfl (c.n 4 rfl), trivial⟩ ?_
 intro a15 w15 τ15 st15 f15
 obtain ⟨e0, e2, e3, -⟩ := f15.ks [(0, _), (2, _), (3, _)] ⟨e0, e2, e3, trivial⟩
 have e8 : get a15 8 = (.string ((escF (seeF cs i)).1)) := f15.v 5 rfl
 have e9 : get a15 9 = (.bool ((escF (seeF cs i)).2)) := f15.v 6 rfl
 replace r0 := f15.ib 0 rfl
 replace r1 := f15.ib 1 rfl
 replace r9 := f15.iz 9 rfl
 clear f15
 show Code.wp _ _ _ a15 w15
 refine wp_seq ?_
 refine wp_seq ?_
 refine region_St (bf := [0, 1]) (sp := [det _ 41 _, det _ 42 _]) [ib r0, ib r1, Ini.any _, Ini.any _, Ini.any _, Ini.any _, Ini.any _, Ini.any _, Ini.any _, iz r9] mixed st15 (by kernel_rfl) ⟨r0, r1, trivial, trivial, trivial, trivial, trivial, trivial, trivial, r9, trivial⟩
  ⟨Ob.d fun c => r_move rfl (c.p e9),
  Ob.d fun c => r_not rfl (c.n 0 rfl), trivial⟩ ?_
 intro a16 w16 τ16 st16 f16
 obtain ⟨e0, e2, e3, e8, -⟩ := f16.ks [(0, _), (2, _), (3, _), (8, _)] ⟨e0, e2, e3, e8, trivial⟩
 have e42 : get a16 42 = (.bool (!((escF (seeF cs i)).2))) := f16.v 1 rfl
 replace r0 := f16.ib 0 rfl
 replace r1 := f16.ib 1 rfl
 replace r9 := f16.iz 9 rfl
 clear f16
 show Code.wp _ _ _ a16 w16
 refine wp_cond_split (t := !((escF (seeF cs i)).2)) e42 (fun hc4 => ?_) (fun hc4 => ?_)
 · try simp only [Bool.not_eq_true', Bool.not_eq_false'] at hc4
   refine wp_seq ?_
   refine region_St (bf := [0, 1, 3]) (sp := [det _ 43 _, box _ _ 1 2 [(.int .i64 (0)), (.string ((⟨#[]⟩ : ByteArray))), (.bool (false)), (.slice none 0 0), (.int .i64 (0)), (.int .i64 (0)), (.bool (false)), (.slice none 0 0)], det _ 3 _]) [ib r0, ib r1, Ini.any _, Ini.any _, Ini.any _, Ini.any _, Ini.any _, Ini.any _, Ini.any _, iz r9] mixed st16 (by kernel_rfl) ⟨r0, r1, trivial, trivial, trivial, trivial, trivial, trivial, trivial, r9, trivial⟩
    ⟨Ob.d fun c => r_build (cells := #[(.int .i64 (0)), (.string ((⟨#[]⟩ : ByteArray))), (.bool (false)), (.slice none 0 0), (.int .i64 (0)), (.int .i64 (0)), (.bool (false)), (.slice none 0 0)]) rfl Try.underlying25 Try.zeroValue25 (pl := #[(0, 1), (1, 1), (2, 1), (3, 1), (4, 1), (5, 1), (6, 1), (7, 1)]) (fun w_ => by simp [Try.sizeOf22, Try.sizeOf23, Try.sizeOf3, Try.sizeOf4, Try.sizeOf9]) (by simp only [List.map_toArray, List.map_nil]; rfl),
    Ob.storeBox (off := 0) (v := (.agg #[(.int .i64 (0)), (.string ((⟨#[]⟩ : ByteArray))), (.bool (false)), (.slice none 0 0), (.int .i64 (0)), (.int .i64 (0)), (.bool (false)), (.slice none 0 0)])) rfl rfl rfl rfl Try.sizeOf25 (Nat.le_of_ble_eq_true rfl) (by simp [Value.cells, Value.oneCell', Sv.v]) rfl (fun _ _ _ _ c => ⟨c.bp 1 rfl e2, c.ad ((c.p e2).trans r1.ptr) e2 rfl, (c.n 0 rfl)⟩),
    Ob.d fun c => r_assign rfl rfl, trivial⟩ ?_
   intro a17 w17 τ17 st17 f17
   obtain ⟨e0, e2, e8, -⟩ := f17.ks [(0, _), (2, _), (8, _)] ⟨e0, e2, e8, trivial⟩
   have e3 : get a17 3 = (.int .i64 (10)) := f17.v 2 rfl
   replace r0 := f17.ib 0 rfl
   replace r1 : boxR 25 [(.int .i64 (0)), (.string ((⟨#[]⟩ : ByteArray))), (.bool (false)), (.slice none 0 0), (.int .i64 (0)), (.int .i64 (0)), (.bool (false)), (.slice none 0 0)] (τ17 1) b1x2 w17 := f17.rb 1 e2 rfl
   replace r9 := f17.iz 9 rfl
   clear f17
   show Code.wp _ _ _ a17 w17
   refine wp_ret ?_
   repeat (first | with_reducible refine then_ret ?_ | with_reducible refine block_ret ?_)
   refine ret2c (fn := Try.f64) rfl st17.defers e2 e3 r1 Try.isAgg25 Try.sizeOf25 rfl ?_
   have he_ : backF cs i = ((leafT 0 (⟨#[]⟩ : ByteArray) false 0 0 false), 10, i) := by unfold backF; (repeat (first | rw [if_neg (by first | assumption | (simp only [Bool.not_eq_true]; assumption) | (simp only [Bool.not_eq_false]; assumption) | (exact fun h_ => h_ (by assumption)) | omega)] | rw [if_pos (by first | assumption | omega)])); (try rfl)
   rw [he_]
   exact ⟨(leafT 0 (⟨#[]⟩ : ByteArray) false 0 0 false), rfl, st17.extIn, r0.foot, (leafTr _ _ _ _ _ _ _ _), rfl⟩
 try simp only [Bool.not_eq_true', Bool.not_eq_false'] at hc4
 refine wp_skip ?_
 show Code.wp _ _ _ a16 w16
 refine wp_seq ?_
 have hlt_ : i < cs.length := by
   cases hz_ : eqT (seeF cs i) (⟨#[]⟩ : ByteArray) with
   | false => exact see_ne hz_
   | true =>
     have hx_ : (escF (seeF cs i)).2 = true := by assumption
     unfold escF at hx_
     rw [if_pos hz_] at hx_; cases hx_
 refine region_St (bf := [0, 1, 3, 7, 15, 31, 63, 127]) (sp := [det _ 44 _, det _ 45 _, det _ 46 _, det _ 47 _, det _ 48 _, det _ 49 _, det _ 50 _, box _ _ 0 0 [cv.v, (.int .i64 (((i : Nat) : Int) + 1))]]) [ib r0, ib r1, Ini.any _, Ini.any _, Ini.any _, Ini.any _, Ini.any _, Ini.any _, Ini.any _, iz r9] mixed st16 (by kernel_rfl) ⟨r0, r1, trivial, trivial, trivial, trivial, trivial, trivial, trivial, r9, trivial⟩
  ⟨Ob.d fun c => r_move rfl (c.p e0),
  Ob.d fun c => r_nilCheck rfl (c.n 0 rfl) r0.ptr,
  Ob.d fun c => r_fieldAddr rfl Try.underlying58 rfl rfl Try.sizeOf3 ((c.n 1 rfl).trans r0.ptr),
  Ob.d fun c => r_load1 rfl Try.isAgg3 (c.n 2 rfl) ((c.ib 0 rfl).cell (j := 1) rfl),
  Ob.d fun c => r_add rfl (c.n 3 rfl) rfl (by first | omega | (have h_ := fold1 (by assumption : ((seeF cs i).size : Int) = 1); omega) | (have h_ := see_size_le hL i; omega)),
  Ob.d fun c => r_nilCheck rfl (c.n 0 rfl) r0.ptr,
  Ob.d fun c => r_fieldAddr rfl Try.underlying58 rfl rfl Try.sizeOf3 ((c.n 5 rfl).trans r0.ptr),
  Ob.storeBox (off := 1) (v := (.int .i64 (((i : Nat) : Int) + 1))) rfl rfl rfl rfl Try.sizeOf3 (Nat.le_of_ble_eq_true rfl) (by simp [Value.cells, Value.oneCell', Sv.v]) rfl (fun _ _ _ _ c => ⟨c.bp 0 rfl e0, c.ad (c.n 6 rfl) e0 rfl, (c.n 4 rfl)⟩), trivial⟩ ?_
 intro a18 w18 τ18 st18 f18
 obtain ⟨e0, e2, e3, e8, -⟩ := f18.ks [(0, _), (2, _), (3, _), (8, _)] ⟨e0, e2, e3, e8, trivial⟩
 replace r0 : boxR 58 [cv.v, (.int .i64 (((i : Nat) : Int) + 1))] (τ18 0) v w18 := f18.rb 7 e0 rfl
 replace r1 := f18.ib 1 rfl
 replace r9 := f18.iz 9 rfl
 clear f18
 replace r0 : boxR 58 [cv.v, .int .i64 ((i + 1 : Nat) : Int)] (τ18 0) v w18 := by rw [show ((i + 1 : Nat) : Int) = ((i : Nat) : Int) + 1 from by omega]; exact r0
 show Code.wp _ _ _ a18 w18
 refine wp_seq ?_
 refine region_St (bf := [0, 1, 3, 7]) (sp := [det _ 51 _, det _ 52 _, box _ _ 1 2 [(.int .i64 (2)), (.string ((escF (seeF cs i)).1)), (.bool (false)), (.slice none 0 0), (.int .i64 (0)), (.int .i64 (0)), (.bool (false)), (.slice none 0 0)], det _ 3 _]) [ib r0, ib r1, Ini.any _, Ini.any _, Ini.any _, Ini.any _, Ini.any _, Ini.any _, Ini.any _, iz r9] mixed st18 (by kernel_rfl) ⟨r0, r1, trivial, trivial, trivial, trivial, trivial, trivial, trivial, r9, trivial⟩
  ⟨Ob.d fun c => r_move rfl (c.p e8),
  Ob.d fun c => r_build (cells := #[(.int .i64 (2)), (.string ((escF (seeF cs i)).1)), (.bool (false)), (.slice none 0 0), (.int .i64 (0)), (.int .i64 (0)), (.bool (false)), (.slice none 0 0)]) rfl Try.underlying25 Try.zeroValue25 (pl := #[(0, 1), (1, 1), (2, 1), (3, 1), (4, 1), (5, 1), (6, 1), (7, 1)]) (fun w_ => by simp [Try.sizeOf22, Try.sizeOf23, Try.sizeOf3, Try.sizeOf4, Try.sizeOf9]) (fill2 rfl (c.n 0 rfl) rfl),
  Ob.storeBox (off := 0) (v := (.agg #[(.int .i64 (2)), (.string ((escF (seeF cs i)).1)), (.bool (false)), (.slice none 0 0), (.int .i64 (0)), (.int .i64 (0)), (.bool (false)), (.slice none 0 0)])) rfl rfl rfl rfl Try.sizeOf25 (Nat.le_of_ble_eq_true rfl) (by simp [Value.cells, Value.oneCell', Sv.v]) rfl (fun _ _ _ _ c => ⟨c.bp 1 rfl e2, c.ad ((c.p e2).trans r1.ptr) e2 rfl, (c.n 1 rfl)⟩),
  Ob.d fun c => r_assign rfl rfl, trivial⟩ ?_
 intro a19 w19 τ19 st19 f19
 obtain ⟨e0, e2, -⟩ := f19.ks [(0, _), (2, _)] ⟨e0, e2, trivial⟩
 have e3 : get a19 3 = (.int .i64 (0)) := f19.v 3 rfl
 replace r0 := f19.ib 0 rfl
 replace r1 : boxR 25 [(.int .i64 (2)), (.string ((escF (seeF cs i)).1)), (.bool (false)), (.slice none 0 0), (.int .i64 (0)), (.int .i64 (0)), (.bool (false)), (.slice none 0 0)] (τ19 1) b1x2 w19 := f19.rb 2 e2 rfl
 replace r9 := f19.iz 9 rfl
 clear f19
 show Code.wp _ _ _ a19 w19
 refine wp_ret ?_
 repeat (first | with_reducible refine then_ret ?_ | with_reducible refine block_ret ?_)
 refine ret2c (fn := Try.f64) rfl st19.defers e2 e3 r1 Try.isAgg25 Try.sizeOf25 rfl ?_
 have he_ : backF cs i = ((leafT 2 ((escF (seeF cs i)).1) false 0 0 false), 0, i + 1) := by unfold backF; (repeat (first | rw [if_neg (by first | assumption | (simp only [Bool.not_eq_true]; assumption) | (simp only [Bool.not_eq_false]; assumption) | (exact fun h_ => h_ (by assumption)) | omega)] | rw [if_pos (by first | assumption | omega)])); (try rfl)
 rw [he_]
 exact ⟨(leafT 2 ((escF (seeF cs i)).1) false 0 0 false), rfl, st19.extIn, r0.foot, (leafTr _ _ _ _ _ _ _ _), rfl⟩
end B
end Go.Proofs.Ytocmchlhbniloaa
namespace Go.Proofs.Ytocmchlhbniloaa
namespace B
open Go.RowKit
open Srt
theorem clsL_go {cs : List ByteArray} {ng : Bool} {f i : Nat} {rows : List Rw} (h1 : tkF cs i ⟨#[93]⟩ = false) (h2 : (itemF cs i).2.2.1 = true) (h3 : (0 : Int) < ((itemF cs i).1.length : Int)) : clsL cs ng (f + 1) i rows = clsL cs ng f (itemF cs i).2.2.2 (rows ++ (itemF cs i).1) := by
  rw [clsL, if_neg (by rw [h1]; decide), if_neg (by rw [h2]; decide), if_pos h3]
def dashB (cs : List ByteArray) (i : Nat) : Bool := (eqT (seeF cs (itemF cs i).2.2.2) ⟨#[45]⟩ && decide (((itemF cs i).2.2.2 : Int) + 1 < (cs.length : Int))) && !(eqT (nth cs (((itemF cs i).2.2.2 : Int) + 1)) ⟨#[93]⟩)
def badR (cs : List ByteArray) (i : Nat) : Bool := ((!(itemF cs ((itemF cs i).2.2.2 + 1)).2.2.1) || decide ((0 : Int) < ((itemF cs ((itemF cs i).2.2.2 + 1)).1.length : Int))) || ltT (itemF cs ((itemF cs i).2.2.2 + 1)).2.1 (itemF cs i).2.1
theorem clsL_row {cs : List ByteArray} {ng : Bool} {f i : Nat} {rows : List Rw} (h1 : tkF cs i ⟨#[93]⟩ = false) (h2 : (itemF cs i).2.2.1 = true) (h3 : ¬ (0 : Int) < ((itemF cs i).1.length : Int)) (h4 : dashB cs i = true) (h5 : badR cs i = false) : clsL cs ng (f + 1) i rows = clsL cs ng f (itemF cs ((itemF cs i).2.2.2 + 1)).2.2.2 (rows ++ [((itemF cs i).2.1, (itemF cs ((itemF cs i).2.2.2 + 1)).2.1)]) := by
  unfold dashB at h4; unfold badR at h5
  rw [clsL, if_neg (by rw [h1]; decide), if_neg (by rw [h2]; decide), if_neg h3, if_pos h4, if_neg (by rw [h5]; decide)]
theorem clsL_one {cs : List ByteArray} {ng : Bool} {f i : Nat} {rows : List Rw} (h1 : tkF cs i ⟨#[93]⟩ = false) (h2 : (itemF cs i).2.2.1 = true) (h3 : ¬ (0 : Int) < ((itemF cs i).1.length : Int)) (h4 : dashB cs i = false) : clsL cs ng (f + 1) i rows = clsL cs ng f (itemF cs i).2.2.2 (rows ++ [((itemF cs i).2.1, (itemF cs i).2.1)]) := by
  unfold dashB at h4
  rw [clsL, if_neg (by rw [h1]; decide), if_neg (by rw [h2]; decide), if_neg h3, if_neg (by rw [h4]; decide)]
theorem clsL_e1 {cs : List ByteArray} {ng : Bool} {f i : Nat} {rows : List Rw} (h1 : tkF cs i ⟨#[93]⟩ = false) (h2 : (itemF cs i).2.2.1 = false) : clsL cs ng (f + 1) i rows = (leaf0, 10, (itemF cs i).2.2.2) := by
  rw [clsL, if_neg (by rw [h1]; decide), if_pos h2]
theorem clsL_e2 {cs : List ByteArray} {ng : Bool} {f i : Nat} {rows : List Rw} (h1 : tkF cs i ⟨#[93]⟩ = false) (h2 : (itemF cs i).2.2.1 = true) (h3 : ¬ (0 : Int) < ((itemF cs i).1.length : Int)) (h4 : dashB cs i = true) (h5 : badR cs i = true) : clsL cs ng (f + 1) i rows = (leaf0, 10, (itemF cs ((itemF cs i).2.2.2 + 1)).2.2.2) := by
  unfold dashB at h4; unfold badR at h5
  rw [clsL, if_neg (by rw [h1]; decide), if_neg (by rw [h2]; decide), if_neg h3, if_pos h4, if_pos h5]
theorem clsL_end {cs : List ByteArray} {ng : Bool} {f i : Nat} {rows : List Rw} (h1 : tkF cs i ⟨#[93]⟩ = true) : clsL cs ng (f + 1) i rows = (setT ng Sv.nil (unionT rows), 0, i + 1) := by
  rw [clsL, if_pos h1]
set_option maxRecDepth 100000 in
set_option maxHeartbeats 4000000 in
theorem class_c (v : Value) (cv : Sv) (cs : List ByteArray) (i : Nat) (w : World) (hR : RdR 58 v cv cs i w) (hL : CsOk cs) (hi : i ≤ cs.length + 3) : Calls Try.prog 63 #[v] w (fun e w' => ∃ t' : Tr, e = .returned (.tuple #[t'.v, .int .i64 (clsF cs i).2.1]) ∧ Ext (ptrFoot v) w w' ∧ boxR 58 [cv.v, .int .i64 (((clsF cs i).2.2 : Nat) : Int)] (ptrFoot v) v w' ∧ TrT (Gn none' w) w' t' ∧ er t' = (clsF cs i).1) := by
 refine enterIn (ptrFoot v) (fun g hg => hR.box.lt g hg) (n := 101) Try.func63 rfl rfl (Nat.le_of_ble_eq_true rfl) ?_
 intro a0 τ0 ha hτ st0
 have e0 : get a0 0 = v := ha 0 _ rfl
 clear ha
 have hL1 := hL.1
 have r0 : boxR 58 [cv.v, .int .i64 ((i : Nat) : Int)] (τ0 0) v w := by rw [hτ]; exact hR.box
 have r9 : Fz (zSl StrE Al cv.v cs) τ0 w := hR.inz st0
 refine wp_seq ?_
 refine region_St (bf := [0, 0]) (sp := [box _ _ 1 2 [(.int .i64 (0)), (.string ((⟨#[]⟩ : ByteArray))), (.bool (false)), (.slice none 0 0), (.int .i64 (0)), (.int .i64 (0)), (.bool (false)), (.slice none 0 0)], det _ 3 _]) [ib r0, Ini.any _, Ini.any _, Ini.any _, Ini.any _, Ini.any _, Ini.any _, Ini.any _, Ini.any _, iz r9] mixed st0 (by kernel_rfl) ⟨r0, trivial, trivial, trivial, trivial, trivial, trivial, trivial, trivial, r9, trivial⟩
  ⟨Ob.alloc rfl rfl rfl rfl Try.zeroValue25 rfl,
  Ob.d fun c => r_assign rfl rfl, trivial⟩ ?_
 intro a1 w1 τ1 st1 f1
 obtain ⟨b1x2, e2⟩ : ∃ b, get a1 2 = b := ⟨_, rfl⟩
 obtain ⟨e0, -⟩ := f1.ks [(0, _)] ⟨e0, trivial⟩
 have e3 : get a1 3 = (.int .i64 (0)) := f1.v 1 rfl
 replace r0 := f1.ib 0 rfl
 have r1 : boxR 25 [(.int .i64 (0)), (.string ((⟨#[]⟩ : ByteArray))), (.bool (false)), (.slice none 0 0), (.int .i64 (0)), (.int .i64 (0)), (.bool (false)), (.slice none 0 0)] (τ1 1) b1x2 w1 := f1.rb 0 e2 rfl
 replace r9 := f1.iz 9 rfl
 clear f1
 show Code.wp _ _ _ a1 w1
 refine wp_seq ?_
 refine region_St (bf := [0, 1, 3, 0, 15]) (sp := [det _ 10 _, dbox 58 _ 0 11 v [cv.v, (.int .i64 (((tkN cs i (⟨#[94]⟩ : ByteArray) : Nat) : Int)))] (.bool (tkF cs i (⟨#[94]⟩ : ByteArray))), det _ 12 _, box _ _ 2 4 [(.int .i64 (0)), (.string ((⟨#[]⟩ : ByteArray))), (.bool (false)), (.slice none 0 0), (.int .i64 (0)), (.int .i64 (0)), (.bool (false)), (.slice none 0 0)], box _ _ 2 4 [(.int .i64 (4)), (.string ((⟨#[]⟩ : ByteArray))), (.bool (tkF cs i (⟨#[94]⟩ : ByteArray))), (.slice none 0 0), (.int .i64 (0)), (.int .i64 (0)), (.bool (false)), (.slice none 0 0)]]) [ib r0, ib r1, Ini.any _, Ini.any _, Ini.any _, Ini.any _, Ini.any _, Ini.any _, Ini.any _, iz r9] mixed st1 (by kernel_rfl) ⟨r0, r1, trivial, trivial, trivial, trivial, trivial, trivial, trivial, r9, trivial⟩
  ⟨Ob.d fun c => r_move rfl (c.p e0),
  Ob.db fun {_ a_ _ _} c => ⟨_, _, (e_call2 rfl rfl Try.call49 (c.n 0 rfl) rfl), db_of (c.ib 0 rfl) (take_c v cv cs i (⟨#[94]⟩ : ByteArray) _ (rdr (c.ib 0 rfl) (c.iz 9 rfl) (fun g_ h_ hz_ => hz_.2 _ h_)) hL (by omega))⟩,
  Ob.d fun c => r_build (cells := #[(.int .i64 (4)), (.string ((⟨#[]⟩ : ByteArray))), (.bool (tkF cs i (⟨#[94]⟩ : ByteArray))), (.slice none 0 0), (.int .i64 (0)), (.int .i64 (0)), (.bool (false)), (.slice none 0 0)]) rfl Try.underlying25 Try.zeroValue25 (pl := #[(0, 1), (1, 1), (2, 1), (3, 1), (4, 1), (5, 1), (6, 1), (7, 1)]) (fun w_ => by simp [Try.sizeOf22, Try.sizeOf23, Try.sizeOf3, Try.sizeOf4, Try.sizeOf9]) (fill2 rfl (c.dv 1 rfl) rfl),
  Ob.alloc rfl rfl rfl rfl Try.zeroValue25 rfl,
  Ob.storeBox (off := 0) (v := (.agg #[(.int .i64 (4)), (.string ((⟨#[]⟩ : ByteArray))), (.bool (tkF cs i (⟨#[94]⟩ : ByteArray))), (.slice none 0 0), (.int .i64 (0)), (.int .i64 (0)), (.bool (false)), (.slice none 0 0)])) rfl rfl rfl rfl Try.sizeOf25 (Nat.le_of_ble_eq_true rfl) (by simp [Value.cells, Value.oneCell', Sv.v]) rfl (fun _ _ _ _ c => ⟨c.rb 3 rfl, (c.rb 3 rfl).ptr, (c.n 2 rfl)⟩), trivial⟩ ?_
 intro a2 w2 τ2 st2 f2
 obtain ⟨b2x4, e4⟩ : ∃ b, get a2 4 = b := ⟨_, rfl⟩
 obtain ⟨e0, e2, e3, -⟩ := f2.ks [(0, _), (2, _), (3, _)] ⟨e0, e2, e3, trivial⟩
 replace r0 : boxR 58 [cv.v, (.int .i64 (((tkN cs i (⟨#[94]⟩ : ByteArray) : Nat) : Int)))] (τ2 0) v w2 := f2.db 1 rfl
 replace r1 := f2.ib 1 rfl
 have r2 : boxR 25 [(.int .i64 (4)), (.string ((⟨#[]⟩ : ByteArray))), (.bool (tkF cs i (⟨#[94]⟩ : ByteArray))), (.slice none 0 0), (.int .i64 (0)), (.int .i64 (0)), (.bool (false)), (.slice none 0 0)] (τ2 2) b2x4 w2 := f2.rb 4 e4 rfl
 replace r9 := f2.iz 9 rfl
 clear f2
 show Code.wp _ _ _ a2 w2
 refine wp_seq ?_
 refine region_St (bf := [0]) (sp := [det _ 5 _]) [ib r0, ib r1, ib r2, Ini.any _, Ini.any _, Ini.any _, Ini.any _, Ini.any _, Ini.any _, iz r9] mixed st2 (by kernel_rfl) ⟨r0, r1, r2, trivial, trivial, trivial, trivial, trivial, trivial, r9, trivial⟩
  ⟨Ob.d fun c => r_assign rfl rfl, trivial⟩ ?_
 intro a3 w3 τ3 st3 f3
 obtain ⟨e0, e2, e3, e4, -⟩ := f3.ks [(0, _), (2, _), (3, _), (4, _)] ⟨e0, e2, e3, e4, trivial⟩
 have e5 : get a3 5 = (.slice none 0 0) := f3.v 0 rfl
 replace r0 := f3.ib 0 rfl
 replace r1 := f3.ib 1 rfl
 replace r2 := f3.ib 2 rfl
 replace r9 := f3.iz 9 rfl
 clear f3
 show Code.wp _ _ _ a3 w3
 refine wp_seq ?_
 refine wp_block ?_
 refine wp_loop (fun a_ w_ => ∃ (j f : Nat) (u : Value) (rows : List (ByteArray × ByteArray)) (τ : Nat → Foot), (Tiny rows) ∧
      (rows.length ≤ 4 * (j + 1)) ∧
      (j ≤ cs.length + 4) ∧
      (cs.length < f + j + 1) ∧
      (clsL cs (tkF cs i (⟨#[94]⟩ : ByteArray)) (cs.length + 1) (tkN cs i (⟨#[94]⟩ : ByteArray)) [] = clsL cs (tkF cs i (⟨#[94]⟩ : ByteArray)) (f + 1) j rows) ∧
      St (fun k => ptrFoot v k ∨ w.heap.size ≤ k) w 101 a_ w_ τ ∧
      get a_ 5 = u ∧
      get a_ 0 = v ∧
      get a_ 2 = b1x2 ∧
      get a_ 4 = b2x4 ∧
      boxR 58 [cv.v, (.int .i64 (((j : Nat) : Int)))] (τ 0) v w_ ∧
      ownR RowE 43 (rows) (τ 6) u w_ ∧
      boxR 25 [(.int .i64 (0)), (.string ((⟨#[]⟩ : ByteArray))), (.bool (false)), (.slice none 0 0), (.int .i64 (0)), (.int .i64 (0)), (.bool (false)), (.slice none 0 0)] (τ 1) b1x2 w_ ∧
      boxR 25 [(.int .i64 (4)), (.string ((⟨#[]⟩ : ByteArray))), (.bool (tkF cs i (⟨#[94]⟩ : ByteArray))), (.slice none 0 0), (.int .i64 (0)), (.int .i64 (0)), (.bool (false)), (.slice none 0 0)] (τ 2) b2x4 w_ ∧
      Fz (zSl StrE Al cv.v cs) τ w_) (fun a_ w_ => cs.length + 10 - rdAt v w_) ?_ ?_
 · refine ⟨tkN cs i (⟨#[94]⟩ : ByteArray), cs.length, (.slice none 0 0), [], τ3, ?_, ?_, ?_, ?_, ?_, st3, e5, e0, e2, e4, r0, ?_, r1, r2, r9⟩
   · exact Tiny.nil
   · simp
   · have h_ := tkN_le cs i (⟨#[94]⟩ : ByteArray); omega
   · omega
   · rfl
   · exact ownR.nil _ _ _ _
 intro a4 w4 hI
 obtain ⟨j, f, u, rows, τ4, q0, q1, q2, q3, q4, st4, e5, e0, e2, e4, r0, r6, r1, r2, r9⟩ := hI
 have his := item_small hL j
 have hm0 := rdAt_eq r0
 have hsm_ := q0.small
 refine wp_seq ?_
 refine wp_seq ?_
 refine region_St (bf := [0, 1, 3]) (sp := [det _ 13 _, dbox 58 _ 0 14 v [cv.v, (.int .i64 (((tkN cs j (⟨#[93]⟩ : ByteArray) : Nat) : Int)))] (.bool (tkF cs j (⟨#[93]⟩ : ByteArray))), det _ 15 _]) [ib r0, ib r1, ib r2, Ini.any _, Ini.any _, Ini.any _, io r6, Ini.any _, Ini.any _, iz r9] mixed st4 (by kernel_rfl) ⟨r0, r1, r2, trivial, trivial, trivial, r6, trivial, trivial, r9, trivial⟩
  ⟨Ob.d fun c => r_move rfl (c.p e0),
  Ob.db fun {_ a_ _ _} c => ⟨_, _, (e_call2 rfl rfl Try.call49 (c.n 0 rfl) rfl), db_of (c.ib 0 rfl) (take_c v cv cs j (⟨#[93]⟩ : ByteArray) _ (rdr (c.ib 0 rfl) (c.iz 9 rfl) (fun g_ h_ hz_ => hz_.2 _ h_)) hL (by omega))⟩,
  Ob.d fun c => r_not rfl (c.dv 1 rfl), trivial⟩ ?_
 intro a5 w5 τ5 st5 f5
 obtain ⟨e0, e2, e4, e5, -⟩ := f5.ks [(0, _), (2, _), (4, _), (5, _)] ⟨e0, e2, e4, e5, trivial⟩
 have e15 : get a5 15 = (.bool (!(tkF cs j (⟨#[93]⟩ : ByteArray)))) := f5.v 2 rfl
 replace r0 : boxR 58 [cv.v, (.int .i64 (((tkN cs j (⟨#[93]⟩ : ByteArray) : Nat) : Int)))] (τ5 0) v w5 := f5.db 1 rfl
 replace r1 := f5.ib 1 rfl
 replace r2 := f5.ib 2 rfl
 replace r6 := f5.io 6 rfl
 replace r9 := f5.iz 9 rfl
 clear f5
 show Code.wp _ _ _ a5 w5
 refine wp_cond_split (t := !(tkF cs j (⟨#[93]⟩ : ByteArray))) e15 (fun hc1 => ?_) (fun hc1 => ?_)
 · try simp only [Bool.not_eq_true', Bool.not_eq_false'] at hc1
   have htk1 : tkF cs j (⟨#[93]⟩ : ByteArray) = false := by simpa using hc1
   rw [tkN_f htk1] at r0
   refine wp_skip ?_
   show Code.wp _ _ _ a5 w5
   refine wp_block ?_
   refine wp_seq ?_
   refine region_of_ops ?_
   refine ops_cut 2 (by kernel_rfl) ?_
   refine ops_St (bf := [0, 1]) (sp := [det _ 17 _, zbox 58 _ 0 18 (v) (fun b : Sv => [cv.v, .int .i64 (((itemF cs j).2.2.2 : Nat) : Int)]) (fun b : Sv => .tuple #[b.v, .string (itemF cs j).2.1, .bool (itemF cs j).2.2.1]) (fun _ => True) (fun b : Sv => zSl RowE (Gn none' w) b.v (itemF cs j).1)]) [ib r0, ib r1, ib r2, Ini.any _, Ini.any _, Ini.any _, io r6, Ini.any _, Ini.any _, iz r9] st5 (by kernel_rfl) ⟨r0, r1, r2, trivial, trivial, trivial, r6, trivial, trivial, r9, trivial⟩
    ⟨Ob.d fun c => r_move rfl (c.p e0),
    Ob.zb (cells := fun b : Sv => [cv.v, .int .i64 (((itemF cs j).2.2.2 : Nat) : Int)]) (f := fun b : Sv => .tuple #[b.v, .string (itemF cs j).2.1, .bool (itemF cs j).2.2.1]) (Ψ := fun _ => True) (Φ := fun b : Sv => zSl RowE (Gn none' w) b.v (itemF cs j).1) fun {_ a_ _ _} c => ⟨_, _, (e_call1 rfl rfl Try.call68 (c.n 0 rfl)), (item_c v cv cs j _ (rdr (c.ib 0 rfl) (c.iz 9 rfl) (fun g_ h_ hz_ => hz_.2 _ h_)) hL (by omega)).mono (fun e w' ⟨b_, he_, hx_, hb_, hs_⟩ => ⟨b_, he_, (c.ib 0 rfl).ext hx_, hb_.back (c.ib 0 rfl), trivial, c.sns st5 hx_.size hs_⟩)⟩, trivial⟩ ?_
   intro a6 w6 τ6 st6 f6
   obtain ⟨e0, e2, e4, e5, e15, -⟩ := f6.ks [(0, _), (2, _), (4, _), (5, _), (15, _)] ⟨e0, e2, e4, e5, e15, trivial⟩
   obtain ⟨rw1_, e18, hro6, -, hz6⟩ := f6.zb 1 rfl
   have e18 : get a6 18 = (.tuple #[rw1_.v, (.string ((itemF cs j).2.1)), (.bool ((itemF cs j).2.2.1))]) := e18
   replace r0 : boxR 58 [cv.v, (.int .i64 ((((itemF cs j).2.2.2 : Nat) : Int)))] (τ6 0) v w6 := hro6
   replace r1 := f6.ib 1 rfl
   replace r2 := f6.ib 2 rfl
   replace r6 := f6.io 6 rfl
   replace r9 := f6.iz 9 rfl
   have r3 : Fz (zSl RowE (Gn none' w) rw1_.v (itemF cs j).1) τ6 w6 := hz6
   clear f6
   refine only_mk ?_
   refine ops_St (bf := [0, 1, 3, 7, 15, 31, 63]) (sp := [det _ 16 _, det _ 19 _, det _ 20 _, det _ 21 _, det _ 6 _, det _ 7 _, det _ 8 _]) [ib r0, ib r1, ib r2, iz r3, Ini.any _, Ini.any _, io r6, Ini.any _, Ini.any _, iz r9] st6 (by kernel_rfl) ⟨r0, r1, r2, r3, trivial, trivial, r6, trivial, trivial, r9, trivial⟩
    ⟨Ob.d fun c => r_move rfl (c.p e18),
    Ob.d fun c => r_extract rfl (c.n 0 rfl) rfl,
    Ob.d fun c => r_extract rfl (c.n 0 rfl) rfl,
    Ob.d fun c => r_extract rfl (c.n 0 rfl) rfl,
    Ob.d fun c => r_assign rfl (c.n 1 rfl),
    Ob.d fun c => r_assign rfl (c.n 2 rfl),
    Ob.d fun c => r_assign rfl (c.n 3 rfl), trivial⟩ ?_
   intro a7 w7 τ7 st7 f7
   obtain ⟨e0, e2, e4, e5, e15, -⟩ := f7.ks [(0, _), (2, _), (4, _), (5, _), (15, _)] ⟨e0, e2, e4, e5, e15, trivial⟩
   have e6 : get a7 6 = rw1_.v := f7.v 4 rfl
   have e7 : get a7 7 = (.string ((itemF cs j).2.1)) := f7.v 5 rfl
   have e8 : get a7 8 = (.bool ((itemF cs j).2.2.1)) := f7.v 6 rfl
   replace r0 := f7.ib 0 rfl
   replace r1 := f7.ib 1 rfl
   replace r2 := f7.ib 2 rfl
   replace r3 := f7.iz 3 rfl
   replace r6 := f7.io 6 rfl
   replace r9 := f7.iz 9 rfl
   clear f7
   show Code.wp _ _ _ a7 w7
   refine wp_seq ?_
   refine wp_seq ?_
   refine region_St (bf := [0, 1]) (sp := [det _ 22 _, det _ 23 _]) [ib r0, ib r1, ib r2, iz r3, Ini.any _, Ini.any _, io r6, Ini.any _, Ini.any _, iz r9] mixed st7 (by kernel_rfl) ⟨r0, r1, r2, r3, trivial, trivial, r6, trivial, trivial, r9, trivial⟩
    ⟨Ob.d fun c => r_move rfl (c.p e8),
    Ob.d fun c => r_not rfl (c.n 0 rfl), trivial⟩ ?_
   intro a8 w8 τ8 st8 f8
   obtain ⟨e0, e2, e4, e5, e6, e7, e8, e15, -⟩ := f8.ks [(0, _), (2, _), (4, _), (5, _), (6, _), (7, _), (8, _), (15, _)] ⟨e0, e2, e4, e5, e6, e7, e8, e15, trivial⟩
   have e23 : get a8 23 = (.bool (!((itemF cs j).2.2.1))) := f8.v 1 rfl
   replace r0 := f8.ib 0 rfl
   replace r1 := f8.ib 1 rfl
   replace r2 := f8.ib 2 rfl
   replace r3 := f8.iz 3 rfl
   replace r6 := f8.io 6 rfl
   replace r9 := f8.iz 9 rfl
   clear f8
   show Code.wp _ _ _ a8 w8
   refine wp_cond_split (t := !((itemF cs j).2.2.1)) e23 (fun hc2 => ?_) (fun hc2 => ?_)
   · try simp only [Bool.not_eq_true', Bool.not_eq_false'] at hc2
     refine wp_seq ?_
     refine region_St (bf := [0, 1, 3]) (sp := [det _ 24 _, box _ _ 1 2 [(.int .i64 (0)), (.string ((⟨#[]⟩ : ByteArray))), (.bool (false)), (.slice none 0 0), (.int .i64 (0)), (.int .i64 (0)), (.bool (false)), (.slice none 0 0)], det _ 3 _]) [ib r0, ib r1, ib r2, iz r3, Ini.any _, Ini.any _, io r6, Ini.any _, Ini.any _, iz r9] mixed st8 (by kernel_rfl) ⟨r0, r1, r2, r3, trivial, trivial, r6, trivial, trivial, r9, trivial⟩
      ⟨Ob.d fun c => r_build (cells := #[(.int .i64 (0)), (.string ((⟨#[]⟩ : ByteArray))), (.bool (false)), (.slice none 0 0), (.int .i64 (0)), (.int .i64 (0)), (.bool (false)), (.slice none 0 0)]) rfl Try.underlying25 Try.zeroValue25 (pl := #[(0, 1), (1, 1), (2, 1), (3, 1), (4, 1), (5, 1), (6, 1), (7, 1)]) (fun w_ => by simp [Try.sizeOf22, Try.sizeOf23, Try.sizeOf3, Try.sizeOf4, Try.sizeOf9]) (by simp only [List.map_toArray, List.map_nil]; rfl),
      Ob.storeBox (off := 0) (v := (.agg #[(.int .i64 (0)), (.string ((⟨#[]⟩ : ByteArray))), (.bool (false)), (.slice none 0 0), (.int .i64 (0)), (.int .i64 (0)), (.bool (false)), (.slice none 0 0)])) rfl rfl rfl rfl Try.sizeOf25 (Nat.le_of_ble_eq_true rfl) (by simp [Value.cells, Value.oneCell', Sv.v]) rfl (fun _ _ _ _ c => ⟨c.bp 1 rfl e2, c.ad ((c.p e2).trans r1.ptr) e2 rfl, (c.n 0 rfl)⟩),
      Ob.d fun c => r_assign rfl rfl, trivial⟩ ?_
     intro a9 w9 τ9 st9 f9
     obtain ⟨e0, e2, e4, e5, e6, e7, e8, e15, e23, -⟩ := f9.ks [(0, _), (2, _), (4, _), (5, _), (6, _), (7, _), (8, _), (15, _), (23, _)] ⟨e0, e2, e4, e5, e6, e7, e8, e15, e23, trivial⟩
     have e3 : get a9 3 = (.int .i64 (10)) := f9.v 2 rfl
     replace r0 := f9.ib 0 rfl
     replace r1 : boxR 25 [(.int .i64 (0)), (.string ((⟨#[]⟩ : ByteArray))), (.bool (false)), (.slice none 0 0), (.int .i64 (0)), (.int .i64 (0)), (.bool (false)), (.slice none 0 0)] (τ9 1) b1x2 w9 := f9.rb 1 e2 rfl
     replace r2 := f9.ib 2 rfl
     replace r3 := f9.iz 3 rfl
     replace r6 := f9.io 6 rfl
     replace r9 := f9.iz 9 rfl
     clear f9
     show Code.wp _ _ _ a9 w9
     refine wp_ret ?_
     repeat (first | with_reducible refine then_ret ?_ | with_reducible refine block_ret ?_)
     refine ret2c (fn := Try.f63) rfl st9.defers e2 e3 r1 Try.isAgg25 Try.sizeOf25 rfl ?_
     have he_ : clsF cs i = ((leafT 0 (⟨#[]⟩ : ByteArray) false 0 0 false), 10, (itemF cs j).2.2.2) := by unfold clsF; rw [q4]; first | exact clsL_e1 (by assumption) (by assumption) | exact clsL_e2 (by assumption) (by assumption) (by omega) (by assumption) (by assumption)
     rw [he_]
     exact ⟨(leafT 0 (⟨#[]⟩ : ByteArray) false 0 0 false), rfl, st9.extIn, r0.foot, (leafTr _ _ _ _ _ _ _ _), rfl⟩
   try simp only [Bool.not_eq_true', Bool.not_eq_false'] at hc2
   refine wp_skip ?_
   show Code.wp _ _ _ a8 w8
   refine wp_seq ?_
   refine wp_seq ?_
   have hio := his.2.2.2.2 (by assumption)
   refine region_St (bf := [0, 1, 3]) (sp := [det _ 25 _, det _ 26 _, det _ 27 _]) [ib r0, ib r1, ib r2, iz r3, Ini.any _, Ini.any _, io r6, Ini.any _, Ini.any _, iz r9] mixed st8 (by kernel_rfl) ⟨r0, r1, r2, r3, trivial, trivial, r6, trivial, trivial, r9, trivial⟩
    ⟨Ob.d fun c => r_move rfl (c.p e6),
    Ob.d fun c => r_len rfl Try.underlying22 (c.n 0 rfl) (r3).1.sl,
    Ob.d fun c => r_gtr rfl (c.n 1 rfl) rfl, trivial⟩ ?_
   intro a10 w10 τ10 st10 f10
   obtain ⟨e0, e2, e4, e5, e6, e7, e8, e15, e23, -⟩ := f10.ks [(0, _), (2, _), (4, _), (5, _), (6, _), (7, _), (8, _), (15, _), (23, _)] ⟨e0, e2, e4, e5, e6, e7, e8, e15, e23, trivial⟩
   have e27 : get a10 27 = (.bool (decide (0 < (((itemF cs j).1).length : Int)))) := f10.v 2 rfl
   replace r0 := f10.ib 0 rfl
   replace r1 := f10.ib 1 rfl
   replace r2 := f10.ib 2 rfl
   replace r3 := f10.iz 3 rfl
   replace r6 := f10.io 6 rfl
   replace r9 := f10.iz 9 rfl
   clear f10
   show Code.wp _ _ _ a10 w10
   refine wp_cond_split (t := decide (0 < (((itemF cs j).1).length : Int))) e27 (fun hc3 => ?_) (fun hc3 => ?_)
   · try simp only [decide_eq_true_eq] at hc3
     refine wp_seq ?_
     refine region_St (bf := [0, 0, 3, 7]) (sp := [det _ 28 _, det _ 29 _, own _ _ _ 6 30 _, own _ _ _ 6 5 _]) [ib r0, ib r1, ib r2, iz r3, Ini.any _, Ini.any _, io r6, Ini.any _, Ini.any _, iz r9] mixed st10 (by kernel_rfl) ⟨r0, r1, r2, r3, trivial, trivial, r6, trivial, trivial, r9, trivial⟩
      ⟨Ob.d fun c => r_move rfl (c.p e5),
      Ob.d fun c => r_move rfl (c.p e6),
      Ob.append (t0 := 5) rfl rfl rfl rfl Try.underlying22 (i := Try.t43) rfl rfl rfl rfl (by simp only [maxLen]; (try simp); omega) (by show _ * 32 ≤ _; (try simp); omega) (fun _ _ _ _ c => ⟨c.ip 6 rfl e5, c.sm (c.n 0 rfl) e5, ⟨_, (c.n 1 rfl), ((c.iz 3 rfl)).1⟩⟩),
      Ob.moveT (t0 := 30) rfl rfl rfl rfl rfl (.inr rfl) (fun _ _ _ _ c => ⟨c.ro 2 rfl, rfl⟩), trivial⟩ ?_
     intro a11 w11 τ11 st11 f11
     obtain ⟨b11x5, e5⟩ : ∃ b, get a11 5 = b := ⟨_, rfl⟩
     obtain ⟨e0, e2, e4, e6, e7, e8, e15, e23, e27, -⟩ := f11.ks [(0, _), (2, _), (4, _), (6, _), (7, _), (8, _), (15, _), (23, _), (27, _)] ⟨e0, e2, e4, e6, e7, e8, e15, e23, e27, trivial⟩
     replace r0 := f11.ib 0 rfl
     replace r1 := f11.ib 1 rfl
     replace r2 := f11.ib 2 rfl
     replace r3 := f11.iz 3 rfl
     replace r6 : ownR RowE 43 (rows ++ ((itemF cs j).1)) (τ11 6) b11x5 w11 := f11.ro 3 e5 rfl
     replace r9 := f11.iz 9 rfl
     clear f11
     show Code.wp _ _ _ a11 w11
     refine wp_exit ?_
     repeat (with_reducible refine then_exit ?_)
     refine exit_here ?_
     have hnx : clsL cs (tkF cs i (⟨#[94]⟩ : ByteArray)) (f + 1) j rows = clsL cs (tkF cs i (⟨#[94]⟩ : ByteArray)) f ((itemF cs j).2.2.2) (rows ++ ((itemF cs j).1)) := by first | exact clsL_go (by assumption) (by assumption) (by omega) | exact clsL_row (by assumption) (by assumption) (by omega) (by assumption) (by assumption) | exact clsL_one (by assumption) (by assumption) (by omega) (by assumption)
     refine ⟨⟨(itemF cs j).2.2.2, f - 1, b11x5, rows ++ ((itemF cs j).1), τ11, ?_, ?_, ?_, ?_, ?_, st11, e5, e0, e2, e4, r0, ?_, r1, r2, r9⟩, ?_⟩
     · first | exact q0.app his.1 | exact q0.app (Tiny.one his.2.1 his2.2.1) | exact q0.app (Tiny.one his.2.1 his.2.1)
     · (try simp only [List.length_append, List.length_cons, List.length_nil]); omega
     · omega
     · omega
     · obtain ⟨f, rfl⟩ : ∃ f_, f = f_ + 1 := ⟨f - 1, by omega⟩; rw [q4, hnx]; rfl
     · exact r6.cast (by rfl)
     · rw [hm0, rdAt_eq r0]; omega
   try simp only [decide_eq_false_iff_not, Int.not_lt] at hc3
   refine wp_skip ?_
   show Code.wp _ _ _ a10 w10
   refine wp_seq ?_
   refine region_St (bf := [0, 0, 3, 0, 15]) (sp := [det _ 31 _, det _ 32 _, det _ 33 _, box _ _ 4 9 [(.string ((⟨#[]⟩ : ByteArray))), (.string ((⟨#[]⟩ : ByteArray)))], box _ _ 4 9 [(.string ((itemF cs j).2.1)), (.string ((itemF cs j).2.1))]]) [ib r0, ib r1, ib r2, iz r3, Ini.any _, Ini.any _, io r6, Ini.any _, Ini.any _, iz r9] mixed st10 (by kernel_rfl) ⟨r0, r1, r2, r3, trivial, trivial, r6, trivial, trivial, r9, trivial⟩
    ⟨Ob.d fun c => r_move rfl (c.p e7),
    Ob.d fun c => r_move rfl (c.p e7),
    Ob.d fun c => r_build (cells := #[(.string ((itemF cs j).2.1)), (.string ((itemF cs j).2.1))]) rfl Try.underlying43 Try.zeroValue43 (pl := #[(0, 1), (1, 1)]) (fun w_ => by simp [Try.sizeOf9]) (fill2 (c.n 0 rfl) (c.n 1 rfl) rfl),
    Ob.alloc rfl rfl rfl rfl Try.zeroValue43 rfl,
    Ob.storeBox (off := 0) (v := (.agg #[(.string ((itemF cs j).2.1)), (.string ((itemF cs j).2.1))])) rfl rfl rfl rfl Try.sizeOf43 (Nat.le_of_ble_eq_true rfl) (by simp [Value.cells, Value.oneCell', Sv.v]) rfl (fun _ _ _ _ c => ⟨c.rb 3 rfl, (c.rb 3 rfl).ptr, (c.n 2 rfl)⟩), trivial⟩ ?_
   intro a12 w12 τ12 st12 f12
   obtain ⟨b12x9, e9⟩ : ∃ b, get a12 9 = b := ⟨_, rfl⟩
   obtain ⟨e0, e2, e4, e5, e6, e7, e8, e15, e23, e27, -⟩ := f12.ks [(0, _), (2, _), (4, _), (5, _), (6, _), (7, _), (8, _), (15, _), (23, _), (27, _)] ⟨e0, e2, e4, e5, e6, e7, e8, e15, e23, e27, trivial⟩
   replace r0 := f12.ib 0 rfl
   replace r1 := f12.ib 1 rfl
   replace r2 := f12.ib 2 rfl
   replace r3 := f12.iz 3 rfl
   have r4 : boxR 43 [(.string ((itemF cs j).2.1)), (.string ((itemF cs j).2.1))] (τ12 4) b12x9 w12 := f12.rb 4 e9 rfl
   replace r6 := f12.io 6 rfl
   replace r9 := f12.iz 9 rfl
   clear f12
   show Code.wp _ _ _ a12 w12
   refine wp_seq ?_
   refine wp_seq ?_
   refine region_St (bf := [0, 1, 3, 7, 15, 31, 63, 127, 255, 15, 527, 1551, 3599, 7695, 16383, 32767, 65535, 131071, 262143, 524287, 1048575, 131071, 2228223, 6422527, 14811135, 31588351, 67108863, 134217727, 268435455, 536870911]) (sp := [det _ 34 _, det _ 35 _, det _ 36 _, det _ 37 _, gdet _ 38 _ _, gdet _ 39 _ _, gdet _ 40 _ _, gdet _ 41 _ _, gdet _ 42 _ _, gdet _ 43 _ _, gdet _ 44 _ _, gdet _ 45 _ _, gdet _ 46 _ _, gdet _ 47 _ _, gdet _ 48 _ _, det _ 49 _, det _ 50 _, gdet _ 51 _ _, gdet _ 52 _ _, gdet _ 53 _ _, gdet _ 54 _ _, gdet _ 55 _ _, gdet _ 56 _ _, gdet _ 57 _ _, gdet _ 58 _ _, gdet _ 59 _ _, gdet _ 60 _ _, gdet _ 61 _ _, gdet _ 62 _ _, det _ 63 _]) [ib r0, ib r1, ib r2, iz r3, ib r4, Ini.any _, io r6, Ini.any _, Ini.any _, iz r9] mixed st12 (by kernel_rfl) ⟨r0, r1, r2, r3, r4, trivial, r6, trivial, trivial, r9, trivial⟩
    ⟨Ob.d fun c => r_move rfl (c.p e0),
    Ob.c fun c => ⟨_, _, (e_call1 rfl rfl Try.call47 (c.n 0 rfl)), see_c v cv cs ((itemF cs j).2.2.2) _ (rdr (c.ib 0 rfl) (c.iz 9 rfl) (fun g_ h_ hz_ => hz_.2 _ h_))⟩,
    Ob.d fun c => r_seql rfl (c.n 1 rfl) rfl,
    Ob.d fun c => r_move rfl (c.n 2 rfl),
    Ob.g 3 true rfl fun c hpc => r_move rfl (c.p e0),
    Ob.g 3 true rfl fun c hpc => r_nilCheck rfl (c.m 4 rfl hpc) r0.ptr,
    Ob.g 3 true rfl fun c hpc => r_fieldAddr rfl Try.underlying58 rfl rfl Try.sizeOf3 ((c.m 5 rfl hpc).trans r0.ptr),
    Ob.g 3 true rfl fun c hpc => r_load1 rfl Try.isAgg3 (c.m 6 rfl hpc) ((c.ib 0 rfl).cell (j := 1) rfl),
    Ob.g 3 true rfl fun c hpc => r_add rfl (c.m 7 rfl hpc) rfl (by have hq0 := hpc; omega),
    Ob.g 3 true rfl fun c hpc => r_move rfl (c.p e0),
    Ob.g 3 true rfl fun c hpc => r_nilCheck rfl (c.m 9 rfl hpc) r0.ptr,
    Ob.g 3 true rfl fun c hpc => r_fieldAddr rfl Try.underlying58 rfl rfl Try.sizeOf32 ((c.m 10 rfl hpc).trans r0.ptr),
    Ob.g 3 true rfl fun c hpc => r_load1 rfl Try.isAgg32 (c.m 11 rfl hpc) ((c.ib 0 rfl).cell (j := 0) rfl),
    Ob.g 3 true rfl fun c hpc => r_len rfl Try.underlying32 (c.m 12 rfl hpc) (r9).1.sl,
    Ob.g 3 true rfl fun c hpc => r_lss rfl (c.m 8 rfl hpc) (c.m 13 rfl hpc),
    Ob.d fun c => r_and rfl (c.n 3 rfl) (fun h => c.m 14 rfl h),
    Ob.d fun c => r_move rfl (c.n 15 rfl),
    Ob.g 16 true rfl fun c hpc => r_move rfl (c.p e0),
    Ob.g 16 true rfl fun c hpc => r_nilCheck rfl (c.m 17 rfl hpc) r0.ptr,
    Ob.g 16 true rfl fun c hpc => r_fieldAddr rfl Try.underlying58 rfl rfl Try.sizeOf32 ((c.m 18 rfl hpc).trans r0.ptr),
    Ob.g 16 true rfl fun c hpc => r_load1 rfl Try.isAgg32 (c.m 19 rfl hpc) ((c.ib 0 rfl).cell (j := 0) rfl),
    Ob.g 16 true rfl fun c hpc => r_move rfl (c.p e0),
    Ob.g 16 true rfl fun c hpc => r_nilCheck rfl (c.m 21 rfl hpc) r0.ptr,
    Ob.g 16 true rfl fun c hpc => r_fieldAddr rfl Try.underlying58 rfl rfl Try.sizeOf3 ((c.m 22 rfl hpc).trans r0.ptr),
    Ob.g 16 true rfl fun c hpc => r_load1 rfl Try.isAgg3 (c.m 23 rfl hpc) ((c.ib 0 rfl).cell (j := 1) rfl),
    Ob.g 16 true rfl fun c hpc => r_add rfl (c.m 24 rfl hpc) rfl (by have hq0 := hpc; (try simp only [Bool.and_eq_true, decide_eq_true_eq] at hq0); omega),
    Ob.g 16 true rfl fun c hpc => r_indexAddr rfl Try.underlying32 Try.sizeOf9 (c.m 20 rfl hpc) (r9).1.sl (c.m 25 rfl hpc) (by have hq0 := hpc; (try simp only [Bool.and_eq_true, decide_eq_true_eq] at hq0); omega) (by have hq0 := hpc; (try simp only [Bool.and_eq_true, decide_eq_true_eq] at hq0); omega),
    Ob.g 16 true rfl fun c hpc => r_load1 rfl Try.isAgg9 (c.m 26 rfl hpc) ((((c.iz 9 rfl)).1).elem (j := 0) (nth_some (i := (((itemF cs j).2.2.2 : Nat) : Int) + 1) (by have hq0 := hpc; (try simp only [Bool.and_eq_true, decide_eq_true_eq] at hq0); omega) (by have hq0 := hpc; (try simp only [Bool.and_eq_true, decide_eq_true_eq] at hq0); omega)) rfl),
    Ob.g 16 true rfl fun c hpc => r_sneq rfl (c.m 27 rfl hpc) rfl,
    Ob.d fun c => r_and rfl (c.n 16 rfl) (fun h => c.m 28 rfl h), trivial⟩ ?_
   intro a13 w13 τ13 st13 f13
   obtain ⟨e0, e2, e4, e5, e6, e7, e8, e9, e15, e23, e27, -⟩ := f13.ks [(0, _), (2, _), (4, _), (5, _), (6, _), (7, _), (8, _), (9, _), (15, _), (23, _), (27, _)] ⟨e0, e2, e4, e5, e6, e7, e8, e9, e15, e23, e27, trivial⟩
   have e63 : get a13 63 = (.bool (((eqT (seeF cs ((itemF cs j).2.2.2)) (⟨#[45]⟩ : ByteArray)) && (decide ((((itemF cs j).2.2.2 : Nat) : Int) + 1 < (cs.length : Int)))) && (!(eqT (nth cs ((((itemF cs j).2.2.2 : Nat) : Int) + 1)) (⟨#[93]⟩ : ByteArray))))) := f13.v 29 rfl
   replace r0 := f13.ib 0 rfl
   replace r1 := f13.ib 1 rfl
   replace r2 := f13.ib 2 rfl
   replace r3 := f13.iz 3 rfl
   replace r4 := f13.ib 4 rfl
   replace r6 := f13.io 6 rfl
   replace r9 := f13.iz 9 rfl
   clear f13
   show Code.wp _ _ _ a13 w13
   refine wp_cond_split (t := ((eqT (seeF cs ((itemF cs j).2.2.2)) (⟨#[45]⟩ : ByteArray)) && (decide ((((itemF cs j).2.2.2 : Nat) : Int) + 1 < (cs.length : Int)))) && (!(eqT (nth cs ((((itemF cs j).2.2.2 : Nat) : Int) + 1)) (⟨#[93]⟩ : ByteArray)))) e63 (fun hc4 => ?_) (fun hc4 => ?_)
   · have hd4 := hc4; try simp only [Bool.and_eq_true, Bool.and_eq_false_iff, Bool.not_eq_true', Bool.not_eq_false', decide_eq_true_eq, decide_eq_false_iff_not, Int.not_lt] at hd4
     refine wp_seq ?_
     have hbd : dashB cs j = true := by assumption
     unfold dashB at hbd
     simp only [Bool.and_eq_true, decide_eq_true_eq] at hbd
     have hbl := hbd.1.2
     refine region_St (bf := [0, 1, 3, 7, 15, 31, 63, 127]) (sp := [det _ 64 _, det _ 65 _, det _ 66 _, det _ 67 _, det _ 68 _, det _ 69 _, det _ 70 _, box _ _ 0 0 [cv.v, (.int .i64 ((((itemF cs j).2.2.2 : Nat) : Int) + 1))]]) [ib r0, ib r1, ib r2, iz r3, ib r4, Ini.any _, io r6, Ini.any _, Ini.any _, iz r9] mixed st13 (by kernel_rfl) ⟨r0, r1, r2, r3, r4, trivial, r6, trivial, trivial, r9, trivial⟩
      ⟨Ob.d fun c => r_move rfl (c.p e0),
      Ob.d fun c => r_nilCheck rfl (c.n 0 rfl) r0.ptr,
      Ob.d fun c => r_fieldAddr rfl Try.underlying58 rfl rfl Try.sizeOf3 ((c.n 1 rfl).trans r0.ptr),
      Ob.d fun c => r_load1 rfl Try.isAgg3 (c.n 2 rfl) ((c.ib 0 rfl).cell (j := 1) rfl),
      Ob.d fun c => r_add rfl (c.n 3 rfl) rfl (by omega),
      Ob.d fun c => r_nilCheck rfl (c.n 0 rfl) r0.ptr,
      Ob.d fun c => r_fieldAddr rfl Try.underlying58 rfl rfl Try.sizeOf3 ((c.n 5 rfl).trans r0.ptr),
      Ob.storeBox (off := 1) (v := (.int .i64 ((((itemF cs j).2.2.2 : Nat) : Int) + 1))) rfl rfl rfl rfl Try.sizeOf3 (Nat.le_of_ble_eq_true rfl) (by simp [Value.cells, Value.oneCell', Sv.v]) rfl (fun _ _ _ _ c => ⟨c.bp 0 rfl e0, c.ad (c.n 6 rfl) e0 rfl, (c.n 4 rfl)⟩), trivial⟩ ?_
     intro a14 w14 τ14 st14 f14
     obtain ⟨e0, e2, e4, e5, e6, e7, e8, e9, e15, e23, e27, e63, -⟩ := f14.ks [(0, _), (2, _), (4, _), (5, _), (6, _), (7, _), (8, _), (9, _), (15, _), (23, _), (27, _), (63, _)] ⟨e0, e2, e4, e5, e6, e7, e8, e9, e15, e23, e27, e63, trivial⟩
     replace r0 : boxR 58 [cv.v, (.int .i64 ((((itemF cs j).2.2.2 : Nat) : Int) + 1))] (τ14 0) v w14 := f14.rb 7 e0 rfl
     replace r1 := f14.ib 1 rfl
     replace r2 := f14.ib 2 rfl
     replace r3 := f14.iz 3 rfl
     replace r4 := f14.ib 4 rfl
     replace r6 := f14.io 6 rfl
     replace r9 := f14.iz 9 rfl
     clear f14
     replace r0 : boxR 58 [cv.v, .int .i64 (((itemF cs j).2.2.2 + 1 : Nat) : Int)] (τ14 0) v w14 := by rw [show (((itemF cs j).2.2.2 + 1 : Nat) : Int) = (((itemF cs j).2.2.2 : Nat) : Int) + 1 from by omega]; exact r0
     show Code.wp _ _ _ a14 w14
     refine wp_seq ?_
     have his2 := item_small hL ((itemF cs j).2.2.2 + 1)
     refine region_of_ops ?_
     refine ops_cut 2 (by kernel_rfl) ?_
     refine ops_St (bf := [0, 1]) (sp := [det _ 72 _, zbox 58 _ 0 73 (v) (fun b : Sv => [cv.v, .int .i64 (((itemF cs ((itemF cs j).2.2.2 + 1)).2.2.2 : Nat) : Int)]) (fun b : Sv => .tuple #[b.v, .string (itemF cs ((itemF cs j).2.2.2 + 1)).2.1, .bool (itemF cs ((itemF cs j).2.2.2 + 1)).2.2.1]) (fun _ => True) (fun b : Sv => zSl RowE (Gn none' w) b.v (itemF cs ((itemF cs j).2.2.2 + 1)).1)]) [ib r0, ib r1, ib r2, iz r3, ib r4, Ini.any _, io r6, Ini.any _, Ini.any _, iz r9] st14 (by kernel_rfl) ⟨r0, r1, r2, r3, r4, trivial, r6, trivial, trivial, r9, trivial⟩
      ⟨Ob.d fun c => r_move rfl (c.p e0),
      Ob.zb (cells := fun b : Sv => [cv.v, .int .i64 (((itemF cs ((itemF cs j).2.2.2 + 1)).2.2.2 : Nat) : Int)]) (f := fun b : Sv => .tuple #[b.v, .string (itemF cs ((itemF cs j).2.2.2 + 1)).2.1, .bool (itemF cs ((itemF cs j).2.2.2 + 1)).2.2.1]) (Ψ := fun _ => True) (Φ := fun b : Sv => zSl RowE (Gn none' w) b.v (itemF cs ((itemF cs j).2.2.2 + 1)).1) fun {_ a_ _ _} c => ⟨_, _, (e_call1 rfl rfl Try.call68 (c.n 0 rfl)), (item_c v cv cs ((itemF cs j).2.2.2 + 1) _ (rdr (c.ib 0 rfl) (c.iz 9 rfl) (fun g_ h_ hz_ => hz_.2 _ h_)) hL (by omega)).mono (fun e w' ⟨b_, he_, hx_, hb_, hs_⟩ => ⟨b_, he_, (c.ib 0 rfl).ext hx_, hb_.back (c.ib 0 rfl), trivial, c.sns st14 hx_.size hs_⟩)⟩, trivial⟩ ?_
     intro a15 w15 τ15 st15 f15
     obtain ⟨e0, e2, e4, e5, e6, e7, e8, e9, e15, e23, e27, e63, -⟩ := f15.ks [(0, _), (2, _), (4, _), (5, _), (6, _), (7, _), (8, _), (9, _), (15, _), (23, _), (27, _), (63, _)] ⟨e0, e2, e4, e5, e6, e7, e8, e9, e15, e23, e27, e63, trivial⟩
     obtain ⟨rw2_, e73, hro15, -, hz15⟩ := f15.zb 1 rfl
     have e73 : get a15 73 = (.tuple #[rw2_.v, (.string ((itemF cs ((itemF cs j).2.2.2 + 1)).2.1)), (.bool ((itemF cs ((itemF cs j).2.2.2 + 1)).2.2.1))]) := e73
     replace r0 : boxR 58 [cv.v, (.int .i64 ((((itemF cs ((itemF cs j).2.2.2 + 1)).2.2.2 : Nat) : Int)))] (τ15 0) v w15 := hro15
     replace r1 := f15.ib 1 rfl
     replace r2 := f15.ib 2 rfl
     replace r3 := f15.iz 3 rfl
     replace r4 := f15.ib 4 rfl
     replace r6 := f15.io 6 rfl
     replace r9 := f15.iz 9 rfl
     have r5 : Fz (zSl RowE (Gn none' w) rw2_.v (itemF cs ((itemF cs j).2.2.2 + 1)).1) τ15 w15 := hz15
     clear f15
     refine only_mk ?_
     refine ops_St (bf := [0, 1, 3, 7, 15, 31, 63]) (sp := [det _ 71 _, det _ 74 _, det _ 75 _, det _ 76 _, det _ 6 _, det _ 7 _, det _ 8 _]) [ib r0, ib r1, ib r2, iz r3, ib r4, iz r5, io r6, Ini.any _, Ini.any _, iz r9] st15 (by kernel_rfl) ⟨r0, r1, r2, r3, r4, r5, r6, trivial, trivial, r9, trivial⟩
      ⟨Ob.d fun c => r_move rfl (c.p e73),
      Ob.d fun c => r_extract rfl (c.n 0 rfl) rfl,
      Ob.d fun c => r_extract rfl (c.n 0 rfl) rfl,
      Ob.d fun c => r_extract rfl (c.n 0 rfl) rfl,
      Ob.d fun c => r_assign rfl (c.n 1 rfl),
      Ob.d fun c => r_assign rfl (c.n 2 rfl),
      Ob.d fun c => r_assign rfl (c.n 3 rfl), trivial⟩ ?_
     intro a16 w16 τ16 st16 f16
     obtain ⟨e0, e2, e4, e5, e9, e15, e23, e27, e63, -⟩ := f16.ks [(0, _), (2, _), (4, _), (5, _), (9, _), (15, _), (23, _), (27, _), (63, _)] ⟨e0, e2, e4, e5, e9, e15, e23, e27, e63, trivial⟩
     have e6 : get a16 6 = rw2_.v := f16.v 4 rfl
     have e7 : get a16 7 = (.string ((itemF cs ((itemF cs j).2.2.2 + 1)).2.1)) := f16.v 5 rfl
     have e8 : get a16 8 = (.bool ((itemF cs ((itemF cs j).2.2.2 + 1)).2.2.1)) := f16.v 6 rfl
     replace r0 := f16.ib 0 rfl
     replace r1 := f16.ib 1 rfl
     replace r2 := f16.ib 2 rfl
     replace r3 := f16.iz 3 rfl
     replace r4 := f16.ib 4 rfl
     replace r5 := f16.iz 5 rfl
     replace r6 := f16.io 6 rfl
     replace r9 := f16.iz 9 rfl
     clear f16
     show Code.wp _ _ _ a16 w16
     refine wp_seq ?_
     refine wp_seq ?_
     refine region_St (bf := [0, 1, 3, 7, 15, 31, 63, 127, 255, 255, 767, 2047, 4095]) (sp := [det _ 77 _, det _ 78 _, det _ 79 _, gdet _ 80 _ _, gdet _ 81 _ _, gdet _ 82 _ _, det _ 83 _, det _ 84 _, gdet _ 85 _ _, gdet _ 86 _ _, gdet _ 87 _ _, gdet _ 88 _ _, det _ 89 _]) [ib r0, ib r1, ib r2, Ini.any _, ib r4, iz r5, io r6, Ini.any _, Ini.any _, iz r9] mixed st16 (by kernel_rfl) ⟨r0, r1, r2, trivial, r4, r5, r6, trivial, trivial, r9, trivial⟩
      ⟨Ob.d fun c => r_move rfl (c.p e8),
      Ob.d fun c => r_not rfl (c.n 0 rfl),
      Ob.d fun c => r_move rfl (c.n 1 rfl),
      Ob.g 2 false rfl fun c hpc => r_move rfl (c.p e6),
      Ob.g 2 false rfl fun c hpc => r_len rfl Try.underlying22 (c.m 3 rfl hpc) (r5).1.sl,
      Ob.g 2 false rfl fun c hpc => r_gtr rfl (c.m 4 rfl hpc) rfl,
      Ob.d fun c => r_or rfl (c.n 2 rfl) (fun h => c.m 5 rfl h),
      Ob.d fun c => r_move rfl (c.n 6 rfl),
      Ob.g 7 false rfl fun c hpc => r_move rfl (c.p e7),
      Ob.g 7 false rfl fun c hpc => r_fieldAddr rfl Try.underlying43 rfl rfl Try.sizeOf9 ((c.p e9).trans r4.ptr),
      Ob.g 7 false rfl fun c hpc => r_load1 rfl Try.isAgg9 (c.m 9 rfl hpc) ((c.ib 4 rfl).cell (j := 0) rfl),
      Ob.g 7 false rfl fun c hpc => r_slss rfl (c.m 8 rfl hpc) (c.m 10 rfl hpc),
      Ob.d fun c => r_or rfl (c.n 7 rfl) (fun h => c.m 11 rfl h), trivial⟩ ?_
     intro a17 w17 τ17 st17 f17
     obtain ⟨e0, e2, e4, e5, e6, e7, e8, e9, e15, e23, e27, e63, -⟩ := f17.ks [(0, _), (2, _), (4, _), (5, _), (6, _), (7, _), (8, _), (9, _), (15, _), (23, _), (27, _), (63, _)] ⟨e0, e2, e4, e5, e6, e7, e8, e9, e15, e23, e27, e63, trivial⟩
     have e89 : get a17 89 = (.bool (((!((itemF cs ((itemF cs j).2.2.2 + 1)).2.2.1)) || (decide (0 < (((itemF cs ((itemF cs j).2.2.2 + 1)).1).length : Int)))) || (ltT ((itemF cs ((itemF cs j).2.2.2 + 1)).2.1) ((itemF cs j).2.1)))) := f17.v 12 rfl
     replace r0 := f17.ib 0 rfl
     replace r1 := f17.ib 1 rfl
     replace r2 := f17.ib 2 rfl
     replace r4 := f17.ib 4 rfl
     replace r5 := f17.iz 5 rfl
     replace r6 := f17.io 6 rfl
     replace r9 := f17.iz 9 rfl
     clear f17
     show Code.wp _ _ _ a17 w17
     refine wp_cond_split (t := ((!((itemF cs ((itemF cs j).2.2.2 + 1)).2.2.1)) || (decide (0 < (((itemF cs ((itemF cs j).2.2.2 + 1)).1).length : Int)))) || (ltT ((itemF cs ((itemF cs j).2.2.2 + 1)).2.1) ((itemF cs j).2.1))) e89 (fun hc5 => ?_) (fun hc5 => ?_)
     · have hd5 := hc5; try simp only [Bool.or_eq_true, Bool.or_eq_false_iff, Bool.not_eq_true', Bool.not_eq_false', decide_eq_true_eq, decide_eq_false_iff_not, Int.not_lt] at hd5
       refine wp_seq ?_
       refine region_St (bf := [0, 1, 3]) (sp := [det _ 90 _, box _ _ 1 2 [(.int .i64 (0)), (.string ((⟨#[]⟩ : ByteArray))), (.bool (false)), (.slice none 0 0), (.int .i64 (0)), (.int .i64 (0)), (.bool (false)), (.slice none 0 0)], det _ 3 _]) [ib r0, ib r1, ib r2, Ini.any _, ib r4, iz r5, io r6, Ini.any _, Ini.any _, iz r9] mixed st17 (by kernel_rfl) ⟨r0, r1, r2, trivial, r4, r5, r6, trivial, trivial, r9, trivial⟩
        ⟨Ob.d fun c => r_build (cells := #[(.int .i64 (0)), (.string ((⟨#[]⟩ : ByteArray))), (.bool (false)), (.slice none 0 0), (.int .i64 (0)), (.int .i64 (0)), (.bool (false)), (.slice none 0 0)]) rfl Try.underlying25 Try.zeroValue25 (pl := #[(0, 1), (1, 1), (2, 1), (3, 1), (4, 1), (5, 1), (6, 1), (7, 1)]) (fun w_ => by simp [Try.sizeOf22, Try.sizeOf23, Try.sizeOf3, Try.sizeOf4, Try.sizeOf9]) (by simp only [List.map_toArray, List.map_nil]; rfl),
        Ob.storeBox (off := 0) (v := (.agg #[(.int .i64 (0)), (.string ((⟨#[]⟩ : ByteArray))), (.bool (false)), (.slice none 0 0), (.int .i64 (0)), (.int .i64 (0)), (.bool (false)), (.slice none 0 0)])) rfl rfl rfl rfl Try.sizeOf25 (Nat.le_of_ble_eq_true rfl) (by simp [Value.cells, Value.oneCell', Sv.v]) rfl (fun _ _ _ _ c => ⟨c.bp 1 rfl e2, c.ad ((c.p e2).trans r1.ptr) e2 rfl, (c.n 0 rfl)⟩),
        Ob.d fun c => r_assign rfl rfl, trivial⟩ ?_
       intro a18 w18 τ18 st18 f18
       obtain ⟨e0, e2, e4, e5, e6, e7, e8, e9, e15, e23, e27, e63, e89, -⟩ := f18.ks [(0, _), (2, _), (4, _), (5, _), (6, _), (7, _), (8, _), (9, _), (15, _), (23, _), (27, _), (63, _), (89, _)] ⟨e0, e2, e4, e5, e6, e7, e8, e9, e15, e23, e27, e63, e89, trivial⟩
       have e3 : get a18 3 = (.int .i64 (10)) := f18.v 2 rfl
       replace r0 := f18.ib 0 rfl
       replace r1 : boxR 25 [(.int .i64 (0)), (.string ((⟨#[]⟩ : ByteArray))), (.bool (false)), (.slice none 0 0), (.int .i64 (0)), (.int .i64 (0)), (.bool (false)), (.slice none 0 0)] (τ18 1) b1x2 w18 := f18.rb 1 e2 rfl
       replace r2 := f18.ib 2 rfl
       replace r4 := f18.ib 4 rfl
       replace r5 := f18.iz 5 rfl
       replace r6 := f18.io 6 rfl
       replace r9 := f18.iz 9 rfl
       clear f18
       show Code.wp _ _ _ a18 w18
       refine wp_ret ?_
       repeat (first | with_reducible refine then_ret ?_ | with_reducible refine block_ret ?_)
       refine ret2c (fn := Try.f63) rfl st18.defers e2 e3 r1 Try.isAgg25 Try.sizeOf25 rfl ?_
       have he_ : clsF cs i = ((leafT 0 (⟨#[]⟩ : ByteArray) false 0 0 false), 10, (itemF cs ((itemF cs j).2.2.2 + 1)).2.2.2) := by unfold clsF; rw [q4]; first | exact clsL_e1 (by assumption) (by assumption) | exact clsL_e2 (by assumption) (by assumption) (by omega) (by assumption) (by assumption)
       rw [he_]
       exact ⟨(leafT 0 (⟨#[]⟩ : ByteArray) false 0 0 false), rfl, st18.extIn, r0.foot, (leafTr _ _ _ _ _ _ _ _), rfl⟩
     have hd5 := hc5; try simp only [Bool.or_eq_true, Bool.or_eq_false_iff, Bool.not_eq_true', Bool.not_eq_false', decide_eq_true_eq, decide_eq_false_iff_not, Int.not_lt] at hd5
     refine wp_skip ?_
     show Code.wp _ _ _ a17 w17
     have hb2 : badR cs j = false := by assumption
     unfold badR at hb2
     simp only [Bool.or_eq_false_iff, Bool.not_eq_false'] at hb2
     have hio2 := his2.2.2.2.2 hb2.1.1
     refine region_St (bf := [0, 1, 3]) (sp := [det _ 91 _, det _ 92 _, box _ _ 4 9 [(.string ((itemF cs j).2.1)), (.string ((itemF cs ((itemF cs j).2.2.2 + 1)).2.1))]]) [ib r0, ib r1, ib r2, Ini.any _, ib r4, iz r5, io r6, Ini.any _, Ini.any _, iz r9] mixed st17 (by kernel_rfl) ⟨r0, r1, r2, trivial, r4, r5, r6, trivial, trivial, r9, trivial⟩
      ⟨Ob.d fun c => r_move rfl (c.p e7),
      Ob.d fun c => r_fieldAddr rfl Try.underlying43 rfl rfl Try.sizeOf9 ((c.p e9).trans r4.ptr),
      Ob.storeBox (off := 1) (v := (.string ((itemF cs ((itemF cs j).2.2.2 + 1)).2.1))) rfl rfl rfl rfl Try.sizeOf9 (Nat.le_of_ble_eq_true rfl) (by simp [Value.cells, Value.oneCell', Sv.v]) rfl (fun _ _ _ _ c => ⟨c.bp 4 rfl e9, c.ad (c.n 1 rfl) e9 rfl, (c.n 0 rfl)⟩), trivial⟩ ?_
     intro a19 w19 τ19 st19 f19
     obtain ⟨e0, e2, e4, e5, e6, e7, e8, e9, e15, e23, e27, e63, e89, -⟩ := f19.ks [(0, _), (2, _), (4, _), (5, _), (6, _), (7, _), (8, _), (9, _), (15, _), (23, _), (27, _), (63, _), (89, _)] ⟨e0, e2, e4, e5, e6, e7, e8, e9, e15, e23, e27, e63, e89, trivial⟩
     replace r0 := f19.ib 0 rfl
     replace r1 := f19.ib 1 rfl
     replace r2 := f19.ib 2 rfl
     replace r4 : boxR 43 [(.string ((itemF cs j).2.1)), (.string ((itemF cs ((itemF cs j).2.2.2 + 1)).2.1))] (τ19 4) b12x9 w19 := f19.rb 2 e9 rfl
     replace r5 := f19.iz 5 rfl
     replace r6 := f19.io 6 rfl
     replace r9 := f19.iz 9 rfl
     clear f19
     show Code.wp _ _ _ a19 w19
     refine region_St (bf := [0, 0, 2, 7, 15]) (sp := [det _ 93 _, det _ 94 _, own RowE 43 _ 3 95 ([((itemF cs j).2.1, (itemF cs ((itemF cs j).2.2.2 + 1)).2.1)]), own _ _ _ 6 96 _, own _ _ _ 6 5 _]) [ib r0, ib r1, ib r2, Ini.any _, ib r4, iz r5, io r6, Ini.any _, Ini.any _, iz r9] mixed st19 (by kernel_rfl) ⟨r0, r1, r2, trivial, r4, r5, r6, trivial, trivial, r9, trivial⟩
      ⟨Ob.d fun c => r_move rfl (c.p e5),
      Ob.d fun c => r_loadN (vs := [(.string ((itemF cs j).2.1)), (.string ((itemF cs ((itemF cs j).2.2.2 + 1)).2.1))]) rfl Try.isAgg43 Try.sizeOf43 ((c.p e9).trans r4.ptr) rfl (fun _ _ hj => (c.ib 4 rfl).cell hj),
      Ob.buildSlice (cells := #[(.string ((itemF cs j).2.1)), (.string ((itemF cs ((itemF cs j).2.2.2 + 1)).2.1))]) rfl rfl rfl rfl Try.underlying22 Try.sizeOf43 Try.zeroValue43 rfl (by decide) (by decide) (fun _ _ _ _ c => fill1 (c.n 1 rfl) (by kernel_rfl)) rfl,
      Ob.append (t0 := 5) rfl rfl rfl rfl Try.underlying22 (i := Try.t43) rfl rfl rfl rfl (by simp only [maxLen]; (try simp); omega) (by show _ * 32 ≤ _; (try simp); omega) (fun _ _ _ _ c => ⟨c.ip 6 rfl e5, c.sm (c.n 0 rfl) e5, ⟨_, rfl, (c.ro 2 rfl).1.sl⟩⟩),
      Ob.moveT (t0 := 96) rfl rfl rfl rfl rfl (.inr rfl) (fun _ _ _ _ c => ⟨c.ro 3 rfl, rfl⟩), trivial⟩ ?_
     intro a20 w20 τ20 st20 f20
     obtain ⟨b20x95, e95⟩ : ∃ b, get a20 95 = b := ⟨_, rfl⟩
     obtain ⟨b20x5, e5⟩ : ∃ b, get a20 5 = b := ⟨_, rfl⟩
     obtain ⟨e0, e2, e4, e6, e7, e8, e9, e15, e23, e27, e63, e89, -⟩ := f20.ks [(0, _), (2, _), (4, _), (6, _), (7, _), (8, _), (9, _), (15, _), (23, _), (27, _), (63, _), (89, _)] ⟨e0, e2, e4, e6, e7, e8, e9, e15, e23, e27, e63, e89, trivial⟩
     replace r0 := f20.ib 0 rfl
     replace r1 := f20.ib 1 rfl
     replace r2 := f20.ib 2 rfl
     have r3 : ownR RowE 43 ([((itemF cs j).2.1, (itemF cs ((itemF cs j).2.2.2 + 1)).2.1)]) (τ20 3) b20x95 w20 := f20.ro 2 e95 rfl
     replace r4 := f20.ib 4 rfl
     replace r5 := f20.iz 5 rfl
     replace r6 : ownR RowE 43 (rows ++ [((itemF cs j).2.1, (itemF cs ((itemF cs j).2.2.2 + 1)).2.1)]) (τ20 6) b20x5 w20 := f20.ro 4 e5 rfl
     replace r9 := f20.iz 9 rfl
     clear f20
     show _
     have hnx : clsL cs (tkF cs i (⟨#[94]⟩ : ByteArray)) (f + 1) j rows = clsL cs (tkF cs i (⟨#[94]⟩ : ByteArray)) f ((itemF cs ((itemF cs j).2.2.2 + 1)).2.2.2) (rows ++ [((itemF cs j).2.1, (itemF cs ((itemF cs j).2.2.2 + 1)).2.1)]) := by first | exact clsL_go (by assumption) (by assumption) (by omega) | exact clsL_row (by assumption) (by assumption) (by omega) (by assumption) (by assumption) | exact clsL_one (by assumption) (by assumption) (by omega) (by assumption)
     refine ⟨⟨(itemF cs ((itemF cs j).2.2.2 + 1)).2.2.2, f - 1, b20x5, rows ++ [((itemF cs j).2.1, (itemF cs ((itemF cs j).2.2.2 + 1)).2.1)], τ20, ?_, ?_, ?_, ?_, ?_, st20, e5, e0, e2, e4, r0, ?_, r1, r2, r9⟩, ?_⟩
     · first | exact q0.app his.1 | exact q0.app (Tiny.one his.2.1 his2.2.1) | exact q0.app (Tiny.one his.2.1 his.2.1)
     · (try simp only [List.length_append, List.length_cons, List.length_nil]); omega
     · omega
     · omega
     · obtain ⟨f, rfl⟩ : ∃ f_, f = f_ + 1 := ⟨f - 1, by omega⟩; rw [q4, hnx]; rfl
     · exact r6.cast (by rfl)
     · rw [hm0, rdAt_eq r0]; omega
   have hd5 := hc4; try simp only [Bool.and_eq_true, Bool.and_eq_false_iff, Bool.not_eq_true', Bool.not_eq_false', decide_eq_true_eq, decide_eq_false_iff_not, Int.not_lt] at hd5
   refine wp_skip ?_
   show Code.wp _ _ _ a13 w13
   refine region_St (bf := [0, 0, 2, 7, 15]) (sp := [det _ 93 _, det _ 94 _, own RowE 43 _ 5 95 ([((itemF cs j).2.1, (itemF cs j).2.1)]), own _ _ _ 6 96 _, own _ _ _ 6 5 _]) [ib r0, ib r1, ib r2, iz r3, ib r4, Ini.any _, io r6, Ini.any _, Ini.any _, iz r9] mixed st13 (by kernel_rfl) ⟨r0, r1, r2, r3, r4, trivial, r6, trivial, trivial, r9, trivial⟩
    ⟨Ob.d fun c => r_move rfl (c.p e5),
    Ob.d fun c => r_loadN (vs := [(.string ((itemF cs j).2.1)), (.string ((itemF cs j).2.1))]) rfl Try.isAgg43 Try.sizeOf43 ((c.p e9).trans r4.ptr) rfl (fun _ _ hj => (c.ib 4 rfl).cell hj),
    Ob.buildSlice (cells := #[(.string ((itemF cs j).2.1)), (.string ((itemF cs j).2.1))]) rfl rfl rfl rfl Try.underlying22 Try.sizeOf43 Try.zeroValue43 rfl (by decide) (by decide) (fun _ _ _ _ c => fill1 (c.n 1 rfl) (by kernel_rfl)) rfl,
    Ob.append (t0 := 5) rfl rfl rfl rfl Try.underlying22 (i := Try.t43) rfl rfl rfl rfl (by simp only [maxLen]; (try simp); omega) (by show _ * 32 ≤ _; (try simp); omega) (fun _ _ _ _ c => ⟨c.ip 6 rfl e5, c.sm (c.n 0 rfl) e5, ⟨_, rfl, (c.ro 2 rfl).1.sl⟩⟩),
    Ob.moveT (t0 := 96) rfl rfl rfl rfl rfl (.inr rfl) (fun _ _ _ _ c => ⟨c.ro 3 rfl, rfl⟩), trivial⟩ ?_
   intro a21 w21 τ21 st21 f21
   obtain ⟨b21x95, e95⟩ : ∃ b, get a21 95 = b := ⟨_, rfl⟩
   obtain ⟨b21x5, e5⟩ : ∃ b, get a21 5 = b := ⟨_, rfl⟩
   obtain ⟨e0, e2, e4, e6, e7, e8, e9, e15, e23, e27, e63, -⟩ := f21.ks [(0, _), (2, _), (4, _), (6, _), (7, _), (8, _), (9, _), (15, _), (23, _), (27, _), (63, _)] ⟨e0, e2, e4, e6, e7, e8, e9, e15, e23, e27, e63, trivial⟩
   replace r0 := f21.ib 0 rfl
   replace r1 := f21.ib 1 rfl
   replace r2 := f21.ib 2 rfl
   replace r3 := f21.iz 3 rfl
   replace r4 := f21.ib 4 rfl
   have r5 : ownR RowE 43 ([((itemF cs j).2.1, (itemF cs j).2.1)]) (τ21 5) b21x95 w21 := f21.ro 2 e95 rfl
   replace r6 : ownR RowE 43 (rows ++ [((itemF cs j).2.1, (itemF cs j).2.1)]) (τ21 6) b21x5 w21 := f21.ro 4 e5 rfl
   replace r9 := f21.iz 9 rfl
   clear f21
   show _
   have hnx : clsL cs (tkF cs i (⟨#[94]⟩ : ByteArray)) (f + 1) j rows = clsL cs (tkF cs i (⟨#[94]⟩ : ByteArray)) f ((itemF cs j).2.2.2) (rows ++ [((itemF cs j).2.1, (itemF cs j).2.1)]) := by first | exact clsL_go (by assumption) (by assumption) (by omega) | exact clsL_row (by assumption) (by assumption) (by omega) (by assumption) (by assumption) | exact clsL_one (by assumption) (by assumption) (by omega) (by assumption)
   refine ⟨⟨(itemF cs j).2.2.2, f - 1, b21x5, rows ++ [((itemF cs j).2.1, (itemF cs j).2.1)], τ21, ?_, ?_, ?_, ?_, ?_, st21, e5, e0, e2, e4, r0, ?_, r1, r2, r9⟩, ?_⟩
   · first | exact q0.app his.1 | exact q0.app (Tiny.one his.2.1 his2.2.1) | exact q0.app (Tiny.one his.2.1 his.2.1)
   · (try simp only [List.length_append, List.length_cons, List.length_nil]); omega
   · omega
   · omega
   · obtain ⟨f, rfl⟩ : ∃ f_, f = f_ + 1 := ⟨f - 1, by omega⟩; rw [q4, hnx]; rfl
   · exact r6.cast (by rfl)
   · rw [hm0, rdAt_eq r0]; omega
 try simp only [Bool.not_eq_true', Bool.not_eq_false'] at hc1
 have htk5 : tkF cs j (⟨#[93]⟩ : ByteArray) = true := by simpa using hc1
 have htl5 := tk_lt htk5
 rw [tkN_t htk5] at r0
 refine wp_exit ?_
 repeat (with_reducible refine then_exit ?_)
 refine exit_here ?_
 show Code.wp _ _ _ a5 w5
 refine wp_seq ?_
 refine region_of_ops ?_
 refine ops_cut 2 (by kernel_rfl) ?_
 refine ops_St (bf := [0, 1]) (sp := [det _ 97 _, zdet _ 98 (fun b : Sv => b.v) (fun _ => True) (fun b : Sv => zSl RowE (Gn none' w) b.v (unionT rows))]) [ib r0, ib r1, ib r2, Ini.any _, Ini.any _, Ini.any _, io r6, Ini.any _, Ini.any _, iz r9] st5 (by kernel_rfl) ⟨r0, r1, r2, trivial, trivial, trivial, r6, trivial, trivial, r9, trivial⟩
  ⟨Ob.d fun c => r_move rfl (c.p e5),
  Ob.zc (f := fun b : Sv => b.v) (Ψ := fun _ => True) (Φ := fun b : Sv => zSl RowE (Gn none' w) b.v (unionT rows)) fun {_ a_ _ _} c => ⟨_, _, (e_call1 rfl rfl Try.call69 (c.n 0 rfl)), (refUnion_c u rows _ (c.io 6 rfl).1.sl (by first | assumption | (unfold Small; decide)) (by omega)).mono (fun e w' ⟨v_, he_, hx_, hn_⟩ => by obtain ⟨s_, rfl⟩ := hn_.1.sl.sl.sv; exact ⟨s_, he_, hx_, trivial, c.sn st5 hx_ hn_⟩)⟩, trivial⟩ ?_
 intro a22 w22 τ22 st22 f22
 obtain ⟨e0, e2, e4, -⟩ := f22.ks [(0, _), (2, _), (4, _)] ⟨e0, e2, e4, trivial⟩
 obtain ⟨rw3_, e98, -, hz22⟩ := f22.zd 1 rfl
 have e98 : get a22 98 = rw3_.v := e98
 replace r0 := f22.ib 0 rfl
 replace r1 := f22.ib 1 rfl
 replace r2 := f22.ib 2 rfl
 replace r9 := f22.iz 9 rfl
 have r3 : Fz (zSl RowE (Gn none' w) rw3_.v (unionT rows)) τ22 w22 := hz22
 clear f22
 refine only_mk ?_
 refine ops_St (bf := [0, 1]) (sp := [det _ 99 _, box _ _ 2 4 [(.int .i64 (4)), (.string ((⟨#[]⟩ : ByteArray))), (.bool (tkF cs i (⟨#[94]⟩ : ByteArray))), rw3_.v, (.int .i64 (0)), (.int .i64 (0)), (.bool (false)), (.slice none 0 0)]]) [ib r0, ib r1, ib r2, iz r3, Ini.any _, Ini.any _, Ini.any _, Ini.any _, Ini.any _, iz r9] st22 (by kernel_rfl) ⟨r0, r1, r2, r3, trivial, trivial, trivial, trivial, trivial, r9, trivial⟩
  ⟨Ob.d fun c => r_fieldAddr rfl Try.underlying25 rfl rfl Try.sizeOf22 ((c.p e4).trans r2.ptr),
  Ob.storeBox (off := 3) (v := rw3_.v) rfl rfl rfl rfl Try.sizeOf22 (Nat.le_of_ble_eq_true rfl) (by simp [Value.cells, Value.oneCell', Sv.v]) rfl (fun _ _ _ _ c => ⟨c.bp 2 rfl e4, c.ad (c.n 0 rfl) e4 rfl, (c.p e98)⟩), trivial⟩ ?_
 intro a23 w23 τ23 st23 f23
 obtain ⟨e0, e2, e4, -⟩ := f23.ks [(0, _), (2, _), (4, _)] ⟨e0, e2, e4, trivial⟩
 replace r0 := f23.ib 0 rfl
 replace r1 := f23.ib 1 rfl
 replace r2 : boxR 25 [(.int .i64 (4)), (.string ((⟨#[]⟩ : ByteArray))), (.bool (tkF cs i (⟨#[94]⟩ : ByteArray))), rw3_.v, (.int .i64 (0)), (.int .i64 (0)), (.bool (false)), (.slice none 0 0)] (τ23 2) b2x4 w23 := f23.rb 1 e4 rfl
 replace r3 := f23.iz 3 rfl
 replace r9 := f23.iz 9 rfl
 clear f23
 show Code.wp _ _ _ a23 w23
 refine wp_seq ?_
 refine region_St (bf := [0, 1, 3]) (sp := [det _ 100 _, box _ _ 1 2 [(.int .i64 (4)), (.string ((⟨#[]⟩ : ByteArray))), (.bool (tkF cs i (⟨#[94]⟩ : ByteArray))), rw3_.v, (.int .i64 (0)), (.int .i64 (0)), (.bool (false)), (.slice none 0 0)], det _ 3 _]) [ib r0, ib r1, ib r2, iz r3, Ini.any _, Ini.any _, Ini.any _, Ini.any _, Ini.any _, iz r9] mixed st23 (by kernel_rfl) ⟨r0, r1, r2, r3, trivial, trivial, trivial, trivial, trivial, r9, trivial⟩
  ⟨Ob.d fun c => r_loadN (vs := [(.int .i64 (4)), (.string ((⟨#[]⟩ : ByteArray))), (.bool (tkF cs i (⟨#[94]⟩ : ByteArray))), rw3_.v, (.int .i64 (0)), (.int .i64 (0)), (.bool (false)), (.slice none 0 0)]) rfl Try.isAgg25 Try.sizeOf25 ((c.p e4).trans r2.ptr) rfl (fun _ _ hj => (c.ib 2 rfl).cell hj),
  Ob.storeBox (off := 0) (v := (.agg #[(.int .i64 (4)), (.string ((⟨#[]⟩ : ByteArray))), (.bool (tkF cs i (⟨#[94]⟩ : ByteArray))), rw3_.v, (.int .i64 (0)), (.int .i64 (0)), (.bool (false)), (.slice none 0 0)])) rfl rfl rfl rfl Try.sizeOf25 (Nat.le_of_ble_eq_true rfl) (by simp [Value.cells, Value.oneCell', Sv.v]) rfl (fun _ _ _ _ c => ⟨c.bp 1 rfl e2, c.ad ((c.p e2).trans r1.ptr) e2 rfl, (c.n 0 rfl)⟩),
  Ob.d fun c => r_assign rfl rfl, trivial⟩ ?_
 intro a24 w24 τ24 st24 f24
 obtain ⟨e0, e2, -⟩ := f24.ks [(0, _), (2, _)] ⟨e0, e2, trivial⟩
 have e3 : get a24 3 = (.int .i64 (0)) := f24.v 2 rfl
 replace r0 := f24.ib 0 rfl
 replace r1 : boxR 25 [(.int .i64 (4)), (.string ((⟨#[]⟩ : ByteArray))), (.bool (tkF cs i (⟨#[94]⟩ : ByteArray))), rw3_.v, (.int .i64 (0)), (.int .i64 (0)), (.bool (false)), (.slice none 0 0)] (τ24 1) b1x2 w24 := f24.rb 1 e2 rfl
 replace r3 := f24.iz 3 rfl
 replace r9 := f24.iz 9 rfl
 clear f24
 show Code.wp _ _ _ a24 w24
 refine wp_ret ?_
 repeat (first | with_reducible refine then_ret ?_ | with_reducible refine block_ret ?_)
 refine ret2c (fn := Try.f63) rfl st24.defers e2 e3 r1 Try.isAgg25 Try.sizeOf25 rfl ?_
 have he_ : clsF cs i = ((setT (tkF cs i (⟨#[94]⟩ : ByteArray)) Sv.nil (unionT rows)), 0, j + 1) := by unfold clsF; rw [q4, clsL_end (by assumption)]
 rw [he_]
 exact ⟨(setT (tkF cs i (⟨#[94]⟩ : ByteArray)) rw3_ (unionT rows)), rfl, st24.extIn, r0.foot, (Fz.out (setZ r3)), er_set _ _ _⟩
end B
end Go.Proofs.Ytocmchlhbniloaa
