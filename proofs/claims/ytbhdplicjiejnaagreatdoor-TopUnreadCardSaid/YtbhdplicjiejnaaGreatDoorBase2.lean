/-
  What single operations come to (Runs), memory as lists (SlT, OwnT), and the forms in which an operation is shown inside a region. Over any program.
-/
import Derived.Test.YtbhdplicjiejnaaGreatDoorBase1
import Derived.Lib.Slices
import Derived.Deep.Slices
namespace Go.Proofs.YtbhdplicjiejnaaGreatDoor
namespace B
open Go.RowKit

def Runs (P : Program) (a : Act) (o : Oper) (w : World) (v : Value) : Prop := (execOp a.eval o).run P w = .ok (.value v) w

/-- the address in a slice's or a pointer's value -/
def ptrOf : Value → Addr
  | .slice (some a) _ _ => a
  | .pointer (some a) => a
  | _ => ⟨0, 0, none⟩
/-- v is a slice of n elements -/
def IsSl (v : Value) (n : Nat) : Prop := (v = .slice none 0 0 ∧ n = 0) ∨ ∃ b cap, v = .slice (some b) n cap ∧ n ≤ cap ∧ cap ≤ maxLen

section
variable {P : Program} {a : Act} {o : Oper} {w : World}

theorem r_move {x : Operand} {v : Value} (ho : o.op = .move x) (h : a.eval x = v) : Runs P a o w v := by
  subst h; simp [Runs, execOp, ho]
theorem r_assign {x : Operand} {v : Value} (ho : o.op = .assign x) (h : a.eval x = v) : Runs P a o w v := by
  subst h; simp [Runs, execOp, ho]
theorem r_pick {c x y : Operand} {b : Bool} {v : Value} (ho : o.op = .pick c x y) (hc : a.eval c = .bool b) (h1 : b = true → a.eval x = v) (h2 : b = false → a.eval y = v) : Runs P a o w v := by
  cases b
  · simp [Runs, execOp, ho, hc, asBool, h2]
  · simp [Runs, execOp, ho, hc, asBool, h1]
theorem r_and {c x : Operand} {b b' : Bool} (ho : o.op = .pick c x (.const (.bool false))) (hc : a.eval c = .bool b) (h1 : b = true → a.eval x = .bool b') : Runs P a o w (.bool (b && b')) :=
  r_pick ho hc (fun h => by rw [h1 h, h, Bool.true_and]) (fun h => by rw [h, Bool.false_and]; rfl)
theorem r_or {c x : Operand} {b b' : Bool} (ho : o.op = .pick c (.const (.bool true)) x) (hc : a.eval c = .bool b) (h1 : b = false → a.eval x = .bool b') : Runs P a o w (.bool (b || b')) :=
  r_pick ho hc (fun h => by rw [h, Bool.true_or]; rfl) (fun h => by rw [h1 h, h, Bool.false_or])

section ints
variable {t t' : TypeId} {x y : Operand} {k : IntKind} {p q : Int}
theorem r_lss (ho : o.op = .binOp .lss t x y t') (hx : a.eval x = .int k p) (hy : a.eval y = .int k q) : Runs P a o w (.bool (decide (p < q))) := by
  simp [Runs, execOp, ho, hx, hy, eqGuard, binOp, Op.intCmp]
theorem r_leq (ho : o.op = .binOp .leq t x y t') (hx : a.eval x = .int k p) (hy : a.eval y = .int k q) : Runs P a o w (.bool (decide (p ≤ q))) := by
  simp [Runs, execOp, ho, hx, hy, eqGuard, binOp, Op.intCmp]
theorem r_gtr (ho : o.op = .binOp .gtr t x y t') (hx : a.eval x = .int k p) (hy : a.eval y = .int k q) : Runs P a o w (.bool (decide (q < p))) := by
  simp [Runs, execOp, ho, hx, hy, eqGuard, binOp, Op.intCmp]
theorem r_geq (ho : o.op = .binOp .geq t x y t') (hx : a.eval x = .int k p) (hy : a.eval y = .int k q) : Runs P a o w (.bool (decide (q ≤ p))) := by
  simp [Runs, execOp, ho, hx, hy, eqGuard, binOp, Op.intCmp]
theorem r_eql (ho : o.op = .binOp .eql t x y t') (hx : a.eval x = .int k p) (hy : a.eval y = .int k q) : Runs P a o w (.bool (decide (p = q))) := by
  have : (p == q) = decide (p = q) := rfl
  simp [Runs, execOp, ho, hx, hy, eqGuard, binOp, Op.intCmp, this]
theorem r_neq (ho : o.op = .binOp .neq t x y t') (hx : a.eval x = .int k p) (hy : a.eval y = .int k q) : Runs P a o w (.bool (!decide (p = q))) := by
  have : (p != q) = !decide (p = q) := rfl
  simp [Runs, execOp, ho, hx, hy, eqGuard, binOp, Op.intCmp, this]
theorem r_add (ho : o.op = .binOp .add t x y t') (hx : a.eval x = .int .i64 p) (hy : a.eval y = .int .i64 q) (hb : -9223372036854775808 ≤ p + q ∧ p + q ≤ 9223372036854775807) : Runs P a o w (.int .i64 (p + q)) := by
  simp [Runs, execOp, ho, hx, hy, eqGuard, binOp, Op.intArith]
  rw [IntWalk.i64_in _ hb]
theorem r_sub (ho : o.op = .binOp .sub t x y t') (hx : a.eval x = .int .i64 p) (hy : a.eval y = .int .i64 q) (hb : -9223372036854775808 ≤ p - q ∧ p - q ≤ 9223372036854775807) : Runs P a o w (.int .i64 (p - q)) := by
  simp [Runs, execOp, ho, hx, hy, eqGuard, binOp, Op.intArith]
  rw [IntWalk.i64_in _ hb]
theorem r_mul (ho : o.op = .binOp .mul t x y t') (hx : a.eval x = .int .i64 p) (hy : a.eval y = .int .i64 q) (hb : -9223372036854775808 ≤ p * q ∧ p * q ≤ 9223372036854775807) : Runs P a o w (.int .i64 (p * q)) := by
  simp [Runs, execOp, ho, hx, hy, eqGuard, binOp, Op.intArith]
  rw [IntWalk.i64_in _ hb]
theorem r_addW (ho : o.op = .binOp .add t x y t') (hx : a.eval x = .int k p) (hy : a.eval y = .int k q) : Runs P a o w (.int k (k.wrap (p + q))) := by
  simp [Runs, execOp, ho, hx, hy, eqGuard, binOp, Op.intArith]
theorem r_subW (ho : o.op = .binOp .sub t x y t') (hx : a.eval x = .int k p) (hy : a.eval y = .int k q) : Runs P a o w (.int k (k.wrap (p - q))) := by
  simp [Runs, execOp, ho, hx, hy, eqGuard, binOp, Op.intArith]
theorem r_rem (ho : o.op = .binOp .rem t x y t') (hx : a.eval x = .int k p) (hy : a.eval y = .int k q) (hq : q ≠ 0) : Runs P a o w (.int k (p.tmod q)) := by
  simp [Runs, execOp, ho, hx, hy, eqGuard, binOp, Op.intDiv, hq]
theorem r_quo (ho : o.op = .binOp .quo t x y t') (hx : a.eval x = .int .i64 p) (hy : a.eval y = .int .i64 q) (hq : q ≠ 0) (hb : -9223372036854775808 ≤ p.tdiv q ∧ p.tdiv q ≤ 9223372036854775807) : Runs P a o w (.int .i64 (p.tdiv q)) := by
  simp [Runs, execOp, ho, hx, hy, eqGuard, binOp, Op.intDiv, hq]
  rw [IntWalk.i64_in _ hb]
theorem r_conv {src dst : TypeId} {ks kd : IntKind} (ho : o.op = .convert src dst x) (hs : P.underlying src = some (.int ks)) (hd : P.underlying dst = some (.int kd)) (hx : a.eval x = .int k p) : Runs P a o w (.int kd (kd.wrap p)) := by
  simp [Runs, execOp, ho, hx, convert, run_underlying hs, run_underlying hd, Conv.intToInt]
theorem r_convIn {src dst : TypeId} {ks kd : IntKind} (ho : o.op = .convert src dst x) (hs : P.underlying src = some (.int ks)) (hd : P.underlying dst = some (.int kd)) (hx : a.eval x = .int k p) (h0 : 0 ≤ p) (h1 : p ≤ 9223372036854775807) (hk : kd = .i64 ∨ kd = .u64) : Runs P a o w (.int kd p) := by
  have h := r_conv (w := w) ho hs hd hx
  have e : kd.wrap p = p := by
    rcases hk with rfl | rfl
    · exact IntWalk.i64_in _ (by omega)
    · simp [IntKind.wrap, IntKind.signed, IntKind.bits]; omega
  rwa [e] at h
theorem r_shr1 (ho : o.op = .binOp .shr t x y t') (hx : a.eval x = .int .u64 p) (hy : a.eval y = .int .u64 1) : Runs P a o w (.int .u64 (p / 2)) := by
  have e : p.fdiv 2 = p / 2 := Int.fdiv_eq_ediv_of_nonneg p (by omega)
  simp [Runs, execOp, ho, hx, hy, eqGuard, binOp, Op.shift, IntKind.bits]
  exact e
theorem r_not {b : Bool} (ho : o.op = .unOp .not t x) (hx : a.eval x = .bool b) : Runs P a o w (.bool (!b)) := by
  simp [Runs, execOp, ho, hx, Op.unary]
theorem r_neg (ho : o.op = .unOp .neg t x) (hx : a.eval x = .int .i64 p) (hb : -9223372036854775808 ≤ -p ∧ -p ≤ 9223372036854775807) : Runs P a o w (.int .i64 (-p)) := by
  simp [Runs, execOp, ho, hx, Op.unary, Op.intArith]
  rw [IntWalk.i64_in _ hb]
theorem eq_bool {b c : Bool} (ht : P.underlying t = some .bool) (d : Nat) : (Op.equalIn (d + 1) t (.bool b) (.bool c)).run P w = .ok (b == c) w := by
  simp [Op.equalIn, run_underlying ht]
theorem r_beql {b c : Bool} (ho : o.op = .binOp .eql t x y t') (ht : P.underlying t = some .bool) (hx : a.eval x = .bool b) (hy : a.eval y = .bool c) : Runs P a o w (.bool (b == c)) := by
  have h := eq_bool (P := P) (w := w) (b := b) (c := c) ht 9999
  simp [Runs, execOp, ho, hx, hy, eqGuard, binOp, Op.equal, Op.maxDepth, h]
theorem r_bneq {b c : Bool} (ho : o.op = .binOp .neq t x y t') (ht : P.underlying t = some .bool) (hx : a.eval x = .bool b) (hy : a.eval y = .bool c) : Runs P a o w (.bool (!(b == c))) := by
  have h := eq_bool (P := P) (w := w) (b := b) (c := c) ht 9999
  simp [Runs, execOp, ho, hx, hy, eqGuard, binOp, Op.equal, Op.maxDepth, h]
theorem r_max (hc : o.op = .call { callee := .builtin .max, args := #[x, y], argTypes := #[t, t'] }) (hx : a.eval x = .int k p) (hy : a.eval y = .int k q) : Runs P a o w (.int k (max p q)) := by
  have e : (if q > p then q else p) = max p q := by omega
  simp [Runs, execOp, hc, resolve, invoke, builtin, Builtin.max_, Builtin.max2, hx, hy]
  exact e
theorem r_min (hc : o.op = .call { callee := .builtin .min, args := #[x, y], argTypes := #[t, t'] }) (hx : a.eval x = .int k p) (hy : a.eval y = .int k q) : Runs P a o w (.int k (min p q)) := by
  have e : (if q < p then q else p) = min p q := by omega
  simp [Runs, execOp, hc, resolve, invoke, builtin, Builtin.min_, Builtin.min2, hx, hy]
  exact e
end ints

section memory
variable {t e : TypeId} {x y : Operand} {p : Addr}
theorem r_fieldAddr {f off : Nat} {fs : Array Field} {fd : Field} {m : Nat} (ho : o.op = .fieldAddr t x f) (ht : P.underlying t = some (.struct fs)) (hf : fs[f]? = some fd) (hoff : fd.offset = off) (hz : ∀ w, (sizeOf fd.type).run P w = .ok (m + 1) w) (hx : a.eval x = .pointer (some p)) :
    Runs P a o w (.pointer (some (p.add off))) := by
  subst hoff
  simp [Runs, execOp, ho, hx, Instr.fieldAt, run_underlying ht, hf, Instr.sureAddr, fieldPlace, hz]
theorem r_indexAddr {k : IntKind} {i : Int} {v : Value} {n m : Nat} (ho : o.op = .indexAddr t x y) (ht : P.underlying t = some (.slice e)) (hz : ∀ w, (sizeOf e).run P w = .ok m w) (hx : a.eval x = v) (hv : IsSl v n) (hy : a.eval y = .int k i) (h0 : 0 ≤ i) (h1 : i < n) :
    Runs P a o w (.pointer (some ((ptrOf v).add (i.toNat * m)))) := by
  rcases hv with ⟨_, rfl⟩ | ⟨b, cap, rfl, _⟩
  · omega
  · simp [Runs, execOp, ho, hx, hy, Instr.indexAt, run_underlying ht, hz, asIntOf, h0, h1, ptrOf]
theorem r_load1 {v : Value} (ho : o.op = .load t x) (hz : ∀ w, (isAgg t).run P w = .ok false w) (hx : a.eval x = .pointer (some p)) (hc : w.cell? p = some v) : Runs P a o w v := by
  simp [Runs, execOp, ho, hx, Instr.loadAt, Instr.sureAddr, loadVar, hz, load, Sem.run, hc]
theorem run_loadCellsFrom (vs : List Value) : ∀ (p : Addr) (i : Nat) (acc : Array Value), (∀ j u, vs[j]? = some u → w.cell? (p.add (i + j)) = some u) →
    (loadCellsFrom p i vs.length acc).run P w = .ok (acc ++ vs.toArray) w := by
  induction vs with
  | nil => intro p i acc _; simp [loadCellsFrom]
  | cons v vs ih =>
    intro p i acc h
    have h0 := h 0 v rfl
    rw [Nat.add_zero] at h0
    simp only [List.length_cons, loadCellsFrom]
    simp only [load, Sem.run_bind, Sem.run, h0, Result.andThen_ok]
    rw [ih p (i + 1) (acc.push v) (fun j u hj => by rw [show i + 1 + j = i + (j + 1) by omega]; exact h (j + 1) u (by simpa using hj))]
    simp
theorem r_loadN {vs : List Value} {m : Nat} (ho : o.op = .load t x) (hz : ∀ w, (isAgg t).run P w = .ok true w) (hm : ∀ w, (sizeOf t).run P w = .ok m w) (hx : a.eval x = .pointer (some p)) (hl : vs.length = m)
    (hc : ∀ j u, vs[j]? = some u → w.cell? (p.add j) = some u) : Runs P a o w (.agg vs.toArray) := by
  subst hl
  simp only [Runs, execOp, ho, hx, Instr.loadAt, Instr.sureAddr, loadVar, Sem.run_bind, Sem.run_pure, Result.andThen_ok, hz, if_true, hm, loadCells]
  rw [run_loadCellsFrom vs p 0 #[] (fun j u hj => by rw [Nat.zero_add]; exact hc j u hj)]
  simp
theorem r_len {v : Value} {n : Nat} (hc : o.op = .call { callee := .builtin .len, args := #[x], argTypes := #[t] }) (ht : P.underlying t = some (.slice e)) (hx : a.eval x = v) (hv : IsSl v n) : Runs P a o w (.int .i64 n) := by
  rcases hv with ⟨rfl, rfl⟩ | ⟨b, cap, rfl, _⟩
  · simp [Runs, execOp, hc, resolve, invoke, builtin, Builtin.len_, hx, run_underlying ht, goInt]
  · simp [Runs, execOp, hc, resolve, invoke, builtin, Builtin.len_, hx, run_underlying ht, goInt]
theorem r_lenS {s : ByteArray} (hc : o.op = .call { callee := .builtin .len, args := #[x], argTypes := #[t] }) (ht : P.underlying t = some .string) (hx : a.eval x = .string s) : Runs P a o w (.int .i64 s.size) := by
  simp [Runs, execOp, hc, resolve, invoke, builtin, Builtin.len_, hx, run_underlying ht, goInt]
theorem r_extract {vs : Array Value} {i : Nat} {v : Value} (ho : o.op = .extract x i) (hx : a.eval x = .tuple vs) (hi : vs[i]? = some v) : Runs P a o w v := by
  simp [Runs, execOp, ho, hx, Instr.extract, hi]
theorem r_build {parts : Array (Nat × Operand)} {fs : Array Field} {z : Value} {pl : Array (Nat × Nat)} {cells : Array Value} (ho : o.op = .build t parts) (ht : P.underlying t = some (.struct fs)) (hz : ∀ w, (zeroValue t).run P w = .ok z w)
    (hp : ∀ w, (fs.mapM fun f => (do pure (f.offset, ← sizeOf f.type) : Sem (Nat × Nat))).run P w = .ok pl w) (hf : Instr.fill (pl[·]?) z.cells (parts.map fun (i, x) => (i, a.eval x)).toList = some cells) : Runs P a o w (.agg cells) := by
  simp only [Runs, execOp, ho, Instr.build, Sem.run_bind, hz, Result.andThen_ok, run_underlying ht, hp, hf]
  rfl
end memory
end
end B
end Go.Proofs.YtbhdplicjiejnaaGreatDoor
