/-
  gimletlaw0.Low: what it hands back.
-/
import Derived.Test.YtbhdplicjiejnaaGreatDoorChecked
import Derived.Test.YtbhdplicjiejnaaGreatDoorRdA
import Derived.Test.YtbhdplicjiejnaaGreatDoorRdD
set_option linter.unusedSimpArgs false
set_option linter.unusedVariables false
namespace Go.Proofs.YtbhdplicjiejnaaGreatDoor
namespace X
open Go.RowKit B

theorem ops_step {P : Program} {ops : Array Oper} {Q : Exit → Act → World → Prop} {i : Nat} {rest : List Nat} {a : Act} {w : World} {o : Oper} {v : Value} (ho : ops[i]? = some o) (hg : o.guard = none) (h : Runs P a o w v) (k : wpOps P ops Q rest (a.put o.dst v) w) : wpOps P ops Q (i :: rest) a w := by
  rw [wpOps_cons]
  unfold wpOp
  rw [ho]
  have hw : Region.wanted o (yielded ops a.tmps) = true := by simp [Region.wanted, hg]
  simp only [hw, if_true]
  exact .inl (wp_val h k)
theorem ops_next {P : Program} {ops : Array Oper} {Q : Exit → Act → World → Prop} {i d : Nat} {rest : List Nat} {a : Act} {w : World} {o : Oper} {v : Value} (ho : ops[i]? = some o) (hd : o.dst = some d) (hg : o.guard = none) (hs : d < a.tmps.size) (h : Runs P a o w v)
    (k : ∀ a', a'.defers = a.defers → a'.tmps.size = a.tmps.size → B.get a' d = v → (∀ k, k ≠ d → B.get a' k = B.get a k) → wpOps P ops Q rest a' w) : wpOps P ops Q (i :: rest) a w :=
  ops_step ho hg h (k _ (defers_put _ _ _) (size_put _ _ _) (by rw [hd, get_put a d d v hs, if_pos rfl]) fun j hj => by rw [hd, get_put a d j v hs, if_neg hj])
def lowF (x n : Int) : Int := x % 18446744073709551616 % n
theorem lowF_ok {x n : Int} (hn : 0 < n) : 0 ≤ lowF x n ∧ lowF x n < n := ⟨Int.emod_nonneg _ (by omega), Int.emod_lt_of_pos _ hn⟩
theorem low_c (x n : Int) (w : World) (hn : 0 < n) (hn2 : n ≤ 9223372036854775807) : Calls Tryz.prog 6 #[.int .i64 x, .int .i64 n] w (fun e w' => e = .returned (.int .i64 (lowF x n)) ∧ w' = w) := by
  have t3 : Tryz.prog.underlying 3 = some (.int .i64) := by kernel_rfl
  have tU64 : Tryz.prog.underlying 50 = some (.int .u64) := by kernel_rfl
  obtain ⟨l1, l2⟩ := lowF_ok (x := x) hn
  have e1 : IntKind.u64.wrap x = x % 18446744073709551616 := by simp [IntKind.wrap, IntKind.signed, IntKind.bits]
  have e2 : IntKind.u64.wrap n = n := by simp [IntKind.wrap, IntKind.signed, IntKind.bits]; omega
  have e3 : (x % 18446744073709551616).tmod n = lowF x n := Int.tmod_eq_emod_of_nonneg (Int.emod_nonneg _ (by omega))
  have e4 : IntKind.i64.wrap (lowF x n) = lowF x n := IntWalk.i64_in _ (by omega)
  have hf : Tryz.prog.funcs[6]? = some Tryz.f6 := by kernel_rfl
  have hb : Tryz.f6.body = some _ := rfl
  refine calls_of_wp hf hb ?_
  generalize ha : ({ tmps := #[Value.int .i64 x, .int .i64 n] ++ Array.replicate (Tryz.f6.ntmps - #[Value.int .i64 x, .int .i64 n].size) undef, defers := [] } : Act) = a
  have hd : a.defers = [] := by rw [← ha]
  have hs : a.tmps.size = 11 := by rw [← ha]; rfl
  have h0 : B.get a 0 = .int .i64 x := by rw [← ha]; rfl
  have h1 : B.get a 1 = .int .i64 n := by rw [← ha]; rfl
  clear ha
  refine wp_seq (wp_region ?_)
  refine ops_next (d := 4) (i := 0) (rest := []) rfl rfl rfl (by omega) (r_assign rfl rfl) fun a1 d1 s1 g1 k1 => ?_
  refine wp_seq (wp_region ?_)
  refine ops_next (d := 5) (i := 0) (rest := [1, 2, 3, 4, 5, 6]) rfl rfl rfl (by omega) (r_move rfl ((B.eval_tmp _ _).trans ((k1 0 (by omega)).trans h0))) fun a2 d2 s2 g2 k2 => ?_
  refine ops_next (d := 6) (i := 1) (rest := [2, 3, 4, 5, 6]) rfl rfl rfl (by omega) (r_conv rfl t3 tU64 ((B.eval_tmp _ _).trans g2)) fun a3 d3 s3 g3 k3 => ?_
  refine ops_next (d := 7) (i := 2) (rest := [3, 4, 5, 6]) rfl rfl rfl (by omega) (r_move rfl ((B.eval_tmp _ _).trans ((k3 1 (by omega)).trans ((k2 1 (by omega)).trans ((k1 1 (by omega)).trans h1))))) fun a4 d4 s4 g4 k4 => ?_
  refine ops_next (d := 8) (i := 3) (rest := [4, 5, 6]) rfl rfl rfl (by omega) (r_conv rfl t3 tU64 ((B.eval_tmp _ _).trans g4)) fun a5 d5 s5 g5 k5 => ?_
  have q6 : B.get a5 6 = .int .u64 (x % 18446744073709551616) := by rw [k5 6 (by omega), k4 6 (by omega), g3, e1]
  have q8 : B.get a5 8 = .int .u64 n := by rw [g5, e2]
  refine ops_next (d := 9) (v := .int .u64 (lowF x n)) (i := 4) (rest := [5, 6]) rfl rfl rfl (by omega) (r_bin (u := .int .u64 (x % 18446744073709551616)) (v := .int .u64 n) rfl ((B.eval_tmp _ _).trans q6) ((B.eval_tmp _ _).trans q8) (guard_ok (by simp) (by simp)) (by
    have : n ≠ 0 := by omega
    simp [binOp, Op.intDiv, this, e3])) fun a6 d6 s6 g6 k6 => ?_
  refine ops_next (d := 10) (i := 5) (rest := [6]) rfl rfl rfl (by omega) (r_conv rfl tU64 t3 ((B.eval_tmp _ _).trans g6)) fun a7 d7 s7 g7 k7 => ?_
  refine ops_next (d := 4) (i := 6) (rest := []) rfl rfl rfl (by omega) (r_assign rfl ((B.eval_tmp _ _).trans g7)) fun a8 d8 s8 g8 k8 => ?_
  rw [e4] at g8
  refine wp_ret ⟨by rw [d8, d7, d6, d5, d4, d3, d2, d1, hd], .int .i64 (lowF x n), ?_, rfl, rfl⟩
  refine run_results (us := [.int .i64 (lowF x n)]) ?_
  show ([ResultVar.tmp 4].mapM (resM a8)).run Tryz.prog w = _
  have g9 : a8.tmps.getD 4 undef = .int .i64 (lowF x n) := g8
  simp [resM, g9]
end X
end Go.Proofs.YtbhdplicjiejnaaGreatDoor
