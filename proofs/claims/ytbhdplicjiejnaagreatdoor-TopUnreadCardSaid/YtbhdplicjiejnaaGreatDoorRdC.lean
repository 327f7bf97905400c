/-
  tally.Of: it comes to an end; what it hands back hangs on the text alone.
-/
import Derived.Test.YtbhdplicjiejnaaGreatDoorRdB
import Derived.Test.YtbhdplicjiejnaaGreatDoorW8
set_option linter.unusedSimpArgs false
set_option linter.unusedVariables false
namespace Go.Proofs.YtbhdplicjiejnaaGreatDoor
namespace X
open Go.RowKit B

theorem mixedO : Tryz.prog.follows .mixedOrders = true := by kernel_rfl
def smN : SumT := fun _ => none
theorem smN_ok (ρ : Rho) : SumOk Tryz.prog ρ smN := fun f h hh => by cases hh
noncomputable def tal : Code := bodyOf Tryz.f232.body
def talS : Tr SV := .nd (.nd (.nd .lf (some (.p 1 0)) .lf) none .lf) (some (.s [.a 0])) (.nd (.nd .lf (some (.x .i64 (va 0))) .lf) (some (.p 0 0)) .lf)
def talM : Mem := .nd (.nd .lf (some (.ce 235 [.x .i64 (va 0), .x .i64 (va 2), .x .i64 (va 4), .x .i64 (va 6)] true)) .lf) (some (.ce 235 [.i .i64 0, .i .i64 0, .i .i64 0, .i .i64 0] true)) .lf
def talμ : Lin := .mk 0 [(0, -1), (1, 1)]
def talσ0 : List (Nat × Lin) := [(0, .mk 0 []), (2, .mk 0 []), (4, .mk 0 []), (6, .mk 0 [])]
def linOf : SV → Lin
  | .x _ e => e
  | .i _ n => .mk n []
  | _ => .mk 0 []
def talσ (s : Tr SV) (m : Mem) : List (Nat × Lin) := match s.get 4, m.get 1 with
  | some i, some (.ce _ [_, b, c, d] _) => [(0, linOf i), (2, linOf b), (4, linOf c), (6, linOf d)]
  | _, _ => []
def talPC : PC := [va 0, .mk 0 [(0, -1), (1, 1)], .mk 1000 [(1, -1)], va 2, .mk 0 [(0, 2), (2, -1)], va 4, .mk 0 [(0, 2), (4, -1)], va 6, .mk 0 [(0, 2), (6, -1)]]
def isInt : SV → Bool
  | .x .i64 _ => true
  | .i .i64 _ => true
  | _ => false
def talR (vs : List SV) (pc : PC) : Bool := match vs with
  | [.ag [a, b, c, d]] => isInt a && isInt b && isInt c && isInt d && proves pc ((linOf a).sub (va 1)) && proves pc ((va 1).sub (linOf a))
  | _ => false
set_option maxRecDepth 1000000
theorem tal_join : Tryz.f232.body = some (plug (ctxOf tal) (.block (idOf tal) (.loop (loopOf tal)))) := by kernel_rfl
theorem tal_ok : (Nat.ble 1 Tryz.f232.ntmps && dstOks Tryz.f232.ntmps (ctxOf tal).pre && dstOk Tryz.f232.ntmps (loopOf tal) && dstOks Tryz.f232.ntmps (ctxOf tal).post && Nat.ble 2 100) = true := by kernel_rfl
theorem tal_k1 : argC [.s [.a 0]] 0 .lf (fun s0 => evs Tryz.prog smN 1000 (ctxOf tal).pre s0 .lf 0 [va 1, .mk 1000 [(1, -1)]] fun s' m' nx' pc' => Nat.beq nx' 2 && backAt talσ0 2 talS talM talPC s' m' pc') = true := by kernel_rfl
theorem tal_k2 : ev Tryz.prog smN 1000 (loopOf tal) talS talM 2 talPC (fun e s' m' nx' pc' => Nat.ble nx' 100 && match e with
      | .normal => backOk (talσ s' m') 2 talμ talS talM talPC s' m' pc'
      | .exit i => Nat.beq i (idOf tal) && evT Tryz.prog smN 1000 (ctxOf tal).post s' m' nx' pc' fun e s m nx pc => match e with
        | .exit _ => false
        | _ => resC Tryz.prog s m Tryz.f232.results.toList fun vs => talR vs pc
      | .ret => false) = true := by kernel_rfl
theorem isInt_den {v : SV} (h : isInt v = true) (ρ : Rho) (θ : Th) : den ρ θ v = some (.int .i64 ((linOf v).den ρ)) := by
  unfold isInt at h
  split at h
  · rfl
  · simp [den, linOf, const_den]
  · cases h
theorem tally_c (l : List UInt8) (hl : l.length ≤ 1000) : ∃ t1 t2 t3 : Int, ∀ w, Calls Tryz.prog 232 #[.string (bstr l)] w (fun e w' => e = .returned (.agg #[.int .i64 l.length, .int .i64 t1, .int .i64 t2, .int .i64 t3]) ∧ Ext none' w w') := by
  let ρ : Rho := ⟨fun _ => 0, fun _ => l⟩
  have hf : Tryz.prog.funcs[232]? = some Tryz.f232 := by kernel_rfl
  have h1 : (va 1).den ρ = (l.length : Int) := by
    have := ρ.at_l 0
    simp [va, Lin.den, dts]
    exact this
  have hs : Sat ρ [va 1, .mk 1000 [(1, -1)]] := fun e he => by
    rcases List.mem_cons.1 he with rfl | he
    · rw [h1]; omega
    · rcases List.mem_cons.1 he with rfl | he
      · have : (Lin.mk 1000 [(1, -1)]).den ρ = 1000 - (va 1).den ρ := by simp [va, Lin.den, dts]; omega
        rw [this, h1]; omega
      · cases he
  obtain ⟨ρ', vs, pc', e1, e2, e3, e4⟩ := fun_loop (args := [.s [.a 0]]) (Kr := talR) mixedO smN_ok hf tal_join talσ tal_ok tal_k1 tal_k2 ρ hs
  unfold talR at e2
  split at e2
  · rename_i a b c d
    simp only [Bool.and_eq_true] at e2
    obtain ⟨⟨⟨⟨⟨i1, i2⟩, i3⟩, i4⟩, p1⟩, p2⟩ := e2
    have q1 := proves_ok p1 e3
    have q2 := proves_ok p2 e3
    rw [sub_den] at q1 q2
    have h2 : (va 1).den ρ' = (l.length : Int) := by
      have := ρ'.at_l 0
      rw [e1] at this
      simp [va, Lin.den, dts]
      exact this
    refine ⟨(linOf b).den ρ', (linOf c).den ρ', (linOf d).den ρ', fun w => ?_⟩
    have := e4 w [.string (bstr l)] (by simp [dens, den, denS, Pc.den, ρ])
    refine calls_mono this fun e w' ⟨θ', u, h3, h4, h5⟩ => ⟨?_, h5⟩
    rw [h3]
    simp only [retV, den, dens, isInt_den i1, isInt_den i2, isInt_den i3, isInt_den i4, Option.bind_some, Option.map_some, Option.some.injEq] at h4
    rw [← h4]
    have : (linOf a).den ρ' = (l.length : Int) := by omega
    rw [this]
  · cases e2
end X
end Go.Proofs.YtbhdplicjiejnaaGreatDoor
