/-
  TopEdits: RtS, RtJ, RtP, RtQ, RtR, RtL, RtU.
-/
import Derived.Test.YtebfahobllghnaaGreatDoorEdD1
import Derived.Test.YtebfahobllghnaaGreatDoorEdB6
import Derived.Test.YtebfahobllghnaaGreatDoorEdB7
import Derived.Test.YtebfahobllghnaaGreatDoorEdC8
import Derived.Test.YtebfahobllghnaaGreatDoorRtO
import Derived.Test.YtebfahobllghnaaGreatDoorRtE
set_option linter.unusedSimpArgs false
set_option linter.unusedVariables false
namespace Go.Proofs.YtebfahobllghnaaGreatDoor
namespace X
open Go.RowKit B
set_option maxRecDepth 1000000
section
variable {ρ ρ' : Rho} {P : Program} {n b n' b' : Nat} {xs ys : List Se}
theorem cutW_ok {f : Nat} {k : Known} (h : KnownOk P f k ρ) : CallY P ρ f (cutW k) := fun args m nx pc hs => cutG_yl rN_ok (fun pc hp h0 => by
  have c := h h0
  exact ⟨c.enter, sat_app c.pc hp, c.le, c.new, c.run⟩) hs
theorem enterTurn (args : Array Value) (w : World) : (callFunc 65 args).run Tryz.prog w = .ok (.enter 65 args) w := enter_run (fn := Tryz.f65) (by kernel_rfl) (by kernel_rfl) rfl args w
theorem bstr_tl (l : List UInt8) : (bstr l).data.toList = l := by simp [bstr]
theorem turn_y {s t : List UInt8} {m : Mem} {nx : Nat} {pc : PC} {A B : Str} {X Y : SV} {C : Str} (hs : Sat ρ pc) (hA : denS ρ A = s) (hB : denS ρ B = t) (hC : denS ρ C = midG s t) (hX : ∀ θ, den ρ θ X = some (.int .i64 (frF s t : Nat))) (hY : ∀ θ, den ρ θ Y = some (.int .i64 ((s.length : Int) - (enF s t : Nat)))) (ls : s.length ≤ 1000) (lt : t.length ≤ 1000) :
    CallR Tryz.prog ρ 65 [.s A, .s B] m nx ⟨.ag [X, Y, .s C], m, nx, pc⟩ := CallR.pur enterTurn hs fun θ w vs hvs => by
  simp only [dens, den, hA, hB, Option.bind_some, Option.map_some, Option.some.injEq] at hvs
  subst hvs
  have hcall := turn_c (bstr s) (bstr t) w (by rw [bstr_size]; omega) (by rw [bstr_size]; omega)
  rw [bstr_tl, bstr_tl] at hcall
  refine ⟨_, ?_, hcall⟩
  have q3 := en_le1 (l := s) (m := t)
  have q4 := en_le2 (l := s) (m := t)
  simp only [den, dens, hX, hY, hC, Option.bind_some, Option.map_some, bstr_size, bstr_ext]
  unfold midG
  rw [show t.length - frF s t - enF s t = t.length - enF s t - frF s t by omega]
theorem sx_den (h : RowIs ρ n b xs) (h' : RowIs ρ' n' b' xs) (t : Nat) (θ : Th) : den ρ θ (rV t n) = den ρ' θ (rV t n') := by
  simp only [rV, den, h.len, h'.len]
theorem tv_den {t : Nat} {W W' : Str} (h : denS ρ W = denS ρ' W') (θ : Th) : den ρ θ (tv t W) = den ρ' θ (tv t W') := by
  simp only [tv, den, lenS_den, h]
theorem mp_eq {ck : Nat} : EqB ρ ρ' (.mp [] ck) (.mp [] ck) := ⟨rfl, fun θ w t => Iff.rfl⟩
theorem setL_eq {W W' : Str} {q q' n b n1 b1 n' b' n1' b1' : Nat} (hW : denS ρ W = denS ρ' W') (hq : ρ.s q = ρ'.s q') (h : RowIs ρ n b xs) (h' : RowIs ρ' n' b' xs) (h1 : RowIs ρ n1 b1 ys) (h1' : RowIs ρ' n1' b1' ys) : EqL ρ ρ' (setL W q n b n1 b1) (setL W' q' n' b' n1' b1') :=
  ⟨rfl, EqB.ce fun θ => rfl, rfl, h1.eqr h1', rfl, EqB.ce fun θ => by simp only [dens, sx_den h h' 9 θ]; rfl, rfl, EqB.hb hW (by simp only [denA, hq]), rfl, EqB.ce fun θ => by simp only [dens, tv_den hW θ]; rfl, rfl, EqB.hb rfl rfl, rfl, mp_eq, rfl, EqB.ce fun θ => rfl, rfl, h.eqr h', trivial⟩
theorem setL'_eq {W W' : Str} {q q' n b n' b' : Nat} (hW : denS ρ W = denS ρ' W') (hq : ρ.s q = ρ'.s q') (h : RowIs ρ n b xs) (h' : RowIs ρ' n' b' xs) : EqL ρ ρ' (setL' W q n b) (setL' W' q' n' b') :=
  ⟨rfl, EqB.ce fun θ => rfl, rfl, h.eqr h', rfl, EqB.ce fun θ => by simp only [dens, sx_den h h' 11 θ]; rfl, rfl, EqB.ce fun θ => by simp only [dens, tv_den hW θ]; rfl, rfl, EqB.hb rfl rfl, rfl, mp_eq, rfl, EqB.ce fun θ => rfl, rfl, EqB.hb hW (by simp only [denA, hq]), rfl, h.eqr h', trivial⟩
theorem setA_den {N N' : Str} (hN : denS ρ N = denS ρ' N') (h : RowIs ρ n b xs) (h' : RowIs ρ' n' b' xs) (θ : Th) : dens ρ θ [.p 0 0, .ag [.s N, rV 1 n, .ns]] = dens ρ' θ [.p 0 0, .ag [.s N', rV 1 n', .ns]] := by
  simp only [dens, den, hN, sx_den h h' 1 θ]
def rowsV (xs zs ys : List Se) (j : Nat) : Int := if j = 5000 then xs.length else if j < 5020 then cellN xs (j - 5001) else if j = 5020 then zs.length else if j < 5040 then cellN zs (j - 5021) else if j = 5040 then ys.length else cellN ys (j - 5041)
theorem row_of {ρ : Rho} {n b : Nat} {xs : List Se} (h6 : xs.length ≤ 6) (hn : ρ.v n = xs.length) (hc : ∀ i, i < 12 → ρ.v (b + i) = cellN xs i) : RowIs ρ n b xs := ⟨hn, fun j hj => by
  rw [hc (2 * j) (by omega), hc (2 * j + 1) (by omega)]
  unfold cellN
  rw [if_pos (by omega), if_neg (by omega), show 2 * j / 2 = j by omega, show (2 * j + 1) / 2 = j by omega]
  exact ⟨rfl, rfl⟩⟩
theorem rows3 {xs zs ys : List Se} {s : Nat → List UInt8} (h1 : xs.length ≤ 6) (h2 : zs.length ≤ 6) (h3 : ys.length ≤ 6) : RowIs ⟨rowsV xs zs ys, s⟩ 5000 5001 xs ∧ RowIs ⟨rowsV xs zs ys, s⟩ 5020 5021 zs ∧ RowIs ⟨rowsV xs zs ys, s⟩ 5040 5041 ys := by
  refine ⟨row_of h1 rfl fun i hi => ?_, row_of h2 rfl fun i hi => ?_, row_of h3 rfl fun i hi => ?_⟩
  · show rowsV xs zs ys (5001 + i) = _
    unfold rowsV
    rw [if_neg (by omega), if_pos (by omega), show 5001 + i - 5001 = i by omega]
  · show rowsV xs zs ys (5021 + i) = _
    unfold rowsV
    rw [if_neg (by omega), if_neg (by omega), if_neg (by omega), if_pos (by omega), show 5021 + i - 5021 = i by omega]
  · show rowsV xs zs ys (5041 + i) = _
    unfold rowsV
    rw [if_neg (by omega), if_neg (by omega), if_neg (by omega), if_neg (by omega), if_neg (by omega), show 5041 + i - 5041 = i by omega]
theorem turnS_ok {W N : List UInt8} (hW : denS ρ sW = W) (hN : denS ρ sN = N) (lW : W.length ≤ 1000) (lN : N.length ≤ 1000) (h10 : ρ.s 10 = W.take (frF W N)) (h11 : ρ.s 11 = midF W N) (h13 : ρ.s 13 = midG W N) : CallY Tryz.prog ρ 65 turnS := fun args m nx pc hs => by
  unfold turnS
  split
  · rename_i a b
    split
    · rename_i hc
      simp only [Bool.and_eq_true] at hc
      have := eqStr_ok hc.1
      subst this
      have := eqStr_ok hc.2
      subst this
      have l10 : (ρ.s 10).length = frF W N := by rw [h10]; exact mid_len1
      have l11 : (ρ.s 11).length = W.length - frF W N - enF W N := by rw [h11]; exact mid_len2
      have q3 := en_le1 (l := W) (m := N)
      refine Yl.pure (⟨.ag [xl (lenS [.a 10]), xl (lenS [.a 10, .a 11]), .s [.a 13]], m, nx, pc⟩ : O4) (turn_y hs hW hN (by rw [denA]; exact h13) (fun θ => ?_) (fun θ => ?_) lW lN)
      · show some (Value.int .i64 ((lenS [.a 10]).den ρ)) = _
        rw [lenS_den, denA, l10]
      · show some (Value.int .i64 ((lenS [.a 10, .a 11]).den ρ)) = _
        rw [lenS_den, den1, denA, List.length_append, l10, l11]
        congr 2
        omega
    · exact Yl.no
  · exact Yl.no
theorem replS_ok {U X V Y Q Q1 Q2 : List UInt8} (h10 : ρ.s 10 = U) (h11 : ρ.s 11 = X) (h12 : ρ.s 12 = V) (h13 : ρ.s 13 = Y) (h54 : ρ.s 54 = Q) (h55 : ρ.s 55 = Q1) (h56 : ρ.s 56 = Q2)
    (k1 : ∀ ρ : Rho, ρ.s 50 = U → ρ.s 51 = X → ρ.s 52 = V → ρ.s 53 = [] → ρ.s 54 = Q → ρ.s 55 = Q1 → KnownOk Tryz.prog 176 kRq ρ) (k2 : ∀ ρ : Rho, ρ.s 50 = U → ρ.s 51 = [] → ρ.s 52 = V → ρ.s 53 = Y → ρ.s 54 = Q1 → ρ.s 55 = Q2 → KnownOk Tryz.prog 176 kRq ρ) : CallY Tryz.prog ρ 176 replS := CallY.of fun args m nx pc hs => by
  unfold replS
  split
  · exact ⟨_, cutT_ok (k := kRq) (τ := ⟨[(50, [.a 10]), (51, [.a 11]), (52, [.a 12]), (53, []), (54, [.a 54]), (55, [.a 55])], []⟩) (k1 _ ((denA 10).trans h10) ((denA 11).trans h11) ((denA 12).trans h12) rfl ((denA 54).trans h54) ((denA 55).trans h55)), fun K => rfl⟩
  · exact ⟨_, cutT_ok (k := kRq) (τ := ⟨[(50, [.a 10]), (51, []), (52, [.a 12]), (53, [.a 13]), (54, [.a 55]), (55, [.a 56])], []⟩) (k2 _ ((denA 10).trans h10) rfl ((denA 12).trans h12) ((denA 13).trans h13) ((denA 55).trans h55) ((denA 56).trans h56)), fun K => rfl⟩
theorem set_ex {W N Q : List UInt8} (hQ : PcOk Q) (hs : sumQ Q = W.length) (lW : W.length ≤ 300) (lN : N.length ≤ 300) : ∃ Q', PcOk Q' ∧ sumQ Q' = N.length ∧ ∀ (ρ : Rho) (Ws Ns : Str) (q q' n b n' b' : Nat) (xs ys : List Se), denS ρ Ws = W → denS ρ Ns = N → ρ.s q = Q → ρ.s q' = Q' → RowIs ρ n b xs → RowIs ρ n' b' ys →
    (1 ≤ xs.length ∧ xs.length ≤ 6 ∧ ∀ x ∈ xs, InE W.length x) → (1 ≤ ys.length ∧ ys.length ≤ 6 ∧ Apt ys ∧ ∀ y ∈ ys, InE N.length y) → KnownOk Tryz.prog 27 (kSetM Ws Ns q q' n b n' b') ρ := by
  by_cases e : W = N
  · subst e
    refine ⟨Q, hQ, hs, fun ρ Ws Ns q q' n b n' b' xs ys hW hN hq hq' hr hr' ⟨x1, x6, xL⟩ ⟨y1, y6, yA, yL⟩ => ?_⟩
    let ρ1 : Rho := ⟨rowsV xs [] ys, fun i => if i = 10 then W else Q⟩
    obtain ⟨r1, -, r3⟩ := rows3 (xs := xs) (zs := []) (ys := ys) (s := ρ1.s) x6 (by simp) y6
    have d10 : denS ρ1 sI = W := denA 10
    have hn : KnownOk Tryz.prog 51 (kNmR (xl (lenS sI)) 5040 5041 5040 5041) ρ1 := kNmR_ok (L := W.length) r3 (by rw [norm_apt y1 yA]; exact r3) y1 y6 (by omega) yL fun θ => by
      show some (Value.int .i64 ((lenS sI).den ρ1)) = _
      rw [lenS_den, d10]
    have K : KnownOk Tryz.prog 27 kSetI ρ1 := known_of mixP (withF_ok (withF_ok (withF_ok (smZ_okN _ _) (cutW_ok hn)) sSz_ok) sTx_ok) rN_ok set_i
    refine K.ret (sat_cons ?_ sat_nil) (fun θ => setA_den (hN.trans d10.symm) hr' r3 θ) (setL_eq (hW.trans d10.symm) hq hr r1 hr' r3) (fun θ => rfl) (setL'_eq (d10.trans hN.symm) hq'.symm r3 hr') rfl rfl sat_nil rfl rfl rfl rfl
    rw [sub_den, const_den, lenS_den, d10]; omega
  · have q1 := en_le1 (l := W) (m := N)
    have q2 := en_le2 (l := W) (m := N)
    have hWs : W = W.take (frF W N) ++ midF W N ++ W.drop (W.length - enF W N) := mid_was.symm
    have hNs : N = W.take (frF W N) ++ midG W N ++ W.drop (W.length - enF W N) := mid_now.symm
    have l1 : (W.take (frF W N)).length = frF W N := mid_len1
    have l2 : (midF W N).length = W.length - frF W N - enF W N := mid_len2
    have l3 : (W.drop (W.length - enF W N)).length = enF W N := mid_len3
    have l4 : (midG W N).length = N.length - frF W N - enF W N := by
      have := congrArg List.length hNs
      simp only [List.length_append, l1, l3] at this
      omega
    obtain ⟨Q1, p1, s1, k1⟩ := replace_ex (X := W.take (frF W N)) (x := midF W N) (Y := W.drop (W.length - enF W N)) (s := []) hQ (by rw [← hWs]; exact hs) (by simp only [l1, l2, l3, List.length_nil]; omega)
    obtain ⟨Q2, p2, s2, k2⟩ := replace_ex (X := W.take (frF W N)) (x := []) (Y := W.drop (W.length - enF W N)) (s := midG W N) p1 s1 (by simp only [l1, l3, l4, List.length_nil]; omega)
    rw [← hNs] at s2
    refine ⟨Q2, p2, s2, fun ρ Ws Ns q q' n b n' b' xs ys hW hN hq hq' hr hr' ⟨x1, x6, xL⟩ ⟨y1, y6, yA, yL⟩ => ?_⟩
    have xL3 : ∀ x ∈ xs, InE 300 x := fun x hx => ⟨(xL x hx).1, by have := (xL x hx).2; omega⟩
    obtain ⟨zs, hz⟩ : ∃ zs, zs = normE (xs.map (mwS (frF W N : Nat) ((frF W N + (W.length - frF W N - enF W N) : Nat) : Int) (midG W N).length)) := ⟨_, rfl⟩
    have z6 : zs.length ≤ 6 := by
      have := normE_len (xs := xs.map (mwS (frF W N : Nat) ((frF W N + (W.length - frF W N - enF W N) : Nat) : Int) (midG W N).length)) (L := 1000) (by rw [List.length_map]; exact x1) (fun y hy => by
        obtain ⟨x, hx, rfl⟩ := List.mem_map.1 hy
        obtain ⟨b1, b2, b3, b4⟩ := in_bnd (xL3 x hx)
        have c1 := mwF_bnd (f := (frF W N : Nat)) (t := ((frF W N + (W.length - frF W N - enF W N) : Nat) : Int)) (n := ((midG W N).length : Int)) b1 b2 (by omega) (by omega) (by omega) (by omega) (by omega)
        have c2 := mwF_bnd (f := (frF W N : Nat)) (t := ((frF W N + (W.length - frF W N - enF W N) : Nat) : Int)) (n := ((midG W N).length : Int)) b3 b4 (by omega) (by omega) (by omega) (by omega) (by omega)
        refine ⟨?_, ?_⟩
        · show 0 ≤ min (mwF _ _ _ _) (mwF _ _ _ _)
          omega
        · show max (mwF _ _ _ _) (mwF _ _ _ _) ≤ 1000
          omega) (by omega) (by omega)
      rw [List.length_map] at this
      rw [hz]; omega
    let ρ1 : Rho := ⟨rowsV xs zs ys, fun i => if i = 10 then W.take (frF W N) else if i = 11 then midF W N else if i = 12 then W.drop (W.length - enF W N) else if i = 13 then midG W N else if i = 54 then Q else if i = 55 then Q1 else if i = 56 then Q2 else []⟩
    obtain ⟨r1, r2, r3⟩ := rows3 (xs := xs) (zs := zs) (ys := ys) (s := ρ1.s) x6 z6 y6
    have dW : denS ρ1 sW = W := by
      show denS ρ1 [.a 10, .a 11, .a 12] = W
      rw [den1, den1, denA, ← List.append_assoc]
      exact hWs.symm
    have dN : denS ρ1 sN = N := by
      show denS ρ1 [.a 10, .a 13, .a 12] = N
      rw [den1, den1, denA, ← List.append_assoc]
      exact hNs.symm
    have d10 : (lenS [.a 10]).den ρ1 = (frF W N : Nat) := by rw [lenS_den, denA]; show ((W.take (frF W N)).length : Int) = _; rw [l1]
    have d11 : (lenS [.a 10, .a 11]).den ρ1 = ((frF W N + (W.length - frF W N - enF W N) : Nat) : Int) := by
      rw [lenS_den, den1, denA, List.length_append]
      show (((W.take (frF W N)).length + (midF W N).length : Nat) : Int) = _
      rw [l1, l2]
    have hn : KnownOk Tryz.prog 51 (kNmR (xl (lenS sN)) 5040 5041 5040 5041) ρ1 := kNmR_ok (L := N.length) r3 (by rw [norm_apt y1 yA]; exact r3) y1 y6 (by omega) yL fun θ => by
      show some (Value.int .i64 ((lenS sN).den ρ1)) = _
      rw [lenS_den, dN]
    have hm : KnownOk Tryz.prog 118 (kMvR 5000 5001 5020 5021 (xl (lenS [.a 10])) (xl (lenS [.a 10, .a 11])) (.s [.a 13])) ρ1 := kMvR_ok (l := midG W N) r1 (by rw [← hz]; exact r2) x1 x6 xL3 (by omega) (by omega) (by omega) (by omega) (fun θ => by
      show some (Value.int .i64 ((lenS [.a 10]).den ρ1)) = _
      rw [d10]) (fun θ => by
      show some (Value.int .i64 ((lenS [.a 10, .a 11]).den ρ1)) = _
      rw [d11]) fun θ => by
      show some (Value.string (bstr (denS ρ1 [.a 13]))) = _
      rw [denA]; rfl
    have K : KnownOk Tryz.prog 27 kSetC ρ1 := known_of mixP (withF_ok (withF_ok (withF_ok (withF_ok (withF_ok (withF_ok (withF_ok (smZ_okN _ _) (fun args m nx pc hs => sorted_yl hs)) (cutW_ok hm)) (cutW_ok hn)) (replS_ok rfl rfl rfl rfl rfl rfl rfl k1 k2)) (turnS_ok dW dN (by omega) (by omega) rfl rfl rfl)) sSz_ok) sTx_ok) rN_ok set_n
    refine K.ret (sat_cons ?_ (sat_cons ?_ (sat_cons ?_ sat_nil))) (fun θ => setA_den (hN.trans dN.symm) hr' r3 θ) (setL_eq (hW.trans dW.symm) hq hr r1 hr' r3) (fun θ => rfl) (setL'_eq (dN.trans hN.symm) hq'.symm r3 hr') rfl rfl sat_nil rfl rfl rfl rfl
    · rw [sub_den, const_den, lenS_den, dW]; omega
    · rw [sub_den, const_den, lenS_den, dN]; omega
    · have ne : midF W N ≠ midG W N := fun q => e (by rw [hWs, q]; exact hNs.symm)
      have := ρ1.at_q 11 13 (by omega)
      have e0 : ρ1.at sQv = 0 := by
        show ρ1.at (8 * (11 + 16 * (256 + 13)) + 7) = 0
        rw [this]
        show (if midF W N = midG W N then (1 : Int) else 0) = 0
        rw [if_neg ne]
      show 0 ≤ (Lin.mk 0 [(sQv, -1)]).den ρ1
      simp only [Lin.den, dts, e0]
      omega
end
end X
end Go.Proofs.YtebfahobllghnaaGreatDoor
namespace Go.Proofs.YtebfahobllghnaaGreatDoor
namespace X
open Go.RowKit B
set_option maxRecDepth 1000000
structure TopR (m : Nat) (ρ : Rho) (x : Nat → List Se) : Prop where
  row : ∀ i, i ≤ m → RowIs ρ (rn i) (rb i) (x i)
  n1 : ∀ i, i ≤ m → 1 ≤ (x i).length
  n6 : ∀ i, i ≤ m → (x i).length ≤ 6
  apt : ∀ i, i ≤ m → Apt (x i)
  inn : ∀ i, i ≤ m → ∀ y ∈ x i, InE (denS ρ (wS m i)).length y
  len : ∀ i, i ≤ m → (denS ρ (wS m i)).length ≤ 300
  mv : ∀ i, i < m → x i = normE ((x (i + 1)).map (mwS ((sgF i).den ρ) ((sgT i).den ρ) (ρ.s (40 + i)).length))
  ft : ∀ i, i < m → 0 ≤ (sgF i).den ρ ∧ (sgF i).den ρ ≤ (sgT i).den ρ ∧ (sgT i).den ρ ≤ 300
  tl : ∀ i, i < m → (ρ.s (40 + i)).length ≤ 300
  pc : Sat ρ (pcM m)
section
variable {ρ : Rho} {m : Nat} {x : Nat → List Se}
theorem rowI_ok : ∀ {f n i : Nat}, rowI m f n = some i → i ≤ m ∧ n = rn i
  | 0, n, i, h => by cases h
  | f + 1, n, i, h => by
    unfold rowI at h
    split at h
    · rename_i hb
      cases h
      exact ⟨Nat.sub_le _ _, Nat.eq_of_beq_eq_true hb⟩
    · exact rowI_ok h
theorem rowJ_ok {n i : Nat} (h : rowJ m n = some i) : i ≤ m ∧ n = rn i := rowI_ok h
theorem cloneT_ok (h : TopR m ρ x) : CallY Tryz.prog ρ 44 (cloneT m) := CallY.of fun args mm nx pc hs => by
  unfold cloneT
  split
  · split
    · rename_i i hi
      obtain ⟨q, -⟩ := rowJ_ok hi
      exact ⟨_, cutW_ok (kClR_ok (h.row i q) (h.n1 i q) (h.n6 i q)), fun K => rfl⟩
    · exact ⟨_, CallY.no, fun K => rfl⟩
  · exact ⟨_, CallY.no, fun K => rfl⟩
theorem equalT_of {f : Nat} (hk : ∀ i, i ≤ m → KnownOk Tryz.prog f (kEqR (rn i) (rb i) (rn i) (rb i)) ρ) : CallY Tryz.prog ρ f (equalT m) := CallY.of fun args mm nx pc hs => by
  unfold equalT
  split
  · split
    · rename_i i hi
      exact ⟨_, cutW_ok (hk i (rowJ_ok hi).1), fun K => rfl⟩
    · exact ⟨_, CallY.no, fun K => rfl⟩
  · exact ⟨_, CallY.no, fun K => rfl⟩
theorem equalT_ok (h : TopR m ρ x) : CallY Tryz.prog ρ 28 (equalT m) := equalT_of fun i q => kEqR_ok (h.row i q) (h.row i q) (h.n1 i q) (h.n6 i q)
theorem lselsT_ok (h : TopR m ρ x) : CallY Tryz.prog ρ 10 (equalT m) := equalT_of fun i q => kLsR_ok (h.row i q) (h.row i q) (h.n1 i q) (h.n6 i q)
theorem normT_ok (h : TopR m ρ x) : CallY Tryz.prog ρ 51 (normT m) := CallY.of fun args mm nx pc hs => by
  unfold normT
  split
  · split
    · rename_i i hi
      obtain ⟨q, -⟩ := rowJ_ok hi
      have l := h.len i q
      exact ⟨_, cutW_ok (kNmR_ok (L := (denS ρ (wS m i)).length) (h.row i q) (by rw [norm_apt (h.n1 i q) (h.apt i q)]; exact h.row i q) (h.n1 i q) (h.n6 i q) (by omega) (h.inn i q) fun θ => by
        show some (Value.int .i64 ((lenS (wS m i)).den ρ)) = _
        rw [lenS_den]), fun K => rfl⟩
    · exact ⟨_, CallY.no, fun K => rfl⟩
  · exact ⟨_, CallY.no, fun K => rfl⟩
theorem in_300 (h : TopR m ρ x) {i : Nat} (q : i ≤ m) : ∀ y ∈ x i, InE 300 y := fun y hy => by
  have a := h.inn i q y hy
  have b := h.len i q
  exact ⟨a.1, by have := a.2; omega⟩
theorem moveT_ok (h : TopR m ρ x) : CallY Tryz.prog ρ 118 (moveT m) := CallY.of fun args mm nx pc hs => by
  unfold moveT
  split
  · split
    · rename_i i hi
      obtain ⟨q, -⟩ := rowJ_ok hi
      have q : i + 1 ≤ m := q
      obtain ⟨f1, f2, f3⟩ := h.ft i (by omega)
      refine ⟨_, cutW_ok (kMvR_ok (f := (sgF i).den ρ) (t := (sgT i).den ρ) (l := ρ.s (40 + i)) (h.row (i + 1) q) (by rw [← h.mv i (by omega)]; exact h.row i (by omega)) (h.n1 _ q) (h.n6 _ q) (in_300 h q) f1 f2 f3 (h.tl i (by omega)) (fun θ => rfl) (fun θ => rfl) fun θ => ?_), fun K => rfl⟩
      show some (Value.string (bstr (denS ρ [.a (40 + i)]))) = _
      rw [denA]
    · exact ⟨_, CallY.no, fun K => rfl⟩
  · exact ⟨_, CallY.no, fun K => rfl⟩
theorem smFd_ok (h : TopR m ρ x) : SumOk Tryz.prog ρ (smFd m) := withF_ok (withF_ok (withF_ok (withF_ok (smZ_okN _ _) (cloneT_ok h)) (equalT_ok h)) (normT_ok h)) (moveT_ok h)
theorem kFD_ok (h : TopR m ρ x) {k : Nat} (hk : fdK m k = true) : KnownOk Tryz.prog 55 (kFD m k) ρ := known_of mixP (smFd_ok h) rN_ok hk
theorem kFD1_ok (h : TopR m ρ x) {i : Nat} (hk : fd1K m i = true) : KnownOk Tryz.prog 55 (kFD1 m i) ρ := known_of mixP (smFd_ok h) rN_ok hk
theorem fdT_ok (h : TopR m ρ x) {k : Nat} (hk : fdK m k = true) (h1 : ∀ i, i < m → fd1K m i = true) : CallY Tryz.prog ρ 55 (fdT m k) := CallY.of fun args mm nx pc hs => by
  unfold fdT
  split
  · split
    · exact ⟨_, cutW_ok (kFD_ok h hk), fun K => rfl⟩
    · split
      · rename_i hc
        simp only [Bool.and_eq_true, Nat.blt_eq] at hc
        exact ⟨_, cutW_ok (kFD1_ok h (h1 _ hc.2)), fun K => rfl⟩
      · exact ⟨_, CallY.no, fun K => rfl⟩
  · exact ⟨_, CallY.no, fun K => rfl⟩
theorem fndE_ok {q n : Nat} : ∀ {l : List StE} {e : StE}, fndE q n l = some e → e ∈ l
  | [], e, h => by cases h
  | a :: l, e, h => by
    unfold fndE at h
    split at h
    · cases h; exact List.mem_cons_self
    · exact List.mem_cons_of_mem _ (fndE_ok h)
theorem setT_ok (h : ∀ e ∈ setE m, KnownOk Tryz.prog 27 (kSe m e) ρ) : CallY Tryz.prog ρ 27 (setT m) := CallY.of fun args mm nx pc hs => by
  unfold setT
  split
  · split
    · split
      · rename_i e he
        exact ⟨_, cutW_ok (h e (fndE_ok he)), fun K => rfl⟩
      · exact ⟨_, CallY.no, fun K => rfl⟩
    · exact ⟨_, CallY.no, fun K => rfl⟩
  · exact ⟨_, CallY.no, fun K => rfl⟩
end
end X
end Go.Proofs.YtebfahobllghnaaGreatDoor
namespace Go.Proofs.YtebfahobllghnaaGreatDoor
namespace X
open Go.RowKit B
set_option maxRecDepth 1000000
section
variable {ρ : Rho}
theorem getNT (t : Nat) : (mkU kNwT.l1 .lf).get t = if t = 3 then some (.ce 169 [.p 0 0, .np] true) else if t = 2 then some numW else if t = 0 then some diceW else none := getL (l := kNwT.l1) rfl t
theorem getNw (t : Nat) : (mkU kNw.l1 .lf).get t = if t = 61 then some hD else if t = 60 then some (hT 241 [] []) else if t = 3 then some (.ce 169 [.p 61 0, tv 60 []] true) else none := getL (l := kNw.l1) rfl t
theorem kNw_ok : KnownOk Tryz.prog 68 kNw ρ := fun hs => by
  have K : KnownOk Tryz.prog 68 kNwT ρ := known_of mixP (smZ_okN _ _) rN_ok nw_k
  refine CallR.post (r' := O4.of kNwT) (K sat_nil) (fun θ2 w' v _ hM hfr hv => ?_) sat_nil (by decide) (fun t _ q => ?_)
  · have hM : MemOk ρ θ2 (mkU kNwT.l1 .lf).get w' := hM
    have f60 : θ2 60 = none := hfr 60 (by decide) (by decide)
    have f61 : θ2 61 = none := hfr 61 (by decide) (by decide)
    obtain ⟨g0, c0, vs0, da, r0, e0, a0, z0, d0, -, t0, x0⟩ := hM.holds 0 _ (getNT 0)
    obtain ⟨gn, cn, vs2, na, r2, e2, a2, z2, d2, -, t2, -⟩ := hM.holds 2 _ (getNT 2)
    obtain ⟨gr, cr, vs3, ra, r3, e3, a3, z3, d3, o3, t3, x3⟩ := hM.holds 3 _ (getNT 3)
    have hne : g0 ≠ gn := fun e => by
      subst e
      exact absurd (hM.inj 0 2 g0 ⟨_, e0, by rw [getNT]; rfl⟩ ⟨_, e2, by rw [getNT]; rfl⟩) (by decide)
    simp only [diceW, i64W, dens, den, e2, Option.map_some, Option.bind_some, Option.some.injEq] at d0
    subst d0
    simp only [numW, dens, den, Option.map_some, Option.bind_some, Option.some.injEq] at d2
    subst d2
    simp only [dens, den, e0, Option.map_some, Option.bind_some, Option.some.injEq] at d3
    subst d3
    have x0 := x0 rfl
    subst x0
    let θ3 : Th := fun t => if t = 60 then some (0, lsE []) else if t = 61 then some (g0, lsE [g0, gn]) else θ2 t
    have g60 : θ3 60 = some (0, lsE []) := rfl
    have g61 : θ3 61 = some (g0, lsE [g0, gn]) := rfl
    have g3 : θ3 3 = some (gr, cr) := e3
    have own : ∀ {fa : Bool}, ∀ s g, Own fa θ3 (mkU kNw.l1 .lf).get s g → (s = 61 ∧ (g = g0 ∨ g = gn)) ∨ (s = 3 ∧ g = gr) := fun s g ⟨y, y1, y2⟩ => by
      rw [getNw] at y2
      split at y2
      · rename_i e; subst e; rw [g61] at y1; cases y1
        have y2 : g ∈ lsD (lsE [g0, gn]) := y2
        rw [lsD_E] at y2
        exact .inl ⟨rfl, by simpa using y2⟩
      · split at y2
        · rename_i e; subst e; rw [g60] at y1; cases y1
          have y2 : g ∈ lsD (lsE []) := y2
          rw [lsD_E] at y2
          cases y2
        · split at y2
          · rename_i e; subst e; rw [g3] at y1; cases y1; exact .inr ⟨rfl, y2⟩
          · exact y2.elim
    have o0 : ∀ {fa : Bool}, Own fa θ2 (mkU kNwT.l1 .lf).get 0 g0 := ⟨_, e0, by rw [getNT]; rfl⟩
    have o2 : ∀ {fa : Bool}, Own fa θ2 (mkU kNwT.l1 .lf).get 2 gn := ⟨_, e2, by rw [getNT]; rfl⟩
    have o3' : ∀ {fa : Bool}, Own fa θ2 (mkU kNwT.l1 .lf).get 3 gr := ⟨_, e3, by rw [getNT]; rfl⟩
    refine ⟨θ3, fun t x hx => ?_, fun t hq => ?_, ⟨fun t b hb => ?_, fun s t g q1 q2 => ?_⟩, fun g ⟨s, o⟩ => ?_, ?_⟩
    · show (if t = 60 then _ else if t = 61 then _ else θ2 t) = some x
      rw [if_neg (fun e => by subst e; rw [f60] at hx; cases hx), if_neg (fun e => by subst e; rw [f61] at hx; cases hx)]
      exact hx
    · by_cases e : t = 60
      · subst e; exact .inr ⟨by decide, by decide⟩
      · by_cases e' : t = 61
        · subst e'; exact .inr ⟨by decide, by decide⟩
        · left
          have : θ3 t = θ2 t := by show (if t = 60 then _ else if t = 61 then _ else θ2 t) = _; rw [if_neg e, if_neg e']
          rw [← this]; exact hq
    · have hb : (mkU kNw.l1 .lf).get t = some b := hb
      rw [getNw] at hb
      split at hb
      · rename_i e; subst e; cases hb
        refine ⟨_, g61, gn, lsD_E _, hne, 0, 0, da, na, 6, 5, 4, r2, ⟨a0, ?_⟩, ⟨by decide, by decide⟩, ⟨by decide, by decide⟩, ⟨a2, t2⟩, ⟨by decide, by decide⟩, ⟨by decide, by decide⟩, by decide, by decide⟩
        rw [t0, ← z2]
        simp [Cap.den]
      · split at hb
        · rename_i e; subst e; cases hb
          exact ⟨_, g60, .lf, lsD_E _, List.nodup_nil, trivial, rfl, rfl, trivial⟩
        · split at hb
          · rename_i e; subst e; cases hb
            refine ⟨gr, cr, _, ra, r3, g3, a3, z3, ?_, o3, t3, x3⟩
            simp only [dens, den, tv, g60, g61, Option.map_some, Option.bind_some]
            have : (lenS []).den ρ ≤ 0 := by rw [lenS_den]; simp [denS]
            rw [if_pos this]
          · cases hb
    · rcases own s g q1 with ⟨rfl, h1⟩ | ⟨rfl, h1⟩ <;> rcases own t g q2 with ⟨rfl, h2⟩ | ⟨rfl, h2⟩
      · rfl
      · subst h2
        rcases h1 with rfl | rfl
        · exact absurd (hM.inj 0 3 _ o0 o3') (by decide)
        · exact absurd (hM.inj 2 3 _ o2 o3') (by decide)
      · subst h1
        rcases h2 with rfl | rfl
        · exact absurd (hM.inj 0 3 _ o0 o3') (by decide)
        · exact absurd (hM.inj 2 3 _ o2 o3') (by decide)
      · rfl
    · rcases own s g o with ⟨rfl, h1⟩ | ⟨rfl, h1⟩
      · rcases h1 with rfl | rfl
        · exact ⟨0, o0⟩
        · exact ⟨2, o2⟩
      · subst h1; exact ⟨3, o3'⟩
    · rw [← hv]
      show den ρ θ3 (.tu [.p 3 0, i64W 0]) = den ρ θ2 (.tu [.p 3 0, i64W 0])
      simp only [den, dens, g3, e3, i64W]
  · have q : (mkU kNw.l1 .lf).get t ≠ none := q
    rw [getNw] at q
    show 3 ≤ t ∧ t < 62
    split at q
    · omega
    · split at q
      · omega
      · split at q
        · omega
        · exact absurd rfl q
end
end X
end Go.Proofs.YtebfahobllghnaaGreatDoor
namespace Go.Proofs.YtebfahobllghnaaGreatDoor
namespace X
open Go.RowKit B
set_option maxRecDepth 1000000
theorem enterLow (args : Array Value) (w : World) : (callFunc 7 args).run Tryz.prog w = .ok (.enter 7 args) w := enter_run (fn := Tryz.f7) (by kernel_rfl) (by kernel_rfl) rfl args w
section
variable {ρ ρ' : Rho} {n : Nat}
theorem low_y {i : Nat} {v w : SV} {m : Mem} {nx : Nat} {pc : PC} {x k : Int} (hs : Sat ρ pc) (hi : (Lin.mk 0 [(i, 1)]).den ρ = x) (hv : ∀ θ, den ρ θ v = some (.int .i64 k)) (hk : 0 < k) (hk2 : k ≤ 9223372036854775807) (hw : ∀ θ, den ρ θ w = some (.int .i64 (lowF x k))) :
    CallR Tryz.prog ρ 7 [.x .i64 (.mk 0 [(i, 1)]), v] m nx ⟨w, m, nx, pc⟩ := CallR.pur enterLow hs fun θ w' vs hvs => by
  simp only [dens, den, hi, hv, Option.bind_some, Option.map_some, Option.some.injEq] at hvs
  subst hvs
  exact ⟨_, hw θ, calls_mono (low_c x k w' hk hk2) fun e w2 ⟨h1, h2⟩ => ⟨h1, by rw [h2]; exact Ext.refl _ _⟩⟩
theorem EqL.appL : ∀ {l l' m m' : ML}, EqL ρ ρ' l l' → EqL ρ ρ' m m' → EqL ρ ρ' (appL l m) (appL l' m')
  | [], [], m, m', _, h => h
  | (t, b) :: l, (t', b') :: l', m, m', ⟨h1, h2, h3⟩, h => ⟨h1, h2, EqL.appL h3 h⟩
  | [], _ :: _, _, _, h, _ => h.elim
  | _ :: _, [], _, _, h, _ => h.elim
theorem dens_num {b : Nat} {θ : Th} : ∀ {g s : Nat}, dens ρ θ (catL (fun k => [xv (Nat.add (2 * b) (Nat.mul 4 k)), xv (Nat.add (2 * b + 2) (Nat.mul 4 k))]) (upto s g)) = some ((List.range' (2 * s) (2 * g)).map fun j => .int .i64 (ρ.v (b + j))) := fun {g s} => dens_two (ρ := ρ) (a := fun k => lv (2 * b + 4 * k)) (h := fun k => lv (2 * b + 2 + 4 * k)) (c := fun j => ρ.v (b + j)) fun j _ _ => ⟨by
    show (lv (2 * b + 4 * j)).den ρ = _
    rw [show 2 * b + 4 * j = 2 * (b + 2 * j) by omega, lv_v], by
    show (lv (2 * b + 2 + 4 * j)).den ρ = _
    rw [show 2 * b + 2 + 4 * j = 2 * (b + (2 * j + 1)) by omega, lv_v]⟩
theorem cqv_eq {n b : Nat} {cs : List SV} (hn : n < 10000) (h : ∀ θ, dens ρ' θ cs = some (pairs ρ n b)) : EqB ρ ρ' (.cq n b) (.cv cs) := ⟨rfl, fun θ w t => by
  have pj : ∀ j u, (pairs ρ n b)[j]? = some u ↔ j < cqN ρ n ∧ u = cqV ρ n b j := fun j u => by
    unfold pairs cqN cqV
    rw [if_pos hn, if_pos hn, List.getElem?_map]
    by_cases hj : j < 2 * (ρ.v n).toNat
    · rw [List.getElem?_range hj]
      simp [hj, eq_comm]
    · rw [List.getElem?_eq_none (by simp; omega)]
      simp [hj]
  constructor
  · rintro ⟨g, c, f1, f2, f3⟩
    refine ⟨g, c, _, f1, f2.1, h θ, fun j u hj => ?_⟩
    obtain ⟨q1, rfl⟩ := (pj j u).1 hj
    exact f3 j q1
  · rintro ⟨g, c, vs, f1, f2, f3, f4⟩
    rw [h θ] at f3
    cases f3
    exact ⟨g, c, f1, ⟨f2, .inl hn⟩, fun j hj => f4 j _ ((pj j _).2 ⟨hj, rfl⟩)⟩⟩
def selP (W : List UInt8) (raw : Nat → Int) (k : Nat) : Se := (lowF (raw (2 * k)) (W.length + 1), lowF (raw (2 * k + 1)) (W.length + 1))
def xsP (W : List UInt8) (raw : Nat → Int) (n : Nat) : List Se := (List.range n).map (selP W raw)
def rowP (W : List UInt8) (raw : Nat → Int) (n : Nat) : List Se := match n with
  | 0 => [(W.length, W.length)]
  | n => normE (xsP W raw n)
def vP (W : List UInt8) (raw : Nat → Int) (n j : Nat) : Int := if j < 1024 then (if j % 4 = 0 then (selP W raw ((j - 1000) / 4)).1 else (selP W raw ((j - 1000) / 4)).2) else if j < 3000 then raw (j - 2000) else if j = 5000 then (rowP W raw n).length else cellN (rowP W raw n) (j - 5001)
def rhoP (W Q1 Q2 : List UInt8) (raw : Nat → Int) (n : Nat) : Rho := ⟨vP W raw n, fun i => if i = 10 then W else if i = 55 then Q1 else Q2⟩
section
variable {W Q1 Q2 : List UInt8} {raw : Nat → Int}
theorem vP_a {k : Nat} (hk : k < 6) : (rhoP W Q1 Q2 raw n).v (1000 + 4 * k) = (selP W raw k).1 ∧ (rhoP W Q1 Q2 raw n).v (1001 + 4 * k) = (selP W raw k).2 := by
  constructor
  · show vP W raw n (1000 + 4 * k) = _
    unfold vP
    rw [if_pos (by omega), if_pos (by omega), show (1000 + 4 * k - 1000) / 4 = k by omega]
  · show vP W raw n (1001 + 4 * k) = _
    unfold vP
    rw [if_pos (by omega), if_neg (by omega), show (1001 + 4 * k - 1000) / 4 = k by omega]
theorem vP_r {j : Nat} (hj : j < 12) : (rhoP W Q1 Q2 raw n).v (2000 + j) = raw j := by
  show vP W raw n (2000 + j) = _
  unfold vP
  rw [if_neg (by omega), if_pos (by omega), show 2000 + j - 2000 = j by omega]
theorem xsP_len : (xsP W raw n).length = n := by unfold xsP; rw [List.length_map, List.length_range]
theorem xsP_get {k : Nat} (hk : k < n) : (xsP W raw n).getD k z0 = selP W raw k := by
  unfold xsP
  rw [List.getD_eq_getElem?_getD, List.getElem?_map, List.getElem?_range hk]; rfl
theorem xsP_in : ∀ y ∈ xsP W raw n, InE (W.length : Int) y := fun y hy => by
  obtain ⟨k, _, rfl⟩ := List.mem_map.1 hy
  have a := lowF_ok (x := raw (2 * k)) (n := (W.length : Int) + 1) (by omega)
  have b := lowF_ok (x := raw (2 * k + 1)) (n := (W.length : Int) + 1) (by omega)
  refine ⟨?_, ?_⟩
  · show 0 ≤ min (lowF _ _) (lowF _ _); omega
  · show max (lowF _ _) (lowF _ _) ≤ (W.length : Int); omega
theorem rowP_ok (hW : W.length ≤ 60) (h6 : n ≤ 6) : (1 ≤ (rowP W raw n).length ∧ (rowP W raw n).length ≤ 6) ∧ Apt (rowP W raw n) ∧ ∀ y ∈ rowP W raw n, InE (W.length : Int) y := by
  cases n with
  | zero =>
    refine ⟨⟨Nat.le_refl 1, by show 1 ≤ 6; omega⟩, fun j hj => by simp [rowP] at hj, fun y hy => ?_⟩
    have : y = ((W.length : Int), (W.length : Int)) := by simpa [rowP] using hy
    rw [this]
    refine ⟨?_, ?_⟩
    · show 0 ≤ min (W.length : Int) (W.length : Int); omega
    · show max (W.length : Int) (W.length : Int) ≤ (W.length : Int); omega
  | succ n =>
    have := norm_in (xs := xsP W raw (n + 1)) (L := W.length) (by rw [xsP_len]; omega) xsP_in (by omega) (by omega)
    rw [xsP_len] at this
    exact ⟨⟨this.2.2.1, by have := this.2.2.2; show (normE (xsP W raw (n + 1))).length ≤ 6; omega⟩, this.1, this.2.1⟩
theorem rowP_is (hW : W.length ≤ 60) (h6 : n ≤ 6) : RowIs (rhoP W Q1 Q2 raw n) 5000 5001 (rowP W raw n) := row_of (rowP_ok hW h6).1.2 rfl fun i hi => by
  show vP W raw n (5001 + i) = _
  unfold vP
  rw [if_neg (by omega), if_neg (by omega), if_neg (by omega), show 5001 + i - 5001 = i by omega]
theorem lowPl_ok (hW : W.length ≤ 60) : CallY Tryz.prog (rhoP W Q1 Q2 raw n) 7 lowPl := fun args m nx pc hs => by
  have d10 : denS (rhoP W Q1 Q2 raw n) pW = W := denA 10
  unfold lowPl
  split
  · rename_i i e
    split
    · rename_i hc
      simp only [Bool.and_eq_true, Nat.ble_eq, Nat.beq_eq] at hc
      obtain ⟨⟨⟨c1, c2⟩, c3⟩, c4⟩ := hc
      have c3 : i % 2 = 0 := c3
      have := eqLin_ok c4
      subst this
      have hv : ∀ θ, den (rhoP W Q1 Q2 raw n) θ (.x .i64 ((Lin.mk 1 []).add (lenS pW))) = some (.int .i64 ((W.length : Int) + 1)) := fun θ => by
        show some (Value.int .i64 (((Lin.mk 1 []).add (lenS pW)).den _)) = _
        rw [add_den, const_den, lenS_den, d10]
        congr 2; omega
      split
      · rename_i h4
        have h4 : i % 4 = 0 := Nat.eq_of_beq_eq_true h4
        obtain ⟨k, rfl⟩ : ∃ k, i = 4000 + 4 * k := ⟨(i - 4000) / 4, by omega⟩
        refine Yl.pure (⟨xv (eA (Nat.div (Nat.sub (4000 + 4 * k) 4000) 4)), m, nx, pc⟩ : O4) (low_y hs (x := raw (2 * k)) ?_ hv (by omega) (by omega) fun θ => ?_)
        · rw [show 4000 + 4 * k = 2 * (2000 + 2 * k) by omega]; exact (lv_v _).trans (vP_r (by omega))
        · rw [show Nat.div (Nat.sub (4000 + 4 * k) 4000) 4 = k by show (4000 + 4 * k - 4000) / 4 = k; omega]
          show some (Value.int .i64 ((lv (eA k)).den _)) = _
          rw [show eA k = 2 * (1000 + 4 * k) by show 2000 + 8 * k = _; omega, lv_v, (vP_a (by omega)).1]; rfl
      · rename_i h4
        have h4 : i % 4 ≠ 0 := fun e => by rw [show Nat.beq (Nat.mod i 4) 0 = true from by rw [show Nat.mod i 4 = 0 from e]; rfl] at h4; cases h4
        obtain ⟨k, rfl⟩ : ∃ k, i = 4002 + 4 * k := ⟨(i - 4002) / 4, by omega⟩
        refine Yl.pure (⟨xv (eH (Nat.div (Nat.sub (4002 + 4 * k) 4000) 4)), m, nx, pc⟩ : O4) (low_y hs (x := raw (2 * k + 1)) ?_ hv (by omega) (by omega) fun θ => ?_)
        · rw [show 4002 + 4 * k = 2 * (2000 + (2 * k + 1)) by omega]; exact (lv_v _).trans (vP_r (by omega))
        · rw [show Nat.div (Nat.sub (4002 + 4 * k) 4000) 4 = k by show (4002 + 4 * k - 4000) / 4 = k; omega]
          show some (Value.int .i64 ((lv (eH k)).den _)) = _
          rw [show eH k = 2 * (1001 + 4 * k) by show 2002 + 8 * k = _; omega, lv_v, (vP_a (by omega)).2]; rfl
    · exact Yl.no
  · exact Yl.no
theorem kNmE_ok (hW : W.length ≤ 60) (h1 : 1 ≤ n) (h6 : n ≤ 6) : KnownOk Tryz.prog 51 (kNmE n) (rhoP W Q1 Q2 raw n) := by
  have d10 : denS (rhoP W Q1 Q2 raw n) pW = W := denA 10
  let ρ1 : Rho := ⟨rhoV (xsP W raw n) fun _ => 0, fun i => if i = 6 then List.replicate W.length 0 else []⟩
  have hL := xsP_in (W := W) (raw := raw) (n := n)
  have hlen := xsP_len (W := W) (raw := raw) (n := n)
  have hN : NormR ρ1 (xsP W raw n) := rhoV_ok (by rw [hlen]; exact h1) (by rw [hlen]; exact h6) fun x hx => ⟨(hL x hx).1, by have := (hL x hx).2; omega⟩
  have hnl := normE_len (by rw [hlen]; exact h1) hL (by omega) (by omega)
  rw [hlen] at hnl
  have l6 : ((ρ1.s 6).length : Int) = W.length := by show ((List.replicate W.length (0 : UInt8)).length : Int) = _; rw [List.length_replicate]
  have K : KnownOk Tryz.prog 51 ⟨[xv 25, .sl 0 0 (xsP W raw n).length (.q 2)], [(0, .ce 57 (selsC (upto 0 (xsP W raw n).length)) false)], 1, [], normV (normE (xsP W raw n)).length, normL (xsP W raw n).length (normE (xsP W raw n)).length, 700, []⟩ ρ1 := fun _ => hN.call (fun x hx => by rw [l6]; exact (hL x hx).2) sat_nil
  rw [hlen] at K
  have hr := rowP_is (Q1 := Q1) (Q2 := Q2) (raw := raw) hW h6
  have hrow : rowP W raw n = normE (xsP W raw n) := by
    cases n with
    | zero => omega
    | succ n => rfl
  rw [hrow] at hr
  have eE : EqB (rhoP W Q1 Q2 raw n) ρ1 (elB n) (.ce 57 (selsC (upto 0 n)) false) := EqB.ce fun θ => by
    rw [selsC_c]
    have a1 := dens_two (ρ := rhoP W Q1 Q2 raw n) (θ := θ) (a := fun j => lv (eA j)) (h := fun j => lv (eH j)) (c := cellN (xsP W raw n)) (g := n) (s := 0) fun j _ hj => by
      rw [show eA j = 2 * (1000 + 4 * j) by show 2000 + 8 * j = _; omega, show eH j = 2 * (1001 + 4 * j) by show 2002 + 8 * j = _; omega, lv_v, lv_v, (vP_a (by omega)).1, (vP_a (by omega)).2]
      unfold cellN
      rw [if_pos (by omega), if_neg (by omega), show 2 * j / 2 = j by omega, show (2 * j + 1) / 2 = j by omega, xsP_get (by omega)]
      exact ⟨rfl, rfl⟩
    have a2 := dens_two (ρ := ρ1) (θ := θ) (a := fun j => lv (eA j)) (h := fun j => lv (eH j)) (c := cellN (xsP W raw n)) (g := n) (s := 0) fun j _ hj => by
      have := elv hN (e := j) (by omega)
      rw [el_in (by omega), xsP_get (by omega)] at this
      unfold cellN
      rw [if_pos (by omega), if_neg (by omega), show 2 * j / 2 = j by omega, show (2 * j + 1) / 2 = j by omega, xsP_get (by omega)]
      exact this
    exact a1.trans a2.symm
  refine K.ret sat_nil (fun θ => ?_) ⟨rfl, eE, trivial⟩ (fun θ => ?_) ⟨rfl, eE.symm, rfl, (out_eq hr hN (by omega)).symm, trivial⟩ rfl rfl sat_nil rfl rfl rfl rfl
  · show dens (rhoP W Q1 Q2 raw n) θ [xl (lenS pW), .sl 0 0 n (.q 2)] = dens ρ1 θ [xv 25, .sl 0 0 n (.q 2)]
    have e1 : den (rhoP W Q1 Q2 raw n) θ (xl (lenS pW)) = some (.int .i64 W.length) := by
      show some (Value.int .i64 ((lenS pW).den _)) = _
      rw [lenS_den, d10]
    have e2 : den ρ1 θ (xv 25) = some (.int .i64 W.length) := by
      show some (Value.int .i64 ((lv 25).den ρ1)) = _
      have : ρ1.at 25 = ((ρ1.s 6).length : Int) := ρ1.at_l 6
      simp only [lv, Lin.den, dts, this, l6]
      congr 2; omega
    simp only [dens, e1, e2]
    rfl
  · show den ρ1 θ (.tu [.sl 1 0 (normE (xsP W raw n)).length (.q 2), .i .i64 (.ofNat 0)]) = den _ θ (.tu [rV 1 5000, i64W 0])
    have e := hr.vd (ρ' := ρ1) 1 θ
    simp only [den, dens, i64W] at e ⊢
    rw [← e]
end
end
end X
end Go.Proofs.YtebfahobllghnaaGreatDoor
namespace Go.Proofs.YtebfahobllghnaaGreatDoor
namespace X
open Go.RowKit B
set_option maxRecDepth 1000000
section
variable {ρ : Rho} {n : Nat} {W Q1 Q2 : List UInt8} {raw : Nat → Int}
theorem turnPl_ok (hW : W.length ≤ 60) (h10 : ρ.s 10 = W) : CallY Tryz.prog ρ 65 turnPl := fun args m nx pc hs => by
  unfold turnPl
  split
  · rename_i b
    split
    · rename_i hc
      have := eqStr_ok hc
      subst this
      have e0 : frF [] W = 0 := rfl
      have e1 : enF [] W = 0 := by unfold enF; rw [e0]; rfl
      have d10 : denS ρ pW = W := (denA 10).trans h10
      refine Yl.pure (⟨.ag [i64W 0, i64W 0, .s pW], m, nx, pc⟩ : O4) (turn_y (s := []) (t := W) hs rfl d10 ?_ (fun θ => by rw [e0]; rfl) (fun θ => by rw [e1]; rfl) (by simp) (by omega))
      rw [d10]
      unfold midG
      rw [e0, e1]
      simp
    · exact Yl.no
  · exact Yl.no
theorem rePl_ok (h10 : ρ.s 10 = W) (h55 : ρ.s 55 = Q1) (h60 : ρ.s 60 = Q2)
    (k1 : ∀ ρ : Rho, ρ.s 50 = [] → ρ.s 51 = [] → ρ.s 52 = [] → ρ.s 53 = [] → ρ.s 54 = [] → ρ.s 55 = Q1 → KnownOk Tryz.prog 176 kRq ρ) (k2 : ∀ ρ : Rho, ρ.s 50 = [] → ρ.s 51 = [] → ρ.s 52 = [] → ρ.s 53 = W → ρ.s 54 = Q1 → ρ.s 55 = Q2 → KnownOk Tryz.prog 176 kRq ρ) : CallY Tryz.prog ρ 176 rePl := CallY.of fun args m nx pc hs => by
  unfold rePl
  split
  · exact ⟨_, cutT_ok (k := kRq) (τ := ⟨[(50, []), (51, []), (52, []), (53, []), (54, []), (55, [.a 55])], []⟩) (k1 _ rfl rfl rfl rfl rfl ((denA 55).trans h55)), fun K => rfl⟩
  · exact ⟨_, cutT_ok (k := kRq) (τ := ⟨[(50, []), (51, []), (52, []), (53, [.a 10]), (54, [.a 55]), (55, [.a 60])], []⟩) (k2 _ rfl rfl rfl ((denA 10).trans h10) ((denA 55).trans h55) ((denA 60).trans h60)), fun K => rfl⟩
theorem sumQ_nil {Q : List UInt8} (h : PcOk Q) (hs : sumQ Q = 0) : Q = [] := by
  cases Q with
  | nil => rfl
  | cons c Q =>
    have := h c (by simp)
    simp only [sumQ] at hs
    omega
theorem go_c {sm : SumT} (h : SumOk Tryz.prog ρ sm) (f : Nat) : CallY Tryz.prog ρ f (go sm f) := callBy_c mixP h
theorem sortS_okW : SumOk Tryz.prog ρ (withF 78 (sortedKeys [132, 289] 3) smZ) := withF_ok (smZ_okN _ _) fun args m nx pc hs => sorted_yl hs
theorem normPl_ok (hW : W.length ≤ 60) (h6 : n ≤ 6) {f : SumF} (hf : CallY Tryz.prog (rhoP W Q1 Q2 raw n) 51 f) : CallY Tryz.prog (rhoP W Q1 Q2 raw n) 51 (normPl n f) := fun args m nx pc hs => by
  unfold normPl
  split
  · rename_i hc
    have h1 : 1 ≤ n := by
      unfold isEl' at hc
      split at hc
      · simp only [Bool.and_eq_true, Nat.blt_eq] at hc
        exact hc.1.1
      · cases hc
    exact cutW_ok (kNmE_ok hW h1 h6) _ m nx pc hs
  · exact hf _ m nx pc hs
theorem plN_all : ∀ n, n ≤ 6 → plN n = true
  | 0, _ => plN_0
  | 1, _ => plN_1
  | 2, _ => plN_2
  | 3, _ => plN_3
  | 4, _ => plN_4
  | 5, _ => plN_5
  | 6, _ => plN_6
  | n + 7, h => absurd h (by omega)
def z0B (n : Nat) : Bool := Nat.beq n 0
theorem plain_ex (W : List UInt8) (raw : Nat → Int) (n : Nat) (hW : W.length ≤ 60) (h6 : n ≤ 6) : ∃ Q, PcOk Q ∧ sumQ Q = W.length ∧ ∀ (ρ : Rho) (m : Nat), denS ρ (sgW m) = W → ρ.s 60 = Q → RowIs ρ (rn m) (rb m) (rowP W raw n) → ρ.v 2999 = n → (∀ j, j < 2 * n → ρ.v (2000 + j) = raw j) → KnownOk Tryz.prog 6 (kPlM m (nsX (z0B n)) (nsY (z0B n))) ρ := by
  obtain ⟨Q1, p1, s1, k1⟩ := replace_ex (X := []) (x := []) (Y := []) (s := []) (Q := []) (fun c h => by cases h) rfl (by simp)
  obtain ⟨Q2, p2, s2, k2⟩ := replace_ex (X := []) (x := []) (Y := []) (s := W) p1 s1 (by simp; omega)
  have s2 : sumQ Q2 = W.length := by simpa using s2
  refine ⟨Q2, p2, s2, fun ρ m hd h60 hr hn hraw => ?_⟩
  have d10 : denS (rhoP W Q1 Q2 raw n) pW = W := denA 10
  have l10 : (lenS pW).den (rhoP W Q1 Q2 raw n) = W.length := by rw [lenS_den, d10]
  have hq : Sat (rhoP W Q1 Q2 raw n) plQ → W = [] := fun h => by
    have := h _ List.mem_cons_self
    rw [sub_den, const_den, l10] at this
    exact List.length_eq_zero_iff.1 (by omega)
  have hrs : RulesOk (rhoP W Q1 Q2 raw n) rPlN := rules_ok ⟨fun h => d10.trans (hq h), fun h => by
    have e := hq h
    rw [denA]
    show Q2 = []
    exact sumQ_nil p2 (by rw [s2, e]; rfl), trivial⟩ trivial
  have sm : SumOk Tryz.prog (rhoP W Q1 Q2 raw n) (smPlW n) := withF_ok (withF_ok (withF_ok (withF_ok (withF_ok (withF_ok (withF_ok sortS_okW (cutW_ok kNw_ok)) sSz_ok) sTx_ok) (rePl_ok rfl rfl rfl k1 k2)) (turnPl_ok hW rfl)) (lowPl_ok hW)) (normPl_ok hW h6 (go_c sortS_okW _))
  have K : KnownOk Tryz.prog 6 (kPlN n) (rhoP W Q1 Q2 raw n) := known_of mixP sm hrs (plN_all n h6)
  have r1 := rowP_is (Q1 := Q1) (Q2 := Q2) (raw := raw) hW h6
  have v5 : (lv 5998).den ρ = n := by rw [show 5998 = 2 * 2999 from rfl, lv_v, hn]
  have hT : EqB (rhoP W Q1 Q2 raw n) ρ (hT 241 pW [.a 60]) (hT 241 (sgW m) [.a 60]) := EqB.hb (d10.trans hd.symm) (by rw [denA, denA, h60]; rfl)
  have hR : EqB (rhoP W Q1 Q2 raw n) ρ (.ce 169 [.p 3 0, tv 416 pW] true) (.ce 169 [.p 3 0, tv 416 (sgW m)] true) := EqB.ce fun θ => by simp only [dens, tv_den (d10.trans hd.symm) θ]; rfl
  cases n with
  | zero =>
    have e0 : den (rhoP W Q1 Q2 raw 0) = den (rhoP W Q1 Q2 raw 0) := rfl
    have vd : ∀ θ, den (rhoP W Q1 Q2 raw 0) θ (.sl 453 0 1 (.q 2)) = den ρ θ (rV 453 (rn m)) := fun θ => (hr.vd 453 θ).symm
    have hS : EqB (rhoP W Q1 Q2 raw 0) ρ (.ce 108 [.p 5 0, .p 8 0, .sl 453 0 1 (.q 2)] true) (.ce 108 [.p 5 0, .p 8 0, rV 453 (rn m)] true) := EqB.ce fun θ => by simp only [dens, vd θ]; rfl
    have hB : EqB (rhoP W Q1 Q2 raw 0) ρ (.ce 57 [xl (lenS pW), xl (lenS pW)] false) (rB (rn m) (rb m)) := (hr.eqc (ρ' := rhoP W Q1 Q2 raw 0) (a := fun _ => lenS pW) (k := fun _ => lenS pW) fun j hj => by
      have hj : j < 1 := hj
      obtain rfl : j = 0 := by omega
      exact ⟨l10, l10⟩).symm
    refine K.ret (sat_cons ?_ sat_nil) (fun θ => ?_) trivial (fun θ => rfl) ⟨rfl, EqB.hb rfl rfl, rfl, hR, rfl, hT, rfl, mp_eq, rfl, EqB.ce fun θ => rfl, rfl, hS, rfl, EqB.ce fun θ => rfl, rfl, EqB.ce fun θ => rfl, rfl, EqB.ce fun θ => rfl, rfl, EqB.ce fun θ => rfl, rfl, hB, trivial⟩ rfl rfl sat_nil rfl rfl rfl rfl
    · rw [sub_den, const_den, l10]; omega
    · show dens ρ θ [.s (sgW m), .sv 0 (.mk 0 [])] = dens _ θ [.s pW, .sv 0 (.mk (.ofNat 0) [])]
      have a : (Lin.mk 0 []).den ρ = 0 := const_den
      have b : (Lin.mk (.ofNat 0) []).den (rhoP W Q1 Q2 raw 0) = 0 := const_den
      simp only [dens, den, hd, d10, a, b]
  | succ n =>
    have hS : EqB (rhoP W Q1 Q2 raw (n + 1)) ρ (.ce 108 [.p 5 0, .p 8 0, rV 453 5000] true) (.ce 108 [.p 5 0, .p 8 0, rV 453 (rn m)] true) := EqB.ce fun θ => by simp only [dens, sx_den r1 hr 453 θ]; rfl
    have hN : EqB ρ (rhoP W Q1 Q2 raw (n + 1)) nsK (.cv (nsC' (n + 1))) := cqv_eq (by omega) fun θ => by
      have e := dens_num (ρ := rhoP W Q1 Q2 raw (n + 1)) (θ := θ) (b := 2000) (g := n + 1) (s := 0)
      refine (show dens _ θ (nsC' (n + 1)) = _ from e).trans ?_
      rw [pairs_of (g := n + 1) hn, List.range_eq_range']
      refine congrArg some (List.map_congr_left fun j hj => ?_)
      have hj := List.mem_range'_1.1 hj
      rw [vP_r (by omega), hraw j (by omega)]
    refine K.ret (sat_cons ?_ sat_nil) (fun θ => ?_) ⟨rfl, hN, trivial⟩ (fun θ => rfl) ⟨rfl, EqB.hb rfl rfl, rfl, hR, rfl, hT, rfl, mp_eq, rfl, EqB.ce fun θ => rfl, rfl, hS, rfl, EqB.ce fun θ => rfl, rfl, EqB.ce fun θ => rfl, rfl, EqB.ce fun θ => rfl, rfl, EqB.ce fun θ => rfl, rfl, r1.eqr hr, rfl, hN.symm, trivial⟩ rfl rfl sat_nil rfl rfl rfl rfl
    · rw [sub_den, const_den, l10]; omega
    · show dens ρ θ [.s (sgW m), .sv 0 (lv 5998)] = dens _ θ [.s pW, .sv 0 (.mk (.ofNat (n + 1)) [])]
      have b : (Lin.mk (.ofNat (n + 1)) []).den (rhoP W Q1 Q2 raw (n + 1)) = ((n + 1 : Nat) : Int) := const_den
      simp only [dens, den, hd, d10, v5, b]
end
end X
end Go.Proofs.YtebfahobllghnaaGreatDoor
namespace Go.Proofs.YtebfahobllghnaaGreatDoor
namespace X
open Go.RowKit B
set_option maxRecDepth 1000000
section
variable {ρ : Rho} {L : Int} {g : Nat → Int × Int} {G T : Nat}
theorem l1E_den (i : Nat) : (l1E i).den ρ = ρ.v (2200 + i) := by
  rw [show l1E i = lv (2 * (2200 + i)) from congrArg lv (by show 4400 + 2 * i = _; omega), lv_v]
theorem l2E_den (i : Nat) : (l2E i).den ρ = ρ.v (2220 + i) := by
  rw [show l2E i = lv (2 * (2220 + i)) from congrArg lv (by show 4440 + 2 * i = _; omega), lv_v]
theorem lowE_ok (h : EdR ρ L g G T) : CallY Tryz.prog ρ 7 lowE := fun args m nx pc hs => by
  unfold lowE
  split
  · rename_i v n
    split
    · rename_i hc
      simp only [Bool.and_eq_true, Nat.ble_eq, Nat.blt_eq, Nat.beq_eq] at hc
      obtain ⟨⟨c1, c2⟩, c3⟩ := hc
      have c3 : v % 2 = 0 := c3
      split
      · rename_i hd
        simp only [Bool.and_eq_true, Nat.beq_eq] at hd
        obtain ⟨d1, d2⟩ := hd
        have d1 : v % 4 = 0 := d1
        subst d2
        obtain ⟨k, rfl⟩ : ∃ k, v = 4200 + 4 * k := ⟨(v - 4200) / 4, by omega⟩
        have hk : k < 8 := by omega
        refine Yl.pure (⟨xl (l1E (Nat.div (Nat.sub (4200 + 4 * k) 4200) 4)), m, nx, pc⟩ : O4) (low_y hs (x := ρ.v (2100 + 2 * k)) (k := 6) ?_ (fun θ => rfl) (by omega) (by omega) fun θ => ?_)
        · rw [show 4200 + 4 * k = 2 * (2100 + 2 * k) by omega]; exact lv_v _
        · rw [show Nat.div (Nat.sub (4200 + 4 * k) 4200) 4 = k by show (4200 + 4 * k - 4200) / 4 = k; omega]
          show some (Value.int .i64 ((l1E k).den ρ)) = _
          rw [l1E_den, h.low1 k hk]
      · split
        · rename_i hd
          simp only [Bool.and_eq_true, Nat.beq_eq] at hd
          obtain ⟨d1, d2⟩ := hd
          have d1 : v % 4 = 2 := d1
          subst d2
          obtain ⟨k, rfl⟩ : ∃ k, v = 4202 + 4 * k := ⟨(v - 4202) / 4, by omega⟩
          have hk : k < 8 := by omega
          refine Yl.pure (⟨xl (l2E (Nat.div (Nat.sub (4202 + 4 * k) 4200) 4)), m, nx, pc⟩ : O4) (low_y hs (x := ρ.v (2101 + 2 * k)) (k := 5) ?_ (fun θ => rfl) (by omega) (by omega) fun θ => ?_)
          · rw [show 4202 + 4 * k = 2 * (2101 + 2 * k) by omega]; exact lv_v _
          · rw [show Nat.div (Nat.sub (4202 + 4 * k) 4200) 4 = k by show (4202 + 4 * k - 4200) / 4 = k; omega]
            show some (Value.int .i64 ((l2E k).den ρ)) = _
            rw [l2E_den, h.low2 k hk]
        · exact Yl.no
    · exact Yl.no
  · exact Yl.no
theorem smEs_ok (h : EdR ρ L g G T) : SumOk Tryz.prog ρ smEs := withF_ok (smZ_okN _ _) (lowE_ok h)
theorem rds_at : ∀ {n i c d : Nat}, rdsK i c n = true → c ≤ d → d < c + n → rdK i d = true
  | 0, i, c, d, _, h1, h2 => by omega
  | n + 1, i, c, d, h, h1, h2 => by
    have h : (rdK i c && rdsK i (Nat.succ c) n) = true := h
    rw [Bool.and_eq_true] at h
    rcases Nat.eq_or_lt_of_le h1 with e | e
    · rw [← e]; exact h.1
    · exact rds_at h.2 e (by show d < c + 1 + n; omega)
theorem eg_at : ∀ {n c d : Nat}, eg8 c n = true → c ≤ d → d < c + n → egK 8 d = true
  | 0, c, d, _, h1, h2 => by omega
  | n + 1, c, d, h, h1, h2 => by
    have h : (egK 8 c && eg8 (Nat.succ c) n) = true := h
    rw [Bool.and_eq_true] at h
    rcases Nat.eq_or_lt_of_le h1 with e | e
    · rw [← e]; exact h.1
    · exact eg_at h.2 e (by show d < c + 1 + n; omega)
theorem rd_at {i c : Nat} (hi : i < 8) (hc : c ≤ i) (h0 : i = 0 ∨ 1 ≤ c) : rdK i c = true := by
  have : i = 0 ∨ i = 1 ∨ i = 2 ∨ i = 3 ∨ i = 4 ∨ i = 5 ∨ i = 6 ∨ i = 7 := by omega
  rcases this with rfl | rfl | rfl | rfl | rfl | rfl | rfl | rfl
  · rw [show c = 0 by omega]; exact e_0
  · exact rds_at e_1 (by omega) (by omega)
  · exact rds_at e_2 (by omega) (by omega)
  · exact rds_at e_3 (by omega) (by omega)
  · exact rds_at e_4 (by omega) (by omega)
  · exact rds_at e_5 (by omega) (by omega)
  · exact rds_at e_6 (by omega) (by omega)
  · exact rds_at e_7 (by omega) (by omega)
theorem eg_any {i c : Nat} (hi : i ≤ 8) (hc : c ≤ i) (h0 : i = 0 ∨ 1 ≤ c) : egK i c = true := by
  rcases Nat.lt_or_ge i 8 with h | h
  · have := rd_at h hc h0
    unfold rdK at this
    simp only [Bool.and_eq_true] at this
    exact this.1.2
  · have : i = 8 := by omega
    subst this
    exact eg_at e_8 (by omega) (by omega)
def runsE (ρ : Rho) (n i c d : Nat) : Prop := ∀ (Q : Exit → Act → World → Prop) (a : Act) (w : World) (θ : Th), At ρ n (mkUV (sgE i c) .lf) (mkU (mlE c) .lf) a w θ → (∀ t, loE c ≤ t → t < 3000 → θ t = none) →
  (∀ a' w' θ', At ρ n (mkUV (outE d) .lf) (mkU (mlE d) .lf) a' w' θ' → SP ρ (loE c) (loE d) θ (mkU (mlE c) .lf).get w θ' (mkU (mlE d) .lf).get w' → Q (.exit 0) a' w') → LoopWp Tryz.prog cEs Q a w
theorem loE_v (c : Nat) : loE c = 102 + 20 * c := rfl
theorem nmE_den (v i : Nat) : (nmE (2 * v) i).den ρ = ρ.v v - i := by
  unfold nmE
  rw [sub_den, lv_v, const_den]; rfl
theorem runs_go {n i c i' c' d : Nat} {pc : PC} {rs : Rules} (h : EdR ρ L g G T) (hd : dstOk n cEs = true) (hk : evTo smEs cEs (sgE i c) (mlE c) (loE c) 3000 pc .normal rs ⟨sgE i' c', mlE c', [], loE c'⟩ = true) (hr : RulesOk ρ rs) (hs : Sat ρ pc) (hc : c ≤ c') (hd2 : c' ≤ d) (rest : runsE ρ n i' c' d) : runsE ρ n i c d := fun Q a w θ hA hfr hQ => by
  refine loop_step (wp_mono (ev_to hk (smEs_ok h) hr hs hd hA hfr).wp fun e a1 w1 ⟨he, _, θ1, hA1, hsp1⟩ => ?_)
  have he : e = .normal := he
  subst he
  refine rest Q a1 w1 θ1 hA1 (fun t q1 q2 => ?_) fun a2 w2 θ2 hA2 hsp2 => hQ a2 w2 θ2 hA2 (hsp1.trans hsp2 (by show loE c ≤ loE c'; rw [loE_v, loE_v]; omega) (by show loE c' ≤ loE d; rw [loE_v, loE_v]; omega))
  cases hq : θ1 t with
  | none => rfl
  | some x =>
    rcases hsp1.new t (by rw [hq]; simp) with q | q
    · exact absurd (hfr t (by rw [loE_v] at q1 ⊢; omega) q2) q
    · have : t < loE c' := q.2
      omega
theorem runs_end {n i c : Nat} {pc : PC} {rs : Rules} (h : EdR ρ L g G T) (hd : dstOk n cEs = true) (hk : evTo smEs cEs (sgE i c) (mlE c) (loE c) 3000 pc (.exit 0) rs ⟨outE c, mlE c, [], loE c⟩ = true) (hr : RulesOk ρ rs) (hs : Sat ρ pc) : runsE ρ n i c c := fun Q a w θ hA hfr hQ => by
  refine loop_step (wp_mono (ev_to hk (smEs_ok h) hr hs hd hA hfr).wp fun e a1 w1 ⟨he, _, θ1, hA1, hsp1⟩ => ?_)
  have he : e = .exit 0 := he
  subst he
  exact hQ a1 w1 θ1 hA1 hsp1
theorem inG_ok (h : EdR ρ L g G T) {i c : Nat} (hi : i < 8) (hG : i < G) (hT : i < T) (hp : (poE c).den ρ ≤ 60) : Sat ρ (inG i c) := by
  have b1 := lowF_ok (x := ρ.v (2100 + 2 * i)) (n := 6) (by omega)
  have b2 := lowF_ok (x := ρ.v (2101 + 2 * i)) (n := 5) (by omega)
  rw [← h.low1 i hi] at b1
  rw [← h.low2 i hi] at b2
  have hn := h.n
  have hk := h.k
  refine sat_cons ?_ (sat_cons ?_ (sat_cons ?_ (sat_cons ?_ (sat_cons ?_ (sat_cons ?_ (sat_cons ?_ sat_nil))))))
  · rw [show nmE 5996 (Nat.succ i) = nmE (2 * 2998) (i + 1) from rfl, nmE_den, hn]; omega
  · rw [show nmE 20000 (Nat.succ i) = nmE (2 * 10000) (i + 1) from rfl, nmE_den, hk]; omega
  · rw [l1E_den]; omega
  · rw [le'_den, l1E_den]; omega
  · rw [l2E_den]; omega
  · rw [le'_den, l2E_den]; omega
  · rw [le'_den]; omega
theorem giE_ok (h : EdR ρ L g G T) {i : Nat} (hi : i < 8) (hc : ¬ (i ≠ 0 ∧ (g i).1 ≤ 0)) : Sat ρ (giE i) := by
  cases i with
  | zero => exact sat_nil
  | succ i =>
    refine sat_cons ?_ sat_nil
    rw [sub_den, l1E_den, const_den, ← h.g1 _ hi]
    omega
theorem loop_all (h : EdR ρ L g G T) {n : Nat} (hd : dstOk n cEs = true) : ∀ (k i c : Nat) (p : Int) (l : List (Nat × Int × Int)), k + i = min G T → edsL L g k i p = l → (poE c).den ρ = p → p ≤ L → c ≤ i → (i = 0 ∨ 1 ≤ c) → EdF ρ c l → runsE ρ n i c (c + l.length)
  | 0, i, c, p, l, hk, hl, hp, hpL, hc, h0, hE => by
    have : l = [] := hl.symm
    subst this
    have hi8 := h.g8
    rcases Nat.lt_or_ge i G with hG | hG
    · have hrd := rd_at (i := i) (c := c) (by omega) hc h0
      unfold rdK at hrd
      simp only [Bool.and_eq_true] at hrd
      refine runs_end h hd hrd.2 rN_okA (sat_cons ?_ (sat_cons ?_ sat_nil))
      · rw [show nmE 5996 (Nat.succ i) = nmE (2 * 2998) (i + 1) from rfl, nmE_den, h.n]; omega
      · rw [show lv 20000 = lv (2 * 10000) from rfl, sub_den, lv_v, const_den, h.k]; show (0 : Int) ≤ (i : Int) - T; omega
    · refine runs_end h hd (eg_any (i := i) (c := c) (by omega) hc h0) rN_okA (sat_cons ?_ sat_nil)
      rw [show lv 5996 = lv (2 * 2998) from rfl, sub_den, lv_v, const_den, h.n]; show (0 : Int) ≤ (i : Int) - G; omega
  | k + 1, i, c, p, l, hk, hl, hp, hpL, hc, h0, hE => by
    have hi8 := h.g8
    have hi : i < 8 := by omega
    have hl6 := h.l6
    have hrd := rd_at (i := i) (c := c) hi hc h0
    unfold rdK at hrd
    simp only [Bool.and_eq_true] at hrd
    obtain ⟨⟨⟨⟨r1, r2⟩, r3⟩, r4⟩, r5⟩ := hrd
    have hin := inG_ok h hi (c := c) (by omega) (by omega) (by omega)
    have dF : (frH i c).den ρ = p + (g i).1 := by unfold frH; rw [add_den, hp, l1E_den, h.g1 i hi]
    have dT : (tgE' i c).den ρ = p + (g i).1 + (g i).2 := by unfold tgE'; rw [add_den, dF, l2E_den, h.g2 i hi]
    have dL : (lv 157).den ρ = L := by rw [show lv 157 = lv (4 * 39 + 1) from rfl, lv_l, h.l]
    unfold edsL at hl
    split at hl
    · rename_i hs
      have hs := of_decide_eq_true hs
      obtain ⟨j, rfl⟩ : ∃ j, i = j + 1 := ⟨i - 1, by omega⟩
      refine runs_go h hd r1 rN_okA (sat_appL.2 ⟨sat_cons ?_ sat_nil, hin⟩) (Nat.le_refl c) (by omega) (loop_all h hd k (j + 1 + 1) c p l (by omega) hl hp hpL (by omega) (by omega) hE)
      rw [sub_den, const_den, l1E_den, ← h.g1 _ hi]
      omega
    · rename_i hs
      have hs := of_decide_eq_false hs
      have hgi := giE_ok h hi hs
      split at hl
      · rename_i hb
        have hb := of_decide_eq_true hb
        have : l = [] := hl.symm
        subst this
        refine runs_end h hd r3 rN_okA (sat_appL.2 ⟨sat_cons ?_ hgi, hin⟩)
        rw [add_den, sub_den, dT, dL, const_den]
        omega
      · rename_i hb
        have hb := of_decide_eq_false hb
        subst hl
        obtain ⟨e1, e2, e3, e4⟩ := hE
        have hle : L - (p + (g i).1 + (g i).2) ≥ 0 := by omega
        have hR : RulesOk ρ (rsE i c) := rules_ok ⟨fun _ => by rw [d1, d1]; exact e3, fun _ => by rw [d1, d1]; exact e3.symm, trivial⟩ trivial
        have hg1 : 0 ≤ (g i).1 := by rw [h.g1 i hi, h.low1 i hi]; exact (lowF_ok (by omega)).1
        refine (?_ : runsE ρ n i c (c + (edsL L g k (i + 1) (p + (g i).1 + (g i).2)).length.succ))
        rw [show c + (edsL L g k (i + 1) (p + (g i).1 + (g i).2)).length.succ = (c + 1) + (edsL L g k (i + 1) (p + (g i).1 + (g i).2)).length by omega]
        refine runs_go h hd r2 hR (sat_appL.2 ⟨sat_cons ?_ (sat_appL.2 ⟨sat_cons ?_ (sat_cons ?_ sat_nil), sat_appL.2 ⟨sat_cons ?_ (sat_cons ?_ sat_nil), hgi⟩⟩), hin⟩) (Nat.le_succ c) (by show c + 1 ≤ _; omega) (loop_all h hd k (i + 1) (c + 1) (p + (g i).1 + (g i).2) _ (by omega) rfl e2 (by omega) (by omega) (by omega) e4)
        · rw [sub_den, dL, dT]; omega
        · rw [sub_den, dF, e1]; omega
        · rw [sub_den, dF, e1]; omega
        · rw [sub_den, dT, e2]; omega
        · rw [sub_den, dT, e2]; omega
theorem mlE_get {m : Nat} (hm : m ≤ 8) (t : Nat) : (mkU (mlE m) .lf).get t = lookU (mlE m) t none := by
  have : m = 0 ∨ m = 1 ∨ m = 2 ∨ m = 3 ∨ m = 4 ∨ m = 5 ∨ m = 6 ∨ m = 7 ∨ m = 8 := by omega
  rcases this with rfl | rfl | rfl | rfl | rfl | rfl | rfl | rfl | rfl <;> exact getL (by kernel_rfl) t
theorem mlE_new {m t : Nat} (hm : m ≤ 8) (h1 : (mkU (mlE 0) .lf).get t = none) (h2 : (mkU (mlE m) .lf).get t ≠ none) : 102 ≤ t ∧ t < 3000 := by
  rw [mlE_get (by omega)] at h1
  rw [mlE_get hm] at h2
  cases hb : lookU (mlE m) t none with
  | none => exact absurd hb h2
  | some b =>
    rcases lookU_mem hb with q | q
    · have q : (t, b) ∈ appL [(1, gpK), (2, txK)] (esL (tgE m) m) := q
      rcases mem_appL.1 q with q | q
      · exfalso
        simp only [List.mem_cons, List.not_mem_nil, or_false, Prod.mk.injEq] at q
        rcases q with ⟨rfl, _⟩ | ⟨rfl, _⟩ <;> exact absurd h1 (by decide)
      · cases m with
        | zero => cases q
        | succ m =>
          have q : (t, b) ∈ [(97 + 20 * (m + 1), esB (esC (m + 1)))] := q
          simp only [List.mem_cons, List.not_mem_nil, or_false, Prod.mk.injEq] at q
          omega
    · cases q
theorem esLoop_ok (h : EdR ρ L g G T) (hL : 0 ≤ L) (hE : EdF ρ 0 (edsL L g (min G T) 0 0)) {m : Nat} (hm : (edsL L g (min G T) 0 0).length = m) (hm8 : m ≤ 8) : LoopOk Tryz.prog ρ cEs (kEsL m gpW txW [(1, gpK), (2, txK)]) := fun _ => by
  refine ⟨sat_nil, by show 102 ≤ 3000; omega, fun t h1 h2 => mlE_new hm8 h1 h2, fun n Q a w θ hd hA hfr hQ => ?_⟩
  have R := loop_all h hd (min G T) 0 0 0 _ (Nat.add_zero _) rfl const_den hL (Nat.le_refl 0) (.inl rfl) hE
  rw [hm, Nat.zero_add] at R
  refine R Q a w θ hA hfr fun a' w' θ' hA' hsp' => hQ a' w' θ' hA' (hsp'.wk (Nat.le_refl _) ?_)
  show loE m ≤ 3000
  rw [loE_v]; omega
theorem esLoop_n (h : EdR ρ L g G T) {e : Nat} (he : e = 1 ∨ e = 2 ∨ e = 3) (h0 : e = 2 → 1 ≤ G) : LoopOk Tryz.prog ρ cEs (kEsL 0 (gtX e).1 (gtX e).2.1 (gtX e).2.2) := fun _ => by
  have eA : appL (gtX e).2.2 [] = (gtX e).2.2 := by rcases he with rfl | rfl | rfl <;> rfl
  refine ⟨sat_nil, by show 102 ≤ 3000; omega, fun t h1 h2 => absurd (show (mkU (gtX e).2.2 .lf).get t = none from h1) (by
    have h2 : (mkU (appL (gtX e).2.2 []) .lf).get t ≠ none := h2
    rw [eA] at h2; exact h2), fun n Q a w θ hd hA hfr hQ => ?_⟩
  have hQ : ∀ a' w' θ', At ρ n (mkUV (outE 0) .lf) (mkU (gtX e).2.2 .lf) a' w' θ' → SP ρ 102 102 θ (mkU (gtX e).2.2 .lf).get w θ' (mkU (gtX e).2.2 .lf).get w' → Q (.exit 0) a' w' := fun a' w' θ' q1 q2 => hQ a' w' θ' (by
    show At ρ n (mkUV (outE 0) .lf) (mkU (appL (gtX e).2.2 []) .lf) a' w' θ'
    rw [eA]; exact q1) (by
    show SP ρ 102 3000 θ (mkU (gtX e).2.2 .lf).get w θ' (mkU (appL (gtX e).2.2 []) .lf).get w'
    rw [eA]; exact q2.wk (Nat.le_refl _) (by omega))
  have fin : ∀ {pc : PC}, evTo smEs cEs (slE (gtX e).1 (gtX e).2.1 0 0) (gtX e).2.2 102 3000 pc (.exit 0) rN ⟨outE 0, (gtX e).2.2, [], 102⟩ = true → Sat ρ pc → LoopWp Tryz.prog cEs Q a w := fun {pc} hk hs => by
    refine loop_step (wp_mono (ev_to hk (smEs_ok h) rN_okA hs hd hA hfr).wp fun e1 a1 w1 ⟨he, _, θ1, hA1, hsp1⟩ => ?_)
    have he : e1 = .exit 0 := he
    subst he
    exact hQ a1 w1 θ1 hA1 hsp1
  rcases he with rfl | rfl | rfl
  · exact fin e_n1 sat_nil
  · refine fin e_n2 (sat_cons ?_ sat_nil)
    rw [show nmE 5996 1 = nmE (2 * 2998) 1 from rfl, nmE_den, h.n]
    have := h0 rfl
    omega
  · exact fin e_n3 sat_nil
end
end X
end Go.Proofs.YtebfahobllghnaaGreatDoor
namespace Go.Proofs.YtebfahobllghnaaGreatDoor
namespace X
open Go.RowKit B
set_option maxRecDepth 1000000
structure Ag where
  W : List UInt8
  n : Nat
  raw : Nat → Int
  G : Nat
  gp : Nat → Int
  T : Nat
  tx : Nat → List UInt8
  ty : Int
namespace Ag
variable (d : Ag)
structure Ok : Prop where
  W : d.W.length ≤ 60
  n : d.n ≤ 6
  G : d.G ≤ 8
  t : sumN (fun i => (d.tx i).length) 0 d.T ≤ 80
def g (i : Nat) : Int × Int := (lowF (d.gp (2 * i)) 6, lowF (d.gp (2 * i + 1)) 5)
def es : List (Nat × Int × Int) := edsL d.W.length d.g (min d.G d.T) 0 0
def m : Nat := d.es.length
def fr (i : Nat) : Int := (d.es.getD i d0E).2.1
def tg (i : Nat) : Int := (d.es.getD i d0E).2.2
def txt (i : Nat) : List UInt8 := d.tx (d.es.getD i d0E).1
def xR : Nat → List Se
  | 0 => rowP d.W d.raw d.n
  | k + 1 => normE ((xR k).map (mwS (d.fr (d.m - 1 - k)) (d.tg (d.m - 1 - k)) (d.txt (d.m - 1 - k)).length))
def x (i : Nat) : List Se := d.xR (d.m - i)
def rV' (j : Nat) : Int := if j < 2100 then d.raw (j - 2000) else if j < 2200 then d.gp (j - 2100) else if j < 2220 then lowF (d.gp (2 * (j - 2200))) 6 else if j < 2240 then lowF (d.gp (2 * (j - 2220) + 1)) 5 else if j = 2990 then d.ty else if j = 2998 then d.G else if j = 2999 then d.n else if j = 10000 then d.T
  else if (j - 5000) % 20 = 0 then (d.x ((j - 5000) / 20)).length else cellN (d.x ((j - 5000) / 20)) ((j - 5000) % 20 - 1)
def rS' (q : Nat → List UInt8) (i : Nat) : List UInt8 := if i < 39 then sgE' d.W d.es (i - 20) else if i = 39 then d.W else if i < 60 then d.txt (i - 40) else if i < 10100 then q (i - 60) else d.tx (i - 10100)
def rho (q : Nat → List UInt8) : Rho := ⟨d.rV', d.rS' q⟩
variable {d} {q : Nat → List UInt8}
theorem g_nn (i : Nat) : 0 ≤ (d.g i).1 ∧ 0 ≤ (d.g i).2 := ⟨(lowF_ok (by omega)).1, (lowF_ok (by omega)).1⟩
theorem ch : ChE d.W.length 0 0 d.es := edsL_ch g_nn _ _ _
theorem m8 (h : d.Ok) : d.m ≤ 8 := by
  have := edsL_len (L := d.W.length) (g := d.g) (min d.G d.T) 0 0
  have := h.G
  unfold m es
  omega
theorem s_seg {k : Nat} (hk : k < 19) : (d.rho q).s (20 + k) = sgE' d.W d.es k := by
  show d.rS' q (20 + k) = _
  unfold rS'
  rw [if_pos (by omega), show 20 + k - 20 = k by omega]
theorem s_tx {j : Nat} (hj : j < 20) : (d.rho q).s (40 + j) = d.txt j := by
  show d.rS' q (40 + j) = _
  unfold rS'
  rw [if_neg (by omega), if_neg (by omega), if_pos (by omega), show 40 + j - 40 = j by omega]
theorem s_q {j : Nat} (hj : j < 10000) : (d.rho q).s (60 + j) = q j := by
  show d.rS' q (60 + j) = _
  unfold rS'
  rw [if_neg (by omega), if_neg (by omega), if_neg (by omega), if_pos (by omega), show 60 + j - 60 = j by omega]
theorem s_raw {j : Nat} : (d.rho q).s (10100 + j) = d.tx j := by
  show d.rS' q (10100 + j) = _
  unfold rS'
  rw [if_neg (by omega), if_neg (by omega), if_neg (by omega), if_neg (by omega), show 10100 + j - 10100 = j by omega]
theorem v_raw {j : Nat} (hj : j < 100) : (d.rho q).v (2000 + j) = d.raw j := by
  show d.rV' (2000 + j) = _
  unfold rV'
  rw [if_pos (by omega), show 2000 + j - 2000 = j by omega]
theorem v_gp {j : Nat} (hj : j < 100) : (d.rho q).v (2100 + j) = d.gp j := by
  show d.rV' (2100 + j) = _
  unfold rV'
  rw [if_neg (by omega), if_pos (by omega), show 2100 + j - 2100 = j by omega]
theorem v_l1 {i : Nat} (hi : i < 8) : (d.rho q).v (2200 + i) = (d.g i).1 := by
  show d.rV' (2200 + i) = _
  unfold rV'
  rw [if_neg (by omega), if_neg (by omega), if_pos (by omega), show 2200 + i - 2200 = i by omega]; rfl
theorem v_l2 {i : Nat} (hi : i < 8) : (d.rho q).v (2220 + i) = (d.g i).2 := by
  show d.rV' (2220 + i) = _
  unfold rV'
  rw [if_neg (by omega), if_neg (by omega), if_neg (by omega), if_pos (by omega), show 2220 + i - 2220 = i by omega]; rfl
theorem v_rn {i : Nat} (hi : i ≤ 8) : (d.rho q).v (5000 + 20 * i) = (d.x i).length := by
  show d.rV' (5000 + 20 * i) = _
  unfold rV'
  rw [if_neg (by omega), if_neg (by omega), if_neg (by omega), if_neg (by omega), if_neg (by omega), if_neg (by omega), if_neg (by omega), if_neg (by omega), if_pos (by omega), show (5000 + 20 * i - 5000) / 20 = i by omega]
theorem v_rb {i j : Nat} (hi : i ≤ 8) (hj : j < 12) : (d.rho q).v (5001 + 20 * i + j) = cellN (d.x i) j := by
  show d.rV' (5001 + 20 * i + j) = _
  unfold rV'
  rw [if_neg (by omega), if_neg (by omega), if_neg (by omega), if_neg (by omega), if_neg (by omega), if_neg (by omega), if_neg (by omega), if_neg (by omega), if_neg (by omega), show (5001 + 20 * i + j - 5000) / 20 = i by omega, show (5001 + 20 * i + j - 5000) % 20 - 1 = j by omega]
theorem seg (h : d.Ok) {k : Nat} (hk : k ≤ 2 * d.m + 1) : denS (d.rho q) (mapL Pc.a (upto 20 k)) = d.W.take (cpE d.W.length d.es k) :=
  seg_take ch (N := 2 * d.m + 1) (fun k hk => s_seg (by have := m8 h; omega)) k hk
theorem seg_l (h : d.Ok) {k : Nat} (hk : k ≤ 2 * d.m + 1) : ((denS (d.rho q) (mapL Pc.a (upto 20 k))).length : Int) = cpE d.W.length d.es k := by
  rw [seg h hk, List.length_take]
  cases k with
  | zero => rfl
  | succ k => have := (cp_up (L := d.W.length) (l := d.es) ch k).2; omega
theorem sg_W (h : d.Ok) : denS (d.rho q) (sgW d.m) = d.W := by
  show denS (d.rho q) (mapL Pc.a (upto 20 (2 * d.m + 1))) = d.W
  rw [seg h (Nat.le_refl _), cp_z (show 2 * d.es.length < 2 * d.m + 1 by show 2 * d.m < 2 * d.m + 1; omega), List.take_of_length_le (Nat.le_refl _)]
theorem get (c : Nat) (hc : c < d.m) : pvE 0 d.es c ≤ d.fr c ∧ d.fr c ≤ d.tg c ∧ d.tg c ≤ d.W.length ∧ 0 + c ≤ (d.es.getD c d0E).1 ∧ ((d.es.getD c d0E).1 ≠ 0 → pvE 0 d.es c < d.fr c) := ch_get ch c hc
theorem pr_nn : ∀ c, c ≤ d.m → 0 ≤ pvE 0 d.es c
  | 0, _ => Int.le_refl 0
  | c + 1, hc => by
    have := pr_nn c (by omega)
    have := get (d := d) c (by omega)
    show 0 ≤ d.tg c
    omega
theorem sg_F (h : d.Ok) {c : Nat} (hc : c < d.m) : (sgF c).den (d.rho q) = d.fr c := by
  show (lenS (mapL Pc.a (upto 20 (2 * c + 1)))).den _ = _
  rw [lenS_den, seg_l h (by omega), cp_f (show c < d.es.length from hc)]
  have := get c hc
  have := pr_nn (d := d) c (by omega)
  show ((d.fr c).toNat : Int) = d.fr c
  omega
theorem sg_T (h : d.Ok) {c : Nat} (hc : c < d.m) : (sgT c).den (d.rho q) = d.tg c := by
  show (lenS (mapL Pc.a (upto 20 (2 * c + 2)))).den _ = _
  rw [lenS_den, seg_l h (by omega), cp_t (show c < d.es.length from hc)]
  have := get c hc
  have := pr_nn (d := d) c (by omega)
  show ((d.tg c).toNat : Int) = d.tg c
  omega
theorem edF (h : d.Ok) : EdF (d.rho q) 0 d.es := by
  have key : ∀ (l : List (Nat × Int × Int)) (c : Nat), d.es.drop c = l → EdF (d.rho q) c l := fun l => by
    induction l with
    | nil => exact fun c _ => trivial
    | cons e l ih =>
      intro c hc
      have hlt : c < d.m := by
        rcases Nat.lt_or_ge c d.m with h | h
        · exact h
        · rw [List.drop_of_length_le h] at hc; cases hc
      have he : d.es.getD c d0E = e := by
        have : (d.es.drop c).getD 0 d0E = e := by rw [hc]; rfl
        rw [← this, List.getD_eq_getElem?_getD, List.getD_eq_getElem?_getD, List.getElem?_drop, Nat.add_zero]
      obtain ⟨i, f, t⟩ := e
      refine ⟨?_, ?_, ?_, ih (c + 1) ?_⟩
      · rw [sg_F h hlt]; unfold fr; rw [he]
      · rw [sg_T h hlt]; unfold tg; rw [he]
      · rw [s_tx (by have := m8 h; omega), s_raw]; unfold txt; rw [he]
      · rw [← List.drop_drop, hc]; rfl
  exact key _ 0 rfl
theorem edR (h : d.Ok) : EdR (d.rho q) d.W.length d.g d.G d.T where
  g8 := h.G
  n := rfl
  k := rfl
  l := rfl
  l6 := by have := h.W; omega
  low1 := fun i hi => by rw [v_l1 hi, v_gp (by omega)]; rfl
  low2 := fun i hi => by rw [v_l2 hi, show 2101 + 2 * i = 2100 + (2 * i + 1) by omega, v_gp (by omega)]; rfl
  g1 := fun i hi => (v_l1 hi).symm
  g2 := fun i hi => (v_l2 hi).symm
theorem tx_len (h : d.Ok) : ∀ k, k ≤ d.m → (denS (d.rho q) (mapL Pc.a (upto 40 k))).length = sumE (fun i => (d.tx i).length) (d.es.take k)
  | 0, _ => rfl
  | k + 1, hk => by
    have ih := tx_len h k (by omega)
    have snoc : ∀ (l m : List (Nat × Int × Int)), sumE (fun i => (d.tx i).length) (l ++ m) = sumE (fun i => (d.tx i).length) l + sumE (fun i => (d.tx i).length) m := fun l m => by
      induction l with
      | nil => simp [sumE]
      | cons e l ih => simp only [List.cons_append, sumE, ih]; omega
    have hlt : k < d.es.length := hk
    rw [denS_up, List.length_append, ih, s_tx (by have := m8 h; omega), List.take_succ_eq_append_getElem hlt, snoc]
    congr 1
    show _ = (d.tx (d.es[k]).1).length + 0
    unfold txt
    rw [List.getD_eq_getElem?_getD, List.getElem?_eq_getElem hlt]; rfl
theorem sumN_le {tl : Nat → Nat} : ∀ (k n i : Nat), k ≤ n → sumN tl i k ≤ sumN tl i n
  | 0, n, i, _ => Nat.zero_le _
  | k + 1, 0, i, h => absurd h (by omega)
  | k + 1, n + 1, i, h => by
    have := sumN_le k n (i + 1) (by omega) (tl := tl)
    show tl i + sumN tl (i + 1) k ≤ tl i + sumN tl (i + 1) n
    omega
theorem tx_80 (h : d.Ok) : (denS (d.rho q) (tsS d.m)).length ≤ 80 := by
  have a := tx_len (q := q) h d.m (Nat.le_refl _)
  have b := edsL_sum (L := d.W.length) (g := d.g) (tl := fun i => (d.tx i).length) (min d.G d.T) 0 0
  have c := sumN_le (tl := fun i => (d.tx i).length) (min d.G d.T) d.T 0 (Nat.min_le_right _ _)
  have e := h.t
  rw [show d.es.take d.m = d.es from List.take_of_length_le (Nat.le_refl _)] at a
  show (denS (d.rho q) (mapL Pc.a (upto 40 d.m))).length ≤ 80
  rw [a]
  exact Nat.le_trans b (Nat.le_trans c e)
def wl (d : Ag) (q : Nat → List UInt8) (i : Nat) : Nat := (denS (d.rho q) (wS d.m i)).length
theorem wS_m : wS d.m d.m = sgW d.m := by
  show appL _ (catL _ (upto d.m (d.m - d.m))) = _
  rw [Nat.sub_self, appL_app]
  exact List.append_nil _
theorem wl_m (h : d.Ok) : d.wl q d.m = d.W.length := by
  unfold wl
  rw [wS_m, sg_W h]
theorem wl_step (h : d.Ok) {i : Nat} (hi : i < d.m) : (d.wl q i : Int) = d.wl q (i + 1) - (d.tg i - d.fr i) + (d.txt i).length ∧ d.tg i ≤ d.wl q (i + 1) := by
  have hm := m8 h
  let f : Nat → Str := fun j => [.a (Nat.add 40 j), .a (Nat.add 22 (Nat.mul 2 j))]
  have e1 : wS d.m i = mapL Pc.a (upto 20 (2 * i + 1)) ++ (.a (40 + i) :: .a (22 + 2 * i) :: catL f (upto (i + 1) (d.m - (i + 1)))) := by
    show appL (mapL Pc.a (upto 20 (2 * i + 1))) (catL f (upto i (d.m - i))) = _
    rw [appL_app, show d.m - i = (d.m - (i + 1)) + 1 by omega]
    rfl
  have e2 : wS d.m (i + 1) = mapL Pc.a (upto 20 (2 * i + 1 + 1 + 1)) ++ catL f (upto (i + 1) (d.m - (i + 1))) := by
    show appL (mapL Pc.a (upto 20 (2 * (i + 1) + 1))) (catL f (upto (i + 1) (d.m - (i + 1)))) = _
    rw [appL_app, show 2 * (i + 1) + 1 = 2 * i + 1 + 1 + 1 by omega]
  have l1 : (denS (d.rho q) (wS d.m i)).length = (denS (d.rho q) (mapL Pc.a (upto 20 (2 * i + 1)))).length + ((d.txt i).length + ((sgE' d.W d.es (2 * i + 2)).length + (denS (d.rho q) (catL f (upto (i + 1) (d.m - (i + 1))))).length)) := by
    rw [e1, denS_app, denS_cons, denS_cons]
    simp only [List.length_append]
    rw [show (Pc.a (40 + i)).den (d.rho q) = d.txt i from s_tx (by omega), show (Pc.a (22 + 2 * i)).den (d.rho q) = sgE' d.W d.es (2 * i + 2) from by
      show (d.rho q).s (22 + 2 * i) = _
      rw [show 22 + 2 * i = 20 + (2 * i + 2) by omega, s_seg (by omega)]]
  have l2 : (denS (d.rho q) (wS d.m (i + 1))).length = (denS (d.rho q) (mapL Pc.a (upto 20 (2 * i + 1)))).length + (sgE' d.W d.es (2 * i + 1)).length + (sgE' d.W d.es (2 * i + 2)).length + (denS (d.rho q) (catL f (upto (i + 1) (d.m - (i + 1))))).length := by
    rw [e2, denS_app, denS_up, denS_up, List.length_append, List.length_append, List.length_append, s_seg (by omega), show 20 + (2 * i + 1 + 1) = 20 + (2 * i + 2) by omega, s_seg (by omega)]
  have s1 := seg_len (W := d.W) (l := d.es) ch (2 * i + 1)
  have c1 := cp_f (L := d.W.length) (show i < d.es.length from hi)
  have c2 := cp_t (L := d.W.length) (show i < d.es.length from hi)
  have l3 := seg_l (q := q) h (k := 2 * i + 1) (by omega)
  have g1 := get i hi
  have g2 := pr_nn (d := d) i (by omega)
  have f1 : (d.es.getD i d0E).2.1 = d.fr i := rfl
  have f2 : (d.es.getD i d0E).2.2 = d.tg i := rfl
  rw [f1] at c1
  rw [f2] at c2
  rw [show 2 * i + 1 + 1 = 2 * i + 2 by omega, c1, c2] at s1
  rw [c1] at l3
  unfold wl
  constructor <;> omega
theorem wl_le (h : d.Ok) : ∀ k, k ≤ d.m → d.wl q (d.m - k) + (denS (d.rho q) (mapL Pc.a (upto 40 (d.m - k)))).length ≤ d.W.length + (denS (d.rho q) (mapL Pc.a (upto 40 d.m))).length
  | 0, _ => by rw [Nat.sub_zero, wl_m h]; exact Nat.le_refl _
  | k + 1, hk => by
    have ih := wl_le h k (by omega)
    have s := wl_step (q := q) h (i := d.m - (k + 1)) (by omega)
    have g1 := get (d := d) (d.m - (k + 1)) (by omega)
    rw [show d.m - k = d.m - (k + 1) + 1 by omega, denS_up, List.length_append, s_tx (by have := m8 h; omega)] at ih
    omega
theorem wl_300 (h : d.Ok) {i : Nat} (hi : i ≤ d.m) : d.wl q i ≤ 140 := by
  have a := wl_le (q := q) h (d.m - i) (by omega)
  have b := tx_80 (q := q) h
  have b : (denS (d.rho q) (mapL Pc.a (upto 40 d.m))).length ≤ 80 := b
  rw [show d.m - (d.m - i) = i by omega] at a
  have := h.W
  omega
theorem txt_80 (h : d.Ok) {i : Nat} (hi : i < d.m) : (d.txt i).length ≤ 80 := by
  have a := tx_len (q := fun _ => []) h d.m (Nat.le_refl _)
  have b := tx_80 (q := fun _ => []) h
  have b : (denS (d.rho fun _ => []) (mapL Pc.a (upto 40 d.m))).length ≤ 80 := b
  have key : ∀ k, i < k → (d.txt i).length ≤ (denS (d.rho fun _ => []) (mapL Pc.a (upto 40 k))).length := fun k hk => by
    induction k with
    | zero => omega
    | succ k ih =>
      rw [denS_up, List.length_append]
      rcases Nat.eq_or_lt_of_le hk with e | e
      · have : i = k := by omega
        subst this
        rw [s_tx (by have := m8 h; omega)]; omega
      · have := ih (by omega); omega
  exact Nat.le_trans (key d.m hi) b
theorem xR_ok (h : d.Ok) : ∀ k, k ≤ d.m → (1 ≤ (d.xR k).length ∧ (d.xR k).length ≤ 6) ∧ Apt (d.xR k) ∧ ∀ y ∈ d.xR k, InE (d.wl q (d.m - k) : Int) y
  | 0, _ => by
    have := rowP_ok (raw := d.raw) h.W h.n
    rw [Nat.sub_zero, wl_m h]
    exact this
  | k + 1, hk => by
    obtain ⟨⟨i1, i6⟩, _, iL⟩ := xR_ok h k (by omega)
    have s := wl_step (q := q) h (i := d.m - (k + 1)) (by omega)
    have g1 := get (d := d) (d.m - (k + 1)) (by omega)
    have g2 := pr_nn (d := d) (d.m - (k + 1)) (by omega)
    have l := wl_300 (q := q) h (i := d.m - (k + 1)) (by omega)
    have e : d.m - 1 - k = d.m - (k + 1) := by omega
    have hin : ∀ y ∈ (d.xR k).map (mwS (d.fr (d.m - (k + 1))) (d.tg (d.m - (k + 1))) (d.txt (d.m - (k + 1))).length), InE (d.wl q (d.m - (k + 1)) : Int) y := fun y hy => by
      obtain ⟨z, hz, rfl⟩ := List.mem_map.1 hy
      have a := iL z hz
      rw [show d.m - k = d.m - (k + 1) + 1 by omega] at a
      rw [s.1]
      exact mw_in a (by omega) g1.2.1 s.2 (by omega)
    have r := norm_in (L := (d.wl q (d.m - (k + 1)) : Int)) (by rw [List.length_map]; exact i1) hin (by omega) (by omega)
    rw [List.length_map] at r
    unfold xR
    rw [e]
    exact ⟨⟨r.2.2.1, by have := r.2.2.2; omega⟩, r.1, r.2.1⟩
theorem x_ok (h : d.Ok) {i : Nat} (hi : i ≤ d.m) : (1 ≤ (d.x i).length ∧ (d.x i).length ≤ 6) ∧ Apt (d.x i) ∧ ∀ y ∈ d.x i, InE (d.wl q i : Int) y := by
  have := xR_ok (q := q) h (d.m - i) (by omega)
  rw [show d.m - (d.m - i) = i by omega] at this
  exact this
theorem pcM_ok (h : d.Ok) : Sat (d.rho q) (pcM d.m) := by
  have hm := m8 h
  refine sat_cons ?_ (sat_cons ?_ fun e he => ?_)
  · rw [le'_den, lenS_den, sg_W h]; have := h.W; omega
  · rw [le'_den, lenS_den]; have := tx_80 (q := q) h; omega
  · have key : ∀ (k a : Nat), (∀ j, a ≤ j → j < a + k → 1 ≤ (sgE' d.W d.es (2 * j)).length) → a + k ≤ 9 → ∀ e ∈ mapL (fun j => ge (lenS [.a (Nat.add 20 (Nat.mul 2 j))]) (.mk 1 [])) (upto a k), 0 ≤ e.den (d.rho q) := fun k => by
      induction k with
      | zero => intro a _ _ e he; cases he
      | succ k ih =>
        intro a ha hak e he
        rcases List.mem_cons.1 (show e ∈ _ :: mapL _ (upto (a + 1) k) from he) with he | he
        · rw [he, ge_den, const_den]
          have := ha a (Nat.le_refl _) (by omega)
          rw [show (lenS [Pc.a (Nat.add 20 (Nat.mul 2 a))]).den (d.rho q) = ((sgE' d.W d.es (2 * a)).length : Int) from by
            rw [lenA]
            show (((d.rho q).s (20 + 2 * a)).length : Int) = _
            rw [s_seg (by omega)]]
          omega
        · exact ih (a + 1) (fun j q1 q2 => ha j (by omega) (by omega)) (by omega) e he
    refine key (d.m - 1) 1 (fun j q1 q2 => ?_) (by omega) e he
    have hj : j < d.m := by omega
    obtain ⟨c, rfl⟩ : ∃ c, j = c + 1 := ⟨j - 1, by omega⟩
    have s1 := seg_len (W := d.W) (l := d.es) ch (2 * (c + 1))
    have c1 := cp_f (L := d.W.length) (show c + 1 < d.es.length from hj)
    have c2 := cp_t (L := d.W.length) (show c < d.es.length from by show c < d.m; omega)
    have g1 := get (d := d) (c + 1) hj
    have g2 := get (d := d) c (by omega)
    have g3 := pr_nn (d := d) c (by omega)
    have f1 : (d.es.getD (c + 1) d0E).2.1 = d.fr (c + 1) := rfl
    have f2 : (d.es.getD c d0E).2.2 = d.tg c := rfl
    have f3 : pvE 0 d.es (c + 1) = d.tg c := rfl
    rw [f1] at c1
    rw [f2] at c2
    rw [f3] at g1
    rw [c1, show 2 * (c + 1) = 2 * c + 2 by omega, c2] at s1
    rw [show 2 * (c + 1) = 2 * c + 2 by omega, s1]
    have := g1.2.2.2.2 (by have := g1.2.2.2.1; omega)
    omega
theorem topR (h : d.Ok) : TopR d.m (d.rho q) d.x where
  row := fun i hi => row_of (x_ok (q := q) h hi).1.2 (v_rn (by have := m8 h; omega)) fun j hj => v_rb (by have := m8 h; omega) hj
  n1 := fun i hi => (x_ok (q := q) h hi).1.1
  n6 := fun i hi => (x_ok (q := q) h hi).1.2
  apt := fun i hi => (x_ok (q := q) h hi).2.1
  inn := fun i hi => (x_ok (q := q) h hi).2.2
  len := fun i hi => by have := wl_300 (q := q) h hi; unfold wl at this; omega
  mv := fun i hi => by
    rw [sg_F h hi, sg_T h hi, s_tx (by have := m8 h; omega)]
    unfold x
    rw [show d.m - i = (d.m - (i + 1)) + 1 by omega]
    show normE ((d.xR (d.m - (i + 1))).map (mwS (d.fr (d.m - 1 - (d.m - (i + 1)))) (d.tg (d.m - 1 - (d.m - (i + 1)))) (d.txt (d.m - 1 - (d.m - (i + 1)))).length)) = _
    rw [show d.m - 1 - (d.m - (i + 1)) = i by omega]
  ft := fun i hi => by
    rw [sg_F h hi, sg_T h hi]
    have := get (d := d) i hi
    have := pr_nn (d := d) i (by omega)
    have := h.W
    refine ⟨?_, ?_, ?_⟩ <;> omega
  tl := fun i hi => by
    rw [s_tx (by have := m8 h; omega)]
    have := txt_80 h hi
    omega
  pc := pcM_ok h
end Ag
end X
end Go.Proofs.YtebfahobllghnaaGreatDoor
