import Derived.Test.YtcfdebjhikahfaaGreatZx1
set_option linter.unusedSimpArgs false
set_option linter.unusedVariables false
set_option linter.unusedSectionVars false
namespace Go.Proofs.YtcfdebjhikahfaaGreat
section
open Go.RowKit
abbrev am:=@Bool.not_eq_false'
abbrev ci:=@Bool.not_eq_true
abbrev gh:=@Int.eq_ofNat_of_zero_le
abbrev fJ:=@Int.le_refl
abbrev dD:=@Int.not_le
abbrev aV:=@Int.not_lt
abbrev gG:=@Int.toNat_natCast
abbrev md:=@List.any_eq_false
abbrev nl:=@List.drop_left'
abbrev pt:=@List.drop_length
abbrev nU:=@List.drop_zero
abbrev lA:=@List.getElem_of_mem
abbrev aP:=@List.map_append
abbrev gl:=@List.mem_of_mem_drop
abbrev iR:=@List.mem_of_mem_take
abbrev jf:=@List.takeWhile_cons
abbrev nm:=@List.take_left'
abbrev nz:=@Tryz.call148
abbrev gy:=@Tryz.call154
abbrev oE:=@Tryz.call29
abbrev qI:=@Tryz.call55
abbrev jk:=@Tryz.isAgg22
abbrev dG:=@Tryz.isAgg23
abbrev az:=@Tryz.isAgg25
abbrev aN:=@Tryz.isAgg3
abbrev dS:=@Tryz.isAgg4
abbrev dF:=@Tryz.isAgg89
abbrev cJ:=@Tryz.isAgg9
abbrev bq:=@Tryz.sizeOf89
abbrev br:=@Tryz.underlying22
abbrev aU:=@Tryz.underlying23
abbrev bX:=@Tryz.underlying3
abbrev bL:=@Tryz.underlying60
abbrev cE:=@Tryz.underlying62
abbrev aZ:=@Tryz.underlying9
abbrev cB:=@Tryz.underlying93
abbrev aD:=@Tryz.zeroValue25
abbrev jJ:=@Tryz.zeroValue3
abbrev dR:=@Tryz.zeroValue89
end
namespace Srt
open B
variable {α:Type} [Inhabited α]
def xm (xs:List α) (a:Nat):Nat→List α
  | 0 => xs
  | n + 1 => DH (xm xs a n) ((a : Int) + n) ((a : Int) + n + 1)
theorem Hq (xs:List α) (a n:Nat):(xm xs a n).length=xs.length:=by
  induction n with
  | zero => rfl
  | succ n ih => rw [xm, sS, ih]
theorem Fm {A D:List α} {x:α} {a:Nat} (hA:A.length=a):∀(n:Nat) (Q:List α),Q.length=n→xm (A++x::(Q++D)) a n=A++(Q++x::D):=by
  intro n;induction n generalizing D with
  | zero => intro Q hQ; obtain rfl := cg hQ; rfl
  | succ n ih =>
    intro Q hQ;obtain ⟨Q',y,rfl⟩:∃P' y,Q=P'++ [y]:=⟨Q.dropLast,Q.getLast (by intro e;simp [e] at hQ),(kK _).symm⟩;simp at hQ;rw [xm,show A++x::(Q'++ [y]++D)=A++x::(Q'++(y::D)) by simp,ih Q' hQ];have:=Ff (A:=A++Q') (M:=[]) (C:=D) (x:=x) (y:=y) (i:=(a:Int)+n) (j:=(a:Int)+n+1) (by simp;omega) (by simp;omega);simpa using this
theorem Hr {xs:List α} {a n:Nat} (h:a+1+n≤xs.length):xm xs a n=gk xs a (a+1) (a+1+n):=by
  have e:xs=xs.take a++nth xs (a:Int)::(gS xs (a+1) (a+1+n)++xs.drop (a+1+n)):=by
    rw [←qT (by omega),←iv (by omega),dP]
  have s1:gS xs a (a+1)=[nth xs (a:Int)]:=by rw [pB (bz _) (by omega),kL];rfl
  conv=>lhs;rw [e]
  rw [Fm (by simp;omega) n _ (by rw [gN h];omega),gk,s1];simp
def xo (xs:List α) (m:Nat):Nat→List α
  | 0 => xs
  | n + 1 => DH (xo xs m n) ((m : Int) - n) ((m : Int) - n - 1)
theorem Hs (xs:List α) (a n:Nat):(xo xs a n).length=xs.length:=by
  induction n with
  | zero => rfl
  | succ n ih => rw [xo, sS, ih]
theorem Fn {D:List α} {x:α} {m:Nat}:∀(n:Nat) (A Q:List α),Q.length=n→A.length+Q.length=m→xo (A++(Q++x::D)) m n=A++x::(Q++D):=by
  intro n;induction n with
  | zero => intro A Q hQ _; obtain rfl := cg hQ; rfl
  | succ n ih =>
    intro A Q hQ hm;obtain ⟨y,Q',rfl⟩:∃y Q',Q=y::Q':=by cases Q with | nil=>simp at hQ | cons y Q'=>exact ⟨y,Q',rfl⟩
    simp at hQ hm;have h1:=ih (A++ [y]) Q' hQ (by simp;omega);rw [xo,show A++(y::Q'++x::D)=A++ [y]++(Q'++x::D) by simp,h1];have:=Fg (A:=A) (M:=[]) (C:=Q'++D) (x:=y) (y:=x) (i:=(m:Int) - n - 1) (j:=(m:Int) - n) (by omega) (by simp;omega);simpa using this
theorem Ht {xs:List α} {m n:Nat} (h:m < xs.length) (hn:n≤m):xo xs m n=gk xs (m - n) m (m+1):=by
  have e:xs=xs.take (m - n)++(gS xs (m - n) m++nth xs (m:Int)::xs.drop (m+1)):=by
    rw [←iv h,←qT (by omega),dP]
  have s1:gS xs m (m+1)=[nth xs (m:Int)]:=by rw [pB (bz _) h,kL];rfl
  have l1:(gS xs (m - n) m).length=n:=by rw [gN (by omega)];omega
  conv=>lhs;rw [e]
  rw [Fn n _ _ l1 (by rw [l1];simp;omega),gk,s1];simp
theorem mH {xs:List α} {k:Nat} {x:α} (h:xs[k]? =some x):nth xs (k:Int)=x:=by
  simp [nth,List.getD,h]
theorem vV {xs:List α} {k:Nat} (h:k < xs.length):xs[k]? =some (nth xs (k:Int)):=by
  simp [nth,List.getD,cd h]
section order
variable {lt:α→α→Bool}
theorem Swo.irr (hw:Swo lt) (x:α):lt x x=false:=by
  cases h:lt x x with
  | false => rfl
  | true => have := hw.asym x x h; rw [h] at this; cases this
theorem nK (hw:Swo lt) {xs:List α} {i j p q:Nat} (hs:gK lt (gS xs i j)) (h1:i≤p) (h2:p≤q) (h3:q < j) (h4:j≤xs.length):lt (nth xs (q:Int)) (nth xs (p:Int))=false:=by
  by_cases e:p=q
  · subst e;exact hw.irr _
  · have h:=List.pairwise_iff_getElem.1 hs (p - i) (q - i) (by rw [gN h4];omega) (by rw [gN h4];omega) (by omega);have a1:(gS xs i j)[p - i]? =some (nth xs (p:Int)):=by rw [yo (by omega),show i+(p - i)=p by omega,vV (by omega)]
    have a2:(gS xs i j)[q - i]? =some (nth xs (q:Int)):=by rw [yo (by omega),show i+(q - i)=q by omega,vV (by omega)]
    rw [cd (by rw [gN h4];omega)] at a1 a2;simp only [Option.some.injEq] at a1 a2;rw [a1,a2] at h;exact h
theorem Swo.pos (hw:Swo lt) {x y z:α} (h:lt x z=true) (h1:lt x y=false):lt y z=true:=by
  cases h2:lt y z with
  | true => rfl
  | false => have := hw.neg x y z h1 h2; rw [h] at this; cases this
theorem Swo.pos' (hw:Swo lt) {x y z:α} (h:lt x z=true) (h1:lt y z=false):lt x y=true:=by
  cases h2:lt x y with
  | true => rfl
  | false => have := hw.neg x y z h2 h1; rw [h] at this; cases this
theorem vW (hw:Swo lt) {xs:List α} {a s m e b:Nat} (hS1:gK lt (gS xs a m)) (hS2:gK lt (gS xs m b)) (h1:a≤s) (h2:s≤m) (h3:m≤e) (h4:e≤b) (h5:b≤xs.length)
    (c1:s=a∨e=b∨lt (nth xs (e:Int)) (nth xs ((s:Int) - 1))=false) (c2:s=m∨e=m∨lt (nth xs ((e:Int) - 1)) (nth xs (s:Int))=true):
    mF lt xs a m b=xs.take a++(nJ lt (gS xs a s) (gS xs m e)++(nJ lt (gS xs s m) (gS xs e b)++xs.drop b)):=by
  rw [mF,lN h1 h2,lN h3 h4,rB,dq]
  · intro r hr l hl;obtain ⟨p,p1,p2,hp⟩:=rz hr;obtain ⟨q,q1,q2,hq⟩:=rz hl;rw [←mH hp,←mH hq];rcases c2 with c | c | c
    · omega
    · omega
    · rw [show (e:Int) - 1=((e - 1:Nat):Int) by omega] at c;have d1:=nK hw hS2 (p:=p) (q:=e - 1) (by omega) (by omega) (by omega) h5;have d2:=nK hw hS1 (p:=s) (q:=q) (by omega) (by omega) (by omega) (by omega);exact hw.pos (hw.pos' c d2) d1
  · intro l hl r hr;obtain ⟨p,p1,p2,hp⟩:=rz hr;obtain ⟨q,q1,q2,hq⟩:=rz hl;rw [←mH hp,←mH hq];rcases c1 with c | c | c
    · omega
    · omega
    · rw [show (s:Int) - 1=((s - 1:Nat):Int) by omega] at c;have d1:=nK hw hS2 (p:=e) (q:=p) (by omega) (by omega) (by omega) h5;have d2:=nK hw hS1 (p:=q) (q:=s - 1) (by omega) (by omega) (by omega) (by omega);exact hw.neg _ _ _ d1 (hw.neg _ _ _ c d2)
theorem Fo (hw:Swo lt) {xs:List α} {a i b:Nat} (hS2:gK lt (gS xs (a+1) b)) (h1:a+1≤i) (h2:i≤b) (h3:b≤xs.length)
    (c2:i=a+1∨lt (nth xs ((i:Int) - 1)) (nth xs (a:Int))=true) (c1:i=b∨lt (nth xs (i:Int)) (nth xs (a:Int))=false):
    xm xs a (i - 1 - a)=mF lt xs a (a+1) b:=by
  have s1:gS xs a (a+1)=[nth xs (a:Int)]:=by rw [pB (bz _) (by omega),kL];rfl
  rw [Hr (by omega),show a+1+(i - 1 - a)=i by omega,
    vW hw (s:=a) (e:=i) (by rw [s1];exact List.pairwise_singleton _ _) hS2 (bz _) (by omega) h1 h2 h3 (.inl rfl) (.inr c2)]
  rw [kL,kD,s1,yq,gk,s1]
  · rw [qT (xs:=xs) (i:=i) (j:=b) h2];simp
  · intro r hr;obtain ⟨p,p1,p2,hp⟩:=rz hr;rw [←mH hp];rcases c1 with c | c
    · omega
    · exact hw.neg _ _ _ (nK hw hS2 (p:=i) (q:=p) (by omega) (by omega) (by omega) h3) c
theorem DL (hw:Swo lt) {xs:List α} {a i m:Nat} (hS1:gK lt (gS xs a m)) (h1:a≤i) (h2:i≤m) (h3:m < xs.length)
    (c1:i=a∨lt (nth xs (m:Int)) (nth xs ((i:Int) - 1))=false) (c2:i=m∨lt (nth xs (m:Int)) (nth xs (i:Int))=true):
    xo xs m (m - i)=mF lt xs a m (m+1):=by
  have s1:gS xs m (m+1)=[nth xs (m:Int)]:=by rw [pB (bz _) (by omega),kL];rfl
  rw [Ht h3 (by omega),show m - (m - i)=i by omega,
    vW hw (s:=i) (e:=m) hS1 (by rw [s1];exact List.pairwise_singleton _ _) h1 h2 (bz _) (by omega) h3 (by rcases c1 with c | c;exact .inl c;exact .inr (.inr c)) (.inr (.inl rfl))]
  rw [kL,kQ,s1,xl,gk,s1]
  · rw [zH (xs:=xs) (i:=a) (j:=i) h1];simp
  · intro l hl;obtain ⟨p,p1,p2,hp⟩:=rz hl;rw [←mH hp];rcases c2 with c | c
    · omega
    · exact hw.pos' c (nK hw hS1 (p:=i) (q:=p) (by omega) (by omega) (by omega) (by omega))
theorem Br {A L R D:List α} {a m b:Nat} (hA:A.length=a) (hL:a+L.length=m) (hR:m+R.length=b):mF lt (A++(L++(R++D))) a m b=A++(nJ lt L R++D):=by
  have e1:gS (A++(L++(R++D))) a m=L:=by
    have:=rA (A:=A) (B:=L) (C:=R++D) hA hL;simpa using this
  have e2:gS (A++(L++(R++D))) m b=R:=by
    have:=rA (A:=A++L) (B:=R) (C:=D) (i:=m) (j:=b) (by simp;omega) hR;simpa using this
  have e3:(A++(L++(R++D))).drop b=D:=by
    have:A++(L++(R++D))=(A++L++R)++D:=by simp
    rw [this,nl (by simp;omega)]
  have e4:(A++(L++(R++D))).take a=A:=nm hA;rw [mF,e1,e2,e3,e4]
section sym
variable {xs ys zs us:List α} {a s m e b mid:Nat}
theorem vX (h1:a≤s) (h2:s≤m) (h3:m≤e) (h4:e≤b) (hy:ys=gk xs s m e):ys=xs.take a++(gS xs a s++(gS xs m e++(gS xs s m++(gS xs e b++xs.drop b)))):=by
  rw [hy,gk,zH h1,qT h4];simp
theorem iw (hw:Swo lt) (hS1:gK lt (gS xs a m)) (hS2:gK lt (gS xs m b)) (h1:a≤s) (h2:s≤m) (h3:m≤e) (h4:e≤b) (h5:b≤xs.length)
    (c1:s=a∨e=b∨lt (nth xs (e:Int)) (nth xs ((s:Int) - 1))=false) (c2:s=m∨e=m∨lt (nth xs ((e:Int) - 1)) (nth xs (s:Int))=true)
    (hm:s+e=mid+m) (hy:ys=gk xs s m e) (hz:zs=mF lt ys a s mid) (hu:us=mF lt zs mid e b):us=mF lt xs a m b:=by
  have k1:=gN (xs:=xs) (i:=a) (j:=s) (by omega);have k2:=gN (xs:=xs) (i:=m) (j:=e) (by omega);have k3:=gN (xs:=xs) (i:=s) (j:=m) (by omega);have k4:=gN (xs:=xs) (i:=e) (j:=b) (by omega);rw [vX h1 h2 h3 h4 hy,Br (by simp;omega) (by omega) (by omega)] at hz;have hz':zs=(xs.take a++nJ lt (gS xs a s) (gS xs m e))++(gS xs s m++(gS xs e b++xs.drop b)):=by rw [hz];simp
  rw [hu,hz',Br (by simp [vk];omega) (by omega) (by omega),vW hw hS1 hS2 h1 h2 h3 h4 h5 c1 c2];simp
theorem qa (hs:gK lt (gS xs a b)) (h1:a≤s) (h2:s≤e) (h3:e≤b):gK lt (gS xs s e):=by
  rw [lN h1 (show s≤b by omega),lN h2 h3] at hs;exact (List.pairwise_append.1 (List.pairwise_append.1 hs).2.1).1
theorem mZ (hS1:gK lt (gS xs a m)) (hS2:gK lt (gS xs m b)) (h1:a≤s) (h2:s≤m) (h3:m≤e) (h4:e≤b) (h5:b≤xs.length) (hm:s+e=mid+m) (hy:ys=gk xs s m e):gK lt (gS ys a s)∧gK lt (gS ys s mid):=by
  have k1:=gN (xs:=xs) (i:=a) (j:=s) (by omega);have k2:=gN (xs:=xs) (i:=m) (j:=e) (by omega);have k:=vX h1 h2 h3 h4 hy;have e1:gS ys a s=gS xs a s:=by
    have:=rA (A:=xs.take a) (B:=gS xs a s) (C:=gS xs m e++(gS xs s m++(gS xs e b++xs.drop b))) (i:=a) (j:=s) (by simp;omega) (by omega);rw [k];simpa using this
  have e2:gS ys s mid=gS xs m e:=by
    have:=rA (A:=xs.take a++gS xs a s) (B:=gS xs m e) (C:=gS xs s m++(gS xs e b++xs.drop b)) (i:=s) (j:=mid) (by simp;omega) (by omega);rw [k];simpa using this
  rw [e1,e2];exact ⟨qa hS1 (bz _) h1 h2,qa hS2 (bz _) h3 h4⟩
theorem jg (hS1:gK lt (gS xs a m)) (hS2:gK lt (gS xs m b)) (h1:a≤s) (h2:s≤m) (h3:m≤e) (h4:e≤b) (h5:b≤xs.length) (hm:s+e=mid+m) (hy:ys=gk xs s m e) (hz:zs=mF lt ys a s mid):gK lt (gS zs mid e)∧gK lt (gS zs e b):=by
  have k1:=gN (xs:=xs) (i:=a) (j:=s) (by omega);have k2:=gN (xs:=xs) (i:=m) (j:=e) (by omega);have k3:=gN (xs:=xs) (i:=s) (j:=m) (by omega);have k4:=gN (xs:=xs) (i:=e) (j:=b) (by omega);rw [vX h1 h2 h3 h4 hy,Br (by simp;omega) (by omega) (by omega)] at hz;have e1:gS zs mid e=gS xs s m:=by
    have:=rA (A:=xs.take a++nJ lt (gS xs a s) (gS xs m e)) (B:=gS xs s m) (C:=gS xs e b++xs.drop b) (i:=mid) (j:=e) (by simp [vk];omega) (by omega);rw [hz];simpa using this
  have e2:gS zs e b=gS xs e b:=by
    have:=rA (A:=xs.take a++nJ lt (gS xs a s) (gS xs m e)++gS xs s m) (B:=gS xs e b) (C:=xs.drop b) (i:=e) (j:=b) (by simp [vk];omega) (by omega);rw [hz];simpa using this
  rw [e1,e2];exact ⟨qa hS1 h1 h2 (bz _),qa hS2 h3 h4 (bz _)⟩
end sym
def ic (lt:α→α→Bool) (bs:Nat) (xs:List α):List α:=
  if h:bs=0∨xs.length≤bs then fi lt xs else fi lt (xs.take bs)++ic lt bs (xs.drop bs)
termination_by xs.length
decreasing_by simp;omega
variable {bs:Nat} {xs xs0:List α} {a:Nat}
theorem jP (h:xs.length≤bs):ic lt bs xs=fi lt xs:=by rw [ic,dif_pos (.inr h)]
theorem qb (hb:0 < bs):ic lt bs xs=fi lt (xs.take bs)++ic lt bs (xs.drop bs):=by
  by_cases h:xs.length≤bs
  · rw [jP h,bw h,dX h,jP (by simp),uh,eG]
  · rw [ic,dif_neg (by omega)]
theorem uj:∀(n:Nat) (xs:List α),xs.length≤n→(ic lt bs xs).length=xs.length
  | 0, xs, h => by rw [jP (by omega), ik]
  | n + 1, xs, h => by
    rw [ic];split
    · exact ik _
    · rw [aQ,ik,uj n _ (by simp;omega)];simp;omega
theorem zL (hb:0 < bs) (h1:xs.take a++ic lt bs (xs0.drop a)=ic lt bs xs0) (h2:xs.drop a=xs0.drop a) (h:a+bs≤xs.length):
    (sU lt xs a (a+bs)).take (a+bs)++ic lt bs (xs0.drop (a+bs))=ic lt bs xs0∧(sU lt xs a (a+bs)).drop (a+bs)=xs0.drop (a+bs):=by
  have hs:gS xs a (a+bs)=(xs0.drop a).take bs:=by rw [gS,h2,show a+bs - a=bs by omega]
  have hl:(xs.take a++fi lt (gS xs a (a+bs))).length=a+bs:=by simp [ik,gN h];omega
  have e:sU lt xs a (a+bs)=(xs.take a++fi lt (gS xs a (a+bs)))++xs.drop (a+bs):=by simp [sU]
  rw [e];constructor
  · rw [nm hl,←h1,qb hb (xs:=xs0.drop a),hs,iQ];simp
  · rw [nl hl,←iQ,←iQ,h2]
theorem Hu (h1:xs.take a++ic lt bs (xs0.drop a)=ic lt bs xs0) (h2:xs.drop a=xs0.drop a) (ha:a≤xs.length) (h:xs.length≤a+bs):sU lt xs a xs.length=ic lt bs xs0:=by
  have hl:(xs0.drop a).length≤bs:=by rw [←h2];simp;omega
  rw [←h1,jP hl,sU,←h2,pt,eG,gS,bw (l:=xs.drop a) (by simp)]
section pass
theorem zM (hb:0 < bs) (h2:xs.drop a=ic lt bs (xs0.drop a)):gS xs a (a+bs)=fi lt ((xs0.drop a).take bs)∨xs.length < a+bs:=by
  by_cases h:a+bs≤xs.length
  · left;have hl:(ic lt bs (xs0.drop a)).length=(xs0.drop a).length:=uj _ _ (bz _);have hx:(xs.drop a).length=(xs0.drop a).length:=by rw [h2,hl]
    simp only [fw] at hx;rw [gS,h2,qb hb,show a+bs - a=bs by omega,nm (by simp [ik];omega)]
  · right;omega
theorem vY (hb:0 < bs) (hx:xs.length=xs0.length) (h2:xs.drop a=ic lt bs (xs0.drop a)) (h:a+bs≤xs.length):xs.drop (a+bs)=ic lt bs (xs0.drop (a+bs)):=by
  rw [←iQ,h2,qb hb,nl (by simp [ik];omega),iQ]
theorem mI (hw:Swo lt) (hb:0 < bs) (hx:xs.length=xs0.length) (h2:xs.drop a=ic lt bs (xs0.drop a)) {b:Nat} (h:a+bs < b) (h3:b≤a+2 * bs) (h4:b≤xs.length) (h5:b=a+2 * bs∨b=xs.length):
    gK lt (gS xs a (a+bs))∧gK lt (gS xs (a+bs) b)∧nJ lt (gS xs a (a+bs)) (gS xs (a+bs) b)=fi lt (gS xs0 a b):=by
  have e1:=(zM hb h2).resolve_right (by omega);have d2:=vY hb hx h2 (by omega);have e2:gS xs (a+bs) b=fi lt (gS xs0 (a+bs) b):=by
    rcases h5 with h5 | h5
    · have:=(zM hb d2).resolve_right (by omega);rw [show b=a+bs+bs by omega,this,gS,show a+bs+bs - (a+bs)=bs by omega]
    · rw [gS,d2,jP (by simp;omega),gS,bw (by simp [ik];omega),bw (by simp;omega)]
  have e3:gS xs0 a (a+bs)=(xs0.drop a).take bs:=by rw [gS,show a+bs - a=bs by omega]
  rw [e1,e2];refine ⟨mj hw _,mj hw _,?_⟩;rw [DG hw,←e3,←lN (by omega) (by omega)]
theorem zN (hw:Swo lt) (hb:0 < bs) (hx:xs.length=xs0.length) (h1:xs.take a++ic lt (2 * bs) (xs0.drop a)=ic lt (2 * bs) xs0) (h2:xs.drop a=ic lt bs (xs0.drop a)) (h:a+2 * bs≤xs.length):
    (mF lt xs a (a+bs) (a+2 * bs)).take (a+2 * bs)++ic lt (2 * bs) (xs0.drop (a+2 * bs))=ic lt (2 * bs) xs0∧(mF lt xs a (a+bs) (a+2 * bs)).drop (a+2 * bs)=ic lt bs (xs0.drop (a+2 * bs)):=by
  obtain ⟨_,_,hm⟩:=mI hw hb hx h2 (b:=a+2 * bs) (by omega) (by omega) h (.inl rfl);have hs:gS xs0 a (a+2 * bs)=(xs0.drop a).take (2 * bs):=by rw [gS,show a+2 * bs - a=2 * bs by omega]
  have e:mF lt xs a (a+bs) (a+2 * bs)=(xs.take a++fi lt (gS xs0 a (a+2 * bs)))++xs.drop (a+2 * bs):=by rw [mF,hm];simp
  have hl:(xs.take a++fi lt (gS xs0 a (a+2 * bs))).length=a+2 * bs:=by simp [ik,gN (show a+2 * bs≤xs0.length by omega)];omega
  rw [e];constructor
  · rw [nm hl,←h1,qb (by omega) (xs:=xs0.drop a),hs,iQ];simp
  · rw [nl hl];have:=vY hb hx (vY hb hx h2 (by omega)) (by omega);rwa [show a+bs+bs=a+2 * bs by omega] at this
theorem CE (hw:Swo lt) (hb:0 < bs) (hx:xs.length=xs0.length) (h1:xs.take a++ic lt (2 * bs) (xs0.drop a)=ic lt (2 * bs) xs0) (h2:xs.drop a=ic lt bs (xs0.drop a)) (h:a+bs < xs.length) (h3:xs.length < a+2 * bs):
    mF lt xs a (a+bs) xs.length=ic lt (2 * bs) xs0:=by
  obtain ⟨_,_,hm⟩:=mI hw hb hx h2 (b:=xs.length) h (by omega) (bz _) (.inr rfl);rw [mF,hm,←h1,jP (by simp;omega),pt,eG,gS,bw (l:=xs0.drop a) (by simp;omega)]
theorem zO (hb:0 < bs) (hx:xs.length=xs0.length) (h1:xs.take a++ic lt (2 * bs) (xs0.drop a)=ic lt (2 * bs) xs0) (h2:xs.drop a=ic lt bs (xs0.drop a)) (h:xs.length≤a+bs):xs=ic lt (2 * bs) xs0:=by
  rw [←h1,jP (bs:=2 * bs) (by simp;omega)];rw [jP (by simp;omega)] at h2;rw [←h2,dP]
end pass
end order
end Srt
end Go.Proofs.YtcfdebjhikahfaaGreat
namespace Go.Proofs.YtcfdebjhikahfaaGreat
namespace B
section
open Srt
def bs (s:ByteArray):List UInt8:=s.data.toList
def tx (l:List UInt8):ByteArray:=⟨l.toArray⟩
theorem IW (s:ByteArray):tx (bs s)=s:=by cases s;simp [bs,tx]
theorem mm (s:ByteArray):(bs s).length=s.size:=by simp [bs]
theorem Jt {s u:ByteArray} (h:bs s=bs u):s=u:=by rw [←IW s,h,IW]
theorem Bs (s:ByteArray) (i j:Nat):bs (s.extract i j)=gS (bs s) i j:=by
  simp [bs,gS,ByteArray.data_extract]
theorem Fp (s:ByteArray):gM s s=true:=sM.2 rfl
theorem lV {s:ByteArray} {k:Nat} {b:UInt8} (h:(bs s)[k]? =some b):cP s (k:Int)=b.toNat:=by
  unfold cP;have e:s.data.toList=bs s:=rfl;rw [e,gG,lc,h];rfl
theorem zP:∀x:List UInt8,Op.bytesLess x x=false
  | [] => rfl
  | a :: x => by
    rw [Op.bytesLess,zP x,Bool.and_false,Bool.or_false];simp
theorem KL {a b:UInt8}:(decide (a < b)=true)↔a.toNat < b.toNat:=by rw [ai];exact UInt8.lt_iff_toNat_lt
theorem KM {a b:UInt8}:((a==b)=true)↔a.toNat=b.toNat:=by rw [beq_iff_eq];exact UInt8.toNat_inj.symm
theorem uk {a b:UInt8} {x y:List UInt8}:Op.bytesLess (a::x) (b::y)=true↔a.toNat < b.toNat∨(a.toNat=b.toNat∧Op.bytesLess x y=true):=by
  rw [Op.bytesLess,aR,au,KL,KM]
theorem vZ:∀{x y z:List UInt8},Op.bytesLess x y=true→Op.bytesLess y z=true→Op.bytesLess x z=true
  | x, y, [], _, h => by cases y <;> simp [Op.bytesLess] at h
  | x, [], c :: z, h, _ => by cases x <;> simp [Op.bytesLess] at h
  | [], b :: y, c :: z, _, _ => by simp [Op.bytesLess]
  | a :: x, b :: y, c :: z, h1, h2 => by
    rw [uk] at h1 h2 ⊢;rcases h1 with h1 | ⟨h1,h1'⟩
    · rcases h2 with h2 | ⟨h2,_⟩ <;> left <;> omega
    · rcases h2 with h2 | ⟨h2,h2'⟩
      · left;omega
      · exact .inr ⟨by omega,vZ h1' h2'⟩
theorem zQ:∀x y:List UInt8,Op.bytesLess x y=true∨x=y∨Op.bytesLess y x=true
  | [], [] => .inr (.inl rfl)
  | [], b :: y => .inl (by simp [Op.bytesLess])
  | a :: x, [] => .inr (.inr (by simp [Op.bytesLess]))
  | a :: x, b :: y => by
    rw [uk,uk];rcases lZ a.toNat b.toNat with h | h | h
    · exact .inl (.inl h)
    · rcases zQ x y with h' | h' | h'
      · exact .inl (.inr ⟨h,h'⟩)
      · exact .inr (.inl (by rw [UInt8.toNat_inj.1 h,h']))
      · exact .inr (.inr (.inr ⟨h.symm,h'⟩))
    · exact .inr (.inr (.inl h))
theorem xF (s:ByteArray):s.toList=bs s:=ByteArray.toList_eq s
theorem qc (x:ByteArray):pW x x=false:=zP _
theorem pC {x y z:ByteArray} (h1:pW x y=true) (h2:pW y z=true):pW x z=true:=vZ h1 h2
theorem qd (x y:ByteArray):pW x y=true∨x=y∨pW y x=true:=by
  rcases zQ x.toList y.toList with h | h | h
  · exact .inl h
  · rw [xF,xF] at h;exact .inr (.inl (Jt h))
  · exact .inr (.inr h)
theorem rD {x y:ByteArray} (h:pW x y=true):pW y x=false:=by
  cases hb:pW y x with
  | false => rfl
  | true => have := pC h hb; rw [qc] at this; cases this
theorem yt {x y:ByteArray}:xw x y=true↔pW y x=false:=by
  unfold xw;rw [aR,sM];constructor
  · rintro (h | rfl)
    · exact rD h
    · exact qc _
  · intro h;rcases qd x y with h' | h' | h'
    · exact .inl h'
    · exact .inr h'
    · rw [h] at h';cases h'
def rk (S:List ByteArray) (x:ByteArray):Int:=((S.countP fun z=>pW z x:Nat):Int)
theorem CF {S:List ByteArray} {x y:ByteArray} (hx:x ∈ S) (h:pW x y=true):rk S x < rk S y:=by
  unfold rk;have key:∀L:List ByteArray,L.countP (fun z=>pW z x)≤L.countP (fun z=>pW z y):=fun L=>List.countP_mono_left fun z _ hz=>pC hz h;have:S.countP (fun z=>pW z x) < S.countP (fun z=>pW z y):=by
    induction S with
    | nil => cases hx
    | cons a S ih =>
      rw [pm,pm];rcases List.mem_cons.1 hx with rfl | hx
      · rw [qc,h];have:=key S;simp;omega
      · have:=ih hx;cases ha:pW a x with
        | false => simp; split <;> omega
        | true => rw [pC ha h]; simp; omega
  omega
theorem wa {S:List ByteArray} {x y:ByteArray} (hx:x ∈ S) (hy:y ∈ S):pW x y=true↔rk S x < rk S y:=by
  constructor
  · exact CF hx
  · intro h;rcases qd x y with h' | h' | h'
    · exact h'
    · subst h';omega
    · have:=CF hy h';omega
theorem CG {S:List ByteArray} {x y:ByteArray} (hx:x ∈ S) (hy:y ∈ S):xw x y=true↔rk S x≤rk S y:=by
  rw [yt,←ci,wa hy hx];omega
theorem Ju {S:List ByteArray} {x y:ByteArray} (hx:x ∈ S) (hy:y ∈ S) (h:rk S x=rk S y):x=y:=by
  rcases qd x y with h' | h' | h'
  · have:=CF hx h';omega
  · exact h'
  · have:=CF hy h';omega
theorem Fq {S:List ByteArray} {x y:ByteArray} (hx:x ∈ S) (hy:y ∈ S):va x y ∈ S∧rk S (va x y)=max (rk S x) (rk S y):=by
  unfold va;split
  · rename_i h;rw [wa hx hy] at h;exact ⟨hy,by omega⟩
  · rename_i h;rw [wa hx hy] at h;exact ⟨hx,by omega⟩
def qD (x y:ByteArray):Int:=if pW x y=true then -1 else if pW y x=true then 1 else 0
def vc (n:Int):Bool:=decide (128≤n)&&decide (n≤191)
def Bt (b:UInt8):Bool:=vc (b.toNat:Int)
def tw (s:ByteArray) (k:Nat):Nat:=(((bs s).drop k).takeWhile Bt).length
def endF (s:ByteArray) (at':Nat):Nat:=at'+1+tw s (at'+1)
theorem sV {s:ByteArray} {k:Nat} (h:k < s.size) (hb:vc (cP s (k:Int))=true):k+tw s k=k+1+tw s (k+1):=by
  obtain ⟨b,hk⟩:∃b,(bs s)[k]? =some b:=⟨_,cd (by rw [mm];exact h)⟩;have hd:(bs s).drop k=b::(bs s).drop (k+1):=by
    have hlt:k < (bs s).length:=by rw [mm];exact h
    rw [fo hlt];rw [cd hlt] at hk;cases hk;rfl
  unfold tw;have hb':Bt b=true:=by unfold Bt;rw [←lV hk];exact hb
  rw [hd,jf,if_pos hb',ay];omega
theorem yu {s:ByteArray} {k:Nat} (h:s.size≤k∨vc (cP s (k:Int))=false):tw s k=0:=by
  unfold tw;by_cases hk:k < s.size
  · have hlt:k < (bs s).length:=by rw [mm];exact hk
    rw [fo hlt];have hb:vc (cP s (k:Int))=false:=h.resolve_left (by omega);rw [lV (cd hlt)] at hb;rw [jf,if_neg (by unfold Bt;rw [hb];decide)];rfl
  · rw [dX (by rw [mm];omega)];rfl
theorem KN (s:ByteArray) (k:Nat) (h:k≤s.size):k+tw s k≤s.size:=by
  unfold tw;have:=(List.takeWhile_sublist Bt (l:=(bs s).drop k)).length_le;rw [fw,mm] at this
  omega
def fY (s:ByteArray):Bool:=match bs s with
  | [] => false
  | b :: l => !Bt b && l.all Bt
theorem Jv {l:List UInt8}:(l.takeWhile Bt).length=l.length↔l.all Bt=true:=by
  induction l with
  | nil => simp
  | cons b l ih =>
    rw [jf,ec];cases hb:Bt b with
    | false => simp
    | true => simp [ih]
theorem DM (s:ByteArray):((!gM s (⟨#[]⟩:ByteArray)&& !vc (cP s (0:Int)))&&decide ((endF s 0:Int)=(s.size:Int)))=fY s:=by
  have hl:=mm s;have e0:gM s (⟨#[]⟩:ByteArray)=decide (bs s=[]):=yn s _;have et:endF s 0=1+(((bs s).drop 1).takeWhile Bt).length:=by unfold endF tw;simp
  unfold fY;rw [e0,et];cases hb:bs s with
  | nil => simp
  | cons b l =>
    have e1:cP s (0:Int)=b.toNat:=lV (k:=0) (by rw [hb];rfl);rw [e1];rw [hb] at hl;simp only [ay] at hl;have e2:decide (((1+((List.drop 1 (b::l)).takeWhile Bt).length:Nat):Int)=(s.size:Int))=l.all Bt:=by
      rw [eZ,ai,←Jv];simp only [List.drop_succ_cons,nU];omega
    rw [e2];simp [Bt]
def pD (n:Int):Bool:=decide (n < 128) || decide (191 < n)
theorem qe (n:Int):pD n= !vc n:=by
  unfold pD vc;by_cases h1:n < 128 <;> by_cases h2:191 < n <;> simp [h1,h2] <;> omega
def np (s:ByteArray) (st:List ByteArray × Nat) (i:Nat):List ByteArray × Nat:=
  if (decide ((i:Int)=(s.size:Int)) || pD (cP s (i:Int)))=true then (st.1++ [s.extract st.2 i],i) else st
def kq (s:ByteArray):Nat→List ByteArray × Nat
  | 0 => ([], 0)
  | k + 1 => np s (kq s k) (k + 1)
def bA (s:ByteArray):List ByteArray:=(kq s s.size).1
theorem zR (s:ByteArray) (k:Nat):(kq s k).2≤k:=by
  induction k with
  | zero => exact bz _
  | succ k ih =>
    rw [kq,np];split
    · exact bz _
    · exact Nat.le_succ_of_le ih
theorem rE (s:ByteArray) (k:Nat):(kq s k).1.length≤k:=by
  induction k with
  | zero => exact bz _
  | succ k ih =>
    rw [kq,np];split
    · simp only [aQ,ay,aC];omega
    · exact Nat.le_succ_of_le ih
theorem Hv {s:ByteArray} {k:Nat} (hk:k < s.size):(kq s k).1=[]↔∀i,1≤i→i≤k→vc (cP s (i:Int))=true:=by
  induction k with
  | zero => constructor
            · intro _ i h1 h2;omega
            · intro _;rfl
  | succ k ih =>
    have ih:=ih (by omega);rw [kq,np,qe,decide_eq_false (by omega),jX];cases hb:vc (cP s ((k+1:Nat):Int)) with
    | false =>
      simp only [ma,if_true];constructor
      · intro h;simp at h
      · intro h;have:=h (k+1) (by omega) (by omega);rw [hb] at this;cases this
    | true =>
      simp only [mP,Bool.false_eq_true,if_false];rw [ih];constructor
      · intro h i h1 h2;by_cases e:i=k+1
        · subst e;exact hb
        · exact h i h1 (by omega)
      · intro h i h1 h2;exact h i h1 (by omega)
theorem Bu {s:ByteArray} (h:0 < s.size):(bA s).length=1↔∀i,1≤i→i < s.size→vc (cP s (i:Int))=true:=by
  unfold bA;obtain ⟨k,hk⟩:∃k,s.size=k+1:=⟨s.size - 1,by omega⟩;rw [hk,kq,np,decide_eq_true (by omega),Bool.true_or,if_pos rfl,aQ];have h1:=Hv (s:=s) (k:=k) (by omega);constructor
  · intro hl i h2 h3;have:(kq s k).1=[]:=cg (by simp only [ay,aC] at hl;omega);exact h1.1 this i h2 (by omega)
  · intro hq;rw [h1.2 fun i h2 h3=>hq i h2 (by omega)];rfl
theorem yv (s:ByteArray):((decide ((0:Int) < (s.size:Int))&&pD (cP s (0:Int)))&&decide (((bA s).length:Int)=1))=fY s:=by
  have hl:=mm s;unfold fY;cases hb:bs s with
  | nil => rw [hb] at hl; simp at hl; rw [decide_eq_false (by omega)]; simp
  | cons b l =>
    rw [hb] at hl;simp only [ay] at hl;have e1:cP s (0:Int)=b.toNat:=lV (k:=0) (by rw [hb];rfl);rw [decide_eq_true (by omega),jY,e1,qe];congr 1;rw [eZ,ai,cI];have h1:=Bu (s:=s) (by omega);constructor
    · intro h x hx;obtain ⟨i,hi,rfl⟩:=lA hx;have:=h1.1 (by omega) (i+1) (by omega) (by omega);rw [lV (k:=i+1) (b:=l[i]) (by rw [hb,List.getElem?_cons_succ,cd hi])] at this
      exact this
    · intro h;have:(bA s).length=1:=h1.2 fun i h2 h3=>by
        match i,h2 with
        | j + 1, _ =>
          have hj:j < l.length:=by omega
          rw [lV (k:=j+1) (b:=l[j]) (by rw [hb,List.getElem?_cons_succ,cd hj])];exact h _ (pq hj)
      omega
def oh (b:UInt8):UInt8:=if (decide ((65:Int)≤(b.toNat:Int))&&decide ((b.toNat:Int)≤90))=true then UInt8.ofNat (IntKind.u8.wrap ((b.toNat:Int)+32)).toNat else b
def Bv (b:UInt8):UInt8:=if (decide ((97:Int)≤(b.toNat:Int))&&decide ((b.toNat:Int)≤122))=true then UInt8.ofNat (IntKind.u8.wrap ((b.toNat:Int) - 32)).toNat else b
def mo (s:ByteArray):ByteArray:=⟨((bs s).map oh).toArray⟩
def Lm (s:ByteArray):ByteArray:=⟨((bs s).map Bv).toArray⟩
theorem nL (n:Int):0≤IntKind.u8.wrap n∧IntKind.u8.wrap n≤255:=by
  simp [IntKind.wrap,IntKind.signed,IntKind.bits];omega
def iH (f:UInt8→UInt8) (xs:List UInt8) (k:Nat):List UInt8:=(xs.take k).map f++xs.drop k
theorem xG (f:UInt8→UInt8) (xs:List UInt8) (k:Nat):(iH f xs k).length=xs.length:=by
  simp [iH];omega
theorem rF {f:UInt8→UInt8} {xs:List UInt8} {k:Nat} (h:k < xs.length):nth (iH f xs k) (k:Int)=nth xs (k:Int):=by
  unfold iH;rw [iv h];exact nE (by simp;omega)
theorem xH {f:UInt8→UInt8} {xs:List UInt8} {k:Nat} (h:k < xs.length) {v:UInt8} (hv:f (nth xs (k:Int))=v):iH f xs (k+1)=(iH f xs k).set (k:Int).toNat v:=by
  unfold iH;rw [iv h,pZ h,gG,aP];have hl:(List.map f (xs.take k)).length=k:=by simp;omega
  rw [fI _ _ (by omega),hl,mb];simp [hv]
theorem wb {f:UInt8→UInt8} {xs:List UInt8} {k:Nat} (h:k < xs.length) (hv:f (nth xs (k:Int))=nth xs (k:Int)):iH f xs (k+1)=iH f xs k:=by
  unfold iH;rw [iv h,pZ h,aP];simp [hv]
theorem wc (f:UInt8→UInt8) (xs:List UInt8):iH f xs 0=xs:=by simp [iH]
theorem xI {f:UInt8→UInt8} {xs:List UInt8} {k:Nat} (h:xs.length≤k):iH f xs k=xs.map f:=by
  unfold iH;rw [bw h,dX h,eG]
end
section
open Go.RowKit
def ul (p q:Int × Int):Bool:=decide (max p.1 q.1≤min p.2 q.2)
def Jw (x y:Int):Int:=if x < y then -1 else if y < x then 1 else 0
def Hw (xs:List Int):Int:=(xs.find? (fun x=>x !=0)).getD 0
def Jx (p q:Int × Int):Int:=Hw [Jw p.1 q.1,Jw p.2 q.2]
theorem eH {α:Type} [Inhabited α] {xs:List α} {k:Nat} (h:k < xs.length):xs.take (k+1)=xs.take k++ [nth xs k]:=by
  rw [mc h];simp [nth,List.getD,cd h]
theorem take_zero {xs:List Int} {k:Nat} (h:k < xs.length) (hq:∀x ∈ xs.take k,x=0) (h0:nth xs (k:Int)=0):∀x ∈ xs.take (k+1),x=0:=by
  rw [eH h];intro x hx;rcases List.mem_append.1 hx with hx | hx
  · exact hq x hx
  · simp at hx;rw [hx];exact h0
theorem CH {xs:List Int} {k:Nat} (hq:∀x ∈ xs.take k,x=0) (h:k < xs.length) (h0:¬nth xs (k:Int)=0):Hw xs=nth xs (k:Int):=by
  have e:xs=xs.take k++nth xs (k:Int)::xs.drop (k+1):=by
    conv=>lhs;rw [←dP (k+1) xs,eH h]
    simp
  have hn:(xs.take k).find? (fun x=>x !=0)=none:=List.find?_eq_none.2 fun x hx=>by simp [hq x hx]
  unfold Hw;rw [e,List.find?_append,hn];rw [←e];simp [List.find?_cons,h0]
theorem zS {xs:List Int} {k:Nat} (hk:k≤xs.length) (hq:∀x ∈ xs.take k,x=0) (h:(xs.length:Int)≤k):Hw xs=0:=by
  rw [bw (by omega)] at hq;have hn:xs.find? (fun x=>x !=0)=none:=List.find?_eq_none.2 fun x hx=>by simp [hq x hx]
  simp [Hw,hn]
theorem tn (m i:Nat):((m:Int) - (i:Int)).toNat=m - i:=by omega
theorem Ln (m j i:Nat):((m:Int)+(j:Int) - (i:Int)).toNat=m+j - i:=by omega
set_option maxRecDepth 100000 in
theorem Hx (x:Int) (w:World):Calls Tryz.prog 109 #[aj x] w (fun e w'=>e= .returned (aE false)∧Ext aW w w'):=by
 refine enter (n:=6) Tryz.func109 rfl rfl (aw rfl) ?_;intro a0 τ0 ha st0;have e0:=oz ha;refine wp_seq (eK st0 [] ⟨aq fun c=>ax rfl rfl,av⟩ fun ac ag ae ab aa=> ?_);replace e0:=aa.k1 e0;have e2:=aa.V 0;refine wp_seq (lr [0,0,3,7] ab [] ⟨ao e0,ao e0,aq fun c=>fh rfl (c.q 0) (c.q 1),aK 2,av⟩ fun ac ag ae ab aa=> ?_);have e2:=aa.V 3;refine wp_ret ?_;refine rp ?_;refine cO (fn:=Tryz.f109) rfl ab.defers e2 ?_;exact ⟨by simp,ab.ext0⟩
set_option maxRecDepth 100000 in
theorem Lt (v:Value) (xs:List Int) (w:World) (hS:SlT lM w v xs):Calls Tryz.prog 149 #[v] w (fun e w'=>e= .returned (aj (Hw xs))∧Ext aW w w'):=by
 refine enter (n:=18) Tryz.func149 rfl rfl (aw rfl) ?_;intro a0 τ0 ha st0;have e0:=oz ha;have hle:=hS.le;refine wp_seq (eK st0 [] ⟨aq fun c=>ax rfl rfl,av⟩ fun ac ag ae ab aa=> ?_);replace e0:=aa.k1 e0;have e2:=aa.V 0;refine wp_seq (eK ab [] ⟨aq fun c=>ax rfl rfl,av⟩ fun ac ag ae ab aa=> ?_);obtain ⟨e0,e2⟩:=aa.k2 e0 e2;have e3:=aa.V 0;refine wp_seq ?_;refine wp_seq (sf [0,1,0] ab [] ⟨ao e0,aq fun c=>dk rfl cE (c.q 0) hS.sl,aq fun c=>aS rfl rfl,av⟩ fun ac ag ae ab aa=> ?_);obtain ⟨e2,e3⟩:=aa.k2 e2 e3;have e6:=aa.V 0;have e7:=aa.V 1;have e8:=aa.V 2;refine wp_block ?_;refine wp_loop (fun a_ w_=>∃(k:Nat) (τ:Nat→bj),(k≤xs.length)∧
      (∀x ∈ xs.take k,x=0)∧
      St (Nw w) w 18 a_ w_ τ∧
      be a_ 8=(aj (k:Int))∧
      be a_ 3=(aj 0)∧
      be a_ 6=v∧
      be a_ 7=(aj (xs.length:Int))) (fun a_ _=>xs.length - (intOf (be a_ 8)).toNat) ?_ ?_
 · refine ⟨0,ae,?_,?_,ab,(e8.trans (bB (by omega))),e3,e6,e7⟩
   · omega
   · simp
 intro a4 w4 hI;obtain ⟨k,τ4,q0,q1,st4,e8,e3,e6,e7⟩:=hI;have m8:=e8;refine wp_seq (eK st4 [] ⟨aq fun c=>cW rfl (c.p e8) (c.p e7),av⟩ fun ac ag ae ab aa=> ?_);obtain ⟨e3,e6,e7,e8⟩:=aa.k4 e3 e6 e7 e8;have e9:=aa.V 0;refine wp_seq ?_;refine wp_cond_split e9 (fun hc1=> ?_) (fun hc1=> ?_)
 · try simp only [ai] at hc1
   refine wp_skip ?_;refine wp_seq ?_;refine wp_block ?_;refine wp_seq (fX ab [] ⟨aq fun c=>aX rfl cE aA (c.p e6) hS.sl (c.p e8) (by omega) (by omega),aq fun c=>aI rfl aN (c.q 0) ((hS.at (ab.ext.trans c.J.ext)).elem (j:=0) (bF (i:=(k:Int)) (by omega) (by omega)) rfl),aK 1,av⟩ fun ac ag ae ab aa=> ?_);obtain ⟨e3,e6,e7,e8,e9⟩:=aa.k5 e3 e6 e7 e8 e9;have e5:=aa.V 2;refine wp_seq (sf [0,0,3] ab [] ⟨ao e5,ao e3,aq fun c=>fh rfl (c.q 0) (c.q 1),av⟩ fun ac ag ae ab aa=> ?_);obtain ⟨e3,e5,e6,e7,e8,e9⟩:=aa.k6 e3 e5 e6 e7 e8 e9;have e14:=aa.V 2;refine wp_cond_split e14 (fun hc2=> ?_) (fun hc2=> ?_)
   · try simp only [ar,am,ai,ah] at hc2
     refine wp_seq (eA ab [] ⟨ao e5,aK 0,av⟩ fun ac ag ae ab aa=> ?_);obtain ⟨e3,e5,e6,e7,e8,e9,e14⟩:=aa.k7 e3 e5 e6 e7 e8 e9 e14;have e2:=aa.V 1;refine wp_ret ?_;refine rp ?_;refine cO (fn:=Tryz.f149) rfl ab.defers e2 ?_;exact ⟨congrArg _ (bB (by first | exact (CH q1 (by omega) (by assumption)).symm | exact (zS q0 q1 (by assumption)).symm)),ab.ext0⟩
   try simp only [ar,am,ai,ah] at hc2
   refine wp_skip ?_;show _;refine eA ab [] ⟨aq fun c=>cN rfl (c.p e8) rfl (by omega),bD 0,av⟩ fun ac ag ae ab aa=> ?_;obtain ⟨e3,e5,e6,e7,e9,e14⟩:=aa.k6 e3 e5 e6 e7 e9 e14;have e8:=aa.V 1;refine ⟨⟨k+1,ae,?_,?_,ab,(e8.trans (bB (by omega))),e3,e6,e7⟩,?_⟩
   · omega
   · exact take_zero (by omega) q1 (by assumption)
   · simp only [m8,e8,intOf];omega
 try simp only [ah,aV] at hc1
 refine wp_exit ?_;repeat (with_reducible refine cy ?_)
 refine cC ?_;refine wp_seq (eA ab [] ⟨ao e3,aK 0,av⟩ fun ac ag ae ab aa=> ?_);have e2:=aa.V 1;refine wp_ret ?_;refine rp ?_;refine cO (fn:=Tryz.f149) rfl ab.defers e2 ?_;exact ⟨congrArg _ (bB (by first | exact (CH q1 (by omega) (by assumption)).symm | exact (zS q0 q1 (by assumption)).symm)),ab.ext0⟩
end
section
open Srt
abbrev Rw:=ByteArray × ByteArray
theorem sW {α:Type} [Inhabited α] {xs:List α} {k:Nat} (h:k < xs.length):nth xs (k:Int) ∈ xs:=iO (vV h)
theorem xJ {f:Int→Bool} {k:Nat} (h:∀i < k,f ((i:Nat):Int)=false) (h2:f (k:Int)=false):∀i < k+1,f ((i:Nat):Int)=false:=by
  intro i hi;by_cases e:i=k
  · subst e;exact h2
  · exact h i (by omega)
def wd (xs:List Rw):Prop:=∀r ∈ xs,r.1.size≤1000000∧r.2.size≤1000000
theorem zU {xs:List Rw} (h:wd xs) {k:Nat}:k < xs.length→(nth xs (k:Int)).1.size≤1000000∧(nth xs (k:Int)).2.size≤1000000:=fun hk=>h _ (sW hk)
def iU (r:Rw):Bool:=(fY r.1&&fY r.2)&&xw r.1 r.2
def Jy (p q:Rw):Int:=Hw [qD p.1 q.1,qD p.2 q.2]
def gP (p q:Rw):Bool:=decide (Jy p q < 0)
theorem Bw {x y:ByteArray} (h:pW x y=true):qD x y= -1:=if_pos h
theorem Bx {x y:ByteArray} (h:pW x y=false) (h2:(!xw x y)=true):qD x y=1:=by
  have:pW y x=true:=by
    cases hb:pW y x with
    | true => rfl
    | false => rw [yt.2 hb] at h2; cases h2
  rw [qD,if_neg (by rw [h];decide),if_pos this]
theorem By {x y:ByteArray} (h:pW x y=false) (h2:(!xw x y)=false):qD x y=0:=by
  have:pW y x=false:=yt.1 (by simpa using h2);rw [qD,if_neg (by rw [h];decide),if_neg (by rw [this];decide)]
theorem CI {x y:ByteArray}:qD x y < 0↔pW x y=true:=by
  unfold qD;split
  · rename_i h;simp [h]
  · rename_i h;split <;> simp [h]
theorem Hy {x y:ByteArray}:qD x y=0↔x=y:=by
  unfold qD;constructor
  · intro h;rcases qd x y with h' | h' | h'
    · rw [if_pos h'] at h;cases h
    · exact h'
    · rw [if_neg (by rw [rD h'];decide),if_pos h'] at h;cases h
  · rintro rfl
    rw [if_neg (by rw [qc];decide),if_neg (by rw [qc];decide)]
theorem vl (p q:Rw):gP p q=true↔pW p.1 q.1=true∨(p.1=q.1∧pW p.2 q.2=true):=by
  unfold gP Jy Hw;rw [ai,←CI,←CI,←Hy];generalize qD p.1 q.1=a;generalize qD p.2 q.2=b;have hn:∀x:Int,¬x=0→(x !=0)=true:=fun x h=>by simpa using h
  by_cases h1:a=0
  · subst h1;by_cases h2:b=0
    · subst h2;simp [List.find?]
    · simp [List.find?,hn b h2]
  · simp [List.find?,hn a h1,h1]
theorem gH:Swo gP:=by
  constructor
  · intro x y h;rw [vl] at h;rw [←ci,vl]
    rintro (h' | ⟨e,h'⟩)
    · rcases h with h | ⟨e,h⟩
      · rw [rD h] at h';cases h'
      · rw [e,qc] at h';cases h'
    · rcases h with h | ⟨_,h⟩
      · rw [e,qc] at h;cases h
      · rw [rD h] at h';cases h'
  · intro x y z h1 h2;rw [←ci,vl] at h1 h2 ⊢
    rintro (h | ⟨e,h⟩)
    · rcases qd x.1 y.1 with h' | h' | h'
      · exact h1 (.inl h')
      · rw [h'] at h;exact h2 (.inl h)
      · exact h2 (.inl (pC h' h))
    · rcases qd x.1 y.1 with h' | h' | h'
      · exact h1 (.inl h')
      · rcases qd x.2 y.2 with k | k | k
        · exact h1 (.inr ⟨h',k⟩)
        · rw [k] at h;exact h2 (.inr ⟨h' ▸ e,h⟩)
        · exact h2 (.inr ⟨h' ▸ e,pC k h⟩)
      · rw [e] at h';exact h2 (.inl h')
def EL (xs:List Rw) (c:ByteArray):Bool:=xs.any fun r=>xw r.1 c&&xw c r.2
theorem Hz {xs:List Rw} {c:ByteArray} {k:Nat} (h:k < xs.length) (hc:(xw (nth xs (k:Int)).1 c&&xw c (nth xs (k:Int)).2)=true):EL xs c=true:=List.any_eq_true.2 ⟨_,sW h,hc⟩
theorem Jz {xs:List Rw} {c:ByteArray} {k:Nat} (h:xs.length≤k) (hq:∀i < k,(xw (nth xs ((i:Nat):Int)).1 c&&xw c (nth xs ((i:Nat):Int)).2)=false):EL xs c=false:=by
  unfold EL;rw [md];intro r hr;obtain ⟨i,hi,rfl⟩:=lA hr;have:=hq i (by omega);rw [mH (cd hi)] at this
  rw [this];decide
def DN (xs:List Rw) (n f:Bool) (c:ByteArray):Bool:= !((if f=true then (EL xs c || EL xs (mo c)) || EL xs (Lm c) else EL xs c)==n)
def we (xs:List Rw) (i:Int):Bool:= !iU (nth xs i) || (decide (0 < i)&&xw (nth xs i).1 (nth xs (i - 1)).2)
def pb (xs:List Rw):Bool:=(List.range xs.length).all fun i=> !we xs (i:Int)
theorem DO {xs:List Rw} {k:Nat} (h:k < xs.length) (hb:we xs (k:Int)=true):pb xs=false:=by
  unfold pb;rw [List.all_eq_false];exact ⟨k,by simpa using h,by simp [hb]⟩
theorem wg {xs:List Rw} {k:Nat} (h:∀i < k,we xs ((i:Nat):Int)=false) (hk:xs.length≤k):pb xs=true:=by
  unfold pb;rw [cI];intro i hi;simp at hi;simp [h i (by omega)]
theorem zV {α:Type} [Inhabited α] {f:α→Bool} {xs:List α} {k:Nat} (h:k < xs.length) (hp:f (nth xs (k:Int))=true):(xs.take (k+1)).filter f=(xs.take k).filter f++ [nth xs (k:Int)]:=by
  rw [eH h,List.filter_append];simp [hp]
theorem zW {α:Type} [Inhabited α] {f:α→Bool} {xs:List α} {k:Nat} (h:k < xs.length) (hp:f (nth xs (k:Int))=false):(xs.take (k+1)).filter f=(xs.take k).filter f:=by
  rw [eH h,List.filter_append];simp [hp]
theorem DP {α:Type} {f:α→Bool} {xs:List α} {k:Nat}:((xs.take k).filter f).length≤xs.length:=by
  have h1:=List.length_filter_le f (xs.take k);have h3:=List.length_take_le' k xs;omega
theorem qU (xs:List Rw):(fi gP (xs.filter iU)).length≤xs.length:=by
  rw [ik];exact List.length_filter_le _ _
def DQ (acc:List Rw) (p:Rw):Bool:=decide (0≤(acc.length:Int) - 1)&&xw p.1 (nth acc ((acc.length:Int) - 1)).2
def uP (acc:List Rw) (p:Rw):List Rw:=
  if DQ acc p=true then acc.set ((acc.length:Int) - 1).toNat ((nth acc ((acc.length:Int) - 1)).1,va (nth acc ((acc.length:Int) - 1)).2 p.2) else acc++ [p]
def iV (xs:List Rw):List Rw:=xs.foldl uP []
theorem qf (xs:List Rw) (p:Rw):iV (xs++ [p])=uP (iV xs) p:=by simp [iV]
theorem xK {xs:List Rw} {k:Nat} (h:k < xs.length) (hc:DQ (iV (xs.take k)) (nth xs (k:Int))=true):
    iV (xs.take (k+1))=(iV (xs.take k)).set (((iV (xs.take k)).length:Int) - 1).toNat ((nth (iV (xs.take k)) (((iV (xs.take k)).length:Int) - 1)).1,va (nth (iV (xs.take k)) (((iV (xs.take k)).length:Int) - 1)).2 (nth xs (k:Int)).2):=by
  rw [eH h,qf,uP,if_pos hc]
theorem wh {xs:List Rw} {k:Nat} (h:k < xs.length) (hc:DQ (iV (xs.take k)) (nth xs (k:Int))=false):iV (xs.take (k+1))=iV (xs.take k)++ [nth xs (k:Int)]:=by
  rw [eH h,qf,uP,if_neg (by rw [hc];decide)]
theorem zX (xs:List Rw):(iV xs).length≤xs.length:=by
  induction xs using gC with
  | h0 => simp [iV]
  | h1 xs x ih =>
    rw [qf,uP];split
    · simp;omega
    · simp;omega
theorem Bz {xs:List Rw} {k:Nat}:(iV (xs.take k)).length≤k:=by
  have h1:=zX (xs.take k);have h2:=List.length_take_le k xs;omega
def je (xs:List Rw):List Rw:=iV (fi gP (xs.filter iU))
def gF (n:Int):List Rw:=if n=100 then [(⟨#[48]⟩,⟨#[57]⟩)] else if n=119 then [(⟨#[48]⟩,⟨#[57]⟩),(⟨#[65]⟩,⟨#[90]⟩),(⟨#[95]⟩,⟨#[95]⟩),(⟨#[97]⟩,⟨#[122]⟩)] else if n=115 then [(⟨#[9]⟩,⟨#[13]⟩),(⟨#[32]⟩,⟨#[32]⟩)] else []
def kh (n:Int):Bool:=decide (n=100) || (decide (n=119) || decide (n=115))
theorem zY {s:ByteArray} {k:Nat} (h:k < (bs s).length) (hc:(decide ((65:Int)≤((nth (iH oh (bs s) k) (k:Int)).toNat:Int))&&decide (((nth (iH oh (bs s) k) (k:Int)).toNat:Int)≤90))=true):
    iH oh (bs s) (k+1)=(iH oh (bs s) k).set (k:Int).toNat (UInt8.ofNat (IntKind.u8.wrap (((nth (iH oh (bs s) k) (k:Int)).toNat:Int)+32)).toNat):=by
  refine xH h ?_;rw [rF h] at hc ⊢;rw [oh,if_pos hc]
theorem xL {s:ByteArray} {k:Nat} (h:k < (bs s).length) (hc:(decide ((65:Int)≤((nth (iH oh (bs s) k) (k:Int)).toNat:Int))&&decide (((nth (iH oh (bs s) k) (k:Int)).toNat:Int)≤90))=false):iH oh (bs s) (k+1)=iH oh (bs s) k:=by
  refine wb h ?_;rw [rF h] at hc;rw [oh,if_neg (by rw [hc];decide)]
theorem Fs {s:ByteArray} {k:Nat} (h:k < (bs s).length) (hc:(decide ((97:Int)≤((nth (iH Bv (bs s) k) (k:Int)).toNat:Int))&&decide (((nth (iH Bv (bs s) k) (k:Int)).toNat:Int)≤122))=true):
    iH Bv (bs s) (k+1)=(iH Bv (bs s) k).set (k:Int).toNat (UInt8.ofNat (IntKind.u8.wrap (((nth (iH Bv (bs s) k) (k:Int)).toNat:Int) - 32)).toNat):=by
  refine xH h ?_;rw [rF h] at hc ⊢;rw [Bv,if_pos hc]
theorem CJ {s:ByteArray} {k:Nat} (h:k < (bs s).length) (hc:(decide ((97:Int)≤((nth (iH Bv (bs s) k) (k:Int)).toNat:Int))&&decide (((nth (iH Bv (bs s) k) (k:Int)).toNat:Int)≤122))=false):iH Bv (bs s) (k+1)=iH Bv (bs s) k:=by
  refine wb h ?_;rw [rF h] at hc;rw [Bv,if_neg (by rw [hc];decide)]
end
section
open Go.RowKit
open Srt
set_option maxRecDepth 100000 in
theorem zZ (x:ByteArray) (w:World):Calls Tryz.prog 152 #[(bc x)] w (fun e w'=>e= .returned (aE false)∧Ext aW w w'):=by
 refine enter (n:=6) Tryz.func152 rfl rfl (aw rfl) ?_;intro a0 τ0 ha st0;have e0:=oz ha;refine wp_seq (eK st0 [] ⟨aq fun c=>ax rfl rfl,av⟩ fun ac ag ae ab aa=> ?_);replace e0:=aa.k1 e0;have e2:=aa.V 0;refine wp_seq (lr [0,0,3,7] ab [] ⟨ao e0,ao e0,aq fun c=>oa rfl (c.q 0) (c.q 1),aK 2,av⟩ fun ac ag ae ab aa=> ?_);have e2:=aa.V 3;refine wp_ret ?_;refine rp ?_;refine cO (fn:=Tryz.f152) rfl ab.defers e2 ?_;exact ⟨congrArg _ (congrArg _ (by rw [Fp];rfl)),ab.ext0⟩
set_option maxRecDepth 100000 in
theorem wi (x y:ByteArray) (w:World):Calls Tryz.prog 150 #[(bc x),(bc y)] w (fun e w'=>e= .returned (aj (qD x y))∧Ext aW w w'):=by
 refine enter (n:=20) Tryz.func150 rfl rfl (aw rfl) ?_;intro a0 τ0 ha st0;obtain ⟨e0,e1⟩:=qG ha;refine wp_seq (eK st0 [] ⟨aq fun c=>ax rfl rfl,av⟩ fun ac ag ae ab aa=> ?_);obtain ⟨e0,e1⟩:=aa.k2 e0 e1;have e4:=aa.V 0;refine wp_seq (fX ab [] ⟨ao e0,eE fun c=>⟨_,_,(bK rfl rfl Tryz.call152 (c.q 0)),zZ x _⟩,aK 1,av⟩ fun ac ag ae ab aa=> ?_);obtain ⟨e0,e1,e4⟩:=aa.k3 e0 e1 e4;have e5:=aa.V 2;refine wp_seq (fX ab [] ⟨ao e1,eE fun c=>⟨_,_,(bK rfl rfl Tryz.call152 (c.q 0)),zZ y _⟩,aK 1,av⟩ fun ac ag ae ab aa=> ?_);obtain ⟨e0,e1,e4,e5⟩:=aa.k4 e0 e1 e4 e5;have e6:=aa.V 2;refine wp_seq ?_;refine wp_seq (eK ab [] ⟨ao e5,av⟩ fun ac ag ae ab aa=> ?_);obtain ⟨e0,e1,e4,e6⟩:=aa.k4 e0 e1 e4 e6;have e11:=aa.V 0;refine wp_cond_false e11 ?_;refine wp_skip ?_;refine wp_seq ?_;refine wp_seq (eK ab [] ⟨ao e6,av⟩ fun ac ag ae ab aa=> ?_);obtain ⟨e0,e1,e4⟩:=aa.k3 e0 e1 e4;have e13:=aa.V 0;refine wp_cond_false e13 ?_;refine wp_skip ?_;refine wp_seq ?_;refine wp_seq (sf [0,0,3] ab [] ⟨ao e0,ao e1,aq fun c=>EU rfl (c.q 0) (c.q 1),av⟩ fun ac ag ae ab aa=> ?_);obtain ⟨e0,e1,e4⟩:=aa.k3 e0 e1 e4;have e16:=aa.V 2;refine wp_cond_split e16 (fun hc3=> ?_) (fun hc3=> ?_)
 · skip;refine wp_seq (eK ab [] ⟨aq fun c=>ax rfl rfl,av⟩ fun ac ag ae ab aa=> ?_);obtain ⟨e0,e1⟩:=aa.k2 e0 e1;have e4:=aa.V 0;refine wp_ret ?_;refine rp ?_;refine cO (fn:=Tryz.f150) rfl ab.defers e4 ?_;exact ⟨congrArg _ (bB (by first | exact (Bw (by assumption)).symm | exact (Bx (by assumption) (by assumption)).symm | exact (By (by assumption) (by assumption)).symm)),ab.ext0⟩
 skip;refine wp_skip ?_;refine wp_seq ?_;refine wp_seq (sf [0,0,3] ab [] ⟨ao e0,ao e1,aq fun c=>Jn rfl (c.q 0) (c.q 1),av⟩ fun ac ag ae ab aa=> ?_);replace e4:=aa.k1 e4;have e19:=aa.V 2;refine wp_cond_split e19 (fun hc4=> ?_) (fun hc4=> ?_)
 · have hd4:=hc4;try simp only [ar,am] at hd4
   refine wp_seq (eK ab [] ⟨aq fun c=>ax rfl rfl,av⟩ fun ac ag ae ab aa=> ?_);have e4:=aa.V 0;refine wp_ret ?_;refine rp ?_;refine cO (fn:=Tryz.f150) rfl ab.defers e4 ?_;exact ⟨congrArg _ (bB (by first | exact (Bw (by assumption)).symm | exact (Bx (by assumption) (by assumption)).symm | exact (By (by assumption) (by assumption)).symm)),ab.ext0⟩
 have hd4:=hc4;try simp only [ar,am] at hd4
 refine wp_skip ?_;refine wp_seq (eK ab [] ⟨aq fun c=>ax rfl rfl,av⟩ fun ac ag ae ab aa=> ?_);have e4:=aa.V 0;refine wp_ret ?_;refine rp ?_;refine cO (fn:=Tryz.f150) rfl ab.defers e4 ?_;exact ⟨congrArg _ (bB (by first | exact (Bw (by assumption)).symm | exact (Bx (by assumption) (by assumption)).symm | exact (By (by assumption) (by assumption)).symm)),ab.ext0⟩
set_option maxRecDepth 100000 in
theorem wj (p q:ByteArray × ByteArray) (w:World):Calls Tryz.prog 148 #[(.agg #[(bc p.1),(bc p.2)]),(.agg #[(bc q.1),(bc q.2)])] w (fun e w'=>e= .returned (aj (Jy p q))∧Ext aW w w'):=by
 refine enter (n:=17) Tryz.func148 rfl rfl (aw rfl) ?_;intro a0 τ0 ha st0;have e0:be a0 0=(.agg #[(bc p.1),(bc p.2)]):=ha 0 _ rfl;have e1:be a0 1=(.agg #[(bc q.1),(bc q.2)]):=ha 1 _ rfl;clear ha;refine wp_seq (rg [box _ _ 0 2 [(bc p.1),(bc p.2)],box _ _ 1 3 [(bc q.1),(bc q.2)],_] [0,0,0] st0 [] ⟨hH (v:=(.agg #[(bc p.1),(bc p.2)])) rfl rfl rfl rfl rfl (fun _ _ _ _ c=>(c.p e0)),hH (v:=(.agg #[(bc q.1),(bc q.2)])) rfl rfl rfl rfl rfl (fun _ _ _ _ c=>(c.p e1)),aq fun c=>ax rfl rfl,av⟩ fun ac ag ae ab aa=> ?_);obtain ⟨b1x2,e2⟩:=gx ac 2;obtain ⟨b1x3,e3⟩:=gx ac 3;have e4:=aa.V 2;have r0:=aa.rb 0 e2 rfl;have r1:=aa.rb 1 e3 rfl;refine wp_seq (rg [_,_,_,_,_,_,_,_,_,_,own lM 3 _ 2 15 ([qD p.1 q.1,qD p.2 q.2]),_,_] [0,1,0,4,15,0,32,0,128,511,1023,2047,4095] ab [jb r0,jb r1] ⟨cK cZ cf e2 r0.ptr,fE cJ 0 0 0,cK cZ cf e3 r1.ptr,fE cJ 2 1 0,eE fun c=>⟨_,_,(ck rfl rfl Tryz.call150 (c.q 1) (c.q 3)),wi p.1 q.1 _⟩,cK cZ cf e2 r0.ptr,fE cJ 5 0 1,cK cZ cf e3 r1.ptr,fE cJ 7 1 1,eE fun c=>⟨_,_,(ck rfl rfl Tryz.call150 (c.q 6) (c.q 8)),wi p.2 q.2 _⟩,dt (cells:=#[(aj (qD p.1 q.1)),(aj (qD p.2 q.2))]) rfl rfl rfl rfl cE aA jJ rfl (by decide) (by decide) (fun _ _ _ _ c=>iT (c.n 4 rfl) (c.n 9 rfl) (by kernel_rfl)) rfl,eE fun c=>⟨_,_,(bK rfl rfl Tryz.call149 (mg _ 15)),Lt _ _ _ (c.ro 10 rfl).1.sl⟩,aK 11,av⟩ fun ac ag ae ab aa=> ?_);obtain ⟨b2x15,e15⟩:=gx ac 15;have e4:=aa.V 12;refine wp_ret ?_;refine rp ?_;refine cO (fn:=Tryz.f148) rfl ab.defers e4 ?_;exact ⟨rfl,ab.ext0⟩
set_option maxRecDepth 100000 in
theorem DR (v:Value) (xs:List (ByteArray × ByteArray)) (a b n:Nat) (w:World) (ho:iD fx 89 w v xs) (h1:a+n≤xs.length) (h2:b+n≤xs.length):Calls Tryz.prog 156 #[v,(aj (a:Int)),(aj (b:Int)),(aj (n:Int)),(.func (.func 148) #[] #[])] w (fun e w'=>e= .returned (.tuple #[])∧iD fx 89 w' v (rY xs a b n)∧Ext (fun k=>v.ownBlock=some k) w w'):=by
 refine fj (fun g=>v.ownBlock=some g) (fun g hg=>ho.lt g hg) (n:=38) Tryz.func156 rfl rfl (aw rfl) ?_;intro a0 τ0 ha hτ st0;obtain ⟨e0,e1,e2,e3,e4⟩:=Js ha;have r0:ep fx 89 xs (τ0 0) v w:=⟨ho,fun g hg=>by rw [hτ];exact hg⟩;have hle:=r0.le;refine wp_seq (eK st0 [jo r0] ⟨aq fun c=>ax rfl rfl,av⟩ fun ac ag ae ab aa=> ?_);obtain ⟨e0,e1,e2,e3⟩:=aa.k4 e0 e1 e2 e3;have e10:=aa.V 0;replace r0:=aa.O 0;refine wp_block ?_;refine wp_loop (fun a_ w_=>∃(i:Nat) (τ:Nat→bj),(i≤n)∧
      St (fun k=>v.ownBlock=some k∨w.heap.size≤k) w 38 a_ w_ τ∧
      be a_ 10=(aj (i:Int))∧
      be a_ 0=v∧
      be a_ 1=(aj (a:Int))∧
      be a_ 2=(aj (b:Int))∧
      be a_ 3=(aj (n:Int))∧
      ep fx 89 (rY xs a b i) (τ 0) v w_) (fun a_ _=>n - (intOf (be a_ 10)).toNat) ?_ ?_
 · refine ⟨0,ae,?_,ab,(e10.trans (bB (by omega))),e0,e1,e2,e3,?_⟩
   · omega
   · exact r0.cast (by rfl)
 intro a2 w2 hI;obtain ⟨i,τ2,q0,st2,e10,e0,e1,e2,e3,r0⟩:=hI;have hl:=yr xs a b i;have m10:=e10;refine wp_seq ?_;refine wp_seq (sf [0,0,3] st2 [jo r0] ⟨ao e10,ao e3,aq fun c=>cW rfl (c.q 0) (c.q 1),av⟩ fun ac ag ae ab aa=> ?_);obtain ⟨e0,e1,e2,e3,e10⟩:=aa.k5 e0 e1 e2 e3 e10;have e13:=aa.V 2;replace r0:=aa.O 0;refine wp_cond_split e13 (fun hc1=> ?_) (fun hc1=> ?_)
 · try simp only [ai] at hc1
   refine wp_skip ?_;refine wp_seq ?_;refine wp_block ?_;refine rg [_,_,_,_,_,_,_,_,_,_,_,_,_,_,_,_,_,_,_,_,_,own _ _ _ 0 0 _,_,own _ _ _ 0 0 _] [0,0,0,6,0,0,0,96,0,0,0,1536,3840,7936,0,0,0,98304,245760,507904,1048335,2096911,4194303,8388607] ab [jo r0] ⟨ao e0,ao e1,ao e10,aq fun c=>cN rfl (c.q 1) (c.q 2) (by omega),ao e0,ao e2,ao e10,aq fun c=>cN rfl (c.q 5) (c.q 6) (by omega),ao e0,ao e2,ao e10,aq fun c=>cN rfl (c.q 9) (c.q 10) (by omega),aq fun c=>aX rfl br bq (c.q 8) r0.isSl (c.q 11) (by omega) (by omega),aq fun c=>cq (vs:=[(bc ((nth (rY xs a b i) ((b:Int)+(i:Int))).1)),(bc ((nth (rY xs a b i) ((b:Int)+(i:Int))).2))]) rfl dF bq (c.q 12) rfl (fun _ _ hj=>((c.io 0 rfl).1.sl).elem (bF (i:=(b:Int)+(i:Int)) (by omega) (by omega)) hj),ao e0,ao e1,ao e10,aq fun c=>cN rfl (c.q 15) (c.q 16) (by omega),aq fun c=>aX rfl br bq (c.q 14) r0.isSl (c.q 17) (by omega) (by omega),aq fun c=>cq (vs:=[(bc ((nth (rY xs a b i) ((a:Int)+(i:Int))).1)),(bc ((nth (rY xs a b i) ((a:Int)+(i:Int))).2))]) rfl dF bq (c.q 18) rfl (fun _ _ hj=>((c.io 0 rfl).1.sl).elem (bF (i:=(a:Int)+(i:Int)) (by omega) (by omega)) hj),aq fun c=>aX rfl br bq (c.q 0) r0.isSl (c.q 3) (by omega) (by omega),jl (E:=fx) (i:=((a:Int)+(i:Int)).toNat) (off:=0) (u:=(.agg #[(bc ((nth (rY xs a b i) ((b:Int)+(i:Int))).1)),(bc ((nth (rY xs a b i) ((b:Int)+(i:Int))).2))])) (x:=nth (rY xs a b i) ((a:Int)+(i:Int))) (x':=(nth (rY xs a b i) ((b:Int)+(i:Int)))) rfl rfl rfl rfl bq (bF (by omega) (by (try simp only [dx]);omega)) (aw rfl) (by simp [Value.cells,Value.oneCell',Sv.v]) rfl (fun _ a_ _ _ c=>⟨c.ip 0 rfl e0,c.ad (c.n 20 rfl) e0 rfl,(c.n 13 rfl)⟩),aq fun c=>aX rfl br bq (c.q 4) r0.isSl (c.q 7) (by omega) (by omega),jl (E:=fx) (i:=((b:Int)+(i:Int)).toNat) (off:=0) (u:=(.agg #[(bc ((nth (rY xs a b i) ((a:Int)+(i:Int))).1)),(bc ((nth (rY xs a b i) ((a:Int)+(i:Int))).2))])) (x:=nth ((rY xs a b i).set ((a:Int)+(i:Int)).toNat (nth (rY xs a b i) ((b:Int)+(i:Int)))) ((b:Int)+(i:Int))) (x':=(nth (rY xs a b i) ((a:Int)+(i:Int)))) rfl rfl rfl rfl bq (bF (by omega) (by (try simp only [dx]);omega)) (aw rfl) (by simp [Value.cells,Value.oneCell',Sv.v]) rfl (fun _ a_ _ _ c=>⟨c.ro 21 rfl,c.ad (c.n 22 rfl) e0 rfl,(c.n 19 rfl)⟩),av⟩ fun ac ag ae ab aa=> ?_;obtain ⟨e0,e1,e2,e3,e10,e13⟩:=aa.k6 e0 e1 e2 e3 e10 e13;replace r0:=aa.ro 23 e0 rfl;show _;refine fX ab [jo r0] ⟨ao e10,aq fun c=>cN rfl (c.q 0) rfl (by omega),aK 1,av⟩ fun ac ag ae ab aa=> ?_;obtain ⟨e0,e1,e2,e3,e13⟩:=aa.k5 e0 e1 e2 e3 e13;have e10:=aa.V 2;replace r0:=aa.O 0;refine ⟨⟨i+1,ae,?_,ab,(e10.trans (bB (by omega))),e0,e1,e2,e3,?_⟩,?_⟩
   · omega
   · exact r0.cast (by rfl)
   · simp only [m10,e10,intOf];omega
 try simp only [ah,aV] at hc1
 refine wp_exit ?_;repeat (with_reducible refine cy ?_)
 refine cC ?_;refine oC (fn:=Tryz.f156) rfl ab.defers ?_;obtain rfl:i=n:=by omega
 exact ⟨rfl,r0.1,ab.extIn⟩
theorem um (v:Value) (xs:List (ByteArray × ByteArray)) (a b n:Int) (w:World) (ho:iD fx 89 w v xs) (ha:0≤a) (hb:0≤b) (hn:0≤n) (h1:a+n≤xs.length) (h2:b+n≤xs.length):Calls Tryz.prog 156 #[v,.int .i64 a,.int .i64 b,.int .i64 n,(.func (.func 148) #[] #[])] w (fun e w'=>e= .returned (.tuple #[])∧iD fx 89 w' v (rY xs a.toNat b.toNat n.toNat)∧Ext (fun k=>v.ownBlock=some k) w w'):=by
  obtain ⟨a,rfl⟩:=gh ha;obtain ⟨b,rfl⟩:=gh hb;obtain ⟨n,rfl⟩:=gh hn;exact DR v xs a b n w ho (by omega) (by omega)
set_option maxRecDepth 100000 in
theorem Aa (v:Value) (xs:List (ByteArray × ByteArray)) (a b:Nat) (w:World) (ho:iD fx 89 w v xs) (h1:a≤b) (h2:b≤xs.length) (hbig:xs.length≤1000000000000):Calls Tryz.prog 153 #[v,(aj (a:Int)),(aj (b:Int)),(.func (.func 148) #[] #[])] w (fun e w'=>e= .returned (.tuple #[])∧iD fx 89 w' v (sU gP xs a b)∧Ext (fun k=>v.ownBlock=some k) w w'):=by
 refine fj (fun g=>v.ownBlock=some g) (fun g hg=>ho.lt g hg) (n:=53) Tryz.func153 rfl rfl (aw rfl) ?_;intro a0 τ0 ha hτ st0;obtain ⟨e0,e1,e2,e3⟩:=KF ha;have r0:ep fx 89 xs (τ0 0) v w:=⟨ho,fun g hg=>by rw [hτ];exact hg⟩;have hle:=r0.le;refine wp_seq (fX st0 [jo r0] ⟨ao e1,aq fun c=>cN rfl (c.q 0) rfl (by omega),aK 1,av⟩ fun ac ag ae ab aa=> ?_);obtain ⟨e0,e1,e2,e3⟩:=aa.k4 e0 e1 e2 e3;have e8:=aa.V 2;replace r0:=aa.O 0;refine wp_block ?_;refine wp_loop (fun a_ w_=>∃(n:Nat) (τ:Nat→bj),(n≤b - (a+1))∧
      St (fun k=>v.ownBlock=some k∨w.heap.size≤k) w 53 a_ w_ τ∧
      be a_ 8=(aj ((a:Int)+1+(n:Int)))∧
      be a_ 0=v∧
      be a_ 1=(aj (a:Int))∧
      be a_ 2=(aj (b:Int))∧
      be a_ 3=(.func (.func 148) #[] #[])∧
      ep fx 89 (oe gP a n xs) (τ 0) v w_) (fun a_ _=>b - (intOf (be a_ 8)).toNat) ?_ ?_
 · refine ⟨0,ae,?_,ab,(e8.trans (bB (by omega))),e0,e1,e2,e3,?_⟩
   · omega
   · exact r0.cast (by rfl)
 intro a2 w2 hI;obtain ⟨n,τ2,q0,st2,e8,e0,e1,e2,e3,r0⟩:=hI;have m8:=e8;refine wp_seq ?_;refine wp_seq (sf [0,0,3] st2 [jo r0] ⟨ao e8,ao e2,aq fun c=>cW rfl (c.q 0) (c.q 1),av⟩ fun ac ag ae ab aa=> ?_);obtain ⟨e0,e1,e2,e3,e8⟩:=aa.k5 e0 e1 e2 e3 e8;have e14:=aa.V 2;replace r0:=aa.O 0;refine wp_cond_split e14 (fun hc1=> ?_) (fun hc1=> ?_)
 · try simp only [ai] at hc1
   refine wp_skip ?_;refine wp_seq ?_;refine wp_block ?_;refine wp_seq (eA ab [jo r0] ⟨ao e8,aK 0,av⟩ fun ac ag ae ab aa=> ?_);obtain ⟨e0,e1,e2,e3,e8,e14⟩:=aa.k6 e0 e1 e2 e3 e8 e14;have e9:=aa.V 1;replace r0:=aa.O 0;refine wp_block ?_;refine wp_loop (fun a_ w_=>∃(j:Nat) (ys:List (ByteArray × ByteArray)) (τ:Nat→bj),(a≤j)∧
          (j≤a+1+n)∧
          (ys.length=xs.length)∧
          (Fi gP a j ys=oe gP a (n+1) xs)∧
          St (fun k=>v.ownBlock=some k∨w.heap.size≤k) w 53 a_ w_ τ∧
          be a_ 9=(aj (j:Int))∧
          be a_ 0=v∧
          be a_ 1=(aj (a:Int))∧
          be a_ 2=(aj (b:Int))∧
          be a_ 3=(.func (.func 148) #[] #[])∧
          be a_ 8=(aj ((a:Int)+1+(n:Int)))∧
          be a_ 14=(aE (decide ((a:Int)+1+(n:Int) < (b:Int))))∧
          ep fx 89 ys (τ 0) v w_) (fun a_ _=>(intOf (be a_ 9)).toNat) ?_ ?_
   · refine ⟨a+1+n,oe gP a n xs,ae,?_,?_,?_,?_,ab,(e9.trans (bB (by omega))),e0,e1,e2,e3,e8,e14,?_⟩
     · omega
     · omega
     · exact vU a n xs
     · rfl
     · exact r0.cast (by rfl)
   intro a5 w5 hI;obtain ⟨j,ys,τ5,q0,q1,q2,q3,st5,e9,e0,e1,e2,e3,e8,e14,r0⟩:=hI;have m9:=e9;refine wp_seq ?_;refine wp_seq ?_;refine rg [_,_,_,_,_,_,_,_,_,_,_,_,_,_,_,_,_] [0,0,3,7,15,15,15,111,239,15,15,1039,3599,7695,16383,32767,65535] st5 [jo r0] ⟨ao e9,ao e1,aq fun c=>ii rfl (c.q 0) (c.q 1),bD 2,aL 3 rfl fun c hpc=>aS rfl (c.p e3),aL 3 rfl fun c hpc=>aS rfl (c.p e0),aL 3 rfl fun c hpc=>aS rfl (c.p e9),aL 3 rfl fun c hpc=>aX rfl br bq (c.M 5 hpc) r0.isSl (c.M 6 hpc) (by have hq0:=bt hpc;omega) (by have hq0:=bt hpc;omega),aL 3 rfl fun c hpc=>cq (vs:=[(bc ((nth ys (j:Int)).1)),(bc ((nth ys (j:Int)).2))]) rfl dF bq (c.M 7 hpc) rfl (fun _ _ hj=>((c.io 0 rfl).1.sl).elem (bF (i:=(j:Int)) (by have hq0:=bt hpc;omega) (by have hq0:=bt hpc;omega)) hj),aL 3 rfl fun c hpc=>aS rfl (c.p e0),aL 3 rfl fun c hpc=>aS rfl (c.p e9),aL 3 rfl fun c hpc=>gd rfl (c.M 10 hpc) rfl (by have hq0:=bt hpc;omega),aL 3 rfl fun c hpc=>aX rfl br bq (c.M 9 hpc) r0.isSl (c.M 11 hpc) (by have hq0:=bt hpc;omega) (by have hq0:=bt hpc;omega),aL 3 rfl fun c hpc=>cq (vs:=[(bc ((nth ys ((j:Int) - 1)).1)),(bc ((nth ys ((j:Int) - 1)).2))]) rfl dF bq (c.M 12 hpc) rfl (fun _ _ hj=>((c.io 0 rfl).1.sl).elem (bF (i:=(j:Int) - 1) (by have hq0:=bt hpc;omega) (by have hq0:=bt hpc;omega)) hj),fC 3 true rfl fun c hpc=>⟨_,_,(ck rfl (c.M 4 hpc) nz (c.M 8 hpc) (c.M 13 hpc)),wj (nth ys (j:Int)) (nth ys ((j:Int) - 1)) _⟩,aL 3 rfl fun c hpc=>cW rfl (c.M 14 hpc) rfl,bZ 3 15,av⟩ fun ac ag ae ab aa=> ?_;obtain ⟨e0,e1,e2,e3,e8,e9,e14⟩:=aa.k7 e0 e1 e2 e3 e8 e9 e14;have e34:=aa.V 16;replace r0:=aa.O 0;refine wp_cond_split e34 (fun hc2=> ?_) (fun hc2=> ?_)
   · try simp only [au,ai] at hc2
     refine wp_skip ?_;refine wp_seq ?_;refine wp_block ?_;refine rg [_,_,_,_,_,_,_,_,_,_,_,_,_,_,_,own _ _ _ 0 0 _,_,own _ _ _ 0 0 _] [0,0,0,0,8,0,0,64,224,480,0,0,3072,7168,16355,32739,65535,131071] ab [jo r0] ⟨ao e0,ao e9,ao e0,ao e9,aq fun c=>gd rfl (c.q 3) rfl (by omega),ao e0,ao e9,aq fun c=>gd rfl (c.q 6) rfl (by omega),aq fun c=>aX rfl br bq (c.q 5) r0.isSl (c.q 7) (by omega) (by omega),aq fun c=>cq (vs:=[(bc ((nth ys ((j:Int) - 1)).1)),(bc ((nth ys ((j:Int) - 1)).2))]) rfl dF bq (c.q 8) rfl (fun _ _ hj=>((c.io 0 rfl).1.sl).elem (bF (i:=(j:Int) - 1) (by omega) (by omega)) hj),ao e0,ao e9,aq fun c=>aX rfl br bq (c.q 10) r0.isSl (c.q 11) (by omega) (by omega),aq fun c=>cq (vs:=[(bc ((nth ys (j:Int)).1)),(bc ((nth ys (j:Int)).2))]) rfl dF bq (c.q 12) rfl (fun _ _ hj=>((c.io 0 rfl).1.sl).elem (bF (i:=(j:Int)) (by omega) (by omega)) hj),aq fun c=>aX rfl br bq (c.q 0) r0.isSl (c.q 1) (by omega) (by omega),jl (E:=fx) (i:=(j:Int).toNat) (off:=0) (u:=(.agg #[(bc ((nth ys ((j:Int) - 1)).1)),(bc ((nth ys ((j:Int) - 1)).2))])) (x:=nth ys (j:Int)) (x':=(nth ys ((j:Int) - 1))) rfl rfl rfl rfl bq (bF (by omega) (by (try simp only [dx]);omega)) (aw rfl) (by simp [Value.cells,Value.oneCell',Sv.v]) rfl (fun _ a_ _ _ c=>⟨c.ip 0 rfl e0,c.ad (c.n 14 rfl) e0 rfl,(c.n 9 rfl)⟩),aq fun c=>aX rfl br bq (c.q 2) r0.isSl (c.q 4) (by omega) (by omega),jl (E:=fx) (i:=((j:Int) - 1).toNat) (off:=0) (u:=(.agg #[(bc ((nth ys (j:Int)).1)),(bc ((nth ys (j:Int)).2))])) (x:=nth (ys.set (j:Int).toNat (nth ys ((j:Int) - 1))) ((j:Int) - 1)) (x':=(nth ys (j:Int))) rfl rfl rfl rfl bq (bF (by omega) (by (try simp only [dx]);omega)) (aw rfl) (by simp [Value.cells,Value.oneCell',Sv.v]) rfl (fun _ a_ _ _ c=>⟨c.ro 15 rfl,c.ad (c.n 16 rfl) e0 rfl,(c.n 13 rfl)⟩),av⟩ fun ac ag ae ab aa=> ?_;obtain ⟨e0,e1,e2,e3,e8,e9,e14,e34⟩:=aa.k8 e0 e1 e2 e3 e8 e9 e14 e34;replace r0:=aa.ro 17 e0 rfl;show _;refine fX ab [jo r0] ⟨ao e9,aq fun c=>gd rfl (c.q 0) rfl (by omega),aK 1,av⟩ fun ac ag ae ab aa=> ?_;obtain ⟨e0,e1,e2,e3,e8,e14,e34⟩:=aa.k7 e0 e1 e2 e3 e8 e14 e34;have e9:=aa.V 2;replace r0:=aa.O 0;refine ⟨⟨j - 1,DH ys (j:Int) ((j:Int) - 1),ae,?_,?_,?_,?_,ab,(e9.trans (bB (by omega))),e0,e1,e2,e3,e8,e14,?_⟩,?_⟩
     · omega
     · omega
     · rw [sS];exact q2
     · exact (zI (by omega) (by simp only [gP,ai];omega)).symm.trans q3
     · exact r0.cast (by rfl)
     · simp only [m9,e9,intOf];omega
   try simp only [bl,ah,aV] at hc2
   refine wp_exit ?_;repeat (with_reducible refine cy ?_)
   refine cC ?_;show _;refine fX ab [jo r0] ⟨ao e8,aq fun c=>cN rfl (c.q 0) rfl (by omega),aK 1,av⟩ fun ac ag ae ab aa=> ?_;obtain ⟨e0,e1,e2,e3,e9,e14,e34⟩:=aa.k7 e0 e1 e2 e3 e9 e14 e34;have e8:=aa.V 2;replace r0:=aa.O 0;refine ⟨⟨n+1,ae,?_,ab,(e8.trans (bB (by omega))),e0,e1,e2,e3,?_⟩,?_⟩
   · omega
   · exact r0.cast (by exact (((vT (by rintro ⟨g1,g2⟩;simp only [gP,ai] at g2;omega)).symm).trans q3).symm)
   · simp only [m8,e8,intOf];omega
 try simp only [ah,aV] at hc1
 refine wp_exit ?_;repeat (with_reducible refine cy ?_)
 refine cC ?_;refine oC (fn:=Tryz.f153) rfl ab.defers ?_;obtain rfl:n=b - (a+1):=by omega
 rw [DK h1 h2] at r0;exact ⟨rfl,r0.1,ab.extIn⟩
set_option maxRecDepth 100000 in
theorem Ft (v:Value) (xs:List (ByteArray × ByteArray)) (a m b:Nat) (w:World) (ho:iD fx 89 w v xs) (h1:a < m) (h2:m < b) (h3:b≤xs.length):Calls Tryz.prog 155 #[v,(aj (a:Int)),(aj (m:Int)),(aj (b:Int)),(.func (.func 148) #[] #[])] w (fun e w'=>e= .returned (.tuple #[])∧iD fx 89 w' v (gk xs a m b)∧Ext (fun k=>v.ownBlock=some k) w w'):=by
 refine fj (fun g=>v.ownBlock=some g) (fun g hg=>ho.lt g hg) (n:=58) Tryz.func155 rfl rfl (aw rfl) ?_;intro a0 τ0 ha hτ st0;obtain ⟨e0,e1,e2,e3,e4⟩:=Js ha;have r0:ep fx 89 xs (τ0 0) v w:=⟨ho,fun g hg=>by rw [hτ];exact hg⟩;have hle:=r0.le;refine wp_seq (lr [0,0,3,7] st0 [jo r0] ⟨ao e2,ao e1,aq fun c=>gd rfl (c.q 0) (c.q 1) (by omega),aK 2,av⟩ fun ac ag ae ab aa=> ?_);obtain ⟨e0,e2,e3,e4⟩:=aa.k4 e0 e2 e3 e4;have e10:=aa.V 3;replace r0:=aa.O 0;refine wp_seq (lr [0,0,3,7] ab [jo r0] ⟨ao e3,ao e2,aq fun c=>gd rfl (c.q 0) (c.q 1) (by omega),aK 2,av⟩ fun ac ag ae ab aa=> ?_);obtain ⟨e0,e2,e4,e10⟩:=aa.k4 e0 e2 e4 e10;have e11:=aa.V 3;replace r0:=aa.O 0;refine wp_seq ?_;refine wp_block ?_;refine wp_loop (fun a_ w_=>∃(f i j:Nat) (ys:List (ByteArray × ByteArray)) (τ:Nat→bj),(1≤i)∧
      (1≤j)∧
      (i≤m)∧
      (m+j≤xs.length)∧
      (ys.length=xs.length)∧
      (i+j≤f+2)∧
      (sA f ys m i j=gk xs a m b)∧
      St (fun k=>v.ownBlock=some k∨w.heap.size≤k) w 58 a_ w_ τ∧
      be a_ 10=(aj (i:Int))∧
      be a_ 11=(aj (j:Int))∧
      be a_ 0=v∧
      be a_ 2=(aj (m:Int))∧
      be a_ 4=(.func (.func 148) #[] #[])∧
      ep fx 89 ys (τ 0) v w_) (fun a_ _=>(intOf (be a_ 10)).toNat+(intOf (be a_ 11)).toNat) ?_ ?_
 · refine ⟨b - a,m - a,b - m,xs,ae,?_,?_,?_,?_,?_,?_,?_,ab,(e10.trans (bB (by omega))),(e11.trans (bB (by omega))),e0,e2,e4,?_⟩
   · omega
   · omega
   · omega
   · omega
   · rfl
   · omega
   · exact Hp (by omega) (by omega) (by omega) (by omega)
   · exact r0.cast (by rfl)
 intro a3 w3 hI;obtain ⟨f,i,j,ys,τ3,q0,q1,q2,q3,q4,q5,q6,st3,e10,e11,e0,e2,e4,r0⟩:=hI;have m10:=e10;have m11:=e11;refine wp_seq ?_;refine wp_seq (sf [0,0,3] st3 [jo r0] ⟨ao e10,ao e11,aq fun c=>fh rfl (c.q 0) (c.q 1),av⟩ fun ac ag ae ab aa=> ?_);obtain ⟨e0,e2,e4,e10,e11⟩:=aa.k5 e0 e2 e4 e10 e11;have e20:=aa.V 2;replace r0:=aa.O 0;refine wp_cond_split e20 (fun hc1=> ?_) (fun hc1=> ?_)
 · try simp only [ar,am,ai,ah] at hc1
   refine wp_skip ?_;refine wp_block ?_;refine wp_seq (sf [0,0,3] ab [jo r0] ⟨ao e10,ao e11,aq fun c=>ii rfl (c.q 0) (c.q 1),av⟩ fun ac ag ae ab aa=> ?_);obtain ⟨e0,e2,e4,e10,e11,e20⟩:=aa.k6 e0 e2 e4 e10 e11 e20;have e23:=aa.V 2;replace r0:=aa.O 0;refine wp_cond_split e23 (fun hc2=> ?_) (fun hc2=> ?_)
   · try simp only [ai] at hc2
     refine wp_seq (rg [_,_,_,_,_,_,_,own _ _ _ 0 0 _] [0,0,0,6,0,0,0,127] ab [jo r0] ⟨ao e0,ao e2,ao e10,aq fun c=>gd rfl (c.q 1) (c.q 2) (by omega),ao e2,ao e11,ao e4,fM rfl rfl rfl (by decide) (fun _ a_ _ _ c=>⟨_,_,(eC rfl rfl Tryz.call156 (c.n 0 rfl) (c.n 3 rfl) (c.n 4 rfl) (c.n 5 rfl) (c.n 6 rfl)),c.p e0,c.io 0 rfl,fun ho_=>um v ys ((m:Int) - (i:Int)) (m:Int) (j:Int) _ ho_ (by omega) (by omega) (by omega) (by omega) (by omega)⟩),av⟩ fun ac ag ae ab aa=> ?_);obtain ⟨e0,e2,e4,e10,e11,e20,e23⟩:=aa.k7 e0 e2 e4 e10 e11 e20 e23;replace r0:=aa.ro 7 e0 rfl;refine lr [0,0,3,7] ab [jo r0] ⟨ao e10,ao e11,aq fun c=>gd rfl (c.q 0) (c.q 1) (by omega),aK 2,av⟩ fun ac ag ae ab aa=> ?_;obtain ⟨e0,e2,e4,e11,e20,e23⟩:=aa.k6 e0 e2 e4 e11 e20 e23;have e10:=aa.V 3;replace r0:=aa.O 0;show _;refine ⟨⟨f - 1,i - j,j,rY ys ((m:Int) - (i:Int)).toNat (m:Int).toNat (j:Int).toNat,ae,?_,?_,?_,?_,?_,?_,?_,ab,(e10.trans (bB (by omega))),(e11.trans (bB (by omega))),e0,e2,e4,?_⟩,?_⟩
     · omega
     · omega
     · omega
     · omega
     · rw [yr];exact q4
     · omega
     · rcases lZ i j with h_ | h_ | h_
       · first | omega | (rw [CC h_ (by omega)] at q6;simpa only [gG,tn,Ln] using q6)
       · omega
       · first | omega | (rw [CB h_ (by omega)] at q6;simpa only [gG,tn,Ln] using q6)
     · exact r0.cast (by rfl)
     · simp only [m10,m11,e10,e11,intOf];omega
   try simp only [ah,aV] at hc2
   refine wp_seq (rg [_,_,_,_,_,_,_,_,_,_,_,own _ _ _ 0 0 _] [0,0,0,6,0,0,48,0,240,0,0,2047] ab [jo r0] ⟨ao e0,ao e2,ao e10,aq fun c=>gd rfl (c.q 1) (c.q 2) (by omega),ao e2,ao e11,aq fun c=>cN rfl (c.q 4) (c.q 5) (by omega),ao e10,aq fun c=>gd rfl (c.q 6) (c.q 7) (by omega),ao e10,ao e4,fM rfl rfl rfl (by decide) (fun _ a_ _ _ c=>⟨_,_,(eC rfl rfl Tryz.call156 (c.n 0 rfl) (c.n 3 rfl) (c.n 8 rfl) (c.n 9 rfl) (c.n 10 rfl)),c.p e0,c.io 0 rfl,fun ho_=>um v ys ((m:Int) - (i:Int)) ((m:Int)+(j:Int) - (i:Int)) (i:Int) _ ho_ (by omega) (by omega) (by omega) (by omega) (by omega)⟩),av⟩ fun ac ag ae ab aa=> ?_);obtain ⟨e0,e2,e4,e10,e11,e20,e23⟩:=aa.k7 e0 e2 e4 e10 e11 e20 e23;replace r0:=aa.ro 11 e0 rfl;refine lr [0,0,3,7] ab [jo r0] ⟨ao e11,ao e10,aq fun c=>gd rfl (c.q 0) (c.q 1) (by omega),aK 2,av⟩ fun ac ag ae ab aa=> ?_;obtain ⟨e0,e2,e4,e10,e20,e23⟩:=aa.k6 e0 e2 e4 e10 e20 e23;have e11:=aa.V 3;replace r0:=aa.O 0;show _;refine ⟨⟨f - 1,i,j - i,rY ys ((m:Int) - (i:Int)).toNat ((m:Int)+(j:Int) - (i:Int)).toNat (i:Int).toNat,ae,?_,?_,?_,?_,?_,?_,?_,ab,(e10.trans (bB (by omega))),(e11.trans (bB (by omega))),e0,e2,e4,?_⟩,?_⟩
   · omega
   · omega
   · omega
   · omega
   · rw [yr];exact q4
   · omega
   · rcases lZ i j with h_ | h_ | h_
     · first | omega | (rw [CC h_ (by omega)] at q6;simpa only [gG,tn,Ln] using q6)
     · omega
     · first | omega | (rw [CB h_ (by omega)] at q6;simpa only [gG,tn,Ln] using q6)
   · exact r0.cast (by rfl)
   · simp only [m10,m11,e10,e11,intOf];omega
 try simp only [ar,am,ai,ah] at hc1
 refine wp_exit ?_;repeat (with_reducible refine cy ?_)
 refine cC ?_;refine rg [_,_,_,_,_,_,_,own _ _ _ 0 0 _] [0,0,0,6,0,0,0,127] ab [jo r0] ⟨ao e0,ao e2,ao e10,aq fun c=>gd rfl (c.q 1) (c.q 2) (by omega),ao e2,ao e10,ao e4,fM rfl rfl rfl (by decide) (fun _ a_ _ _ c=>⟨_,_,(eC rfl rfl Tryz.call156 (c.n 0 rfl) (c.n 3 rfl) (c.n 4 rfl) (c.n 5 rfl) (c.n 6 rfl)),c.p e0,c.io 0 rfl,fun ho_=>um v ys ((m:Int) - (i:Int)) (m:Int) (i:Int) _ ho_ (by omega) (by omega) (by omega) (by omega) (by omega)⟩),av⟩ fun ac ag ae ab aa=> ?_;replace e0:=aa.k1 e0;replace r0:=aa.ro 7 e0 rfl;refine oC (fn:=Tryz.f155) rfl ab.defers ?_;obtain rfl:i=j:=by omega
 rw [DJ] at q6;have e_:rY ys ((m:Int) - (i:Int)).toNat (m:Int).toNat (i:Int).toNat=gk xs a m b:=by rw [←q6];congr 1 <;> omega
 exact ⟨rfl,e_ ▸ r0.1,ab.extIn⟩
theorem Ab (v:Value) (xs:List (ByteArray × ByteArray)) (a m b:Int) (w:World) (ho:iD fx 89 w v xs) (ha:0≤a) (h1:a < m) (h2:m < b) (h3:b≤xs.length):Calls Tryz.prog 155 #[v,.int .i64 a,.int .i64 m,.int .i64 b,(.func (.func 148) #[] #[])] w (fun e w'=>e= .returned (.tuple #[])∧iD fx 89 w' v (gk xs a.toNat m.toNat b.toNat)∧Ext (fun k=>v.ownBlock=some k) w w'):=by
  obtain ⟨a,rfl⟩:=gh ha;obtain ⟨m,rfl⟩:=gh (show 0≤m by omega);obtain ⟨b,rfl⟩:=gh (show 0≤b by omega);exact Ft v xs a m b w ho (by omega) (by omega) (by omega)
end
section
open Go.RowKit
open Srt
def CK (d:Nat):Prop:=∀(v:Value) (xs:List (ByteArray × ByteArray)) (a m b:Nat) (w:World),iD fx 89 w v xs→a < m→m < b→b≤xs.length→xs.length≤1000000000000→b - a≤d→gK gP (gS xs a m)→gK gP (gS xs m b)→
    Calls Tryz.prog 154 #[v,.int .i64 (a:Int),.int .i64 (m:Int),.int .i64 (b:Int),(.func (.func 148) #[] #[])] w (fun e w'=>e= .returned (.tuple #[])∧iD fx 89 w' v (mF gP xs a m b)∧Ext (fun k=>v.ownBlock=some k) w w')
set_option maxRecDepth 100000 in
set_option maxHeartbeats 8000000 in
theorem Ac {d:Nat} (ih:CK d) (v:Value) (xs:List (ByteArray × ByteArray)) (a m b:Nat) (w:World) (ho:iD fx 89 w v xs) (h1:a < m) (h2:m < b) (h3:b≤xs.length) (hbig:xs.length≤1000000000000) (hd:b - a≤d+1) (hS1:gK gP (gS xs a m)) (hS2:gK gP (gS xs m b)):
    Calls Tryz.prog 154 #[v,aj (a:Int),aj (m:Int),aj (b:Int),(.func (.func 148) #[] #[])] w (fun e w'=>e= .returned (.tuple #[])∧iD fx 89 w' v (mF gP xs a m b)∧Ext (fun k=>v.ownBlock=some k) w w'):=by
 refine fj (fun g=>v.ownBlock=some g) (fun g hg=>ho.lt g hg) (n:=220) Tryz.func154 rfl rfl (aw rfl) ?_;intro a0 τ0 ha hτ st0;obtain ⟨e0,e1,e2,e3,e4⟩:=Js ha;have r0:ep fx 89 xs (τ0 0) v w:=⟨ho,fun g hg=>by rw [hτ];exact hg⟩;have hle:=r0.le;refine wp_seq ?_;refine wp_seq (lr [0,0,3,7] st0 [jo r0] ⟨ao e2,ao e1,aq fun c=>gd rfl (c.q 0) (c.q 1) (by omega),aq fun c=>cY rfl (c.q 2) rfl,av⟩ fun ac ag ae ab aa=> ?_);obtain ⟨e0,e1,e2,e3,e4⟩:=aa.k5 e0 e1 e2 e3 e4;have e28:=aa.V 3;replace r0:=aa.O 0;refine wp_cond_split e28 (fun hc1=> ?_) (fun hc1=> ?_)
 · try simp only [ai] at hc1
   refine wp_seq (eA ab [jo r0] ⟨ao e2,aK 0,av⟩ fun ac ag ae ab aa=> ?_);obtain ⟨e0,e1,e2,e3,e4⟩:=aa.k5 e0 e1 e2 e3 e4;have e10:=aa.V 1;replace r0:=aa.O 0;refine wp_seq (eA ab [jo r0] ⟨ao e3,aK 0,av⟩ fun ac ag ae ab aa=> ?_);obtain ⟨e0,e1,e2,e3,e4,e10⟩:=aa.k6 e0 e1 e2 e3 e4 e10;have e11:=aa.V 1;replace r0:=aa.O 0;refine wp_seq ?_;refine wp_block ?_;refine wp_loop (fun a_ w_=>∃(i j:Nat) (τ:Nat→bj),(m≤i)∧
          (i≤j)∧
          (j≤b)∧
          (i=m∨gP (nth xs ((i:Int) - 1)) (nth xs (a:Int))=true)∧
          (j=b∨gP (nth xs (j:Int)) (nth xs (a:Int))=false)∧
          St (fun k=>v.ownBlock=some k∨w.heap.size≤k) w 220 a_ w_ τ∧
          be a_ 10=(aj (i:Int))∧
          be a_ 11=(aj (j:Int))∧
          be a_ 0=v∧
          be a_ 1=(aj (a:Int))∧
          be a_ 2=(aj (m:Int))∧
          be a_ 3=(aj (b:Int))∧
          be a_ 4=(.func (.func 148) #[] #[])∧
          ep fx 89 xs (τ 0) v w_) (fun a_ _=>(intOf (be a_ 11)).toNat - (intOf (be a_ 10)).toNat) ?_ ?_
   · refine ⟨m,b,ae,?_,?_,?_,?_,?_,ab,(e10.trans (bB (by omega))),(e11.trans (bB (by omega))),e0,e1,e2,e3,e4,r0⟩
     · omega
     · omega
     · omega
     · left;rfl
     · left;rfl
   intro a4 w4 hI;obtain ⟨i,j,τ4,q0,q1,q2,q3,q4,st4,e10,e11,e0,e1,e2,e3,e4,r0⟩:=hI;have q_1:=q0;have q_3:=q2;have q_4:=q3;have q_5:=q4;have m10:=e10;have m11:=e11;refine wp_seq ?_;refine wp_seq (sf [0,0,3] st4 [jo r0] ⟨ao e10,ao e11,aq fun c=>cW rfl (c.q 0) (c.q 1),av⟩ fun ac ag ae ab aa=> ?_);obtain ⟨e0,e1,e2,e3,e4,e10,e11⟩:=aa.k7 e0 e1 e2 e3 e4 e10 e11;have e33:=aa.V 2;replace r0:=aa.O 0;refine wp_cond_split e33 (fun hc2=> ?_) (fun hc2=> ?_)
   · try simp only [ai] at hc2
     refine wp_skip ?_;refine wp_block ?_;refine wp_seq (ue [0,0,3,7,15,31,63] ab [jo r0] ⟨ao e10,ao e11,aq fun c=>cN rfl (c.q 0) (c.q 1) (by omega),aq fun c=>jw rfl bX cB (c.q 2) (by omega) (by omega) (by decide),aq fun c=>uc rfl (c.q 3) rfl,aq fun c=>jw rfl cB bX (c.q 4) (by omega) (by omega) (by decide),aK 5,av⟩ fun ac ag ae ab aa=> ?_);obtain ⟨e0,e1,e2,e3,e4,e10,e11,e33⟩:=aa.k8 e0 e1 e2 e3 e4 e10 e11 e33;have e12:=aa.V 6;replace r0:=aa.O 0;obtain ⟨h,hh⟩:∃x_:Nat,((i:Int)+(j:Int)) / 2=(x_:Int):=⟨(i+j) / 2,by omega⟩;replace e12:=e12.trans (bB hh);refine wp_seq (uf [0,0,0,6,14,0,0,96,224,511,1023] ab [jo r0] ⟨ao e4,ao e0,ao e12,aq fun c=>aX rfl br bq (c.q 1) r0.isSl (c.q 2) (by omega) (by omega),aq fun c=>cq (vs:=[(bc ((nth xs (h:Int)).1)),(bc ((nth xs (h:Int)).2))]) rfl dF bq (c.q 3) rfl (fun _ _ hj=>((c.io 0 rfl).1.sl).elem (bF (i:=(h:Int)) (by omega) (by omega)) hj),ao e0,ao e1,aq fun c=>aX rfl br bq (c.q 5) r0.isSl (c.q 6) (by omega) (by omega),aq fun c=>cq (vs:=[(bc ((nth xs (a:Int)).1)),(bc ((nth xs (a:Int)).2))]) rfl dF bq (c.q 7) rfl (fun _ _ hj=>((c.io 0 rfl).1.sl).elem (bF (i:=(a:Int)) (by omega) (by omega)) hj),eE fun c=>⟨_,_,(ck rfl (c.q 0) nz (c.q 4) (c.q 8)),wj (nth xs (h:Int)) (nth xs (a:Int)) _⟩,aq fun c=>cW rfl (c.q 9) rfl,av⟩ fun ac ag ae ab aa=> ?_);obtain ⟨e0,e1,e2,e3,e4,e10,e11,e12,e33⟩:=aa.k9 e0 e1 e2 e3 e4 e10 e11 e12 e33;have e50:=aa.V 10;replace r0:=aa.O 0;refine wp_cond_split e50 (fun hc3=> ?_) (fun hc3=> ?_)
     · try simp only [ai] at hc3
       refine fX ab [jo r0] ⟨ao e12,aq fun c=>cN rfl (c.q 0) rfl (by omega),aK 1,av⟩ fun ac ag ae ab aa=> ?_;obtain ⟨e0,e1,e2,e3,e4,e11,e12,e33,e50⟩:=aa.k9 e0 e1 e2 e3 e4 e11 e12 e33 e50;have e10:=aa.V 2;replace r0:=aa.O 0;show _;refine ⟨⟨h+1,j,ae,?_,?_,?_,?_,?_,ab,(e10.trans (bB (by omega))),(e11.trans (bB (by omega))),e0,e1,e2,e3,e4,r0⟩,?_⟩
       · omega
       · omega
       · omega
       · first | exact q3 | (right;rw [show (((h+1:Nat):Int) - 1)=(h:Int) by omega];exact (by simp only [gP,ai];assumption))
       · first | exact q4 | (right;exact (by simp only [gP,ah,aV];assumption))
       · simp only [m10,m11,e10,e11,intOf];omega
     try simp only [ah,aV] at hc3
     refine eA ab [jo r0] ⟨ao e12,aK 0,av⟩ fun ac ag ae ab aa=> ?_;obtain ⟨e0,e1,e2,e3,e4,e10,e12,e33,e50⟩:=aa.k9 e0 e1 e2 e3 e4 e10 e12 e33 e50;have e11:=aa.V 1;replace r0:=aa.O 0;show _;refine ⟨⟨i,h,ae,?_,?_,?_,?_,?_,ab,(e10.trans (bB (by omega))),(e11.trans (bB (by omega))),e0,e1,e2,e3,e4,r0⟩,?_⟩
     · omega
     · omega
     · omega
     · first | exact q3 | (right;rw [show (((h+1:Nat):Int) - 1)=(h:Int) by omega];exact (by simp only [gP,ai];assumption))
     · first | exact q4 | (right;exact (by simp only [gP,ah,aV];assumption))
     · simp only [m10,m11,e10,e11,intOf];omega
   try simp only [ah,aV] at hc2
   refine wp_exit ?_;repeat (with_reducible refine cy ?_)
   refine cC ?_;refine wp_seq ?_;refine wp_seq (eA ab [jo r0] ⟨ao e1,aK 0,av⟩ fun ac ag ae ab aa=> ?_);obtain ⟨e0,e1,e2,e3,e4,e10⟩:=aa.k6 e0 e1 e2 e3 e4 e10;have e13:=aa.V 1;replace r0:=aa.O 0;refine wp_block ?_;refine wp_loop (fun a_ w_=>∃(n:Nat) (τ:Nat→bj),(n≤i - 1 - a)∧
          St (fun k=>v.ownBlock=some k∨w.heap.size≤k) w 220 a_ w_ τ∧
          be a_ 13=(aj ((a:Int)+(n:Int)))∧
          be a_ 0=v∧
          be a_ 1=(aj (a:Int))∧
          be a_ 2=(aj (m:Int))∧
          be a_ 3=(aj (b:Int))∧
          be a_ 4=(.func (.func 148) #[] #[])∧
          be a_ 10=(aj (i:Int))∧
          ep fx 89 (xm xs a n) (τ 0) v w_) (fun a_ _=>i - 1 - (intOf (be a_ 13)).toNat) ?_ ?_
   · refine ⟨0,ae,?_,ab,(e13.trans (bB (by omega))),e0,e1,e2,e3,e4,e10,?_⟩
     · omega
     · exact r0.cast (by rfl)
   intro a11 w11 hI;obtain ⟨n,τ11,q0,st11,e13,e0,e1,e2,e3,e4,e10,r0⟩:=hI;have hl:=Hq xs a n;have m13:=e13;refine wp_seq ?_;refine wp_seq (lr [0,0,2,7] st11 [jo r0] ⟨ao e13,ao e10,aq fun c=>gd rfl (c.q 1) rfl (by omega),aq fun c=>cW rfl (c.q 0) (c.q 2),av⟩ fun ac ag ae ab aa=> ?_);obtain ⟨e0,e1,e2,e3,e4,e10,e13⟩:=aa.k7 e0 e1 e2 e3 e4 e10 e13;have e58:=aa.V 3;replace r0:=aa.O 0;refine wp_cond_split e58 (fun hc4=> ?_) (fun hc4=> ?_)
   · try simp only [ai] at hc4
     refine wp_skip ?_;refine wp_seq ?_;refine wp_block ?_;refine rg [_,_,_,_,_,_,_,_,_,_,_,_,_,_,_,own _ _ _ 0 0 _,_,own _ _ _ 0 0 _] [0,0,0,0,8,0,0,64,224,480,0,0,3072,7168,16355,32739,65535,131071] ab [jo r0] ⟨ao e0,ao e13,ao e0,ao e13,aq fun c=>cN rfl (c.q 3) rfl (by omega),ao e0,ao e13,aq fun c=>cN rfl (c.q 6) rfl (by omega),aq fun c=>aX rfl br bq (c.q 5) r0.isSl (c.q 7) (by omega) (by omega),aq fun c=>cq (vs:=[(bc ((nth (xm xs a n) ((a:Int)+(n:Int)+1)).1)),(bc ((nth (xm xs a n) ((a:Int)+(n:Int)+1)).2))]) rfl dF bq (c.q 8) rfl (fun _ _ hj=>((c.io 0 rfl).1.sl).elem (bF (i:=(a:Int)+(n:Int)+1) (by omega) (by omega)) hj),ao e0,ao e13,aq fun c=>aX rfl br bq (c.q 10) r0.isSl (c.q 11) (by omega) (by omega),aq fun c=>cq (vs:=[(bc ((nth (xm xs a n) ((a:Int)+(n:Int))).1)),(bc ((nth (xm xs a n) ((a:Int)+(n:Int))).2))]) rfl dF bq (c.q 12) rfl (fun _ _ hj=>((c.io 0 rfl).1.sl).elem (bF (i:=(a:Int)+(n:Int)) (by omega) (by omega)) hj),aq fun c=>aX rfl br bq (c.q 0) r0.isSl (c.q 1) (by omega) (by omega),jl (E:=fx) (i:=((a:Int)+(n:Int)).toNat) (off:=0) (u:=(.agg #[(bc ((nth (xm xs a n) ((a:Int)+(n:Int)+1)).1)),(bc ((nth (xm xs a n) ((a:Int)+(n:Int)+1)).2))])) (x:=nth (xm xs a n) ((a:Int)+(n:Int))) (x':=(nth (xm xs a n) ((a:Int)+(n:Int)+1))) rfl rfl rfl rfl bq (bF (by omega) (by (try simp only [dx]);omega)) (aw rfl) (by simp [Value.cells,Value.oneCell',Sv.v]) rfl (fun _ a_ _ _ c=>⟨c.ip 0 rfl e0,c.ad (c.n 14 rfl) e0 rfl,(c.n 9 rfl)⟩),aq fun c=>aX rfl br bq (c.q 2) r0.isSl (c.q 4) (by omega) (by omega),jl (E:=fx) (i:=((a:Int)+(n:Int)+1).toNat) (off:=0) (u:=(.agg #[(bc ((nth (xm xs a n) ((a:Int)+(n:Int))).1)),(bc ((nth (xm xs a n) ((a:Int)+(n:Int))).2))])) (x:=nth ((xm xs a n).set ((a:Int)+(n:Int)).toNat (nth (xm xs a n) ((a:Int)+(n:Int)+1))) ((a:Int)+(n:Int)+1)) (x':=(nth (xm xs a n) ((a:Int)+(n:Int)))) rfl rfl rfl rfl bq (bF (by omega) (by (try simp only [dx]);omega)) (aw rfl) (by simp [Value.cells,Value.oneCell',Sv.v]) rfl (fun _ a_ _ _ c=>⟨c.ro 15 rfl,c.ad (c.n 16 rfl) e0 rfl,(c.n 13 rfl)⟩),av⟩ fun ac ag ae ab aa=> ?_;obtain ⟨e0,e1,e2,e3,e4,e10,e13,e58⟩:=aa.k8 e0 e1 e2 e3 e4 e10 e13 e58;replace r0:=aa.ro 17 e0 rfl;show _;refine fX ab [jo r0] ⟨ao e13,aq fun c=>cN rfl (c.q 0) rfl (by omega),aK 1,av⟩ fun ac ag ae ab aa=> ?_;obtain ⟨e0,e1,e2,e3,e4,e10,e58⟩:=aa.k7 e0 e1 e2 e3 e4 e10 e58;have e13:=aa.V 2;replace r0:=aa.O 0;refine ⟨⟨n+1,ae,?_,ab,(e13.trans (bB (by omega))),e0,e1,e2,e3,e4,e10,?_⟩,?_⟩
     · omega
     · exact r0.cast (by rfl)
     · simp only [m13,e13,intOf];omega
   try simp only [ah,aV] at hc4
   refine wp_exit ?_;repeat (with_reducible refine cy ?_)
   refine cC ?_;refine wp_ret ?_;refine rp ?_;refine IT (fn:=Tryz.f154) rfl ab.defers ?_;obtain rfl:i=j:=by omega
   obtain rfl:m=a+1:=by omega
   obtain rfl:n=i - 1 - a:=by omega
   exact ⟨rfl,(Fo gH hS2 q_1 q_3 h3 q_4 q_5) ▸ r0.1,ab.extIn⟩
 try simp only [ah] at hc1
 refine wp_skip ?_;refine wp_seq ?_;refine wp_seq (lr [0,0,3,7] ab [jo r0] ⟨ao e3,ao e2,aq fun c=>gd rfl (c.q 0) (c.q 1) (by omega),aq fun c=>cY rfl (c.q 2) rfl,av⟩ fun ac ag ae ab aa=> ?_);obtain ⟨e0,e1,e2,e3,e4⟩:=aa.k5 e0 e1 e2 e3 e4;have e80:=aa.V 3;replace r0:=aa.O 0;refine wp_cond_split e80 (fun hc5=> ?_) (fun hc5=> ?_)
 · try simp only [ai] at hc5
   refine wp_seq (eA ab [jo r0] ⟨ao e1,aK 0,av⟩ fun ac ag ae ab aa=> ?_);obtain ⟨e0,e1,e2,e3,e4⟩:=aa.k5 e0 e1 e2 e3 e4;have e14:=aa.V 1;replace r0:=aa.O 0;refine wp_seq (eA ab [jo r0] ⟨ao e2,aK 0,av⟩ fun ac ag ae ab aa=> ?_);obtain ⟨e0,e1,e2,e3,e4,e14⟩:=aa.k6 e0 e1 e2 e3 e4 e14;have e15:=aa.V 1;replace r0:=aa.O 0;refine wp_seq ?_;refine wp_block ?_;refine wp_loop (fun a_ w_=>∃(i j:Nat) (τ:Nat→bj),(a≤i)∧
          (i≤j)∧
          (j≤m)∧
          (i=a∨gP (nth xs (m:Int)) (nth xs ((i:Int) - 1))=false)∧
          (j=m∨gP (nth xs (m:Int)) (nth xs (j:Int))=true)∧
          St (fun k=>v.ownBlock=some k∨w.heap.size≤k) w 220 a_ w_ τ∧
          be a_ 14=(aj (i:Int))∧
          be a_ 15=(aj (j:Int))∧
          be a_ 0=v∧
          be a_ 1=(aj (a:Int))∧
          be a_ 2=(aj (m:Int))∧
          be a_ 3=(aj (b:Int))∧
          be a_ 4=(.func (.func 148) #[] #[])∧
          ep fx 89 xs (τ 0) v w_) (fun a_ _=>(intOf (be a_ 15)).toNat - (intOf (be a_ 14)).toNat) ?_ ?_
   · refine ⟨a,m,ae,?_,?_,?_,?_,?_,ab,(e14.trans (bB (by omega))),(e15.trans (bB (by omega))),e0,e1,e2,e3,e4,r0⟩
     · omega
     · omega
     · omega
     · left;rfl
     · left;rfl
   intro a18 w18 hI;obtain ⟨i,j,τ18,q0,q1,q2,q3,q4,st18,e14,e15,e0,e1,e2,e3,e4,r0⟩:=hI;have q_1:=q0;have q_3:=q2;have q_4:=q3;have q_5:=q4;have m14:=e14;have m15:=e15;refine wp_seq ?_;refine wp_seq (sf [0,0,3] st18 [jo r0] ⟨ao e14,ao e15,aq fun c=>cW rfl (c.q 0) (c.q 1),av⟩ fun ac ag ae ab aa=> ?_);obtain ⟨e0,e1,e2,e3,e4,e14,e15⟩:=aa.k7 e0 e1 e2 e3 e4 e14 e15;have e85:=aa.V 2;replace r0:=aa.O 0;refine wp_cond_split e85 (fun hc6=> ?_) (fun hc6=> ?_)
   · try simp only [ai] at hc6
     refine wp_skip ?_;refine wp_block ?_;refine wp_seq (ue [0,0,3,7,15,31,63] ab [jo r0] ⟨ao e14,ao e15,aq fun c=>cN rfl (c.q 0) (c.q 1) (by omega),aq fun c=>jw rfl bX cB (c.q 2) (by omega) (by omega) (by decide),aq fun c=>uc rfl (c.q 3) rfl,aq fun c=>jw rfl cB bX (c.q 4) (by omega) (by omega) (by decide),aK 5,av⟩ fun ac ag ae ab aa=> ?_);obtain ⟨e0,e1,e2,e3,e4,e14,e15,e85⟩:=aa.k8 e0 e1 e2 e3 e4 e14 e15 e85;have e16:=aa.V 6;replace r0:=aa.O 0;obtain ⟨h,hh⟩:∃x_:Nat,((i:Int)+(j:Int)) / 2=(x_:Int):=⟨(i+j) / 2,by omega⟩;replace e16:=e16.trans (bB hh);refine wp_seq (zG [0,0,0,6,14,0,0,96,224,511,1023,2047] ab [jo r0] ⟨ao e4,ao e0,ao e2,aq fun c=>aX rfl br bq (c.q 1) r0.isSl (c.q 2) (by omega) (by omega),aq fun c=>cq (vs:=[(bc ((nth xs (m:Int)).1)),(bc ((nth xs (m:Int)).2))]) rfl dF bq (c.q 3) rfl (fun _ _ hj=>((c.io 0 rfl).1.sl).elem (bF (i:=(m:Int)) (by omega) (by omega)) hj),ao e0,ao e16,aq fun c=>aX rfl br bq (c.q 5) r0.isSl (c.q 6) (by omega) (by omega),aq fun c=>cq (vs:=[(bc ((nth xs (h:Int)).1)),(bc ((nth xs (h:Int)).2))]) rfl dF bq (c.q 7) rfl (fun _ _ hj=>((c.io 0 rfl).1.sl).elem (bF (i:=(h:Int)) (by omega) (by omega)) hj),eE fun c=>⟨_,_,(ck rfl (c.q 0) nz (c.q 4) (c.q 8)),wj (nth xs (m:Int)) (nth xs (h:Int)) _⟩,aq fun c=>cW rfl (c.q 9) rfl,aq fun c=>ew rfl (c.q 10),av⟩ fun ac ag ae ab aa=> ?_);obtain ⟨e0,e1,e2,e3,e4,e14,e15,e16,e85⟩:=aa.k9 e0 e1 e2 e3 e4 e14 e15 e16 e85;have e103:=aa.V 11;replace r0:=aa.O 0;refine wp_cond_split e103 (fun hc7=> ?_) (fun hc7=> ?_)
     · try simp only [ar,am,ai,ah,aV] at hc7
       refine fX ab [jo r0] ⟨ao e16,aq fun c=>cN rfl (c.q 0) rfl (by omega),aK 1,av⟩ fun ac ag ae ab aa=> ?_;obtain ⟨e0,e1,e2,e3,e4,e15,e16,e85,e103⟩:=aa.k9 e0 e1 e2 e3 e4 e15 e16 e85 e103;have e14:=aa.V 2;replace r0:=aa.O 0;show _;refine ⟨⟨h+1,j,ae,?_,?_,?_,?_,?_,ab,(e14.trans (bB (by omega))),(e15.trans (bB (by omega))),e0,e1,e2,e3,e4,r0⟩,?_⟩
       · omega
       · omega
       · omega
       · first | exact q3 | (right;rw [show (((h+1:Nat):Int) - 1)=(h:Int) by omega];exact (by simp only [gP,ah,aV];assumption))
       · first | exact q4 | (right;exact (by simp only [gP,ai];assumption))
       · simp only [m14,m15,e14,e15,intOf];omega
     try simp only [ar,am,ai,ah,aV] at hc7
     refine eA ab [jo r0] ⟨ao e16,aK 0,av⟩ fun ac ag ae ab aa=> ?_;obtain ⟨e0,e1,e2,e3,e4,e14,e16,e85,e103⟩:=aa.k9 e0 e1 e2 e3 e4 e14 e16 e85 e103;have e15:=aa.V 1;replace r0:=aa.O 0;show _;refine ⟨⟨i,h,ae,?_,?_,?_,?_,?_,ab,(e14.trans (bB (by omega))),(e15.trans (bB (by omega))),e0,e1,e2,e3,e4,r0⟩,?_⟩
     · omega
     · omega
     · omega
     · first | exact q3 | (right;rw [show (((h+1:Nat):Int) - 1)=(h:Int) by omega];exact (by simp only [gP,ah,aV];assumption))
     · first | exact q4 | (right;exact (by simp only [gP,ai];assumption))
     · simp only [m14,m15,e14,e15,intOf];omega
   try simp only [ah,aV] at hc6
   refine wp_exit ?_;repeat (with_reducible refine cy ?_)
   refine cC ?_;refine wp_seq ?_;refine wp_seq (eA ab [jo r0] ⟨ao e2,aK 0,av⟩ fun ac ag ae ab aa=> ?_);obtain ⟨e0,e1,e2,e3,e4,e14⟩:=aa.k6 e0 e1 e2 e3 e4 e14;have e17:=aa.V 1;replace r0:=aa.O 0;refine wp_block ?_;refine wp_loop (fun a_ w_=>∃(n:Nat) (τ:Nat→bj),(n≤m - i)∧
          St (fun k=>v.ownBlock=some k∨w.heap.size≤k) w 220 a_ w_ τ∧
          be a_ 17=(aj ((m:Int) - (n:Int)))∧
          be a_ 0=v∧
          be a_ 1=(aj (a:Int))∧
          be a_ 2=(aj (m:Int))∧
          be a_ 3=(aj (b:Int))∧
          be a_ 4=(.func (.func 148) #[] #[])∧
          be a_ 14=(aj (i:Int))∧
          ep fx 89 (xo xs m n) (τ 0) v w_) (fun a_ _=>(intOf (be a_ 17)).toNat) ?_ ?_
   · refine ⟨0,ae,?_,ab,(e17.trans (bB (by omega))),e0,e1,e2,e3,e4,e14,?_⟩
     · omega
     · exact r0.cast (by rfl)
   intro a25 w25 hI;obtain ⟨n,τ25,q0,st25,e17,e0,e1,e2,e3,e4,e14,r0⟩:=hI;have hl:=Hs xs m n;have m17:=e17;refine wp_seq ?_;refine wp_seq (sf [0,0,3] st25 [jo r0] ⟨ao e17,ao e14,aq fun c=>ii rfl (c.q 0) (c.q 1),av⟩ fun ac ag ae ab aa=> ?_);obtain ⟨e0,e1,e2,e3,e4,e14,e17⟩:=aa.k7 e0 e1 e2 e3 e4 e14 e17;have e110:=aa.V 2;replace r0:=aa.O 0;refine wp_cond_split e110 (fun hc8=> ?_) (fun hc8=> ?_)
   · try simp only [ai] at hc8
     refine wp_skip ?_;refine wp_seq ?_;refine wp_block ?_;refine rg [_,_,_,_,_,_,_,_,_,_,_,_,_,_,_,own _ _ _ 0 0 _,_,own _ _ _ 0 0 _] [0,0,0,0,8,0,0,64,224,480,0,0,3072,7168,16355,32739,65535,131071] ab [jo r0] ⟨ao e0,ao e17,ao e0,ao e17,aq fun c=>gd rfl (c.q 3) rfl (by omega),ao e0,ao e17,aq fun c=>gd rfl (c.q 6) rfl (by omega),aq fun c=>aX rfl br bq (c.q 5) r0.isSl (c.q 7) (by omega) (by omega),aq fun c=>cq (vs:=[(bc ((nth (xo xs m n) ((m:Int) - (n:Int) - 1)).1)),(bc ((nth (xo xs m n) ((m:Int) - (n:Int) - 1)).2))]) rfl dF bq (c.q 8) rfl (fun _ _ hj=>((c.io 0 rfl).1.sl).elem (bF (i:=(m:Int) - (n:Int) - 1) (by omega) (by omega)) hj),ao e0,ao e17,aq fun c=>aX rfl br bq (c.q 10) r0.isSl (c.q 11) (by omega) (by omega),aq fun c=>cq (vs:=[(bc ((nth (xo xs m n) ((m:Int) - (n:Int))).1)),(bc ((nth (xo xs m n) ((m:Int) - (n:Int))).2))]) rfl dF bq (c.q 12) rfl (fun _ _ hj=>((c.io 0 rfl).1.sl).elem (bF (i:=(m:Int) - (n:Int)) (by omega) (by omega)) hj),aq fun c=>aX rfl br bq (c.q 0) r0.isSl (c.q 1) (by omega) (by omega),jl (E:=fx) (i:=((m:Int) - (n:Int)).toNat) (off:=0) (u:=(.agg #[(bc ((nth (xo xs m n) ((m:Int) - (n:Int) - 1)).1)),(bc ((nth (xo xs m n) ((m:Int) - (n:Int) - 1)).2))])) (x:=nth (xo xs m n) ((m:Int) - (n:Int))) (x':=(nth (xo xs m n) ((m:Int) - (n:Int) - 1))) rfl rfl rfl rfl bq (bF (by omega) (by (try simp only [dx]);omega)) (aw rfl) (by simp [Value.cells,Value.oneCell',Sv.v]) rfl (fun _ a_ _ _ c=>⟨c.ip 0 rfl e0,c.ad (c.n 14 rfl) e0 rfl,(c.n 9 rfl)⟩),aq fun c=>aX rfl br bq (c.q 2) r0.isSl (c.q 4) (by omega) (by omega),jl (E:=fx) (i:=((m:Int) - (n:Int) - 1).toNat) (off:=0) (u:=(.agg #[(bc ((nth (xo xs m n) ((m:Int) - (n:Int))).1)),(bc ((nth (xo xs m n) ((m:Int) - (n:Int))).2))])) (x:=nth ((xo xs m n).set ((m:Int) - (n:Int)).toNat (nth (xo xs m n) ((m:Int) - (n:Int) - 1))) ((m:Int) - (n:Int) - 1)) (x':=(nth (xo xs m n) ((m:Int) - (n:Int)))) rfl rfl rfl rfl bq (bF (by omega) (by (try simp only [dx]);omega)) (aw rfl) (by simp [Value.cells,Value.oneCell',Sv.v]) rfl (fun _ a_ _ _ c=>⟨c.ro 15 rfl,c.ad (c.n 16 rfl) e0 rfl,(c.n 13 rfl)⟩),av⟩ fun ac ag ae ab aa=> ?_;obtain ⟨e0,e1,e2,e3,e4,e14,e17,e110⟩:=aa.k8 e0 e1 e2 e3 e4 e14 e17 e110;replace r0:=aa.ro 17 e0 rfl;show _;refine fX ab [jo r0] ⟨ao e17,aq fun c=>gd rfl (c.q 0) rfl (by omega),aK 1,av⟩ fun ac ag ae ab aa=> ?_;obtain ⟨e0,e1,e2,e3,e4,e14,e110⟩:=aa.k7 e0 e1 e2 e3 e4 e14 e110;have e17:=aa.V 2;replace r0:=aa.O 0;refine ⟨⟨n+1,ae,?_,ab,(e17.trans (bB (by omega))),e0,e1,e2,e3,e4,e14,?_⟩,?_⟩
     · omega
     · exact r0.cast (by rfl)
     · simp only [m17,e17,intOf];omega
   try simp only [ah,aV] at hc8
   refine wp_exit ?_;repeat (with_reducible refine cy ?_)
   refine cC ?_;refine wp_ret ?_;refine rp ?_;refine IT (fn:=Tryz.f154) rfl ab.defers ?_;obtain rfl:i=j:=by omega
   obtain rfl:b=m+1:=by omega
   obtain rfl:n=m - i:=by omega
   exact ⟨rfl,(DL gH hS1 q_1 q_3 (by omega) q_4 q_5) ▸ r0.1,ab.extIn⟩
 try simp only [ah] at hc5
 refine wp_skip ?_;refine wp_seq (ue [0,0,3,7,15,31,63] ab [jo r0] ⟨ao e1,ao e3,aq fun c=>cN rfl (c.q 0) (c.q 1) (by omega),aq fun c=>jw rfl bX cB (c.q 2) (by omega) (by omega) (by decide),aq fun c=>uc rfl (c.q 3) rfl,aq fun c=>jw rfl cB bX (c.q 4) (by omega) (by omega) (by decide),aK 5,av⟩ fun ac ag ae ab aa=> ?_);obtain ⟨e0,e1,e2,e3,e4⟩:=aa.k5 e0 e1 e2 e3 e4;have e18:=aa.V 6;replace r0:=aa.O 0;obtain ⟨mid,hmid⟩:∃x_:Nat,((a:Int)+(b:Int)) / 2=(x_:Int):=⟨(a+b) / 2,by omega⟩;replace e18:=e18.trans (bB hmid);refine wp_seq (lr [0,0,3,7] ab [jo r0] ⟨ao e18,ao e2,aq fun c=>cN rfl (c.q 0) (c.q 1) (by omega),aK 2,av⟩ fun ac ag ae ab aa=> ?_);obtain ⟨e0,e1,e2,e3,e4,e18⟩:=aa.k6 e0 e1 e2 e3 e4 e18;have e19:=aa.V 3;replace r0:=aa.O 0;refine wp_seq (eA ab [jo r0] ⟨aq fun c=>ax rfl rfl,aq fun c=>ax rfl rfl,av⟩ fun ac ag ae ab aa=> ?_);obtain ⟨e0,e1,e2,e3,e4,e18,e19⟩:=aa.k7 e0 e1 e2 e3 e4 e18 e19;have e20:=aa.V 0;have e21:=aa.V 1;replace r0:=aa.O 0;refine wp_seq ?_;refine wp_seq (sf [0,0,3] ab [jo r0] ⟨ao e2,ao e18,aq fun c=>ii rfl (c.q 0) (c.q 1),av⟩ fun ac ag ae ab aa=> ?_);obtain ⟨e0,e1,e2,e3,e4,e18,e19,e20,e21⟩:=aa.k9 e0 e1 e2 e3 e4 e18 e19 e20 e21;have e140:=aa.V 2;replace r0:=aa.O 0;refine wp_cond_split e140 (fun hc9=> ?_) (fun hc9=> ?_)
 · try simp only [ai] at hc9
   refine wp_seq (lr [0,0,3,7] ab [jo r0] ⟨ao e19,ao e3,aq fun c=>gd rfl (c.q 0) (c.q 1) (by omega),aK 2,av⟩ fun ac ag ae ab aa=> ?_);obtain ⟨e0,e1,e2,e3,e4,e18,e19,e21⟩:=aa.k8 e0 e1 e2 e3 e4 e18 e19 e21;have e20:=aa.V 3;replace r0:=aa.O 0;refine eA ab [jo r0] ⟨ao e18,aK 0,av⟩ fun ac ag ae ab aa=> ?_;obtain ⟨e0,e1,e2,e3,e4,e18,e19,e20⟩:=aa.k8 e0 e1 e2 e3 e4 e18 e19 e20;have e21:=aa.V 1;replace r0:=aa.O 0;refine wp_seq (fX ab [jo r0] ⟨ao e19,aq fun c=>gd rfl (c.q 0) rfl (by omega),aK 1,av⟩ fun ac ag ae ab aa=> ?_);obtain ⟨e0,e1,e2,e3,e4,e18,e19,e20,e21⟩:=aa.k9 e0 e1 e2 e3 e4 e18 e19 e20 e21;have e22:=aa.V 2;replace r0:=aa.O 0;refine wp_seq ?_;refine wp_block ?_;refine wp_loop (fun a_ w_=>∃(s r:Nat) (τ:Nat→bj),(mid+m≤s+b)∧
          (s≤r)∧
          (r≤mid)∧
          (s+b=mid+m∨gP (nth xs ((mid:Int)+(m:Int) - (s:Int))) (nth xs ((s:Int) - 1))=false)∧
          (r=mid∨gP (nth xs ((mid:Int)+(m:Int) - 1 - (r:Int))) (nth xs (r:Int))=true)∧
          St (fun k=>v.ownBlock=some k∨w.heap.size≤k) w 220 a_ w_ τ∧
          be a_ 20=(aj (s:Int))∧
          be a_ 21=(aj (r:Int))∧
          be a_ 0=v∧
          be a_ 1=(aj (a:Int))∧
          be a_ 2=(aj (m:Int))∧
          be a_ 3=(aj (b:Int))∧
          be a_ 4=(.func (.func 148) #[] #[])∧
          be a_ 18=(aj (mid:Int))∧
          be a_ 19=(aj ((mid:Int)+(m:Int)))∧
          be a_ 22=(aj ((mid:Int)+(m:Int) - 1))∧
          ep fx 89 xs (τ 0) v w_) (fun a_ _=>(intOf (be a_ 21)).toNat - (intOf (be a_ 20)).toNat) ?_ ?_
   · refine ⟨mid+m - b,mid,ae,?_,?_,?_,?_,?_,ab,(e20.trans (bB (by omega))),(e21.trans (bB (by omega))),e0,e1,e2,e3,e4,e18,e19,e22,r0⟩
     · omega
     · omega
     · omega
     · left;omega
     · left;omega
   intro a36 w36 hI;obtain ⟨s,r,τ36,q0,q1,q2,q3,q4,st36,e20,e21,e0,e1,e2,e3,e4,e18,e19,e22,r0⟩:=hI;have m20:=e20;have m21:=e21;refine wp_seq ?_;refine wp_seq (sf [0,0,3] st36 [jo r0] ⟨ao e20,ao e21,aq fun c=>cW rfl (c.q 0) (c.q 1),av⟩ fun ac ag ae ab aa=> ?_);obtain ⟨e0,e1,e2,e3,e4,e18,e19,e20,e21,e22⟩:=aa.k10 e0 e1 e2 e3 e4 e18 e19 e20 e21 e22;have e151:=aa.V 2;replace r0:=aa.O 0;refine wp_cond_split e151 (fun hc10=> ?_) (fun hc10=> ?_)
   · try simp only [ai] at hc10
     refine wp_skip ?_;refine wp_block ?_;refine wp_seq (ue [0,0,3,7,15,31,63] ab [jo r0] ⟨ao e20,ao e21,aq fun c=>cN rfl (c.q 0) (c.q 1) (by omega),aq fun c=>jw rfl bX cB (c.q 2) (by omega) (by omega) (by decide),aq fun c=>uc rfl (c.q 3) rfl,aq fun c=>jw rfl cB bX (c.q 4) (by omega) (by omega) (by decide),aK 5,av⟩ fun ac ag ae ab aa=> ?_);obtain ⟨e0,e1,e2,e3,e4,e18,e19,e20,e21,e22,e151⟩:=aa.k11 e0 e1 e2 e3 e4 e18 e19 e20 e21 e22 e151;have e23:=aa.V 6;replace r0:=aa.O 0;obtain ⟨cc,hcc⟩:∃x_:Nat,((s:Int)+(r:Int)) / 2=(x_:Int):=⟨(s+r) / 2,by omega⟩;replace e23:=e23.trans (bB hcc);refine wp_seq (rg [_,_,_,_,_,_,_,_,_,_,_,_,_,_] [0,0,0,0,12,30,62,0,0,384,896,2047,4095,8191] ab [jo r0] ⟨ao e4,ao e0,ao e22,ao e23,aq fun c=>gd rfl (c.q 2) (c.q 3) (by omega),aq fun c=>aX rfl br bq (c.q 1) r0.isSl (c.q 4) (by omega) (by omega),aq fun c=>cq (vs:=[(bc ((nth xs ((mid:Int)+(m:Int) - 1 - (cc:Int))).1)),(bc ((nth xs ((mid:Int)+(m:Int) - 1 - (cc:Int))).2))]) rfl dF bq (c.q 5) rfl (fun _ _ hj=>((c.io 0 rfl).1.sl).elem (bF (i:=(mid:Int)+(m:Int) - 1 - (cc:Int)) (by omega) (by omega)) hj),ao e0,ao e23,aq fun c=>aX rfl br bq (c.q 7) r0.isSl (c.q 8) (by omega) (by omega),aq fun c=>cq (vs:=[(bc ((nth xs (cc:Int)).1)),(bc ((nth xs (cc:Int)).2))]) rfl dF bq (c.q 9) rfl (fun _ _ hj=>((c.io 0 rfl).1.sl).elem (bF (i:=(cc:Int)) (by omega) (by omega)) hj),eE fun c=>⟨_,_,(ck rfl (c.q 0) nz (c.q 6) (c.q 10)),wj (nth xs ((mid:Int)+(m:Int) - 1 - (cc:Int))) (nth xs (cc:Int)) _⟩,aq fun c=>cW rfl (c.q 11) rfl,aq fun c=>ew rfl (c.q 12),av⟩ fun ac ag ae ab aa=> ?_);obtain ⟨e0,e1,e2,e3,e4,e18,e19,e20,e21,e22,e23,e151⟩:=aa.k12 e0 e1 e2 e3 e4 e18 e19 e20 e21 e22 e23 e151;have e171:=aa.V 13;replace r0:=aa.O 0;refine wp_cond_split e171 (fun hc11=> ?_) (fun hc11=> ?_)
     · try simp only [ar,am,ai,ah,aV] at hc11
       refine fX ab [jo r0] ⟨ao e23,aq fun c=>cN rfl (c.q 0) rfl (by omega),aK 1,av⟩ fun ac ag ae ab aa=> ?_;obtain ⟨e0,e1,e2,e3,e4,e18,e19,e21,e22,e23,e151,e171⟩:=aa.k12 e0 e1 e2 e3 e4 e18 e19 e21 e22 e23 e151 e171;have e20:=aa.V 2;replace r0:=aa.O 0;show _;refine ⟨⟨cc+1,r,ae,?_,?_,?_,?_,?_,ab,(e20.trans (bB (by omega))),(e21.trans (bB (by omega))),e0,e1,e2,e3,e4,e18,e19,e22,r0⟩,?_⟩
       · omega
       · omega
       · omega
       · first | exact q3 | (right;rw [show (mid:Int)+(m:Int) - ((cc+1:Nat):Int)=(mid:Int)+(m:Int) - 1 - (cc:Int) by omega,show (((cc+1:Nat):Int) - 1)=(cc:Int) by omega];exact (by simp only [gP,ah,aV];assumption))
       · first | exact q4 | (right;exact (by simp only [gP,ai];assumption))
       · simp only [m20,m21,e20,e21,intOf];omega
     try simp only [ar,am,ai,ah,aV] at hc11
     refine eA ab [jo r0] ⟨ao e23,aK 0,av⟩ fun ac ag ae ab aa=> ?_;obtain ⟨e0,e1,e2,e3,e4,e18,e19,e20,e22,e23,e151,e171⟩:=aa.k12 e0 e1 e2 e3 e4 e18 e19 e20 e22 e23 e151 e171;have e21:=aa.V 1;replace r0:=aa.O 0;show _;refine ⟨⟨s,cc,ae,?_,?_,?_,?_,?_,ab,(e20.trans (bB (by omega))),(e21.trans (bB (by omega))),e0,e1,e2,e3,e4,e18,e19,e22,r0⟩,?_⟩
     · omega
     · omega
     · omega
     · first | exact q3 | (right;rw [show (mid:Int)+(m:Int) - ((cc+1:Nat):Int)=(mid:Int)+(m:Int) - 1 - (cc:Int) by omega,show (((cc+1:Nat):Int) - 1)=(cc:Int) by omega];exact (by simp only [gP,ah,aV];assumption))
     · first | exact q4 | (right;exact (by simp only [gP,ai];assumption))
     · simp only [m20,m21,e20,e21,intOf];omega
   try simp only [ah,aV] at hc10
   refine wp_exit ?_;repeat (with_reducible refine cy ?_)
   refine cC ?_;refine wp_seq (lr [0,0,3,7] ab [jo r0] ⟨ao e19,ao e20,aq fun c=>gd rfl (c.q 0) (c.q 1) (by omega),aK 2,av⟩ fun ac ag ae ab aa=> ?_);obtain ⟨e0,e1,e2,e3,e4,e18,e20⟩:=aa.k7 e0 e1 e2 e3 e4 e18 e20;have e24:=aa.V 3;replace r0:=aa.O 0;obtain rfl:s=r:=by omega
   obtain ⟨e,he⟩:∃x_:Nat,(mid:Int)+(m:Int) - (s:Int)=(x_:Int):=⟨mid+m - s,by omega⟩;replace e24:=e24.trans (bB he);have hA:a≤s:=by omega
   have hB:s≤m:=by omega
   have hC:m≤e:=by omega
   have hD:e≤b:=by omega
   have hR:s+e=mid+m:=by omega
   have hC1:s=a∨e=b∨gP (nth xs (e:Int)) (nth xs ((s:Int) - 1))=false:=by
     rcases q3 with h_ | h_
     · first | (left;omega) | (right;left;omega)
     · right;right;rw [←he];exact h_
   have hC2:s=m∨e=m∨gP (nth xs ((e:Int) - 1)) (nth xs (s:Int))=true:=by
     rcases q4 with h_ | h_
     · first | (left;omega) | (right;left;omega)
     · right;right;rw [show (e:Int) - 1=(mid:Int)+(m:Int) - 1 - (s:Int) by omega];exact h_
   refine wp_seq ?_;refine wp_seq (xC [0,0,3,7,15,15,63,127] ab [jo r0] ⟨ao e20,ao e2,aq fun c=>cW rfl (c.q 0) (c.q 1),bD 2,aL 3 rfl fun c hpc=>aS rfl (c.p e2),aL 3 rfl fun c hpc=>aS rfl (c.p e24),aL 3 rfl fun c hpc=>cW rfl (c.M 4 hpc) (c.M 5 hpc),bZ 3 6,av⟩ fun ac ag ae ab aa=> ?_);obtain ⟨e0,e1,e2,e3,e4,e18,e20,e24⟩:=aa.k8 e0 e1 e2 e3 e4 e18 e20 e24;have e185:=aa.V 7;replace r0:=aa.O 0;refine wp_cond_split e185 (fun hc12=> ?_) (fun hc12=> ?_)
   · try simp only [au,ai] at hc12
     refine rg [_,_,_,_,_,own _ _ _ 0 0 _] [0,0,0,0,0,31] ab [jo r0] ⟨ao e0,ao e20,ao e2,ao e24,ao e4,fM rfl rfl rfl (by decide) (fun _ a_ _ _ c=>⟨_,_,(eC rfl rfl Tryz.call155 (c.n 0 rfl) (c.n 1 rfl) (c.n 2 rfl) (c.n 3 rfl) (c.n 4 rfl)),c.p e0,c.io 0 rfl,fun ho_=>Ab v xs (s:Int) (m:Int) (e:Int) _ ho_ (by omega) (by omega) (by omega) (by omega)⟩),av⟩ fun ac ag ae ab aa=> ?_;obtain ⟨e0,e1,e3,e4,e18,e20,e24⟩:=aa.k7 e0 e1 e3 e4 e18 e20 e24;replace r0:=aa.ro 5 e0 rfl;refine wp_seq ?_;refine wp_seq (xC [0,0,3,7,15,15,63,127] ab [jo r0] ⟨ao e1,ao e20,aq fun c=>cW rfl (c.q 0) (c.q 1),bD 2,aL 3 rfl fun c hpc=>aS rfl (c.p e20),aL 3 rfl fun c hpc=>aS rfl (c.p e18),aL 3 rfl fun c hpc=>cW rfl (c.M 4 hpc) (c.M 5 hpc),bZ 3 6,av⟩ fun ac ag ae ab aa=> ?_);obtain ⟨e0,e1,e3,e4,e18,e20,e24⟩:=aa.k7 e0 e1 e3 e4 e18 e20 e24;have e199:=aa.V 7;replace r0:=aa.O 0;refine wp_cond_split e199 (fun hc13=> ?_) (fun hc13=> ?_)
     · try simp only [au,ai] at hc13
       refine rg [_,_,_,_,_,own _ _ _ 0 0 _] [0,0,0,0,0,31] ab [jo r0] ⟨ao e0,ao e1,ao e20,ao e18,ao e4,fM rfl rfl rfl (by decide) (fun _ a_ _ _ c=>⟨_,_,(eC rfl rfl gy (c.n 0 rfl) (c.n 1 rfl) (c.n 2 rfl) (c.n 3 rfl) (c.n 4 rfl)),c.p e0,c.io 0 rfl,fun ho_=>ih v (gk xs (s:Int).toNat (m:Int).toNat (e:Int).toNat) a s mid _ ho_ (by omega) (by omega) (by (try rw [jd (by omega) (by omega) (by (try rw [dJ (by omega) (by omega) (by omega)]);omega)]);(try rw [dJ (by omega) (by omega) (by omega)]);omega) (by (try rw [jd (by omega) (by omega) (by (try rw [dJ (by omega) (by omega) (by omega)]);omega)]);(try rw [dJ (by omega) (by omega) (by omega)]);omega) (by omega) (mZ hS1 hS2 hA hB hC hD h3 hR (ys:=gk xs (s:Int).toNat (m:Int).toNat (e:Int).toNat) (by first | rfl | exact (dO (by omega) (by omega) (by omega)).symm)).1 (mZ hS1 hS2 hA hB hC hD h3 hR (ys:=gk xs (s:Int).toNat (m:Int).toNat (e:Int).toNat) (by first | rfl | exact (dO (by omega) (by omega) (by omega)).symm)).2⟩),av⟩ fun ac ag ae ab aa=> ?_;obtain ⟨e0,e3,e4,e18,e24⟩:=aa.k5 e0 e3 e4 e18 e24;replace r0:=aa.ro 5 e0 rfl;refine wp_seq (xC [0,0,3,7,15,15,63,127] ab [jo r0] ⟨ao e18,ao e24,aq fun c=>cW rfl (c.q 0) (c.q 1),bD 2,aL 3 rfl fun c hpc=>aS rfl (c.p e24),aL 3 rfl fun c hpc=>aS rfl (c.p e3),aL 3 rfl fun c hpc=>cW rfl (c.M 4 hpc) (c.M 5 hpc),bZ 3 6,av⟩ fun ac ag ae ab aa=> ?_);obtain ⟨e0,e3,e4,e18,e24⟩:=aa.k5 e0 e3 e4 e18 e24;have e213:=aa.V 7;replace r0:=aa.O 0;refine wp_cond_split e213 (fun hc14=> ?_) (fun hc14=> ?_)
       · try simp only [au,ai] at hc14
         refine rg [_,_,_,_,_,own _ _ _ 0 0 _] [0,0,0,0,0,31] ab [jo r0] ⟨ao e0,ao e18,ao e24,ao e3,ao e4,fM rfl rfl rfl (by decide) (fun _ a_ _ _ c=>⟨_,_,(eC rfl rfl gy (c.n 0 rfl) (c.n 1 rfl) (c.n 2 rfl) (c.n 3 rfl) (c.n 4 rfl)),c.p e0,c.io 0 rfl,fun ho_=>ih v (mF gP (gk xs (s:Int).toNat (m:Int).toNat (e:Int).toNat) a s mid) mid e b _ ho_ (by omega) (by omega) (by (try rw [jd (by omega) (by omega) (by (try rw [dJ (by omega) (by omega) (by omega)]);omega)]);(try rw [dJ (by omega) (by omega) (by omega)]);omega) (by (try rw [jd (by omega) (by omega) (by (try rw [dJ (by omega) (by omega) (by omega)]);omega)]);(try rw [dJ (by omega) (by omega) (by omega)]);omega) (by omega) (jg hS1 hS2 hA hB hC hD h3 hR (ys:=gk xs (s:Int).toNat (m:Int).toNat (e:Int).toNat) (zs:=mF gP (gk xs (s:Int).toNat (m:Int).toNat (e:Int).toNat) a s mid) (by first | rfl | exact (dO (by omega) (by omega) (by omega)).symm) (by first | rfl | exact (ej (by omega) (by omega) (by omega)).symm)).1 (jg hS1 hS2 hA hB hC hD h3 hR (ys:=gk xs (s:Int).toNat (m:Int).toNat (e:Int).toNat) (zs:=mF gP (gk xs (s:Int).toNat (m:Int).toNat (e:Int).toNat) a s mid) (by first | rfl | exact (dO (by omega) (by omega) (by omega)).symm) (by first | rfl | exact (ej (by omega) (by omega) (by omega)).symm)).2⟩),av⟩ fun ac ag ae ab aa=> ?_;replace e0:=aa.k1 e0;replace r0:=aa.ro 5 e0 rfl;refine oC (fn:=Tryz.f154) rfl ab.defers ?_;exact ⟨rfl,(iw gH hS1 hS2 hA hB hC hD h3 hC1 hC2 hR (ys:=gk xs (s:Int).toNat (m:Int).toNat (e:Int).toNat) (zs:=mF gP (gk xs (s:Int).toNat (m:Int).toNat (e:Int).toNat) a s mid) (us:=mF gP (mF gP (gk xs (s:Int).toNat (m:Int).toNat (e:Int).toNat) a s mid) mid e b) (by first | rfl | exact (dO (by omega) (by omega) (by omega)).symm) (by first | rfl | exact (ej (by omega) (by omega) (by omega)).symm) (by first | rfl | exact (ej (by omega) (by omega) (by omega)).symm)) ▸ r0.1,ab.extIn⟩
       try simp only [bl,ah,aV] at hc14
       refine wp_skip ?_;refine oC (fn:=Tryz.f154) rfl ab.defers ?_;exact ⟨rfl,(iw gH hS1 hS2 hA hB hC hD h3 hC1 hC2 hR (ys:=gk xs (s:Int).toNat (m:Int).toNat (e:Int).toNat) (zs:=mF gP (gk xs (s:Int).toNat (m:Int).toNat (e:Int).toNat) a s mid) (us:=mF gP (gk xs (s:Int).toNat (m:Int).toNat (e:Int).toNat) a s mid) (by first | rfl | exact (dO (by omega) (by omega) (by omega)).symm) (by first | rfl | exact (ej (by omega) (by omega) (by omega)).symm) (by first | rfl | exact (ej (by omega) (by omega) (by omega)).symm)) ▸ r0.1,ab.extIn⟩
     try simp only [bl,ah,aV] at hc13
     refine wp_skip ?_;refine wp_seq (xC [0,0,3,7,15,15,63,127] ab [jo r0] ⟨ao e18,ao e24,aq fun c=>cW rfl (c.q 0) (c.q 1),bD 2,aL 3 rfl fun c hpc=>aS rfl (c.p e24),aL 3 rfl fun c hpc=>aS rfl (c.p e3),aL 3 rfl fun c hpc=>cW rfl (c.M 4 hpc) (c.M 5 hpc),bZ 3 6,av⟩ fun ac ag ae ab aa=> ?_);obtain ⟨e0,e3,e4,e18,e24⟩:=aa.k5 e0 e3 e4 e18 e24;have e213:=aa.V 7;replace r0:=aa.O 0;refine wp_cond_split e213 (fun hc15=> ?_) (fun hc15=> ?_)
     · try simp only [au,ai] at hc15
       refine rg [_,_,_,_,_,own _ _ _ 0 0 _] [0,0,0,0,0,31] ab [jo r0] ⟨ao e0,ao e18,ao e24,ao e3,ao e4,fM rfl rfl rfl (by decide) (fun _ a_ _ _ c=>⟨_,_,(eC rfl rfl gy (c.n 0 rfl) (c.n 1 rfl) (c.n 2 rfl) (c.n 3 rfl) (c.n 4 rfl)),c.p e0,c.io 0 rfl,fun ho_=>ih v (gk xs (s:Int).toNat (m:Int).toNat (e:Int).toNat) mid e b _ ho_ (by omega) (by omega) (by (try rw [jd (by omega) (by omega) (by (try rw [dJ (by omega) (by omega) (by omega)]);omega)]);(try rw [dJ (by omega) (by omega) (by omega)]);omega) (by (try rw [jd (by omega) (by omega) (by (try rw [dJ (by omega) (by omega) (by omega)]);omega)]);(try rw [dJ (by omega) (by omega) (by omega)]);omega) (by omega) (jg hS1 hS2 hA hB hC hD h3 hR (ys:=gk xs (s:Int).toNat (m:Int).toNat (e:Int).toNat) (zs:=gk xs (s:Int).toNat (m:Int).toNat (e:Int).toNat) (by first | rfl | exact (dO (by omega) (by omega) (by omega)).symm) (by first | rfl | exact (ej (by omega) (by omega) (by omega)).symm)).1 (jg hS1 hS2 hA hB hC hD h3 hR (ys:=gk xs (s:Int).toNat (m:Int).toNat (e:Int).toNat) (zs:=gk xs (s:Int).toNat (m:Int).toNat (e:Int).toNat) (by first | rfl | exact (dO (by omega) (by omega) (by omega)).symm) (by first | rfl | exact (ej (by omega) (by omega) (by omega)).symm)).2⟩),av⟩ fun ac ag ae ab aa=> ?_;replace e0:=aa.k1 e0;replace r0:=aa.ro 5 e0 rfl;refine oC (fn:=Tryz.f154) rfl ab.defers ?_;exact ⟨rfl,(iw gH hS1 hS2 hA hB hC hD h3 hC1 hC2 hR (ys:=gk xs (s:Int).toNat (m:Int).toNat (e:Int).toNat) (zs:=gk xs (s:Int).toNat (m:Int).toNat (e:Int).toNat) (us:=mF gP (gk xs (s:Int).toNat (m:Int).toNat (e:Int).toNat) mid e b) (by first | rfl | exact (dO (by omega) (by omega) (by omega)).symm) (by first | rfl | exact (ej (by omega) (by omega) (by omega)).symm) (by first | rfl | exact (ej (by omega) (by omega) (by omega)).symm)) ▸ r0.1,ab.extIn⟩
     try simp only [bl,ah,aV] at hc15
     refine wp_skip ?_;refine oC (fn:=Tryz.f154) rfl ab.defers ?_;exact ⟨rfl,(iw gH hS1 hS2 hA hB hC hD h3 hC1 hC2 hR (ys:=gk xs (s:Int).toNat (m:Int).toNat (e:Int).toNat) (zs:=gk xs (s:Int).toNat (m:Int).toNat (e:Int).toNat) (us:=gk xs (s:Int).toNat (m:Int).toNat (e:Int).toNat) (by first | rfl | exact (dO (by omega) (by omega) (by omega)).symm) (by first | rfl | exact (ej (by omega) (by omega) (by omega)).symm) (by first | rfl | exact (ej (by omega) (by omega) (by omega)).symm)) ▸ r0.1,ab.extIn⟩
   try simp only [bl,ah,aV] at hc12
   refine wp_skip ?_;refine wp_seq ?_;refine wp_seq (xC [0,0,3,7,15,15,63,127] ab [jo r0] ⟨ao e1,ao e20,aq fun c=>cW rfl (c.q 0) (c.q 1),bD 2,aL 3 rfl fun c hpc=>aS rfl (c.p e20),aL 3 rfl fun c hpc=>aS rfl (c.p e18),aL 3 rfl fun c hpc=>cW rfl (c.M 4 hpc) (c.M 5 hpc),bZ 3 6,av⟩ fun ac ag ae ab aa=> ?_);obtain ⟨e0,e1,e3,e4,e18,e20,e24⟩:=aa.k7 e0 e1 e3 e4 e18 e20 e24;have e199:=aa.V 7;replace r0:=aa.O 0;refine wp_cond_split e199 (fun hc16=> ?_) (fun hc16=> ?_)
   · try simp only [au,ai] at hc16
     refine rg [_,_,_,_,_,own _ _ _ 0 0 _] [0,0,0,0,0,31] ab [jo r0] ⟨ao e0,ao e1,ao e20,ao e18,ao e4,fM rfl rfl rfl (by decide) (fun _ a_ _ _ c=>⟨_,_,(eC rfl rfl gy (c.n 0 rfl) (c.n 1 rfl) (c.n 2 rfl) (c.n 3 rfl) (c.n 4 rfl)),c.p e0,c.io 0 rfl,fun ho_=>ih v xs a s mid _ ho_ (by omega) (by omega) (by (try rw [jd (by omega) (by omega) (by (try rw [dJ (by omega) (by omega) (by omega)]);omega)]);(try rw [dJ (by omega) (by omega) (by omega)]);omega) (by (try rw [jd (by omega) (by omega) (by (try rw [dJ (by omega) (by omega) (by omega)]);omega)]);(try rw [dJ (by omega) (by omega) (by omega)]);omega) (by omega) (mZ hS1 hS2 hA hB hC hD h3 hR (ys:=xs) (by first | rfl | exact (dO (by omega) (by omega) (by omega)).symm)).1 (mZ hS1 hS2 hA hB hC hD h3 hR (ys:=xs) (by first | rfl | exact (dO (by omega) (by omega) (by omega)).symm)).2⟩),av⟩ fun ac ag ae ab aa=> ?_;obtain ⟨e0,e3,e4,e18,e24⟩:=aa.k5 e0 e3 e4 e18 e24;replace r0:=aa.ro 5 e0 rfl;refine wp_seq (xC [0,0,3,7,15,15,63,127] ab [jo r0] ⟨ao e18,ao e24,aq fun c=>cW rfl (c.q 0) (c.q 1),bD 2,aL 3 rfl fun c hpc=>aS rfl (c.p e24),aL 3 rfl fun c hpc=>aS rfl (c.p e3),aL 3 rfl fun c hpc=>cW rfl (c.M 4 hpc) (c.M 5 hpc),bZ 3 6,av⟩ fun ac ag ae ab aa=> ?_);obtain ⟨e0,e3,e4,e18,e24⟩:=aa.k5 e0 e3 e4 e18 e24;have e213:=aa.V 7;replace r0:=aa.O 0;refine wp_cond_split e213 (fun hc17=> ?_) (fun hc17=> ?_)
     · try simp only [au,ai] at hc17
       refine rg [_,_,_,_,_,own _ _ _ 0 0 _] [0,0,0,0,0,31] ab [jo r0] ⟨ao e0,ao e18,ao e24,ao e3,ao e4,fM rfl rfl rfl (by decide) (fun _ a_ _ _ c=>⟨_,_,(eC rfl rfl gy (c.n 0 rfl) (c.n 1 rfl) (c.n 2 rfl) (c.n 3 rfl) (c.n 4 rfl)),c.p e0,c.io 0 rfl,fun ho_=>ih v (mF gP xs a s mid) mid e b _ ho_ (by omega) (by omega) (by (try rw [jd (by omega) (by omega) (by (try rw [dJ (by omega) (by omega) (by omega)]);omega)]);(try rw [dJ (by omega) (by omega) (by omega)]);omega) (by (try rw [jd (by omega) (by omega) (by (try rw [dJ (by omega) (by omega) (by omega)]);omega)]);(try rw [dJ (by omega) (by omega) (by omega)]);omega) (by omega) (jg hS1 hS2 hA hB hC hD h3 hR (ys:=xs) (zs:=mF gP xs a s mid) (by first | rfl | exact (dO (by omega) (by omega) (by omega)).symm) (by first | rfl | exact (ej (by omega) (by omega) (by omega)).symm)).1 (jg hS1 hS2 hA hB hC hD h3 hR (ys:=xs) (zs:=mF gP xs a s mid) (by first | rfl | exact (dO (by omega) (by omega) (by omega)).symm) (by first | rfl | exact (ej (by omega) (by omega) (by omega)).symm)).2⟩),av⟩ fun ac ag ae ab aa=> ?_;replace e0:=aa.k1 e0;replace r0:=aa.ro 5 e0 rfl;refine oC (fn:=Tryz.f154) rfl ab.defers ?_;exact ⟨rfl,(iw gH hS1 hS2 hA hB hC hD h3 hC1 hC2 hR (ys:=xs) (zs:=mF gP xs a s mid) (us:=mF gP (mF gP xs a s mid) mid e b) (by first | rfl | exact (dO (by omega) (by omega) (by omega)).symm) (by first | rfl | exact (ej (by omega) (by omega) (by omega)).symm) (by first | rfl | exact (ej (by omega) (by omega) (by omega)).symm)) ▸ r0.1,ab.extIn⟩
     try simp only [bl,ah,aV] at hc17
     refine wp_skip ?_;refine oC (fn:=Tryz.f154) rfl ab.defers ?_;exact ⟨rfl,(iw gH hS1 hS2 hA hB hC hD h3 hC1 hC2 hR (ys:=xs) (zs:=mF gP xs a s mid) (us:=mF gP xs a s mid) (by first | rfl | exact (dO (by omega) (by omega) (by omega)).symm) (by first | rfl | exact (ej (by omega) (by omega) (by omega)).symm) (by first | rfl | exact (ej (by omega) (by omega) (by omega)).symm)) ▸ r0.1,ab.extIn⟩
   try simp only [bl,ah,aV] at hc16
   refine wp_skip ?_;refine wp_seq (xC [0,0,3,7,15,15,63,127] ab [jo r0] ⟨ao e18,ao e24,aq fun c=>cW rfl (c.q 0) (c.q 1),bD 2,aL 3 rfl fun c hpc=>aS rfl (c.p e24),aL 3 rfl fun c hpc=>aS rfl (c.p e3),aL 3 rfl fun c hpc=>cW rfl (c.M 4 hpc) (c.M 5 hpc),bZ 3 6,av⟩ fun ac ag ae ab aa=> ?_);obtain ⟨e0,e3,e4,e18,e24⟩:=aa.k5 e0 e3 e4 e18 e24;have e213:=aa.V 7;replace r0:=aa.O 0;refine wp_cond_split e213 (fun hc18=> ?_) (fun hc18=> ?_)
   · try simp only [au,ai] at hc18
     refine rg [_,_,_,_,_,own _ _ _ 0 0 _] [0,0,0,0,0,31] ab [jo r0] ⟨ao e0,ao e18,ao e24,ao e3,ao e4,fM rfl rfl rfl (by decide) (fun _ a_ _ _ c=>⟨_,_,(eC rfl rfl gy (c.n 0 rfl) (c.n 1 rfl) (c.n 2 rfl) (c.n 3 rfl) (c.n 4 rfl)),c.p e0,c.io 0 rfl,fun ho_=>ih v xs mid e b _ ho_ (by omega) (by omega) (by (try rw [jd (by omega) (by omega) (by (try rw [dJ (by omega) (by omega) (by omega)]);omega)]);(try rw [dJ (by omega) (by omega) (by omega)]);omega) (by (try rw [jd (by omega) (by omega) (by (try rw [dJ (by omega) (by omega) (by omega)]);omega)]);(try rw [dJ (by omega) (by omega) (by omega)]);omega) (by omega) (jg hS1 hS2 hA hB hC hD h3 hR (ys:=xs) (zs:=xs) (by first | rfl | exact (dO (by omega) (by omega) (by omega)).symm) (by first | rfl | exact (ej (by omega) (by omega) (by omega)).symm)).1 (jg hS1 hS2 hA hB hC hD h3 hR (ys:=xs) (zs:=xs) (by first | rfl | exact (dO (by omega) (by omega) (by omega)).symm) (by first | rfl | exact (ej (by omega) (by omega) (by omega)).symm)).2⟩),av⟩ fun ac ag ae ab aa=> ?_;replace e0:=aa.k1 e0;replace r0:=aa.ro 5 e0 rfl;refine oC (fn:=Tryz.f154) rfl ab.defers ?_;exact ⟨rfl,(iw gH hS1 hS2 hA hB hC hD h3 hC1 hC2 hR (ys:=xs) (zs:=xs) (us:=mF gP xs mid e b) (by first | rfl | exact (dO (by omega) (by omega) (by omega)).symm) (by first | rfl | exact (ej (by omega) (by omega) (by omega)).symm) (by first | rfl | exact (ej (by omega) (by omega) (by omega)).symm)) ▸ r0.1,ab.extIn⟩
   try simp only [bl,ah,aV] at hc18
   refine wp_skip ?_;refine oC (fn:=Tryz.f154) rfl ab.defers ?_;exact ⟨rfl,(iw gH hS1 hS2 hA hB hC hD h3 hC1 hC2 hR (ys:=xs) (zs:=xs) (us:=xs) (by first | rfl | exact (dO (by omega) (by omega) (by omega)).symm) (by first | rfl | exact (ej (by omega) (by omega) (by omega)).symm) (by first | rfl | exact (ej (by omega) (by omega) (by omega)).symm)) ▸ r0.1,ab.extIn⟩
 try simp only [ah,aV] at hc9
 refine wp_seq (eA ab [jo r0] ⟨ao e1,aK 0,av⟩ fun ac ag ae ab aa=> ?_);obtain ⟨e0,e1,e2,e3,e4,e18,e19,e21⟩:=aa.k8 e0 e1 e2 e3 e4 e18 e19 e21;have e20:=aa.V 1;replace r0:=aa.O 0;refine eA ab [jo r0] ⟨ao e2,aK 0,av⟩ fun ac ag ae ab aa=> ?_;obtain ⟨e0,e1,e2,e3,e4,e18,e19,e20⟩:=aa.k8 e0 e1 e2 e3 e4 e18 e19 e20;have e21:=aa.V 1;replace r0:=aa.O 0;refine wp_seq (fX ab [jo r0] ⟨ao e19,aq fun c=>gd rfl (c.q 0) rfl (by omega),aK 1,av⟩ fun ac ag ae ab aa=> ?_);obtain ⟨e0,e1,e2,e3,e4,e18,e19,e20,e21⟩:=aa.k9 e0 e1 e2 e3 e4 e18 e19 e20 e21;have e22:=aa.V 2;replace r0:=aa.O 0;refine wp_seq ?_;refine wp_block ?_;refine wp_loop (fun a_ w_=>∃(s r:Nat) (τ:Nat→bj),(a≤s)∧
      (s≤r)∧
      (r≤m)∧
      (s=a∨gP (nth xs ((mid:Int)+(m:Int) - (s:Int))) (nth xs ((s:Int) - 1))=false)∧
      (r=m∨gP (nth xs ((mid:Int)+(m:Int) - 1 - (r:Int))) (nth xs (r:Int))=true)∧
      St (fun k=>v.ownBlock=some k∨w.heap.size≤k) w 220 a_ w_ τ∧
      be a_ 20=(aj (s:Int))∧
      be a_ 21=(aj (r:Int))∧
      be a_ 0=v∧
      be a_ 1=(aj (a:Int))∧
      be a_ 2=(aj (m:Int))∧
      be a_ 3=(aj (b:Int))∧
      be a_ 4=(.func (.func 148) #[] #[])∧
      be a_ 18=(aj (mid:Int))∧
      be a_ 19=(aj ((mid:Int)+(m:Int)))∧
      be a_ 22=(aj ((mid:Int)+(m:Int) - 1))∧
      ep fx 89 xs (τ 0) v w_) (fun a_ _=>(intOf (be a_ 21)).toNat - (intOf (be a_ 20)).toNat) ?_ ?_
 · refine ⟨a,m,ae,?_,?_,?_,?_,?_,ab,(e20.trans (bB (by omega))),(e21.trans (bB (by omega))),e0,e1,e2,e3,e4,e18,e19,e22,r0⟩
   · omega
   · omega
   · omega
   · left;omega
   · left;omega
 intro a60 w60 hI;obtain ⟨s,r,τ60,q0,q1,q2,q3,q4,st60,e20,e21,e0,e1,e2,e3,e4,e18,e19,e22,r0⟩:=hI;have m20:=e20;have m21:=e21;refine wp_seq ?_;refine wp_seq (sf [0,0,3] st60 [jo r0] ⟨ao e20,ao e21,aq fun c=>cW rfl (c.q 0) (c.q 1),av⟩ fun ac ag ae ab aa=> ?_);obtain ⟨e0,e1,e2,e3,e4,e18,e19,e20,e21,e22⟩:=aa.k10 e0 e1 e2 e3 e4 e18 e19 e20 e21 e22;have e151:=aa.V 2;replace r0:=aa.O 0;refine wp_cond_split e151 (fun hc19=> ?_) (fun hc19=> ?_)
 · try simp only [ai] at hc19
   refine wp_skip ?_;refine wp_block ?_;refine wp_seq (ue [0,0,3,7,15,31,63] ab [jo r0] ⟨ao e20,ao e21,aq fun c=>cN rfl (c.q 0) (c.q 1) (by omega),aq fun c=>jw rfl bX cB (c.q 2) (by omega) (by omega) (by decide),aq fun c=>uc rfl (c.q 3) rfl,aq fun c=>jw rfl cB bX (c.q 4) (by omega) (by omega) (by decide),aK 5,av⟩ fun ac ag ae ab aa=> ?_);obtain ⟨e0,e1,e2,e3,e4,e18,e19,e20,e21,e22,e151⟩:=aa.k11 e0 e1 e2 e3 e4 e18 e19 e20 e21 e22 e151;have e23:=aa.V 6;replace r0:=aa.O 0;obtain ⟨cc,hcc⟩:∃x_:Nat,((s:Int)+(r:Int)) / 2=(x_:Int):=⟨(s+r) / 2,by omega⟩;replace e23:=e23.trans (bB hcc);refine wp_seq (rg [_,_,_,_,_,_,_,_,_,_,_,_,_,_] [0,0,0,0,12,30,62,0,0,384,896,2047,4095,8191] ab [jo r0] ⟨ao e4,ao e0,ao e22,ao e23,aq fun c=>gd rfl (c.q 2) (c.q 3) (by omega),aq fun c=>aX rfl br bq (c.q 1) r0.isSl (c.q 4) (by omega) (by omega),aq fun c=>cq (vs:=[(bc ((nth xs ((mid:Int)+(m:Int) - 1 - (cc:Int))).1)),(bc ((nth xs ((mid:Int)+(m:Int) - 1 - (cc:Int))).2))]) rfl dF bq (c.q 5) rfl (fun _ _ hj=>((c.io 0 rfl).1.sl).elem (bF (i:=(mid:Int)+(m:Int) - 1 - (cc:Int)) (by omega) (by omega)) hj),ao e0,ao e23,aq fun c=>aX rfl br bq (c.q 7) r0.isSl (c.q 8) (by omega) (by omega),aq fun c=>cq (vs:=[(bc ((nth xs (cc:Int)).1)),(bc ((nth xs (cc:Int)).2))]) rfl dF bq (c.q 9) rfl (fun _ _ hj=>((c.io 0 rfl).1.sl).elem (bF (i:=(cc:Int)) (by omega) (by omega)) hj),eE fun c=>⟨_,_,(ck rfl (c.q 0) nz (c.q 6) (c.q 10)),wj (nth xs ((mid:Int)+(m:Int) - 1 - (cc:Int))) (nth xs (cc:Int)) _⟩,aq fun c=>cW rfl (c.q 11) rfl,aq fun c=>ew rfl (c.q 12),av⟩ fun ac ag ae ab aa=> ?_);obtain ⟨e0,e1,e2,e3,e4,e18,e19,e20,e21,e22,e23,e151⟩:=aa.k12 e0 e1 e2 e3 e4 e18 e19 e20 e21 e22 e23 e151;have e171:=aa.V 13;replace r0:=aa.O 0;refine wp_cond_split e171 (fun hc20=> ?_) (fun hc20=> ?_)
   · try simp only [ar,am,ai,ah,aV] at hc20
     refine fX ab [jo r0] ⟨ao e23,aq fun c=>cN rfl (c.q 0) rfl (by omega),aK 1,av⟩ fun ac ag ae ab aa=> ?_;obtain ⟨e0,e1,e2,e3,e4,e18,e19,e21,e22,e23,e151,e171⟩:=aa.k12 e0 e1 e2 e3 e4 e18 e19 e21 e22 e23 e151 e171;have e20:=aa.V 2;replace r0:=aa.O 0;show _;refine ⟨⟨cc+1,r,ae,?_,?_,?_,?_,?_,ab,(e20.trans (bB (by omega))),(e21.trans (bB (by omega))),e0,e1,e2,e3,e4,e18,e19,e22,r0⟩,?_⟩
     · omega
     · omega
     · omega
     · first | exact q3 | (right;rw [show (mid:Int)+(m:Int) - ((cc+1:Nat):Int)=(mid:Int)+(m:Int) - 1 - (cc:Int) by omega,show (((cc+1:Nat):Int) - 1)=(cc:Int) by omega];exact (by simp only [gP,ah,aV];assumption))
     · first | exact q4 | (right;exact (by simp only [gP,ai];assumption))
     · simp only [m20,m21,e20,e21,intOf];omega
   try simp only [ar,am,ai,ah,aV] at hc20
   refine eA ab [jo r0] ⟨ao e23,aK 0,av⟩ fun ac ag ae ab aa=> ?_;obtain ⟨e0,e1,e2,e3,e4,e18,e19,e20,e22,e23,e151,e171⟩:=aa.k12 e0 e1 e2 e3 e4 e18 e19 e20 e22 e23 e151 e171;have e21:=aa.V 1;replace r0:=aa.O 0;show _;refine ⟨⟨s,cc,ae,?_,?_,?_,?_,?_,ab,(e20.trans (bB (by omega))),(e21.trans (bB (by omega))),e0,e1,e2,e3,e4,e18,e19,e22,r0⟩,?_⟩
   · omega
   · omega
   · omega
   · first | exact q3 | (right;rw [show (mid:Int)+(m:Int) - ((cc+1:Nat):Int)=(mid:Int)+(m:Int) - 1 - (cc:Int) by omega,show (((cc+1:Nat):Int) - 1)=(cc:Int) by omega];exact (by simp only [gP,ah,aV];assumption))
   · first | exact q4 | (right;exact (by simp only [gP,ai];assumption))
   · simp only [m20,m21,e20,e21,intOf];omega
 try simp only [ah,aV] at hc19
 refine wp_exit ?_;repeat (with_reducible refine cy ?_)
 refine cC ?_;refine wp_seq (lr [0,0,3,7] ab [jo r0] ⟨ao e19,ao e20,aq fun c=>gd rfl (c.q 0) (c.q 1) (by omega),aK 2,av⟩ fun ac ag ae ab aa=> ?_);obtain ⟨e0,e1,e2,e3,e4,e18,e20⟩:=aa.k7 e0 e1 e2 e3 e4 e18 e20;have e24:=aa.V 3;replace r0:=aa.O 0;obtain rfl:s=r:=by omega
 obtain ⟨e,he⟩:∃x_:Nat,(mid:Int)+(m:Int) - (s:Int)=(x_:Int):=⟨mid+m - s,by omega⟩;replace e24:=e24.trans (bB he);have hA:a≤s:=by omega
 have hB:s≤m:=by omega
 have hC:m≤e:=by omega
 have hD:e≤b:=by omega
 have hR:s+e=mid+m:=by omega
 have hC1:s=a∨e=b∨gP (nth xs (e:Int)) (nth xs ((s:Int) - 1))=false:=by
   rcases q3 with h_ | h_
   · first | (left;omega) | (right;left;omega)
   · right;right;rw [←he];exact h_
 have hC2:s=m∨e=m∨gP (nth xs ((e:Int) - 1)) (nth xs (s:Int))=true:=by
   rcases q4 with h_ | h_
   · first | (left;omega) | (right;left;omega)
   · right;right;rw [show (e:Int) - 1=(mid:Int)+(m:Int) - 1 - (s:Int) by omega];exact h_
 refine wp_seq ?_;refine wp_seq (xC [0,0,3,7,15,15,63,127] ab [jo r0] ⟨ao e20,ao e2,aq fun c=>cW rfl (c.q 0) (c.q 1),bD 2,aL 3 rfl fun c hpc=>aS rfl (c.p e2),aL 3 rfl fun c hpc=>aS rfl (c.p e24),aL 3 rfl fun c hpc=>cW rfl (c.M 4 hpc) (c.M 5 hpc),bZ 3 6,av⟩ fun ac ag ae ab aa=> ?_);obtain ⟨e0,e1,e2,e3,e4,e18,e20,e24⟩:=aa.k8 e0 e1 e2 e3 e4 e18 e20 e24;have e185:=aa.V 7;replace r0:=aa.O 0;refine wp_cond_split e185 (fun hc21=> ?_) (fun hc21=> ?_)
 · try simp only [au,ai] at hc21
   refine rg [_,_,_,_,_,own _ _ _ 0 0 _] [0,0,0,0,0,31] ab [jo r0] ⟨ao e0,ao e20,ao e2,ao e24,ao e4,fM rfl rfl rfl (by decide) (fun _ a_ _ _ c=>⟨_,_,(eC rfl rfl Tryz.call155 (c.n 0 rfl) (c.n 1 rfl) (c.n 2 rfl) (c.n 3 rfl) (c.n 4 rfl)),c.p e0,c.io 0 rfl,fun ho_=>Ab v xs (s:Int) (m:Int) (e:Int) _ ho_ (by omega) (by omega) (by omega) (by omega)⟩),av⟩ fun ac ag ae ab aa=> ?_;obtain ⟨e0,e1,e3,e4,e18,e20,e24⟩:=aa.k7 e0 e1 e3 e4 e18 e20 e24;replace r0:=aa.ro 5 e0 rfl;refine wp_seq ?_;refine wp_seq (xC [0,0,3,7,15,15,63,127] ab [jo r0] ⟨ao e1,ao e20,aq fun c=>cW rfl (c.q 0) (c.q 1),bD 2,aL 3 rfl fun c hpc=>aS rfl (c.p e20),aL 3 rfl fun c hpc=>aS rfl (c.p e18),aL 3 rfl fun c hpc=>cW rfl (c.M 4 hpc) (c.M 5 hpc),bZ 3 6,av⟩ fun ac ag ae ab aa=> ?_);obtain ⟨e0,e1,e3,e4,e18,e20,e24⟩:=aa.k7 e0 e1 e3 e4 e18 e20 e24;have e199:=aa.V 7;replace r0:=aa.O 0;refine wp_cond_split e199 (fun hc22=> ?_) (fun hc22=> ?_)
   · try simp only [au,ai] at hc22
     refine rg [_,_,_,_,_,own _ _ _ 0 0 _] [0,0,0,0,0,31] ab [jo r0] ⟨ao e0,ao e1,ao e20,ao e18,ao e4,fM rfl rfl rfl (by decide) (fun _ a_ _ _ c=>⟨_,_,(eC rfl rfl gy (c.n 0 rfl) (c.n 1 rfl) (c.n 2 rfl) (c.n 3 rfl) (c.n 4 rfl)),c.p e0,c.io 0 rfl,fun ho_=>ih v (gk xs (s:Int).toNat (m:Int).toNat (e:Int).toNat) a s mid _ ho_ (by omega) (by omega) (by (try rw [jd (by omega) (by omega) (by (try rw [dJ (by omega) (by omega) (by omega)]);omega)]);(try rw [dJ (by omega) (by omega) (by omega)]);omega) (by (try rw [jd (by omega) (by omega) (by (try rw [dJ (by omega) (by omega) (by omega)]);omega)]);(try rw [dJ (by omega) (by omega) (by omega)]);omega) (by omega) (mZ hS1 hS2 hA hB hC hD h3 hR (ys:=gk xs (s:Int).toNat (m:Int).toNat (e:Int).toNat) (by first | rfl | exact (dO (by omega) (by omega) (by omega)).symm)).1 (mZ hS1 hS2 hA hB hC hD h3 hR (ys:=gk xs (s:Int).toNat (m:Int).toNat (e:Int).toNat) (by first | rfl | exact (dO (by omega) (by omega) (by omega)).symm)).2⟩),av⟩ fun ac ag ae ab aa=> ?_;obtain ⟨e0,e3,e4,e18,e24⟩:=aa.k5 e0 e3 e4 e18 e24;replace r0:=aa.ro 5 e0 rfl;refine wp_seq (xC [0,0,3,7,15,15,63,127] ab [jo r0] ⟨ao e18,ao e24,aq fun c=>cW rfl (c.q 0) (c.q 1),bD 2,aL 3 rfl fun c hpc=>aS rfl (c.p e24),aL 3 rfl fun c hpc=>aS rfl (c.p e3),aL 3 rfl fun c hpc=>cW rfl (c.M 4 hpc) (c.M 5 hpc),bZ 3 6,av⟩ fun ac ag ae ab aa=> ?_);obtain ⟨e0,e3,e4,e18,e24⟩:=aa.k5 e0 e3 e4 e18 e24;have e213:=aa.V 7;replace r0:=aa.O 0;refine wp_cond_split e213 (fun hc23=> ?_) (fun hc23=> ?_)
     · try simp only [au,ai] at hc23
       refine rg [_,_,_,_,_,own _ _ _ 0 0 _] [0,0,0,0,0,31] ab [jo r0] ⟨ao e0,ao e18,ao e24,ao e3,ao e4,fM rfl rfl rfl (by decide) (fun _ a_ _ _ c=>⟨_,_,(eC rfl rfl gy (c.n 0 rfl) (c.n 1 rfl) (c.n 2 rfl) (c.n 3 rfl) (c.n 4 rfl)),c.p e0,c.io 0 rfl,fun ho_=>ih v (mF gP (gk xs (s:Int).toNat (m:Int).toNat (e:Int).toNat) a s mid) mid e b _ ho_ (by omega) (by omega) (by (try rw [jd (by omega) (by omega) (by (try rw [dJ (by omega) (by omega) (by omega)]);omega)]);(try rw [dJ (by omega) (by omega) (by omega)]);omega) (by (try rw [jd (by omega) (by omega) (by (try rw [dJ (by omega) (by omega) (by omega)]);omega)]);(try rw [dJ (by omega) (by omega) (by omega)]);omega) (by omega) (jg hS1 hS2 hA hB hC hD h3 hR (ys:=gk xs (s:Int).toNat (m:Int).toNat (e:Int).toNat) (zs:=mF gP (gk xs (s:Int).toNat (m:Int).toNat (e:Int).toNat) a s mid) (by first | rfl | exact (dO (by omega) (by omega) (by omega)).symm) (by first | rfl | exact (ej (by omega) (by omega) (by omega)).symm)).1 (jg hS1 hS2 hA hB hC hD h3 hR (ys:=gk xs (s:Int).toNat (m:Int).toNat (e:Int).toNat) (zs:=mF gP (gk xs (s:Int).toNat (m:Int).toNat (e:Int).toNat) a s mid) (by first | rfl | exact (dO (by omega) (by omega) (by omega)).symm) (by first | rfl | exact (ej (by omega) (by omega) (by omega)).symm)).2⟩),av⟩ fun ac ag ae ab aa=> ?_;replace e0:=aa.k1 e0;replace r0:=aa.ro 5 e0 rfl;refine oC (fn:=Tryz.f154) rfl ab.defers ?_;exact ⟨rfl,(iw gH hS1 hS2 hA hB hC hD h3 hC1 hC2 hR (ys:=gk xs (s:Int).toNat (m:Int).toNat (e:Int).toNat) (zs:=mF gP (gk xs (s:Int).toNat (m:Int).toNat (e:Int).toNat) a s mid) (us:=mF gP (mF gP (gk xs (s:Int).toNat (m:Int).toNat (e:Int).toNat) a s mid) mid e b) (by first | rfl | exact (dO (by omega) (by omega) (by omega)).symm) (by first | rfl | exact (ej (by omega) (by omega) (by omega)).symm) (by first | rfl | exact (ej (by omega) (by omega) (by omega)).symm)) ▸ r0.1,ab.extIn⟩
     try simp only [bl,ah,aV] at hc23
     refine wp_skip ?_;refine oC (fn:=Tryz.f154) rfl ab.defers ?_;exact ⟨rfl,(iw gH hS1 hS2 hA hB hC hD h3 hC1 hC2 hR (ys:=gk xs (s:Int).toNat (m:Int).toNat (e:Int).toNat) (zs:=mF gP (gk xs (s:Int).toNat (m:Int).toNat (e:Int).toNat) a s mid) (us:=mF gP (gk xs (s:Int).toNat (m:Int).toNat (e:Int).toNat) a s mid) (by first | rfl | exact (dO (by omega) (by omega) (by omega)).symm) (by first | rfl | exact (ej (by omega) (by omega) (by omega)).symm) (by first | rfl | exact (ej (by omega) (by omega) (by omega)).symm)) ▸ r0.1,ab.extIn⟩
   try simp only [bl,ah,aV] at hc22
   refine wp_skip ?_;refine wp_seq (xC [0,0,3,7,15,15,63,127] ab [jo r0] ⟨ao e18,ao e24,aq fun c=>cW rfl (c.q 0) (c.q 1),bD 2,aL 3 rfl fun c hpc=>aS rfl (c.p e24),aL 3 rfl fun c hpc=>aS rfl (c.p e3),aL 3 rfl fun c hpc=>cW rfl (c.M 4 hpc) (c.M 5 hpc),bZ 3 6,av⟩ fun ac ag ae ab aa=> ?_);obtain ⟨e0,e3,e4,e18,e24⟩:=aa.k5 e0 e3 e4 e18 e24;have e213:=aa.V 7;replace r0:=aa.O 0;refine wp_cond_split e213 (fun hc24=> ?_) (fun hc24=> ?_)
   · try simp only [au,ai] at hc24
     refine rg [_,_,_,_,_,own _ _ _ 0 0 _] [0,0,0,0,0,31] ab [jo r0] ⟨ao e0,ao e18,ao e24,ao e3,ao e4,fM rfl rfl rfl (by decide) (fun _ a_ _ _ c=>⟨_,_,(eC rfl rfl gy (c.n 0 rfl) (c.n 1 rfl) (c.n 2 rfl) (c.n 3 rfl) (c.n 4 rfl)),c.p e0,c.io 0 rfl,fun ho_=>ih v (gk xs (s:Int).toNat (m:Int).toNat (e:Int).toNat) mid e b _ ho_ (by omega) (by omega) (by (try rw [jd (by omega) (by omega) (by (try rw [dJ (by omega) (by omega) (by omega)]);omega)]);(try rw [dJ (by omega) (by omega) (by omega)]);omega) (by (try rw [jd (by omega) (by omega) (by (try rw [dJ (by omega) (by omega) (by omega)]);omega)]);(try rw [dJ (by omega) (by omega) (by omega)]);omega) (by omega) (jg hS1 hS2 hA hB hC hD h3 hR (ys:=gk xs (s:Int).toNat (m:Int).toNat (e:Int).toNat) (zs:=gk xs (s:Int).toNat (m:Int).toNat (e:Int).toNat) (by first | rfl | exact (dO (by omega) (by omega) (by omega)).symm) (by first | rfl | exact (ej (by omega) (by omega) (by omega)).symm)).1 (jg hS1 hS2 hA hB hC hD h3 hR (ys:=gk xs (s:Int).toNat (m:Int).toNat (e:Int).toNat) (zs:=gk xs (s:Int).toNat (m:Int).toNat (e:Int).toNat) (by first | rfl | exact (dO (by omega) (by omega) (by omega)).symm) (by first | rfl | exact (ej (by omega) (by omega) (by omega)).symm)).2⟩),av⟩ fun ac ag ae ab aa=> ?_;replace e0:=aa.k1 e0;replace r0:=aa.ro 5 e0 rfl;refine oC (fn:=Tryz.f154) rfl ab.defers ?_;exact ⟨rfl,(iw gH hS1 hS2 hA hB hC hD h3 hC1 hC2 hR (ys:=gk xs (s:Int).toNat (m:Int).toNat (e:Int).toNat) (zs:=gk xs (s:Int).toNat (m:Int).toNat (e:Int).toNat) (us:=mF gP (gk xs (s:Int).toNat (m:Int).toNat (e:Int).toNat) mid e b) (by first | rfl | exact (dO (by omega) (by omega) (by omega)).symm) (by first | rfl | exact (ej (by omega) (by omega) (by omega)).symm) (by first | rfl | exact (ej (by omega) (by omega) (by omega)).symm)) ▸ r0.1,ab.extIn⟩
   try simp only [bl,ah,aV] at hc24
   refine wp_skip ?_;refine oC (fn:=Tryz.f154) rfl ab.defers ?_;exact ⟨rfl,(iw gH hS1 hS2 hA hB hC hD h3 hC1 hC2 hR (ys:=gk xs (s:Int).toNat (m:Int).toNat (e:Int).toNat) (zs:=gk xs (s:Int).toNat (m:Int).toNat (e:Int).toNat) (us:=gk xs (s:Int).toNat (m:Int).toNat (e:Int).toNat) (by first | rfl | exact (dO (by omega) (by omega) (by omega)).symm) (by first | rfl | exact (ej (by omega) (by omega) (by omega)).symm) (by first | rfl | exact (ej (by omega) (by omega) (by omega)).symm)) ▸ r0.1,ab.extIn⟩
 try simp only [bl,ah,aV] at hc21
 refine wp_skip ?_;refine wp_seq ?_;refine wp_seq (xC [0,0,3,7,15,15,63,127] ab [jo r0] ⟨ao e1,ao e20,aq fun c=>cW rfl (c.q 0) (c.q 1),bD 2,aL 3 rfl fun c hpc=>aS rfl (c.p e20),aL 3 rfl fun c hpc=>aS rfl (c.p e18),aL 3 rfl fun c hpc=>cW rfl (c.M 4 hpc) (c.M 5 hpc),bZ 3 6,av⟩ fun ac ag ae ab aa=> ?_);obtain ⟨e0,e1,e3,e4,e18,e20,e24⟩:=aa.k7 e0 e1 e3 e4 e18 e20 e24;have e199:=aa.V 7;replace r0:=aa.O 0;refine wp_cond_split e199 (fun hc25=> ?_) (fun hc25=> ?_)
 · try simp only [au,ai] at hc25
   refine rg [_,_,_,_,_,own _ _ _ 0 0 _] [0,0,0,0,0,31] ab [jo r0] ⟨ao e0,ao e1,ao e20,ao e18,ao e4,fM rfl rfl rfl (by decide) (fun _ a_ _ _ c=>⟨_,_,(eC rfl rfl gy (c.n 0 rfl) (c.n 1 rfl) (c.n 2 rfl) (c.n 3 rfl) (c.n 4 rfl)),c.p e0,c.io 0 rfl,fun ho_=>ih v xs a s mid _ ho_ (by omega) (by omega) (by (try rw [jd (by omega) (by omega) (by (try rw [dJ (by omega) (by omega) (by omega)]);omega)]);(try rw [dJ (by omega) (by omega) (by omega)]);omega) (by (try rw [jd (by omega) (by omega) (by (try rw [dJ (by omega) (by omega) (by omega)]);omega)]);(try rw [dJ (by omega) (by omega) (by omega)]);omega) (by omega) (mZ hS1 hS2 hA hB hC hD h3 hR (ys:=xs) (by first | rfl | exact (dO (by omega) (by omega) (by omega)).symm)).1 (mZ hS1 hS2 hA hB hC hD h3 hR (ys:=xs) (by first | rfl | exact (dO (by omega) (by omega) (by omega)).symm)).2⟩),av⟩ fun ac ag ae ab aa=> ?_;obtain ⟨e0,e3,e4,e18,e24⟩:=aa.k5 e0 e3 e4 e18 e24;replace r0:=aa.ro 5 e0 rfl;refine wp_seq (xC [0,0,3,7,15,15,63,127] ab [jo r0] ⟨ao e18,ao e24,aq fun c=>cW rfl (c.q 0) (c.q 1),bD 2,aL 3 rfl fun c hpc=>aS rfl (c.p e24),aL 3 rfl fun c hpc=>aS rfl (c.p e3),aL 3 rfl fun c hpc=>cW rfl (c.M 4 hpc) (c.M 5 hpc),bZ 3 6,av⟩ fun ac ag ae ab aa=> ?_);obtain ⟨e0,e3,e4,e18,e24⟩:=aa.k5 e0 e3 e4 e18 e24;have e213:=aa.V 7;replace r0:=aa.O 0;refine wp_cond_split e213 (fun hc26=> ?_) (fun hc26=> ?_)
   · try simp only [au,ai] at hc26
     refine rg [_,_,_,_,_,own _ _ _ 0 0 _] [0,0,0,0,0,31] ab [jo r0] ⟨ao e0,ao e18,ao e24,ao e3,ao e4,fM rfl rfl rfl (by decide) (fun _ a_ _ _ c=>⟨_,_,(eC rfl rfl gy (c.n 0 rfl) (c.n 1 rfl) (c.n 2 rfl) (c.n 3 rfl) (c.n 4 rfl)),c.p e0,c.io 0 rfl,fun ho_=>ih v (mF gP xs a s mid) mid e b _ ho_ (by omega) (by omega) (by (try rw [jd (by omega) (by omega) (by (try rw [dJ (by omega) (by omega) (by omega)]);omega)]);(try rw [dJ (by omega) (by omega) (by omega)]);omega) (by (try rw [jd (by omega) (by omega) (by (try rw [dJ (by omega) (by omega) (by omega)]);omega)]);(try rw [dJ (by omega) (by omega) (by omega)]);omega) (by omega) (jg hS1 hS2 hA hB hC hD h3 hR (ys:=xs) (zs:=mF gP xs a s mid) (by first | rfl | exact (dO (by omega) (by omega) (by omega)).symm) (by first | rfl | exact (ej (by omega) (by omega) (by omega)).symm)).1 (jg hS1 hS2 hA hB hC hD h3 hR (ys:=xs) (zs:=mF gP xs a s mid) (by first | rfl | exact (dO (by omega) (by omega) (by omega)).symm) (by first | rfl | exact (ej (by omega) (by omega) (by omega)).symm)).2⟩),av⟩ fun ac ag ae ab aa=> ?_;replace e0:=aa.k1 e0;replace r0:=aa.ro 5 e0 rfl;refine oC (fn:=Tryz.f154) rfl ab.defers ?_;exact ⟨rfl,(iw gH hS1 hS2 hA hB hC hD h3 hC1 hC2 hR (ys:=xs) (zs:=mF gP xs a s mid) (us:=mF gP (mF gP xs a s mid) mid e b) (by first | rfl | exact (dO (by omega) (by omega) (by omega)).symm) (by first | rfl | exact (ej (by omega) (by omega) (by omega)).symm) (by first | rfl | exact (ej (by omega) (by omega) (by omega)).symm)) ▸ r0.1,ab.extIn⟩
   try simp only [bl,ah,aV] at hc26
   refine wp_skip ?_;refine oC (fn:=Tryz.f154) rfl ab.defers ?_;exact ⟨rfl,(iw gH hS1 hS2 hA hB hC hD h3 hC1 hC2 hR (ys:=xs) (zs:=mF gP xs a s mid) (us:=mF gP xs a s mid) (by first | rfl | exact (dO (by omega) (by omega) (by omega)).symm) (by first | rfl | exact (ej (by omega) (by omega) (by omega)).symm) (by first | rfl | exact (ej (by omega) (by omega) (by omega)).symm)) ▸ r0.1,ab.extIn⟩
 try simp only [bl,ah,aV] at hc25
 refine wp_skip ?_;refine wp_seq (xC [0,0,3,7,15,15,63,127] ab [jo r0] ⟨ao e18,ao e24,aq fun c=>cW rfl (c.q 0) (c.q 1),bD 2,aL 3 rfl fun c hpc=>aS rfl (c.p e24),aL 3 rfl fun c hpc=>aS rfl (c.p e3),aL 3 rfl fun c hpc=>cW rfl (c.M 4 hpc) (c.M 5 hpc),bZ 3 6,av⟩ fun ac ag ae ab aa=> ?_);obtain ⟨e0,e3,e4,e18,e24⟩:=aa.k5 e0 e3 e4 e18 e24;have e213:=aa.V 7;replace r0:=aa.O 0;refine wp_cond_split e213 (fun hc27=> ?_) (fun hc27=> ?_)
 · try simp only [au,ai] at hc27
   refine rg [_,_,_,_,_,own _ _ _ 0 0 _] [0,0,0,0,0,31] ab [jo r0] ⟨ao e0,ao e18,ao e24,ao e3,ao e4,fM rfl rfl rfl (by decide) (fun _ a_ _ _ c=>⟨_,_,(eC rfl rfl gy (c.n 0 rfl) (c.n 1 rfl) (c.n 2 rfl) (c.n 3 rfl) (c.n 4 rfl)),c.p e0,c.io 0 rfl,fun ho_=>ih v xs mid e b _ ho_ (by omega) (by omega) (by (try rw [jd (by omega) (by omega) (by (try rw [dJ (by omega) (by omega) (by omega)]);omega)]);(try rw [dJ (by omega) (by omega) (by omega)]);omega) (by (try rw [jd (by omega) (by omega) (by (try rw [dJ (by omega) (by omega) (by omega)]);omega)]);(try rw [dJ (by omega) (by omega) (by omega)]);omega) (by omega) (jg hS1 hS2 hA hB hC hD h3 hR (ys:=xs) (zs:=xs) (by first | rfl | exact (dO (by omega) (by omega) (by omega)).symm) (by first | rfl | exact (ej (by omega) (by omega) (by omega)).symm)).1 (jg hS1 hS2 hA hB hC hD h3 hR (ys:=xs) (zs:=xs) (by first | rfl | exact (dO (by omega) (by omega) (by omega)).symm) (by first | rfl | exact (ej (by omega) (by omega) (by omega)).symm)).2⟩),av⟩ fun ac ag ae ab aa=> ?_;replace e0:=aa.k1 e0;replace r0:=aa.ro 5 e0 rfl;refine oC (fn:=Tryz.f154) rfl ab.defers ?_;exact ⟨rfl,(iw gH hS1 hS2 hA hB hC hD h3 hC1 hC2 hR (ys:=xs) (zs:=xs) (us:=mF gP xs mid e b) (by first | rfl | exact (dO (by omega) (by omega) (by omega)).symm) (by first | rfl | exact (ej (by omega) (by omega) (by omega)).symm) (by first | rfl | exact (ej (by omega) (by omega) (by omega)).symm)) ▸ r0.1,ab.extIn⟩
 try simp only [bl,ah,aV] at hc27
 refine wp_skip ?_;refine oC (fn:=Tryz.f154) rfl ab.defers ?_;exact ⟨rfl,(iw gH hS1 hS2 hA hB hC hD h3 hC1 hC2 hR (ys:=xs) (zs:=xs) (us:=xs) (by first | rfl | exact (dO (by omega) (by omega) (by omega)).symm) (by first | rfl | exact (ej (by omega) (by omega) (by omega)).symm) (by first | rfl | exact (ej (by omega) (by omega) (by omega)).symm)) ▸ r0.1,ab.extIn⟩
theorem sC:∀d,CK d
  | 0 => fun v xs a m b w ho h1 h2 h3 hbig hd hS1 hS2 => absurd hd (by omega)
  | d + 1 => fun v xs a m b w ho h1 h2 h3 hbig hd hS1 hS2 => Ac (sC d) v xs a m b w ho h1 h2 h3 hbig hd hS1 hS2
end
section
open Go.RowKit
open Srt
set_option maxRecDepth 100000 in
theorem Ad (v:Value) (xs:List (ByteArray × ByteArray)) (w:World) (ho:iD fx 89 w v xs) (hbig:xs.length≤1000000000000):Calls Tryz.prog 151 #[v,(aj (xs.length:Int)),(.func (.func 148) #[] #[])] w (fun e w'=>e= .returned (.tuple #[])∧iD fx 89 w' v (fi gP xs)∧Ext (fun k=>v.ownBlock=some k) w w'):=by
 refine fj (fun g=>v.ownBlock=some g) (fun g hg=>ho.lt g hg) (n:=63) Tryz.func151 rfl rfl (aw rfl) ?_;intro a0 τ0 ha hτ st0;obtain ⟨e0,e1,e2⟩:=Ll ha;have r0:ep fx 89 xs (τ0 0) v w:=⟨ho,fun g hg=>by rw [hτ];exact hg⟩;have hle:=r0.le;refine wp_seq (eK st0 [jo r0] ⟨aq fun c=>ax rfl rfl,av⟩ fun ac ag ae ab aa=> ?_);obtain ⟨e0,e1,e2⟩:=aa.k3 e0 e1 e2;have e6:=aa.V 0;replace r0:=aa.O 0;refine wp_seq (sf [0,0,3] ab [jo r0] ⟨ao e6,aq fun c=>ax rfl rfl,aK 0,av⟩ fun ac ag ae ab aa=> ?_);obtain ⟨e0,e1,e2,e6⟩:=aa.k4 e0 e1 e2 e6;have e7:=aa.V 1;have e8:=aa.V 2;replace r0:=aa.O 0;refine wp_seq ?_;refine wp_block ?_;refine wp_loop (fun a_ w_=>∃(a b:Nat) (ys:List (ByteArray × ByteArray)) (τ:Nat→bj),(a≤xs.length)∧
      (b=a+20)∧
      (ys.length=xs.length)∧
      (ys.take a++ic gP 20 (xs.drop a)=ic gP 20 xs)∧
      (ys.drop a=xs.drop a)∧
      St (fun k=>v.ownBlock=some k∨w.heap.size≤k) w 63 a_ w_ τ∧
      be a_ 7=(aj (a:Int))∧
      be a_ 8=(aj (b:Int))∧
      be a_ 0=v∧
      be a_ 1=(aj (xs.length:Int))∧
      be a_ 2=(.func (.func 148) #[] #[])∧
      be a_ 6=(aj 20)∧
      ep fx 89 ys (τ 0) v w_) (fun a_ _=>xs.length+20 - (intOf (be a_ 8)).toNat) ?_ ?_
 · refine ⟨0,20,xs,ae,?_,?_,?_,?_,?_,ab,(e7.trans (bB (by omega))),(e8.trans (bB (by omega))),e0,e1,e2,e6,?_⟩
   · omega
   · omega
   · rfl
   · simp
   · rfl
   · exact r0.cast (by rfl)
 intro a3 w3 hI;obtain ⟨a,b,ys,τ3,q0,q1,q2,q3,q4,st3,e7,e8,e0,e1,e2,e6,r0⟩:=hI;have m8:=e8;refine wp_seq ?_;refine wp_seq (sf [0,0,3] st3 [jo r0] ⟨ao e8,ao e1,aq fun c=>mX rfl (c.q 0) (c.q 1),av⟩ fun ac ag ae ab aa=> ?_);obtain ⟨e0,e1,e2,e6,e7,e8⟩:=aa.k6 e0 e1 e2 e6 e7 e8;have e13:=aa.V 2;replace r0:=aa.O 0;refine wp_cond_split e13 (fun hc1=> ?_) (fun hc1=> ?_)
 · try simp only [ai] at hc1
   refine wp_skip ?_;refine wp_block ?_;refine wp_seq (rg [_,_,_,_,own _ _ _ 0 0 _] [0,0,0,0,15] ab [jo r0] ⟨ao e0,ao e7,ao e8,ao e2,fM rfl rfl rfl (by decide) (fun _ a_ _ _ c=>⟨_,_,(iM rfl rfl Tryz.call153 (c.n 0 rfl) (c.n 1 rfl) (c.n 2 rfl) (c.n 3 rfl)),c.p e0,c.io 0 rfl,fun ho_=>Aa v ys a b _ ho_ (by omega) (by omega) (by omega)⟩),av⟩ fun ac ag ae ab aa=> ?_);obtain ⟨e0,e1,e2,e6,e7,e8,e13⟩:=aa.k7 e0 e1 e2 e6 e7 e8 e13;replace r0:=aa.ro 4 e0 rfl;refine wp_seq (eA ab [jo r0] ⟨ao e8,aK 0,av⟩ fun ac ag ae ab aa=> ?_);obtain ⟨e0,e1,e2,e6,e8,e13⟩:=aa.k6 e0 e1 e2 e6 e8 e13;have e7:=aa.V 1;replace r0:=aa.O 0;refine lr [0,0,3,7] ab [jo r0] ⟨ao e8,ao e6,aq fun c=>cN rfl (c.q 0) (c.q 1) (by omega),aK 2,av⟩ fun ac ag ae ab aa=> ?_;obtain ⟨e0,e1,e2,e6,e7,e13⟩:=aa.k6 e0 e1 e2 e6 e7 e13;have e8:=aa.V 3;replace r0:=aa.O 0;show _;refine ⟨⟨b,b+20,sU gP ys a b,ae,?_,?_,?_,?_,?_,ab,(e7.trans (bB (by omega))),(e8.trans (bB (by omega))),e0,e1,e2,e6,?_⟩,?_⟩
   · omega
   · omega
   · rw [Fk (by omega) (by omega)];exact q2
   · subst q1;exact (zL (by omega) q3 q4 (by omega)).1
   · subst q1;exact (zL (by omega) q3 q4 (by omega)).2
   · exact r0.cast (by rfl)
   · simp only [m8,e8,intOf];omega
 try simp only [ah,dD] at hc1
 refine wp_exit ?_;repeat (with_reducible refine cy ?_)
 refine cC ?_;refine wp_seq (rg [_,_,_,_,own _ _ _ 0 0 _] [0,0,0,0,15] ab [jo r0] ⟨ao e0,ao e7,ao e1,ao e2,fM rfl rfl rfl (by decide) (fun _ a_ _ _ c=>⟨_,_,(iM rfl rfl Tryz.call153 (c.n 0 rfl) (c.n 1 rfl) (c.n 2 rfl) (c.n 3 rfl)),c.p e0,c.io 0 rfl,fun ho_=>Aa v ys a xs.length _ ho_ (by omega) (by omega) (by omega)⟩),av⟩ fun ac ag ae ab aa=> ?_);obtain ⟨e0,e1,e2,e6,e7,e8⟩:=aa.k6 e0 e1 e2 e6 e7 e8;replace r0:=aa.ro 4 e0 rfl;refine wp_block ?_;refine wp_loop (fun a_ w_=>∃(bs:Nat) (zs:List (ByteArray × ByteArray)) (τ:Nat→bj),(1≤bs)∧
      (zs=ic gP bs xs)∧
      St (fun k=>v.ownBlock=some k∨w.heap.size≤k) w 63 a_ w_ τ∧
      be a_ 6=(aj (bs:Int))∧
      be a_ 0=v∧
      be a_ 1=(aj (xs.length:Int))∧
      be a_ 2=(.func (.func 148) #[] #[])∧
      ep fx 89 zs (τ 0) v w_) (fun a_ _=>xs.length - (intOf (be a_ 6)).toNat) ?_ ?_
 · refine ⟨20,sU gP ys a xs.length,ae,?_,?_,ab,(e6.trans (bB (by omega))),e0,e1,e2,?_⟩
   · omega
   · have h_:=Hu q3 q4 (by omega) (by omega);rw [q2] at h_;exact h_
   · exact r0.cast (by rfl)
 intro a9 w9 hI;obtain ⟨bs,zs,τ9,q0,q1,st9,e6,e0,e1,e2,r0⟩:=hI;have p1:=q1;have hzl:zs.length=xs.length:=by rw [q1];exact uj _ _ (bz _)
 have m6:=e6;refine wp_seq ?_;refine wp_seq (sf [0,0,3] st9 [jo r0] ⟨ao e6,ao e1,aq fun c=>cW rfl (c.q 0) (c.q 1),av⟩ fun ac ag ae ab aa=> ?_);obtain ⟨e0,e1,e2,e6⟩:=aa.k4 e0 e1 e2 e6;have e30:=aa.V 2;replace r0:=aa.O 0;refine wp_cond_split e30 (fun hc2=> ?_) (fun hc2=> ?_)
 · try simp only [ai] at hc2
   refine wp_skip ?_;refine wp_block ?_;refine wp_seq (lr [0,1,0,7] ab [jo r0] ⟨ao e6,aq fun c=>zx rfl rfl (c.q 0) (by omega),aq fun c=>ax rfl rfl,aK 1,av⟩ fun ac ag ae ab aa=> ?_);obtain ⟨e0,e1,e2,e6,e30⟩:=aa.k5 e0 e1 e2 e6 e30;have e7:=aa.V 2;have e8:=aa.V 3;replace r0:=aa.O 0;refine wp_seq ?_;refine wp_block ?_;refine wp_loop (fun a_ w_=>∃(u d:Nat) (us:List (ByteArray × ByteArray)) (τ:Nat→bj),(u≤xs.length)∧
          (d=u+2 * bs)∧
          (us.length=xs.length)∧
          (us.take u++ic gP (2 * bs) (xs.drop u)=ic gP (2 * bs) xs)∧
          (us.drop u=ic gP bs (xs.drop u))∧
          St (fun k=>v.ownBlock=some k∨w.heap.size≤k) w 63 a_ w_ τ∧
          be a_ 7=(aj (u:Int))∧
          be a_ 8=(aj (d:Int))∧
          be a_ 0=v∧
          be a_ 1=(aj (xs.length:Int))∧
          be a_ 2=(.func (.func 148) #[] #[])∧
          be a_ 6=(aj (bs:Int))∧
          be a_ 30=(aE (decide ((bs:Int) < (xs.length:Int))))∧
          ep fx 89 us (τ 0) v w_) (fun a_ _=>xs.length+2 * bs - (intOf (be a_ 8)).toNat) ?_ ?_
   · refine ⟨0,2 * bs,zs,ae,?_,?_,?_,?_,?_,ab,(e7.trans (bB (by omega))),(e8.trans (bB (by omega))),e0,e1,e2,e6,e30,?_⟩
     · omega
     · omega
     · exact hzl
     · simp
     · simpa using p1
     · exact r0.cast (by rfl)
   intro a12 w12 hI;obtain ⟨u,d,us,τ12,q0,q1,q2,q3,q4,st12,e7,e8,e0,e1,e2,e6,e30,r0⟩:=hI;have m8:=e8;refine wp_seq ?_;refine wp_seq (sf [0,0,3] st12 [jo r0] ⟨ao e8,ao e1,aq fun c=>mX rfl (c.q 0) (c.q 1),av⟩ fun ac ag ae ab aa=> ?_);obtain ⟨e0,e1,e2,e6,e7,e8,e30⟩:=aa.k7 e0 e1 e2 e6 e7 e8 e30;have e35:=aa.V 2;replace r0:=aa.O 0;refine wp_cond_split e35 (fun hc3=> ?_) (fun hc3=> ?_)
   · try simp only [ai] at hc3
     refine wp_skip ?_;refine wp_block ?_;refine wp_seq (rg [_,_,_,_,_,_,_,own _ _ _ 0 0 _] [0,0,0,0,12,0,0,127] ab [jo r0] ⟨ao e0,ao e7,ao e7,ao e6,aq fun c=>cN rfl (c.q 2) (c.q 3) (by omega),ao e8,ao e2,fM rfl rfl rfl (by decide) (fun _ a_ _ _ c=>⟨_,_,(eC rfl rfl gy (c.n 0 rfl) (c.n 1 rfl) (c.n 4 rfl) (c.n 5 rfl) (c.n 6 rfl)),c.p e0,c.io 0 rfl,fun ho_=>sC _ v us u (u+bs) d _ ho_ (by omega) (by omega) (by omega) (by omega) (bz _) (mI gH (bs:=bs) (xs0:=xs) (by omega) (by omega) q4 (b:=d) (by omega) (by omega) (by omega) (by omega)).1 (mI gH (bs:=bs) (xs0:=xs) (by omega) (by omega) q4 (b:=d) (by omega) (by omega) (by omega) (by omega)).2.1⟩),av⟩ fun ac ag ae ab aa=> ?_);obtain ⟨e0,e1,e2,e6,e7,e8,e30,e35⟩:=aa.k8 e0 e1 e2 e6 e7 e8 e30 e35;replace r0:=aa.ro 7 e0 rfl;refine wp_seq (eA ab [jo r0] ⟨ao e8,aK 0,av⟩ fun ac ag ae ab aa=> ?_);obtain ⟨e0,e1,e2,e6,e8,e30,e35⟩:=aa.k7 e0 e1 e2 e6 e8 e30 e35;have e7:=aa.V 1;replace r0:=aa.O 0;refine vO [0,0,2,7,15] ab [jo r0] ⟨ao e8,ao e6,aq fun c=>zx rfl rfl (c.q 1) (by omega),aq fun c=>cN rfl (c.q 0) (c.q 2) (by omega),aK 3,av⟩ fun ac ag ae ab aa=> ?_;obtain ⟨e0,e1,e2,e6,e7,e30,e35⟩:=aa.k7 e0 e1 e2 e6 e7 e30 e35;have e8:=aa.V 4;replace r0:=aa.O 0;show _;refine ⟨⟨d,d+2 * bs,mF gP us u (u+bs) d,ae,?_,?_,?_,?_,?_,ab,(e7.trans (bB (by omega))),(e8.trans (bB (by omega))),e0,e1,e2,e6,e30,?_⟩,?_⟩
     · omega
     · omega
     · rw [jd (by omega) (by omega) (by omega)];exact q2
     · subst q1;exact (zN gH (by omega) q2 q3 q4 (by omega)).1
     · subst q1;exact (zN gH (by omega) q2 q3 q4 (by omega)).2
     · exact r0.cast (by rfl)
     · simp only [m8,e8,intOf];omega
   try simp only [ah,dD] at hc3
   refine wp_exit ?_;repeat (with_reducible refine cy ?_)
   refine cC ?_;refine wp_seq ?_;refine wp_seq (lr [0,0,3,7] ab [jo r0] ⟨ao e7,ao e6,aq fun c=>cN rfl (c.q 0) (c.q 1) (by omega),aK 2,av⟩ fun ac ag ae ab aa=> ?_);obtain ⟨e0,e1,e2,e6,e7,e8,e30,e35⟩:=aa.k8 e0 e1 e2 e6 e7 e8 e30 e35;have e9:=aa.V 3;replace r0:=aa.O 0;refine wp_seq (sf [0,0,3] ab [jo r0] ⟨ao e9,ao e1,aq fun c=>cW rfl (c.q 0) (c.q 1),av⟩ fun ac ag ae ab aa=> ?_);obtain ⟨e0,e1,e2,e6,e7,e8,e9,e30,e35⟩:=aa.k9 e0 e1 e2 e6 e7 e8 e9 e30 e35;have e54:=aa.V 2;replace r0:=aa.O 0;refine wp_cond_split e54 (fun hc4=> ?_) (fun hc4=> ?_)
   · try simp only [ai] at hc4
     refine rg [_,_,_,_,_,own _ _ _ 0 0 _] [0,0,0,0,0,31] ab [jo r0] ⟨ao e0,ao e7,ao e9,ao e1,ao e2,fM rfl rfl rfl (by decide) (fun _ a_ _ _ c=>⟨_,_,(eC rfl rfl gy (c.n 0 rfl) (c.n 1 rfl) (c.n 2 rfl) (c.n 3 rfl) (c.n 4 rfl)),c.p e0,c.io 0 rfl,fun ho_=>sC _ v us u (u+bs) xs.length _ ho_ (by omega) (by omega) (by omega) (by omega) (bz _) (mI gH (bs:=bs) (xs0:=xs) (by omega) (by omega) q4 (b:=xs.length) (by omega) (by omega) (by omega) (by omega)).1 (mI gH (bs:=bs) (xs0:=xs) (by omega) (by omega) q4 (b:=xs.length) (by omega) (by omega) (by omega) (by omega)).2.1⟩),av⟩ fun ac ag ae ab aa=> ?_;obtain ⟨e0,e1,e2,e6,e7,e8,e9,e30,e35,e54⟩:=aa.k10 e0 e1 e2 e6 e7 e8 e9 e30 e35 e54;replace r0:=aa.ro 5 e0 rfl;refine fX ab [jo r0] ⟨ao e6,aq fun c=>zx rfl (c.q 0) rfl (by omega),aK 1,av⟩ fun ac ag ae ab aa=> ?_;obtain ⟨e0,e1,e2,e7,e8,e9,e30,e35,e54⟩:=aa.k9 e0 e1 e2 e7 e8 e9 e30 e35 e54;have e6:=aa.V 2;replace r0:=aa.O 0;show _;refine ⟨⟨2 * bs,mF gP us u (u+bs) xs.length,ae,?_,?_,ab,(e6.trans (bB (by omega))),e0,e1,e2,?_⟩,?_⟩
     · omega
     · first | exact zO (by omega) q2 q3 q4 (by omega) | (have h_:=CE gH (by omega) q2 q3 q4 (by omega) (by omega);rw [q2] at h_;exact h_)
     · exact r0.cast (by rfl)
     · simp only [m6,e6,intOf];omega
   try simp only [ah,aV] at hc4
   refine wp_skip ?_;refine fX ab [jo r0] ⟨ao e6,aq fun c=>zx rfl (c.q 0) rfl (by omega),aK 1,av⟩ fun ac ag ae ab aa=> ?_;obtain ⟨e0,e1,e2,e7,e8,e9,e30,e35,e54⟩:=aa.k9 e0 e1 e2 e7 e8 e9 e30 e35 e54;have e6:=aa.V 2;replace r0:=aa.O 0;show _;refine ⟨⟨2 * bs,us,ae,?_,?_,ab,(e6.trans (bB (by omega))),e0,e1,e2,?_⟩,?_⟩
   · omega
   · first | exact zO (by omega) q2 q3 q4 (by omega) | (have h_:=CE gH (by omega) q2 q3 q4 (by omega) (by omega);rw [q2] at h_;exact h_)
   · exact r0.cast (by rfl)
   · simp only [m6,e6,intOf];omega
 try simp only [ah,aV] at hc2
 refine wp_exit ?_;repeat (with_reducible refine cy ?_)
 refine cC ?_;refine oC (fn:=Tryz.f151) rfl ab.defers ?_;rw [q1,jP (by omega)] at r0;exact ⟨rfl,r0.1,ab.extIn⟩
set_option maxRecDepth 100000 in
theorem DS (v:Value) (xs:List (ByteArray × ByteArray)) (w:World) (ho:iD fx 89 w v xs) (hbig:xs.length≤1000000000000):Calls Tryz.prog 147 #[v,(.func (.func 148) #[] #[])] w (fun e w'=>e= .returned (.tuple #[])∧iD fx 89 w' v (fi gP xs)∧Ext (fun k=>v.ownBlock=some k) w w'):=by
 refine fj (fun g=>v.ownBlock=some g) (fun g hg=>ho.lt g hg) (n:=9) Tryz.func147 rfl rfl (aw rfl) ?_;intro a0 τ0 ha hτ st0;obtain ⟨e0,e1⟩:=qG ha;have r0:ep fx 89 xs (τ0 0) v w:=⟨ho,fun g hg=>by rw [hτ];exact hg⟩;have hle:=r0.le;refine rg [_,_,_,_,own _ _ _ 0 0 _] [0,0,2,0,15] st0 [jo r0] ⟨ao e0,ao e0,aq fun c=>dk rfl br (c.q 1) r0.isSl,ao e1,fM rfl rfl rfl (by decide) (fun _ a_ _ _ c=>⟨_,_,(lI rfl rfl Tryz.call151 (c.n 0 rfl) (c.n 2 rfl) (c.n 3 rfl)),c.p e0,c.io 0 rfl,fun ho_=>Ad v xs _ ho_ (by omega)⟩),av⟩ fun ac ag ae ab aa=> ?_;replace e0:=aa.k1 e0;replace r0:=aa.ro 4 e0 rfl;refine oC (fn:=Tryz.f147) rfl ab.defers ?_;exact ⟨rfl,r0.1,ab.extIn⟩
end
section
open Srt
theorem TlS.at {w w':World} {v:Value} {ts:List Tr} (h:TlS w v ts) (he:Ext (Nw w) w w'):TlS w' v ts:=
  ⟨h.sl.keep he fun hn hk=>(by have:=h.sl.lt hn;simp only [Nw] at hk;omega),fun t ht=>(h.all t ht).at he⟩
theorem bN {α:Type} [Inhabited α] {xs:List α} {i:Int} (h0:0≤i) (h1:i < xs.length):nth xs i ∈ xs:=by
  obtain ⟨k,rfl⟩:∃k:Nat,i=(k:Int):=⟨i.toNat,by omega⟩;exact iO (vV (by omega))
def dH (xs:List Int):Int:=xs.foldl (· +·) 0
theorem fQ (xs:List Int) (x:Int):dH (xs++ [x])=dH xs+x:=by simp [dH]
theorem kM {xs:List Int} (h:∀x ∈ xs,0≤x):0≤dH xs:=by
  induction xs using gC with
  | h0 => exact fJ _
  | h1 xs x ih =>
    rw [fQ];have:=ih fun y hy=>h y (by simp [hy]);have:=h x (by simp);omega
theorem cu (xs ys:List Int):dH (xs++ys)=dH xs+dH ys:=by
  induction ys using gC with
  | h0 => simp [dH]
  | h1 ys y ih => rw [← dq, fQ, ih, fQ]; omega
theorem HA {xs:List Int} (h:∀x ∈ xs,0≤x) (k:Nat):0≤dH (xs.take k)∧dH (xs.take k)≤dH xs:=by
  have h1:0≤dH (xs.take k):=kM fun x hx=>h x (iR hx);have h2:0≤dH (xs.drop k):=kM fun x hx=>h x (gl hx);have h3:=cu (xs.take k) (xs.drop k);rw [dP] at h3;omega
theorem wk {xs:List Int} (h:∀x ∈ xs,0≤x) {x:Int} (hx:x ∈ xs):x≤dH xs:=by
  obtain ⟨A,B,rfl⟩:=List.append_of_mem hx;rw [show A++x::B=(A++ [x])++B by simp,cu,fQ];have h1:0≤dH A:=kM fun y hy=>h y (by simp [hy]);have h2:0≤dH B:=kM fun y hy=>h y (by simp [hy]);omega
section
variable {β:Type}
mutual
def oi (g:Tr→List β→β):Tr→β
  | ⟨k, ch, ng, rv, rows, mn, mx, lz, kv, kids⟩ => g ⟨k, ch, ng, rv, rows, mn, mx, lz, kv, kids⟩ (CL g kids)
def CL (g:Tr→List β→β):List Tr→List β
  | [] => []
  | t :: ts => oi g t :: CL g ts
end
theorem DT (g:Tr→List β→β) (ts:List Tr):CL g ts=ts.map (oi g):=by
  induction ts with
  | nil => rfl
  | cons t ts ih => rw [CL, ih]; rfl
theorem kN (g:Tr→List β→β) (t:Tr):oi g t=g t (t.kids.map (oi g)):=by cases t;simp [oi,DT]
theorem qV {g:Tr→List β→β} (hg:∀t l,g (er t) l=g t l) (t:Tr):oi g (er t)=oi g t:=by
  induction t using Tr.ind with
  | h t ih =>
    rw [kN,kN g t,oP,ny,hg];congr 1;exact kb ih
end
def di:Tr→Int:=oi fun _ l=>1+dH l
theorem iG (t:Tr):di t=1+dH (t.kids.map di):=kN _ t
def qE (t:Tr):Bool:=decide (t.k=5) || decide (t.k=6)
def cL:Tr→Int:=oi fun t l=>(if t.k=5 then 1 else 0)+dH l
theorem mJ (t:Tr):cL t=(if t.k=5 then 1 else 0)+dH (t.kids.map cL):=kN _ t
def nq (xs:List Int):Int:=xs.foldl max 0
theorem rG (xs:List Int) (x:Int):nq (xs++ [x])=max (nq xs) x:=by simp [nq]
def eX:Tr→Int:=oi fun t l=>nq l+if qE t=true then 1 else 0
theorem mq (t:Tr):eX t=nq (t.kids.map eX)+if qE t=true then 1 else 0:=kN _ t
theorem kE (t:Tr):1≤di t:=by
  induction t using Tr.ind with
  | h t ih =>
    rw [iG];have:0≤dH (t.kids.map di):=kM fun x hx=>by
      obtain ⟨k,hk,rfl⟩:=List.mem_map.1 hx;have:=ih k hk;omega
    omega
theorem BA (t:Tr):(er t).k=t.k:=by cases t;rfl
theorem DU (t:Tr):di (er t)=di t:=qV (fun _ _=>rfl) t
theorem mK (t:Tr):cL (er t)=cL t:=qV (fun t l=>by simp only [BA]) t
theorem qW (xs:List Int):0≤nq xs:=by
  induction xs using gC with
  | h0 => exact fJ _
  | h1 xs x ih => rw [rG]; omega
theorem vm {xs:List Int} {n:Int} (h0:0≤n) (h:∀x ∈ xs,x≤n):nq xs≤n:=by
  induction xs using gC with
  | h0 => exact h0
  | h1 xs x ih =>
    rw [rG];have:=ih fun y hy=>h y (by simp [hy]);have:=h x (by simp);omega
theorem qX {xs:List Int} {x:Int} (h:x ∈ xs):x≤nq xs:=by
  induction xs using gC with
  | h0 => cases h
  | h1 xs y ih =>
    rw [rG];rcases List.mem_append.1 h with h | h
    · have:=ih h;omega
    · simp at h;subst h;omega
theorem iN (t:Tr):0≤cL t∧cL t≤di t:=by
  induction t using Tr.ind with
  | h t ih =>
    rw [mJ,iG];have h1:∀ks:List Tr,(∀k ∈ ks,0≤cL k∧cL k≤di k)→0≤dH (ks.map cL)∧dH (ks.map cL)≤dH (ks.map di):=by
      intro ks;induction ks using gC with
      | h0 => intro _; exact ⟨fJ _, fJ _⟩
      | h1 ks x ih2 =>
        intro h;rw [aP,aP,aB,aH,aB,aH,fQ,fQ];have:=ih2 fun k hk=>h k (by simp [hk]);have:=h x (by simp);omega
    have:=h1 t.kids ih;split <;> omega
theorem qY (t:Tr):0≤eX t∧eX t≤di t:=by
  induction t using Tr.ind with
  | h t ih =>
    rw [mq,iG];have hp:∀k ∈ t.kids,0≤di k:=fun k _=>by have:=kE k;omega
    have h0:=qW (t.kids.map eX);have h1:nq (t.kids.map eX)≤dH (t.kids.map di):=vm (kM fun x hx=>by obtain ⟨k,hk,rfl⟩:=List.mem_map.1 hx;exact hp k hk) fun x hx=>by
      obtain ⟨k,hk,rfl⟩:=List.mem_map.1 hx;have:=(ih k hk).2;have:di k≤dH (t.kids.map di):=wk (fun x hx=>by obtain ⟨k,hk,rfl⟩:=List.mem_map.1 hx;exact hp k hk) (List.mem_map.2 ⟨k,hk,rfl⟩);omega
    split <;> omega
def IX {α:Type} (f:α→Bool) (xs:List α):Int:=if xs.any f=true then ((xs.takeWhile fun y=> !f y).length:Int) else -1
theorem yw {α:Type} [Inhabited α] {f:α→Bool} {xs:List α} {k:Nat} (h:k < xs.length) (hq:∀y ∈ xs.take k,f y=false) (hc:f (nth xs (k:Int))=true):IX f xs=(k:Int):=by
  unfold IX;rw [if_pos (List.any_eq_true.2 ⟨_,bN (by omega) (by omega),hc⟩)];have e:xs=xs.take k++nth xs (k:Int)::xs.drop (k+1):=by rw [←iv h,dP]
  have e2:xs.takeWhile (fun y=> !f y)=xs.take k:=by
    conv=>lhs;rw [e]
    rw [List.takeWhile_append_of_pos (fun y hy=>by rw [hq y hy];rfl),jf,if_neg (by rw [hc];decide),eG]
  rw [e2,ed];omega
theorem vn {α:Type} [Inhabited α] {f:α→Bool} {xs:List α} {k:Nat} (h:xs.length≤k) (hq:∀y ∈ xs.take k,f y=false):IX f xs= -1:=by
  rw [bw h] at hq;unfold IX;rw [if_neg];rw [List.any_eq_true]
  rintro ⟨y,hy,hf⟩
  rw [hq y hy] at hf;cases hf
theorem CM {α:Type} [Inhabited α] {f:α→Bool} {xs:List α} {k:Nat} (h:k < xs.length) (hq:∀y ∈ xs.take k,f y=false) (hc:f (nth xs (k:Int))=false):∀y ∈ xs.take (k+1),f y=false:=by
  rw [eH h];intro y hy;rcases List.mem_append.1 hy with hy | hy
  · exact hq y hy
  · simp at hy;rw [hy];exact hc
theorem Fv {α:Type} (f:α→Bool) (xs:List α):decide (0≤IX f xs)=xs.any f:=by
  unfold IX;cases xs.any f <;> simp
theorem pE {f:Tr→Int} {ts:List Tr} {k:Nat} (h:k < ts.length):dH ((ts.take (k+1)).map f)=dH ((ts.take k).map f)+f (nth ts (k:Int)):=by
  rw [eH h,aP,aB,aH,fQ]
theorem pd {f:Tr→Int} {ts:List Tr} (hf:∀t ∈ ts,0≤f t) (k:Nat):0≤dH ((ts.take k).map f)∧dH ((ts.take k).map f)≤dH (ts.map f):=by
  rw [List.map_take];exact HA (fun x hx=>by obtain ⟨t,ht,rfl⟩:=List.mem_map.1 hx;exact hf t ht) k
theorem mR {f:Tr→Int} {ts:List Tr} (hf:∀t ∈ ts,0≤f t) {t:Tr} (ht:t ∈ ts):f t≤dH (ts.map f):=
  wk (fun x hx=>by obtain ⟨t,ht,rfl⟩:=List.mem_map.1 hx;exact hf t ht) (List.mem_map.2 ⟨t,ht,rfl⟩)
end
section
open Go.RowKit
open Srt
set_option maxRecDepth 100000 in
theorem CN (n:Int) (w:World):Calls Tryz.prog 56 #[(aj n)] w (fun e w'=>e= .returned (aE (decide (n=5) || decide (n=6)))∧Ext aW w w'):=by
 refine enter (n:=9) Tryz.func56 rfl rfl (aw rfl) ?_;intro a0 τ0 ha st0;have e0:=oz ha;refine wp_seq (eK st0 [] ⟨aq fun c=>ax rfl rfl,av⟩ fun ac ag ae ab aa=> ?_);replace e0:=aa.k1 e0;have e2:=aa.V 0;refine wp_seq (Lk ab [] ⟨ao e0,aq fun c=>cY rfl (c.q 0) rfl,bD 1,bm 2 rfl fun c hpc=>aS rfl (c.p e0),bm 2 rfl fun c hpc=>cY rfl (c.M 3 hpc) rfl,dm 2 4,aK 5,av⟩ fun ac ag ae ab aa=> ?_);have e2:=aa.V 6;refine wp_ret ?_;refine rp ?_;refine cO (fn:=Tryz.f56) rfl ab.defers e2 ?_;exact ⟨rfl,ab.ext0⟩
end
section
open Go.RowKit
open Srt
def oj (ch:ByteArray) (ng:Bool) (rows:List Rw) (mn mx:Int) (lz:Bool):Bool:=((((gM ch (⟨#[]⟩:ByteArray)&& !ng)&&decide ((rows.length:Int)=0))&&decide (mn=0))&&decide (mx=0))&& !lz
set_option maxRecDepth 100000 in
theorem nr (k:Int) (ch:ByteArray) (ng:Bool) (rv:Value) (rows:List (ByteArray × ByteArray)) (mn mx:Int) (lz:Bool) (kv:Value) (ho:kv.oneCell'=true) (w:World) (hS:SlT fx w rv rows):Calls Tryz.prog 99 #[(.agg #[(aj k),(bc ch),(aE ng),rv,(aj mn),(aj mx),(aE lz),kv])] w (fun e w'=>e= .returned (aE (oj ch ng rows mn mx lz))∧Ext aW w w'):=by
 refine enter (n:=32) Tryz.func99 rfl rfl (aw rfl) ?_;intro a0 τ0 ha st0;have e0:be a0 0=(.agg #[(aj k),(bc ch),(aE ng),rv,(aj mn),(aj mx),(aE lz),kv]):=ha 0 _ rfl;clear ha;refine wp_seq (rg [box _ _ 0 1 [(aj k),(bc ch),(aE ng),rv,(aj mn),(aj mx),(aE lz),kv],_] [0,0] st0 [] ⟨hH (v:=(.agg #[(aj k),(bc ch),(aE ng),rv,(aj mn),(aj mx),(aE lz),kv])) rfl rfl rfl rfl rfl (fun _ _ _ _ c=>(c.p e0)),aq fun c=>ax rfl rfl,av⟩ fun ac ag ae ab aa=> ?_);obtain ⟨b1x1,e1⟩:=gx ac 1;have e2:=aa.V 1;have r0:=aa.rb 0 e1 rfl;refine wp_seq (rg [_,_,_,_,_,_,_,_,_,_,_,_,_,_,_,_,_,_,_,_,_,_,_,_,_,_,_,_,_,_] [0,1,3,7,15,31,63,127,255,511,1023,2047,4095,8191,16383,32767,65535,131071,262143,524287,1048575,2097151,4194303,8388607,16777215,33554431,67108863,134217727,268435455,536870911] ab [jb r0] ⟨cK aJ cf e1 r0.ptr,fE cJ 0 0 1,aq fun c=>eI rfl (c.q 1) rfl,bD 2,aL 3 rfl fun c hpc=>dh rfl aJ cj ((c.p e1).trans r0.ptr),aL 3 rfl fun c hpc=>aI rfl dS (c.M 4 hpc) ((c.B 0).cell (j:=2) rfl),aL 3 rfl fun c hpc=>ew rfl (c.M 5 hpc),bZ 3 6,bD 7,aL 8 rfl fun c hpc=>dh rfl aJ fl ((c.p e1).trans r0.ptr),aL 8 rfl fun c hpc=>aI rfl jk (c.M 9 hpc) ((c.B 0).cell (j:=3) rfl),aL 8 rfl fun c hpc=>dk rfl br (c.M 10 hpc) hS.sl,aL 8 rfl fun c hpc=>cY rfl (c.M 11 hpc) rfl,bZ 8 12,bD 13,aL 14 rfl fun c hpc=>dh rfl aJ aA ((c.p e1).trans r0.ptr),aL 14 rfl fun c hpc=>aI rfl aN (c.M 15 hpc) ((c.B 0).cell (j:=4) rfl),aL 14 rfl fun c hpc=>cY rfl (c.M 16 hpc) rfl,bZ 14 17,bD 18,aL 19 rfl fun c hpc=>dh rfl aJ aA ((c.p e1).trans r0.ptr),aL 19 rfl fun c hpc=>aI rfl aN (c.M 20 hpc) ((c.B 0).cell (j:=5) rfl),aL 19 rfl fun c hpc=>cY rfl (c.M 21 hpc) rfl,bZ 19 22,bD 23,aL 24 rfl fun c hpc=>dh rfl aJ cj ((c.p e1).trans r0.ptr),aL 24 rfl fun c hpc=>aI rfl dS (c.M 25 hpc) ((c.B 0).cell (j:=6) rfl),aL 24 rfl fun c hpc=>ew rfl (c.M 26 hpc),bZ 24 27,aK 28,av⟩ fun ac ag ae ab aa=> ?_);have e2:=aa.V 29;refine wp_ret ?_;refine rp ?_;refine cO (fn:=Tryz.f99) rfl ab.defers e2 ?_;exact ⟨rfl,ab.ext0⟩
end
section
open Go.RowKit
open Srt
theorem pF {s:ByteArray} (h:gM s (⟨#[]⟩:ByteArray)=false):(0:Int) < (s.size:Int):=by
  have hl:=mm s;rw [yn] at h;cases hb:bs s with
  | nil =>
    have:s.data.toList=[]:=hb;rw [this] at h;simp at h
  | cons b l => rw [hb] at hl; simp at hl; omega
theorem wl {s:ByteArray} {k:Nat} (h:(decide ((k:Int)+1=(s.size:Int)) || pD (cP s ((k:Int)+1)))=true):kq s (k+1)=((kq s k).1++ [s.extract (kq s k).2 (k+1)],k+1):=by
  rw [kq,np,if_pos (by rw [show ((k+1:Nat):Int)=(k:Int)+1 by omega];exact h)]
theorem uo {s:ByteArray} {k:Nat} (h:(decide ((k:Int)+1=(s.size:Int)) || pD (cP s ((k:Int)+1)))=false):kq s (k+1)=kq s k:=by
  rw [kq,np,if_neg (by rw [show ((k+1:Nat):Int)=(k:Int)+1 by omega,h];decide)]
theorem CO {s:ByteArray} {k:Nat} (h:(decide ((k:Int)+1=(s.size:Int)) || pD (cP s ((k:Int)+1)))=true):(kq s (k+1)).1=(kq s k).1++ [s.extract (kq s k).2 ((k:Int)+1).toNat]:=by
  rw [wl h];rfl
theorem Ae {s:ByteArray} {k:Nat} (h:(decide ((k:Int)+1=(s.size:Int)) || pD (cP s ((k:Int)+1)))=false):(kq s (k+1)).1=(kq s k).1:=by rw [uo h]
theorem pG {s:ByteArray} {k:Nat} (h:(decide ((k:Int)+1=(s.size:Int)) || pD (cP s ((k:Int)+1)))=true):(kq s (k+1)).2=k+1:=by rw [wl h]
theorem nM {s:ByteArray} {k:Nat} (h:(decide ((k:Int)+1=(s.size:Int)) || pD (cP s ((k:Int)+1)))=false):(kq s (k+1)).2=(kq s k).2:=by rw [uo h]
set_option maxRecDepth 100000 in
theorem Af (b:Int) (w:World):Calls Tryz.prog 54 #[.int .u8 b] w (fun e w'=>e= .returned (aE (vc b))∧Ext aW w w'):=by
 refine enter (n:=9) Tryz.func54 rfl rfl (aw rfl) ?_;intro a0 τ0 ha st0;have e0:=oz ha;refine wp_seq (eK st0 [] ⟨aq fun c=>ax rfl rfl,av⟩ fun ac ag ae ab aa=> ?_);replace e0:=aa.k1 e0;have e2:=aa.V 0;refine wp_seq (Lk ab [] ⟨ao e0,aq fun c=>iC rfl (c.q 0) rfl,bD 1,aL 2 rfl fun c hpc=>aS rfl (c.p e0),aL 2 rfl fun c hpc=>mX rfl (c.M 3 hpc) rfl,bZ 2 4,aK 5,av⟩ fun ac ag ae ab aa=> ?_);have e2:=aa.V 6;refine wp_ret ?_;refine rp ?_;refine cO (fn:=Tryz.f54) rfl ab.defers e2 ?_;exact ⟨rfl,ab.ext0⟩
set_option maxRecDepth 100000 in
theorem Fw (b:Int) (w:World):Calls Tryz.prog 57 #[.int .u8 b] w (fun e w'=>e= .returned (aE (pD b))∧Ext aW w w'):=by
 refine enter (n:=9) Tryz.func57 rfl rfl (aw rfl) ?_;intro a0 τ0 ha st0;have e0:=oz ha;refine wp_seq (eK st0 [] ⟨aq fun c=>ax rfl rfl,av⟩ fun ac ag ae ab aa=> ?_);replace e0:=aa.k1 e0;have e2:=aa.V 0;refine wp_seq (Lk ab [] ⟨ao e0,aq fun c=>cW rfl (c.q 0) rfl,bD 1,bm 2 rfl fun c hpc=>aS rfl (c.p e0),bm 2 rfl fun c hpc=>ii rfl (c.M 3 hpc) rfl,dm 2 4,aK 5,av⟩ fun ac ag ae ab aa=> ?_);have e2:=aa.V 6;refine wp_ret ?_;refine rp ?_;refine cO (fn:=Tryz.f57) rfl ab.defers e2 ?_;exact ⟨rfl,ab.ext0⟩
set_option maxRecDepth 100000 in
theorem CP (s:ByteArray) (a:Nat) (w:World) (hs:s.size≤1000000000) (ha:a≤1000000000):Calls Tryz.prog 55 #[(bc s),(aj (a:Int))] w (fun e w'=>e= .returned (aj (endF s a:Nat))∧Ext aW w w'):=by
 refine enter (n:=20) Tryz.func55 rfl rfl (aw rfl) ?_;intro a0 τ0 ha st0;obtain ⟨e0,e1⟩:=qG ha;refine wp_seq (eK st0 [] ⟨aq fun c=>ax rfl rfl,av⟩ fun ac ag ae ab aa=> ?_);obtain ⟨e0,e1⟩:=aa.k2 e0 e1;have e4:=aa.V 0;refine wp_seq (fX ab [] ⟨ao e1,aq fun c=>cN rfl (c.q 0) rfl (by omega),aK 1,av⟩ fun ac ag ae ab aa=> ?_);obtain ⟨e0,e4⟩:=aa.k2 e0 e4;have e1:=aa.V 2;refine wp_seq ?_;refine wp_block ?_;refine wp_loop (fun a_ w_=>∃(m:Nat) (τ:Nat→bj),(m+tw s m=a+1+tw s (a+1))∧
      (m≤1000000000+1)∧
      St (Nw w) w 20 a_ w_ τ∧
      be a_ 1=(aj (m:Int))∧
      be a_ 0=(bc s)∧
      be a_ 4=(aj 0)) (fun a_ _=>s.size - (intOf (be a_ 1)).toNat) ?_ ?_
 · refine ⟨a+1,ae,?_,?_,ab,(e1.trans (bB (by omega))),e0,e4⟩
   · rfl
   · omega
 intro a3 w3 hI;obtain ⟨m,τ3,q0,q1,st3,e1,e0,e4⟩:=hI;have m1:=e1;refine wp_seq ?_;refine wp_seq ?_;refine mG [0,0,2,7,15,31,31,127,255,511] st3 [] ⟨ao e1,ao e0,aq fun c=>fA rfl aZ (c.q 1),aq fun c=>cW rfl (c.q 0) (c.q 2),bD 3,aL 4 rfl fun c hpc=>aS rfl (c.p e0),aL 4 rfl fun c hpc=>aS rfl (c.p e1),aL 4 rfl fun c hpc=>li rfl aZ (c.M 5 hpc) (c.M 6 hpc) (by have hq0:=bt hpc;omega) (by have hq0:=bt hpc;omega),fC 4 true rfl fun c hpc=>⟨_,_,(bK rfl rfl Tryz.call54 (c.M 7 hpc)),Af (cP s (m:Int)) _⟩,bZ 4 8,av⟩ fun ac ag ae ab aa=> ?_;obtain ⟨e0,e1,e4⟩:=aa.k3 e0 e1 e4;have e16:=aa.V 9;refine wp_cond_split e16 (fun hc1=> ?_) (fun hc1=> ?_)
 · try simp only [au,ai] at hc1
   refine wp_skip ?_;refine wp_block ?_;refine fX ab [] ⟨ao e1,aq fun c=>cN rfl (c.q 0) rfl (by omega),aK 1,av⟩ fun ac ag ae ab aa=> ?_;obtain ⟨e0,e4,e16⟩:=aa.k3 e0 e4 e16;have e1:=aa.V 2;show _;refine ⟨⟨m+1,ae,?_,?_,ab,(e1.trans (bB (by omega))),e0,e4⟩,?_⟩
   · obtain ⟨c1_,c2_⟩:=(by assumption:(m:Int) < (s.size:Int)∧vc (cP s (m:Int))=true);rw [←q0,sV (by omega) c2_]
   · omega
   · simp only [m1,e1,intOf];omega
 try simp only [bl,ah,aV] at hc1
 refine wp_exit ?_;repeat (with_reducible refine cy ?_)
 refine cC ?_;refine wp_seq (eA ab [] ⟨ao e1,aK 0,av⟩ fun ac ag ae ab aa=> ?_);have e4:=aa.V 1;refine wp_ret ?_;refine rp ?_;refine cO (fn:=Tryz.f55) rfl ab.defers e4 ?_;have h_:(s.size:Int)≤(m:Int)∨vc (cP s (m:Int))=false:=by assumption
 have h2_:=yu (s:=s) (k:=m) (h_.elim (fun h=> .inl (by omega)) .inr);exact ⟨congrArg _ (bB (by unfold endF;omega)),ab.ext0⟩
set_option maxRecDepth 100000 in
theorem qZ (s:ByteArray) (w:World) (hs:s.size≤1000000000):Calls Tryz.prog 29 #[(bc s)] w (fun e w'=>e= .returned (aE (fY s))∧Ext aW w w'):=by
 refine enter (n:=18) Tryz.func29 rfl rfl (aw rfl) ?_;intro a0 τ0 ha st0;have e0:=oz ha;refine wp_seq (eK st0 [] ⟨aq fun c=>ax rfl rfl,av⟩ fun ac ag ae ab aa=> ?_);replace e0:=aa.k1 e0;have e2:=aa.V 0;refine wp_seq ?_;refine rg [_,_,_,_,_,_,_,_,_,_,_,_,_,_,_,_] [0,1,3,7,15,31,63,127,255,511,1023,511,2559,8191,16383,32767] ab [] ⟨ao e0,aq fun c=>oa rfl (c.q 0) rfl,bD 1,aL 2 rfl fun c hpc=>aS rfl (c.p e0),aL 2 rfl fun c hpc=>li rfl aZ (c.M 3 hpc) rfl (by have hq0:=hpc;(try simp only [ar,am] at hq0);first | omega | exact pF (by assumption)) (by have hq0:=hpc;(try simp only [ar,am] at hq0);first | omega | exact pF (by assumption)),fC 2 true rfl fun c hpc=>⟨_,_,(bK rfl rfl Tryz.call54 (c.M 4 hpc)),Af (cP s 0) _⟩,aL 2 rfl fun c hpc=>ew rfl (c.M 5 hpc),bZ 2 6,bD 7,aL 8 rfl fun c hpc=>aS rfl (c.p e0),fC 8 true rfl fun c hpc=>⟨_,_,(ck rfl rfl qI (c.M 9 hpc) rfl),CP s 0 _ (by have hq0:=hpc;(try simp only [au,bl,ar,am] at hq0);first | omega | exact pF (by assumption)) (by have hq0:=hpc;(try simp only [au,bl,ar,am] at hq0);first | omega | exact pF (by assumption))⟩,aL 8 rfl fun c hpc=>aS rfl (c.p e0),aL 8 rfl fun c hpc=>fA rfl aZ (c.M 11 hpc),aL 8 rfl fun c hpc=>cY rfl (c.M 10 hpc) (c.M 12 hpc),bZ 8 13,aK 14,av⟩ fun ac ag ae ab aa=> ?_;have e2:=aa.V 15;refine wp_ret ?_;refine rp ?_;refine cO (fn:=Tryz.f29) rfl ab.defers e2 ?_;exact ⟨congrArg _ (congrArg _ (DM s)),ab.ext0⟩
set_option maxRecDepth 100000 in
theorem CQ (s:ByteArray) (w:World) (hs:s.size≤1000000000):Calls Tryz.prog 37 #[(bc s)] w (fun e w'=>∃v',e= .returned v'∧Ext aW w w'∧su gR 9 w w' v' (bA s)):=by
 refine enter (n:=31) Tryz.func37 rfl rfl (aw rfl) ?_;intro a0 τ0 ha st0;have e0:=oz ha;refine wp_seq (eK st0 [] ⟨aq fun c=>ax rfl rfl,av⟩ fun ac ag ae ab aa=> ?_);replace e0:=aa.k1 e0;have e2:=aa.V 0;refine wp_seq (eK ab [] ⟨aq fun c=>ax rfl rfl,av⟩ fun ac ag ae ab aa=> ?_);obtain ⟨e0,e2⟩:=aa.k2 e0 e2;have e3:=aa.V 0;refine wp_seq (eK ab [] ⟨aq fun c=>ax rfl rfl,av⟩ fun ac ag ae ab aa=> ?_);obtain ⟨e0,e2,e3⟩:=aa.k3 e0 e2 e3;have e4:=aa.V 0;refine wp_seq ?_;refine wp_seq (eK ab [] ⟨aq fun c=>ax rfl rfl,av⟩ fun ac ag ae ab aa=> ?_);obtain ⟨e0,e2,e3,e4⟩:=aa.k4 e0 e2 e3 e4;have e5:=aa.V 0;refine wp_block ?_;refine wp_loop (fun a_ w_=>∃(k:Nat) (u:Value) (τ:Nat→bj),(k≤s.size)∧
      St (Nw w) w 31 a_ w_ τ∧
      be a_ 3=u∧
      be a_ 4=(aj ((kq s k).2:Int))∧
      be a_ 5=(aj ((k:Int)+1))∧
      be a_ 0=(bc s)∧
      be a_ 2=(.slice none 0 0)∧
      ep gR 9 ((kq s k).1) (τ 0) u w_) (fun a_ _=>s.size+1 - (intOf (be a_ 5)).toNat) ?_ ?_
 · refine ⟨0,(.slice none 0 0),ae,?_,ab,e3,(e4.trans (bB (by first | omega | rfl | (rw [nM (by assumption)]) | (rw [pG (by assumption)];omega)))),(e5.trans (bB (by first | omega | rfl | (rw [nM (by assumption)]) | (rw [pG (by assumption)];omega)))),e0,e2,?_⟩
   · omega
   · exact ep.nil _ _ _ _
 intro a5 w5 hI;obtain ⟨k,u,τ5,q0,st5,e3,e4,e5,e0,e2,r0⟩:=hI;have hfr:=zR s k;have hln:=rE s k;have m5:=e5;refine wp_seq ?_;refine wp_seq (lr [0,0,2,7] st5 [jo r0] ⟨ao e5,ao e0,aq fun c=>fA rfl aZ (c.q 1),aq fun c=>mX rfl (c.q 0) (c.q 2),av⟩ fun ac ag ae ab aa=> ?_);obtain ⟨e0,e2,e3,e4,e5⟩:=aa.k5 e0 e2 e3 e4 e5;have e9:=aa.V 3;replace r0:=aa.O 0;refine wp_cond_split e9 (fun hc1=> ?_) (fun hc1=> ?_)
 · try simp only [ai] at hc1
   refine wp_skip ?_;refine wp_seq ?_;refine wp_block ?_;refine wp_seq ?_;refine mG [0,0,2,7,15,31,31,127,255,511] ab [jo r0] ⟨ao e5,ao e0,aq fun c=>fA rfl aZ (c.q 1),aq fun c=>cY rfl (c.q 0) (c.q 2),bD 3,bm 4 rfl fun c hpc=>aS rfl (c.p e0),bm 4 rfl fun c hpc=>aS rfl (c.p e5),bm 4 rfl fun c hpc=>li rfl aZ (c.M 5 hpc) (c.M 6 hpc) (by have hq0:=bn hpc;omega) (by have hq0:=bn hpc;omega),fC 4 false rfl fun c hpc=>⟨_,_,(bK rfl rfl Tryz.call57 (c.M 7 hpc)),Fw (cP s ((k:Int)+1)) _⟩,dm 4 8,av⟩ fun ac ag ae ab aa=> ?_;obtain ⟨e0,e2,e3,e4,e5,e9⟩:=aa.k6 e0 e2 e3 e4 e5 e9;have e21:=aa.V 9;replace r0:=aa.O 0;refine wp_cond_split e21 (fun hc2=> ?_) (fun hc2=> ?_)
   · have hd2:=hc2;try simp only [aR,ai] at hd2
     refine wp_seq ?_;refine rg [_,_,_,_,_,own gR 9 _ 1 27 ([s.extract ((kq s k).2:Int).toNat ((k:Int)+1).toNat]),own _ _ _ 0 28 _,own _ _ _ 0 3 _] [0,0,0,0,14,30,63,127] ab [jo r0] ⟨ao e3,ao e0,ao e4,ao e5,aq fun c=>EV (s:=s) (p:=((kq s k).2:Int)) (q:=(k:Int)+1) rfl aZ (c.q 1) (c.q 2) (c.q 3) (by omega) (by omega) (by omega),dt (cells:=#[(bc (s.extract ((kq s k).2:Int).toNat ((k:Int)+1).toNat))]) rfl rfl rfl rfl bL cf Tryz.zeroValue9 rfl (by decide) (by decide) (fun _ _ _ _ c=>gB (c.n 4 rfl) (by kernel_rfl)) rfl,fF (t0:=3) rfl rfl rfl rfl bL (i:=Tryz.t9) rfl rfl rfl rfl (by simp only [maxLen];(try simp);omega) (by show _ * 16≤_;(try simp);omega) (fun _ _ _ _ c=>⟨c.ip 0 rfl e3,c.sm (c.n 0 rfl) e3,⟨_,rfl,(c.ro 5 rfl).1.sl⟩⟩),eP (t0:=28) rfl rfl rfl rfl rfl (.inr rfl) (fun _ _ _ _ c=>⟨c.ro 6 rfl,rfl⟩),av⟩ fun ac ag ae ab aa=> ?_;obtain ⟨b8x27,e27⟩:=gx ac 27;obtain ⟨b8x3,e3⟩:=gx ac 3;obtain ⟨e0,e2,e4,e5,e9,e21⟩:=aa.k6 e0 e2 e4 e5 e9 e21;replace r0:=aa.ro 7 e3 rfl;have r1:=aa.ro 5 e27 rfl;refine eA ab [jo r0,jo r1] ⟨ao e5,aK 0,av⟩ fun ac ag ae ab aa=> ?_;obtain ⟨e0,e2,e3,e5,e9,e21⟩:=aa.k6 e0 e2 e3 e5 e9 e21;have e4:=aa.V 1;replace r0:=aa.O 0;replace r1:=aa.O 1;show _;refine fX ab [jo r0,jo r1] ⟨ao e5,aq fun c=>cN rfl (c.q 0) rfl (by omega),aK 1,av⟩ fun ac ag ae ab aa=> ?_;obtain ⟨e0,e2,e3,e4,e9,e21⟩:=aa.k6 e0 e2 e3 e4 e9 e21;have e5:=aa.V 2;replace r0:=aa.O 0;replace r1:=aa.O 1;refine ⟨⟨k+1,b8x3,ae,?_,ab,e3,(e4.trans (bB (by first | omega | rfl | (rw [nM (by assumption)]) | (rw [pG (by assumption)];omega)))),(e5.trans (bB (by first | omega | rfl | (rw [nM (by assumption)]) | (rw [pG (by assumption)];omega)))),e0,e2,?_⟩,?_⟩
     · omega
     · exact r0.cast (by first | exact CO (by assumption) | exact Ae (by assumption))
     · simp only [m5,e5,intOf];omega
   have hd2:=hc2;try simp only [aG,ah] at hd2
   refine wp_skip ?_;show _;refine fX ab [jo r0] ⟨ao e5,aq fun c=>cN rfl (c.q 0) rfl (by omega),aK 1,av⟩ fun ac ag ae ab aa=> ?_;obtain ⟨e0,e2,e3,e4,e9,e21⟩:=aa.k6 e0 e2 e3 e4 e9 e21;have e5:=aa.V 2;replace r0:=aa.O 0;refine ⟨⟨k+1,u,ae,?_,ab,e3,(e4.trans (bB (by first | omega | rfl | (rw [nM (by assumption)]) | (rw [pG (by assumption)];omega)))),(e5.trans (bB (by first | omega | rfl | (rw [nM (by assumption)]) | (rw [pG (by assumption)];omega)))),e0,e2,?_⟩,?_⟩
   · omega
   · exact r0.cast (by first | exact CO (by assumption) | exact Ae (by assumption))
   · simp only [m5,e5,intOf];omega
 try simp only [ah,dD] at hc1
 refine wp_exit ?_;repeat (with_reducible refine cy ?_)
 refine cC ?_;refine wp_seq (eA ab [jo r0] ⟨ao e3,aK 0,av⟩ fun ac ag ae ab aa=> ?_);have e2:=aa.V 1;replace r0:=aa.O 0;refine wp_ret ?_;refine rp ?_;refine cO (fn:=Tryz.f37) rfl ab.defers e2 ?_;replace r0:=r0.cast (show bA s=_ from by rw [bA,show s.size=k by omega]);exact ⟨_,rfl,ab.ext0,r0.1,fun g_ h_=>(ab.bnd _ g_ (r0.2 g_ h_)).1⟩
set_option maxRecDepth 100000 in
theorem Ag (s:ByteArray) (w:World) (hs:s.size≤1000000000):Calls Tryz.prog 86 #[(bc s)] w (fun e w'=>e= .returned (aE (fY s))∧Ext aW w w'):=by
 refine enter (n:=17) Tryz.func86 rfl rfl (aw rfl) ?_;intro a0 τ0 ha st0;have e0:=oz ha;refine wp_seq (eK st0 [] ⟨aq fun c=>ax rfl rfl,av⟩ fun ac ag ae ab aa=> ?_);replace e0:=aa.k1 e0;have e2:=aa.V 0;refine wp_seq ?_;refine rg [_,_,_,_,_,_,_,_,_,_,gown (((decide (0 < (s.size:Int)))&&(pD (cP s 0)))=true) gR 9 (Nw w) 0 13 (bA s),_,_,_,_] [0,1,3,7,15,31,63,127,255,511,1023,2047,4095,8191,16383] ab [] ⟨ao e0,aq fun c=>fA rfl aZ (c.q 0),aq fun c=>ii rfl (c.q 1) rfl,bD 2,aL 3 rfl fun c hpc=>aS rfl (c.p e0),aL 3 rfl fun c hpc=>li rfl aZ (c.M 4 hpc) rfl (by have hq0:=bt hpc;omega) (by have hq0:=bt hpc;omega),fC 3 true rfl fun c hpc=>⟨_,_,(bK rfl rfl Tryz.call57 (c.M 5 hpc)),Fw (cP s 0) _⟩,bZ 3 6,bD 7,aL 8 rfl fun c hpc=>aS rfl (c.p e0),ym (gi:=8) (tg:=11) rfl rfl rfl rfl rfl rfl Iff.rfl (fun hpc=>vH rfl rfl rfl (fun _ a_ _ _ c=>⟨_,_,(bK rfl rfl Tryz.call37 (c.M 9 hpc)),CQ s _ (by have hq0:=hpc;(try simp only [au,ai] at hq0);omega)⟩)),aL 8 rfl fun c hpc=>dk rfl bL rfl (c.rg 10 rfl hpc).isSl,aL 8 rfl fun c hpc=>cY rfl (c.M 11 hpc) rfl,bZ 8 12,aK 13,av⟩ fun ac ag ae ab aa=> ?_;have e2:=aa.V 14;refine wp_ret ?_;refine rp ?_;refine cO (fn:=Tryz.f86) rfl ab.defers e2 ?_;exact ⟨congrArg _ (congrArg _ (yv s)),ab.ext0⟩
end
section
open Go.RowKit
open Srt
set_option maxRecDepth 100000 in
theorem IY (r:ByteArray × ByteArray) (w:World) (h1:r.1.size≤1000000000) (h2:r.2.size≤1000000000):Calls Tryz.prog 123 #[(.agg #[(bc r.1),(bc r.2)])] w (fun e w'=>e= .returned (aE (iU r))∧Ext aW w w'):=by
 refine enter (n:=18) Tryz.func123 rfl rfl (aw rfl) ?_;intro a0 τ0 ha st0;have e0:be a0 0=(.agg #[(bc r.1),(bc r.2)]):=ha 0 _ rfl;clear ha;refine wp_seq (rg [box _ _ 0 1 [(bc r.1),(bc r.2)],_] [0,0] st0 [] ⟨hH (v:=(.agg #[(bc r.1),(bc r.2)])) rfl rfl rfl rfl rfl (fun _ _ _ _ c=>(c.p e0)),aq fun c=>ax rfl rfl,av⟩ fun ac ag ae ab aa=> ?_);obtain ⟨b1x1,e1⟩:=gx ac 1;have e2:=aa.V 1;have r0:=aa.rb 0 e1 rfl;refine wp_seq ?_;refine rg [_,_,_,_,_,_,_,_,_,_,_,_,_,_,_,_] [0,1,3,7,15,31,63,127,255,511,1023,511,2559,8191,16383,32767] ab [jb r0] ⟨cK cZ cf e1 r0.ptr,fE cJ 0 0 0,eE fun c=>⟨_,_,(bK rfl rfl oE (c.q 1)),qZ r.1 _ (by omega)⟩,bD 2,aL 3 rfl fun c hpc=>dh rfl cZ cf ((c.p e1).trans r0.ptr),aL 3 rfl fun c hpc=>aI rfl cJ (c.M 4 hpc) ((c.B 0).cell (j:=1) rfl),fC 3 true rfl fun c hpc=>⟨_,_,(bK rfl rfl oE (c.M 5 hpc)),qZ r.2 _ (by have hq0:=hpc;omega)⟩,bZ 3 6,bD 7,aL 8 rfl fun c hpc=>dh rfl cZ cf ((c.p e1).trans r0.ptr),aL 8 rfl fun c hpc=>aI rfl cJ (c.M 9 hpc) ((c.B 0).cell (j:=0) rfl),aL 8 rfl fun c hpc=>dh rfl cZ cf ((c.p e1).trans r0.ptr),aL 8 rfl fun c hpc=>aI rfl cJ (c.M 11 hpc) ((c.B 0).cell (j:=1) rfl),aL 8 rfl fun c hpc=>vK rfl (c.M 10 hpc) (c.M 12 hpc),bZ 8 13,aK 14,av⟩ fun ac ag ae ab aa=> ?_;have e2:=aa.V 15;refine wp_ret ?_;refine rp ?_;refine cO (fn:=Tryz.f123) rfl ab.defers e2 ?_;exact ⟨rfl,ab.ext0⟩
set_option maxRecDepth 100000 in
theorem JA (v:Value) (xs:List (ByteArray × ByteArray)) (w:World) (hS:SlT fx w v xs) (hz:wd xs) (hbig:xs.length≤1000000000):Calls Tryz.prog 100 #[v] w (fun e w'=>e= .returned (aE (pb xs))∧Ext aW w w'):=by
 refine enter (n:=31) Tryz.func100 rfl rfl (aw rfl) ?_;intro a0 τ0 ha st0;have e0:=oz ha;have hle:=hS.le;refine wp_seq (eK st0 [] ⟨aq fun c=>ax rfl rfl,av⟩ fun ac ag ae ab aa=> ?_);replace e0:=aa.k1 e0;have e2:=aa.V 0;refine wp_seq ?_;refine wp_seq (sf [0,1,0] ab [] ⟨ao e0,aq fun c=>dk rfl br (c.q 0) hS.sl,aq fun c=>aS rfl rfl,av⟩ fun ac ag ae ab aa=> ?_);obtain ⟨e0,e2⟩:=aa.k2 e0 e2;have e5:=aa.V 0;have e6:=aa.V 1;have e7:=aa.V 2;refine wp_block ?_;refine wp_loop (fun a_ w_=>∃(k:Nat) (τ:Nat→bj),(k≤xs.length)∧
      (∀i < k,we xs ((i:Nat):Int)=false)∧
      St (Nw w) w 31 a_ w_ τ∧
      be a_ 7=(aj (k:Int))∧
      be a_ 0=v∧
      be a_ 5=v∧
      be a_ 6=(aj (xs.length:Int))) (fun a_ _=>xs.length - (intOf (be a_ 7)).toNat) ?_ ?_
 · refine ⟨0,ae,?_,?_,ab,(e7.trans (bB (by omega))),e0,e5,e6⟩
   · omega
   · intro i hi;omega
 intro a3 w3 hI;obtain ⟨k,τ3,q0,q1,st3,e7,e0,e5,e6⟩:=hI;have hzk:=zU hz (k:=k);have m7:=e7;refine wp_seq (eK st3 [] ⟨aq fun c=>cW rfl (c.p e7) (c.p e6),av⟩ fun ac ag ae ab aa=> ?_);obtain ⟨e0,e5,e6,e7⟩:=aa.k4 e0 e5 e6 e7;have e8:=aa.V 0;refine wp_seq ?_;refine wp_cond_split e8 (fun hc1=> ?_) (fun hc1=> ?_)
 · try simp only [ai] at hc1
   refine wp_skip ?_;refine wp_seq ?_;refine wp_block ?_;refine wp_seq (rg [_,_,_,box _ _ 0 4 [(bc (⟨#[]⟩:ByteArray)),(bc (⟨#[]⟩:ByteArray))],_,_] [0,0,2,0,15,31] ab [] ⟨ao e7,aq fun c=>aX rfl br bq (c.p e5) hS.sl (c.p e7) (by omega) (by omega),aq fun c=>cq (vs:=[(bc ((nth xs (k:Int)).1)),(bc ((nth xs (k:Int)).2))]) rfl dF bq (c.q 1) rfl (fun _ _ hj=>(hS.at (ab.ext.trans c.J.ext)).elem (bF (i:=(k:Int)) (by omega) (by omega)) hj),bO rfl rfl rfl rfl dR rfl,aK 0,ey (cx:=[(bc ((nth xs (k:Int)).1)),(bc ((nth xs (k:Int)).2))]) (off:=0) rfl bq fun c=>⟨c.rb 3 rfl,(c.rb 3 rfl).ptr,(c.q 2)⟩,av⟩ fun ac ag ae ab aa=> ?_);obtain ⟨b5x4,e4⟩:=gx ac 4;obtain ⟨e0,e5,e6,e7,e8⟩:=aa.k5 e0 e5 e6 e7 e8;have e3:=aa.V 4;have r0:=aa.rb 5 e4 rfl;refine wp_seq ?_;refine rg [_,_,_,_,_,_,_,_,_,_,_,_,_,_,_,_,_,_] [0,1,3,7,15,31,63,127,255,127,127,1151,3711,7807,15999,32767,65535,131071] ab [jb r0] ⟨aq fun c=>dY rfl dF bq ((c.p e4).trans r0.ptr) (c.B 0),eE fun c=>⟨_,_,(bK rfl rfl Tryz.call123 (c.q 0)),IY (nth xs (k:Int)) _ (by omega) (by omega)⟩,aq fun c=>ew rfl (c.q 1),bD 2,bm 3 rfl fun c hpc=>aS rfl (c.p e3),bm 3 rfl fun c hpc=>ii rfl (c.M 4 hpc) rfl,bm 3 rfl fun c hpc=>aS rfl (c.M 5 hpc),dj 6 true rfl fun c hpc=>dh rfl cZ cf ((c.p e4).trans r0.ptr),dj 6 true rfl fun c hpc=>aI rfl cJ (c.M 7 hpc) ((c.B 0).cell (j:=0) rfl),dj 6 true rfl fun c hpc=>aS rfl (c.p e0),dj 6 true rfl fun c hpc=>aS rfl (c.p e3),dj 6 true rfl fun c hpc=>gd rfl (c.M 10 hpc) rfl (by have hq0:=bt hpc.2;have hq1:=hpc.1;(try simp only [ar,am] at hq1);omega),dj 6 true rfl fun c hpc=>aX rfl br bq (c.M 9 hpc) hS.sl (c.M 11 hpc) (by have hq0:=bt hpc.2;have hq1:=hpc.1;(try simp only [ar,am] at hq1);omega) (by have hq0:=bt hpc.2;have hq1:=hpc.1;(try simp only [ar,am] at hq1);omega),dj 6 true rfl fun c hpc=>dh rfl cZ cf (c.M 12 hpc),dj 6 true rfl fun c hpc=>aI rfl cJ (c.M 13 hpc) ((hS.at (ab.ext.trans c.J.ext)).elem (j:=1) (bF (i:=(k:Int) - 1) (by have hq0:=bt hpc.2;have hq1:=hpc.1;(try simp only [ar,am] at hq1);omega) (by have hq0:=bt hpc.2;have hq1:=hpc.1;(try simp only [ar,am] at hq1);omega)) rfl),dj 6 true rfl fun c hpc=>vK rfl (c.M 8 hpc) (c.M 14 hpc),bm 3 rfl fun c hpc=>oK rfl (c.M 6 hpc) (fun h=>c.m 15 rfl (And.intro hpc h)),dm 3 16,av⟩ fun ac ag ae ab aa=> ?_;obtain ⟨e0,e3,e4,e5,e6,e7,e8⟩:=aa.k7 e0 e3 e4 e5 e6 e7 e8;have e29:=aa.V 17;replace r0:=aa.B 0;refine wp_cond_split e29 (fun hc2=> ?_) (fun hc2=> ?_)
   · have hd2:=hc2;try simp only [au,bl,aR,aG,ar,am,ai,ah,aV] at hd2
     refine wp_seq (eK ab [jb r0] ⟨aq fun c=>ax rfl rfl,av⟩ fun ac ag ae ab aa=> ?_);obtain ⟨e0,e3,e4,e5,e6,e7,e8,e29⟩:=aa.k8 e0 e3 e4 e5 e6 e7 e8 e29;have e2:=aa.V 0;replace r0:=aa.B 0;refine wp_ret ?_;refine rp ?_;refine cO (fn:=Tryz.f100) rfl ab.defers e2 ?_;exact ⟨congrArg _ (congrArg _ (by exact (DO (k:=k) (by omega) (by assumption)).symm)),ab.ext0⟩
   have hd2:=hc2;try simp only [au,bl,aR,aG,ar,am,ai,ah,aV] at hd2
   refine wp_skip ?_;show _;refine eA ab [jb r0] ⟨aq fun c=>cN rfl (c.p e7) rfl (by omega),bD 0,av⟩ fun ac ag ae ab aa=> ?_;obtain ⟨e0,e3,e4,e5,e6,e8,e29⟩:=aa.k7 e0 e3 e4 e5 e6 e8 e29;have e7:=aa.V 1;replace r0:=aa.B 0;refine ⟨⟨k+1,ae,?_,?_,ab,(e7.trans (bB (by omega))),e0,e5,e6⟩,?_⟩
   · omega
   · exact xJ q1 (by assumption)
   · simp only [m7,e7,intOf];omega
 try simp only [ah,aV] at hc1
 refine wp_exit ?_;repeat (with_reducible refine cy ?_)
 refine cC ?_;refine wp_seq (eK ab [] ⟨aq fun c=>ax rfl rfl,av⟩ fun ac ag ae ab aa=> ?_);have e2:=aa.V 0;refine wp_ret ?_;refine rp ?_;refine cO (fn:=Tryz.f100) rfl ab.defers e2 ?_;exact ⟨congrArg _ (congrArg _ (by exact (wg q1 (by omega)).symm)),ab.ext0⟩
end
section
open Go.RowKit
open Srt
def qg (k:Int):Bool:=decide (k=2) || (decide (k=3) || (decide (k=4) || (decide (k=5) || decide (k=6))))
set_option maxRecDepth 100000 in
theorem BB (k:Int) (w:World):Calls Tryz.prog 101 #[(aj k)] w (fun e w'=>e= .returned (aE (qg k))∧Ext aW w w'):=by
 refine enter (n:=10) Tryz.func101 rfl rfl (aw rfl) ?_;intro a0 τ0 ha st0;have e0:=oz ha;refine wp_seq (eK st0 [] ⟨aq fun c=>ax rfl rfl,av⟩ fun ac ag ae ab aa=> ?_);replace e0:=aa.k1 e0;have e2:=aa.V 0;refine wp_seq ?_;refine wp_seq (eK ab [] ⟨ao e0,av⟩ fun ac ag ae ab aa=> ?_);replace e2:=aa.k1 e2;have e3:=aa.V 0;refine wp_block ?_;refine wp_seq ?_;refine wp_seq (eA ab [] ⟨aq fun c=>cY rfl (c.p e3) rfl,aK 0,av⟩ fun ac ag ae ab aa=> ?_);obtain ⟨e2,e3⟩:=aa.k2 e2 e3;have e4:=aa.V 1;refine wp_cond_split e4 (fun hc1=> ?_) (fun hc1=> ?_)
 · have hd1:=hc1;try simp only [ai] at hd1
   refine wp_skip ?_;refine wp_cond_true (e4.trans (congrArg _ hc1)) ?_;refine wp_seq (eK ab [] ⟨aq fun c=>ax rfl rfl,av⟩ fun ac ag ae ab aa=> ?_);have e2:=aa.V 0;refine wp_ret ?_;refine rp ?_;refine cO (fn:=Tryz.f101) rfl ab.defers e2 ?_;exact ⟨congrArg _ (congrArg _ (by unfold qg;symm;simp;omega)),ab.ext0⟩
 have hd2:=hc1;try simp only [ah] at hd2
 refine wp_seq (eA ab [] ⟨aq fun c=>cY rfl (c.p e3) rfl,aK 0,av⟩ fun ac ag ae ab aa=> ?_);obtain ⟨e2,e3⟩:=aa.k2 e2 e3;have e4:=aa.V 1;refine wp_cond_split e4 (fun hc3=> ?_) (fun hc3=> ?_)
 · have hd3:=hc3;try simp only [ai] at hd3
   refine wp_skip ?_;refine wp_cond_true (e4.trans (congrArg _ hc3)) ?_;refine wp_seq (eK ab [] ⟨aq fun c=>ax rfl rfl,av⟩ fun ac ag ae ab aa=> ?_);have e2:=aa.V 0;refine wp_ret ?_;refine rp ?_;refine cO (fn:=Tryz.f101) rfl ab.defers e2 ?_;exact ⟨congrArg _ (congrArg _ (by unfold qg;symm;simp;omega)),ab.ext0⟩
 have hd4:=hc3;try simp only [ah] at hd4
 refine wp_seq (eA ab [] ⟨aq fun c=>cY rfl (c.p e3) rfl,aK 0,av⟩ fun ac ag ae ab aa=> ?_);obtain ⟨e2,e3⟩:=aa.k2 e2 e3;have e4:=aa.V 1;refine wp_cond_split e4 (fun hc5=> ?_) (fun hc5=> ?_)
 · have hd5:=hc5;try simp only [ai] at hd5
   refine wp_skip ?_;refine wp_cond_true (e4.trans (congrArg _ hc5)) ?_;refine wp_seq (eK ab [] ⟨aq fun c=>ax rfl rfl,av⟩ fun ac ag ae ab aa=> ?_);have e2:=aa.V 0;refine wp_ret ?_;refine rp ?_;refine cO (fn:=Tryz.f101) rfl ab.defers e2 ?_;exact ⟨congrArg _ (congrArg _ (by unfold qg;symm;simp;omega)),ab.ext0⟩
 have hd6:=hc5;try simp only [ah] at hd6
 refine wp_seq (eA ab [] ⟨aq fun c=>cY rfl (c.p e3) rfl,aK 0,av⟩ fun ac ag ae ab aa=> ?_);obtain ⟨e2,e3⟩:=aa.k2 e2 e3;have e4:=aa.V 1;refine wp_cond_split e4 (fun hc7=> ?_) (fun hc7=> ?_)
 · have hd7:=hc7;try simp only [ai] at hd7
   refine wp_skip ?_;refine wp_cond_true (e4.trans (congrArg _ hc7)) ?_;refine wp_seq (eK ab [] ⟨aq fun c=>ax rfl rfl,av⟩ fun ac ag ae ab aa=> ?_);have e2:=aa.V 0;refine wp_ret ?_;refine rp ?_;refine cO (fn:=Tryz.f101) rfl ab.defers e2 ?_;exact ⟨congrArg _ (congrArg _ (by unfold qg;symm;simp;omega)),ab.ext0⟩
 have hd8:=hc7;try simp only [ah] at hd8
 refine eA ab [] ⟨aq fun c=>cY rfl (c.p e3) rfl,aK 0,av⟩ fun ac ag ae ab aa=> ?_;replace e2:=aa.k1 e2;have e4:=aa.V 1;refine wp_cond_split e4 (fun hc9=> ?_) (fun hc9=> ?_)
 · have hd9:=hc9;try simp only [ai] at hd9
   refine wp_seq (eK ab [] ⟨aq fun c=>ax rfl rfl,av⟩ fun ac ag ae ab aa=> ?_);have e2:=aa.V 0;refine wp_ret ?_;refine rp ?_;refine cO (fn:=Tryz.f101) rfl ab.defers e2 ?_;exact ⟨congrArg _ (congrArg _ (by unfold qg;symm;simp;omega)),ab.ext0⟩
 have hd9:=hc9;try simp only [ah] at hd9
 refine wp_skip ?_;show _;refine wp_seq (eK ab [] ⟨aq fun c=>ax rfl rfl,av⟩ fun ac ag ae ab aa=> ?_);have e2:=aa.V 0;refine wp_ret ?_;refine rp ?_;refine cO (fn:=Tryz.f101) rfl ab.defers e2 ?_;exact ⟨congrArg _ (congrArg _ (by unfold qg;symm;simp;omega)),ab.ext0⟩
set_option maxRecDepth 100000 in
theorem HB (v:Value) (xs:List Int) (x:Int) (w:World) (hS:SlT lM w v xs):Calls Tryz.prog 143 #[v,(aj x)] w (fun e w'=>e= .returned (aj (IX (fun y=>decide (x=y)) xs))∧Ext aW w w'):=by
 refine enter (n:=19) Tryz.func143 rfl rfl (aw rfl) ?_;intro a0 τ0 ha st0;obtain ⟨e0,e1⟩:=qG ha;have hle:=hS.le;refine wp_seq (eK st0 [] ⟨aq fun c=>ax rfl rfl,av⟩ fun ac ag ae ab aa=> ?_);obtain ⟨e0,e1⟩:=aa.k2 e0 e1;have e4:=aa.V 0;refine wp_seq ?_;refine wp_seq (sf [0,1,0] ab [] ⟨ao e0,aq fun c=>dk rfl cE (c.q 0) hS.sl,aq fun c=>aS rfl rfl,av⟩ fun ac ag ae ab aa=> ?_);obtain ⟨e0,e1,e4⟩:=aa.k3 e0 e1 e4;have e7:=aa.V 1;have e8:=aa.V 2;refine wp_block ?_;refine wp_loop (fun a_ w_=>∃(k:Nat) (τ:Nat→bj),(k≤xs.length)∧
      (∀y ∈ xs.take k,decide (x=y)=false)∧
      St (Nw w) w 19 a_ w_ τ∧
      be a_ 8=(aj (k:Int))∧
      be a_ 0=v∧
      be a_ 1=(aj x)∧
      be a_ 7=(aj (xs.length:Int))) (fun a_ _=>xs.length - (intOf (be a_ 8)).toNat) ?_ ?_
 · refine ⟨0,ae,?_,?_,ab,(e8.trans (bB (by omega))),e0,e1,e7⟩
   · omega
   · simp
 intro a3 w3 hI;obtain ⟨k,τ3,q0,q1,st3,e8,e0,e1,e7⟩:=hI;have m8:=e8;refine wp_seq (eK st3 [] ⟨aq fun c=>cW rfl (c.p e8) (c.p e7),av⟩ fun ac ag ae ab aa=> ?_);obtain ⟨e0,e1,e7,e8⟩:=aa.k4 e0 e1 e7 e8;have e9:=aa.V 0;refine wp_seq ?_;refine wp_cond_split e9 (fun hc1=> ?_) (fun hc1=> ?_)
 · try simp only [ai] at hc1
   refine wp_skip ?_;refine wp_seq ?_;refine wp_block ?_;refine wp_seq (eA ab [] ⟨ao e8,aK 0,av⟩ fun ac ag ae ab aa=> ?_);obtain ⟨e0,e1,e7,e8,e9⟩:=aa.k5 e0 e1 e7 e8 e9;have e5:=aa.V 1;refine wp_seq (Hm [0,0,0,6,14,31] ab [] ⟨ao e1,ao e0,ao e5,aq fun c=>aX rfl cE aA (c.q 1) hS.sl (c.q 2) (by omega) (by omega),aq fun c=>aI rfl aN (c.q 3) ((hS.at (ab.ext.trans c.J.ext)).elem (j:=0) (bF (i:=(k:Int)) (by omega) (by omega)) rfl),aq fun c=>cY rfl (c.q 0) (c.q 4),av⟩ fun ac ag ae ab aa=> ?_);obtain ⟨e0,e1,e5,e7,e8,e9⟩:=aa.k6 e0 e1 e5 e7 e8 e9;have e16:=aa.V 5;refine wp_cond_split e16 (fun hc2=> ?_) (fun hc2=> ?_)
   · have hd2:=hc2;try simp only [ai] at hd2
     refine wp_seq (eA ab [] ⟨ao e5,aK 0,av⟩ fun ac ag ae ab aa=> ?_);obtain ⟨e0,e1,e5,e7,e8,e9,e16⟩:=aa.k7 e0 e1 e5 e7 e8 e9 e16;have e4:=aa.V 1;refine wp_ret ?_;refine rp ?_;refine cO (fn:=Tryz.f143) rfl ab.defers e4 ?_;exact ⟨congrArg _ (bB (by first | exact (yw (f:=fun y=>decide (x=y)) (by omega) q1 (by assumption)).symm | exact (vn (f:=fun y=>decide (x=y)) (k:=k) (by omega) q1).symm)),ab.ext0⟩
   have hd2:=hc2;try simp only [ah] at hd2
   refine wp_skip ?_;show _;refine eA ab [] ⟨aq fun c=>cN rfl (c.p e8) rfl (by omega),bD 0,av⟩ fun ac ag ae ab aa=> ?_;obtain ⟨e0,e1,e5,e7,e9,e16⟩:=aa.k6 e0 e1 e5 e7 e9 e16;have e8:=aa.V 1;refine ⟨⟨k+1,ae,?_,?_,ab,(e8.trans (bB (by omega))),e0,e1,e7⟩,?_⟩
   · omega
   · exact CM (f:=fun y=>decide (x=y)) (by omega) q1 (by assumption)
   · simp only [m8,e8,intOf];omega
 try simp only [ah,aV] at hc1
 refine wp_exit ?_;repeat (with_reducible refine cy ?_)
 refine cC ?_;refine wp_seq (eK ab [] ⟨aq fun c=>ax rfl rfl,av⟩ fun ac ag ae ab aa=> ?_);have e4:=aa.V 0;refine wp_ret ?_;refine rp ?_;refine cO (fn:=Tryz.f143) rfl ab.defers e4 ?_;exact ⟨congrArg _ (bB (by first | exact (yw (f:=fun y=>decide (x=y)) (by omega) q1 (by assumption)).symm | exact (vn (f:=fun y=>decide (x=y)) (k:=k) (by omega) q1).symm)),ab.ext0⟩
set_option maxRecDepth 100000 in
theorem Fx (v:Value) (xs:List Int) (x:Int) (w:World) (hS:SlT lM w v xs):Calls Tryz.prog 126 #[v,(aj x)] w (fun e w'=>e= .returned (aE (xs.any fun y=>decide (x=y)))∧Ext aW w w'):=by
 refine enter (n:=9) Tryz.func126 rfl rfl (aw rfl) ?_;intro a0 τ0 ha st0;obtain ⟨e0,e1⟩:=qG ha;have hle:=hS.le;refine wp_seq (eK st0 [] ⟨aq fun c=>ax rfl rfl,av⟩ fun ac ag ae ab aa=> ?_);obtain ⟨e0,e1⟩:=aa.k2 e0 e1;have e4:=aa.V 0;refine wp_seq (vO [0,0,3,7,15] ab [] ⟨ao e0,ao e1,eE fun c=>⟨_,_,(ck rfl rfl Tryz.call143 (c.q 0) (c.q 1)),HB v xs x _ (hS.at (ab.ext.trans c.J.ext))⟩,aq fun c=>iC rfl (c.q 2) rfl,aK 3,av⟩ fun ac ag ae ab aa=> ?_);have e4:=aa.V 4;refine wp_ret ?_;refine rp ?_;refine cO (fn:=Tryz.f126) rfl ab.defers e4 ?_;exact ⟨congrArg _ (congrArg _ (Fv _ _)),ab.ext0⟩
end
section
open Go.RowKit Srt
theorem bW {K:Act→World→Prop} {a:Act} {w:World} (h:K a w):Hk K .normal a w:=⟨rfl,h⟩
theorem pw.sv {v:Value} {n:Nat} (h:pw v n):∃s:Sv,v=s.v:=by
  rcases h with ⟨rfl,_⟩ | ⟨b,cap,rfl,_⟩
  · exact ⟨⟨none,0,0⟩,rfl⟩
  · exact ⟨⟨some b,n,cap⟩,rfl⟩
def gT (G:bj) (t:Tr):ZP:=⟨fun Z w=>TrT (fun g=>Z g∧G g) w t,fun hz he h=>(TrT.keep h he fun g hg hn=>hn hg.1).mono fun g hg _=>⟨hz g hg.1,hg.2⟩⟩
def oA (G:bj) (ts:List Tr):ZP:=⟨fun Z w=>∀t ∈ ts,TrT (fun g=>Z g∧G g) w t,fun hz he h t ht=>(gT G t).st hz he (h t ht)⟩
section
variable {G F:bj} {Z:bj} {τ:Nat→bj} {w w':World} {t:Tr} {ts us:List Tr} {v:Value}
theorem Fz.s (h:Fz (gT G t) τ w):oO w t:=TrT.s h
theorem zs (h:(gT G t).P Z w):oO w t:=TrT.s h
theorem zl (h:(oA G ts).P Z w) (hs:SlT lY w v ts):TlS w v ts:=⟨hs,fun t ht=>TrT.s (h t ht)⟩
theorem Fz.l (h:Fz (oA G ts) τ w) (hs:SlT lY w v ts):TlS w v ts:=zl h hs
theorem Lu (h:(gT G t).P Z w):(oA G t.kids).P Z w:=fun k hk=>TrT.kid h hk
theorem Fz.kl (h:Fz (gT G t) τ w):Fz (oA G t.kids) τ w:=Lu h
theorem ze {i:Int} (h:(oA G ts).P Z w) (h0:0≤i) (h1:i < ts.length):(gT G (nth ts i)).P Z w:=h _ (bN h0 h1)
theorem Fz.e {i:Int} (h:Fz (oA G ts) τ w) (h0:0≤i) (h1:i < ts.length):Fz (gT G (nth ts i)) τ w:=ze h h0 h1
theorem Fz.tn (G:bj) (τ:Nat→bj) (w:World):Fz (oA G []) τ w:=fun t h=>by cases h
theorem Fz.snoc (h:Fz (oA G ts) τ w) (h2:Fz (gT G t) τ w):Fz (oA G (ts++ [t])) τ w:=fun x hx=>by
  rcases List.mem_append.1 hx with hx | hx
  · exact h x hx
  · simp at hx;subst hx;exact h2
theorem Fz.app (h:Fz (oA G ts) τ w) (h2:Fz (oA G us) τ w):Fz (oA G (ts++us)) τ w:=fun x hx=>by
  rcases List.mem_append.1 hx with hx | hx
  · exact h x hx
  · exact h2 x hx
theorem TrT.inz {n:Nat} {a:Act} {τ0:Nat→bj} (h:TrT F w t) (st:St (Nw w) w n a w τ0):Fz (gT (Gn F w) t) τ0 w:=TrT.mono h fun g hg hlt=>⟨⟨hlt,fun s hs=>by have:=(st.bnd s g hs).1;simp only [Nw] at this;omega⟩,.inl hg⟩
theorem TrT.inzs {n:Nat} {a:Act} {τ0:Nat→bj} (h:∀t ∈ ts,TrT F w t) (st:St (Nw w) w n a w τ0):Fz (oA (Gn F w) ts) τ0 w:=fun t ht=>(h t ht).inz st
theorem TrT.inT {n:Nat} {a:Act} {τ0:Nat→bj} {T:bj} (h:TrT F w t) (hF:∀g,F g→¬T g) (st:St (fun k=>T k∨w.heap.size≤k) w n a w τ0):Fz (gT (Gn F w) t) τ0 w:=TrT.mono h fun g hg hlt=>⟨⟨hlt,fun s hs=>by
  rcases (st.bnd s g hs).1 with h1 | h1
  · exact hF g hg h1
  · omega⟩,.inl hg⟩
theorem Fz.out (h:Fz (gT G t) τ w):TrT G w t:=TrT.mono h fun g hg _=>hg.2
theorem Fz.outs (h:Fz (oA G ts) τ w):∀t ∈ ts,TrT G w t:=fun t ht=>TrT.mono (h t ht) fun g hg _=>hg.2
theorem Fz.outo (h:Fz (oA G ts) τ w) {i:Nat} {v:Value} (hv:∀g,v.ownBlock=some g→τ i g):∀t ∈ ts,TrT (fun g=>G g∧v.ownBlock≠some g) w t:=fun t ht=>TrT.mono (h t ht) fun g hg _=>⟨hg.2,fun e=>hg.1.2 i (hv g e)⟩
end
section
variable {α:Type} {N:bj} {P:Program} {ops:Array Oper} {sp:List (Spec N)} {In:Nat→Ini N} {a0:Act} {w0:World} {bf:List Nat} {j:Nat} {o:Oper} {done:Nat→Bool} {a:Act} {w w' W:World} {τ τ0:Nat→bj} {F:bj} {t:Tr} {ts:List Tr} {n:Nat} {a1:Act}
theorem Cx.hW (c:Cx ops sp In a0 w0 bf j o done a w τ) (st:St N W n a1 w0 τ0):W.heap.size≤w.heap.size:=bE st.ext.size c.J.ext.size
theorem Cx.tz (c:Cx ops sp In a0 w0 bf j o done a w τ) (st:St N W n a1 w0 τ0) (hx:Ext aW w w') (h:TrT (Gn (fun g=>gO τ w g∧Gn F W g) w) w' t):(gT (Gn F W) t).P (gO τ w') w':=TrT.mono h (c.gz (c.hW st) hx.size)
theorem Cx.tn (c:Cx ops sp In a0 w0 bf j o done a w τ) (st:St N W n a1 w0 τ0) (hx:Ext aW w w') (h:TrT (Gn aW w) w' t):(gT (Gn F W) t).P (gO τ w') w':=c.tz st hx (h.mono fun g hg _=>hg.elim (fun h=>h.elim) .inr)
theorem Cx.tzo {tag:Nat} {v:Value} {E:Enc α} {ty:Nat} {xs:List α} (c:Cx ops sp In a0 w0 bf j o done a w τ) (st:St N W n a1 w0 τ0) (hx:Ext aW w w') (hv:su E ty w w' v xs) (h:∀t ∈ ts,TrT (fun g=>Gn (fun g=>gO τ w g∧Gn F W g) w g∧v.ownBlock≠some g) w' t):(oA (Gn F W) ts).P (gO (qF τ tag fun g=>v.ownBlock=some g) w') w':=fun t ht=>TrT.mono (h t ht) (c.gzo (c.hW st) hx.size hv.2)
theorem Cx.tno {tag:Nat} {v:Value} {E:Enc α} {ty:Nat} {xs:List α} (c:Cx ops sp In a0 w0 bf j o done a w τ) (st:St N W n a1 w0 τ0) (hx:Ext aW w w') (hv:su E ty w w' v xs) (h:∀t ∈ ts,TrT (fun g=>Gn aW w g∧v.ownBlock≠some g) w' t):(oA (Gn F W) ts).P (gO (qF τ tag fun g=>v.ownBlock=some g) w') w':=c.tzo st hx hv fun t ht=>(h t ht).mono fun g hg _=>⟨hg.1.elim (fun h=>h.elim) .inr,hg.2⟩
theorem Cx.sn {v:Value} {E:Enc α} {ty:Nat} {xs:List α} (c:Cx ops sp In a0 w0 bf j o done a w τ) (st:St N W n a1 w0 τ0) (hx:Ext aW w w') (h:su E ty w w' v xs):(fb E (Gn F W) v xs).P (gO τ w') w':=⟨h.1.sl,fun hn=>by
  have hlt:=h.1.sl.lt hn;have hge:w.heap.size≤(ee v).block:=by
    rcases h.1.2 with ⟨_,h0⟩ | ⟨g,cap,cur,hv,_⟩
    · exact absurd (cg h0) hn
    · subst hv;exact h.2 g rfl
  exact c.gz (c.hW st) hx.size _ (.inr hge) hlt⟩
end
theorem ep.blk {α:Type} {E:Enc α} {ty:Nat} {xs:List α} {T:bj} {v:Value} {w:World} (h:ep E ty xs T v w) (hn:xs≠ []):T (ee v).block:=by
  rcases h.1.2 with ⟨_,h0⟩ | ⟨g,cap,cur,hv,_⟩
  · exact absurd (cg h0) hn
  · subst hv;exact h.2 g rfl
theorem qh {G Z:bj} {w:World}:(oA G []).P Z w:=fun t h=>by cases h
theorem ly {G Z:bj} {w:World} {t:Tr} {ts:List Tr} (h:(gT G t).P Z w) (h2:(oA G ts).P Z w):(oA G (t::ts)).P Z w:=fun x hx=>by
  rcases List.mem_cons.1 hx with hx | hx
  · subst hx;exact h
  · exact h2 x hx
def dQ (k:Int) (ch:ByteArray) (ng:Bool) (mn mx:Int) (lz:Bool):Tr:=⟨k,ch,ng,Sv.nil,[],mn,mx,lz,Sv.nil,[]⟩
theorem eQ (F:bj) (w:World) (k:Int) (ch:ByteArray) (ng:Bool) (mn mx:Int) (lz:Bool):TrT F w (dQ k ch ng mn mx lz):= .mk (SlT.nil _ _) (fun h=>absurd rfl h) (SlT.nil _ _) (fun h=>absurd rfl h) (fun k h=>by cases h)
def lE (k:Int) (ks:List Tr):Tr:=⟨k,⟨#[]⟩,false,Sv.nil,[],0,0,false,Sv.nil,ks⟩
def iI (k:Int) (l:List Tr):List Tr:=l.flatMap fun x=>if x.k=k then x.kids else [x]
def jQ (l:List Tr):Tr:=match iI 0 l with
  | [x] => x
  | ks => lE 0 ks
def lP (l:List Tr):Tr:=match iI 1 l with
  | [] => lE 0 []
  | [x] => x
  | ks => lE 1 ks
theorem qi (k:Int) (l:List Tr) (x:Tr):iI k (l++ [x])=iI k l++if x.k=k then x.kids else [x]:=by simp [iI]
theorem sX {ts xs us:List Tr} {k:Int} {n:Nat} (h:n < xs.length) (hq:ts.map er=iI k ((xs.take n).map er)) {t:Tr} (ht:er t=er (nth xs (n:Int))) (hk:t.k=k) (hu:us=t.kids):(ts++us).map er=iI k ((xs.take (n+1)).map er):=by
  subst hu;rw [eH h,aP,aP,aB,aH,qi,←ht,BA,if_pos hk,←hq,oP]
theorem rH {ts xs:List Tr} {k:Int} {n:Nat} (h:n < xs.length) (hq:ts.map er=iI k ((xs.take n).map er)) {t:Tr} (ht:er t=er (nth xs (n:Int))) (hk:¬t.k=k):(ts++ [t]).map er=iI k ((xs.take (n+1)).map er):=by
  rw [eH h,aP,aP,aB,aH,aB,aH,qi,←ht,BA,if_neg hk,←hq]
theorem wm (t:Tr):(t.kids.length:Int)+1≤di t:=by
  have h:∀ks:List Tr,(ks.length:Int)≤dH (ks.map di):=by
    intro ks;induction ks using gC with
    | h0 => exact fJ _
    | h1 ks x ih =>
      rw [aP,aB,aH,fQ,aQ];have:=kE x;simp;omega
  have:=iG t;have:=h t.kids;omega
def Ah (rs:List (ByteArray × ByteArray)):Int:=dH (rs.map fun r=>1+(r.1.size:Int)+(r.2.size:Int))
def fc:Tr→Int:=oi fun t l=>1+(t.ch.size:Int)+Ah t.rows+dH l
theorem ns (t:Tr):fc t=1+(t.ch.size:Int)+Ah t.rows+dH (t.kids.map fc):=kN _ t
theorem rI (rs:List (ByteArray × ByteArray)):(rs.length:Int)≤Ah rs:=by
  unfold Ah;induction rs using gC with
  | h0 => exact fJ _
  | h1 rs r ih => rw [aP, aB, aH, fQ, aQ]; simp; omega
theorem HC {rs:List (ByteArray × ByteArray)} {r:ByteArray × ByteArray} (h:r ∈ rs):(r.1.size:Int)+(r.2.size:Int)≤Ah rs:=by
  have:=wk (xs:=rs.map fun r=>1+(r.1.size:Int)+(r.2.size:Int)) (fun x hx=>by obtain ⟨q,_,rfl⟩:=List.mem_map.1 hx;omega) (List.mem_map.2 ⟨r,h,rfl⟩);unfold Ah;omega
theorem nF (t:Tr):1≤fc t:=by
  induction t using Tr.ind with
  | h t ih =>
    rw [ns];have:0≤dH (t.kids.map fc):=kM fun x hx=>by
      obtain ⟨k,hk,rfl⟩:=List.mem_map.1 hx;have:=ih k hk;omega
    have:=rI t.rows;omega
theorem sY {t k:Tr} (h:k ∈ t.kids):fc k < fc t:=by
  have h1:=mR (f:=fc) (fun q _=>by have:=nF q;omega) h;have:=ns t;have:=rI t.rows;omega
theorem wn (t:Tr):fc (er t)=fc t:=qV (fun t l=>by cases t;rfl) t
theorem wo (t:Tr):di t≤fc t:=by
  induction t using Tr.ind with
  | h t ih =>
    have h1:∀ks:List Tr,(∀k ∈ ks,di k≤fc k)→dH (ks.map di)≤dH (ks.map fc):=by
      intro ks;induction ks using gC with
      | h0 => intro _; exact fJ _
      | h1 ks x ih2 =>
        intro h;rw [aP,aP,aB,aH,aB,aH,fQ,fQ];have:=ih2 fun k hk=>h k (by simp [hk]);have:=h x (by simp);omega
    have:=h1 t.kids ih;have:=rI t.rows;rw [iG,ns];omega
theorem fG (t:Tr):(t.kids.length:Int)+1≤fc t∧(t.rows.length:Int)≤fc t∧di t≤fc t∧(t.ch.size:Int)≤fc t:=by
  have h0:=rI t.rows;have h1:=wm t;have h2:=wo t;have h3:=ns t;have h4:0≤dH (t.kids.map fc):=kM fun x hx=>by
    obtain ⟨k,hk,rfl⟩:=List.mem_map.1 hx;have:=nF k;omega
  omega
theorem Ai {t u:Tr} (h:er t=er u):fc t=fc u:=by rw [←wn t,h,wn]
theorem HD {t u:Tr} (h:er t=er u):t.kids.length=u.kids.length:=by
  have:=congrArg (fun x=>x.kids.length) h;simpa [oP] using this
theorem Fy (k:Int) (l:List Tr):(((iI k l).length:Nat):Int)≤dH (l.map di):=by
  induction l using gC with
  | h0 => exact fJ _
  | h1 l x ih =>
    rw [qi,aP,aB,aH,fQ,aQ];have h1:=wm x;have h2:=kE x;split <;> simp <;> omega
theorem DV (l:List Tr):(l.map er).map di=l.map di:=by
  rw [ny];exact kb fun t _=>DU t
theorem DW {ts xs:List Tr} {k:Int} {n:Nat} (hq:ts.map er=iI k ((xs.take n).map er)):(ts.length:Int)≤dH ((xs.take n).map di):=by
  have h1:=Fy k ((xs.take n).map er);rw [←hq,DV] at h1;simpa using h1
theorem CR {ts l:List Tr} (h:ts.map er=iI 0 l) (h1:ts.length=1):er (nth ts 0)=jQ l:=by
  match ts,h1 with
  | [x], _ =>
    unfold jQ;rw [←h];rfl
theorem Aj {ts l:List Tr} (h:ts.map er=iI 0 l) (h1:¬ts.length=1):lE 0 (ts.map er)=jQ l:=by
  unfold jQ;rw [←h];match ts,h1 with
  | [], _ => rfl
  | [x], h1 => exact absurd rfl h1
  | x :: y :: l, _ => rfl
theorem Ak {ts l:List Tr} (h:ts.map er=iI 1 l) (h1:ts.length=0):lE 0 []=lP l:=by
  match ts,h1 with
  | [], _ =>
    unfold lP;rw [←h];rfl
theorem CS {ts l:List Tr} (h:ts.map er=iI 1 l) (h1:ts.length=1):er (nth ts 0)=lP l:=by
  match ts,h1 with
  | [x], _ =>
    unfold lP;rw [←h];rfl
theorem Am {ts l:List Tr} (h:ts.map er=iI 1 l) (h0:¬ts.length=0) (h1:¬ts.length=1):lE 1 (ts.map er)=lP l:=by
  unfold lP;rw [←h];match ts,h0,h1 with
  | [], h0, _ => exact absurd rfl h0
  | [x], _, h1 => exact absurd rfl h1
  | x :: y :: l, _, _ => rfl
theorem yx {G:bj} {w:World} {T:bj} {kv:Sv} {ty:Nat} {ts:List Tr} {k:Int} (ho:ep lY ty ts T kv.v w) (hT:∀g,T g→G g) (ht:∀t ∈ ts,TrT G w t):TrT G w ⟨k,⟨#[]⟩,false,Sv.nil,[],0,0,false,kv,ts⟩:=
  .mk (SlT.nil _ _) (fun h=>absurd rfl h) ho.1.sl (fun hn=>hT _ (ho.blk hn)) ht
theorem CT {k:Int} {kv:Sv} {ts:List Tr}:er ⟨k,⟨#[]⟩,false,Sv.nil,[],0,0,false,kv,ts⟩=lE k (ts.map er):=by rw [qS];rfl
def eF (k:Int) (ch:ByteArray) (ng:Bool) (mn mx:Int) (lz:Bool) (kv:Sv) (ks:List Tr):Tr:=⟨k,ch,ng,Sv.nil,[],mn,mx,lz,kv,ks⟩
theorem lJ (k:Int) (ch:ByteArray) (ng:Bool) (mn mx:Int) (lz:Bool) (kv:Sv) (ks:List Tr):er (eF k ch ng mn mx lz kv ks)=eF k ch ng mn mx lz Sv.nil (ks.map er):=by rw [qS];rfl
theorem qA {G Z:bj} {w:World} {k:Int} {ch:ByteArray} {ng:Bool} {mn mx:Int} {lz:Bool} {kv:Sv} {ks:List Tr} (h:(fb lY G kv.v ks).P Z w) (h2:(oA G ks).P Z w):(gT G (eF k ch ng mn mx lz kv ks)).P Z w:=
  .mk (SlT.nil _ _) (fun h=>absurd rfl h) h.1 h.2 h2
section
variable {N:bj} {P:Program} {ops:Array Oper} {sp:List (Spec N)} {In:Nat→Ini N} {a0:Act} {w0 W:World} {bf:List Nat} {j:Nat} {o:Oper} {s:Spec N} {pc:Prop} {n0:Nat} {a1:Act} {τ0:Nat→bj} {F:bj} {β:Type}
theorem oR {α:Type} {E:Enc α} {ty e t n:Nat} {xs:List α} {parts:Array (Nat × Operand)} {z:Value} {cells:Array Value} (st:St N W n0 a1 w0 τ0) (hgd:zF ops sp bf j o pc) (ho:o.op= .buildSlice ty n parts)
    (hty:P.underlying ty=some (.slice e)) (hsz:∀w,(sizeOf e).run P w= .ok E.sz w) (hz:∀w,(zeroValue e).run P w= .ok z w) (hn0:0 < n) (hsmall:n * E.sz≤16777216) (hn:n=xs.length) (hc:cells.toList=E.row xs)
    (h:∀{done a w τ},Cx ops sp In a0 w0 bf j o done a w τ→pc→Instr.fill (fun i=>some (i * E.sz,E.sz)) ((Array.range (n * E.sz)).map (z.cells[· % z.cells.size]!)) (parts.map fun (i,x)=>(i,a.eval x)).toList=some cells)
    (hs:s=iA N t pc (fun b:Sv=>b.v) (fun _=>True) (fun b=>fb E (Gn F W) b.v xs):=by exact rfl) (hd:o.dst=some t:=by exact rfl):Ob ops sp In a0 w0 P bf j o s:=by
  subst hs;intro done a w τ c;refine ⟨fun hw=> ?_,fun hw=>⟨Ext.refl _ _,fun hp=>by rw [(hgd.known c).2 hp] at hw;cases hw⟩⟩;have hp:=(hgd.known c).1 hw;have hf:=h c hp;have h2:¬(n * E.sz > 2 ^ 24):=by omega
  have h0:¬(n * E.sz=0):=by have:=Nat.mul_pos hn0 E.pos;omega
  have hr:(execOp a.eval o).run P w= .ok (.value (.slice (some ⟨w.heap.size,0,none⟩) n n)) (w.alloc (.cells cells e)):=by
    simp only [execOp,ho,Instr.buildSlice,Sem.run_bind,run_underlying hty,Result.andThen_ok,hsz,h2,if_false,Sem.run_pure,h0,hz];rw [hf];rfl
  have hl:cells.size=n * E.sz:=by rw [←gD,hc,E.row_length,←hn]
  have hown:iD E e (w.alloc (.cells cells e)) (.slice (some ⟨w.heap.size,0,none⟩) n n) xs:=⟨E.row_length xs,.inr ⟨w.heap.size,n,cells,by rw [←hn],dC _,heap_alloc_new w _,by rw [←hn];exact bz _,by have:=lR n E.pos;simp only [maxLen];omega,hl,by rw [hc,←E.row_length];exact pp⟩⟩;have hx:Ext aW w (w.alloc (.cells cells e)):=Ext.alloc _ _ _;refine iu hr ⟨_,rfl,hx,fun _=>⟨⟨some ⟨w.heap.size,0,none⟩,n,n⟩,?_,av,?_⟩⟩
  · show be (a.put o.dst _) t=_;rw [hd,eJ a t t _ (c.lt t hd),if_pos rfl];rfl
  · exact c.sn st hx ⟨hown,fun g hg=>by have hg':some w.heap.size=some g:=hg;simp only [Option.some.injEq] at hg';omega⟩
theorem FA {t:Nat} {f:β→Value} {Ψ:β→Prop} {Φ:β→ZP} (hgd:zF ops sp bf j o pc) (h:∀{done a w τ},Cx ops sp In a0 w0 bf j o done a w τ→pc→∃b,Ψ b∧(Φ b).P (gO τ w) w∧cA P a o w (f b))
    (hs:s=iA N t pc f Ψ Φ:=by exact rfl) (hd:o.dst=some t:=by exact rfl):Ob ops sp In a0 w0 P bf j o s:=by
  subst hs;intro done a w τ c;refine ⟨fun hw=> ?_,fun hw=>⟨Ext.refl _ _,fun hp=>by rw [(hgd.known c).2 hp] at hw;cases hw⟩⟩;obtain ⟨b,hq,hz,hr⟩:=h c ((hgd.known c).1 hw);refine pU hr ⟨_,rfl,Ext.refl _ _,fun _=>⟨b,?_,hq,hz⟩⟩;show be (a.put o.dst _) t=_;rw [hd,eJ a t t _ (c.lt t hd),if_pos rfl]
end
theorem bC:dH []=0:=rfl
theorem bk (x:Int) (l:List Int):dH (x::l)=x+dH l:=by
  rw [show x::l=[x]++l from rfl,cu];simp [dH]
theorem bM (k:Int) (ch:ByteArray) (ng:Bool) (mn mx:Int) (lz:Bool):fc (dQ k ch ng mn mx lz)=1+(ch.size:Int):=by rw [ns];simp [dQ,Ah,dH]
theorem bP (k:Int) (ch:ByteArray) (ng:Bool) (mn mx:Int) (lz:Bool) (kv:Sv) (ks:List Tr):fc (eF k ch ng mn mx lz kv ks)=1+(ch.size:Int)+dH (ks.map fc):=by rw [ns];simp [eF,Ah,dH]
theorem FB (k:Int) (ks:List Tr):fc (lE k ks)=1+dH (ks.map fc):=by
  rw [ns];have h:((⟨#[]⟩:ByteArray).size:Int)=0:=rfl;simp [lE,Ah,dH,h]
theorem CU (k:Int) (l:List Tr):dH ((iI k l).map fc)≤dH (l.map fc):=by
  induction l using gC with
  | h0 => exact fJ _
  | h1 l x ih =>
    rw [qi,aP,aP,aB,aH,cu,fQ];have h1:=ns x;have h2:=rI x.rows;split
    · omega
    · rw [aB,aH];simp [dH] at ih ⊢;omega
theorem uq (l:List Tr):(l.map er).map fc=l.map fc:=by
  rw [ny];exact kb fun t _=>wn t
theorem BC (l:List Tr):fc (jQ l)≤1+dH (l.map fc):=by
  have h:=CU 0 l;unfold jQ;split
  · rename_i x hx;rw [hx] at h;simp [dH] at h ⊢;omega
  · rename_i ks _;rw [FB];omega
theorem FC (l:List Tr):fc (lP l)≤1+dH (l.map fc):=by
  have h:=CU 1 l;unfold lP;split
  · rename_i hx;rw [hx] at h;rw [FB];simp [dH] at h ⊢;omega
  · rename_i x hx;rw [hx] at h;simp [dH] at h ⊢;omega
  · rename_i ks _ _;rw [FB];omega
theorem rJ {t:Tr} {l:List Tr} (h:er t=jQ (l.map er)):fc t≤1+dH (l.map fc):=by
  have:=BC (l.map er);rw [uq] at this
  rw [←wn t,h];exact this
theorem vo {t:Tr} {l:List Tr} (h:er t=lP (l.map er)):fc t≤1+dH (l.map fc):=by
  have:=FC (l.map er);rw [uq] at this
  rw [←wn t,h];exact this
end
section
open Go.RowKit
open Srt
set_option maxRecDepth 100000 in
theorem An (v:Value) (xs:List (ByteArray × ByteArray)) (w:World) (hS:SlT fx w v xs) (hb:xs.length≤1000000000):Calls Tryz.prog 103 #[v] w (fun e w'=>∃v',e= .returned v'∧Ext aW w w'∧su fx 89 w w' v' xs):=by
 refine enter (n:=8) Tryz.func103 rfl rfl (aw rfl) ?_;intro a0 τ0 ha st0;have e0:=oz ha;have hle:=hS.le;refine wp_seq (eK st0 [] ⟨aq fun c=>ax rfl rfl,av⟩ fun ac ag ae ab aa=> ?_);replace e0:=aa.k1 e0;have e2:=aa.V 0;refine wp_seq ?_;refine wp_seq (eA ab [] ⟨ao e0,aq fun c=>Ct rfl br (c.q 0) hS.sl,av⟩ fun ac ag ae ab aa=> ?_);obtain ⟨e0,e2⟩:=aa.k2 e0 e2;have e4:=aa.V 1;refine wp_cond_split e4 (fun hc1=> ?_) (fun hc1=> ?_)
 · skip;refine wp_seq (eK ab [] ⟨aq fun c=>ax rfl rfl,av⟩ fun ac ag ae ab aa=> ?_);replace e0:=aa.k1 e0;have e2:=aa.V 0;refine wp_ret ?_;refine rp ?_;refine cO (fn:=Tryz.f103) rfl ab.defers e2 ?_;have hnil:xs=[]:=hS.isNil (by assumption);subst hnil;exact ⟨_,rfl,ab.ext0,iD.nil _ _ _,fun g_ h_=>by simp [Value.ownBlock] at h_⟩
 skip;refine wp_skip ?_;refine wp_seq ?_;refine rg [own fx 89 _ 0 5 ([]),_,own _ _ _ 0 7 _,own _ _ _ 0 2 _] [0,0,3,7] ab [] ⟨rZ rfl rfl rfl rfl br bq,ao e0,fF (t0:=5) rfl rfl rfl rfl br (i:=Tryz.t89) rfl rfl rfl rfl (by simp only [maxLen];(try simp);omega) (by show _ * 32≤_;(try simp);omega) (fun _ _ _ _ c=>⟨c.ro 0 rfl,rfl,⟨_,(c.n 1 rfl),(hS.at (ab.ext.trans c.J.ext))⟩⟩),eP (t0:=7) rfl rfl rfl rfl rfl (.inr rfl) (fun _ _ _ _ c=>⟨c.ro 2 rfl,rfl⟩),av⟩ fun ac ag ae ab aa=> ?_;obtain ⟨b4x2,e2⟩:=gx ac 2;have r0:=aa.ro 3 e2 rfl;refine wp_ret ?_;refine rp ?_;refine cO (fn:=Tryz.f103) rfl ab.defers e2 ?_;rw [eN] at r0;exact ⟨_,rfl,ab.ext0,r0.1,fun g_ h_=>(ab.bnd _ g_ (r0.2 g_ h_)).1⟩
set_option maxRecDepth 100000 in
theorem BD (t:Tr) (ih:∀k ∈ t.kids,∀(w:World),oO w k→fc k≤1000000→Calls Tryz.prog 78 #[k.v] w (fun e w'=>∃t':Tr,e= .returned t'.v∧Ext aW w w'∧TrT (Gn aW w) w' t'∧er t'=er k)) (w:World) (hT:oO w t) (hP:fc t≤1000000):Calls Tryz.prog 78 #[t.v] w (fun e w'=>∃t':Tr,e= .returned t'.v∧Ext aW w w'∧TrT (Gn aW w) w' t'∧er t'=er t):=by
 refine enter (n:=26) Tryz.func78 rfl rfl (aw rfl) ?_;intro a0 τ0 ha st0;have e0:be a0 0=(ta t):=ha 0 _ rfl;clear ha;have hle:=hT.kids.le;have hwt:=fG t;have hpk:∀k:Nat,k < t.kids.length→fc (nth t.kids (k:Int))≤1000000:=fun k h_=>by have h1_:=sY (bN (xs:=t.kids) (i:=(k:Int)) (by omega) (by omega));omega
 refine wp_seq (rg [box _ _ 0 1 (tc t),box _ _ 1 2 [(aj 0),(bc (⟨#[]⟩:ByteArray)),(aE false),(.slice none 0 0),(aj 0),(aj 0),(aE false),(.slice none 0 0)]] [0,0] st0 [] ⟨hH (v:=(ta t)) rfl rfl rfl rfl rfl (fun _ _ _ _ c=>(c.p e0)),bO rfl rfl rfl rfl aD rfl,av⟩ fun ac ag ae ab aa=> ?_);obtain ⟨b1x1,e1⟩:=gx ac 1;obtain ⟨b1x2,e2⟩:=gx ac 2;have r0:=aa.rb 0 e1 rfl;have r1:=aa.rb 1 e2 rfl;refine wp_seq ?_;refine aY ?_;refine bV 3 (by kernel_rfl) ?_;refine og [_,_,gE _ 8 (fun b:Sv=>b.v) (fun _=>True) (fun b:Sv=>fb fx (Gn aW w) b.v t.rows)] [0,1,3] ab [jb r0,jb r1] ⟨cK aJ fl e1 r0.ptr,fE jk 0 0 3,eT (f:=fun b:Sv=>b.v) (Ψ:=fun _=>True) (Φ:=fun b:Sv=>fb fx (Gn aW w) b.v t.rows) fun {_ a_ _ _} c=>⟨_,_,(bK rfl rfl Tryz.call103 (c.q 1)),(An t.rv.v t.rows _ (hT.at (ab.ext.trans c.J.ext)).rows (by omega)).mono (fun e w' ⟨v_,he_,hx_,hn_⟩=>by obtain ⟨s_,rfl⟩:=hn_.1.sl.sl.sv;exact ⟨s_,he_,hx_,av,c.sn ab hx_ hn_⟩)⟩,av⟩ fun ac ag ae ab aa=> ?_;obtain ⟨e1,e2⟩:=aa.k2 e1 e2;obtain ⟨rw1_,e8,-,hz2⟩:=aa.zd 2 rfl;have e8:be ac 8=rw1_.v:=e8;replace r0:=aa.B 0;replace r1:=aa.B 1;have r2:=hz2;refine bW ?_;refine og [_,_] [0,1] ab [jb r0,jb r1,jz 2 r2] ⟨cK aJ fl e1 r0.ptr,cp (cx:=[(aj t.k),(bc t.ch),(aE t.ng),rw1_.v,(aj t.mn),(aj t.mx),(aE t.lz),t.kv.v]) fl fun c=>⟨c.bp 0 rfl e1,c.ad (c.q 0) e1 rfl,(c.p e8)⟩,av⟩ fun ac ag ae ab aa=> ?_;obtain ⟨e1,e2⟩:=aa.k2 e1 e2;replace r0:=aa.RB 1 e1;replace r1:=aa.B 1;replace r2:=aa.z1 2;refine wp_seq (eK ab [jb r0,jb r1,jz 2 r2] ⟨aq fun c=>ax rfl rfl,av⟩ fun ac ag ae ab aa=> ?_);obtain ⟨e1,e2⟩:=aa.k2 e1 e2;have e3:=aa.V 0;replace r0:=aa.B 0;replace r1:=aa.B 1;replace r2:=aa.z1 2;refine wp_seq ?_;refine wp_seq (lr [0,1,3,0] ab [jb r0,jb r1,jz 2 r2] ⟨cK aJ cR e1 r0.ptr,fE dG 0 0 7,aq fun c=>dk rfl aU (c.q 1) (hT.at ab.ext).tl.sl.sl,aq fun c=>aS rfl rfl,av⟩ fun ac ag ae ab aa=> ?_);obtain ⟨e1,e2,e3⟩:=aa.k3 e1 e2 e3;have e11:=aa.V 1;have e12:=aa.V 2;have e13:=aa.V 3;replace r0:=aa.B 0;replace r1:=aa.B 1;replace r2:=aa.z1 2;refine wp_block ?_;refine wp_loop (fun a_ w_=>∃(k:Nat) (u:Value) (ts:List Tr) (τ:Nat→bj),(k≤t.kids.length)∧
      (ts.map er=(t.kids.take k).map er)∧
      St (Nw w) w 26 a_ w_ τ∧
      be a_ 3=u∧
      be a_ 13=(aj (k:Int))∧
      be a_ 1=b1x1∧
      be a_ 2=b1x2∧
      be a_ 11=t.kv.v∧
      be a_ 12=(aj (t.kids.length:Int))∧
      ep lY 25 ts (τ 5) u w_∧
      Fz (oA (Gn aW w) ts) τ w_∧
      cH 25 [(aj t.k),(bc t.ch),(aE t.ng),rw1_.v,(aj t.mn),(aj t.mx),(aE t.lz),t.kv.v] (τ 0) b1x1 w_∧
      cH 25 [(aj 0),(bc (⟨#[]⟩:ByteArray)),(aE false),(.slice none 0 0),(aj 0),(aj 0),(aE false),(.slice none 0 0)] (τ 1) b1x2 w_∧
      Fz (fb fx (Gn aW w) rw1_.v t.rows) τ w_) (fun a_ _=>t.kids.length - (intOf (be a_ 13)).toNat) ?_ ?_
 · refine ⟨0,(.slice none 0 0),[],ae,?_,?_,ab,e3,(e13.trans (bB (by omega))),e1,e2,e11,e12,?_,?_,r0,r1,r2⟩
   · omega
   · simp
   · exact ep.nil _ _ _ _
   · exact Fz.tn _ _ _
 intro a6 w6 hI;obtain ⟨k,u,ts,τ6,q0,q1,st6,e3,e13,e1,e2,e11,e12,r5,r6,r0,r1,r2⟩:=hI;have hpk0:=hpk k;have htl:ts.length=k:=by have h_:=congrArg List.length q1;simp at h_;omega
 have m13:=e13;refine wp_seq (eK st6 [jb r0,jb r1,jz 2 r2,jo r5,jz 6 r6] ⟨aq fun c=>cW rfl (c.p e13) (c.p e12),av⟩ fun ac ag ae ab aa=> ?_);obtain ⟨e1,e2,e3,e11,e12,e13⟩:=aa.k6 e1 e2 e3 e11 e12 e13;have e14:=aa.V 0;replace r0:=aa.B 0;replace r1:=aa.B 1;obtain ⟨r2,r6⟩:=aa.z2 2 6;replace r5:=aa.O 5;refine wp_seq ?_;refine wp_cond_split e14 (fun hc1=> ?_) (fun hc1=> ?_)
 · try simp only [ai] at hc1
   refine wp_skip ?_;refine wp_seq ?_;refine wp_block ?_;refine wp_seq (rg [_,_,box _ _ 3 5 [(aj 0),(bc (⟨#[]⟩:ByteArray)),(aE false),(.slice none 0 0),(aj 0),(aj 0),(aE false),(.slice none 0 0)],_] [0,1,0,7] ab [jb r0,jb r1,jz 2 r2,jo r5,jz 6 r6] ⟨aq fun c=>aX rfl aU ak (c.p e11) (hT.at ab.ext).tl.sl.sl (c.p e13) (by omega) (by omega),aq fun c=>cq (vs:=(tc (nth t.kids (k:Int)))) rfl az ak (c.q 0) rfl (fun _ _ hj=>((hT.at (ab.ext.trans c.J.ext)).tl.sl).elem (bF (i:=(k:Int)) (by omega) (by omega)) hj),bO rfl rfl rfl rfl aD rfl,ey (cx:=(tc (nth t.kids (k:Int)))) (off:=0) rfl ak fun c=>⟨c.rb 2 rfl,(c.rb 2 rfl).ptr,(c.q 1)⟩,av⟩ fun ac ag ae ab aa=> ?_);obtain ⟨b8x5,e5⟩:=gx ac 5;obtain ⟨e1,e2,e3,e11,e12,e13,e14⟩:=aa.k7 e1 e2 e3 e11 e12 e13 e14;replace r0:=aa.B 0;replace r1:=aa.B 1;replace r2:=aa.z1 2;have r3:=aa.rb 3 e5 rfl;replace r5:=aa.O 5;replace r6:=aa.z1 6;refine aY ?_;refine bV 3 (by kernel_rfl) ?_;refine og [_,_,gE _ 19 (fun b:Tr=>b.v) (fun b:Tr=>er b=er (nth t.kids (k:Int))) (fun b:Tr=>gT (Gn aW w) b)] [0,0,2] ab [jb r0,jb r1,jz 2 r2,jb r3,jo r5,jz 6 r6] ⟨ao e3,aq fun c=>dY rfl az ak ((c.p e5).trans r3.ptr) (c.B 3),eT (f:=fun b:Tr=>b.v) (Ψ:=fun b:Tr=>er b=er (nth t.kids (k:Int))) (Φ:=fun b:Tr=>gT (Gn aW w) b) fun {_ a_ _ _} c=>⟨_,_,(bK rfl rfl Tryz.call78 (c.q 1)),(ih _ (bN (by omega) (by omega)) _ ((hT.at (ab.ext.trans c.J.ext)).tl.el (by omega) (by omega)) (by omega)).mono (fun e w' ⟨t_,he_,hx_,ht_,hq_⟩=>⟨t_,he_,hx_,hq_,c.tn ab hx_ ht_⟩)⟩,av⟩ fun ac ag ae ab aa=> ?_;obtain ⟨e1,e2,e3,e5,e11,e12,e13,e14⟩:=aa.k8 e1 e2 e3 e5 e11 e12 e13 e14;have e17:=aa.V 0;obtain ⟨t2_,e19,hqt2_,hz9⟩:=aa.zd 2 rfl;have e19:be ac 19=(ta t2_):=e19;replace r0:=aa.B 0;replace r1:=aa.B 1;obtain ⟨r2,r6⟩:=aa.z2 2 6;replace r3:=aa.B 3;replace r5:=aa.O 5;have r4:=hz9;refine bW ?_;refine og [own lY 25 _ 7 20 ([t2_]),own _ _ _ 5 21 _,own _ _ _ 5 3 _] [0,1,3] ab [jb r0,jb r1,jz 2 r2,jb r3,jz 4 r4,jo r5,jz 6 r6] ⟨dt (cells:=#[(aj t2_.k),(bc t2_.ch),(aE t2_.ng),t2_.rv.v,(aj t2_.mn),(aj t2_.mx),(aE t2_.lz),t2_.kv.v]) rfl rfl rfl rfl aU ak aD rfl (by decide) (by decide) (fun _ _ _ _ c=>gB (c.p e19) (by kernel_rfl)) rfl,fF (t0:=3) rfl rfl rfl rfl aU (i:=Tryz.t25) rfl rfl rfl rfl (by simp only [maxLen];(try simp);omega) (by show _ * 104≤_;(try simp);omega) (fun _ _ _ _ c=>⟨c.ip 5 rfl e3,c.sm (c.p e17) e3,⟨_,rfl,(c.ro 0 rfl).1.sl⟩⟩),eP (t0:=21) rfl rfl rfl rfl rfl (.inr rfl) (fun _ _ _ _ c=>⟨c.ro 1 rfl,rfl⟩),av⟩ fun ac ag ae ab aa=> ?_;obtain ⟨b10x20,e20⟩:=gx ac 20;obtain ⟨b10x3,e3⟩:=gx ac 3;obtain ⟨e1,e2,e5,e11,e12,e13,e14⟩:=aa.k7 e1 e2 e5 e11 e12 e13 e14;replace r0:=aa.B 0;replace r1:=aa.B 1;obtain ⟨r2,r4,r6⟩:=aa.z3 2 4 6;replace r3:=aa.B 3;replace r5:=aa.ro 2 e3 rfl;have r7:=aa.ro 0 e20 rfl;show _;refine eA ab [jb r0,jb r1,jz 2 r2,jb r3,jz 4 r4,jo r5,jz 6 r6,jo r7] ⟨aq fun c=>cN rfl (c.p e13) rfl (by omega),bD 0,av⟩ fun ac ag ae ab aa=> ?_;obtain ⟨e1,e2,e3,e5,e11,e12,e14⟩:=aa.k7 e1 e2 e3 e5 e11 e12 e14;have e13:=aa.V 1;replace r0:=aa.B 0;replace r1:=aa.B 1;obtain ⟨r2,r4,r6⟩:=aa.z3 2 4 6;replace r3:=aa.B 3;replace r5:=aa.O 5;replace r7:=aa.O 7;refine ⟨⟨k+1,b10x3,ts++ [t2_],ae,?_,?_,ab,e3,(e13.trans (bB (by omega))),e1,e2,e11,e12,?_,?_,r0,r1,r2⟩,?_⟩
   · omega
   · rw [eH (by omega),aP,aP,q1];simp [*]
   · exact r5.cast (by rfl)
   · exact Fz.snoc r6 r4
   · simp only [m13,e13,intOf];omega
 try simp only [ah,aV] at hc1
 refine wp_exit ?_;repeat (with_reducible refine cy ?_)
 refine cC ?_;refine wp_seq ?_;obtain ⟨kv0,rfl⟩:=r5.isSl.sv;refine fX ab [jb r0,jb r1,jz 2 r2,jo r5,jz 6 r6] ⟨ao e3,cK aJ cR e1 r0.ptr,cp (cx:=[(aj t.k),(bc t.ch),(aE t.ng),rw1_.v,(aj t.mn),(aj t.mx),(aE t.lz),kv0.v]) cR fun c=>⟨c.bp 0 rfl e1,c.ad (c.q 1) e1 rfl,(c.q 0)⟩,av⟩ fun ac ag ae ab aa=> ?_;obtain ⟨e1,e2⟩:=aa.k2 e1 e2;replace r0:=aa.RB 2 e1;replace r1:=aa.B 1;obtain ⟨r2,r6⟩:=aa.z2 2 6;replace r5:=aa.O 5;refine wp_seq (eA ab [jb r0,jb r1,jz 2 r2,jo r5,jz 6 r6] ⟨aq fun c=>dY rfl az ak ((c.p e1).trans r0.ptr) (c.B 0),cp (cx:=[(aj t.k),(bc t.ch),(aE t.ng),rw1_.v,(aj t.mn),(aj t.mx),(aE t.lz),kv0.v]) (off:=0) ak fun c=>⟨c.bp 1 rfl e2,c.ad ((c.p e2).trans r1.ptr) e2 rfl,(c.q 0)⟩,av⟩ fun ac ag ae ab aa=> ?_);replace e2:=aa.k1 e2;replace r1:=aa.RB 1 e2;obtain ⟨r2,r6⟩:=aa.z2 2 6;replace r5:=aa.O 5;refine wp_ret ?_;refine rp ?_;refine py (fn:=Tryz.f78) rfl ab.defers e2 r1 az ak rfl ?_;exact ⟨⟨t.k,t.ch,t.ng,rw1_,t.rows,t.mn,t.mx,t.lz,kv0,ts⟩,rfl,ab.ext0,.mk r2.1 (fun hn=>(r2.2 hn).2) r5.1.sl (fun hn=> .inr (ab.bnd _ _ (r5.blk hn)).1) r6.outs,by rw [qS,qS t,q1,bw (by omega)]⟩
theorem HE (t:Tr):∀(w:World),oO w t→fc t≤1000000→Calls Tryz.prog 78 #[t.v] w (fun e w'=>∃t':Tr,e= .returned t'.v∧Ext aW w w'∧TrT (Gn aW w) w' t'∧er t'=er t):=Tr.ind (P:=fun t=>∀(w:World),oO w t→fc t≤1000000→Calls Tryz.prog 78 #[t.v] w (fun e w'=>∃t':Tr,e= .returned t'.v∧Ext aW w w'∧TrT (Gn aW w) w' t'∧er t'=er t)) BD t
end
section
open Go.RowKit
open Srt
theorem IZ {xs:List Tr} {k:Nat} (h:k < xs.length):fc (nth xs (k:Int))≤dH (xs.map fc)∧dH ((xs.take (k+1)).map fc)=dH ((xs.take k).map fc)+fc (nth xs (k:Int))∧dH ((xs.take (k+1)).map fc)≤dH (xs.map fc):=
  ⟨mR (fun t _=>by have:=nF t;omega) (bN (by omega) (by omega)),pE h,(pd (fun t _=>by have:=nF t;omega) _).2⟩
theorem wq {ts xs:List Tr} {k:Int} {n:Nat} (hq:ts.map er=iI k ((xs.take n).map er)):(ts.length:Int)≤dH ((xs.take n).map fc):=by
  have h:=DW hq;have h1:∀l:List Tr,dH (l.map di)≤dH (l.map fc):=by
    intro l;induction l using gC with
    | h0 => exact fJ _
    | h1 l x ih =>
      rw [aP,aP,aB,aH,aB,aH,fQ,fQ];have:=wo x;omega
  have:=h1 (xs.take n);omega
set_option maxRecDepth 100000 in
theorem FD (kind:Int) (v:Value) (xs:List Tr) (w:World) (hS:TlS w v xs) (hP:dH (xs.map fc)≤1000000):Calls Tryz.prog 53 #[(aj kind),v] w (fun e w'=>∃v' ts,e= .returned v'∧Ext aW w w'∧su lY 25 w w' v' ts∧(∀t ∈ ts,TrT (fun g=>(Gn aW w) g∧v'.ownBlock≠some g) w' t)∧ts.map er=iI kind (xs.map er)):=by
 refine enter (n:=30) Tryz.func53 rfl rfl (aw rfl) ?_;intro a0 τ0 ha st0;obtain ⟨e0,e1⟩:=qG ha;have hle:=hS.sl.le;refine wp_seq (eK st0 [] ⟨aq fun c=>ax rfl rfl,av⟩ fun ac ag ae ab aa=> ?_);obtain ⟨e0,e1⟩:=aa.k2 e0 e1;have e4:=aa.V 0;refine wp_seq (eK ab [] ⟨aq fun c=>ax rfl rfl,av⟩ fun ac ag ae ab aa=> ?_);obtain ⟨e0,e1,e4⟩:=aa.k3 e0 e1 e4;have e5:=aa.V 0;refine wp_seq ?_;refine wp_seq (sf [0,1,0] ab [] ⟨ao e1,aq fun c=>dk rfl aU (c.q 0) (hS.at ab.ext).sl.sl,aq fun c=>aS rfl rfl,av⟩ fun ac ag ae ab aa=> ?_);obtain ⟨e0,e4,e5⟩:=aa.k3 e0 e4 e5;have e8:=aa.V 0;have e9:=aa.V 1;have e10:=aa.V 2;refine wp_block ?_;refine wp_loop (fun a_ w_=>∃(k:Nat) (u:Value) (ts:List Tr) (τ:Nat→bj),(k≤xs.length)∧
      (ts.map er=iI kind ((xs.take k).map er))∧
      St (Nw w) w 30 a_ w_ τ∧
      be a_ 5=u∧
      be a_ 10=(aj (k:Int))∧
      be a_ 0=(aj kind)∧
      be a_ 4=(.slice none 0 0)∧
      be a_ 8=v∧
      be a_ 9=(aj (xs.length:Int))∧
      ep lY 25 ts (τ 5) u w_∧
      Fz (oA (Gn aW w) ts) τ w_) (fun a_ _=>xs.length - (intOf (be a_ 10)).toNat) ?_ ?_
 · refine ⟨0,(.slice none 0 0),[],ae,?_,?_,ab,e5,(e10.trans (bB (by omega))),e0,e4,e8,e9,?_,?_⟩
   · omega
   · simp [iI]
   · exact ep.nil _ _ _ _
   · exact Fz.tn _ _ _
 intro a4 w4 hI;obtain ⟨k,u,ts,τ4,q0,q1,st4,e5,e10,e0,e4,e8,e9,r5,r6⟩:=hI;have hw:=IZ (xs:=xs) (k:=k);have hrm:=wq q1;have hpk:k < xs.length→fc (nth xs (k:Int))≤1000000:=fun h_=>by have h2_:=hw h_;omega
 have m10:=e10;refine wp_seq (eK st4 [jo r5,jz 6 r6] ⟨aq fun c=>cW rfl (c.p e10) (c.p e9),av⟩ fun ac ag ae ab aa=> ?_);obtain ⟨e0,e4,e5,e8,e9,e10⟩:=aa.k6 e0 e4 e5 e8 e9 e10;have e11:=aa.V 0;replace r5:=aa.O 5;replace r6:=aa.z1 6;refine wp_seq ?_;refine wp_cond_split e11 (fun hc1=> ?_) (fun hc1=> ?_)
 · try simp only [ai] at hc1
   refine wp_skip ?_;refine wp_seq ?_;refine wp_block ?_;refine wp_seq (rg [_,_,box _ _ 0 7 [(aj 0),(bc (⟨#[]⟩:ByteArray)),(aE false),(.slice none 0 0),(aj 0),(aj 0),(aE false),(.slice none 0 0)],_] [0,1,0,7] ab [jo r5,jz 6 r6] ⟨aq fun c=>aX rfl aU ak (c.p e8) (hS.at ab.ext).sl.sl (c.p e10) (by omega) (by omega),aq fun c=>cq (vs:=(tc (nth xs (k:Int)))) rfl az ak (c.q 0) rfl (fun _ _ hj=>((hS.at (ab.ext.trans c.J.ext)).sl).elem (bF (i:=(k:Int)) (by omega) (by omega)) hj),bO rfl rfl rfl rfl aD rfl,ey (cx:=(tc (nth xs (k:Int)))) (off:=0) rfl ak fun c=>⟨c.rb 2 rfl,(c.rb 2 rfl).ptr,(c.q 1)⟩,av⟩ fun ac ag ae ab aa=> ?_);obtain ⟨b6x7,e7⟩:=gx ac 7;obtain ⟨e0,e4,e5,e8,e9,e10,e11⟩:=aa.k7 e0 e4 e5 e8 e9 e10 e11;have r0:=aa.rb 3 e7 rfl;replace r5:=aa.O 5;replace r6:=aa.z1 6;refine wp_seq ?_;refine aY ?_;refine bV 2 (by kernel_rfl) ?_;refine og [_,gE _ 15 (fun b:Tr=>b.v) (fun b:Tr=>er b=er (nth xs (k:Int))) (fun b:Tr=>gT (Gn aW w) b)] [0,1] ab [jb r0,jo r5,jz 6 r6] ⟨aq fun c=>dY rfl az ak ((c.p e7).trans r0.ptr) (c.B 0),eT (f:=fun b:Tr=>b.v) (Ψ:=fun b:Tr=>er b=er (nth xs (k:Int))) (Φ:=fun b:Tr=>gT (Gn aW w) b) fun {_ a_ _ _} c=>⟨_,_,(bK rfl rfl Tryz.call78 (c.q 0)),(HE (nth xs (k:Int)) _ ((hS.at (ab.ext.trans c.J.ext)).el (by omega) (by omega)) (by omega)).mono (fun e w' ⟨t_,he_,hx_,ht_,hq_⟩=>⟨t_,he_,hx_,hq_,c.tn ab hx_ ht_⟩)⟩,av⟩ fun ac ag ae ab aa=> ?_;obtain ⟨e0,e4,e5,e7,e8,e9,e10,e11⟩:=aa.k8 e0 e4 e5 e7 e8 e9 e10 e11;obtain ⟨t1_,e15,hqt1_,hz7⟩:=aa.zd 1 rfl;have e15:be ac 15=(ta t1_):=e15;replace r0:=aa.B 0;replace r5:=aa.O 5;replace r6:=aa.z1 6;have r1:=hz7;refine bW ?_;refine og [_] [0] ab [jb r0,jz 1 r1,jo r5,jz 6 r6] ⟨cp (cx:=(tc t1_)) (off:=0) ak fun c=>⟨c.bp 0 rfl e7,c.ad ((c.p e7).trans r0.ptr) e7 rfl,(c.p e15)⟩,av⟩ fun ac ag ae ab aa=> ?_;obtain ⟨e0,e4,e5,e7,e8,e9,e10,e11⟩:=aa.k8 e0 e4 e5 e7 e8 e9 e10 e11;replace r0:=aa.RB 0 e7;obtain ⟨r1,r6⟩:=aa.z2 1 6;replace r5:=aa.O 5;have hek:=HD hqt1_;have hew:=(fG (nth xs (k:Int))).1;refine wp_seq (lr [0,1,0,7] ab [jb r0,jz 1 r1,jo r5,jz 6 r6] ⟨cK aJ aA e7 r0.ptr,fE aN 0 0 0,ao e0,aq fun c=>cY rfl (c.q 1) (c.q 2),av⟩ fun ac ag ae ab aa=> ?_);obtain ⟨e0,e4,e5,e7,e8,e9,e10,e11⟩:=aa.k8 e0 e4 e5 e7 e8 e9 e10 e11;have e19:=aa.V 3;replace r0:=aa.B 0;obtain ⟨r1,r6⟩:=aa.z2 1 6;replace r5:=aa.O 5;refine wp_cond_split e19 (fun hc2=> ?_) (fun hc2=> ?_)
   · try simp only [ai] at hc2
     refine rg [_,_,_,own _ _ _ 5 23 _,own _ _ _ 5 5 _] [0,0,2,7,15] ab [jb r0,jz 1 r1,jo r5,jz 6 r6] ⟨ao e5,cK aJ cR e7 r0.ptr,fE dG 1 0 7,fF (t0:=5) rfl rfl rfl rfl aU (i:=Tryz.t25) rfl rfl rfl rfl (by simp only [maxLen];(try simp);omega) (by show _ * 104≤_;(try simp);omega) (fun _ _ _ _ c=>⟨c.ip 5 rfl e5,c.sm (c.n 0 rfl) e5,⟨_,(c.n 2 rfl),(zs (c.iz 1 rfl)).tl.sl⟩⟩),eP (t0:=23) rfl rfl rfl rfl rfl (.inr rfl) (fun _ _ _ _ c=>⟨c.ro 3 rfl,rfl⟩),av⟩ fun ac ag ae ab aa=> ?_;obtain ⟨b10x5,e5⟩:=gx ac 5;obtain ⟨e0,e4,e7,e8,e9,e10,e11,e19⟩:=aa.k8 e0 e4 e7 e8 e9 e10 e11 e19;replace r0:=aa.B 0;obtain ⟨r1,r6⟩:=aa.z2 1 6;replace r5:=aa.ro 4 e5 rfl;show _;refine eA ab [jb r0,jz 1 r1,jo r5,jz 6 r6] ⟨aq fun c=>cN rfl (c.p e10) rfl (by omega),bD 0,av⟩ fun ac ag ae ab aa=> ?_;obtain ⟨e0,e4,e5,e7,e8,e9,e11,e19⟩:=aa.k8 e0 e4 e5 e7 e8 e9 e11 e19;have e10:=aa.V 1;replace r0:=aa.B 0;obtain ⟨r1,r6⟩:=aa.z2 1 6;replace r5:=aa.O 5;refine ⟨⟨k+1,b10x5,ts++t1_.kids,ae,?_,?_,ab,e5,(e10.trans (bB (by omega))),e0,e4,e8,e9,?_,?_⟩,?_⟩
     · omega
     · first | exact sX (by omega) q1 (by assumption) (by assumption) rfl | exact rH (by omega) q1 (by assumption) (by assumption)
     · exact r5.cast (by rfl)
     · exact Fz.app r6 r1.kl
     · simp only [m10,e10,intOf];omega
   try simp only [ah] at hc2
   refine rg [_,_,own lY 25 _ 2 26 ([t1_]),own _ _ _ 5 27 _,own _ _ _ 5 5 _] [0,0,2,7,15] ab [jb r0,jz 1 r1,jo r5,jz 6 r6] ⟨ao e5,aq fun c=>dY rfl az ak ((c.p e7).trans r0.ptr) (c.B 0),dt (cells:=#[(aj t1_.k),(bc t1_.ch),(aE t1_.ng),t1_.rv.v,(aj t1_.mn),(aj t1_.mx),(aE t1_.lz),t1_.kv.v]) rfl rfl rfl rfl aU ak aD rfl (by decide) (by decide) (fun _ _ _ _ c=>gB (c.n 1 rfl) (by kernel_rfl)) rfl,fF (t0:=5) rfl rfl rfl rfl aU (i:=Tryz.t25) rfl rfl rfl rfl (by simp only [maxLen];(try simp);omega) (by show _ * 104≤_;(try simp);omega) (fun _ _ _ _ c=>⟨c.ip 5 rfl e5,c.sm (c.n 0 rfl) e5,⟨_,rfl,(c.ro 2 rfl).1.sl⟩⟩),eP (t0:=27) rfl rfl rfl rfl rfl (.inr rfl) (fun _ _ _ _ c=>⟨c.ro 3 rfl,rfl⟩),av⟩ fun ac ag ae ab aa=> ?_;obtain ⟨b12x26,e26⟩:=gx ac 26;obtain ⟨b12x5,e5⟩:=gx ac 5;obtain ⟨e0,e4,e7,e8,e9,e10,e11,e19⟩:=aa.k8 e0 e4 e7 e8 e9 e10 e11 e19;replace r0:=aa.B 0;replace r1:=aa.z1 1;have r2:=aa.ro 2 e26 rfl;replace r5:=aa.ro 4 e5 rfl;replace r6:=aa.z1 6;show _;refine eA ab [jb r0,jz 1 r1,jo r2,jo r5,jz 6 r6] ⟨aq fun c=>cN rfl (c.p e10) rfl (by omega),bD 0,av⟩ fun ac ag ae ab aa=> ?_;obtain ⟨e0,e4,e5,e7,e8,e9,e11,e19⟩:=aa.k8 e0 e4 e5 e7 e8 e9 e11 e19;have e10:=aa.V 1;replace r0:=aa.B 0;obtain ⟨r1,r6⟩:=aa.z2 1 6;replace r2:=aa.O 2;replace r5:=aa.O 5;refine ⟨⟨k+1,b12x5,ts++ [t1_],ae,?_,?_,ab,e5,(e10.trans (bB (by omega))),e0,e4,e8,e9,?_,?_⟩,?_⟩
   · omega
   · first | exact sX (by omega) q1 (by assumption) (by assumption) rfl | exact rH (by omega) q1 (by assumption) (by assumption)
   · exact r5.cast (by rfl)
   · exact Fz.snoc r6 r1
   · simp only [m10,e10,intOf];omega
 try simp only [ah,aV] at hc1
 refine wp_exit ?_;repeat (with_reducible refine cy ?_)
 refine cC ?_;refine wp_seq (eA ab [jo r5,jz 6 r6] ⟨ao e5,aK 0,av⟩ fun ac ag ae ab aa=> ?_);have e4:=aa.V 1;replace r5:=aa.O 5;replace r6:=aa.z1 6;refine wp_ret ?_;refine rp ?_;refine cO (fn:=Tryz.f53) rfl ab.defers e4 ?_;rw [bw (by omega)] at q1;exact ⟨_,ts,rfl,ab.ext0,⟨r5.1,fun g_ h_=>(ab.bnd _ g_ (r5.2 g_ h_)).1⟩,r6.outo (i:=5) r5.2,q1⟩
set_option maxRecDepth 100000 in
theorem Ao (v:Value) (xs:List Tr) (w:World) (hS:TlS w v xs) (hP:dH (xs.map fc)≤1000000):Calls Tryz.prog 28 #[v] w (fun e w'=>∃t':Tr,e= .returned t'.v∧Ext aW w w'∧TrT (Gn aW w) w' t'∧er t'=jQ (xs.map er)):=by
 refine enter (n:=14) Tryz.func28 rfl rfl (aw rfl) ?_;intro a0 τ0 ha st0;have e0:=oz ha;have hle:=hS.sl.le;refine wp_seq (rg [box _ _ 0 2 [(aj 0),(bc (⟨#[]⟩:ByteArray)),(aE false),(.slice none 0 0),(aj 0),(aj 0),(aE false),(.slice none 0 0)]] [0] st0 [] ⟨bO rfl rfl rfl rfl aD rfl,av⟩ fun ac ag ae ab aa=> ?_);obtain ⟨b1x2,e2⟩:=gx ac 2;replace e0:=aa.k1 e0;have r0:=aa.rb 0 e2 rfl;refine wp_seq ?_;refine aY ?_;refine bV 2 (by kernel_rfl) ?_;refine og [_,DE lY 25 _ 1 5 (fun b:List Tr=>b) (fun b:List Tr=>b.map er=iI 0 (xs.map er)) (fun b:List Tr=>oA (Gn aW w) b)] [0,1] ab [jb r0] ⟨ao e0,Cv (xs:=fun b:List Tr=>b) (Ψ:=fun b:List Tr=>b.map er=iI 0 (xs.map er)) (Φ:=fun b:List Tr=>oA (Gn aW w) b) fun {_ a_ _ _} c=>⟨_,_,(ck rfl rfl Tryz.call53 rfl (c.q 0)),(FD 0 v xs _ (hS.at (ab.ext.trans c.J.ext)) (by omega)).mono (fun e w' ⟨v_,ts_,he_,hx_,ho_,ht_,hq_⟩=>⟨v_,ts_,he_,hx_,ho_,hq_,c.tno (tag:=1) ab hx_ ho_ ht_⟩)⟩,av⟩ fun ac ag ae ab aa=> ?_;obtain ⟨b2x5,e5⟩:=gx ac 5;replace e2:=aa.k1 e2;obtain ⟨ts1_,hro2,hqts1_,hz2⟩:=aa.zo 1 e5 rfl;replace r0:=aa.B 0;have r1:=hro2;have r2:=hz2;refine bW ?_;refine og [_] [0] ab [jb r0,jo r1,jz 2 r2] ⟨oQ e5,av⟩ fun ac ag ae ab aa=> ?_;replace e2:=aa.k1 e2;have e3:=aa.V 0;replace r0:=aa.B 0;replace r1:=aa.O 1;replace r2:=aa.z1 2;obtain ⟨kv0,rfl⟩:=r1.isSl.sv;refine wp_seq ?_;refine wp_seq (fX ab [jb r0,jo r1,jz 2 r2] ⟨ao e3,aq fun c=>dk rfl aU (c.q 0) r1.isSl,aq fun c=>cY rfl (c.q 1) rfl,av⟩ fun ac ag ae ab aa=> ?_);obtain ⟨e2,e3⟩:=aa.k2 e2 e3;have e8:=aa.V 2;replace r0:=aa.B 0;replace r1:=aa.O 1;replace r2:=aa.z1 2;refine wp_cond_split e8 (fun hc1=> ?_) (fun hc1=> ?_)
 · try simp only [ai] at hc1
   refine wp_seq (xi ab [jb r0,jo r1,jz 2 r2] ⟨ao e3,aq fun c=>aX rfl aU ak (c.q 0) r1.isSl rfl (by omega) (by omega),aq fun c=>cq (vs:=(tc (nth ts1_ 0))) rfl az ak (c.q 1) rfl (fun _ _ hj=>((c.io 1 rfl).1.sl).elem (bF (i:=0) (by omega) (by omega)) hj),cp (cx:=(tc (nth ts1_ 0))) (off:=0) ak fun c=>⟨c.bp 0 rfl e2,c.ad ((c.p e2).trans r0.ptr) e2 rfl,(c.q 2)⟩,av⟩ fun ac ag ae ab aa=> ?_);obtain ⟨e2,e3⟩:=aa.k2 e2 e3;replace r0:=aa.RB 3 e2;replace r1:=aa.O 1;replace r2:=aa.z1 2;refine wp_ret ?_;refine rp ?_;refine py (fn:=Tryz.f28) rfl ab.defers e2 r0 az ak rfl ?_;exact ⟨_,rfl,ab.ext0,(r2.e (by omega) (by omega)).out,CR hqts1_ (by omega)⟩
 try simp only [ah] at hc1
 refine wp_skip ?_;refine wp_seq (fX ab [jb r0,jo r1,jz 2 r2] ⟨ao e3,aq fun c=>eW (cells:=#[(aj 0),(bc (⟨#[]⟩:ByteArray)),(aE false),(.slice none 0 0),(aj 0),(aj 0),(aE false),kv0.v]) rfl aD (iT rfl (c.n 0 rfl) rfl),cp (cx:=[(aj 0),(bc (⟨#[]⟩:ByteArray)),(aE false),(.slice none 0 0),(aj 0),(aj 0),(aE false),kv0.v]) (off:=0) ak fun c=>⟨c.bp 0 rfl e2,c.ad ((c.p e2).trans r0.ptr) e2 rfl,(c.q 1)⟩,av⟩ fun ac ag ae ab aa=> ?_);replace e2:=aa.k1 e2;replace r0:=aa.RB 2 e2;replace r1:=aa.O 1;replace r2:=aa.z1 2;refine wp_ret ?_;refine rp ?_;refine py (fn:=Tryz.f28) rfl ab.defers e2 r0 az ak rfl ?_;exact ⟨⟨0,⟨#[]⟩,false,Sv.nil,[],0,0,false,kv0,ts1_⟩,rfl,ab.ext0,yx r1 (fun g h=> .inr (ab.bnd _ _ h).1) r2.outs,by rw [CT];exact Aj hqts1_ (by omega)⟩
set_option maxRecDepth 100000 in
theorem FE (v:Value) (xs:List Tr) (w:World) (hS:TlS w v xs) (hP:dH (xs.map fc)≤1000000):Calls Tryz.prog 35 #[v] w (fun e w'=>∃t':Tr,e= .returned t'.v∧Ext aW w w'∧TrT (Gn aW w) w' t'∧er t'=lP (xs.map er)):=by
 refine enter (n:=18) Tryz.func35 rfl rfl (aw rfl) ?_;intro a0 τ0 ha st0;have e0:=oz ha;have hle:=hS.sl.le;refine wp_seq (rg [box _ _ 0 2 [(aj 0),(bc (⟨#[]⟩:ByteArray)),(aE false),(.slice none 0 0),(aj 0),(aj 0),(aE false),(.slice none 0 0)]] [0] st0 [] ⟨bO rfl rfl rfl rfl aD rfl,av⟩ fun ac ag ae ab aa=> ?_);obtain ⟨b1x2,e2⟩:=gx ac 2;replace e0:=aa.k1 e0;have r0:=aa.rb 0 e2 rfl;refine wp_seq ?_;refine aY ?_;refine bV 2 (by kernel_rfl) ?_;refine og [_,DE lY 25 _ 1 5 (fun b:List Tr=>b) (fun b:List Tr=>b.map er=iI 1 (xs.map er)) (fun b:List Tr=>oA (Gn aW w) b)] [0,1] ab [jb r0] ⟨ao e0,Cv (xs:=fun b:List Tr=>b) (Ψ:=fun b:List Tr=>b.map er=iI 1 (xs.map er)) (Φ:=fun b:List Tr=>oA (Gn aW w) b) fun {_ a_ _ _} c=>⟨_,_,(ck rfl rfl Tryz.call53 rfl (c.q 0)),(FD 1 v xs _ (hS.at (ab.ext.trans c.J.ext)) (by omega)).mono (fun e w' ⟨v_,ts_,he_,hx_,ho_,ht_,hq_⟩=>⟨v_,ts_,he_,hx_,ho_,hq_,c.tno (tag:=1) ab hx_ ho_ ht_⟩)⟩,av⟩ fun ac ag ae ab aa=> ?_;obtain ⟨b2x5,e5⟩:=gx ac 5;replace e2:=aa.k1 e2;obtain ⟨ts1_,hro2,hqts1_,hz2⟩:=aa.zo 1 e5 rfl;replace r0:=aa.B 0;have r1:=hro2;have r2:=hz2;refine bW ?_;refine og [_] [0] ab [jb r0,jo r1,jz 2 r2] ⟨oQ e5,av⟩ fun ac ag ae ab aa=> ?_;replace e2:=aa.k1 e2;have e3:=aa.V 0;replace r0:=aa.B 0;replace r1:=aa.O 1;replace r2:=aa.z1 2;obtain ⟨kv0,rfl⟩:=r1.isSl.sv;refine wp_seq ?_;refine wp_seq (eA ab [jb r0,jo r1,jz 2 r2] ⟨ao e3,aq fun c=>dk rfl aU (c.q 0) r1.isSl,av⟩ fun ac ag ae ab aa=> ?_);obtain ⟨e2,e3⟩:=aa.k2 e2 e3;have e7:=aa.V 1;replace r0:=aa.B 0;replace r1:=aa.O 1;replace r2:=aa.z1 2;refine wp_block ?_;refine wp_seq (eA ab [jb r0,jo r1,jz 2 r2] ⟨aq fun c=>cY rfl (c.p e7) rfl,aK 0,av⟩ fun ac ag ae ab aa=> ?_);obtain ⟨e2,e3,e7⟩:=aa.k3 e2 e3 e7;have e8:=aa.V 1;replace r0:=aa.B 0;replace r1:=aa.O 1;replace r2:=aa.z1 2;refine wp_cond_split e8 (fun hc1=> ?_) (fun hc1=> ?_)
 · try simp only [ai] at hc1
   refine wp_seq (eA ab [jb r0,jo r1,jz 2 r2] ⟨aq fun c=>eW (cells:=#[(aj 0),(bc (⟨#[]⟩:ByteArray)),(aE false),(.slice none 0 0),(aj 0),(aj 0),(aE false),(.slice none 0 0)]) rfl aD ni,cp (cx:=[(aj 0),(bc (⟨#[]⟩:ByteArray)),(aE false),(.slice none 0 0),(aj 0),(aj 0),(aE false),(.slice none 0 0)]) (off:=0) ak fun c=>⟨c.bp 0 rfl e2,c.ad ((c.p e2).trans r0.ptr) e2 rfl,(c.q 0)⟩,av⟩ fun ac ag ae ab aa=> ?_);obtain ⟨e2,e3,e7⟩:=aa.k3 e2 e3 e7;replace r0:=aa.RB 1 e2;replace r1:=aa.O 1;replace r2:=aa.z1 2;refine wp_ret ?_;refine rp ?_;refine py (fn:=Tryz.f35) rfl ab.defers e2 r0 az ak rfl ?_;exact ⟨lE 0 [],rfl,ab.ext0,eQ _ _ _ _ _ _ _ _,Ak hqts1_ (by omega)⟩
 try simp only [ah] at hc1
 refine wp_seq (eA ab [jb r0,jo r1,jz 2 r2] ⟨aq fun c=>cY rfl (c.p e7) rfl,aK 0,av⟩ fun ac ag ae ab aa=> ?_);obtain ⟨e2,e3⟩:=aa.k2 e2 e3;have e11:=aa.V 1;replace r0:=aa.B 0;replace r1:=aa.O 1;replace r2:=aa.z1 2;refine wp_cond_split e11 (fun hc2=> ?_) (fun hc2=> ?_)
 · try simp only [ai] at hc2
   refine wp_seq (xi ab [jb r0,jo r1,jz 2 r2] ⟨ao e3,aq fun c=>aX rfl aU ak (c.q 0) r1.isSl rfl (by omega) (by omega),aq fun c=>cq (vs:=(tc (nth ts1_ 0))) rfl az ak (c.q 1) rfl (fun _ _ hj=>((c.io 1 rfl).1.sl).elem (bF (i:=0) (by omega) (by omega)) hj),cp (cx:=(tc (nth ts1_ 0))) (off:=0) ak fun c=>⟨c.bp 0 rfl e2,c.ad ((c.p e2).trans r0.ptr) e2 rfl,(c.q 2)⟩,av⟩ fun ac ag ae ab aa=> ?_);obtain ⟨e2,e3⟩:=aa.k2 e2 e3;replace r0:=aa.RB 3 e2;replace r1:=aa.O 1;replace r2:=aa.z1 2;refine wp_ret ?_;refine rp ?_;refine py (fn:=Tryz.f35) rfl ab.defers e2 r0 az ak rfl ?_;exact ⟨_,rfl,ab.ext0,(r2.e (by omega) (by omega)).out,CS hqts1_ (by omega)⟩
 try simp only [ah] at hc2
 refine wp_skip ?_;show _;refine wp_seq (fX ab [jb r0,jo r1,jz 2 r2] ⟨ao e3,aq fun c=>eW (cells:=#[(aj 1),(bc (⟨#[]⟩:ByteArray)),(aE false),(.slice none 0 0),(aj 0),(aj 0),(aE false),kv0.v]) rfl aD (iT rfl (c.n 0 rfl) rfl),cp (cx:=[(aj 1),(bc (⟨#[]⟩:ByteArray)),(aE false),(.slice none 0 0),(aj 0),(aj 0),(aE false),kv0.v]) (off:=0) ak fun c=>⟨c.bp 0 rfl e2,c.ad ((c.p e2).trans r0.ptr) e2 rfl,(c.q 1)⟩,av⟩ fun ac ag ae ab aa=> ?_);replace e2:=aa.k1 e2;replace r0:=aa.RB 2 e2;replace r1:=aa.O 1;replace r2:=aa.z1 2;refine wp_ret ?_;refine rp ?_;refine py (fn:=Tryz.f35) rfl ab.defers e2 r0 az ak rfl ?_;exact ⟨⟨1,⟨#[]⟩,false,Sv.nil,[],0,0,false,kv0,ts1_⟩,rfl,ab.ext0,yx r1 (fun g h=> .inr (ab.bnd _ _ h).1) r2.outs,by rw [CT];exact Am hqts1_ (by omega) (by omega)⟩
end
end B
end Go.Proofs.YtcfdebjhikahfaaGreat
