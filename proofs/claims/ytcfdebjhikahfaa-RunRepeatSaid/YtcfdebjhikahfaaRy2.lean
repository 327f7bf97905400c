import Derived.Test.YtcfdebjhikahfaaRy1
import Derived.Laws.CopyRow
import Derived.Laws.MakeOwn
set_option linter.unusedSimpArgs false
set_option linter.unusedVariables false
set_option linter.unusedSectionVars false
namespace Go.Proofs.Ytcfdebjhikahfaa
section
open Go.RowKit
abbrev av:=@Bool.not_eq_false'
abbrev aQ:=@Bool.not_eq_true
abbrev eH:=@Int.eq_ofNat_of_zero_le
abbrev eW:=@Int.le_refl
abbrev ep:=@Int.not_le
abbrev aP:=@Int.not_lt
abbrev eT:=@Int.toNat_natCast
abbrev ly:=@List.any_eq_false
abbrev kt:=@List.drop_left'
abbrev lW:=@List.getElem_map
abbrev kz:=@List.getElem_of_mem
abbrev dZ:=@List.length_replicate
abbrev bM:=@List.map_append
abbrev iM:=@List.mem_of_mem_drop
abbrev ga:=@List.takeWhile_cons
abbrev ku:=@List.take_left'
abbrev de:=@Nat.min_le_right
abbrev dV:=@Try.isAgg25
abbrev ie:=@Try.isAgg28
abbrev aF:=@Try.isAgg3
abbrev lA:=@Try.isAgg30
abbrev aJ:=@Try.isAgg32
abbrev dt:=@Try.isAgg4
abbrev cI:=@Try.isAgg47
abbrev bP:=@Try.isAgg9
abbrev aK:=@Try.sizeOf47
abbrev bl:=@Try.underlying25
abbrev bq:=@Try.underlying26
abbrev bG:=@Try.underlying28
abbrev cB:=@Try.underlying3
abbrev aH:=@Try.underlying30
abbrev cR:=@Try.underlying58
abbrev bH:=@Try.underlying9
abbrev aO:=@Try.zeroValue32
abbrev cm:=@Try.zeroValue47
end
namespace Srt
open B
variable {α:Type} [Inhabited α]
def sk (xs:List α) (a:Nat):Nat→List α
  | 0 => xs
  | n + 1 => yk (sk xs a n) ((a : Int) + n) ((a : Int) + n + 1)
theorem BT (xs:List α) (a n:Nat):(sk xs a n).length=xs.length:=by
  induction n with
  | zero => rfl
  | succ n ih => rw [sk, oR, ih]
theorem zP {A D:List α} {x:α} {a:Nat} (hA:A.length=a):∀(n:Nat) (Q:List α),Q.length=n→sk (A++x::(Q++D)) a n=A++(Q++x::D):=by
  intro n;induction n generalizing D with
  | zero => intro Q hQ; obtain rfl := bA hQ; rfl
  | succ n ih =>
    intro Q hQ;obtain ⟨Q',y,rfl⟩:∃P' y,Q=P'++ [y]:=⟨Q.dropLast,Q.getLast (by intro e;simp [e] at hQ),(iw _).symm⟩;simp at hQ;rw [sk,show A++x::(Q'++ [y]++D)=A++x::(Q'++(y::D)) by simp,ih Q' hQ];have:=zI (A:=A++Q') (M:=[]) (C:=D) (x:=x) (y:=y) (i:=(a:Int)+n) (j:=(a:Int)+n+1) (by simp;omega) (by simp;omega);simpa using this
theorem BU {xs:List α} {a n:Nat} (h:a+1+n≤xs.length):sk xs a n=eI xs a (a+1) (a+1+n):=by
  have e:xs=xs.take a++nth xs (a:Int)::(fj xs (a+1) (a+1+n)++xs.drop (a+1+n)):=by
    rw [←np (by omega),←fT (by omega),cw]
  have s1:fj xs a (a+1)=[nth xs (a:Int)]:=by rw [ma (bd _) (by omega),iB];rfl
  conv=>lhs;rw [e]
  rw [zP (by simp;omega) n _ (by rw [ff h];omega),eI,s1];simp
def so (xs:List α) (m:Nat):Nat→List α
  | 0 => xs
  | n + 1 => yk (so xs m n) ((m : Int) - n) ((m : Int) - n - 1)
theorem BV (xs:List α) (a n:Nat):(so xs a n).length=xs.length:=by
  induction n with
  | zero => rfl
  | succ n ih => rw [so, oR, ih]
theorem zQ {D:List α} {x:α} {m:Nat}:∀(n:Nat) (A Q:List α),Q.length=n→A.length+Q.length=m→so (A++(Q++x::D)) m n=A++x::(Q++D):=by
  intro n;induction n with
  | zero => intro A Q hQ _; obtain rfl := bA hQ; rfl
  | succ n ih =>
    intro A Q hQ hm;obtain ⟨y,Q',rfl⟩:∃y Q',Q=y::Q':=by cases Q with | nil=>simp at hQ | cons y Q'=>exact ⟨y,Q',rfl⟩
    simp at hQ hm;have h1:=ih (A++ [y]) Q' hQ (by simp;omega);rw [so,show A++(y::Q'++x::D)=A++ [y]++(Q'++x::D) by simp,h1];have:=zJ (A:=A) (M:=[]) (C:=Q'++D) (x:=y) (y:=x) (i:=(m:Int) - n - 1) (j:=(m:Int) - n) (by omega) (by simp;omega);simpa using this
theorem BW {xs:List α} {m n:Nat} (h:m < xs.length) (hn:n≤m):so xs m n=eI xs (m - n) m (m+1):=by
  have e:xs=xs.take (m - n)++(fj xs (m - n) m++nth xs (m:Int)::xs.drop (m+1)):=by
    rw [←fT h,←np (by omega),cw]
  have s1:fj xs m (m+1)=[nth xs (m:Int)]:=by rw [ma (bd _) h,iB];rfl
  have l1:(fj xs (m - n) m).length=n:=by rw [ff (by omega)];omega
  conv=>lhs;rw [e]
  rw [zQ n _ _ l1 (by rw [l1];simp;omega),eI,s1];simp
theorem lg {xs:List α} {k:Nat} {x:α} (h:xs[k]? =some x):nth xs (k:Int)=x:=by
  simp [nth,List.getD,h]
theorem qW {xs:List α} {k:Nat} (h:k < xs.length):xs[k]? =some (nth xs (k:Int)):=by
  simp [nth,List.getD,bw h]
section order
variable {lt:α→α→Bool}
theorem Swo.irr (hw:Swo lt) (x:α):lt x x=false:=by
  cases h:lt x x with
  | false => rfl
  | true => have := hw.asym x x h; rw [h] at this; cases this
theorem kL (hw:Swo lt) {xs:List α} {i j p q:Nat} (hs:fb lt (fj xs i j)) (h1:i≤p) (h2:p≤q) (h3:q < j) (h4:j≤xs.length):lt (nth xs (q:Int)) (nth xs (p:Int))=false:=by
  by_cases e:p=q
  · subst e;exact hw.irr _
  · have h:=List.pairwise_iff_getElem.1 hs (p - i) (q - i) (by rw [ff h4];omega) (by rw [ff h4];omega) (by omega);have a1:(fj xs i j)[p - i]? =some (nth xs (p:Int)):=by rw [tH (by omega),show i+(p - i)=p by omega,qW (by omega)]
    have a2:(fj xs i j)[q - i]? =some (nth xs (q:Int)):=by rw [tH (by omega),show i+(q - i)=q by omega,qW (by omega)]
    rw [bw (by rw [ff h4];omega)] at a1 a2;simp only [Option.some.injEq] at a1 a2;rw [a1,a2] at h;exact h
theorem Swo.pos (hw:Swo lt) {x y z:α} (h:lt x z=true) (h1:lt x y=false):lt y z=true:=by
  cases h2:lt y z with
  | true => rfl
  | false => have := hw.neg x y z h1 h2; rw [h] at this; cases this
theorem Swo.pos' (hw:Swo lt) {x y z:α} (h:lt x z=true) (h1:lt y z=false):lt x y=true:=by
  cases h2:lt x y with
  | true => rfl
  | false => have := hw.neg x y z h2 h1; rw [h] at this; cases this
theorem qX (hw:Swo lt) {xs:List α} {a s m e b:Nat} (hS1:fb lt (fj xs a m)) (hS2:fb lt (fj xs m b)) (h1:a≤s) (h2:s≤m) (h3:m≤e) (h4:e≤b) (h5:b≤xs.length)
    (c1:s=a∨e=b∨lt (nth xs (e:Int)) (nth xs ((s:Int) - 1))=false) (c2:s=m∨e=m∨lt (nth xs ((e:Int) - 1)) (nth xs (s:Int))=true):
    mF lt xs a m b=xs.take a++(kK lt (fj xs a s) (fj xs m e)++(kK lt (fj xs s m) (fj xs e b)++xs.drop b)):=by
  rw [mF,jv h1 h2,jv h3 h4,nC,cY]
  · intro r hr l hl;obtain ⟨p,p1,p2,hp⟩:=nA hr;obtain ⟨q,q1,q2,hq⟩:=nA hl;rw [←lg hp,←lg hq];rcases c2 with c | c | c
    · omega
    · omega
    · rw [show (e:Int) - 1=((e - 1:Nat):Int) by omega] at c;have d1:=kL hw hS2 (p:=p) (q:=e - 1) (by omega) (by omega) (by omega) h5;have d2:=kL hw hS1 (p:=s) (q:=q) (by omega) (by omega) (by omega) (by omega);exact hw.pos (hw.pos' c d2) d1
  · intro l hl r hr;obtain ⟨p,p1,p2,hp⟩:=nA hr;obtain ⟨q,q1,q2,hq⟩:=nA hl;rw [←lg hp,←lg hq];rcases c1 with c | c | c
    · omega
    · omega
    · rw [show (s:Int) - 1=((s - 1:Nat):Int) by omega] at c;have d1:=kL hw hS2 (p:=e) (q:=p) (by omega) (by omega) (by omega) h5;have d2:=kL hw hS1 (p:=q) (q:=s - 1) (by omega) (by omega) (by omega) (by omega);exact hw.neg _ _ _ d1 (hw.neg _ _ _ c d2)
theorem zR (hw:Swo lt) {xs:List α} {a i b:Nat} (hS2:fb lt (fj xs (a+1) b)) (h1:a+1≤i) (h2:i≤b) (h3:b≤xs.length)
    (c2:i=a+1∨lt (nth xs ((i:Int) - 1)) (nth xs (a:Int))=true) (c1:i=b∨lt (nth xs (i:Int)) (nth xs (a:Int))=false):
    sk xs a (i - 1 - a)=mF lt xs a (a+1) b:=by
  have s1:fj xs a (a+1)=[nth xs (a:Int)]:=by rw [ma (bd _) (by omega),iB];rfl
  rw [BU (by omega),show a+1+(i - 1 - a)=i by omega,
    qX hw (s:=a) (e:=i) (by rw [s1];exact List.pairwise_singleton _ _) hS2 (bd _) (by omega) h1 h2 h3 (.inl rfl) (.inr c2)]
  rw [iB,iv,s1,tI,eI,s1]
  · rw [np (xs:=xs) (i:=i) (j:=b) h2];simp
  · intro r hr;obtain ⟨p,p1,p2,hp⟩:=nA hr;rw [←lg hp];rcases c1 with c | c
    · omega
    · exact hw.neg _ _ _ (kL hw hS2 (p:=i) (q:=p) (by omega) (by omega) (by omega) h3) c
theorem yo (hw:Swo lt) {xs:List α} {a i m:Nat} (hS1:fb lt (fj xs a m)) (h1:a≤i) (h2:i≤m) (h3:m < xs.length)
    (c1:i=a∨lt (nth xs (m:Int)) (nth xs ((i:Int) - 1))=false) (c2:i=m∨lt (nth xs (m:Int)) (nth xs (i:Int))=true):
    so xs m (m - i)=mF lt xs a m (m+1):=by
  have s1:fj xs m (m+1)=[nth xs (m:Int)]:=by rw [ma (bd _) (by omega),iB];rfl
  rw [BW h3 (by omega),show m - (m - i)=i by omega,
    qX hw (s:=i) (e:=m) hS1 (by rw [s1];exact List.pairwise_singleton _ _) h1 h2 (bd _) (by omega) h3 (by rcases c1 with c | c;exact .inl c;exact .inr (.inr c)) (.inr (.inl rfl))]
  rw [iB,iE,s1,sj,eI,s1]
  · rw [uG (xs:=xs) (i:=a) (j:=i) h1];simp
  · intro l hl;obtain ⟨p,p1,p2,hp⟩:=nA hl;rw [←lg hp];rcases c2 with c | c
    · omega
    · exact hw.pos' c (kL hw hS1 (p:=i) (q:=p) (by omega) (by omega) (by omega) (by omega))
theorem vW {A L R D:List α} {a m b:Nat} (hA:A.length=a) (hL:a+L.length=m) (hR:m+R.length=b):mF lt (A++(L++(R++D))) a m b=A++(kK lt L R++D):=by
  have e1:fj (A++(L++(R++D))) a m=L:=by
    have:=nB (A:=A) (B:=L) (C:=R++D) hA hL;simpa using this
  have e2:fj (A++(L++(R++D))) m b=R:=by
    have:=nB (A:=A++L) (B:=R) (C:=D) (i:=m) (j:=b) (by simp;omega) hR;simpa using this
  have e3:(A++(L++(R++D))).drop b=D:=by
    have:A++(L++(R++D))=(A++L++R)++D:=by simp
    rw [this,kt (by simp;omega)]
  have e4:(A++(L++(R++D))).take a=A:=ku hA;rw [mF,e1,e2,e3,e4]
section sym
variable {xs ys zs us:List α} {a s m e b mid:Nat}
theorem qY (h1:a≤s) (h2:s≤m) (h3:m≤e) (h4:e≤b) (hy:ys=eI xs s m e):ys=xs.take a++(fj xs a s++(fj xs m e++(fj xs s m++(fj xs e b++xs.drop b)))):=by
  rw [hy,eI,uG h1,np h4];simp
theorem fB (hw:Swo lt) (hS1:fb lt (fj xs a m)) (hS2:fb lt (fj xs m b)) (h1:a≤s) (h2:s≤m) (h3:m≤e) (h4:e≤b) (h5:b≤xs.length)
    (c1:s=a∨e=b∨lt (nth xs (e:Int)) (nth xs ((s:Int) - 1))=false) (c2:s=m∨e=m∨lt (nth xs ((e:Int) - 1)) (nth xs (s:Int))=true)
    (hm:s+e=mid+m) (hy:ys=eI xs s m e) (hz:zs=mF lt ys a s mid) (hu:us=mF lt zs mid e b):us=mF lt xs a m b:=by
  have k1:=ff (xs:=xs) (i:=a) (j:=s) (by omega);have k2:=ff (xs:=xs) (i:=m) (j:=e) (by omega);have k3:=ff (xs:=xs) (i:=s) (j:=m) (by omega);have k4:=ff (xs:=xs) (i:=e) (j:=b) (by omega);rw [qY h1 h2 h3 h4 hy,vW (by simp;omega) (by omega) (by omega)] at hz;have hz':zs=(xs.take a++kK lt (fj xs a s) (fj xs m e))++(fj xs s m++(fj xs e b++xs.drop b)):=by rw [hz];simp
  rw [hu,hz',vW (by simp [qq];omega) (by omega) (by omega),qX hw hS1 hS2 h1 h2 h3 h4 h5 c1 c2];simp
theorem mG (hs:fb lt (fj xs a b)) (h1:a≤s) (h2:s≤e) (h3:e≤b):fb lt (fj xs s e):=by
  rw [jv h1 (show s≤b by omega),jv h2 h3] at hs;exact (List.pairwise_append.1 (List.pairwise_append.1 hs).2.1).1
theorem kk (hS1:fb lt (fj xs a m)) (hS2:fb lt (fj xs m b)) (h1:a≤s) (h2:s≤m) (h3:m≤e) (h4:e≤b) (h5:b≤xs.length) (hm:s+e=mid+m) (hy:ys=eI xs s m e):fb lt (fj ys a s)∧fb lt (fj ys s mid):=by
  have k1:=ff (xs:=xs) (i:=a) (j:=s) (by omega);have k2:=ff (xs:=xs) (i:=m) (j:=e) (by omega);have k:=qY h1 h2 h3 h4 hy;have e1:fj ys a s=fj xs a s:=by
    have:=nB (A:=xs.take a) (B:=fj xs a s) (C:=fj xs m e++(fj xs s m++(fj xs e b++xs.drop b))) (i:=a) (j:=s) (by simp;omega) (by omega);rw [k];simpa using this
  have e2:fj ys s mid=fj xs m e:=by
    have:=nB (A:=xs.take a++fj xs a s) (B:=fj xs m e) (C:=fj xs s m++(fj xs e b++xs.drop b)) (i:=s) (j:=mid) (by simp;omega) (by omega);rw [k];simpa using this
  rw [e1,e2];exact ⟨mG hS1 (bd _) h1 h2,mG hS2 (bd _) h3 h4⟩
theorem gd (hS1:fb lt (fj xs a m)) (hS2:fb lt (fj xs m b)) (h1:a≤s) (h2:s≤m) (h3:m≤e) (h4:e≤b) (h5:b≤xs.length) (hm:s+e=mid+m) (hy:ys=eI xs s m e) (hz:zs=mF lt ys a s mid):fb lt (fj zs mid e)∧fb lt (fj zs e b):=by
  have k1:=ff (xs:=xs) (i:=a) (j:=s) (by omega);have k2:=ff (xs:=xs) (i:=m) (j:=e) (by omega);have k3:=ff (xs:=xs) (i:=s) (j:=m) (by omega);have k4:=ff (xs:=xs) (i:=e) (j:=b) (by omega);rw [qY h1 h2 h3 h4 hy,vW (by simp;omega) (by omega) (by omega)] at hz;have e1:fj zs mid e=fj xs s m:=by
    have:=nB (A:=xs.take a++kK lt (fj xs a s) (fj xs m e)) (B:=fj xs s m) (C:=fj xs e b++xs.drop b) (i:=mid) (j:=e) (by simp [qq];omega) (by omega);rw [hz];simpa using this
  have e2:fj zs e b=fj xs e b:=by
    have:=nB (A:=xs.take a++kK lt (fj xs a s) (fj xs m e)++fj xs s m) (B:=fj xs e b) (C:=xs.drop b) (i:=e) (j:=b) (by simp [qq];omega) (by omega);rw [hz];simpa using this
  rw [e1,e2];exact ⟨mG hS1 h1 h2 (bd _),mG hS2 h3 h4 (bd _)⟩
end sym
def fw (lt:α→α→Bool) (bs:Nat) (xs:List α):List α:=
  if h:bs=0∨xs.length≤bs then cr lt xs else cr lt (xs.take bs)++fw lt bs (xs.drop bs)
termination_by xs.length
decreasing_by simp;omega
variable {bs:Nat} {xs xs0:List α} {a:Nat}
theorem gO (h:xs.length≤bs):fw lt bs xs=cr lt xs:=by rw [fw,dif_pos (.inr h)]
theorem mH (hb:0 < bs):fw lt bs xs=cr lt (xs.take bs)++fw lt bs (xs.drop bs):=by
  by_cases h:xs.length≤bs
  · rw [gO h,bz h,dI h,gO (by simp),pC,eb]
  · rw [fw,dif_neg (by omega)]
theorem pD:∀(n:Nat) (xs:List α),xs.length≤n→(fw lt bs xs).length=xs.length
  | 0, xs, h => by rw [gO (by omega), fg]
  | n + 1, xs, h => by
    rw [fw];split
    · exact fg _
    · rw [bN,fg,pD n _ (by simp;omega)];simp;omega
theorem uJ (hb:0 < bs) (h1:xs.take a++fw lt bs (xs0.drop a)=fw lt bs xs0) (h2:xs.drop a=xs0.drop a) (h:a+bs≤xs.length):
    (oS lt xs a (a+bs)).take (a+bs)++fw lt bs (xs0.drop (a+bs))=fw lt bs xs0∧(oS lt xs a (a+bs)).drop (a+bs)=xs0.drop (a+bs):=by
  have hs:fj xs a (a+bs)=(xs0.drop a).take bs:=by rw [fj,h2,show a+bs - a=bs by omega]
  have hl:(xs.take a++cr lt (fj xs a (a+bs))).length=a+bs:=by simp [fg,ff h];omega
  have e:oS lt xs a (a+bs)=(xs.take a++cr lt (fj xs a (a+bs)))++xs.drop (a+bs):=by simp [oS]
  rw [e];constructor
  · rw [ku hl,←h1,mH hb (xs:=xs0.drop a),hs,fO];simp
  · rw [kt hl,←fO,←fO,h2]
theorem BX (h1:xs.take a++fw lt bs (xs0.drop a)=fw lt bs xs0) (h2:xs.drop a=xs0.drop a) (ha:a≤xs.length) (h:xs.length≤a+bs):oS lt xs a xs.length=fw lt bs xs0:=by
  have hl:(xs0.drop a).length≤bs:=by rw [←h2];simp;omega
  rw [←h1,gO hl,oS,←h2,List.drop_length,eb,fj,bz (l:=xs.drop a) (by simp)]
section pass
theorem uK (hb:0 < bs) (h2:xs.drop a=fw lt bs (xs0.drop a)):fj xs a (a+bs)=cr lt ((xs0.drop a).take bs)∨xs.length < a+bs:=by
  by_cases h:a+bs≤xs.length
  · left;have hl:(fw lt bs (xs0.drop a)).length=(xs0.drop a).length:=pD _ _ (bd _);have hx:(xs.drop a).length=(xs0.drop a).length:=by rw [h2,hl]
    simp only [dS] at hx;rw [fj,h2,mH hb,show a+bs - a=bs by omega,ku (by simp [fg];omega)]
  · right;omega
theorem qZ (hb:0 < bs) (hx:xs.length=xs0.length) (h2:xs.drop a=fw lt bs (xs0.drop a)) (h:a+bs≤xs.length):xs.drop (a+bs)=fw lt bs (xs0.drop (a+bs)):=by
  rw [←fO,h2,mH hb,kt (by simp [fg];omega),fO]
theorem jU (hw:Swo lt) (hb:0 < bs) (hx:xs.length=xs0.length) (h2:xs.drop a=fw lt bs (xs0.drop a)) {b:Nat} (h:a+bs < b) (h3:b≤a+2 * bs) (h4:b≤xs.length) (h5:b=a+2 * bs∨b=xs.length):
    fb lt (fj xs a (a+bs))∧fb lt (fj xs (a+bs) b)∧kK lt (fj xs a (a+bs)) (fj xs (a+bs) b)=cr lt (fj xs0 a b):=by
  have e1:=(uK hb h2).resolve_right (by omega);have d2:=qZ hb hx h2 (by omega);have e2:fj xs (a+bs) b=cr lt (fj xs0 (a+bs) b):=by
    rcases h5 with h5 | h5
    · have:=(uK hb d2).resolve_right (by omega);rw [show b=a+bs+bs by omega,this,fj,show a+bs+bs - (a+bs)=bs by omega]
    · rw [fj,d2,gO (by simp;omega),fj,bz (by simp [fg];omega),bz (by simp;omega)]
  have e3:fj xs0 a (a+bs)=(xs0.drop a).take bs:=by rw [fj,show a+bs - a=bs by omega]
  rw [e1,e2];refine ⟨jP hw _,jP hw _,?_⟩;rw [yj hw,←e3,←jv (by omega) (by omega)]
theorem uL (hw:Swo lt) (hb:0 < bs) (hx:xs.length=xs0.length) (h1:xs.take a++fw lt (2 * bs) (xs0.drop a)=fw lt (2 * bs) xs0) (h2:xs.drop a=fw lt bs (xs0.drop a)) (h:a+2 * bs≤xs.length):
    (mF lt xs a (a+bs) (a+2 * bs)).take (a+2 * bs)++fw lt (2 * bs) (xs0.drop (a+2 * bs))=fw lt (2 * bs) xs0∧(mF lt xs a (a+bs) (a+2 * bs)).drop (a+2 * bs)=fw lt bs (xs0.drop (a+2 * bs)):=by
  obtain ⟨_,_,hm⟩:=jU hw hb hx h2 (b:=a+2 * bs) (by omega) (by omega) h (.inl rfl);have hs:fj xs0 a (a+2 * bs)=(xs0.drop a).take (2 * bs):=by rw [fj,show a+2 * bs - a=2 * bs by omega]
  have e:mF lt xs a (a+bs) (a+2 * bs)=(xs.take a++cr lt (fj xs0 a (a+2 * bs)))++xs.drop (a+2 * bs):=by rw [mF,hm];simp
  have hl:(xs.take a++cr lt (fj xs0 a (a+2 * bs))).length=a+2 * bs:=by simp [fg,ff (show a+2 * bs≤xs0.length by omega)];omega
  rw [e];constructor
  · rw [ku hl,←h1,mH (by omega) (xs:=xs0.drop a),hs,fO];simp
  · rw [kt hl];have:=qZ hb hx (qZ hb hx h2 (by omega)) (by omega);rwa [show a+bs+bs=a+2 * bs by omega] at this
theorem xa (hw:Swo lt) (hb:0 < bs) (hx:xs.length=xs0.length) (h1:xs.take a++fw lt (2 * bs) (xs0.drop a)=fw lt (2 * bs) xs0) (h2:xs.drop a=fw lt bs (xs0.drop a)) (h:a+bs < xs.length) (h3:xs.length < a+2 * bs):
    mF lt xs a (a+bs) xs.length=fw lt (2 * bs) xs0:=by
  obtain ⟨_,_,hm⟩:=jU hw hb hx h2 (b:=xs.length) h (by omega) (bd _) (.inr rfl);rw [mF,hm,←h1,gO (by simp;omega),List.drop_length,eb,fj,bz (l:=xs0.drop a) (by simp;omega)]
theorem uM (hb:0 < bs) (hx:xs.length=xs0.length) (h1:xs.take a++fw lt (2 * bs) (xs0.drop a)=fw lt (2 * bs) xs0) (h2:xs.drop a=fw lt bs (xs0.drop a)) (h:xs.length≤a+bs):xs=fw lt (2 * bs) xs0:=by
  rw [←h1,gO (bs:=2 * bs) (by simp;omega)];rw [gO (by simp;omega)] at h2;rw [←h2,cw]
end pass
end order
end Srt
end Go.Proofs.Ytcfdebjhikahfaa
namespace Go.Proofs.Ytcfdebjhikahfaa
namespace B
section
open Srt
def bs (s:ByteArray):List UInt8:=s.data.toList
def tx (l:List UInt8):ByteArray:=⟨l.toArray⟩
theorem Dv (s:ByteArray):tx (bs s)=s:=by cases s;simp [bs,tx]
theorem ji (s:ByteArray):(bs s).length=s.size:=by simp [bs]
theorem DT {s u:ByteArray} (h:bs s=bs u):s=u:=by rw [←Dv s,h,Dv]
theorem vX (s:ByteArray) (i j:Nat):bs (s.extract i j)=fj (bs s) i j:=by
  simp [bs,fj,ByteArray.data_extract]
theorem zS (s:ByteArray):iH s s=true:=oJ.2 rfl
theorem jB {s:ByteArray} {k:Nat} {b:UInt8} (h:(bs s)[k]? =some b):bS s (k:Int)=b.toNat:=by
  unfold bS;have e:s.data.toList=bs s:=rfl;rw [e,eT,kR,h];rfl
theorem uN:∀x:List UInt8,Op.bytesLess x x=false
  | [] => rfl
  | a :: x => by
    rw [Op.bytesLess,uN x,Bool.and_false,Bool.or_false];simp
theorem Fa {a b:UInt8}:(decide (a < b)=true)↔a.toNat < b.toNat:=by rw [ah];exact UInt8.lt_iff_toNat_lt
theorem Fb {a b:UInt8}:((a==b)=true)↔a.toNat=b.toNat:=by rw [beq_iff_eq];exact UInt8.toNat_inj.symm
theorem pE {a b:UInt8} {x y:List UInt8}:Op.bytesLess (a::x) (b::y)=true↔a.toNat < b.toNat∨(a.toNat=b.toNat∧Op.bytesLess x y=true):=by
  rw [Op.bytesLess,be,am,Fa,Fb]
theorem ra:∀{x y z:List UInt8},Op.bytesLess x y=true→Op.bytesLess y z=true→Op.bytesLess x z=true
  | x, y, [], _, h => by cases y <;> simp [Op.bytesLess] at h
  | x, [], c :: z, h, _ => by cases x <;> simp [Op.bytesLess] at h
  | [], b :: y, c :: z, _, _ => by simp [Op.bytesLess]
  | a :: x, b :: y, c :: z, h1, h2 => by
    rw [pE] at h1 h2 ⊢;rcases h1 with h1 | ⟨h1,h1'⟩
    · rcases h2 with h2 | ⟨h2,_⟩ <;> left <;> omega
    · rcases h2 with h2 | ⟨h2,h2'⟩
      · left;omega
      · exact .inr ⟨by omega,ra h1' h2'⟩
theorem uO:∀x y:List UInt8,Op.bytesLess x y=true∨x=y∨Op.bytesLess y x=true
  | [], [] => .inr (.inl rfl)
  | [], b :: y => .inl (by simp [Op.bytesLess])
  | a :: x, [] => .inr (.inr (by simp [Op.bytesLess]))
  | a :: x, b :: y => by
    rw [pE,pE];rcases jF a.toNat b.toNat with h | h | h
    · exact .inl (.inl h)
    · rcases uO x y with h' | h' | h'
      · exact .inl (.inr ⟨h,h'⟩)
      · exact .inr (.inl (by rw [UInt8.toNat_inj.1 h,h']))
      · exact .inr (.inr (.inr ⟨h.symm,h'⟩))
    · exact .inr (.inr (.inl h))
theorem sF (s:ByteArray):s.toList=bs s:=ByteArray.toList_eq s
theorem mI (x:ByteArray):lQ x x=false:=uN _
theorem mb {x y z:ByteArray} (h1:lQ x y=true) (h2:lQ y z=true):lQ x z=true:=ra h1 h2
theorem mJ (x y:ByteArray):lQ x y=true∨x=y∨lQ y x=true:=by
  rcases uO x.toList y.toList with h | h | h
  · exact .inl h
  · rw [sF,sF] at h;exact .inr (.inl (DT h))
  · exact .inr (.inr h)
theorem nF {x y:ByteArray} (h:lQ x y=true):lQ y x=false:=by
  cases hb:lQ y x with
  | false => rfl
  | true => have := mb h hb; rw [mI] at this; cases this
theorem tK {x y:ByteArray}:pY x y=true↔lQ y x=false:=by
  unfold pY;rw [be,oJ];constructor
  · rintro (h | rfl)
    · exact nF h
    · exact mI _
  · intro h;rcases mJ x y with h' | h' | h'
    · exact .inl h'
    · exact .inr h'
    · rw [h] at h';cases h'
def rk (S:List ByteArray) (x:ByteArray):Int:=((S.countP fun z=>lQ z x:Nat):Int)
theorem xb {S:List ByteArray} {x y:ByteArray} (hx:x ∈ S) (h:lQ x y=true):rk S x < rk S y:=by
  unfold rk;have key:∀L:List ByteArray,L.countP (fun z=>lQ z x)≤L.countP (fun z=>lQ z y):=fun L=>List.countP_mono_left fun z _ hz=>mb hz h;have:S.countP (fun z=>lQ z x) < S.countP (fun z=>lQ z y):=by
    induction S with
    | nil => cases hx
    | cons a S ih =>
      rw [lR,lR];rcases List.mem_cons.1 hx with rfl | hx
      · rw [mI,h];have:=key S;simp;omega
      · have:=ih hx;cases ha:lQ a x with
        | false => simp; split <;> omega
        | true => rw [mb ha h]; simp; omega
  omega
theorem rc {S:List ByteArray} {x y:ByteArray} (hx:x ∈ S) (hy:y ∈ S):lQ x y=true↔rk S x < rk S y:=by
  constructor
  · exact xb hx
  · intro h;rcases mJ x y with h' | h' | h'
    · exact h'
    · subst h';omega
    · have:=xb hy h';omega
theorem xc {S:List ByteArray} {x y:ByteArray} (hx:x ∈ S) (hy:y ∈ S):pY x y=true↔rk S x≤rk S y:=by
  rw [tK,←aQ,rc hy hx];omega
theorem DU {S:List ByteArray} {x y:ByteArray} (hx:x ∈ S) (hy:y ∈ S) (h:rk S x=rk S y):x=y:=by
  rcases mJ x y with h' | h' | h'
  · have:=xb hx h';omega
  · exact h'
  · have:=xb hy h';omega
theorem zT {S:List ByteArray} {x y:ByteArray} (hx:x ∈ S) (hy:y ∈ S):oM x y ∈ S∧rk S (oM x y)=max (rk S x) (rk S y):=by
  unfold oM;split
  · rename_i h;rw [rc hx hy] at h;exact ⟨hy,by omega⟩
  · rename_i h;rw [rc hx hy] at h;exact ⟨hx,by omega⟩
def mY (x y:ByteArray):Int:=if lQ x y=true then -1 else if lQ y x=true then 1 else 0
def ql (n:Int):Bool:=decide (128≤n)&&decide (n≤191)
def vY (b:UInt8):Bool:=ql (b.toNat:Int)
def tw (s:ByteArray) (k:Nat):Nat:=(((bs s).drop k).takeWhile vY).length
def endF (s:ByteArray) (at':Nat):Nat:=at'+1+tw s (at'+1)
theorem oT {s:ByteArray} {k:Nat} (h:k < s.size) (hb:ql (bS s (k:Int))=true):k+tw s k=k+1+tw s (k+1):=by
  obtain ⟨b,hk⟩:∃b,(bs s)[k]? =some b:=⟨_,bw (by rw [ji];exact h)⟩;have hd:(bs s).drop k=b::(bs s).drop (k+1):=by
    have hlt:k < (bs s).length:=by rw [ji];exact h
    rw [ej hlt];rw [bw hlt] at hk;cases hk;rfl
  unfold tw;have hb':vY b=true:=by unfold vY;rw [←jB hk];exact hb
  rw [hd,ga,if_pos hb',bD];omega
theorem tL {s:ByteArray} {k:Nat} (h:s.size≤k∨ql (bS s (k:Int))=false):tw s k=0:=by
  unfold tw;by_cases hk:k < s.size
  · have hlt:k < (bs s).length:=by rw [ji];exact hk
    rw [ej hlt];have hb:ql (bS s (k:Int))=false:=h.resolve_left (by omega);rw [jB (bw hlt)] at hb;rw [ga,if_neg (by unfold vY;rw [hb];decide)];rfl
  · rw [dI (by rw [ji];omega)];rfl
theorem Fc (s:ByteArray) (k:Nat) (h:k≤s.size):k+tw s k≤s.size:=by
  unfold tw;have:=(List.takeWhile_sublist vY (l:=(bs s).drop k)).length_le;rw [dS,ji] at this
  omega
def ei (s:ByteArray):Bool:=match bs s with
  | [] => false
  | b :: l => !vY b && l.all vY
theorem DV {l:List UInt8}:(l.takeWhile vY).length=l.length↔l.all vY=true:=by
  induction l with
  | nil => simp
  | cons b l ih =>
    rw [ga,dK];cases hb:vY b with
    | false => simp
    | true => simp [ih]
theorem yq (s:ByteArray):((!iH s (⟨#[]⟩:ByteArray)&& !ql (bS s (0:Int)))&&decide ((endF s 0:Int)=(s.size:Int)))=ei s:=by
  have hl:=ji s;have e0:iH s (⟨#[]⟩:ByteArray)=decide (bs s=[]):=zv s _;have et:endF s 0=1+(((bs s).drop 1).takeWhile vY).length:=by unfold endF tw;simp
  unfold ei;rw [e0,et];cases hb:bs s with
  | nil => simp
  | cons b l =>
    have e1:bS s (0:Int)=b.toNat:=jB (k:=0) (by rw [hb];rfl);rw [e1];rw [hb] at hl;simp only [bD] at hl;have e2:decide (((1+((List.drop 1 (b::l)).takeWhile vY).length:Nat):Int)=(s.size:Int))=l.all vY:=by
      rw [fV,ah,←DV];simp only [List.drop_succ_cons,jI];omega
    rw [e2];simp [vY]
def mc (n:Int):Bool:=decide (n < 128) || decide (191 < n)
theorem mK (n:Int):mc n= !ql n:=by
  unfold mc ql;by_cases h1:n < 128 <;> by_cases h2:191 < n <;> simp [h1,h2] <;> omega
def lO (s:ByteArray) (st:List ByteArray × Nat) (i:Nat):List ByteArray × Nat:=
  if (decide ((i:Int)=(s.size:Int)) || mc (bS s (i:Int)))=true then (st.1++ [s.extract st.2 i],i) else st
def iT (s:ByteArray):Nat→List ByteArray × Nat
  | 0 => ([], 0)
  | k + 1 => lO s (iT s k) (k + 1)
def bW (s:ByteArray):List ByteArray:=(iT s s.size).1
theorem uP (s:ByteArray) (k:Nat):(iT s k).2≤k:=by
  induction k with
  | zero => exact bd _
  | succ k ih =>
    rw [iT,lO];split
    · exact bd _
    · exact Nat.le_succ_of_le ih
theorem oU (s:ByteArray) (k:Nat):(iT s k).1.length≤k:=by
  induction k with
  | zero => exact bd _
  | succ k ih =>
    rw [iT,lO];split
    · simp only [bN,bD,bO];omega
    · exact Nat.le_succ_of_le ih
theorem BY {s:ByteArray} {k:Nat} (hk:k < s.size):(iT s k).1=[]↔∀i,1≤i→i≤k→ql (bS s (i:Int))=true:=by
  induction k with
  | zero => constructor
            · intro _ i h1 h2;omega
            · intro _;rfl
  | succ k ih =>
    have ih:=ih (by omega);rw [iT,lO,mK,decide_eq_false (by omega),gV];cases hb:ql (bS s ((k+1:Nat):Int)) with
    | false =>
      simp only [kO,if_true];constructor
      · intro h;simp at h
      · intro h;have:=h (k+1) (by omega) (by omega);rw [hb] at this;cases this
    | true =>
      simp only [kc,Bool.false_eq_true,if_false];rw [ih];constructor
      · intro h i h1 h2;by_cases e:i=k+1
        · subst e;exact hb
        · exact h i h1 (by omega)
      · intro h i h1 h2;exact h i h1 (by omega)
theorem vZ {s:ByteArray} (h:0 < s.size):(bW s).length=1↔∀i,1≤i→i < s.size→ql (bS s (i:Int))=true:=by
  unfold bW;obtain ⟨k,hk⟩:∃k,s.size=k+1:=⟨s.size - 1,by omega⟩;rw [hk,iT,lO,decide_eq_true (by omega),Bool.true_or,if_pos rfl,bN];have h1:=BY (s:=s) (k:=k) (by omega);constructor
  · intro hl i h2 h3;have:(iT s k).1=[]:=bA (by simp only [bD,bO] at hl;omega);exact h1.1 this i h2 (by omega)
  · intro hq;rw [h1.2 fun i h2 h3=>hq i h2 (by omega)];rfl
theorem tM (s:ByteArray):((decide ((0:Int) < (s.size:Int))&&mc (bS s (0:Int)))&&decide (((bW s).length:Int)=1))=ei s:=by
  have hl:=ji s;unfold ei;cases hb:bs s with
  | nil => rw [hb] at hl; simp at hl; rw [decide_eq_false (by omega)]; simp
  | cons b l =>
    rw [hb] at hl;simp only [bD] at hl;have e1:bS s (0:Int)=b.toNat:=jB (k:=0) (by rw [hb];rfl);rw [decide_eq_true (by omega),gW,e1,mK];congr 1;rw [fV,ah,da];have h1:=vZ (s:=s) (by omega);constructor
    · intro h x hx;obtain ⟨i,hi,rfl⟩:=kz hx;have:=h1.1 (by omega) (i+1) (by omega) (by omega);rw [jB (k:=i+1) (b:=l[i]) (by rw [hb,List.getElem?_cons_succ,bw hi])] at this
      exact this
    · intro h;have:(bW s).length=1:=h1.2 fun i h2 h3=>by
        match i,h2 with
        | j + 1, _ =>
          have hj:j < l.length:=by omega
          rw [jB (k:=j+1) (b:=l[j]) (by rw [hb,List.getElem?_cons_succ,bw hj])];exact h _ (lV hj)
      omega
def jC (b:UInt8):UInt8:=if (decide ((65:Int)≤(b.toNat:Int))&&decide ((b.toNat:Int)≤90))=true then UInt8.ofNat (IntKind.u8.wrap ((b.toNat:Int)+32)).toNat else b
def wa (b:UInt8):UInt8:=if (decide ((97:Int)≤(b.toNat:Int))&&decide ((b.toNat:Int)≤122))=true then UInt8.ofNat (IntKind.u8.wrap ((b.toNat:Int) - 32)).toNat else b
def ge (s:ByteArray):ByteArray:=⟨((bs s).map jC).toArray⟩
def Fq (s:ByteArray):ByteArray:=⟨((bs s).map wa).toArray⟩
theorem gU (n:Int):0≤IntKind.u8.wrap n∧IntKind.u8.wrap n≤255:=by
  simp [IntKind.wrap,IntKind.signed,IntKind.bits];omega
def fF (f:UInt8→UInt8) (xs:List UInt8) (k:Nat):List UInt8:=(xs.take k).map f++xs.drop k
theorem pF (f:UInt8→UInt8) (xs:List UInt8) (k:Nat):(fF f xs k).length=xs.length:=by
  simp [fF];omega
theorem nG {f:UInt8→UInt8} {xs:List UInt8} {k:Nat} (h:k < xs.length):nth (fF f xs k) (k:Int)=nth xs (k:Int):=by
  unfold fF;rw [fT h];exact kG (by simp;omega)
theorem sG {f:UInt8→UInt8} {xs:List UInt8} {k:Nat} (h:k < xs.length) {v:UInt8} (hv:f (nth xs (k:Int))=v):fF f xs (k+1)=(fF f xs k).set (k:Int).toNat v:=by
  unfold fF;rw [fT h,ld h,eT,bM];have hl:(List.map f (xs.take k)).length=k:=by simp;omega
  rw [eA _ _ (by omega),hl,jJ];simp [hv]
theorem rd {f:UInt8→UInt8} {xs:List UInt8} {k:Nat} (h:k < xs.length) (hv:f (nth xs (k:Int))=nth xs (k:Int)):fF f xs (k+1)=fF f xs k:=by
  unfold fF;rw [fT h,ld h,bM];simp [hv]
theorem oz (f:UInt8→UInt8) (xs:List UInt8):fF f xs 0=xs:=by simp [fF]
theorem pG {f:UInt8→UInt8} {xs:List UInt8} {k:Nat} (h:xs.length≤k):fF f xs k=xs.map f:=by
  unfold fF;rw [bz h,dI h,eb]
end
section
open Go.RowKit
def pH (p q:Int × Int):Bool:=decide (max p.1 q.1≤min p.2 q.2)
def DW (x y:Int):Int:=if x < y then -1 else if y < x then 1 else 0
def BZ (xs:List Int):Int:=(xs.find? (fun x=>x !=0)).getD 0
def DX (p q:Int × Int):Int:=BZ [DW p.1 q.1,DW p.2 q.2]
def fZ (x n:Int):Int:=IntKind.i64.wrap ((IntKind.u64.wrap x).tmod (IntKind.u64.wrap n))
theorem Ca {n:Int} (h:0 < n) (h2:n≤9223372036854775807):IntKind.u64.wrap n≠0:=by
  have:IntKind.u64.wrap n=n:=by simp [IntKind.wrap,IntKind.signed,IntKind.bits];omega
  omega
theorem fU {α:Type} [Inhabited α] {xs:List α} {k:Nat} (h:k < xs.length):xs.take (k+1)=xs.take k++ [nth xs k]:=by
  rw [jK h];simp [nth,List.getD,bw h]
theorem take_zero {xs:List Int} {k:Nat} (h:k < xs.length) (hq:∀x ∈ xs.take k,x=0) (h0:nth xs (k:Int)=0):∀x ∈ xs.take (k+1),x=0:=by
  rw [fU h];intro x hx;rcases List.mem_append.1 hx with hx | hx
  · exact hq x hx
  · simp at hx;rw [hx];exact h0
theorem xd {xs:List Int} {k:Nat} (hq:∀x ∈ xs.take k,x=0) (h:k < xs.length) (h0:¬nth xs (k:Int)=0):BZ xs=nth xs (k:Int):=by
  have e:xs=xs.take k++nth xs (k:Int)::xs.drop (k+1):=by
    conv=>lhs;rw [←cw (k+1) xs,fU h]
    simp
  have hn:(xs.take k).find? (fun x=>x !=0)=none:=List.find?_eq_none.2 fun x hx=>by simp [hq x hx]
  unfold BZ;rw [e,List.find?_append,hn];rw [←e];simp [List.find?_cons,h0]
theorem uQ {xs:List Int} {k:Nat} (hk:k≤xs.length) (hq:∀x ∈ xs.take k,x=0) (h:(xs.length:Int)≤k):BZ xs=0:=by
  rw [bz (by omega)] at hq;have hn:xs.find? (fun x=>x !=0)=none:=List.find?_eq_none.2 fun x hx=>by simp [hq x hx]
  simp [BZ,hn]
theorem tn (m i:Nat):((m:Int) - (i:Int)).toNat=m - i:=by omega
theorem Fs (m j i:Nat):((m:Int)+(j:Int) - (i:Int)).toNat=m+j - i:=by omega
set_option maxRecDepth 100000 in
theorem Cb (x:Int) (w:World):Calls Try.prog 86 #[aj x] w (fun e w'=>e= .returned (aD false)∧Ext bk w w'):=by
 refine enter (n:=6) Try.func86 rfl rfl (ar rfl) ?_;intro a0 τ0 ha st0;have e0:=nf ha;refine wp_seq (eM st0 [] ⟨ao fun c=>aw rfl rfl,au⟩ fun ac ag ae ab aa=> ?_);replace e0:=aa.k1 e0;have e2:=aa.V 0;refine wp_seq (lc [0,0,3,7] ab [] ⟨ak e0,ak e0,ao fun c=>ki rfl (c.q 0) (c.q 1),aI 2,au⟩ fun ac ag ae ab aa=> ?_);have e2:=aa.V 3;refine wp_ret ?_;refine rp ?_;refine cO (fn:=Try.f86) rfl ab.defers e2 ?_;exact ⟨by simp,ab.ext0⟩
set_option maxRecDepth 100000 in
theorem Fw (v:Value) (xs:List Int) (w:World) (hS:SlT jE w v xs):Calls Try.prog 27 #[v] w (fun e w'=>e= .returned (aj (BZ xs))∧Ext bk w w'):=by
 refine enter (n:=18) Try.func27 rfl rfl (ar rfl) ?_;intro a0 τ0 ha st0;have e0:=nf ha;have hle:=hS.le;refine wp_seq (eM st0 [] ⟨ao fun c=>aw rfl rfl,au⟩ fun ac ag ae ab aa=> ?_);replace e0:=aa.k1 e0;have e2:=aa.V 0;refine wp_seq (eM ab [] ⟨ao fun c=>aw rfl rfl,au⟩ fun ac ag ae ab aa=> ?_);obtain ⟨e0,e2⟩:=aa.k2 e0 e2;have e3:=aa.V 0;refine wp_seq ?_;refine wp_seq (nX [0,1,0] ab [] ⟨ak e0,ao fun c=>dh rfl bG (c.q 0) hS.sl,ao fun c=>aM rfl rfl,au⟩ fun ac ag ae ab aa=> ?_);obtain ⟨e2,e3⟩:=aa.k2 e2 e3;have e6:=aa.V 0;have e7:=aa.V 1;have e8:=aa.V 2;refine wp_block ?_;refine wp_loop (fun a_ w_=>∃(k:Nat) (τ:Nat→aX),(k≤xs.length)∧
      (∀x ∈ xs.take k,x=0)∧
      St (Nw w) w 18 a_ w_ τ∧
      aU a_ 8=(aj (k:Int))∧
      aU a_ 3=(aj 0)∧
      aU a_ 6=v∧
      aU a_ 7=(aj (xs.length:Int))) (fun a_ _=>xs.length - (intOf (aU a_ 8)).toNat) ?_ ?_
 · refine ⟨0,ae,?_,?_,ab,(e8.trans (aZ (by omega))),e3,e6,e7⟩
   · omega
   · simp
 intro a4 w4 hI;obtain ⟨k,τ4,q0,q1,st4,e8,e3,e6,e7⟩:=hI;have m8:=e8;refine wp_seq (eM st4 [] ⟨ao fun c=>ci rfl (c.p e8) (c.p e7),au⟩ fun ac ag ae ab aa=> ?_);obtain ⟨e3,e6,e7,e8⟩:=aa.k4 e3 e6 e7 e8;have e9:=aa.V 0;refine wp_seq ?_;refine wp_cond_split e9 (fun hc1=> ?_) (fun hc1=> ?_)
 · try simp only [ah] at hc1
   refine wp_skip ?_;refine wp_seq ?_;refine wp_block ?_;refine wp_seq (fa ab [] ⟨ao fun c=>aL rfl bG ax (c.p e6) hS.sl (c.p e8) (by omega) (by omega),ao fun c=>aB rfl aF (c.q 0) ((hS.at (ab.ext.trans c.J.ext)).elem (j:=0) (bh (i:=(k:Int)) (by omega) (by omega)) rfl),aI 1,au⟩ fun ac ag ae ab aa=> ?_);obtain ⟨e3,e6,e7,e8,e9⟩:=aa.k5 e3 e6 e7 e8 e9;have e5:=aa.V 2;refine wp_seq (nX [0,0,3] ab [] ⟨ak e5,ak e3,ao fun c=>ki rfl (c.q 0) (c.q 1),au⟩ fun ac ag ae ab aa=> ?_);obtain ⟨e3,e5,e6,e7,e8,e9⟩:=aa.k6 e3 e5 e6 e7 e8 e9;have e14:=aa.V 2;refine wp_cond_split e14 (fun hc2=> ?_) (fun hc2=> ?_)
   · try simp only [aA,av,ah,ai] at hc2
     refine wp_seq (eL ab [] ⟨ak e5,aI 0,au⟩ fun ac ag ae ab aa=> ?_);obtain ⟨e3,e5,e6,e7,e8,e9,e14⟩:=aa.k7 e3 e5 e6 e7 e8 e9 e14;have e2:=aa.V 1;refine wp_ret ?_;refine rp ?_;refine cO (fn:=Try.f27) rfl ab.defers e2 ?_;exact ⟨congrArg _ (aZ (by first | exact (xd q1 (by omega) (by assumption)).symm | exact (uQ q0 q1 (by assumption)).symm)),ab.ext0⟩
   try simp only [aA,av,ah,ai] at hc2
   refine wp_skip ?_;show _;refine eL ab [] ⟨ao fun c=>cp rfl (c.p e8) rfl (by omega),bm 0,au⟩ fun ac ag ae ab aa=> ?_;obtain ⟨e3,e5,e6,e7,e9,e14⟩:=aa.k6 e3 e5 e6 e7 e9 e14;have e8:=aa.V 1;refine ⟨⟨k+1,ae,?_,?_,ab,(e8.trans (aZ (by omega))),e3,e6,e7⟩,?_⟩
   · omega
   · exact take_zero (by omega) q1 (by assumption)
   · simp only [m8,e8,intOf];omega
 try simp only [ai,aP] at hc1
 refine wp_exit ?_;repeat (with_reducible refine bU ?_)
 refine bY ?_;refine wp_seq (eL ab [] ⟨ak e3,aI 0,au⟩ fun ac ag ae ab aa=> ?_);have e2:=aa.V 1;refine wp_ret ?_;refine rp ?_;refine cO (fn:=Try.f27) rfl ab.defers e2 ?_;exact ⟨congrArg _ (aZ (by first | exact (xd q1 (by omega) (by assumption)).symm | exact (uQ q0 q1 (by assumption)).symm)),ab.ext0⟩
set_option maxRecDepth 100000 in
theorem sH (x n:Int) (w:World) (hn:0 < n) (hn2:n≤9223372036854775807):Calls Try.prog 10 #[aj x,aj n] w (fun e w'=>e= .returned (aj (fZ x n))∧Ext bk w w'):=by
 refine enter (n:=11) Try.func10 rfl rfl (ar rfl) ?_;intro a0 τ0 ha st0;obtain ⟨e0,e1⟩:=qp ha;refine wp_seq (eM st0 [] ⟨ao fun c=>aw rfl rfl,au⟩ fun ac ag ae ab aa=> ?_);obtain ⟨e0,e1⟩:=aa.k2 e0 e1;have e4:=aa.V 0;refine wp_seq (tF [0,1,0,4,15,31,63] ab [] ⟨ak e0,ao fun c=>qH rfl cB cR (c.q 0),ak e1,ao fun c=>qH rfl cB cR (c.q 2),ao fun c=>Dp rfl (c.q 1) (c.q 3) (by exact Ca hn hn2),ao fun c=>qH rfl cR cB (c.q 4),aI 5,au⟩ fun ac ag ae ab aa=> ?_);have e4:=aa.V 6;refine wp_ret ?_;refine rp ?_;refine cO (fn:=Try.f10) rfl ab.defers e4 ?_;exact ⟨rfl,ab.ext0⟩
end
end B
end Go.Proofs.Ytcfdebjhikahfaa
namespace Go.Proofs.Ytcfdebjhikahfaa
namespace Srt
open B
theorem wb {α:Type} [Inhabited α] {xs:List α} {k:Nat} (h:k < xs.length):xs.take (k+1)=xs.take k++ [nth xs (k:Int)]:=ld h
theorem yr {α:Type} [Inhabited α] {lt:α→α→Bool} {x:α} {out:List α} {k:Nat} (h:0 < k) (hk:k≤out.length) (hq:∀q ∈ out.drop k,lt x q=true) (hc:lt x (nth out ((k:Int) - 1))=true):∀q ∈ out.drop (k - 1),lt x q=true:=by
  rw [fT (show k - 1 < out.length by omega),show k - 1+1=k by omega];intro q hm;rcases List.mem_cons.1 hm with rfl | hm
  · rwa [show ((k - 1:Nat):Int)=(k:Int) - 1 by omega]
  · exact hq q hm
theorem DY {α:Type} [Inhabited α] {lt:α→α→Bool} {O:List α} {x:α} {k:Nat} (hk:k≤O.length) (hq:∀q ∈ O.drop k,lt x q=true)
    (hc:(decide ((0:Int) < (k:Int))&&lt x (nth O ((k:Int) - 1)))=false):
    vT lt x O=(([]++(O.drop 0).take (k - 0))++ [x])++(O.drop k).take (O.length - k):=by
  have e:O=O.take k++O.drop k:=(cw k O).symm;conv=>lhs;rw [e]
  rw [nD hq]
  · rw [bz (l:=O.drop k) (by simp)];simp
  · intro p hp;by_cases h0:k=0
    · subst h0;simp at hp
    · have hlast:(O.take k).getLast? =some (nth O ((k:Int) - 1)):=by
        have:=wb (xs:=O) (k:=k - 1) (by omega);rw [show k - 1+1=k by omega] at this
        rw [this,List.getLast?_append,show ((k - 1:Nat):Int)=(k:Int) - 1 by omega];rfl
      rw [hlast] at hp;cases hp
      have h1:decide ((0:Int) < (k:Int))=true:=decide_eq_true (by omega);rw [h1,gW] at hc;exact hc
end Srt
end Go.Proofs.Ytcfdebjhikahfaa
namespace Go.Proofs.Ytcfdebjhikahfaa
namespace B
section
open Srt
theorem TlS.at {w w':World} {v:Value} {ts:List Tr} (h:TlS w v ts) (he:Ext (Nw w) w w'):TlS w' v ts:=
  ⟨h.sl.keep he fun hn hk=>(by have:=h.sl.lt hn;simp only [Nw] at hk;omega),fun t ht=>(h.all t ht).at he⟩
theorem aW {α:Type} [Inhabited α] {xs:List α} {i:Int} (h0:0≤i) (h1:i < xs.length):nth xs i ∈ xs:=by
  obtain ⟨k,rfl⟩:∃k:Nat,i=(k:Int):=⟨i.toNat,by omega⟩;exact gL (qW (by omega))
def dD (xs:List Int):Int:=xs.foldl (· +·) 0
theorem em (xs:List Int) (x:Int):dD (xs++ [x])=dD xs+x:=by simp [dD]
theorem iC {xs:List Int} (h:∀x ∈ xs,0≤x):0≤dD xs:=by
  induction xs using eQ with
  | h0 => exact eW _
  | h1 xs x ih =>
    rw [em];have:=ih fun y hy=>h y (by simp [hy]);have:=h x (by simp);omega
theorem jQ (xs ys:List Int):dD (xs++ys)=dD xs+dD ys:=by
  induction ys using eQ with
  | h0 => simp [dD]
  | h1 ys y ih => rw [← cY, em, ih, em]; omega
theorem Cc {xs:List Int} (h:∀x ∈ xs,0≤x) (k:Nat):0≤dD (xs.take k)∧dD (xs.take k)≤dD xs:=by
  have h1:0≤dD (xs.take k):=iC fun x hx=>h x (List.mem_of_mem_take hx);have h2:0≤dD (xs.drop k):=iC fun x hx=>h x (iM hx);have h3:=jQ (xs.take k) (xs.drop k);rw [cw] at h3;omega
theorem re {xs:List Int} (h:∀x ∈ xs,0≤x) {x:Int} (hx:x ∈ xs):x≤dD xs:=by
  obtain ⟨A,B,rfl⟩:=List.append_of_mem hx;rw [show A++x::B=(A++ [x])++B by simp,jQ,em];have h1:0≤dD A:=iC fun y hy=>h y (by simp [hy]);have h2:0≤dD B:=iC fun y hy=>h y (by simp [hy]);omega
section
variable {β:Type}
mutual
def lE (g:Tr→List β→β):Tr→β
  | ⟨k, ch, ng, rv, rows, mn, mx, lz, kv, kids⟩ => g ⟨k, ch, ng, rv, rows, mn, mx, lz, kv, kids⟩ (xe g kids)
def xe (g:Tr→List β→β):List Tr→List β
  | [] => []
  | t :: ts => lE g t :: xe g ts
end
theorem yt (g:Tr→List β→β) (ts:List Tr):xe g ts=ts.map (lE g):=by
  induction ts with
  | nil => rfl
  | cons t ts ih => rw [xe, ih]; rfl
theorem iQ (g:Tr→List β→β) (t:Tr):lE g t=g t (t.kids.map (lE g)):=by cases t;simp [lE,yt]
theorem oV {g:Tr→List β→β} (hg:∀t l,g (er t) l=g t l) (t:Tr):lE g (er t)=lE g t:=by
  induction t using Tr.ind with
  | h t ih =>
    rw [iQ,iQ g t,mD,mr,hg];congr 1;exact jg ih
end
def cW:Tr→Int:=lE fun _ l=>1+dD l
theorem iF (t:Tr):cW t=1+dD (t.kids.map cW):=iQ _ t
def qm (t:Tr):Bool:=decide (t.k=5) || decide (t.k=6)
def gP:Tr→Int:=lE fun t l=>(if t.k=5 then 1 else 0)+dD l
theorem oA (t:Tr):gP t=(if t.k=5 then 1 else 0)+dD (t.kids.map gP):=iQ _ t
def nq (xs:List Int):Int:=xs.foldl max 0
theorem pI (xs:List Int) (x:Int):nq (xs++ [x])=max (nq xs) x:=by simp [nq]
def fx:Tr→Int:=lE fun t l=>nq l+if qm t=true then 1 else 0
theorem md (t:Tr):fx t=nq (t.kids.map fx)+if qm t=true then 1 else 0:=iQ _ t
theorem lh (t:Tr):1≤cW t:=by
  induction t using Tr.ind with
  | h t ih =>
    rw [iF];have:0≤dD (t.kids.map cW):=iC fun x hx=>by
      obtain ⟨k,hk,rfl⟩:=List.mem_map.1 hx;have:=ih k hk;omega
    omega
theorem yu (t:Tr):(er t).k=t.k:=by cases t;rfl
theorem yv (t:Tr):cW (er t)=cW t:=oV (fun _ _=>rfl) t
theorem jV (t:Tr):gP (er t)=gP t:=oV (fun t l=>by simp only [yu]) t
theorem oW (xs:List Int):0≤nq xs:=by
  induction xs using eQ with
  | h0 => exact eW _
  | h1 xs x ih => rw [pI]; omega
theorem qr {xs:List Int} {n:Int} (h0:0≤n) (h:∀x ∈ xs,x≤n):nq xs≤n:=by
  induction xs using eQ with
  | h0 => exact h0
  | h1 xs x ih =>
    rw [pI];have:=ih fun y hy=>h y (by simp [hy]);have:=h x (by simp);omega
theorem rf {xs:List Int} {x:Int} (h:x ∈ xs):x≤nq xs:=by
  induction xs using eQ with
  | h0 => cases h
  | h1 xs y ih =>
    rw [pI];rcases List.mem_append.1 h with h | h
    · have:=ih h;omega
    · simp at h;subst h;omega
theorem jp (t:Tr):0≤gP t∧gP t≤cW t:=by
  induction t using Tr.ind with
  | h t ih =>
    rw [oA,iF];have h1:∀ks:List Tr,(∀k ∈ ks,0≤gP k∧gP k≤cW k)→0≤dD (ks.map gP)∧dD (ks.map gP)≤dD (ks.map cW):=by
      intro ks;induction ks using eQ with
      | h0 => intro _; exact ⟨eW _, eW _⟩
      | h1 ks x ih2 =>
        intro h;rw [bM,bM,bo,bJ,bo,bJ,em,em];have:=ih2 fun k hk=>h k (by simp [hk]);have:=h x (by simp);omega
    have:=h1 t.kids ih;split <;> omega
theorem uR (t:Tr):0≤fx t∧fx t≤cW t:=by
  induction t using Tr.ind with
  | h t ih =>
    rw [md,iF];have hp:∀k ∈ t.kids,0≤cW k:=fun k _=>by have:=lh k;omega
    have h0:=oW (t.kids.map fx);have h1:nq (t.kids.map fx)≤dD (t.kids.map cW):=qr (iC fun x hx=>by obtain ⟨k,hk,rfl⟩:=List.mem_map.1 hx;exact hp k hk) fun x hx=>by
      obtain ⟨k,hk,rfl⟩:=List.mem_map.1 hx;have:=(ih k hk).2;have:cW k≤dD (t.kids.map cW):=re (fun x hx=>by obtain ⟨k,hk,rfl⟩:=List.mem_map.1 hx;exact hp k hk) (List.mem_map.2 ⟨k,hk,rfl⟩);omega
    split <;> omega
def Dw {α:Type} (f:α→Bool) (xs:List α):Int:=if xs.any f=true then ((xs.takeWhile fun y=> !f y).length:Int) else -1
theorem tN {α:Type} [Inhabited α] {f:α→Bool} {xs:List α} {k:Nat} (h:k < xs.length) (hq:∀y ∈ xs.take k,f y=false) (hc:f (nth xs (k:Int))=true):Dw f xs=(k:Int):=by
  unfold Dw;rw [if_pos (List.any_eq_true.2 ⟨_,aW (by omega) (by omega),hc⟩)];have e:xs=xs.take k++nth xs (k:Int)::xs.drop (k+1):=by rw [←fT h,cw]
  have e2:xs.takeWhile (fun y=> !f y)=xs.take k:=by
    conv=>lhs;rw [e]
    rw [List.takeWhile_append_of_pos (fun y hy=>by rw [hq y hy];rfl),ga,if_neg (by rw [hc];decide),eb]
  rw [e2,dp];omega
theorem qt {α:Type} [Inhabited α] {f:α→Bool} {xs:List α} {k:Nat} (h:xs.length≤k) (hq:∀y ∈ xs.take k,f y=false):Dw f xs= -1:=by
  rw [bz h] at hq;unfold Dw;rw [if_neg];rw [List.any_eq_true]
  rintro ⟨y,hy,hf⟩
  rw [hq y hy] at hf;cases hf
theorem xf {α:Type} [Inhabited α] {f:α→Bool} {xs:List α} {k:Nat} (h:k < xs.length) (hq:∀y ∈ xs.take k,f y=false) (hc:f (nth xs (k:Int))=false):∀y ∈ xs.take (k+1),f y=false:=by
  rw [fU h];intro y hy;rcases List.mem_append.1 hy with hy | hy
  · exact hq y hy
  · simp at hy;rw [hy];exact hc
theorem zU {α:Type} (f:α→Bool) (xs:List α):decide (0≤Dw f xs)=xs.any f:=by
  unfold Dw;cases xs.any f <;> simp
theorem uS {f:Tr→Int} {ts:List Tr} {k:Nat} (h:k < ts.length):dD ((ts.take (k+1)).map f)=dD ((ts.take k).map f)+f (nth ts (k:Int)):=by
  rw [fU h,bM,bo,bJ,em]
theorem zV {f:Tr→Int} {ts:List Tr} (hf:∀t ∈ ts,0≤f t) (k:Nat):0≤dD ((ts.take k).map f)∧dD ((ts.take k).map f)≤dD (ts.map f):=by
  rw [List.map_take];exact Cc (fun x hx=>by obtain ⟨t,ht,rfl⟩:=List.mem_map.1 hx;exact hf t ht) k
theorem xg {f:Tr→Int} {ts:List Tr} (hf:∀t ∈ ts,0≤f t) {t:Tr} (ht:t ∈ ts):f t≤dD (ts.map f):=
  re (fun x hx=>by obtain ⟨t,ht,rfl⟩:=List.mem_map.1 hx;exact hf t ht) (List.mem_map.2 ⟨t,ht,rfl⟩)
end
section
open Go.RowKit Srt
theorem dA {K:Act→World→Prop} {a:Act} {w:World} (h:K a w):BM K .normal a w:=⟨rfl,h⟩
theorem mw.sv {v:Value} {n:Nat} (h:mw v n):∃s:Sv,v=s.v:=by
  rcases h with ⟨rfl,_⟩ | ⟨b,cap,rfl,_⟩
  · exact ⟨⟨none,0,0⟩,rfl⟩
  · exact ⟨⟨some b,n,cap⟩,rfl⟩
def kw (G:aX) (t:Tr):ZP:=⟨fun Z w=>TrT (fun g=>Z g∧G g) w t,fun hz he h=>(TrT.keep h he fun g hg hn=>hn hg.1).mono fun g hg _=>⟨hz g hg.1,hg.2⟩⟩
def nr (G:aX) (ts:List Tr):ZP:=⟨fun Z w=>∀t ∈ ts,TrT (fun g=>Z g∧G g) w t,fun hz he h t ht=>(kw G t).st hz he (h t ht)⟩
section
variable {G F:aX} {Z:aX} {τ:Nat→aX} {w w':World} {t:Tr} {ts us:List Tr} {v:Value}
theorem Fz.s (h:Fz (kw G t) τ w):sy w t:=TrT.s h
theorem zs (h:(kw G t).P Z w):sy w t:=TrT.s h
theorem zl (h:(nr G ts).P Z w) (hs:SlT nd w v ts):TlS w v ts:=⟨hs,fun t ht=>TrT.s (h t ht)⟩
theorem Fz.l (h:Fz (nr G ts) τ w) (hs:SlT nd w v ts):TlS w v ts:=zl h hs
theorem Fx (h:(kw G t).P Z w):(nr G t.kids).P Z w:=fun k hk=>TrT.kid h hk
theorem Fz.kl (h:Fz (kw G t) τ w):Fz (nr G t.kids) τ w:=Fx h
theorem ze {i:Int} (h:(nr G ts).P Z w) (h0:0≤i) (h1:i < ts.length):(kw G (nth ts i)).P Z w:=h _ (aW h0 h1)
theorem Fz.e {i:Int} (h:Fz (nr G ts) τ w) (h0:0≤i) (h1:i < ts.length):Fz (kw G (nth ts i)) τ w:=ze h h0 h1
theorem Fz.tn (G:aX) (τ:Nat→aX) (w:World):Fz (nr G []) τ w:=fun t h=>by cases h
theorem Fz.snoc (h:Fz (nr G ts) τ w) (h2:Fz (kw G t) τ w):Fz (nr G (ts++ [t])) τ w:=fun x hx=>by
  rcases List.mem_append.1 hx with hx | hx
  · exact h x hx
  · simp at hx;subst hx;exact h2
theorem Fz.app (h:Fz (nr G ts) τ w) (h2:Fz (nr G us) τ w):Fz (nr G (ts++us)) τ w:=fun x hx=>by
  rcases List.mem_append.1 hx with hx | hx
  · exact h x hx
  · exact h2 x hx
theorem TrT.inz {n:Nat} {a:Act} {τ0:Nat→aX} (h:TrT F w t) (st:St (Nw w) w n a w τ0):Fz (kw (Gn F w) t) τ0 w:=TrT.mono h fun g hg hlt=>⟨⟨hlt,fun s hs=>by have:=(st.bnd s g hs).1;simp only [Nw] at this;omega⟩,.inl hg⟩
theorem TrT.inzs {n:Nat} {a:Act} {τ0:Nat→aX} (h:∀t ∈ ts,TrT F w t) (st:St (Nw w) w n a w τ0):Fz (nr (Gn F w) ts) τ0 w:=fun t ht=>(h t ht).inz st
theorem TrT.inT {n:Nat} {a:Act} {τ0:Nat→aX} {T:aX} (h:TrT F w t) (hF:∀g,F g→¬T g) (st:St (fun k=>T k∨w.heap.size≤k) w n a w τ0):Fz (kw (Gn F w) t) τ0 w:=TrT.mono h fun g hg hlt=>⟨⟨hlt,fun s hs=>by
  rcases (st.bnd s g hs).1 with h1 | h1
  · exact hF g hg h1
  · omega⟩,.inl hg⟩
theorem Fz.out (h:Fz (kw G t) τ w):TrT G w t:=TrT.mono h fun g hg _=>hg.2
theorem Fz.outs (h:Fz (nr G ts) τ w):∀t ∈ ts,TrT G w t:=fun t ht=>TrT.mono (h t ht) fun g hg _=>hg.2
theorem Fz.outo (h:Fz (nr G ts) τ w) {i:Nat} {v:Value} (hv:∀g,v.ownBlock=some g→τ i g):∀t ∈ ts,TrT (fun g=>G g∧v.ownBlock≠some g) w t:=fun t ht=>TrT.mono (h t ht) fun g hg _=>⟨hg.2,fun e=>hg.1.2 i (hv g e)⟩
end
section
variable {α:Type} {N:aX} {P:Program} {ops:Array Oper} {sp:List (Spec N)} {In:Nat→Ini N} {a0:Act} {w0:World} {bf:List Nat} {j:Nat} {o:Oper} {done:Nat→Bool} {a:Act} {w w' W:World} {τ τ0:Nat→aX} {F:aX} {t:Tr} {ts:List Tr} {n:Nat} {a1:Act}
theorem Cx.hW (c:Cx ops sp In a0 w0 bf j o done a w τ) (st:St N W n a1 w0 τ0):W.heap.size≤w.heap.size:=aE st.ext.size c.J.ext.size
theorem Cx.tz (c:Cx ops sp In a0 w0 bf j o done a w τ) (st:St N W n a1 w0 τ0) (hx:Ext bk w w') (h:TrT (Gn (fun g=>fh τ w g∧Gn F W g) w) w' t):(kw (Gn F W) t).P (fh τ w') w':=TrT.mono h (c.gz (c.hW st) hx.size)
theorem Cx.tn (c:Cx ops sp In a0 w0 bf j o done a w τ) (st:St N W n a1 w0 τ0) (hx:Ext bk w w') (h:TrT (Gn bk w) w' t):(kw (Gn F W) t).P (fh τ w') w':=c.tz st hx (h.mono fun g hg _=>hg.elim (fun h=>h.elim) .inr)
theorem Cx.tzo {tag:Nat} {v:Value} {E:Enc α} {ty:Nat} {xs:List α} (c:Cx ops sp In a0 w0 bf j o done a w τ) (st:St N W n a1 w0 τ0) (hx:Ext bk w w') (hv:oI E ty w w' v xs) (h:∀t ∈ ts,TrT (fun g=>Gn (fun g=>fh τ w g∧Gn F W g) w g∧v.ownBlock≠some g) w' t):(nr (Gn F W) ts).P (fh (ni τ tag fun g=>v.ownBlock=some g) w') w':=fun t ht=>TrT.mono (h t ht) (c.gzo (c.hW st) hx.size hv.2)
theorem Cx.sn {v:Value} {E:Enc α} {ty:Nat} {xs:List α} (c:Cx ops sp In a0 w0 bf j o done a w τ) (st:St N W n a1 w0 τ0) (hx:Ext bk w w') (h:oI E ty w w' v xs):(fL E (Gn F W) v xs).P (fh τ w') w':=⟨h.1.sl,fun hn=>by
  have hlt:=h.1.sl.lt hn;have hge:w.heap.size≤(dF v).block:=by
    rcases h.1.2 with ⟨_,h0⟩ | ⟨g,cap,cur,hv,_⟩
    · exact absurd (bA h0) hn
    · subst hv;exact h.2 g rfl
  exact c.gz (c.hW st) hx.size _ (.inr hge) hlt⟩
end
theorem dg.blk {α:Type} {E:Enc α} {ty:Nat} {xs:List α} {T:aX} {v:Value} {w:World} (h:dg E ty xs T v w) (hn:xs≠ []):T (dF v).block:=by
  rcases h.1.2 with ⟨_,h0⟩ | ⟨g,cap,cur,hv,_⟩
  · exact absurd (bA h0) hn
  · subst hv;exact h.2 g rfl
theorem qn {G Z:aX} {w:World}:(nr G []).P Z w:=fun t h=>by cases h
theorem mW {G Z:aX} {w:World} {t:Tr} {ts:List Tr} (h:(kw G t).P Z w) (h2:(nr G ts).P Z w):(nr G (t::ts)).P Z w:=fun x hx=>by
  rcases List.mem_cons.1 hx with hx | hx
  · subst hx;exact h
  · exact h2 x hx
def cZ (k:Int) (ch:ByteArray) (ng:Bool) (mn mx:Int) (lz:Bool):Tr:=⟨k,ch,ng,Sv.nil,[],mn,mx,lz,Sv.nil,[]⟩
theorem fo (F:aX) (w:World) (k:Int) (ch:ByteArray) (ng:Bool) (mn mx:Int) (lz:Bool):TrT F w (cZ k ch ng mn mx lz):= .mk (SlT.nil _ _) (fun h=>absurd rfl h) (SlT.nil _ _) (fun h=>absurd rfl h) (fun k h=>by cases h)
def mZ (k:Int) (ks:List Tr):Tr:=⟨k,⟨#[]⟩,false,Sv.nil,[],0,0,false,Sv.nil,ks⟩
def hO (k:Int) (l:List Tr):List Tr:=l.flatMap fun x=>if x.k=k then x.kids else [x]
def li (l:List Tr):Tr:=match hO 0 l with
  | [x] => x
  | ks => mZ 0 ks
def me (l:List Tr):Tr:=match hO 1 l with
  | [] => mZ 0 []
  | [x] => x
  | ks => mZ 1 ks
theorem mL (k:Int) (l:List Tr) (x:Tr):hO k (l++ [x])=hO k l++if x.k=k then x.kids else [x]:=by simp [hO]
theorem uT {ts xs us:List Tr} {k:Int} {n:Nat} (h:n < xs.length) (hq:ts.map er=hO k ((xs.take n).map er)) {t:Tr} (ht:er t=er (nth xs (n:Int))) (hk:t.k=k) (hu:us=t.kids):(ts++us).map er=hO k ((xs.take (n+1)).map er):=by
  subst hu;rw [fU h,bM,bM,bo,bJ,mL,←ht,yu,if_pos hk,←hq,mD]
theorem sI {ts xs:List Tr} {k:Int} {n:Nat} (h:n < xs.length) (hq:ts.map er=hO k ((xs.take n).map er)) {t:Tr} (ht:er t=er (nth xs (n:Int))) (hk:¬t.k=k):(ts++ [t]).map er=hO k ((xs.take (n+1)).map er):=by
  rw [fU h,bM,bM,bo,bJ,bo,bJ,mL,←ht,yu,if_neg hk,←hq]
theorem rh (t:Tr):(t.kids.length:Int)+1≤cW t:=by
  have h:∀ks:List Tr,(ks.length:Int)≤dD (ks.map cW):=by
    intro ks;induction ks using eQ with
    | h0 => exact eW _
    | h1 ks x ih =>
      rw [bM,bo,bJ,em,bN];have:=lh x;simp;omega
  have:=iF t;have:=h t.kids;omega
def za (rs:List (ByteArray × ByteArray)):Int:=dD (rs.map fun r=>1+(r.1.size:Int)+(r.2.size:Int))
def fR:Tr→Int:=lE fun t l=>1+(t.ch.size:Int)+za t.rows+dD l
theorem lj (t:Tr):fR t=1+(t.ch.size:Int)+za t.rows+dD (t.kids.map fR):=iQ _ t
theorem nH (rs:List (ByteArray × ByteArray)):(rs.length:Int)≤za rs:=by
  unfold za;induction rs using eQ with
  | h0 => exact eW _
  | h1 rs r ih => rw [bM, bo, bJ, em, bN]; simp; omega
theorem Cd {rs:List (ByteArray × ByteArray)} {r:ByteArray × ByteArray} (h:r ∈ rs):(r.1.size:Int)+(r.2.size:Int)≤za rs:=by
  have:=re (xs:=rs.map fun r=>1+(r.1.size:Int)+(r.2.size:Int)) (fun x hx=>by obtain ⟨q,_,rfl⟩:=List.mem_map.1 hx;omega) (List.mem_map.2 ⟨r,h,rfl⟩);unfold za;omega
theorem lF (t:Tr):1≤fR t:=by
  induction t using Tr.ind with
  | h t ih =>
    rw [lj];have:0≤dD (t.kids.map fR):=iC fun x hx=>by
      obtain ⟨k,hk,rfl⟩:=List.mem_map.1 hx;have:=ih k hk;omega
    have:=nH t.rows;omega
theorem tO {t k:Tr} (h:k ∈ t.kids):fR k < fR t:=by
  have h1:=xg (f:=fR) (fun q _=>by have:=lF q;omega) h;have:=lj t;have:=nH t.rows;omega
theorem pJ (t:Tr):fR (er t)=fR t:=oV (fun t l=>by cases t;rfl) t
theorem ri (t:Tr):cW t≤fR t:=by
  induction t using Tr.ind with
  | h t ih =>
    have h1:∀ks:List Tr,(∀k ∈ ks,cW k≤fR k)→dD (ks.map cW)≤dD (ks.map fR):=by
      intro ks;induction ks using eQ with
      | h0 => intro _; exact eW _
      | h1 ks x ih2 =>
        intro h;rw [bM,bM,bo,bJ,bo,bJ,em,em];have:=ih2 fun k hk=>h k (by simp [hk]);have:=h x (by simp);omega
    have:=h1 t.kids ih;have:=nH t.rows;rw [iF,lj];omega
theorem iY (t:Tr):(t.kids.length:Int)+1≤fR t∧(t.rows.length:Int)≤fR t∧cW t≤fR t∧(t.ch.size:Int)≤fR t:=by
  have h0:=nH t.rows;have h1:=rh t;have h2:=ri t;have h3:=lj t;have h4:0≤dD (t.kids.map fR):=iC fun x hx=>by
    obtain ⟨k,hk,rfl⟩:=List.mem_map.1 hx;have:=lF k;omega
  omega
theorem zW {t u:Tr} (h:er t=er u):fR t=fR u:=by rw [←pJ t,h,pJ]
theorem zX (k:Int) (l:List Tr):(((hO k l).length:Nat):Int)≤dD (l.map cW):=by
  induction l using eQ with
  | h0 => exact eW _
  | h1 l x ih =>
    rw [mL,bM,bo,bJ,em,bN];have h1:=rh x;have h2:=lh x;split <;> simp <;> omega
theorem yw (l:List Tr):(l.map er).map cW=l.map cW:=by
  rw [mr];exact jg fun t _=>yv t
theorem yx {ts xs:List Tr} {k:Int} {n:Nat} (hq:ts.map er=hO k ((xs.take n).map er)):(ts.length:Int)≤dD ((xs.take n).map cW):=by
  have h1:=zX k ((xs.take n).map er);rw [←hq,yw] at h1;simpa using h1
theorem Ce {ts l:List Tr} (h:ts.map er=hO 0 l) (h1:ts.length=1):er (nth ts 0)=li l:=by
  match ts,h1 with
  | [x], _ =>
    unfold li;rw [←h];rfl
theorem zY {ts l:List Tr} (h:ts.map er=hO 0 l) (h1:¬ts.length=1):mZ 0 (ts.map er)=li l:=by
  unfold li;rw [←h];match ts,h1 with
  | [], _ => rfl
  | [x], h1 => exact absurd rfl h1
  | x :: y :: l, _ => rfl
theorem zZ {ts l:List Tr} (h:ts.map er=hO 1 l) (h1:ts.length=0):mZ 0 []=me l:=by
  match ts,h1 with
  | [], _ =>
    unfold me;rw [←h];rfl
theorem Cf {ts l:List Tr} (h:ts.map er=hO 1 l) (h1:ts.length=1):er (nth ts 0)=me l:=by
  match ts,h1 with
  | [x], _ =>
    unfold me;rw [←h];rfl
theorem Aa {ts l:List Tr} (h:ts.map er=hO 1 l) (h0:¬ts.length=0) (h1:¬ts.length=1):mZ 1 (ts.map er)=me l:=by
  unfold me;rw [←h];match ts,h0,h1 with
  | [], h0, _ => exact absurd rfl h0
  | [x], _, h1 => exact absurd rfl h1
  | x :: y :: l, _, _ => rfl
theorem Ab {G:aX} {w:World} {T:aX} {kv:Sv} {ty:Nat} {ts:List Tr} {k:Int} (ho:dg nd ty ts T kv.v w) (hT:∀g,T g→G g) (ht:∀t ∈ ts,TrT G w t):TrT G w ⟨k,⟨#[]⟩,false,Sv.nil,[],0,0,false,kv,ts⟩:=
  .mk (SlT.nil _ _) (fun h=>absurd rfl h) ho.1.sl (fun hn=>hT _ (ho.blk hn)) ht
theorem Dx {k:Int} {kv:Sv} {ts:List Tr}:er ⟨k,⟨#[]⟩,false,Sv.nil,[],0,0,false,kv,ts⟩=mZ k (ts.map er):=by rw [oN];rfl
def bV (k:Int) (ch:ByteArray) (ng:Bool) (mn mx:Int) (lz:Bool) (kv:Sv) (ks:List Tr):Tr:=⟨k,ch,ng,Sv.nil,[],mn,mx,lz,kv,ks⟩
theorem kg (k:Int) (ch:ByteArray) (ng:Bool) (mn mx:Int) (lz:Bool) (kv:Sv) (ks:List Tr):er (bV k ch ng mn mx lz kv ks)=bV k ch ng mn mx lz Sv.nil (ks.map er):=by rw [oN];rfl
theorem nZ {G Z:aX} {w:World} {k:Int} {ch:ByteArray} {ng:Bool} {mn mx:Int} {lz:Bool} {kv:Sv} {ks:List Tr} (h:(fL nd G kv.v ks).P Z w) (h2:(nr G ks).P Z w):(kw G (bV k ch ng mn mx lz kv ks)).P Z w:=
  .mk (SlT.nil _ _) (fun h=>absurd rfl h) h.1 h.2 h2
section
variable {N:aX} {P:Program} {ops:Array Oper} {sp:List (Spec N)} {In:Nat→Ini N} {a0:Act} {w0 W:World} {bf:List Nat} {j:Nat} {o:Oper} {s:Spec N} {pc:Prop} {n0:Nat} {a1:Act} {τ0:Nat→aX} {F:aX} {β:Type}
theorem oX {α:Type} {E:Enc α} {ty e t n:Nat} {xs:List α} {parts:Array (Nat × Operand)} {z:Value} {cells:Array Value} (st:St N W n0 a1 w0 τ0) (hgd:uE ops sp bf j o pc) (ho:o.op= .buildSlice ty n parts)
    (hty:P.underlying ty=some (.slice e)) (hsz:∀w,(sizeOf e).run P w= .ok E.sz w) (hz:∀w,(zeroValue e).run P w= .ok z w) (hn0:0 < n) (hsmall:n * E.sz≤16777216) (hn:n=xs.length) (hc:cells.toList=E.row xs)
    (h:∀{done a w τ},Cx ops sp In a0 w0 bf j o done a w τ→pc→Instr.fill (fun i=>some (i * E.sz,E.sz)) ((Array.range (n * E.sz)).map (z.cells[· % z.cells.size]!)) (parts.map fun (i,x)=>(i,a.eval x)).toList=some cells)
    (hs:s=fQ N t pc (fun b:Sv=>b.v) (fun _=>True) (fun b=>fL E (Gn F W) b.v xs):=by exact rfl) (hd:o.dst=some t:=by exact rfl):Ob ops sp In a0 w0 P bf j o s:=by
  subst hs;intro done a w τ c;refine ⟨fun hw=> ?_,fun hw=>⟨Ext.refl _ _,fun hp=>by rw [(hgd.known c).2 hp] at hw;cases hw⟩⟩;have hp:=(hgd.known c).1 hw;have hf:=h c hp;have h2:¬(n * E.sz > 2 ^ 24):=by omega
  have h0:¬(n * E.sz=0):=by have:=Nat.mul_pos hn0 E.pos;omega
  have hr:(execOp a.eval o).run P w= .ok (.value (.slice (some ⟨w.heap.size,0,none⟩) n n)) (w.alloc (.cells cells e)):=by
    simp only [execOp,ho,Instr.buildSlice,Sem.run_bind,run_underlying hty,Result.andThen_ok,hsz,h2,if_false,Sem.run_pure,h0,hz];rw [hf];rfl
  have hl:cells.size=n * E.sz:=by rw [←eS,hc,E.row_length,←hn]
  have hown:fI E e (w.alloc (.cells cells e)) (.slice (some ⟨w.heap.size,0,none⟩) n n) xs:=⟨E.row_length xs,.inr ⟨w.heap.size,n,cells,by rw [←hn],dY _,heap_alloc_new w _,by rw [←hn];exact bd _,by have:=jx n E.pos;simp only [maxLen];omega,hl,by rw [hc,←E.row_length];exact lT⟩⟩;have hx:Ext bk w (w.alloc (.cells cells e)):=Ext.alloc _ _ _;refine fA hr ⟨_,rfl,hx,fun _=>⟨⟨some ⟨w.heap.size,0,none⟩,n,n⟩,?_,au,?_⟩⟩
  · show aU (a.put o.dst _) t=_;rw [hd,dk a t t _ (c.lt t hd),if_pos rfl];rfl
  · exact c.sn st hx ⟨hown,fun g hg=>by have hg':some w.heap.size=some g:=hg;simp only [Option.some.injEq] at hg';omega⟩
theorem Ac {t:Nat} {f:β→Value} {Ψ:β→Prop} {Φ:β→ZP} (hgd:uE ops sp bf j o pc) (h:∀{done a w τ},Cx ops sp In a0 w0 bf j o done a w τ→pc→∃b,Ψ b∧(Φ b).P (fh τ w) w∧ca P a o w (f b))
    (hs:s=fQ N t pc f Ψ Φ:=by exact rfl) (hd:o.dst=some t:=by exact rfl):Ob ops sp In a0 w0 P bf j o s:=by
  subst hs;intro done a w τ c;refine ⟨fun hw=> ?_,fun hw=>⟨Ext.refl _ _,fun hp=>by rw [(hgd.known c).2 hp] at hw;cases hw⟩⟩;obtain ⟨b,hq,hz,hr⟩:=h c ((hgd.known c).1 hw);refine kZ hr ⟨_,rfl,Ext.refl _ _,fun _=>⟨b,?_,hq,hz⟩⟩;show aU (a.put o.dst _) t=_;rw [hd,dk a t t _ (c.lt t hd),if_pos rfl]
end
theorem km:dD []=0:=rfl
theorem jD (x:Int) (l:List Int):dD (x::l)=x+dD l:=by
  rw [show x::l=[x]++l from rfl,jQ];simp [dD]
theorem Cg (k:Int) (ch:ByteArray) (ng:Bool) (mn mx:Int) (lz:Bool):fR (cZ k ch ng mn mx lz)=1+(ch.size:Int):=by rw [lj];simp [cZ,za,dD]
theorem Ch (k:Int) (ch:ByteArray) (ng:Bool) (mn mx:Int) (lz:Bool) (kv:Sv) (ks:List Tr):fR (bV k ch ng mn mx lz kv ks)=1+(ch.size:Int)+dD (ks.map fR):=by rw [lj];simp [bV,za,dD]
theorem Ad (k:Int) (ks:List Tr):fR (mZ k ks)=1+dD (ks.map fR):=by
  rw [lj];have h:((⟨#[]⟩:ByteArray).size:Int)=0:=rfl;simp [mZ,za,dD,h]
theorem xh (k:Int) (l:List Tr):dD ((hO k l).map fR)≤dD (l.map fR):=by
  induction l using eQ with
  | h0 => exact eW _
  | h1 l x ih =>
    rw [mL,bM,bM,bo,bJ,jQ,em];have h1:=lj x;have h2:=nH x.rows;split
    · omega
    · rw [bo,bJ];simp [dD] at ih ⊢;omega
theorem tQ (l:List Tr):(l.map er).map fR=l.map fR:=by
  rw [mr];exact jg fun t _=>pJ t
theorem wc (l:List Tr):fR (li l)≤1+dD (l.map fR):=by
  have h:=xh 0 l;unfold li;split
  · rename_i x hx;rw [hx] at h;simp [dD] at h ⊢;omega
  · rename_i ks _;rw [Ad];omega
theorem Ae (l:List Tr):fR (me l)≤1+dD (l.map fR):=by
  have h:=xh 1 l;unfold me;split
  · rename_i hx;rw [hx] at h;rw [Ad];simp [dD] at h ⊢;omega
  · rename_i x hx;rw [hx] at h;simp [dD] at h ⊢;omega
  · rename_i ks _ _;rw [Ad];omega
theorem Ci {t:Tr} {l:List Tr} (h:er t=li (l.map er)):fR t≤1+dD (l.map fR):=by
  have:=wc (l.map er);rw [tQ] at this
  rw [←pJ t,h];exact this
theorem Cj {t:Tr} {l:List Tr} (h:er t=me (l.map er)):fR t≤1+dD (l.map fR):=by
  have:=Ae (l.map er);rw [tQ] at this
  rw [←pJ t,h];exact this
end
section
open Go.RowKit
theorem cU {P:Program} {a:Act} {o:Oper} {w:World} {x:Operand} {v:Value} {p:Addr} (ho:o.op= .nilCheck x) (hx:a.eval x=v) (hv:v= .pointer (some p)):ca P a o w v:=by
  subst hv;simp [ca,execOp,ho,hx]
def Al:aX:=fun _=>True
def bZ (v:Value):aX:=fun g=>v= .pointer (some ⟨g,0,none⟩)
theorem cE.foot {ty:Nat} {cells:List Value} {T:aX} {v:Value} {w:World} (h:cE ty cells T v w):cE ty cells (bZ v) v w:=by
  obtain ⟨g,rfl,hlt,_,hg⟩:=h;exact ⟨g,rfl,hlt,rfl,hg⟩
theorem cE.own {ty:Nat} {cells:List Value} {T:aX} {v:Value} {w:World} (h:cE ty cells T v w) {g:Nat} (hg:bZ v g):T g:=by
  obtain ⟨g',rfl,_,hT,_⟩:=h;unfold bZ at hg;simp at hg;rw [←hg];exact hT
theorem cE.back {ty ty':Nat} {cells cells':List Value} {T:aX} {v:Value} {w w':World} (h:cE ty cells (bZ v) v w') (h':cE ty' cells' T v w):cE ty cells T v w':=by
  obtain ⟨g,hv,hlt,hT,hg⟩:=h;exact ⟨g,hv,hlt,h'.own hT,hg⟩
theorem cE.ext {ty:Nat} {cells:List Value} {T:aX} {v:Value} {w w1 w2:World} (h:cE ty cells T v w) (hx:Ext (bZ v) w1 w2):Ext T w1 w2:=hx.mono fun _ _ hg=>h.own hg
theorem cE.lt {ty:Nat} {cells:List Value} {T:aX} {v:Value} {w:World} (h:cE ty cells T v w):∀g,bZ v g→g < w.heap.size:=fun g hg=>by
  obtain ⟨g',rfl,hlt,_,_⟩:=h;unfold bZ at hg;simp at hg;omega
structure RdR (ty:Nat) (v:Value) (cv:Sv) (cs:List ByteArray) (i:Nat) (w:World):Prop where
  box:cE ty [cv.v,.int .i64 (i:Int)] (bZ v) v w
  sl:SlT gN w cv.v cs
  ne:cs≠ []→¬bZ v (dF cv.v).block
theorem kq {ty:Nat} {v:Value} {cv:Sv} {cs:List ByteArray} {i:Nat} {w:World} {T Z:aX} (hb:cE ty [cv.v,.int .i64 (i:Int)] T v w) (hz:(fL gN Al cv.v cs).P Z w) (hd:∀g,T g→¬Z g):RdR ty v cv cs i w:=
  ⟨hb.foot,hz.1,fun hn hg=>hd _ (hb.own hg) (hz.2 hn).1⟩
theorem RdR.inz {ty:Nat} {v:Value} {cv:Sv} {cs:List ByteArray} {i:Nat} {w:World} {n:Nat} {a:Act} {τ0:Nat→aX} (h:RdR ty v cv cs i w) (st:St (fun k=>bZ v k∨w.heap.size≤k) w n a w τ0):Fz (fL gN Al cv.v cs) τ0 w:=
  ⟨h.sl,fun hn=>⟨⟨h.sl.lt hn,fun s hs=>by
    rcases (st.bnd s _ hs).1 with h1 | h1
    · exact h.ne hn h1
    · have:=h.sl.lt hn;omega⟩,au⟩⟩
def iZ (ty:Nat) (N:aX) (tag t:Nat) (p:Value) (cells:List Value) (v:Value):Spec N:=⟨some tag,t,fun _ T u w=>u=v∧cE ty cells T p w,fun _ _ T u w w' _ h hr=>⟨hr.1,kY T p w w' h.less hr.2⟩,fun u=>u=v,fun _ _ _ _ h=>h.1⟩
section
variable {N:aX} {P:Program} {ops:Array Oper} {sp:List (Spec N)} {In:Nat→Ini N} {a0:Act} {w0 W:World} {bf:List Nat} {j:Nat} {o:Oper} {s:Spec N} {done:Nat→Bool} {a:Act} {w:World} {τ:Nat→aX}
theorem gQ {ty tag t:Nat} {p v:Value} {cells:List Value} (h:∀{done a w τ},Cx ops sp In a0 w0 bf j o done a w τ→∃g args,fi P a o w g args∧Calls P g args w (fun e w'=>e= .returned v∧Ext (τ tag) w w'∧cE ty cells (τ tag) p w'))
    (hs:s=iZ ty N tag t p cells v:=by exact rfl) (hg:o.guard=none:=by exact rfl) (hd:o.dst=some t:=by exact rfl):Ob ops sp In a0 w0 P bf j o s:=by
  subst hs;refine jn (tag:=tag) hg rfl fun done a w τ c=> ?_;obtain ⟨g,args,h1,h2⟩:=h c;refine ⟨g,args,h1,h2.mono fun e w' ⟨he,hx,hb⟩=>⟨v,he,hx,τ tag,fun g h=> .inl h,?_,hb⟩⟩;show aU (a.put o.dst v) t=v;rw [hd,dk a t t _ (c.lt t hd),if_pos rfl]
theorem Cx.dv {ty t slot:Nat} {p v:Value} {cells:List Value} (c:Cx ops sp In a0 w0 bf j o done a w τ) (i:Nat) (hs:sp[i]? =some (iZ ty N t slot p cells v)) (hb:(bf.getD j 0).testBit i=true:=by exact rfl):a.eval (.tmp slot)=v:=c.J.pur i _ hs (c.pre i hb)
theorem Cx.db {ty t slot:Nat} {p v:Value} {cells:List Value} (c:Cx ops sp In a0 w0 bf j o done a w τ) (i:Nat) (hs:sp[i]? =some (iZ ty N t slot p cells v)) (hl:bF (sp.map (·.tag)) t j=some i:=by exact rfl) (hord:ju (sp.map (·.tag)) bf t j=true:=by kernel_rfl):cE ty cells (τ t) p w:=(c.res i t _ hs hl hord).2
theorem gR {f:FuncId} {args:Array Value} {ty ty':Nat} {p v:Value} {cells cells':List Value} {T:aX} (hb:cE ty' cells' T p w) (h:Calls P f args w (fun e w'=>e= .returned v∧Ext (bZ p) w w'∧cE ty cells (bZ p) p w')):Calls P f args w (fun e w'=>e= .returned v∧Ext T w w'∧cE ty cells T p w'):=
  h.mono fun e w' ⟨h1,h2,h3⟩=>⟨h1,hb.ext h2,h3.back hb⟩
theorem Cx.tzs {t:Tr} {F:aX} {n:Nat} {a1:Act} {τ0:Nat→aX} {w':World} (c:Cx ops sp In a0 w0 bf j o done a w τ) (st:St N W n a1 w0 τ0) (hx:w.heap.size≤w'.heap.size) (h:TrT (Gn (fun g=>fh τ w g∧Gn F W g) w) w' t):(kw (Gn F W) t).P (fh τ w') w':=TrT.mono h (c.gz (c.hW st) hx)
theorem Cx.tns {t:Tr} {F:aX} {n:Nat} {a1:Act} {τ0:Nat→aX} {w':World} (c:Cx ops sp In a0 w0 bf j o done a w τ) (st:St N W n a1 w0 τ0) (hx:w.heap.size≤w'.heap.size) (h:TrT (Gn bk w) w' t):(kw (Gn F W) t).P (fh τ w') w':=c.tzs st hx (h.mono fun g hg _=>hg.elim (fun h=>h.elim) .inr)
theorem Cx.sns {α:Type} {E:Enc α} {xs:List α} {v:Value} {F:aX} {n:Nat} {a1:Act} {τ0:Nat→aX} {w':World} (c:Cx ops sp In a0 w0 bf j o done a w τ) (st:St N W n a1 w0 τ0) (hx:w.heap.size≤w'.heap.size) (h:SlT E w' v xs∧(xs≠ []→w.heap.size≤(dF v).block)):(fL E (Gn F W) v xs).P (fh τ w') w':=
  ⟨h.1,fun hn=>c.gz (c.hW st) hx _ (.inr (h.2 hn)) (h.1.lt hn)⟩
end
section
variable {N:aX} {l:List Oper} {sp:List (Spec N)} {il:List (Ini N)} {a0 a:Act} {w:World} {τ:Nat→aX}
theorem Fin.dv (h:Fin l sp il a0 a w τ) {ty t slot:Nat} {p v:Value} {cells:List Value} (j:Nat) (hs:sp[j]? =some (iZ ty N t slot p cells v)) (hl:bF (sp.map (·.tag)) t sp.length=some j:=by exact rfl):aU a slot=v:=(h.res j t _ hs rfl hl).1
theorem Fin.db (h:Fin l sp il a0 a w τ) {ty t slot:Nat} {p v:Value} {cells:List Value} (j:Nat) (hs:sp[j]? =some (iZ ty N t slot p cells v)) (hl:bF (sp.map (·.tag)) t sp.length=some j:=by exact rfl):cE ty cells (τ t) p w:=(h.res j t _ hs rfl hl).2
end
theorem cE.cast {ty:Nat} {cs cs':List Value} {T:aX} {v:Value} {w:World} (h:cE ty cs T v w) (e:cs'=cs):cE ty cs' T v w:=e ▸ h
theorem tS {P:Program} {fn:Func} {R:Ending→World→Prop} {a:Act} {w:World} {t t' t2:Nat} {v v' v2:Value} (hr:fn.results=#[.tmp t,.tmp t',.tmp t2]) (hd:a.defers=[]) (hv:aU a t=v) (hv':aU a t'=v') (hv2:aU a t2=v2) (h:R (.returned (.tuple #[v,v',v2])) w):bodyPost P fn R .ret a w:=
  bodyPost_ret (v:= .tuple #[v,v',v2]) (by
    have h0:(a.tmps[t]?).getD undef=v:=by rw [←aY];exact hv
    have h1:(a.tmps[t']?).getD undef=v':=by rw [←aY];exact hv'
    have h2:(a.tmps[t2]?).getD undef=v2:=by rw [←aY];exact hv2
    simp only [results,hr]
    simp [h0,h1,h2]) hd h
def Af (v:Value) (w:World):Nat:=match w.cell? ((dF v).add 1) with
  | some (.int _ n) => n.toNat
  | _ => 0
theorem lG {ty:Nat} {v x:Value} {i:Nat} {T:aX} {w:World} (h:cE ty [x,.int .i64 (i:Int)] T v w):Af v w=i:=by
  unfold Af;rw [h.cell (j:=1) rfl];simp
section
variable {N:aX} {P:Program} {ops:Array Oper} {sp:List (Spec N)} {In:Nat→Ini N} {a0:Act} {w0:World} {bf:List Nat} {j:Nat} {o:Oper} {s:Spec N}
theorem qf (gi:Nat) {tg t:Nat} {want b:Bool} (hs:s=B.det N t undef:=by exact rfl) (hg:o.guard=some (gi,want):=by exact rfl) (hd:o.dst=some t:=by exact rfl) (hgd:((ops[gi]?).bind (·.dst))=some tg:=by exact rfl) (hgs:sp[gi]? =some (B.det N tg (.bool b)):=by exact rfl) (hb:(bf.getD j 0).testBit gi=true:=by exact rfl) (hne:b≠want:=by decide):Ob ops sp In a0 w0 P bf j o s:=by
  intro done a w τ c;subst hs;have hv:=qP (c.v gi hgs hb);refine ⟨fun hn=> ?_,fun _=>⟨Ext.refl _ _,?_⟩⟩
  · exfalso;cases want <;> cases b <;> simp [Region.wanted,hg,yielded,hgd,hv] at hn hne
  · show aU (a.put o.dst undef) t=undef;rw [hd,dk a t t _ (c.lt t hd),if_pos rfl]
theorem rj (gi:Nat) {tg t:Nat} {want:Bool} (hs:s=B.det N t undef:=by exact rfl) (hg:o.guard=some (gi,want):=by exact rfl) (hd:o.dst=some t:=by exact rfl) (hgd:((ops[gi]?).bind (·.dst))=some tg:=by exact rfl) (hgs:sp[gi]? =some (B.det N tg undef):=by exact rfl) (hb:(bf.getD j 0).testBit gi=true:=by exact rfl):Ob ops sp In a0 w0 P bf j o s:=by
  intro done a w τ c;subst hs;have hv:=sx (c.v gi hgs hb);have hy:yielded ops a.tmps gi=none:=by
    cases h':a.tmps[tg]? with
    | none => simp [yielded, hgd, h']
    | some u => cases u <;> first | exact absurd h' (hv _) | simp [yielded, hgd, h']
  refine ⟨fun hn=> ?_,fun _=>⟨Ext.refl _ _,?_⟩⟩
  · exfalso;simp [Region.wanted,hg,hy] at hn
  · show aU (a.put o.dst undef) t=undef;rw [hd,dk a t t _ (c.lt t hd),if_pos rfl]
end
theorem Fd {G Z:aX} {w:World} {ts us:List Tr} (h:(nr G ts).P Z w) (h2:(nr G us).P Z w):(nr G (ts++us)).P Z w:=fun x hx=>(List.mem_append.1 hx).elim (h x) (h2 x)
end
section
open Srt
abbrev Rw:=ByteArray × ByteArray
theorem oY {α:Type} [Inhabited α] {xs:List α} {k:Nat} (h:k < xs.length):nth xs (k:Int) ∈ xs:=gL (qW h)
theorem sJ {f:Int→Bool} {k:Nat} (h:∀i < k,f ((i:Nat):Int)=false) (h2:f (k:Int)=false):∀i < k+1,f ((i:Nat):Int)=false:=by
  intro i hi;by_cases e:i=k
  · subst e;exact h2
  · exact h i (by omega)
def oZ (xs:List Rw):Prop:=∀r ∈ xs,r.1.size≤1000000∧r.2.size≤1000000
theorem rl {xs:List Rw} (h:oZ xs) {k:Nat}:k < xs.length→(nth xs (k:Int)).1.size≤1000000∧(nth xs (k:Int)).2.size≤1000000:=fun hk=>h _ (oY hk)
def dJ (r:Rw):Bool:=(ei r.1&&ei r.2)&&pY r.1 r.2
def DZ (p q:Rw):Int:=BZ [mY p.1 q.1,mY p.2 q.2]
def ex (p q:Rw):Bool:=decide (DZ p q < 0)
theorem wd {x y:ByteArray} (h:lQ x y=true):mY x y= -1:=if_pos h
theorem we {x y:ByteArray} (h:lQ x y=false) (h2:(!pY x y)=true):mY x y=1:=by
  have:lQ y x=true:=by
    cases hb:lQ y x with
    | true => rfl
    | false => rw [tK.2 hb] at h2; cases h2
  rw [mY,if_neg (by rw [h];decide),if_pos this]
theorem wg {x y:ByteArray} (h:lQ x y=false) (h2:(!pY x y)=false):mY x y=0:=by
  have:lQ y x=false:=tK.1 (by simpa using h2);rw [mY,if_neg (by rw [h];decide),if_neg (by rw [this];decide)]
theorem xi {x y:ByteArray}:mY x y < 0↔lQ x y=true:=by
  unfold mY;split
  · rename_i h;simp [h]
  · rename_i h;split <;> simp [h]
theorem Ck {x y:ByteArray}:mY x y=0↔x=y:=by
  unfold mY;constructor
  · intro h;rcases mJ x y with h' | h' | h'
    · rw [if_pos h'] at h;cases h
    · exact h'
    · rw [if_neg (by rw [nF h'];decide),if_pos h'] at h;cases h
  · rintro rfl
    rw [if_neg (by rw [mI];decide),if_neg (by rw [mI];decide)]
theorem pa (p q:Rw):ex p q=true↔lQ p.1 q.1=true∨(p.1=q.1∧lQ p.2 q.2=true):=by
  unfold ex DZ BZ;rw [ah,←xi,←xi,←Ck];generalize mY p.1 q.1=a;generalize mY p.2 q.2=b;have hn:∀x:Int,¬x=0→(x !=0)=true:=fun x h=>by simpa using h
  by_cases h1:a=0
  · subst h1;by_cases h2:b=0
    · subst h2;simp [List.find?]
    · simp [List.find?,hn b h2]
  · simp [List.find?,hn a h1,h1]
theorem eY:Swo ex:=by
  constructor
  · intro x y h;rw [pa] at h;rw [←aQ,pa]
    rintro (h' | ⟨e,h'⟩)
    · rcases h with h | ⟨e,h⟩
      · rw [nF h] at h';cases h'
      · rw [e,mI] at h';cases h'
    · rcases h with h | ⟨_,h⟩
      · rw [e,mI] at h;cases h
      · rw [nF h] at h';cases h'
  · intro x y z h1 h2;rw [←aQ,pa] at h1 h2 ⊢
    rintro (h | ⟨e,h⟩)
    · rcases mJ x.1 y.1 with h' | h' | h'
      · exact h1 (.inl h')
      · rw [h'] at h;exact h2 (.inl h)
      · exact h2 (.inl (mb h' h))
    · rcases mJ x.1 y.1 with h' | h' | h'
      · exact h1 (.inl h')
      · rcases mJ x.2 y.2 with k | k | k
        · exact h1 (.inr ⟨h',k⟩)
        · rw [k] at h;exact h2 (.inr ⟨h' ▸ e,h⟩)
        · exact h2 (.inr ⟨h' ▸ e,mb k h⟩)
      · rw [e] at h';exact h2 (.inl h')
def zf (xs:List Rw) (c:ByteArray):Bool:=xs.any fun r=>pY r.1 c&&pY c r.2
theorem Cl {xs:List Rw} {c:ByteArray} {k:Nat} (h:k < xs.length) (hc:(pY (nth xs (k:Int)).1 c&&pY c (nth xs (k:Int)).2)=true):zf xs c=true:=List.any_eq_true.2 ⟨_,oY h,hc⟩
theorem Ea {xs:List Rw} {c:ByteArray} {k:Nat} (h:xs.length≤k) (hq:∀i < k,(pY (nth xs ((i:Nat):Int)).1 c&&pY c (nth xs ((i:Nat):Int)).2)=false):zf xs c=false:=by
  unfold zf;rw [ly];intro r hr;obtain ⟨i,hi,rfl⟩:=kz hr;have:=hq i (by omega);rw [lg (bw hi)] at this
  rw [this];decide
def sq (xs:List Rw) (n f:Bool) (c:ByteArray):Bool:= !((if f=true then (zf xs c || zf xs (ge c)) || zf xs (Fq c) else zf xs c)==n)
def rm (xs:List Rw) (i:Int):Bool:= !dJ (nth xs i) || (decide (0 < i)&&pY (nth xs i).1 (nth xs (i - 1)).2)
def mM (xs:List Rw):Bool:=(List.range xs.length).all fun i=> !rm xs (i:Int)
theorem yy {xs:List Rw} {k:Nat} (h:k < xs.length) (hb:rm xs (k:Int)=true):mM xs=false:=by
  unfold mM;rw [List.all_eq_false];exact ⟨k,by simpa using h,by simp [hb]⟩
theorem rn {xs:List Rw} {k:Nat} (h:∀i < k,rm xs ((i:Nat):Int)=false) (hk:xs.length≤k):mM xs=true:=by
  unfold mM;rw [da];intro i hi;simp at hi;simp [h i (by omega)]
theorem xj (r:Rw):((!ei r.1 || !ei r.2) || !pY r.1 r.2)= !dJ r:=by
  unfold dJ;cases ei r.1 <;> cases ei r.2 <;> cases pY r.1 r.2 <;> rfl
theorem rq {α:Type} [Inhabited α] {f:α→Bool} {xs:List α} {k:Nat} (h:k < xs.length) (hp:f (nth xs (k:Int))=true):(xs.take (k+1)).filter f=(xs.take k).filter f++ [nth xs (k:Int)]:=by
  rw [fU h,List.filter_append];simp [hp]
theorem pb {α:Type} [Inhabited α] {f:α→Bool} {xs:List α} {k:Nat} (h:k < xs.length) (hp:f (nth xs (k:Int))=false):(xs.take (k+1)).filter f=(xs.take k).filter f:=by
  rw [fU h,List.filter_append];simp [hp]
theorem sK {α:Type} {f:α→Bool} {xs:List α} {k:Nat}:((xs.take k).filter f).length≤xs.length:=by
  have h1:=List.length_filter_le f (xs.take k);have h3:=List.length_take_le' k xs;omega
theorem lk (xs:List Rw):(cr ex (xs.filter dJ)).length≤xs.length:=by
  rw [fg];exact List.length_filter_le _ _
def uU (acc:List Rw) (p:Rw):Bool:=decide (0≤(acc.length:Int) - 1)&&pY p.1 (nth acc ((acc.length:Int) - 1)).2
def qg (acc:List Rw) (p:Rw):List Rw:=
  if uU acc p=true then acc.set ((acc.length:Int) - 1).toNat ((nth acc ((acc.length:Int) - 1)).1,oM (nth acc ((acc.length:Int) - 1)).2 p.2) else acc++ [p]
def eK (xs:List Rw):List Rw:=xs.foldl qg []
theorem mN (xs:List Rw) (p:Rw):eK (xs++ [p])=qg (eK xs) p:=by simp [eK]
theorem nI {xs:List Rw} {k:Nat} (h:k < xs.length) (hc:uU (eK (xs.take k)) (nth xs (k:Int))=true):
    eK (xs.take (k+1))=(eK (xs.take k)).set (((eK (xs.take k)).length:Int) - 1).toNat ((nth (eK (xs.take k)) (((eK (xs.take k)).length:Int) - 1)).1,oM (nth (eK (xs.take k)) (((eK (xs.take k)).length:Int) - 1)).2 (nth xs (k:Int)).2):=by
  rw [fU h,mN,qg,if_pos hc]
theorem mO {xs:List Rw} {k:Nat} (h:k < xs.length) (hc:uU (eK (xs.take k)) (nth xs (k:Int))=false):eK (xs.take (k+1))=eK (xs.take k)++ [nth xs (k:Int)]:=by
  rw [fU h,mN,qg,if_neg (by rw [hc];decide)]
theorem uV (xs:List Rw):(eK xs).length≤xs.length:=by
  induction xs using eQ with
  | h0 => simp [eK]
  | h1 xs x ih =>
    rw [mN,qg];split
    · simp;omega
    · simp;omega
theorem ru {xs:List Rw} {k:Nat}:(eK (xs.take k)).length≤k:=by
  have h1:=uV (xs.take k);have h2:=List.length_take_le k xs;omega
theorem pd {acc:List Rw} {p:Rw} {b:Bool} (h:(decide ((0:Int) < (acc.length:Int))&&pY p.1 (nth acc ((acc.length:Int) - 1)).2)=b):uU acc p=b:=by
  rw [←h];unfold uU;congr 1;exact decide_eq_decide.2 (by omega)
def br (xs:List Rw):List Rw:=eK (cr ex (xs.filter dJ))
def sr (x y:Rw):Bool:=lQ x.1 y.1 || (iH x.1 y.1&&lQ x.2 y.2)
theorem Eb:sr=ex:=by
  funext x y;rw [fV,pa,sr,be,am,oJ]
theorem uW {xs:List Rw} {i k:Nat} (h:i < xs.length) (hr:dJ (nth xs (i:Int))=true) (hk:k≤(cr sr ((xs.take i).filter dJ)).length) (hq:∀q ∈ (cr sr ((xs.take i).filter dJ)).drop k,sr (nth xs (i:Int)) q=true)
    (hc:(decide ((0:Int) < (k:Int))&&sr (nth xs (i:Int)) (nth (cr sr ((xs.take i).filter dJ)) ((k:Int) - 1)))=false):
    cr sr ((xs.take (i+1)).filter dJ)=(([]++((cr sr ((xs.take i).filter dJ)).drop 0).take (k - 0))++ [nth xs (i:Int)])++((cr sr ((xs.take i).filter dJ)).drop k).take ((cr sr ((xs.take i).filter dJ)).length - k):=by
  rw [rq h hr,iP,DY hk hq hc]
def gl (n:Int):List Rw:=if n=100 then [(⟨#[48]⟩,⟨#[57]⟩)] else if n=119 then [(⟨#[48]⟩,⟨#[57]⟩),(⟨#[65]⟩,⟨#[90]⟩),(⟨#[95]⟩,⟨#[95]⟩),(⟨#[97]⟩,⟨#[122]⟩)] else if n=115 then [(⟨#[9]⟩,⟨#[13]⟩),(⟨#[32]⟩,⟨#[32]⟩)] else []
def gY (n:Int):Bool:=decide (n=100) || (decide (n=119) || decide (n=115))
theorem pe {s:ByteArray} {k:Nat} (h:k < (bs s).length) (hc:(decide ((65:Int)≤((nth (fF jC (bs s) k) (k:Int)).toNat:Int))&&decide (((nth (fF jC (bs s) k) (k:Int)).toNat:Int)≤90))=true):
    fF jC (bs s) (k+1)=(fF jC (bs s) k).set (k:Int).toNat (UInt8.ofNat (IntKind.u8.wrap (((nth (fF jC (bs s) k) (k:Int)).toNat:Int)+32)).toNat):=by
  refine sG h ?_;rw [nG h] at hc ⊢;rw [jC,if_pos hc]
theorem nJ {s:ByteArray} {k:Nat} (h:k < (bs s).length) (hc:(decide ((65:Int)≤((nth (fF jC (bs s) k) (k:Int)).toNat:Int))&&decide (((nth (fF jC (bs s) k) (k:Int)).toNat:Int)≤90))=false):fF jC (bs s) (k+1)=fF jC (bs s) k:=by
  refine rd h ?_;rw [nG h] at hc;rw [jC,if_neg (by rw [hc];decide)]
theorem Ag {s:ByteArray} {k:Nat} (h:k < (bs s).length) (hc:(decide ((97:Int)≤((nth (fF wa (bs s) k) (k:Int)).toNat:Int))&&decide (((nth (fF wa (bs s) k) (k:Int)).toNat:Int)≤122))=true):
    fF wa (bs s) (k+1)=(fF wa (bs s) k).set (k:Int).toNat (UInt8.ofNat (IntKind.u8.wrap (((nth (fF wa (bs s) k) (k:Int)).toNat:Int) - 32)).toNat):=by
  refine sG h ?_;rw [nG h] at hc ⊢;rw [wa,if_pos hc]
theorem xk {s:ByteArray} {k:Nat} (h:k < (bs s).length) (hc:(decide ((97:Int)≤((nth (fF wa (bs s) k) (k:Int)).toNat:Int))&&decide (((nth (fF wa (bs s) k) (k:Int)).toNat:Int)≤122))=false):fF wa (bs s) (k+1)=fF wa (bs s) k:=by
  refine rd h ?_;rw [nG h] at hc;rw [wa,if_neg (by rw [hc];decide)]
end
section
open Srt
abbrev Ps:=List (Int × Int)
abbrev Fl:=Nat × Bool
abbrev Rs:=Option (Nat × Ps) × Fl
abbrev eJ:=Nat→Ps→Fl→Rs
abbrev iU:=Nat→eJ→Ps→Fl→Rs
structure Env where
  cs:List ByteArray
  pl:List Int
  fold:Bool
def uX (s:ByteArray):Bool:=decide ((s.size:Int)=1)&&((((decide (97≤bS s 0)&&decide (bS s 0≤122)) || (decide (65≤bS s 0)&&decide (bS s 0≤90))) || (decide (48≤bS s 0)&&decide (bS s 0≤57))) || decide (bS s 0=95))
def iI (fold:Bool) (t:Tr) (x:ByteArray):Bool:=
  if t.k=2 then iH x t.ch || (fold&&iH (ge x) (ge t.ch))
  else if t.k=3 then !(iH x ⟨#[10]⟩)
  else sq t.rows t.ng fold x
def Ec (cs:List ByteArray) (k:Int):Bool:=decide (0 < k)&&uX (nth cs (k - 1))
def Cm (cs:List ByteArray) (k:Int):Bool:=decide (k < (cs.length:Int))&&uX (nth cs k)
def kH (cs:List ByteArray) (kd:Int) (k:Int):Bool:=
  if kd=8 then decide (k=0) else if kd=9 then decide (k=(cs.length:Int)) else (!(Ec cs k==Cm cs k))==decide (kd=10)
def dN (ps:Ps) (lo n:Nat):Ps:=ps.take lo++List.replicate n ((-1:Int),(-1:Int))++ps.drop (lo+n)
def iR:List iU→iU
  | [], k, K, ps, φ => K k ps φ
  | r :: l, k, K, ps, φ => r k (fun to ps φ => iR l to K ps φ) ps φ
def ns:List iU→iU
  | [], _, _, _, φ => (none, φ)
  | r :: l, k, K, ps, φ => if (r k K ps φ).1.isSome = true then r k K ps φ else ns l k K ps (r k K ps φ).2
def fG (mn:Int) (lz:Bool) (times:Nat) (k:Nat) (K:eJ) (ps:Ps) (φ:Fl):Rs:=if (decide (mn≤(times:Int))&&lz)=true then K k ps φ else (none,φ)
def hH (mn:Int) (lz:Bool) (times:Nat) (k:Nat) (K:eJ) (ps:Ps) (φ:Fl):Rs:=if ((decide (mn≤(times:Int))&& !lz)&& !φ.2)=true then K k ps φ else (none,φ)
def eh (r:iU) (lo n:Nat) (mn mx:Int) (lz:Bool):Nat→Nat→iU
  | 0, _, _, _, _, φ => (none, φ)
  | g + 1, times, k, K, ps, φ =>
    if (fG mn lz times k K ps φ).1.isSome=true then fG mn lz times k K ps φ else
    if (decide (mx < 0) || decide ((times:Int) < mx))=true then
      if (r k (fun to ps' φ'=>if (decide (k < to) || decide ((times:Int) < mn))=true then eh r lo n mn mx lz g (times+1) to K ps' φ' else (none,φ')) (dN ps lo n) (fG mn lz times k K ps φ).2).1.isSome=true then
        r k (fun to ps' φ'=>if (decide (k < to) || decide ((times:Int) < mn))=true then eh r lo n mn mx lz g (times+1) to K ps' φ' else (none,φ')) (dN ps lo n) (fG mn lz times k K ps φ).2
      else hH mn lz times k K ps (r k (fun to ps' φ'=>if (decide (k < to) || decide ((times:Int) < mn))=true then eh r lo n mn mx lz g (times+1) to K ps' φ' else (none,φ')) (dN ps lo n) (fG mn lz times k K ps φ).2).2
    else hH mn lz times k K ps (fG mn lz times k K ps φ).2
def eP (r:iU) (lo n:Nat) (mn mx:Int) (lz:Bool) (g times k:Nat) (K:eJ):eJ:=fun to ps' φ'=>if (decide (k < to) || decide ((times:Int) < mn))=true then eh r lo n mn mx lz g (times+1) to K ps' φ' else (none,φ')
def jd (r:iU) (lo n:Nat) (mn mx:Int) (lz:Bool) (g times k:Nat) (K:eJ) (ps:Ps) (φ:Fl):Rs:=r k (eP r lo n mn mx lz g times k K) (dN ps lo n) φ
theorem mf (r:iU) (lo n:Nat) (mn mx:Int) (lz:Bool) (g times k:Nat) (K:eJ) (ps:Ps) (φ:Fl):eh r lo n mn mx lz (g+1) times k K ps φ=
    if (fG mn lz times k K ps φ).1.isSome=true then fG mn lz times k K ps φ else
    if (decide (mx < 0) || decide ((times:Int) < mx))=true then
      if (jd r lo n mn mx lz g times k K ps (fG mn lz times k K ps φ).2).1.isSome=true then jd r lo n mn mx lz g times k K ps (fG mn lz times k K ps φ).2
      else hH mn lz times k K ps (jd r lo n mn mx lz g times k K ps (fG mn lz times k K ps φ).2).2
    else hH mn lz times k K ps (fG mn lz times k K ps φ).2:=rfl
def sL:List iU→iU
  | r :: _ => r
  | [] => fun _ _ _ φ => (none, φ)
def hY (E:Env) (lo k:Nat) (K:eJ):eJ:=fun to ps φ=>K to (ps.set lo (nth E.pl (k:Int),nth E.pl (to:Int))) φ
def ll (E:Env) (t:Tr) (lo:Nat) (l:List iU):iU:=fun k K ps φ=>
  if t.k=5 then sL l k (hY E lo k K) ps φ
  else if t.k=6 then sL l k K ps φ
  else if t.k=2∨t.k=3∨t.k=4 then (if (decide ((k:Int) < (E.cs.length:Int))&&iI E.fold t (nth E.cs (k:Int)))=true then K (k+1) ps φ else (none,φ))
  else if kH E.cs t.k (k:Int)=true then K k ps φ else (none,φ)
def je (E:Env) (t:Tr) (lo n:Nat) (l:List iU):iU:=fun k K ps φ=>
  if φ.2=true then (none,φ)
  else if t.k=0 then iR l k K ps φ
  else if t.k=1 then ns l k K ps φ
  else if t.k=7 then eh (sL l) lo n t.mn t.mx t.lz (φ.1+1) 0 k K ps φ
  else if φ.1=0 then (none,(0,true))
  else ll E t lo l k K ps (φ.1 - 1,false)
def uY (k:Int):Bool:= !((decide (k=0) || decide (k=1)) || decide (k=7))
structure Pt where
  t:Tr
  pv:Sv
  ps:List Pt
  lo:Int
  hi:Int
instance:Inhabited Pt:=⟨⟨default,Sv.nil,[],0,0⟩⟩
theorem Pt.kid_lt {t k:Pt} (h:k ∈ t.ps):SizeOf.sizeOf k < SizeOf.sizeOf t:=by
  have h1:=List.sizeOf_lt_of_mem h;cases t
  simp at h1 ⊢;omega
theorem Pt.ind {P:Pt→Prop} (h:∀t,(∀k ∈ t.ps,P k)→P t) (t:Pt):P t:=h t fun k hk=>Pt.ind h k
termination_by SizeOf.sizeOf t
decreasing_by exact Pt.kid_lt hk
def vJ:Enc Pt:=⟨fun p=> [.int .i64 p.t.k,.string p.t.ch,.bool p.t.ng,p.t.rv.v,.int .i64 p.t.mn,.int .i64 p.t.mx,.bool p.t.lz,p.t.kv.v,p.pv.v,.int .i64 p.lo,.int .i64 p.hi],11,by decide,fun _=>rfl,fun x u hu=>by
  simp at hu;rcases hu with rfl | rfl | rfl | rfl | rfl | rfl | rfl | rfl | rfl | rfl | rfl <;> rfl⟩
def Pt.v (p:Pt):Value:= .agg #[.int .i64 p.t.k,.string p.t.ch,.bool p.t.ng,p.t.rv.v,.int .i64 p.t.mn,.int .i64 p.t.mx,.bool p.t.lz,p.t.kv.v,p.pv.v,.int .i64 p.lo,.int .i64 p.hi]
section
variable {β:Type}
mutual
def sM (g:Pt→List β→β):Pt→β
  | ⟨t, pv, ps, lo, hi⟩ => g ⟨t, pv, ps, lo, hi⟩ (rx g ps)
def rx (g:Pt→List β→β):List Pt→List β
  | [] => []
  | t :: ts => sM g t :: rx g ts
end
theorem wh (g:Pt→List β→β) (ts:List Pt):rx g ts=ts.map (sM g):=by
  induction ts with
  | nil => rw [rx]; rfl
  | cons t ts ih => rw [rx, ih]; rfl
theorem Ah (g:Pt→List β→β) (t:Pt):sM g t=g t (t.ps.map (sM g)):=by
  cases t;rw [sM,wh]
end
def bi (E:Env):Pt→iU:=sM fun p l=>je E p.t p.lo.toNat (p.hi - p.lo).toNat l
theorem kh (E:Env) (p:Pt):bi E p=je E p.t p.lo.toNat (p.hi - p.lo).toNat (p.ps.map (bi E)):=Ah _ p
def Ai (g:Nat):List (Nat × (Nat→iU))→List iU
  | [] => []
  | (n, r) :: l => r g :: Ai (g + n) l
def rz (t:Tr) (g:Nat):Nat:=if t.k=5 then g+1 else g
def grpN (t:Tr):Nat:=(gP t).toNat
def lm (E:Env):Tr→Nat × (Nat→iU):=lE fun t l=>((if t.k=5 then 1 else 0)+(l.map (·.1)).sum,fun g=>je E t g ((if t.k=5 then 1 else 0)+(l.map (·.1)).sum) (Ai (rz t g) l))
def oB (E:Env) (t:Tr) (g:Nat):iU:=(lm E t).2 g
def oa (E:Env):List Tr→Nat→List iU
  | [], _ => []
  | t :: ts, g => oB E t g :: oa E ts (g + grpN t)
theorem xl (E:Env) (t:Tr):(lm E t).1=grpN t:=by
  induction t using Tr.ind with
  | h t ih =>
    have h1:(lm E t).1=(if t.k=5 then 1 else 0)+((t.kids.map (lm E)).map (·.1)).sum:=congrArg Prod.fst (iQ _ t);have h2:=oA t;have h3:∀l:List Tr,(∀k ∈ l,(lm E k).1=grpN k)→((((l.map (lm E)).map (·.1)).sum:Nat):Int)=dD (l.map gP):=by
      intro l;induction l with
      | nil => intro _; rfl
      | cons k l ih2 =>
        intro hl;have e1:=ih2 fun x hx=>hl x (by simp [hx]);have e2:=hl k (by simp);have e3:=(jp k).1;rw [bo,bo,List.sum_cons,bo,jD,e2];unfold grpN;omega
    have h4:=h3 t.kids ih;rw [h1];unfold grpN;rw [h2];split <;> omega
theorem sN (E:Env):∀(l:List Tr) (g:Nat),Ai g (l.map (lm E))=oa E l g
  | [], _ => rfl
  | t :: l, g => by
    rw [bo,oa];show (lm E t).2 g::Ai (g+(lm E t).1) (l.map (lm E))=_;rw [xl,sN E l];rfl
theorem ph (E:Env) (t:Tr) (g:Nat):oB E t g=je E t g (grpN t) (oa E t.kids (rz t g)):=by
  have h1:(lm E t).2=fun g=>je E t g ((if t.k=5 then 1 else 0)+((t.kids.map (lm E)).map (·.1)).sum) (Ai (rz t g) (t.kids.map (lm E))):=congrArg Prod.snd (iQ _ t);have h2:(lm E t).1=(if t.k=5 then 1 else 0)+((t.kids.map (lm E)).map (·.1)).sum:=congrArg Prod.fst (iQ _ t);unfold oB;rw [h1];show je E t g _ _=_;rw [←h2,xl,sN]
mutual
inductive Lay:Pt→Tr→Nat→Prop
  | mk {p : Pt} {t : Tr} {g : Nat} : er p.t = er t → p.lo = (g : Int) → p.hi = (g : Int) + gP t → LayL p.ps t.kids (rz t g) → Lay p t g
inductive LayL:List Pt→List Tr→Nat→Prop
  | nil {g : Nat} : LayL [] [] g
  | cons {p : Pt} {ps : List Pt} {t : Tr} {ts : List Tr} {g : Nat} : Lay p t g → LayL ps ts (g + grpN t) → LayL (p :: ps) (t :: ts) g
end
theorem mg {a b:Tr} (h:er a=er b):a.k=b.k∧a.ch=b.ch∧a.ng=b.ng∧a.rows=b.rows∧a.mn=b.mn∧a.mx=b.mx∧a.lz=b.lz:=by
  rw [oN,oN] at h;injection h with h1 h2 h3 h4 h5 h6 h7 h8 h9 h10
  exact ⟨h1,h2,h3,h5,h6,h7,h8⟩
theorem yz {f:Bool} {a b:Tr} (h:er a=er b) (x:ByteArray):iI f a x=iI f b x:=by
  obtain ⟨h1,h2,h3,h4,h5,h6,h7⟩:=mg h;unfold iI;rw [h1,h2,h3,h4]
theorem uZ (E:Env) {a b:Tr} (h:er a=er b) (lo n:Nat) (l:List iU):je E a lo n l=je E b lo n l:=by
  obtain ⟨h1,h2,h3,h4,h5,h6,h7⟩:=mg h;funext k K ps φ;unfold je ll;rw [h1,h5,h6,h7,yz h]
theorem xm (E:Env) (t:Tr):∀(p:Pt) (g:Nat),Lay p t g→bi E p=oB E t g:=by
  induction t using Tr.ind with
  | h t ih =>
    intro p g h;cases h with
    | mk h1 h2 h3 h4 =>
      rw [kh,ph,uZ E h1];have e1:p.lo.toNat=g:=by omega
      have e2:(p.hi - p.lo).toNat=grpN t:=by unfold grpN;omega
      have e3:∀(ts:List Tr) (ps:List Pt) (g:Nat),(∀k ∈ ts,k ∈ t.kids)→LayL ps ts g→ps.map (bi E)=oa E ts g:=by
        intro ts;induction ts with
        | nil => intro ps g _ h; cases h; rfl
        | cons k ts ih2 =>
          intro ps g hm h;cases h with
          | cons h5 h6 => rw [bo, oa, ih k (hm k (by simp)) _ _ h5, ih2 _ _ (fun x hx => hm x (by simp [hx])) h6]
      rw [e1,e2,e3 _ _ _ (fun _ h=>h) h4]
theorem xo (E:Env) (t:Tr):∀(u:Tr) (g:Nat),er t=er u→oB E t g=oB E u g:=by
  induction t using Tr.ind with
  | h t ih =>
    intro u g h;rw [ph,ph,uZ E h];have e1:grpN t=grpN u:=by unfold grpN;rw [←jV t,←jV u,h]
    have e2:rz t g=rz u g:=by unfold rz;rw [(mg h).1]
    have e3:t.kids.map er=u.kids.map er:=by rw [←mD,←mD,h]
    have e4:∀(ts us:List Tr) (g:Nat),(∀k ∈ ts,k ∈ t.kids)→ts.map er=us.map er→oa E ts g=oa E us g:=by
      intro ts;induction ts with
      | nil => intro us g _ h; cases us with
        | nil => rfl
        | cons => simp at h
      | cons k ts ih2 =>
        intro us g hm h;cases us with
        | nil => simp at h
        | cons v us =>
          simp only [bo,List.cons.injEq] at h;have e5:grpN k=grpN v:=by unfold grpN;rw [←jV k,←jV v,h.1]
          rw [oa,oa,ih k (hm k (by simp)) v g h.1,e5,ih2 us _ (fun x hx=>hm x (by simp [hx])) h.2]
    rw [e1,e2,e4 _ _ _ (fun _ h=>h) e3]
def KP (B:Nat) (K:eJ):Prop:=∀(to:Nat) (ps:Ps) (fu:Nat),fu < B→(K to ps (fu,false)).2.1≤fu
theorem KP.less {B B':Nat} {K:eJ} (h:KP B K) (hB:B'≤B):KP B' K:=fun to ps fu hf=>h to ps fu (by omega)
def RP (r:iU):Prop:=∀(k B:Nat) (K:eJ),KP B K→∀(ps:Ps) (fu:Nat) (ou:Bool),fu < B→(r k K ps (fu,ou)).2.1≤fu
theorem wi:∀(l:List iU),(∀r ∈ l,RP r)→∀(k B:Nat) (K:eJ),KP B K→∀(ps:Ps) (fu:Nat),fu < B→(iR l k K ps (fu,false)).2.1≤fu
  | [], _, k, B, K, hK, ps, fu, hf => hK k ps fu hf
  | r :: l, h, k, B, K, hK, ps, fu, hf => h r (by simp) k B (fun to ps φ => iR l to K ps φ) (fun to ps fu hf => wi l (fun x hx => h x (by simp [hx])) to B K hK ps fu hf) ps fu false hf
theorem Aj:∀(l:List iU),(∀r ∈ l,RP r)→∀(k B:Nat) (K:eJ),KP B K→∀(ps:Ps) (fu:Nat) (ou:Bool),fu < B→(ns l k K ps (fu,ou)).2.1≤fu
  | [], _, k, B, K, hK, ps, fu, ou, hf => bd _
  | r :: l, h, k, B, K, hK, ps, fu, ou, hf => by
    have h1:=h r (by simp) k B K hK ps fu ou hf;rw [ns];split
    · exact h1
    · have h2:=Aj l (fun x hx=>h x (by simp [hx])) k B K hK ps (r k K ps (fu,ou)).2.1 (r k K ps (fu,ou)).2.2 (by omega);exact aE h2 h1
theorem Cn {B:Nat} {K:eJ} (hK:KP B K) {mn:Int} {lz:Bool} {times k:Nat} {ps:Ps} {fu:Nat} (hf:fu < B):(fG mn lz times k K ps (fu,false)).2.1≤fu:=by
  unfold fG;split
  · exact hK k ps fu hf
  · exact bd _
theorem xq {B:Nat} {K:eJ} (hK:KP B K) {mn:Int} {lz:Bool} {times k:Nat} {ps:Ps} {fu:Nat} {ou:Bool} (hf:fu < B):(hH mn lz times k K ps (fu,ou)).2.1≤fu:=by
  unfold hH;split
  · rename_i h;cases ou with
    | true => simp at h
    | false => exact hK k ps fu hf
  · exact bd _
theorem rA {r:iU} (hr:RP r) {lo n:Nat} {mn mx:Int} {lz:Bool}:∀(g times k B:Nat) (K:eJ),KP B K→∀(ps:Ps) (fu:Nat),fu < B→(eh r lo n mn mx lz g times k K ps (fu,false)).2.1≤fu
  | 0, times, k, B, K, hK, ps, fu, hf => bd _
  | g + 1, times, k, B, K, hK, ps, fu, hf => by
    have h1:=Cn hK (mn:=mn) (lz:=lz) (times:=times) (k:=k) (ps:=ps) hf;have hk:KP B (eP r lo n mn mx lz g times k K):=fun to ps' fu' hf'=>by
      unfold eP;split
      · exact rA hr g (times+1) to B K hK ps' fu' hf'
      · exact bd _
    have h2:(jd r lo n mn mx lz g times k K ps (fG mn lz times k K ps (fu,false)).2).2.1≤(fG mn lz times k K ps (fu,false)).2.1:=hr k B _ hk (dN ps lo n) (fG mn lz times k K ps (fu,false)).2.1 (fG mn lz times k K ps (fu,false)).2.2 (by omega);rw [mf];split
    · exact h1
    · split
      · split
        · exact aE h2 h1
        · have h3:=xq hK (mn:=mn) (lz:=lz) (times:=times) (k:=k) (ps:=ps) (fu:=(jd r lo n mn mx lz g times k K ps (fG mn lz times k K ps (fu,false)).2).2.1) (ou:=(jd r lo n mn mx lz g times k K ps (fG mn lz times k K ps (fu,false)).2).2.2) (by omega);exact aE h3 (aE h2 h1)
      · have h3:=xq hK (mn:=mn) (lz:=lz) (times:=times) (k:=k) (ps:=ps) (fu:=(fG mn lz times k K ps (fu,false)).2.1) (ou:=(fG mn lz times k K ps (fu,false)).2.2) (by omega);exact aE h3 h1
theorem pi {r:iU} (hr:RP r) {lo n:Nat} {mn mx:Int} {lz:Bool} {g times k B:Nat} {K:eJ} (hK:KP B K):KP B (eP r lo n mn mx lz g times k K):=fun to ps' fu' hf'=>by
  unfold eP;split
  · exact rA hr g (times+1) to B K hK ps' fu' hf'
  · exact bd _
theorem tT {l:List iU} (h:∀r ∈ l,RP r):RP (sL l):=by
  cases l with
  | nil => exact fun k B K hK ps fu ou hf => bd _
  | cons r l => exact h r (by simp)
theorem va {E:Env} {lo k B:Nat} {K:eJ} (hK:KP B K):KP B (hY E lo k K):=fun to ps fu hf=>hK to _ fu hf
theorem Ed {l:List iU} (h:∀r ∈ l,RP r) {B:Nat} {K:eJ} (hK:KP B K):KP B (fun to ps φ=>iR l to K ps φ):=fun to ps fu hf=>wi l h to B K hK ps fu hf
theorem xr {E:Env} {t:Tr} {lo:Nat} {l:List iU} (h:∀r ∈ l,RP r) {k B:Nat} {K:eJ} (hK:KP B K) {ps:Ps} {fu:Nat} (hf:fu < B):(ll E t lo l k K ps (fu,false)).2.1≤fu:=by
  unfold ll;split
  · exact tT h k B _ (va hK) ps fu false hf
  · split
    · exact tT h k B K hK ps fu false hf
    · split
      · split
        · exact hK _ ps fu hf
        · exact bd _
      · split
        · exact hK _ ps fu hf
        · exact bd _
theorem Co {E:Env} {t:Tr} {lo n:Nat} {l:List iU} (h:∀r ∈ l,RP r):RP (je E t lo n l):=fun k B K hK ps fu ou hf=>by
  unfold je;split
  · exact bd _
  · rename_i ho;have ho:ou=false:=by simpa using ho
    subst ho;split
    · exact wi l h k B K hK ps fu hf
    · split
      · exact Aj l h k B K hK ps fu false hf
      · split
        · exact rA (tT h) _ _ k B K hK ps fu hf
        · split
          · exact dY _
          · have:=xr (E:=E) (t:=t) (lo:=lo) h hK (k:=k) (ps:=ps) (fu:=fu - 1) (by omega);exact aE this (by show fu - 1≤fu;omega)
theorem nt (E:Env) (p:Pt):RP (bi E p):=by
  induction p using Pt.ind with
  | h p ih =>
    rw [kh];exact Co fun r hr=>by
      obtain ⟨q,hq,rfl⟩:=List.mem_map.1 hr;exact ih q hq
theorem xt (E:Env) (l:List Pt):∀r ∈ l.map (bi E),RP r:=fun r hr=>by
  obtain ⟨q,hq,rfl⟩:=List.mem_map.1 hr;exact nt E q
theorem xu (E:Env) (p:Pt) (hb:uY p.t.k=true) {k B:Nat} {K:eJ} (hK:KP B K) {ps:Ps} {fu:Nat} {ou:Bool} (hf:fu < B+1):(bi E p k K ps (fu,ou)).2.1≤fu:=by
  rw [kh];have hk:¬p.t.k=0∧¬p.t.k=1∧¬p.t.k=7:=by
    simp only [uY,aA,aS,ai] at hb;exact ⟨hb.1.1,hb.1.2,hb.2⟩
  unfold je;rw [if_neg hk.1,if_neg hk.2.1,if_neg hk.2.2];split
  · exact bd _
  · split
    · exact dY _
    · rename_i h0;have h0:¬fu=0:=h0;have:=xr (E:=E) (t:=p.t) (lo:=p.lo.toNat) (xt E p.ps) hK (k:=k) (ps:=ps) (fu:=fu - 1) (by omega);exact aE this (by show fu - 1≤fu;omega)
theorem xv {l:List iU} (h:l.length=0) (k:Nat) (K:eJ) (ps:Ps) (φ:Fl):iR l k K ps φ=K k ps φ:=by
  rw [bA h];rfl
theorem vc {E:Env} {l:List Pt} (h:¬l.length=0) (k:Nat) (K:eJ) (ps:Ps) (φ:Fl):iR (l.map (bi E)) k K ps φ=bi E (nth l 0) k (fun to ps φ=>iR ((l.drop 1).map (bi E)) to K ps φ) ps φ:=by
  cases l with
  | nil => exact absurd rfl h
  | cons q l => rfl
theorem rB {E:Env} {l:List Pt} (h:l.length=1):sL (l.map (bi E))=bi E (nth l 0):=by
  cases l with
  | nil => simp at h
  | cons q l => rfl
theorem Ak {E:Env} {p:Pt} {k:Nat} {K:eJ} {ps:Ps} {fu:Nat}:bi E p k K ps (fu,true)=(none,(fu,true)):=by
  rw [kh];unfold je;rw [if_pos rfl]
theorem Am {E:Env} {p:Pt} {k:Nat} {K:eJ} {ps:Ps} {fu:Nat} (h:p.t.k=0):bi E p k K ps (fu,false)=iR (p.ps.map (bi E)) k K ps (fu,false):=by
  rw [kh];unfold je;rw [if_neg (by simp),if_pos h]
theorem vd {E:Env} {p:Pt} {k:Nat} {K:eJ} {ps:Ps} {fu:Nat} (h:p.t.k=1):bi E p k K ps (fu,false)=ns (p.ps.map (bi E)) k K ps (fu,false):=by
  rw [kh];unfold je;rw [if_neg (by simp),if_neg (by omega),if_pos h]
theorem An {E:Env} {p:Pt} {k:Nat} {K:eJ} {ps:Ps} {fu:Nat} (h:p.t.k=7) (hl:p.ps.length=1):bi E p k K ps (fu,false)=eh (bi E (nth p.ps 0)) p.lo.toNat (p.hi - p.lo).toNat p.t.mn p.t.mx p.t.lz (fu+1) 0 k K ps (fu,false):=by
  rw [kh];unfold je;rw [if_neg (by simp),if_neg (by omega),if_neg (by omega),if_pos h,rB hl]
theorem yA {E:Env} {p:Pt} {k:Nat} {K:eJ} {ps:Ps} {fu:Nat} (h0:¬p.t.k=0) (h1:¬p.t.k=1) (h7:¬p.t.k=7) (hf:fu=0):bi E p k K ps (fu,false)=(none,(fu,true)):=by
  subst hf;rw [kh];unfold je;rw [if_neg (by simp),if_neg h0,if_neg h1,if_neg h7,if_pos rfl]
theorem gr {E:Env} {p:Pt} {k:Nat} {K:eJ} {ps:Ps} {fu:Nat} (h0:¬p.t.k=0) (h1:¬p.t.k=1) (h7:¬p.t.k=7) (hf:¬fu=0):bi E p k K ps (fu,false)=ll E p.t p.lo.toNat (p.ps.map (bi E)) k K ps (fu - 1,false):=by
  rw [kh];unfold je;rw [if_neg (by simp),if_neg h0,if_neg h1,if_neg h7,if_neg hf]
theorem wj {E:Env} {p:Pt} {k:Nat} {K:eJ} {ps:Ps} {φ:Fl} (h:p.t.k=5) (hl:p.ps.length=1):ll E p.t p.lo.toNat (p.ps.map (bi E)) k K ps φ=bi E (nth p.ps 0) k (hY E p.lo.toNat k K) ps φ:=by
  unfold ll;rw [if_pos h,rB hl]
theorem yB {E:Env} {p:Pt} {k:Nat} {K:eJ} {ps:Ps} {φ:Fl} (h:p.t.k=6) (hl:p.ps.length=1):ll E p.t p.lo.toNat (p.ps.map (bi E)) k K ps φ=bi E (nth p.ps 0) k K ps φ:=by
  unfold ll;rw [if_neg (by omega),if_pos h,rB hl]
theorem ja {E:Env} {t:Tr} {lo:Nat} {l:List iU} {k:Nat} {K:eJ} {ps:Ps} {φ:Fl} (h:t.k=2∨t.k=3∨t.k=4):ll E t lo l k K ps φ=if (decide ((k:Int) < (E.cs.length:Int))&&iI E.fold t (nth E.cs (k:Int)))=true then K (k+1) ps φ else (none,φ):=by
  unfold ll;rw [if_neg (by omega),if_neg (by omega),if_pos h]
theorem rC {E:Env} {t:Tr} {lo:Nat} {l:List iU} {k:Nat} {K:eJ} {ps:Ps} {φ:Fl} (h5:¬t.k=5) (h6:¬t.k=6) (h:¬(t.k=2∨t.k=3∨t.k=4)):ll E t lo l k K ps φ=if kH E.cs t.k (k:Int)=true then K k ps φ else (none,φ):=by
  unfold ll;rw [if_neg h5,if_neg h6,if_neg h]
theorem Ee {l:List iU} {i k:Nat} {K:eJ} {ps:Ps} {φ:Fl} (hi:i < l.length) (h:((l[i]'hi) k K ps φ).1.isSome=false):ns (l.drop i) k K ps φ=ns (l.drop (i+1)) k K ps ((l[i]'hi) k K ps φ).2:=by
  rw [ej hi,ns,if_neg (by rw [h];decide)]
theorem xw {E:Env} {l:List Pt} {i:Nat} (hi:i < (l.map (bi E)).length):(l.map (bi E))[i]'hi=bi E (nth l (i:Int)):=by
  have h1:i < l.length:=by simpa using hi
  rw [lW,ny];simp [List.getD,bw h1]
theorem Ao {E:Env} {l:List Pt} {i k:Nat} {K:eJ} {ps:Ps} {φ:Fl} (hi:i < l.length) (h:(bi E (nth l (i:Int)) k K ps φ).1.isSome=false):ns ((l.map (bi E)).drop i) k K ps φ=ns ((l.map (bi E)).drop (i+1)) k K ps (bi E (nth l (i:Int)) k K ps φ).2:=by
  have hi2:i < (l.map (bi E)).length:=by simpa using hi
  rw [←xw hi2] at h ⊢;exact Ee hi2 h
theorem Cp {E:Env} {l:List Pt} {i k:Nat} {K:eJ} {ps:Ps} {φ:Fl} (hi:i < l.length) (h:(bi E (nth l (i:Int)) k K ps φ).1.isSome=true):ns ((l.map (bi E)).drop i) k K ps φ=bi E (nth l (i:Int)) k K ps φ:=by
  have hi2:i < (l.map (bi E)).length:=by simpa using hi
  rw [←xw hi2] at h ⊢;rw [ej hi2,ns,if_pos h]
theorem Cq {l:List iU} {i k:Nat} {K:eJ} {ps:Ps} {φ:Fl} (hi:l.length≤i):ns (l.drop i) k K ps φ=(none,φ):=by
  rw [dI hi];rfl
theorem Ap {ps:Ps} {i:Nat} {x:Int × Int}:(ps.set i x).set i (nth ps (i:Int))=ps:=by
  rw [List.set_set,ny];by_cases h:i < ps.length
  · simp [List.getD,bw h]
  · rw [List.set_eq_of_length_le (by omega)]
theorem sO {ps:Ps} {lo hi:Nat} (h1:lo≤hi) (h2:hi≤ps.length):(dN ps lo (hi - lo)).take lo++(ps.drop lo).take (hi - lo)++(dN ps lo (hi - lo)).drop hi=ps:=by
  have e1:(ps.take lo).length=lo:=by simp;omega
  have e2:(dN ps lo (hi - lo)).take lo=ps.take lo:=by
    unfold dN;rw [cY,iV,e1,jJ,List.take_zero,eb,bz (by omega)]
  have e3:(dN ps lo (hi - lo)).drop hi=ps.drop hi:=by
    unfold dN;have e4:(ps.take lo++List.replicate (hi - lo) ((-1:Int),(-1:Int))).length=hi:=by simp;omega
    rw [lU,e4,jJ,jI,dI (by omega),es,show lo+(hi - lo)=hi by omega]
  rw [e2,e3,cY];have e5:(ps.drop lo).take (hi - lo)++ps.drop hi=ps.drop lo:=by
    have:ps.drop hi=(ps.drop lo).drop (hi - lo):=by rw [fO];congr 1;omega
    rw [this,cw]
  rw [e5,cw]
theorem wk {r:iU} {lo n:Nat} {mn mx:Int} {lz:Bool} {g times k:Nat} {K:eJ} {ps:Ps} {φ:Fl} (h:(decide (mn≤(times:Int))&&lz)=true) (hs:(K k ps φ).1.isSome=true):eh r lo n mn mx lz (g+1) times k K ps φ=K k ps φ:=by
  have e:fG mn lz times k K ps φ=K k ps φ:=by unfold fG;rw [if_pos h]
  rw [mf,e,if_pos hs]
def gS (r:iU) (lo n:Nat) (mn mx:Int) (lz:Bool) (g times k:Nat) (K:eJ) (ps:Ps) (φ:Fl):Rs:=
  if (decide (mx < 0) || decide ((times:Int) < mx))=true then
    if (jd r lo n mn mx lz g times k K ps φ).1.isSome=true then jd r lo n mn mx lz g times k K ps φ
    else hH mn lz times k K ps (jd r lo n mn mx lz g times k K ps φ).2
  else hH mn lz times k K ps φ
theorem kn {r:iU} {lo n:Nat} {mn mx:Int} {lz:Bool} {g times k:Nat} {K:eJ} {ps:Ps} {φ:Fl} (h:(decide (mn≤(times:Int))&&lz)=true) (hs:(K k ps φ).1.isSome=false):eh r lo n mn mx lz (g+1) times k K ps φ=gS r lo n mn mx lz g times k K ps (K k ps φ).2:=by
  have e:fG mn lz times k K ps φ=K k ps φ:=by unfold fG;rw [if_pos h]
  rw [mf,e,if_neg (by rw [hs];decide)];rfl
theorem ko {r:iU} {lo n:Nat} {mn mx:Int} {lz:Bool} {g times k:Nat} {K:eJ} {ps:Ps} {φ:Fl} (h:(decide (mn≤(times:Int))&&lz)=false):eh r lo n mn mx lz (g+1) times k K ps φ=gS r lo n mn mx lz g times k K ps φ:=by
  have e:fG mn lz times k K ps φ=(none,φ):=by unfold fG;rw [if_neg (by rw [h];decide)]
  rw [mf,e,if_neg (by simp)];rfl
theorem ve {r:iU} {lo n:Nat} {mn mx:Int} {lz:Bool} {g times k:Nat} {K:eJ} {ps:Ps} {φ:Fl} (h:(decide (mx < 0) || decide ((times:Int) < mx))=true) (hs:(jd r lo n mn mx lz g times k K ps φ).1.isSome=true):gS r lo n mn mx lz g times k K ps φ=jd r lo n mn mx lz g times k K ps φ:=by
  unfold gS;rw [if_pos h,if_pos hs]
theorem nK {r:iU} {lo n:Nat} {mn mx:Int} {lz:Bool} {g times k:Nat} {K:eJ} {ps:Ps} {φ:Fl} (h:(decide (mx < 0) || decide ((times:Int) < mx))=true) (hs:(jd r lo n mn mx lz g times k K ps φ).1.isSome=false):gS r lo n mn mx lz g times k K ps φ=hH mn lz times k K ps (jd r lo n mn mx lz g times k K ps φ).2:=by
  unfold gS;rw [if_pos h,if_neg (by rw [hs];decide)]
theorem qu {r:iU} {lo n:Nat} {mn mx:Int} {lz:Bool} {g times k:Nat} {K:eJ} {ps:Ps} {φ:Fl} (h:(decide (mx < 0) || decide ((times:Int) < mx))=false):gS r lo n mn mx lz g times k K ps φ=hH mn lz times k K ps φ:=by
  unfold gS;rw [if_neg (by rw [h];decide)]
theorem mP {mn:Int} {lz:Bool} {times k:Nat} {K:eJ} {ps:Ps} {fu:Nat} {ou:Bool} (h:((decide (mn≤(times:Int))&& !lz)&& !ou)=true):hH mn lz times k K ps (fu,ou)=K k ps (fu,false)∧ou=false:=by
  have ho:ou=false:=by simp at h;exact h.2
  subst ho;unfold hH;rw [if_pos h];exact ⟨rfl,rfl⟩
theorem qv {mn:Int} {lz:Bool} {times k:Nat} {K:eJ} {ps:Ps} {fu:Nat} {ou:Bool} (h:((decide (mn≤(times:Int))&& !lz)&& !ou)=false):hH mn lz times k K ps (fu,ou)=(none,(fu,ou)):=by
  unfold hH;rw [if_neg (by rw [show (fu,ou).2=ou from rfl,h];decide)]
end
section
open Go.RowKit Srt
inductive PtT (F:aX) (w:World):Pt→Prop
  | mk {p : Pt} : TrT F w p.t → SlT vJ w p.pv.v p.ps → (p.ps ≠ [] → F (dF p.pv.v).block) → (∀ q ∈ p.ps, PtT F w q) → PtT F w p
section
variable {F F':aX} {w w':World} {p q:Pt}
theorem PtT.tree (h:PtT F w p):TrT F w p.t:=by cases h;assumption
theorem PtT.sl (h:PtT F w p):SlT vJ w p.pv.v p.ps:=by cases h;assumption
theorem PtT.slF (h:PtT F w p):p.ps≠ []→F (dF p.pv.v).block:=by cases h;assumption
theorem PtT.kid (h:PtT F w p) (hq:q ∈ p.ps):PtT F w q:=by cases h;rename_i h1;exact h1 q hq
theorem PtT.keep (h:PtT F w p) {M:Nat→Prop} (he:Ext M w w') (hm:∀g,F g→¬M g):PtT F w' p:=by
  induction h with
  | mk h1 h2 h3 h4 ih => exact .mk (h1.keep he hm) (h2.keep he fun hn => hm _ (h3 hn)) h3 ih
theorem PtT.mono (h:PtT F w p) (hf:∀g,F g→g < w.heap.size→F' g):PtT F' w p:=by
  induction h with
  | mk h1 h2 h3 h4 ih => exact .mk (h1.mono hf) h2 (fun hn => hf _ (h3 hn) (h2.lt hn)) ih
end
def ln (p:Pt):ZP:=⟨fun Z w=>PtT Z w p,fun hz he h=>(PtT.keep h he fun g hg hn=>hn hg).mono fun g hg _=>hz g hg⟩
def sP (v:Sv) (l:List Pt):ZP:=⟨fun Z w=>(SlT vJ w v.v l∧(l≠ []→Z (dF v.v).block))∧∀p ∈ l,PtT Z w p,fun hz he h=>⟨⟨h.1.1.keep he fun hn hm=>hm (h.1.2 hn),fun hn=>hz _ (h.1.2 hn)⟩,fun p hp=>(ln p).st hz he (h.2 p hp)⟩⟩
def dL (p:Addr) (vs:List Value):ZP:=⟨fun Z w=>Z p.block∧∀j u,vs[j]? =some u→w.cell? (p.add j)=some u,fun hz he h=>⟨hz _ h.1,fun j u hu=>he.cell_some (h.2 j u hu) fun hn=>hn (by rw [kX];exact h.1)⟩⟩
section
variable {Z:aX} {w:World} {p:Pt} {v:Sv} {l:List Pt}
theorem ln.kids (h:(ln p).P Z w):(sP p.pv p.ps).P Z w:=⟨⟨PtT.sl h,PtT.slF h⟩,fun q hq=>PtT.kid h hq⟩
theorem sP.at (h:(sP v l).P Z w) {i:Int} (h0:0≤i) (h1:i < l.length):(ln (nth l i)).P Z w:=h.2 _ (aW h0 h1)
theorem sP.tail {n:Nat} (h:(sP v l).P Z w) (hn:n≤l.length) {u:Sv} (hu:u.v=fS v.v n l.length 11):(sP u (l.drop n)).P Z w:=by
  have hs:=SlT.sub h.1.1 (lo:=n) (hi:=l.length) hn (bd _);rw [bz (by simp)] at hs;refine ⟨⟨?_,fun hne=> ?_⟩,fun q hq=>h.2 q (iM hq)⟩
  · rw [hu];exact hs
  · have hl:l≠ []:=by rintro rfl;simp at hne
    have hb:(dF (fS v.v n l.length 11)).block=(dF v.v).block:=by
      rcases h.1.1.sl with ⟨e,hl0⟩ | ⟨b,cap,e,h1,h2⟩
      · exact absurd (bA hl0) hl
      · rw [e];simp only [fS];split <;> simp [dF,kX]
    rw [hu,hb];exact h.1.2 hl
end
inductive OkP (m:Nat):Pt→Prop
  | mk {p : Pt} : (0 ≤ p.lo ∧ p.lo ≤ p.hi ∧ p.hi ≤ (m : Int)) → (p.t.k = 5 → p.lo < p.hi) → (p.t.k = 5 ∨ p.t.k = 6 ∨ p.t.k = 7 → p.ps.length = 1) → (p.t.k = 7 → uY (nth p.ps 0).t.k = true) → fR p.t ≤ 1000000 → p.ps.length ≤ 1000000 → (∀ q ∈ p.ps, OkP m q) → OkP m p
theorem OkP.kid {m:Nat} {p q:Pt} (h:OkP m p) (hq:q ∈ p.ps):OkP m q:=by cases h;rename_i h1;exact h1 q hq
theorem OkP.facts {m:Nat} {p:Pt} (h:OkP m p):(0≤p.lo∧p.lo≤p.hi∧p.hi≤(m:Int))∧(p.t.k=5→p.lo < p.hi)∧(p.t.k=5∨p.t.k=6∨p.t.k=7→p.ps.length=1)∧(p.t.k=7→uY (nth p.ps 0).t.k=true)∧fR p.t≤1000000∧p.ps.length≤1000000:=by
  cases h;rename_i h1 h2 h3 h4 h5 h6 h7;exact ⟨h1,h2,h3,h4,h5,h6⟩
structure Cfg where
  rt:Nat
  st:Nat
  it:Nat
  g:Nat
  top:Pt
  E:Env
  cv:Sv
  lv:Sv
  pv:Sv
  m:Nat
def Cfg.ad (C:Cfg):Addr:=⟨C.g,0,none⟩
def Cfg.rv (C:Cfg):Value:= .pointer (some C.ad)
def Cfg.cells (C:Cfg) (fu:Nat) (ou:Bool):List Value:=vJ.cells C.top++ [.bool C.E.fold,C.cv.v,C.lv.v,C.pv.v,.int .i64 (fu:Int),.bool ou]
structure Cfg.Ok (C:Cfg):Prop where
  pg:∀b,C.pv.v.ownBlock=some b→b≠C.g
  pl:C.E.pl.length=C.E.cs.length+1
  cl:C.E.cs.length≤1000000
  ml:C.m≤1000000
  cz:∀x ∈ C.E.cs,x.size≤1000000
structure RunB (C:Cfg) (ps:Ps) (fu:Nat) (ou:Bool) (Z T:aX) (w:World):Prop where
  ok:C.Ok
  len:ps.length=C.m
  lt:C.g < w.heap.size
  own:T C.g
  at':w.heap[C.g]? =some (.cells (C.cells fu ou).toArray C.rt (0,0))
  parts:dg dH C.st ps T C.pv.v w
  chars:(fL gN Al C.cv.v C.E.cs).P Z w
  places:(fL jE Al C.lv.v C.E.pl).P Z w
section
variable {C:Cfg} {ps ps':Ps} {fu fu':Nat} {ou ou':Bool} {tv tv':Int} {tb:Option Nat} {Z Z' T T' N:aX} {w w':World}
theorem RunB.mono (h:RunB C ps fu ou Z T w) (hZ:∀g,Z g→Z' g) (hT:∀g,T g→T' g):RunB C ps fu ou Z' T' w:=
  ⟨h.ok,h.len,h.lt,hT _ h.own,h.at',⟨h.parts.1,fun g hg=>hT _ (h.parts.2 g hg)⟩,⟨h.chars.1,fun hn=>⟨hZ _ (h.chars.2 hn).1,au⟩⟩,⟨h.places.1,fun hn=>⟨hZ _ (h.places.2 hn).1,au⟩⟩⟩
theorem RunB.loc (hz:∀g,Z g→Z' g) (he:Ext (fun g=>N g∧¬T g∧¬Z g) w w') (h:RunB C ps fu ou Z T w):RunB C ps fu ou Z' T w':=
  ⟨h.ok,h.len,cG h.lt he.size,h.own,by rw [he.block _ h.lt fun hn=>hn.2.1 h.own];exact h.at',jN (N:=N) T _ w w' he.less h.parts,
    (fL gN Al C.cv.v C.E.cs).st hz (he.mono fun _ _ h=>h.2.2) h.chars,(fL jE Al C.lv.v C.E.pl).st hz (he.mono fun _ _ h=>h.2.2) h.places⟩
theorem RunB.cell (h:RunB C ps fu ou Z T w) {j:Nat} {u:Value} (hu:(C.cells fu ou)[j]? =some u):w.cell? (C.ad.add j)=some u:=by
  have hb:cE C.rt (C.cells fu ou) T C.rv w:=⟨C.g,rfl,h.lt,h.own,h.at'⟩;exact hb.cell hu
theorem RunB.sl (h:RunB C ps fu ou Z T w):SlT dH w C.pv.v ps:=h.parts.1.sl
structure RunR (C:Cfg) (tb:Option Nat) (ps:Ps) (fu:Nat) (ou:Bool) (tv:Int) (Z T:aX) (w:World):Prop where
  b:RunB C ps fu ou Z T w
  to:∀q,tb=some q→cE C.it [.int .i64 tv] T (.pointer (some ⟨q,0,none⟩)) w
  tg:∀q,tb=some q→q≠C.g∧∀b,C.pv.v.ownBlock=some b→b≠q
theorem RunR.mono (h:RunR C tb ps fu ou tv Z T w) (hZ:∀g,Z g→Z' g) (hT:∀g,T g→T' g):RunR C tb ps fu ou tv Z' T' w:=
  ⟨h.b.mono hZ hT,fun q hq=>by obtain ⟨g,e,h1,h2,h3⟩:=h.to q hq;exact ⟨g,e,h1,hT _ h2,h3⟩,h.tg⟩
theorem RunR.loc (hz:∀g,Z g→Z' g) (he:Ext (fun g=>N g∧¬T g∧¬Z g) w w') (h:RunR C tb ps fu ou tv Z T w):RunR C tb ps fu ou tv Z' T w':=
  ⟨h.b.loc hz he,fun q hq=>kY (N:=N) T _ w w' he.less (h.to q hq),h.tg⟩
theorem RunR.cell (h:RunR C tb ps fu ou tv Z T w) {j:Nat} {u:Value} (hu:(C.cells fu ou)[j]? =some u):w.cell? (C.ad.add j)=some u:=h.b.cell hu
theorem RunR.sl (h:RunR C tb ps fu ou tv Z T w):SlT dH w C.pv.v ps:=h.b.sl
def Td (C:Cfg) (tb:Option Nat):aX:=fun b=>b=C.g∨C.pv.v.ownBlock=some b∨tb=some b
theorem RunB.r (h:RunB C ps fu ou Z T w):RunR C none ps fu ou tv Z T w:=⟨h,fun _ hq=>(by cases hq),fun _ hq=>(by cases hq)⟩
def Fr (C:Cfg) (tb:Option Nat) (w:World):aX:=fun b=>b < w.heap.size∧¬Td C tb b
def gE (C:Cfg) (tb:Option Nat) (ps:Ps) (fu:Nat) (ou:Bool) (tv:Int) (w:World):Prop:=RunR C tb ps fu ou tv (Fr C tb w) (Td C tb) w
theorem RunR.td (h:RunR C tb ps fu ou tv Z T w):∀b,Td C tb b→T b:=by
  rintro b (rfl | hb | hb)
  · exact h.b.own
  · exact h.b.parts.2 _ hb
  · obtain ⟨g,e,_,hT,_⟩:=h.to b hb;simp at e;rw [e];exact hT
theorem RunR.tdlt (h:RunR C tb ps fu ou tv Z T w):∀b,Td C tb b→b < w.heap.size:=by
  rintro b (rfl | hb | hb)
  · exact h.b.lt
  · exact h.b.parts.1.lt _ hb
  · obtain ⟨g,e,hl,_,_⟩:=h.to b hb;simp at e;omega
theorem RunR.d (h:RunR C tb ps fu ou tv Z T w) (hd:∀g,T g→¬Z g) (hl:∀g,Z g→g < w.heap.size):gE C tb ps fu ou tv w:=by
  have hZ:∀g,Z g→Fr C tb w g:=fun g hg=>⟨hl g hg,fun ht=>hd _ (h.td _ ht) hg⟩;obtain ⟨⟨h1,h2,h3,h4,h5,h6,h7,h8⟩,h9,h10⟩:=h;refine ⟨⟨h1,h2,h3,.inl rfl,h5,⟨h6.1,fun g hg=> .inr (.inl hg)⟩,⟨h7.1,fun hn=>⟨hZ _ (h7.2 hn).1,au⟩⟩,⟨h8.1,fun hn=>⟨hZ _ (h8.2 hn).1,au⟩⟩⟩,fun q hq=> ?_,h10⟩;obtain ⟨g,e,k1,k2,k3⟩:=h9 q hq;exact ⟨g,e,k1,by simp at e;exact .inr (.inr (e ▸ hq)),k3⟩
theorem RunR.fr (h:RunR C tb ps fu ou tv Z T w) (hd:∀g,T g→¬Z g) (hl:∀g,Z g→g < w.heap.size) {Φ:ZP} (hz:Φ.P Z w):Φ.P (Fr C tb w) w:=
  Φ.st (fun g hg=>⟨hl g hg,fun ht=>hd _ (h.td _ ht) hg⟩) (Ext.refl _ w) hz
theorem gE.back (h':gE C tb ps' fu' ou' tv' w') (h:RunR C tb ps fu ou tv Z T w) (hx:Ext (Td C tb) w w') (hd:∀g,T g→¬Z g) (hZ:∀g,Z g→Z' g):RunR C tb ps' fu' ou' tv' Z' T w':=by
  have hm:Ext (fun g=>¬Z g) w w':=hx.mono fun g _ hg hz=>hd _ (h.td _ hg) hz;obtain ⟨⟨h1,h2,h3,h4,h5,h6,h7,h8⟩,h9,h10⟩:=h';refine ⟨⟨h1,h2,h3,h.b.own,h5,⟨h6.1,h.b.parts.2⟩,(fL gN Al C.cv.v C.E.cs).st hZ hm h.b.chars,(fL jE Al C.lv.v C.E.pl).st hZ hm h.b.places⟩,fun q hq=> ?_,h10⟩;obtain ⟨g,e,k1,k2,k3⟩:=h9 q hq;obtain ⟨g',e',j1,j2,j3⟩:=h.to q hq;refine ⟨g,e,k1,?_,k3⟩;simp at e e';rw [←e,e'];exact j2
end
section
variable {N:aX}
def jj (N:aX) (tag t:Nat) (C:Cfg) (tb:Option Nat) (ps:Ps) (fu:Nat) (ou:Bool) (tv:Int) (v:Value):Spec N:=⟨some tag,t,fun Z T u w=>u=v∧RunR C tb ps fu ou tv Z T w,fun Z Z' T u w w' hz he h=>⟨h.1,RunR.loc hz he h.2⟩,fun u=>u=v,fun _ _ _ _ h=>h.1⟩
def lp (N:aX) (tag t:Nat) (C:Cfg) (tb:Option Nat) (ps:Ps) (fu:Nat) (ou:Bool) (tv:Int):Spec N:=⟨some tag,t,fun Z T u w=>RunR C tb ps fu ou tv Z T w,fun Z Z' T u w w' hz he h=>RunR.loc hz he h,fun _=>True,fun _ _ _ _ _=>trivial⟩
def Cr (N:aX) (C:Cfg) (tb:Option Nat) (ps:Ps) (fu:Nat) (ou:Bool) (tv:Int):Ini N:=⟨fun Z T w=>RunR C tb ps fu ou tv Z T w,fun Z Z' T w w' hz he h=>RunR.loc hz he h⟩
abbrev ir {N:aX} {C:Cfg} {tb:Option Nat} {ps:Ps} {fu:Nat} {ou:Bool} {tv:Int} {Z T:aX} {w:World} (_:RunR C tb ps fu ou tv Z T w):Ini N:=Cr N C tb ps fu ou tv
end
theorem wl {τ:Nat→aX} {w:World}:∀g,fh τ w g→g < w.heap.size:=fun _ h=>h.1
theorem jW {τ:Nat→aX} {w:World} {t:Nat}:∀g,τ t g→¬fh τ w g:=fun g h hz=>hz.2 _ h
theorem jq {τ:Nat→aX} {w w':World} (h:w.heap.size≤w'.heap.size):∀g,fh τ w g→fh τ w' g:=fun _ hz=>⟨cG hz.1 h,hz.2⟩
section
variable {N:aX} {P:Program} {ops:Array Oper} {sp:List (Spec N)} {In:Nat→Ini N} {a0:Act} {w0:World} {bf:List Nat} {j:Nat} {o:Oper} {s:Spec N} {done:Nat→Bool} {a:Act} {w:World} {τ:Nat→aX} {C:Cfg} {tb:Option Nat} {ps ps':Ps} {fu fu':Nat} {ou ou':Bool} {tv tv':Int}
theorem Cx.ir (c:Cx ops sp In a0 w0 bf j o done a w τ) (t:Nat) (hI:In t=Cr N C tb ps fu ou tv) (hl:bF (sp.map (·.tag)) t j=none:=by exact rfl) (hord:ju (sp.map (·.tag)) bf t j=true:=by kernel_rfl):RunR C tb ps fu ou tv (fh τ w) (τ t) w:=c.ini t _ hI hl hord
theorem Cx.rr {t slot:Nat} {v:Value} (c:Cx ops sp In a0 w0 bf j o done a w τ) (i:Nat) (hs:sp[i]? =some (jj N t slot C tb ps fu ou tv v)) (hl:bF (sp.map (·.tag)) t j=some i:=by exact rfl) (hord:ju (sp.map (·.tag)) bf t j=true:=by kernel_rfl):RunR C tb ps fu ou tv (fh τ w) (τ t) w:=(c.res i t _ hs hl hord).2
theorem Cx.rv {t slot:Nat} {v:Value} (c:Cx ops sp In a0 w0 bf j o done a w τ) (i:Nat) (hs:sp[i]? =some (jj N t slot C tb ps fu ou tv v)) (hb:(bf.getD j 0).testBit i=true:=by exact rfl):a.eval (.tmp slot)=v:=c.J.pur i _ hs (c.pre i hb)
theorem iD {tag t:Nat} {v:Value} (h:∀{done a w τ},Cx ops sp In a0 w0 bf j o done a w τ→∃g args,fi P a o w g args∧Calls P g args w (fun e w'=>e= .returned v∧Ext (τ tag) w w'∧RunR C tb ps fu ou tv (fh τ w') (τ tag) w'))
    (hs:s=jj N tag t C tb ps fu ou tv v:=by exact rfl) (hg:o.guard=none:=by exact rfl) (hd:o.dst=some t:=by exact rfl):Ob ops sp In a0 w0 P bf j o s:=by
  subst hs;refine jn (tag:=tag) hg rfl fun done a w τ c=> ?_;obtain ⟨g,args,h1,h2⟩:=h c;refine ⟨g,args,h1,h2.mono fun e w' ⟨he,hx,hb⟩=>⟨v,he,hx,τ tag,fun g h=> .inl h,?_,hb.mono (ke fun _ h=>h) fun _ h=>h⟩⟩;show aU (a.put o.dst v) t=v;rw [hd,dk a t t _ (c.lt t hd),if_pos rfl]
theorem wm {tag t:Nat} (h:∀{done a w τ},Cx ops sp In a0 w0 bf j o done a w τ→∃g args v,fi P a o w g args∧Calls P g args w (fun e w'=>e= .returned v∧Ext (τ tag) w w'∧RunR C tb ps fu ou tv (fh τ w') (τ tag) w'))
    (hs:s=lp N tag t C tb ps fu ou tv:=by exact rfl) (hg:o.guard=none:=by exact rfl):Ob ops sp In a0 w0 P bf j o s:=by
  subst hs;refine jn (tag:=tag) hg rfl fun done a w τ c=> ?_;obtain ⟨g,args,v,h1,h2⟩:=h c;exact ⟨g,args,h1,h2.mono fun e w' ⟨he,hx,hb⟩=>⟨v,he,hx,τ tag,fun g h=> .inl h,hb.mono (ke fun _ h=>h) fun _ h=>h⟩⟩
theorem lH {tag t tt off:Nat} {x y:Operand} {v:Value} (hs:s=lp N tag t C tb ps fu' ou' tv) (hg:o.guard=none) (hd:o.dst=none) (ho:o.op= .store tt x y) (hsz:∀w,(sizeOf tt).run P w= .ok 1 w)
    (hv:v.cells=#[v]) (h1:v.oneCell'=true) (hfit:off+1≤17) (hc:C.cells fu' ou'=(C.cells fu ou).take off++ [v]++(C.cells fu ou).drop (off+1))
    (hp:∀{done a w τ},Cx ops sp In a0 w0 bf j o done a w τ→RunR C tb ps fu ou tv (fh τ w) (τ tag) w∧a.eval x= .pointer (some (C.ad.add off))∧a.eval y=v):Ob ops sp In a0 w0 P bf j o s:=by
  subst hs;refine ee hg rfl fun done a w τ c=> ?_;obtain ⟨hR,hx,hy⟩:=hp c;have hr:=run_store (P:=P) (t:=tt) (v:=v) (off:=off) hR.b.at' (by rw [hv];exact hsz) (by rw [hv];simpa [Cfg.cells,vJ] using hfit) (by rw [hv];simpa using h1);rw [hv] at hr;have hr':(execOp a.eval o).run P w= .ok .skip (w.setRow C.g (C.cells fu' ou').toArray):=by
    simp only [execOp,ho,hx,hy,Sem.run_bind];have e:C.ad.add off=⟨C.g,off,none⟩:=lD C.g off;rw [e,hr,hc];rfl
  have hext:=iq w C.g (C.cells fu' ou').toArray;refine iu hr' ⟨_,rfl,hext.mono fun k _ hk=>by subst hk;exact hR.b.own,τ tag,fun g h=> .inl h,?_⟩;have hm:Ext (fun g=>¬fh τ w g) w (w.setRow C.g (C.cells fu' ou').toArray):=hext.mono fun k _ hk=>by subst hk;exact jW _ hR.b.own
  have hsz2:w.heap.size≤(w.setRow C.g (C.cells fu' ou').toArray).heap.size:=hext.size;have hzz:∀g,fh τ w g→fh (ni τ tag (τ tag)) (w.setRow C.g (C.cells fu' ou').toArray) g:=fun g hz=>ke (fun _ h=>h) g (jq hsz2 g hz);obtain ⟨⟨k1,k2,k3,k4,k5,k6,k7,k8⟩,k9,k10⟩:=hR;refine ⟨⟨k1,k2,by simpa [World.setRow] using k3,k4,?_,⟨fI.keep k6.1 hext fun g hg he=>k1.pg g hg he,k6.2⟩,(fL gN Al C.cv.v C.E.cs).st hzz hm k7,(fL jE Al C.lv.v C.E.pl).st hzz hm k8⟩,fun q hq=> ?_,k10⟩
  · exact setRow_heap w C.g _ _ C.rt _ k5
  · obtain ⟨g,e,l1,l2,l3⟩:=k9 q hq;refine ⟨g,e,cG l1 hsz2,l2,?_⟩;rw [hext.block g l1 (by simp at e;intro he;exact (k10 q hq).1 (by rw [e,he]))];exact l3
end
section
variable {N:aX} {l:List Oper} {sp:List (Spec N)} {il:List (Ini N)} {a0 a:Act} {w:World} {τ:Nat→aX} {C:Cfg} {tb:Option Nat} {ps:Ps} {fu:Nat} {ou:Bool} {tv:Int}
theorem Fin.ir (h:Fin l sp il a0 a w τ) (t:Nat) (hI:eZ il t=Cr N C tb ps fu ou tv) (hl:bF (sp.map (·.tag)) t sp.length=none:=by exact rfl):RunR C tb ps fu ou tv (fh τ w) (τ t) w:=by
  have:=h.ini t hl;rw [hI] at this;exact this
theorem Fin.rv {t slot:Nat} {v:Value} (h:Fin l sp il a0 a w τ) (j:Nat) (hs:sp[j]? =some (jj N t slot C tb ps fu ou tv v)) (hl:bF (sp.map (·.tag)) t sp.length=some j:=by exact rfl):aU a slot=v:=(h.res j t _ hs rfl hl).1
theorem Fin.rr {t slot:Nat} {v:Value} (h:Fin l sp il a0 a w τ) (j:Nat) (hs:sp[j]? =some (jj N t slot C tb ps fu ou tv v)) (hl:bF (sp.map (·.tag)) t sp.length=some j:=by exact rfl):RunR C tb ps fu ou tv (fh τ w) (τ t) w:=(h.res j t _ hs rfl hl).2
theorem Fin.r0 {t slot:Nat} (h:Fin l sp il a0 a w τ) (j:Nat) (hs:sp[j]? =some (lp N t slot C tb ps fu ou tv)) (hl:bF (sp.map (·.tag)) t sp.length=some j:=by exact rfl):RunR C tb ps fu ou tv (fh τ w) (τ t) w:=h.res j t _ hs rfl hl
end
end
section
open Go.RowKit
abbrev jr {N:aX} {τ:Nat→aX} {w:World} {C:Cfg} {tb:Option Nat} {ps:Ps} {fu t:Nat} {ou:Bool} {tv:Int} (h:RunR C tb ps fu ou tv (fh τ w) (τ t) w):IE N τ w:=⟨Cr N C tb ps fu ou tv,t,h⟩
end
section
open Go.RowKit Srt
section
variable {P:Program} {a:Act} {o:Oper} {w:World}
theorem Ef {x x1:Operand} {ts:Array TypeId} {v1:Value} {f:FuncId} {caps:Array Value} (ho:o.op= .call { callee:= .value x,args:=#[x1],argTypes:=ts }) (hx:a.eval x= .func (.func f) #[] caps) (hcall:∀args w,(callFunc f args).run P w= .ok (.enter f args) w) (h1:a.eval x1=v1):fi P a o w f (#[v1]++caps):=
  mz ho hx hcall (by simp [h1])
theorem qh {f:FuncId} {x1 x2 x3 x4 x5:Operand} {v1 v2 v3 v4 v5:Value} (ho:o.op= .makeFunc (.func f) #[] #[x1,x2,x3,x4,x5]) (h1:a.eval x1=v1) (h2:a.eval x2=v2) (h3:a.eval x3=v3) (h4:a.eval x4=v4) (h5:a.eval x5=v5):ca P a o w (.func (.func f) #[] #[v1,v2,v3,v4,v5]):=by
  subst h1 h2 h3 h4 h5;simp [ca,execOp,ho,Instr.makeFunc]
theorem wn {t e:TypeId} {x y:Operand} {v:Value} {n m lo hi i:Nat} {k:IntKind} (ho:o.op= .indexAddr t x y) (ht:P.underlying t=some (.slice e)) (hz:∀w,(sizeOf e).run P w= .ok m w) (hx:a.eval x=fS v lo hi m) (hv:mw v n) (hy:a.eval y= .int k (i:Int)) (h1:lo+i < hi) (h2:hi≤n):
    ca P a o w (.pointer (some ((dF v).add ((lo+i) * m)))):=by
  rcases hv with ⟨_,rfl⟩ | ⟨b,cap,rfl,hc,_⟩
  · omega
  · have hne:¬cap=lo:=by omega
    have h3:(i:Int) < ((hi - lo:Nat):Int):=by omega
    have h0:(0:Int)≤(i:Int):=by omega
    have e2:fS (.slice (some b) n cap) lo hi m= .slice (some (b.add (lo * m))) (hi - lo) (cap - lo):=by simp [fS,hne]
    rw [e2] at hx;have hq:=aL (w:=w) (n:=hi - lo) ho ht hz hx (.inr ⟨_,_,rfl,by omega,by omega⟩) hy h0 h3;have e3:dF (.slice (some (b.add (lo * m))) (hi - lo) (cap - lo))=b.add (lo * m):=rfl;rw [e3,add_add,eT,←fD] at hq;exact hq
theorem sQ {v:Value} {n lo hi m:Nat} (hv:mw v n) (h1:lo≤hi) (h2:hi≤n):mw (fS v lo hi m) (hi - lo):=by
  rcases hv with ⟨rfl,rfl⟩ | ⟨b,cap,rfl,hc,hm⟩
  · left;simp [fS];omega
  · right;exact ⟨if cap=lo then b else b.add (lo * m),cap - lo,by simp only [fS];split <;> rfl,by omega,by omega⟩
theorem sR {dT sT ty elem:TypeId} {g o' dLen dCap:Nat} {sa:Option Addr} {sLen sCap m:Nat} {cur:Array Value} {t:TypeId} {cs:List Value}
    (hu:P.underlying dT=some (.slice elem)) (hs:(P.info? elem).map (·.size)=some m)
    (hg:w.heap[g]? =some (.cells cur t (0,0))) (hn:cs.length=Nat.min sLen dLen * m)
    (hsrc:∀ad,sa=some ad→∀j v,cs[j]? =some v→w.cell? (ad.add j)=some v) (hsn:sa=none→cs=[]) (hfit:o'+cs.length≤cur.size) (h1:∀v ∈ cs,v.oneCell'=true):
    (Builtin.copy_ #[dT,sT] ty #[.slice (some ⟨g,o',none⟩) dLen dCap,.slice sa sLen sCap]).run P w=
      .ok (goInt (Nat.min sLen dLen)) (w.setRow g (cur.toList.take o'++cs++cur.toList.drop (o'+cs.length)).toArray):=by
  have hst:=run_storeCells_at P g o' t cs 0 cur w hg (by simpa using hfit) h1;cases hq:P.info? elem with
  | none => simp [hq] at hs
  | some i =>
    have hi:i.size=m:=by simpa [hq] using hs
    cases sa with
    | none =>
      have hc:=hsn rfl;subst hc;simp only [jG] at hst;simp [Builtin.copy_,run_underlying hu,Builtin.lenOf,Builtin.firstCells,sizeOf,typeInfo,hq,hi,hst]
    | some ad =>
      have hl:=run_loadCells_list (P:=P) w ad cs (hsrc ad rfl);rw [hn] at hl;simp only [jG] at hst;simp [Builtin.copy_,run_underlying hu,Builtin.lenOf,Builtin.firstCells,sizeOf,typeInfo,hq,hi,hl,hst]
end
section
variable {α:Type} {E:Enc α} {ty:Nat} {P:Program} {w:World}
theorem qi {dT sT rt elem:TypeId} {v u:Value} {xs ys:List α} {lo hi:Nat} (h:fI E ty w v xs) (hu:SlT E w u ys) (hdT:P.underlying dT=some (.slice elem)) (hsz:(P.info? elem).map (·.size)=some E.sz)
    (h1:lo≤hi) (h2:hi≤xs.length) (hl:ys.length=hi - lo):
    ∃w',(Builtin.copy_ #[dT,sT] rt #[fS v lo hi E.sz,u]).run P w= .ok (goInt ys.length) w'∧fI E ty w' v (xs.take lo++ys++xs.drop hi)∧Ext (fun k=>v.ownBlock=some k) w w':=by
  have hpos:=E.pos;have hxl:(xs.take lo++ys++xs.drop hi).length=xs.length:=by simp;omega
  rcases h.2 with ⟨rfl,h0⟩ | ⟨g,cap,cur,rfl,hb,hg,g2,g3,g4,g5⟩
  · obtain rfl:hi=0:=by omega
    obtain rfl:lo=0:=by omega
    have hy:ys=[]:=bA (by omega);have hx:xs=[]:=bA (by omega);subst hy;subst hx;refine ⟨w,?_,by simpa using h,Ext.refl _ _⟩;cases hq:P.info? elem with
    | none => simp [hq] at hsz
    | some i =>
      rcases hu.sl with ⟨rfl,_⟩ | ⟨b,cap,rfl,_⟩
      · simp [fS,Builtin.copy_,run_underlying hdT,Builtin.lenOf,Builtin.firstCells,sizeOf,typeInfo,hq]
      · have hl0:(loadCells b 0).run P w= .ok #[] w:=by simpa using run_loadCells_list (P:=P) w b [] (by simp)
        simp [fS,Builtin.copy_,run_underlying hdT,Builtin.lenOf,Builtin.firstCells,sizeOf,typeInfo,hq,hl0]
  · have hcs:(E.row ys).length=ys.length * E.sz:=E.row_length _;have hm1:hi * E.sz≤xs.length * E.sz:=gK _ h2;have hm2:xs.length * E.sz≤cap * E.sz:=gK _ g2;have hm3:lo * E.sz+ys.length * E.sz=hi * E.sz:=by rw [←fD];congr 1;omega
    obtain ⟨sa,sCap,hue,hsa,hsn⟩:∃sa sCap,u= .slice sa ys.length sCap∧(∀ad,sa=some ad→∀j x,(E.row ys)[j]? =some x→w.cell? (ad.add j)=some x)∧(sa=none→E.row ys=[]):=by
      rcases hu.sl with ⟨e,h0⟩ | ⟨b,cap2,e,_⟩
      · refine ⟨none,0,by rw [e,h0],fun _ h=>(by cases h),fun _=> ?_⟩;rw [bA h0];rfl
      · refine ⟨some b,cap2,e,fun ad h j x hj=> ?_,fun h=>by cases h⟩;cases h
        have:=hu.cell j x hj;rw [e] at this;exact this
    subst hue;by_cases hc:cap=lo
    · obtain rfl:hi=lo:=by omega
      have hy:ys=[]:=bA (by omega);subst hy;have hr:=sR (P:=P) (sT:=sT) (ty:=rt) (o':=0) (dLen:=0) (dCap:=0) (sa:=sa) (sLen:=0) (sCap:=sCap) (cs:=[]) hdT hsz hg (by simp) (fun _ _ j v hj=>by simp at hj) (fun _=>rfl) (by simp) (by simp);have hw:w.setRow g (cur.toList.take 0++ []++cur.toList.drop (0+([]:List Value).length)).toArray=w:=by
        simp only [List.take_zero,es,bO,jG,jI,Array.toArray_toList];exact setRow_self w g cur ty (0,0) hg
      rw [hw] at hr;refine ⟨w,?_,by simpa using h,Ext.refl _ _⟩;have e2:fS (.slice (some ⟨g,0,none⟩) xs.length cap) hi hi E.sz= .slice (some ⟨g,0,none⟩) 0 0:=by simp [fS,hc]
      rw [e2];simpa using hr
    · have e2:fS (.slice (some ⟨g,0,none⟩) xs.length cap) lo hi E.sz= .slice (some ⟨g,lo * E.sz,none⟩) (hi - lo) (cap - lo):=by
        simp [fS,hc,lD]
      have hmin:Nat.min ys.length (hi - lo)=ys.length:=by rw [hl];exact Nat.min_self _
      have hr:=sR (P:=P) (sT:=sT) (ty:=rt) (o':=lo * E.sz) (dLen:=hi - lo) (dCap:=cap - lo) (sa:=sa) (sLen:=ys.length) (sCap:=sCap) (cs:=E.row ys) hdT hsz hg (by rw [hmin,hcs]) hsa hsn (by rw [hcs];omega) E.row_one;rw [hmin] at hr;rw [e2];refine ⟨_,hr,⟨by rw [E.row_length],.inr ⟨g,cap,_,by rw [hxl],hb,setRow_heap w g cur _ ty _ hg,by rw [hxl];exact g2,g3,?_,?_⟩⟩,(iq w g _).mono fun k _ h=>by rw [h];rfl⟩
      · simp only [jH,bN,dp,dS,eS,hcs];omega
      · rw [hxl];have e3:E.row (xs.take lo++ys++xs.drop hi)=(E.row xs).take (lo * E.sz)++E.row ys++(E.row xs).drop (hi * E.sz):=by
          rw [E.row_append,E.row_append,E.row_take,E.row_drop]
        rw [e3,←g5,List.take_take,List.drop_take,hcs,hm3];have e4:min (lo * E.sz) (xs.length * E.sz)=lo * E.sz:=by omega
        rw [e4];have hA:(cur.toList.take (lo * E.sz)++E.row ys).length=hi * E.sz:=by simp [hcs];omega
        show (cur.toList.take (lo * E.sz)++E.row ys++cur.toList.drop (hi * E.sz)).take (xs.length * E.sz)=_;rw [iV,hA,bz (by omega)]
end
section
variable {C:Cfg} {ps ps':Ps} {fu:Nat} {ou:Bool} {tv:Int} {tb:Option Nat} {Z Z' T:aX} {w w':World}
theorem RunB.turn (h:RunB C ps fu ou Z T w) (hx:Ext (fun k=>C.pv.v.ownBlock=some k) w w') (ho:fI dH C.st w' C.pv.v ps') (hl:ps'.length=ps.length) (hZ:∀g,Z g→Z' g) (hd:∀g,T g→¬Z g):RunB C ps' fu ou Z' T w':=by
  have hm:Ext (fun g=>¬Z g) w w':=hx.mono fun g _ hg hz=>hd _ (h.parts.2 g hg) hz;obtain ⟨k1,k2,k3,k4,k5,k6,k7,k8⟩:=h;refine ⟨k1,hl.trans k2,cG k3 hx.size,k4,?_,⟨ho,k6.2⟩,(fL gN Al C.cv.v C.E.cs).st hZ hm k7,(fL jE Al C.lv.v C.E.pl).st hZ hm k8⟩;rw [hx.block C.g k3 fun hb=>k1.pg _ hb rfl];exact k5
theorem RunR.turn (h:RunR C tb ps fu ou tv Z T w) (hx:Ext (fun k=>C.pv.v.ownBlock=some k) w w') (ho:fI dH C.st w' C.pv.v ps') (hl:ps'.length=ps.length) (hZ:∀g,Z g→Z' g) (hd:∀g,T g→¬Z g):RunR C tb ps' fu ou tv Z' T w':=by
  refine ⟨h.b.turn hx ho hl hZ hd,fun q hq=> ?_,h.tg⟩;obtain ⟨g,e,l1,l2,l3⟩:=h.to q hq;refine ⟨g,e,cG l1 hx.size,l2,?_⟩;rw [hx.block g l1 fun hb=>(h.tg q hq).2 _ hb (by simp at e;exact e.symm)];exact l3
theorem gu {ps:Ps} {lo n:Nat} (h:lo+n≤ps.length):(dN ps lo n).length=ps.length:=by
  simp [dN];omega
end
section
variable {N:aX} {P:Program} {ops:Array Oper} {sp:List (Spec N)} {In:Nat→Ini N} {a0:Act} {w0:World} {bf:List Nat} {j:Nat} {o:Oper} {s:Spec N} {done:Nat→Bool} {a:Act} {w:World} {τ:Nat→aX} {C:Cfg} {tb:Option Nat} {ps ps':Ps} {fu fu':Nat} {ou ou':Bool} {tv tv':Int} {pc:Prop}
theorem gA {ty t:Nat} {cells:List Value} {x:Operand} {v:Value} (hgd:uE ops sp bf j o pc) (ho:o.op= .box ty x) (hc:v.cells=cells.toArray)
    (h:∀{done a w τ},Cx ops sp In a0 w0 bf j o done a w τ→pc→a.eval x=v)
    (hs:s=fQ N t pc (fun b:Nat=> .pointer (some ⟨b,0,none⟩)) (fun _=>True) (fun b=>dL ⟨b,0,none⟩ cells):=by exact rfl) (hd:o.dst=some t:=by exact rfl):Ob ops sp In a0 w0 P bf j o s:=by
  subst hs;intro done a w τ c;refine ⟨fun hw=> ?_,fun hw=>⟨Ext.refl _ _,fun hp=>by rw [(hgd.known c).2 hp] at hw;cases hw⟩⟩;have hp:=(hgd.known c).1 hw;have hr:(execOp a.eval o).run P w= .ok (.value (.pointer (some ⟨w.heap.size,0,none⟩))) (w.alloc (.cells cells.toArray ty)):=by
    simp only [execOp,ho,h c hp,Instr.box,newVar,newRow,newObj,hc];rfl
  refine fA hr ⟨_,rfl,Ext.alloc _ _ _,fun _=>⟨w.heap.size,?_,au,⟨⟨by simp,fun t ht=> ?_⟩,fun j u hu=> ?_⟩⟩⟩
  · show aU (a.put o.dst _) t=_;rw [hd,dk a t t _ (c.lt t hd),if_pos rfl]
  · have:=(c.J.bnd t _ ht).2;exact absurd this (Nat.lt_irrefl _)
  · exact (tA (ty:=ty) (cells:=cells) (w:=w)).cell hu
def Eg {α:Type} (E:Enc α) (ty:Nat) (N:aX) (tag t:Nat) (v:Value) (xs:List α):Spec N:=⟨some tag,t,fun _ T _ w=>dg E ty xs T v w,fun _ _ T u w w' _ h hr=>jN T v w w' h.less hr,fun _=>True,fun _ _ _ _ _=>trivial⟩
theorem yC {α:Type} {E:Enc α} {ty tag t tt i:Nat} {v:Value} {xs:List α} {x x':α} {p q:Operand} {u:Value} (hs:s=Eg E ty N tag t v (xs.set i x')) (hg:o.guard=none) (hd:o.dst=none) (ho:o.op= .store tt p q) (hsz:∀w,(sizeOf tt).run P w= .ok u.cells.size w)
    (hx:xs[i]? =some x) (hl:0+u.cells.size≤E.sz) (h1:∀c ∈ u.cells.toList,c.oneCell'=true) (hc:E.cells x'=iN (E.cells x) 0 u.cells.toList)
    (hp:∀{done a w τ},Cx ops sp In a0 w0 bf j o done a w τ→dg E ty xs (τ tag) v w∧a.eval p= .pointer (some ((dF v).add (i * E.sz)))∧a.eval q=u):Ob ops sp In a0 w0 P bf j o s:=by
  subst hs;refine ee hg rfl fun done a w τ c=> ?_;obtain ⟨⟨hown,hT⟩,hp',hq⟩:=hp c;obtain ⟨w',hr,h2,h3⟩:=lK (P:=P) (tt:=tt) hown hx hsz hl h1 hc;have hr':(execOp a.eval o).run P w= .ok .skip w':=by
    have hr2:(Instr.storeAt tt (.pointer (some ((dF v).add (i * E.sz)))) u).run P w= .ok () w':=hr;simp only [execOp,ho,hp',hq,Sem.run_bind,hr2];rfl
  exact iu hr' ⟨_,rfl,h3.mono fun k _ hk=>hT k hk,τ tag,fun g h=> .inl h,h2,hT⟩
theorem rD {tag t tt i:Nat} {x x':Int × Int} {p q:Operand} (hs:s=lp N tag t C tb (ps.set i x') fu ou tv) (hg:o.guard=none) (hd:o.dst=none) (ho:o.op= .store tt p q) (hsz:∀w,(sizeOf tt).run P w= .ok 2 w)
    (hx:ps[i]? =some x)
    (hp:∀{done a w τ},Cx ops sp In a0 w0 bf j o done a w τ→RunR C tb ps fu ou tv (fh τ w) (τ tag) w∧a.eval p= .pointer (some ((dF C.pv.v).add (i * 2)))∧a.eval q=ux x'):Ob ops sp In a0 w0 P bf j o s:=by
  subst hs;refine ee hg rfl fun done a w τ c=> ?_;obtain ⟨hR,hp',hq⟩:=hp c;obtain ⟨w',hr,h2,h3⟩:=lK (P:=P) (tt:=tt) (u:=ux x') (off:=0) (x':=x') hR.b.parts.1 hx (by exact hsz) (by exact bd _) (by simp [ux,Value.cells,Value.oneCell']) (by
    simp [dH,ux,Value.cells,iN])
  have hr':(execOp a.eval o).run P w= .ok .skip w':=by
    have hr2:(Instr.storeAt tt (.pointer (some ((dF C.pv.v).add (i * 2)))) (ux x')).run P w= .ok () w':=hr;simp only [execOp,ho,hp',hq,Sem.run_bind,hr2];rfl
  exact iu hr' ⟨_,rfl,h3.mono fun k _ hk=>hR.b.parts.2 k hk,τ tag,fun g h=> .inl h,hR.turn h3 h2 (by simp) (fun g hz=>ke (fun _ h=>h) g (jq h3.size g hz)) fun g h=>jW g h⟩
theorem rE {tag t dT sT e lo hi:Nat} {ys:Ps} {x y:Operand} (hs:s=jj N tag t C tb (ps.take lo++ys++ps.drop hi) fu ou tv (.int .i64 (ys.length:Int))) (hg:o.guard=none) (hd:o.dst=some t)
    (ho:o.op= .call { callee:= .builtin .copy,args:=#[x,y],argTypes:=#[dT,sT] }) (hdT:P.underlying dT=some (.slice e)) (hsz:(P.info? e).map (·.size)=some 2)
    (h1:lo≤hi) (h2:hi≤ps.length) (hl:ys.length=hi - lo)
    (hp:∀{done a w τ},Cx ops sp In a0 w0 bf j o done a w τ→RunR C tb ps fu ou tv (fh τ w) (τ tag) w∧a.eval x=fS C.pv.v lo hi 2∧∃u,a.eval y=u∧SlT dH w u ys):Ob ops sp In a0 w0 P bf j o s:=by
  subst hs;refine ee hg rfl fun done a w τ c=> ?_;obtain ⟨hR,hx,u,hy,hu⟩:=hp c;obtain ⟨w',hr,k2,k3⟩:=qi (P:=P) (sT:=sT) (rt:=o.type) hR.b.parts.1 hu hdT hsz h1 h2 hl;have hr':(execOp a.eval o).run P w= .ok (.value (.int .i64 (ys.length:Int))) w':=by
    have hr2:(Builtin.copy_ #[dT,sT] o.type #[fS C.pv.v lo hi 2,u]).run P w= .ok (goInt ys.length) w':=hr;simp only [execOp,ho,resolve,invoke,builtin,Sem.run_bind,Sem.run_pure,Result.andThen_ok,ec,bo,bJ,hx,hy,hr2];rfl
  refine fA hr' ⟨_,rfl,k3.mono fun k _ hk=>hR.b.parts.2 k hk,τ tag,fun g h=> .inl h,?_,hR.turn k3 k2 (by simp;omega) (fun g hz=>ke (fun _ h=>h) g (jq k3.size g hz)) fun g h=>jW g h⟩;show aU (a.put o.dst _) t=_;rw [hd,dk a t t _ (c.lt t hd),if_pos rfl]
theorem pj {α:Type} {E:Enc α} {ty e tag t:Nat} {ys:List α} {y:Operand} {z:Value} {i:TypeInfo} (hs:s=own E e N tag t ys) (hg:o.guard=none) (hd:o.dst=some t)
    (ho:o.op= .call { callee:= .builtin .append,args:=#[.const (.slice none 0 0),y],argTypes:=#[ty,ty] })
    (hty:P.underlying ty=some (.slice e)) (hi:P.info? e=some i) (hz:i.zero=some z) (hsize:i.size=E.sz) (hzs:z.cells.size=E.sz)
    (h63:ys.length≤maxLen) (hby:ys.length * i.bytes≤140737488355328)
    (hp:∀{done a w τ},Cx ops sp In a0 w0 bf j o done a w τ→∃u,a.eval y=u∧SlT E w u ys):Ob ops sp In a0 w0 P bf j o s:=by
  subst hs;refine ee hg rfl fun done a w τ c=> ?_;obtain ⟨u,hy,hsl⟩:=hp c;obtain ⟨v',w',hr,h2,h3,h4⟩:=om (P:=P) (E:=E) ty o.type e i z hty hi hz hsize hzs (fI.nil E e w) hsl (by simpa using h63) (by simpa using hby);have hr':(execOp a.eval o).run P w= .ok (.value v') w':=by
    simp only [execOp,ho,resolve,invoke,builtin,Sem.run_bind,Sem.run_pure,Result.andThen_ok,ec,bo,bJ,hy];have hr2:(Builtin.append_ #[ty,ty] o.type #[a.eval (.const (.slice none 0 0)),u]).run P w= .ok v' w':=hr;simp only [hr2];rfl
  rw [es] at h2;refine fA hr' ⟨_,rfl,h3.mono (fun k _ h=>by simp [Value.ownBlock] at h),fun g=>v'.ownBlock=some g,fun g hg=>(h4 g hg).elim (fun h=>by simp [Value.ownBlock] at h) (fun h=> .inr h),?_⟩;show dg E e ys _ (aU (a.put o.dst _) t) _;rw [hd,dk a t t _ (c.lt t hd),if_pos rfl];exact ⟨h2,fun g h=>h⟩
end
section
variable {N:aX} {l:List Oper} {sp:List (Spec N)} {il:List (Ini N)} {a0 a:Act} {w:World} {τ:Nat→aX}
theorem Fin.ov {α:Type} {E:Enc α} {ty t slot:Nat} {v:Value} {xs:List α} (h:Fin l sp il a0 a w τ) (j:Nat) (hs:sp[j]? =some (Eg E ty N t slot v xs)) (hl:bF (sp.map (·.tag)) t sp.length=some j:=by exact rfl):dg E ty xs (τ t) v w:=h.res j t _ hs rfl hl
end
def gm (ps:Ps) (x:Rs):Ps:=match x.1 with
  | some y => y.2
  | none => ps
def gh (tv:Int) (x:Rs):Int:=match x.1 with
  | some y => (y.1 : Int)
  | none => tv
def mh (C:Cfg) (tb:Option Nat) (ps:Ps) (tv:Int) (x:Rs) (w:World) (e:Ending) (w':World):Prop:=e= .returned (.bool x.1.isSome)∧Ext (Td C tb) w w'∧gE C tb (gm ps x) x.2.1 x.2.2 (gh tv x) w'
def Ft (P:Program) (C:Cfg) (tb:Option Nat) (B:Nat) (K:eJ) (kf:Value) (Z:aX) (w:World):Prop:=∃f caps,kf= .func (.func f) #[] caps∧(∀args w,(callFunc f args).run P w= .ok (.enter f args) w)∧
  ∀(to:Nat) (ps:Ps) (fu:Nat) (tv:Int) (w2:World),Ext (fun g=>¬Z g) w w2→gE C tb ps fu false tv w2→to≤C.E.cs.length→fu < B→fu≤1000000→(∀g,Z g→Fr C tb w2 g)→Calls P f (#[.int .i64 (to:Int)]++caps) w2 (mh C tb ps tv (K to ps (fu,false)) w2)
def zK (P:Program) (C:Cfg) (tb:Option Nat) (B:Nat) (K:eJ) (kf:Value):ZP:=⟨fun Z w=>Ft P C tb B K kf Z w,fun hz he ⟨f,caps,h1,h2,h3⟩=>⟨f,caps,h1,h2,fun to ps fu tv w2 hx hR ht hf hm hfr=>h3 to ps fu tv w2 (he.trans (hx.mono fun g _ hn hg=>hn (hz g hg))) hR ht hf hm fun g hg=>hfr g (hz g hg)⟩⟩
section
variable {C:Cfg} {ps ps':Ps} {fu fu' B B':Nat} {ou ou':Bool} {tv tv':Int} {tb:Option Nat} {Z Z' T:aX} {w w':World} {P:Program} {K:eJ} {kf:Value}
theorem Ft.less (h:Ft P C tb B K kf Z w) (hB:B'≤B):Ft P C tb B' K kf Z w:=by
  obtain ⟨f,caps,h1,h2,h3⟩:=h;exact ⟨f,caps,h1,h2,fun to ps fu tv w2 hx hR ht hf=>h3 to ps fu tv w2 hx hR ht (by omega)⟩
theorem wo (h:(zK P C tb B K kf).P Z w):kf.cells=#[kf]:=by obtain ⟨f,caps,rfl,_⟩:=h;rfl
theorem gE.in {n:Nat} {a:Act} {τ:Nat→aX} (h:gE C tb ps fu ou tv w) (hτ:τ 0=Td C tb) (st:St (fun k=>Td C tb k∨w.heap.size≤k) w n a w τ):RunR C tb ps fu ou tv (fh τ w) (τ 0) w:=
  h.mono (fun g hg=>⟨hg.1,fun t ht=>(st.bnd t g ht).1.elim (fun h=>hg.2 h) (fun h=>by have:=hg.1;omega)⟩) (fun g hg=>by rw [hτ];exact hg)
theorem jX {n:Nat} {a:Act} {τ:Nat→aX} {Φ:ZP} (h:Φ.P (Fr C tb w) w) (st:St (fun k=>Td C tb k∨w.heap.size≤k) w n a w τ):Fz Φ τ w:=
  Φ.st (fun g hg=>⟨hg.1,fun t ht=>(st.bnd t g ht).1.elim (fun h=>hg.2 h) (fun h=>by have:=hg.1;omega)⟩) (Ext.refl _ w) h
theorem gE.tdlt (h:gE C tb ps fu ou tv w):∀g,Td C tb g→g < w.heap.size:=RunR.tdlt h
theorem mi {τ:Nat→aX} {f:FuncId} {args:Array Value} {x:Rs} (h:RunR C tb ps fu ou tv (fh τ w) (τ 0) w) (hc:Calls P f args w (mh C tb ps tv x w)):
    Calls P f args w (fun e w'=>e= .returned (.bool x.1.isSome)∧Ext (τ 0) w w'∧RunR C tb (gm ps x) x.2.1 x.2.2 (gh tv x) (fh τ w') (τ 0) w'):=
  hc.mono fun e w' ⟨h1,h2,h3⟩=>⟨h1,h2.mono fun g _ hg=>h.td g hg,h3.back h h2 (fun g hg=>jW g hg) (jq h2.size)⟩
theorem Dy {τ:Nat→aX} {f:FuncId} {args:Array Value} {v:Value} (h:RunR C tb ps fu ou tv (fh τ w) (τ 0) w) (hc:Calls P f args w (fun e w'=>e= .returned v∧Ext (Td C tb) w w'∧gE C tb ps' fu' ou' tv' w')):
    Calls P f args w (fun e w'=>e= .returned v∧Ext (τ 0) w w'∧RunR C tb ps' fu' ou' tv' (fh τ w') (τ 0) w'):=
  hc.mono fun e w' ⟨h1,h2,h3⟩=>⟨h1,h2.mono fun g _ hg=>h.td g hg,h3.back h h2 (fun g hg=>jW g hg) (jq h2.size)⟩
theorem kM {x:Rs} (h:x.1.isSome=false):gm ps x=ps:=by
  unfold gm;cases hx:x.1 with
  | none => rfl
  | some y => rw [hx] at h; cases h
theorem pK {x:Rs} (h:x.1.isSome=false):gh tv x=tv:=by
  unfold gh;cases hx:x.1 with
  | none => rfl
  | some y => rw [hx] at h; cases h
theorem sS {x:Rs} (h:x.1.isSome=true):gm ps x=gm ps' x:=by
  unfold gm;cases hx:x.1 with
  | none => rw [hx] at h; cases h
  | some y => rfl
theorem RunR.nope {x:Rs} (h:RunR C tb (gm ps x) fu ou (gh tv x) Z T w) (hx:x.1.isSome=false):RunR C tb ps fu ou tv Z T w:=by rwa [kM hx,pK hx] at h
theorem RunR.yep {x:Rs} (h:RunR C tb (gm ps x) fu ou (gh tv x) Z T w) (hx:x.1.isSome=true):RunR C tb (gm ps' x) fu ou (gh tv x) Z T w:=by rwa [sS hx] at h
theorem RunR.ouf (h:RunR C tb ps fu ou tv Z T w) (ho:ou=false):RunR C tb ps fu false tv Z T w:=ho ▸ h
theorem RunR.psc (h:RunR C tb ps fu ou tv Z T w) (e:ps'=ps):RunR C tb ps' fu ou tv Z T w:=e ▸ h
theorem qw {x:Rs} (h:x.1.isSome=false):x=(Option.none,x.2):=by
  obtain ⟨a,b⟩:=x;cases a with
  | none => rfl
  | some y => cases h
theorem xx {v:Value} {lo hi m:Nat} (h:lo≤hi):fS v lo hi m=fS v lo (lo+(hi - lo)) m:=by rw [show lo+(hi - lo)=hi by omega]
theorem oC {τ:Nat→aX} {f:FuncId} {args:Array Value} {v:Value} (h:RunR C tb ps fu ou tv (fh τ w) (τ 0) w) (hl:ps'.length=ps.length) (hc:Calls P f args w (fun e w'=>e= .returned v∧fI dH C.st w' C.pv.v ps'∧Ext (fun k=>C.pv.v.ownBlock=some k) w w')):
    Calls P f args w (fun e w'=>e= .returned v∧Ext (τ 0) w w'∧RunR C tb ps' fu ou tv (fh τ w') (τ 0) w'):=
  hc.mono fun e w' ⟨h1,h2,h3⟩=>⟨h1,h3.mono fun g _ hg=>h.b.parts.2 g hg,h.turn h3 h2 hl (jq h3.size) fun g hg=>jW g hg⟩
theorem RunR.dz {τ:Nat→aX} (h:RunR C tb ps fu ou tv (fh τ w) (τ 0) w):gE C tb ps fu ou tv w:=h.d (fun g hg=>jW g hg) wl
theorem RunR.fz {τ:Nat→aX} {Φ:ZP} (h:RunR C tb ps fu ou tv (fh τ w) (τ 0) w) (hz:Φ.P (fh τ w) w):Φ.P (Fr C tb w) w:=h.fr (fun g hg=>jW g hg) wl hz
theorem lq {τ:Nat→aX} {a:Act} {o:Oper} {x x1:Operand} {ts:Array TypeId} {to:Nat} (h:RunR C tb ps fu false tv (fh τ w) (τ 0) w) (hk:(zK P C tb B K kf).P (fh τ w) w) (ht:to≤C.E.cs.length) (hf:fu < B) (hm:fu≤1000000)
    (ho:o.op= .call { callee:= .value x,args:=#[x1],argTypes:=ts }) (hx:a.eval x=kf) (h1:a.eval x1= .int .i64 (to:Int)):
    ∃g args,fi P a o w g args∧Calls P g args w (fun e w'=>e= .returned (.bool (K to ps (fu,false)).1.isSome)∧Ext (τ 0) w w'∧RunR C tb (gm ps (K to ps (fu,false))) (K to ps (fu,false)).2.1 (K to ps (fu,false)).2.2 (gh tv (K to ps (fu,false))) (fh τ w') (τ 0) w'):=by
  obtain ⟨f,caps,e1,e2,e3⟩:=hk;exact ⟨f,_,Ef ho (hx.trans e1) e2 h1,mi h (e3 to ps fu tv w (Ext.refl _ _) h.dz ht hf hm fun g hg=>⟨wl g hg,fun ht=>jW g (h.td g ht) hg⟩)⟩
end
end
section
open Go.RowKit Srt
def uu (G:aX) (p:Pt):ZP:=⟨fun Z w=>PtT (fun g=>Z g∧G g) w p,fun hz he h=>(PtT.keep h he fun g hg hn=>hn hg.1).mono fun g hg _=>⟨hz g hg.1,hg.2⟩⟩
def yD (G:aX) (l:List Pt):ZP:=⟨fun Z w=>∀p ∈ l,PtT (fun g=>Z g∧G g) w p,fun hz he h p hp=>(uu G p).st hz he (h p hp)⟩
section
variable {G F Z:aX} {τ:Nat→aX} {w w':World} {p:Pt} {l:List Pt}
theorem Fz.pn (G:aX) (τ:Nat→aX) (w:World):Fz (yD G []) τ w:=fun p hp=>by simp at hp
theorem Fz.psnoc (h:Fz (yD G l) τ w) (h2:Fz (uu G p) τ w):Fz (yD G (l++ [p])) τ w:=fun q hq=>(List.mem_append.1 hq).elim (h q) fun hq=>by simp at hq;rw [hq];exact h2
theorem Fz.pouts (h:Fz (yD G l) τ w):∀p ∈ l,PtT G w p:=fun p hp=>PtT.mono (h p hp) fun g hg _=>hg.2
end
section
variable {N:aX} {P:Program} {ops:Array Oper} {sp:List (Spec N)} {In:Nat→Ini N} {a0:Act} {w0 W:World} {bf:List Nat} {j:Nat} {o:Oper} {s:Spec N} {done:Nat→Bool} {a:Act} {w:World} {τ:Nat→aX} {β:Type} {pc:Prop}
theorem Cx.zbx (c:Cx ops sp In a0 w0 bf j o done a w τ) (i:Nat) {ty t slot:Nat} {p:Value} {cells:β→List Value} {f:β→Value} {Ψ:β→Prop} {Φ:β→ZP} (hs:sp[i]? =some (nR ty N t slot p cells f Ψ Φ)) (hl:bF (sp.map (·.tag)) t j=some i:=by exact rfl) (hord:ju (sp.map (·.tag)) bf t j=true:=by kernel_rfl):
    ∃b,a.eval (.tmp slot)=f b∧cE ty (cells b) (τ t) p w∧Ψ b∧(Φ b).P (fh τ w) w:=c.res i t _ hs hl hord
theorem Cx.pz {p:Pt} {F:aX} {n:Nat} {a1:Act} {τ0:Nat→aX} {w':World} (c:Cx ops sp In a0 w0 bf j o done a w τ) (st:St N W n a1 w0 τ0) (hx:w.heap.size≤w'.heap.size) (h:PtT (Gn (fun g=>fh τ w g∧Gn F W g) w) w' p):(uu (Gn F W) p).P (fh τ w') w':=PtT.mono h (c.gz (c.hW st) hx)
theorem vf {α:Type} {E:Enc α} {ty e tag t:Nat} {xs:List α} {ys:β→List α} {Ψ:β→Prop} {Φ:β→ZP} {x y:Operand} {z:Value} {i:TypeInfo} (hg:o.guard=none)
    (ho:o.op= .call { callee:= .builtin .append,args:=#[x,y],argTypes:=#[ty,ty] })
    (hty:P.underlying ty=some (.slice e)) (hi:P.info? e=some i) (hz:i.zero=some z) (hsize:i.size=E.sz) (hzs:z.cells.size=E.sz)
    (h63:∀b,xs.length+(ys b).length≤maxLen) (hby:∀b,(xs.length+(ys b).length) * i.bytes≤140737488355328)
    (hp:∀{done a w τ},Cx ops sp In a0 w0 bf j o done a w τ→∃v b,dg E e xs (τ tag) v w∧a.eval x=v∧Ψ b∧(Φ b).P (fh τ w) w∧∃u,a.eval y=u∧SlT E w u (ys b))
    (hs:s=qa E e N tag t True (fun b=>xs++ys b) Ψ Φ:=by exact rfl) (hd:o.dst=some t:=by exact rfl):Ob ops sp In a0 w0 P bf j o s:=by
  subst hs;refine ee hg rfl fun done a w τ c=> ?_;obtain ⟨v,b,⟨hown,hT⟩,hx,hq,hzz,u,hy,hsl⟩:=hp c;obtain ⟨v',w',hr,h2,h3,h4⟩:=om (P:=P) (E:=E) ty o.type e i z hty hi hz hsize hzs hown hsl (h63 b) (hby b);have hr':(execOp a.eval o).run P w= .ok (.value v') w':=by
    simp only [execOp,ho,resolve,invoke,builtin,Sem.run_bind,Sem.run_pure,Result.andThen_ok,ec,bo,bJ,hx,hy,hr]
  refine fA hr' ⟨_,rfl,h3.mono (fun k _ h=>hT k h),fun g=>v'.ownBlock=some g,fun g hg=>(h4 g hg).elim (fun h=> .inl (hT g h)) (fun h=> .inr h),fun _=>⟨b,?_,hq,?_⟩⟩
  · show dg E e (xs++ys b) _ (aU (a.put o.dst _) t) _;rw [hd,dk a t t _ (c.lt t hd),if_pos rfl];exact ⟨h2,fun g h=>h⟩
  · refine (Φ b).st (fun g hg=>⟨cG hg.1 h3.size,fun t' ht=> ?_⟩) (h3.mono fun g _ hg hZ=>hZ.2 tag (hT g hg)) hzz;unfold ni at ht;split at ht
    · rcases h4 g ht with h | h
      · exact hg.2 tag (hT g h)
      · exact absurd hg.1 (by omega)
    · exact hg.2 t' ht
theorem tU {x y:Operand} {t t':TypeId} {p:Int} (ho:o.op= .binOp .and t x y t') (hx:a.eval x= .int .u64 p) (hy:a.eval y= .int .u64 4294967295) (h0:0≤p) (h1:p < 4294967296):ca P a o w (.int .u64 p):=by
  obtain ⟨n,rfl⟩:=eH h0;have hn:n < 4294967296:=by omega
  have e1:(BitVec.ofInt 64 (n:Int)).toNat=n:=by
    rw [BitVec.toNat_ofInt];omega
  have e:n&&&4294967295=n:=by
    have:=Nat.and_two_pow_sub_one_eq_mod n 32;rw [show (2 ^ 32 - 1:Nat)=4294967295 from rfl] at this
    rw [this];exact Nat.mod_eq_of_lt hn
  have e3:IntKind.u64.wrap (n:Int)=n:=by simp [IntKind.wrap,IntKind.signed,IntKind.bits];omega
  have e5:(BitVec.ofInt 64 4294967295).toNat=4294967295:=by decide
  have hr:(Op.intBits .and .u64 (n:Int) 4294967295).run P w= .ok (.int .u64 n) w:=by
    have e6:(BitVec.ofInt (IntKind.bits .u64) (n:Int)&&&BitVec.ofInt (IntKind.bits .u64) 4294967295).toNat=n:=by
      rw [BitVec.toNat_and];show (BitVec.ofInt 64 (n:Int)).toNat&&&(BitVec.ofInt 64 4294967295).toNat=n;rw [e1,e5,e]
    unfold Op.intBits;simp only [e6,e3];rfl
  simp only [ca,execOp,ho,hx,hy];simp [eqGuard,binOp,hr]
theorem pk {x y:Operand} {t t':TypeId} {p:Int} (ho:o.op= .binOp .shr t x y t') (hx:a.eval x= .int .u64 p) (hy:a.eval y= .int .u64 32) (h0:0≤p) (h1:p < 4294967296):ca P a o w (.int .u64 0):=by
  have e:p.fdiv 4294967296=0:=by
    rw [kP p (by omega)];exact Int.ediv_eq_zero_of_lt h0 h1
  simp [ca,execOp,ho,hx,hy,eqGuard,binOp,Op.shift,IntKind.bits];exact e
theorem rF {x y:Operand} {t t':TypeId} {p q r:Int} (ho:o.op= .binOp .mul t x y t') (hx:a.eval x= .int .u64 p) (hy:a.eval y= .int .u64 q) (e:p * q=r) (h0:0≤r) (h1:r < 18446744073709551616):ca P a o w (.int .u64 r):=by
  have e2:IntKind.u64.wrap r=r:=by simp [IntKind.wrap,IntKind.signed,IntKind.bits];omega
  simp [ca,execOp,ho,hx,hy,eqGuard,binOp,Op.intArith,e,e2]
theorem tV {x y:Operand} {t t':TypeId} {p q r:Int} (ho:o.op= .binOp .add t x y t') (hx:a.eval x= .int .u64 p) (hy:a.eval y= .int .u64 q) (e:p+q=r) (h0:0≤r) (h1:r < 18446744073709551616):ca P a o w (.int .u64 r):=by
  have e2:IntKind.u64.wrap r=r:=by simp [IntKind.wrap,IntKind.signed,IntKind.bits];omega
  simp [ca,execOp,ho,hx,hy,eqGuard,binOp,Op.intArith,e,e2]
theorem Cs {α:Type} {E:Enc α} {ty e tag t n:Nat} {x y:Operand} {z:Value} {i:TypeInfo} {x0:α} (hs:s=own E e N tag t (List.replicate n x0)) (hg:o.guard=none) (hd:o.dst=some t) (ho:o.op= .makeSlice ty x y)
    (hty:P.underlying ty=some (.slice e)) (hi:P.info? e=some i) (hz:i.zero=some z) (hsize:i.size=E.sz) (hc:z.cells.toList=E.cells x0) (hby:i.bytes * n≤281474976710656) (h63:n≤maxLen)
    (hp:∀{done a w τ},Cx ops sp In a0 w0 bf j o done a w τ→a.eval x= .int .i64 (n:Int)∧a.eval y= .int .i64 (n:Int)):Ob ops sp In a0 w0 P bf j o s:=by
  subst hs;refine ee hg rfl fun done a w τ c=> ?_;obtain ⟨hx,hy⟩:=hp c;have h63':(n:Int)≤9223372036854775807:=by
    have h:=h63;simp only [maxLen] at h;omega
  have hb':(i.bytes:Int) * (n:Int)≤281474976710656:=by
    have h:((i.bytes * n:Nat):Int)≤281474976710656:=by omega
    rwa [Int.natCast_mul] at h
  have hr:=run_make (P:=P) w ty e i z hty hi hz .i64 .i64 n n (by omega) (eW _) hb' h63';simp only [eT] at hr;have hr':(execOp a.eval o).run P w= .ok (.value (.slice (some ⟨w.heap.size,0,none⟩) n n)) (w.alloc (.cells (madeCells z.cells (n * i.size)) e)):=by
    simp only [execOp,ho,hx,hy,Sem.run_bind,hr];rfl
  have hzs:z.cells.size=E.sz:=by rw [←eS,hc,E.len]
  have hrow:(madeCells z.cells (n * i.size)).toList=E.row (List.replicate n x0):=by
    apply List.ext_getElem?;intro q;rw [hsize];have hl:(E.row (List.replicate n x0)).length=n * E.sz:=by rw [E.row_length,dZ]
    by_cases hq:q < n * E.sz
    · have hdiv:q / E.sz < n:=Nat.div_lt_of_lt_mul (by rwa [Nat.mul_comm] at hq)
      have hmod:q % E.sz < E.sz:=Nat.mod_lt _ E.pos
      have h1:=E.row_get (xs:=List.replicate n x0) (i:=q / E.sz) (j:=q % E.sz) (x:=x0) (by rw [List.getElem?_replicate,if_pos hdiv]) hmod;rw [show q / E.sz * E.sz+q % E.sz=q from Nat.div_add_mod' q E.sz] at h1;rw [h1,←hc];have hm2:q % E.sz < z.cells.size:=by omega
      simp only [madeCells,Array.toList_map,List.getElem?_map,Array.toList_range,List.getElem?_range hq,Option.map_some,hzs];rw [getElem!_pos z.cells _ hm2,bw (by simpa using hm2),Array.getElem_toList]
    · rw [jS (by simp [madeCells];omega),jS (by omega)]
  refine fA hr' ⟨_,rfl,Ext.alloc _ _ _,fun g=>g=w.heap.size,fun g hg=> .inr (by subst hg;simp),?_⟩;show dg E e _ _ (aU (a.put o.dst _) t) _;rw [hd,dk a t t _ (c.lt t hd),if_pos rfl];refine ⟨⟨E.row_length _,.inr ⟨w.heap.size,n,_,by rw [dZ],dY _,heap_alloc_new w _,by rw [dZ];exact bd _,h63,by rw [size_madeCells,hsize],?_⟩⟩,fun g h=> ?_⟩
  · rw [hrow,dZ];exact bz (by rw [E.row_length,dZ];exact bd _)
  · simp only [Value.ownBlock,Option.some.injEq] at h;exact h.symm
end
section
variable {N:aX} {l:List Oper} {sp:List (Spec N)} {il:List (Ini N)} {a0 a:Act} {w:World} {τ:Nat→aX} {β:Type} {pc:Prop}
theorem Fin.gzo (h:Fin l sp il a0 a w τ) {α:Type} {E:Enc α} {ty t slot:Nat} {xs:β→List α} {Ψ:β→Prop} {Φ:β→ZP} (j:Nat) {v:Value} (hv:aU a slot=v) (hs:sp[j]? =some (qa E ty N t slot True xs Ψ Φ)) (hl:bF (sp.map (·.tag)) t sp.length=some j:=by exact rfl):∃b,dg E ty (xs b) (τ t) v w∧Ψ b∧Fz (Φ b) τ w:=
  hv ▸ h.res j t _ hs rfl hl trivial
end
section
variable {α:Type} {E:Enc α} {ty:Nat} {P:Program} {w:World}
theorem Aq {dT sT rt elem:TypeId} {d:Option Addr} {dl dc:Nat} {u u':Value} {ys:List α} (hu:SlT E w u ys) (hdT:P.underlying dT=some (.slice elem)) (hsz:(P.info? elem).map (·.size)=some E.sz) (hu':u'=fS u 0 (Nat.min ys.length dl) E.sz):
    (Builtin.copy_ #[dT,sT] rt #[.slice d dl dc,u]).run P w=(Builtin.copy_ #[dT,sT] rt #[.slice d (Nat.min ys.length dl) dc,u']).run P w:=by
  subst hu';cases hq:P.info? elem with
  | none => simp [hq] at hsz
  | some i =>
    have hi:i.size=E.sz:=by simpa [hq] using hsz
    rcases hu.sl with ⟨rfl,h0⟩ | ⟨b,cap,rfl,hc,hm⟩
    · rw [h0];simp [fS,Builtin.copy_,run_underlying hdT,Builtin.lenOf,Builtin.firstCells,sizeOf,typeInfo,hq,hi]
    · have e:fS (.slice (some b) ys.length cap) 0 (Nat.min ys.length dl) E.sz= .slice (some b) (Nat.min ys.length dl) cap:=by
        simp only [fS];split
        · simp_all
        · simp [Addr.add]
      rw [e];simp [Builtin.copy_,run_underlying hdT,Builtin.lenOf,Builtin.firstCells,sizeOf,typeInfo,hq,hi]
end
section
variable {α:Type} {E:Enc α} {ty:Nat} {P:Program} {w:World}
theorem sU {v:Value} {xs:List α} (h:fI E ty w v xs):fS v 0 xs.length E.sz=v:=by
  rcases h.2 with ⟨rfl,h0⟩ | ⟨g,cap,cur,rfl,hb,hg,g2,g3,g4,g5⟩
  · rw [h0];rfl
  · simp only [fS];split
    · simp
    · simp [Addr.add]
theorem vg {dT sT rt elem:TypeId} {v u:Value} {xs ys:List α} {lo hi:Nat} (h:fI E ty w v xs) (hu:SlT E w u ys) (hdT:P.underlying dT=some (.slice elem)) (hsz:(P.info? elem).map (·.size)=some E.sz)
    (h1:lo≤hi) (h2:hi≤xs.length):
    ∃w',(Builtin.copy_ #[dT,sT] rt #[fS v lo hi E.sz,u]).run P w= .ok (goInt (Nat.min ys.length (hi - lo))) w'∧fI E ty w' v (xs.take lo++ys.take (Nat.min ys.length (hi - lo))++xs.drop (lo+Nat.min ys.length (hi - lo)))∧Ext (fun k=>v.ownBlock=some k) w w':=by
  have hm1:Nat.min ys.length (hi - lo)≤ys.length:=Nat.min_le_left _ _;have hm2:Nat.min ys.length (hi - lo)≤hi - lo:=de _ _;have hsl:=SlT.sub hu (lo:=0) (hi:=Nat.min ys.length (hi - lo)) (dY _) hm1;rw [jI,Nat.sub_zero] at hsl;obtain ⟨w',hr,k2,k3⟩:=qi (P:=P) (dT:=dT) (sT:=sT) (rt:=rt) (lo:=lo) (hi:=lo+Nat.min ys.length (hi - lo)) h hsl hdT hsz (by omega) (by omega) (by rw [dp];omega);rw [dp,Nat.min_eq_left hm1] at hr;refine ⟨w',?_,k2,k3⟩;have hsub:∃d dc,fS v lo hi E.sz= .slice d (hi - lo) dc∧fS v lo (lo+Nat.min ys.length (hi - lo)) E.sz= .slice d (Nat.min ys.length (hi - lo)) dc:=by
    rcases h.2 with ⟨rfl,h0⟩ | ⟨g,cap,cur,rfl,hb,hg,g2,g3,g4,g5⟩
    · exact ⟨none,0 - lo,by simp [fS],by simp [fS]⟩
    · exact ⟨if cap=lo then some ⟨g,0,none⟩ else some ((⟨g,0,none⟩:Addr).add (lo * E.sz)),cap - lo,by simp only [fS];split <;> rfl,by simp only [fS,Nat.add_sub_cancel_left];split <;> rfl⟩
  obtain ⟨d,dc,e1,e2⟩:=hsub;rw [e2] at hr;rw [e1,Aq (sT:=sT) (rt:=rt) hu hdT hsz rfl];exact hr
end
section
variable {N:aX} {P:Program} {ops:Array Oper} {sp:List (Spec N)} {In:Nat→Ini N} {a0:Act} {w0 W:World} {bf:List Nat} {j:Nat} {o:Oper} {s:Spec N} {done:Nat→Bool} {a:Act} {w:World} {τ:Nat→aX}
def yE {α:Type} (E:Enc α) (ty:Nat) (N:aX) (tag t:Nat) (v:Value) (xs:List α) (k:Value):Spec N:=⟨some tag,t,fun _ T u w=>u=k∧dg E ty xs T v w,fun _ _ T u w w' _ h hr=>⟨hr.1,jN T v w w' h.less hr.2⟩,fun u=>u=k,fun _ _ _ _ h=>h.1⟩
theorem Cx.oc {α:Type} {E:Enc α} {ty t slot:Nat} {v k:Value} {xs:List α} (c:Cx ops sp In a0 w0 bf j o done a w τ) (i:Nat) (hs:sp[i]? =some (yE E ty N t slot v xs k)) (hb:(bf.getD j 0).testBit i=true:=by exact rfl):a.eval (.tmp slot)=k:=c.J.pur i _ hs (c.pre i hb)
theorem rG {α:Type} {E:Enc α} {ty tag t dT sT e lo hi:Nat} {v:Value} {xs ys:List α} {x y:Operand} (hs:s=yE E ty N tag t v (xs.take lo++ys.take (Nat.min ys.length (hi - lo))++xs.drop (lo+Nat.min ys.length (hi - lo))) (.int .i64 ((Nat.min ys.length (hi - lo):Nat):Int))) (hg:o.guard=none) (hd:o.dst=some t)
    (ho:o.op= .call { callee:= .builtin .copy,args:=#[x,y],argTypes:=#[dT,sT] }) (hdT:P.underlying dT=some (.slice e)) (hsz:(P.info? e).map (·.size)=some E.sz)
    (h1:lo≤hi) (h2:hi≤xs.length)
    (hp:∀{done a w τ},Cx ops sp In a0 w0 bf j o done a w τ→dg E ty xs (τ tag) v w∧a.eval x=fS v lo hi E.sz∧∃u,a.eval y=u∧SlT E w u ys):Ob ops sp In a0 w0 P bf j o s:=by
  subst hs;refine ee hg rfl fun done a w τ c=> ?_;obtain ⟨⟨hown,hT⟩,hx,u,hy,hu⟩:=hp c;obtain ⟨w',hr,k2,k3⟩:=vg (P:=P) (sT:=sT) (rt:=o.type) hown hu hdT hsz h1 h2;have hr':(execOp a.eval o).run P w= .ok (.value (.int .i64 ((Nat.min ys.length (hi - lo):Nat):Int))) w':=by
    have hr2:(Builtin.copy_ #[dT,sT] o.type #[fS v lo hi E.sz,u]).run P w= .ok (goInt (Nat.min ys.length (hi - lo))) w':=hr;simp only [execOp,ho,resolve,invoke,builtin,Sem.run_bind,Sem.run_pure,Result.andThen_ok,ec,bo,bJ,hx,hy,hr2];rfl
  refine fA hr' ⟨_,rfl,k3.mono fun k _ hk=>hT k hk,τ tag,fun g h=> .inl h,?_,k2,hT⟩;show aU (a.put o.dst _) t=_;rw [hd,dk a t t _ (c.lt t hd),if_pos rfl]
end
section
variable {N:aX} {l:List Oper} {sp:List (Spec N)} {il:List (Ini N)} {a0 a:Act} {w:World} {τ:Nat→aX}
theorem Fin.oc {α:Type} {E:Enc α} {ty t slot:Nat} {v k:Value} {xs:List α} (h:Fin l sp il a0 a w τ) (j:Nat) (hs:sp[j]? =some (yE E ty N t slot v xs k)) (hl:bF (sp.map (·.tag)) t sp.length=some j:=by exact rfl):aU a slot=k:=(h.res j t _ hs rfl hl).1
theorem Fin.or {α:Type} {E:Enc α} {ty t slot:Nat} {v k:Value} {xs:List α} (h:Fin l sp il a0 a w τ) (j:Nat) (hs:sp[j]? =some (yE E ty N t slot v xs k)) (hl:bF (sp.map (·.tag)) t sp.length=some j:=by exact rfl):dg E ty xs (τ t) v w:=(h.res j t _ hs rfl hl).2
end
def grpsN (l:List Tr):Nat:=(l.map grpN).sum
theorem rH (l:List Tr) (t:Tr):grpsN (l++ [t])=grpsN l+grpN t:=by simp [grpsN]
theorem yF (l:List Tr):((grpsN l:Nat):Int)=dD (l.map gP):=by
  induction l with
  | nil => rfl
  | cons t l ih =>
    have h1:=(jp t).1;rw [bo,jD,←ih];have:grpsN (t::l)=grpN t+grpsN l:=by simp [grpsN]
    rw [this];unfold grpN;omega
theorem pL {t:Tr}:∀{ps:List Pt} {ts:List Tr} {g:Nat} {p:Pt},LayL ps ts g→Lay p t (g+grpsN ts)→LayL (ps++ [p]) (ts++ [t]) g
  | [], [], g, p, h, h2 => by
    have e:g+grpsN []=g:=rfl;rw [e] at h2;exact .cons h2 .nil
  | [], _ :: _, g, p, h, h2 => by cases h
  | _ :: _, [], g, p, h, h2 => by cases h
  | q :: ps, u :: ts, g, p, h, h2 => by
    cases h with
    | cons h3 h4 =>
      have e:g+grpsN (u::ts)=g+grpN u+grpsN ts:=by simp [grpsN];omega
      rw [e] at h2;exact .cons h3 (pL h4 h2)
theorem nL (t:Tr):grpN t=(if t.k=5 then 1 else 0)+grpsN t.kids:=by
  have h1:=oA t;have h2:=yF t.kids;have h3:=(jp t).1;unfold grpN;rw [h1,←h2];split <;> omega
theorem tW (t:Tr) (g:Nat):rz t g=g+(if t.k=5 then 1 else 0):=by
  unfold rz;split <;> omega
theorem pm (t:Tr):((grpN t:Nat):Int)=gP t:=by
  have:=(jp t).1;unfold grpN;omega
theorem wq (t:Tr):(grpN t:Int)≤fR t:=by
  have h1:=(jp t).2;have h2:=ri t;rw [pm];omega
theorem Ct (l:List Tr):(grpsN l:Int)≤dD (l.map fR):=by
  induction l with
  | nil => exact eW _
  | cons t l ih =>
    have h1:=wq t;have e:grpsN (t::l)=grpN t+grpsN l:=by simp [grpsN]
    rw [bo,jD,e];omega
theorem vh {t:Tr} {k:Nat} (h:k < t.kids.length):(grpsN (t.kids.take k):Int)+fR (nth t.kids (k:Int))+1≤fR t:=by
  have h1:=Ct (t.kids.take k);have h2:=uS (f:=fR) h;have h3:=(zV (f:=fR) (ts:=t.kids) (fun q _=>by have:=lF q;omega) (k+1)).2;have h4:=lj t;have h5:=nH t.rows;omega
end
section
open Go.RowKit
open Srt
set_option maxRecDepth 100000 in
theorem Cu (n:Int) (w:World):Calls Try.prog 66 #[(aj n)] w (fun e w'=>e= .returned (aD (decide (n=5) || decide (n=6)))∧Ext bk w w'):=by
 refine enter (n:=9) Try.func66 rfl rfl (ar rfl) ?_;intro a0 τ0 ha st0;have e0:=nf ha;refine wp_seq (eM st0 [] ⟨ao fun c=>aw rfl rfl,au⟩ fun ac ag ae ab aa=> ?_);replace e0:=aa.k1 e0;have e2:=aa.V 0;refine wp_seq (Fn ab [] ⟨ak e0,ao fun c=>cF rfl (c.q 0) rfl,bm 1,bR 2 rfl fun c hpc=>aM rfl (c.p e0),bR 2 rfl fun c hpc=>cF rfl (c.M 3 hpc) rfl,eB 2 4,aI 5,au⟩ fun ac ag ae ab aa=> ?_);have e2:=aa.V 6;refine wp_ret ?_;refine rp ?_;refine cO (fn:=Try.f66) rfl ab.defers e2 ?_;exact ⟨rfl,ab.ext0⟩
end
section
open Go.RowKit
open Srt
def lr (ch:ByteArray) (ng:Bool) (rows:List Rw) (mn mx:Int) (lz:Bool):Bool:=((((iH ch (⟨#[]⟩:ByteArray)&& !ng)&&decide ((rows.length:Int)=0))&&decide (mn=0))&&decide (mx=0))&& !lz
set_option maxRecDepth 100000 in
theorem kx (k:Int) (ch:ByteArray) (ng:Bool) (rv:Value) (rows:List (ByteArray × ByteArray)) (mn mx:Int) (lz:Bool) (kv:Value) (ho:kv.oneCell'=true) (w:World) (hS:SlT dQ w rv rows):Calls Try.prog 80 #[(.agg #[(aj k),(aR ch),(aD ng),rv,(aj mn),(aj mx),(aD lz),kv])] w (fun e w'=>e= .returned (aD (lr ch ng rows mn mx lz))∧Ext bk w w'):=by
 refine enter (n:=32) Try.func80 rfl rfl (ar rfl) ?_;intro a0 τ0 ha st0;have e0:aU a0 0=(.agg #[(aj k),(aR ch),(aD ng),rv,(aj mn),(aj mx),(aD lz),kv]):=ha 0 _ rfl;clear ha;refine wp_seq (rg [box _ _ 0 1 [(aj k),(aR ch),(aD ng),rv,(aj mn),(aj mx),(aD lz),kv],_] [0,0] st0 [] ⟨jh (v:=(.agg #[(aj k),(aR ch),(aD ng),rv,(aj mn),(aj mx),(aD lz),kv])) rfl rfl rfl rfl rfl (fun _ _ _ _ c=>(c.p e0)),ao fun c=>aw rfl rfl,au⟩ fun ac ag ae ab aa=> ?_);obtain ⟨b1x1,e1⟩:=gx ac 1;have e2:=aa.V 1;have r0:=aa.rb 0 e1 rfl;refine wp_seq (rg [_,_,_,_,_,_,_,_,_,_,_,_,_,_,_,_,_,_,_,_,_,_,_,_,_,_,_,_,_,_] [0,1,3,7,15,31,63,127,255,511,1023,2047,4095,8191,16383,32767,65535,131071,262143,524287,1048575,2097151,4194303,8388607,16777215,33554431,67108863,134217727,268435455,536870911] ab [jb r0] ⟨cy aC bu e1 r0.ptr,fk bP 0 0 1,ao fun c=>gy rfl (c.q 1) rfl,bm 2,ay 3 rfl fun c hpc=>cM rfl aC bK ((c.p e1).trans r0.ptr),ay 3 rfl fun c hpc=>aB rfl dt (c.M 4 hpc) ((c.B 0).cell (j:=2) rfl),ay 3 rfl fun c hpc=>dW rfl (c.M 5 hpc),bC 3 6,bm 7,ay 8 rfl fun c hpc=>cM rfl aC gj ((c.p e1).trans r0.ptr),ay 8 rfl fun c hpc=>aB rfl lA (c.M 9 hpc) ((c.B 0).cell (j:=3) rfl),ay 8 rfl fun c hpc=>dh rfl aH (c.M 10 hpc) hS.sl,ay 8 rfl fun c hpc=>cF rfl (c.M 11 hpc) rfl,bC 8 12,bm 13,ay 14 rfl fun c hpc=>cM rfl aC ax ((c.p e1).trans r0.ptr),ay 14 rfl fun c hpc=>aB rfl aF (c.M 15 hpc) ((c.B 0).cell (j:=4) rfl),ay 14 rfl fun c hpc=>cF rfl (c.M 16 hpc) rfl,bC 14 17,bm 18,ay 19 rfl fun c hpc=>cM rfl aC ax ((c.p e1).trans r0.ptr),ay 19 rfl fun c hpc=>aB rfl aF (c.M 20 hpc) ((c.B 0).cell (j:=5) rfl),ay 19 rfl fun c hpc=>cF rfl (c.M 21 hpc) rfl,bC 19 22,bm 23,ay 24 rfl fun c hpc=>cM rfl aC bK ((c.p e1).trans r0.ptr),ay 24 rfl fun c hpc=>aB rfl dt (c.M 25 hpc) ((c.B 0).cell (j:=6) rfl),ay 24 rfl fun c hpc=>dW rfl (c.M 26 hpc),bC 24 27,aI 28,au⟩ fun ac ag ae ab aa=> ?_);have e2:=aa.V 29;refine wp_ret ?_;refine rp ?_;refine cO (fn:=Try.f80) rfl ab.defers e2 ?_;exact ⟨rfl,ab.ext0⟩
end
section
open Go.RowKit
open Srt
theorem nM {s:ByteArray} (h:iH s (⟨#[]⟩:ByteArray)=false):(0:Int) < (s.size:Int):=by
  have hl:=ji s;rw [zv] at h;cases hb:bs s with
  | nil =>
    have:s.data.toList=[]:=hb;rw [this] at h;simp at h
  | cons b l => rw [hb] at hl; simp at hl; omega
theorem rI {s:ByteArray} {k:Nat} (h:(decide ((k:Int)+1=(s.size:Int)) || mc (bS s ((k:Int)+1)))=true):iT s (k+1)=((iT s k).1++ [s.extract (iT s k).2 (k+1)],k+1):=by
  rw [iT,lO,if_pos (by rw [show ((k+1:Nat):Int)=(k:Int)+1 by omega];exact h)]
theorem pM {s:ByteArray} {k:Nat} (h:(decide ((k:Int)+1=(s.size:Int)) || mc (bS s ((k:Int)+1)))=false):iT s (k+1)=iT s k:=by
  rw [iT,lO,if_neg (by rw [show ((k+1:Nat):Int)=(k:Int)+1 by omega,h];decide)]
theorem xy {s:ByteArray} {k:Nat} (h:(decide ((k:Int)+1=(s.size:Int)) || mc (bS s ((k:Int)+1)))=true):(iT s (k+1)).1=(iT s k).1++ [s.extract (iT s k).2 ((k:Int)+1).toNat]:=by
  rw [rI h];rfl
theorem vi {s:ByteArray} {k:Nat} (h:(decide ((k:Int)+1=(s.size:Int)) || mc (bS s ((k:Int)+1)))=false):(iT s (k+1)).1=(iT s k).1:=by rw [pM h]
theorem mj {s:ByteArray} {k:Nat} (h:(decide ((k:Int)+1=(s.size:Int)) || mc (bS s ((k:Int)+1)))=true):(iT s (k+1)).2=k+1:=by rw [rI h]
theorem kN {s:ByteArray} {k:Nat} (h:(decide ((k:Int)+1=(s.size:Int)) || mc (bS s ((k:Int)+1)))=false):(iT s (k+1)).2=(iT s k).2:=by rw [pM h]
set_option maxRecDepth 100000 in
theorem vj (b:Int) (w:World):Calls Try.prog 17 #[.int .u8 b] w (fun e w'=>e= .returned (aD (ql b))∧Ext bk w w'):=by
 refine enter (n:=9) Try.func17 rfl rfl (ar rfl) ?_;intro a0 τ0 ha st0;have e0:=nf ha;refine wp_seq (eM st0 [] ⟨ao fun c=>aw rfl rfl,au⟩ fun ac ag ae ab aa=> ?_);replace e0:=aa.k1 e0;have e2:=aa.V 0;refine wp_seq (Fn ab [] ⟨ak e0,ao fun c=>gZ rfl (c.q 0) rfl,bm 1,ay 2 rfl fun c hpc=>aM rfl (c.p e0),ay 2 rfl fun c hpc=>kA rfl (c.M 3 hpc) rfl,bC 2 4,aI 5,au⟩ fun ac ag ae ab aa=> ?_);have e2:=aa.V 6;refine wp_ret ?_;refine rp ?_;refine cO (fn:=Try.f17) rfl ab.defers e2 ?_;exact ⟨rfl,ab.ext0⟩
set_option maxRecDepth 100000 in
theorem Ar (b:Int) (w:World):Calls Try.prog 44 #[.int .u8 b] w (fun e w'=>e= .returned (aD (mc b))∧Ext bk w w'):=by
 refine enter (n:=9) Try.func44 rfl rfl (ar rfl) ?_;intro a0 τ0 ha st0;have e0:=nf ha;refine wp_seq (eM st0 [] ⟨ao fun c=>aw rfl rfl,au⟩ fun ac ag ae ab aa=> ?_);replace e0:=aa.k1 e0;have e2:=aa.V 0;refine wp_seq (Fn ab [] ⟨ak e0,ao fun c=>ci rfl (c.q 0) rfl,bm 1,bR 2 rfl fun c hpc=>aM rfl (c.p e0),bR 2 rfl fun c hpc=>jm rfl (c.M 3 hpc) rfl,eB 2 4,aI 5,au⟩ fun ac ag ae ab aa=> ?_);have e2:=aa.V 6;refine wp_ret ?_;refine rp ?_;refine cO (fn:=Try.f44) rfl ab.defers e2 ?_;exact ⟨rfl,ab.ext0⟩
set_option maxRecDepth 100000 in
theorem As (s:ByteArray) (a:Nat) (w:World) (hs:s.size≤1000000000) (ha:a≤1000000000):Calls Try.prog 18 #[(aR s),(aj (a:Int))] w (fun e w'=>e= .returned (aj (endF s a:Nat))∧Ext bk w w'):=by
 refine enter (n:=20) Try.func18 rfl rfl (ar rfl) ?_;intro a0 τ0 ha st0;obtain ⟨e0,e1⟩:=qp ha;refine wp_seq (eM st0 [] ⟨ao fun c=>aw rfl rfl,au⟩ fun ac ag ae ab aa=> ?_);obtain ⟨e0,e1⟩:=aa.k2 e0 e1;have e4:=aa.V 0;refine wp_seq (fa ab [] ⟨ak e1,ao fun c=>cp rfl (c.q 0) rfl (by omega),aI 1,au⟩ fun ac ag ae ab aa=> ?_);obtain ⟨e0,e4⟩:=aa.k2 e0 e4;have e1:=aa.V 2;refine wp_seq ?_;refine wp_block ?_;refine wp_loop (fun a_ w_=>∃(m:Nat) (τ:Nat→aX),(m+tw s m=a+1+tw s (a+1))∧
      (m≤1000000000+1)∧
      St (Nw w) w 20 a_ w_ τ∧
      aU a_ 1=(aj (m:Int))∧
      aU a_ 0=(aR s)∧
      aU a_ 4=(aj 0)) (fun a_ _=>s.size - (intOf (aU a_ 1)).toNat) ?_ ?_
 · refine ⟨a+1,ae,?_,?_,ab,(e1.trans (aZ (by omega))),e0,e4⟩
   · rfl
   · omega
 intro a3 w3 hI;obtain ⟨m,τ3,q0,q1,st3,e1,e0,e4⟩:=hI;have m1:=e1;refine wp_seq ?_;refine wp_seq ?_;refine vQ [0,0,2,7,15,31,31,127,255,511] st3 [] ⟨ak e1,ak e0,ao fun c=>jM rfl bH (c.q 1),ao fun c=>ci rfl (c.q 0) (c.q 2),bm 3,ay 4 rfl fun c hpc=>aM rfl (c.p e0),ay 4 rfl fun c hpc=>aM rfl (c.p e1),ay 4 rfl fun c hpc=>iO rfl bH (c.M 5 hpc) (c.M 6 hpc) (by have hq0:=bt hpc;omega) (by have hq0:=bt hpc;omega),fK 4 true rfl fun c hpc=>⟨_,_,(bI rfl rfl Try.call17 (c.M 7 hpc)),vj (bS s (m:Int)) _⟩,bC 4 8,au⟩ fun ac ag ae ab aa=> ?_;obtain ⟨e0,e1,e4⟩:=aa.k3 e0 e1 e4;have e16:=aa.V 9;refine wp_cond_split e16 (fun hc1=> ?_) (fun hc1=> ?_)
 · try simp only [am,ah] at hc1
   refine wp_skip ?_;refine wp_block ?_;refine fa ab [] ⟨ak e1,ao fun c=>cp rfl (c.q 0) rfl (by omega),aI 1,au⟩ fun ac ag ae ab aa=> ?_;obtain ⟨e0,e4,e16⟩:=aa.k3 e0 e4 e16;have e1:=aa.V 2;show _;refine ⟨⟨m+1,ae,?_,?_,ab,(e1.trans (aZ (by omega))),e0,e4⟩,?_⟩
   · obtain ⟨c1_,c2_⟩:=(by assumption:(m:Int) < (s.size:Int)∧ql (bS s (m:Int))=true);rw [←q0,oT (by omega) c2_]
   · omega
   · simp only [m1,e1,intOf];omega
 try simp only [aG,ai,aP] at hc1
 refine wp_exit ?_;repeat (with_reducible refine bU ?_)
 refine bY ?_;refine wp_seq (eL ab [] ⟨ak e1,aI 0,au⟩ fun ac ag ae ab aa=> ?_);have e4:=aa.V 1;refine wp_ret ?_;refine rp ?_;refine cO (fn:=Try.f18) rfl ab.defers e4 ?_;have h_:(s.size:Int)≤(m:Int)∨ql (bS s (m:Int))=false:=by assumption
 have h2_:=tL (s:=s) (k:=m) (h_.elim (fun h=> .inl (by omega)) .inr);exact ⟨congrArg _ (aZ (by unfold endF;omega)),ab.ext0⟩
set_option maxRecDepth 100000 in
theorem rJ (s:ByteArray) (w:World) (hs:s.size≤1000000000):Calls Try.prog 5 #[(aR s)] w (fun e w'=>e= .returned (aD (ei s))∧Ext bk w w'):=by
 refine enter (n:=18) Try.func5 rfl rfl (ar rfl) ?_;intro a0 τ0 ha st0;have e0:=nf ha;refine wp_seq (eM st0 [] ⟨ao fun c=>aw rfl rfl,au⟩ fun ac ag ae ab aa=> ?_);replace e0:=aa.k1 e0;have e2:=aa.V 0;refine wp_seq ?_;refine rg [_,_,_,_,_,_,_,_,_,_,_,_,_,_,_,_] [0,1,3,7,15,31,63,127,255,511,1023,511,2559,8191,16383,32767] ab [] ⟨ak e0,ao fun c=>lL rfl (c.q 0) rfl,bm 1,ay 2 rfl fun c hpc=>aM rfl (c.p e0),ay 2 rfl fun c hpc=>iO rfl bH (c.M 3 hpc) rfl (by have hq0:=hpc;(try simp only [aA,av] at hq0);first | omega | exact nM (by assumption)) (by have hq0:=hpc;(try simp only [aA,av] at hq0);first | omega | exact nM (by assumption)),fK 2 true rfl fun c hpc=>⟨_,_,(bI rfl rfl Try.call17 (c.M 4 hpc)),vj (bS s 0) _⟩,ay 2 rfl fun c hpc=>dW rfl (c.M 5 hpc),bC 2 6,bm 7,ay 8 rfl fun c hpc=>aM rfl (c.p e0),fK 8 true rfl fun c hpc=>⟨_,_,(bT rfl rfl Try.call18 (c.M 9 hpc) rfl),As s 0 _ (by have hq0:=hpc;(try simp only [am,aG,aA,av] at hq0);first | omega | exact nM (by assumption)) (by have hq0:=hpc;(try simp only [am,aG,aA,av] at hq0);first | omega | exact nM (by assumption))⟩,ay 8 rfl fun c hpc=>aM rfl (c.p e0),ay 8 rfl fun c hpc=>jM rfl bH (c.M 11 hpc),ay 8 rfl fun c hpc=>cF rfl (c.M 10 hpc) (c.M 12 hpc),bC 8 13,aI 14,au⟩ fun ac ag ae ab aa=> ?_;have e2:=aa.V 15;refine wp_ret ?_;refine rp ?_;refine cO (fn:=Try.f5) rfl ab.defers e2 ?_;exact ⟨congrArg _ (congrArg _ (yq s)),ab.ext0⟩
set_option maxRecDepth 100000 in
theorem xz (s:ByteArray) (w:World) (hs:s.size≤1000000000):Calls Try.prog 32 #[(aR s)] w (fun e w'=>∃v',e= .returned v'∧Ext bk w w'∧oI gN 9 w w' v' (bW s)):=by
 refine enter (n:=31) Try.func32 rfl rfl (ar rfl) ?_;intro a0 τ0 ha st0;have e0:=nf ha;refine wp_seq (eM st0 [] ⟨ao fun c=>aw rfl rfl,au⟩ fun ac ag ae ab aa=> ?_);replace e0:=aa.k1 e0;have e2:=aa.V 0;refine wp_seq (eM ab [] ⟨ao fun c=>aw rfl rfl,au⟩ fun ac ag ae ab aa=> ?_);obtain ⟨e0,e2⟩:=aa.k2 e0 e2;have e3:=aa.V 0;refine wp_seq (eM ab [] ⟨ao fun c=>aw rfl rfl,au⟩ fun ac ag ae ab aa=> ?_);obtain ⟨e0,e2,e3⟩:=aa.k3 e0 e2 e3;have e4:=aa.V 0;refine wp_seq ?_;refine wp_seq (eM ab [] ⟨ao fun c=>aw rfl rfl,au⟩ fun ac ag ae ab aa=> ?_);obtain ⟨e0,e2,e3,e4⟩:=aa.k4 e0 e2 e3 e4;have e5:=aa.V 0;refine wp_block ?_;refine wp_loop (fun a_ w_=>∃(k:Nat) (u:Value) (τ:Nat→aX),(k≤s.size)∧
      St (Nw w) w 31 a_ w_ τ∧
      aU a_ 3=u∧
      aU a_ 4=(aj ((iT s k).2:Int))∧
      aU a_ 5=(aj ((k:Int)+1))∧
      aU a_ 0=(aR s)∧
      aU a_ 2=(.slice none 0 0)∧
      dg gN 9 ((iT s k).1) (τ 0) u w_) (fun a_ _=>s.size+1 - (intOf (aU a_ 5)).toNat) ?_ ?_
 · refine ⟨0,(.slice none 0 0),ae,?_,ab,e3,(e4.trans (aZ (by first | omega | rfl | (rw [kN (by assumption)]) | (rw [mj (by assumption)];omega)))),(e5.trans (aZ (by first | omega | rfl | (rw [kN (by assumption)]) | (rw [mj (by assumption)];omega)))),e0,e2,?_⟩
   · omega
   · exact dg.nil _ _ _ _
 intro a5 w5 hI;obtain ⟨k,u,τ5,q0,st5,e3,e4,e5,e0,e2,r0⟩:=hI;have hfr:=uP s k;have hln:=oU s k;have m5:=e5;refine wp_seq ?_;refine wp_seq (lc [0,0,2,7] st5 [jo r0] ⟨ak e5,ak e0,ao fun c=>jM rfl bH (c.q 1),ao fun c=>kA rfl (c.q 0) (c.q 2),au⟩ fun ac ag ae ab aa=> ?_);obtain ⟨e0,e2,e3,e4,e5⟩:=aa.k5 e0 e2 e3 e4 e5;have e9:=aa.V 3;replace r0:=aa.O 0;refine wp_cond_split e9 (fun hc1=> ?_) (fun hc1=> ?_)
 · try simp only [ah] at hc1
   refine wp_skip ?_;refine wp_seq ?_;refine wp_block ?_;refine wp_seq ?_;refine vQ [0,0,2,7,15,31,31,127,255,511] ab [jo r0] ⟨ak e5,ak e0,ao fun c=>jM rfl bH (c.q 1),ao fun c=>cF rfl (c.q 0) (c.q 2),bm 3,bR 4 rfl fun c hpc=>aM rfl (c.p e0),bR 4 rfl fun c hpc=>aM rfl (c.p e5),bR 4 rfl fun c hpc=>iO rfl bH (c.M 5 hpc) (c.M 6 hpc) (by have hq0:=bn hpc;omega) (by have hq0:=bn hpc;omega),fK 4 false rfl fun c hpc=>⟨_,_,(bI rfl rfl Try.call44 (c.M 7 hpc)),Ar (bS s ((k:Int)+1)) _⟩,eB 4 8,au⟩ fun ac ag ae ab aa=> ?_;obtain ⟨e0,e2,e3,e4,e5,e9⟩:=aa.k6 e0 e2 e3 e4 e5 e9;have e21:=aa.V 9;replace r0:=aa.O 0;refine wp_cond_split e21 (fun hc2=> ?_) (fun hc2=> ?_)
   · have hd2:=hc2;try simp only [be,ah] at hd2
     refine wp_seq ?_;refine rg [_,_,_,_,_,own gN 9 _ 1 27 ([s.extract ((iT s k).2:Int).toNat ((k:Int)+1).toNat]),own _ _ _ 0 28 _,own _ _ _ 0 3 _] [0,0,0,0,14,30,63,127] ab [jo r0] ⟨ak e3,ak e0,ak e4,ak e5,ao fun c=>tD (s:=s) (p:=((iT s k).2:Int)) (q:=(k:Int)+1) rfl bH (c.q 1) (c.q 2) (c.q 3) (by omega) (by omega) (by omega),cQ (cells:=#[(aR (s.extract ((iT s k).2:Int).toNat ((k:Int)+1).toNat))]) rfl rfl rfl rfl bq bu Try.zeroValue9 rfl (by decide) (by decide) (fun _ _ _ _ c=>gb (c.n 4 rfl) (by kernel_rfl)) rfl,eO (t0:=3) rfl rfl rfl rfl bq (i:=Try.t9) rfl rfl rfl rfl (by simp only [maxLen];(try simp);omega) (by show _ * 16≤_;(try simp);omega) (fun _ _ _ _ c=>⟨c.ip 0 rfl e3,c.sm (c.n 0 rfl) e3,⟨_,rfl,(c.ro 5 rfl).1.sl⟩⟩),dO (t0:=28) rfl rfl rfl rfl rfl (.inr rfl) (fun _ _ _ _ c=>⟨c.ro 6 rfl,rfl⟩),au⟩ fun ac ag ae ab aa=> ?_;obtain ⟨b8x27,e27⟩:=gx ac 27;obtain ⟨b8x3,e3⟩:=gx ac 3;obtain ⟨e0,e2,e4,e5,e9,e21⟩:=aa.k6 e0 e2 e4 e5 e9 e21;replace r0:=aa.ro 7 e3 rfl;have r1:=aa.ro 5 e27 rfl;refine eL ab [jo r0,jo r1] ⟨ak e5,aI 0,au⟩ fun ac ag ae ab aa=> ?_;obtain ⟨e0,e2,e3,e5,e9,e21⟩:=aa.k6 e0 e2 e3 e5 e9 e21;have e4:=aa.V 1;replace r0:=aa.O 0;replace r1:=aa.O 1;show _;refine fa ab [jo r0,jo r1] ⟨ak e5,ao fun c=>cp rfl (c.q 0) rfl (by omega),aI 1,au⟩ fun ac ag ae ab aa=> ?_;obtain ⟨e0,e2,e3,e4,e9,e21⟩:=aa.k6 e0 e2 e3 e4 e9 e21;have e5:=aa.V 2;replace r0:=aa.O 0;replace r1:=aa.O 1;refine ⟨⟨k+1,b8x3,ae,?_,ab,e3,(e4.trans (aZ (by first | omega | rfl | (rw [kN (by assumption)]) | (rw [mj (by assumption)];omega)))),(e5.trans (aZ (by first | omega | rfl | (rw [kN (by assumption)]) | (rw [mj (by assumption)];omega)))),e0,e2,?_⟩,?_⟩
     · omega
     · exact r0.cast (by first | exact xy (by assumption) | exact vi (by assumption))
     · simp only [m5,e5,intOf];omega
   have hd2:=hc2;try simp only [aS,ai] at hd2
   refine wp_skip ?_;show _;refine fa ab [jo r0] ⟨ak e5,ao fun c=>cp rfl (c.q 0) rfl (by omega),aI 1,au⟩ fun ac ag ae ab aa=> ?_;obtain ⟨e0,e2,e3,e4,e9,e21⟩:=aa.k6 e0 e2 e3 e4 e9 e21;have e5:=aa.V 2;replace r0:=aa.O 0;refine ⟨⟨k+1,u,ae,?_,ab,e3,(e4.trans (aZ (by first | omega | rfl | (rw [kN (by assumption)]) | (rw [mj (by assumption)];omega)))),(e5.trans (aZ (by first | omega | rfl | (rw [kN (by assumption)]) | (rw [mj (by assumption)];omega)))),e0,e2,?_⟩,?_⟩
   · omega
   · exact r0.cast (by first | exact xy (by assumption) | exact vi (by assumption))
   · simp only [m5,e5,intOf];omega
 try simp only [ai,ep] at hc1
 refine wp_exit ?_;repeat (with_reducible refine bU ?_)
 refine bY ?_;refine wp_seq (eL ab [jo r0] ⟨ak e3,aI 0,au⟩ fun ac ag ae ab aa=> ?_);have e2:=aa.V 1;replace r0:=aa.O 0;refine wp_ret ?_;refine rp ?_;refine cO (fn:=Try.f32) rfl ab.defers e2 ?_;replace r0:=r0.cast (show bW s=_ from by rw [bW,show s.size=k by omega]);exact ⟨_,rfl,ab.ext0,r0.1,fun g_ h_=>(ab.bnd _ g_ (r0.2 g_ h_)).1⟩
set_option maxRecDepth 100000 in
theorem nu (s:ByteArray) (w:World) (hs:s.size≤1000000000):Calls Try.prog 78 #[(aR s)] w (fun e w'=>e= .returned (aD (ei s))∧Ext bk w w'):=by
 refine enter (n:=17) Try.func78 rfl rfl (ar rfl) ?_;intro a0 τ0 ha st0;have e0:=nf ha;refine wp_seq (eM st0 [] ⟨ao fun c=>aw rfl rfl,au⟩ fun ac ag ae ab aa=> ?_);replace e0:=aa.k1 e0;have e2:=aa.V 0;refine wp_seq ?_;refine rg [_,_,_,_,_,_,_,_,_,_,gown (((decide (0 < (s.size:Int)))&&(mc (bS s 0)))=true) gN 9 (Nw w) 0 13 (bW s),_,_,_,_] [0,1,3,7,15,31,63,127,255,511,1023,2047,4095,8191,16383] ab [] ⟨ak e0,ao fun c=>jM rfl bH (c.q 0),ao fun c=>jm rfl (c.q 1) rfl,bm 2,ay 3 rfl fun c hpc=>aM rfl (c.p e0),ay 3 rfl fun c hpc=>iO rfl bH (c.M 4 hpc) rfl (by have hq0:=bt hpc;omega) (by have hq0:=bt hpc;omega),fK 3 true rfl fun c hpc=>⟨_,_,(bI rfl rfl Try.call44 (c.M 5 hpc)),Ar (bS s 0) _⟩,bC 3 6,bm 7,ay 8 rfl fun c hpc=>aM rfl (c.p e0),tB (gi:=8) (tg:=11) rfl rfl rfl rfl rfl rfl Iff.rfl (fun hpc=>qI rfl rfl rfl (fun _ a_ _ _ c=>⟨_,_,(bI rfl rfl Try.call32 (c.M 9 hpc)),xz s _ (by have hq0:=hpc;(try simp only [am,ah] at hq0);omega)⟩)),ay 8 rfl fun c hpc=>dh rfl bq rfl (c.rg 10 rfl hpc).isSl,ay 8 rfl fun c hpc=>cF rfl (c.M 11 hpc) rfl,bC 8 12,aI 13,au⟩ fun ac ag ae ab aa=> ?_;have e2:=aa.V 14;refine wp_ret ?_;refine rp ?_;refine cO (fn:=Try.f78) rfl ab.defers e2 ?_;exact ⟨congrArg _ (congrArg _ (tM s)),ab.ext0⟩
end
section
open Srt
def qo (s:ByteArray) (k:Int):Bool:=decide (k=(s.size:Int)) || mc (bS s k)
def sV (s:ByteArray):Nat→List Int
  | 0 => [0]
  | k + 1 => if qo s ((k : Int) + 1) = true then sV s k ++ [((k : Nat) : Int) + 1] else sV s k
def bc (s:ByteArray):List Int:=sV s s.size
theorem tX {s:ByteArray} {k:Nat} (h:qo s ((k:Int)+1)=true):sV s (k+1)=sV s k++ [((k:Nat):Int)+1]:=by rw [sV,if_pos h]
theorem rK {s:ByteArray} {k:Nat} (h:qo s ((k:Int)+1)=false):sV s (k+1)=sV s k:=by rw [sV,if_neg (by rw [h];decide)]
theorem At {s:ByteArray} {k:Nat} (h:qo s ((k:Int)+1)=true):iT s (k+1)=((iT s k).1++ [s.extract (iT s k).2 (k+1)],k+1):=rI h
theorem Au {s:ByteArray} {k:Nat} (h:qo s ((k:Int)+1)=false):iT s (k+1)=iT s k:=pM h
theorem qx (s:ByteArray) (k:Nat):(sV s k).length=(iT s k).1.length+1:=by
  induction k with
  | zero => rfl
  | succ k ih =>
    cases h:qo s ((k:Int)+1) with
    | true => rw [tX h, At h]; simp [ih]
    | false => rw [rK h, Au h, ih]
theorem wr (s:ByteArray):(bc s).length=(bW s).length+1:=qx s s.size
theorem ls {s:ByteArray} {p:Nat} (h:p < s.size):p < endF s p∧endF s p≤s.size:=by
  have:=Fc s (p+1) (by omega);unfold endF;omega
theorem Av {s:ByteArray} {p m:Nat} (h:p < s.size) (h1:p < m) (h2:m < endF s p):qo s (m:Int)=false:=by
  have h3:∀d,p+1+d < endF s p→(p+1+d < s.size∧ql (bS s ((p+1+d:Nat):Int))=true)∧(p+1+d)+1+tw s (p+1+d+1)=endF s p:=by
    intro d;induction d with
    | zero =>
      intro hd;have hs:p+1 < s.size:=by have:=(ls h).2;omega
      have hb:ql (bS s ((p+1:Nat):Int))=true:=by
        cases hb:ql (bS s ((p+1:Nat):Int)) with
        | true => rfl
        | false =>
          have:=tL (s:=s) (k:=p+1) (.inr hb);unfold endF at hd;omega
      refine ⟨⟨hs,hb⟩,?_⟩;have:=oT hs hb;exact this.symm
    | succ d ih =>
      intro hd;obtain ⟨⟨i1,i2⟩,i3⟩:=ih (by omega);have hs:p+1+(d+1) < s.size:=by have:=(ls h).2;omega
      have hb:ql (bS s ((p+1+(d+1):Nat):Int))=true:=by
        cases hb:ql (bS s ((p+1+(d+1):Nat):Int)) with
        | true => rfl
        | false =>
          have:=tL (s:=s) (k:=p+1+(d+1)) (.inr hb);have e:p+1+d+1=p+1+(d+1):=by omega
          rw [e] at i3;omega
      refine ⟨⟨hs,hb⟩,?_⟩;have:=oT hs hb;have e:p+1+d+1=p+1+(d+1):=by omega
      rw [e] at i3;omega
  obtain ⟨d,rfl⟩:∃d,m=p+1+d:=⟨m - (p+1),by omega⟩;obtain ⟨⟨h4,h5⟩,_⟩:=h3 d h2;unfold qo;rw [mK,h5];simp;omega
theorem Cv {s:ByteArray} {p:Nat} (h:p < s.size):qo s (endF s p:Int)=true:=by
  unfold qo;by_cases he:endF s p=s.size
  · rw [he];simp
  · have hlt:endF s p < s.size:=by have:=(ls h).2;omega
    have hb:ql (bS s (endF s p:Int))=false:=by
      cases hb:ql (bS s (endF s p:Int)) with
      | false => rfl
      | true =>
        have h1:=oT hlt hb;have h3:∀d,p+1+d≤endF s p→p+1+d+tw s (p+1+d)=endF s p:=by
          intro d;induction d with
          | zero => intro _; rfl
          | succ d ih =>
            intro hd;have i:=ih (by omega);have hx:=Av h (m:=p+1+d) (by omega) (by omega);have hy:ql (bS s ((p+1+d:Nat):Int))=true:=by
              unfold qo at hx;rw [aS,mK] at hx;simpa using hx.2
            have:=oT (s:=s) (k:=p+1+d) (by have:=(ls h).2;omega) hy;have e:p+1+d+1=p+1+(d+1):=by omega
            rw [e] at this;omega
        have:=h3 (endF s p - (p+1)) (by have:=(ls h).1;omega);have e:p+1+(endF s p - (p+1))=endF s p:=by have:=(ls h).1;omega
        rw [e] at this
        omega
    rw [mK,hb];simp
theorem vk {s:ByteArray} {p:Nat} (h:p < s.size) (hs:(iT s p).2=p):iT s (endF s p)=((iT s p).1++ [s.extract p (endF s p)],endF s p)∧sV s (endF s p)=sV s p++ [(endF s p:Int)]:=by
  have h1:∀d,p+d < endF s p→iT s (p+d)=iT s p∧sV s (p+d)=sV s p:=by
    intro d;induction d with
    | zero => intro _; exact ⟨rfl, rfl⟩
    | succ d ih =>
      intro hd;obtain ⟨i1,i2⟩:=ih (by omega);have hb:=Av h (m:=p+d+1) (by omega) (by omega);have e:((p+d+1:Nat):Int)=((p+d:Nat):Int)+1:=by omega
      rw [e] at hb;exact ⟨by rw [←Nat.add_assoc,Au hb,i1],by rw [←Nat.add_assoc,rK hb,i2]⟩
  obtain ⟨k,hk⟩:∃k,endF s p=k+1:=⟨endF s p - 1,by have:=(ls h).1;omega⟩;obtain ⟨i1,i2⟩:=h1 (k - p) (by have:=(ls h).1;omega);have e:p+(k - p)=k:=by have:=(ls h).1;omega
  rw [e] at i1 i2;have hb:=Cv h;rw [hk] at hb ⊢;have e2:((k+1:Nat):Int)=(k:Int)+1:=by omega
  rw [e2] at hb;rw [At hb,tX hb,i1,i2,hs,e2];exact ⟨rfl,rfl⟩
theorem vl (s:ByteArray) (k:Nat):(sV s k).Pairwise (· < ·)∧(∀x ∈ sV s k,0≤x∧x≤(k:Int))∧(sV s k)[0]? =some 0:=by
  induction k with
  | zero => exact ⟨by simp [sV], fun x hx => by simp [sV] at hx; omega, rfl⟩
  | succ k ih =>
    obtain ⟨i1,i2,i3⟩:=ih;cases h:qo s ((k:Int)+1) with
    | true =>
      rw [tX h];refine ⟨?_,fun x hx=> ?_,?_⟩
      · rw [List.pairwise_append];refine ⟨i1,by simp,fun x hx y hy=> ?_⟩;simp at hy;have:=(i2 x hx).2;omega
      · rcases List.mem_append.1 hx with hx | hx
        · have:=i2 x hx;omega
        · simp at hx;omega
      · rw [jc (List.getElem?_eq_some_iff.1 i3).1];exact i3
    | false =>
      rw [rK h];exact ⟨i1,fun x hx=>by have:=i2 x hx;omega,i3⟩
theorem po {xs:List Int} (h:xs.Pairwise (· < ·)) {i j:Nat} (hij:i < j) (hj:j < xs.length):nth xs (i:Int) < nth xs (j:Int):=by
  rw [ny,ny];have h1:=List.pairwise_iff_getElem.1 h i j (by omega) hj hij;simp only [List.getD,bw hj,bw (show i < xs.length by omega),Option.getD_some];exact h1
def plcF (xs:List Int) (x:Int):Nat:=(xs.takeWhile fun y=>decide (y < x)).length
theorem rL {xs:List Int} {x:Int} (h:xs.Pairwise (· < ·)) {i:Nat} (hi:i≤xs.length) (h1:∀j:Nat,j < i→nth xs (j:Int) < x) (h2:i < xs.length→x≤nth xs (i:Int)):plcF xs x=i:=by
  induction xs generalizing i with
  | nil => simp at hi; subst hi; rfl
  | cons y ys ih =>
    have hp:=List.pairwise_cons.1 h;cases i with
    | zero =>
      have:=h2 (by simp);have e:nth (y::ys) ((0:Nat):Int)=y:=rfl;rw [e] at this
      unfold plcF;rw [ga,if_neg (by simp;omega)];rfl
    | succ i =>
      have h0:=h1 0 (by omega);have e:nth (y::ys) ((0:Nat):Int)=y:=rfl;rw [e] at h0;have hs:∀j:Nat,nth (y::ys) ((j+1:Nat):Int)=nth ys (j:Int):=fun j=>by rw [ny,ny];rfl
      have:=ih hp.2 (i:=i) (by simp at hi;omega) (fun j hj=>by rw [←hs j];exact h1 (j+1) (by omega)) (fun hi2=>by rw [←hs i];exact h2 (by simp;omega));unfold plcF at this ⊢
      rw [ga,if_pos (by simpa using h0),bD,this]
def KQ (n k:Nat) (Q:Nat × Ps→Prop) (K:eJ):Prop:=∀(to:Nat) (ps:Ps) (φ:Fl),k≤to→to≤n→∀y,(K to ps φ).1=some y→Q y
theorem KQ.up {n k k':Nat} {Q:Nat × Ps→Prop} {K:eJ} (h:KQ n k Q K) (hk:k≤k'):KQ n k' Q K:=fun to ps φ h1 h2=>h to ps φ (by omega) h2
def RQ (n:Nat) (r:iU):Prop:=∀(k:Nat) (K:eJ) (ps:Ps) (φ:Fl) (Q:Nat × Ps→Prop),k≤n→KQ n k Q K→∀y,(r k K ps φ).1=some y→Q y
theorem Aw {n:Nat}:∀(l:List iU),(∀r ∈ l,RQ n r)→RQ n (iR l)
  | [], _ => fun k K ps φ Q hk hK y hy => hK k ps φ (bd _) hk y hy
  | r :: l, h => fun k K ps φ Q hk hK y hy => h r (by simp) k (fun to ps φ => iR l to K ps φ) ps φ Q hk (fun to ps φ h1 h2 y hy => Aw l (fun x hx => h x (by simp [hx])) to K ps φ Q h2 (hK.up h1) y hy) y hy
theorem Ax {n:Nat}:∀(l:List iU),(∀r ∈ l,RQ n r)→RQ n (ns l)
  | [], _ => fun k K ps φ Q hk hK y hy => by cases hy
  | r :: l, h => fun k K ps φ Q hk hK y hy => by
    rw [ns] at hy;split at hy
    · exact h r (by simp) k K ps φ Q hk hK y hy
    · exact Ax l (fun x hx=>h x (by simp [hx])) k K ps _ Q hk hK y hy
theorem vm {n:Nat} {r:iU} (hr:RQ n r) {lo m:Nat} {mn mx:Int} {lz:Bool}:∀(g times:Nat),RQ n (eh r lo m mn mx lz g times)
  | 0, times => fun k K ps φ Q hk hK y hy => by cases hy
  | g + 1, times => fun k K ps φ Q hk hK y hy => by
    have h1:∀y,(fG mn lz times k K ps φ).1=some y→Q y:=fun y hy=>by
      unfold fG at hy;split at hy
      · exact hK k ps φ (bd _) hk y hy
      · cases hy
    have h2:∀φ y,(jd r lo m mn mx lz g times k K ps φ).1=some y→Q y:=fun φ y hy=>hr k (eP r lo m mn mx lz g times k K) _ φ Q hk (fun to ps φ a1 a2 y hy=>by
      unfold eP at hy;split at hy
      · exact vm hr g (times+1) to K ps φ Q a2 (hK.up a1) y hy
      · cases hy) y hy
    have h3:∀φ y,(hH mn lz times k K ps φ).1=some y→Q y:=fun φ y hy=>by
      unfold hH at hy;split at hy
      · exact hK k ps φ (bd _) hk y hy
      · cases hy
    rw [mf] at hy;split at hy
    · exact h1 y hy
    · split at hy
      · split at hy
        · exact h2 _ y hy
        · exact h3 _ y hy
      · exact h3 _ y hy
theorem tY {n:Nat} {l:List iU} (h:∀r ∈ l,RQ n r):RQ n (sL l):=by
  cases l with
  | nil => exact fun k K ps φ Q hk hK y hy => by cases hy
  | cons r l => exact h r (by simp)
theorem Cw {E:Env} {t:Tr} {lo m:Nat} {l:List iU} (h:∀r ∈ l,RQ E.cs.length r):RQ E.cs.length (je E t lo m l):=fun k K ps φ Q hk hK y hy=>by
  unfold je at hy;split at hy
  · cases hy
  · split at hy
    · exact Aw l h k K ps φ Q hk hK y hy
    · split at hy
      · exact Ax l h k K ps φ Q hk hK y hy
      · split at hy
        · exact vm (tY h) _ _ k K ps φ Q hk hK y hy
        · split at hy
          · cases hy
          · unfold ll at hy;split at hy
            · exact tY h k _ ps _ Q hk (fun to ps φ a1 a2 y hy=>hK to _ φ a1 a2 y hy) y hy
            · split at hy
              · exact tY h k K ps _ Q hk hK y hy
              · split at hy
                · split at hy
                  · rename_i hc;simp only [am,ah] at hc;exact hK (k+1) ps _ (by omega) (by omega) y hy
                  · cases hy
                · split at hy
                  · exact hK k ps _ (bd _) hk y hy
                  · cases hy
theorem jY (E:Env) (p:Pt):RQ E.cs.length (bi E p):=by
  induction p using Pt.ind with
  | h p ih =>
    rw [kh];exact Cw fun r hr=>by
      obtain ⟨q,hq,rfl⟩:=List.mem_map.1 hr;exact ih q hq
end
section
open Go.RowKit
open Srt
set_option maxRecDepth 100000 in
theorem Dz (r:ByteArray × ByteArray) (w:World) (h1:r.1.size≤1000000000) (h2:r.2.size≤1000000000):Calls Try.prog 24 #[(.agg #[(aR r.1),(aR r.2)])] w (fun e w'=>e= .returned (aD (dJ r))∧Ext bk w w'):=by
 refine enter (n:=18) Try.func24 rfl rfl (ar rfl) ?_;intro a0 τ0 ha st0;have e0:aU a0 0=(.agg #[(aR r.1),(aR r.2)]):=ha 0 _ rfl;clear ha;refine wp_seq (rg [box _ _ 0 1 [(aR r.1),(aR r.2)],_] [0,0] st0 [] ⟨jh (v:=(.agg #[(aR r.1),(aR r.2)])) rfl rfl rfl rfl rfl (fun _ _ _ _ c=>(c.p e0)),ao fun c=>aw rfl rfl,au⟩ fun ac ag ae ab aa=> ?_);obtain ⟨b1x1,e1⟩:=gx ac 1;have e2:=aa.V 1;have r0:=aa.rb 0 e1 rfl;refine wp_seq ?_;refine rg [_,_,_,_,_,_,_,_,_,_,_,_,_,_,_,_] [0,1,3,7,15,31,63,127,255,511,1023,511,2559,8191,16383,32767] ab [jb r0] ⟨cy bE bu e1 r0.ptr,fk bP 0 0 0,ey fun c=>⟨_,_,(bI rfl rfl Try.call5 (c.q 1)),rJ r.1 _ (by omega)⟩,bm 2,ay 3 rfl fun c hpc=>cM rfl bE bu ((c.p e1).trans r0.ptr),ay 3 rfl fun c hpc=>aB rfl bP (c.M 4 hpc) ((c.B 0).cell (j:=1) rfl),fK 3 true rfl fun c hpc=>⟨_,_,(bI rfl rfl Try.call5 (c.M 5 hpc)),rJ r.2 _ (by have hq0:=hpc;omega)⟩,bC 3 6,bm 7,ay 8 rfl fun c hpc=>cM rfl bE bu ((c.p e1).trans r0.ptr),ay 8 rfl fun c hpc=>aB rfl bP (c.M 9 hpc) ((c.B 0).cell (j:=0) rfl),ay 8 rfl fun c hpc=>cM rfl bE bu ((c.p e1).trans r0.ptr),ay 8 rfl fun c hpc=>aB rfl bP (c.M 11 hpc) ((c.B 0).cell (j:=1) rfl),ay 8 rfl fun c hpc=>pw rfl (c.M 10 hpc) (c.M 12 hpc),bC 8 13,aI 14,au⟩ fun ac ag ae ab aa=> ?_;have e2:=aa.V 15;refine wp_ret ?_;refine rp ?_;refine cO (fn:=Try.f24) rfl ab.defers e2 ?_;exact ⟨rfl,ab.ext0⟩
set_option maxRecDepth 100000 in
theorem Eh (v:Value) (xs:List (ByteArray × ByteArray)) (w:World) (hS:SlT dQ w v xs) (hz:oZ xs) (hbig:xs.length≤1000000000):Calls Try.prog 81 #[v] w (fun e w'=>e= .returned (aD (mM xs))∧Ext bk w w'):=by
 refine enter (n:=31) Try.func81 rfl rfl (ar rfl) ?_;intro a0 τ0 ha st0;have e0:=nf ha;have hle:=hS.le;refine wp_seq (eM st0 [] ⟨ao fun c=>aw rfl rfl,au⟩ fun ac ag ae ab aa=> ?_);replace e0:=aa.k1 e0;have e2:=aa.V 0;refine wp_seq ?_;refine wp_seq (nX [0,1,0] ab [] ⟨ak e0,ao fun c=>dh rfl aH (c.q 0) hS.sl,ao fun c=>aM rfl rfl,au⟩ fun ac ag ae ab aa=> ?_);obtain ⟨e0,e2⟩:=aa.k2 e0 e2;have e5:=aa.V 0;have e6:=aa.V 1;have e7:=aa.V 2;refine wp_block ?_;refine wp_loop (fun a_ w_=>∃(k:Nat) (τ:Nat→aX),(k≤xs.length)∧
      (∀i < k,rm xs ((i:Nat):Int)=false)∧
      St (Nw w) w 31 a_ w_ τ∧
      aU a_ 7=(aj (k:Int))∧
      aU a_ 0=v∧
      aU a_ 5=v∧
      aU a_ 6=(aj (xs.length:Int))) (fun a_ _=>xs.length - (intOf (aU a_ 7)).toNat) ?_ ?_
 · refine ⟨0,ae,?_,?_,ab,(e7.trans (aZ (by omega))),e0,e5,e6⟩
   · omega
   · intro i hi;omega
 intro a3 w3 hI;obtain ⟨k,τ3,q0,q1,st3,e7,e0,e5,e6⟩:=hI;have hzk:=rl hz (k:=k);have m7:=e7;refine wp_seq (eM st3 [] ⟨ao fun c=>ci rfl (c.p e7) (c.p e6),au⟩ fun ac ag ae ab aa=> ?_);obtain ⟨e0,e5,e6,e7⟩:=aa.k4 e0 e5 e6 e7;have e8:=aa.V 0;refine wp_seq ?_;refine wp_cond_split e8 (fun hc1=> ?_) (fun hc1=> ?_)
 · try simp only [ah] at hc1
   refine wp_skip ?_;refine wp_seq ?_;refine wp_block ?_;refine wp_seq (rg [_,_,_,box _ _ 0 4 [(aR (⟨#[]⟩:ByteArray)),(aR (⟨#[]⟩:ByteArray))],_,_] [0,0,2,0,15,31] ab [] ⟨ak e7,ao fun c=>aL rfl aH aK (c.p e5) hS.sl (c.p e7) (by omega) (by omega),ao fun c=>cN (vs:=[(aR ((nth xs (k:Int)).1)),(aR ((nth xs (k:Int)).2))]) rfl cI aK (c.q 1) rfl (fun _ _ hj=>(hS.at (ab.ext.trans c.J.ext)).elem (bh (i:=(k:Int)) (by omega) (by omega)) hj),cC rfl rfl rfl rfl cm rfl,aI 0,gp (cx:=[(aR ((nth xs (k:Int)).1)),(aR ((nth xs (k:Int)).2))]) (off:=0) rfl aK fun c=>⟨c.rb 3 rfl,(c.rb 3 rfl).ptr,(c.q 2)⟩,au⟩ fun ac ag ae ab aa=> ?_);obtain ⟨b5x4,e4⟩:=gx ac 4;obtain ⟨e0,e5,e6,e7,e8⟩:=aa.k5 e0 e5 e6 e7 e8;have e3:=aa.V 4;have r0:=aa.rb 5 e4 rfl;refine wp_seq ?_;refine rg [_,_,_,_,_,_,_,_,_,_,_,_,_,_,_,_,_,_] [0,1,3,7,15,31,63,127,255,127,127,1151,3711,7807,15999,32767,65535,131071] ab [jb r0] ⟨ao fun c=>fm rfl cI aK ((c.p e4).trans r0.ptr) (c.B 0),ey fun c=>⟨_,_,(bI rfl rfl Try.call24 (c.q 0)),Dz (nth xs (k:Int)) _ (by omega) (by omega)⟩,ao fun c=>dW rfl (c.q 1),bm 2,bR 3 rfl fun c hpc=>aM rfl (c.p e3),bR 3 rfl fun c hpc=>jm rfl (c.M 4 hpc) rfl,bR 3 rfl fun c hpc=>aM rfl (c.M 5 hpc),dj 6 true rfl fun c hpc=>cM rfl bE bu ((c.p e4).trans r0.ptr),dj 6 true rfl fun c hpc=>aB rfl bP (c.M 7 hpc) ((c.B 0).cell (j:=0) rfl),dj 6 true rfl fun c hpc=>aM rfl (c.p e0),dj 6 true rfl fun c hpc=>aM rfl (c.p e3),dj 6 true rfl fun c hpc=>fv rfl (c.M 10 hpc) rfl (by have hq0:=bt hpc.2;have hq1:=hpc.1;(try simp only [aA,av] at hq1);omega),dj 6 true rfl fun c hpc=>aL rfl aH aK (c.M 9 hpc) hS.sl (c.M 11 hpc) (by have hq0:=bt hpc.2;have hq1:=hpc.1;(try simp only [aA,av] at hq1);omega) (by have hq0:=bt hpc.2;have hq1:=hpc.1;(try simp only [aA,av] at hq1);omega),dj 6 true rfl fun c hpc=>cM rfl bE bu (c.M 12 hpc),dj 6 true rfl fun c hpc=>aB rfl bP (c.M 13 hpc) ((hS.at (ab.ext.trans c.J.ext)).elem (j:=1) (bh (i:=(k:Int) - 1) (by have hq0:=bt hpc.2;have hq1:=hpc.1;(try simp only [aA,av] at hq1);omega) (by have hq0:=bt hpc.2;have hq1:=hpc.1;(try simp only [aA,av] at hq1);omega)) rfl),dj 6 true rfl fun c hpc=>pw rfl (c.M 8 hpc) (c.M 14 hpc),bR 3 rfl fun c hpc=>nl rfl (c.M 6 hpc) (fun h=>c.m 15 rfl (And.intro hpc h)),eB 3 16,au⟩ fun ac ag ae ab aa=> ?_;obtain ⟨e0,e3,e4,e5,e6,e7,e8⟩:=aa.k7 e0 e3 e4 e5 e6 e7 e8;have e29:=aa.V 17;replace r0:=aa.B 0;refine wp_cond_split e29 (fun hc2=> ?_) (fun hc2=> ?_)
   · have hd2:=hc2;try simp only [am,aG,be,aS,aA,av,ah,ai,aP] at hd2
     refine wp_seq (eM ab [jb r0] ⟨ao fun c=>aw rfl rfl,au⟩ fun ac ag ae ab aa=> ?_);obtain ⟨e0,e3,e4,e5,e6,e7,e8,e29⟩:=aa.k8 e0 e3 e4 e5 e6 e7 e8 e29;have e2:=aa.V 0;replace r0:=aa.B 0;refine wp_ret ?_;refine rp ?_;refine cO (fn:=Try.f81) rfl ab.defers e2 ?_;exact ⟨congrArg _ (congrArg _ (by exact (yy (k:=k) (by omega) (by assumption)).symm)),ab.ext0⟩
   have hd2:=hc2;try simp only [am,aG,be,aS,aA,av,ah,ai,aP] at hd2
   refine wp_skip ?_;show _;refine eL ab [jb r0] ⟨ao fun c=>cp rfl (c.p e7) rfl (by omega),bm 0,au⟩ fun ac ag ae ab aa=> ?_;obtain ⟨e0,e3,e4,e5,e6,e8,e29⟩:=aa.k7 e0 e3 e4 e5 e6 e8 e29;have e7:=aa.V 1;replace r0:=aa.B 0;refine ⟨⟨k+1,ae,?_,?_,ab,(e7.trans (aZ (by omega))),e0,e5,e6⟩,?_⟩
   · omega
   · exact sJ q1 (by assumption)
   · simp only [m7,e7,intOf];omega
 try simp only [ai,aP] at hc1
 refine wp_exit ?_;repeat (with_reducible refine bU ?_)
 refine bY ?_;refine wp_seq (eM ab [] ⟨ao fun c=>aw rfl rfl,au⟩ fun ac ag ae ab aa=> ?_);have e2:=aa.V 0;refine wp_ret ?_;refine rp ?_;refine cO (fn:=Try.f81) rfl ab.defers e2 ?_;exact ⟨congrArg _ (congrArg _ (by exact (rn q1 (by omega)).symm)),ab.ext0⟩
end
section
open Go.RowKit
open Srt
def pN (k:Int):Bool:=decide (k=2) || (decide (k=3) || (decide (k=4) || (decide (k=5) || decide (k=6))))
set_option maxRecDepth 100000 in
theorem ws (k:Int) (w:World):Calls Try.prog 82 #[(aj k)] w (fun e w'=>e= .returned (aD (pN k))∧Ext bk w w'):=by
 refine enter (n:=10) Try.func82 rfl rfl (ar rfl) ?_;intro a0 τ0 ha st0;have e0:=nf ha;refine wp_seq (eM st0 [] ⟨ao fun c=>aw rfl rfl,au⟩ fun ac ag ae ab aa=> ?_);replace e0:=aa.k1 e0;have e2:=aa.V 0;refine wp_seq ?_;refine wp_seq (eM ab [] ⟨ak e0,au⟩ fun ac ag ae ab aa=> ?_);replace e2:=aa.k1 e2;have e3:=aa.V 0;refine wp_block ?_;refine wp_seq ?_;refine wp_seq (eL ab [] ⟨ao fun c=>cF rfl (c.p e3) rfl,aI 0,au⟩ fun ac ag ae ab aa=> ?_);obtain ⟨e2,e3⟩:=aa.k2 e2 e3;have e4:=aa.V 1;refine wp_cond_split e4 (fun hc1=> ?_) (fun hc1=> ?_)
 · have hd1:=hc1;try simp only [ah] at hd1
   refine wp_skip ?_;refine wp_cond_true (e4.trans (congrArg _ hc1)) ?_;refine wp_seq (eM ab [] ⟨ao fun c=>aw rfl rfl,au⟩ fun ac ag ae ab aa=> ?_);have e2:=aa.V 0;refine wp_ret ?_;refine rp ?_;refine cO (fn:=Try.f82) rfl ab.defers e2 ?_;exact ⟨congrArg _ (congrArg _ (by unfold pN;symm;simp;omega)),ab.ext0⟩
 have hd2:=hc1;try simp only [ai] at hd2
 refine wp_seq (eL ab [] ⟨ao fun c=>cF rfl (c.p e3) rfl,aI 0,au⟩ fun ac ag ae ab aa=> ?_);obtain ⟨e2,e3⟩:=aa.k2 e2 e3;have e4:=aa.V 1;refine wp_cond_split e4 (fun hc3=> ?_) (fun hc3=> ?_)
 · have hd3:=hc3;try simp only [ah] at hd3
   refine wp_skip ?_;refine wp_cond_true (e4.trans (congrArg _ hc3)) ?_;refine wp_seq (eM ab [] ⟨ao fun c=>aw rfl rfl,au⟩ fun ac ag ae ab aa=> ?_);have e2:=aa.V 0;refine wp_ret ?_;refine rp ?_;refine cO (fn:=Try.f82) rfl ab.defers e2 ?_;exact ⟨congrArg _ (congrArg _ (by unfold pN;symm;simp;omega)),ab.ext0⟩
 have hd4:=hc3;try simp only [ai] at hd4
 refine wp_seq (eL ab [] ⟨ao fun c=>cF rfl (c.p e3) rfl,aI 0,au⟩ fun ac ag ae ab aa=> ?_);obtain ⟨e2,e3⟩:=aa.k2 e2 e3;have e4:=aa.V 1;refine wp_cond_split e4 (fun hc5=> ?_) (fun hc5=> ?_)
 · have hd5:=hc5;try simp only [ah] at hd5
   refine wp_skip ?_;refine wp_cond_true (e4.trans (congrArg _ hc5)) ?_;refine wp_seq (eM ab [] ⟨ao fun c=>aw rfl rfl,au⟩ fun ac ag ae ab aa=> ?_);have e2:=aa.V 0;refine wp_ret ?_;refine rp ?_;refine cO (fn:=Try.f82) rfl ab.defers e2 ?_;exact ⟨congrArg _ (congrArg _ (by unfold pN;symm;simp;omega)),ab.ext0⟩
 have hd6:=hc5;try simp only [ai] at hd6
 refine wp_seq (eL ab [] ⟨ao fun c=>cF rfl (c.p e3) rfl,aI 0,au⟩ fun ac ag ae ab aa=> ?_);obtain ⟨e2,e3⟩:=aa.k2 e2 e3;have e4:=aa.V 1;refine wp_cond_split e4 (fun hc7=> ?_) (fun hc7=> ?_)
 · have hd7:=hc7;try simp only [ah] at hd7
   refine wp_skip ?_;refine wp_cond_true (e4.trans (congrArg _ hc7)) ?_;refine wp_seq (eM ab [] ⟨ao fun c=>aw rfl rfl,au⟩ fun ac ag ae ab aa=> ?_);have e2:=aa.V 0;refine wp_ret ?_;refine rp ?_;refine cO (fn:=Try.f82) rfl ab.defers e2 ?_;exact ⟨congrArg _ (congrArg _ (by unfold pN;symm;simp;omega)),ab.ext0⟩
 have hd8:=hc7;try simp only [ai] at hd8
 refine eL ab [] ⟨ao fun c=>cF rfl (c.p e3) rfl,aI 0,au⟩ fun ac ag ae ab aa=> ?_;replace e2:=aa.k1 e2;have e4:=aa.V 1;refine wp_cond_split e4 (fun hc9=> ?_) (fun hc9=> ?_)
 · have hd9:=hc9;try simp only [ah] at hd9
   refine wp_seq (eM ab [] ⟨ao fun c=>aw rfl rfl,au⟩ fun ac ag ae ab aa=> ?_);have e2:=aa.V 0;refine wp_ret ?_;refine rp ?_;refine cO (fn:=Try.f82) rfl ab.defers e2 ?_;exact ⟨congrArg _ (congrArg _ (by unfold pN;symm;simp;omega)),ab.ext0⟩
 have hd9:=hc9;try simp only [ai] at hd9
 refine wp_skip ?_;show _;refine wp_seq (eM ab [] ⟨ao fun c=>aw rfl rfl,au⟩ fun ac ag ae ab aa=> ?_);have e2:=aa.V 0;refine wp_ret ?_;refine rp ?_;refine cO (fn:=Try.f82) rfl ab.defers e2 ?_;exact ⟨congrArg _ (congrArg _ (by unfold pN;symm;simp;omega)),ab.ext0⟩
set_option maxRecDepth 100000 in
theorem Cy (v:Value) (xs:List Int) (x:Int) (w:World) (hS:SlT jE w v xs):Calls Try.prog 99 #[v,(aj x)] w (fun e w'=>e= .returned (aj (Dw (fun y=>decide (x=y)) xs))∧Ext bk w w'):=by
 refine enter (n:=19) Try.func99 rfl rfl (ar rfl) ?_;intro a0 τ0 ha st0;obtain ⟨e0,e1⟩:=qp ha;have hle:=hS.le;refine wp_seq (eM st0 [] ⟨ao fun c=>aw rfl rfl,au⟩ fun ac ag ae ab aa=> ?_);obtain ⟨e0,e1⟩:=aa.k2 e0 e1;have e4:=aa.V 0;refine wp_seq ?_;refine wp_seq (nX [0,1,0] ab [] ⟨ak e0,ao fun c=>dh rfl bG (c.q 0) hS.sl,ao fun c=>aM rfl rfl,au⟩ fun ac ag ae ab aa=> ?_);obtain ⟨e0,e1,e4⟩:=aa.k3 e0 e1 e4;have e7:=aa.V 1;have e8:=aa.V 2;refine wp_block ?_;refine wp_loop (fun a_ w_=>∃(k:Nat) (τ:Nat→aX),(k≤xs.length)∧
      (∀y ∈ xs.take k,decide (x=y)=false)∧
      St (Nw w) w 19 a_ w_ τ∧
      aU a_ 8=(aj (k:Int))∧
      aU a_ 0=v∧
      aU a_ 1=(aj x)∧
      aU a_ 7=(aj (xs.length:Int))) (fun a_ _=>xs.length - (intOf (aU a_ 8)).toNat) ?_ ?_
 · refine ⟨0,ae,?_,?_,ab,(e8.trans (aZ (by omega))),e0,e1,e7⟩
   · omega
   · simp
 intro a3 w3 hI;obtain ⟨k,τ3,q0,q1,st3,e8,e0,e1,e7⟩:=hI;have m8:=e8;refine wp_seq (eM st3 [] ⟨ao fun c=>ci rfl (c.p e8) (c.p e7),au⟩ fun ac ag ae ab aa=> ?_);obtain ⟨e0,e1,e7,e8⟩:=aa.k4 e0 e1 e7 e8;have e9:=aa.V 0;refine wp_seq ?_;refine wp_cond_split e9 (fun hc1=> ?_) (fun hc1=> ?_)
 · try simp only [ah] at hc1
   refine wp_skip ?_;refine wp_seq ?_;refine wp_block ?_;refine wp_seq (eL ab [] ⟨ak e8,aI 0,au⟩ fun ac ag ae ab aa=> ?_);obtain ⟨e0,e1,e7,e8,e9⟩:=aa.k5 e0 e1 e7 e8 e9;have e5:=aa.V 1;refine wp_seq (DR [0,0,0,6,14,31] ab [] ⟨ak e1,ak e0,ak e5,ao fun c=>aL rfl bG ax (c.q 1) hS.sl (c.q 2) (by omega) (by omega),ao fun c=>aB rfl aF (c.q 3) ((hS.at (ab.ext.trans c.J.ext)).elem (j:=0) (bh (i:=(k:Int)) (by omega) (by omega)) rfl),ao fun c=>cF rfl (c.q 0) (c.q 4),au⟩ fun ac ag ae ab aa=> ?_);obtain ⟨e0,e1,e5,e7,e8,e9⟩:=aa.k6 e0 e1 e5 e7 e8 e9;have e16:=aa.V 5;refine wp_cond_split e16 (fun hc2=> ?_) (fun hc2=> ?_)
   · have hd2:=hc2;try simp only [ah] at hd2
     refine wp_seq (eL ab [] ⟨ak e5,aI 0,au⟩ fun ac ag ae ab aa=> ?_);obtain ⟨e0,e1,e5,e7,e8,e9,e16⟩:=aa.k7 e0 e1 e5 e7 e8 e9 e16;have e4:=aa.V 1;refine wp_ret ?_;refine rp ?_;refine cO (fn:=Try.f99) rfl ab.defers e4 ?_;exact ⟨congrArg _ (aZ (by first | exact (tN (f:=fun y=>decide (x=y)) (by omega) q1 (by assumption)).symm | exact (qt (f:=fun y=>decide (x=y)) (k:=k) (by omega) q1).symm)),ab.ext0⟩
   have hd2:=hc2;try simp only [ai] at hd2
   refine wp_skip ?_;show _;refine eL ab [] ⟨ao fun c=>cp rfl (c.p e8) rfl (by omega),bm 0,au⟩ fun ac ag ae ab aa=> ?_;obtain ⟨e0,e1,e5,e7,e9,e16⟩:=aa.k6 e0 e1 e5 e7 e9 e16;have e8:=aa.V 1;refine ⟨⟨k+1,ae,?_,?_,ab,(e8.trans (aZ (by omega))),e0,e1,e7⟩,?_⟩
   · omega
   · exact xf (f:=fun y=>decide (x=y)) (by omega) q1 (by assumption)
   · simp only [m8,e8,intOf];omega
 try simp only [ai,aP] at hc1
 refine wp_exit ?_;repeat (with_reducible refine bU ?_)
 refine bY ?_;refine wp_seq (eM ab [] ⟨ao fun c=>aw rfl rfl,au⟩ fun ac ag ae ab aa=> ?_);have e4:=aa.V 0;refine wp_ret ?_;refine rp ?_;refine cO (fn:=Try.f99) rfl ab.defers e4 ?_;exact ⟨congrArg _ (aZ (by first | exact (tN (f:=fun y=>decide (x=y)) (by omega) q1 (by assumption)).symm | exact (qt (f:=fun y=>decide (x=y)) (k:=k) (by omega) q1).symm)),ab.ext0⟩
set_option maxRecDepth 100000 in
theorem Ay (v:Value) (xs:List Int) (x:Int) (w:World) (hS:SlT jE w v xs):Calls Try.prog 96 #[v,(aj x)] w (fun e w'=>e= .returned (aD (xs.any fun y=>decide (x=y)))∧Ext bk w w'):=by
 refine enter (n:=9) Try.func96 rfl rfl (ar rfl) ?_;intro a0 τ0 ha st0;obtain ⟨e0,e1⟩:=qp ha;have hle:=hS.le;refine wp_seq (eM st0 [] ⟨ao fun c=>aw rfl rfl,au⟩ fun ac ag ae ab aa=> ?_);obtain ⟨e0,e1⟩:=aa.k2 e0 e1;have e4:=aa.V 0;refine wp_seq (zF [0,0,3,7,15] ab [] ⟨ak e0,ak e1,ey fun c=>⟨_,_,(bT rfl rfl Try.call99 (c.q 0) (c.q 1)),Cy v xs x _ (hS.at (ab.ext.trans c.J.ext))⟩,ao fun c=>gZ rfl (c.q 2) rfl,aI 3,au⟩ fun ac ag ae ab aa=> ?_);have e4:=aa.V 4;refine wp_ret ?_;refine rp ?_;refine cO (fn:=Try.f96) rfl ab.defers e4 ?_;exact ⟨congrArg _ (congrArg _ (zU _ _)),ab.ext0⟩
end
section
open Go.RowKit
open Srt
theorem Fe {xs:List Tr} {k:Nat} (h:k < xs.length):fR (nth xs (k:Int))≤dD (xs.map fR)∧dD ((xs.take (k+1)).map fR)=dD ((xs.take k).map fR)+fR (nth xs (k:Int))∧dD ((xs.take (k+1)).map fR)≤dD (xs.map fR):=
  ⟨xg (fun t _=>by have:=lF t;omega) (aW (by omega) (by omega)),uS h,(zV (fun t _=>by have:=lF t;omega) _).2⟩
theorem wu {ts xs:List Tr} {k:Int} {n:Nat} (hq:ts.map er=hO k ((xs.take n).map er)):(ts.length:Int)≤dD ((xs.take n).map fR):=by
  have h:=yx hq;have h1:∀l:List Tr,dD (l.map cW)≤dD (l.map fR):=by
    intro l;induction l using eQ with
    | h0 => exact eW _
    | h1 l x ih =>
      rw [bM,bM,bo,bJ,bo,bJ,em,em];have:=ri x;omega
  have:=h1 (xs.take n);omega
end
section
open Go.RowKit
open Srt
set_option maxRecDepth 100000 in
theorem Az (F:aX) (kind:Int) (v:Value) (xs:List Tr) (w:World) (hS:SlT nd w v xs) (hF:∀t ∈ xs,TrT F w t) (hP:dD (xs.map fR)≤1000000):Calls Try.prog 65 #[(aj kind),v] w (fun e w'=>∃v' ts,e= .returned v'∧Ext bk w w'∧oI nd 32 w w' v' ts∧(∀t ∈ ts,TrT (fun g=>(Gn F w) g∧v'.ownBlock≠some g) w' t)∧ts.map er=hO kind (xs.map er)):=by
 refine enter (n:=35) Try.func65 rfl rfl (ar rfl) ?_;intro a0 τ0 ha st0;obtain ⟨e0,e1⟩:=qp ha;have hle:=hS.le;have r9:Fz (nr (Gn F w) xs) τ0 w:=TrT.inzs hF st0;refine wp_seq (eM st0 [jz 9 r9] ⟨ao fun c=>aw rfl rfl,au⟩ fun ac ag ae ab aa=> ?_);obtain ⟨e0,e1⟩:=aa.k2 e0 e1;have e4:=aa.V 0;replace r9:=aa.z1 9;refine wp_seq (eM ab [jz 9 r9] ⟨ao fun c=>aw rfl rfl,au⟩ fun ac ag ae ab aa=> ?_);obtain ⟨e0,e1,e4⟩:=aa.k3 e0 e1 e4;have e5:=aa.V 0;replace r9:=aa.z1 9;refine wp_seq ?_;refine wp_seq (eM ab [jz 9 r9] ⟨ao fun c=>aw rfl rfl,au⟩ fun ac ag ae ab aa=> ?_);obtain ⟨e0,e1,e4,e5⟩:=aa.k4 e0 e1 e4 e5;have e6:=aa.V 0;replace r9:=aa.z1 9;refine wp_block ?_;refine wp_loop (fun a_ w_=>∃(k:Nat) (u:Value) (ts:List Tr) (τ:Nat→aX),(k≤xs.length)∧
      (ts.map er=hO kind ((xs.take k).map er))∧
      St (Nw w) w 35 a_ w_ τ∧
      aU a_ 5=u∧
      aU a_ 6=(aj (k:Int))∧
      aU a_ 0=(aj kind)∧
      aU a_ 1=v∧
      aU a_ 4=(.slice none 0 0)∧
      dg nd 32 ts (τ 5) u w_∧
      Fz (nr (Gn F w) ts) τ w_∧
      Fz (nr (Gn F w) xs) τ w_) (fun a_ _=>xs.length - (intOf (aU a_ 6)).toNat) ?_ ?_
 · refine ⟨0,(.slice none 0 0),[],ae,?_,?_,ab,e5,(e6.trans (aZ (by omega))),e0,e1,e4,?_,?_,r9⟩
   · omega
   · simp [hO]
   · exact dg.nil _ _ _ _
   · exact Fz.tn _ _ _
 intro a4 w4 hI;obtain ⟨k,u,ts,τ4,q0,q1,st4,e5,e6,e0,e1,e4,r5,r6,r9⟩:=hI;have hw:=Fe (xs:=xs) (k:=k);have hrm:=wu q1;have hew:=(iY (nth xs (k:Int))).1;have m6:=e6;refine wp_seq ?_;refine wp_seq (lc [0,0,2,7] st4 [jo r5,jz 6 r6,jz 9 r9] ⟨ak e6,ak e1,ao fun c=>dh rfl bl (c.q 1) ((⟨hS,fun t_ h_=>(hF t_ h_).s⟩:TlS w v xs).at st4.ext).sl.sl,ao fun c=>ci rfl (c.q 0) (c.q 2),au⟩ fun ac ag ae ab aa=> ?_);obtain ⟨e0,e1,e4,e5,e6⟩:=aa.k5 e0 e1 e4 e5 e6;have e10:=aa.V 3;replace r5:=aa.O 5;obtain ⟨r6,r9⟩:=aa.z2 6 9;refine wp_cond_split e10 (fun hc1=> ?_) (fun hc1=> ?_)
 · try simp only [ah] at hc1
   refine wp_skip ?_;refine wp_seq ?_;refine wp_block ?_;refine wp_seq (tF [0,0,3,7,15,0,63] ab [jo r5,jz 6 r6,jz 9 r9] ⟨ak e1,ak e6,ao fun c=>aL rfl bl aq (c.q 0) ((⟨hS,fun t_ h_=>(hF t_ h_).s⟩:TlS w v xs).at ab.ext).sl.sl (c.q 1) (by omega) (by omega),cf aC ax 2 rfl,ao fun c=>aB rfl aF (c.q 3) ((((⟨hS,fun t_ h_=>(hF t_ h_).s⟩:TlS w v xs).at (ab.ext.trans c.J.ext)).sl).elem (j:=0) (bh (i:=(k:Int)) (by omega) (by omega)) rfl),ak e0,ao fun c=>cF rfl (c.q 4) (c.q 5),au⟩ fun ac ag ae ab aa=> ?_);obtain ⟨e0,e1,e4,e5,e6,e10⟩:=aa.k6 e0 e1 e4 e5 e6 e10;have e19:=aa.V 6;replace r5:=aa.O 5;obtain ⟨r6,r9⟩:=aa.z2 6 9;refine wp_cond_split e19 (fun hc2=> ?_) (fun hc2=> ?_)
   · try simp only [ah] at hc2
     refine rg [_,_,_,_,_,_,own _ _ _ 5 26 _,own _ _ _ 5 5 _] [0,0,0,6,14,30,63,127] ab [jo r5,jz 6 r6,jz 9 r9] ⟨ak e5,ak e1,ak e6,ao fun c=>aL rfl bl aq (c.q 1) ((⟨hS,fun t_ h_=>(hF t_ h_).s⟩:TlS w v xs).at ab.ext).sl.sl (c.q 2) (by omega) (by omega),cf aC cT 3 rfl,ao fun c=>aB rfl dV (c.q 4) ((((⟨hS,fun t_ h_=>(hF t_ h_).s⟩:TlS w v xs).at (ab.ext.trans c.J.ext)).sl).elem (j:=7) (bh (i:=(k:Int)) (by omega) (by omega)) rfl),eO (t0:=5) rfl rfl rfl rfl bl (i:=Try.t32) rfl rfl rfl rfl (by simp only [maxLen];(try simp);omega) (by show _ * 104≤_;(try simp);omega) (fun _ _ _ _ c=>⟨c.ip 5 rfl e5,c.sm (c.n 0 rfl) e5,⟨_,(c.n 5 rfl),(((⟨hS,fun t_ h_=>(hF t_ h_).s⟩:TlS w v xs).at (ab.ext.trans c.J.ext)).el (by omega) (by omega)).tl.sl⟩⟩),dO (t0:=26) rfl rfl rfl rfl rfl (.inr rfl) (fun _ _ _ _ c=>⟨c.ro 6 rfl,rfl⟩),au⟩ fun ac ag ae ab aa=> ?_;obtain ⟨b7x5,e5⟩:=gx ac 5;obtain ⟨e0,e1,e4,e6,e10,e19⟩:=aa.k6 e0 e1 e4 e6 e10 e19;replace r5:=aa.ro 7 e5 rfl;obtain ⟨r6,r9⟩:=aa.z2 6 9;show _;refine fa ab [jo r5,jz 6 r6,jz 9 r9] ⟨ak e6,ao fun c=>cp rfl (c.q 0) rfl (by omega),aI 1,au⟩ fun ac ag ae ab aa=> ?_;obtain ⟨e0,e1,e4,e5,e10,e19⟩:=aa.k6 e0 e1 e4 e5 e10 e19;have e6:=aa.V 2;replace r5:=aa.O 5;obtain ⟨r6,r9⟩:=aa.z2 6 9;refine ⟨⟨k+1,b7x5,ts++((nth xs (k:Int)).kids),ae,?_,?_,ab,e5,(e6.trans (aZ (by omega))),e0,e1,e4,?_,?_,r9⟩,?_⟩
     · omega
     · first | exact uT (by omega) q1 rfl (by assumption) rfl | exact sI (by omega) q1 rfl (by assumption)
     · exact r5.cast (by rfl)
     · exact Fz.app r6 (r9.e (by omega) (by omega)).kl
     · simp only [m6,e6,intOf];omega
   try simp only [ai] at hc2
   refine rg [_,_,_,_,_,own nd 32 _ 0 32 ([(nth xs (k:Int))]),own _ _ _ 5 33 _,own _ _ _ 5 5 _] [0,0,0,6,14,30,63,127] ab [jo r5,jz 6 r6,jz 9 r9] ⟨ak e5,ak e1,ak e6,ao fun c=>aL rfl bl aq (c.q 1) ((⟨hS,fun t_ h_=>(hF t_ h_).s⟩:TlS w v xs).at ab.ext).sl.sl (c.q 2) (by omega) (by omega),ao fun c=>cN (vs:=(tc (nth xs (k:Int)))) rfl aJ aq (c.q 3) rfl (fun _ _ hj=>(((⟨hS,fun t_ h_=>(hF t_ h_).s⟩:TlS w v xs).at (ab.ext.trans c.J.ext)).sl).elem (bh (i:=(k:Int)) (by omega) (by omega)) hj),cQ (cells:=#[(aj ((nth xs (k:Int)).k)),(aR ((nth xs (k:Int)).ch)),(aD ((nth xs (k:Int)).ng)),(nth xs (k:Int)).rv.v,(aj ((nth xs (k:Int)).mn)),(aj ((nth xs (k:Int)).mx)),(aD ((nth xs (k:Int)).lz)),(nth xs (k:Int)).kv.v]) rfl rfl rfl rfl bl aq aO rfl (by decide) (by decide) (fun _ _ _ _ c=>gb (c.n 4 rfl) (by kernel_rfl)) rfl,eO (t0:=5) rfl rfl rfl rfl bl (i:=Try.t32) rfl rfl rfl rfl (by simp only [maxLen];(try simp);omega) (by show _ * 104≤_;(try simp);omega) (fun _ _ _ _ c=>⟨c.ip 5 rfl e5,c.sm (c.n 0 rfl) e5,⟨_,rfl,(c.ro 5 rfl).1.sl⟩⟩),dO (t0:=33) rfl rfl rfl rfl rfl (.inr rfl) (fun _ _ _ _ c=>⟨c.ro 6 rfl,rfl⟩),au⟩ fun ac ag ae ab aa=> ?_;obtain ⟨b9x32,e32⟩:=gx ac 32;obtain ⟨b9x5,e5⟩:=gx ac 5;obtain ⟨e0,e1,e4,e6,e10,e19⟩:=aa.k6 e0 e1 e4 e6 e10 e19;have r0:=aa.ro 5 e32 rfl;replace r5:=aa.ro 7 e5 rfl;obtain ⟨r6,r9⟩:=aa.z2 6 9;show _;refine fa ab [jo r0,jo r5,jz 6 r6,jz 9 r9] ⟨ak e6,ao fun c=>cp rfl (c.q 0) rfl (by omega),aI 1,au⟩ fun ac ag ae ab aa=> ?_;obtain ⟨e0,e1,e4,e5,e10,e19⟩:=aa.k6 e0 e1 e4 e5 e10 e19;have e6:=aa.V 2;replace r0:=aa.O 0;replace r5:=aa.O 5;obtain ⟨r6,r9⟩:=aa.z2 6 9;refine ⟨⟨k+1,b9x5,ts++ [(nth xs (k:Int))],ae,?_,?_,ab,e5,(e6.trans (aZ (by omega))),e0,e1,e4,?_,?_,r9⟩,?_⟩
   · omega
   · first | exact uT (by omega) q1 rfl (by assumption) rfl | exact sI (by omega) q1 rfl (by assumption)
   · exact r5.cast (by rfl)
   · exact Fz.snoc r6 (r9.e (by omega) (by omega))
   · simp only [m6,e6,intOf];omega
 try simp only [ai,aP] at hc1
 refine wp_exit ?_;repeat (with_reducible refine bU ?_)
 refine bY ?_;refine wp_seq (eL ab [jo r5,jz 6 r6,jz 9 r9] ⟨ak e5,aI 0,au⟩ fun ac ag ae ab aa=> ?_);have e4:=aa.V 1;replace r5:=aa.O 5;obtain ⟨r6,r9⟩:=aa.z2 6 9;refine wp_ret ?_;refine rp ?_;refine cO (fn:=Try.f65) rfl ab.defers e4 ?_;rw [bz (by omega)] at q1;exact ⟨_,ts,rfl,ab.ext0,⟨r5.1,fun g_ h_=>(ab.bnd _ g_ (r5.2 g_ h_)).1⟩,r6.outo (i:=5) r5.2,q1⟩
set_option maxRecDepth 100000 in
theorem AA (F:aX) (v:Value) (xs:List Tr) (w:World) (hS:SlT nd w v xs) (hF:∀t ∈ xs,TrT F w t) (hP:dD (xs.map fR)≤1000000):Calls Try.prog 47 #[v] w (fun e w'=>∃t':Tr,e= .returned t'.v∧Ext bk w w'∧TrT (Gn F w) w' t'∧er t'=li (xs.map er)):=by
 refine enter (n:=14) Try.func47 rfl rfl (ar rfl) ?_;intro a0 τ0 ha st0;have e0:=nf ha;have hle:=hS.le;have r9:Fz (nr (Gn F w) xs) τ0 w:=TrT.inzs hF st0;refine wp_seq (rg [box _ _ 0 2 [(aj 0),(aR (⟨#[]⟩:ByteArray)),(aD false),(.slice none 0 0),(aj 0),(aj 0),(aD false),(.slice none 0 0)]] [0] st0 [jz 9 r9] ⟨cC rfl rfl rfl rfl aO rfl,au⟩ fun ac ag ae ab aa=> ?_);obtain ⟨b1x2,e2⟩:=gx ac 2;replace e0:=aa.k1 e0;have r0:=aa.rb 0 e2 rfl;replace r9:=aa.z1 9;refine wp_seq ?_;refine bL ?_;refine dy 2 (by kernel_rfl) ?_;refine og [_,BO nd 32 _ 1 5 (fun b:List Tr=>b) (fun b:List Tr=>b.map er=hO 0 (xs.map er)) (fun b:List Tr=>nr (Gn F w) b)] [0,1] ab [jb r0,jz 9 r9] ⟨ak e0,Du (xs:=fun b:List Tr=>b) (Ψ:=fun b:List Tr=>b.map er=hO 0 (xs.map er)) (Φ:=fun b:List Tr=>nr (Gn F w) b) fun {_ a_ _ _} c=>⟨_,_,(bT rfl rfl Try.call65 rfl (c.q 0)),(Az _ 0 v xs _ (zl (c.iz 9 rfl) ((⟨hS,fun t_ h_=>(hF t_ h_).s⟩:TlS w v xs).at (ab.ext.trans c.J.ext)).sl).sl (c.iz 9 rfl) (by omega)).mono (fun e w' ⟨v_,ts_,he_,hx_,ho_,ht_,hq_⟩=>⟨v_,ts_,he_,hx_,ho_,hq_,c.tzo (tag:=1) ab hx_ ho_ ht_⟩)⟩,au⟩ fun ac ag ae ab aa=> ?_;obtain ⟨b2x5,e5⟩:=gx ac 5;replace e2:=aa.k1 e2;obtain ⟨ts1_,hro2,hqts1_,hz2⟩:=aa.zo 1 e5 rfl;replace r0:=aa.B 0;have r1:=hro2;replace r9:=aa.z1 9;have r2:=hz2;refine dA ?_;refine og [_] [0] ab [jb r0,jo r1,jz 2 r2,jz 9 r9] ⟨qc e5,au⟩ fun ac ag ae ab aa=> ?_;replace e2:=aa.k1 e2;have e3:=aa.V 0;replace r0:=aa.B 0;replace r1:=aa.O 1;obtain ⟨r2,r9⟩:=aa.z2 2 9;obtain ⟨kv0,rfl⟩:=r1.isSl.sv;refine wp_seq ?_;refine wp_seq (fa ab [jb r0,jo r1,jz 2 r2,jz 9 r9] ⟨ak e3,ao fun c=>dh rfl bl (c.q 0) r1.isSl,ao fun c=>cF rfl (c.q 1) rfl,au⟩ fun ac ag ae ab aa=> ?_);obtain ⟨e2,e3⟩:=aa.k2 e2 e3;have e8:=aa.V 2;replace r0:=aa.B 0;replace r1:=aa.O 1;obtain ⟨r2,r9⟩:=aa.z2 2 9;refine wp_cond_split e8 (fun hc1=> ?_) (fun hc1=> ?_)
 · try simp only [ah] at hc1
   refine wp_seq (BF ab [jb r0,jo r1,jz 2 r2,jz 9 r9] ⟨ak e3,ao fun c=>aL rfl bl aq (c.q 0) r1.isSl rfl (by omega) (by omega),ao fun c=>cN (vs:=(tc (nth ts1_ 0))) rfl aJ aq (c.q 1) rfl (fun _ _ hj=>((c.io 1 rfl).1.sl).elem (bh (i:=0) (by omega) (by omega)) hj),cu (cx:=(tc (nth ts1_ 0))) (off:=0) aq fun c=>⟨c.bp 0 rfl e2,c.ad ((c.p e2).trans r0.ptr) e2 rfl,(c.q 2)⟩,au⟩ fun ac ag ae ab aa=> ?_);obtain ⟨e2,e3⟩:=aa.k2 e2 e3;replace r0:=aa.RB 3 e2;replace r1:=aa.O 1;obtain ⟨r2,r9⟩:=aa.z2 2 9;refine wp_ret ?_;refine rp ?_;refine qN (fn:=Try.f47) rfl ab.defers e2 r0 aJ aq rfl ?_;exact ⟨_,rfl,ab.ext0,(r2.e (by omega) (by omega)).out,Ce hqts1_ (by omega)⟩
 try simp only [ai] at hc1
 refine wp_skip ?_;refine wp_seq (fa ab [jb r0,jo r1,jz 2 r2,jz 9 r9] ⟨ak e3,ao fun c=>fy (cells:=#[(aj 0),(aR (⟨#[]⟩:ByteArray)),(aD false),(.slice none 0 0),(aj 0),(aj 0),(aD false),kv0.v]) rfl aO (iJ rfl (c.n 0 rfl) rfl),cu (cx:=[(aj 0),(aR (⟨#[]⟩:ByteArray)),(aD false),(.slice none 0 0),(aj 0),(aj 0),(aD false),kv0.v]) (off:=0) aq fun c=>⟨c.bp 0 rfl e2,c.ad ((c.p e2).trans r0.ptr) e2 rfl,(c.q 1)⟩,au⟩ fun ac ag ae ab aa=> ?_);replace e2:=aa.k1 e2;replace r0:=aa.RB 2 e2;replace r1:=aa.O 1;obtain ⟨r2,r9⟩:=aa.z2 2 9;refine wp_ret ?_;refine rp ?_;refine qN (fn:=Try.f47) rfl ab.defers e2 r0 aJ aq rfl ?_;exact ⟨⟨0,⟨#[]⟩,false,Sv.nil,[],0,0,false,kv0,ts1_⟩,rfl,ab.ext0,Ab r1 (fun g h=> .inr (ab.bnd _ _ h).1) r2.outs,by rw [Dx];exact zY hqts1_ (by omega)⟩
set_option maxRecDepth 100000 in
theorem AB (F:aX) (v:Value) (xs:List Tr) (w:World) (hS:SlT nd w v xs) (hF:∀t ∈ xs,TrT F w t) (hP:dD (xs.map fR)≤1000000):Calls Try.prog 49 #[v] w (fun e w'=>∃t':Tr,e= .returned t'.v∧Ext bk w w'∧TrT (Gn F w) w' t'∧er t'=me (xs.map er)):=by
 refine enter (n:=18) Try.func49 rfl rfl (ar rfl) ?_;intro a0 τ0 ha st0;have e0:=nf ha;have hle:=hS.le;have r9:Fz (nr (Gn F w) xs) τ0 w:=TrT.inzs hF st0;refine wp_seq (rg [box _ _ 0 2 [(aj 0),(aR (⟨#[]⟩:ByteArray)),(aD false),(.slice none 0 0),(aj 0),(aj 0),(aD false),(.slice none 0 0)]] [0] st0 [jz 9 r9] ⟨cC rfl rfl rfl rfl aO rfl,au⟩ fun ac ag ae ab aa=> ?_);obtain ⟨b1x2,e2⟩:=gx ac 2;replace e0:=aa.k1 e0;have r0:=aa.rb 0 e2 rfl;replace r9:=aa.z1 9;refine wp_seq ?_;refine bL ?_;refine dy 2 (by kernel_rfl) ?_;refine og [_,BO nd 32 _ 1 5 (fun b:List Tr=>b) (fun b:List Tr=>b.map er=hO 1 (xs.map er)) (fun b:List Tr=>nr (Gn F w) b)] [0,1] ab [jb r0,jz 9 r9] ⟨ak e0,Du (xs:=fun b:List Tr=>b) (Ψ:=fun b:List Tr=>b.map er=hO 1 (xs.map er)) (Φ:=fun b:List Tr=>nr (Gn F w) b) fun {_ a_ _ _} c=>⟨_,_,(bT rfl rfl Try.call65 rfl (c.q 0)),(Az _ 1 v xs _ (zl (c.iz 9 rfl) ((⟨hS,fun t_ h_=>(hF t_ h_).s⟩:TlS w v xs).at (ab.ext.trans c.J.ext)).sl).sl (c.iz 9 rfl) (by omega)).mono (fun e w' ⟨v_,ts_,he_,hx_,ho_,ht_,hq_⟩=>⟨v_,ts_,he_,hx_,ho_,hq_,c.tzo (tag:=1) ab hx_ ho_ ht_⟩)⟩,au⟩ fun ac ag ae ab aa=> ?_;obtain ⟨b2x5,e5⟩:=gx ac 5;replace e2:=aa.k1 e2;obtain ⟨ts1_,hro2,hqts1_,hz2⟩:=aa.zo 1 e5 rfl;replace r0:=aa.B 0;have r1:=hro2;replace r9:=aa.z1 9;have r2:=hz2;refine dA ?_;refine og [_] [0] ab [jb r0,jo r1,jz 2 r2,jz 9 r9] ⟨qc e5,au⟩ fun ac ag ae ab aa=> ?_;replace e2:=aa.k1 e2;have e3:=aa.V 0;replace r0:=aa.B 0;replace r1:=aa.O 1;obtain ⟨r2,r9⟩:=aa.z2 2 9;obtain ⟨kv0,rfl⟩:=r1.isSl.sv;refine wp_seq ?_;refine wp_seq (fa ab [jb r0,jo r1,jz 2 r2,jz 9 r9] ⟨ak e3,ao fun c=>dh rfl bl (c.q 0) r1.isSl,ao fun c=>cF rfl (c.q 1) rfl,au⟩ fun ac ag ae ab aa=> ?_);obtain ⟨e2,e3⟩:=aa.k2 e2 e3;have e8:=aa.V 2;replace r0:=aa.B 0;replace r1:=aa.O 1;obtain ⟨r2,r9⟩:=aa.z2 2 9;refine wp_cond_split e8 (fun hc1=> ?_) (fun hc1=> ?_)
 · try simp only [ah] at hc1
   refine wp_seq (eL ab [jb r0,jo r1,jz 2 r2,jz 9 r9] ⟨ao fun c=>fy (cells:=#[(aj 0),(aR (⟨#[]⟩:ByteArray)),(aD false),(.slice none 0 0),(aj 0),(aj 0),(aD false),(.slice none 0 0)]) rfl aO (gb rfl rfl),cu (cx:=[(aj 0),(aR (⟨#[]⟩:ByteArray)),(aD false),(.slice none 0 0),(aj 0),(aj 0),(aD false),(.slice none 0 0)]) (off:=0) aq fun c=>⟨c.bp 0 rfl e2,c.ad ((c.p e2).trans r0.ptr) e2 rfl,(c.q 0)⟩,au⟩ fun ac ag ae ab aa=> ?_);obtain ⟨e2,e3⟩:=aa.k2 e2 e3;replace r0:=aa.RB 1 e2;replace r1:=aa.O 1;obtain ⟨r2,r9⟩:=aa.z2 2 9;refine wp_ret ?_;refine rp ?_;refine qN (fn:=Try.f49) rfl ab.defers e2 r0 aJ aq rfl ?_;exact ⟨mZ 0 [],rfl,ab.ext0,fo _ _ _ _ _ _ _ _,zZ hqts1_ (by omega)⟩
 try simp only [ai] at hc1
 refine wp_skip ?_;refine wp_seq ?_;refine wp_seq (fa ab [jb r0,jo r1,jz 2 r2,jz 9 r9] ⟨ak e3,ao fun c=>dh rfl bl (c.q 0) r1.isSl,ao fun c=>cF rfl (c.q 1) rfl,au⟩ fun ac ag ae ab aa=> ?_);obtain ⟨e2,e3⟩:=aa.k2 e2 e3;have e12:=aa.V 2;replace r0:=aa.B 0;replace r1:=aa.O 1;obtain ⟨r2,r9⟩:=aa.z2 2 9;refine wp_cond_split e12 (fun hc2=> ?_) (fun hc2=> ?_)
 · try simp only [ah] at hc2
   refine wp_seq (BF ab [jb r0,jo r1,jz 2 r2,jz 9 r9] ⟨ak e3,ao fun c=>aL rfl bl aq (c.q 0) r1.isSl rfl (by omega) (by omega),ao fun c=>cN (vs:=(tc (nth ts1_ 0))) rfl aJ aq (c.q 1) rfl (fun _ _ hj=>((c.io 1 rfl).1.sl).elem (bh (i:=0) (by omega) (by omega)) hj),cu (cx:=(tc (nth ts1_ 0))) (off:=0) aq fun c=>⟨c.bp 0 rfl e2,c.ad ((c.p e2).trans r0.ptr) e2 rfl,(c.q 2)⟩,au⟩ fun ac ag ae ab aa=> ?_);obtain ⟨e2,e3⟩:=aa.k2 e2 e3;replace r0:=aa.RB 3 e2;replace r1:=aa.O 1;obtain ⟨r2,r9⟩:=aa.z2 2 9;refine wp_ret ?_;refine rp ?_;refine qN (fn:=Try.f49) rfl ab.defers e2 r0 aJ aq rfl ?_;exact ⟨_,rfl,ab.ext0,(r2.e (by omega) (by omega)).out,Cf hqts1_ (by omega)⟩
 try simp only [ai] at hc2
 refine wp_skip ?_;refine wp_seq (fa ab [jb r0,jo r1,jz 2 r2,jz 9 r9] ⟨ak e3,ao fun c=>fy (cells:=#[(aj 1),(aR (⟨#[]⟩:ByteArray)),(aD false),(.slice none 0 0),(aj 0),(aj 0),(aD false),kv0.v]) rfl aO (iJ rfl (c.n 0 rfl) rfl),cu (cx:=[(aj 1),(aR (⟨#[]⟩:ByteArray)),(aD false),(.slice none 0 0),(aj 0),(aj 0),(aD false),kv0.v]) (off:=0) aq fun c=>⟨c.bp 0 rfl e2,c.ad ((c.p e2).trans r0.ptr) e2 rfl,(c.q 1)⟩,au⟩ fun ac ag ae ab aa=> ?_);replace e2:=aa.k1 e2;replace r0:=aa.RB 2 e2;replace r1:=aa.O 1;obtain ⟨r2,r9⟩:=aa.z2 2 9;refine wp_ret ?_;refine rp ?_;refine qN (fn:=Try.f49) rfl ab.defers e2 r0 aJ aq rfl ?_;exact ⟨⟨1,⟨#[]⟩,false,Sv.nil,[],0,0,false,kv0,ts1_⟩,rfl,ab.ext0,Ab r1 (fun g h=> .inr (ab.bnd _ _ h).1) r2.outs,by rw [Dx];exact Aa hqts1_ (by omega) (by omega)⟩
end
section
open Go.RowKit
open Srt
set_option maxRecDepth 100000 in
theorem Cz (t:Tr) (p:Addr) (v:Value) (ks:List Int) (w:World) (hc:w.cell? p=some v) (hS:SlT jE w v ks):Calls Try.prog 95 #[(ta t),(.pointer (some p))] w (fun e w'=>e= .returned (aD (ks.any fun y=>decide (t.k=y)))∧Ext bk w w'):=by
 refine enter (n:=8) Try.func95 rfl rfl (ar rfl) ?_;intro a0 τ0 ha st0;have e0:aU a0 0=(ta t):=ha 0 _ rfl;have e1:aU a0 1=(.pointer (some p)):=ha 1 _ rfl;clear ha;refine wp_seq (rg [box _ _ 0 2 (tc t),_] [0,0] st0 [] ⟨jh (v:=(ta t)) rfl rfl rfl rfl rfl (fun _ _ _ _ c=>(c.p e0)),ao fun c=>aw rfl rfl,au⟩ fun ac ag ae ab aa=> ?_);obtain ⟨b1x2,e2⟩:=gx ac 2;replace e1:=aa.k1 e1;have e3:=aa.V 1;have r0:=aa.rb 0 e2 rfl;refine wp_seq (zF [0,0,2,7,15] ab [jb r0] ⟨ao fun c=>aB rfl ie (c.p e1) ((ab.ext.trans c.J.ext).cellAt hc),cy aC ax e2 r0.ptr,fk aF 1 0 0,ey fun c=>⟨_,_,(bT rfl rfl Try.call96 (c.q 0) (c.q 2)),Ay v ks t.k _ (hS.at (ab.ext.trans c.J.ext))⟩,aI 3,au⟩ fun ac ag ae ab aa=> ?_);have e3:=aa.V 4;refine wp_ret ?_;refine rp ?_;refine cO (fn:=Try.f95) rfl ab.defers e3 ?_;exact ⟨rfl,ab.ext0⟩
set_option maxRecDepth 100000 in
theorem Ei (v cap:Value) (ts:List Tr) (q:Tr→Bool) (w:World) (hf:∀t ∈ ts,∀w2:World,Ext bk w w2→Calls Try.prog 95 #[t.v,cap] w2 (fun e w3=>e= .returned (aD (q t))∧Ext bk w2 w3)) (hS:SlT nd w v ts):Calls Try.prog 98 #[v,(.func (.func 95) #[] #[cap])] w (fun e w'=>e= .returned (aj (Dw q ts))∧Ext bk w w'):=by
 refine enter (n:=19) Try.func98 rfl rfl (ar rfl) ?_;intro a0 τ0 ha st0;obtain ⟨e0,e1⟩:=qp ha;have hle:=hS.le;refine wp_seq (eM st0 [] ⟨ao fun c=>aw rfl rfl,au⟩ fun ac ag ae ab aa=> ?_);obtain ⟨e0,e1⟩:=aa.k2 e0 e1;have e4:=aa.V 0;refine wp_seq ?_;refine wp_seq (nX [0,1,0] ab [] ⟨ak e0,ao fun c=>dh rfl bl (c.q 0) hS.sl,ao fun c=>aM rfl rfl,au⟩ fun a2 w2 τ2 st2 f2=> ?_);obtain ⟨e0,e1,e4⟩:=f2.k3 e0 e1 e4;have e7:=f2.V 1;have e8:=f2.V 2;refine wp_block ?_;refine wp_loop (fun a_ w_=>∃(k:Nat) (τ:Nat→aX),(k≤ts.length)∧
      (∀y ∈ ts.take k,q y=false)∧
      St (Nw w) w 19 a_ w_ τ∧
      aU a_ 8=(aj (k:Int))∧
      aU a_ 0=v∧
      aU a_ 1=(.func (.func 95) #[] #[cap])∧
      aU a_ 7=(aj (ts.length:Int))) (fun a_ _=>ts.length - (intOf (aU a_ 8)).toNat) ?_ ?_
 · refine ⟨0,τ2,?_,?_,st2,(e8.trans (aZ (by omega))),e0,e1,e7⟩
   · omega
   · simp
 intro a3 w3 hI;obtain ⟨k,τ3,q0,q1,st3,e8,e0,e1,e7⟩:=hI;have m8:=e8;refine wp_seq (eM st3 [] ⟨ao fun c=>ci rfl (c.p e8) (c.p e7),au⟩ fun ac ag ae ab aa=> ?_);obtain ⟨e0,e1,e7,e8⟩:=aa.k4 e0 e1 e7 e8;have e9:=aa.V 0;refine wp_seq ?_;refine wp_cond_split e9 (fun hc1=> ?_) (fun hc1=> ?_)
 · try simp only [ah] at hc1
   refine wp_skip ?_;refine wp_seq ?_;refine wp_block ?_;refine wp_seq (eL ab [] ⟨ak e8,aI 0,au⟩ fun ac ag ae ab aa=> ?_);obtain ⟨e0,e1,e7,e8,e9⟩:=aa.k5 e0 e1 e7 e8 e9;have e5:=aa.V 1;refine wp_seq (DR [0,0,0,6,14,31] ab [] ⟨ak e1,ak e0,ak e5,ao fun c=>aL rfl bl aq (c.q 1) hS.sl (c.q 2) (by omega) (by omega),ao fun c=>cN (vs:=(tc (nth ts (k:Int)))) rfl aJ aq (c.q 3) rfl (fun _ _ hj=>(hS.at (ab.ext.trans c.J.ext)).elem (bh (i:=(k:Int)) (by omega) (by omega)) hj),ey fun c=>⟨_,_,(zC rfl (c.q 0) Try.call95 (c.q 4)),hf _ (aW (by omega) (by omega)) _ (ab.ext.trans c.J.ext).fresh⟩,au⟩ fun ac ag ae ab aa=> ?_);obtain ⟨e0,e1,e5,e7,e8,e9⟩:=aa.k6 e0 e1 e5 e7 e8 e9;have e16:=aa.V 5;refine wp_cond_split e16 (fun hc2=> ?_) (fun hc2=> ?_)
   · have hd2:=hc2;skip;refine wp_seq (eL ab [] ⟨ak e5,aI 0,au⟩ fun ac ag ae ab aa=> ?_);obtain ⟨e0,e1,e5,e7,e8,e9,e16⟩:=aa.k7 e0 e1 e5 e7 e8 e9 e16;have e4:=aa.V 1;refine wp_ret ?_;refine rp ?_;refine cO (fn:=Try.f98) rfl ab.defers e4 ?_;exact ⟨congrArg _ (aZ (by first | exact (tN (f:=q) (by omega) q1 (by assumption)).symm | exact (qt (f:=q) (k:=k) (by omega) q1).symm)),ab.ext0⟩
   have hd2:=hc2;skip;refine wp_skip ?_;show _;refine eL ab [] ⟨ao fun c=>cp rfl (c.p e8) rfl (by omega),bm 0,au⟩ fun ac ag ae ab aa=> ?_;obtain ⟨e0,e1,e5,e7,e9,e16⟩:=aa.k6 e0 e1 e5 e7 e9 e16;have e8:=aa.V 1;refine ⟨⟨k+1,ae,?_,?_,ab,(e8.trans (aZ (by omega))),e0,e1,e7⟩,?_⟩
   · omega
   · exact xf (f:=q) (by omega) q1 (by assumption)
   · simp only [m8,e8,intOf];omega
 try simp only [ai,aP] at hc1
 refine wp_exit ?_;repeat (with_reducible refine bU ?_)
 refine bY ?_;refine wp_seq (eM ab [] ⟨ao fun c=>aw rfl rfl,au⟩ fun ac ag ae ab aa=> ?_);have e4:=aa.V 0;refine wp_ret ?_;refine rp ?_;refine cO (fn:=Try.f98) rfl ab.defers e4 ?_;exact ⟨congrArg _ (aZ (by first | exact (tN (f:=q) (by omega) q1 (by assumption)).symm | exact (qt (f:=q) (k:=k) (by omega) q1).symm)),ab.ext0⟩
set_option maxRecDepth 100000 in
theorem CA (v cap:Value) (ts:List Tr) (q:Tr→Bool) (w:World) (hf:∀t ∈ ts,∀w2:World,Ext bk w w2→Calls Try.prog 95 #[t.v,cap] w2 (fun e w3=>e= .returned (aD (q t))∧Ext bk w2 w3)) (hS:SlT nd w v ts):Calls Try.prog 94 #[v,(.func (.func 95) #[] #[cap])] w (fun e w'=>e= .returned (aD (ts.any q))∧Ext bk w w'):=by
 refine enter (n:=9) Try.func94 rfl rfl (ar rfl) ?_;intro a0 τ0 ha st0;obtain ⟨e0,e1⟩:=qp ha;have hle:=hS.le;refine wp_seq (eM st0 [] ⟨ao fun c=>aw rfl rfl,au⟩ fun ac ag ae ab aa=> ?_);obtain ⟨e0,e1⟩:=aa.k2 e0 e1;have e4:=aa.V 0;refine wp_seq (zF [0,0,3,7,15] ab [] ⟨ak e0,ak e1,ey fun c=>⟨_,_,(bT rfl rfl Try.call98 (c.q 0) (c.q 1)),Ei v cap ts q _ (fun t_ h_ w2_ he_=>hf t_ h_ w2_ ((ab.ext.trans c.J.ext).fresh.trans he_)) (hS.at (ab.ext.trans c.J.ext))⟩,ao fun c=>gZ rfl (c.q 2) rfl,aI 3,au⟩ fun a2 w2 τ2 st2 f2=> ?_);have e4:=f2.V 4;refine wp_ret ?_;refine rp ?_;refine cO (fn:=Try.f94) rfl st2.defers e4 ?_;exact ⟨congrArg _ (congrArg _ (zU _ _)),st2.ext0⟩
set_option maxRecDepth 100000 in
theorem Ej (v:Value) (u:Sv) (ts:List Tr) (ks:List Int) (w:World) (hS:SlT nd w v ts) (hU:SlT jE w u.v ks):Calls Try.prog 83 #[v,u.v] w (fun e w'=>e= .returned (aD (ts.any fun x=>ks.any fun y=>decide (x.k=y)))∧Ext bk w w'):=by
 refine enter (n:=8) Try.func83 rfl rfl (ar rfl) ?_;intro a0 τ0 ha st0;obtain ⟨e0,e1⟩:=qp ha;have hle:=hS.le;refine wp_seq (rg [box _ _ 0 3 [u.v],_] [0,0] st0 [] ⟨jh (v:=u.v) rfl rfl rfl rfl rfl (fun _ _ _ _ c=>(c.p e1)),ao fun c=>aw rfl rfl,au⟩ fun ac ag ae ab aa=> ?_);obtain ⟨b1x3,e3⟩:=gx ac 3;replace e0:=aa.k1 e0;have e4:=aa.V 1;have r0:=aa.rb 0 e3 rfl;refine wp_seq ?_;refine lc [0,0,3,7] ab [jb r0] ⟨ak e0,ao fun c=>pZ rfl (c.p e3),ey fun c=>⟨_,_,(bT rfl rfl Try.call94 (c.q 0) (c.q 1)),CA v b1x3 ts (fun x_=>(ks).any fun y_=>decide (x_.k=y_)) _ (fun t_ _ w2_ he_=>by rw [(c.ib 0 rfl).ptr];exact Cz t_ _ u.v ks w2_ (he_.cell_some ((c.ib 0 rfl).cell (j:=0) rfl) (fun h=>h)) ((hU.at (ab.ext.trans c.J.ext)).keep he_ (fun _ h=>h))) (hS.at (ab.ext.trans c.J.ext))⟩,aI 2,au⟩ fun ac ag ae ab aa=> ?_;have e4:=aa.V 3;refine wp_ret ?_;refine rp ?_;refine cO (fn:=Try.f83) rfl ab.defers e4 ?_;exact ⟨rfl,ab.ext0⟩
end
end B
end Go.Proofs.Ytcfdebjhikahfaa
