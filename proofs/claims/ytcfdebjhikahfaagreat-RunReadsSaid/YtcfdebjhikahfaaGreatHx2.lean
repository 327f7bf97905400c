import Derived.Test.YtcfdebjhikahfaaGreatHx1
import Derived.Laws.CopyRow
import Derived.Laws.MakeOwn
set_option linter.unusedSimpArgs false
set_option linter.unusedVariables false
set_option linter.unusedSectionVars false
namespace Go.Proofs.YtcfdebjhikahfaaGreat
namespace B
section
open Go.RowKit
abbrev fi:=@Int.le_refl
abbrev ep:=@Int.not_le
abbrev jO:=@List.any_eq_false
abbrev lZ:=@List.getElem_map
abbrev bN:=@List.length_replicate
abbrev iN:=@List.mem_of_mem_drop
abbrev dq:=@Nat.min_le_right
abbrev jx:=@Tryz.call74
abbrev kx:=@Tryz.call86
abbrev gd:=@Tryz.call99
abbrev jP:=@Tryz.isAgg22
abbrev bV:=@Tryz.isAgg23
abbrev aD:=@Tryz.isAgg25
abbrev aC:=@Tryz.isAgg3
abbrev cp:=@Tryz.isAgg4
abbrev ej:=@Tryz.isAgg62
abbrev gU:=@Tryz.isAgg89
abbrev bG:=@Tryz.isAgg9
abbrev bT:=@Tryz.sizeOf89
abbrev bd:=@Tryz.underlying22
abbrev aJ:=@Tryz.underlying23
abbrev bi:=@Tryz.underlying60
abbrev ca:=@Tryz.underlying62
abbrev bo:=@Tryz.underlying9
abbrev aN:=@Tryz.zeroValue25
abbrev gq:=@Tryz.zeroValue3
abbrev cR:=@Tryz.zeroValue89
end
section
open Srt
theorem TlS.at {w w':World} {v:Value} {ts:List Tr} (h:TlS w v ts) (he:Ext (Nw w) w w'):TlS w' v ts:=
  ⟨h.sl.keep he fun hn hk=>(by have:=h.sl.lt hn;simp only [Nw] at hk;omega),fun t ht=>(h.all t ht).at he⟩
theorem cP {α:Type} [Inhabited α] {xs:List α} {i:Int} (h0:0≤i) (h1:i < xs.length):nth xs i ∈ xs:=by
  obtain ⟨k,rfl⟩:∃k:Nat,i=(k:Int):=⟨i.toNat,by omega⟩;exact gT (vY (by omega))
def di (xs:List Int):Int:=xs.foldl (· +·) 0
theorem ey (xs:List Int) (x:Int):di (xs++ [x])=di xs+x:=by simp [di]
theorem iA {xs:List Int} (h:∀x ∈ xs,0≤x):0≤di xs:=by
  induction xs using fv with
  | h0 => exact fi _
  | h1 xs x ih =>
    rw [ey];have:=ih fun y hy=>h y (by simp [hy]);have:=h x (by simp);omega
theorem jS (xs ys:List Int):di (xs++ys)=di xs+di ys:=by
  induction ys using fv with
  | h0 => simp [di]
  | h1 ys y ih => rw [← fK, ey, ih, ey]; omega
theorem Ct {xs:List Int} (h:∀x ∈ xs,0≤x) (k:Nat):0≤di (xs.take k)∧di (xs.take k)≤di xs:=by
  have h1:0≤di (xs.take k):=iA fun x hx=>h x (List.mem_of_mem_take hx);have h2:0≤di (xs.drop k):=iA fun x hx=>h x (iN hx);have h3:=jS (xs.take k) (xs.drop k);rw [fT] at h3;omega
theorem ra {xs:List Int} (h:∀x ∈ xs,0≤x) {x:Int} (hx:x ∈ xs):x≤di xs:=by
  obtain ⟨A,B,rfl⟩:=List.append_of_mem hx;rw [show A++x::B=(A++ [x])++B by simp,jS,ey];have h1:0≤di A:=iA fun y hy=>h y (by simp [hy]);have h2:0≤di B:=iA fun y hy=>h y (by simp [hy]);omega
section
variable {β:Type}
mutual
def lE (g:Tr→List β→β):Tr→β
  | ⟨k, ch, ng, rv, rows, mn, mx, lz, kv, kids⟩ => g ⟨k, ch, ng, rv, rows, mn, mx, lz, kv, kids⟩ (xe g kids)
def xe (g:Tr→List β→β):List Tr→List β
  | [] => []
  | t :: ts => lE g t :: xe g ts
end
theorem yr (g:Tr→List β→β) (ts:List Tr):xe g ts=ts.map (lE g):=by
  induction ts with
  | nil => rfl
  | cons t ts ih => rw [xe, ih]; rfl
theorem iS (g:Tr→List β→β) (t:Tr):lE g t=g t (t.kids.map (lE g)):=by cases t;simp [lE,yr]
theorem oY {g:Tr→List β→β} (hg:∀t l,g (er t) l=g t l) (t:Tr):lE g (er t)=lE g t:=by
  induction t using Tr.ind with
  | h t ih =>
    rw [iS,iS g t,mI,mu,hg];congr 1;exact jg ih
end
def ck:Tr→Int:=lE fun _ l=>1+di l
theorem gF (t:Tr):ck t=1+di (t.kids.map ck):=iS _ t
def oG (t:Tr):Bool:=decide (t.k=5) || decide (t.k=6)
def dy:Tr→Int:=lE fun t l=>(if t.k=5 then 1 else 0)+di l
theorem mN (t:Tr):dy t=(if t.k=5 then 1 else 0)+di (t.kids.map dy):=iS _ t
def kH (xs:List Int):Int:=xs.foldl max 0
theorem nR (xs:List Int) (x:Int):kH (xs++ [x])=max (kH xs) x:=by simp [kH]
def eD:Tr→Int:=lE fun t l=>kH l+if oG t=true then 1 else 0
theorem lf (t:Tr):eD t=kH (t.kids.map eD)+if oG t=true then 1 else 0:=iS _ t
theorem iT (t:Tr):1≤ck t:=by
  induction t using Tr.ind with
  | h t ih =>
    rw [gF];have:0≤di (t.kids.map ck):=iA fun x hx=>by
      obtain ⟨k,hk,rfl⟩:=List.mem_map.1 hx;have:=ih k hk;omega
    omega
theorem yt (t:Tr):(er t).k=t.k:=by cases t;rfl
theorem yu (t:Tr):ck (er t)=ck t:=oY (fun _ _=>rfl) t
theorem kg (t:Tr):dy (er t)=dy t:=oY (fun t l=>by simp only [yt]) t
theorem nv (xs:List Int):0≤kH xs:=by
  induction xs using fv with
  | h0 => exact fi _
  | h1 xs x ih => rw [nR]; omega
theorem qu {xs:List Int} {n:Int} (h0:0≤n) (h:∀x ∈ xs,x≤n):kH xs≤n:=by
  induction xs using fv with
  | h0 => exact h0
  | h1 xs x ih =>
    rw [nR];have:=ih fun y hy=>h y (by simp [hy]);have:=h x (by simp);omega
theorem rc {xs:List Int} {x:Int} (h:x ∈ xs):x≤kH xs:=by
  induction xs using fv with
  | h0 => cases h
  | h1 xs y ih =>
    rw [nR];rcases List.mem_append.1 h with h | h
    · have:=ih h;omega
    · simp at h;subst h;omega
theorem nS {f:Tr→Int} {ts:List Tr} {k:Nat} (h:k < ts.length):kH ((ts.take (k+1)).map f)=max (kH ((ts.take k).map f)) (f (nth ts (k:Int))):=by
  rw [fc h,bU,bu,bR,nR]
theorem hC (t:Tr):0≤dy t∧dy t≤ck t:=by
  induction t using Tr.ind with
  | h t ih =>
    rw [mN,gF];have h1:∀ks:List Tr,(∀k ∈ ks,0≤dy k∧dy k≤ck k)→0≤di (ks.map dy)∧di (ks.map dy)≤di (ks.map ck):=by
      intro ks;induction ks using fv with
      | h0 => intro _; exact ⟨fi _, fi _⟩
      | h1 ks x ih2 =>
        intro h;rw [bU,bU,bu,bR,bu,bR,ey,ey];have:=ih2 fun k hk=>h k (by simp [hk]);have:=h x (by simp);omega
    have:=h1 t.kids ih;split <;> omega
theorem qc (t:Tr):0≤eD t∧eD t≤ck t:=by
  induction t using Tr.ind with
  | h t ih =>
    rw [lf,gF];have hp:∀k ∈ t.kids,0≤ck k:=fun k _=>by have:=iT k;omega
    have h0:=nv (t.kids.map eD);have h1:kH (t.kids.map eD)≤di (t.kids.map ck):=qu (iA fun x hx=>by obtain ⟨k,hk,rfl⟩:=List.mem_map.1 hx;exact hp k hk) fun x hx=>by
      obtain ⟨k,hk,rfl⟩:=List.mem_map.1 hx;have:=(ih k hk).2;have:ck k≤di (t.kids.map ck):=ra (fun x hx=>by obtain ⟨k,hk,rfl⟩:=List.mem_map.1 hx;exact hp k hk) (List.mem_map.2 ⟨k,hk,rfl⟩);omega
    split <;> omega
def DX {α:Type} (f:α→Bool) (xs:List α):Int:=if xs.any f=true then ((xs.takeWhile fun y=> !f y).length:Int) else -1
theorem tG {α:Type} [Inhabited α] {f:α→Bool} {xs:List α} {k:Nat} (h:k < xs.length) (hq:∀y ∈ xs.take k,f y=false) (hc:f (nth xs (k:Int))=true):DX f xs=(k:Int):=by
  unfold DX;rw [if_pos (List.any_eq_true.2 ⟨_,cP (by omega) (by omega),hc⟩)];have e:xs=xs.take k++nth xs (k:Int)::xs.drop (k+1):=by rw [←ke h,fT]
  have e2:xs.takeWhile (fun y=> !f y)=xs.take k:=by
    conv=>lhs;rw [e]
    rw [List.takeWhile_append_of_pos (fun y hy=>by rw [hq y hy];rfl),gr,if_neg (by rw [hc];decide),gP]
  rw [e2,dB];omega
theorem qv {α:Type} [Inhabited α] {f:α→Bool} {xs:List α} {k:Nat} (h:xs.length≤k) (hq:∀y ∈ xs.take k,f y=false):DX f xs= -1:=by
  rw [bB h] at hq;unfold DX;rw [if_neg];rw [List.any_eq_true]
  rintro ⟨y,hy,hf⟩
  rw [hq y hy] at hf;cases hf
theorem qw {α:Type} [Inhabited α] {f:α→Bool} {xs:List α} {k:Nat} (h:k < xs.length) (hq:∀y ∈ xs.take k,f y=false) (hc:f (nth xs (k:Int))=false):∀y ∈ xs.take (k+1),f y=false:=by
  rw [fc h];intro y hy;rcases List.mem_append.1 hy with hy | hy
  · exact hq y hy
  · simp at hy;rw [hy];exact hc
theorem zS {α:Type} (f:α→Bool) (xs:List α):decide (0≤DX f xs)=xs.any f:=by
  unfold DX;cases xs.any f <;> simp
theorem jT {f:Tr→Int} {ts:List Tr} {k:Nat} (h:k < ts.length):di ((ts.take (k+1)).map f)=di ((ts.take k).map f)+f (nth ts (k:Int)):=by
  rw [fc h,bU,bu,bR,ey]
theorem nw {f:Tr→Int} {ts:List Tr} (hf:∀t ∈ ts,0≤f t) (k:Nat):0≤di ((ts.take k).map f)∧di ((ts.take k).map f)≤di (ts.map f):=by
  rw [List.map_take];exact Ct (fun x hx=>by obtain ⟨t,ht,rfl⟩:=List.mem_map.1 hx;exact hf t ht) k
theorem mO {f:Tr→Int} {ts:List Tr} (hf:∀t ∈ ts,0≤f t) {t:Tr} (ht:t ∈ ts):f t≤di (ts.map f):=
  ra (fun x hx=>by obtain ⟨t,ht,rfl⟩:=List.mem_map.1 hx;exact hf t ht) (List.mem_map.2 ⟨t,ht,rfl⟩)
end
section
open Go.RowKit Srt
theorem cG {K:Act→World→Prop} {a:Act} {w:World} (h:K a w):Ci K .normal a w:=⟨rfl,h⟩
theorem mB.sv {v:Value} {n:Nat} (h:mB v n):∃s:Sv,v=s.v:=by
  rcases h with ⟨rfl,_⟩ | ⟨b,cap,rfl,_⟩
  · exact ⟨⟨none,0,0⟩,rfl⟩
  · exact ⟨⟨some b,n,cap⟩,rfl⟩
def ia (G:aP) (t:Tr):ZP:=⟨fun Z w=>TrT (fun g=>Z g∧G g) w t,fun hz he h=>(TrT.keep h he fun g hg hn=>hn hg.1).mono fun g hg _=>⟨hz g hg.1,hg.2⟩⟩
def ny (G:aP) (ts:List Tr):ZP:=⟨fun Z w=>∀t ∈ ts,TrT (fun g=>Z g∧G g) w t,fun hz he h t ht=>(ia G t).st hz he (h t ht)⟩
section
variable {G F:aP} {Z:aP} {τ:Nat→aP} {w w':World} {t:Tr} {ts us:List Tr} {v:Value}
theorem Fz.s (h:Fz (ia G t) τ w):mb w t:=TrT.s h
theorem zs (h:(ia G t).P Z w):mb w t:=TrT.s h
theorem zl (h:(ny G ts).P Z w) (hs:SlT oM w v ts):TlS w v ts:=⟨hs,fun t ht=>TrT.s (h t ht)⟩
theorem Fz.l (h:Fz (ny G ts) τ w) (hs:SlT oM w v ts):TlS w v ts:=zl h hs
theorem EC (h:(ia G t).P Z w):(ny G t.kids).P Z w:=fun k hk=>TrT.kid h hk
theorem Fz.kl (h:Fz (ia G t) τ w):Fz (ny G t.kids) τ w:=EC h
theorem ze {i:Int} (h:(ny G ts).P Z w) (h0:0≤i) (h1:i < ts.length):(ia G (nth ts i)).P Z w:=h _ (cP h0 h1)
theorem Fz.e {i:Int} (h:Fz (ny G ts) τ w) (h0:0≤i) (h1:i < ts.length):Fz (ia G (nth ts i)) τ w:=ze h h0 h1
theorem Fz.tn (G:aP) (τ:Nat→aP) (w:World):Fz (ny G []) τ w:=fun t h=>by cases h
theorem Fz.snoc (h:Fz (ny G ts) τ w) (h2:Fz (ia G t) τ w):Fz (ny G (ts++ [t])) τ w:=fun x hx=>by
  rcases List.mem_append.1 hx with hx | hx
  · exact h x hx
  · simp at hx;subst hx;exact h2
theorem Fz.app (h:Fz (ny G ts) τ w) (h2:Fz (ny G us) τ w):Fz (ny G (ts++us)) τ w:=fun x hx=>by
  rcases List.mem_append.1 hx with hx | hx
  · exact h x hx
  · exact h2 x hx
theorem TrT.inz {n:Nat} {a:Act} {τ0:Nat→aP} (h:TrT F w t) (st:St (Nw w) w n a w τ0):Fz (ia (Gn F w) t) τ0 w:=TrT.mono h fun g hg hlt=>⟨⟨hlt,fun s hs=>by have:=(st.bnd s g hs).1;simp only [Nw] at this;omega⟩,.inl hg⟩
theorem TrT.inzs {n:Nat} {a:Act} {τ0:Nat→aP} (h:∀t ∈ ts,TrT F w t) (st:St (Nw w) w n a w τ0):Fz (ny (Gn F w) ts) τ0 w:=fun t ht=>(h t ht).inz st
theorem TrT.inT {n:Nat} {a:Act} {τ0:Nat→aP} {T:aP} (h:TrT F w t) (hF:∀g,F g→¬T g) (st:St (fun k=>T k∨w.heap.size≤k) w n a w τ0):Fz (ia (Gn F w) t) τ0 w:=TrT.mono h fun g hg hlt=>⟨⟨hlt,fun s hs=>by
  rcases (st.bnd s g hs).1 with h1 | h1
  · exact hF g hg h1
  · omega⟩,.inl hg⟩
theorem Fz.out (h:Fz (ia G t) τ w):TrT G w t:=TrT.mono h fun g hg _=>hg.2
theorem Fz.outs (h:Fz (ny G ts) τ w):∀t ∈ ts,TrT G w t:=fun t ht=>TrT.mono (h t ht) fun g hg _=>hg.2
theorem Fz.outo (h:Fz (ny G ts) τ w) {i:Nat} {v:Value} (hv:∀g,v.ownBlock=some g→τ i g):∀t ∈ ts,TrT (fun g=>G g∧v.ownBlock≠some g) w t:=fun t ht=>TrT.mono (h t ht) fun g hg _=>⟨hg.2,fun e=>hg.1.2 i (hv g e)⟩
end
section
variable {α:Type} {N:aP} {P:Program} {ops:Array Oper} {sp:List (Spec N)} {In:Nat→Ini N} {a0:Act} {w0:World} {bf:List Nat} {j:Nat} {o:Oper} {done:Nat→Bool} {a:Act} {w w' W:World} {τ τ0:Nat→aP} {F:aP} {t:Tr} {ts:List Tr} {n:Nat} {a1:Act}
theorem Cx.hW (c:Cx ops sp In a0 w0 bf j o done a w τ) (st:St N W n a1 w0 τ0):W.heap.size≤w.heap.size:=dD st.ext.size c.J.ext.size
theorem Cx.tz (c:Cx ops sp In a0 w0 bf j o done a w τ) (st:St N W n a1 w0 τ0) (hx:Ext aY w w') (h:TrT (Gn (fun g=>eY τ w g∧Gn F W g) w) w' t):(ia (Gn F W) t).P (eY τ w') w':=TrT.mono h (c.gz (c.hW st) hx.size)
theorem Cx.tn (c:Cx ops sp In a0 w0 bf j o done a w τ) (st:St N W n a1 w0 τ0) (hx:Ext aY w w') (h:TrT (Gn aY w) w' t):(ia (Gn F W) t).P (eY τ w') w':=c.tz st hx (h.mono fun g hg _=>hg.elim (fun h=>h.elim) .inr)
theorem Cx.tzo {tag:Nat} {v:Value} {E:Enc α} {ty:Nat} {xs:List α} (c:Cx ops sp In a0 w0 bf j o done a w τ) (st:St N W n a1 w0 τ0) (hx:Ext aY w w') (hv:oN E ty w w' v xs) (h:∀t ∈ ts,TrT (fun g=>Gn (fun g=>eY τ w g∧Gn F W g) w g∧v.ownBlock≠some g) w' t):(ny (Gn F W) ts).P (eY (nf τ tag fun g=>v.ownBlock=some g) w') w':=fun t ht=>TrT.mono (h t ht) (c.gzo (c.hW st) hx.size hv.2)
theorem Cx.sn {v:Value} {E:Enc α} {ty:Nat} {xs:List α} (c:Cx ops sp In a0 w0 bf j o done a w τ) (st:St N W n a1 w0 τ0) (hx:Ext aY w w') (h:oN E ty w w' v xs):(dI E (Gn F W) v xs).P (eY τ w') w':=⟨h.1.sl,fun hn=>by
  have hlt:=h.1.sl.lt hn;have hge:w.heap.size≤(cU v).block:=by
    rcases h.1.2 with ⟨_,h0⟩ | ⟨g,cap,cur,hv,_⟩
    · exact absurd (bS h0) hn
    · subst hv;exact h.2 g rfl
  exact c.gz (c.hW st) hx.size _ (.inr hge) hlt⟩
end
theorem dX.blk {α:Type} {E:Enc α} {ty:Nat} {xs:List α} {T:aP} {v:Value} {w:World} (h:dX E ty xs T v w) (hn:xs≠ []):T (cU v).block:=by
  rcases h.1.2 with ⟨_,h0⟩ | ⟨g,cap,cur,hv,_⟩
  · exact absurd (bS h0) hn
  · subst hv;exact h.2 g rfl
theorem se {G Z:aP} {w:World}:(ny G []).P Z w:=fun t h=>by cases h
theorem om {G Z:aP} {w:World} {t:Tr} {ts:List Tr} (h:(ia G t).P Z w) (h2:(ny G ts).P Z w):(ny G (t::ts)).P Z w:=fun x hx=>by
  rcases List.mem_cons.1 hx with hx | hx
  · subst hx;exact h
  · exact h2 x hx
def dp (k:Int) (ch:ByteArray) (ng:Bool) (mn mx:Int) (lz:Bool):Tr:=⟨k,ch,ng,Sv.nil,[],mn,mx,lz,Sv.nil,[]⟩
theorem fE (F:aP) (w:World) (k:Int) (ch:ByteArray) (ng:Bool) (mn mx:Int) (lz:Bool):TrT F w (dp k ch ng mn mx lz):= .mk (SlT.nil _ _) (fun h=>absurd rfl h) (SlT.nil _ _) (fun h=>absurd rfl h) (fun k h=>by cases h)
def ni (k:Int) (ks:List Tr):Tr:=⟨k,⟨#[]⟩,false,Sv.nil,[],0,0,false,Sv.nil,ks⟩
def ic (k:Int) (l:List Tr):List Tr:=l.flatMap fun x=>if x.k=k then x.kids else [x]
def lg (l:List Tr):Tr:=match ic 0 l with
  | [x] => x
  | ks => ni 0 ks
def md (l:List Tr):Tr:=match ic 1 l with
  | [] => ni 0 []
  | [x] => x
  | ks => ni 1 ks
theorem mP (k:Int) (l:List Tr) (x:Tr):ic k (l++ [x])=ic k l++if x.k=k then x.kids else [x]:=by simp [ic]
theorem uL {ts xs us:List Tr} {k:Int} {n:Nat} (h:n < xs.length) (hq:ts.map er=ic k ((xs.take n).map er)) {t:Tr} (ht:er t=er (nth xs (n:Int))) (hk:t.k=k) (hu:us=t.kids):(ts++us).map er=ic k ((xs.take (n+1)).map er):=by
  subst hu;rw [fc h,bU,bU,bu,bR,mP,←ht,yt,if_pos hk,←hq,mI]
theorem sC {ts xs:List Tr} {k:Int} {n:Nat} (h:n < xs.length) (hq:ts.map er=ic k ((xs.take n).map er)) {t:Tr} (ht:er t=er (nth xs (n:Int))) (hk:¬t.k=k):(ts++ [t]).map er=ic k ((xs.take (n+1)).map er):=by
  rw [fc h,bU,bU,bu,bR,bu,bR,mP,←ht,yt,if_neg hk,←hq]
theorem re (t:Tr):(t.kids.length:Int)+1≤ck t:=by
  have h:∀ks:List Tr,(ks.length:Int)≤di (ks.map ck):=by
    intro ks;induction ks using fv with
    | h0 => exact fi _
    | h1 ks x ih =>
      rw [bU,bu,bR,ey,cg];have:=iT x;simp;omega
  have:=gF t;have:=h t.kids;omega
def zt (rs:List (ByteArray × ByteArray)):Int:=di (rs.map fun r=>1+(r.1.size:Int)+(r.2.size:Int))
def fD:Tr→Int:=lE fun t l=>1+(t.ch.size:Int)+zt t.rows+di l
theorem lh (t:Tr):fD t=1+(t.ch.size:Int)+zt t.rows+di (t.kids.map fD):=iS _ t
theorem nT (rs:List (ByteArray × ByteArray)):(rs.length:Int)≤zt rs:=by
  unfold zt;induction rs using fv with
  | h0 => exact fi _
  | h1 rs r ih => rw [bU, bu, bR, ey, cg]; simp; omega
theorem Cu {rs:List (ByteArray × ByteArray)} {r:ByteArray × ByteArray} (h:r ∈ rs):(r.1.size:Int)+(r.2.size:Int)≤zt rs:=by
  have:=ra (xs:=rs.map fun r=>1+(r.1.size:Int)+(r.2.size:Int)) (fun x hx=>by obtain ⟨q,_,rfl⟩:=List.mem_map.1 hx;omega) (List.mem_map.2 ⟨r,h,rfl⟩);unfold zt;omega
theorem lF (t:Tr):1≤fD t:=by
  induction t using Tr.ind with
  | h t ih =>
    rw [lh];have:0≤di (t.kids.map fD):=iA fun x hx=>by
      obtain ⟨k,hk,rfl⟩:=List.mem_map.1 hx;have:=ih k hk;omega
    have:=nT t.rows;omega
theorem mQ {t k:Tr} (h:k ∈ t.kids):fD k < fD t:=by
  have h1:=mO (f:=fD) (fun q _=>by have:=lF q;omega) h;have:=lh t;have:=nT t.rows;omega
theorem rf (t:Tr):fD (er t)=fD t:=oY (fun t l=>by cases t;rfl) t
theorem rh (t:Tr):ck t≤fD t:=by
  induction t using Tr.ind with
  | h t ih =>
    have h1:∀ks:List Tr,(∀k ∈ ks,ck k≤fD k)→di (ks.map ck)≤di (ks.map fD):=by
      intro ks;induction ks using fv with
      | h0 => intro _; exact fi _
      | h1 ks x ih2 =>
        intro h;rw [bU,bU,bu,bR,bu,bR,ey,ey];have:=ih2 fun k hk=>h k (by simp [hk]);have:=h x (by simp);omega
    have:=h1 t.kids ih;have:=nT t.rows;rw [gF,lh];omega
theorem ef (t:Tr):(t.kids.length:Int)+1≤fD t∧(t.rows.length:Int)≤fD t∧ck t≤fD t∧(t.ch.size:Int)≤fD t:=by
  have h0:=nT t.rows;have h1:=re t;have h2:=rh t;have h3:=lh t;have h4:0≤di (t.kids.map fD):=iA fun x hx=>by
    obtain ⟨k,hk,rfl⟩:=List.mem_map.1 hx;have:=lF k;omega
  omega
theorem xf {t u:Tr} (h:er t=er u):fD t=fD u:=by rw [←rf t,h,rf]
theorem zT (k:Int) (l:List Tr):(((ic k l).length:Nat):Int)≤di (l.map ck):=by
  induction l using fv with
  | h0 => exact fi _
  | h1 l x ih =>
    rw [mP,bU,bu,bR,ey,cg];have h1:=re x;have h2:=iT x;split <;> simp <;> omega
theorem yv (l:List Tr):(l.map er).map ck=l.map ck:=by
  rw [mu];exact jg fun t _=>yu t
theorem yw {ts xs:List Tr} {k:Int} {n:Nat} (hq:ts.map er=ic k ((xs.take n).map er)):(ts.length:Int)≤di ((xs.take n).map ck):=by
  have h1:=zT k ((xs.take n).map er);rw [←hq,yv] at h1;simpa using h1
theorem Cv {ts l:List Tr} (h:ts.map er=ic 0 l) (h1:ts.length=1):er (nth ts 0)=lg l:=by
  match ts,h1 with
  | [x], _ =>
    unfold lg;rw [←h];rfl
theorem zU {ts l:List Tr} (h:ts.map er=ic 0 l) (h1:¬ts.length=1):ni 0 (ts.map er)=lg l:=by
  unfold lg;rw [←h];match ts,h1 with
  | [], _ => rfl
  | [x], h1 => exact absurd rfl h1
  | x :: y :: l, _ => rfl
theorem zV {ts l:List Tr} (h:ts.map er=ic 1 l) (h1:ts.length=0):ni 0 []=md l:=by
  match ts,h1 with
  | [], _ =>
    unfold md;rw [←h];rfl
theorem Cw {ts l:List Tr} (h:ts.map er=ic 1 l) (h1:ts.length=1):er (nth ts 0)=md l:=by
  match ts,h1 with
  | [x], _ =>
    unfold md;rw [←h];rfl
theorem zW {ts l:List Tr} (h:ts.map er=ic 1 l) (h0:¬ts.length=0) (h1:¬ts.length=1):ni 1 (ts.map er)=md l:=by
  unfold md;rw [←h];match ts,h0,h1 with
  | [], h0, _ => exact absurd rfl h0
  | [x], _, h1 => exact absurd rfl h1
  | x :: y :: l, _, _ => rfl
theorem zX {G:aP} {w:World} {T:aP} {kv:Sv} {ty:Nat} {ts:List Tr} {k:Int} (ho:dX oM ty ts T kv.v w) (hT:∀g,T g→G g) (ht:∀t ∈ ts,TrT G w t):TrT G w ⟨k,⟨#[]⟩,false,Sv.nil,[],0,0,false,kv,ts⟩:=
  .mk (SlT.nil _ _) (fun h=>absurd rfl h) ho.1.sl (fun hn=>hT _ (ho.blk hn)) ht
theorem DY {k:Int} {kv:Sv} {ts:List Tr}:er ⟨k,⟨#[]⟩,false,Sv.nil,[],0,0,false,kv,ts⟩=ni k (ts.map er):=by rw [oQ];rfl
def fV (k:Int) (ch:ByteArray) (ng:Bool) (mn mx:Int) (lz:Bool) (kv:Sv) (ks:List Tr):Tr:=⟨k,ch,ng,Sv.nil,[],mn,mx,lz,kv,ks⟩
theorem lG (k:Int) (ch:ByteArray) (ng:Bool) (mn mx:Int) (lz:Bool) (kv:Sv) (ks:List Tr):er (fV k ch ng mn mx lz kv ks)=fV k ch ng mn mx lz Sv.nil (ks.map er):=by rw [oQ];rfl
theorem qd {G Z:aP} {w:World} {k:Int} {ch:ByteArray} {ng:Bool} {mn mx:Int} {lz:Bool} {kv:Sv} {ks:List Tr} (h:(dI oM G kv.v ks).P Z w) (h2:(ny G ks).P Z w):(ia G (fV k ch ng mn mx lz kv ks)).P Z w:=
  .mk (SlT.nil _ _) (fun h=>absurd rfl h) h.1 h.2 h2
section
variable {N:aP} {P:Program} {ops:Array Oper} {sp:List (Spec N)} {In:Nat→Ini N} {a0:Act} {w0 W:World} {bf:List Nat} {j:Nat} {o:Oper} {s:Spec N} {pc:Prop} {n0:Nat} {a1:Act} {τ0:Nat→aP} {F:aP} {β:Type}
theorem tH {α:Type} {E:Enc α} {ty e t n:Nat} {xs:List α} {parts:Array (Nat × Operand)} {z:Value} {cells:Array Value} (st:St N W n0 a1 w0 τ0) (hgd:uE ops sp bf j o pc) (ho:o.op= .buildSlice ty n parts)
    (hty:P.underlying ty=some (.slice e)) (hsz:∀w,(sizeOf e).run P w= .ok E.sz w) (hz:∀w,(zeroValue e).run P w= .ok z w) (hn0:0 < n) (hsmall:n * E.sz≤16777216) (hn:n=xs.length) (hc:cells.toList=E.row xs)
    (h:∀{done a w τ},Cx ops sp In a0 w0 bf j o done a w τ→pc→Instr.fill (fun i=>some (i * E.sz,E.sz)) ((Array.range (n * E.sz)).map (z.cells[· % z.cells.size]!)) (parts.map fun (i,x)=>(i,a.eval x)).toList=some cells)
    (hs:s=eP N t pc (fun b:Sv=>b.v) (fun _=>True) (fun b=>dI E (Gn F W) b.v xs):=by exact rfl) (hd:o.dst=some t:=by exact rfl):Ob ops sp In a0 w0 P bf j o s:=by
  subst hs;intro done a w τ c;refine ⟨fun hw=> ?_,fun hw=>⟨Ext.refl _ _,fun hp=>by rw [(hgd.known c).2 hp] at hw;cases hw⟩⟩;have hp:=(hgd.known c).1 hw;have hf:=h c hp;have h2:¬(n * E.sz > 2 ^ 24):=by omega
  have h0:¬(n * E.sz=0):=by have:=Nat.mul_pos hn0 E.pos;omega
  have hr:(execOp a.eval o).run P w= .ok (.value (.slice (some ⟨w.heap.size,0,none⟩) n n)) (w.alloc (.cells cells e)):=by
    simp only [execOp,ho,Instr.buildSlice,Sem.run_bind,run_underlying hty,Result.andThen_ok,hsz,h2,if_false,Sem.run_pure,h0,hz];rw [hf];rfl
  have hl:cells.size=n * E.sz:=by rw [←fh,hc,E.row_length,←hn]
  have hown:iQ E e (w.alloc (.cells cells e)) (.slice (some ⟨w.heap.size,0,none⟩) n n) xs:=⟨E.row_length xs,.inr ⟨w.heap.size,n,cells,by rw [←hn],dZ _,heap_alloc_new w _,by rw [←hn];exact bq _,by have:=jw n E.pos;simp only [maxLen];omega,hl,by rw [hc,←E.row_length];exact kc⟩⟩;have hx:Ext aY w (w.alloc (.cells cells e)):=Ext.alloc _ _ _;refine fN hr ⟨_,rfl,hx,fun _=>⟨⟨some ⟨w.heap.size,0,none⟩,n,n⟩,?_,ax,?_⟩⟩
  · show aT (a.put o.dst _) t=_;rw [hd,dx a t t _ (c.lt t hd),if_pos rfl];rfl
  · exact c.sn st hx ⟨hown,fun g hg=>by have hg':some w.heap.size=some g:=hg;simp only [Option.some.injEq] at hg';omega⟩
theorem zY {t:Nat} {f:β→Value} {Ψ:β→Prop} {Φ:β→ZP} (hgd:uE ops sp bf j o pc) (h:∀{done a w τ},Cx ops sp In a0 w0 bf j o done a w τ→pc→∃b,Ψ b∧(Φ b).P (eY τ w) w∧cm P a o w (f b))
    (hs:s=eP N t pc f Ψ Φ:=by exact rfl) (hd:o.dst=some t:=by exact rfl):Ob ops sp In a0 w0 P bf j o s:=by
  subst hs;intro done a w τ c;refine ⟨fun hw=> ?_,fun hw=>⟨Ext.refl _ _,fun hp=>by rw [(hgd.known c).2 hp] at hw;cases hw⟩⟩;obtain ⟨b,hq,hz,hr⟩:=h c ((hgd.known c).1 hw);refine lc hr ⟨_,rfl,Ext.refl _ _,fun _=>⟨b,?_,hq,hz⟩⟩;show aT (a.put o.dst _) t=_;rw [hd,dx a t t _ (c.lt t hd),if_pos rfl]
end
theorem kB:di []=0:=rfl
theorem jG (x:Int) (l:List Int):di (x::l)=x+di l:=by
  rw [show x::l=[x]++l from rfl,jS];simp [di]
theorem xg (k:Int) (ch:ByteArray) (ng:Bool) (mn mx:Int) (lz:Bool):fD (dp k ch ng mn mx lz)=1+(ch.size:Int):=by rw [lh];simp [dp,zt,di]
theorem Cy (k:Int) (ch:ByteArray) (ng:Bool) (mn mx:Int) (lz:Bool) (kv:Sv) (ks:List Tr):fD (fV k ch ng mn mx lz kv ks)=1+(ch.size:Int)+di (ks.map fD):=by rw [lh];simp [fV,zt,di]
theorem zZ (k:Int) (ks:List Tr):fD (ni k ks)=1+di (ks.map fD):=by
  rw [lh];have h:((⟨#[]⟩:ByteArray).size:Int)=0:=rfl;simp [ni,zt,di,h]
theorem xh (k:Int) (l:List Tr):di ((ic k l).map fD)≤di (l.map fD):=by
  induction l using fv with
  | h0 => exact fi _
  | h1 l x ih =>
    rw [mP,bU,bU,bu,bR,jS,ey];have h1:=lh x;have h2:=nT x.rows;split
    · omega
    · rw [bu,bR];simp [di] at ih ⊢;omega
theorem tI (l:List Tr):(l.map er).map fD=l.map fD:=by
  rw [mu];exact jg fun t _=>rf t
theorem we (l:List Tr):fD (lg l)≤1+di (l.map fD):=by
  have h:=xh 0 l;unfold lg;split
  · rename_i x hx;rw [hx] at h;simp [di] at h ⊢;omega
  · rename_i ks _;rw [zZ];omega
theorem Aa (l:List Tr):fD (md l)≤1+di (l.map fD):=by
  have h:=xh 1 l;unfold md;split
  · rename_i hx;rw [hx] at h;rw [zZ];simp [di] at h ⊢;omega
  · rename_i x hx;rw [hx] at h;simp [di] at h ⊢;omega
  · rename_i ks _ _;rw [zZ];omega
theorem Cz {t:Tr} {l:List Tr} (h:er t=lg (l.map er)):fD t≤1+di (l.map fD):=by
  have:=we (l.map er);rw [tI] at this
  rw [←rf t,h];exact this
theorem CA {t:Tr} {l:List Tr} (h:er t=md (l.map er)):fD t≤1+di (l.map fD):=by
  have:=Aa (l.map er);rw [tI] at this
  rw [←rf t,h];exact this
end
section
open Go.RowKit
theorem cC {P:Program} {a:Act} {o:Oper} {w:World} {x:Operand} {v:Value} {p:Addr} (ho:o.op= .nilCheck x) (hx:a.eval x=v) (hv:v= .pointer (some p)):cm P a o w v:=by
  subst hv;simp [cm,execOp,ho,hx]
def Al:aP:=fun _=>True
def bJ (v:Value):aP:=fun g=>v= .pointer (some ⟨g,0,none⟩)
theorem ce.foot {ty:Nat} {cells:List Value} {T:aP} {v:Value} {w:World} (h:ce ty cells T v w):ce ty cells (bJ v) v w:=by
  obtain ⟨g,rfl,hlt,_,hg⟩:=h;exact ⟨g,rfl,hlt,rfl,hg⟩
theorem ce.own {ty:Nat} {cells:List Value} {T:aP} {v:Value} {w:World} (h:ce ty cells T v w) {g:Nat} (hg:bJ v g):T g:=by
  obtain ⟨g',rfl,_,hT,_⟩:=h;unfold bJ at hg;simp at hg;rw [←hg];exact hT
theorem ce.back {ty ty':Nat} {cells cells':List Value} {T:aP} {v:Value} {w w':World} (h:ce ty cells (bJ v) v w') (h':ce ty' cells' T v w):ce ty cells T v w':=by
  obtain ⟨g,hv,hlt,hT,hg⟩:=h;exact ⟨g,hv,hlt,h'.own hT,hg⟩
theorem ce.ext {ty:Nat} {cells:List Value} {T:aP} {v:Value} {w w1 w2:World} (h:ce ty cells T v w) (hx:Ext (bJ v) w1 w2):Ext T w1 w2:=hx.mono fun _ _ hg=>h.own hg
theorem ce.lt {ty:Nat} {cells:List Value} {T:aP} {v:Value} {w:World} (h:ce ty cells T v w):∀g,bJ v g→g < w.heap.size:=fun g hg=>by
  obtain ⟨g',rfl,hlt,_,_⟩:=h;unfold bJ at hg;simp at hg;omega
structure RdR (ty:Nat) (v:Value) (cv:Sv) (cs:List ByteArray) (i:Nat) (w:World):Prop where
  box:ce ty [cv.v,.int .i64 (i:Int)] (bJ v) v w
  sl:SlT fo w cv.v cs
  ne:cs≠ []→¬bJ v (cU cv.v).block
theorem kE {ty:Nat} {v:Value} {cv:Sv} {cs:List ByteArray} {i:Nat} {w:World} {T Z:aP} (hb:ce ty [cv.v,.int .i64 (i:Int)] T v w) (hz:(dI fo Al cv.v cs).P Z w) (hd:∀g,T g→¬Z g):RdR ty v cv cs i w:=
  ⟨hb.foot,hz.1,fun hn hg=>hd _ (hb.own hg) (hz.2 hn).1⟩
theorem RdR.inz {ty:Nat} {v:Value} {cv:Sv} {cs:List ByteArray} {i:Nat} {w:World} {n:Nat} {a:Act} {τ0:Nat→aP} (h:RdR ty v cv cs i w) (st:St (fun k=>bJ v k∨w.heap.size≤k) w n a w τ0):Fz (dI fo Al cv.v cs) τ0 w:=
  ⟨h.sl,fun hn=>⟨⟨h.sl.lt hn,fun s hs=>by
    rcases (st.bnd s _ hs).1 with h1 | h1
    · exact h.ne hn h1
    · have:=h.sl.lt hn;omega⟩,ax⟩⟩
def ja (ty:Nat) (N:aP) (tag t:Nat) (p:Value) (cells:List Value) (v:Value):Spec N:=⟨some tag,t,fun _ T u w=>u=v∧ce ty cells T p w,fun _ _ T u w w' _ h hr=>⟨hr.1,kA T p w w' h.less hr.2⟩,fun u=>u=v,fun _ _ _ _ h=>h.1⟩
section
variable {N:aP} {P:Program} {ops:Array Oper} {sp:List (Spec N)} {In:Nat→Ini N} {a0:Act} {w0 W:World} {bf:List Nat} {j:Nat} {o:Oper} {s:Spec N} {done:Nat→Bool} {a:Act} {w:World} {τ:Nat→aP}
theorem gV {ty tag t:Nat} {p v:Value} {cells:List Value} (h:∀{done a w τ},Cx ops sp In a0 w0 bf j o done a w τ→∃g args,fx P a o w g args∧Calls P g args w (fun e w'=>e= .returned v∧Ext (τ tag) w w'∧ce ty cells (τ tag) p w'))
    (hs:s=ja ty N tag t p cells v:=by exact rfl) (hg:o.guard=none:=by exact rfl) (hd:o.dst=some t:=by exact rfl):Ob ops sp In a0 w0 P bf j o s:=by
  subst hs;refine jk (tag:=tag) hg rfl fun done a w τ c=> ?_;obtain ⟨g,args,h1,h2⟩:=h c;refine ⟨g,args,h1,h2.mono fun e w' ⟨he,hx,hb⟩=>⟨v,he,hx,τ tag,fun g h=> .inl h,?_,hb⟩⟩;show aT (a.put o.dst v) t=v;rw [hd,dx a t t _ (c.lt t hd),if_pos rfl]
theorem Cx.dv {ty t slot:Nat} {p v:Value} {cells:List Value} (c:Cx ops sp In a0 w0 bf j o done a w τ) (i:Nat) (hs:sp[i]? =some (ja ty N t slot p cells v)) (hb:(bf.getD j 0).testBit i=true:=by exact rfl):a.eval (.tmp slot)=v:=c.J.pur i _ hs (c.pre i hb)
theorem Cx.db {ty t slot:Nat} {p v:Value} {cells:List Value} (c:Cx ops sp In a0 w0 bf j o done a w τ) (i:Nat) (hs:sp[i]? =some (ja ty N t slot p cells v)) (hl:bF (sp.map (·.tag)) t j=some i:=by exact rfl) (hord:js (sp.map (·.tag)) bf t j=true:=by kernel_rfl):ce ty cells (τ t) p w:=(c.res i t _ hs hl hord).2
theorem gW {f:FuncId} {args:Array Value} {ty ty':Nat} {p v:Value} {cells cells':List Value} {T:aP} (hb:ce ty' cells' T p w) (h:Calls P f args w (fun e w'=>e= .returned v∧Ext (bJ p) w w'∧ce ty cells (bJ p) p w')):Calls P f args w (fun e w'=>e= .returned v∧Ext T w w'∧ce ty cells T p w'):=
  h.mono fun e w' ⟨h1,h2,h3⟩=>⟨h1,hb.ext h2,h3.back hb⟩
theorem Cx.tzs {t:Tr} {F:aP} {n:Nat} {a1:Act} {τ0:Nat→aP} {w':World} (c:Cx ops sp In a0 w0 bf j o done a w τ) (st:St N W n a1 w0 τ0) (hx:w.heap.size≤w'.heap.size) (h:TrT (Gn (fun g=>eY τ w g∧Gn F W g) w) w' t):(ia (Gn F W) t).P (eY τ w') w':=TrT.mono h (c.gz (c.hW st) hx)
theorem Cx.tns {t:Tr} {F:aP} {n:Nat} {a1:Act} {τ0:Nat→aP} {w':World} (c:Cx ops sp In a0 w0 bf j o done a w τ) (st:St N W n a1 w0 τ0) (hx:w.heap.size≤w'.heap.size) (h:TrT (Gn aY w) w' t):(ia (Gn F W) t).P (eY τ w') w':=c.tzs st hx (h.mono fun g hg _=>hg.elim (fun h=>h.elim) .inr)
theorem Cx.sns {α:Type} {E:Enc α} {xs:List α} {v:Value} {F:aP} {n:Nat} {a1:Act} {τ0:Nat→aP} {w':World} (c:Cx ops sp In a0 w0 bf j o done a w τ) (st:St N W n a1 w0 τ0) (hx:w.heap.size≤w'.heap.size) (h:SlT E w' v xs∧(xs≠ []→w.heap.size≤(cU v).block)):(dI E (Gn F W) v xs).P (eY τ w') w':=
  ⟨h.1,fun hn=>c.gz (c.hW st) hx _ (.inr (h.2 hn)) (h.1.lt hn)⟩
end
section
variable {N:aP} {l:List Oper} {sp:List (Spec N)} {il:List (Ini N)} {a0 a:Act} {w:World} {τ:Nat→aP}
theorem Fin.dv (h:Fin l sp il a0 a w τ) {ty t slot:Nat} {p v:Value} {cells:List Value} (j:Nat) (hs:sp[j]? =some (ja ty N t slot p cells v)) (hl:bF (sp.map (·.tag)) t sp.length=some j:=by exact rfl):aT a slot=v:=(h.res j t _ hs rfl hl).1
theorem Fin.db (h:Fin l sp il a0 a w τ) {ty t slot:Nat} {p v:Value} {cells:List Value} (j:Nat) (hs:sp[j]? =some (ja ty N t slot p cells v)) (hl:bF (sp.map (·.tag)) t sp.length=some j:=by exact rfl):ce ty cells (τ t) p w:=(h.res j t _ hs rfl hl).2
end
theorem ce.cast {ty:Nat} {cs cs':List Value} {T:aP} {v:Value} {w:World} (h:ce ty cs T v w) (e:cs'=cs):ce ty cs' T v w:=e ▸ h
theorem jK {P:Program} {fn:Func} {R:Ending→World→Prop} {a:Act} {w:World} {t t' t2:Nat} {v v' v2:Value} (hr:fn.results=#[.tmp t,.tmp t',.tmp t2]) (hd:a.defers=[]) (hv:aT a t=v) (hv':aT a t'=v') (hv2:aT a t2=v2) (h:R (.returned (.tuple #[v,v',v2])) w):bodyPost P fn R .ret a w:=
  bodyPost_ret (v:= .tuple #[v,v',v2]) (by
    have h0:(a.tmps[t]?).getD undef=v:=by rw [←aV];exact hv
    have h1:(a.tmps[t']?).getD undef=v':=by rw [←aV];exact hv'
    have h2:(a.tmps[t2]?).getD undef=v2:=by rw [←aV];exact hv2
    simp only [results,hr]
    simp [h0,h1,h2]) hd h
def Ab (v:Value) (w:World):Nat:=match w.cell? ((cU v).add 1) with
  | some (.int _ n) => n.toNat
  | _ => 0
theorem lH {ty:Nat} {v x:Value} {i:Nat} {T:aP} {w:World} (h:ce ty [x,.int .i64 (i:Int)] T v w):Ab v w=i:=by
  unfold Ab;rw [h.cell (j:=1) rfl];simp
section
variable {N:aP} {P:Program} {ops:Array Oper} {sp:List (Spec N)} {In:Nat→Ini N} {a0:Act} {w0:World} {bf:List Nat} {j:Nat} {o:Oper} {s:Spec N}
theorem qe (gi:Nat) {tg t:Nat} {want b:Bool} (hs:s=B.det N t undef:=by exact rfl) (hg:o.guard=some (gi,want):=by exact rfl) (hd:o.dst=some t:=by exact rfl) (hgd:((ops[gi]?).bind (·.dst))=some tg:=by exact rfl) (hgs:sp[gi]? =some (B.det N tg (.bool b)):=by exact rfl) (hb:(bf.getD j 0).testBit gi=true:=by exact rfl) (hne:b≠want:=by decide):Ob ops sp In a0 w0 P bf j o s:=by
  intro done a w τ c;subst hs;have hv:=qS (c.v gi hgs hb);refine ⟨fun hn=> ?_,fun _=>⟨Ext.refl _ _,?_⟩⟩
  · exfalso;cases want <;> cases b <;> simp [Region.wanted,hg,yielded,hgd,hv] at hn hne
  · show aT (a.put o.dst undef) t=undef;rw [hd,dx a t t _ (c.lt t hd),if_pos rfl]
theorem ri (gi:Nat) {tg t:Nat} {want:Bool} (hs:s=B.det N t undef:=by exact rfl) (hg:o.guard=some (gi,want):=by exact rfl) (hd:o.dst=some t:=by exact rfl) (hgd:((ops[gi]?).bind (·.dst))=some tg:=by exact rfl) (hgs:sp[gi]? =some (B.det N tg undef):=by exact rfl) (hb:(bf.getD j 0).testBit gi=true:=by exact rfl):Ob ops sp In a0 w0 P bf j o s:=by
  intro done a w τ c;subst hs;have hv:=so (c.v gi hgs hb);have hy:yielded ops a.tmps gi=none:=by
    cases h':a.tmps[tg]? with
    | none => simp [yielded, hgd, h']
    | some u => cases u <;> first | exact absurd h' (hv _) | simp [yielded, hgd, h']
  refine ⟨fun hn=> ?_,fun _=>⟨Ext.refl _ _,?_⟩⟩
  · exfalso;simp [Region.wanted,hg,hy] at hn
  · show aT (a.put o.dst undef) t=undef;rw [hd,dx a t t _ (c.lt t hd),if_pos rfl]
end
theorem FQ {G Z:aP} {w:World} {ts us:List Tr} (h:(ny G ts).P Z w) (h2:(ny G us).P Z w):(ny G (ts++us)).P Z w:=fun x hx=>(List.mem_append.1 hx).elim (h x) (h2 x)
end
section
open Srt
abbrev Rw:=ByteArray × ByteArray
theorem oZ {α:Type} [Inhabited α] {xs:List α} {k:Nat} (h:k < xs.length):nth xs (k:Int) ∈ xs:=gT (vY h)
theorem nU {f:Int→Bool} {k:Nat} (h:∀i < k,f ((i:Nat):Int)=false) (h2:f (k:Int)=false):∀i < k+1,f ((i:Nat):Int)=false:=by
  intro i hi;by_cases e:i=k
  · subst e;exact h2
  · exact h i (by omega)
def pa (xs:List Rw):Prop:=∀r ∈ xs,r.1.size≤1000000∧r.2.size≤1000000
theorem rj {xs:List Rw} (h:pa xs) {k:Nat}:k < xs.length→(nth xs (k:Int)).1.size≤1000000∧(nth xs (k:Int)).2.size≤1000000:=fun hk=>h _ (oZ hk)
def fe (r:Rw):Bool:=(eb r.1&&eb r.2)&&oC r.1 r.2
def FR (p q:Rw):Int:=Gl [uI p.1 q.1,uI p.2 q.2]
def nz (p q:Rw):Bool:=decide (FR p q < 0)
theorem xi {x y:ByteArray}:uI x y < 0↔nn x y=true:=by
  unfold uI;split
  · rename_i h;simp [h]
  · rename_i h;split <;> simp [h]
theorem CB {x y:ByteArray}:uI x y=0↔x=y:=by
  unfold uI;constructor
  · intro h;rcases qt x y with h' | h' | h'
    · rw [if_pos h'] at h;cases h
    · exact h'
    · rw [if_neg (by rw [sy h'];decide),if_pos h'] at h;cases h
  · rintro rfl
    rw [if_neg (by rw [oV];decide),if_neg (by rw [oV];decide)]
theorem xj (p q:Rw):nz p q=true↔nn p.1 q.1=true∨(p.1=q.1∧nn p.2 q.2=true):=by
  unfold nz FR Gl;rw [ai,←xi,←xi,←CB];generalize uI p.1 q.1=a;generalize uI p.2 q.2=b;have hn:∀x:Int,¬x=0→(x !=0)=true:=fun x h=>by simpa using h
  by_cases h1:a=0
  · subst h1;by_cases h2:b=0
    · subst h2;simp [List.find?]
    · simp [List.find?,hn b h2]
  · simp [List.find?,hn a h1,h1]
def uw (xs:List Rw) (c:ByteArray):Bool:=xs.any fun r=>oC r.1 c&&oC c r.2
theorem xk {xs:List Rw} {c:ByteArray} {k:Nat} (h:k < xs.length) (hc:(oC (nth xs (k:Int)).1 c&&oC c (nth xs (k:Int)).2)=true):uw xs c=true:=List.any_eq_true.2 ⟨_,oZ h,hc⟩
theorem Ac {xs:List Rw} {c:ByteArray} {k:Nat} (h:xs.length≤k) (hq:∀i < k,(oC (nth xs ((i:Nat):Int)).1 c&&oC c (nth xs ((i:Nat):Int)).2)=false):uw xs c=false:=by
  unfold uw;rw [jO];intro r hr;obtain ⟨i,hi,rfl⟩:=kJ hr;have:=hq i (by omega);rw [qV (bE hi)] at this
  rw [this];decide
def sf (xs:List Rw) (n f:Bool) (c:ByteArray):Bool:= !((if f=true then (uw xs c || uw xs (fS c)) || uw xs (DV c) else uw xs c)==n)
def nA (xs:List Rw) (i:Int):Bool:= !fe (nth xs i) || (decide (0 < i)&&oC (nth xs i).1 (nth xs (i - 1)).2)
def lS (xs:List Rw):Bool:=(List.range xs.length).all fun i=> !nA xs (i:Int)
theorem sD {xs:List Rw} {k:Nat} (h:k < xs.length) (hb:nA xs (k:Int)=true):lS xs=false:=by
  unfold lS;rw [List.all_eq_false];exact ⟨k,by simpa using h,by simp [hb]⟩
theorem oH {xs:List Rw} {k:Nat} (h:∀i < k,nA xs ((i:Nat):Int)=false) (hk:xs.length≤k):lS xs=true:=by
  unfold lS;rw [cW];intro i hi;simp at hi;simp [h i (by omega)]
theorem rl (xs:List Rw) (i:Int):(((!eb (nth xs i).1 || !eb (nth xs i).2) || !oC (nth xs i).1 (nth xs i).2) || (decide (0 < i)&&oC (nth xs i).1 (nth xs (i - 1)).2))=nA xs i:=by
  unfold nA fe;cases eb (nth xs i).1 <;> cases eb (nth xs i).2 <;> cases oC (nth xs i).1 (nth xs i).2 <;> rfl
theorem xl (r:Rw):((!eb r.1 || !eb r.2) || !oC r.1 r.2)= !fe r:=by
  unfold fe;cases eb r.1 <;> cases eb r.2 <;> cases oC r.1 r.2 <;> rfl
theorem Ad {α:Type} [Inhabited α] {f:α→Bool} {xs:List α} {k:Nat} (h:k < xs.length) (hp:f (nth xs (k:Int))=true):(xs.take (k+1)).filter f=(xs.take k).filter f++ [nth xs (k:Int)]:=by
  rw [fc h,List.filter_append];simp [hp]
theorem uM {α:Type} [Inhabited α] {f:α→Bool} {xs:List α} {k:Nat} (h:k < xs.length) (hp:f (nth xs (k:Int))=false):(xs.take (k+1)).filter f=(xs.take k).filter f:=by
  rw [fc h,List.filter_append];simp [hp]
theorem yx {α:Type} {f:α→Bool} {xs:List α} {k:Nat}:((xs.take k).filter f).length≤xs.length:=by
  have h1:=List.length_filter_le f (xs.take k);have h3:=List.length_take_le' k xs;omega
theorem nB (xs:List Rw):(eG nz (xs.filter fe)).length≤xs.length:=by
  rw [oU];exact List.length_filter_le _ _
def uN (acc:List Rw) (p:Rw):Bool:=decide (0≤(acc.length:Int) - 1)&&oC p.1 (nth acc ((acc.length:Int) - 1)).2
def qf (acc:List Rw) (p:Rw):List Rw:=
  if uN acc p=true then acc.set ((acc.length:Int) - 1).toNat ((nth acc ((acc.length:Int) - 1)).1,qk (nth acc ((acc.length:Int) - 1)).2 p.2) else acc++ [p]
def gk (xs:List Rw):List Rw:=xs.foldl qf []
theorem mR (xs:List Rw) (p:Rw):gk (xs++ [p])=qf (gk xs) p:=by simp [gk]
theorem sE {xs:List Rw} {k:Nat} (h:k < xs.length) (hc:uN (gk (xs.take k)) (nth xs (k:Int))=true):
    gk (xs.take (k+1))=(gk (xs.take k)).set (((gk (xs.take k)).length:Int) - 1).toNat ((nth (gk (xs.take k)) (((gk (xs.take k)).length:Int) - 1)).1,qk (nth (gk (xs.take k)) (((gk (xs.take k)).length:Int) - 1)).2 (nth xs (k:Int)).2):=by
  rw [fc h,mR,qf,if_pos hc]
theorem rm {xs:List Rw} {k:Nat} (h:k < xs.length) (hc:uN (gk (xs.take k)) (nth xs (k:Int))=false):gk (xs.take (k+1))=gk (xs.take k)++ [nth xs (k:Int)]:=by
  rw [fc h,mR,qf,if_neg (by rw [hc];decide)]
theorem uO (xs:List Rw):(gk xs).length≤xs.length:=by
  induction xs using fv with
  | h0 => simp [gk]
  | h1 xs x ih =>
    rw [mR,qf];split
    · simp;omega
    · simp;omega
theorem wg {xs:List Rw} {k:Nat}:(gk (xs.take k)).length≤k:=by
  have h1:=uO (xs.take k);have h2:=List.length_take_le k xs;omega
theorem pb {acc:List Rw} {p:Rw} {b:Bool} (h:(decide ((0:Int) < (acc.length:Int))&&oC p.1 (nth acc ((acc.length:Int) - 1)).2)=b):uN acc p=b:=by
  rw [←h];unfold uN;congr 1;exact decide_eq_decide.2 (by omega)
def gy (xs:List Rw):List Rw:=gk (eG nz (xs.filter fe))
def sg (x y:Rw):Bool:=nn x.1 y.1 || (ix x.1 y.1&&nn x.2 y.2)
theorem ED:sg=nz:=by
  funext x y;rw [eV,xj,sg,aO,aw,qr]
theorem uP {xs:List Rw} {i k:Nat} (h:i < xs.length) (hr:fe (nth xs (i:Int))=true) (hk:k≤(eG sg ((xs.take i).filter fe)).length) (hq:∀q ∈ (eG sg ((xs.take i).filter fe)).drop k,sg (nth xs (i:Int)) q=true)
    (hc:(decide ((0:Int) < (k:Int))&&sg (nth xs (i:Int)) (nth (eG sg ((xs.take i).filter fe)) ((k:Int) - 1)))=false):
    eG sg ((xs.take (i+1)).filter fe)=(([]++((eG sg ((xs.take i).filter fe)).drop 0).take (k - 0))++ [nth xs (i:Int)])++((eG sg ((xs.take i).filter fe)).drop k).take ((eG sg ((xs.take i).filter fe)).length - k):=by
  rw [Ad h hr,ld,EB hk hq hc]
def gA (n:Int):List Rw:=if n=100 then [(⟨#[48]⟩,⟨#[57]⟩)] else if n=119 then [(⟨#[48]⟩,⟨#[57]⟩),(⟨#[65]⟩,⟨#[90]⟩),(⟨#[95]⟩,⟨#[95]⟩),(⟨#[97]⟩,⟨#[122]⟩)] else if n=115 then [(⟨#[9]⟩,⟨#[13]⟩),(⟨#[32]⟩,⟨#[32]⟩)] else []
def hD (n:Int):Bool:=decide (n=100) || (decide (n=119) || decide (n=115))
theorem pd {s:ByteArray} {k:Nat} (h:k < (bs s).length) (hc:(decide ((65:Int)≤((nth (fG jF (bs s) k) (k:Int)).toNat:Int))&&decide (((nth (fG jF (bs s) k) (k:Int)).toNat:Int)≤90))=true):
    fG jF (bs s) (k+1)=(fG jF (bs s) k).set (k:Int).toNat (UInt8.ofNat (IntKind.u8.wrap (((nth (fG jF (bs s) k) (k:Int)).toNat:Int)+32)).toNat):=by
  refine sA h ?_;rw [nP h] at hc ⊢;rw [jF,if_pos hc]
theorem nV {s:ByteArray} {k:Nat} (h:k < (bs s).length) (hc:(decide ((65:Int)≤((nth (fG jF (bs s) k) (k:Int)).toNat:Int))&&decide (((nth (fG jF (bs s) k) (k:Int)).toNat:Int)≤90))=false):fG jF (bs s) (k+1)=fG jF (bs s) k:=by
  refine qY h ?_;rw [nP h] at hc;rw [jF,if_neg (by rw [hc];decide)]
theorem tJ {s:ByteArray} {k:Nat} (h:k < (bs s).length) (hc:(decide ((97:Int)≤((nth (fG uv (bs s) k) (k:Int)).toNat:Int))&&decide (((nth (fG uv (bs s) k) (k:Int)).toNat:Int)≤122))=true):
    fG uv (bs s) (k+1)=(fG uv (bs s) k).set (k:Int).toNat (UInt8.ofNat (IntKind.u8.wrap (((nth (fG uv (bs s) k) (k:Int)).toNat:Int) - 32)).toNat):=by
  refine sA h ?_;rw [nP h] at hc ⊢;rw [uv,if_pos hc]
theorem qx {s:ByteArray} {k:Nat} (h:k < (bs s).length) (hc:(decide ((97:Int)≤((nth (fG uv (bs s) k) (k:Int)).toNat:Int))&&decide (((nth (fG uv (bs s) k) (k:Int)).toNat:Int)≤122))=false):fG uv (bs s) (k+1)=fG uv (bs s) k:=by
  refine qY h ?_;rw [nP h] at hc;rw [uv,if_neg (by rw [hc];decide)]
end
section
open Srt
abbrev Ps:=List (Int × Int)
abbrev Fl:=Nat × Bool
abbrev Rs:=Option (Nat × Ps) × Fl
abbrev dG:=Nat→Ps→Fl→Rs
abbrev ig:=Nat→dG→Ps→Fl→Rs
structure Env where
  cs:List ByteArray
  pl:List Int
  fold:Bool
def nC (s:ByteArray):Bool:=decide ((s.size:Int)=1)&&((((decide (97≤bZ s 0)&&decide (bZ s 0≤122)) || (decide (65≤bZ s 0)&&decide (bZ s 0≤90))) || (decide (48≤bZ s 0)&&decide (bZ s 0≤57))) || decide (bZ s 0=95))
def fM (fold:Bool) (t:Tr) (x:ByteArray):Bool:=
  if t.k=2 then ix x t.ch || (fold&&ix (fS x) (fS t.ch))
  else if t.k=3 then !(ix x ⟨#[10]⟩)
  else sf t.rows t.ng fold x
def EE (cs:List ByteArray) (k:Int):Bool:=decide (0 < k)&&nC (nth cs (k - 1))
def CC (cs:List ByteArray) (k:Int):Bool:=decide (k < (cs.length:Int))&&nC (nth cs k)
def go (cs:List ByteArray) (kd:Int) (k:Int):Bool:=
  if kd=8 then decide (k=0) else if kd=9 then decide (k=(cs.length:Int)) else (!(EE cs k==CC cs k))==decide (kd=10)
def cX (ps:Ps) (lo n:Nat):Ps:=ps.take lo++List.replicate n ((-1:Int),(-1:Int))++ps.drop (lo+n)
def iL:List ig→ig
  | [], k, K, ps, φ => K k ps φ
  | r :: l, k, K, ps, φ => r k (fun to ps φ => iL l to K ps φ) ps φ
def ju:List ig→ig
  | [], _, _, _, φ => (none, φ)
  | r :: l, k, K, ps, φ => if (r k K ps φ).1.isSome = true then r k K ps φ else ju l k K ps (r k K ps φ).2
def gM (mn:Int) (lz:Bool) (times:Nat) (k:Nat) (K:dG) (ps:Ps) (φ:Fl):Rs:=if (decide (mn≤(times:Int))&&lz)=true then K k ps φ else (none,φ)
def gJ (mn:Int) (lz:Bool) (times:Nat) (k:Nat) (K:dG) (ps:Ps) (φ:Fl):Rs:=if ((decide (mn≤(times:Int))&& !lz)&& !φ.2)=true then K k ps φ else (none,φ)
def cw (r:ig) (lo n:Nat) (mn mx:Int) (lz:Bool):Nat→Nat→ig
  | 0, _, _, _, _, φ => (none, φ)
  | g + 1, times, k, K, ps, φ =>
    if (gM mn lz times k K ps φ).1.isSome=true then gM mn lz times k K ps φ else
    if (decide (mx < 0) || decide ((times:Int) < mx))=true then
      if (r k (fun to ps' φ'=>if (decide (k < to) || decide ((times:Int) < mn))=true then cw r lo n mn mx lz g (times+1) to K ps' φ' else (none,φ')) (cX ps lo n) (gM mn lz times k K ps φ).2).1.isSome=true then
        r k (fun to ps' φ'=>if (decide (k < to) || decide ((times:Int) < mn))=true then cw r lo n mn mx lz g (times+1) to K ps' φ' else (none,φ')) (cX ps lo n) (gM mn lz times k K ps φ).2
      else gJ mn lz times k K ps (r k (fun to ps' φ'=>if (decide (k < to) || decide ((times:Int) < mn))=true then cw r lo n mn mx lz g (times+1) to K ps' φ' else (none,φ')) (cX ps lo n) (gM mn lz times k K ps φ).2).2
    else gJ mn lz times k K ps (gM mn lz times k K ps φ).2
def dK (r:ig) (lo n:Nat) (mn mx:Int) (lz:Bool) (g times k:Nat) (K:dG):dG:=fun to ps' φ'=>if (decide (k < to) || decide ((times:Int) < mn))=true then cw r lo n mn mx lz g (times+1) to K ps' φ' else (none,φ')
def cZ (r:ig) (lo n:Nat) (mn mx:Int) (lz:Bool) (g times k:Nat) (K:dG) (ps:Ps) (φ:Fl):Rs:=r k (dK r lo n mn mx lz g times k K) (cX ps lo n) φ
theorem me (r:ig) (lo n:Nat) (mn mx:Int) (lz:Bool) (g times k:Nat) (K:dG) (ps:Ps) (φ:Fl):cw r lo n mn mx lz (g+1) times k K ps φ=
    if (gM mn lz times k K ps φ).1.isSome=true then gM mn lz times k K ps φ else
    if (decide (mx < 0) || decide ((times:Int) < mx))=true then
      if (cZ r lo n mn mx lz g times k K ps (gM mn lz times k K ps φ).2).1.isSome=true then cZ r lo n mn mx lz g times k K ps (gM mn lz times k K ps φ).2
      else gJ mn lz times k K ps (cZ r lo n mn mx lz g times k K ps (gM mn lz times k K ps φ).2).2
    else gJ mn lz times k K ps (gM mn lz times k K ps φ).2:=rfl
def sF:List ig→ig
  | r :: _ => r
  | [] => fun _ _ _ φ => (none, φ)
def ei (E:Env) (lo k:Nat) (K:dG):dG:=fun to ps φ=>K to (ps.set lo (nth E.pl (k:Int),nth E.pl (to:Int))) φ
def jU (E:Env) (t:Tr) (lo:Nat) (l:List ig):ig:=fun k K ps φ=>
  if t.k=5 then sF l k (ei E lo k K) ps φ
  else if t.k=6 then sF l k K ps φ
  else if t.k=2∨t.k=3∨t.k=4 then (if (decide ((k:Int) < (E.cs.length:Int))&&fM E.fold t (nth E.cs (k:Int)))=true then K (k+1) ps φ else (none,φ))
  else if go E.cs t.k (k:Int)=true then K k ps φ else (none,φ)
def ij (E:Env) (t:Tr) (lo n:Nat) (l:List ig):ig:=fun k K ps φ=>
  if φ.2=true then (none,φ)
  else if t.k=0 then iL l k K ps φ
  else if t.k=1 then ju l k K ps φ
  else if t.k=7 then cw (sF l) lo n t.mn t.mx t.lz (φ.1+1) 0 k K ps φ
  else if φ.1=0 then (none,(0,true))
  else jU E t lo l k K ps (φ.1 - 1,false)
def lw (k:Int):Bool:= !((decide (k=0) || decide (k=1)) || decide (k=7))
structure Pt where
  t:Tr
  pv:Sv
  ps:List Pt
  lo:Int
  hi:Int
instance:Inhabited Pt:=⟨⟨default,Sv.nil,[],0,0⟩⟩
theorem Pt.kid_lt {t k:Pt} (h:k ∈ t.ps):SizeOf.sizeOf k < SizeOf.sizeOf t:=by
  have h1:=List.sizeOf_lt_of_mem h;cases t
  simp at h1 ⊢;omega
theorem Pt.ind {P:Pt→Prop} (h:∀t,(∀k ∈ t.ps,P k)→P t) (t:Pt):P t:=h t fun k hk=>Pt.ind h k
termination_by SizeOf.sizeOf t
decreasing_by exact Pt.kid_lt hk
def vN:Enc Pt:=⟨fun p=> [.int .i64 p.t.k,.string p.t.ch,.bool p.t.ng,p.t.rv.v,.int .i64 p.t.mn,.int .i64 p.t.mx,.bool p.t.lz,p.t.kv.v,p.pv.v,.int .i64 p.lo,.int .i64 p.hi],11,by decide,fun _=>rfl,fun x u hu=>by
  simp at hu;rcases hu with rfl | rfl | rfl | rfl | rfl | rfl | rfl | rfl | rfl | rfl | rfl <;> rfl⟩
def Pt.v (p:Pt):Value:= .agg #[.int .i64 p.t.k,.string p.t.ch,.bool p.t.ng,p.t.rv.v,.int .i64 p.t.mn,.int .i64 p.t.mx,.bool p.t.lz,p.t.kv.v,p.pv.v,.int .i64 p.lo,.int .i64 p.hi]
section
variable {β:Type}
mutual
def sG (g:Pt→List β→β):Pt→β
  | ⟨t, pv, ps, lo, hi⟩ => g ⟨t, pv, ps, lo, hi⟩ (rn g ps)
def rn (g:Pt→List β→β):List Pt→List β
  | [] => []
  | t :: ts => sG g t :: rn g ts
end
theorem wh (g:Pt→List β→β) (ts:List Pt):rn g ts=ts.map (sG g):=by
  induction ts with
  | nil => rw [rn]; rfl
  | cons t ts ih => rw [rn, ih]; rfl
theorem Ae (g:Pt→List β→β) (t:Pt):sG g t=g t (t.ps.map (sG g)):=by
  cases t;rw [sG,wh]
end
def aZ (E:Env):Pt→ig:=sG fun p l=>ij E p.t p.lo.toNat (p.hi - p.lo).toNat l
theorem kw (E:Env) (p:Pt):aZ E p=ij E p.t p.lo.toNat (p.hi - p.lo).toNat (p.ps.map (aZ E)):=Ae _ p
def Af (g:Nat):List (Nat × (Nat→ig))→List ig
  | [] => []
  | (n, r) :: l => r g :: Af (g + n) l
def mf (t:Tr) (g:Nat):Nat:=if t.k=5 then g+1 else g
def grpN (t:Tr):Nat:=(dy t).toNat
def li (E:Env):Tr→Nat × (Nat→ig):=lE fun t l=>((if t.k=5 then 1 else 0)+(l.map (·.1)).sum,fun g=>ij E t g ((if t.k=5 then 1 else 0)+(l.map (·.1)).sum) (Af (mf t g) l))
def bh (E:Env) (t:Tr) (g:Nat):ig:=(li E t).2 g
def fY (E:Env):List Tr→Nat→List ig
  | [], _ => []
  | t :: ts, g => bh E t g :: fY E ts (g + grpN t)
theorem xm (E:Env) (t:Tr):(li E t).1=grpN t:=by
  induction t using Tr.ind with
  | h t ih =>
    have h1:(li E t).1=(if t.k=5 then 1 else 0)+((t.kids.map (li E)).map (·.1)).sum:=congrArg Prod.fst (iS _ t);have h2:=mN t;have h3:∀l:List Tr,(∀k ∈ l,(li E k).1=grpN k)→((((l.map (li E)).map (·.1)).sum:Nat):Int)=di (l.map dy):=by
      intro l;induction l with
      | nil => intro _; rfl
      | cons k l ih2 =>
        intro hl;have e1:=ih2 fun x hx=>hl x (by simp [hx]);have e2:=hl k (by simp);have e3:=(hC k).1;rw [bu,bu,List.sum_cons,bu,jG,e2];unfold grpN;omega
    have h4:=h3 t.kids ih;rw [h1];unfold grpN;rw [h2];split <;> omega
theorem sH (E:Env):∀(l:List Tr) (g:Nat),Af g (l.map (li E))=fY E l g
  | [], _ => rfl
  | t :: l, g => by
    rw [bu,fY];show (li E t).2 g::Af (g+(li E t).1) (l.map (li E))=_;rw [xm,sH E l];rfl
theorem jV (E:Env) (t:Tr) (g:Nat):bh E t g=ij E t g (grpN t) (fY E t.kids (mf t g)):=by
  have h1:(li E t).2=fun g=>ij E t g ((if t.k=5 then 1 else 0)+((t.kids.map (li E)).map (·.1)).sum) (Af (mf t g) (t.kids.map (li E))):=congrArg Prod.snd (iS _ t);have h2:(li E t).1=(if t.k=5 then 1 else 0)+((t.kids.map (li E)).map (·.1)).sum:=congrArg Prod.fst (iS _ t);unfold bh;rw [h1];show ij E t g _ _=_;rw [←h2,xm,sH]
mutual
inductive Lay:Pt→Tr→Nat→Prop
  | mk {p : Pt} {t : Tr} {g : Nat} : er p.t = er t → p.lo = (g : Int) → p.hi = (g : Int) + dy t → LayL p.ps t.kids (mf t g) → Lay p t g
inductive LayL:List Pt→List Tr→Nat→Prop
  | nil {g : Nat} : LayL [] [] g
  | cons {p : Pt} {ps : List Pt} {t : Tr} {ts : List Tr} {g : Nat} : Lay p t g → LayL ps ts (g + grpN t) → LayL (p :: ps) (t :: ts) g
end
theorem mg {a b:Tr} (h:er a=er b):a.k=b.k∧a.ch=b.ch∧a.ng=b.ng∧a.rows=b.rows∧a.mn=b.mn∧a.mx=b.mx∧a.lz=b.lz:=by
  rw [oQ,oQ] at h;injection h with h1 h2 h3 h4 h5 h6 h7 h8 h9 h10
  exact ⟨h1,h2,h3,h5,h6,h7,h8⟩
theorem yy {f:Bool} {a b:Tr} (h:er a=er b) (x:ByteArray):fM f a x=fM f b x:=by
  obtain ⟨h1,h2,h3,h4,h5,h6,h7⟩:=mg h;unfold fM;rw [h1,h2,h3,h4]
theorem uQ (E:Env) {a b:Tr} (h:er a=er b) (lo n:Nat) (l:List ig):ij E a lo n l=ij E b lo n l:=by
  obtain ⟨h1,h2,h3,h4,h5,h6,h7⟩:=mg h;funext k K ps φ;unfold ij jU;rw [h1,h5,h6,h7,yy h]
theorem tK (E:Env) (t:Tr):∀(p:Pt) (g:Nat),Lay p t g→aZ E p=bh E t g:=by
  induction t using Tr.ind with
  | h t ih =>
    intro p g h;cases h with
    | mk h1 h2 h3 h4 =>
      rw [kw,jV,uQ E h1];have e1:p.lo.toNat=g:=by omega
      have e2:(p.hi - p.lo).toNat=grpN t:=by unfold grpN;omega
      have e3:∀(ts:List Tr) (ps:List Pt) (g:Nat),(∀k ∈ ts,k ∈ t.kids)→LayL ps ts g→ps.map (aZ E)=fY E ts g:=by
        intro ts;induction ts with
        | nil => intro ps g _ h; cases h; rfl
        | cons k ts ih2 =>
          intro ps g hm h;cases h with
          | cons h5 h6 => rw [bu, fY, ih k (hm k (by simp)) _ _ h5, ih2 _ _ (fun x hx => hm x (by simp [hx])) h6]
      rw [e1,e2,e3 _ _ _ (fun _ h=>h) h4]
theorem xo (E:Env) (t:Tr):∀(u:Tr) (g:Nat),er t=er u→bh E t g=bh E u g:=by
  induction t using Tr.ind with
  | h t ih =>
    intro u g h;rw [jV,jV,uQ E h];have e1:grpN t=grpN u:=by unfold grpN;rw [←kg t,←kg u,h]
    have e2:mf t g=mf u g:=by unfold mf;rw [(mg h).1]
    have e3:t.kids.map er=u.kids.map er:=by rw [←mI,←mI,h]
    have e4:∀(ts us:List Tr) (g:Nat),(∀k ∈ ts,k ∈ t.kids)→ts.map er=us.map er→fY E ts g=fY E us g:=by
      intro ts;induction ts with
      | nil => intro us g _ h; cases us with
        | nil => rfl
        | cons => simp at h
      | cons k ts ih2 =>
        intro us g hm h;cases us with
        | nil => simp at h
        | cons v us =>
          simp only [bu,List.cons.injEq] at h;have e5:grpN k=grpN v:=by unfold grpN;rw [←kg k,←kg v,h.1]
          rw [fY,fY,ih k (hm k (by simp)) v g h.1,e5,ih2 us _ (fun x hx=>hm x (by simp [hx])) h.2]
    rw [e1,e2,e4 _ _ _ (fun _ h=>h) e3]
def KP (B:Nat) (K:dG):Prop:=∀(to:Nat) (ps:Ps) (fu:Nat),fu < B→(K to ps (fu,false)).2.1≤fu
theorem KP.less {B B':Nat} {K:dG} (h:KP B K) (hB:B'≤B):KP B' K:=fun to ps fu hf=>h to ps fu (by omega)
def RP (r:ig):Prop:=∀(k B:Nat) (K:dG),KP B K→∀(ps:Ps) (fu:Nat) (ou:Bool),fu < B→(r k K ps (fu,ou)).2.1≤fu
theorem wi:∀(l:List ig),(∀r ∈ l,RP r)→∀(k B:Nat) (K:dG),KP B K→∀(ps:Ps) (fu:Nat),fu < B→(iL l k K ps (fu,false)).2.1≤fu
  | [], _, k, B, K, hK, ps, fu, hf => hK k ps fu hf
  | r :: l, h, k, B, K, hK, ps, fu, hf => h r (by simp) k B (fun to ps φ => iL l to K ps φ) (fun to ps fu hf => wi l (fun x hx => h x (by simp [hx])) to B K hK ps fu hf) ps fu false hf
theorem Ag:∀(l:List ig),(∀r ∈ l,RP r)→∀(k B:Nat) (K:dG),KP B K→∀(ps:Ps) (fu:Nat) (ou:Bool),fu < B→(ju l k K ps (fu,ou)).2.1≤fu
  | [], _, k, B, K, hK, ps, fu, ou, hf => bq _
  | r :: l, h, k, B, K, hK, ps, fu, ou, hf => by
    have h1:=h r (by simp) k B K hK ps fu ou hf;rw [ju];split
    · exact h1
    · have h2:=Ag l (fun x hx=>h x (by simp [hx])) k B K hK ps (r k K ps (fu,ou)).2.1 (r k K ps (fu,ou)).2.2 (by omega);exact dD h2 h1
theorem CD {B:Nat} {K:dG} (hK:KP B K) {mn:Int} {lz:Bool} {times k:Nat} {ps:Ps} {fu:Nat} (hf:fu < B):(gM mn lz times k K ps (fu,false)).2.1≤fu:=by
  unfold gM;split
  · exact hK k ps fu hf
  · exact bq _
theorem xq {B:Nat} {K:dG} (hK:KP B K) {mn:Int} {lz:Bool} {times k:Nat} {ps:Ps} {fu:Nat} {ou:Bool} (hf:fu < B):(gJ mn lz times k K ps (fu,ou)).2.1≤fu:=by
  unfold gJ;split
  · rename_i h;cases ou with
    | true => simp at h
    | false => exact hK k ps fu hf
  · exact bq _
theorem rq {r:ig} (hr:RP r) {lo n:Nat} {mn mx:Int} {lz:Bool}:∀(g times k B:Nat) (K:dG),KP B K→∀(ps:Ps) (fu:Nat),fu < B→(cw r lo n mn mx lz g times k K ps (fu,false)).2.1≤fu
  | 0, times, k, B, K, hK, ps, fu, hf => bq _
  | g + 1, times, k, B, K, hK, ps, fu, hf => by
    have h1:=CD hK (mn:=mn) (lz:=lz) (times:=times) (k:=k) (ps:=ps) hf;have hk:KP B (dK r lo n mn mx lz g times k K):=fun to ps' fu' hf'=>by
      unfold dK;split
      · exact rq hr g (times+1) to B K hK ps' fu' hf'
      · exact bq _
    have h2:(cZ r lo n mn mx lz g times k K ps (gM mn lz times k K ps (fu,false)).2).2.1≤(gM mn lz times k K ps (fu,false)).2.1:=hr k B _ hk (cX ps lo n) (gM mn lz times k K ps (fu,false)).2.1 (gM mn lz times k K ps (fu,false)).2.2 (by omega);rw [me];split
    · exact h1
    · split
      · split
        · exact dD h2 h1
        · have h3:=xq hK (mn:=mn) (lz:=lz) (times:=times) (k:=k) (ps:=ps) (fu:=(cZ r lo n mn mx lz g times k K ps (gM mn lz times k K ps (fu,false)).2).2.1) (ou:=(cZ r lo n mn mx lz g times k K ps (gM mn lz times k K ps (fu,false)).2).2.2) (by omega);exact dD h3 (dD h2 h1)
      · have h3:=xq hK (mn:=mn) (lz:=lz) (times:=times) (k:=k) (ps:=ps) (fu:=(gM mn lz times k K ps (fu,false)).2.1) (ou:=(gM mn lz times k K ps (fu,false)).2.2) (by omega);exact dD h3 h1
theorem mh {r:ig} (hr:RP r) {lo n:Nat} {mn mx:Int} {lz:Bool} {g times k B:Nat} {K:dG} (hK:KP B K):KP B (dK r lo n mn mx lz g times k K):=fun to ps' fu' hf'=>by
  unfold dK;split
  · exact rq hr g (times+1) to B K hK ps' fu' hf'
  · exact bq _
theorem tL {l:List ig} (h:∀r ∈ l,RP r):RP (sF l):=by
  cases l with
  | nil => exact fun k B K hK ps fu ou hf => bq _
  | cons r l => exact h r (by simp)
theorem ru {E:Env} {lo k B:Nat} {K:dG} (hK:KP B K):KP B (ei E lo k K):=fun to ps fu hf=>hK to _ fu hf
theorem Ah {l:List ig} (h:∀r ∈ l,RP r) {B:Nat} {K:dG} (hK:KP B K):KP B (fun to ps φ=>iL l to K ps φ):=fun to ps fu hf=>wi l h to B K hK ps fu hf
theorem tM {E:Env} {t:Tr} {lo:Nat} {l:List ig} (h:∀r ∈ l,RP r) {k B:Nat} {K:dG} (hK:KP B K) {ps:Ps} {fu:Nat} (hf:fu < B):(jU E t lo l k K ps (fu,false)).2.1≤fu:=by
  unfold jU;split
  · exact tL h k B _ (ru hK) ps fu false hf
  · split
    · exact tL h k B K hK ps fu false hf
    · split
      · split
        · exact hK _ ps fu hf
        · exact bq _
      · split
        · exact hK _ ps fu hf
        · exact bq _
theorem xr {E:Env} {t:Tr} {lo n:Nat} {l:List ig} (h:∀r ∈ l,RP r):RP (ij E t lo n l):=fun k B K hK ps fu ou hf=>by
  unfold ij;split
  · exact bq _
  · rename_i ho;have ho:ou=false:=by simpa using ho
    subst ho;split
    · exact wi l h k B K hK ps fu hf
    · split
      · exact Ag l h k B K hK ps fu false hf
      · split
        · exact rq (tL h) _ _ k B K hK ps fu hf
        · split
          · exact dZ _
          · have:=tM (E:=E) (t:=t) (lo:=lo) h hK (k:=k) (ps:=ps) (fu:=fu - 1) (by omega);exact dD this (by show fu - 1≤fu;omega)
theorem nD (E:Env) (p:Pt):RP (aZ E p):=by
  induction p using Pt.ind with
  | h p ih =>
    rw [kw];exact xr fun r hr=>by
      obtain ⟨q,hq,rfl⟩:=List.mem_map.1 hr;exact ih q hq
theorem xt (E:Env) (l:List Pt):∀r ∈ l.map (aZ E),RP r:=fun r hr=>by
  obtain ⟨q,hq,rfl⟩:=List.mem_map.1 hr;exact nD E q
theorem xu (E:Env) (p:Pt) (hb:lw p.t.k=true) {k B:Nat} {K:dG} (hK:KP B K) {ps:Ps} {fu:Nat} {ou:Bool} (hf:fu < B+1):(aZ E p k K ps (fu,ou)).2.1≤fu:=by
  rw [kw];have hk:¬p.t.k=0∧¬p.t.k=1∧¬p.t.k=7:=by
    simp only [lw,aB,aG,ah] at hb;exact ⟨hb.1.1,hb.1.2,hb.2⟩
  unfold ij;rw [if_neg hk.1,if_neg hk.2.1,if_neg hk.2.2];split
  · exact bq _
  · split
    · exact dZ _
    · rename_i h0;have h0:¬fu=0:=h0;have:=tM (E:=E) (t:=p.t) (lo:=p.lo.toNat) (xt E p.ps) hK (k:=k) (ps:=ps) (fu:=fu - 1) (by omega);exact dD this (by show fu - 1≤fu;omega)
theorem xv {l:List ig} (h:l.length=0) (k:Nat) (K:dG) (ps:Ps) (φ:Fl):iL l k K ps φ=K k ps φ:=by
  rw [bS h];rfl
theorem uR {E:Env} {l:List Pt} (h:¬l.length=0) (k:Nat) (K:dG) (ps:Ps) (φ:Fl):iL (l.map (aZ E)) k K ps φ=aZ E (nth l 0) k (fun to ps φ=>iL ((l.drop 1).map (aZ E)) to K ps φ) ps φ:=by
  cases l with
  | nil => exact absurd rfl h
  | cons q l => rfl
theorem rx {E:Env} {l:List Pt} (h:l.length=1):sF (l.map (aZ E))=aZ E (nth l 0):=by
  cases l with
  | nil => simp at h
  | cons q l => rfl
theorem Ai {E:Env} {p:Pt} {k:Nat} {K:dG} {ps:Ps} {fu:Nat}:aZ E p k K ps (fu,true)=(none,(fu,true)):=by
  rw [kw];unfold ij;rw [if_pos rfl]
theorem Aj {E:Env} {p:Pt} {k:Nat} {K:dG} {ps:Ps} {fu:Nat} (h:p.t.k=0):aZ E p k K ps (fu,false)=iL (p.ps.map (aZ E)) k K ps (fu,false):=by
  rw [kw];unfold ij;rw [if_neg (by simp),if_pos h]
theorem uS {E:Env} {p:Pt} {k:Nat} {K:dG} {ps:Ps} {fu:Nat} (h:p.t.k=1):aZ E p k K ps (fu,false)=ju (p.ps.map (aZ E)) k K ps (fu,false):=by
  rw [kw];unfold ij;rw [if_neg (by simp),if_neg (by omega),if_pos h]
theorem Ak {E:Env} {p:Pt} {k:Nat} {K:dG} {ps:Ps} {fu:Nat} (h:p.t.k=7) (hl:p.ps.length=1):aZ E p k K ps (fu,false)=cw (aZ E (nth p.ps 0)) p.lo.toNat (p.hi - p.lo).toNat p.t.mn p.t.mx p.t.lz (fu+1) 0 k K ps (fu,false):=by
  rw [kw];unfold ij;rw [if_neg (by simp),if_neg (by omega),if_neg (by omega),if_pos h,rx hl]
theorem yz {E:Env} {p:Pt} {k:Nat} {K:dG} {ps:Ps} {fu:Nat} (h0:¬p.t.k=0) (h1:¬p.t.k=1) (h7:¬p.t.k=7) (hf:fu=0):aZ E p k K ps (fu,false)=(none,(fu,true)):=by
  subst hf;rw [kw];unfold ij;rw [if_neg (by simp),if_neg h0,if_neg h1,if_neg h7,if_pos rfl]
theorem gG {E:Env} {p:Pt} {k:Nat} {K:dG} {ps:Ps} {fu:Nat} (h0:¬p.t.k=0) (h1:¬p.t.k=1) (h7:¬p.t.k=7) (hf:¬fu=0):aZ E p k K ps (fu,false)=jU E p.t p.lo.toNat (p.ps.map (aZ E)) k K ps (fu - 1,false):=by
  rw [kw];unfold ij;rw [if_neg (by simp),if_neg h0,if_neg h1,if_neg h7,if_neg hf]
theorem wj {E:Env} {p:Pt} {k:Nat} {K:dG} {ps:Ps} {φ:Fl} (h:p.t.k=5) (hl:p.ps.length=1):jU E p.t p.lo.toNat (p.ps.map (aZ E)) k K ps φ=aZ E (nth p.ps 0) k (ei E p.lo.toNat k K) ps φ:=by
  unfold jU;rw [if_pos h,rx hl]
theorem yA {E:Env} {p:Pt} {k:Nat} {K:dG} {ps:Ps} {φ:Fl} (h:p.t.k=6) (hl:p.ps.length=1):jU E p.t p.lo.toNat (p.ps.map (aZ E)) k K ps φ=aZ E (nth p.ps 0) k K ps φ:=by
  unfold jU;rw [if_neg (by omega),if_pos h,rx hl]
theorem jc {E:Env} {t:Tr} {lo:Nat} {l:List ig} {k:Nat} {K:dG} {ps:Ps} {φ:Fl} (h:t.k=2∨t.k=3∨t.k=4):jU E t lo l k K ps φ=if (decide ((k:Int) < (E.cs.length:Int))&&fM E.fold t (nth E.cs (k:Int)))=true then K (k+1) ps φ else (none,φ):=by
  unfold jU;rw [if_neg (by omega),if_neg (by omega),if_pos h]
theorem rz {E:Env} {t:Tr} {lo:Nat} {l:List ig} {k:Nat} {K:dG} {ps:Ps} {φ:Fl} (h5:¬t.k=5) (h6:¬t.k=6) (h:¬(t.k=2∨t.k=3∨t.k=4)):jU E t lo l k K ps φ=if go E.cs t.k (k:Int)=true then K k ps φ else (none,φ):=by
  unfold jU;rw [if_neg h5,if_neg h6,if_neg h]
theorem EF {l:List ig} {i k:Nat} {K:dG} {ps:Ps} {φ:Fl} (hi:i < l.length) (h:((l[i]'hi) k K ps φ).1.isSome=false):ju (l.drop i) k K ps φ=ju (l.drop (i+1)) k K ps ((l[i]'hi) k K ps φ).2:=by
  rw [dO hi,ju,if_neg (by rw [h];decide)]
theorem xw {E:Env} {l:List Pt} {i:Nat} (hi:i < (l.map (aZ E)).length):(l.map (aZ E))[i]'hi=aZ E (nth l (i:Int)):=by
  have h1:i < l.length:=by simpa using hi
  rw [lZ,mD];simp [List.getD,bE h1]
theorem Am {E:Env} {l:List Pt} {i k:Nat} {K:dG} {ps:Ps} {φ:Fl} (hi:i < l.length) (h:(aZ E (nth l (i:Int)) k K ps φ).1.isSome=false):ju ((l.map (aZ E)).drop i) k K ps φ=ju ((l.map (aZ E)).drop (i+1)) k K ps (aZ E (nth l (i:Int)) k K ps φ).2:=by
  have hi2:i < (l.map (aZ E)).length:=by simpa using hi
  rw [←xw hi2] at h ⊢;exact EF hi2 h
theorem CE {E:Env} {l:List Pt} {i k:Nat} {K:dG} {ps:Ps} {φ:Fl} (hi:i < l.length) (h:(aZ E (nth l (i:Int)) k K ps φ).1.isSome=true):ju ((l.map (aZ E)).drop i) k K ps φ=aZ E (nth l (i:Int)) k K ps φ:=by
  have hi2:i < (l.map (aZ E)).length:=by simpa using hi
  rw [←xw hi2] at h ⊢;rw [dO hi2,ju,if_pos h]
theorem CF {l:List ig} {i k:Nat} {K:dG} {ps:Ps} {φ:Fl} (hi:l.length≤i):ju (l.drop i) k K ps φ=(none,φ):=by
  rw [ez hi];rfl
theorem An {ps:Ps} {i:Nat} {x:Int × Int}:(ps.set i x).set i (nth ps (i:Int))=ps:=by
  rw [List.set_set,mD];by_cases h:i < ps.length
  · simp [List.getD,bE h]
  · rw [List.set_eq_of_length_le (by omega)]
theorem sI {ps:Ps} {lo hi:Nat} (h1:lo≤hi) (h2:hi≤ps.length):(cX ps lo (hi - lo)).take lo++(ps.drop lo).take (hi - lo)++(cX ps lo (hi - lo)).drop hi=ps:=by
  have e1:(ps.take lo).length=lo:=by simp;omega
  have e2:(cX ps lo (hi - lo)).take lo=ps.take lo:=by
    unfold cX;rw [fK,iZ,e1,mw,List.take_zero,gP,bB (by omega)]
  have e3:(cX ps lo (hi - lo)).drop hi=ps.drop hi:=by
    unfold cX;have e4:(ps.take lo++List.replicate (hi - lo) ((-1:Int),(-1:Int))).length=hi:=by simp;omega
    rw [lW,e4,mw,kY,ez (by omega),gp,show lo+(hi - lo)=hi by omega]
  rw [e2,e3,fK];have e5:(ps.drop lo).take (hi - lo)++ps.drop hi=ps.drop lo:=by
    have:ps.drop hi=(ps.drop lo).drop (hi - lo):=by rw [List.drop_drop];congr 1;omega
    rw [this,fT]
  rw [e5,fT]
theorem rA {r:ig} {lo n:Nat} {mn mx:Int} {lz:Bool} {g times k:Nat} {K:dG} {ps:Ps} {φ:Fl} (h:(decide (mn≤(times:Int))&&lz)=true) (hs:(K k ps φ).1.isSome=true):cw r lo n mn mx lz (g+1) times k K ps φ=K k ps φ:=by
  have e:gM mn lz times k K ps φ=K k ps φ:=by unfold gM;rw [if_pos h]
  rw [me,e,if_pos hs]
def ik (r:ig) (lo n:Nat) (mn mx:Int) (lz:Bool) (g times k:Nat) (K:dG) (ps:Ps) (φ:Fl):Rs:=
  if (decide (mx < 0) || decide ((times:Int) < mx))=true then
    if (cZ r lo n mn mx lz g times k K ps φ).1.isSome=true then cZ r lo n mn mx lz g times k K ps φ
    else gJ mn lz times k K ps (cZ r lo n mn mx lz g times k K ps φ).2
  else gJ mn lz times k K ps φ
theorem iU {r:ig} {lo n:Nat} {mn mx:Int} {lz:Bool} {g times k:Nat} {K:dG} {ps:Ps} {φ:Fl} (h:(decide (mn≤(times:Int))&&lz)=true) (hs:(K k ps φ).1.isSome=false):cw r lo n mn mx lz (g+1) times k K ps φ=ik r lo n mn mx lz g times k K ps (K k ps φ).2:=by
  have e:gM mn lz times k K ps φ=K k ps φ:=by unfold gM;rw [if_pos h]
  rw [me,e,if_neg (by rw [hs];decide)];rfl
theorem gX {r:ig} {lo n:Nat} {mn mx:Int} {lz:Bool} {g times k:Nat} {K:dG} {ps:Ps} {φ:Fl} (h:(decide (mn≤(times:Int))&&lz)=false):cw r lo n mn mx lz (g+1) times k K ps φ=ik r lo n mn mx lz g times k K ps φ:=by
  have e:gM mn lz times k K ps φ=(none,φ):=by unfold gM;rw [if_neg (by rw [h];decide)]
  rw [me,e,if_neg (by simp)];rfl
theorem nE {r:ig} {lo n:Nat} {mn mx:Int} {lz:Bool} {g times k:Nat} {K:dG} {ps:Ps} {φ:Fl} (h:(decide (mx < 0) || decide ((times:Int) < mx))=true) (hs:(cZ r lo n mn mx lz g times k K ps φ).1.isSome=true):ik r lo n mn mx lz g times k K ps φ=cZ r lo n mn mx lz g times k K ps φ:=by
  unfold ik;rw [if_pos h,if_pos hs]
theorem jd {r:ig} {lo n:Nat} {mn mx:Int} {lz:Bool} {g times k:Nat} {K:dG} {ps:Ps} {φ:Fl} (h:(decide (mx < 0) || decide ((times:Int) < mx))=true) (hs:(cZ r lo n mn mx lz g times k K ps φ).1.isSome=false):ik r lo n mn mx lz g times k K ps φ=gJ mn lz times k K ps (cZ r lo n mn mx lz g times k K ps φ).2:=by
  unfold ik;rw [if_pos h,if_neg (by rw [hs];decide)]
theorem nW {r:ig} {lo n:Nat} {mn mx:Int} {lz:Bool} {g times k:Nat} {K:dG} {ps:Ps} {φ:Fl} (h:(decide (mx < 0) || decide ((times:Int) < mx))=false):ik r lo n mn mx lz g times k K ps φ=gJ mn lz times k K ps φ:=by
  unfold ik;rw [if_neg (by rw [h];decide)]
theorem mS {mn:Int} {lz:Bool} {times k:Nat} {K:dG} {ps:Ps} {fu:Nat} {ou:Bool} (h:((decide (mn≤(times:Int))&& !lz)&& !ou)=true):gJ mn lz times k K ps (fu,ou)=K k ps (fu,false)∧ou=false:=by
  have ho:ou=false:=by simp at h;exact h.2
  subst ho;unfold gJ;rw [if_pos h];exact ⟨rfl,rfl⟩
theorem qy {mn:Int} {lz:Bool} {times k:Nat} {K:dG} {ps:Ps} {fu:Nat} {ou:Bool} (h:((decide (mn≤(times:Int))&& !lz)&& !ou)=false):gJ mn lz times k K ps (fu,ou)=(none,(fu,ou)):=by
  unfold gJ;rw [if_neg (by rw [show (fu,ou).2=ou from rfl,h];decide)]
end
section
open Go.RowKit Srt
inductive PtT (F:aP) (w:World):Pt→Prop
  | mk {p : Pt} : TrT F w p.t → SlT vN w p.pv.v p.ps → (p.ps ≠ [] → F (cU p.pv.v).block) → (∀ q ∈ p.ps, PtT F w q) → PtT F w p
section
variable {F F':aP} {w w':World} {p q:Pt}
theorem PtT.tree (h:PtT F w p):TrT F w p.t:=by cases h;assumption
theorem PtT.sl (h:PtT F w p):SlT vN w p.pv.v p.ps:=by cases h;assumption
theorem PtT.slF (h:PtT F w p):p.ps≠ []→F (cU p.pv.v).block:=by cases h;assumption
theorem PtT.kid (h:PtT F w p) (hq:q ∈ p.ps):PtT F w q:=by cases h;rename_i h1;exact h1 q hq
theorem PtT.keep (h:PtT F w p) {M:Nat→Prop} (he:Ext M w w') (hm:∀g,F g→¬M g):PtT F w' p:=by
  induction h with
  | mk h1 h2 h3 h4 ih => exact .mk (h1.keep he hm) (h2.keep he fun hn => hm _ (h3 hn)) h3 ih
theorem PtT.mono (h:PtT F w p) (hf:∀g,F g→g < w.heap.size→F' g):PtT F' w p:=by
  induction h with
  | mk h1 h2 h3 h4 ih => exact .mk (h1.mono hf) h2 (fun hn => hf _ (h3 hn) (h2.lt hn)) ih
end
def lj (p:Pt):ZP:=⟨fun Z w=>PtT Z w p,fun hz he h=>(PtT.keep h he fun g hg hn=>hn hg).mono fun g hg _=>hz g hg⟩
def sJ (v:Sv) (l:List Pt):ZP:=⟨fun Z w=>(SlT vN w v.v l∧(l≠ []→Z (cU v.v).block))∧∀p ∈ l,PtT Z w p,fun hz he h=>⟨⟨h.1.1.keep he fun hn hm=>hm (h.1.2 hn),fun hn=>hz _ (h.1.2 hn)⟩,fun p hp=>(lj p).st hz he (h.2 p hp)⟩⟩
def cL (p:Addr) (vs:List Value):ZP:=⟨fun Z w=>Z p.block∧∀j u,vs[j]? =some u→w.cell? (p.add j)=some u,fun hz he h=>⟨hz _ h.1,fun j u hu=>he.cell_some (h.2 j u hu) fun hn=>hn (by rw [la];exact h.1)⟩⟩
section
variable {Z:aP} {w:World} {p:Pt} {v:Sv} {l:List Pt}
theorem lj.kids (h:(lj p).P Z w):(sJ p.pv p.ps).P Z w:=⟨⟨PtT.sl h,PtT.slF h⟩,fun q hq=>PtT.kid h hq⟩
theorem sJ.at (h:(sJ v l).P Z w) {i:Int} (h0:0≤i) (h1:i < l.length):(lj (nth l i)).P Z w:=h.2 _ (cP h0 h1)
theorem sJ.tail {n:Nat} (h:(sJ v l).P Z w) (hn:n≤l.length) {u:Sv} (hu:u.v=gl v.v n l.length 11):(sJ u (l.drop n)).P Z w:=by
  have hs:=SlT.sub h.1.1 (lo:=n) (hi:=l.length) hn (bq _);rw [bB (by simp)] at hs;refine ⟨⟨?_,fun hne=> ?_⟩,fun q hq=>h.2 q (iN hq)⟩
  · rw [hu];exact hs
  · have hl:l≠ []:=by rintro rfl;simp at hne
    have hb:(cU (gl v.v n l.length 11)).block=(cU v.v).block:=by
      rcases h.1.1.sl with ⟨e,hl0⟩ | ⟨b,cap,e,h1,h2⟩
      · exact absurd (bS hl0) hl
      · rw [e];simp only [gl];split <;> simp [cU,la]
    rw [hu,hb];exact h.1.2 hl
end
inductive OkP (m:Nat):Pt→Prop
  | mk {p : Pt} : (0 ≤ p.lo ∧ p.lo ≤ p.hi ∧ p.hi ≤ (m : Int)) → (p.t.k = 5 → p.lo < p.hi) → (p.t.k = 5 ∨ p.t.k = 6 ∨ p.t.k = 7 → p.ps.length = 1) → (p.t.k = 7 → lw (nth p.ps 0).t.k = true) → fD p.t ≤ 1000000 → p.ps.length ≤ 1000000 → (∀ q ∈ p.ps, OkP m q) → OkP m p
theorem OkP.kid {m:Nat} {p q:Pt} (h:OkP m p) (hq:q ∈ p.ps):OkP m q:=by cases h;rename_i h1;exact h1 q hq
theorem OkP.facts {m:Nat} {p:Pt} (h:OkP m p):(0≤p.lo∧p.lo≤p.hi∧p.hi≤(m:Int))∧(p.t.k=5→p.lo < p.hi)∧(p.t.k=5∨p.t.k=6∨p.t.k=7→p.ps.length=1)∧(p.t.k=7→lw (nth p.ps 0).t.k=true)∧fD p.t≤1000000∧p.ps.length≤1000000:=by
  cases h;rename_i h1 h2 h3 h4 h5 h6 h7;exact ⟨h1,h2,h3,h4,h5,h6⟩
structure Cfg where
  rt:Nat
  st:Nat
  it:Nat
  g:Nat
  top:Pt
  E:Env
  cv:Sv
  lv:Sv
  pv:Sv
  m:Nat
def Cfg.ad (C:Cfg):Addr:=⟨C.g,0,none⟩
def Cfg.rv (C:Cfg):Value:= .pointer (some C.ad)
def Cfg.cells (C:Cfg) (fu:Nat) (ou:Bool):List Value:=vN.cells C.top++ [.bool C.E.fold,C.cv.v,C.lv.v,C.pv.v,.int .i64 (fu:Int),.bool ou]
structure Cfg.Ok (C:Cfg):Prop where
  pg:∀b,C.pv.v.ownBlock=some b→b≠C.g
  pl:C.E.pl.length=C.E.cs.length+1
  cl:C.E.cs.length≤1000000
  ml:C.m≤1000000
  cz:∀x ∈ C.E.cs,x.size≤1000000
structure RunB (C:Cfg) (ps:Ps) (fu:Nat) (ou:Bool) (Z T:aP) (w:World):Prop where
  ok:C.Ok
  len:ps.length=C.m
  lt:C.g < w.heap.size
  own:T C.g
  at':w.heap[C.g]? =some (.cells (C.cells fu ou).toArray C.rt (0,0))
  parts:dX bO C.st ps T C.pv.v w
  chars:(dI fo Al C.cv.v C.E.cs).P Z w
  places:(dI gh Al C.lv.v C.E.pl).P Z w
section
variable {C:Cfg} {ps ps':Ps} {fu fu':Nat} {ou ou':Bool} {tv tv':Int} {tb:Option Nat} {Z Z' T T' N:aP} {w w':World}
theorem RunB.mono (h:RunB C ps fu ou Z T w) (hZ:∀g,Z g→Z' g) (hT:∀g,T g→T' g):RunB C ps fu ou Z' T' w:=
  ⟨h.ok,h.len,h.lt,hT _ h.own,h.at',⟨h.parts.1,fun g hg=>hT _ (h.parts.2 g hg)⟩,⟨h.chars.1,fun hn=>⟨hZ _ (h.chars.2 hn).1,ax⟩⟩,⟨h.places.1,fun hn=>⟨hZ _ (h.places.2 hn).1,ax⟩⟩⟩
theorem RunB.loc (hz:∀g,Z g→Z' g) (he:Ext (fun g=>N g∧¬T g∧¬Z g) w w') (h:RunB C ps fu ou Z T w):RunB C ps fu ou Z' T w':=
  ⟨h.ok,h.len,cQ h.lt he.size,h.own,by rw [he.block _ h.lt fun hn=>hn.2.1 h.own];exact h.at',jR (N:=N) T _ w w' he.less h.parts,
    (dI fo Al C.cv.v C.E.cs).st hz (he.mono fun _ _ h=>h.2.2) h.chars,(dI gh Al C.lv.v C.E.pl).st hz (he.mono fun _ _ h=>h.2.2) h.places⟩
theorem RunB.cell (h:RunB C ps fu ou Z T w) {j:Nat} {u:Value} (hu:(C.cells fu ou)[j]? =some u):w.cell? (C.ad.add j)=some u:=by
  have hb:ce C.rt (C.cells fu ou) T C.rv w:=⟨C.g,rfl,h.lt,h.own,h.at'⟩;exact hb.cell hu
theorem RunB.sl (h:RunB C ps fu ou Z T w):SlT bO w C.pv.v ps:=h.parts.1.sl
structure RunR (C:Cfg) (tb:Option Nat) (ps:Ps) (fu:Nat) (ou:Bool) (tv:Int) (Z T:aP) (w:World):Prop where
  b:RunB C ps fu ou Z T w
  to:∀q,tb=some q→ce C.it [.int .i64 tv] T (.pointer (some ⟨q,0,none⟩)) w
  tg:∀q,tb=some q→q≠C.g∧∀b,C.pv.v.ownBlock=some b→b≠q
theorem RunR.mono (h:RunR C tb ps fu ou tv Z T w) (hZ:∀g,Z g→Z' g) (hT:∀g,T g→T' g):RunR C tb ps fu ou tv Z' T' w:=
  ⟨h.b.mono hZ hT,fun q hq=>by obtain ⟨g,e,h1,h2,h3⟩:=h.to q hq;exact ⟨g,e,h1,hT _ h2,h3⟩,h.tg⟩
theorem RunR.loc (hz:∀g,Z g→Z' g) (he:Ext (fun g=>N g∧¬T g∧¬Z g) w w') (h:RunR C tb ps fu ou tv Z T w):RunR C tb ps fu ou tv Z' T w':=
  ⟨h.b.loc hz he,fun q hq=>kA (N:=N) T _ w w' he.less (h.to q hq),h.tg⟩
theorem RunR.cell (h:RunR C tb ps fu ou tv Z T w) {j:Nat} {u:Value} (hu:(C.cells fu ou)[j]? =some u):w.cell? (C.ad.add j)=some u:=h.b.cell hu
theorem RunR.sl (h:RunR C tb ps fu ou tv Z T w):SlT bO w C.pv.v ps:=h.b.sl
def Td (C:Cfg) (tb:Option Nat):aP:=fun b=>b=C.g∨C.pv.v.ownBlock=some b∨tb=some b
theorem RunB.r (h:RunB C ps fu ou Z T w):RunR C none ps fu ou tv Z T w:=⟨h,fun _ hq=>(by cases hq),fun _ hq=>(by cases hq)⟩
def Fr (C:Cfg) (tb:Option Nat) (w:World):aP:=fun b=>b < w.heap.size∧¬Td C tb b
def gN (C:Cfg) (tb:Option Nat) (ps:Ps) (fu:Nat) (ou:Bool) (tv:Int) (w:World):Prop:=RunR C tb ps fu ou tv (Fr C tb w) (Td C tb) w
theorem RunR.td (h:RunR C tb ps fu ou tv Z T w):∀b,Td C tb b→T b:=by
  rintro b (rfl | hb | hb)
  · exact h.b.own
  · exact h.b.parts.2 _ hb
  · obtain ⟨g,e,_,hT,_⟩:=h.to b hb;simp at e;rw [e];exact hT
theorem RunR.tdlt (h:RunR C tb ps fu ou tv Z T w):∀b,Td C tb b→b < w.heap.size:=by
  rintro b (rfl | hb | hb)
  · exact h.b.lt
  · exact h.b.parts.1.lt _ hb
  · obtain ⟨g,e,hl,_,_⟩:=h.to b hb;simp at e;omega
theorem RunR.d (h:RunR C tb ps fu ou tv Z T w) (hd:∀g,T g→¬Z g) (hl:∀g,Z g→g < w.heap.size):gN C tb ps fu ou tv w:=by
  have hZ:∀g,Z g→Fr C tb w g:=fun g hg=>⟨hl g hg,fun ht=>hd _ (h.td _ ht) hg⟩;obtain ⟨⟨h1,h2,h3,h4,h5,h6,h7,h8⟩,h9,h10⟩:=h;refine ⟨⟨h1,h2,h3,.inl rfl,h5,⟨h6.1,fun g hg=> .inr (.inl hg)⟩,⟨h7.1,fun hn=>⟨hZ _ (h7.2 hn).1,ax⟩⟩,⟨h8.1,fun hn=>⟨hZ _ (h8.2 hn).1,ax⟩⟩⟩,fun q hq=> ?_,h10⟩;obtain ⟨g,e,k1,k2,k3⟩:=h9 q hq;exact ⟨g,e,k1,by simp at e;exact .inr (.inr (e ▸ hq)),k3⟩
theorem RunR.fr (h:RunR C tb ps fu ou tv Z T w) (hd:∀g,T g→¬Z g) (hl:∀g,Z g→g < w.heap.size) {Φ:ZP} (hz:Φ.P Z w):Φ.P (Fr C tb w) w:=
  Φ.st (fun g hg=>⟨hl g hg,fun ht=>hd _ (h.td _ ht) hg⟩) (Ext.refl _ w) hz
theorem gN.back (h':gN C tb ps' fu' ou' tv' w') (h:RunR C tb ps fu ou tv Z T w) (hx:Ext (Td C tb) w w') (hd:∀g,T g→¬Z g) (hZ:∀g,Z g→Z' g):RunR C tb ps' fu' ou' tv' Z' T w':=by
  have hm:Ext (fun g=>¬Z g) w w':=hx.mono fun g _ hg hz=>hd _ (h.td _ hg) hz;obtain ⟨⟨h1,h2,h3,h4,h5,h6,h7,h8⟩,h9,h10⟩:=h';refine ⟨⟨h1,h2,h3,h.b.own,h5,⟨h6.1,h.b.parts.2⟩,(dI fo Al C.cv.v C.E.cs).st hZ hm h.b.chars,(dI gh Al C.lv.v C.E.pl).st hZ hm h.b.places⟩,fun q hq=> ?_,h10⟩;obtain ⟨g,e,k1,k2,k3⟩:=h9 q hq;obtain ⟨g',e',j1,j2,j3⟩:=h.to q hq;refine ⟨g,e,k1,?_,k3⟩;simp at e e';rw [←e,e'];exact j2
end
section
variable {N:aP}
def jh (N:aP) (tag t:Nat) (C:Cfg) (tb:Option Nat) (ps:Ps) (fu:Nat) (ou:Bool) (tv:Int) (v:Value):Spec N:=⟨some tag,t,fun Z T u w=>u=v∧RunR C tb ps fu ou tv Z T w,fun Z Z' T u w w' hz he h=>⟨h.1,RunR.loc hz he h.2⟩,fun u=>u=v,fun _ _ _ _ h=>h.1⟩
def lk (N:aP) (tag t:Nat) (C:Cfg) (tb:Option Nat) (ps:Ps) (fu:Nat) (ou:Bool) (tv:Int):Spec N:=⟨some tag,t,fun Z T u w=>RunR C tb ps fu ou tv Z T w,fun Z Z' T u w w' hz he h=>RunR.loc hz he h,fun _=>True,fun _ _ _ _ _=>trivial⟩
def CG (N:aP) (C:Cfg) (tb:Option Nat) (ps:Ps) (fu:Nat) (ou:Bool) (tv:Int):Ini N:=⟨fun Z T w=>RunR C tb ps fu ou tv Z T w,fun Z Z' T w w' hz he h=>RunR.loc hz he h⟩
abbrev ir {N:aP} {C:Cfg} {tb:Option Nat} {ps:Ps} {fu:Nat} {ou:Bool} {tv:Int} {Z T:aP} {w:World} (_:RunR C tb ps fu ou tv Z T w):Ini N:=CG N C tb ps fu ou tv
end
theorem wk {τ:Nat→aP} {w:World}:∀g,eY τ w g→g < w.heap.size:=fun _ h=>h.1
theorem jW {τ:Nat→aP} {w:World} {t:Nat}:∀g,τ t g→¬eY τ w g:=fun g h hz=>hz.2 _ h
theorem iV {τ:Nat→aP} {w w':World} (h:w.heap.size≤w'.heap.size):∀g,eY τ w g→eY τ w' g:=fun _ hz=>⟨cQ hz.1 h,hz.2⟩
section
variable {N:aP} {P:Program} {ops:Array Oper} {sp:List (Spec N)} {In:Nat→Ini N} {a0:Act} {w0:World} {bf:List Nat} {j:Nat} {o:Oper} {s:Spec N} {done:Nat→Bool} {a:Act} {w:World} {τ:Nat→aP} {C:Cfg} {tb:Option Nat} {ps ps':Ps} {fu fu':Nat} {ou ou':Bool} {tv tv':Int}
theorem Cx.ir (c:Cx ops sp In a0 w0 bf j o done a w τ) (t:Nat) (hI:In t=CG N C tb ps fu ou tv) (hl:bF (sp.map (·.tag)) t j=none:=by exact rfl) (hord:js (sp.map (·.tag)) bf t j=true:=by kernel_rfl):RunR C tb ps fu ou tv (eY τ w) (τ t) w:=c.ini t _ hI hl hord
theorem Cx.rr {t slot:Nat} {v:Value} (c:Cx ops sp In a0 w0 bf j o done a w τ) (i:Nat) (hs:sp[i]? =some (jh N t slot C tb ps fu ou tv v)) (hl:bF (sp.map (·.tag)) t j=some i:=by exact rfl) (hord:js (sp.map (·.tag)) bf t j=true:=by kernel_rfl):RunR C tb ps fu ou tv (eY τ w) (τ t) w:=(c.res i t _ hs hl hord).2
theorem Cx.rv {t slot:Nat} {v:Value} (c:Cx ops sp In a0 w0 bf j o done a w τ) (i:Nat) (hs:sp[i]? =some (jh N t slot C tb ps fu ou tv v)) (hb:(bf.getD j 0).testBit i=true:=by exact rfl):a.eval (.tmp slot)=v:=c.J.pur i _ hs (c.pre i hb)
theorem iB {tag t:Nat} {v:Value} (h:∀{done a w τ},Cx ops sp In a0 w0 bf j o done a w τ→∃g args,fx P a o w g args∧Calls P g args w (fun e w'=>e= .returned v∧Ext (τ tag) w w'∧RunR C tb ps fu ou tv (eY τ w') (τ tag) w'))
    (hs:s=jh N tag t C tb ps fu ou tv v:=by exact rfl) (hg:o.guard=none:=by exact rfl) (hd:o.dst=some t:=by exact rfl):Ob ops sp In a0 w0 P bf j o s:=by
  subst hs;refine jk (tag:=tag) hg rfl fun done a w τ c=> ?_;obtain ⟨g,args,h1,h2⟩:=h c;refine ⟨g,args,h1,h2.mono fun e w' ⟨he,hx,hb⟩=>⟨v,he,hx,τ tag,fun g h=> .inl h,?_,hb.mono (ku fun _ h=>h) fun _ h=>h⟩⟩;show aT (a.put o.dst v) t=v;rw [hd,dx a t t _ (c.lt t hd),if_pos rfl]
theorem wl {tag t:Nat} (h:∀{done a w τ},Cx ops sp In a0 w0 bf j o done a w τ→∃g args v,fx P a o w g args∧Calls P g args w (fun e w'=>e= .returned v∧Ext (τ tag) w w'∧RunR C tb ps fu ou tv (eY τ w') (τ tag) w'))
    (hs:s=lk N tag t C tb ps fu ou tv:=by exact rfl) (hg:o.guard=none:=by exact rfl):Ob ops sp In a0 w0 P bf j o s:=by
  subst hs;refine jk (tag:=tag) hg rfl fun done a w τ c=> ?_;obtain ⟨g,args,v,h1,h2⟩:=h c;exact ⟨g,args,h1,h2.mono fun e w' ⟨he,hx,hb⟩=>⟨v,he,hx,τ tag,fun g h=> .inl h,hb.mono (ku fun _ h=>h) fun _ h=>h⟩⟩
theorem lI {tag t tt off:Nat} {x y:Operand} {v:Value} (hs:s=lk N tag t C tb ps fu' ou' tv) (hg:o.guard=none) (hd:o.dst=none) (ho:o.op= .store tt x y) (hsz:∀w,(sizeOf tt).run P w= .ok 1 w)
    (hv:v.cells=#[v]) (h1:v.oneCell'=true) (hfit:off+1≤17) (hc:C.cells fu' ou'=(C.cells fu ou).take off++ [v]++(C.cells fu ou).drop (off+1))
    (hp:∀{done a w τ},Cx ops sp In a0 w0 bf j o done a w τ→RunR C tb ps fu ou tv (eY τ w) (τ tag) w∧a.eval x= .pointer (some (C.ad.add off))∧a.eval y=v):Ob ops sp In a0 w0 P bf j o s:=by
  subst hs;refine eq hg rfl fun done a w τ c=> ?_;obtain ⟨hR,hx,hy⟩:=hp c;have hr:=run_store (P:=P) (t:=tt) (v:=v) (off:=off) hR.b.at' (by rw [hv];exact hsz) (by rw [hv];simpa [Cfg.cells,vN] using hfit) (by rw [hv];simpa using h1);rw [hv] at hr;have hr':(execOp a.eval o).run P w= .ok .skip (w.setRow C.g (C.cells fu' ou').toArray):=by
    simp only [execOp,ho,hx,hy,Sem.run_bind];have e:C.ad.add off=⟨C.g,off,none⟩:=lC C.g off;rw [e,hr,hc];rfl
  have hext:=iv w C.g (C.cells fu' ou').toArray;refine iw hr' ⟨_,rfl,hext.mono fun k _ hk=>by subst hk;exact hR.b.own,τ tag,fun g h=> .inl h,?_⟩;have hm:Ext (fun g=>¬eY τ w g) w (w.setRow C.g (C.cells fu' ou').toArray):=hext.mono fun k _ hk=>by subst hk;exact jW _ hR.b.own
  have hsz2:w.heap.size≤(w.setRow C.g (C.cells fu' ou').toArray).heap.size:=hext.size;have hzz:∀g,eY τ w g→eY (nf τ tag (τ tag)) (w.setRow C.g (C.cells fu' ou').toArray) g:=fun g hz=>ku (fun _ h=>h) g (iV hsz2 g hz);obtain ⟨⟨k1,k2,k3,k4,k5,k6,k7,k8⟩,k9,k10⟩:=hR;refine ⟨⟨k1,k2,by simpa [World.setRow] using k3,k4,?_,⟨iQ.keep k6.1 hext fun g hg he=>k1.pg g hg he,k6.2⟩,(dI fo Al C.cv.v C.E.cs).st hzz hm k7,(dI gh Al C.lv.v C.E.pl).st hzz hm k8⟩,fun q hq=> ?_,k10⟩
  · exact setRow_heap w C.g _ _ C.rt _ k5
  · obtain ⟨g,e,l1,l2,l3⟩:=k9 q hq;refine ⟨g,e,cQ l1 hsz2,l2,?_⟩;rw [hext.block g l1 (by simp at e;intro he;exact (k10 q hq).1 (by rw [e,he]))];exact l3
end
section
variable {N:aP} {l:List Oper} {sp:List (Spec N)} {il:List (Ini N)} {a0 a:Act} {w:World} {τ:Nat→aP} {C:Cfg} {tb:Option Nat} {ps:Ps} {fu:Nat} {ou:Bool} {tv:Int}
theorem Fin.ir (h:Fin l sp il a0 a w τ) (t:Nat) (hI:eE il t=CG N C tb ps fu ou tv) (hl:bF (sp.map (·.tag)) t sp.length=none:=by exact rfl):RunR C tb ps fu ou tv (eY τ w) (τ t) w:=by
  have:=h.ini t hl;rw [hI] at this;exact this
theorem Fin.rv {t slot:Nat} {v:Value} (h:Fin l sp il a0 a w τ) (j:Nat) (hs:sp[j]? =some (jh N t slot C tb ps fu ou tv v)) (hl:bF (sp.map (·.tag)) t sp.length=some j:=by exact rfl):aT a slot=v:=(h.res j t _ hs rfl hl).1
theorem Fin.rr {t slot:Nat} {v:Value} (h:Fin l sp il a0 a w τ) (j:Nat) (hs:sp[j]? =some (jh N t slot C tb ps fu ou tv v)) (hl:bF (sp.map (·.tag)) t sp.length=some j:=by exact rfl):RunR C tb ps fu ou tv (eY τ w) (τ t) w:=(h.res j t _ hs rfl hl).2
theorem Fin.r0 {t slot:Nat} (h:Fin l sp il a0 a w τ) (j:Nat) (hs:sp[j]? =some (lk N t slot C tb ps fu ou tv)) (hl:bF (sp.map (·.tag)) t sp.length=some j:=by exact rfl):RunR C tb ps fu ou tv (eY τ w) (τ t) w:=h.res j t _ hs rfl hl
end
end
section
open Go.RowKit
abbrev jr {N:aP} {τ:Nat→aP} {w:World} {C:Cfg} {tb:Option Nat} {ps:Ps} {fu t:Nat} {ou:Bool} {tv:Int} (h:RunR C tb ps fu ou tv (eY τ w) (τ t) w):IE N τ w:=⟨CG N C tb ps fu ou tv,t,h⟩
end
section
open Go.RowKit Srt
section
variable {P:Program} {a:Act} {o:Oper} {w:World}
theorem EG {x x1:Operand} {ts:Array TypeId} {v1:Value} {f:FuncId} {caps:Array Value} (ho:o.op= .call { callee:= .value x,args:=#[x1],argTypes:=ts }) (hx:a.eval x= .func (.func f) #[] caps) (hcall:∀args w,(callFunc f args).run P w= .ok (.enter f args) w) (h1:a.eval x1=v1):fx P a o w f (#[v1]++caps):=
  mC ho hx hcall (by simp [h1])
theorem qg {f:FuncId} {x1 x2 x3 x4 x5:Operand} {v1 v2 v3 v4 v5:Value} (ho:o.op= .makeFunc (.func f) #[] #[x1,x2,x3,x4,x5]) (h1:a.eval x1=v1) (h2:a.eval x2=v2) (h3:a.eval x3=v3) (h4:a.eval x4=v4) (h5:a.eval x5=v5):cm P a o w (.func (.func f) #[] #[v1,v2,v3,v4,v5]):=by
  subst h1 h2 h3 h4 h5;simp [cm,execOp,ho,Instr.makeFunc]
theorem wm {t e:TypeId} {x y:Operand} {v:Value} {n m lo hi i:Nat} {k:IntKind} (ho:o.op= .indexAddr t x y) (ht:P.underlying t=some (.slice e)) (hz:∀w,(sizeOf e).run P w= .ok m w) (hx:a.eval x=gl v lo hi m) (hv:mB v n) (hy:a.eval y= .int k (i:Int)) (h1:lo+i < hi) (h2:hi≤n):
    cm P a o w (.pointer (some ((cU v).add ((lo+i) * m)))):=by
  rcases hv with ⟨_,rfl⟩ | ⟨b,cap,rfl,hc,_⟩
  · omega
  · have hne:¬cap=lo:=by omega
    have h3:(i:Int) < ((hi - lo:Nat):Int):=by omega
    have h0:(0:Int)≤(i:Int):=by omega
    have e2:gl (.slice (some b) n cap) lo hi m= .slice (some (b.add (lo * m))) (hi - lo) (cap - lo):=by simp [gl,hne]
    rw [e2] at hx;have hq:=aM (w:=w) (n:=hi - lo) ho ht hz hx (.inr ⟨_,_,rfl,by omega,by omega⟩) hy h0 h3;have e3:cU (.slice (some (b.add (lo * m))) (hi - lo) (cap - lo))=b.add (lo * m):=rfl;rw [e3,add_add,iI,←fQ] at hq;exact hq
theorem sK {v:Value} {n lo hi m:Nat} (hv:mB v n) (h1:lo≤hi) (h2:hi≤n):mB (gl v lo hi m) (hi - lo):=by
  rcases hv with ⟨rfl,rfl⟩ | ⟨b,cap,rfl,hc,hm⟩
  · left;simp [gl];omega
  · right;exact ⟨if cap=lo then b else b.add (lo * m),cap - lo,by simp only [gl];split <;> rfl,by omega,by omega⟩
theorem sL {dT sT ty elem:TypeId} {g o' dLen dCap:Nat} {sa:Option Addr} {sLen sCap m:Nat} {cur:Array Value} {t:TypeId} {cs:List Value}
    (hu:P.underlying dT=some (.slice elem)) (hs:(P.info? elem).map (·.size)=some m)
    (hg:w.heap[g]? =some (.cells cur t (0,0))) (hn:cs.length=Nat.min sLen dLen * m)
    (hsrc:∀ad,sa=some ad→∀j v,cs[j]? =some v→w.cell? (ad.add j)=some v) (hsn:sa=none→cs=[]) (hfit:o'+cs.length≤cur.size) (h1:∀v ∈ cs,v.oneCell'=true):
    (Builtin.copy_ #[dT,sT] ty #[.slice (some ⟨g,o',none⟩) dLen dCap,.slice sa sLen sCap]).run P w=
      .ok (goInt (Nat.min sLen dLen)) (w.setRow g (cur.toList.take o'++cs++cur.toList.drop (o'+cs.length)).toArray):=by
  have hst:=run_storeCells_at P g o' t cs 0 cur w hg (by simpa using hfit) h1;cases hq:P.info? elem with
  | none => simp [hq] at hs
  | some i =>
    have hi:i.size=m:=by simpa [hq] using hs
    cases sa with
    | none =>
      have hc:=hsn rfl;subst hc;simp only [kL] at hst;simp [Builtin.copy_,run_underlying hu,Builtin.lenOf,Builtin.firstCells,sizeOf,typeInfo,hq,hi,hst]
    | some ad =>
      have hl:=run_loadCells_list (P:=P) w ad cs (hsrc ad rfl);rw [hn] at hl;simp only [kL] at hst;simp [Builtin.copy_,run_underlying hu,Builtin.lenOf,Builtin.firstCells,sizeOf,typeInfo,hq,hi,hl,hst]
end
section
variable {α:Type} {E:Enc α} {ty:Nat} {P:Program} {w:World}
theorem qh {dT sT rt elem:TypeId} {v u:Value} {xs ys:List α} {lo hi:Nat} (h:iQ E ty w v xs) (hu:SlT E w u ys) (hdT:P.underlying dT=some (.slice elem)) (hsz:(P.info? elem).map (·.size)=some E.sz)
    (h1:lo≤hi) (h2:hi≤xs.length) (hl:ys.length=hi - lo):
    ∃w',(Builtin.copy_ #[dT,sT] rt #[gl v lo hi E.sz,u]).run P w= .ok (goInt ys.length) w'∧iQ E ty w' v (xs.take lo++ys++xs.drop hi)∧Ext (fun k=>v.ownBlock=some k) w w':=by
  have hpos:=E.pos;have hxl:(xs.take lo++ys++xs.drop hi).length=xs.length:=by simp;omega
  rcases h.2 with ⟨rfl,h0⟩ | ⟨g,cap,cur,rfl,hb,hg,g2,g3,g4,g5⟩
  · obtain rfl:hi=0:=by omega
    obtain rfl:lo=0:=by omega
    have hy:ys=[]:=bS (by omega);have hx:xs=[]:=bS (by omega);subst hy;subst hx;refine ⟨w,?_,by simpa using h,Ext.refl _ _⟩;cases hq:P.info? elem with
    | none => simp [hq] at hsz
    | some i =>
      rcases hu.sl with ⟨rfl,_⟩ | ⟨b,cap,rfl,_⟩
      · simp [gl,Builtin.copy_,run_underlying hdT,Builtin.lenOf,Builtin.firstCells,sizeOf,typeInfo,hq]
      · have hl0:(loadCells b 0).run P w= .ok #[] w:=by simpa using run_loadCells_list (P:=P) w b [] (by simp)
        simp [gl,Builtin.copy_,run_underlying hdT,Builtin.lenOf,Builtin.firstCells,sizeOf,typeInfo,hq,hl0]
  · have hcs:(E.row ys).length=ys.length * E.sz:=E.row_length _;have hm1:hi * E.sz≤xs.length * E.sz:=gS _ h2;have hm2:xs.length * E.sz≤cap * E.sz:=gS _ g2;have hm3:lo * E.sz+ys.length * E.sz=hi * E.sz:=by rw [←fQ];congr 1;omega
    obtain ⟨sa,sCap,hue,hsa,hsn⟩:∃sa sCap,u= .slice sa ys.length sCap∧(∀ad,sa=some ad→∀j x,(E.row ys)[j]? =some x→w.cell? (ad.add j)=some x)∧(sa=none→E.row ys=[]):=by
      rcases hu.sl with ⟨e,h0⟩ | ⟨b,cap2,e,_⟩
      · refine ⟨none,0,by rw [e,h0],fun _ h=>(by cases h),fun _=> ?_⟩;rw [bS h0];rfl
      · refine ⟨some b,cap2,e,fun ad h j x hj=> ?_,fun h=>by cases h⟩;cases h
        have:=hu.cell j x hj;rw [e] at this;exact this
    subst hue;by_cases hc:cap=lo
    · obtain rfl:hi=lo:=by omega
      have hy:ys=[]:=bS (by omega);subst hy;have hr:=sL (P:=P) (sT:=sT) (ty:=rt) (o':=0) (dLen:=0) (dCap:=0) (sa:=sa) (sLen:=0) (sCap:=sCap) (cs:=[]) hdT hsz hg (by simp) (fun _ _ j v hj=>by simp at hj) (fun _=>rfl) (by simp) (by simp);have hw:w.setRow g (cur.toList.take 0++ []++cur.toList.drop (0+([]:List Value).length)).toArray=w:=by
        simp only [List.take_zero,gp,cd,kL,kY,Array.toArray_toList];exact setRow_self w g cur ty (0,0) hg
      rw [hw] at hr;refine ⟨w,?_,by simpa using h,Ext.refl _ _⟩;have e2:gl (.slice (some ⟨g,0,none⟩) xs.length cap) hi hi E.sz= .slice (some ⟨g,0,none⟩) 0 0:=by simp [gl,hc]
      rw [e2];simpa using hr
    · have e2:gl (.slice (some ⟨g,0,none⟩) xs.length cap) lo hi E.sz= .slice (some ⟨g,lo * E.sz,none⟩) (hi - lo) (cap - lo):=by
        simp [gl,hc,lC]
      have hmin:Nat.min ys.length (hi - lo)=ys.length:=by rw [hl];exact Nat.min_self _
      have hr:=sL (P:=P) (sT:=sT) (ty:=rt) (o':=lo * E.sz) (dLen:=hi - lo) (dCap:=cap - lo) (sa:=sa) (sLen:=ys.length) (sCap:=sCap) (cs:=E.row ys) hdT hsz hg (by rw [hmin,hcs]) hsa hsn (by rw [hcs];omega) E.row_one;rw [hmin] at hr;rw [e2];refine ⟨_,hr,⟨by rw [E.row_length],.inr ⟨g,cap,_,by rw [hxl],hb,setRow_heap w g cur _ ty _ hg,by rw [hxl];exact g2,g3,?_,?_⟩⟩,(iv w g _).mono fun k _ h=>by rw [h];rfl⟩
      · simp only [jL,cg,dB,em,fh,hcs];omega
      · rw [hxl];have e3:E.row (xs.take lo++ys++xs.drop hi)=(E.row xs).take (lo * E.sz)++E.row ys++(E.row xs).drop (hi * E.sz):=by
          rw [E.row_append,E.row_append,E.row_take,E.row_drop]
        rw [e3,←g5,List.take_take,List.drop_take,hcs,hm3];have e4:min (lo * E.sz) (xs.length * E.sz)=lo * E.sz:=by omega
        rw [e4];have hA:(cur.toList.take (lo * E.sz)++E.row ys).length=hi * E.sz:=by simp [hcs];omega
        show (cur.toList.take (lo * E.sz)++E.row ys++cur.toList.drop (hi * E.sz)).take (xs.length * E.sz)=_;rw [iZ,hA,bB (by omega)]
end
section
variable {C:Cfg} {ps ps':Ps} {fu:Nat} {ou:Bool} {tv:Int} {tb:Option Nat} {Z Z' T:aP} {w w':World}
theorem RunB.turn (h:RunB C ps fu ou Z T w) (hx:Ext (fun k=>C.pv.v.ownBlock=some k) w w') (ho:iQ bO C.st w' C.pv.v ps') (hl:ps'.length=ps.length) (hZ:∀g,Z g→Z' g) (hd:∀g,T g→¬Z g):RunB C ps' fu ou Z' T w':=by
  have hm:Ext (fun g=>¬Z g) w w':=hx.mono fun g _ hg hz=>hd _ (h.parts.2 g hg) hz;obtain ⟨k1,k2,k3,k4,k5,k6,k7,k8⟩:=h;refine ⟨k1,hl.trans k2,cQ k3 hx.size,k4,?_,⟨ho,k6.2⟩,(dI fo Al C.cv.v C.E.cs).st hZ hm k7,(dI gh Al C.lv.v C.E.pl).st hZ hm k8⟩;rw [hx.block C.g k3 fun hb=>k1.pg _ hb rfl];exact k5
theorem RunR.turn (h:RunR C tb ps fu ou tv Z T w) (hx:Ext (fun k=>C.pv.v.ownBlock=some k) w w') (ho:iQ bO C.st w' C.pv.v ps') (hl:ps'.length=ps.length) (hZ:∀g,Z g→Z' g) (hd:∀g,T g→¬Z g):RunR C tb ps' fu ou tv Z' T w':=by
  refine ⟨h.b.turn hx ho hl hZ hd,fun q hq=> ?_,h.tg⟩;obtain ⟨g,e,l1,l2,l3⟩:=h.to q hq;refine ⟨g,e,cQ l1 hx.size,l2,?_⟩;rw [hx.block g l1 fun hb=>(h.tg q hq).2 _ hb (by simp at e;exact e.symm)];exact l3
theorem fO {ps:Ps} {lo n:Nat} (h:lo+n≤ps.length):(cX ps lo n).length=ps.length:=by
  simp [cX];omega
end
section
variable {N:aP} {P:Program} {ops:Array Oper} {sp:List (Spec N)} {In:Nat→Ini N} {a0:Act} {w0:World} {bf:List Nat} {j:Nat} {o:Oper} {s:Spec N} {done:Nat→Bool} {a:Act} {w:World} {τ:Nat→aP} {C:Cfg} {tb:Option Nat} {ps ps':Ps} {fu fu':Nat} {ou ou':Bool} {tv tv':Int} {pc:Prop}
theorem eQ {ty t:Nat} {cells:List Value} {x:Operand} {v:Value} (hgd:uE ops sp bf j o pc) (ho:o.op= .box ty x) (hc:v.cells=cells.toArray)
    (h:∀{done a w τ},Cx ops sp In a0 w0 bf j o done a w τ→pc→a.eval x=v)
    (hs:s=eP N t pc (fun b:Nat=> .pointer (some ⟨b,0,none⟩)) (fun _=>True) (fun b=>cL ⟨b,0,none⟩ cells):=by exact rfl) (hd:o.dst=some t:=by exact rfl):Ob ops sp In a0 w0 P bf j o s:=by
  subst hs;intro done a w τ c;refine ⟨fun hw=> ?_,fun hw=>⟨Ext.refl _ _,fun hp=>by rw [(hgd.known c).2 hp] at hw;cases hw⟩⟩;have hp:=(hgd.known c).1 hw;have hr:(execOp a.eval o).run P w= .ok (.value (.pointer (some ⟨w.heap.size,0,none⟩))) (w.alloc (.cells cells.toArray ty)):=by
    simp only [execOp,ho,h c hp,Instr.box,newVar,newRow,newObj,hc];rfl
  refine fN hr ⟨_,rfl,Ext.alloc _ _ _,fun _=>⟨w.heap.size,?_,ax,⟨⟨by simp,fun t ht=> ?_⟩,fun j u hu=> ?_⟩⟩⟩
  · show aT (a.put o.dst _) t=_;rw [hd,dx a t t _ (c.lt t hd),if_pos rfl]
  · have:=(c.J.bnd t _ ht).2;exact absurd this (Nat.lt_irrefl _)
  · exact (tu (ty:=ty) (cells:=cells) (w:=w)).cell hu
def EH {α:Type} (E:Enc α) (ty:Nat) (N:aP) (tag t:Nat) (v:Value) (xs:List α):Spec N:=⟨some tag,t,fun _ T _ w=>dX E ty xs T v w,fun _ _ T u w w' _ h hr=>jR T v w w' h.less hr,fun _=>True,fun _ _ _ _ _=>trivial⟩
theorem yB {α:Type} {E:Enc α} {ty tag t tt i:Nat} {v:Value} {xs:List α} {x x':α} {p q:Operand} {u:Value} (hs:s=EH E ty N tag t v (xs.set i x')) (hg:o.guard=none) (hd:o.dst=none) (ho:o.op= .store tt p q) (hsz:∀w,(sizeOf tt).run P w= .ok u.cells.size w)
    (hx:xs[i]? =some x) (hl:0+u.cells.size≤E.sz) (h1:∀c ∈ u.cells.toList,c.oneCell'=true) (hc:E.cells x'=iR (E.cells x) 0 u.cells.toList)
    (hp:∀{done a w τ},Cx ops sp In a0 w0 bf j o done a w τ→dX E ty xs (τ tag) v w∧a.eval p= .pointer (some ((cU v).add (i * E.sz)))∧a.eval q=u):Ob ops sp In a0 w0 P bf j o s:=by
  subst hs;refine eq hg rfl fun done a w τ c=> ?_;obtain ⟨⟨hown,hT⟩,hp',hq⟩:=hp c;obtain ⟨w',hr,h2,h3⟩:=lM (P:=P) (tt:=tt) hown hx hsz hl h1 hc;have hr':(execOp a.eval o).run P w= .ok .skip w':=by
    have hr2:(Instr.storeAt tt (.pointer (some ((cU v).add (i * E.sz)))) u).run P w= .ok () w':=hr;simp only [execOp,ho,hp',hq,Sem.run_bind,hr2];rfl
  exact iw hr' ⟨_,rfl,h3.mono fun k _ hk=>hT k hk,τ tag,fun g h=> .inl h,h2,hT⟩
theorem rB {tag t tt i:Nat} {x x':Int × Int} {p q:Operand} (hs:s=lk N tag t C tb (ps.set i x') fu ou tv) (hg:o.guard=none) (hd:o.dst=none) (ho:o.op= .store tt p q) (hsz:∀w,(sizeOf tt).run P w= .ok 2 w)
    (hx:ps[i]? =some x)
    (hp:∀{done a w τ},Cx ops sp In a0 w0 bf j o done a w τ→RunR C tb ps fu ou tv (eY τ w) (τ tag) w∧a.eval p= .pointer (some ((cU C.pv.v).add (i * 2)))∧a.eval q=lD x'):Ob ops sp In a0 w0 P bf j o s:=by
  subst hs;refine eq hg rfl fun done a w τ c=> ?_;obtain ⟨hR,hp',hq⟩:=hp c;obtain ⟨w',hr,h2,h3⟩:=lM (P:=P) (tt:=tt) (u:=lD x') (off:=0) (x':=x') hR.b.parts.1 hx (by exact hsz) (by exact bq _) (by simp [lD,Value.cells,Value.oneCell']) (by
    simp [bO,lD,Value.cells,iR])
  have hr':(execOp a.eval o).run P w= .ok .skip w':=by
    have hr2:(Instr.storeAt tt (.pointer (some ((cU C.pv.v).add (i * 2)))) (lD x')).run P w= .ok () w':=hr;simp only [execOp,ho,hp',hq,Sem.run_bind,hr2];rfl
  exact iw hr' ⟨_,rfl,h3.mono fun k _ hk=>hR.b.parts.2 k hk,τ tag,fun g h=> .inl h,hR.turn h3 h2 (by simp) (fun g hz=>ku (fun _ h=>h) g (iV h3.size g hz)) fun g h=>jW g h⟩
theorem rC {tag t dT sT e lo hi:Nat} {ys:Ps} {x y:Operand} (hs:s=jh N tag t C tb (ps.take lo++ys++ps.drop hi) fu ou tv (.int .i64 (ys.length:Int))) (hg:o.guard=none) (hd:o.dst=some t)
    (ho:o.op= .call { callee:= .builtin .copy,args:=#[x,y],argTypes:=#[dT,sT] }) (hdT:P.underlying dT=some (.slice e)) (hsz:(P.info? e).map (·.size)=some 2)
    (h1:lo≤hi) (h2:hi≤ps.length) (hl:ys.length=hi - lo)
    (hp:∀{done a w τ},Cx ops sp In a0 w0 bf j o done a w τ→RunR C tb ps fu ou tv (eY τ w) (τ tag) w∧a.eval x=gl C.pv.v lo hi 2∧∃u,a.eval y=u∧SlT bO w u ys):Ob ops sp In a0 w0 P bf j o s:=by
  subst hs;refine eq hg rfl fun done a w τ c=> ?_;obtain ⟨hR,hx,u,hy,hu⟩:=hp c;obtain ⟨w',hr,k2,k3⟩:=qh (P:=P) (sT:=sT) (rt:=o.type) hR.b.parts.1 hu hdT hsz h1 h2 hl;have hr':(execOp a.eval o).run P w= .ok (.value (.int .i64 (ys.length:Int))) w':=by
    have hr2:(Builtin.copy_ #[dT,sT] o.type #[gl C.pv.v lo hi 2,u]).run P w= .ok (goInt ys.length) w':=hr;simp only [execOp,ho,resolve,invoke,builtin,Sem.run_bind,Sem.run_pure,Result.andThen_ok,en,bu,bR,hx,hy,hr2];rfl
  refine fN hr' ⟨_,rfl,k3.mono fun k _ hk=>hR.b.parts.2 k hk,τ tag,fun g h=> .inl h,?_,hR.turn k3 k2 (by simp;omega) (fun g hz=>ku (fun _ h=>h) g (iV k3.size g hz)) fun g h=>jW g h⟩;show aT (a.put o.dst _) t=_;rw [hd,dx a t t _ (c.lt t hd),if_pos rfl]
theorem pe {α:Type} {E:Enc α} {ty e tag t:Nat} {ys:List α} {y:Operand} {z:Value} {i:TypeInfo} (hs:s=own E e N tag t ys) (hg:o.guard=none) (hd:o.dst=some t)
    (ho:o.op= .call { callee:= .builtin .append,args:=#[.const (.slice none 0 0),y],argTypes:=#[ty,ty] })
    (hty:P.underlying ty=some (.slice e)) (hi:P.info? e=some i) (hz:i.zero=some z) (hsize:i.size=E.sz) (hzs:z.cells.size=E.sz)
    (h63:ys.length≤maxLen) (hby:ys.length * i.bytes≤140737488355328)
    (hp:∀{done a w τ},Cx ops sp In a0 w0 bf j o done a w τ→∃u,a.eval y=u∧SlT E w u ys):Ob ops sp In a0 w0 P bf j o s:=by
  subst hs;refine eq hg rfl fun done a w τ c=> ?_;obtain ⟨u,hy,hsl⟩:=hp c;obtain ⟨v',w',hr,h2,h3,h4⟩:=oA (P:=P) (E:=E) ty o.type e i z hty hi hz hsize hzs (iQ.nil E e w) hsl (by simpa using h63) (by simpa using hby);have hr':(execOp a.eval o).run P w= .ok (.value v') w':=by
    simp only [execOp,ho,resolve,invoke,builtin,Sem.run_bind,Sem.run_pure,Result.andThen_ok,en,bu,bR,hy];have hr2:(Builtin.append_ #[ty,ty] o.type #[a.eval (.const (.slice none 0 0)),u]).run P w= .ok v' w':=hr;simp only [hr2];rfl
  rw [gp] at h2;refine fN hr' ⟨_,rfl,h3.mono (fun k _ h=>by simp [Value.ownBlock] at h),fun g=>v'.ownBlock=some g,fun g hg=>(h4 g hg).elim (fun h=>by simp [Value.ownBlock] at h) (fun h=> .inr h),?_⟩;show dX E e ys _ (aT (a.put o.dst _) t) _;rw [hd,dx a t t _ (c.lt t hd),if_pos rfl];exact ⟨h2,fun g h=>h⟩
end
section
variable {N:aP} {l:List Oper} {sp:List (Spec N)} {il:List (Ini N)} {a0 a:Act} {w:World} {τ:Nat→aP}
theorem Fin.ov {α:Type} {E:Enc α} {ty t slot:Nat} {v:Value} {xs:List α} (h:Fin l sp il a0 a w τ) (j:Nat) (hs:sp[j]? =some (EH E ty N t slot v xs)) (hl:bF (sp.map (·.tag)) t sp.length=some j:=by exact rfl):dX E ty xs (τ t) v w:=h.res j t _ hs rfl hl
end
def dC (ps:Ps) (x:Rs):Ps:=match x.1 with
  | some y => y.2
  | none => ps
def dt (tv:Int) (x:Rs):Int:=match x.1 with
  | some y => (y.1 : Int)
  | none => tv
def mi (C:Cfg) (tb:Option Nat) (ps:Ps) (tv:Int) (x:Rs) (w:World) (e:Ending) (w':World):Prop:=e= .returned (.bool x.1.isSome)∧Ext (Td C tb) w w'∧gN C tb (dC ps x) x.2.1 x.2.2 (dt tv x) w'
def Gm (P:Program) (C:Cfg) (tb:Option Nat) (B:Nat) (K:dG) (kf:Value) (Z:aP) (w:World):Prop:=∃f caps,kf= .func (.func f) #[] caps∧(∀args w,(callFunc f args).run P w= .ok (.enter f args) w)∧
  ∀(to:Nat) (ps:Ps) (fu:Nat) (tv:Int) (w2:World),Ext (fun g=>¬Z g) w w2→gN C tb ps fu false tv w2→to≤C.E.cs.length→fu < B→fu≤1000000→(∀g,Z g→Fr C tb w2 g)→Calls P f (#[.int .i64 (to:Int)]++caps) w2 (mi C tb ps tv (K to ps (fu,false)) w2)
def zK (P:Program) (C:Cfg) (tb:Option Nat) (B:Nat) (K:dG) (kf:Value):ZP:=⟨fun Z w=>Gm P C tb B K kf Z w,fun hz he ⟨f,caps,h1,h2,h3⟩=>⟨f,caps,h1,h2,fun to ps fu tv w2 hx hR ht hf hm hfr=>h3 to ps fu tv w2 (he.trans (hx.mono fun g _ hn hg=>hn (hz g hg))) hR ht hf hm fun g hg=>hfr g (hz g hg)⟩⟩
section
variable {C:Cfg} {ps ps':Ps} {fu fu' B B':Nat} {ou ou':Bool} {tv tv':Int} {tb:Option Nat} {Z Z' T:aP} {w w':World} {P:Program} {K:dG} {kf:Value}
theorem Gm.less (h:Gm P C tb B K kf Z w) (hB:B'≤B):Gm P C tb B' K kf Z w:=by
  obtain ⟨f,caps,h1,h2,h3⟩:=h;exact ⟨f,caps,h1,h2,fun to ps fu tv w2 hx hR ht hf=>h3 to ps fu tv w2 hx hR ht (by omega)⟩
theorem wn (h:(zK P C tb B K kf).P Z w):kf.cells=#[kf]:=by obtain ⟨f,caps,rfl,_⟩:=h;rfl
theorem gN.in {n:Nat} {a:Act} {τ:Nat→aP} (h:gN C tb ps fu ou tv w) (hτ:τ 0=Td C tb) (st:St (fun k=>Td C tb k∨w.heap.size≤k) w n a w τ):RunR C tb ps fu ou tv (eY τ w) (τ 0) w:=
  h.mono (fun g hg=>⟨hg.1,fun t ht=>(st.bnd t g ht).1.elim (fun h=>hg.2 h) (fun h=>by have:=hg.1;omega)⟩) (fun g hg=>by rw [hτ];exact hg)
theorem kh {n:Nat} {a:Act} {τ:Nat→aP} {Φ:ZP} (h:Φ.P (Fr C tb w) w) (st:St (fun k=>Td C tb k∨w.heap.size≤k) w n a w τ):Fz Φ τ w:=
  Φ.st (fun g hg=>⟨hg.1,fun t ht=>(st.bnd t g ht).1.elim (fun h=>hg.2 h) (fun h=>by have:=hg.1;omega)⟩) (Ext.refl _ w) h
theorem gN.tdlt (h:gN C tb ps fu ou tv w):∀g,Td C tb g→g < w.heap.size:=RunR.tdlt h
theorem mj {τ:Nat→aP} {f:FuncId} {args:Array Value} {x:Rs} (h:RunR C tb ps fu ou tv (eY τ w) (τ 0) w) (hc:Calls P f args w (mi C tb ps tv x w)):
    Calls P f args w (fun e w'=>e= .returned (.bool x.1.isSome)∧Ext (τ 0) w w'∧RunR C tb (dC ps x) x.2.1 x.2.2 (dt tv x) (eY τ w') (τ 0) w'):=
  hc.mono fun e w' ⟨h1,h2,h3⟩=>⟨h1,h2.mono fun g _ hg=>h.td g hg,h3.back h h2 (fun g hg=>jW g hg) (iV h2.size)⟩
theorem DZ {τ:Nat→aP} {f:FuncId} {args:Array Value} {v:Value} (h:RunR C tb ps fu ou tv (eY τ w) (τ 0) w) (hc:Calls P f args w (fun e w'=>e= .returned v∧Ext (Td C tb) w w'∧gN C tb ps' fu' ou' tv' w')):
    Calls P f args w (fun e w'=>e= .returned v∧Ext (τ 0) w w'∧RunR C tb ps' fu' ou' tv' (eY τ w') (τ 0) w'):=
  hc.mono fun e w' ⟨h1,h2,h3⟩=>⟨h1,h2.mono fun g _ hg=>h.td g hg,h3.back h h2 (fun g hg=>jW g hg) (iV h2.size)⟩
theorem kR {x:Rs} (h:x.1.isSome=false):dC ps x=ps:=by
  unfold dC;cases hx:x.1 with
  | none => rfl
  | some y => rw [hx] at h; cases h
theorem pH {x:Rs} (h:x.1.isSome=false):dt tv x=tv:=by
  unfold dt;cases hx:x.1 with
  | none => rfl
  | some y => rw [hx] at h; cases h
theorem sM {x:Rs} (h:x.1.isSome=true):dC ps x=dC ps' x:=by
  unfold dC;cases hx:x.1 with
  | none => rw [hx] at h; cases h
  | some y => rfl
theorem RunR.nope {x:Rs} (h:RunR C tb (dC ps x) fu ou (dt tv x) Z T w) (hx:x.1.isSome=false):RunR C tb ps fu ou tv Z T w:=by rwa [kR hx,pH hx] at h
theorem RunR.yep {x:Rs} (h:RunR C tb (dC ps x) fu ou (dt tv x) Z T w) (hx:x.1.isSome=true):RunR C tb (dC ps' x) fu ou (dt tv x) Z T w:=by rwa [sM hx] at h
theorem RunR.ouf (h:RunR C tb ps fu ou tv Z T w) (ho:ou=false):RunR C tb ps fu false tv Z T w:=ho ▸ h
theorem RunR.psc (h:RunR C tb ps fu ou tv Z T w) (e:ps'=ps):RunR C tb ps' fu ou tv Z T w:=e ▸ h
theorem kP {x:Rs} (h:x.1.isSome=false):x=(Option.none,x.2):=by
  obtain ⟨a,b⟩:=x;cases a with
  | none => rfl
  | some y => cases h
theorem xx {v:Value} {lo hi m:Nat} (h:lo≤hi):gl v lo hi m=gl v lo (lo+(hi - lo)) m:=by rw [show lo+(hi - lo)=hi by omega]
theorem oI {τ:Nat→aP} {f:FuncId} {args:Array Value} {v:Value} (h:RunR C tb ps fu ou tv (eY τ w) (τ 0) w) (hl:ps'.length=ps.length) (hc:Calls P f args w (fun e w'=>e= .returned v∧iQ bO C.st w' C.pv.v ps'∧Ext (fun k=>C.pv.v.ownBlock=some k) w w')):
    Calls P f args w (fun e w'=>e= .returned v∧Ext (τ 0) w w'∧RunR C tb ps' fu ou tv (eY τ w') (τ 0) w'):=
  hc.mono fun e w' ⟨h1,h2,h3⟩=>⟨h1,h3.mono fun g _ hg=>h.b.parts.2 g hg,h.turn h3 h2 hl (iV h3.size) fun g hg=>jW g hg⟩
theorem RunR.dz {τ:Nat→aP} (h:RunR C tb ps fu ou tv (eY τ w) (τ 0) w):gN C tb ps fu ou tv w:=h.d (fun g hg=>jW g hg) wk
theorem RunR.fz {τ:Nat→aP} {Φ:ZP} (h:RunR C tb ps fu ou tv (eY τ w) (τ 0) w) (hz:Φ.P (eY τ w) w):Φ.P (Fr C tb w) w:=h.fr (fun g hg=>jW g hg) wk hz
theorem ll {τ:Nat→aP} {a:Act} {o:Oper} {x x1:Operand} {ts:Array TypeId} {to:Nat} (h:RunR C tb ps fu false tv (eY τ w) (τ 0) w) (hk:(zK P C tb B K kf).P (eY τ w) w) (ht:to≤C.E.cs.length) (hf:fu < B) (hm:fu≤1000000)
    (ho:o.op= .call { callee:= .value x,args:=#[x1],argTypes:=ts }) (hx:a.eval x=kf) (h1:a.eval x1= .int .i64 (to:Int)):
    ∃g args,fx P a o w g args∧Calls P g args w (fun e w'=>e= .returned (.bool (K to ps (fu,false)).1.isSome)∧Ext (τ 0) w w'∧RunR C tb (dC ps (K to ps (fu,false))) (K to ps (fu,false)).2.1 (K to ps (fu,false)).2.2 (dt tv (K to ps (fu,false))) (eY τ w') (τ 0) w'):=by
  obtain ⟨f,caps,e1,e2,e3⟩:=hk;exact ⟨f,_,EG ho (hx.trans e1) e2 h1,mj h (e3 to ps fu tv w (Ext.refl _ _) h.dz ht hf hm fun g hg=>⟨wk g hg,fun ht=>jW g (h.td g ht) hg⟩)⟩
end
end
section
open Go.RowKit Srt
def ux (G:aP) (p:Pt):ZP:=⟨fun Z w=>PtT (fun g=>Z g∧G g) w p,fun hz he h=>(PtT.keep h he fun g hg hn=>hn hg.1).mono fun g hg _=>⟨hz g hg.1,hg.2⟩⟩
def yC (G:aP) (l:List Pt):ZP:=⟨fun Z w=>∀p ∈ l,PtT (fun g=>Z g∧G g) w p,fun hz he h p hp=>(ux G p).st hz he (h p hp)⟩
section
variable {G F Z:aP} {τ:Nat→aP} {w w':World} {p:Pt} {l:List Pt}
theorem Fz.pn (G:aP) (τ:Nat→aP) (w:World):Fz (yC G []) τ w:=fun p hp=>by simp at hp
theorem Fz.psnoc (h:Fz (yC G l) τ w) (h2:Fz (ux G p) τ w):Fz (yC G (l++ [p])) τ w:=fun q hq=>(List.mem_append.1 hq).elim (h q) fun hq=>by simp at hq;rw [hq];exact h2
theorem Fz.pouts (h:Fz (yC G l) τ w):∀p ∈ l,PtT G w p:=fun p hp=>PtT.mono (h p hp) fun g hg _=>hg.2
end
section
variable {N:aP} {P:Program} {ops:Array Oper} {sp:List (Spec N)} {In:Nat→Ini N} {a0:Act} {w0 W:World} {bf:List Nat} {j:Nat} {o:Oper} {s:Spec N} {done:Nat→Bool} {a:Act} {w:World} {τ:Nat→aP} {β:Type} {pc:Prop}
theorem Cx.zbx (c:Cx ops sp In a0 w0 bf j o done a w τ) (i:Nat) {ty t slot:Nat} {p:Value} {cells:β→List Value} {f:β→Value} {Ψ:β→Prop} {Φ:β→ZP} (hs:sp[i]? =some (iK ty N t slot p cells f Ψ Φ)) (hl:bF (sp.map (·.tag)) t j=some i:=by exact rfl) (hord:js (sp.map (·.tag)) bf t j=true:=by kernel_rfl):
    ∃b,a.eval (.tmp slot)=f b∧ce ty (cells b) (τ t) p w∧Ψ b∧(Φ b).P (eY τ w) w:=c.res i t _ hs hl hord
theorem Cx.pz {p:Pt} {F:aP} {n:Nat} {a1:Act} {τ0:Nat→aP} {w':World} (c:Cx ops sp In a0 w0 bf j o done a w τ) (st:St N W n a1 w0 τ0) (hx:w.heap.size≤w'.heap.size) (h:PtT (Gn (fun g=>eY τ w g∧Gn F W g) w) w' p):(ux (Gn F W) p).P (eY τ w') w':=PtT.mono h (c.gz (c.hW st) hx)
theorem uT {α:Type} {E:Enc α} {ty e tag t:Nat} {xs:List α} {ys:β→List α} {Ψ:β→Prop} {Φ:β→ZP} {x y:Operand} {z:Value} {i:TypeInfo} (hg:o.guard=none)
    (ho:o.op= .call { callee:= .builtin .append,args:=#[x,y],argTypes:=#[ty,ty] })
    (hty:P.underlying ty=some (.slice e)) (hi:P.info? e=some i) (hz:i.zero=some z) (hsize:i.size=E.sz) (hzs:z.cells.size=E.sz)
    (h63:∀b,xs.length+(ys b).length≤maxLen) (hby:∀b,(xs.length+(ys b).length) * i.bytes≤140737488355328)
    (hp:∀{done a w τ},Cx ops sp In a0 w0 bf j o done a w τ→∃v b,dX E e xs (τ tag) v w∧a.eval x=v∧Ψ b∧(Φ b).P (eY τ w) w∧∃u,a.eval y=u∧SlT E w u (ys b))
    (hs:s=pV E e N tag t True (fun b=>xs++ys b) Ψ Φ:=by exact rfl) (hd:o.dst=some t:=by exact rfl):Ob ops sp In a0 w0 P bf j o s:=by
  subst hs;refine eq hg rfl fun done a w τ c=> ?_;obtain ⟨v,b,⟨hown,hT⟩,hx,hq,hzz,u,hy,hsl⟩:=hp c;obtain ⟨v',w',hr,h2,h3,h4⟩:=oA (P:=P) (E:=E) ty o.type e i z hty hi hz hsize hzs hown hsl (h63 b) (hby b);have hr':(execOp a.eval o).run P w= .ok (.value v') w':=by
    simp only [execOp,ho,resolve,invoke,builtin,Sem.run_bind,Sem.run_pure,Result.andThen_ok,en,bu,bR,hx,hy,hr]
  refine fN hr' ⟨_,rfl,h3.mono (fun k _ h=>hT k h),fun g=>v'.ownBlock=some g,fun g hg=>(h4 g hg).elim (fun h=> .inl (hT g h)) (fun h=> .inr h),fun _=>⟨b,?_,hq,?_⟩⟩
  · show dX E e (xs++ys b) _ (aT (a.put o.dst _) t) _;rw [hd,dx a t t _ (c.lt t hd),if_pos rfl];exact ⟨h2,fun g h=>h⟩
  · refine (Φ b).st (fun g hg=>⟨cQ hg.1 h3.size,fun t' ht=> ?_⟩) (h3.mono fun g _ hg hZ=>hZ.2 tag (hT g hg)) hzz;unfold nf at ht;split at ht
    · rcases h4 g ht with h | h
      · exact hg.2 tag (hT g h)
      · exact absurd hg.1 (by omega)
    · exact hg.2 t' ht
theorem tN {x y:Operand} {t t':TypeId} {p:Int} (ho:o.op= .binOp .and t x y t') (hx:a.eval x= .int .u64 p) (hy:a.eval y= .int .u64 4294967295) (h0:0≤p) (h1:p < 4294967296):cm P a o w (.int .u64 p):=by
  obtain ⟨n,rfl⟩:=Int.eq_ofNat_of_zero_le h0;have hn:n < 4294967296:=by omega
  have e1:(BitVec.ofInt 64 (n:Int)).toNat=n:=by
    rw [BitVec.toNat_ofInt];omega
  have e:n&&&4294967295=n:=by
    have:=Nat.and_two_pow_sub_one_eq_mod n 32;rw [show (2 ^ 32 - 1:Nat)=4294967295 from rfl] at this
    rw [this];exact Nat.mod_eq_of_lt hn
  have e3:IntKind.u64.wrap (n:Int)=n:=by simp [IntKind.wrap,IntKind.signed,IntKind.bits];omega
  have e5:(BitVec.ofInt 64 4294967295).toNat=4294967295:=by decide
  have hr:(Op.intBits .and .u64 (n:Int) 4294967295).run P w= .ok (.int .u64 n) w:=by
    have e6:(BitVec.ofInt (IntKind.bits .u64) (n:Int)&&&BitVec.ofInt (IntKind.bits .u64) 4294967295).toNat=n:=by
      rw [BitVec.toNat_and];show (BitVec.ofInt 64 (n:Int)).toNat&&&(BitVec.ofInt 64 4294967295).toNat=n;rw [e1,e5,e]
    unfold Op.intBits;simp only [e6,e3];rfl
  simp only [cm,execOp,ho,hx,hy];simp [eqGuard,binOp,hr]
theorem ph {x y:Operand} {t t':TypeId} {p:Int} (ho:o.op= .binOp .shr t x y t') (hx:a.eval x= .int .u64 p) (hy:a.eval y= .int .u64 32) (h0:0≤p) (h1:p < 4294967296):cm P a o w (.int .u64 0):=by
  have e:p.fdiv 4294967296=0:=by
    rw [kV p (by omega)];exact Int.ediv_eq_zero_of_lt h0 h1
  simp [cm,execOp,ho,hx,hy,eqGuard,binOp,Op.shift,IntKind.bits];exact e
theorem rD {x y:Operand} {t t':TypeId} {p q r:Int} (ho:o.op= .binOp .mul t x y t') (hx:a.eval x= .int .u64 p) (hy:a.eval y= .int .u64 q) (e:p * q=r) (h0:0≤r) (h1:r < 18446744073709551616):cm P a o w (.int .u64 r):=by
  have e2:IntKind.u64.wrap r=r:=by simp [IntKind.wrap,IntKind.signed,IntKind.bits];omega
  simp [cm,execOp,ho,hx,hy,eqGuard,binOp,Op.intArith,e,e2]
theorem tO {x y:Operand} {t t':TypeId} {p q r:Int} (ho:o.op= .binOp .add t x y t') (hx:a.eval x= .int .u64 p) (hy:a.eval y= .int .u64 q) (e:p+q=r) (h0:0≤r) (h1:r < 18446744073709551616):cm P a o w (.int .u64 r):=by
  have e2:IntKind.u64.wrap r=r:=by simp [IntKind.wrap,IntKind.signed,IntKind.bits];omega
  simp [cm,execOp,ho,hx,hy,eqGuard,binOp,Op.intArith,e,e2]
theorem CH {α:Type} {E:Enc α} {ty e tag t n:Nat} {x y:Operand} {z:Value} {i:TypeInfo} {x0:α} (hs:s=own E e N tag t (List.replicate n x0)) (hg:o.guard=none) (hd:o.dst=some t) (ho:o.op= .makeSlice ty x y)
    (hty:P.underlying ty=some (.slice e)) (hi:P.info? e=some i) (hz:i.zero=some z) (hsize:i.size=E.sz) (hc:z.cells.toList=E.cells x0) (hby:i.bytes * n≤281474976710656) (h63:n≤maxLen)
    (hp:∀{done a w τ},Cx ops sp In a0 w0 bf j o done a w τ→a.eval x= .int .i64 (n:Int)∧a.eval y= .int .i64 (n:Int)):Ob ops sp In a0 w0 P bf j o s:=by
  subst hs;refine eq hg rfl fun done a w τ c=> ?_;obtain ⟨hx,hy⟩:=hp c;have h63':(n:Int)≤9223372036854775807:=by
    have h:=h63;simp only [maxLen] at h;omega
  have hb':(i.bytes:Int) * (n:Int)≤281474976710656:=by
    have h:((i.bytes * n:Nat):Int)≤281474976710656:=by omega
    rwa [Int.natCast_mul] at h
  have hr:=run_make (P:=P) w ty e i z hty hi hz .i64 .i64 n n (by omega) (fi _) hb' h63';simp only [iI] at hr;have hr':(execOp a.eval o).run P w= .ok (.value (.slice (some ⟨w.heap.size,0,none⟩) n n)) (w.alloc (.cells (madeCells z.cells (n * i.size)) e)):=by
    simp only [execOp,ho,hx,hy,Sem.run_bind,hr];rfl
  have hzs:z.cells.size=E.sz:=by rw [←fh,hc,E.len]
  have hrow:(madeCells z.cells (n * i.size)).toList=E.row (List.replicate n x0):=by
    apply List.ext_getElem?;intro q;rw [hsize];have hl:(E.row (List.replicate n x0)).length=n * E.sz:=by rw [E.row_length,bN]
    by_cases hq:q < n * E.sz
    · have hdiv:q / E.sz < n:=Nat.div_lt_of_lt_mul (by rwa [Nat.mul_comm] at hq)
      have hmod:q % E.sz < E.sz:=Nat.mod_lt _ E.pos
      have h1:=E.row_get (xs:=List.replicate n x0) (i:=q / E.sz) (j:=q % E.sz) (x:=x0) (by rw [List.getElem?_replicate,if_pos hdiv]) hmod;rw [show q / E.sz * E.sz+q % E.sz=q from Nat.div_add_mod' q E.sz] at h1;rw [h1,←hc];have hm2:q % E.sz < z.cells.size:=by omega
      simp only [madeCells,Array.toList_map,List.getElem?_map,Array.toList_range,List.getElem?_range hq,Option.map_some,hzs];rw [getElem!_pos z.cells _ hm2,bE (by simpa using hm2),Array.getElem_toList]
    · rw [jY (by simp [madeCells];omega),jY (by omega)]
  refine fN hr' ⟨_,rfl,Ext.alloc _ _ _,fun g=>g=w.heap.size,fun g hg=> .inr (by subst hg;simp),?_⟩;show dX E e _ _ (aT (a.put o.dst _) t) _;rw [hd,dx a t t _ (c.lt t hd),if_pos rfl];refine ⟨⟨E.row_length _,.inr ⟨w.heap.size,n,_,by rw [bN],dZ _,heap_alloc_new w _,by rw [bN];exact bq _,h63,by rw [size_madeCells,hsize],?_⟩⟩,fun g h=> ?_⟩
  · rw [hrow,bN];exact bB (by rw [E.row_length,bN];exact bq _)
  · simp only [Value.ownBlock,Option.some.injEq] at h;exact h.symm
end
section
variable {N:aP} {l:List Oper} {sp:List (Spec N)} {il:List (Ini N)} {a0 a:Act} {w:World} {τ:Nat→aP} {β:Type} {pc:Prop}
theorem Fin.gzo (h:Fin l sp il a0 a w τ) {α:Type} {E:Enc α} {ty t slot:Nat} {xs:β→List α} {Ψ:β→Prop} {Φ:β→ZP} (j:Nat) {v:Value} (hv:aT a slot=v) (hs:sp[j]? =some (pV E ty N t slot True xs Ψ Φ)) (hl:bF (sp.map (·.tag)) t sp.length=some j:=by exact rfl):∃b,dX E ty (xs b) (τ t) v w∧Ψ b∧Fz (Φ b) τ w:=
  hv ▸ h.res j t _ hs rfl hl trivial
end
section
variable {α:Type} {E:Enc α} {ty:Nat} {P:Program} {w:World}
theorem Ao {dT sT rt elem:TypeId} {d:Option Addr} {dl dc:Nat} {u u':Value} {ys:List α} (hu:SlT E w u ys) (hdT:P.underlying dT=some (.slice elem)) (hsz:(P.info? elem).map (·.size)=some E.sz) (hu':u'=gl u 0 (Nat.min ys.length dl) E.sz):
    (Builtin.copy_ #[dT,sT] rt #[.slice d dl dc,u]).run P w=(Builtin.copy_ #[dT,sT] rt #[.slice d (Nat.min ys.length dl) dc,u']).run P w:=by
  subst hu';cases hq:P.info? elem with
  | none => simp [hq] at hsz
  | some i =>
    have hi:i.size=E.sz:=by simpa [hq] using hsz
    rcases hu.sl with ⟨rfl,h0⟩ | ⟨b,cap,rfl,hc,hm⟩
    · rw [h0];simp [gl,Builtin.copy_,run_underlying hdT,Builtin.lenOf,Builtin.firstCells,sizeOf,typeInfo,hq,hi]
    · have e:gl (.slice (some b) ys.length cap) 0 (Nat.min ys.length dl) E.sz= .slice (some b) (Nat.min ys.length dl) cap:=by
        simp only [gl];split
        · simp_all
        · simp [Addr.add]
      rw [e];simp [Builtin.copy_,run_underlying hdT,Builtin.lenOf,Builtin.firstCells,sizeOf,typeInfo,hq,hi]
end
section
variable {α:Type} {E:Enc α} {ty:Nat} {P:Program} {w:World}
theorem sN {v:Value} {xs:List α} (h:iQ E ty w v xs):gl v 0 xs.length E.sz=v:=by
  rcases h.2 with ⟨rfl,h0⟩ | ⟨g,cap,cur,rfl,hb,hg,g2,g3,g4,g5⟩
  · rw [h0];rfl
  · simp only [gl];split
    · simp
    · simp [Addr.add]
theorem uU {dT sT rt elem:TypeId} {v u:Value} {xs ys:List α} {lo hi:Nat} (h:iQ E ty w v xs) (hu:SlT E w u ys) (hdT:P.underlying dT=some (.slice elem)) (hsz:(P.info? elem).map (·.size)=some E.sz)
    (h1:lo≤hi) (h2:hi≤xs.length):
    ∃w',(Builtin.copy_ #[dT,sT] rt #[gl v lo hi E.sz,u]).run P w= .ok (goInt (Nat.min ys.length (hi - lo))) w'∧iQ E ty w' v (xs.take lo++ys.take (Nat.min ys.length (hi - lo))++xs.drop (lo+Nat.min ys.length (hi - lo)))∧Ext (fun k=>v.ownBlock=some k) w w':=by
  have hm1:Nat.min ys.length (hi - lo)≤ys.length:=Nat.min_le_left _ _;have hm2:Nat.min ys.length (hi - lo)≤hi - lo:=dq _ _;have hsl:=SlT.sub hu (lo:=0) (hi:=Nat.min ys.length (hi - lo)) (dZ _) hm1;rw [kY,Nat.sub_zero] at hsl;obtain ⟨w',hr,k2,k3⟩:=qh (P:=P) (dT:=dT) (sT:=sT) (rt:=rt) (lo:=lo) (hi:=lo+Nat.min ys.length (hi - lo)) h hsl hdT hsz (by omega) (by omega) (by rw [dB];omega);rw [dB,Nat.min_eq_left hm1] at hr;refine ⟨w',?_,k2,k3⟩;have hsub:∃d dc,gl v lo hi E.sz= .slice d (hi - lo) dc∧gl v lo (lo+Nat.min ys.length (hi - lo)) E.sz= .slice d (Nat.min ys.length (hi - lo)) dc:=by
    rcases h.2 with ⟨rfl,h0⟩ | ⟨g,cap,cur,rfl,hb,hg,g2,g3,g4,g5⟩
    · exact ⟨none,0 - lo,by simp [gl],by simp [gl]⟩
    · exact ⟨if cap=lo then some ⟨g,0,none⟩ else some ((⟨g,0,none⟩:Addr).add (lo * E.sz)),cap - lo,by simp only [gl];split <;> rfl,by simp only [gl,Nat.add_sub_cancel_left];split <;> rfl⟩
  obtain ⟨d,dc,e1,e2⟩:=hsub;rw [e2] at hr;rw [e1,Ao (sT:=sT) (rt:=rt) hu hdT hsz rfl];exact hr
end
section
variable {N:aP} {P:Program} {ops:Array Oper} {sp:List (Spec N)} {In:Nat→Ini N} {a0:Act} {w0 W:World} {bf:List Nat} {j:Nat} {o:Oper} {s:Spec N} {done:Nat→Bool} {a:Act} {w:World} {τ:Nat→aP}
def yD {α:Type} (E:Enc α) (ty:Nat) (N:aP) (tag t:Nat) (v:Value) (xs:List α) (k:Value):Spec N:=⟨some tag,t,fun _ T u w=>u=k∧dX E ty xs T v w,fun _ _ T u w w' _ h hr=>⟨hr.1,jR T v w w' h.less hr.2⟩,fun u=>u=k,fun _ _ _ _ h=>h.1⟩
theorem Cx.oc {α:Type} {E:Enc α} {ty t slot:Nat} {v k:Value} {xs:List α} (c:Cx ops sp In a0 w0 bf j o done a w τ) (i:Nat) (hs:sp[i]? =some (yD E ty N t slot v xs k)) (hb:(bf.getD j 0).testBit i=true:=by exact rfl):a.eval (.tmp slot)=k:=c.J.pur i _ hs (c.pre i hb)
theorem rE {α:Type} {E:Enc α} {ty tag t dT sT e lo hi:Nat} {v:Value} {xs ys:List α} {x y:Operand} (hs:s=yD E ty N tag t v (xs.take lo++ys.take (Nat.min ys.length (hi - lo))++xs.drop (lo+Nat.min ys.length (hi - lo))) (.int .i64 ((Nat.min ys.length (hi - lo):Nat):Int))) (hg:o.guard=none) (hd:o.dst=some t)
    (ho:o.op= .call { callee:= .builtin .copy,args:=#[x,y],argTypes:=#[dT,sT] }) (hdT:P.underlying dT=some (.slice e)) (hsz:(P.info? e).map (·.size)=some E.sz)
    (h1:lo≤hi) (h2:hi≤xs.length)
    (hp:∀{done a w τ},Cx ops sp In a0 w0 bf j o done a w τ→dX E ty xs (τ tag) v w∧a.eval x=gl v lo hi E.sz∧∃u,a.eval y=u∧SlT E w u ys):Ob ops sp In a0 w0 P bf j o s:=by
  subst hs;refine eq hg rfl fun done a w τ c=> ?_;obtain ⟨⟨hown,hT⟩,hx,u,hy,hu⟩:=hp c;obtain ⟨w',hr,k2,k3⟩:=uU (P:=P) (sT:=sT) (rt:=o.type) hown hu hdT hsz h1 h2;have hr':(execOp a.eval o).run P w= .ok (.value (.int .i64 ((Nat.min ys.length (hi - lo):Nat):Int))) w':=by
    have hr2:(Builtin.copy_ #[dT,sT] o.type #[gl v lo hi E.sz,u]).run P w= .ok (goInt (Nat.min ys.length (hi - lo))) w':=hr;simp only [execOp,ho,resolve,invoke,builtin,Sem.run_bind,Sem.run_pure,Result.andThen_ok,en,bu,bR,hx,hy,hr2];rfl
  refine fN hr' ⟨_,rfl,k3.mono fun k _ hk=>hT k hk,τ tag,fun g h=> .inl h,?_,k2,hT⟩;show aT (a.put o.dst _) t=_;rw [hd,dx a t t _ (c.lt t hd),if_pos rfl]
end
section
variable {N:aP} {l:List Oper} {sp:List (Spec N)} {il:List (Ini N)} {a0 a:Act} {w:World} {τ:Nat→aP}
theorem Fin.oc {α:Type} {E:Enc α} {ty t slot:Nat} {v k:Value} {xs:List α} (h:Fin l sp il a0 a w τ) (j:Nat) (hs:sp[j]? =some (yD E ty N t slot v xs k)) (hl:bF (sp.map (·.tag)) t sp.length=some j:=by exact rfl):aT a slot=k:=(h.res j t _ hs rfl hl).1
theorem Fin.or {α:Type} {E:Enc α} {ty t slot:Nat} {v k:Value} {xs:List α} (h:Fin l sp il a0 a w τ) (j:Nat) (hs:sp[j]? =some (yD E ty N t slot v xs k)) (hl:bF (sp.map (·.tag)) t sp.length=some j:=by exact rfl):dX E ty xs (τ t) v w:=(h.res j t _ hs rfl hl).2
end
def grpsN (l:List Tr):Nat:=(l.map grpN).sum
theorem mT (l:List Tr) (t:Tr):grpsN (l++ [t])=grpsN l+grpN t:=by simp [grpsN]
theorem yE (l:List Tr):((grpsN l:Nat):Int)=di (l.map dy):=by
  induction l with
  | nil => rfl
  | cons t l ih =>
    have h1:=(hC t).1;rw [bu,jG,←ih];have:grpsN (t::l)=grpN t+grpsN l:=by simp [grpsN]
    rw [this];unfold grpN;omega
theorem pI {t:Tr}:∀{ps:List Pt} {ts:List Tr} {g:Nat} {p:Pt},LayL ps ts g→Lay p t (g+grpsN ts)→LayL (ps++ [p]) (ts++ [t]) g
  | [], [], g, p, h, h2 => by
    have e:g+grpsN []=g:=rfl;rw [e] at h2;exact .cons h2 .nil
  | [], _ :: _, g, p, h, h2 => by cases h
  | _ :: _, [], g, p, h, h2 => by cases h
  | q :: ps, u :: ts, g, p, h, h2 => by
    cases h with
    | cons h3 h4 =>
      have e:g+grpsN (u::ts)=g+grpN u+grpsN ts:=by simp [grpsN];omega
      rw [e] at h2;exact .cons h3 (pI h4 h2)
theorem lJ (t:Tr):grpN t=(if t.k=5 then 1 else 0)+grpsN t.kids:=by
  have h1:=mN t;have h2:=yE t.kids;have h3:=(hC t).1;unfold grpN;rw [h1,←h2];split <;> omega
theorem tQ (t:Tr) (g:Nat):mf t g=g+(if t.k=5 then 1 else 0):=by
  unfold mf;split <;> omega
theorem iW (t:Tr):((grpN t:Nat):Int)=dy t:=by
  have:=(hC t).1;unfold grpN;omega
theorem mU (t:Tr):(grpN t:Int)≤fD t:=by
  have h1:=(hC t).2;have h2:=rh t;rw [iW];omega
theorem CI (l:List Tr):(grpsN l:Int)≤di (l.map fD):=by
  induction l with
  | nil => exact fi _
  | cons t l ih =>
    have h1:=mU t;have e:grpsN (t::l)=grpN t+grpsN l:=by simp [grpsN]
    rw [bu,jG,e];omega
theorem uV {t:Tr} {k:Nat} (h:k < t.kids.length):(grpsN (t.kids.take k):Int)+fD (nth t.kids (k:Int))+1≤fD t:=by
  have h1:=CI (t.kids.take k);have h2:=jT (f:=fD) h;have h3:=(nw (f:=fD) (ts:=t.kids) (fun q _=>by have:=lF q;omega) (k+1)).2;have h4:=lh t;have h5:=nT t.rows;omega
end
section
open Go.RowKit
open Srt
set_option maxRecDepth 100000 in
theorem qo (t:Tr) (ih:∀k ∈ t.kids,∀(w:World),mb w k→ck k≤1000000000→Calls Tryz.prog 66 #[k.v] w (fun e w'=>e= .returned (aj (ck k))∧Ext aY w w')) (w:World) (hT:mb w t) (hy0:ck t≤1000000000):Calls Tryz.prog 66 #[t.v] w (fun e w'=>e= .returned (aj (ck t))∧Ext aY w w'):=by
 refine enter (n:=21) Tryz.func66 rfl rfl (av rfl) ?_;intro a0 τ0 ha st0;have e0:aT a0 0=(ta t):=ha 0 _ rfl;clear ha;have hle:=hT.kids.le;have hf0:∀q ∈ t.kids,0≤ck q:=fun q _=>by have:=iT q;omega
 have hpe:=gF t;refine wp_seq (rg [box _ _ 0 1 (tc t),_] [0,0] st0 [] ⟨fl (v:=(ta t)) rfl rfl rfl rfl rfl (fun _ _ _ _ c=>(c.p e0)),am fun c=>ar rfl rfl,ax⟩ fun ac ag ae ab aa=> ?_);obtain ⟨b1x1,e1⟩:=gx ac 1;have e2:=aa.V 1;have r0:=aa.rb 0 e1 rfl;refine wp_seq (ex ab [jb r0] ⟨am fun c=>ar rfl rfl,ax⟩ fun ac ag ae ab aa=> ?_);obtain ⟨e1,e2⟩:=aa.k2 e1 e2;have e3:=aa.V 0;replace r0:=aa.B 0;refine wp_seq ?_;refine wp_seq (ex ab [jb r0] ⟨am fun c=>ar rfl rfl,ax⟩ fun ac ag ae ab aa=> ?_);obtain ⟨e1,e2,e3⟩:=aa.k3 e1 e2 e3;have e4:=aa.V 0;replace r0:=aa.B 0;refine wp_block ?_;refine wp_loop (fun a_ w_=>∃(k:Nat) (τ:Nat→aP),(k≤t.kids.length)∧
      St (Nw w) w 21 a_ w_ τ∧
      aT a_ 3=(aj (1+di ((t.kids.take k).map ck)))∧
      aT a_ 4=(aj (k:Int))∧
      aT a_ 1=b1x1∧
      aT a_ 2=(aj 0)∧
      ce 25 (tc t) (τ 0) b1x1 w_) (fun a_ _=>t.kids.length - (intOf (aT a_ 4)).toNat) ?_ ?_
 · refine ⟨0,ae,?_,ab,(e3.trans (bk (by first | omega | rfl | (rw [jT (by omega)];omega)))),(e4.trans (bk (by first | omega | rfl | (rw [jT (by omega)];omega)))),e1,e2,r0⟩
   · omega
 intro a4 w4 hI;obtain ⟨k,τ4,q0,st4,e3,e4,e1,e2,r0⟩:=hI;have hsl:=nw (f:=ck) hf0 k;have hss:k < t.kids.length→ck (nth t.kids (k:Int))≤di (t.kids.map ck)∧di ((t.kids.take (k+1)).map ck)=di ((t.kids.take k).map ck)+ck (nth t.kids (k:Int)):=fun h_=>⟨mO hf0 (cP (by omega) (by omega)),jT h_⟩
 have hs2:=nw (f:=ck) hf0 (k+1);have m4:=e4;refine wp_seq ?_;refine wp_seq (yl [0,0,2,6,15] st4 [jb r0] ⟨ao e4,cc aq bC e1 r0.ptr,dJ bV 1 0 7,am fun c=>de rfl aJ (c.q 2) (hT.at st4.ext).tl.sl.sl,am fun c=>dj rfl (c.q 0) (c.q 3),ax⟩ fun ac ag ae ab aa=> ?_);obtain ⟨e1,e2,e3,e4⟩:=aa.k4 e1 e2 e3 e4;have e9:=aa.V 4;replace r0:=aa.B 0;refine wp_cond_split e9 (fun hc1=> ?_) (fun hc1=> ?_)
 · try simp only [ai] at hc1
   refine wp_skip ?_;refine wp_seq ?_;refine wp_block ?_;refine qU [0,0,2,0,14,30,62,127,255] ab [jb r0] ⟨ao e3,cc aq bC e1 r0.ptr,dJ bV 1 0 7,ao e4,am fun c=>aM rfl aJ ak (c.q 2) (hT.at ab.ext).tl.sl.sl (c.q 3) (by omega) (by omega),am fun c=>cT (vs:=(tc (nth t.kids (k:Int)))) rfl aD ak (c.q 4) rfl (fun _ _ hj=>((hT.at (ab.ext.trans c.J.ext)).tl.sl).elem (bz (i:=(k:Int)) (by omega) (by omega)) hj),dQ fun c=>⟨_,_,(bj rfl rfl Tryz.call66 (c.q 5)),ih _ (cP (by omega) (by omega)) _ ((hT.at (ab.ext.trans c.J.ext)).tl.el (by omega) (by omega)) (by omega)⟩,am fun c=>cV rfl (c.q 0) (c.q 6) (by omega),aF 7,ax⟩ fun ac ag ae ab aa=> ?_;obtain ⟨e1,e2,e4,e9⟩:=aa.k4 e1 e2 e4 e9;have e3:=aa.V 8;replace r0:=aa.B 0;show _;refine eJ ab [jb r0] ⟨ao e4,am fun c=>cV rfl (c.q 0) rfl (by omega),aF 1,ax⟩ fun ac ag ae ab aa=> ?_;obtain ⟨e1,e2,e3,e9⟩:=aa.k4 e1 e2 e3 e9;have e4:=aa.V 2;replace r0:=aa.B 0;refine ⟨⟨k+1,ae,?_,ab,(e3.trans (bk (by first | omega | rfl | (rw [jT (by omega)];omega)))),(e4.trans (bk (by first | omega | rfl | (rw [jT (by omega)];omega)))),e1,e2,r0⟩,?_⟩
   · omega
   · simp only [m4,e4,intOf];omega
 try simp only [ah,aX] at hc1
 refine wp_exit ?_;repeat (with_reducible refine cq ?_)
 refine cy ?_;refine wp_seq (ew ab [jb r0] ⟨ao e3,aF 0,ax⟩ fun ac ag ae ab aa=> ?_);have e2:=aa.V 1;refine wp_ret ?_;refine rp ?_;refine cJ (fn:=Tryz.f66) rfl ab.defers e2 ?_;have htk:di ((t.kids.take k).map ck)=di (t.kids.map ck):=by rw [bB (by omega)]
 exact ⟨congrArg _ (bk (by omega)),ab.ext0⟩
theorem wo (t:Tr):∀(w:World),mb w t→ck t≤1000000000→Calls Tryz.prog 66 #[t.v] w (fun e w'=>e= .returned (.int .i64 (ck t))∧Ext aY w w'):=Tr.ind (P:=fun t=>∀(w:World),mb w t→ck t≤1000000000→Calls Tryz.prog 66 #[t.v] w (fun e w'=>e= .returned (.int .i64 (ck t))∧Ext aY w w')) qo t
set_option maxRecDepth 100000 in
theorem pJ (t:Tr) (ih:∀k ∈ t.kids,∀(w:World),mb w k→ck k≤1000000000→Calls Tryz.prog 74 #[k.v] w (fun e w'=>e= .returned (aj (dy k))∧Ext aY w w')) (w:World) (hT:mb w t) (hy0:ck t≤1000000000):Calls Tryz.prog 74 #[t.v] w (fun e w'=>e= .returned (aj (dy t))∧Ext aY w w'):=by
 refine enter (n:=24) Tryz.func74 rfl rfl (av rfl) ?_;intro a0 τ0 ha st0;have e0:aT a0 0=(ta t):=ha 0 _ rfl;clear ha;have hle:=hT.kids.le;have hf0:∀q ∈ t.kids,0≤dy q:=fun q _=>(hC q).1;have hf1:∀q ∈ t.kids,0≤ck q:=fun q _=>by have:=iT q;omega
 have hgb:=hC t;have hpe:=mN t;have hpm:∀k:Nat,k < t.kids.length→ck (nth t.kids (k:Int))≤1000000000:=fun k h_=>by
   have h1_:=mO hf1 (cP (xs:=t.kids) (i:=(k:Int)) (by omega) (by omega));have h2_:=gF t;omega
 refine wp_seq (rg [box _ _ 0 1 (tc t),_] [0,0] st0 [] ⟨fl (v:=(ta t)) rfl rfl rfl rfl rfl (fun _ _ _ _ c=>(c.p e0)),am fun c=>ar rfl rfl,ax⟩ fun ac ag ae ab aa=> ?_);obtain ⟨b1x1,e1⟩:=gx ac 1;have e2:=aa.V 1;have r0:=aa.rb 0 e1 rfl;refine wp_seq (ex ab [jb r0] ⟨am fun c=>ar rfl rfl,ax⟩ fun ac ag ae ab aa=> ?_);obtain ⟨e1,e2⟩:=aa.k2 e1 e2;have e3:=aa.V 0;replace r0:=aa.B 0;refine wp_seq ?_;refine wp_seq (eJ ab [jb r0] ⟨cc aq au e1 r0.ptr,dJ aC 0 0 0,am fun c=>bW rfl (c.q 1) rfl,ax⟩ fun ac ag ae ab aa=> ?_);obtain ⟨e1,e2,e3⟩:=aa.k3 e1 e2 e3;have e7:=aa.V 2;replace r0:=aa.B 0;refine wp_cond_split e7 (fun hc1=> ?_) (fun hc1=> ?_)
 · try simp only [ai] at hc1
   refine ex ab [jb r0] ⟨am fun c=>ar rfl rfl,ax⟩ fun ac ag ae ab aa=> ?_;obtain ⟨e1,e2⟩:=aa.k2 e1 e2;have e3:=aa.V 0;replace r0:=aa.B 0;refine wp_seq ?_;refine wp_seq (ex ab [jb r0] ⟨am fun c=>ar rfl rfl,ax⟩ fun ac ag ae ab aa=> ?_);obtain ⟨e1,e2,e3⟩:=aa.k3 e1 e2 e3;have e4:=aa.V 0;replace r0:=aa.B 0;refine wp_block ?_;refine wp_loop (fun a_ w_=>∃(k:Nat) (τ:Nat→aP),(k≤t.kids.length)∧
          St (Nw w) w 24 a_ w_ τ∧
          aT a_ 3=(aj ((if t.k=5 then 1 else 0)+di ((t.kids.take k).map dy)))∧
          aT a_ 4=(aj (k:Int))∧
          aT a_ 1=b1x1∧
          aT a_ 2=(aj 0)∧
          ce 25 (tc t) (τ 0) b1x1 w_) (fun a_ _=>t.kids.length - (intOf (aT a_ 4)).toNat) ?_ ?_
   · refine ⟨0,ae,?_,ab,(e3.trans (bk (by first | omega | (rw [if_pos (by assumption)];rfl) | (rw [if_neg (by assumption)];rfl)))),(e4.trans (bk (by first | omega | (rw [if_pos (by assumption)];rfl) | (rw [if_neg (by assumption)];rfl)))),e1,e2,r0⟩
     · omega
   intro a6 w6 hI;obtain ⟨k,τ6,q0,st6,e3,e4,e1,e2,r0⟩:=hI;have hsl:=nw (f:=dy) hf0 k;have hss:k < t.kids.length→dy (nth t.kids (k:Int))≤di (t.kids.map dy)∧di ((t.kids.take (k+1)).map dy)=di ((t.kids.take k).map dy)+dy (nth t.kids (k:Int)):=fun h_=>⟨mO hf0 (cP (by omega) (by omega)),jT h_⟩
   have hs2:=nw (f:=dy) hf0 (k+1);have hpk:=hpm k;have hsp:(0:Int)≤(if t.k=5 then 1 else 0)∧(if t.k=5 then (1:Int) else 0)≤1:=by split <;> omega
   have m4:=e4;refine wp_seq ?_;refine wp_seq (yl [0,0,2,6,15] st6 [jb r0] ⟨ao e4,cc aq bC e1 r0.ptr,dJ bV 1 0 7,am fun c=>de rfl aJ (c.q 2) (hT.at st6.ext).tl.sl.sl,am fun c=>dj rfl (c.q 0) (c.q 3),ax⟩ fun ac ag ae ab aa=> ?_);obtain ⟨e1,e2,e3,e4⟩:=aa.k4 e1 e2 e3 e4;have e12:=aa.V 4;replace r0:=aa.B 0;refine wp_cond_split e12 (fun hc2=> ?_) (fun hc2=> ?_)
   · try simp only [ai] at hc2
     refine wp_skip ?_;refine wp_seq ?_;refine wp_block ?_;refine qU [0,0,2,0,14,30,62,127,255] ab [jb r0] ⟨ao e3,cc aq bC e1 r0.ptr,dJ bV 1 0 7,ao e4,am fun c=>aM rfl aJ ak (c.q 2) (hT.at ab.ext).tl.sl.sl (c.q 3) (by omega) (by omega),am fun c=>cT (vs:=(tc (nth t.kids (k:Int)))) rfl aD ak (c.q 4) rfl (fun _ _ hj=>((hT.at (ab.ext.trans c.J.ext)).tl.sl).elem (bz (i:=(k:Int)) (by omega) (by omega)) hj),dQ fun c=>⟨_,_,(bj rfl rfl jx (c.q 5)),ih _ (cP (by omega) (by omega)) _ ((hT.at (ab.ext.trans c.J.ext)).tl.el (by omega) (by omega)) (by omega)⟩,am fun c=>cV rfl (c.q 0) (c.q 6) (by omega),aF 7,ax⟩ fun ac ag ae ab aa=> ?_;obtain ⟨e1,e2,e4,e12⟩:=aa.k4 e1 e2 e4 e12;have e3:=aa.V 8;replace r0:=aa.B 0;show _;refine eJ ab [jb r0] ⟨ao e4,am fun c=>cV rfl (c.q 0) rfl (by omega),aF 1,ax⟩ fun ac ag ae ab aa=> ?_;obtain ⟨e1,e2,e3,e12⟩:=aa.k4 e1 e2 e3 e12;have e4:=aa.V 2;replace r0:=aa.B 0;refine ⟨⟨k+1,ae,?_,ab,(e3.trans (bk (by first | omega | (rw [if_pos (by assumption)];rfl) | (rw [if_neg (by assumption)];rfl)))),(e4.trans (bk (by first | omega | (rw [if_pos (by assumption)];rfl) | (rw [if_neg (by assumption)];rfl)))),e1,e2,r0⟩,?_⟩
     · omega
     · simp only [m4,e4,intOf];omega
   try simp only [ah,aX] at hc2
   refine wp_exit ?_;repeat (with_reducible refine cq ?_)
   refine cy ?_;refine wp_seq (ew ab [jb r0] ⟨ao e3,aF 0,ax⟩ fun ac ag ae ab aa=> ?_);have e2:=aa.V 1;refine wp_ret ?_;refine rp ?_;refine cJ (fn:=Tryz.f74) rfl ab.defers e2 ?_;have htk:di ((t.kids.take k).map dy)=di (t.kids.map dy):=by rw [bB (by omega)]
   exact ⟨congrArg _ (bk (by omega)),ab.ext0⟩
 try simp only [ah] at hc1
 refine wp_skip ?_;refine wp_seq ?_;refine wp_seq (ex ab [jb r0] ⟨am fun c=>ar rfl rfl,ax⟩ fun ac ag ae ab aa=> ?_);obtain ⟨e1,e2,e3⟩:=aa.k3 e1 e2 e3;have e4:=aa.V 0;replace r0:=aa.B 0;refine wp_block ?_;refine wp_loop (fun a_ w_=>∃(k:Nat) (τ:Nat→aP),(k≤t.kids.length)∧
      St (Nw w) w 24 a_ w_ τ∧
      aT a_ 3=(aj ((if t.k=5 then 1 else 0)+di ((t.kids.take k).map dy)))∧
      aT a_ 4=(aj (k:Int))∧
      aT a_ 1=b1x1∧
      aT a_ 2=(aj 0)∧
      ce 25 (tc t) (τ 0) b1x1 w_) (fun a_ _=>t.kids.length - (intOf (aT a_ 4)).toNat) ?_ ?_
 · refine ⟨0,ae,?_,ab,(e3.trans (bk (by first | omega | (rw [if_pos (by assumption)];rfl) | (rw [if_neg (by assumption)];rfl)))),(e4.trans (bk (by first | omega | (rw [if_pos (by assumption)];rfl) | (rw [if_neg (by assumption)];rfl)))),e1,e2,r0⟩
   · omega
 intro a12 w12 hI;obtain ⟨k,τ12,q0,st12,e3,e4,e1,e2,r0⟩:=hI;have hsl:=nw (f:=dy) hf0 k;have hss:k < t.kids.length→dy (nth t.kids (k:Int))≤di (t.kids.map dy)∧di ((t.kids.take (k+1)).map dy)=di ((t.kids.take k).map dy)+dy (nth t.kids (k:Int)):=fun h_=>⟨mO hf0 (cP (by omega) (by omega)),jT h_⟩
 have hs2:=nw (f:=dy) hf0 (k+1);have hpk:=hpm k;have hsp:(0:Int)≤(if t.k=5 then 1 else 0)∧(if t.k=5 then (1:Int) else 0)≤1:=by split <;> omega
 have m4:=e4;refine wp_seq ?_;refine wp_seq (yl [0,0,2,6,15] st12 [jb r0] ⟨ao e4,cc aq bC e1 r0.ptr,dJ bV 1 0 7,am fun c=>de rfl aJ (c.q 2) (hT.at st12.ext).tl.sl.sl,am fun c=>dj rfl (c.q 0) (c.q 3),ax⟩ fun ac ag ae ab aa=> ?_);obtain ⟨e1,e2,e3,e4⟩:=aa.k4 e1 e2 e3 e4;have e12:=aa.V 4;replace r0:=aa.B 0;refine wp_cond_split e12 (fun hc3=> ?_) (fun hc3=> ?_)
 · try simp only [ai] at hc3
   refine wp_skip ?_;refine wp_seq ?_;refine wp_block ?_;refine qU [0,0,2,0,14,30,62,127,255] ab [jb r0] ⟨ao e3,cc aq bC e1 r0.ptr,dJ bV 1 0 7,ao e4,am fun c=>aM rfl aJ ak (c.q 2) (hT.at ab.ext).tl.sl.sl (c.q 3) (by omega) (by omega),am fun c=>cT (vs:=(tc (nth t.kids (k:Int)))) rfl aD ak (c.q 4) rfl (fun _ _ hj=>((hT.at (ab.ext.trans c.J.ext)).tl.sl).elem (bz (i:=(k:Int)) (by omega) (by omega)) hj),dQ fun c=>⟨_,_,(bj rfl rfl jx (c.q 5)),ih _ (cP (by omega) (by omega)) _ ((hT.at (ab.ext.trans c.J.ext)).tl.el (by omega) (by omega)) (by omega)⟩,am fun c=>cV rfl (c.q 0) (c.q 6) (by omega),aF 7,ax⟩ fun ac ag ae ab aa=> ?_;obtain ⟨e1,e2,e4,e12⟩:=aa.k4 e1 e2 e4 e12;have e3:=aa.V 8;replace r0:=aa.B 0;show _;refine eJ ab [jb r0] ⟨ao e4,am fun c=>cV rfl (c.q 0) rfl (by omega),aF 1,ax⟩ fun ac ag ae ab aa=> ?_;obtain ⟨e1,e2,e3,e12⟩:=aa.k4 e1 e2 e3 e12;have e4:=aa.V 2;replace r0:=aa.B 0;refine ⟨⟨k+1,ae,?_,ab,(e3.trans (bk (by first | omega | (rw [if_pos (by assumption)];rfl) | (rw [if_neg (by assumption)];rfl)))),(e4.trans (bk (by first | omega | (rw [if_pos (by assumption)];rfl) | (rw [if_neg (by assumption)];rfl)))),e1,e2,r0⟩,?_⟩
   · omega
   · simp only [m4,e4,intOf];omega
 try simp only [ah,aX] at hc3
 refine wp_exit ?_;repeat (with_reducible refine cq ?_)
 refine cy ?_;refine wp_seq (ew ab [jb r0] ⟨ao e3,aF 0,ax⟩ fun ac ag ae ab aa=> ?_);have e2:=aa.V 1;refine wp_ret ?_;refine rp ?_;refine cJ (fn:=Tryz.f74) rfl ab.defers e2 ?_;have htk:di ((t.kids.take k).map dy)=di (t.kids.map dy):=by rw [bB (by omega)]
 exact ⟨congrArg _ (bk (by omega)),ab.ext0⟩
theorem kC (t:Tr):∀(w:World),mb w t→ck t≤1000000000→Calls Tryz.prog 74 #[t.v] w (fun e w'=>e= .returned (.int .i64 (dy t))∧Ext aY w w'):=Tr.ind (P:=fun t=>∀(w:World),mb w t→ck t≤1000000000→Calls Tryz.prog 74 #[t.v] w (fun e w'=>e= .returned (.int .i64 (dy t))∧Ext aY w w')) pJ t
set_option maxRecDepth 100000 in
theorem CJ (n:Int) (w:World):Calls Tryz.prog 56 #[(aj n)] w (fun e w'=>e= .returned (az (decide (n=5) || decide (n=6)))∧Ext aY w w'):=by
 refine enter (n:=9) Tryz.func56 rfl rfl (av rfl) ?_;intro a0 τ0 ha st0;have e0:=nh ha;refine wp_seq (ex st0 [] ⟨am fun c=>ar rfl rfl,ax⟩ fun ac ag ae ab aa=> ?_);replace e0:=aa.k1 e0;have e2:=aa.V 0;refine wp_seq (vM ab [] ⟨ao e0,am fun c=>bW rfl (c.q 0) rfl,bm 1,bA 2 rfl fun c hpc=>aI rfl (c.p e0),bA 2 rfl fun c hpc=>bW rfl (c.M 3 hpc) rfl,dF 2 4,aF 5,ax⟩ fun ac ag ae ab aa=> ?_);have e2:=aa.V 6;refine wp_ret ?_;refine rp ?_;refine cJ (fn:=Tryz.f56) rfl ab.defers e2 ?_;exact ⟨rfl,ab.ext0⟩
set_option maxRecDepth 100000 in
theorem rF (t:Tr) (ih:∀k ∈ t.kids,∀(w:World),mb w k→ck k≤1000000000→Calls Tryz.prog 67 #[k.v] w (fun e w'=>e= .returned (aj (eD k))∧Ext aY w w')) (w:World) (hT:mb w t) (hy0:ck t≤1000000000):Calls Tryz.prog 67 #[t.v] w (fun e w'=>e= .returned (aj (eD t))∧Ext aY w w'):=by
 refine enter (n:=31) Tryz.func67 rfl rfl (av rfl) ?_;intro a0 τ0 ha st0;have e0:aT a0 0=(ta t):=ha 0 _ rfl;clear ha;have hle:=hT.kids.le;have hf1:∀q ∈ t.kids,0≤ck q:=fun q _=>by have:=iT q;omega
 have hgb:=qc t;have hpe:=lf t;have hpm:∀k:Nat,k < t.kids.length→ck (nth t.kids (k:Int))≤1000000000:=fun k h_=>by
   have h1_:=mO hf1 (cP (xs:=t.kids) (i:=(k:Int)) (by omega) (by omega));have h2_:=gF t;omega
 refine wp_seq (rg [box _ _ 0 1 (tc t),_] [0,0] st0 [] ⟨fl (v:=(ta t)) rfl rfl rfl rfl rfl (fun _ _ _ _ c=>(c.p e0)),am fun c=>ar rfl rfl,ax⟩ fun ac ag ae ab aa=> ?_);obtain ⟨b1x1,e1⟩:=gx ac 1;have e2:=aa.V 1;have r0:=aa.rb 0 e1 rfl;refine wp_seq (ex ab [jb r0] ⟨am fun c=>ar rfl rfl,ax⟩ fun ac ag ae ab aa=> ?_);obtain ⟨e1,e2⟩:=aa.k2 e1 e2;have e3:=aa.V 0;replace r0:=aa.B 0;refine wp_seq ?_;refine wp_seq (ex ab [jb r0] ⟨am fun c=>ar rfl rfl,ax⟩ fun ac ag ae ab aa=> ?_);obtain ⟨e1,e2,e3⟩:=aa.k3 e1 e2 e3;have e4:=aa.V 0;replace r0:=aa.B 0;refine wp_block ?_;refine wp_loop (fun a_ w_=>∃(k:Nat) (τ:Nat→aP),(k≤t.kids.length)∧
      St (Nw w) w 31 a_ w_ τ∧
      aT a_ 3=(aj (kH ((t.kids.take k).map eD)))∧
      aT a_ 4=(aj (k:Int))∧
      aT a_ 1=b1x1∧
      aT a_ 2=(aj 0)∧
      ce 25 (tc t) (τ 0) b1x1 w_) (fun a_ _=>t.kids.length - (intOf (aT a_ 4)).toNat) ?_ ?_
 · refine ⟨0,ae,?_,ab,(e3.trans (bk (by first | omega | rfl | exact (nS (by omega)).symm))),(e4.trans (bk (by first | omega | rfl | exact (nS (by omega)).symm))),e1,e2,r0⟩
   · omega
 intro a4 w4 hI;obtain ⟨k,τ4,q0,st4,e3,e4,e1,e2,r0⟩:=hI;have hpk:=hpm k;have m4:=e4;refine wp_seq ?_;refine wp_seq (yl [0,0,2,6,15] st4 [jb r0] ⟨ao e4,cc aq bC e1 r0.ptr,dJ bV 1 0 7,am fun c=>de rfl aJ (c.q 2) (hT.at st4.ext).tl.sl.sl,am fun c=>dj rfl (c.q 0) (c.q 3),ax⟩ fun ac ag ae ab aa=> ?_);obtain ⟨e1,e2,e3,e4⟩:=aa.k4 e1 e2 e3 e4;have e9:=aa.V 4;replace r0:=aa.B 0;refine wp_cond_split e9 (fun hc1=> ?_) (fun hc1=> ?_)
 · try simp only [ai] at hc1
   refine wp_skip ?_;refine wp_seq ?_;refine wp_block ?_;refine qU [0,0,2,0,14,30,62,127,255] ab [jb r0] ⟨ao e3,cc aq bC e1 r0.ptr,dJ bV 1 0 7,ao e4,am fun c=>aM rfl aJ ak (c.q 2) (hT.at ab.ext).tl.sl.sl (c.q 3) (by omega) (by omega),am fun c=>cT (vs:=(tc (nth t.kids (k:Int)))) rfl aD ak (c.q 4) rfl (fun _ _ hj=>((hT.at (ab.ext.trans c.J.ext)).tl.sl).elem (bz (i:=(k:Int)) (by omega) (by omega)) hj),dQ fun c=>⟨_,_,(bj rfl rfl Tryz.call67 (c.q 5)),ih _ (cP (by omega) (by omega)) _ ((hT.at (ab.ext.trans c.J.ext)).tl.el (by omega) (by omega)) (by omega)⟩,am fun c=>zw rfl (c.q 0) (c.q 6),aF 7,ax⟩ fun ac ag ae ab aa=> ?_;obtain ⟨e1,e2,e4,e9⟩:=aa.k4 e1 e2 e4 e9;have e3:=aa.V 8;replace r0:=aa.B 0;show _;refine eJ ab [jb r0] ⟨ao e4,am fun c=>cV rfl (c.q 0) rfl (by omega),aF 1,ax⟩ fun ac ag ae ab aa=> ?_;obtain ⟨e1,e2,e3,e9⟩:=aa.k4 e1 e2 e3 e9;have e4:=aa.V 2;replace r0:=aa.B 0;refine ⟨⟨k+1,ae,?_,ab,(e3.trans (bk (by first | omega | rfl | exact (nS (by omega)).symm))),(e4.trans (bk (by first | omega | rfl | exact (nS (by omega)).symm))),e1,e2,r0⟩,?_⟩
   · omega
   · simp only [m4,e4,intOf];omega
 try simp only [ah,aX] at hc1
 refine wp_exit ?_;repeat (with_reducible refine cq ?_)
 refine cy ?_;refine wp_seq ?_;refine wp_seq (vV ab [jb r0] ⟨cc aq au e1 r0.ptr,dJ aC 0 0 0,am fun c=>bW rfl (c.q 1) rfl,bm 2,bA 3 rfl fun c hpc=>cO rfl aq au ((c.p e1).trans r0.ptr),bA 3 rfl fun c hpc=>aA rfl aC (c.M 4 hpc) ((c.B 0).cell (j:=0) rfl),bA 3 rfl fun c hpc=>bW rfl (c.M 5 hpc) rfl,dF 3 6,ax⟩ fun ac ag ae ab aa=> ?_);obtain ⟨e2,e3⟩:=aa.k2 e2 e3;have e27:=aa.V 7;refine wp_cond_split e27 (fun hc2=> ?_) (fun hc2=> ?_)
 · have hd2:=hc2;try simp only [aO,ai] at hd2
   have hmp:=nv ((t.kids.take k).map eD);have hmd:kH ((t.kids.take k).map eD)≤1000000000:=by rw [bB (by omega)];have h_:(0:Int)≤(if oG t=true then 1 else 0):=(by split <;> omega);omega
   refine eJ ab [] ⟨ao e3,am fun c=>cV rfl (c.q 0) rfl (by omega),aF 1,ax⟩ fun ac ag ae ab aa=> ?_;replace e2:=aa.k1 e2;have e3:=aa.V 2;refine wp_seq (ew ab [] ⟨ao e3,aF 0,ax⟩ fun ac ag ae ab aa=> ?_);have e2:=aa.V 1;refine wp_ret ?_;refine rp ?_;refine cJ (fn:=Tryz.f67) rfl ab.defers e2 ?_;have htk:kH ((t.kids.take k).map eD)=kH (t.kids.map eD):=by rw [bB (by omega)]
   exact ⟨congrArg _ (bk (by rw [hpe,htk];unfold oG;first | (rw [if_pos (by simpa using (by assumption))]) | (rw [if_neg (by simpa using (by assumption))];omega))),ab.ext0⟩
 have hd2:=hc2;try simp only [aG,ah] at hd2
 refine wp_skip ?_;refine wp_seq (ew ab [] ⟨ao e3,aF 0,ax⟩ fun ac ag ae ab aa=> ?_);have e2:=aa.V 1;refine wp_ret ?_;refine rp ?_;refine cJ (fn:=Tryz.f67) rfl ab.defers e2 ?_;have htk:kH ((t.kids.take k).map eD)=kH (t.kids.map eD):=by rw [bB (by omega)]
 exact ⟨congrArg _ (bk (by rw [hpe,htk];unfold oG;first | (rw [if_pos (by simpa using (by assumption))]) | (rw [if_neg (by simpa using (by assumption))];omega))),ab.ext0⟩
theorem yF (t:Tr):∀(w:World),mb w t→ck t≤1000000000→Calls Tryz.prog 67 #[t.v] w (fun e w'=>e= .returned (.int .i64 (eD t))∧Ext aY w w'):=Tr.ind (P:=fun t=>∀(w:World),mb w t→ck t≤1000000000→Calls Tryz.prog 67 #[t.v] w (fun e w'=>e= .returned (.int .i64 (eD t))∧Ext aY w w')) rF t
end
section
open Go.RowKit
open Srt
def jH (ch:ByteArray) (ng:Bool) (rows:List Rw) (mn mx:Int) (lz:Bool):Bool:=((((ix ch (⟨#[]⟩:ByteArray)&& !ng)&&decide ((rows.length:Int)=0))&&decide (mn=0))&&decide (mx=0))&& !lz
set_option maxRecDepth 100000 in
theorem kI (k:Int) (ch:ByteArray) (ng:Bool) (rv:Value) (rows:List (ByteArray × ByteArray)) (mn mx:Int) (lz:Bool) (kv:Value) (ho:kv.oneCell'=true) (w:World) (hS:SlT iF w rv rows):Calls Tryz.prog 99 #[(.agg #[(aj k),(aR ch),(az ng),rv,(aj mn),(aj mx),(az lz),kv])] w (fun e w'=>e= .returned (az (jH ch ng rows mn mx lz))∧Ext aY w w'):=by
 refine enter (n:=32) Tryz.func99 rfl rfl (av rfl) ?_;intro a0 τ0 ha st0;have e0:aT a0 0=(.agg #[(aj k),(aR ch),(az ng),rv,(aj mn),(aj mx),(az lz),kv]):=ha 0 _ rfl;clear ha;refine wp_seq (rg [box _ _ 0 1 [(aj k),(aR ch),(az ng),rv,(aj mn),(aj mx),(az lz),kv],_] [0,0] st0 [] ⟨fl (v:=(.agg #[(aj k),(aR ch),(az ng),rv,(aj mn),(aj mx),(az lz),kv])) rfl rfl rfl rfl rfl (fun _ _ _ _ c=>(c.p e0)),am fun c=>ar rfl rfl,ax⟩ fun ac ag ae ab aa=> ?_);obtain ⟨b1x1,e1⟩:=gx ac 1;have e2:=aa.V 1;have r0:=aa.rb 0 e1 rfl;refine wp_seq (rg [_,_,_,_,_,_,_,_,_,_,_,_,_,_,_,_,_,_,_,_,_,_,_,_,_,_,_,_,_,_] [0,1,3,7,15,31,63,127,255,511,1023,2047,4095,8191,16383,32767,65535,131071,262143,524287,1048575,2097151,4194303,8388607,16777215,33554431,67108863,134217727,268435455,536870911] ab [jb r0] ⟨cc aq bc e1 r0.ptr,dJ bG 0 0 1,am fun c=>gj rfl (c.q 1) rfl,bm 2,aE 3 rfl fun c hpc=>cO rfl aq ba ((c.p e1).trans r0.ptr),aE 3 rfl fun c hpc=>aA rfl cp (c.M 4 hpc) ((c.B 0).cell (j:=2) rfl),aE 3 rfl fun c hpc=>dS rfl (c.M 5 hpc),bL 3 6,bm 7,aE 8 rfl fun c hpc=>cO rfl aq eW ((c.p e1).trans r0.ptr),aE 8 rfl fun c hpc=>aA rfl jP (c.M 9 hpc) ((c.B 0).cell (j:=3) rfl),aE 8 rfl fun c hpc=>de rfl bd (c.M 10 hpc) hS.sl,aE 8 rfl fun c hpc=>bW rfl (c.M 11 hpc) rfl,bL 8 12,bm 13,aE 14 rfl fun c hpc=>cO rfl aq au ((c.p e1).trans r0.ptr),aE 14 rfl fun c hpc=>aA rfl aC (c.M 15 hpc) ((c.B 0).cell (j:=4) rfl),aE 14 rfl fun c hpc=>bW rfl (c.M 16 hpc) rfl,bL 14 17,bm 18,aE 19 rfl fun c hpc=>cO rfl aq au ((c.p e1).trans r0.ptr),aE 19 rfl fun c hpc=>aA rfl aC (c.M 20 hpc) ((c.B 0).cell (j:=5) rfl),aE 19 rfl fun c hpc=>bW rfl (c.M 21 hpc) rfl,bL 19 22,bm 23,aE 24 rfl fun c hpc=>cO rfl aq ba ((c.p e1).trans r0.ptr),aE 24 rfl fun c hpc=>aA rfl cp (c.M 25 hpc) ((c.B 0).cell (j:=6) rfl),aE 24 rfl fun c hpc=>dS rfl (c.M 26 hpc),bL 24 27,aF 28,ax⟩ fun ac ag ae ab aa=> ?_);have e2:=aa.V 29;refine wp_ret ?_;refine rp ?_;refine cJ (fn:=Tryz.f99) rfl ab.defers e2 ?_;exact ⟨rfl,ab.ext0⟩
set_option maxRecDepth 100000 in
theorem gQ (k:Int) (ch:ByteArray) (ng:Bool) (rv:Value) (rows:List (ByteArray × ByteArray)) (mn mx:Int) (lz:Bool) (kv:Value) (ho:kv.oneCell'=true) (w:World) (hS:SlT iF w rv rows):Calls Tryz.prog 85 #[(.agg #[(aj k),(aR ch),(az ng),rv,(aj mn),(aj mx),(az lz),kv])] w (fun e w'=>e= .returned (az (jH ch ng rows mn mx lz))∧Ext aY w w'):=by
 refine enter (n:=32) Tryz.func85 rfl rfl (av rfl) ?_;intro a0 τ0 ha st0;have e0:aT a0 0=(.agg #[(aj k),(aR ch),(az ng),rv,(aj mn),(aj mx),(az lz),kv]):=ha 0 _ rfl;clear ha;refine wp_seq (rg [box _ _ 0 1 [(aj k),(aR ch),(az ng),rv,(aj mn),(aj mx),(az lz),kv],_] [0,0] st0 [] ⟨fl (v:=(.agg #[(aj k),(aR ch),(az ng),rv,(aj mn),(aj mx),(az lz),kv])) rfl rfl rfl rfl rfl (fun _ _ _ _ c=>(c.p e0)),am fun c=>ar rfl rfl,ax⟩ fun ac ag ae ab aa=> ?_);obtain ⟨b1x1,e1⟩:=gx ac 1;have e2:=aa.V 1;have r0:=aa.rb 0 e1 rfl;refine wp_seq (rg [_,_,_,_,_,_,_,_,_,_,_,_,_,_,_,_,_,_,_,_,_,_,_,_,_,_,_,_,_,_] [0,1,3,7,15,31,63,127,255,511,1023,2047,4095,8191,16383,32767,65535,131071,262143,524287,1048575,2097151,4194303,8388607,16777215,33554431,67108863,134217727,268435455,536870911] ab [jb r0] ⟨cc aq bc e1 r0.ptr,dJ bG 0 0 1,am fun c=>gj rfl (c.q 1) rfl,bm 2,aE 3 rfl fun c hpc=>cO rfl aq ba ((c.p e1).trans r0.ptr),aE 3 rfl fun c hpc=>aA rfl cp (c.M 4 hpc) ((c.B 0).cell (j:=2) rfl),aE 3 rfl fun c hpc=>dS rfl (c.M 5 hpc),bL 3 6,bm 7,aE 8 rfl fun c hpc=>cO rfl aq eW ((c.p e1).trans r0.ptr),aE 8 rfl fun c hpc=>aA rfl jP (c.M 9 hpc) ((c.B 0).cell (j:=3) rfl),aE 8 rfl fun c hpc=>de rfl bd (c.M 10 hpc) hS.sl,aE 8 rfl fun c hpc=>bW rfl (c.M 11 hpc) rfl,bL 8 12,bm 13,aE 14 rfl fun c hpc=>cO rfl aq au ((c.p e1).trans r0.ptr),aE 14 rfl fun c hpc=>aA rfl aC (c.M 15 hpc) ((c.B 0).cell (j:=4) rfl),aE 14 rfl fun c hpc=>bW rfl (c.M 16 hpc) rfl,bL 14 17,bm 18,aE 19 rfl fun c hpc=>cO rfl aq au ((c.p e1).trans r0.ptr),aE 19 rfl fun c hpc=>aA rfl aC (c.M 20 hpc) ((c.B 0).cell (j:=5) rfl),aE 19 rfl fun c hpc=>bW rfl (c.M 21 hpc) rfl,bL 19 22,bm 23,aE 24 rfl fun c hpc=>cO rfl aq ba ((c.p e1).trans r0.ptr),aE 24 rfl fun c hpc=>aA rfl cp (c.M 25 hpc) ((c.B 0).cell (j:=6) rfl),aE 24 rfl fun c hpc=>dS rfl (c.M 26 hpc),bL 24 27,aF 28,ax⟩ fun ac ag ae ab aa=> ?_);have e2:=aa.V 29;refine wp_ret ?_;refine rp ?_;refine cJ (fn:=Tryz.f85) rfl ab.defers e2 ?_;exact ⟨rfl,ab.ext0⟩
end
section
open Go.RowKit
open Srt
theorem nX {s:ByteArray} (h:ix s (⟨#[]⟩:ByteArray)=false):(0:Int) < (s.size:Int):=by
  have hl:=iG s;rw [zE] at h;cases hb:bs s with
  | nil =>
    have:s.data.toList=[]:=hb;rw [this] at h;simp at h
  | cons b l => rw [hb] at hl; simp at hl; omega
theorem rG {s:ByteArray} {k:Nat} (h:(decide ((k:Int)+1=(s.size:Int)) || mc (bZ s ((k:Int)+1)))=true):iY s (k+1)=((iY s k).1++ [s.extract (iY s k).2 (k+1)],k+1):=by
  rw [iY,lR,if_pos (by rw [show ((k+1:Nat):Int)=(k:Int)+1 by omega];exact h)]
theorem pK {s:ByteArray} {k:Nat} (h:(decide ((k:Int)+1=(s.size:Int)) || mc (bZ s ((k:Int)+1)))=false):iY s (k+1)=iY s k:=by
  rw [iY,lR,if_neg (by rw [show ((k+1:Nat):Int)=(k:Int)+1 by omega,h];decide)]
theorem xy {s:ByteArray} {k:Nat} (h:(decide ((k:Int)+1=(s.size:Int)) || mc (bZ s ((k:Int)+1)))=true):(iY s (k+1)).1=(iY s k).1++ [s.extract (iY s k).2 ((k:Int)+1).toNat]:=by
  rw [rG h];rfl
theorem uW {s:ByteArray} {k:Nat} (h:(decide ((k:Int)+1=(s.size:Int)) || mc (bZ s ((k:Int)+1)))=false):(iY s (k+1)).1=(iY s k).1:=by rw [pK h]
theorem mm {s:ByteArray} {k:Nat} (h:(decide ((k:Int)+1=(s.size:Int)) || mc (bZ s ((k:Int)+1)))=true):(iY s (k+1)).2=k+1:=by rw [rG h]
theorem kS {s:ByteArray} {k:Nat} (h:(decide ((k:Int)+1=(s.size:Int)) || mc (bZ s ((k:Int)+1)))=false):(iY s (k+1)).2=(iY s k).2:=by rw [pK h]
set_option maxRecDepth 100000 in
theorem uX (b:Int) (w:World):Calls Tryz.prog 54 #[.int .u8 b] w (fun e w'=>e= .returned (az (qn b))∧Ext aY w w'):=by
 refine enter (n:=9) Tryz.func54 rfl rfl (av rfl) ?_;intro a0 τ0 ha st0;have e0:=nh ha;refine wp_seq (ex st0 [] ⟨am fun c=>ar rfl rfl,ax⟩ fun ac ag ae ab aa=> ?_);replace e0:=aa.k1 e0;have e2:=aa.V 0;refine wp_seq (vM ab [] ⟨ao e0,am fun c=>gH rfl (c.q 0) rfl,bm 1,aE 2 rfl fun c hpc=>aI rfl (c.p e0),aE 2 rfl fun c hpc=>jZ rfl (c.M 3 hpc) rfl,bL 2 4,aF 5,ax⟩ fun ac ag ae ab aa=> ?_);have e2:=aa.V 6;refine wp_ret ?_;refine rp ?_;refine cJ (fn:=Tryz.f54) rfl ab.defers e2 ?_;exact ⟨rfl,ab.ext0⟩
set_option maxRecDepth 100000 in
theorem wq (b:Int) (w:World):Calls Tryz.prog 57 #[.int .u8 b] w (fun e w'=>e= .returned (az (mc b))∧Ext aY w w'):=by
 refine enter (n:=9) Tryz.func57 rfl rfl (av rfl) ?_;intro a0 τ0 ha st0;have e0:=nh ha;refine wp_seq (ex st0 [] ⟨am fun c=>ar rfl rfl,ax⟩ fun ac ag ae ab aa=> ?_);replace e0:=aa.k1 e0;have e2:=aa.V 0;refine wp_seq (vM ab [] ⟨ao e0,am fun c=>dj rfl (c.q 0) rfl,bm 1,bA 2 rfl fun c hpc=>aI rfl (c.p e0),bA 2 rfl fun c hpc=>iP rfl (c.M 3 hpc) rfl,dF 2 4,aF 5,ax⟩ fun ac ag ae ab aa=> ?_);have e2:=aa.V 6;refine wp_ret ?_;refine rp ?_;refine cJ (fn:=Tryz.f57) rfl ab.defers e2 ?_;exact ⟨rfl,ab.ext0⟩
set_option maxRecDepth 100000 in
theorem Ap (s:ByteArray) (a:Nat) (w:World) (hs:s.size≤1000000000) (ha:a≤1000000000):Calls Tryz.prog 55 #[(aR s),(aj (a:Int))] w (fun e w'=>e= .returned (aj (endF s a:Nat))∧Ext aY w w'):=by
 refine enter (n:=20) Tryz.func55 rfl rfl (av rfl) ?_;intro a0 τ0 ha st0;obtain ⟨e0,e1⟩:=qm ha;refine wp_seq (ex st0 [] ⟨am fun c=>ar rfl rfl,ax⟩ fun ac ag ae ab aa=> ?_);obtain ⟨e0,e1⟩:=aa.k2 e0 e1;have e4:=aa.V 0;refine wp_seq (eJ ab [] ⟨ao e1,am fun c=>cV rfl (c.q 0) rfl (by omega),aF 1,ax⟩ fun ac ag ae ab aa=> ?_);obtain ⟨e0,e4⟩:=aa.k2 e0 e4;have e1:=aa.V 2;refine wp_seq ?_;refine wp_block ?_;refine wp_loop (fun a_ w_=>∃(m:Nat) (τ:Nat→aP),(m+tw s m=a+1+tw s (a+1))∧
      (m≤1000000000+1)∧
      St (Nw w) w 20 a_ w_ τ∧
      aT a_ 1=(aj (m:Int))∧
      aT a_ 0=(aR s)∧
      aT a_ 4=(aj 0)) (fun a_ _=>s.size - (intOf (aT a_ 1)).toNat) ?_ ?_
 · refine ⟨a+1,ae,?_,?_,ab,(e1.trans (bk (by omega))),e0,e4⟩
   · rfl
   · omega
 intro a3 w3 hI;obtain ⟨m,τ3,q0,q1,st3,e1,e0,e4⟩:=hI;have m1:=e1;refine wp_seq ?_;refine wp_seq ?_;refine tB [0,0,2,7,15,31,31,127,255,511] st3 [] ⟨ao e1,ao e0,am fun c=>iu rfl bo (c.q 1),am fun c=>dj rfl (c.q 0) (c.q 2),bm 3,aE 4 rfl fun c hpc=>aI rfl (c.p e0),aE 4 rfl fun c hpc=>aI rfl (c.p e1),aE 4 rfl fun c hpc=>gI rfl bo (c.M 5 hpc) (c.M 6 hpc) (by have hq0:=bt hpc;omega) (by have hq0:=bt hpc;omega),fq 4 true rfl fun c hpc=>⟨_,_,(bj rfl rfl Tryz.call54 (c.M 7 hpc)),uX (bZ s (m:Int)) _⟩,bL 4 8,ax⟩ fun ac ag ae ab aa=> ?_;obtain ⟨e0,e1,e4⟩:=aa.k3 e0 e1 e4;have e16:=aa.V 9;refine wp_cond_split e16 (fun hc1=> ?_) (fun hc1=> ?_)
 · try simp only [aw,ai] at hc1
   refine wp_skip ?_;refine wp_block ?_;refine eJ ab [] ⟨ao e1,am fun c=>cV rfl (c.q 0) rfl (by omega),aF 1,ax⟩ fun ac ag ae ab aa=> ?_;obtain ⟨e0,e4,e16⟩:=aa.k3 e0 e4 e16;have e1:=aa.V 2;show _;refine ⟨⟨m+1,ae,?_,?_,ab,(e1.trans (bk (by omega))),e0,e4⟩,?_⟩
   · obtain ⟨c1_,c2_⟩:=(by assumption:(m:Int) < (s.size:Int)∧qn (bZ s (m:Int))=true);rw [←q0,oW (by omega) c2_]
   · omega
   · simp only [m1,e1,intOf];omega
 try simp only [aL,ah,aX] at hc1
 refine wp_exit ?_;repeat (with_reducible refine cq ?_)
 refine cy ?_;refine wp_seq (ew ab [] ⟨ao e1,aF 0,ax⟩ fun ac ag ae ab aa=> ?_);have e4:=aa.V 1;refine wp_ret ?_;refine rp ?_;refine cJ (fn:=Tryz.f55) rfl ab.defers e4 ?_;have h_:(s.size:Int)≤(m:Int)∨qn (bZ s (m:Int))=false:=by assumption
 have h2_:=tE (s:=s) (k:=m) (h_.elim (fun h=> .inl (by omega)) .inr);exact ⟨congrArg _ (bk (by unfold endF;omega)),ab.ext0⟩
set_option maxRecDepth 100000 in
theorem rH (s:ByteArray) (w:World) (hs:s.size≤1000000000):Calls Tryz.prog 29 #[(aR s)] w (fun e w'=>e= .returned (az (eb s))∧Ext aY w w'):=by
 refine enter (n:=18) Tryz.func29 rfl rfl (av rfl) ?_;intro a0 τ0 ha st0;have e0:=nh ha;refine wp_seq (ex st0 [] ⟨am fun c=>ar rfl rfl,ax⟩ fun ac ag ae ab aa=> ?_);replace e0:=aa.k1 e0;have e2:=aa.V 0;refine wp_seq ?_;refine rg [_,_,_,_,_,_,_,_,_,_,_,_,_,_,_,_] [0,1,3,7,15,31,63,127,255,511,1023,511,2559,8191,16383,32767] ab [] ⟨ao e0,am fun c=>lN rfl (c.q 0) rfl,bm 1,aE 2 rfl fun c hpc=>aI rfl (c.p e0),aE 2 rfl fun c hpc=>gI rfl bo (c.M 3 hpc) rfl (by have hq0:=hpc;(try simp only [aB,ay] at hq0);first | omega | exact nX (by assumption)) (by have hq0:=hpc;(try simp only [aB,ay] at hq0);first | omega | exact nX (by assumption)),fq 2 true rfl fun c hpc=>⟨_,_,(bj rfl rfl Tryz.call54 (c.M 4 hpc)),uX (bZ s 0) _⟩,aE 2 rfl fun c hpc=>dS rfl (c.M 5 hpc),bL 2 6,bm 7,aE 8 rfl fun c hpc=>aI rfl (c.p e0),fq 8 true rfl fun c hpc=>⟨_,_,(co rfl rfl Tryz.call55 (c.M 9 hpc) rfl),Ap s 0 _ (by have hq0:=hpc;(try simp only [aw,aL,aB,ay] at hq0);first | omega | exact nX (by assumption)) (by have hq0:=hpc;(try simp only [aw,aL,aB,ay] at hq0);first | omega | exact nX (by assumption))⟩,aE 8 rfl fun c hpc=>aI rfl (c.p e0),aE 8 rfl fun c hpc=>iu rfl bo (c.M 11 hpc),aE 8 rfl fun c hpc=>bW rfl (c.M 10 hpc) (c.M 12 hpc),bL 8 13,aF 14,ax⟩ fun ac ag ae ab aa=> ?_;have e2:=aa.V 15;refine wp_ret ?_;refine rp ?_;refine cJ (fn:=Tryz.f29) rfl ab.defers e2 ?_;exact ⟨congrArg _ (congrArg _ (yn s)),ab.ext0⟩
set_option maxRecDepth 100000 in
theorem tS (s:ByteArray) (w:World) (hs:s.size≤1000000000):Calls Tryz.prog 37 #[(aR s)] w (fun e w'=>∃v',e= .returned v'∧Ext aY w w'∧oN fo 9 w w' v' (cN s)):=by
 refine enter (n:=31) Tryz.func37 rfl rfl (av rfl) ?_;intro a0 τ0 ha st0;have e0:=nh ha;refine wp_seq (ex st0 [] ⟨am fun c=>ar rfl rfl,ax⟩ fun ac ag ae ab aa=> ?_);replace e0:=aa.k1 e0;have e2:=aa.V 0;refine wp_seq (ex ab [] ⟨am fun c=>ar rfl rfl,ax⟩ fun ac ag ae ab aa=> ?_);obtain ⟨e0,e2⟩:=aa.k2 e0 e2;have e3:=aa.V 0;refine wp_seq (ex ab [] ⟨am fun c=>ar rfl rfl,ax⟩ fun ac ag ae ab aa=> ?_);obtain ⟨e0,e2,e3⟩:=aa.k3 e0 e2 e3;have e4:=aa.V 0;refine wp_seq ?_;refine wp_seq (ex ab [] ⟨am fun c=>ar rfl rfl,ax⟩ fun ac ag ae ab aa=> ?_);obtain ⟨e0,e2,e3,e4⟩:=aa.k4 e0 e2 e3 e4;have e5:=aa.V 0;refine wp_block ?_;refine wp_loop (fun a_ w_=>∃(k:Nat) (u:Value) (τ:Nat→aP),(k≤s.size)∧
      St (Nw w) w 31 a_ w_ τ∧
      aT a_ 3=u∧
      aT a_ 4=(aj ((iY s k).2:Int))∧
      aT a_ 5=(aj ((k:Int)+1))∧
      aT a_ 0=(aR s)∧
      aT a_ 2=(.slice none 0 0)∧
      dX fo 9 ((iY s k).1) (τ 0) u w_) (fun a_ _=>s.size+1 - (intOf (aT a_ 5)).toNat) ?_ ?_
 · refine ⟨0,(.slice none 0 0),ae,?_,ab,e3,(e4.trans (bk (by first | omega | rfl | (rw [kS (by assumption)]) | (rw [mm (by assumption)];omega)))),(e5.trans (bk (by first | omega | rfl | (rw [kS (by assumption)]) | (rw [mm (by assumption)];omega)))),e0,e2,?_⟩
   · omega
   · exact dX.nil _ _ _ _
 intro a5 w5 hI;obtain ⟨k,u,τ5,q0,st5,e3,e4,e5,e0,e2,r0⟩:=hI;have hfr:=uJ s k;have hln:=oX s k;have m5:=e5;refine wp_seq ?_;refine wp_seq (lu [0,0,2,7] st5 [jo r0] ⟨ao e5,ao e0,am fun c=>iu rfl bo (c.q 1),am fun c=>jZ rfl (c.q 0) (c.q 2),ax⟩ fun ac ag ae ab aa=> ?_);obtain ⟨e0,e2,e3,e4,e5⟩:=aa.k5 e0 e2 e3 e4 e5;have e9:=aa.V 3;replace r0:=aa.O 0;refine wp_cond_split e9 (fun hc1=> ?_) (fun hc1=> ?_)
 · try simp only [ai] at hc1
   refine wp_skip ?_;refine wp_seq ?_;refine wp_block ?_;refine wp_seq ?_;refine tB [0,0,2,7,15,31,31,127,255,511] ab [jo r0] ⟨ao e5,ao e0,am fun c=>iu rfl bo (c.q 1),am fun c=>bW rfl (c.q 0) (c.q 2),bm 3,bA 4 rfl fun c hpc=>aI rfl (c.p e0),bA 4 rfl fun c hpc=>aI rfl (c.p e5),bA 4 rfl fun c hpc=>gI rfl bo (c.M 5 hpc) (c.M 6 hpc) (by have hq0:=bn hpc;omega) (by have hq0:=bn hpc;omega),fq 4 false rfl fun c hpc=>⟨_,_,(bj rfl rfl Tryz.call57 (c.M 7 hpc)),wq (bZ s ((k:Int)+1)) _⟩,dF 4 8,ax⟩ fun ac ag ae ab aa=> ?_;obtain ⟨e0,e2,e3,e4,e5,e9⟩:=aa.k6 e0 e2 e3 e4 e5 e9;have e21:=aa.V 9;replace r0:=aa.O 0;refine wp_cond_split e21 (fun hc2=> ?_) (fun hc2=> ?_)
   · have hd2:=hc2;try simp only [aO,ai] at hd2
     refine wp_seq ?_;refine rg [_,_,_,_,_,own fo 9 _ 1 27 ([s.extract ((iY s k).2:Int).toNat ((k:Int)+1).toNat]),own _ _ _ 0 28 _,own _ _ _ 0 3 _] [0,0,0,0,14,30,63,127] ab [jo r0] ⟨ao e3,ao e0,ao e4,ao e5,am fun c=>zD (s:=s) (p:=((iY s k).2:Int)) (q:=(k:Int)+1) rfl bo (c.q 1) (c.q 2) (c.q 3) (by omega) (by omega) (by omega),dm (cells:=#[(aR (s.extract ((iY s k).2:Int).toNat ((k:Int)+1).toNat))]) rfl rfl rfl rfl bi bc Tryz.zeroValue9 rfl (by decide) (by decide) (fun _ _ _ _ c=>gD (c.n 4 rfl) (by kernel_rfl)) rfl,eT (t0:=3) rfl rfl rfl rfl bi (i:=Tryz.t9) rfl rfl rfl rfl (by simp only [maxLen];(try simp);omega) (by show _ * 16≤_;(try simp);omega) (fun _ _ _ _ c=>⟨c.ip 0 rfl e3,c.sm (c.n 0 rfl) e3,⟨_,rfl,(c.ro 5 rfl).1.sl⟩⟩),dH (t0:=28) rfl rfl rfl rfl rfl (.inr rfl) (fun _ _ _ _ c=>⟨c.ro 6 rfl,rfl⟩),ax⟩ fun ac ag ae ab aa=> ?_;obtain ⟨b8x27,e27⟩:=gx ac 27;obtain ⟨b8x3,e3⟩:=gx ac 3;obtain ⟨e0,e2,e4,e5,e9,e21⟩:=aa.k6 e0 e2 e4 e5 e9 e21;replace r0:=aa.ro 7 e3 rfl;have r1:=aa.ro 5 e27 rfl;refine ew ab [jo r0,jo r1] ⟨ao e5,aF 0,ax⟩ fun ac ag ae ab aa=> ?_;obtain ⟨e0,e2,e3,e5,e9,e21⟩:=aa.k6 e0 e2 e3 e5 e9 e21;have e4:=aa.V 1;replace r0:=aa.O 0;replace r1:=aa.O 1;show _;refine eJ ab [jo r0,jo r1] ⟨ao e5,am fun c=>cV rfl (c.q 0) rfl (by omega),aF 1,ax⟩ fun ac ag ae ab aa=> ?_;obtain ⟨e0,e2,e3,e4,e9,e21⟩:=aa.k6 e0 e2 e3 e4 e9 e21;have e5:=aa.V 2;replace r0:=aa.O 0;replace r1:=aa.O 1;refine ⟨⟨k+1,b8x3,ae,?_,ab,e3,(e4.trans (bk (by first | omega | rfl | (rw [kS (by assumption)]) | (rw [mm (by assumption)];omega)))),(e5.trans (bk (by first | omega | rfl | (rw [kS (by assumption)]) | (rw [mm (by assumption)];omega)))),e0,e2,?_⟩,?_⟩
     · omega
     · exact r0.cast (by first | exact xy (by assumption) | exact uW (by assumption))
     · simp only [m5,e5,intOf];omega
   have hd2:=hc2;try simp only [aG,ah] at hd2
   refine wp_skip ?_;show _;refine eJ ab [jo r0] ⟨ao e5,am fun c=>cV rfl (c.q 0) rfl (by omega),aF 1,ax⟩ fun ac ag ae ab aa=> ?_;obtain ⟨e0,e2,e3,e4,e9,e21⟩:=aa.k6 e0 e2 e3 e4 e9 e21;have e5:=aa.V 2;replace r0:=aa.O 0;refine ⟨⟨k+1,u,ae,?_,ab,e3,(e4.trans (bk (by first | omega | rfl | (rw [kS (by assumption)]) | (rw [mm (by assumption)];omega)))),(e5.trans (bk (by first | omega | rfl | (rw [kS (by assumption)]) | (rw [mm (by assumption)];omega)))),e0,e2,?_⟩,?_⟩
   · omega
   · exact r0.cast (by first | exact xy (by assumption) | exact uW (by assumption))
   · simp only [m5,e5,intOf];omega
 try simp only [ah,ep] at hc1
 refine wp_exit ?_;repeat (with_reducible refine cq ?_)
 refine cy ?_;refine wp_seq (ew ab [jo r0] ⟨ao e3,aF 0,ax⟩ fun ac ag ae ab aa=> ?_);have e2:=aa.V 1;replace r0:=aa.O 0;refine wp_ret ?_;refine rp ?_;refine cJ (fn:=Tryz.f37) rfl ab.defers e2 ?_;replace r0:=r0.cast (show cN s=_ from by rw [cN,show s.size=k by omega]);exact ⟨_,rfl,ab.ext0,r0.1,fun g_ h_=>(ab.bnd _ g_ (r0.2 g_ h_)).1⟩
set_option maxRecDepth 100000 in
theorem jI (s:ByteArray) (w:World) (hs:s.size≤1000000000):Calls Tryz.prog 86 #[(aR s)] w (fun e w'=>e= .returned (az (eb s))∧Ext aY w w'):=by
 refine enter (n:=17) Tryz.func86 rfl rfl (av rfl) ?_;intro a0 τ0 ha st0;have e0:=nh ha;refine wp_seq (ex st0 [] ⟨am fun c=>ar rfl rfl,ax⟩ fun ac ag ae ab aa=> ?_);replace e0:=aa.k1 e0;have e2:=aa.V 0;refine wp_seq ?_;refine rg [_,_,_,_,_,_,_,_,_,_,gown (((decide (0 < (s.size:Int)))&&(mc (bZ s 0)))=true) fo 9 (Nw w) 0 13 (cN s),_,_,_,_] [0,1,3,7,15,31,63,127,255,511,1023,2047,4095,8191,16383] ab [] ⟨ao e0,am fun c=>iu rfl bo (c.q 0),am fun c=>iP rfl (c.q 1) rfl,bm 2,aE 3 rfl fun c hpc=>aI rfl (c.p e0),aE 3 rfl fun c hpc=>gI rfl bo (c.M 4 hpc) rfl (by have hq0:=bt hpc;omega) (by have hq0:=bt hpc;omega),fq 3 true rfl fun c hpc=>⟨_,_,(bj rfl rfl Tryz.call57 (c.M 5 hpc)),wq (bZ s 0) _⟩,bL 3 6,bm 7,aE 8 rfl fun c hpc=>aI rfl (c.p e0),tA (gi:=8) (tg:=11) rfl rfl rfl rfl rfl rfl Iff.rfl (fun hpc=>qN rfl rfl rfl (fun _ a_ _ _ c=>⟨_,_,(bj rfl rfl Tryz.call37 (c.M 9 hpc)),tS s _ (by have hq0:=hpc;(try simp only [aw,ai] at hq0);omega)⟩)),aE 8 rfl fun c hpc=>de rfl bi rfl (c.rg 10 rfl hpc).isSl,aE 8 rfl fun c hpc=>bW rfl (c.M 11 hpc) rfl,bL 8 12,aF 13,ax⟩ fun ac ag ae ab aa=> ?_;have e2:=aa.V 14;refine wp_ret ?_;refine rp ?_;refine cJ (fn:=Tryz.f86) rfl ab.defers e2 ?_;exact ⟨congrArg _ (congrArg _ (tF s)),ab.ext0⟩
end
section
open Srt
def qp (s:ByteArray) (k:Int):Bool:=decide (k=(s.size:Int)) || mc (bZ s k)
def sh (s:ByteArray):Nat→List Int
  | 0 => [0]
  | k + 1 => if qp s ((k : Int) + 1) = true then sh s k ++ [((k : Nat) : Int) + 1] else sh s k
def dA (s:ByteArray):List Int:=sh s s.size
theorem pi {s:ByteArray} {k:Nat} (h:qp s ((k:Int)+1)=true):sh s (k+1)=sh s k++ [((k:Nat):Int)+1]:=by rw [sh,if_pos h]
theorem nF {s:ByteArray} {k:Nat} (h:qp s ((k:Int)+1)=false):sh s (k+1)=sh s k:=by rw [sh,if_neg (by rw [h];decide)]
theorem Aq {s:ByteArray} {k:Nat} (h:qp s ((k:Int)+1)=true):iY s (k+1)=((iY s k).1++ [s.extract (iY s k).2 (k+1)],k+1):=rG h
theorem Ar {s:ByteArray} {k:Nat} (h:qp s ((k:Int)+1)=false):iY s (k+1)=iY s k:=pK h
theorem tT (s:ByteArray) (k:Nat):(sh s k).length=(iY s k).1.length+1:=by
  induction k with
  | zero => rfl
  | succ k ih =>
    cases h:qp s ((k:Int)+1) with
    | true => rw [pi h, Aq h]; simp [ih]
    | false => rw [nF h, Ar h, ih]
theorem rI (s:ByteArray):(dA s).length=(cN s).length+1:=tT s s.size
theorem lm {s:ByteArray} {p:Nat} (h:p < s.size):p < endF s p∧endF s p≤s.size:=by
  have:=FP s (p+1) (by omega);unfold endF;omega
theorem As {s:ByteArray} {p m:Nat} (h:p < s.size) (h1:p < m) (h2:m < endF s p):qp s (m:Int)=false:=by
  have h3:∀d,p+1+d < endF s p→(p+1+d < s.size∧qn (bZ s ((p+1+d:Nat):Int))=true)∧(p+1+d)+1+tw s (p+1+d+1)=endF s p:=by
    intro d;induction d with
    | zero =>
      intro hd;have hs:p+1 < s.size:=by have:=(lm h).2;omega
      have hb:qn (bZ s ((p+1:Nat):Int))=true:=by
        cases hb:qn (bZ s ((p+1:Nat):Int)) with
        | true => rfl
        | false =>
          have:=tE (s:=s) (k:=p+1) (.inr hb);unfold endF at hd;omega
      refine ⟨⟨hs,hb⟩,?_⟩;have:=oW hs hb;exact this.symm
    | succ d ih =>
      intro hd;obtain ⟨⟨i1,i2⟩,i3⟩:=ih (by omega);have hs:p+1+(d+1) < s.size:=by have:=(lm h).2;omega
      have hb:qn (bZ s ((p+1+(d+1):Nat):Int))=true:=by
        cases hb:qn (bZ s ((p+1+(d+1):Nat):Int)) with
        | true => rfl
        | false =>
          have:=tE (s:=s) (k:=p+1+(d+1)) (.inr hb);have e:p+1+d+1=p+1+(d+1):=by omega
          rw [e] at i3;omega
      refine ⟨⟨hs,hb⟩,?_⟩;have:=oW hs hb;have e:p+1+d+1=p+1+(d+1):=by omega
      rw [e] at i3;omega
  obtain ⟨d,rfl⟩:∃d,m=p+1+d:=⟨m - (p+1),by omega⟩;obtain ⟨⟨h4,h5⟩,_⟩:=h3 d h2;unfold qp;rw [mL,h5];simp;omega
theorem CK {s:ByteArray} {p:Nat} (h:p < s.size):qp s (endF s p:Int)=true:=by
  unfold qp;by_cases he:endF s p=s.size
  · rw [he];simp
  · have hlt:endF s p < s.size:=by have:=(lm h).2;omega
    have hb:qn (bZ s (endF s p:Int))=false:=by
      cases hb:qn (bZ s (endF s p:Int)) with
      | false => rfl
      | true =>
        have h1:=oW hlt hb;have h3:∀d,p+1+d≤endF s p→p+1+d+tw s (p+1+d)=endF s p:=by
          intro d;induction d with
          | zero => intro _; rfl
          | succ d ih =>
            intro hd;have i:=ih (by omega);have hx:=As h (m:=p+1+d) (by omega) (by omega);have hy:qn (bZ s ((p+1+d:Nat):Int))=true:=by
              unfold qp at hx;rw [aG,mL] at hx;simpa using hx.2
            have:=oW (s:=s) (k:=p+1+d) (by have:=(lm h).2;omega) hy;have e:p+1+d+1=p+1+(d+1):=by omega
            rw [e] at this;omega
        have:=h3 (endF s p - (p+1)) (by have:=(lm h).1;omega);have e:p+1+(endF s p - (p+1))=endF s p:=by have:=(lm h).1;omega
        rw [e] at this
        omega
    rw [mL,hb];simp
theorem uY {s:ByteArray} {p:Nat} (h:p < s.size) (hs:(iY s p).2=p):iY s (endF s p)=((iY s p).1++ [s.extract p (endF s p)],endF s p)∧sh s (endF s p)=sh s p++ [(endF s p:Int)]:=by
  have h1:∀d,p+d < endF s p→iY s (p+d)=iY s p∧sh s (p+d)=sh s p:=by
    intro d;induction d with
    | zero => intro _; exact ⟨rfl, rfl⟩
    | succ d ih =>
      intro hd;obtain ⟨i1,i2⟩:=ih (by omega);have hb:=As h (m:=p+d+1) (by omega) (by omega);have e:((p+d+1:Nat):Int)=((p+d:Nat):Int)+1:=by omega
      rw [e] at hb;exact ⟨by rw [←Nat.add_assoc,Ar hb,i1],by rw [←Nat.add_assoc,nF hb,i2]⟩
  obtain ⟨k,hk⟩:∃k,endF s p=k+1:=⟨endF s p - 1,by have:=(lm h).1;omega⟩;obtain ⟨i1,i2⟩:=h1 (k - p) (by have:=(lm h).1;omega);have e:p+(k - p)=k:=by have:=(lm h).1;omega
  rw [e] at i1 i2;have hb:=CK h;rw [hk] at hb ⊢;have e2:((k+1:Nat):Int)=(k:Int)+1:=by omega
  rw [e2] at hb;rw [Aq hb,pi hb,i1,i2,hs,e2];exact ⟨rfl,rfl⟩
theorem uZ (s:ByteArray) (k:Nat):(sh s k).Pairwise (· < ·)∧(∀x ∈ sh s k,0≤x∧x≤(k:Int))∧(sh s k)[0]? =some 0:=by
  induction k with
  | zero => exact ⟨by simp [sh], fun x hx => by simp [sh] at hx; omega, rfl⟩
  | succ k ih =>
    obtain ⟨i1,i2,i3⟩:=ih;cases h:qp s ((k:Int)+1) with
    | true =>
      rw [pi h];refine ⟨?_,fun x hx=> ?_,?_⟩
      · rw [List.pairwise_append];refine ⟨i1,by simp,fun x hx y hy=> ?_⟩;simp at hy;have:=(i2 x hx).2;omega
      · rcases List.mem_append.1 hx with hx | hx
        · have:=i2 x hx;omega
        · simp at hx;omega
      · rw [je (List.getElem?_eq_some_iff.1 i3).1];exact i3
    | false =>
      rw [nF h];exact ⟨i1,fun x hx=>by have:=i2 x hx;omega,i3⟩
theorem pj {xs:List Int} (h:xs.Pairwise (· < ·)) {i j:Nat} (hij:i < j) (hj:j < xs.length):nth xs (i:Int) < nth xs (j:Int):=by
  rw [mD,mD];have h1:=List.pairwise_iff_getElem.1 h i j (by omega) hj hij;simp only [List.getD,bE hj,bE (show i < xs.length by omega),Option.getD_some];exact h1
def plcF (xs:List Int) (x:Int):Nat:=(xs.takeWhile fun y=>decide (y < x)).length
theorem rJ {xs:List Int} {x:Int} (h:xs.Pairwise (· < ·)) {i:Nat} (hi:i≤xs.length) (h1:∀j:Nat,j < i→nth xs (j:Int) < x) (h2:i < xs.length→x≤nth xs (i:Int)):plcF xs x=i:=by
  induction xs generalizing i with
  | nil => simp at hi; subst hi; rfl
  | cons y ys ih =>
    have hp:=List.pairwise_cons.1 h;cases i with
    | zero =>
      have:=h2 (by simp);have e:nth (y::ys) ((0:Nat):Int)=y:=rfl;rw [e] at this
      unfold plcF;rw [gr,if_neg (by simp;omega)];rfl
    | succ i =>
      have h0:=h1 0 (by omega);have e:nth (y::ys) ((0:Nat):Int)=y:=rfl;rw [e] at h0;have hs:∀j:Nat,nth (y::ys) ((j+1:Nat):Int)=nth ys (j:Int):=fun j=>by rw [mD,mD];rfl
      have:=ih hp.2 (i:=i) (by simp at hi;omega) (fun j hj=>by rw [←hs j];exact h1 (j+1) (by omega)) (fun hi2=>by rw [←hs i];exact h2 (by simp;omega));unfold plcF at this ⊢
      rw [gr,if_pos (by simpa using h0),bY,this]
def KQ (n k:Nat) (Q:Nat × Ps→Prop) (K:dG):Prop:=∀(to:Nat) (ps:Ps) (φ:Fl),k≤to→to≤n→∀y,(K to ps φ).1=some y→Q y
theorem KQ.up {n k k':Nat} {Q:Nat × Ps→Prop} {K:dG} (h:KQ n k Q K) (hk:k≤k'):KQ n k' Q K:=fun to ps φ h1 h2=>h to ps φ (by omega) h2
def RQ (n:Nat) (r:ig):Prop:=∀(k:Nat) (K:dG) (ps:Ps) (φ:Fl) (Q:Nat × Ps→Prop),k≤n→KQ n k Q K→∀y,(r k K ps φ).1=some y→Q y
theorem At {n:Nat}:∀(l:List ig),(∀r ∈ l,RQ n r)→RQ n (iL l)
  | [], _ => fun k K ps φ Q hk hK y hy => hK k ps φ (bq _) hk y hy
  | r :: l, h => fun k K ps φ Q hk hK y hy => h r (by simp) k (fun to ps φ => iL l to K ps φ) ps φ Q hk (fun to ps φ h1 h2 y hy => At l (fun x hx => h x (by simp [hx])) to K ps φ Q h2 (hK.up h1) y hy) y hy
theorem Au {n:Nat}:∀(l:List ig),(∀r ∈ l,RQ n r)→RQ n (ju l)
  | [], _ => fun k K ps φ Q hk hK y hy => by cases hy
  | r :: l, h => fun k K ps φ Q hk hK y hy => by
    rw [ju] at hy;split at hy
    · exact h r (by simp) k K ps φ Q hk hK y hy
    · exact Au l (fun x hx=>h x (by simp [hx])) k K ps _ Q hk hK y hy
theorem va {n:Nat} {r:ig} (hr:RQ n r) {lo m:Nat} {mn mx:Int} {lz:Bool}:∀(g times:Nat),RQ n (cw r lo m mn mx lz g times)
  | 0, times => fun k K ps φ Q hk hK y hy => by cases hy
  | g + 1, times => fun k K ps φ Q hk hK y hy => by
    have h1:∀y,(gM mn lz times k K ps φ).1=some y→Q y:=fun y hy=>by
      unfold gM at hy;split at hy
      · exact hK k ps φ (bq _) hk y hy
      · cases hy
    have h2:∀φ y,(cZ r lo m mn mx lz g times k K ps φ).1=some y→Q y:=fun φ y hy=>hr k (dK r lo m mn mx lz g times k K) _ φ Q hk (fun to ps φ a1 a2 y hy=>by
      unfold dK at hy;split at hy
      · exact va hr g (times+1) to K ps φ Q a2 (hK.up a1) y hy
      · cases hy) y hy
    have h3:∀φ y,(gJ mn lz times k K ps φ).1=some y→Q y:=fun φ y hy=>by
      unfold gJ at hy;split at hy
      · exact hK k ps φ (bq _) hk y hy
      · cases hy
    rw [me] at hy;split at hy
    · exact h1 y hy
    · split at hy
      · split at hy
        · exact h2 _ y hy
        · exact h3 _ y hy
      · exact h3 _ y hy
theorem tU {n:Nat} {l:List ig} (h:∀r ∈ l,RQ n r):RQ n (sF l):=by
  cases l with
  | nil => exact fun k K ps φ Q hk hK y hy => by cases hy
  | cons r l => exact h r (by simp)
theorem xz {E:Env} {t:Tr} {lo m:Nat} {l:List ig} (h:∀r ∈ l,RQ E.cs.length r):RQ E.cs.length (ij E t lo m l):=fun k K ps φ Q hk hK y hy=>by
  unfold ij at hy;split at hy
  · cases hy
  · split at hy
    · exact At l h k K ps φ Q hk hK y hy
    · split at hy
      · exact Au l h k K ps φ Q hk hK y hy
      · split at hy
        · exact va (tU h) _ _ k K ps φ Q hk hK y hy
        · split at hy
          · cases hy
          · unfold jU at hy;split at hy
            · exact tU h k _ ps _ Q hk (fun to ps φ a1 a2 y hy=>hK to _ φ a1 a2 y hy) y hy
            · split at hy
              · exact tU h k K ps _ Q hk hK y hy
              · split at hy
                · split at hy
                  · rename_i hc;simp only [aw,ai] at hc;exact hK (k+1) ps _ (by omega) (by omega) y hy
                  · cases hy
                · split at hy
                  · exact hK k ps _ (bq _) hk y hy
                  · cases hy
theorem ki (E:Env) (p:Pt):RQ E.cs.length (aZ E p):=by
  induction p using Pt.ind with
  | h p ih =>
    rw [kw];exact xz fun r hr=>by
      obtain ⟨q,hq,rfl⟩:=List.mem_map.1 hr;exact ih q hq
theorem xA {E:Env}:∀(l:List Tr) (g:Nat),(∀k ∈ l,∀g,RQ E.cs.length (bh E k g))→∀r ∈ fY E l g,RQ E.cs.length r
  | [], g, h, r, hr => by simp [fY] at hr
  | t :: l, g, h, r, hr => by
    rw [fY] at hr;rcases List.mem_cons.1 hr with rfl | hr
    · exact h t (by simp) g
    · exact xA l (g+grpN t) (fun k hk=>h k (by simp [hk])) r hr
theorem CL (E:Env) (t:Tr):∀g,RQ E.cs.length (bh E t g):=by
  induction t using Tr.ind with
  | h t ih =>
    intro g;rw [jV];exact xz (xA t.kids _ ih)
end
section
open Go.RowKit
open Srt
set_option maxRecDepth 100000 in
theorem FSq (r:ByteArray × ByteArray) (w:World) (h1:r.1.size≤1000000000) (h2:r.2.size≤1000000000):Calls Tryz.prog 123 #[(.agg #[(aR r.1),(aR r.2)])] w (fun e w'=>e= .returned (az (fe r))∧Ext aY w w'):=by
 refine enter (n:=18) Tryz.func123 rfl rfl (av rfl) ?_;intro a0 τ0 ha st0;have e0:aT a0 0=(.agg #[(aR r.1),(aR r.2)]):=ha 0 _ rfl;clear ha;refine wp_seq (rg [box _ _ 0 1 [(aR r.1),(aR r.2)],_] [0,0] st0 [] ⟨fl (v:=(.agg #[(aR r.1),(aR r.2)])) rfl rfl rfl rfl rfl (fun _ _ _ _ c=>(c.p e0)),am fun c=>ar rfl rfl,ax⟩ fun ac ag ae ab aa=> ?_);obtain ⟨b1x1,e1⟩:=gx ac 1;have e2:=aa.V 1;have r0:=aa.rb 0 e1 rfl;refine wp_seq ?_;refine rg [_,_,_,_,_,_,_,_,_,_,_,_,_,_,_,_] [0,1,3,7,15,31,63,127,255,511,1023,511,2559,8191,16383,32767] ab [jb r0] ⟨cc bH bc e1 r0.ptr,dJ bG 0 0 0,dQ fun c=>⟨_,_,(bj rfl rfl Tryz.call29 (c.q 1)),rH r.1 _ (by omega)⟩,bm 2,aE 3 rfl fun c hpc=>cO rfl bH bc ((c.p e1).trans r0.ptr),aE 3 rfl fun c hpc=>aA rfl bG (c.M 4 hpc) ((c.B 0).cell (j:=1) rfl),fq 3 true rfl fun c hpc=>⟨_,_,(bj rfl rfl Tryz.call29 (c.M 5 hpc)),rH r.2 _ (by have hq0:=hpc;omega)⟩,bL 3 6,bm 7,aE 8 rfl fun c hpc=>cO rfl bH bc ((c.p e1).trans r0.ptr),aE 8 rfl fun c hpc=>aA rfl bG (c.M 9 hpc) ((c.B 0).cell (j:=0) rfl),aE 8 rfl fun c hpc=>cO rfl bH bc ((c.p e1).trans r0.ptr),aE 8 rfl fun c hpc=>aA rfl bG (c.M 11 hpc) ((c.B 0).cell (j:=1) rfl),aE 8 rfl fun c hpc=>nu rfl (c.M 10 hpc) (c.M 12 hpc),bL 8 13,aF 14,ax⟩ fun ac ag ae ab aa=> ?_;have e2:=aa.V 15;refine wp_ret ?_;refine rp ?_;refine cJ (fn:=Tryz.f123) rfl ab.defers e2 ?_;exact ⟨rfl,ab.ext0⟩
set_option maxRecDepth 100000 in
theorem EI (v:Value) (xs:List (ByteArray × ByteArray)) (w:World) (hS:SlT iF w v xs) (hz:pa xs) (hbig:xs.length≤1000000000):Calls Tryz.prog 100 #[v] w (fun e w'=>e= .returned (az (lS xs))∧Ext aY w w'):=by
 refine enter (n:=31) Tryz.func100 rfl rfl (av rfl) ?_;intro a0 τ0 ha st0;have e0:=nh ha;have hle:=hS.le;refine wp_seq (ex st0 [] ⟨am fun c=>ar rfl rfl,ax⟩ fun ac ag ae ab aa=> ?_);replace e0:=aa.k1 e0;have e2:=aa.V 0;refine wp_seq ?_;refine wp_seq (zp [0,1,0] ab [] ⟨ao e0,am fun c=>de rfl bd (c.q 0) hS.sl,am fun c=>aI rfl rfl,ax⟩ fun ac ag ae ab aa=> ?_);obtain ⟨e0,e2⟩:=aa.k2 e0 e2;have e5:=aa.V 0;have e6:=aa.V 1;have e7:=aa.V 2;refine wp_block ?_;refine wp_loop (fun a_ w_=>∃(k:Nat) (τ:Nat→aP),(k≤xs.length)∧
      (∀i < k,nA xs ((i:Nat):Int)=false)∧
      St (Nw w) w 31 a_ w_ τ∧
      aT a_ 7=(aj (k:Int))∧
      aT a_ 0=v∧
      aT a_ 5=v∧
      aT a_ 6=(aj (xs.length:Int))) (fun a_ _=>xs.length - (intOf (aT a_ 7)).toNat) ?_ ?_
 · refine ⟨0,ae,?_,?_,ab,(e7.trans (bk (by omega))),e0,e5,e6⟩
   · omega
   · intro i hi;omega
 intro a3 w3 hI;obtain ⟨k,τ3,q0,q1,st3,e7,e0,e5,e6⟩:=hI;have hzk:=rj hz (k:=k);have m7:=e7;refine wp_seq (ex st3 [] ⟨am fun c=>dj rfl (c.p e7) (c.p e6),ax⟩ fun ac ag ae ab aa=> ?_);obtain ⟨e0,e5,e6,e7⟩:=aa.k4 e0 e5 e6 e7;have e8:=aa.V 0;refine wp_seq ?_;refine wp_cond_split e8 (fun hc1=> ?_) (fun hc1=> ?_)
 · try simp only [ai] at hc1
   refine wp_skip ?_;refine wp_seq ?_;refine wp_block ?_;refine wp_seq (rg [_,_,_,box _ _ 0 4 [(aR (⟨#[]⟩:ByteArray)),(aR (⟨#[]⟩:ByteArray))],_,_] [0,0,2,0,15,31] ab [] ⟨ao e7,am fun c=>aM rfl bd bT (c.p e5) hS.sl (c.p e7) (by omega) (by omega),am fun c=>cT (vs:=[(aR ((nth xs (k:Int)).1)),(aR ((nth xs (k:Int)).2))]) rfl gU bT (c.q 1) rfl (fun _ _ hj=>(hS.at (ab.ext.trans c.J.ext)).elem (bz (i:=(k:Int)) (by omega) (by omega)) hj),ct rfl rfl rfl rfl cR rfl,aF 0,fU (cx:=[(aR ((nth xs (k:Int)).1)),(aR ((nth xs (k:Int)).2))]) (off:=0) rfl bT fun c=>⟨c.rb 3 rfl,(c.rb 3 rfl).ptr,(c.q 2)⟩,ax⟩ fun ac ag ae ab aa=> ?_);obtain ⟨b5x4,e4⟩:=gx ac 4;obtain ⟨e0,e5,e6,e7,e8⟩:=aa.k5 e0 e5 e6 e7 e8;have e3:=aa.V 4;have r0:=aa.rb 5 e4 rfl;refine wp_seq ?_;refine rg [_,_,_,_,_,_,_,_,_,_,_,_,_,_,_,_,_,_] [0,1,3,7,15,31,63,127,255,127,127,1151,3711,7807,15999,32767,65535,131071] ab [jb r0] ⟨am fun c=>ea rfl gU bT ((c.p e4).trans r0.ptr) (c.B 0),dQ fun c=>⟨_,_,(bj rfl rfl Tryz.call123 (c.q 0)),FSq (nth xs (k:Int)) _ (by omega) (by omega)⟩,am fun c=>dS rfl (c.q 1),bm 2,bA 3 rfl fun c hpc=>aI rfl (c.p e3),bA 3 rfl fun c hpc=>iP rfl (c.M 4 hpc) rfl,bA 3 rfl fun c hpc=>aI rfl (c.M 5 hpc),cH 6 true rfl fun c hpc=>cO rfl bH bc ((c.p e4).trans r0.ptr),cH 6 true rfl fun c hpc=>aA rfl bG (c.M 7 hpc) ((c.B 0).cell (j:=0) rfl),cH 6 true rfl fun c hpc=>aI rfl (c.p e0),cH 6 true rfl fun c hpc=>aI rfl (c.p e3),cH 6 true rfl fun c hpc=>jj rfl (c.M 10 hpc) rfl (by have hq0:=bt hpc.2;have hq1:=hpc.1;(try simp only [aB,ay] at hq1);omega),cH 6 true rfl fun c hpc=>aM rfl bd bT (c.M 9 hpc) hS.sl (c.M 11 hpc) (by have hq0:=bt hpc.2;have hq1:=hpc.1;(try simp only [aB,ay] at hq1);omega) (by have hq0:=bt hpc.2;have hq1:=hpc.1;(try simp only [aB,ay] at hq1);omega),cH 6 true rfl fun c hpc=>cO rfl bH bc (c.M 12 hpc),cH 6 true rfl fun c hpc=>aA rfl bG (c.M 13 hpc) ((hS.at (ab.ext.trans c.J.ext)).elem (j:=1) (bz (i:=(k:Int) - 1) (by have hq0:=bt hpc.2;have hq1:=hpc.1;(try simp only [aB,ay] at hq1);omega) (by have hq0:=bt hpc.2;have hq1:=hpc.1;(try simp only [aB,ay] at hq1);omega)) rfl),cH 6 true rfl fun c hpc=>nu rfl (c.M 8 hpc) (c.M 14 hpc),bA 3 rfl fun c hpc=>ly rfl (c.M 6 hpc) (fun h=>c.m 15 rfl (And.intro hpc h)),dF 3 16,ax⟩ fun ac ag ae ab aa=> ?_;obtain ⟨e0,e3,e4,e5,e6,e7,e8⟩:=aa.k7 e0 e3 e4 e5 e6 e7 e8;have e29:=aa.V 17;replace r0:=aa.B 0;refine wp_cond_split e29 (fun hc2=> ?_) (fun hc2=> ?_)
   · have hd2:=hc2;try simp only [aw,aL,aO,aG,aB,ay,ai,ah,aX] at hd2
     refine wp_seq (ex ab [jb r0] ⟨am fun c=>ar rfl rfl,ax⟩ fun ac ag ae ab aa=> ?_);obtain ⟨e0,e3,e4,e5,e6,e7,e8,e29⟩:=aa.k8 e0 e3 e4 e5 e6 e7 e8 e29;have e2:=aa.V 0;replace r0:=aa.B 0;refine wp_ret ?_;refine rp ?_;refine cJ (fn:=Tryz.f100) rfl ab.defers e2 ?_;exact ⟨congrArg _ (congrArg _ (by exact (sD (k:=k) (by omega) (by assumption)).symm)),ab.ext0⟩
   have hd2:=hc2;try simp only [aw,aL,aO,aG,aB,ay,ai,ah,aX] at hd2
   refine wp_skip ?_;show _;refine ew ab [jb r0] ⟨am fun c=>cV rfl (c.p e7) rfl (by omega),bm 0,ax⟩ fun ac ag ae ab aa=> ?_;obtain ⟨e0,e3,e4,e5,e6,e8,e29⟩:=aa.k7 e0 e3 e4 e5 e6 e8 e29;have e7:=aa.V 1;replace r0:=aa.B 0;refine ⟨⟨k+1,ae,?_,?_,ab,(e7.trans (bk (by omega))),e0,e5,e6⟩,?_⟩
   · omega
   · exact nU q1 (by assumption)
   · simp only [m7,e7,intOf];omega
 try simp only [ah,aX] at hc1
 refine wp_exit ?_;repeat (with_reducible refine cq ?_)
 refine cy ?_;refine wp_seq (ex ab [] ⟨am fun c=>ar rfl rfl,ax⟩ fun ac ag ae ab aa=> ?_);have e2:=aa.V 0;refine wp_ret ?_;refine rp ?_;refine cJ (fn:=Tryz.f100) rfl ab.defers e2 ?_;exact ⟨congrArg _ (congrArg _ (by exact (oH q1 (by omega)).symm)),ab.ext0⟩
set_option maxRecDepth 100000 in
theorem yG (v:Value) (xs:List (ByteArray × ByteArray)) (w:World) (hS:SlT iF w v xs) (hz:pa xs) (hbig:xs.length≤1000000000):Calls Tryz.prog 87 #[v] w (fun e w'=>e= .returned (az (lS xs))∧Ext aY w w'):=by
 refine enter (n:=47) Tryz.func87 rfl rfl (av rfl) ?_;intro a0 τ0 ha st0;have e0:=nh ha;have hle:=hS.le;refine wp_seq (ex st0 [] ⟨am fun c=>ar rfl rfl,ax⟩ fun ac ag ae ab aa=> ?_);replace e0:=aa.k1 e0;have e2:=aa.V 0;refine wp_seq ?_;refine wp_seq (ex ab [] ⟨am fun c=>ar rfl rfl,ax⟩ fun ac ag ae ab aa=> ?_);obtain ⟨e0,e2⟩:=aa.k2 e0 e2;have e3:=aa.V 0;refine wp_block ?_;refine wp_loop (fun a_ w_=>∃(k:Nat) (τ:Nat→aP),(k≤xs.length)∧
      (∀i < k,nA xs ((i:Nat):Int)=false)∧
      St (Nw w) w 47 a_ w_ τ∧
      aT a_ 3=(aj (k:Int))∧
      aT a_ 0=v) (fun a_ _=>xs.length - (intOf (aT a_ 3)).toNat) ?_ ?_
 · refine ⟨0,ae,?_,?_,ab,(e3.trans (bk (by omega))),e0⟩
   · omega
   · intro i hi;omega
 intro a3 w3 hI;obtain ⟨k,τ3,q0,q1,st3,e3,e0⟩:=hI;have hzk:=rj hz (k:=k);have m3:=e3;refine wp_seq ?_;refine wp_seq (lu [0,0,2,7] st3 [] ⟨ao e3,ao e0,am fun c=>de rfl bd (c.q 1) hS.sl,am fun c=>dj rfl (c.q 0) (c.q 2),ax⟩ fun ac ag ae ab aa=> ?_);obtain ⟨e0,e3⟩:=aa.k2 e0 e3;have e8:=aa.V 3;refine wp_cond_split e8 (fun hc1=> ?_) (fun hc1=> ?_)
 · try simp only [ai] at hc1
   refine wp_skip ?_;refine wp_seq ?_;refine wp_block ?_;refine wp_seq (rg [_,_,_,_,box _ _ 0 4 [(aR (⟨#[]⟩:ByteArray)),(aR (⟨#[]⟩:ByteArray))],_] [0,0,3,7,0,31] ab [] ⟨ao e0,ao e3,am fun c=>aM rfl bd bT (c.q 0) hS.sl (c.q 1) (by omega) (by omega),am fun c=>cT (vs:=[(aR ((nth xs (k:Int)).1)),(aR ((nth xs (k:Int)).2))]) rfl gU bT (c.q 2) rfl (fun _ _ hj=>(hS.at (ab.ext.trans c.J.ext)).elem (bz (i:=(k:Int)) (by omega) (by omega)) hj),ct rfl rfl rfl rfl cR rfl,fU (cx:=[(aR ((nth xs (k:Int)).1)),(aR ((nth xs (k:Int)).2))]) (off:=0) rfl bT fun c=>⟨c.rb 4 rfl,(c.rb 4 rfl).ptr,(c.q 3)⟩,ax⟩ fun ac ag ae ab aa=> ?_);obtain ⟨b5x4,e4⟩:=gx ac 4;obtain ⟨e0,e3,e8⟩:=aa.k3 e0 e3 e8;have r0:=aa.rb 5 e4 rfl;refine wp_seq ?_;refine rg [_,_,_,_,_,_,_,_,_,_,_,_,_,_,_,_,_,_,_,_,_,_,_,_,_,_,_,_,_,_,_,_] [0,1,3,7,15,31,63,127,255,511,1023,2047,4095,2047,10239,32767,65535,131071,262143,524287,1048575,2097151,4194303,2097151,2097151,18874367,60817407,127926271,262143999,536870911,1073741823,2147483647] ab [jb r0] ⟨cc bH bc e4 r0.ptr,dJ bG 0 0 0,dQ fun c=>⟨_,_,(bj rfl rfl kx (c.q 1)),jI ((nth xs (k:Int)).1) _ (by omega)⟩,am fun c=>dS rfl (c.q 2),bm 3,bA 4 rfl fun c hpc=>cO rfl bH bc ((c.p e4).trans r0.ptr),bA 4 rfl fun c hpc=>aA rfl bG (c.M 5 hpc) ((c.B 0).cell (j:=1) rfl),fq 4 false rfl fun c hpc=>⟨_,_,(bj rfl rfl kx (c.M 6 hpc)),jI ((nth xs (k:Int)).2) _ (by have hq0:=hpc;(try simp only [aB,ay] at hq0);omega)⟩,bA 4 rfl fun c hpc=>dS rfl (c.M 7 hpc),dF 4 8,bm 9,bA 10 rfl fun c hpc=>cO rfl bH bc ((c.p e4).trans r0.ptr),bA 10 rfl fun c hpc=>aA rfl bG (c.M 11 hpc) ((c.B 0).cell (j:=0) rfl),bA 10 rfl fun c hpc=>cO rfl bH bc ((c.p e4).trans r0.ptr),bA 10 rfl fun c hpc=>aA rfl bG (c.M 13 hpc) ((c.B 0).cell (j:=1) rfl),bA 10 rfl fun c hpc=>zC rfl (c.M 12 hpc) (c.M 14 hpc),dF 10 15,bm 16,bA 17 rfl fun c hpc=>aI rfl (c.p e3),bA 17 rfl fun c hpc=>iP rfl (c.M 18 hpc) rfl,bA 17 rfl fun c hpc=>aI rfl (c.M 19 hpc),cH 20 true rfl fun c hpc=>cO rfl bH bc ((c.p e4).trans r0.ptr),cH 20 true rfl fun c hpc=>aA rfl bG (c.M 21 hpc) ((c.B 0).cell (j:=0) rfl),cH 20 true rfl fun c hpc=>aI rfl (c.p e0),cH 20 true rfl fun c hpc=>aI rfl (c.p e3),cH 20 true rfl fun c hpc=>jj rfl (c.M 24 hpc) rfl (by have hq0:=bt hpc.2;have hq1:=hpc.1;(try simp only [aO,aG,aB,ay] at hq1);omega),cH 20 true rfl fun c hpc=>aM rfl bd bT (c.M 23 hpc) hS.sl (c.M 25 hpc) (by have hq0:=bt hpc.2;have hq1:=hpc.1;(try simp only [aO,aG,aB,ay] at hq1);omega) (by have hq0:=bt hpc.2;have hq1:=hpc.1;(try simp only [aO,aG,aB,ay] at hq1);omega),cH 20 true rfl fun c hpc=>cO rfl bH bc (c.M 26 hpc),cH 20 true rfl fun c hpc=>aA rfl bG (c.M 27 hpc) ((hS.at (ab.ext.trans c.J.ext)).elem (j:=1) (bz (i:=(k:Int) - 1) (by have hq0:=bt hpc.2;have hq1:=hpc.1;(try simp only [aO,aG,aB,ay] at hq1);omega) (by have hq0:=bt hpc.2;have hq1:=hpc.1;(try simp only [aO,aG,aB,ay] at hq1);omega)) rfl),cH 20 true rfl fun c hpc=>nu rfl (c.M 22 hpc) (c.M 28 hpc),bA 17 rfl fun c hpc=>ly rfl (c.M 20 hpc) (fun h=>c.m 29 rfl (And.intro hpc h)),dF 17 30,ax⟩ fun ac ag ae ab aa=> ?_;obtain ⟨e0,e3,e4,e8⟩:=aa.k4 e0 e3 e4 e8;have e46:=aa.V 31;replace r0:=aa.B 0;refine wp_cond_split e46 (fun hc2=> ?_) (fun hc2=> ?_)
   · have hd2:=hc2;try simp only [aw,aL,aO,aG,aB,ay,ai,ah,aX] at hd2
     refine wp_seq (ex ab [jb r0] ⟨am fun c=>ar rfl rfl,ax⟩ fun ac ag ae ab aa=> ?_);obtain ⟨e0,e3,e4,e8,e46⟩:=aa.k5 e0 e3 e4 e8 e46;have e2:=aa.V 0;replace r0:=aa.B 0;refine wp_ret ?_;refine rp ?_;refine cJ (fn:=Tryz.f87) rfl ab.defers e2 ?_;exact ⟨congrArg _ (congrArg _ (by exact (sD (k:=k) (by omega) ((rl xs (k:Int)).symm.trans (by assumption))).symm)),ab.ext0⟩
   have hd2:=hc2;try simp only [aw,aL,aO,aG,aB,ay,ai,ah,aX] at hd2
   refine wp_skip ?_;show _;refine eJ ab [jb r0] ⟨ao e3,am fun c=>cV rfl (c.q 0) rfl (by omega),aF 1,ax⟩ fun ac ag ae ab aa=> ?_;obtain ⟨e0,e4,e8,e46⟩:=aa.k4 e0 e4 e8 e46;have e3:=aa.V 2;replace r0:=aa.B 0;refine ⟨⟨k+1,ae,?_,?_,ab,(e3.trans (bk (by omega))),e0⟩,?_⟩
   · omega
   · exact nU q1 ((rl xs (k:Int)).symm.trans (by assumption))
   · simp only [m3,e3,intOf];omega
 try simp only [ah,aX] at hc1
 refine wp_exit ?_;repeat (with_reducible refine cq ?_)
 refine cy ?_;refine wp_seq (ex ab [] ⟨am fun c=>ar rfl rfl,ax⟩ fun ac ag ae ab aa=> ?_);have e2:=aa.V 0;refine wp_ret ?_;refine rp ?_;refine cJ (fn:=Tryz.f87) rfl ab.defers e2 ?_;exact ⟨congrArg _ (congrArg _ (by exact (oH q1 (by omega)).symm)),ab.ext0⟩
end
section
open Go.RowKit
open Srt
def oJ (k:Int):Bool:=decide (k=2) || (decide (k=3) || (decide (k=4) || (decide (k=5) || decide (k=6))))
set_option maxRecDepth 100000 in
theorem wr (k:Int) (w:World):Calls Tryz.prog 101 #[(aj k)] w (fun e w'=>e= .returned (az (oJ k))∧Ext aY w w'):=by
 refine enter (n:=10) Tryz.func101 rfl rfl (av rfl) ?_;intro a0 τ0 ha st0;have e0:=nh ha;refine wp_seq (ex st0 [] ⟨am fun c=>ar rfl rfl,ax⟩ fun ac ag ae ab aa=> ?_);replace e0:=aa.k1 e0;have e2:=aa.V 0;refine wp_seq ?_;refine wp_seq (ex ab [] ⟨ao e0,ax⟩ fun ac ag ae ab aa=> ?_);replace e2:=aa.k1 e2;have e3:=aa.V 0;refine wp_block ?_;refine wp_seq ?_;refine wp_seq (ew ab [] ⟨am fun c=>bW rfl (c.p e3) rfl,aF 0,ax⟩ fun ac ag ae ab aa=> ?_);obtain ⟨e2,e3⟩:=aa.k2 e2 e3;have e4:=aa.V 1;refine wp_cond_split e4 (fun hc1=> ?_) (fun hc1=> ?_)
 · have hd1:=hc1;try simp only [ai] at hd1
   refine wp_skip ?_;refine wp_cond_true (e4.trans (congrArg _ hc1)) ?_;refine wp_seq (ex ab [] ⟨am fun c=>ar rfl rfl,ax⟩ fun ac ag ae ab aa=> ?_);have e2:=aa.V 0;refine wp_ret ?_;refine rp ?_;refine cJ (fn:=Tryz.f101) rfl ab.defers e2 ?_;exact ⟨congrArg _ (congrArg _ (by unfold oJ;symm;simp;omega)),ab.ext0⟩
 have hd2:=hc1;try simp only [ah] at hd2
 refine wp_seq (ew ab [] ⟨am fun c=>bW rfl (c.p e3) rfl,aF 0,ax⟩ fun ac ag ae ab aa=> ?_);obtain ⟨e2,e3⟩:=aa.k2 e2 e3;have e4:=aa.V 1;refine wp_cond_split e4 (fun hc3=> ?_) (fun hc3=> ?_)
 · have hd3:=hc3;try simp only [ai] at hd3
   refine wp_skip ?_;refine wp_cond_true (e4.trans (congrArg _ hc3)) ?_;refine wp_seq (ex ab [] ⟨am fun c=>ar rfl rfl,ax⟩ fun ac ag ae ab aa=> ?_);have e2:=aa.V 0;refine wp_ret ?_;refine rp ?_;refine cJ (fn:=Tryz.f101) rfl ab.defers e2 ?_;exact ⟨congrArg _ (congrArg _ (by unfold oJ;symm;simp;omega)),ab.ext0⟩
 have hd4:=hc3;try simp only [ah] at hd4
 refine wp_seq (ew ab [] ⟨am fun c=>bW rfl (c.p e3) rfl,aF 0,ax⟩ fun ac ag ae ab aa=> ?_);obtain ⟨e2,e3⟩:=aa.k2 e2 e3;have e4:=aa.V 1;refine wp_cond_split e4 (fun hc5=> ?_) (fun hc5=> ?_)
 · have hd5:=hc5;try simp only [ai] at hd5
   refine wp_skip ?_;refine wp_cond_true (e4.trans (congrArg _ hc5)) ?_;refine wp_seq (ex ab [] ⟨am fun c=>ar rfl rfl,ax⟩ fun ac ag ae ab aa=> ?_);have e2:=aa.V 0;refine wp_ret ?_;refine rp ?_;refine cJ (fn:=Tryz.f101) rfl ab.defers e2 ?_;exact ⟨congrArg _ (congrArg _ (by unfold oJ;symm;simp;omega)),ab.ext0⟩
 have hd6:=hc5;try simp only [ah] at hd6
 refine wp_seq (ew ab [] ⟨am fun c=>bW rfl (c.p e3) rfl,aF 0,ax⟩ fun ac ag ae ab aa=> ?_);obtain ⟨e2,e3⟩:=aa.k2 e2 e3;have e4:=aa.V 1;refine wp_cond_split e4 (fun hc7=> ?_) (fun hc7=> ?_)
 · have hd7:=hc7;try simp only [ai] at hd7
   refine wp_skip ?_;refine wp_cond_true (e4.trans (congrArg _ hc7)) ?_;refine wp_seq (ex ab [] ⟨am fun c=>ar rfl rfl,ax⟩ fun ac ag ae ab aa=> ?_);have e2:=aa.V 0;refine wp_ret ?_;refine rp ?_;refine cJ (fn:=Tryz.f101) rfl ab.defers e2 ?_;exact ⟨congrArg _ (congrArg _ (by unfold oJ;symm;simp;omega)),ab.ext0⟩
 have hd8:=hc7;try simp only [ah] at hd8
 refine ew ab [] ⟨am fun c=>bW rfl (c.p e3) rfl,aF 0,ax⟩ fun ac ag ae ab aa=> ?_;replace e2:=aa.k1 e2;have e4:=aa.V 1;refine wp_cond_split e4 (fun hc9=> ?_) (fun hc9=> ?_)
 · have hd9:=hc9;try simp only [ai] at hd9
   refine wp_seq (ex ab [] ⟨am fun c=>ar rfl rfl,ax⟩ fun ac ag ae ab aa=> ?_);have e2:=aa.V 0;refine wp_ret ?_;refine rp ?_;refine cJ (fn:=Tryz.f101) rfl ab.defers e2 ?_;exact ⟨congrArg _ (congrArg _ (by unfold oJ;symm;simp;omega)),ab.ext0⟩
 have hd9:=hc9;try simp only [ah] at hd9
 refine wp_skip ?_;show _;refine wp_seq (ex ab [] ⟨am fun c=>ar rfl rfl,ax⟩ fun ac ag ae ab aa=> ?_);have e2:=aa.V 0;refine wp_ret ?_;refine rp ?_;refine cJ (fn:=Tryz.f101) rfl ab.defers e2 ?_;exact ⟨congrArg _ (congrArg _ (by unfold oJ;symm;simp;omega)),ab.ext0⟩
set_option maxRecDepth 100000 in
theorem CM (v:Value) (xs:List Int) (x:Int) (w:World) (hS:SlT gh w v xs):Calls Tryz.prog 143 #[v,(aj x)] w (fun e w'=>e= .returned (aj (DX (fun y=>decide (x=y)) xs))∧Ext aY w w'):=by
 refine enter (n:=19) Tryz.func143 rfl rfl (av rfl) ?_;intro a0 τ0 ha st0;obtain ⟨e0,e1⟩:=qm ha;have hle:=hS.le;refine wp_seq (ex st0 [] ⟨am fun c=>ar rfl rfl,ax⟩ fun ac ag ae ab aa=> ?_);obtain ⟨e0,e1⟩:=aa.k2 e0 e1;have e4:=aa.V 0;refine wp_seq ?_;refine wp_seq (zp [0,1,0] ab [] ⟨ao e0,am fun c=>de rfl ca (c.q 0) hS.sl,am fun c=>aI rfl rfl,ax⟩ fun ac ag ae ab aa=> ?_);obtain ⟨e0,e1,e4⟩:=aa.k3 e0 e1 e4;have e7:=aa.V 1;have e8:=aa.V 2;refine wp_block ?_;refine wp_loop (fun a_ w_=>∃(k:Nat) (τ:Nat→aP),(k≤xs.length)∧
      (∀y ∈ xs.take k,decide (x=y)=false)∧
      St (Nw w) w 19 a_ w_ τ∧
      aT a_ 8=(aj (k:Int))∧
      aT a_ 0=v∧
      aT a_ 1=(aj x)∧
      aT a_ 7=(aj (xs.length:Int))) (fun a_ _=>xs.length - (intOf (aT a_ 8)).toNat) ?_ ?_
 · refine ⟨0,ae,?_,?_,ab,(e8.trans (bk (by omega))),e0,e1,e7⟩
   · omega
   · simp
 intro a3 w3 hI;obtain ⟨k,τ3,q0,q1,st3,e8,e0,e1,e7⟩:=hI;have m8:=e8;refine wp_seq (ex st3 [] ⟨am fun c=>dj rfl (c.p e8) (c.p e7),ax⟩ fun ac ag ae ab aa=> ?_);obtain ⟨e0,e1,e7,e8⟩:=aa.k4 e0 e1 e7 e8;have e9:=aa.V 0;refine wp_seq ?_;refine wp_cond_split e9 (fun hc1=> ?_) (fun hc1=> ?_)
 · try simp only [ai] at hc1
   refine wp_skip ?_;refine wp_seq ?_;refine wp_block ?_;refine wp_seq (ew ab [] ⟨ao e8,aF 0,ax⟩ fun ac ag ae ab aa=> ?_);obtain ⟨e0,e1,e7,e8,e9⟩:=aa.k5 e0 e1 e7 e8 e9;have e5:=aa.V 1;refine wp_seq (Cl [0,0,0,6,14,31] ab [] ⟨ao e1,ao e0,ao e5,am fun c=>aM rfl ca au (c.q 1) hS.sl (c.q 2) (by omega) (by omega),am fun c=>aA rfl aC (c.q 3) ((hS.at (ab.ext.trans c.J.ext)).elem (j:=0) (bz (i:=(k:Int)) (by omega) (by omega)) rfl),am fun c=>bW rfl (c.q 0) (c.q 4),ax⟩ fun ac ag ae ab aa=> ?_);obtain ⟨e0,e1,e5,e7,e8,e9⟩:=aa.k6 e0 e1 e5 e7 e8 e9;have e16:=aa.V 5;refine wp_cond_split e16 (fun hc2=> ?_) (fun hc2=> ?_)
   · have hd2:=hc2;try simp only [ai] at hd2
     refine wp_seq (ew ab [] ⟨ao e5,aF 0,ax⟩ fun ac ag ae ab aa=> ?_);obtain ⟨e0,e1,e5,e7,e8,e9,e16⟩:=aa.k7 e0 e1 e5 e7 e8 e9 e16;have e4:=aa.V 1;refine wp_ret ?_;refine rp ?_;refine cJ (fn:=Tryz.f143) rfl ab.defers e4 ?_;exact ⟨congrArg _ (bk (by first | exact (tG (f:=fun y=>decide (x=y)) (by omega) q1 (by assumption)).symm | exact (qv (f:=fun y=>decide (x=y)) (k:=k) (by omega) q1).symm)),ab.ext0⟩
   have hd2:=hc2;try simp only [ah] at hd2
   refine wp_skip ?_;show _;refine ew ab [] ⟨am fun c=>cV rfl (c.p e8) rfl (by omega),bm 0,ax⟩ fun ac ag ae ab aa=> ?_;obtain ⟨e0,e1,e5,e7,e9,e16⟩:=aa.k6 e0 e1 e5 e7 e9 e16;have e8:=aa.V 1;refine ⟨⟨k+1,ae,?_,?_,ab,(e8.trans (bk (by omega))),e0,e1,e7⟩,?_⟩
   · omega
   · exact qw (f:=fun y=>decide (x=y)) (by omega) q1 (by assumption)
   · simp only [m8,e8,intOf];omega
 try simp only [ah,aX] at hc1
 refine wp_exit ?_;repeat (with_reducible refine cq ?_)
 refine cy ?_;refine wp_seq (ex ab [] ⟨am fun c=>ar rfl rfl,ax⟩ fun ac ag ae ab aa=> ?_);have e4:=aa.V 0;refine wp_ret ?_;refine rp ?_;refine cJ (fn:=Tryz.f143) rfl ab.defers e4 ?_;exact ⟨congrArg _ (bk (by first | exact (tG (f:=fun y=>decide (x=y)) (by omega) q1 (by assumption)).symm | exact (qv (f:=fun y=>decide (x=y)) (k:=k) (by omega) q1).symm)),ab.ext0⟩
set_option maxRecDepth 100000 in
theorem Av (v:Value) (xs:List Int) (x:Int) (w:World) (hS:SlT gh w v xs):Calls Tryz.prog 126 #[v,(aj x)] w (fun e w'=>e= .returned (az (xs.any fun y=>decide (x=y)))∧Ext aY w w'):=by
 refine enter (n:=9) Tryz.func126 rfl rfl (av rfl) ?_;intro a0 τ0 ha st0;obtain ⟨e0,e1⟩:=qm ha;have hle:=hS.le;refine wp_seq (ex st0 [] ⟨am fun c=>ar rfl rfl,ax⟩ fun ac ag ae ab aa=> ?_);obtain ⟨e0,e1⟩:=aa.k2 e0 e1;have e4:=aa.V 0;refine wp_seq (yl [0,0,3,7,15] ab [] ⟨ao e0,ao e1,dQ fun c=>⟨_,_,(co rfl rfl Tryz.call143 (c.q 0) (c.q 1)),CM v xs x _ (hS.at (ab.ext.trans c.J.ext))⟩,am fun c=>gH rfl (c.q 2) rfl,aF 3,ax⟩ fun ac ag ae ab aa=> ?_);have e4:=aa.V 4;refine wp_ret ?_;refine rp ?_;refine cJ (fn:=Tryz.f126) rfl ab.defers e4 ?_;exact ⟨congrArg _ (congrArg _ (zS _ _)),ab.ext0⟩
end
section
open Go.RowKit
open Srt
theorem FT {xs:List Tr} {k:Nat} (h:k < xs.length):fD (nth xs (k:Int))≤di (xs.map fD)∧di ((xs.take (k+1)).map fD)=di ((xs.take k).map fD)+fD (nth xs (k:Int))∧di ((xs.take (k+1)).map fD)≤di (xs.map fD):=
  ⟨mO (fun t _=>by have:=lF t;omega) (cP (by omega) (by omega)),jT h,(nw (fun t _=>by have:=lF t;omega) _).2⟩
theorem ws {ts xs:List Tr} {k:Int} {n:Nat} (hq:ts.map er=ic k ((xs.take n).map er)):(ts.length:Int)≤di ((xs.take n).map fD):=by
  have h:=yw hq;have h1:∀l:List Tr,di (l.map ck)≤di (l.map fD):=by
    intro l;induction l using fv with
    | h0 => exact fi _
    | h1 l x ih =>
      rw [bU,bU,bu,bR,bu,bR,ey,ey];have:=rh x;omega
  have:=h1 (xs.take n);omega
end
section
open Go.RowKit
open Srt
set_option maxRecDepth 100000 in
theorem Aw (F:aP) (kind:Int) (v:Value) (xs:List Tr) (w:World) (hS:SlT oM w v xs) (hF:∀t ∈ xs,TrT F w t) (hP:di (xs.map fD)≤1000000):Calls Tryz.prog 81 #[(aj kind),v] w (fun e w'=>∃v' ts,e= .returned v'∧Ext aY w w'∧oN oM 25 w w' v' ts∧(∀t ∈ ts,TrT (fun g=>(Gn F w) g∧v'.ownBlock≠some g) w' t)∧ts.map er=ic kind (xs.map er)):=by
 refine enter (n:=35) Tryz.func81 rfl rfl (av rfl) ?_;intro a0 τ0 ha st0;obtain ⟨e0,e1⟩:=qm ha;have hle:=hS.le;have r9:Fz (ny (Gn F w) xs) τ0 w:=TrT.inzs hF st0;refine wp_seq (ex st0 [jz 9 r9] ⟨am fun c=>ar rfl rfl,ax⟩ fun ac ag ae ab aa=> ?_);obtain ⟨e0,e1⟩:=aa.k2 e0 e1;have e4:=aa.V 0;replace r9:=aa.z1 9;refine wp_seq (ex ab [jz 9 r9] ⟨am fun c=>ar rfl rfl,ax⟩ fun ac ag ae ab aa=> ?_);obtain ⟨e0,e1,e4⟩:=aa.k3 e0 e1 e4;have e5:=aa.V 0;replace r9:=aa.z1 9;refine wp_seq ?_;refine wp_seq (ex ab [jz 9 r9] ⟨am fun c=>ar rfl rfl,ax⟩ fun ac ag ae ab aa=> ?_);obtain ⟨e0,e1,e4,e5⟩:=aa.k4 e0 e1 e4 e5;have e6:=aa.V 0;replace r9:=aa.z1 9;refine wp_block ?_;refine wp_loop (fun a_ w_=>∃(k:Nat) (u:Value) (ts:List Tr) (τ:Nat→aP),(k≤xs.length)∧
      (ts.map er=ic kind ((xs.take k).map er))∧
      St (Nw w) w 35 a_ w_ τ∧
      aT a_ 5=u∧
      aT a_ 6=(aj (k:Int))∧
      aT a_ 0=(aj kind)∧
      aT a_ 1=v∧
      aT a_ 4=(.slice none 0 0)∧
      dX oM 25 ts (τ 5) u w_∧
      Fz (ny (Gn F w) ts) τ w_∧
      Fz (ny (Gn F w) xs) τ w_) (fun a_ _=>xs.length - (intOf (aT a_ 6)).toNat) ?_ ?_
 · refine ⟨0,(.slice none 0 0),[],ae,?_,?_,ab,e5,(e6.trans (bk (by omega))),e0,e1,e4,?_,?_,r9⟩
   · omega
   · simp [ic]
   · exact dX.nil _ _ _ _
   · exact Fz.tn _ _ _
 intro a4 w4 hI;obtain ⟨k,u,ts,τ4,q0,q1,st4,e5,e6,e0,e1,e4,r5,r6,r9⟩:=hI;have hw:=FT (xs:=xs) (k:=k);have hrm:=ws q1;have hew:=(ef (nth xs (k:Int))).1;have m6:=e6;refine wp_seq ?_;refine wp_seq (lu [0,0,2,7] st4 [jo r5,jz 6 r6,jz 9 r9] ⟨ao e6,ao e1,am fun c=>de rfl aJ (c.q 1) ((⟨hS,fun t_ h_=>(hF t_ h_).s⟩:TlS w v xs).at st4.ext).sl.sl,am fun c=>dj rfl (c.q 0) (c.q 2),ax⟩ fun ac ag ae ab aa=> ?_);obtain ⟨e0,e1,e4,e5,e6⟩:=aa.k5 e0 e1 e4 e5 e6;have e10:=aa.V 3;replace r5:=aa.O 5;obtain ⟨r6,r9⟩:=aa.z2 6 9;refine wp_cond_split e10 (fun hc1=> ?_) (fun hc1=> ?_)
 · try simp only [ai] at hc1
   refine wp_skip ?_;refine wp_seq ?_;refine wp_block ?_;refine wp_seq (su [0,0,3,7,15,0,63] ab [jo r5,jz 6 r6,jz 9 r9] ⟨ao e1,ao e6,am fun c=>aM rfl aJ ak (c.q 0) ((⟨hS,fun t_ h_=>(hF t_ h_).s⟩:TlS w v xs).at ab.ext).sl.sl (c.q 1) (by omega) (by omega),br aq au 2 rfl,am fun c=>aA rfl aC (c.q 3) ((((⟨hS,fun t_ h_=>(hF t_ h_).s⟩:TlS w v xs).at (ab.ext.trans c.J.ext)).sl).elem (j:=0) (bz (i:=(k:Int)) (by omega) (by omega)) rfl),ao e0,am fun c=>bW rfl (c.q 4) (c.q 5),ax⟩ fun ac ag ae ab aa=> ?_);obtain ⟨e0,e1,e4,e5,e6,e10⟩:=aa.k6 e0 e1 e4 e5 e6 e10;have e19:=aa.V 6;replace r5:=aa.O 5;obtain ⟨r6,r9⟩:=aa.z2 6 9;refine wp_cond_split e19 (fun hc2=> ?_) (fun hc2=> ?_)
   · try simp only [ai] at hc2
     refine rg [_,_,_,_,_,_,own _ _ _ 5 26 _,own _ _ _ 5 5 _] [0,0,0,6,14,30,63,127] ab [jo r5,jz 6 r6,jz 9 r9] ⟨ao e5,ao e1,ao e6,am fun c=>aM rfl aJ ak (c.q 1) ((⟨hS,fun t_ h_=>(hF t_ h_).s⟩:TlS w v xs).at ab.ext).sl.sl (c.q 2) (by omega) (by omega),br aq bC 3 rfl,am fun c=>aA rfl bV (c.q 4) ((((⟨hS,fun t_ h_=>(hF t_ h_).s⟩:TlS w v xs).at (ab.ext.trans c.J.ext)).sl).elem (j:=7) (bz (i:=(k:Int)) (by omega) (by omega)) rfl),eT (t0:=5) rfl rfl rfl rfl aJ (i:=Tryz.t25) rfl rfl rfl rfl (by simp only [maxLen];(try simp);omega) (by show _ * 104≤_;(try simp);omega) (fun _ _ _ _ c=>⟨c.ip 5 rfl e5,c.sm (c.n 0 rfl) e5,⟨_,(c.n 5 rfl),(((⟨hS,fun t_ h_=>(hF t_ h_).s⟩:TlS w v xs).at (ab.ext.trans c.J.ext)).el (by omega) (by omega)).tl.sl⟩⟩),dH (t0:=26) rfl rfl rfl rfl rfl (.inr rfl) (fun _ _ _ _ c=>⟨c.ro 6 rfl,rfl⟩),ax⟩ fun ac ag ae ab aa=> ?_;obtain ⟨b7x5,e5⟩:=gx ac 5;obtain ⟨e0,e1,e4,e6,e10,e19⟩:=aa.k6 e0 e1 e4 e6 e10 e19;replace r5:=aa.ro 7 e5 rfl;obtain ⟨r6,r9⟩:=aa.z2 6 9;show _;refine eJ ab [jo r5,jz 6 r6,jz 9 r9] ⟨ao e6,am fun c=>cV rfl (c.q 0) rfl (by omega),aF 1,ax⟩ fun ac ag ae ab aa=> ?_;obtain ⟨e0,e1,e4,e5,e10,e19⟩:=aa.k6 e0 e1 e4 e5 e10 e19;have e6:=aa.V 2;replace r5:=aa.O 5;obtain ⟨r6,r9⟩:=aa.z2 6 9;refine ⟨⟨k+1,b7x5,ts++((nth xs (k:Int)).kids),ae,?_,?_,ab,e5,(e6.trans (bk (by omega))),e0,e1,e4,?_,?_,r9⟩,?_⟩
     · omega
     · first | exact uL (by omega) q1 rfl (by assumption) rfl | exact sC (by omega) q1 rfl (by assumption)
     · exact r5.cast (by rfl)
     · exact Fz.app r6 (r9.e (by omega) (by omega)).kl
     · simp only [m6,e6,intOf];omega
   try simp only [ah] at hc2
   refine rg [_,_,_,_,_,own oM 25 _ 0 32 ([(nth xs (k:Int))]),own _ _ _ 5 33 _,own _ _ _ 5 5 _] [0,0,0,6,14,30,63,127] ab [jo r5,jz 6 r6,jz 9 r9] ⟨ao e5,ao e1,ao e6,am fun c=>aM rfl aJ ak (c.q 1) ((⟨hS,fun t_ h_=>(hF t_ h_).s⟩:TlS w v xs).at ab.ext).sl.sl (c.q 2) (by omega) (by omega),am fun c=>cT (vs:=(tc (nth xs (k:Int)))) rfl aD ak (c.q 3) rfl (fun _ _ hj=>(((⟨hS,fun t_ h_=>(hF t_ h_).s⟩:TlS w v xs).at (ab.ext.trans c.J.ext)).sl).elem (bz (i:=(k:Int)) (by omega) (by omega)) hj),dm (cells:=#[(aj ((nth xs (k:Int)).k)),(aR ((nth xs (k:Int)).ch)),(az ((nth xs (k:Int)).ng)),(nth xs (k:Int)).rv.v,(aj ((nth xs (k:Int)).mn)),(aj ((nth xs (k:Int)).mx)),(az ((nth xs (k:Int)).lz)),(nth xs (k:Int)).kv.v]) rfl rfl rfl rfl aJ ak aN rfl (by decide) (by decide) (fun _ _ _ _ c=>gD (c.n 4 rfl) (by kernel_rfl)) rfl,eT (t0:=5) rfl rfl rfl rfl aJ (i:=Tryz.t25) rfl rfl rfl rfl (by simp only [maxLen];(try simp);omega) (by show _ * 104≤_;(try simp);omega) (fun _ _ _ _ c=>⟨c.ip 5 rfl e5,c.sm (c.n 0 rfl) e5,⟨_,rfl,(c.ro 5 rfl).1.sl⟩⟩),dH (t0:=33) rfl rfl rfl rfl rfl (.inr rfl) (fun _ _ _ _ c=>⟨c.ro 6 rfl,rfl⟩),ax⟩ fun ac ag ae ab aa=> ?_;obtain ⟨b9x32,e32⟩:=gx ac 32;obtain ⟨b9x5,e5⟩:=gx ac 5;obtain ⟨e0,e1,e4,e6,e10,e19⟩:=aa.k6 e0 e1 e4 e6 e10 e19;have r0:=aa.ro 5 e32 rfl;replace r5:=aa.ro 7 e5 rfl;obtain ⟨r6,r9⟩:=aa.z2 6 9;show _;refine eJ ab [jo r0,jo r5,jz 6 r6,jz 9 r9] ⟨ao e6,am fun c=>cV rfl (c.q 0) rfl (by omega),aF 1,ax⟩ fun ac ag ae ab aa=> ?_;obtain ⟨e0,e1,e4,e5,e10,e19⟩:=aa.k6 e0 e1 e4 e5 e10 e19;have e6:=aa.V 2;replace r0:=aa.O 0;replace r5:=aa.O 5;obtain ⟨r6,r9⟩:=aa.z2 6 9;refine ⟨⟨k+1,b9x5,ts++ [(nth xs (k:Int))],ae,?_,?_,ab,e5,(e6.trans (bk (by omega))),e0,e1,e4,?_,?_,r9⟩,?_⟩
   · omega
   · first | exact uL (by omega) q1 rfl (by assumption) rfl | exact sC (by omega) q1 rfl (by assumption)
   · exact r5.cast (by rfl)
   · exact Fz.snoc r6 (r9.e (by omega) (by omega))
   · simp only [m6,e6,intOf];omega
 try simp only [ah,aX] at hc1
 refine wp_exit ?_;repeat (with_reducible refine cq ?_)
 refine cy ?_;refine wp_seq (ew ab [jo r5,jz 6 r6,jz 9 r9] ⟨ao e5,aF 0,ax⟩ fun ac ag ae ab aa=> ?_);have e4:=aa.V 1;replace r5:=aa.O 5;obtain ⟨r6,r9⟩:=aa.z2 6 9;refine wp_ret ?_;refine rp ?_;refine cJ (fn:=Tryz.f81) rfl ab.defers e4 ?_;rw [bB (by omega)] at q1;exact ⟨_,ts,rfl,ab.ext0,⟨r5.1,fun g_ h_=>(ab.bnd _ g_ (r5.2 g_ h_)).1⟩,r6.outo (i:=5) r5.2,q1⟩
set_option maxRecDepth 100000 in
theorem Ax (F:aP) (v:Value) (xs:List Tr) (w:World) (hS:SlT oM w v xs) (hF:∀t ∈ xs,TrT F w t) (hP:di (xs.map fD)≤1000000):Calls Tryz.prog 60 #[v] w (fun e w'=>∃t':Tr,e= .returned t'.v∧Ext aY w w'∧TrT (Gn F w) w' t'∧er t'=lg (xs.map er)):=by
 refine enter (n:=14) Tryz.func60 rfl rfl (av rfl) ?_;intro a0 τ0 ha st0;have e0:=nh ha;have hle:=hS.le;have r9:Fz (ny (Gn F w) xs) τ0 w:=TrT.inzs hF st0;refine wp_seq (rg [box _ _ 0 2 [(aj 0),(aR (⟨#[]⟩:ByteArray)),(az false),(.slice none 0 0),(aj 0),(aj 0),(az false),(.slice none 0 0)]] [0] st0 [jz 9 r9] ⟨ct rfl rfl rfl rfl aN rfl,ax⟩ fun ac ag ae ab aa=> ?_);obtain ⟨b1x2,e2⟩:=gx ac 2;replace e0:=aa.k1 e0;have r0:=aa.rb 0 e2 rfl;replace r9:=aa.z1 9;refine wp_seq ?_;refine be ?_;refine cF 2 (by kernel_rfl) ?_;refine og [_,Ck oM 25 _ 1 5 (fun b:List Tr=>b) (fun b:List Tr=>b.map er=ic 0 (xs.map er)) (fun b:List Tr=>ny (Gn F w) b)] [0,1] ab [jb r0,jz 9 r9] ⟨ao e0,DS (xs:=fun b:List Tr=>b) (Ψ:=fun b:List Tr=>b.map er=ic 0 (xs.map er)) (Φ:=fun b:List Tr=>ny (Gn F w) b) fun {_ a_ _ _} c=>⟨_,_,(co rfl rfl Tryz.call81 rfl (c.q 0)),(Aw _ 0 v xs _ (zl (c.iz 9 rfl) ((⟨hS,fun t_ h_=>(hF t_ h_).s⟩:TlS w v xs).at (ab.ext.trans c.J.ext)).sl).sl (c.iz 9 rfl) (by omega)).mono (fun e w' ⟨v_,ts_,he_,hx_,ho_,ht_,hq_⟩=>⟨v_,ts_,he_,hx_,ho_,hq_,c.tzo (tag:=1) ab hx_ ho_ ht_⟩)⟩,ax⟩ fun ac ag ae ab aa=> ?_;obtain ⟨b2x5,e5⟩:=gx ac 5;replace e2:=aa.k1 e2;obtain ⟨ts1_,hro2,hqts1_,hz2⟩:=aa.zo 1 e5 rfl;replace r0:=aa.B 0;have r1:=hro2;replace r9:=aa.z1 9;have r2:=hz2;refine cG ?_;refine og [_] [0] ab [jb r0,jo r1,jz 2 r2,jz 9 r9] ⟨pW e5,ax⟩ fun ac ag ae ab aa=> ?_;replace e2:=aa.k1 e2;have e3:=aa.V 0;replace r0:=aa.B 0;replace r1:=aa.O 1;obtain ⟨r2,r9⟩:=aa.z2 2 9;obtain ⟨kv0,rfl⟩:=r1.isSl.sv;refine wp_seq ?_;refine wp_seq (eJ ab [jb r0,jo r1,jz 2 r2,jz 9 r9] ⟨ao e3,am fun c=>de rfl aJ (c.q 0) r1.isSl,am fun c=>bW rfl (c.q 1) rfl,ax⟩ fun ac ag ae ab aa=> ?_);obtain ⟨e2,e3⟩:=aa.k2 e2 e3;have e8:=aa.V 2;replace r0:=aa.B 0;replace r1:=aa.O 1;obtain ⟨r2,r9⟩:=aa.z2 2 9;refine wp_cond_split e8 (fun hc1=> ?_) (fun hc1=> ?_)
 · try simp only [ai] at hc1
   refine wp_seq (yk ab [jb r0,jo r1,jz 2 r2,jz 9 r9] ⟨ao e3,am fun c=>aM rfl aJ ak (c.q 0) r1.isSl rfl (by omega) (by omega),am fun c=>cT (vs:=(tc (nth ts1_ 0))) rfl aD ak (c.q 1) rfl (fun _ _ hj=>((c.io 1 rfl).1.sl).elem (bz (i:=0) (by omega) (by omega)) hj),cj (cx:=(tc (nth ts1_ 0))) (off:=0) ak fun c=>⟨c.bp 0 rfl e2,c.ad ((c.p e2).trans r0.ptr) e2 rfl,(c.q 2)⟩,ax⟩ fun ac ag ae ab aa=> ?_);obtain ⟨e2,e3⟩:=aa.k2 e2 e3;replace r0:=aa.RB 3 e2;replace r1:=aa.O 1;obtain ⟨r2,r9⟩:=aa.z2 2 9;refine wp_ret ?_;refine rp ?_;refine qR (fn:=Tryz.f60) rfl ab.defers e2 r0 aD ak rfl ?_;exact ⟨_,rfl,ab.ext0,(r2.e (by omega) (by omega)).out,Cv hqts1_ (by omega)⟩
 try simp only [ah] at hc1
 refine wp_skip ?_;refine wp_seq (eJ ab [jb r0,jo r1,jz 2 r2,jz 9 r9] ⟨ao e3,am fun c=>fX (cells:=#[(aj 0),(aR (⟨#[]⟩:ByteArray)),(az false),(.slice none 0 0),(aj 0),(aj 0),(az false),kv0.v]) rfl aN (hY rfl (c.n 0 rfl) rfl),cj (cx:=[(aj 0),(aR (⟨#[]⟩:ByteArray)),(az false),(.slice none 0 0),(aj 0),(aj 0),(az false),kv0.v]) (off:=0) ak fun c=>⟨c.bp 0 rfl e2,c.ad ((c.p e2).trans r0.ptr) e2 rfl,(c.q 1)⟩,ax⟩ fun ac ag ae ab aa=> ?_);replace e2:=aa.k1 e2;replace r0:=aa.RB 2 e2;replace r1:=aa.O 1;obtain ⟨r2,r9⟩:=aa.z2 2 9;refine wp_ret ?_;refine rp ?_;refine qR (fn:=Tryz.f60) rfl ab.defers e2 r0 aD ak rfl ?_;exact ⟨⟨0,⟨#[]⟩,false,Sv.nil,[],0,0,false,kv0,ts1_⟩,rfl,ab.ext0,zX r1 (fun g h=> .inr (ab.bnd _ _ h).1) r2.outs,by rw [DY];exact zU hqts1_ (by omega)⟩
set_option maxRecDepth 100000 in
theorem Ay (F:aP) (v:Value) (xs:List Tr) (w:World) (hS:SlT oM w v xs) (hF:∀t ∈ xs,TrT F w t) (hP:di (xs.map fD)≤1000000):Calls Tryz.prog 62 #[v] w (fun e w'=>∃t':Tr,e= .returned t'.v∧Ext aY w w'∧TrT (Gn F w) w' t'∧er t'=md (xs.map er)):=by
 refine enter (n:=18) Tryz.func62 rfl rfl (av rfl) ?_;intro a0 τ0 ha st0;have e0:=nh ha;have hle:=hS.le;have r9:Fz (ny (Gn F w) xs) τ0 w:=TrT.inzs hF st0;refine wp_seq (rg [box _ _ 0 2 [(aj 0),(aR (⟨#[]⟩:ByteArray)),(az false),(.slice none 0 0),(aj 0),(aj 0),(az false),(.slice none 0 0)]] [0] st0 [jz 9 r9] ⟨ct rfl rfl rfl rfl aN rfl,ax⟩ fun ac ag ae ab aa=> ?_);obtain ⟨b1x2,e2⟩:=gx ac 2;replace e0:=aa.k1 e0;have r0:=aa.rb 0 e2 rfl;replace r9:=aa.z1 9;refine wp_seq ?_;refine be ?_;refine cF 2 (by kernel_rfl) ?_;refine og [_,Ck oM 25 _ 1 5 (fun b:List Tr=>b) (fun b:List Tr=>b.map er=ic 1 (xs.map er)) (fun b:List Tr=>ny (Gn F w) b)] [0,1] ab [jb r0,jz 9 r9] ⟨ao e0,DS (xs:=fun b:List Tr=>b) (Ψ:=fun b:List Tr=>b.map er=ic 1 (xs.map er)) (Φ:=fun b:List Tr=>ny (Gn F w) b) fun {_ a_ _ _} c=>⟨_,_,(co rfl rfl Tryz.call81 rfl (c.q 0)),(Aw _ 1 v xs _ (zl (c.iz 9 rfl) ((⟨hS,fun t_ h_=>(hF t_ h_).s⟩:TlS w v xs).at (ab.ext.trans c.J.ext)).sl).sl (c.iz 9 rfl) (by omega)).mono (fun e w' ⟨v_,ts_,he_,hx_,ho_,ht_,hq_⟩=>⟨v_,ts_,he_,hx_,ho_,hq_,c.tzo (tag:=1) ab hx_ ho_ ht_⟩)⟩,ax⟩ fun ac ag ae ab aa=> ?_;obtain ⟨b2x5,e5⟩:=gx ac 5;replace e2:=aa.k1 e2;obtain ⟨ts1_,hro2,hqts1_,hz2⟩:=aa.zo 1 e5 rfl;replace r0:=aa.B 0;have r1:=hro2;replace r9:=aa.z1 9;have r2:=hz2;refine cG ?_;refine og [_] [0] ab [jb r0,jo r1,jz 2 r2,jz 9 r9] ⟨pW e5,ax⟩ fun ac ag ae ab aa=> ?_;replace e2:=aa.k1 e2;have e3:=aa.V 0;replace r0:=aa.B 0;replace r1:=aa.O 1;obtain ⟨r2,r9⟩:=aa.z2 2 9;obtain ⟨kv0,rfl⟩:=r1.isSl.sv;refine wp_seq ?_;refine wp_seq (eJ ab [jb r0,jo r1,jz 2 r2,jz 9 r9] ⟨ao e3,am fun c=>de rfl aJ (c.q 0) r1.isSl,am fun c=>bW rfl (c.q 1) rfl,ax⟩ fun ac ag ae ab aa=> ?_);obtain ⟨e2,e3⟩:=aa.k2 e2 e3;have e8:=aa.V 2;replace r0:=aa.B 0;replace r1:=aa.O 1;obtain ⟨r2,r9⟩:=aa.z2 2 9;refine wp_cond_split e8 (fun hc1=> ?_) (fun hc1=> ?_)
 · try simp only [ai] at hc1
   refine wp_seq (ew ab [jb r0,jo r1,jz 2 r2,jz 9 r9] ⟨am fun c=>fX (cells:=#[(aj 0),(aR (⟨#[]⟩:ByteArray)),(az false),(.slice none 0 0),(aj 0),(aj 0),(az false),(.slice none 0 0)]) rfl aN (gD rfl rfl),cj (cx:=[(aj 0),(aR (⟨#[]⟩:ByteArray)),(az false),(.slice none 0 0),(aj 0),(aj 0),(az false),(.slice none 0 0)]) (off:=0) ak fun c=>⟨c.bp 0 rfl e2,c.ad ((c.p e2).trans r0.ptr) e2 rfl,(c.q 0)⟩,ax⟩ fun ac ag ae ab aa=> ?_);obtain ⟨e2,e3⟩:=aa.k2 e2 e3;replace r0:=aa.RB 1 e2;replace r1:=aa.O 1;obtain ⟨r2,r9⟩:=aa.z2 2 9;refine wp_ret ?_;refine rp ?_;refine qR (fn:=Tryz.f62) rfl ab.defers e2 r0 aD ak rfl ?_;exact ⟨ni 0 [],rfl,ab.ext0,fE _ _ _ _ _ _ _ _,zV hqts1_ (by omega)⟩
 try simp only [ah] at hc1
 refine wp_skip ?_;refine wp_seq ?_;refine wp_seq (eJ ab [jb r0,jo r1,jz 2 r2,jz 9 r9] ⟨ao e3,am fun c=>de rfl aJ (c.q 0) r1.isSl,am fun c=>bW rfl (c.q 1) rfl,ax⟩ fun ac ag ae ab aa=> ?_);obtain ⟨e2,e3⟩:=aa.k2 e2 e3;have e12:=aa.V 2;replace r0:=aa.B 0;replace r1:=aa.O 1;obtain ⟨r2,r9⟩:=aa.z2 2 9;refine wp_cond_split e12 (fun hc2=> ?_) (fun hc2=> ?_)
 · try simp only [ai] at hc2
   refine wp_seq (yk ab [jb r0,jo r1,jz 2 r2,jz 9 r9] ⟨ao e3,am fun c=>aM rfl aJ ak (c.q 0) r1.isSl rfl (by omega) (by omega),am fun c=>cT (vs:=(tc (nth ts1_ 0))) rfl aD ak (c.q 1) rfl (fun _ _ hj=>((c.io 1 rfl).1.sl).elem (bz (i:=0) (by omega) (by omega)) hj),cj (cx:=(tc (nth ts1_ 0))) (off:=0) ak fun c=>⟨c.bp 0 rfl e2,c.ad ((c.p e2).trans r0.ptr) e2 rfl,(c.q 2)⟩,ax⟩ fun ac ag ae ab aa=> ?_);obtain ⟨e2,e3⟩:=aa.k2 e2 e3;replace r0:=aa.RB 3 e2;replace r1:=aa.O 1;obtain ⟨r2,r9⟩:=aa.z2 2 9;refine wp_ret ?_;refine rp ?_;refine qR (fn:=Tryz.f62) rfl ab.defers e2 r0 aD ak rfl ?_;exact ⟨_,rfl,ab.ext0,(r2.e (by omega) (by omega)).out,Cw hqts1_ (by omega)⟩
 try simp only [ah] at hc2
 refine wp_skip ?_;refine wp_seq (eJ ab [jb r0,jo r1,jz 2 r2,jz 9 r9] ⟨ao e3,am fun c=>fX (cells:=#[(aj 1),(aR (⟨#[]⟩:ByteArray)),(az false),(.slice none 0 0),(aj 0),(aj 0),(az false),kv0.v]) rfl aN (hY rfl (c.n 0 rfl) rfl),cj (cx:=[(aj 1),(aR (⟨#[]⟩:ByteArray)),(az false),(.slice none 0 0),(aj 0),(aj 0),(az false),kv0.v]) (off:=0) ak fun c=>⟨c.bp 0 rfl e2,c.ad ((c.p e2).trans r0.ptr) e2 rfl,(c.q 1)⟩,ax⟩ fun ac ag ae ab aa=> ?_);replace e2:=aa.k1 e2;replace r0:=aa.RB 2 e2;replace r1:=aa.O 1;obtain ⟨r2,r9⟩:=aa.z2 2 9;refine wp_ret ?_;refine rp ?_;refine qR (fn:=Tryz.f62) rfl ab.defers e2 r0 aD ak rfl ?_;exact ⟨⟨1,⟨#[]⟩,false,Sv.nil,[],0,0,false,kv0,ts1_⟩,rfl,ab.ext0,zX r1 (fun g h=> .inr (ab.bnd _ _ h).1) r2.outs,by rw [DY];exact zW hqts1_ (by omega) (by omega)⟩
end
section
open Go.RowKit
open Srt
set_option maxRecDepth 100000 in
theorem CN (t:Tr) (p:Addr) (v:Value) (ks:List Int) (w:World) (hc:w.cell? p=some v) (hS:SlT gh w v ks):Calls Tryz.prog 125 #[(ta t),(.pointer (some p))] w (fun e w'=>e= .returned (az (ks.any fun y=>decide (t.k=y)))∧Ext aY w w'):=by
 refine enter (n:=8) Tryz.func125 rfl rfl (av rfl) ?_;intro a0 τ0 ha st0;have e0:aT a0 0=(ta t):=ha 0 _ rfl;have e1:aT a0 1=(.pointer (some p)):=ha 1 _ rfl;clear ha;refine wp_seq (rg [box _ _ 0 2 (tc t),_] [0,0] st0 [] ⟨fl (v:=(ta t)) rfl rfl rfl rfl rfl (fun _ _ _ _ c=>(c.p e0)),am fun c=>ar rfl rfl,ax⟩ fun ac ag ae ab aa=> ?_);obtain ⟨b1x2,e2⟩:=gx ac 2;replace e1:=aa.k1 e1;have e3:=aa.V 1;have r0:=aa.rb 0 e2 rfl;refine wp_seq (yl [0,0,2,7,15] ab [jb r0] ⟨am fun c=>aA rfl ej (c.p e1) ((ab.ext.trans c.J.ext).cellAt hc),cc aq au e2 r0.ptr,dJ aC 1 0 0,dQ fun c=>⟨_,_,(co rfl rfl Tryz.call126 (c.q 0) (c.q 2)),Av v ks t.k _ (hS.at (ab.ext.trans c.J.ext))⟩,aF 3,ax⟩ fun ac ag ae ab aa=> ?_);have e3:=aa.V 4;refine wp_ret ?_;refine rp ?_;refine cJ (fn:=Tryz.f125) rfl ab.defers e3 ?_;exact ⟨rfl,ab.ext0⟩
set_option maxRecDepth 100000 in
theorem EJ (v cap:Value) (ts:List Tr) (q:Tr→Bool) (w:World) (hf:∀t ∈ ts,∀w2:World,Ext aY w w2→Calls Tryz.prog 125 #[t.v,cap] w2 (fun e w3=>e= .returned (az (q t))∧Ext aY w2 w3)) (hS:SlT oM w v ts):Calls Tryz.prog 142 #[v,(.func (.func 125) #[] #[cap])] w (fun e w'=>e= .returned (aj (DX q ts))∧Ext aY w w'):=by
 refine enter (n:=19) Tryz.func142 rfl rfl (av rfl) ?_;intro a0 τ0 ha st0;obtain ⟨e0,e1⟩:=qm ha;have hle:=hS.le;refine wp_seq (ex st0 [] ⟨am fun c=>ar rfl rfl,ax⟩ fun ac ag ae ab aa=> ?_);obtain ⟨e0,e1⟩:=aa.k2 e0 e1;have e4:=aa.V 0;refine wp_seq ?_;refine wp_seq (zp [0,1,0] ab [] ⟨ao e0,am fun c=>de rfl aJ (c.q 0) hS.sl,am fun c=>aI rfl rfl,ax⟩ fun a2 w2 τ2 st2 f2=> ?_);obtain ⟨e0,e1,e4⟩:=f2.k3 e0 e1 e4;have e7:=f2.V 1;have e8:=f2.V 2;refine wp_block ?_;refine wp_loop (fun a_ w_=>∃(k:Nat) (τ:Nat→aP),(k≤ts.length)∧
      (∀y ∈ ts.take k,q y=false)∧
      St (Nw w) w 19 a_ w_ τ∧
      aT a_ 8=(aj (k:Int))∧
      aT a_ 0=v∧
      aT a_ 1=(.func (.func 125) #[] #[cap])∧
      aT a_ 7=(aj (ts.length:Int))) (fun a_ _=>ts.length - (intOf (aT a_ 8)).toNat) ?_ ?_
 · refine ⟨0,τ2,?_,?_,st2,(e8.trans (bk (by omega))),e0,e1,e7⟩
   · omega
   · simp
 intro a3 w3 hI;obtain ⟨k,τ3,q0,q1,st3,e8,e0,e1,e7⟩:=hI;have m8:=e8;refine wp_seq (ex st3 [] ⟨am fun c=>dj rfl (c.p e8) (c.p e7),ax⟩ fun ac ag ae ab aa=> ?_);obtain ⟨e0,e1,e7,e8⟩:=aa.k4 e0 e1 e7 e8;have e9:=aa.V 0;refine wp_seq ?_;refine wp_cond_split e9 (fun hc1=> ?_) (fun hc1=> ?_)
 · try simp only [ai] at hc1
   refine wp_skip ?_;refine wp_seq ?_;refine wp_block ?_;refine wp_seq (ew ab [] ⟨ao e8,aF 0,ax⟩ fun ac ag ae ab aa=> ?_);obtain ⟨e0,e1,e7,e8,e9⟩:=aa.k5 e0 e1 e7 e8 e9;have e5:=aa.V 1;refine wp_seq (Cl [0,0,0,6,14,31] ab [] ⟨ao e1,ao e0,ao e5,am fun c=>aM rfl aJ ak (c.q 1) hS.sl (c.q 2) (by omega) (by omega),am fun c=>cT (vs:=(tc (nth ts (k:Int)))) rfl aD ak (c.q 3) rfl (fun _ _ hj=>(hS.at (ab.ext.trans c.J.ext)).elem (bz (i:=(k:Int)) (by omega) (by omega)) hj),dQ fun c=>⟨_,_,(zJ rfl (c.q 0) Tryz.call125 (c.q 4)),hf _ (cP (by omega) (by omega)) _ (ab.ext.trans c.J.ext).fresh⟩,ax⟩ fun ac ag ae ab aa=> ?_);obtain ⟨e0,e1,e5,e7,e8,e9⟩:=aa.k6 e0 e1 e5 e7 e8 e9;have e16:=aa.V 5;refine wp_cond_split e16 (fun hc2=> ?_) (fun hc2=> ?_)
   · have hd2:=hc2;skip;refine wp_seq (ew ab [] ⟨ao e5,aF 0,ax⟩ fun ac ag ae ab aa=> ?_);obtain ⟨e0,e1,e5,e7,e8,e9,e16⟩:=aa.k7 e0 e1 e5 e7 e8 e9 e16;have e4:=aa.V 1;refine wp_ret ?_;refine rp ?_;refine cJ (fn:=Tryz.f142) rfl ab.defers e4 ?_;exact ⟨congrArg _ (bk (by first | exact (tG (f:=q) (by omega) q1 (by assumption)).symm | exact (qv (f:=q) (k:=k) (by omega) q1).symm)),ab.ext0⟩
   have hd2:=hc2;skip;refine wp_skip ?_;show _;refine ew ab [] ⟨am fun c=>cV rfl (c.p e8) rfl (by omega),bm 0,ax⟩ fun ac ag ae ab aa=> ?_;obtain ⟨e0,e1,e5,e7,e9,e16⟩:=aa.k6 e0 e1 e5 e7 e9 e16;have e8:=aa.V 1;refine ⟨⟨k+1,ae,?_,?_,ab,(e8.trans (bk (by omega))),e0,e1,e7⟩,?_⟩
   · omega
   · exact qw (f:=q) (by omega) q1 (by assumption)
   · simp only [m8,e8,intOf];omega
 try simp only [ah,aX] at hc1
 refine wp_exit ?_;repeat (with_reducible refine cq ?_)
 refine cy ?_;refine wp_seq (ex ab [] ⟨am fun c=>ar rfl rfl,ax⟩ fun ac ag ae ab aa=> ?_);have e4:=aa.V 0;refine wp_ret ?_;refine rp ?_;refine cJ (fn:=Tryz.f142) rfl ab.defers e4 ?_;exact ⟨congrArg _ (bk (by first | exact (tG (f:=q) (by omega) q1 (by assumption)).symm | exact (qv (f:=q) (k:=k) (by omega) q1).symm)),ab.ext0⟩
set_option maxRecDepth 100000 in
theorem CO (v cap:Value) (ts:List Tr) (q:Tr→Bool) (w:World) (hf:∀t ∈ ts,∀w2:World,Ext aY w w2→Calls Tryz.prog 125 #[t.v,cap] w2 (fun e w3=>e= .returned (az (q t))∧Ext aY w2 w3)) (hS:SlT oM w v ts):Calls Tryz.prog 124 #[v,(.func (.func 125) #[] #[cap])] w (fun e w'=>e= .returned (az (ts.any q))∧Ext aY w w'):=by
 refine enter (n:=9) Tryz.func124 rfl rfl (av rfl) ?_;intro a0 τ0 ha st0;obtain ⟨e0,e1⟩:=qm ha;have hle:=hS.le;refine wp_seq (ex st0 [] ⟨am fun c=>ar rfl rfl,ax⟩ fun ac ag ae ab aa=> ?_);obtain ⟨e0,e1⟩:=aa.k2 e0 e1;have e4:=aa.V 0;refine wp_seq (yl [0,0,3,7,15] ab [] ⟨ao e0,ao e1,dQ fun c=>⟨_,_,(co rfl rfl Tryz.call142 (c.q 0) (c.q 1)),EJ v cap ts q _ (fun t_ h_ w2_ he_=>hf t_ h_ w2_ ((ab.ext.trans c.J.ext).fresh.trans he_)) (hS.at (ab.ext.trans c.J.ext))⟩,am fun c=>gH rfl (c.q 2) rfl,aF 3,ax⟩ fun a2 w2 τ2 st2 f2=> ?_);have e4:=f2.V 4;refine wp_ret ?_;refine rp ?_;refine cJ (fn:=Tryz.f124) rfl st2.defers e4 ?_;exact ⟨congrArg _ (congrArg _ (zS _ _)),st2.ext0⟩
set_option maxRecDepth 100000 in
theorem EK (v:Value) (u:Sv) (ts:List Tr) (ks:List Int) (w:World) (hS:SlT oM w v ts) (hU:SlT gh w u.v ks):Calls Tryz.prog 102 #[v,u.v] w (fun e w'=>e= .returned (az (ts.any fun x=>ks.any fun y=>decide (x.k=y)))∧Ext aY w w'):=by
 refine enter (n:=8) Tryz.func102 rfl rfl (av rfl) ?_;intro a0 τ0 ha st0;obtain ⟨e0,e1⟩:=qm ha;have hle:=hS.le;refine wp_seq (rg [box _ _ 0 3 [u.v],_] [0,0] st0 [] ⟨fl (v:=u.v) rfl rfl rfl rfl rfl (fun _ _ _ _ c=>(c.p e1)),am fun c=>ar rfl rfl,ax⟩ fun ac ag ae ab aa=> ?_);obtain ⟨b1x3,e3⟩:=gx ac 3;replace e0:=aa.k1 e0;have e4:=aa.V 1;have r0:=aa.rb 0 e3 rfl;refine wp_seq ?_;refine lu [0,0,3,7] ab [jb r0] ⟨ao e0,am fun c=>pU rfl (c.p e3),dQ fun c=>⟨_,_,(co rfl rfl Tryz.call124 (c.q 0) (c.q 1)),CO v b1x3 ts (fun x_=>(ks).any fun y_=>decide (x_.k=y_)) _ (fun t_ _ w2_ he_=>by rw [(c.ib 0 rfl).ptr];exact CN t_ _ u.v ks w2_ (he_.cell_some ((c.ib 0 rfl).cell (j:=0) rfl) (fun h=>h)) ((hU.at (ab.ext.trans c.J.ext)).keep he_ (fun _ h=>h))) (hS.at (ab.ext.trans c.J.ext))⟩,aF 2,ax⟩ fun ac ag ae ab aa=> ?_;have e4:=aa.V 3;refine wp_ret ?_;refine rp ?_;refine cJ (fn:=Tryz.f102) rfl ab.defers e4 ?_;exact ⟨rfl,ab.ext0⟩
end
section
open Go.RowKit
open Srt
theorem xB (v u:Value) (ts:List Tr) (ks:List Int) (w:World) (hS:SlT oM w v ts) (hU:SlT gh w u ks):Calls Tryz.prog 102 #[v,u] w (fun e w'=>e= .returned (.bool (ts.any fun x=>ks.any fun y=>decide (x.k=y)))∧Ext aY w w'):=by
  obtain ⟨s,rfl⟩:=hU.sl.sv;exact EK v s ts ks w hS hU
theorem rK {t:Tr} (h:fD t≤1000000):pa t.rows:=fun r hr=>by
  have h1:=Cu hr;have h2:=lh t;have h3:0≤di (t.kids.map fD):=iA fun x hx=>by
    obtain ⟨k,hk,rfl⟩:=List.mem_map.1 hx;have:=lF k;omega
  omega
def oo (t:Tr) (ks:List Int):Bool:=(t.kids).any fun x_=>ks.any fun y_=>decide (x_.k=y_)
def ln (t:Tr):Bool:=jH t.ch t.ng t.rows t.mn t.mx t.lz
def cB (t:Tr):Bool:=
  if t.k=2 then (jH (⟨#[]⟩:ByteArray) t.ng t.rows t.mn t.mx t.lz&&decide ((t.kids.length:Int)=0))&&eb t.ch
  else if t.k=4 then (jH t.ch false [] t.mn t.mx t.lz&&decide ((t.kids.length:Int)=0))&&lS t.rows
  else if t.k=7 then ((((jH t.ch t.ng t.rows 0 0 false&&decide ((t.kids.length:Int)=1))&&oJ (nth t.kids 0).k)&&decide (0≤t.mn))&&decide (t.mn≤255))&&(decide (t.mx= -1) || (decide (t.mn≤t.mx)&&decide (t.mx≤255)))
  else if t.k=0 then (ln t&& !decide ((t.kids.length:Int)=1))&& !oo t [0,1]
  else if t.k=1 then (ln t&&decide (1 < (t.kids.length:Int)))&& !oo t [1]
  else if t.k=5∨t.k=6 then ln t&&decide ((t.kids.length:Int)=1)
  else if t.k=3∨t.k=8∨t.k=9∨t.k=10∨t.k=11 then ln t&&decide ((t.kids.length:Int)=0)
  else false
set_option maxRecDepth 100000 in
theorem vc (t:Tr) (w:World) (hT:mb w t) (hP:fD t≤1000000):Calls Tryz.prog 77 #[(ta t)] w (fun e w'=>e= .returned (az (cB t))∧Ext aY w w'):=by
 refine enter (n:=149) Tryz.func77 rfl rfl (av rfl) ?_;intro a0 τ0 ha st0;have e0:aT a0 0=(ta t):=ha 0 _ rfl;clear ha;have hle:=hT.kids.le;have hle2:=hT.rows.le;have hwt:=ef t;have hsm:=rK hP;refine wp_seq (rg [box _ _ 0 1 (tc t),_] [0,0] st0 [] ⟨fl (v:=(ta t)) rfl rfl rfl rfl rfl (fun _ _ _ _ c=>(c.p e0)),am fun c=>ar rfl rfl,ax⟩ fun ac ag ae ab aa=> ?_);obtain ⟨b1x1,e1⟩:=gx ac 1;have e2:=aa.V 1;have r0:=aa.rb 0 e1 rfl;refine wp_seq ?_;refine wp_seq (ew ab [jb r0] ⟨cc aq au e1 r0.ptr,dJ aC 0 0 0,ax⟩ fun ac ag ae ab aa=> ?_);obtain ⟨e1,e2⟩:=aa.k2 e1 e2;have e8:=aa.V 1;replace r0:=aa.B 0;refine wp_block ?_;refine wp_seq (ew ab [jb r0] ⟨am fun c=>bW rfl (c.p e8) rfl,aF 0,ax⟩ fun ac ag ae ab aa=> ?_);obtain ⟨e1,e2,e8⟩:=aa.k3 e1 e2 e8;have e9:=aa.V 1;replace r0:=aa.B 0;refine wp_cond_split e9 (fun hc1=> ?_) (fun hc1=> ?_)
 · try simp only [ai] at hc1
   refine wp_seq (eJ ab [jb r0] ⟨cc aq bc e1 r0.ptr,dJ bG 0 0 1,aF 1,ax⟩ fun ac ag ae ab aa=> ?_);obtain ⟨e1,e2,e8⟩:=aa.k3 e1 e2 e8;have e3:=aa.V 2;replace r0:=aa.B 0;refine wp_seq (ew ab [jb r0] ⟨cc aq bc e1 r0.ptr,cj (cx:=[(aj t.k),(aR (⟨#[]⟩:ByteArray)),(az t.ng),t.rv.v,(aj t.mn),(aj t.mx),(az t.lz),t.kv.v]) (v:=(aR (⟨#[]⟩:ByteArray))) bc fun c=>⟨c.bp 0 rfl e1,c.ad (c.q 0) e1 rfl,rfl⟩,ax⟩ fun ac ag ae ab aa=> ?_);obtain ⟨e1,e2,e3,e8⟩:=aa.k4 e1 e2 e3 e8;replace r0:=aa.RB 1 e1;refine wp_seq ?_;refine rg [_,_,_,_,_,_,_,_,_,_,_,_,_] [0,1,3,7,15,31,63,127,255,511,1023,2047,4095] ab [jb r0] ⟨am fun c=>ea rfl aD ak ((c.p e1).trans r0.ptr) (c.B 0),dQ fun c=>⟨_,_,(bj rfl rfl gd (c.q 0)),kI t.k (⟨#[]⟩:ByteArray) t.ng t.rv.v t.rows t.mn t.mx t.lz t.kv.v rfl _ (hT.at (ab.ext.trans c.J.ext)).rows⟩,bm 1,aE 2 rfl fun c hpc=>cO rfl aq bC ((c.p e1).trans r0.ptr),aE 2 rfl fun c hpc=>aA rfl bV (c.M 3 hpc) ((c.B 0).cell (j:=7) rfl),aE 2 rfl fun c hpc=>de rfl aJ (c.M 4 hpc) (hT.at ab.ext).tl.sl.sl,aE 2 rfl fun c hpc=>bW rfl (c.M 5 hpc) rfl,bL 2 6,bm 7,aE 8 rfl fun c hpc=>aI rfl (c.p e3),fq 8 true rfl fun c hpc=>⟨_,_,(bj rfl rfl Tryz.call29 (c.M 9 hpc)),rH t.ch _ (by have hq0:=hpc;(try simp only [aw,ai] at hq0);omega)⟩,bL 8 10,aF 11,ax⟩ fun ac ag ae ab aa=> ?_;obtain ⟨e1,e8⟩:=aa.k2 e1 e8;have e2:=aa.V 12;replace r0:=aa.B 0;refine wp_ret ?_;refine rp ?_;refine cJ (fn:=Tryz.f77) rfl ab.defers e2 ?_;exact ⟨congrArg _ (congrArg _ (by unfold cB;(repeat (first | rw [if_neg (by omega)] | rw [if_pos (by omega)]));(try rfl))),ab.ext0⟩
 try simp only [ah] at hc1
 refine wp_seq (ew ab [jb r0] ⟨am fun c=>bW rfl (c.p e8) rfl,aF 0,ax⟩ fun ac ag ae ab aa=> ?_);obtain ⟨e1,e2,e8⟩:=aa.k3 e1 e2 e8;have e26:=aa.V 1;replace r0:=aa.B 0;refine wp_cond_split e26 (fun hc2=> ?_) (fun hc2=> ?_)
 · try simp only [ai] at hc2
   refine wp_seq (eJ ab [jb r0] ⟨cc aq eW e1 r0.ptr,dJ jP 0 0 3,aF 1,ax⟩ fun ac ag ae ab aa=> ?_);obtain ⟨e1,e2,e8⟩:=aa.k3 e1 e2 e8;have e4:=aa.V 2;replace r0:=aa.B 0;refine wp_seq ?_;refine be ?_;refine cF 3 (by kernel_rfl) ?_;refine og [_,_,_] [0,1,3] ab [jb r0] ⟨cc aq eW e1 r0.ptr,cj (cx:=[(aj t.k),(aR t.ch),(az t.ng),(.slice none 0 0),(aj t.mn),(aj t.mx),(az t.lz),t.kv.v]) (v:=(.slice none 0 0)) eW fun c=>⟨c.bp 0 rfl e1,c.ad (c.q 0) e1 rfl,rfl⟩,cc aq ba e1 r0.ptr,ax⟩ fun ac ag ae ab aa=> ?_;obtain ⟨e1,e2,e4,e8⟩:=aa.k4 e1 e2 e4 e8;have e31:=aa.V 2;replace r0:=aa.RB 1 e1;refine cG ?_;refine og [_] [0] ab [jb r0] ⟨cj (cx:=[(aj t.k),(aR t.ch),(az false),(.slice none 0 0),(aj t.mn),(aj t.mx),(az t.lz),t.kv.v]) (v:=(az false)) ba fun c=>⟨c.bp 0 rfl e1,c.ad (c.p e31) e1 rfl,rfl⟩,ax⟩ fun ac ag ae ab aa=> ?_;obtain ⟨e1,e2,e4,e8⟩:=aa.k4 e1 e2 e4 e8;replace r0:=aa.RB 0 e1;refine wp_seq ?_;refine rg [_,_,_,_,_,_,_,_,_,_,_,_,_] [0,1,3,7,15,31,63,127,255,511,1023,2047,4095] ab [jb r0] ⟨am fun c=>ea rfl aD ak ((c.p e1).trans r0.ptr) (c.B 0),dQ fun c=>⟨_,_,(bj rfl rfl gd (c.q 0)),kI t.k t.ch false (.slice none 0 0) [] t.mn t.mx t.lz t.kv.v rfl _ (SlT.nil _ _)⟩,bm 1,aE 2 rfl fun c hpc=>cO rfl aq bC ((c.p e1).trans r0.ptr),aE 2 rfl fun c hpc=>aA rfl bV (c.M 3 hpc) ((c.B 0).cell (j:=7) rfl),aE 2 rfl fun c hpc=>de rfl aJ (c.M 4 hpc) (hT.at ab.ext).tl.sl.sl,aE 2 rfl fun c hpc=>bW rfl (c.M 5 hpc) rfl,bL 2 6,bm 7,aE 8 rfl fun c hpc=>aI rfl (c.p e4),fq 8 true rfl fun c hpc=>⟨_,_,(bj rfl rfl Tryz.call100 (c.M 9 hpc)),EI t.rv.v t.rows _ (hT.at (ab.ext.trans c.J.ext)).rows (by first | assumption | (unfold pa;decide)) (by have hq0:=hpc;(try simp only [aw,ai] at hq0);omega)⟩,bL 8 10,aF 11,ax⟩ fun ac ag ae ab aa=> ?_;obtain ⟨e1,e8⟩:=aa.k2 e1 e8;have e2:=aa.V 12;replace r0:=aa.B 0;refine wp_ret ?_;refine rp ?_;refine cJ (fn:=Tryz.f77) rfl ab.defers e2 ?_;exact ⟨congrArg _ (congrArg _ (by unfold cB;(repeat (first | rw [if_neg (by omega)] | rw [if_pos (by omega)]));(try rfl))),ab.ext0⟩
 try simp only [ah] at hc2
 refine wp_seq (ew ab [jb r0] ⟨am fun c=>bW rfl (c.p e8) rfl,aF 0,ax⟩ fun ac ag ae ab aa=> ?_);obtain ⟨e1,e2,e8⟩:=aa.k3 e1 e2 e8;have e44:=aa.V 1;replace r0:=aa.B 0;refine wp_cond_split e44 (fun hc3=> ?_) (fun hc3=> ?_)
 · try simp only [ai] at hc3
   refine wp_seq (Cl [0,1,0,4,3,31] ab [jb r0] ⟨cc aq au e1 r0.ptr,dJ aC 0 0 4,cc aq au e1 r0.ptr,dJ aC 2 0 5,aF 1,aF 3,ax⟩ fun ac ag ae ab aa=> ?_);obtain ⟨e1,e2,e8⟩:=aa.k3 e1 e2 e8;have e5:=aa.V 4;have e6:=aa.V 5;replace r0:=aa.B 0;refine wp_seq ?_;refine be ?_;refine cF 3 (by kernel_rfl) ?_;refine og [_,_,_] [0,1,3] ab [jb r0] ⟨cc aq au e1 r0.ptr,cj (cx:=[(aj t.k),(aR t.ch),(az t.ng),t.rv.v,(aj 0),(aj t.mx),(az t.lz),t.kv.v]) (v:=(aj 0)) au fun c=>⟨c.bp 0 rfl e1,c.ad (c.q 0) e1 rfl,rfl⟩,cc aq au e1 r0.ptr,ax⟩ fun ac ag ae ab aa=> ?_;obtain ⟨e1,e2,e5,e6,e8⟩:=aa.k5 e1 e2 e5 e6 e8;have e51:=aa.V 2;replace r0:=aa.RB 1 e1;refine cG ?_;refine cF 2 (by kernel_rfl) ?_;refine og [_,_] [0,1] ab [jb r0] ⟨cj (cx:=[(aj t.k),(aR t.ch),(az t.ng),t.rv.v,(aj 0),(aj 0),(az t.lz),t.kv.v]) (v:=(aj 0)) au fun c=>⟨c.bp 0 rfl e1,c.ad (c.p e51) e1 rfl,rfl⟩,cc aq ba e1 r0.ptr,ax⟩ fun ac ag ae ab aa=> ?_;obtain ⟨e1,e2,e5,e6,e8⟩:=aa.k5 e1 e2 e5 e6 e8;have e52:=aa.V 1;replace r0:=aa.RB 0 e1;refine cG ?_;refine og [_] [0] ab [jb r0] ⟨cj (cx:=[(aj t.k),(aR t.ch),(az t.ng),t.rv.v,(aj 0),(aj 0),(az false),t.kv.v]) (v:=(az false)) ba fun c=>⟨c.bp 0 rfl e1,c.ad (c.p e52) e1 rfl,rfl⟩,ax⟩ fun ac ag ae ab aa=> ?_;obtain ⟨e1,e2,e5,e6,e8⟩:=aa.k5 e1 e2 e5 e6 e8;replace r0:=aa.RB 0 e1;refine wp_seq ?_;refine rg [_,_,_,_,_,_,_,_,_,_,_,_,_,_,_,_,_,_,_,_,_,_,_,_,_,_,_,_,_,_,_,_,_,_,_,_,_,_] [0,1,3,7,15,31,63,127,255,511,1023,2047,4095,8191,16383,32767,65535,131071,262143,524287,1048575,2097151,4194303,8388607,16777215,33554431,67108863,134217727,268435455,268435455,1073741823,2147483647,4294967295,8589934591,17179869183,34359738367,68719476735,137438953471] ab [jb r0] ⟨am fun c=>ea rfl aD ak ((c.p e1).trans r0.ptr) (c.B 0),dQ fun c=>⟨_,_,(bj rfl rfl gd (c.q 0)),kI t.k t.ch t.ng t.rv.v t.rows 0 0 false t.kv.v rfl _ (hT.at (ab.ext.trans c.J.ext)).rows⟩,bm 1,aE 2 rfl fun c hpc=>cO rfl aq bC ((c.p e1).trans r0.ptr),aE 2 rfl fun c hpc=>aA rfl bV (c.M 3 hpc) ((c.B 0).cell (j:=7) rfl),aE 2 rfl fun c hpc=>de rfl aJ (c.M 4 hpc) (hT.at ab.ext).tl.sl.sl,aE 2 rfl fun c hpc=>bW rfl (c.M 5 hpc) rfl,bL 2 6,bm 7,aE 8 rfl fun c hpc=>cO rfl aq bC ((c.p e1).trans r0.ptr),aE 8 rfl fun c hpc=>aA rfl bV (c.M 9 hpc) ((c.B 0).cell (j:=7) rfl),aE 8 rfl fun c hpc=>aM rfl aJ ak (c.M 10 hpc) (hT.at ab.ext).tl.sl.sl rfl (by have hq0:=hpc;(try simp only [aw,ai] at hq0);omega) (by have hq0:=hpc;(try simp only [aw,ai] at hq0);omega),aE 8 rfl fun c hpc=>cO rfl aq au (c.M 11 hpc),aE 8 rfl fun c hpc=>aA rfl aC (c.M 12 hpc) (((hT.at (ab.ext.trans c.J.ext)).tl.sl).elem (j:=0) (bz (i:=0) (by have hq0:=hpc;(try simp only [aw,ai] at hq0);omega) (by have hq0:=hpc;(try simp only [aw,ai] at hq0);omega)) rfl),fq 8 true rfl fun c hpc=>⟨_,_,(bj rfl rfl Tryz.call101 (c.M 13 hpc)),wr ((nth t.kids 0).k) _⟩,bL 8 14,bm 15,aE 16 rfl fun c hpc=>aI rfl (c.p e5),aE 16 rfl fun c hpc=>gH rfl (c.M 17 hpc) rfl,bL 16 18,bm 19,aE 20 rfl fun c hpc=>aI rfl (c.p e5),aE 20 rfl fun c hpc=>jZ rfl (c.M 21 hpc) rfl,bL 20 22,bm 23,aE 24 rfl fun c hpc=>aI rfl (c.p e6),aE 24 rfl fun c hpc=>bW rfl (c.M 25 hpc) rfl,aE 24 rfl fun c hpc=>aI rfl (c.M 26 hpc),cH 27 false rfl fun c hpc=>aI rfl (c.p e6),cH 27 false rfl fun c hpc=>aI rfl (c.p e5),cH 27 false rfl fun c hpc=>gH rfl (c.M 28 hpc) (c.M 29 hpc),cH 27 false rfl fun c hpc=>aI rfl (c.M 30 hpc),cH 31 true rfl fun c hpc=>aI rfl (c.p e6),cH 31 true rfl fun c hpc=>jZ rfl (c.M 32 hpc) rfl,cH 27 false rfl fun c hpc=>ly rfl (c.M 31 hpc) (fun h=>c.m 33 rfl (And.intro hpc h)),aE 24 rfl fun c hpc=>pA rfl (c.M 27 hpc) (fun h=>c.m 34 rfl (And.intro hpc h)),bL 24 35,aF 36,ax⟩ fun ac ag ae ab aa=> ?_;obtain ⟨e1,e8⟩:=aa.k2 e1 e8;have e2:=aa.V 37;replace r0:=aa.B 0;refine wp_ret ?_;refine rp ?_;refine cJ (fn:=Tryz.f77) rfl ab.defers e2 ?_;exact ⟨congrArg _ (congrArg _ (by unfold cB;(repeat (first | rw [if_neg (by omega)] | rw [if_pos (by omega)]));(try rfl))),ab.ext0⟩
 try simp only [ah] at hc3
 refine wp_seq (ew ab [jb r0] ⟨am fun c=>bW rfl (c.p e8) rfl,aF 0,ax⟩ fun ac ag ae ab aa=> ?_);obtain ⟨e1,e2,e8⟩:=aa.k3 e1 e2 e8;have e90:=aa.V 1;replace r0:=aa.B 0;refine wp_cond_split e90 (fun hc4=> ?_) (fun hc4=> ?_)
 · try simp only [ai] at hc4
   refine wp_seq (rg [_,_,_,_,_,_,_,_,_,_,_,gown (((jH t.ch t.ng t.rows t.mn t.mx t.lz)&&(!decide ((t.kids.length:Int)=1)))=true) gh 3 (Nw w) 1 103 ([0,1]),_,_,_,_] [0,1,3,7,15,31,63,127,255,511,1023,511,4095,8191,16383,32767] ab [jb r0] ⟨am fun c=>ea rfl aD ak ((c.p e1).trans r0.ptr) (c.B 0),dQ fun c=>⟨_,_,(bj rfl rfl gd (c.q 0)),kI t.k t.ch t.ng t.rv.v t.rows t.mn t.mx t.lz t.kv.v rfl _ (hT.at (ab.ext.trans c.J.ext)).rows⟩,bm 1,aE 2 rfl fun c hpc=>cO rfl aq bC ((c.p e1).trans r0.ptr),aE 2 rfl fun c hpc=>aA rfl bV (c.M 3 hpc) ((c.B 0).cell (j:=7) rfl),aE 2 rfl fun c hpc=>de rfl aJ (c.M 4 hpc) (hT.at ab.ext).tl.sl.sl,aE 2 rfl fun c hpc=>ka rfl (c.M 5 hpc) rfl,bL 2 6,bm 7,aE 8 rfl fun c hpc=>cO rfl aq bC ((c.p e1).trans r0.ptr),aE 8 rfl fun c hpc=>aA rfl bV (c.M 9 hpc) ((c.B 0).cell (j:=7) rfl),tA (gi:=8) (tg:=100) rfl rfl rfl rfl rfl rfl Iff.rfl (fun hpc=>dm (cells:=#[(aj 0),(aj 1)]) rfl rfl rfl rfl ca au gq rfl (by decide) (by decide) (fun _ _ _ _ c=>hY rfl rfl (by kernel_rfl)) rfl),fq 8 true rfl fun c hpc=>⟨_,_,(co rfl rfl Tryz.call102 (c.M 10 hpc) (qJ _ 103)),xB t.kv.v _ t.kids [0,1] _ (hT.at (ab.ext.trans c.J.ext)).tl.sl (c.rg 11 rfl hpc).1.sl⟩,aE 8 rfl fun c hpc=>dS rfl (c.M 12 hpc),bL 8 13,aF 14,ax⟩ fun ac ag ae ab aa=> ?_);obtain ⟨e1,e8⟩:=aa.k2 e1 e8;have e2:=aa.V 15;replace r0:=aa.B 0;refine wp_ret ?_;refine rp ?_;refine cJ (fn:=Tryz.f77) rfl ab.defers e2 ?_;exact ⟨congrArg _ (congrArg _ (by unfold cB;(repeat (first | rw [if_neg (by omega)] | rw [if_pos (by omega)]));(try rfl))),ab.ext0⟩
 try simp only [ah] at hc4
 refine wp_seq (ew ab [jb r0] ⟨am fun c=>bW rfl (c.p e8) rfl,aF 0,ax⟩ fun ac ag ae ab aa=> ?_);obtain ⟨e1,e2,e8⟩:=aa.k3 e1 e2 e8;have e107:=aa.V 1;replace r0:=aa.B 0;refine wp_cond_split e107 (fun hc5=> ?_) (fun hc5=> ?_)
 · try simp only [ai] at hc5
   refine wp_seq (rg [_,_,_,_,_,_,_,_,_,_,_,gown (((jH t.ch t.ng t.rows t.mn t.mx t.lz)&&(decide (1 < (t.kids.length:Int))))=true) gh 3 (Nw w) 1 120 ([1]),_,_,_,_] [0,1,3,7,15,31,63,127,255,511,1023,511,4095,8191,16383,32767] ab [jb r0] ⟨am fun c=>ea rfl aD ak ((c.p e1).trans r0.ptr) (c.B 0),dQ fun c=>⟨_,_,(bj rfl rfl gd (c.q 0)),kI t.k t.ch t.ng t.rv.v t.rows t.mn t.mx t.lz t.kv.v rfl _ (hT.at (ab.ext.trans c.J.ext)).rows⟩,bm 1,aE 2 rfl fun c hpc=>cO rfl aq bC ((c.p e1).trans r0.ptr),aE 2 rfl fun c hpc=>aA rfl bV (c.M 3 hpc) ((c.B 0).cell (j:=7) rfl),aE 2 rfl fun c hpc=>de rfl aJ (c.M 4 hpc) (hT.at ab.ext).tl.sl.sl,aE 2 rfl fun c hpc=>iP rfl (c.M 5 hpc) rfl,bL 2 6,bm 7,aE 8 rfl fun c hpc=>cO rfl aq bC ((c.p e1).trans r0.ptr),aE 8 rfl fun c hpc=>aA rfl bV (c.M 9 hpc) ((c.B 0).cell (j:=7) rfl),tA (gi:=8) (tg:=117) rfl rfl rfl rfl rfl rfl Iff.rfl (fun hpc=>dm (cells:=#[(aj 1)]) rfl rfl rfl rfl ca au gq rfl (by decide) (by decide) (fun _ _ _ _ c=>gD rfl (by kernel_rfl)) rfl),fq 8 true rfl fun c hpc=>⟨_,_,(co rfl rfl Tryz.call102 (c.M 10 hpc) (qJ _ 120)),xB t.kv.v _ t.kids [1] _ (hT.at (ab.ext.trans c.J.ext)).tl.sl (c.rg 11 rfl hpc).1.sl⟩,aE 8 rfl fun c hpc=>dS rfl (c.M 12 hpc),bL 8 13,aF 14,ax⟩ fun ac ag ae ab aa=> ?_);obtain ⟨e1,e8⟩:=aa.k2 e1 e8;have e2:=aa.V 15;replace r0:=aa.B 0;refine wp_ret ?_;refine rp ?_;refine cJ (fn:=Tryz.f77) rfl ab.defers e2 ?_;exact ⟨congrArg _ (congrArg _ (by unfold cB;(repeat (first | rw [if_neg (by omega)] | rw [if_pos (by omega)]));(try rfl))),ab.ext0⟩
 try simp only [ah] at hc5
 refine wp_seq ?_;refine wp_seq (ew ab [jb r0] ⟨am fun c=>bW rfl (c.p e8) rfl,aF 0,ax⟩ fun ac ag ae ab aa=> ?_);obtain ⟨e1,e2,e8⟩:=aa.k3 e1 e2 e8;have e124:=aa.V 1;replace r0:=aa.B 0;refine wp_cond_split e124 (fun hc6=> ?_) (fun hc6=> ?_)
 · have hd6:=hc6;try simp only [ai] at hd6
   refine wp_skip ?_;refine wp_cond_true (e124.trans (congrArg _ hc6)) ?_;refine wp_seq (qU [0,1,3,7,15,31,63,127,255] ab [jb r0] ⟨am fun c=>ea rfl aD ak ((c.p e1).trans r0.ptr) (c.B 0),dQ fun c=>⟨_,_,(bj rfl rfl gd (c.q 0)),kI t.k t.ch t.ng t.rv.v t.rows t.mn t.mx t.lz t.kv.v rfl _ (hT.at (ab.ext.trans c.J.ext)).rows⟩,bm 1,aE 2 rfl fun c hpc=>cO rfl aq bC ((c.p e1).trans r0.ptr),aE 2 rfl fun c hpc=>aA rfl bV (c.M 3 hpc) ((c.B 0).cell (j:=7) rfl),aE 2 rfl fun c hpc=>de rfl aJ (c.M 4 hpc) (hT.at ab.ext).tl.sl.sl,aE 2 rfl fun c hpc=>bW rfl (c.M 5 hpc) rfl,bL 2 6,aF 7,ax⟩ fun ac ag ae ab aa=> ?_);obtain ⟨e1,e8⟩:=aa.k2 e1 e8;have e2:=aa.V 8;replace r0:=aa.B 0;refine wp_ret ?_;refine rp ?_;refine cJ (fn:=Tryz.f77) rfl ab.defers e2 ?_;exact ⟨congrArg _ (congrArg _ (by unfold cB;(repeat (first | rw [if_neg (by omega)] | rw [if_pos (by omega)]));(try rfl))),ab.ext0⟩
 have hd7:=hc6;try simp only [ah] at hd7
 refine ew ab [jb r0] ⟨am fun c=>bW rfl (c.p e8) rfl,aF 0,ax⟩ fun ac ag ae ab aa=> ?_;obtain ⟨e1,e2,e8⟩:=aa.k3 e1 e2 e8;have e124:=aa.V 1;replace r0:=aa.B 0;refine wp_cond_split e124 (fun hc8=> ?_) (fun hc8=> ?_)
 · have hd8:=hc8;try simp only [ai] at hd8
   refine wp_seq (qU [0,1,3,7,15,31,63,127,255] ab [jb r0] ⟨am fun c=>ea rfl aD ak ((c.p e1).trans r0.ptr) (c.B 0),dQ fun c=>⟨_,_,(bj rfl rfl gd (c.q 0)),kI t.k t.ch t.ng t.rv.v t.rows t.mn t.mx t.lz t.kv.v rfl _ (hT.at (ab.ext.trans c.J.ext)).rows⟩,bm 1,aE 2 rfl fun c hpc=>cO rfl aq bC ((c.p e1).trans r0.ptr),aE 2 rfl fun c hpc=>aA rfl bV (c.M 3 hpc) ((c.B 0).cell (j:=7) rfl),aE 2 rfl fun c hpc=>de rfl aJ (c.M 4 hpc) (hT.at ab.ext).tl.sl.sl,aE 2 rfl fun c hpc=>bW rfl (c.M 5 hpc) rfl,bL 2 6,aF 7,ax⟩ fun ac ag ae ab aa=> ?_);obtain ⟨e1,e8⟩:=aa.k2 e1 e8;have e2:=aa.V 8;replace r0:=aa.B 0;refine wp_ret ?_;refine rp ?_;refine cJ (fn:=Tryz.f77) rfl ab.defers e2 ?_;exact ⟨congrArg _ (congrArg _ (by unfold cB;(repeat (first | rw [if_neg (by omega)] | rw [if_pos (by omega)]));(try rfl))),ab.ext0⟩
 have hd8:=hc8;try simp only [ah] at hd8
 refine wp_seq ?_;refine wp_seq (ew ab [jb r0] ⟨am fun c=>bW rfl (c.p e8) rfl,aF 0,ax⟩ fun ac ag ae ab aa=> ?_);obtain ⟨e1,e2,e8⟩:=aa.k3 e1 e2 e8;have e135:=aa.V 1;replace r0:=aa.B 0;refine wp_cond_split e135 (fun hc9=> ?_) (fun hc9=> ?_)
 · have hd9:=hc9;try simp only [ai] at hd9
   refine wp_skip ?_;refine wp_cond_true (e135.trans (congrArg _ hc9)) ?_;refine wp_seq (qU [0,1,3,7,15,31,63,127,255] ab [jb r0] ⟨am fun c=>ea rfl aD ak ((c.p e1).trans r0.ptr) (c.B 0),dQ fun c=>⟨_,_,(bj rfl rfl gd (c.q 0)),kI t.k t.ch t.ng t.rv.v t.rows t.mn t.mx t.lz t.kv.v rfl _ (hT.at (ab.ext.trans c.J.ext)).rows⟩,bm 1,aE 2 rfl fun c hpc=>cO rfl aq bC ((c.p e1).trans r0.ptr),aE 2 rfl fun c hpc=>aA rfl bV (c.M 3 hpc) ((c.B 0).cell (j:=7) rfl),aE 2 rfl fun c hpc=>de rfl aJ (c.M 4 hpc) (hT.at ab.ext).tl.sl.sl,aE 2 rfl fun c hpc=>bW rfl (c.M 5 hpc) rfl,bL 2 6,aF 7,ax⟩ fun ac ag ae ab aa=> ?_);have e2:=aa.V 8;refine wp_ret ?_;refine rp ?_;refine cJ (fn:=Tryz.f77) rfl ab.defers e2 ?_;exact ⟨congrArg _ (congrArg _ (by unfold cB;(repeat (first | rw [if_neg (by omega)] | rw [if_pos (by omega)]));(try rfl))),ab.ext0⟩
 have hd10:=hc9;try simp only [ah] at hd10
 refine wp_seq (ew ab [jb r0] ⟨am fun c=>bW rfl (c.p e8) rfl,aF 0,ax⟩ fun ac ag ae ab aa=> ?_);obtain ⟨e1,e2,e8⟩:=aa.k3 e1 e2 e8;have e135:=aa.V 1;replace r0:=aa.B 0;refine wp_cond_split e135 (fun hc11=> ?_) (fun hc11=> ?_)
 · have hd11:=hc11;try simp only [ai] at hd11
   refine wp_skip ?_;refine wp_cond_true (e135.trans (congrArg _ hc11)) ?_;refine wp_seq (qU [0,1,3,7,15,31,63,127,255] ab [jb r0] ⟨am fun c=>ea rfl aD ak ((c.p e1).trans r0.ptr) (c.B 0),dQ fun c=>⟨_,_,(bj rfl rfl gd (c.q 0)),kI t.k t.ch t.ng t.rv.v t.rows t.mn t.mx t.lz t.kv.v rfl _ (hT.at (ab.ext.trans c.J.ext)).rows⟩,bm 1,aE 2 rfl fun c hpc=>cO rfl aq bC ((c.p e1).trans r0.ptr),aE 2 rfl fun c hpc=>aA rfl bV (c.M 3 hpc) ((c.B 0).cell (j:=7) rfl),aE 2 rfl fun c hpc=>de rfl aJ (c.M 4 hpc) (hT.at ab.ext).tl.sl.sl,aE 2 rfl fun c hpc=>bW rfl (c.M 5 hpc) rfl,bL 2 6,aF 7,ax⟩ fun ac ag ae ab aa=> ?_);have e2:=aa.V 8;refine wp_ret ?_;refine rp ?_;refine cJ (fn:=Tryz.f77) rfl ab.defers e2 ?_;exact ⟨congrArg _ (congrArg _ (by unfold cB;(repeat (first | rw [if_neg (by omega)] | rw [if_pos (by omega)]));(try rfl))),ab.ext0⟩
 have hd12:=hc11;try simp only [ah] at hd12
 refine wp_seq (ew ab [jb r0] ⟨am fun c=>bW rfl (c.p e8) rfl,aF 0,ax⟩ fun ac ag ae ab aa=> ?_);obtain ⟨e1,e2,e8⟩:=aa.k3 e1 e2 e8;have e135:=aa.V 1;replace r0:=aa.B 0;refine wp_cond_split e135 (fun hc13=> ?_) (fun hc13=> ?_)
 · have hd13:=hc13;try simp only [ai] at hd13
   refine wp_skip ?_;refine wp_cond_true (e135.trans (congrArg _ hc13)) ?_;refine wp_seq (qU [0,1,3,7,15,31,63,127,255] ab [jb r0] ⟨am fun c=>ea rfl aD ak ((c.p e1).trans r0.ptr) (c.B 0),dQ fun c=>⟨_,_,(bj rfl rfl gd (c.q 0)),kI t.k t.ch t.ng t.rv.v t.rows t.mn t.mx t.lz t.kv.v rfl _ (hT.at (ab.ext.trans c.J.ext)).rows⟩,bm 1,aE 2 rfl fun c hpc=>cO rfl aq bC ((c.p e1).trans r0.ptr),aE 2 rfl fun c hpc=>aA rfl bV (c.M 3 hpc) ((c.B 0).cell (j:=7) rfl),aE 2 rfl fun c hpc=>de rfl aJ (c.M 4 hpc) (hT.at ab.ext).tl.sl.sl,aE 2 rfl fun c hpc=>bW rfl (c.M 5 hpc) rfl,bL 2 6,aF 7,ax⟩ fun ac ag ae ab aa=> ?_);have e2:=aa.V 8;refine wp_ret ?_;refine rp ?_;refine cJ (fn:=Tryz.f77) rfl ab.defers e2 ?_;exact ⟨congrArg _ (congrArg _ (by unfold cB;(repeat (first | rw [if_neg (by omega)] | rw [if_pos (by omega)]));(try rfl))),ab.ext0⟩
 have hd14:=hc13;try simp only [ah] at hd14
 refine wp_seq (ew ab [jb r0] ⟨am fun c=>bW rfl (c.p e8) rfl,aF 0,ax⟩ fun ac ag ae ab aa=> ?_);obtain ⟨e1,e2,e8⟩:=aa.k3 e1 e2 e8;have e135:=aa.V 1;replace r0:=aa.B 0;refine wp_cond_split e135 (fun hc15=> ?_) (fun hc15=> ?_)
 · have hd15:=hc15;try simp only [ai] at hd15
   refine wp_skip ?_;refine wp_cond_true (e135.trans (congrArg _ hc15)) ?_;refine wp_seq (qU [0,1,3,7,15,31,63,127,255] ab [jb r0] ⟨am fun c=>ea rfl aD ak ((c.p e1).trans r0.ptr) (c.B 0),dQ fun c=>⟨_,_,(bj rfl rfl gd (c.q 0)),kI t.k t.ch t.ng t.rv.v t.rows t.mn t.mx t.lz t.kv.v rfl _ (hT.at (ab.ext.trans c.J.ext)).rows⟩,bm 1,aE 2 rfl fun c hpc=>cO rfl aq bC ((c.p e1).trans r0.ptr),aE 2 rfl fun c hpc=>aA rfl bV (c.M 3 hpc) ((c.B 0).cell (j:=7) rfl),aE 2 rfl fun c hpc=>de rfl aJ (c.M 4 hpc) (hT.at ab.ext).tl.sl.sl,aE 2 rfl fun c hpc=>bW rfl (c.M 5 hpc) rfl,bL 2 6,aF 7,ax⟩ fun ac ag ae ab aa=> ?_);have e2:=aa.V 8;refine wp_ret ?_;refine rp ?_;refine cJ (fn:=Tryz.f77) rfl ab.defers e2 ?_;exact ⟨congrArg _ (congrArg _ (by unfold cB;(repeat (first | rw [if_neg (by omega)] | rw [if_pos (by omega)]));(try rfl))),ab.ext0⟩
 have hd16:=hc15;try simp only [ah] at hd16
 refine ew ab [jb r0] ⟨am fun c=>bW rfl (c.p e8) rfl,aF 0,ax⟩ fun ac ag ae ab aa=> ?_;obtain ⟨e1,e2⟩:=aa.k2 e1 e2;have e135:=aa.V 1;replace r0:=aa.B 0;refine wp_cond_split e135 (fun hc17=> ?_) (fun hc17=> ?_)
 · have hd17:=hc17;try simp only [ai] at hd17
   refine wp_seq (qU [0,1,3,7,15,31,63,127,255] ab [jb r0] ⟨am fun c=>ea rfl aD ak ((c.p e1).trans r0.ptr) (c.B 0),dQ fun c=>⟨_,_,(bj rfl rfl gd (c.q 0)),kI t.k t.ch t.ng t.rv.v t.rows t.mn t.mx t.lz t.kv.v rfl _ (hT.at (ab.ext.trans c.J.ext)).rows⟩,bm 1,aE 2 rfl fun c hpc=>cO rfl aq bC ((c.p e1).trans r0.ptr),aE 2 rfl fun c hpc=>aA rfl bV (c.M 3 hpc) ((c.B 0).cell (j:=7) rfl),aE 2 rfl fun c hpc=>de rfl aJ (c.M 4 hpc) (hT.at ab.ext).tl.sl.sl,aE 2 rfl fun c hpc=>bW rfl (c.M 5 hpc) rfl,bL 2 6,aF 7,ax⟩ fun ac ag ae ab aa=> ?_);have e2:=aa.V 8;refine wp_ret ?_;refine rp ?_;refine cJ (fn:=Tryz.f77) rfl ab.defers e2 ?_;exact ⟨congrArg _ (congrArg _ (by unfold cB;(repeat (first | rw [if_neg (by omega)] | rw [if_pos (by omega)]));(try rfl))),ab.ext0⟩
 have hd17:=hc17;try simp only [ah] at hd17
 refine wp_skip ?_;show _;refine wp_seq (ex ab [jb r0] ⟨am fun c=>ar rfl rfl,ax⟩ fun ac ag ae ab aa=> ?_);have e2:=aa.V 0;refine wp_ret ?_;refine rp ?_;refine cJ (fn:=Tryz.f77) rfl ab.defers e2 ?_;exact ⟨congrArg _ (congrArg _ (by unfold cB;(repeat (first | rw [if_neg (by omega)] | rw [if_pos (by omega)]));(try rfl))),ab.ext0⟩
end
end B
end Go.Proofs.YtcfdebjhikahfaaGreat
