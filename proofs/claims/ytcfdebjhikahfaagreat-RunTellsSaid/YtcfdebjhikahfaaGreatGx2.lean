import Derived.Test.YtcfdebjhikahfaaGreatGx1
import Derived.Laws.CopyRow
import Derived.Laws.MakeOwn
set_option linter.unusedSimpArgs false
set_option linter.unusedVariables false
set_option linter.unusedSectionVars false
namespace Go.Proofs.YtcfdebjhikahfaaGreat
namespace B
section
open Go.RowKit
abbrev eY:=@Int.le_refl
abbrev dF:=@Int.not_le
abbrev jW:=@List.any_eq_false
abbrev mg:=@List.getElem_map
abbrev bO:=@List.length_replicate
abbrev iX:=@List.mem_of_mem_drop
abbrev dw:=@Nat.min_le_right
abbrev jI:=@Tryz.call74
abbrev kC:=@Tryz.call86
abbrev fN:=@Tryz.isAgg22
abbrev bS:=@Tryz.isAgg23
abbrev aD:=@Tryz.isAgg25
abbrev aC:=@Tryz.isAgg3
abbrev cu:=@Tryz.isAgg4
abbrev ep:=@Tryz.isAgg62
abbrev gY:=@Tryz.isAgg89
abbrev bD:=@Tryz.isAgg9
abbrev bM:=@Tryz.sizeOf89
abbrev aV:=@Tryz.underlying22
abbrev aI:=@Tryz.underlying23
abbrev bj:=@Tryz.underlying60
abbrev cb:=@Tryz.underlying62
abbrev ba:=@Tryz.underlying9
abbrev aO:=@Tryz.zeroValue25
abbrev cS:=@Tryz.zeroValue89
end
section
open Srt
theorem TlS.at {w w':World} {v:Value} {ts:List Tr} (h:TlS w v ts) (he:Ext (Nw w) w w'):TlS w' v ts:=
  ⟨h.sl.keep he fun hn hk=>(by have:=h.sl.lt hn;simp only [Nw] at hk;omega),fun t ht=>(h.all t ht).at he⟩
theorem cP {α:Type} [Inhabited α] {xs:List α} {i:Int} (h0:0≤i) (h1:i < xs.length):nth xs i ∈ xs:=by
  obtain ⟨k,rfl⟩:∃k:Nat,i=(k:Int):=⟨i.toNat,by omega⟩;exact gX (wv (by omega))
def cZ (xs:List Int):Int:=xs.foldl (· +·) 0
theorem eD (xs:List Int) (x:Int):cZ (xs++ [x])=cZ xs+x:=by simp [cZ]
theorem iJ {xs:List Int} (h:∀x ∈ xs,0≤x):0≤cZ xs:=by
  induction xs using fw with
  | h0 => exact eY _
  | h1 xs x ih =>
    rw [eD];have:=ih fun y hy=>h y (by simp [hy]);have:=h x (by simp);omega
theorem jc (xs ys:List Int):cZ (xs++ys)=cZ xs+cZ ys:=by
  induction ys using fw with
  | h0 => simp [cZ]
  | h1 ys y ih => rw [← fL, eD, ih, eD]; omega
theorem CS {xs:List Int} (h:∀x ∈ xs,0≤x) (k:Nat):0≤cZ (xs.take k)∧cZ (xs.take k)≤cZ xs:=by
  have h1:0≤cZ (xs.take k):=iJ fun x hx=>h x (List.mem_of_mem_take hx);have h2:0≤cZ (xs.drop k):=iJ fun x hx=>h x (iX hx);have h3:=jc (xs.take k) (xs.drop k);rw [fV] at h3;omega
theorem rl {xs:List Int} (h:∀x ∈ xs,0≤x) {x:Int} (hx:x ∈ xs):x≤cZ xs:=by
  obtain ⟨A,B,rfl⟩:=List.append_of_mem hx;rw [show A++x::B=(A++ [x])++B by simp,jc,eD];have h1:0≤cZ A:=iJ fun y hy=>h y (by simp [hy]);have h2:0≤cZ B:=iJ fun y hy=>h y (by simp [hy]);omega
section
variable {β:Type}
mutual
def ln (g:Tr→List β→β):Tr→β
  | ⟨k, ch, ng, rv, rows, mn, mx, lz, kv, kids⟩ => g ⟨k, ch, ng, rv, rows, mn, mx, lz, kv, kids⟩ (xB g kids)
def xB (g:Tr→List β→β):List Tr→List β
  | [] => []
  | t :: ts => ln g t :: xB g ts
end
theorem yM (g:Tr→List β→β) (ts:List Tr):xB g ts=ts.map (ln g):=by
  induction ts with
  | nil => rfl
  | cons t ts ih => rw [xB, ih]; rfl
theorem iK (g:Tr→List β→β) (t:Tr):ln g t=g t (t.kids.map (ln g)):=by cases t;simp [ln,yM]
theorem pe {g:Tr→List β→β} (hg:∀t l,g (er t) l=g t l) (t:Tr):ln g (er t)=ln g t:=by
  induction t using Tr.ind with
  | h t ih =>
    rw [iK,iK g t,mN,mB,hg];congr 1;exact js ih
end
def cm:Tr→Int:=ln fun _ l=>1+cZ l
theorem gJ (t:Tr):cm t=1+cZ (t.kids.map cm):=iK _ t
def oM (t:Tr):Bool:=decide (t.k=5) || decide (t.k=6)
def dB:Tr→Int:=ln fun t l=>(if t.k=5 then 1 else 0)+cZ l
theorem mS (t:Tr):dB t=(if t.k=5 then 1 else 0)+cZ (t.kids.map dB):=iK _ t
def kN (xs:List Int):Int:=xs.foldl max 0
theorem nW (xs:List Int) (x:Int):kN (xs++ [x])=max (kN xs) x:=by simp [kN]
def eH:Tr→Int:=ln fun t l=>kN l+if oM t=true then 1 else 0
theorem lp (t:Tr):eH t=kN (t.kids.map eH)+if oM t=true then 1 else 0:=iK _ t
theorem jd (t:Tr):1≤cm t:=by
  induction t using Tr.ind with
  | h t ih =>
    rw [gJ];have:0≤cZ (t.kids.map cm):=iJ fun x hx=>by
      obtain ⟨k,hk,rfl⟩:=List.mem_map.1 hx;have:=ih k hk;omega
    omega
theorem yN (t:Tr):(er t).k=t.k:=by cases t;rfl
theorem yO (t:Tr):cm (er t)=cm t:=pe (fun _ _=>rfl) t
theorem km (t:Tr):dB (er t)=dB t:=pe (fun t l=>by simp only [yN]) t
theorem nC (xs:List Int):0≤kN xs:=by
  induction xs using fw with
  | h0 => exact eY _
  | h1 xs x ih => rw [nW]; omega
theorem qB {xs:List Int} {n:Int} (h0:0≤n) (h:∀x ∈ xs,x≤n):kN xs≤n:=by
  induction xs using fw with
  | h0 => exact h0
  | h1 xs x ih =>
    rw [nW];have:=ih fun y hy=>h y (by simp [hy]);have:=h x (by simp);omega
theorem rm {xs:List Int} {x:Int} (h:x ∈ xs):x≤kN xs:=by
  induction xs using fw with
  | h0 => cases h
  | h1 xs y ih =>
    rw [nW];rcases List.mem_append.1 h with h | h
    · have:=ih h;omega
    · simp at h;subst h;omega
theorem nX {f:Tr→Int} {ts:List Tr} {k:Nat} (h:k < ts.length):kN ((ts.take (k+1)).map f)=max (kN ((ts.take k).map f)) (f (nth ts (k:Int))):=by
  rw [fi h,bT,bz,bU,nW]
theorem ia (t:Tr):0≤dB t∧dB t≤cm t:=by
  induction t using Tr.ind with
  | h t ih =>
    rw [mS,gJ];have h1:∀ks:List Tr,(∀k ∈ ks,0≤dB k∧dB k≤cm k)→0≤cZ (ks.map dB)∧cZ (ks.map dB)≤cZ (ks.map cm):=by
      intro ks;induction ks using fw with
      | h0 => intro _; exact ⟨eY _, eY _⟩
      | h1 ks x ih2 =>
        intro h;rw [bT,bT,bz,bU,bz,bU,eD,eD];have:=ih2 fun k hk=>h k (by simp [hk]);have:=h x (by simp);omega
    have:=h1 t.kids ih;split <;> omega
theorem qh (t:Tr):0≤eH t∧eH t≤cm t:=by
  induction t using Tr.ind with
  | h t ih =>
    rw [lp,gJ];have hp:∀k ∈ t.kids,0≤cm k:=fun k _=>by have:=jd k;omega
    have h0:=nC (t.kids.map eH);have h1:kN (t.kids.map eH)≤cZ (t.kids.map cm):=qB (iJ fun x hx=>by obtain ⟨k,hk,rfl⟩:=List.mem_map.1 hx;exact hp k hk) fun x hx=>by
      obtain ⟨k,hk,rfl⟩:=List.mem_map.1 hx;have:=(ih k hk).2;have:cm k≤cZ (t.kids.map cm):=rl (fun x hx=>by obtain ⟨k,hk,rfl⟩:=List.mem_map.1 hx;exact hp k hk) (List.mem_map.2 ⟨k,hk,rfl⟩);omega
    split <;> omega
def EA {α:Type} (f:α→Bool) (xs:List α):Int:=if xs.any f=true then ((xs.takeWhile fun y=> !f y).length:Int) else -1
theorem tQ {α:Type} [Inhabited α] {f:α→Bool} {xs:List α} {k:Nat} (h:k < xs.length) (hq:∀y ∈ xs.take k,f y=false) (hc:f (nth xs (k:Int))=true):EA f xs=(k:Int):=by
  unfold EA;rw [if_pos (List.any_eq_true.2 ⟨_,cP (by omega) (by omega),hc⟩)];have e:xs=xs.take k++nth xs (k:Int)::xs.drop (k+1):=by rw [←iN h,fV]
  have e2:xs.takeWhile (fun y=> !f y)=xs.take k:=by
    conv=>lhs;rw [e]
    rw [List.takeWhile_append_of_pos (fun y hy=>by rw [hq y hy];rfl),gw,if_neg (by rw [hc];decide),gT]
  rw [e2,dE];omega
theorem qC {α:Type} [Inhabited α] {f:α→Bool} {xs:List α} {k:Nat} (h:xs.length≤k) (hq:∀y ∈ xs.take k,f y=false):EA f xs= -1:=by
  rw [bF h] at hq;unfold EA;rw [if_neg];rw [List.any_eq_true]
  rintro ⟨y,hy,hf⟩
  rw [hq y hy] at hf;cases hf
theorem qD {α:Type} [Inhabited α] {f:α→Bool} {xs:List α} {k:Nat} (h:k < xs.length) (hq:∀y ∈ xs.take k,f y=false) (hc:f (nth xs (k:Int))=false):∀y ∈ xs.take (k+1),f y=false:=by
  rw [fi h];intro y hy;rcases List.mem_append.1 hy with hy | hy
  · exact hq y hy
  · simp at hy;rw [hy];exact hc
theorem Ao {α:Type} (f:α→Bool) (xs:List α):decide (0≤EA f xs)=xs.any f:=by
  unfold EA;cases xs.any f <;> simp
def ic:Int→List (ByteArray × ByteArray)→Option Int
  | n, [] => some n
  | n, r :: rs => if (decide (n ≤ (r.1.size : Int)) || decide (n ≤ (r.2.size : Int))) = true then none else ic (n - 1 - (r.1.size : Int) - (r.2.size : Int)) rs
def ph (t:Tr) (n:Int):Bool:=(decide (n≤(t.ch.size:Int)) || decide (n≤(t.rows.length:Int))) || decide (n≤(t.kids.length:Int))
def GV (l:List (Int→Int)) (n:Int):Int:=l.foldl (fun m g=>if m < 0 then m else g m) n
def uO:Tr→Int→Int:=ln fun t l n=>if ph t n=true then -1 else match ic (n - 1 - (t.ch.size:Int)) t.rows with
  | none => -1
  | some m => GV l m
def wj (ks:List Tr) (n:Int):Int:=GV (ks.map uO) n
theorem rn (t:Tr) (n:Int):uO t n=if ph t n=true then -1 else match ic (n - 1 - (t.ch.size:Int)) t.rows with
  | none => -1
  | some m => wj t.kids m := by
  have h:=congrFun (iK (fun t l n=>if ph t n=true then (-1:Int) else match ic (n - 1 - (t.ch.size:Int)) t.rows with
    | none => -1
    | some m => GV l m) t) n
  exact h
theorem pi (t:Tr) (ks:List Tr) (n:Int):wj (t::ks) n=wj ks (if n < 0 then n else uO t n):=rfl
theorem tS {ks:List Tr} {n:Int} (h:n < 0):wj ks n=n:=by
  induction ks with
  | nil => rfl
  | cons k ks ih => rw [pi, if_pos h, ih]
theorem tT {rs:List (ByteArray × ByteArray)} {n m M:Int} (h1: -M≤n) (h2:n≤M) (h:ic n rs=some m): -M≤m∧m≤n:=by
  induction rs generalizing n with
  | nil => simp [ic] at h; subst h; exact ⟨h1, eY _⟩
  | cons r rs ih =>
    rw [ic] at h;split at h
    · cases h
    · rename_i hc;simp only [aN,ai,not_or,dF] at hc;have:=ih (by omega) (by omega) h;omega
theorem yP (t:Tr):∀{n M:Int},1≤M→n≤M→ -M≤uO t n∧uO t n≤M:=by
  induction t using Tr.ind with
  | h t ih =>
    intro n M h1 h2;have hK:∀ks:List Tr,(∀k ∈ ks,k ∈ t.kids)→∀m,-M≤m→m≤M→ -M≤wj ks m∧wj ks m≤M:=by
      intro ks;induction ks with
      | nil => intro _ m a b; exact ⟨a, b⟩
      | cons k ks ih2 =>
        intro hm m a b;rw [pi];split
        · exact ih2 (fun x hx=>hm x (by simp [hx])) m a b
        · have:=ih k (hm k (by simp)) h1 b;exact ih2 (fun x hx=>hm x (by simp [hx])) _ this.1 this.2
    rw [rn];split
    · omega
    · rename_i hc;unfold ph at hc;simp only [aN,ai,not_or,dF] at hc;split
      · omega
      · rename_i m hm;have:=tT (M:=M) (by omega) (by omega) hm;exact hK t.kids (fun _ h=>h) m (by omega) (by omega)
theorem tU {t:Tr} {n:Int} (h:ph t n=true):uO t n= -1:=by rw [rn,if_pos h]
theorem tV {t:Tr} {n m:Int} {k:Nat} (h:ph t n=false) (hq:ic (n - 1 - (t.ch.size:Int)) t.rows=ic m (t.rows.drop k)) (hk:k < t.rows.length) (hc:(decide (m≤((nth t.rows (k:Int)).1.size:Int)) || decide (m≤((nth t.rows (k:Int)).2.size:Int)))=true):uO t n= -1:=by
  rw [rn,if_neg (by rw [h];decide),hq,iN hk,ic,if_pos hc]
theorem vf {t:Tr} {m:Int} {k:Nat} {x:Option Int} (hq:x=ic m (t.rows.drop k)) (hk:k < t.rows.length) (hc:(decide (m≤((nth t.rows (k:Int)).1.size:Int)) || decide (m≤((nth t.rows (k:Int)).2.size:Int)))=false):x=ic (m - 1 - ((nth t.rows (k:Int)).1.size:Int) - ((nth t.rows (k:Int)).2.size:Int)) (t.rows.drop (k+1)):=by
  rw [hq,iN hk,ic,if_neg (by rw [hc];decide)]
theorem tW {t:Tr} {n m l:Int} {k j:Nat} (h:ph t n=false) (hq:ic (n - 1 - (t.ch.size:Int)) t.rows=ic m (t.rows.drop k)) (hk:t.rows.length≤k) (hj:wj t.kids m=wj (t.kids.drop j) l) (hd:l < 0∨t.kids.length≤j):uO t n=l:=by
  rw [rn,if_neg (by rw [h];decide),hq,dV hk,ic];show wj t.kids m=l;rw [hj];rcases hd with hd | hd
  · exact tS hd
  · rw [dV hd];rfl
theorem Ap {ks:List Tr} {l x:Int} {j:Nat} (h:x=wj (ks.drop j) l) (hj:j < ks.length) (h0:0≤l):x=wj (ks.drop (j+1)) (uO (nth ks (j:Int)) l):=by
  rw [h,iN hj,pi,if_neg (by omega)]
theorem ka {f:Tr→Int} {ts:List Tr} {k:Nat} (h:k < ts.length):cZ ((ts.take (k+1)).map f)=cZ ((ts.take k).map f)+f (nth ts (k:Int)):=by
  rw [fi h,bT,bz,bU,eD]
theorem nD {f:Tr→Int} {ts:List Tr} (hf:∀t ∈ ts,0≤f t) (k:Nat):0≤cZ ((ts.take k).map f)∧cZ ((ts.take k).map f)≤cZ (ts.map f):=by
  rw [List.map_take];exact CS (fun x hx=>by obtain ⟨t,ht,rfl⟩:=List.mem_map.1 hx;exact hf t ht) k
theorem mT {f:Tr→Int} {ts:List Tr} (hf:∀t ∈ ts,0≤f t) {t:Tr} (ht:t ∈ ts):f t≤cZ (ts.map f):=
  rl (fun x hx=>by obtain ⟨t,ht,rfl⟩:=List.mem_map.1 hx;exact hf t ht) (List.mem_map.2 ⟨t,ht,rfl⟩)
end
section
open Go.ChangeShapes Go.WideShapes Go.ChangeAt Go.RowKit
section
variable {P:Program} {W:World} {H:Type} {enc:TypeId × Value→H} {base:Nat} {spare:Nat→Bool} {held:Bool}
theorem EB {α:Type} [Inhabited α] {E:Enc α} {t e:TypeId} (ht:P.underlying t=some (.slice e)) (hC:P.cellsOf e=E.sz) {Q:α→Prop} {fuel:Nat} {cs:List Value} {y:DataW H × List MemPlace}
    (hE:∀n < fuel,∀cs y,DataW.trod enc P W base spare held n e cs=some y→∃x:α,cs=E.cells x∧Q x) (h:DataW.trod enc P W base spare held fuel t cs=some y):∃(s:Sv) (xs:List α),cs=[s.v]∧SlT E W s.v xs∧∀x ∈ xs,Q x:=by
  rcases DataW.trod_slice ht h with ⟨rfl,_⟩ | ⟨a,len,cap,elems,rest,n,hn,rfl,_,hb,hl,hm,hlen,hel,_,_⟩
  · exact ⟨Sv.nil,[],rfl,SlT.nil _ _,fun x hx=>by cases hx⟩
  · have each:∀i,i < len→∃x:α,W.cells? base (a.add (i * P.cellsOf e)) (P.cellsOf e)=some (E.cells x)∧Q x:=by
      intro i hi;have key:=hel i hi;rw [bE (by omega)] at key;obtain ⟨cs',h1,h2⟩:=Option.bind_eq_some_iff.1 key;obtain ⟨x,rfl,hq⟩:=hE n (by omega) _ _ h2;exact ⟨x,h1,hq⟩
    obtain ⟨X,hX⟩:=Deep.choose_lt each;refine ⟨⟨some a,len,cap⟩,(List.range len).map X,rfl,⟨.inr ⟨a,cap,by simp [Sv.v],by simpa using hl,hm⟩,fun j u hj=> ?_⟩,fun x hx=> ?_⟩
    · have hlen2:j < len * E.sz:=by
        have:=(List.getElem?_eq_some_iff.1 hj).1;rw [E.row_length] at this
        simpa using this
      have hi:j / E.sz < len:=Nat.div_lt_of_lt_mul (by rw [Nat.mul_comm];exact hlen2)
      have hr:j % E.sz < E.sz:=Nat.mod_lt _ E.pos
      have hj':j=j / E.sz * E.sz+j % E.sz:=by rw [Nat.mul_comm];exact (Nat.div_add_mod j E.sz).symm
      have hx':((List.range len).map X)[j / E.sz]? =some (X (j / E.sz)):=by simp [hi]
      rw [hj',E.row_get hx' hr] at hj;obtain ⟨_,_,hc⟩:=World.cells?_some (hX _ hi).1;rw [hC] at hc;have:=hc (j % E.sz) hr;rw [hj] at this
      rw [hj',←add_add];exact this
    · obtain ⟨i,hi,rfl⟩:=List.mem_map.1 hx;exact (hX i (by simpa using hi)).2
theorem EC {α:Type} {cs:List α} (h:cs.length=8):∃c0 c1 c2 c3 c4 c5 c6 c7,cs=[c0,c1,c2,c3,c4,c5,c6,c7]:=by
  match cs,h with
  | [c0, c1, c2, c3, c4, c5, c6, c7], _ => exact ⟨c0, c1, c2, c3, c4, c5, c6, c7, rfl⟩
structure IsTree (P:Program) (t:TypeId):Prop where
  ex:∃ti ts tb tr er:TypeId,∃f0 f1 f2 f3 f4 f5 f6 f7:Field,P.underlying t=some (.struct #[f0,f1,f2,f3,f4,f5,f6,f7])∧
    (f0.offset=0∧f1.offset=1∧f2.offset=2∧f3.offset=3∧f4.offset=4∧f5.offset=5∧f6.offset=6∧f7.offset=7)∧
    (f0.type=ti∧f1.type=ts∧f2.type=tb∧f3.type=tr∧f4.type=ti∧f5.type=ti∧f6.type=tb)∧
    (P.cellsOf ti=1∧P.cellsOf ts=1∧P.cellsOf tb=1∧P.cellsOf tr=1∧P.cellsOf f7.type=1)∧
    P.underlying ti=some (.int .i64)∧P.underlying ts=some .string∧P.underlying tb=some .bool∧P.underlying tr=some (.slice er)∧P.cellsOf er=2∧Aj P er ik∧P.underlying f7.type=some (.slice t)∧P.cellsOf t=8
theorem CT {t:TypeId} (ht:IsTree P t):∀(m fuel:Nat),fuel≤m→∀(cs:List Value) (y:DataW H × List MemPlace),DataW.trod enc P W base spare held fuel t cs=some y→∃tr:Tr,cs=ox.cells tr∧kW W tr:=by
  obtain ⟨ti,ts,tb,tr,er,f0,f1,f2,f3,f4,f5,f6,f7,hu,⟨o0,o1,o2,o3,o4,o5,o6,o7⟩,⟨g0,g1,g2,g3,g4,g5,g6⟩,⟨c0,c1,c2,c3,c7⟩,ui,us,ub,ur,cer,hR,u7,ct⟩:=ht.ex;intro m;induction m with
  | zero =>
    intro fuel hf cs y h;obtain rfl:fuel=0:=by omega
    simp [DataW.trod] at h
  | succ m ih =>
    intro fuel hf cs y h;obtain ⟨xs,n,hn,_,hl,hlen,hfl⟩:=DataW.trod_struct hu h;rw [ct] at hl;obtain ⟨v0,v1,v2,v3,v4,v5,v6,v7,rfl⟩:=EC hl;obtain ⟨y0,y1,y2,y3,y4,y5,y6,y7,rfl⟩:=EC (show xs.length=8 by simpa using hlen);have h0:=hfl 0 f0 rfl;have h1:=hfl 1 f1 rfl;have h2:=hfl 2 f2 rfl;have h3:=hfl 3 f3 rfl;have h4:=hfl 4 f4 rfl;have h5:=hfl 5 f5 rfl;have h6:=hfl 6 f6 rfl;have h7:=hfl 7 f7 rfl;rw [o0,g0,c0] at h0;rw [o1,g1,c1] at h1;rw [o2,g2,c2] at h2;rw [o3,g3,c3] at h3;rw [o4,g4,c0] at h4;rw [o5,g5,c0] at h5;rw [o6,g6,c2] at h6;rw [o7,c7] at h7;simp at h0 h1 h2 h3 h4 h5 h6 h7;obtain ⟨k,hk,_⟩:=DataW.trod_int ui h0;obtain ⟨s,hs,_⟩:=DataW.trod_string us h1;obtain ⟨b,hb,_⟩:=DataW.trod_bool ub h2;obtain ⟨mn,hmn,_⟩:=DataW.trod_int ui h4;obtain ⟨mx,hmx,_⟩:=DataW.trod_int ui h5;obtain ⟨lz,hlz,_⟩:=DataW.trod_bool ub h6;obtain ⟨rv,rows,hrv,hrs,_⟩:=EB (E:=ik) (Q:=fun _=>True) ur cer (fun n _ cs y hh=>by obtain ⟨x,hx⟩:=hR _ _ _ _ _ _ _ _ _ hh;exact ⟨x,hx,ax⟩) h3;obtain ⟨kv,kids,hkv,hks,hall⟩:=EB (E:=ox) (Q:=fun x=>kW W x) u7 ct (fun n' hn' cs y hh=>ih n' (by omega) cs y hh) h7;refine ⟨⟨k,s,b,rv,rows,mn,mx,lz,kv,kids⟩,?_,.mk hrs (fun hn=>hrs.lt hn) hks (fun hn=>hks.lt hn) hall⟩;simp at hk hs hb hmn hmx hlz hrv hkv;subst hk hs hb hmn hmx hlz hrv hkv;rfl
theorem yQ {t:TypeId} (ht:IsTree P t) {r:Reach} {b0:Nat} {v:Value} {d:DataW H} {p:List MemPlace} (hv:Value.okWide P W r b0 t v) (h:DataW.Trod enc P W base spare held t v d p):∃tr:Tr,v=tr.v∧kW W tr:=by
  have hu:∃fs,P.underlying t=some (.struct fs):=by
    obtain ⟨ti,ts,tb,tr,er,f0,f1,f2,f3,f4,f5,f6,f7,hu,_⟩:=ht.ex;exact ⟨_,hu⟩
  obtain ⟨fs,hu⟩:=hu;obtain ⟨cs,rfl,_⟩:=okWide_struct hu hv;obtain ⟨fuel,hf⟩:=h;obtain ⟨tr,hc,hT⟩:=CT ht fuel fuel (br _) _ _ hf;refine ⟨tr,?_,hT⟩;unfold Tr.v;congr 1;exact Array.ext' hc
end
end
section
open Go.RowKit Srt
theorem cJ {K:Act→World→Prop} {a:Act} {w:World} (h:K a w):CH K .normal a w:=⟨rfl,h⟩
theorem mG.sv {v:Value} {n:Nat} (h:mG v n):∃s:Sv,v=s.v:=by
  rcases h with ⟨rfl,_⟩ | ⟨b,cap,rfl,_⟩
  · exact ⟨⟨none,0,0⟩,rfl⟩
  · exact ⟨⟨some b,n,cap⟩,rfl⟩
def iv (G:aP) (t:Tr):ZP:=⟨fun Z w=>TrT (fun g=>Z g∧G g) w t,fun hz he h=>(TrT.keep h he fun g hg hn=>hn hg.1).mono fun g hg _=>⟨hz g hg.1,hg.2⟩⟩
def nE (G:aP) (ts:List Tr):ZP:=⟨fun Z w=>∀t ∈ ts,TrT (fun g=>Z g∧G g) w t,fun hz he h t ht=>(iv G t).st hz he (h t ht)⟩
section
variable {G F:aP} {Z:aP} {τ:Nat→aP} {w w':World} {t:Tr} {ts us:List Tr} {v:Value}
theorem Fz.s (h:Fz (iv G t) τ w):kW w t:=TrT.s h
theorem zs (h:(iv G t).P Z w):kW w t:=TrT.s h
theorem zl (h:(nE G ts).P Z w) (hs:SlT ox w v ts):TlS w v ts:=⟨hs,fun t ht=>TrT.s (h t ht)⟩
theorem Fz.l (h:Fz (nE G ts) τ w) (hs:SlT ox w v ts):TlS w v ts:=zl h hs
theorem Fg (h:(iv G t).P Z w):(nE G t.kids).P Z w:=fun k hk=>TrT.kid h hk
theorem Fz.kl (h:Fz (iv G t) τ w):Fz (nE G t.kids) τ w:=Fg h
theorem ze {i:Int} (h:(nE G ts).P Z w) (h0:0≤i) (h1:i < ts.length):(iv G (nth ts i)).P Z w:=h _ (cP h0 h1)
theorem Fz.e {i:Int} (h:Fz (nE G ts) τ w) (h0:0≤i) (h1:i < ts.length):Fz (iv G (nth ts i)) τ w:=ze h h0 h1
theorem Fz.tn (G:aP) (τ:Nat→aP) (w:World):Fz (nE G []) τ w:=fun t h=>by cases h
theorem Fz.snoc (h:Fz (nE G ts) τ w) (h2:Fz (iv G t) τ w):Fz (nE G (ts++ [t])) τ w:=fun x hx=>by
  rcases List.mem_append.1 hx with hx | hx
  · exact h x hx
  · simp at hx;subst hx;exact h2
theorem Fz.app (h:Fz (nE G ts) τ w) (h2:Fz (nE G us) τ w):Fz (nE G (ts++us)) τ w:=fun x hx=>by
  rcases List.mem_append.1 hx with hx | hx
  · exact h x hx
  · exact h2 x hx
theorem TrT.inz {n:Nat} {a:Act} {τ0:Nat→aP} (h:TrT F w t) (st:St (Nw w) w n a w τ0):Fz (iv (Gn F w) t) τ0 w:=TrT.mono h fun g hg hlt=>⟨⟨hlt,fun s hs=>by have:=(st.bnd s g hs).1;simp only [Nw] at this;omega⟩,.inl hg⟩
theorem TrT.inzs {n:Nat} {a:Act} {τ0:Nat→aP} (h:∀t ∈ ts,TrT F w t) (st:St (Nw w) w n a w τ0):Fz (nE (Gn F w) ts) τ0 w:=fun t ht=>(h t ht).inz st
theorem TrT.inT {n:Nat} {a:Act} {τ0:Nat→aP} {T:aP} (h:TrT F w t) (hF:∀g,F g→¬T g) (st:St (fun k=>T k∨w.heap.size≤k) w n a w τ0):Fz (iv (Gn F w) t) τ0 w:=TrT.mono h fun g hg hlt=>⟨⟨hlt,fun s hs=>by
  rcases (st.bnd s g hs).1 with h1 | h1
  · exact hF g hg h1
  · omega⟩,.inl hg⟩
theorem Fz.out (h:Fz (iv G t) τ w):TrT G w t:=TrT.mono h fun g hg _=>hg.2
theorem Fz.outs (h:Fz (nE G ts) τ w):∀t ∈ ts,TrT G w t:=fun t ht=>TrT.mono (h t ht) fun g hg _=>hg.2
theorem Fz.outo (h:Fz (nE G ts) τ w) {i:Nat} {v:Value} (hv:∀g,v.ownBlock=some g→τ i g):∀t ∈ ts,TrT (fun g=>G g∧v.ownBlock≠some g) w t:=fun t ht=>TrT.mono (h t ht) fun g hg _=>⟨hg.2,fun e=>hg.1.2 i (hv g e)⟩
end
section
variable {α:Type} {N:aP} {P:Program} {ops:Array Oper} {sp:List (Spec N)} {In:Nat→Ini N} {a0:Act} {w0:World} {bf:List Nat} {j:Nat} {o:Oper} {done:Nat→Bool} {a:Act} {w w' W:World} {τ τ0:Nat→aP} {F:aP} {t:Tr} {ts:List Tr} {n:Nat} {a1:Act}
theorem Cx.hW (c:Cx ops sp In a0 w0 bf j o done a w τ) (st:St N W n a1 w0 τ0):W.heap.size≤w.heap.size:=dH st.ext.size c.J.ext.size
theorem Cx.tz (c:Cx ops sp In a0 w0 bf j o done a w τ) (st:St N W n a1 w0 τ0) (hx:Ext bc w w') (h:TrT (Gn (fun g=>fb τ w g∧Gn F W g) w) w' t):(iv (Gn F W) t).P (fb τ w') w':=TrT.mono h (c.gz (c.hW st) hx.size)
theorem Cx.tn (c:Cx ops sp In a0 w0 bf j o done a w τ) (st:St N W n a1 w0 τ0) (hx:Ext bc w w') (h:TrT (Gn bc w) w' t):(iv (Gn F W) t).P (fb τ w') w':=c.tz st hx (h.mono fun g hg _=>hg.elim (fun h=>h.elim) .inr)
theorem Cx.tzo {tag:Nat} {v:Value} {E:Enc α} {ty:Nat} {xs:List α} (c:Cx ops sp In a0 w0 bf j o done a w τ) (st:St N W n a1 w0 τ0) (hx:Ext bc w w') (hv:oT E ty w w' v xs) (h:∀t ∈ ts,TrT (fun g=>Gn (fun g=>fb τ w g∧Gn F W g) w g∧v.ownBlock≠some g) w' t):(nE (Gn F W) ts).P (fb (nn τ tag fun g=>v.ownBlock=some g) w') w':=fun t ht=>TrT.mono (h t ht) (c.gzo (c.hW st) hx.size hv.2)
theorem Cx.sn {v:Value} {E:Enc α} {ty:Nat} {xs:List α} (c:Cx ops sp In a0 w0 bf j o done a w τ) (st:St N W n a1 w0 τ0) (hx:Ext bc w w') (h:oT E ty w w' v xs):(dL E (Gn F W) v xs).P (fb τ w') w':=⟨h.1.sl,fun hn=>by
  have hlt:=h.1.sl.lt hn;have hge:w.heap.size≤(cW v).block:=by
    rcases h.1.2 with ⟨_,h0⟩ | ⟨g,cap,cur,hv,_⟩
    · exact absurd (bV h0) hn
    · subst hv;exact h.2 g rfl
  exact c.gz (c.hW st) hx.size _ (.inr hge) hlt⟩
end
theorem eb.blk {α:Type} {E:Enc α} {ty:Nat} {xs:List α} {T:aP} {v:Value} {w:World} (h:eb E ty xs T v w) (hn:xs≠ []):T (cW v).block:=by
  rcases h.1.2 with ⟨_,h0⟩ | ⟨g,cap,cur,hv,_⟩
  · exact absurd (bV h0) hn
  · subst hv;exact h.2 g rfl
theorem sq {G Z:aP} {w:World}:(nE G []).P Z w:=fun t h=>by cases h
theorem oy {G Z:aP} {w:World} {t:Tr} {ts:List Tr} (h:(iv G t).P Z w) (h2:(nE G ts).P Z w):(nE G (t::ts)).P Z w:=fun x hx=>by
  rcases List.mem_cons.1 hx with hx | hx
  · subst hx;exact h
  · exact h2 x hx
def dt (k:Int) (ch:ByteArray) (ng:Bool) (mn mx:Int) (lz:Bool):Tr:=⟨k,ch,ng,Sv.nil,[],mn,mx,lz,Sv.nil,[]⟩
theorem fF (F:aP) (w:World) (k:Int) (ch:ByteArray) (ng:Bool) (mn mx:Int) (lz:Bool):TrT F w (dt k ch ng mn mx lz):= .mk (SlT.nil _ _) (fun h=>absurd rfl h) (SlT.nil _ _) (fun h=>absurd rfl h) (fun k h=>by cases h)
def nq (k:Int) (ks:List Tr):Tr:=⟨k,⟨#[]⟩,false,Sv.nil,[],0,0,false,Sv.nil,ks⟩
def iq (k:Int) (l:List Tr):List Tr:=l.flatMap fun x=>if x.k=k then x.kids else [x]
def lq (l:List Tr):Tr:=match iq 0 l with
  | [x] => x
  | ks => nq 0 ks
def mj (l:List Tr):Tr:=match iq 1 l with
  | [] => nq 0 []
  | [x] => x
  | ks => nq 1 ks
theorem mU (k:Int) (l:List Tr) (x:Tr):iq k (l++ [x])=iq k l++if x.k=k then x.kids else [x]:=by simp [iq]
theorem vg {ts xs us:List Tr} {k:Int} {n:Nat} (h:n < xs.length) (hq:ts.map er=iq k ((xs.take n).map er)) {t:Tr} (ht:er t=er (nth xs (n:Int))) (hk:t.k=k) (hu:us=t.kids):(ts++us).map er=iq k ((xs.take (n+1)).map er):=by
  subst hu;rw [fi h,bT,bT,bz,bU,mU,←ht,yN,if_pos hk,←hq,mN]
theorem sJ {ts xs:List Tr} {k:Int} {n:Nat} (h:n < xs.length) (hq:ts.map er=iq k ((xs.take n).map er)) {t:Tr} (ht:er t=er (nth xs (n:Int))) (hk:¬t.k=k):(ts++ [t]).map er=iq k ((xs.take (n+1)).map er):=by
  rw [fi h,bT,bT,bz,bU,bz,bU,mU,←ht,yN,if_neg hk,←hq]
theorem rq (t:Tr):(t.kids.length:Int)+1≤cm t:=by
  have h:∀ks:List Tr,(ks.length:Int)≤cZ (ks.map cm):=by
    intro ks;induction ks using fw with
    | h0 => exact eY _
    | h1 ks x ih =>
      rw [bT,bz,bU,eD,ci];have:=jd x;simp;omega
  have:=gJ t;have:=h t.kids;omega
def vh (rs:List (ByteArray × ByteArray)):Int:=cZ (rs.map fun r=>1+(r.1.size:Int)+(r.2.size:Int))
def fy:Tr→Int:=ln fun t l=>1+(t.ch.size:Int)+vh t.rows+cZ l
theorem kO (t:Tr):fy t=1+(t.ch.size:Int)+vh t.rows+cZ (t.kids.map fy):=iK _ t
theorem nY (rs:List (ByteArray × ByteArray)):(rs.length:Int)≤vh rs:=by
  unfold vh;induction rs using fw with
  | h0 => exact eY _
  | h1 rs r ih => rw [bT, bz, bU, eD, ci]; simp; omega
theorem CU {rs:List (ByteArray × ByteArray)} {r:ByteArray × ByteArray} (h:r ∈ rs):(r.1.size:Int)+(r.2.size:Int)≤vh rs:=by
  have:=rl (xs:=rs.map fun r=>1+(r.1.size:Int)+(r.2.size:Int)) (fun x hx=>by obtain ⟨q,_,rfl⟩:=List.mem_map.1 hx;omega) (List.mem_map.2 ⟨r,h,rfl⟩);unfold vh;omega
theorem lL (t:Tr):1≤fy t:=by
  induction t using Tr.ind with
  | h t ih =>
    rw [kO];have:0≤cZ (t.kids.map fy):=iJ fun x hx=>by
      obtain ⟨k,hk,rfl⟩:=List.mem_map.1 hx;have:=ih k hk;omega
    have:=nY t.rows;omega
theorem mV {t k:Tr} (h:k ∈ t.kids):fy k < fy t:=by
  have h1:=mT (f:=fy) (fun q _=>by have:=lL q;omega) h;have:=kO t;have:=nY t.rows;omega
theorem ru (t:Tr):fy (er t)=fy t:=pe (fun t l=>by cases t;rfl) t
theorem rx (t:Tr):cm t≤fy t:=by
  induction t using Tr.ind with
  | h t ih =>
    have h1:∀ks:List Tr,(∀k ∈ ks,cm k≤fy k)→cZ (ks.map cm)≤cZ (ks.map fy):=by
      intro ks;induction ks using fw with
      | h0 => intro _; exact eY _
      | h1 ks x ih2 =>
        intro h;rw [bT,bT,bz,bU,bz,bU,eD,eD];have:=ih2 fun k hk=>h k (by simp [hk]);have:=h x (by simp);omega
    have:=h1 t.kids ih;have:=nY t.rows;rw [gJ,kO];omega
theorem ek (t:Tr):(t.kids.length:Int)+1≤fy t∧(t.rows.length:Int)≤fy t∧cm t≤fy t∧(t.ch.size:Int)≤fy t:=by
  have h0:=nY t.rows;have h1:=rq t;have h2:=rx t;have h3:=kO t;have h4:0≤cZ (t.kids.map fy):=iJ fun x hx=>by
    obtain ⟨k,hk,rfl⟩:=List.mem_map.1 hx;have:=lL k;omega
  omega
theorem Aq {t u:Tr} (h:er t=er u):fy t=fy u:=by rw [←ru t,h,ru]
theorem Ar (k:Int) (l:List Tr):(((iq k l).length:Nat):Int)≤cZ (l.map cm):=by
  induction l using fw with
  | h0 => exact eY _
  | h1 l x ih =>
    rw [mU,bT,bz,bU,eD,ci];have h1:=rq x;have h2:=jd x;split <;> simp <;> omega
theorem yR (l:List Tr):(l.map er).map cm=l.map cm:=by
  rw [mB];exact js fun t _=>yO t
theorem yS {ts xs:List Tr} {k:Int} {n:Nat} (hq:ts.map er=iq k ((xs.take n).map er)):(ts.length:Int)≤cZ ((xs.take n).map cm):=by
  have h1:=Ar k ((xs.take n).map er);rw [←hq,yR] at h1;simpa using h1
theorem CV {ts l:List Tr} (h:ts.map er=iq 0 l) (h1:ts.length=1):er (nth ts 0)=lq l:=by
  match ts,h1 with
  | [x], _ =>
    unfold lq;rw [←h];rfl
theorem As {ts l:List Tr} (h:ts.map er=iq 0 l) (h1:¬ts.length=1):nq 0 (ts.map er)=lq l:=by
  unfold lq;rw [←h];match ts,h1 with
  | [], _ => rfl
  | [x], h1 => exact absurd rfl h1
  | x :: y :: l, _ => rfl
theorem At {ts l:List Tr} (h:ts.map er=iq 1 l) (h1:ts.length=0):nq 0 []=mj l:=by
  match ts,h1 with
  | [], _ =>
    unfold mj;rw [←h];rfl
theorem CW {ts l:List Tr} (h:ts.map er=iq 1 l) (h1:ts.length=1):er (nth ts 0)=mj l:=by
  match ts,h1 with
  | [x], _ =>
    unfold mj;rw [←h];rfl
theorem Au {ts l:List Tr} (h:ts.map er=iq 1 l) (h0:¬ts.length=0) (h1:¬ts.length=1):nq 1 (ts.map er)=mj l:=by
  unfold mj;rw [←h];match ts,h0,h1 with
  | [], h0, _ => exact absurd rfl h0
  | [x], _, h1 => exact absurd rfl h1
  | x :: y :: l, _, _ => rfl
theorem Av {G:aP} {w:World} {T:aP} {kv:Sv} {ty:Nat} {ts:List Tr} {k:Int} (ho:eb ox ty ts T kv.v w) (hT:∀g,T g→G g) (ht:∀t ∈ ts,TrT G w t):TrT G w ⟨k,⟨#[]⟩,false,Sv.nil,[],0,0,false,kv,ts⟩:=
  .mk (SlT.nil _ _) (fun h=>absurd rfl h) ho.1.sl (fun hn=>hT _ (ho.blk hn)) ht
theorem ED {k:Int} {kv:Sv} {ts:List Tr}:er ⟨k,⟨#[]⟩,false,Sv.nil,[],0,0,false,kv,ts⟩=nq k (ts.map er):=by rw [oW];rfl
def fX (k:Int) (ch:ByteArray) (ng:Bool) (mn mx:Int) (lz:Bool) (kv:Sv) (ks:List Tr):Tr:=⟨k,ch,ng,Sv.nil,[],mn,mx,lz,kv,ks⟩
theorem lM (k:Int) (ch:ByteArray) (ng:Bool) (mn mx:Int) (lz:Bool) (kv:Sv) (ks:List Tr):er (fX k ch ng mn mx lz kv ks)=fX k ch ng mn mx lz Sv.nil (ks.map er):=by rw [oW];rfl
theorem qi {G Z:aP} {w:World} {k:Int} {ch:ByteArray} {ng:Bool} {mn mx:Int} {lz:Bool} {kv:Sv} {ks:List Tr} (h:(dL ox G kv.v ks).P Z w) (h2:(nE G ks).P Z w):(iv G (fX k ch ng mn mx lz kv ks)).P Z w:=
  .mk (SlT.nil _ _) (fun h=>absurd rfl h) h.1 h.2 h2
section
variable {N:aP} {P:Program} {ops:Array Oper} {sp:List (Spec N)} {In:Nat→Ini N} {a0:Act} {w0 W:World} {bf:List Nat} {j:Nat} {o:Oper} {s:Spec N} {pc:Prop} {n0:Nat} {a1:Act} {τ0:Nat→aP} {F:aP} {β:Type}
theorem tX {α:Type} {E:Enc α} {ty e t n:Nat} {xs:List α} {parts:Array (Nat × Operand)} {z:Value} {cells:Array Value} (st:St N W n0 a1 w0 τ0) (hgd:uX ops sp bf j o pc) (ho:o.op= .buildSlice ty n parts)
    (hty:P.underlying ty=some (.slice e)) (hsz:∀w,(sizeOf e).run P w= .ok E.sz w) (hz:∀w,(zeroValue e).run P w= .ok z w) (hn0:0 < n) (hsmall:n * E.sz≤16777216) (hn:n=xs.length) (hc:cells.toList=E.row xs)
    (h:∀{done a w τ},Cx ops sp In a0 w0 bf j o done a w τ→pc→Instr.fill (fun i=>some (i * E.sz,E.sz)) ((Array.range (n * E.sz)).map (z.cells[· % z.cells.size]!)) (parts.map fun (i,x)=>(i,a.eval x)).toList=some cells)
    (hs:s=eS N t pc (fun b:Sv=>b.v) (fun _=>True) (fun b=>dL E (Gn F W) b.v xs):=by exact rfl) (hd:o.dst=some t:=by exact rfl):Ob ops sp In a0 w0 P bf j o s:=by
  subst hs;intro done a w τ c;refine ⟨fun hw=> ?_,fun hw=>⟨Ext.refl _ _,fun hp=>by rw [(hgd.known c).2 hp] at hw;cases hw⟩⟩;have hp:=(hgd.known c).1 hw;have hf:=h c hp;have h2:¬(n * E.sz > 2 ^ 24):=by omega
  have h0:¬(n * E.sz=0):=by have:=Nat.mul_pos hn0 E.pos;omega
  have hr:(execOp a.eval o).run P w= .ok (.value (.slice (some ⟨w.heap.size,0,none⟩) n n)) (w.alloc (.cells cells e)):=by
    simp only [execOp,ho,Instr.buildSlice,Sem.run_bind,run_underlying hty,Result.andThen_ok,hsz,h2,if_false,Sem.run_pure,h0,hz];rw [hf];rfl
  have hl:cells.size=n * E.sz:=by rw [←fl,hc,E.row_length,←hn]
  have hown:iZ E e (w.alloc (.cells cells e)) (.slice (some ⟨w.heap.size,0,none⟩) n n) xs:=⟨E.row_length xs,.inr ⟨w.heap.size,n,cells,by rw [←hn],ee _,heap_alloc_new w _,by rw [←hn];exact br _,by have:=jH n E.pos;simp only [maxLen];omega,hl,by rw [hc,←E.row_length];exact kk⟩⟩;have hx:Ext bc w (w.alloc (.cells cells e)):=Ext.alloc _ _ _;refine fP hr ⟨_,rfl,hx,fun _=>⟨⟨some ⟨w.heap.size,0,none⟩,n,n⟩,?_,ax,?_⟩⟩
  · show aT (a.put o.dst _) t=_;rw [hd,dA a t t _ (c.lt t hd),if_pos rfl];rfl
  · exact c.sn st hx ⟨hown,fun g hg=>by have hg':some w.heap.size=some g:=hg;simp only [Option.some.injEq] at hg';omega⟩
theorem Aw {t:Nat} {f:β→Value} {Ψ:β→Prop} {Φ:β→ZP} (hgd:uX ops sp bf j o pc) (h:∀{done a w τ},Cx ops sp In a0 w0 bf j o done a w τ→pc→∃b,Ψ b∧(Φ b).P (fb τ w) w∧cp P a o w (f b))
    (hs:s=eS N t pc f Ψ Φ:=by exact rfl) (hd:o.dst=some t:=by exact rfl):Ob ops sp In a0 w0 P bf j o s:=by
  subst hs;intro done a w τ c;refine ⟨fun hw=> ?_,fun hw=>⟨Ext.refl _ _,fun hp=>by rw [(hgd.known c).2 hp] at hw;cases hw⟩⟩;obtain ⟨b,hq,hz,hr⟩:=h c ((hgd.known c).1 hw);refine ll hr ⟨_,rfl,Ext.refl _ _,fun _=>⟨b,?_,hq,hz⟩⟩;show aT (a.put o.dst _) t=_;rw [hd,dA a t t _ (c.lt t hd),if_pos rfl]
end
theorem kH:cZ []=0:=rfl
theorem jO (x:Int) (l:List Int):cZ (x::l)=x+cZ l:=by
  rw [show x::l=[x]++l from rfl,jc];simp [cZ]
theorem CX (k:Int) (ch:ByteArray) (ng:Bool) (mn mx:Int) (lz:Bool):fy (dt k ch ng mn mx lz)=1+(ch.size:Int):=by rw [kO];simp [dt,vh,cZ]
theorem CY (k:Int) (ch:ByteArray) (ng:Bool) (mn mx:Int) (lz:Bool) (kv:Sv) (ks:List Tr):fy (fX k ch ng mn mx lz kv ks)=1+(ch.size:Int)+cZ (ks.map fy):=by rw [kO];simp [fX,vh,cZ]
theorem Ax (k:Int) (ks:List Tr):fy (nq k ks)=1+cZ (ks.map fy):=by
  rw [kO];have h:((⟨#[]⟩:ByteArray).size:Int)=0:=rfl;simp [nq,vh,cZ,h]
theorem xC (k:Int) (l:List Tr):cZ ((iq k l).map fy)≤cZ (l.map fy):=by
  induction l using fw with
  | h0 => exact eY _
  | h1 l x ih =>
    rw [mU,bT,bT,bz,bU,jc,eD];have h1:=kO x;have h2:=nY x.rows;split
    · omega
    · rw [bz,bU];simp [cZ] at ih ⊢;omega
theorem tY (l:List Tr):(l.map er).map fy=l.map fy:=by
  rw [mB];exact js fun t _=>ru t
theorem wB (l:List Tr):fy (lq l)≤1+cZ (l.map fy):=by
  have h:=xC 0 l;unfold lq;split
  · rename_i x hx;rw [hx] at h;simp [cZ] at h ⊢;omega
  · rename_i ks _;rw [Ax];omega
theorem Ay (l:List Tr):fy (mj l)≤1+cZ (l.map fy):=by
  have h:=xC 1 l;unfold mj;split
  · rename_i hx;rw [hx] at h;rw [Ax];simp [cZ] at h ⊢;omega
  · rename_i x hx;rw [hx] at h;simp [cZ] at h ⊢;omega
  · rename_i ks _ _;rw [Ax];omega
theorem CZ {t:Tr} {l:List Tr} (h:er t=lq (l.map er)):fy t≤1+cZ (l.map fy):=by
  have:=wB (l.map er);rw [tY] at this
  rw [←ru t,h];exact this
theorem Da {t:Tr} {l:List Tr} (h:er t=mj (l.map er)):fy t≤1+cZ (l.map fy):=by
  have:=Ay (l.map er);rw [tY] at this
  rw [←ru t,h];exact this
end
section
open Go.RowKit
theorem cD {P:Program} {a:Act} {o:Oper} {w:World} {x:Operand} {v:Value} {p:Addr} (ho:o.op= .nilCheck x) (hx:a.eval x=v) (hv:v= .pointer (some p)):cp P a o w v:=by
  subst hv;simp [cp,execOp,ho,hx]
def Al:aP:=fun _=>True
def bJ (v:Value):aP:=fun g=>v= .pointer (some ⟨g,0,none⟩)
theorem cd.foot {ty:Nat} {cells:List Value} {T:aP} {v:Value} {w:World} (h:cd ty cells T v w):cd ty cells (bJ v) v w:=by
  obtain ⟨g,rfl,hlt,_,hg⟩:=h;exact ⟨g,rfl,hlt,rfl,hg⟩
theorem cd.own {ty:Nat} {cells:List Value} {T:aP} {v:Value} {w:World} (h:cd ty cells T v w) {g:Nat} (hg:bJ v g):T g:=by
  obtain ⟨g',rfl,_,hT,_⟩:=h;unfold bJ at hg;simp at hg;rw [←hg];exact hT
theorem cd.back {ty ty':Nat} {cells cells':List Value} {T:aP} {v:Value} {w w':World} (h:cd ty cells (bJ v) v w') (h':cd ty' cells' T v w):cd ty cells T v w':=by
  obtain ⟨g,hv,hlt,hT,hg⟩:=h;exact ⟨g,hv,hlt,h'.own hT,hg⟩
theorem cd.ext {ty:Nat} {cells:List Value} {T:aP} {v:Value} {w w1 w2:World} (h:cd ty cells T v w) (hx:Ext (bJ v) w1 w2):Ext T w1 w2:=hx.mono fun _ _ hg=>h.own hg
theorem cd.lt {ty:Nat} {cells:List Value} {T:aP} {v:Value} {w:World} (h:cd ty cells T v w):∀g,bJ v g→g < w.heap.size:=fun g hg=>by
  obtain ⟨g',rfl,hlt,_,_⟩:=h;unfold bJ at hg;simp at hg;omega
structure RdR (ty:Nat) (v:Value) (cv:Sv) (cs:List ByteArray) (i:Nat) (w:World):Prop where
  box:cd ty [cv.v,.int .i64 (i:Int)] (bJ v) v w
  sl:SlT fq w cv.v cs
  ne:cs≠ []→¬bJ v (cW cv.v).block
theorem kK {ty:Nat} {v:Value} {cv:Sv} {cs:List ByteArray} {i:Nat} {w:World} {T Z:aP} (hb:cd ty [cv.v,.int .i64 (i:Int)] T v w) (hz:(dL fq Al cv.v cs).P Z w) (hd:∀g,T g→¬Z g):RdR ty v cv cs i w:=
  ⟨hb.foot,hz.1,fun hn hg=>hd _ (hb.own hg) (hz.2 hn).1⟩
theorem RdR.inz {ty:Nat} {v:Value} {cv:Sv} {cs:List ByteArray} {i:Nat} {w:World} {n:Nat} {a:Act} {τ0:Nat→aP} (h:RdR ty v cv cs i w) (st:St (fun k=>bJ v k∨w.heap.size≤k) w n a w τ0):Fz (dL fq Al cv.v cs) τ0 w:=
  ⟨h.sl,fun hn=>⟨⟨h.sl.lt hn,fun s hs=>by
    rcases (st.bnd s _ hs).1 with h1 | h1
    · exact h.ne hn h1
    · have:=h.sl.lt hn;omega⟩,ax⟩⟩
def jk (ty:Nat) (N:aP) (tag t:Nat) (p:Value) (cells:List Value) (v:Value):Spec N:=⟨some tag,t,fun _ T u w=>u=v∧cd ty cells T p w,fun _ _ T u w w' _ h hr=>⟨hr.1,kG T p w w' h.less hr.2⟩,fun u=>u=v,fun _ _ _ _ h=>h.1⟩
section
variable {N:aP} {P:Program} {ops:Array Oper} {sp:List (Spec N)} {In:Nat→Ini N} {a0:Act} {w0 W:World} {bf:List Nat} {j:Nat} {o:Oper} {s:Spec N} {done:Nat→Bool} {a:Act} {w:World} {τ:Nat→aP}
theorem hD {ty tag t:Nat} {p v:Value} {cells:List Value} (h:∀{done a w τ},Cx ops sp In a0 w0 bf j o done a w τ→∃g args,fA P a o w g args∧Calls P g args w (fun e w'=>e= .returned v∧Ext (τ tag) w w'∧cd ty cells (τ tag) p w'))
    (hs:s=jk ty N tag t p cells v:=by exact rfl) (hg:o.guard=none:=by exact rfl) (hd:o.dst=some t:=by exact rfl):Ob ops sp In a0 w0 P bf j o s:=by
  subst hs;refine jv (tag:=tag) hg rfl fun done a w τ c=> ?_;obtain ⟨g,args,h1,h2⟩:=h c;refine ⟨g,args,h1,h2.mono fun e w' ⟨he,hx,hb⟩=>⟨v,he,hx,τ tag,fun g h=> .inl h,?_,hb⟩⟩;show aT (a.put o.dst v) t=v;rw [hd,dA a t t _ (c.lt t hd),if_pos rfl]
theorem Cx.dv {ty t slot:Nat} {p v:Value} {cells:List Value} (c:Cx ops sp In a0 w0 bf j o done a w τ) (i:Nat) (hs:sp[i]? =some (jk ty N t slot p cells v)) (hb:(bf.getD j 0).testBit i=true:=by exact rfl):a.eval (.tmp slot)=v:=c.J.pur i _ hs (c.pre i hb)
theorem Cx.db {ty t slot:Nat} {p v:Value} {cells:List Value} (c:Cx ops sp In a0 w0 bf j o done a w τ) (i:Nat) (hs:sp[i]? =some (jk ty N t slot p cells v)) (hl:bH (sp.map (·.tag)) t j=some i:=by exact rfl) (hord:jD (sp.map (·.tag)) bf t j=true:=by kernel_rfl):cd ty cells (τ t) p w:=(c.res i t _ hs hl hord).2
theorem hH {f:FuncId} {args:Array Value} {ty ty':Nat} {p v:Value} {cells cells':List Value} {T:aP} (hb:cd ty' cells' T p w) (h:Calls P f args w (fun e w'=>e= .returned v∧Ext (bJ p) w w'∧cd ty cells (bJ p) p w')):Calls P f args w (fun e w'=>e= .returned v∧Ext T w w'∧cd ty cells T p w'):=
  h.mono fun e w' ⟨h1,h2,h3⟩=>⟨h1,hb.ext h2,h3.back hb⟩
theorem Cx.tzs {t:Tr} {F:aP} {n:Nat} {a1:Act} {τ0:Nat→aP} {w':World} (c:Cx ops sp In a0 w0 bf j o done a w τ) (st:St N W n a1 w0 τ0) (hx:w.heap.size≤w'.heap.size) (h:TrT (Gn (fun g=>fb τ w g∧Gn F W g) w) w' t):(iv (Gn F W) t).P (fb τ w') w':=TrT.mono h (c.gz (c.hW st) hx)
theorem Cx.tns {t:Tr} {F:aP} {n:Nat} {a1:Act} {τ0:Nat→aP} {w':World} (c:Cx ops sp In a0 w0 bf j o done a w τ) (st:St N W n a1 w0 τ0) (hx:w.heap.size≤w'.heap.size) (h:TrT (Gn bc w) w' t):(iv (Gn F W) t).P (fb τ w') w':=c.tzs st hx (h.mono fun g hg _=>hg.elim (fun h=>h.elim) .inr)
theorem Cx.sns {α:Type} {E:Enc α} {xs:List α} {v:Value} {F:aP} {n:Nat} {a1:Act} {τ0:Nat→aP} {w':World} (c:Cx ops sp In a0 w0 bf j o done a w τ) (st:St N W n a1 w0 τ0) (hx:w.heap.size≤w'.heap.size) (h:SlT E w' v xs∧(xs≠ []→w.heap.size≤(cW v).block)):(dL E (Gn F W) v xs).P (fb τ w') w':=
  ⟨h.1,fun hn=>c.gz (c.hW st) hx _ (.inr (h.2 hn)) (h.1.lt hn)⟩
end
section
variable {N:aP} {l:List Oper} {sp:List (Spec N)} {il:List (Ini N)} {a0 a:Act} {w:World} {τ:Nat→aP}
theorem Fin.dv (h:Fin l sp il a0 a w τ) {ty t slot:Nat} {p v:Value} {cells:List Value} (j:Nat) (hs:sp[j]? =some (jk ty N t slot p cells v)) (hl:bH (sp.map (·.tag)) t sp.length=some j:=by exact rfl):aT a slot=v:=(h.res j t _ hs rfl hl).1
theorem Fin.db (h:Fin l sp il a0 a w τ) {ty t slot:Nat} {p v:Value} {cells:List Value} (j:Nat) (hs:sp[j]? =some (jk ty N t slot p cells v)) (hl:bH (sp.map (·.tag)) t sp.length=some j:=by exact rfl):cd ty cells (τ t) p w:=(h.res j t _ hs rfl hl).2
end
theorem cd.cast {ty:Nat} {cs cs':List Value} {T:aP} {v:Value} {w:World} (h:cd ty cs T v w) (e:cs'=cs):cd ty cs' T v w:=e ▸ h
theorem jS {P:Program} {fn:Func} {R:Ending→World→Prop} {a:Act} {w:World} {t t' t2:Nat} {v v' v2:Value} (hr:fn.results=#[.tmp t,.tmp t',.tmp t2]) (hd:a.defers=[]) (hv:aT a t=v) (hv':aT a t'=v') (hv2:aT a t2=v2) (h:R (.returned (.tuple #[v,v',v2])) w):bodyPost P fn R .ret a w:=
  bodyPost_ret (v:= .tuple #[v,v',v2]) (by
    have h0:(a.tmps[t]?).getD undef=v:=by rw [←aW];exact hv
    have h1:(a.tmps[t']?).getD undef=v':=by rw [←aW];exact hv'
    have h2:(a.tmps[t2]?).getD undef=v2:=by rw [←aW];exact hv2
    simp only [results,hr]
    simp [h0,h1,h2]) hd h
def Az (v:Value) (w:World):Nat:=match w.cell? ((cW v).add 1) with
  | some (.int _ n) => n.toNat
  | _ => 0
theorem lN {ty:Nat} {v x:Value} {i:Nat} {T:aP} {w:World} (h:cd ty [x,.int .i64 (i:Int)] T v w):Az v w=i:=by
  unfold Az;rw [h.cell (j:=1) rfl];simp
section
variable {N:aP} {P:Program} {ops:Array Oper} {sp:List (Spec N)} {In:Nat→Ini N} {a0:Act} {w0:World} {bf:List Nat} {j:Nat} {o:Oper} {s:Spec N}
theorem qj (gi:Nat) {tg t:Nat} {want b:Bool} (hs:s=B.det N t undef:=by exact rfl) (hg:o.guard=some (gi,want):=by exact rfl) (hd:o.dst=some t:=by exact rfl) (hgd:((ops[gi]?).bind (·.dst))=some tg:=by exact rfl) (hgs:sp[gi]? =some (B.det N tg (.bool b)):=by exact rfl) (hb:(bf.getD j 0).testBit gi=true:=by exact rfl) (hne:b≠want:=by decide):Ob ops sp In a0 w0 P bf j o s:=by
  intro done a w τ c;subst hs;have hv:=ra (c.v gi hgs hb);refine ⟨fun hn=> ?_,fun _=>⟨Ext.refl _ _,?_⟩⟩
  · exfalso;cases want <;> cases b <;> simp [Region.wanted,hg,yielded,hgd,hv] at hn hne
  · show aT (a.put o.dst undef) t=undef;rw [hd,dA a t t _ (c.lt t hd),if_pos rfl]
theorem rz (gi:Nat) {tg t:Nat} {want:Bool} (hs:s=B.det N t undef:=by exact rfl) (hg:o.guard=some (gi,want):=by exact rfl) (hd:o.dst=some t:=by exact rfl) (hgd:((ops[gi]?).bind (·.dst))=some tg:=by exact rfl) (hgs:sp[gi]? =some (B.det N tg undef):=by exact rfl) (hb:(bf.getD j 0).testBit gi=true:=by exact rfl):Ob ops sp In a0 w0 P bf j o s:=by
  intro done a w τ c;subst hs;have hv:=sA (c.v gi hgs hb);have hy:yielded ops a.tmps gi=none:=by
    cases h':a.tmps[tg]? with
    | none => simp [yielded, hgd, h']
    | some u => cases u <;> first | exact absurd h' (hv _) | simp [yielded, hgd, h']
  refine ⟨fun hn=> ?_,fun _=>⟨Ext.refl _ _,?_⟩⟩
  · exfalso;simp [Region.wanted,hg,hy] at hn
  · show aT (a.put o.dst undef) t=undef;rw [hd,dA a t t _ (c.lt t hd),if_pos rfl]
end
theorem Gy {G Z:aP} {w:World} {ts us:List Tr} (h:(nE G ts).P Z w) (h2:(nE G us).P Z w):(nE G (ts++us)).P Z w:=fun x hx=>(List.mem_append.1 hx).elim (h x) (h2 x)
end
section
open Srt
abbrev Rw:=ByteArray × ByteArray
theorem pj {α:Type} [Inhabited α] {xs:List α} {k:Nat} (h:k < xs.length):nth xs (k:Int) ∈ xs:=gX (wv h)
theorem nZ {f:Int→Bool} {k:Nat} (h:∀i < k,f ((i:Nat):Int)=false) (h2:f (k:Int)=false):∀i < k+1,f ((i:Nat):Int)=false:=by
  intro i hi;by_cases e:i=k
  · subst e;exact h2
  · exact h i (by omega)
def pk (xs:List Rw):Prop:=∀r ∈ xs,r.1.size≤1000000∧r.2.size≤1000000
theorem rA {xs:List Rw} (h:pk xs) {k:Nat}:k < xs.length→(nth xs (k:Int)).1.size≤1000000∧(nth xs (k:Int)).2.size≤1000000:=fun hk=>h _ (pj hk)
def fj (r:Rw):Bool:=(ef r.1&&ef r.2)&&oI r.1 r.2
def Gz (p q:Rw):Int:=GU [vc p.1 q.1,vc p.2 q.2]
def nF (p q:Rw):Bool:=decide (Gz p q < 0)
theorem xD {x y:ByteArray}:vc x y < 0↔nu x y=true:=by
  unfold vc;split
  · rename_i h;simp [h]
  · rename_i h;split <;> simp [h]
theorem Db {x y:ByteArray}:vc x y=0↔x=y:=by
  unfold vc;constructor
  · intro h;rcases qz x y with h' | h' | h'
    · rw [if_pos h'] at h;cases h
    · exact h'
    · rw [if_neg (by rw [sH h'];decide),if_pos h'] at h;cases h
  · rintro rfl
    rw [if_neg (by rw [pb];decide),if_neg (by rw [pb];decide)]
theorem xE (p q:Rw):nF p q=true↔nu p.1 q.1=true∨(p.1=q.1∧nu p.2 q.2=true):=by
  unfold nF Gz GU;rw [ai,←xD,←xD,←Db];generalize vc p.1 q.1=a;generalize vc p.2 q.2=b;have hn:∀x:Int,¬x=0→(x !=0)=true:=fun x h=>by simpa using h
  by_cases h1:a=0
  · subst h1;by_cases h2:b=0
    · subst h2;simp [List.find?]
    · simp [List.find?,hn b h2]
  · simp [List.find?,hn a h1,h1]
def uP (xs:List Rw) (c:ByteArray):Bool:=xs.any fun r=>oI r.1 c&&oI c r.2
theorem xF {xs:List Rw} {c:ByteArray} {k:Nat} (h:k < xs.length) (hc:(oI (nth xs (k:Int)).1 c&&oI c (nth xs (k:Int)).2)=true):uP xs c=true:=List.any_eq_true.2 ⟨_,pj h,hc⟩
theorem AA {xs:List Rw} {c:ByteArray} {k:Nat} (h:xs.length≤k) (hq:∀i < k,(oI (nth xs ((i:Nat):Int)).1 c&&oI c (nth xs ((i:Nat):Int)).2)=false):uP xs c=false:=by
  unfold uP;rw [jW];intro r hr;obtain ⟨i,hi,rfl⟩:=kQ hr;have:=hq i (by omega);rw [re (bE hi)] at this
  rw [this];decide
def sr (xs:List Rw) (n f:Bool) (c:ByteArray):Bool:= !((if f=true then (uP xs c || uP xs (fU c)) || uP xs (Ez c) else uP xs c)==n)
def nG (xs:List Rw) (i:Int):Bool:= !fj (nth xs i) || (decide (0 < i)&&oI (nth xs i).1 (nth xs (i - 1)).2)
def lZ (xs:List Rw):Bool:=(List.range xs.length).all fun i=> !nG xs (i:Int)
theorem sK {xs:List Rw} {k:Nat} (h:k < xs.length) (hb:nG xs (k:Int)=true):lZ xs=false:=by
  unfold lZ;rw [List.all_eq_false];exact ⟨k,by simpa using h,by simp [hb]⟩
theorem oN {xs:List Rw} {k:Nat} (h:∀i < k,nG xs ((i:Nat):Int)=false) (hk:xs.length≤k):lZ xs=true:=by
  unfold lZ;rw [cY];intro i hi;simp at hi;simp [h i (by omega)]
theorem rB (xs:List Rw) (i:Int):(((!ef (nth xs i).1 || !ef (nth xs i).2) || !oI (nth xs i).1 (nth xs i).2) || (decide (0 < i)&&oI (nth xs i).1 (nth xs (i - 1)).2))=nG xs i:=by
  unfold nG fj;cases ef (nth xs i).1 <;> cases ef (nth xs i).2 <;> cases oI (nth xs i).1 (nth xs i).2 <;> rfl
theorem xG (r:Rw):((!ef r.1 || !ef r.2) || !oI r.1 r.2)= !fj r:=by
  unfold fj;cases ef r.1 <;> cases ef r.2 <;> cases oI r.1 r.2 <;> rfl
theorem AB {α:Type} [Inhabited α] {f:α→Bool} {xs:List α} {k:Nat} (h:k < xs.length) (hp:f (nth xs (k:Int))=true):(xs.take (k+1)).filter f=(xs.take k).filter f++ [nth xs (k:Int)]:=by
  rw [fi h,List.filter_append];simp [hp]
theorem vi {α:Type} [Inhabited α] {f:α→Bool} {xs:List α} {k:Nat} (h:k < xs.length) (hp:f (nth xs (k:Int))=false):(xs.take (k+1)).filter f=(xs.take k).filter f:=by
  rw [fi h,List.filter_append];simp [hp]
theorem yT {α:Type} {f:α→Bool} {xs:List α} {k:Nat}:((xs.take k).filter f).length≤xs.length:=by
  have h1:=List.length_filter_le f (xs.take k);have h3:=List.length_take_le' k xs;omega
theorem nH (xs:List Rw):(eK nF (xs.filter fj)).length≤xs.length:=by
  rw [pa];exact List.length_filter_le _ _
def vj (acc:List Rw) (p:Rw):Bool:=decide (0≤(acc.length:Int) - 1)&&oI p.1 (nth acc ((acc.length:Int) - 1)).2
def qk (acc:List Rw) (p:Rw):List Rw:=
  if vj acc p=true then acc.set ((acc.length:Int) - 1).toNat ((nth acc ((acc.length:Int) - 1)).1,qp (nth acc ((acc.length:Int) - 1)).2 p.2) else acc++ [p]
def go (xs:List Rw):List Rw:=xs.foldl qk []
theorem mW (xs:List Rw) (p:Rw):go (xs++ [p])=qk (go xs) p:=by simp [go]
theorem sL {xs:List Rw} {k:Nat} (h:k < xs.length) (hc:vj (go (xs.take k)) (nth xs (k:Int))=true):
    go (xs.take (k+1))=(go (xs.take k)).set (((go (xs.take k)).length:Int) - 1).toNat ((nth (go (xs.take k)) (((go (xs.take k)).length:Int) - 1)).1,qp (nth (go (xs.take k)) (((go (xs.take k)).length:Int) - 1)).2 (nth xs (k:Int)).2):=by
  rw [fi h,mW,qk,if_pos hc]
theorem rC {xs:List Rw} {k:Nat} (h:k < xs.length) (hc:vj (go (xs.take k)) (nth xs (k:Int))=false):go (xs.take (k+1))=go (xs.take k)++ [nth xs (k:Int)]:=by
  rw [fi h,mW,qk,if_neg (by rw [hc];decide)]
theorem vk (xs:List Rw):(go xs).length≤xs.length:=by
  induction xs using fw with
  | h0 => simp [go]
  | h1 xs x ih =>
    rw [mW,qk];split
    · simp;omega
    · simp;omega
theorem wC {xs:List Rw} {k:Nat}:(go (xs.take k)).length≤k:=by
  have h1:=vk (xs.take k);have h2:=List.length_take_le k xs;omega
theorem pm {acc:List Rw} {p:Rw} {b:Bool} (h:(decide ((0:Int) < (acc.length:Int))&&oI p.1 (nth acc ((acc.length:Int) - 1)).2)=b):vj acc p=b:=by
  rw [←h];unfold vj;congr 1;exact decide_eq_decide.2 (by omega)
def gD (xs:List Rw):List Rw:=go (eK nF (xs.filter fj))
def ss (x y:Rw):Bool:=nu x.1 y.1 || (iI x.1 y.1&&nu x.2 y.2)
theorem Fh:ss=nF:=by
  funext x y;rw [eZ,xE,ss,aN,aw,qx]
theorem vl {xs:List Rw} {i k:Nat} (h:i < xs.length) (hr:fj (nth xs (i:Int))=true) (hk:k≤(eK ss ((xs.take i).filter fj)).length) (hq:∀q ∈ (eK ss ((xs.take i).filter fj)).drop k,ss (nth xs (i:Int)) q=true)
    (hc:(decide ((0:Int) < (k:Int))&&ss (nth xs (i:Int)) (nth (eK ss ((xs.take i).filter fj)) ((k:Int) - 1)))=false):
    eK ss ((xs.take (i+1)).filter fj)=(([]++((eK ss ((xs.take i).filter fj)).drop 0).take (k - 0))++ [nth xs (i:Int)])++((eK ss ((xs.take i).filter fj)).drop k).take ((eK ss ((xs.take i).filter fj)).length - k):=by
  rw [AB h hr,lm,Ff hk hq hc]
def gE (n:Int):List Rw:=if n=100 then [(⟨#[48]⟩,⟨#[57]⟩)] else if n=119 then [(⟨#[48]⟩,⟨#[57]⟩),(⟨#[65]⟩,⟨#[90]⟩),(⟨#[95]⟩,⟨#[95]⟩),(⟨#[97]⟩,⟨#[122]⟩)] else if n=115 then [(⟨#[9]⟩,⟨#[13]⟩),(⟨#[32]⟩,⟨#[32]⟩)] else []
def ie (n:Int):Bool:=decide (n=100) || (decide (n=119) || decide (n=115))
theorem po {s:ByteArray} {k:Nat} (h:k < (bs s).length) (hc:(decide ((65:Int)≤((nth (fH jN (bs s) k) (k:Int)).toNat:Int))&&decide (((nth (fH jN (bs s) k) (k:Int)).toNat:Int)≤90))=true):
    fH jN (bs s) (k+1)=(fH jN (bs s) k).set (k:Int).toNat (UInt8.ofNat (IntKind.u8.wrap (((nth (fH jN (bs s) k) (k:Int)).toNat:Int)+32)).toNat):=by
  refine sI h ?_;rw [nU h] at hc ⊢;rw [jN,if_pos hc]
theorem oa {s:ByteArray} {k:Nat} (h:k < (bs s).length) (hc:(decide ((65:Int)≤((nth (fH jN (bs s) k) (k:Int)).toNat:Int))&&decide (((nth (fH jN (bs s) k) (k:Int)).toNat:Int)≤90))=false):fH jN (bs s) (k+1)=fH jN (bs s) k:=by
  refine ri h ?_;rw [nU h] at hc;rw [jN,if_neg (by rw [hc];decide)]
theorem tZ {s:ByteArray} {k:Nat} (h:k < (bs s).length) (hc:(decide ((97:Int)≤((nth (fH uN (bs s) k) (k:Int)).toNat:Int))&&decide (((nth (fH uN (bs s) k) (k:Int)).toNat:Int)≤122))=true):
    fH uN (bs s) (k+1)=(fH uN (bs s) k).set (k:Int).toNat (UInt8.ofNat (IntKind.u8.wrap (((nth (fH uN (bs s) k) (k:Int)).toNat:Int) - 32)).toNat):=by
  refine sI h ?_;rw [nU h] at hc ⊢;rw [uN,if_pos hc]
theorem qE {s:ByteArray} {k:Nat} (h:k < (bs s).length) (hc:(decide ((97:Int)≤((nth (fH uN (bs s) k) (k:Int)).toNat:Int))&&decide (((nth (fH uN (bs s) k) (k:Int)).toNat:Int)≤122))=false):fH uN (bs s) (k+1)=fH uN (bs s) k:=by
  refine ri h ?_;rw [nU h] at hc;rw [uN,if_neg (by rw [hc];decide)]
end
section
open Srt
abbrev Ps:=List (Int × Int)
abbrev Fl:=Nat × Bool
abbrev Rs:=Option (Nat × Ps) × Fl
abbrev dJ:=Nat→Ps→Fl→Rs
abbrev iw:=Nat→dJ→Ps→Fl→Rs
structure Env where
  cs:List ByteArray
  pl:List Int
  fold:Bool
def nI (s:ByteArray):Bool:=decide ((s.size:Int)=1)&&((((decide (97≤ca s 0)&&decide (ca s 0≤122)) || (decide (65≤ca s 0)&&decide (ca s 0≤90))) || (decide (48≤ca s 0)&&decide (ca s 0≤57))) || decide (ca s 0=95))
def fO (fold:Bool) (t:Tr) (x:ByteArray):Bool:=
  if t.k=2 then iI x t.ch || (fold&&iI (fU x) (fU t.ch))
  else if t.k=3 then !(iI x ⟨#[10]⟩)
  else sr t.rows t.ng fold x
def Fi (cs:List ByteArray) (k:Int):Bool:=decide (0 < k)&&nI (nth cs (k - 1))
def Dc (cs:List ByteArray) (k:Int):Bool:=decide (k < (cs.length:Int))&&nI (nth cs k)
def gr (cs:List ByteArray) (kd:Int) (k:Int):Bool:=
  if kd=8 then decide (k=0) else if kd=9 then decide (k=(cs.length:Int)) else (!(Fi cs k==Dc cs k))==decide (kd=10)
def da (ps:Ps) (lo n:Nat):Ps:=ps.take lo++List.replicate n ((-1:Int),(-1:Int))++ps.drop (lo+n)
def iV:List iw→iw
  | [], k, K, ps, φ => K k ps φ
  | r :: l, k, K, ps, φ => r k (fun to ps φ => iV l to K ps φ) ps φ
def jF:List iw→iw
  | [], _, _, _, φ => (none, φ)
  | r :: l, k, K, ps, φ => if (r k K ps φ).1.isSome = true then r k K ps φ else jF l k K ps (r k K ps φ).2
def gQ (mn:Int) (lz:Bool) (times:Nat) (k:Nat) (K:dJ) (ps:Ps) (φ:Fl):Rs:=if (decide (mn≤(times:Int))&&lz)=true then K k ps φ else (none,φ)
def gM (mn:Int) (lz:Bool) (times:Nat) (k:Nat) (K:dJ) (ps:Ps) (φ:Fl):Rs:=if ((decide (mn≤(times:Int))&& !lz)&& !φ.2)=true then K k ps φ else (none,φ)
def cA (r:iw) (lo n:Nat) (mn mx:Int) (lz:Bool):Nat→Nat→iw
  | 0, _, _, _, _, φ => (none, φ)
  | g + 1, times, k, K, ps, φ =>
    if (gQ mn lz times k K ps φ).1.isSome=true then gQ mn lz times k K ps φ else
    if (decide (mx < 0) || decide ((times:Int) < mx))=true then
      if (r k (fun to ps' φ'=>if (decide (k < to) || decide ((times:Int) < mn))=true then cA r lo n mn mx lz g (times+1) to K ps' φ' else (none,φ')) (da ps lo n) (gQ mn lz times k K ps φ).2).1.isSome=true then
        r k (fun to ps' φ'=>if (decide (k < to) || decide ((times:Int) < mn))=true then cA r lo n mn mx lz g (times+1) to K ps' φ' else (none,φ')) (da ps lo n) (gQ mn lz times k K ps φ).2
      else gM mn lz times k K ps (r k (fun to ps' φ'=>if (decide (k < to) || decide ((times:Int) < mn))=true then cA r lo n mn mx lz g (times+1) to K ps' φ' else (none,φ')) (da ps lo n) (gQ mn lz times k K ps φ).2).2
    else gM mn lz times k K ps (gQ mn lz times k K ps φ).2
def dM (r:iw) (lo n:Nat) (mn mx:Int) (lz:Bool) (g times k:Nat) (K:dJ):dJ:=fun to ps' φ'=>if (decide (k < to) || decide ((times:Int) < mn))=true then cA r lo n mn mx lz g (times+1) to K ps' φ' else (none,φ')
def df (r:iw) (lo n:Nat) (mn mx:Int) (lz:Bool) (g times k:Nat) (K:dJ) (ps:Ps) (φ:Fl):Rs:=r k (dM r lo n mn mx lz g times k K) (da ps lo n) φ
theorem mm (r:iw) (lo n:Nat) (mn mx:Int) (lz:Bool) (g times k:Nat) (K:dJ) (ps:Ps) (φ:Fl):cA r lo n mn mx lz (g+1) times k K ps φ=
    if (gQ mn lz times k K ps φ).1.isSome=true then gQ mn lz times k K ps φ else
    if (decide (mx < 0) || decide ((times:Int) < mx))=true then
      if (df r lo n mn mx lz g times k K ps (gQ mn lz times k K ps φ).2).1.isSome=true then df r lo n mn mx lz g times k K ps (gQ mn lz times k K ps φ).2
      else gM mn lz times k K ps (df r lo n mn mx lz g times k K ps (gQ mn lz times k K ps φ).2).2
    else gM mn lz times k K ps (gQ mn lz times k K ps φ).2:=rfl
def sM:List iw→iw
  | r :: _ => r
  | [] => fun _ _ _ φ => (none, φ)
def en (E:Env) (lo k:Nat) (K:dJ):dJ:=fun to ps φ=>K to (ps.set lo (nth E.pl (k:Int),nth E.pl (to:Int))) φ
def kb (E:Env) (t:Tr) (lo:Nat) (l:List iw):iw:=fun k K ps φ=>
  if t.k=5 then sM l k (en E lo k K) ps φ
  else if t.k=6 then sM l k K ps φ
  else if t.k=2∨t.k=3∨t.k=4 then (if (decide ((k:Int) < (E.cs.length:Int))&&fO E.fold t (nth E.cs (k:Int)))=true then K (k+1) ps φ else (none,φ))
  else if gr E.cs t.k (k:Int)=true then K k ps φ else (none,φ)
def iB (E:Env) (t:Tr) (lo n:Nat) (l:List iw):iw:=fun k K ps φ=>
  if φ.2=true then (none,φ)
  else if t.k=0 then iV l k K ps φ
  else if t.k=1 then jF l k K ps φ
  else if t.k=7 then cA (sM l) lo n t.mn t.mx t.lz (φ.1+1) 0 k K ps φ
  else if φ.1=0 then (none,(0,true))
  else kb E t lo l k K ps (φ.1 - 1,false)
def lE (k:Int):Bool:= !((decide (k=0) || decide (k=1)) || decide (k=7))
structure Pt where
  t:Tr
  pv:Sv
  ps:List Pt
  lo:Int
  hi:Int
instance:Inhabited Pt:=⟨⟨default,Sv.nil,[],0,0⟩⟩
theorem Pt.kid_lt {t k:Pt} (h:k ∈ t.ps):SizeOf.sizeOf k < SizeOf.sizeOf t:=by
  have h1:=List.sizeOf_lt_of_mem h;cases t
  simp at h1 ⊢;omega
theorem Pt.ind {P:Pt→Prop} (h:∀t,(∀k ∈ t.ps,P k)→P t) (t:Pt):P t:=h t fun k hk=>Pt.ind h k
termination_by SizeOf.sizeOf t
decreasing_by exact Pt.kid_lt hk
def wk:Enc Pt:=⟨fun p=> [.int .i64 p.t.k,.string p.t.ch,.bool p.t.ng,p.t.rv.v,.int .i64 p.t.mn,.int .i64 p.t.mx,.bool p.t.lz,p.t.kv.v,p.pv.v,.int .i64 p.lo,.int .i64 p.hi],11,by decide,fun _=>rfl,fun x u hu=>by
  simp at hu;rcases hu with rfl | rfl | rfl | rfl | rfl | rfl | rfl | rfl | rfl | rfl | rfl <;> rfl⟩
def Pt.v (p:Pt):Value:= .agg #[.int .i64 p.t.k,.string p.t.ch,.bool p.t.ng,p.t.rv.v,.int .i64 p.t.mn,.int .i64 p.t.mx,.bool p.t.lz,p.t.kv.v,p.pv.v,.int .i64 p.lo,.int .i64 p.hi]
section
variable {β:Type}
mutual
def sN (g:Pt→List β→β):Pt→β
  | ⟨t, pv, ps, lo, hi⟩ => g ⟨t, pv, ps, lo, hi⟩ (rD g ps)
def rD (g:Pt→List β→β):List Pt→List β
  | [] => []
  | t :: ts => sN g t :: rD g ts
end
theorem wD (g:Pt→List β→β) (ts:List Pt):rD g ts=ts.map (sN g):=by
  induction ts with
  | nil => rw [rD]; rfl
  | cons t ts ih => rw [rD, ih]; rfl
theorem AC (g:Pt→List β→β) (t:Pt):sN g t=g t (t.ps.map (sN g)):=by
  cases t;rw [sN,wD]
end
def be (E:Env):Pt→iw:=sN fun p l=>iB E p.t p.lo.toNat (p.hi - p.lo).toNat l
theorem kB (E:Env) (p:Pt):be E p=iB E p.t p.lo.toNat (p.hi - p.lo).toNat (p.ps.map (be E)):=AC _ p
def AD (g:Nat):List (Nat × (Nat→iw))→List iw
  | [] => []
  | (n, r) :: l => r g :: AD (g + n) l
def mo (t:Tr) (g:Nat):Nat:=if t.k=5 then g+1 else g
def grpN (t:Tr):Nat:=(dB t).toNat
def lr (E:Env):Tr→Nat × (Nat→iw):=ln fun t l=>((if t.k=5 then 1 else 0)+(l.map (·.1)).sum,fun g=>iB E t g ((if t.k=5 then 1 else 0)+(l.map (·.1)).sum) (AD (mo t g) l))
def bi (E:Env) (t:Tr) (g:Nat):iw:=(lr E t).2 g
def gb (E:Env):List Tr→Nat→List iw
  | [], _ => []
  | t :: ts, g => bi E t g :: gb E ts (g + grpN t)
theorem xH (E:Env) (t:Tr):(lr E t).1=grpN t:=by
  induction t using Tr.ind with
  | h t ih =>
    have h1:(lr E t).1=(if t.k=5 then 1 else 0)+((t.kids.map (lr E)).map (·.1)).sum:=congrArg Prod.fst (iK _ t);have h2:=mS t;have h3:∀l:List Tr,(∀k ∈ l,(lr E k).1=grpN k)→((((l.map (lr E)).map (·.1)).sum:Nat):Int)=cZ (l.map dB):=by
      intro l;induction l with
      | nil => intro _; rfl
      | cons k l ih2 =>
        intro hl;have e1:=ih2 fun x hx=>hl x (by simp [hx]);have e2:=hl k (by simp);have e3:=(ia k).1;rw [bz,bz,List.sum_cons,bz,jO,e2];unfold grpN;omega
    have h4:=h3 t.kids ih;rw [h1];unfold grpN;rw [h2];split <;> omega
theorem sO (E:Env):∀(l:List Tr) (g:Nat),AD g (l.map (lr E))=gb E l g
  | [], _ => rfl
  | t :: l, g => by
    rw [bz,gb];show (lr E t).2 g::AD (g+(lr E t).1) (l.map (lr E))=_;rw [xH,sO E l];rfl
theorem kc (E:Env) (t:Tr) (g:Nat):bi E t g=iB E t g (grpN t) (gb E t.kids (mo t g)):=by
  have h1:(lr E t).2=fun g=>iB E t g ((if t.k=5 then 1 else 0)+((t.kids.map (lr E)).map (·.1)).sum) (AD (mo t g) (t.kids.map (lr E))):=congrArg Prod.snd (iK _ t);have h2:(lr E t).1=(if t.k=5 then 1 else 0)+((t.kids.map (lr E)).map (·.1)).sum:=congrArg Prod.fst (iK _ t);unfold bi;rw [h1];show iB E t g _ _=_;rw [←h2,xH,sO]
mutual
inductive Lay:Pt→Tr→Nat→Prop
  | mk {p : Pt} {t : Tr} {g : Nat} : er p.t = er t → p.lo = (g : Int) → p.hi = (g : Int) + dB t → LayL p.ps t.kids (mo t g) → Lay p t g
inductive LayL:List Pt→List Tr→Nat→Prop
  | nil {g : Nat} : LayL [] [] g
  | cons {p : Pt} {ps : List Pt} {t : Tr} {ts : List Tr} {g : Nat} : Lay p t g → LayL ps ts (g + grpN t) → LayL (p :: ps) (t :: ts) g
end
theorem mq {a b:Tr} (h:er a=er b):a.k=b.k∧a.ch=b.ch∧a.ng=b.ng∧a.rows=b.rows∧a.mn=b.mn∧a.mx=b.mx∧a.lz=b.lz:=by
  rw [oW,oW] at h;injection h with h1 h2 h3 h4 h5 h6 h7 h8 h9 h10
  exact ⟨h1,h2,h3,h5,h6,h7,h8⟩
theorem yU {f:Bool} {a b:Tr} (h:er a=er b) (x:ByteArray):fO f a x=fO f b x:=by
  obtain ⟨h1,h2,h3,h4,h5,h6,h7⟩:=mq h;unfold fO;rw [h1,h2,h3,h4]
theorem vm (E:Env) {a b:Tr} (h:er a=er b) (lo n:Nat) (l:List iw):iB E a lo n l=iB E b lo n l:=by
  obtain ⟨h1,h2,h3,h4,h5,h6,h7⟩:=mq h;funext k K ps φ;unfold iB kb;rw [h1,h5,h6,h7,yU h]
theorem ua (E:Env) (t:Tr):∀(p:Pt) (g:Nat),Lay p t g→be E p=bi E t g:=by
  induction t using Tr.ind with
  | h t ih =>
    intro p g h;cases h with
    | mk h1 h2 h3 h4 =>
      rw [kB,kc,vm E h1];have e1:p.lo.toNat=g:=by omega
      have e2:(p.hi - p.lo).toNat=grpN t:=by unfold grpN;omega
      have e3:∀(ts:List Tr) (ps:List Pt) (g:Nat),(∀k ∈ ts,k ∈ t.kids)→LayL ps ts g→ps.map (be E)=gb E ts g:=by
        intro ts;induction ts with
        | nil => intro ps g _ h; cases h; rfl
        | cons k ts ih2 =>
          intro ps g hm h;cases h with
          | cons h5 h6 => rw [bz, gb, ih k (hm k (by simp)) _ _ h5, ih2 _ _ (fun x hx => hm x (by simp [hx])) h6]
      rw [e1,e2,e3 _ _ _ (fun _ h=>h) h4]
theorem xI (E:Env) (t:Tr):∀(u:Tr) (g:Nat),er t=er u→bi E t g=bi E u g:=by
  induction t using Tr.ind with
  | h t ih =>
    intro u g h;rw [kc,kc,vm E h];have e1:grpN t=grpN u:=by unfold grpN;rw [←km t,←km u,h]
    have e2:mo t g=mo u g:=by unfold mo;rw [(mq h).1]
    have e3:t.kids.map er=u.kids.map er:=by rw [←mN,←mN,h]
    have e4:∀(ts us:List Tr) (g:Nat),(∀k ∈ ts,k ∈ t.kids)→ts.map er=us.map er→gb E ts g=gb E us g:=by
      intro ts;induction ts with
      | nil => intro us g _ h; cases us with
        | nil => rfl
        | cons => simp at h
      | cons k ts ih2 =>
        intro us g hm h;cases us with
        | nil => simp at h
        | cons v us =>
          simp only [bz,List.cons.injEq] at h;have e5:grpN k=grpN v:=by unfold grpN;rw [←km k,←km v,h.1]
          rw [gb,gb,ih k (hm k (by simp)) v g h.1,e5,ih2 us _ (fun x hx=>hm x (by simp [hx])) h.2]
    rw [e1,e2,e4 _ _ _ (fun _ h=>h) e3]
def KP (B:Nat) (K:dJ):Prop:=∀(to:Nat) (ps:Ps) (fu:Nat),fu < B→(K to ps (fu,false)).2.1≤fu
theorem KP.less {B B':Nat} {K:dJ} (h:KP B K) (hB:B'≤B):KP B' K:=fun to ps fu hf=>h to ps fu (by omega)
def RP (r:iw):Prop:=∀(k B:Nat) (K:dJ),KP B K→∀(ps:Ps) (fu:Nat) (ou:Bool),fu < B→(r k K ps (fu,ou)).2.1≤fu
theorem wE:∀(l:List iw),(∀r ∈ l,RP r)→∀(k B:Nat) (K:dJ),KP B K→∀(ps:Ps) (fu:Nat),fu < B→(iV l k K ps (fu,false)).2.1≤fu
  | [], _, k, B, K, hK, ps, fu, hf => hK k ps fu hf
  | r :: l, h, k, B, K, hK, ps, fu, hf => h r (by simp) k B (fun to ps φ => iV l to K ps φ) (fun to ps fu hf => wE l (fun x hx => h x (by simp [hx])) to B K hK ps fu hf) ps fu false hf
theorem AE:∀(l:List iw),(∀r ∈ l,RP r)→∀(k B:Nat) (K:dJ),KP B K→∀(ps:Ps) (fu:Nat) (ou:Bool),fu < B→(jF l k K ps (fu,ou)).2.1≤fu
  | [], _, k, B, K, hK, ps, fu, ou, hf => br _
  | r :: l, h, k, B, K, hK, ps, fu, ou, hf => by
    have h1:=h r (by simp) k B K hK ps fu ou hf;rw [jF];split
    · exact h1
    · have h2:=AE l (fun x hx=>h x (by simp [hx])) k B K hK ps (r k K ps (fu,ou)).2.1 (r k K ps (fu,ou)).2.2 (by omega);exact dH h2 h1
theorem Dd {B:Nat} {K:dJ} (hK:KP B K) {mn:Int} {lz:Bool} {times k:Nat} {ps:Ps} {fu:Nat} (hf:fu < B):(gQ mn lz times k K ps (fu,false)).2.1≤fu:=by
  unfold gQ;split
  · exact hK k ps fu hf
  · exact br _
theorem xJ {B:Nat} {K:dJ} (hK:KP B K) {mn:Int} {lz:Bool} {times k:Nat} {ps:Ps} {fu:Nat} {ou:Bool} (hf:fu < B):(gM mn lz times k K ps (fu,ou)).2.1≤fu:=by
  unfold gM;split
  · rename_i h;cases ou with
    | true => simp at h
    | false => exact hK k ps fu hf
  · exact br _
theorem rE {r:iw} (hr:RP r) {lo n:Nat} {mn mx:Int} {lz:Bool}:∀(g times k B:Nat) (K:dJ),KP B K→∀(ps:Ps) (fu:Nat),fu < B→(cA r lo n mn mx lz g times k K ps (fu,false)).2.1≤fu
  | 0, times, k, B, K, hK, ps, fu, hf => br _
  | g + 1, times, k, B, K, hK, ps, fu, hf => by
    have h1:=Dd hK (mn:=mn) (lz:=lz) (times:=times) (k:=k) (ps:=ps) hf;have hk:KP B (dM r lo n mn mx lz g times k K):=fun to ps' fu' hf'=>by
      unfold dM;split
      · exact rE hr g (times+1) to B K hK ps' fu' hf'
      · exact br _
    have h2:(df r lo n mn mx lz g times k K ps (gQ mn lz times k K ps (fu,false)).2).2.1≤(gQ mn lz times k K ps (fu,false)).2.1:=hr k B _ hk (da ps lo n) (gQ mn lz times k K ps (fu,false)).2.1 (gQ mn lz times k K ps (fu,false)).2.2 (by omega);rw [mm];split
    · exact h1
    · split
      · split
        · exact dH h2 h1
        · have h3:=xJ hK (mn:=mn) (lz:=lz) (times:=times) (k:=k) (ps:=ps) (fu:=(df r lo n mn mx lz g times k K ps (gQ mn lz times k K ps (fu,false)).2).2.1) (ou:=(df r lo n mn mx lz g times k K ps (gQ mn lz times k K ps (fu,false)).2).2.2) (by omega);exact dH h3 (dH h2 h1)
      · have h3:=xJ hK (mn:=mn) (lz:=lz) (times:=times) (k:=k) (ps:=ps) (fu:=(gQ mn lz times k K ps (fu,false)).2.1) (ou:=(gQ mn lz times k K ps (fu,false)).2.2) (by omega);exact dH h3 h1
theorem mr {r:iw} (hr:RP r) {lo n:Nat} {mn mx:Int} {lz:Bool} {g times k B:Nat} {K:dJ} (hK:KP B K):KP B (dM r lo n mn mx lz g times k K):=fun to ps' fu' hf'=>by
  unfold dM;split
  · exact rE hr g (times+1) to B K hK ps' fu' hf'
  · exact br _
theorem uc {l:List iw} (h:∀r ∈ l,RP r):RP (sM l):=by
  cases l with
  | nil => exact fun k B K hK ps fu ou hf => br _
  | cons r l => exact h r (by simp)
theorem rF {E:Env} {lo k B:Nat} {K:dJ} (hK:KP B K):KP B (en E lo k K):=fun to ps fu hf=>hK to _ fu hf
theorem AF {l:List iw} (h:∀r ∈ l,RP r) {B:Nat} {K:dJ} (hK:KP B K):KP B (fun to ps φ=>iV l to K ps φ):=fun to ps fu hf=>wE l h to B K hK ps fu hf
theorem ud {E:Env} {t:Tr} {lo:Nat} {l:List iw} (h:∀r ∈ l,RP r) {k B:Nat} {K:dJ} (hK:KP B K) {ps:Ps} {fu:Nat} (hf:fu < B):(kb E t lo l k K ps (fu,false)).2.1≤fu:=by
  unfold kb;split
  · exact uc h k B _ (rF hK) ps fu false hf
  · split
    · exact uc h k B K hK ps fu false hf
    · split
      · split
        · exact hK _ ps fu hf
        · exact br _
      · split
        · exact hK _ ps fu hf
        · exact br _
theorem xK {E:Env} {t:Tr} {lo n:Nat} {l:List iw} (h:∀r ∈ l,RP r):RP (iB E t lo n l):=fun k B K hK ps fu ou hf=>by
  unfold iB;split
  · exact br _
  · rename_i ho;have ho:ou=false:=by simpa using ho
    subst ho;split
    · exact wE l h k B K hK ps fu hf
    · split
      · exact AE l h k B K hK ps fu false hf
      · split
        · exact rE (uc h) _ _ k B K hK ps fu hf
        · split
          · exact ee _
          · have:=ud (E:=E) (t:=t) (lo:=lo) h hK (k:=k) (ps:=ps) (fu:=fu - 1) (by omega);exact dH this (by show fu - 1≤fu;omega)
theorem nJ (E:Env) (p:Pt):RP (be E p):=by
  induction p using Pt.ind with
  | h p ih =>
    rw [kB];exact xK fun r hr=>by
      obtain ⟨q,hq,rfl⟩:=List.mem_map.1 hr;exact ih q hq
theorem xL (E:Env) (l:List Pt):∀r ∈ l.map (be E),RP r:=fun r hr=>by
  obtain ⟨q,hq,rfl⟩:=List.mem_map.1 hr;exact nJ E q
theorem xM (E:Env) (p:Pt) (hb:lE p.t.k=true) {k B:Nat} {K:dJ} (hK:KP B K) {ps:Ps} {fu:Nat} {ou:Bool} (hf:fu < B+1):(be E p k K ps (fu,ou)).2.1≤fu:=by
  rw [kB];have hk:¬p.t.k=0∧¬p.t.k=1∧¬p.t.k=7:=by
    simp only [lE,aB,aG,ah] at hb;exact ⟨hb.1.1,hb.1.2,hb.2⟩
  unfold iB;rw [if_neg hk.1,if_neg hk.2.1,if_neg hk.2.2];split
  · exact br _
  · split
    · exact ee _
    · rename_i h0;have h0:¬fu=0:=h0;have:=ud (E:=E) (t:=p.t) (lo:=p.lo.toNat) (xL E p.ps) hK (k:=k) (ps:=ps) (fu:=fu - 1) (by omega);exact dH this (by show fu - 1≤fu;omega)
theorem xN {l:List iw} (h:l.length=0) (k:Nat) (K:dJ) (ps:Ps) (φ:Fl):iV l k K ps φ=K k ps φ:=by
  rw [bV h];rfl
theorem vn {E:Env} {l:List Pt} (h:¬l.length=0) (k:Nat) (K:dJ) (ps:Ps) (φ:Fl):iV (l.map (be E)) k K ps φ=be E (nth l 0) k (fun to ps φ=>iV ((l.drop 1).map (be E)) to K ps φ) ps φ:=by
  cases l with
  | nil => exact absurd rfl h
  | cons q l => rfl
theorem rG {E:Env} {l:List Pt} (h:l.length=1):sM (l.map (be E))=be E (nth l 0):=by
  cases l with
  | nil => simp at h
  | cons q l => rfl
theorem AG {E:Env} {p:Pt} {k:Nat} {K:dJ} {ps:Ps} {fu:Nat}:be E p k K ps (fu,true)=(none,(fu,true)):=by
  rw [kB];unfold iB;rw [if_pos rfl]
theorem AH {E:Env} {p:Pt} {k:Nat} {K:dJ} {ps:Ps} {fu:Nat} (h:p.t.k=0):be E p k K ps (fu,false)=iV (p.ps.map (be E)) k K ps (fu,false):=by
  rw [kB];unfold iB;rw [if_neg (by simp),if_pos h]
theorem vo {E:Env} {p:Pt} {k:Nat} {K:dJ} {ps:Ps} {fu:Nat} (h:p.t.k=1):be E p k K ps (fu,false)=jF (p.ps.map (be E)) k K ps (fu,false):=by
  rw [kB];unfold iB;rw [if_neg (by simp),if_neg (by omega),if_pos h]
theorem AI {E:Env} {p:Pt} {k:Nat} {K:dJ} {ps:Ps} {fu:Nat} (h:p.t.k=7) (hl:p.ps.length=1):be E p k K ps (fu,false)=cA (be E (nth p.ps 0)) p.lo.toNat (p.hi - p.lo).toNat p.t.mn p.t.mx p.t.lz (fu+1) 0 k K ps (fu,false):=by
  rw [kB];unfold iB;rw [if_neg (by simp),if_neg (by omega),if_neg (by omega),if_pos h,rG hl]
theorem yV {E:Env} {p:Pt} {k:Nat} {K:dJ} {ps:Ps} {fu:Nat} (h0:¬p.t.k=0) (h1:¬p.t.k=1) (h7:¬p.t.k=7) (hf:fu=0):be E p k K ps (fu,false)=(none,(fu,true)):=by
  subst hf;rw [kB];unfold iB;rw [if_neg (by simp),if_neg h0,if_neg h1,if_neg h7,if_pos rfl]
theorem gK {E:Env} {p:Pt} {k:Nat} {K:dJ} {ps:Ps} {fu:Nat} (h0:¬p.t.k=0) (h1:¬p.t.k=1) (h7:¬p.t.k=7) (hf:¬fu=0):be E p k K ps (fu,false)=kb E p.t p.lo.toNat (p.ps.map (be E)) k K ps (fu - 1,false):=by
  rw [kB];unfold iB;rw [if_neg (by simp),if_neg h0,if_neg h1,if_neg h7,if_neg hf]
theorem wF {E:Env} {p:Pt} {k:Nat} {K:dJ} {ps:Ps} {φ:Fl} (h:p.t.k=5) (hl:p.ps.length=1):kb E p.t p.lo.toNat (p.ps.map (be E)) k K ps φ=be E (nth p.ps 0) k (en E p.lo.toNat k K) ps φ:=by
  unfold kb;rw [if_pos h,rG hl]
theorem yW {E:Env} {p:Pt} {k:Nat} {K:dJ} {ps:Ps} {φ:Fl} (h:p.t.k=6) (hl:p.ps.length=1):kb E p.t p.lo.toNat (p.ps.map (be E)) k K ps φ=be E (nth p.ps 0) k K ps φ:=by
  unfold kb;rw [if_neg (by omega),if_pos h,rG hl]
theorem jl {E:Env} {t:Tr} {lo:Nat} {l:List iw} {k:Nat} {K:dJ} {ps:Ps} {φ:Fl} (h:t.k=2∨t.k=3∨t.k=4):kb E t lo l k K ps φ=if (decide ((k:Int) < (E.cs.length:Int))&&fO E.fold t (nth E.cs (k:Int)))=true then K (k+1) ps φ else (none,φ):=by
  unfold kb;rw [if_neg (by omega),if_neg (by omega),if_pos h]
theorem rH {E:Env} {t:Tr} {lo:Nat} {l:List iw} {k:Nat} {K:dJ} {ps:Ps} {φ:Fl} (h5:¬t.k=5) (h6:¬t.k=6) (h:¬(t.k=2∨t.k=3∨t.k=4)):kb E t lo l k K ps φ=if gr E.cs t.k (k:Int)=true then K k ps φ else (none,φ):=by
  unfold kb;rw [if_neg h5,if_neg h6,if_neg h]
theorem Fj {l:List iw} {i k:Nat} {K:dJ} {ps:Ps} {φ:Fl} (hi:i < l.length) (h:((l[i]'hi) k K ps φ).1.isSome=false):jF (l.drop i) k K ps φ=jF (l.drop (i+1)) k K ps ((l[i]'hi) k K ps φ).2:=by
  rw [dS hi,jF,if_neg (by rw [h];decide)]
theorem xO {E:Env} {l:List Pt} {i:Nat} (hi:i < (l.map (be E)).length):(l.map (be E))[i]'hi=be E (nth l (i:Int)):=by
  have h1:i < l.length:=by simpa using hi
  rw [mg,mI];simp [List.getD,bE h1]
theorem AJ {E:Env} {l:List Pt} {i k:Nat} {K:dJ} {ps:Ps} {φ:Fl} (hi:i < l.length) (h:(be E (nth l (i:Int)) k K ps φ).1.isSome=false):jF ((l.map (be E)).drop i) k K ps φ=jF ((l.map (be E)).drop (i+1)) k K ps (be E (nth l (i:Int)) k K ps φ).2:=by
  have hi2:i < (l.map (be E)).length:=by simpa using hi
  rw [←xO hi2] at h ⊢;exact Fj hi2 h
theorem De {E:Env} {l:List Pt} {i k:Nat} {K:dJ} {ps:Ps} {φ:Fl} (hi:i < l.length) (h:(be E (nth l (i:Int)) k K ps φ).1.isSome=true):jF ((l.map (be E)).drop i) k K ps φ=be E (nth l (i:Int)) k K ps φ:=by
  have hi2:i < (l.map (be E)).length:=by simpa using hi
  rw [←xO hi2] at h ⊢;rw [dS hi2,jF,if_pos h]
theorem Df {l:List iw} {i k:Nat} {K:dJ} {ps:Ps} {φ:Fl} (hi:l.length≤i):jF (l.drop i) k K ps φ=(none,φ):=by
  rw [dV hi];rfl
theorem AK {ps:Ps} {i:Nat} {x:Int × Int}:(ps.set i x).set i (nth ps (i:Int))=ps:=by
  rw [List.set_set,mI];by_cases h:i < ps.length
  · simp [List.getD,bE h]
  · rw [List.set_eq_of_length_le (by omega)]
theorem sP {ps:Ps} {lo hi:Nat} (h1:lo≤hi) (h2:hi≤ps.length):(da ps lo (hi - lo)).take lo++(ps.drop lo).take (hi - lo)++(da ps lo (hi - lo)).drop hi=ps:=by
  have e1:(ps.take lo).length=lo:=by simp;omega
  have e2:(da ps lo (hi - lo)).take lo=ps.take lo:=by
    unfold da;rw [fL,jj,e1,mC,List.take_zero,gT,bF (by omega)]
  have e3:(da ps lo (hi - lo)).drop hi=ps.drop hi:=by
    unfold da;have e4:(ps.take lo++List.replicate (hi - lo) ((-1:Int),(-1:Int))).length=hi:=by simp;omega
    rw [md,e4,mC,li,dV (by omega),gu,show lo+(hi - lo)=hi by omega]
  rw [e2,e3,fL];have e5:(ps.drop lo).take (hi - lo)++ps.drop hi=ps.drop lo:=by
    have:ps.drop hi=(ps.drop lo).drop (hi - lo):=by rw [List.drop_drop];congr 1;omega
    rw [this,fV]
  rw [e5,fV]
theorem rI {r:iw} {lo n:Nat} {mn mx:Int} {lz:Bool} {g times k:Nat} {K:dJ} {ps:Ps} {φ:Fl} (h:(decide (mn≤(times:Int))&&lz)=true) (hs:(K k ps φ).1.isSome=true):cA r lo n mn mx lz (g+1) times k K ps φ=K k ps φ:=by
  have e:gQ mn lz times k K ps φ=K k ps φ:=by unfold gQ;rw [if_pos h]
  rw [mm,e,if_pos hs]
def iC (r:iw) (lo n:Nat) (mn mx:Int) (lz:Bool) (g times k:Nat) (K:dJ) (ps:Ps) (φ:Fl):Rs:=
  if (decide (mx < 0) || decide ((times:Int) < mx))=true then
    if (df r lo n mn mx lz g times k K ps φ).1.isSome=true then df r lo n mn mx lz g times k K ps φ
    else gM mn lz times k K ps (df r lo n mn mx lz g times k K ps φ).2
  else gM mn lz times k K ps φ
theorem je {r:iw} {lo n:Nat} {mn mx:Int} {lz:Bool} {g times k:Nat} {K:dJ} {ps:Ps} {φ:Fl} (h:(decide (mn≤(times:Int))&&lz)=true) (hs:(K k ps φ).1.isSome=false):cA r lo n mn mx lz (g+1) times k K ps φ=iC r lo n mn mx lz g times k K ps (K k ps φ).2:=by
  have e:gQ mn lz times k K ps φ=K k ps φ:=by unfold gQ;rw [if_pos h]
  rw [mm,e,if_neg (by rw [hs];decide)];rfl
theorem hN {r:iw} {lo n:Nat} {mn mx:Int} {lz:Bool} {g times k:Nat} {K:dJ} {ps:Ps} {φ:Fl} (h:(decide (mn≤(times:Int))&&lz)=false):cA r lo n mn mx lz (g+1) times k K ps φ=iC r lo n mn mx lz g times k K ps φ:=by
  have e:gQ mn lz times k K ps φ=(none,φ):=by unfold gQ;rw [if_neg (by rw [h];decide)]
  rw [mm,e,if_neg (by simp)];rfl
theorem nK {r:iw} {lo n:Nat} {mn mx:Int} {lz:Bool} {g times k:Nat} {K:dJ} {ps:Ps} {φ:Fl} (h:(decide (mx < 0) || decide ((times:Int) < mx))=true) (hs:(df r lo n mn mx lz g times k K ps φ).1.isSome=true):iC r lo n mn mx lz g times k K ps φ=df r lo n mn mx lz g times k K ps φ:=by
  unfold iC;rw [if_pos h,if_pos hs]
theorem jm {r:iw} {lo n:Nat} {mn mx:Int} {lz:Bool} {g times k:Nat} {K:dJ} {ps:Ps} {φ:Fl} (h:(decide (mx < 0) || decide ((times:Int) < mx))=true) (hs:(df r lo n mn mx lz g times k K ps φ).1.isSome=false):iC r lo n mn mx lz g times k K ps φ=gM mn lz times k K ps (df r lo n mn mx lz g times k K ps φ).2:=by
  unfold iC;rw [if_pos h,if_neg (by rw [hs];decide)]
theorem ob {r:iw} {lo n:Nat} {mn mx:Int} {lz:Bool} {g times k:Nat} {K:dJ} {ps:Ps} {φ:Fl} (h:(decide (mx < 0) || decide ((times:Int) < mx))=false):iC r lo n mn mx lz g times k K ps φ=gM mn lz times k K ps φ:=by
  unfold iC;rw [if_neg (by rw [h];decide)]
theorem mX {mn:Int} {lz:Bool} {times k:Nat} {K:dJ} {ps:Ps} {fu:Nat} {ou:Bool} (h:((decide (mn≤(times:Int))&& !lz)&& !ou)=true):gM mn lz times k K ps (fu,ou)=K k ps (fu,false)∧ou=false:=by
  have ho:ou=false:=by simp at h;exact h.2
  subst ho;unfold gM;rw [if_pos h];exact ⟨rfl,rfl⟩
theorem qF {mn:Int} {lz:Bool} {times k:Nat} {K:dJ} {ps:Ps} {fu:Nat} {ou:Bool} (h:((decide (mn≤(times:Int))&& !lz)&& !ou)=false):gM mn lz times k K ps (fu,ou)=(none,(fu,ou)):=by
  unfold gM;rw [if_neg (by rw [show (fu,ou).2=ou from rfl,h];decide)]
end
section
open Go.RowKit Srt
inductive PtT (F:aP) (w:World):Pt→Prop
  | mk {p : Pt} : TrT F w p.t → SlT wk w p.pv.v p.ps → (p.ps ≠ [] → F (cW p.pv.v).block) → (∀ q ∈ p.ps, PtT F w q) → PtT F w p
section
variable {F F':aP} {w w':World} {p q:Pt}
theorem PtT.tree (h:PtT F w p):TrT F w p.t:=by cases h;assumption
theorem PtT.sl (h:PtT F w p):SlT wk w p.pv.v p.ps:=by cases h;assumption
theorem PtT.slF (h:PtT F w p):p.ps≠ []→F (cW p.pv.v).block:=by cases h;assumption
theorem PtT.kid (h:PtT F w p) (hq:q ∈ p.ps):PtT F w q:=by cases h;rename_i h1;exact h1 q hq
theorem PtT.keep (h:PtT F w p) {M:Nat→Prop} (he:Ext M w w') (hm:∀g,F g→¬M g):PtT F w' p:=by
  induction h with
  | mk h1 h2 h3 h4 ih => exact .mk (h1.keep he hm) (h2.keep he fun hn => hm _ (h3 hn)) h3 ih
theorem PtT.mono (h:PtT F w p) (hf:∀g,F g→g < w.heap.size→F' g):PtT F' w p:=by
  induction h with
  | mk h1 h2 h3 h4 ih => exact .mk (h1.mono hf) h2 (fun hn => hf _ (h3 hn) (h2.lt hn)) ih
end
def ls (p:Pt):ZP:=⟨fun Z w=>PtT Z w p,fun hz he h=>(PtT.keep h he fun g hg hn=>hn hg).mono fun g hg _=>hz g hg⟩
def sQ (v:Sv) (l:List Pt):ZP:=⟨fun Z w=>(SlT wk w v.v l∧(l≠ []→Z (cW v.v).block))∧∀p ∈ l,PtT Z w p,fun hz he h=>⟨⟨h.1.1.keep he fun hn hm=>hm (h.1.2 hn),fun hn=>hz _ (h.1.2 hn)⟩,fun p hp=>(ls p).st hz he (h.2 p hp)⟩⟩
def cM (p:Addr) (vs:List Value):ZP:=⟨fun Z w=>Z p.block∧∀j u,vs[j]? =some u→w.cell? (p.add j)=some u,fun hz he h=>⟨hz _ h.1,fun j u hu=>he.cell_some (h.2 j u hu) fun hn=>hn (by rw [lk];exact h.1)⟩⟩
section
variable {Z:aP} {w:World} {p:Pt} {v:Sv} {l:List Pt}
theorem ls.kids (h:(ls p).P Z w):(sQ p.pv p.ps).P Z w:=⟨⟨PtT.sl h,PtT.slF h⟩,fun q hq=>PtT.kid h hq⟩
theorem sQ.at (h:(sQ v l).P Z w) {i:Int} (h0:0≤i) (h1:i < l.length):(ls (nth l i)).P Z w:=h.2 _ (cP h0 h1)
theorem sQ.tail {n:Nat} (h:(sQ v l).P Z w) (hn:n≤l.length) {u:Sv} (hu:u.v=gp v.v n l.length 11):(sQ u (l.drop n)).P Z w:=by
  have hs:=SlT.sub h.1.1 (lo:=n) (hi:=l.length) hn (br _);rw [bF (by simp)] at hs;refine ⟨⟨?_,fun hne=> ?_⟩,fun q hq=>h.2 q (iX hq)⟩
  · rw [hu];exact hs
  · have hl:l≠ []:=by rintro rfl;simp at hne
    have hb:(cW (gp v.v n l.length 11)).block=(cW v.v).block:=by
      rcases h.1.1.sl with ⟨e,hl0⟩ | ⟨b,cap,e,h1,h2⟩
      · exact absurd (bV hl0) hl
      · rw [e];simp only [gp];split <;> simp [cW,lk]
    rw [hu,hb];exact h.1.2 hl
end
inductive OkP (m:Nat):Pt→Prop
  | mk {p : Pt} : (0 ≤ p.lo ∧ p.lo ≤ p.hi ∧ p.hi ≤ (m : Int)) → (p.t.k = 5 → p.lo < p.hi) → (p.t.k = 5 ∨ p.t.k = 6 ∨ p.t.k = 7 → p.ps.length = 1) → (p.t.k = 7 → lE (nth p.ps 0).t.k = true) → fy p.t ≤ 1000000 → p.ps.length ≤ 1000000 → (∀ q ∈ p.ps, OkP m q) → OkP m p
theorem OkP.kid {m:Nat} {p q:Pt} (h:OkP m p) (hq:q ∈ p.ps):OkP m q:=by cases h;rename_i h1;exact h1 q hq
theorem OkP.facts {m:Nat} {p:Pt} (h:OkP m p):(0≤p.lo∧p.lo≤p.hi∧p.hi≤(m:Int))∧(p.t.k=5→p.lo < p.hi)∧(p.t.k=5∨p.t.k=6∨p.t.k=7→p.ps.length=1)∧(p.t.k=7→lE (nth p.ps 0).t.k=true)∧fy p.t≤1000000∧p.ps.length≤1000000:=by
  cases h;rename_i h1 h2 h3 h4 h5 h6 h7;exact ⟨h1,h2,h3,h4,h5,h6⟩
structure Cfg where
  rt:Nat
  st:Nat
  it:Nat
  g:Nat
  top:Pt
  E:Env
  cv:Sv
  lv:Sv
  pv:Sv
  m:Nat
def Cfg.ad (C:Cfg):Addr:=⟨C.g,0,none⟩
def Cfg.rv (C:Cfg):Value:= .pointer (some C.ad)
def Cfg.cells (C:Cfg) (fu:Nat) (ou:Bool):List Value:=wk.cells C.top++ [.bool C.E.fold,C.cv.v,C.lv.v,C.pv.v,.int .i64 (fu:Int),.bool ou]
structure Cfg.Ok (C:Cfg):Prop where
  pg:∀b,C.pv.v.ownBlock=some b→b≠C.g
  pl:C.E.pl.length=C.E.cs.length+1
  cl:C.E.cs.length≤1000000
  ml:C.m≤1000000
  cz:∀x ∈ C.E.cs,x.size≤1000000
structure RunB (C:Cfg) (ps:Ps) (fu:Nat) (ou:Bool) (Z T:aP) (w:World):Prop where
  ok:C.Ok
  len:ps.length=C.m
  lt:C.g < w.heap.size
  own:T C.g
  at':w.heap[C.g]? =some (.cells (C.cells fu ou).toArray C.rt (0,0))
  parts:eb bP C.st ps T C.pv.v w
  chars:(dL fq Al C.cv.v C.E.cs).P Z w
  places:(dL gl Al C.lv.v C.E.pl).P Z w
section
variable {C:Cfg} {ps ps':Ps} {fu fu':Nat} {ou ou':Bool} {tv tv':Int} {tb:Option Nat} {Z Z' T T' N:aP} {w w':World}
theorem RunB.mono (h:RunB C ps fu ou Z T w) (hZ:∀g,Z g→Z' g) (hT:∀g,T g→T' g):RunB C ps fu ou Z' T' w:=
  ⟨h.ok,h.len,h.lt,hT _ h.own,h.at',⟨h.parts.1,fun g hg=>hT _ (h.parts.2 g hg)⟩,⟨h.chars.1,fun hn=>⟨hZ _ (h.chars.2 hn).1,ax⟩⟩,⟨h.places.1,fun hn=>⟨hZ _ (h.places.2 hn).1,ax⟩⟩⟩
theorem RunB.loc (hz:∀g,Z g→Z' g) (he:Ext (fun g=>N g∧¬T g∧¬Z g) w w') (h:RunB C ps fu ou Z T w):RunB C ps fu ou Z' T w':=
  ⟨h.ok,h.len,cR h.lt he.size,h.own,by rw [he.block _ h.lt fun hn=>hn.2.1 h.own];exact h.at',jY (N:=N) T _ w w' he.less h.parts,
    (dL fq Al C.cv.v C.E.cs).st hz (he.mono fun _ _ h=>h.2.2) h.chars,(dL gl Al C.lv.v C.E.pl).st hz (he.mono fun _ _ h=>h.2.2) h.places⟩
theorem RunB.cell (h:RunB C ps fu ou Z T w) {j:Nat} {u:Value} (hu:(C.cells fu ou)[j]? =some u):w.cell? (C.ad.add j)=some u:=by
  have hb:cd C.rt (C.cells fu ou) T C.rv w:=⟨C.g,rfl,h.lt,h.own,h.at'⟩;exact hb.cell hu
theorem RunB.sl (h:RunB C ps fu ou Z T w):SlT bP w C.pv.v ps:=h.parts.1.sl
structure RunR (C:Cfg) (tb:Option Nat) (ps:Ps) (fu:Nat) (ou:Bool) (tv:Int) (Z T:aP) (w:World):Prop where
  b:RunB C ps fu ou Z T w
  to:∀q,tb=some q→cd C.it [.int .i64 tv] T (.pointer (some ⟨q,0,none⟩)) w
  tg:∀q,tb=some q→q≠C.g∧∀b,C.pv.v.ownBlock=some b→b≠q
theorem RunR.mono (h:RunR C tb ps fu ou tv Z T w) (hZ:∀g,Z g→Z' g) (hT:∀g,T g→T' g):RunR C tb ps fu ou tv Z' T' w:=
  ⟨h.b.mono hZ hT,fun q hq=>by obtain ⟨g,e,h1,h2,h3⟩:=h.to q hq;exact ⟨g,e,h1,hT _ h2,h3⟩,h.tg⟩
theorem RunR.loc (hz:∀g,Z g→Z' g) (he:Ext (fun g=>N g∧¬T g∧¬Z g) w w') (h:RunR C tb ps fu ou tv Z T w):RunR C tb ps fu ou tv Z' T w':=
  ⟨h.b.loc hz he,fun q hq=>kG (N:=N) T _ w w' he.less (h.to q hq),h.tg⟩
theorem RunR.cell (h:RunR C tb ps fu ou tv Z T w) {j:Nat} {u:Value} (hu:(C.cells fu ou)[j]? =some u):w.cell? (C.ad.add j)=some u:=h.b.cell hu
theorem RunR.sl (h:RunR C tb ps fu ou tv Z T w):SlT bP w C.pv.v ps:=h.b.sl
def Td (C:Cfg) (tb:Option Nat):aP:=fun b=>b=C.g∨C.pv.v.ownBlock=some b∨tb=some b
theorem RunB.r (h:RunB C ps fu ou Z T w):RunR C none ps fu ou tv Z T w:=⟨h,fun _ hq=>(by cases hq),fun _ hq=>(by cases hq)⟩
def Fr (C:Cfg) (tb:Option Nat) (w:World):aP:=fun b=>b < w.heap.size∧¬Td C tb b
def gR (C:Cfg) (tb:Option Nat) (ps:Ps) (fu:Nat) (ou:Bool) (tv:Int) (w:World):Prop:=RunR C tb ps fu ou tv (Fr C tb w) (Td C tb) w
theorem RunR.td (h:RunR C tb ps fu ou tv Z T w):∀b,Td C tb b→T b:=by
  rintro b (rfl | hb | hb)
  · exact h.b.own
  · exact h.b.parts.2 _ hb
  · obtain ⟨g,e,_,hT,_⟩:=h.to b hb;simp at e;rw [e];exact hT
theorem RunR.tdlt (h:RunR C tb ps fu ou tv Z T w):∀b,Td C tb b→b < w.heap.size:=by
  rintro b (rfl | hb | hb)
  · exact h.b.lt
  · exact h.b.parts.1.lt _ hb
  · obtain ⟨g,e,hl,_,_⟩:=h.to b hb;simp at e;omega
theorem RunR.d (h:RunR C tb ps fu ou tv Z T w) (hd:∀g,T g→¬Z g) (hl:∀g,Z g→g < w.heap.size):gR C tb ps fu ou tv w:=by
  have hZ:∀g,Z g→Fr C tb w g:=fun g hg=>⟨hl g hg,fun ht=>hd _ (h.td _ ht) hg⟩;obtain ⟨⟨h1,h2,h3,h4,h5,h6,h7,h8⟩,h9,h10⟩:=h;refine ⟨⟨h1,h2,h3,.inl rfl,h5,⟨h6.1,fun g hg=> .inr (.inl hg)⟩,⟨h7.1,fun hn=>⟨hZ _ (h7.2 hn).1,ax⟩⟩,⟨h8.1,fun hn=>⟨hZ _ (h8.2 hn).1,ax⟩⟩⟩,fun q hq=> ?_,h10⟩;obtain ⟨g,e,k1,k2,k3⟩:=h9 q hq;exact ⟨g,e,k1,by simp at e;exact .inr (.inr (e ▸ hq)),k3⟩
theorem RunR.fr (h:RunR C tb ps fu ou tv Z T w) (hd:∀g,T g→¬Z g) (hl:∀g,Z g→g < w.heap.size) {Φ:ZP} (hz:Φ.P Z w):Φ.P (Fr C tb w) w:=
  Φ.st (fun g hg=>⟨hl g hg,fun ht=>hd _ (h.td _ ht) hg⟩) (Ext.refl _ w) hz
theorem gR.back (h':gR C tb ps' fu' ou' tv' w') (h:RunR C tb ps fu ou tv Z T w) (hx:Ext (Td C tb) w w') (hd:∀g,T g→¬Z g) (hZ:∀g,Z g→Z' g):RunR C tb ps' fu' ou' tv' Z' T w':=by
  have hm:Ext (fun g=>¬Z g) w w':=hx.mono fun g _ hg hz=>hd _ (h.td _ hg) hz;obtain ⟨⟨h1,h2,h3,h4,h5,h6,h7,h8⟩,h9,h10⟩:=h';refine ⟨⟨h1,h2,h3,h.b.own,h5,⟨h6.1,h.b.parts.2⟩,(dL fq Al C.cv.v C.E.cs).st hZ hm h.b.chars,(dL gl Al C.lv.v C.E.pl).st hZ hm h.b.places⟩,fun q hq=> ?_,h10⟩;obtain ⟨g,e,k1,k2,k3⟩:=h9 q hq;obtain ⟨g',e',j1,j2,j3⟩:=h.to q hq;refine ⟨g,e,k1,?_,k3⟩;simp at e e';rw [←e,e'];exact j2
end
section
variable {N:aP}
def jt (N:aP) (tag t:Nat) (C:Cfg) (tb:Option Nat) (ps:Ps) (fu:Nat) (ou:Bool) (tv:Int) (v:Value):Spec N:=⟨some tag,t,fun Z T u w=>u=v∧RunR C tb ps fu ou tv Z T w,fun Z Z' T u w w' hz he h=>⟨h.1,RunR.loc hz he h.2⟩,fun u=>u=v,fun _ _ _ _ h=>h.1⟩
def lu (N:aP) (tag t:Nat) (C:Cfg) (tb:Option Nat) (ps:Ps) (fu:Nat) (ou:Bool) (tv:Int):Spec N:=⟨some tag,t,fun Z T u w=>RunR C tb ps fu ou tv Z T w,fun Z Z' T u w w' hz he h=>RunR.loc hz he h,fun _=>True,fun _ _ _ _ _=>trivial⟩
def Dg (N:aP) (C:Cfg) (tb:Option Nat) (ps:Ps) (fu:Nat) (ou:Bool) (tv:Int):Ini N:=⟨fun Z T w=>RunR C tb ps fu ou tv Z T w,fun Z Z' T w w' hz he h=>RunR.loc hz he h⟩
abbrev ir {N:aP} {C:Cfg} {tb:Option Nat} {ps:Ps} {fu:Nat} {ou:Bool} {tv:Int} {Z T:aP} {w:World} (_:RunR C tb ps fu ou tv Z T w):Ini N:=Dg N C tb ps fu ou tv
end
theorem wG {τ:Nat→aP} {w:World}:∀g,fb τ w g→g < w.heap.size:=fun _ h=>h.1
theorem ke {τ:Nat→aP} {w:World} {t:Nat}:∀g,τ t g→¬fb τ w g:=fun g h hz=>hz.2 _ h
theorem jf {τ:Nat→aP} {w w':World} (h:w.heap.size≤w'.heap.size):∀g,fb τ w g→fb τ w' g:=fun _ hz=>⟨cR hz.1 h,hz.2⟩
section
variable {N:aP} {P:Program} {ops:Array Oper} {sp:List (Spec N)} {In:Nat→Ini N} {a0:Act} {w0:World} {bf:List Nat} {j:Nat} {o:Oper} {s:Spec N} {done:Nat→Bool} {a:Act} {w:World} {τ:Nat→aP} {C:Cfg} {tb:Option Nat} {ps ps':Ps} {fu fu':Nat} {ou ou':Bool} {tv tv':Int}
theorem Cx.ir (c:Cx ops sp In a0 w0 bf j o done a w τ) (t:Nat) (hI:In t=Dg N C tb ps fu ou tv) (hl:bH (sp.map (·.tag)) t j=none:=by exact rfl) (hord:jD (sp.map (·.tag)) bf t j=true:=by kernel_rfl):RunR C tb ps fu ou tv (fb τ w) (τ t) w:=c.ini t _ hI hl hord
theorem Cx.rr {t slot:Nat} {v:Value} (c:Cx ops sp In a0 w0 bf j o done a w τ) (i:Nat) (hs:sp[i]? =some (jt N t slot C tb ps fu ou tv v)) (hl:bH (sp.map (·.tag)) t j=some i:=by exact rfl) (hord:jD (sp.map (·.tag)) bf t j=true:=by kernel_rfl):RunR C tb ps fu ou tv (fb τ w) (τ t) w:=(c.res i t _ hs hl hord).2
theorem Cx.rv {t slot:Nat} {v:Value} (c:Cx ops sp In a0 w0 bf j o done a w τ) (i:Nat) (hs:sp[i]? =some (jt N t slot C tb ps fu ou tv v)) (hb:(bf.getD j 0).testBit i=true:=by exact rfl):a.eval (.tmp slot)=v:=c.J.pur i _ hs (c.pre i hb)
theorem iL {tag t:Nat} {v:Value} (h:∀{done a w τ},Cx ops sp In a0 w0 bf j o done a w τ→∃g args,fA P a o w g args∧Calls P g args w (fun e w'=>e= .returned v∧Ext (τ tag) w w'∧RunR C tb ps fu ou tv (fb τ w') (τ tag) w'))
    (hs:s=jt N tag t C tb ps fu ou tv v:=by exact rfl) (hg:o.guard=none:=by exact rfl) (hd:o.dst=some t:=by exact rfl):Ob ops sp In a0 w0 P bf j o s:=by
  subst hs;refine jv (tag:=tag) hg rfl fun done a w τ c=> ?_;obtain ⟨g,args,h1,h2⟩:=h c;refine ⟨g,args,h1,h2.mono fun e w' ⟨he,hx,hb⟩=>⟨v,he,hx,τ tag,fun g h=> .inl h,?_,hb.mono (kA fun _ h=>h) fun _ h=>h⟩⟩;show aT (a.put o.dst v) t=v;rw [hd,dA a t t _ (c.lt t hd),if_pos rfl]
theorem wH {tag t:Nat} (h:∀{done a w τ},Cx ops sp In a0 w0 bf j o done a w τ→∃g args v,fA P a o w g args∧Calls P g args w (fun e w'=>e= .returned v∧Ext (τ tag) w w'∧RunR C tb ps fu ou tv (fb τ w') (τ tag) w'))
    (hs:s=lu N tag t C tb ps fu ou tv:=by exact rfl) (hg:o.guard=none:=by exact rfl):Ob ops sp In a0 w0 P bf j o s:=by
  subst hs;refine jv (tag:=tag) hg rfl fun done a w τ c=> ?_;obtain ⟨g,args,v,h1,h2⟩:=h c;exact ⟨g,args,h1,h2.mono fun e w' ⟨he,hx,hb⟩=>⟨v,he,hx,τ tag,fun g h=> .inl h,hb.mono (kA fun _ h=>h) fun _ h=>h⟩⟩
theorem lO {tag t tt off:Nat} {x y:Operand} {v:Value} (hs:s=lu N tag t C tb ps fu' ou' tv) (hg:o.guard=none) (hd:o.dst=none) (ho:o.op= .store tt x y) (hsz:∀w,(sizeOf tt).run P w= .ok 1 w)
    (hv:v.cells=#[v]) (h1:v.oneCell'=true) (hfit:off+1≤17) (hc:C.cells fu' ou'=(C.cells fu ou).take off++ [v]++(C.cells fu ou).drop (off+1))
    (hp:∀{done a w τ},Cx ops sp In a0 w0 bf j o done a w τ→RunR C tb ps fu ou tv (fb τ w) (τ tag) w∧a.eval x= .pointer (some (C.ad.add off))∧a.eval y=v):Ob ops sp In a0 w0 P bf j o s:=by
  subst hs;refine ey hg rfl fun done a w τ c=> ?_;obtain ⟨hR,hx,hy⟩:=hp c;have hr:=run_store (P:=P) (t:=tt) (v:=v) (off:=off) hR.b.at' (by rw [hv];exact hsz) (by rw [hv];simpa [Cfg.cells,wk] using hfit) (by rw [hv];simpa using h1);rw [hv] at hr;have hr':(execOp a.eval o).run P w= .ok .skip (w.setRow C.g (C.cells fu' ou').toArray):=by
    simp only [execOp,ho,hx,hy,Sem.run_bind];have e:C.ad.add off=⟨C.g,off,none⟩:=lJ C.g off;rw [e,hr,hc];rfl
  have hext:=iG w C.g (C.cells fu' ou').toArray;refine iH hr' ⟨_,rfl,hext.mono fun k _ hk=>by subst hk;exact hR.b.own,τ tag,fun g h=> .inl h,?_⟩;have hm:Ext (fun g=>¬fb τ w g) w (w.setRow C.g (C.cells fu' ou').toArray):=hext.mono fun k _ hk=>by subst hk;exact ke _ hR.b.own
  have hsz2:w.heap.size≤(w.setRow C.g (C.cells fu' ou').toArray).heap.size:=hext.size;have hzz:∀g,fb τ w g→fb (nn τ tag (τ tag)) (w.setRow C.g (C.cells fu' ou').toArray) g:=fun g hz=>kA (fun _ h=>h) g (jf hsz2 g hz);obtain ⟨⟨k1,k2,k3,k4,k5,k6,k7,k8⟩,k9,k10⟩:=hR;refine ⟨⟨k1,k2,by simpa [World.setRow] using k3,k4,?_,⟨iZ.keep k6.1 hext fun g hg he=>k1.pg g hg he,k6.2⟩,(dL fq Al C.cv.v C.E.cs).st hzz hm k7,(dL gl Al C.lv.v C.E.pl).st hzz hm k8⟩,fun q hq=> ?_,k10⟩
  · exact setRow_heap w C.g _ _ C.rt _ k5
  · obtain ⟨g,e,l1,l2,l3⟩:=k9 q hq;refine ⟨g,e,cR l1 hsz2,l2,?_⟩;rw [hext.block g l1 (by simp at e;intro he;exact (k10 q hq).1 (by rw [e,he]))];exact l3
end
section
variable {N:aP} {l:List Oper} {sp:List (Spec N)} {il:List (Ini N)} {a0 a:Act} {w:World} {τ:Nat→aP} {C:Cfg} {tb:Option Nat} {ps:Ps} {fu:Nat} {ou:Bool} {tv:Int}
theorem Fin.ir (h:Fin l sp il a0 a w τ) (t:Nat) (hI:eI il t=Dg N C tb ps fu ou tv) (hl:bH (sp.map (·.tag)) t sp.length=none:=by exact rfl):RunR C tb ps fu ou tv (fb τ w) (τ t) w:=by
  have:=h.ini t hl;rw [hI] at this;exact this
theorem Fin.rv {t slot:Nat} {v:Value} (h:Fin l sp il a0 a w τ) (j:Nat) (hs:sp[j]? =some (jt N t slot C tb ps fu ou tv v)) (hl:bH (sp.map (·.tag)) t sp.length=some j:=by exact rfl):aT a slot=v:=(h.res j t _ hs rfl hl).1
theorem Fin.rr {t slot:Nat} {v:Value} (h:Fin l sp il a0 a w τ) (j:Nat) (hs:sp[j]? =some (jt N t slot C tb ps fu ou tv v)) (hl:bH (sp.map (·.tag)) t sp.length=some j:=by exact rfl):RunR C tb ps fu ou tv (fb τ w) (τ t) w:=(h.res j t _ hs rfl hl).2
theorem Fin.r0 {t slot:Nat} (h:Fin l sp il a0 a w τ) (j:Nat) (hs:sp[j]? =some (lu N t slot C tb ps fu ou tv)) (hl:bH (sp.map (·.tag)) t sp.length=some j:=by exact rfl):RunR C tb ps fu ou tv (fb τ w) (τ t) w:=h.res j t _ hs rfl hl
end
end
section
open Go.RowKit
abbrev jr {N:aP} {τ:Nat→aP} {w:World} {C:Cfg} {tb:Option Nat} {ps:Ps} {fu t:Nat} {ou:Bool} {tv:Int} (h:RunR C tb ps fu ou tv (fb τ w) (τ t) w):IE N τ w:=⟨Dg N C tb ps fu ou tv,t,h⟩
end
section
open Go.RowKit Srt
section
variable {P:Program} {a:Act} {o:Oper} {w:World}
theorem Fk {x x1:Operand} {ts:Array TypeId} {v1:Value} {f:FuncId} {caps:Array Value} (ho:o.op= .call { callee:= .value x,args:=#[x1],argTypes:=ts }) (hx:a.eval x= .func (.func f) #[] caps) (hcall:∀args w,(callFunc f args).run P w= .ok (.enter f args) w) (h1:a.eval x1=v1):fA P a o w f (#[v1]++caps):=
  mH ho hx hcall (by simp [h1])
theorem ql {f:FuncId} {x1 x2 x3 x4 x5:Operand} {v1 v2 v3 v4 v5:Value} (ho:o.op= .makeFunc (.func f) #[] #[x1,x2,x3,x4,x5]) (h1:a.eval x1=v1) (h2:a.eval x2=v2) (h3:a.eval x3=v3) (h4:a.eval x4=v4) (h5:a.eval x5=v5):cp P a o w (.func (.func f) #[] #[v1,v2,v3,v4,v5]):=by
  subst h1 h2 h3 h4 h5;simp [cp,execOp,ho,Instr.makeFunc]
theorem wI {t e:TypeId} {x y:Operand} {v:Value} {n m lo hi i:Nat} {k:IntKind} (ho:o.op= .indexAddr t x y) (ht:P.underlying t=some (.slice e)) (hz:∀w,(sizeOf e).run P w= .ok m w) (hx:a.eval x=gp v lo hi m) (hv:mG v n) (hy:a.eval y= .int k (i:Int)) (h1:lo+i < hi) (h2:hi≤n):
    cp P a o w (.pointer (some ((cW v).add ((lo+i) * m)))):=by
  rcases hv with ⟨_,rfl⟩ | ⟨b,cap,rfl,hc,_⟩
  · omega
  · have hne:¬cap=lo:=by omega
    have h3:(i:Int) < ((hi - lo:Nat):Int):=by omega
    have h0:(0:Int)≤(i:Int):=by omega
    have e2:gp (.slice (some b) n cap) lo hi m= .slice (some (b.add (lo * m))) (hi - lo) (cap - lo):=by simp [gp,hne]
    rw [e2] at hx;have hq:=aK (w:=w) (n:=hi - lo) ho ht hz hx (.inr ⟨_,_,rfl,by omega,by omega⟩) hy h0 h3;have e3:cW (.slice (some (b.add (lo * m))) (hi - lo) (cap - lo))=b.add (lo * m):=rfl;rw [e3,add_add,iS,←fS] at hq;exact hq
theorem sR {v:Value} {n lo hi m:Nat} (hv:mG v n) (h1:lo≤hi) (h2:hi≤n):mG (gp v lo hi m) (hi - lo):=by
  rcases hv with ⟨rfl,rfl⟩ | ⟨b,cap,rfl,hc,hm⟩
  · left;simp [gp];omega
  · right;exact ⟨if cap=lo then b else b.add (lo * m),cap - lo,by simp only [gp];split <;> rfl,by omega,by omega⟩
theorem sS {dT sT ty elem:TypeId} {g o' dLen dCap:Nat} {sa:Option Addr} {sLen sCap m:Nat} {cur:Array Value} {t:TypeId} {cs:List Value}
    (hu:P.underlying dT=some (.slice elem)) (hs:(P.info? elem).map (·.size)=some m)
    (hg:w.heap[g]? =some (.cells cur t (0,0))) (hn:cs.length=Nat.min sLen dLen * m)
    (hsrc:∀ad,sa=some ad→∀j v,cs[j]? =some v→w.cell? (ad.add j)=some v) (hsn:sa=none→cs=[]) (hfit:o'+cs.length≤cur.size) (h1:∀v ∈ cs,v.oneCell'=true):
    (Builtin.copy_ #[dT,sT] ty #[.slice (some ⟨g,o',none⟩) dLen dCap,.slice sa sLen sCap]).run P w=
      .ok (goInt (Nat.min sLen dLen)) (w.setRow g (cur.toList.take o'++cs++cur.toList.drop (o'+cs.length)).toArray):=by
  have hst:=run_storeCells_at P g o' t cs 0 cur w hg (by simpa using hfit) h1;cases hq:P.info? elem with
  | none => simp [hq] at hs
  | some i =>
    have hi:i.size=m:=by simpa [hq] using hs
    cases sa with
    | none =>
      have hc:=hsn rfl;subst hc;simp only [kS] at hst;simp [Builtin.copy_,run_underlying hu,Builtin.lenOf,Builtin.firstCells,sizeOf,typeInfo,hq,hi,hst]
    | some ad =>
      have hl:=run_loadCells_list (P:=P) w ad cs (hsrc ad rfl);rw [hn] at hl;simp only [kS] at hst;simp [Builtin.copy_,run_underlying hu,Builtin.lenOf,Builtin.firstCells,sizeOf,typeInfo,hq,hi,hl,hst]
end
section
variable {α:Type} {E:Enc α} {ty:Nat} {P:Program} {w:World}
theorem qm {dT sT rt elem:TypeId} {v u:Value} {xs ys:List α} {lo hi:Nat} (h:iZ E ty w v xs) (hu:SlT E w u ys) (hdT:P.underlying dT=some (.slice elem)) (hsz:(P.info? elem).map (·.size)=some E.sz)
    (h1:lo≤hi) (h2:hi≤xs.length) (hl:ys.length=hi - lo):
    ∃w',(Builtin.copy_ #[dT,sT] rt #[gp v lo hi E.sz,u]).run P w= .ok (goInt ys.length) w'∧iZ E ty w' v (xs.take lo++ys++xs.drop hi)∧Ext (fun k=>v.ownBlock=some k) w w':=by
  have hpos:=E.pos;have hxl:(xs.take lo++ys++xs.drop hi).length=xs.length:=by simp;omega
  rcases h.2 with ⟨rfl,h0⟩ | ⟨g,cap,cur,rfl,hb,hg,g2,g3,g4,g5⟩
  · obtain rfl:hi=0:=by omega
    obtain rfl:lo=0:=by omega
    have hy:ys=[]:=bV (by omega);have hx:xs=[]:=bV (by omega);subst hy;subst hx;refine ⟨w,?_,by simpa using h,Ext.refl _ _⟩;cases hq:P.info? elem with
    | none => simp [hq] at hsz
    | some i =>
      rcases hu.sl with ⟨rfl,_⟩ | ⟨b,cap,rfl,_⟩
      · simp [gp,Builtin.copy_,run_underlying hdT,Builtin.lenOf,Builtin.firstCells,sizeOf,typeInfo,hq]
      · have hl0:(loadCells b 0).run P w= .ok #[] w:=by simpa using run_loadCells_list (P:=P) w b [] (by simp)
        simp [gp,Builtin.copy_,run_underlying hdT,Builtin.lenOf,Builtin.firstCells,sizeOf,typeInfo,hq,hl0]
  · have hcs:(E.row ys).length=ys.length * E.sz:=E.row_length _;have hm1:hi * E.sz≤xs.length * E.sz:=gW _ h2;have hm2:xs.length * E.sz≤cap * E.sz:=gW _ g2;have hm3:lo * E.sz+ys.length * E.sz=hi * E.sz:=by rw [←fS];congr 1;omega
    obtain ⟨sa,sCap,hue,hsa,hsn⟩:∃sa sCap,u= .slice sa ys.length sCap∧(∀ad,sa=some ad→∀j x,(E.row ys)[j]? =some x→w.cell? (ad.add j)=some x)∧(sa=none→E.row ys=[]):=by
      rcases hu.sl with ⟨e,h0⟩ | ⟨b,cap2,e,_⟩
      · refine ⟨none,0,by rw [e,h0],fun _ h=>(by cases h),fun _=> ?_⟩;rw [bV h0];rfl
      · refine ⟨some b,cap2,e,fun ad h j x hj=> ?_,fun h=>by cases h⟩;cases h
        have:=hu.cell j x hj;rw [e] at this;exact this
    subst hue;by_cases hc:cap=lo
    · obtain rfl:hi=lo:=by omega
      have hy:ys=[]:=bV (by omega);subst hy;have hr:=sS (P:=P) (sT:=sT) (ty:=rt) (o':=0) (dLen:=0) (dCap:=0) (sa:=sa) (sLen:=0) (sCap:=sCap) (cs:=[]) hdT hsz hg (by simp) (fun _ _ j v hj=>by simp at hj) (fun _=>rfl) (by simp) (by simp);have hw:w.setRow g (cur.toList.take 0++ []++cur.toList.drop (0+([]:List Value).length)).toArray=w:=by
        simp only [List.take_zero,gu,cf,kS,li,Array.toArray_toList];exact setRow_self w g cur ty (0,0) hg
      rw [hw] at hr;refine ⟨w,?_,by simpa using h,Ext.refl _ _⟩;have e2:gp (.slice (some ⟨g,0,none⟩) xs.length cap) hi hi E.sz= .slice (some ⟨g,0,none⟩) 0 0:=by simp [gp,hc]
      rw [e2];simpa using hr
    · have e2:gp (.slice (some ⟨g,0,none⟩) xs.length cap) lo hi E.sz= .slice (some ⟨g,lo * E.sz,none⟩) (hi - lo) (cap - lo):=by
        simp [gp,hc,lJ]
      have hmin:Nat.min ys.length (hi - lo)=ys.length:=by rw [hl];exact Nat.min_self _
      have hr:=sS (P:=P) (sT:=sT) (ty:=rt) (o':=lo * E.sz) (dLen:=hi - lo) (dCap:=cap - lo) (sa:=sa) (sLen:=ys.length) (sCap:=sCap) (cs:=E.row ys) hdT hsz hg (by rw [hmin,hcs]) hsa hsn (by rw [hcs];omega) E.row_one;rw [hmin] at hr;rw [e2];refine ⟨_,hr,⟨by rw [E.row_length],.inr ⟨g,cap,_,by rw [hxl],hb,setRow_heap w g cur _ ty _ hg,by rw [hxl];exact g2,g3,?_,?_⟩⟩,(iG w g _).mono fun k _ h=>by rw [h];rfl⟩
      · simp only [jT,ci,dE,es,fl,hcs];omega
      · rw [hxl];have e3:E.row (xs.take lo++ys++xs.drop hi)=(E.row xs).take (lo * E.sz)++E.row ys++(E.row xs).drop (hi * E.sz):=by
          rw [E.row_append,E.row_append,E.row_take,E.row_drop]
        rw [e3,←g5,List.take_take,List.drop_take,hcs,hm3];have e4:min (lo * E.sz) (xs.length * E.sz)=lo * E.sz:=by omega
        rw [e4];have hA:(cur.toList.take (lo * E.sz)++E.row ys).length=hi * E.sz:=by simp [hcs];omega
        show (cur.toList.take (lo * E.sz)++E.row ys++cur.toList.drop (hi * E.sz)).take (xs.length * E.sz)=_;rw [jj,hA,bF (by omega)]
end
section
variable {C:Cfg} {ps ps':Ps} {fu:Nat} {ou:Bool} {tv:Int} {tb:Option Nat} {Z Z' T:aP} {w w':World}
theorem RunB.turn (h:RunB C ps fu ou Z T w) (hx:Ext (fun k=>C.pv.v.ownBlock=some k) w w') (ho:iZ bP C.st w' C.pv.v ps') (hl:ps'.length=ps.length) (hZ:∀g,Z g→Z' g) (hd:∀g,T g→¬Z g):RunB C ps' fu ou Z' T w':=by
  have hm:Ext (fun g=>¬Z g) w w':=hx.mono fun g _ hg hz=>hd _ (h.parts.2 g hg) hz;obtain ⟨k1,k2,k3,k4,k5,k6,k7,k8⟩:=h;refine ⟨k1,hl.trans k2,cR k3 hx.size,k4,?_,⟨ho,k6.2⟩,(dL fq Al C.cv.v C.E.cs).st hZ hm k7,(dL gl Al C.lv.v C.E.pl).st hZ hm k8⟩;rw [hx.block C.g k3 fun hb=>k1.pg _ hb rfl];exact k5
theorem RunR.turn (h:RunR C tb ps fu ou tv Z T w) (hx:Ext (fun k=>C.pv.v.ownBlock=some k) w w') (ho:iZ bP C.st w' C.pv.v ps') (hl:ps'.length=ps.length) (hZ:∀g,Z g→Z' g) (hd:∀g,T g→¬Z g):RunR C tb ps' fu ou tv Z' T w':=by
  refine ⟨h.b.turn hx ho hl hZ hd,fun q hq=> ?_,h.tg⟩;obtain ⟨g,e,l1,l2,l3⟩:=h.to q hq;refine ⟨g,e,cR l1 hx.size,l2,?_⟩;rw [hx.block g l1 fun hb=>(h.tg q hq).2 _ hb (by simp at e;exact e.symm)];exact l3
theorem fQ {ps:Ps} {lo n:Nat} (h:lo+n≤ps.length):(da ps lo n).length=ps.length:=by
  simp [da];omega
end
section
variable {N:aP} {P:Program} {ops:Array Oper} {sp:List (Spec N)} {In:Nat→Ini N} {a0:Act} {w0:World} {bf:List Nat} {j:Nat} {o:Oper} {s:Spec N} {done:Nat→Bool} {a:Act} {w:World} {τ:Nat→aP} {C:Cfg} {tb:Option Nat} {ps ps':Ps} {fu fu':Nat} {ou ou':Bool} {tv tv':Int} {pc:Prop}
theorem eT {ty t:Nat} {cells:List Value} {x:Operand} {v:Value} (hgd:uX ops sp bf j o pc) (ho:o.op= .box ty x) (hc:v.cells=cells.toArray)
    (h:∀{done a w τ},Cx ops sp In a0 w0 bf j o done a w τ→pc→a.eval x=v)
    (hs:s=eS N t pc (fun b:Nat=> .pointer (some ⟨b,0,none⟩)) (fun _=>True) (fun b=>cM ⟨b,0,none⟩ cells):=by exact rfl) (hd:o.dst=some t:=by exact rfl):Ob ops sp In a0 w0 P bf j o s:=by
  subst hs;intro done a w τ c;refine ⟨fun hw=> ?_,fun hw=>⟨Ext.refl _ _,fun hp=>by rw [(hgd.known c).2 hp] at hw;cases hw⟩⟩;have hp:=(hgd.known c).1 hw;have hr:(execOp a.eval o).run P w= .ok (.value (.pointer (some ⟨w.heap.size,0,none⟩))) (w.alloc (.cells cells.toArray ty)):=by
    simp only [execOp,ho,h c hp,Instr.box,newVar,newRow,newObj,hc];rfl
  refine fP hr ⟨_,rfl,Ext.alloc _ _ _,fun _=>⟨w.heap.size,?_,ax,⟨⟨by simp,fun t ht=> ?_⟩,fun j u hu=> ?_⟩⟩⟩
  · show aT (a.put o.dst _) t=_;rw [hd,dA a t t _ (c.lt t hd),if_pos rfl]
  · have:=(c.J.bnd t _ ht).2;exact absurd this (Nat.lt_irrefl _)
  · exact (tH (ty:=ty) (cells:=cells) (w:=w)).cell hu
def Fm {α:Type} (E:Enc α) (ty:Nat) (N:aP) (tag t:Nat) (v:Value) (xs:List α):Spec N:=⟨some tag,t,fun _ T _ w=>eb E ty xs T v w,fun _ _ T u w w' _ h hr=>jY T v w w' h.less hr,fun _=>True,fun _ _ _ _ _=>trivial⟩
theorem yX {α:Type} {E:Enc α} {ty tag t tt i:Nat} {v:Value} {xs:List α} {x x':α} {p q:Operand} {u:Value} (hs:s=Fm E ty N tag t v (xs.set i x')) (hg:o.guard=none) (hd:o.dst=none) (ho:o.op= .store tt p q) (hsz:∀w,(sizeOf tt).run P w= .ok u.cells.size w)
    (hx:xs[i]? =some x) (hl:0+u.cells.size≤E.sz) (h1:∀c ∈ u.cells.toList,c.oneCell'=true) (hc:E.cells x'=ja (E.cells x) 0 u.cells.toList)
    (hp:∀{done a w τ},Cx ops sp In a0 w0 bf j o done a w τ→eb E ty xs (τ tag) v w∧a.eval p= .pointer (some ((cW v).add (i * E.sz)))∧a.eval q=u):Ob ops sp In a0 w0 P bf j o s:=by
  subst hs;refine ey hg rfl fun done a w τ c=> ?_;obtain ⟨⟨hown,hT⟩,hp',hq⟩:=hp c;obtain ⟨w',hr,h2,h3⟩:=lS (P:=P) (tt:=tt) hown hx hsz hl h1 hc;have hr':(execOp a.eval o).run P w= .ok .skip w':=by
    have hr2:(Instr.storeAt tt (.pointer (some ((cW v).add (i * E.sz)))) u).run P w= .ok () w':=hr;simp only [execOp,ho,hp',hq,Sem.run_bind,hr2];rfl
  exact iH hr' ⟨_,rfl,h3.mono fun k _ hk=>hT k hk,τ tag,fun g h=> .inl h,h2,hT⟩
theorem rJ {tag t tt i:Nat} {x x':Int × Int} {p q:Operand} (hs:s=lu N tag t C tb (ps.set i x') fu ou tv) (hg:o.guard=none) (hd:o.dst=none) (ho:o.op= .store tt p q) (hsz:∀w,(sizeOf tt).run P w= .ok 2 w)
    (hx:ps[i]? =some x)
    (hp:∀{done a w τ},Cx ops sp In a0 w0 bf j o done a w τ→RunR C tb ps fu ou tv (fb τ w) (τ tag) w∧a.eval p= .pointer (some ((cW C.pv.v).add (i * 2)))∧a.eval q=lK x'):Ob ops sp In a0 w0 P bf j o s:=by
  subst hs;refine ey hg rfl fun done a w τ c=> ?_;obtain ⟨hR,hp',hq⟩:=hp c;obtain ⟨w',hr,h2,h3⟩:=lS (P:=P) (tt:=tt) (u:=lK x') (off:=0) (x':=x') hR.b.parts.1 hx (by exact hsz) (by exact br _) (by simp [lK,Value.cells,Value.oneCell']) (by
    simp [bP,lK,Value.cells,ja])
  have hr':(execOp a.eval o).run P w= .ok .skip w':=by
    have hr2:(Instr.storeAt tt (.pointer (some ((cW C.pv.v).add (i * 2)))) (lK x')).run P w= .ok () w':=hr;simp only [execOp,ho,hp',hq,Sem.run_bind,hr2];rfl
  exact iH hr' ⟨_,rfl,h3.mono fun k _ hk=>hR.b.parts.2 k hk,τ tag,fun g h=> .inl h,hR.turn h3 h2 (by simp) (fun g hz=>kA (fun _ h=>h) g (jf h3.size g hz)) fun g h=>ke g h⟩
theorem rK {tag t dT sT e lo hi:Nat} {ys:Ps} {x y:Operand} (hs:s=jt N tag t C tb (ps.take lo++ys++ps.drop hi) fu ou tv (.int .i64 (ys.length:Int))) (hg:o.guard=none) (hd:o.dst=some t)
    (ho:o.op= .call { callee:= .builtin .copy,args:=#[x,y],argTypes:=#[dT,sT] }) (hdT:P.underlying dT=some (.slice e)) (hsz:(P.info? e).map (·.size)=some 2)
    (h1:lo≤hi) (h2:hi≤ps.length) (hl:ys.length=hi - lo)
    (hp:∀{done a w τ},Cx ops sp In a0 w0 bf j o done a w τ→RunR C tb ps fu ou tv (fb τ w) (τ tag) w∧a.eval x=gp C.pv.v lo hi 2∧∃u,a.eval y=u∧SlT bP w u ys):Ob ops sp In a0 w0 P bf j o s:=by
  subst hs;refine ey hg rfl fun done a w τ c=> ?_;obtain ⟨hR,hx,u,hy,hu⟩:=hp c;obtain ⟨w',hr,k2,k3⟩:=qm (P:=P) (sT:=sT) (rt:=o.type) hR.b.parts.1 hu hdT hsz h1 h2 hl;have hr':(execOp a.eval o).run P w= .ok (.value (.int .i64 (ys.length:Int))) w':=by
    have hr2:(Builtin.copy_ #[dT,sT] o.type #[gp C.pv.v lo hi 2,u]).run P w= .ok (goInt ys.length) w':=hr;simp only [execOp,ho,resolve,invoke,builtin,Sem.run_bind,Sem.run_pure,Result.andThen_ok,eu,bz,bU,hx,hy,hr2];rfl
  refine fP hr' ⟨_,rfl,k3.mono fun k _ hk=>hR.b.parts.2 k hk,τ tag,fun g h=> .inl h,?_,hR.turn k3 k2 (by simp;omega) (fun g hz=>kA (fun _ h=>h) g (jf k3.size g hz)) fun g h=>ke g h⟩;show aT (a.put o.dst _) t=_;rw [hd,dA a t t _ (c.lt t hd),if_pos rfl]
theorem pp {α:Type} {E:Enc α} {ty e tag t:Nat} {ys:List α} {y:Operand} {z:Value} {i:TypeInfo} (hs:s=own E e N tag t ys) (hg:o.guard=none) (hd:o.dst=some t)
    (ho:o.op= .call { callee:= .builtin .append,args:=#[.const (.slice none 0 0),y],argTypes:=#[ty,ty] })
    (hty:P.underlying ty=some (.slice e)) (hi:P.info? e=some i) (hz:i.zero=some z) (hsize:i.size=E.sz) (hzs:z.cells.size=E.sz)
    (h63:ys.length≤maxLen) (hby:ys.length * i.bytes≤140737488355328)
    (hp:∀{done a w τ},Cx ops sp In a0 w0 bf j o done a w τ→∃u,a.eval y=u∧SlT E w u ys):Ob ops sp In a0 w0 P bf j o s:=by
  subst hs;refine ey hg rfl fun done a w τ c=> ?_;obtain ⟨u,hy,hsl⟩:=hp c;obtain ⟨v',w',hr,h2,h3,h4⟩:=oG (P:=P) (E:=E) ty o.type e i z hty hi hz hsize hzs (iZ.nil E e w) hsl (by simpa using h63) (by simpa using hby);have hr':(execOp a.eval o).run P w= .ok (.value v') w':=by
    simp only [execOp,ho,resolve,invoke,builtin,Sem.run_bind,Sem.run_pure,Result.andThen_ok,eu,bz,bU,hy];have hr2:(Builtin.append_ #[ty,ty] o.type #[a.eval (.const (.slice none 0 0)),u]).run P w= .ok v' w':=hr;simp only [hr2];rfl
  rw [gu] at h2;refine fP hr' ⟨_,rfl,h3.mono (fun k _ h=>by simp [Value.ownBlock] at h),fun g=>v'.ownBlock=some g,fun g hg=>(h4 g hg).elim (fun h=>by simp [Value.ownBlock] at h) (fun h=> .inr h),?_⟩;show eb E e ys _ (aT (a.put o.dst _) t) _;rw [hd,dA a t t _ (c.lt t hd),if_pos rfl];exact ⟨h2,fun g h=>h⟩
end
section
variable {N:aP} {l:List Oper} {sp:List (Spec N)} {il:List (Ini N)} {a0 a:Act} {w:World} {τ:Nat→aP}
theorem Fin.ov {α:Type} {E:Enc α} {ty t slot:Nat} {v:Value} {xs:List α} (h:Fin l sp il a0 a w τ) (j:Nat) (hs:sp[j]? =some (Fm E ty N t slot v xs)) (hl:bH (sp.map (·.tag)) t sp.length=some j:=by exact rfl):eb E ty xs (τ t) v w:=h.res j t _ hs rfl hl
end
def dG (ps:Ps) (x:Rs):Ps:=match x.1 with
  | some y => y.2
  | none => ps
def dx (tv:Int) (x:Rs):Int:=match x.1 with
  | some y => (y.1 : Int)
  | none => tv
def mt (C:Cfg) (tb:Option Nat) (ps:Ps) (tv:Int) (x:Rs) (w:World) (e:Ending) (w':World):Prop:=e= .returned (.bool x.1.isSome)∧Ext (Td C tb) w w'∧gR C tb (dG ps x) x.2.1 x.2.2 (dx tv x) w'
def GW (P:Program) (C:Cfg) (tb:Option Nat) (B:Nat) (K:dJ) (kf:Value) (Z:aP) (w:World):Prop:=∃f caps,kf= .func (.func f) #[] caps∧(∀args w,(callFunc f args).run P w= .ok (.enter f args) w)∧
  ∀(to:Nat) (ps:Ps) (fu:Nat) (tv:Int) (w2:World),Ext (fun g=>¬Z g) w w2→gR C tb ps fu false tv w2→to≤C.E.cs.length→fu < B→fu≤1000000→(∀g,Z g→Fr C tb w2 g)→Calls P f (#[.int .i64 (to:Int)]++caps) w2 (mt C tb ps tv (K to ps (fu,false)) w2)
def zK (P:Program) (C:Cfg) (tb:Option Nat) (B:Nat) (K:dJ) (kf:Value):ZP:=⟨fun Z w=>GW P C tb B K kf Z w,fun hz he ⟨f,caps,h1,h2,h3⟩=>⟨f,caps,h1,h2,fun to ps fu tv w2 hx hR ht hf hm hfr=>h3 to ps fu tv w2 (he.trans (hx.mono fun g _ hn hg=>hn (hz g hg))) hR ht hf hm fun g hg=>hfr g (hz g hg)⟩⟩
section
variable {C:Cfg} {ps ps':Ps} {fu fu' B B':Nat} {ou ou':Bool} {tv tv':Int} {tb:Option Nat} {Z Z' T:aP} {w w':World} {P:Program} {K:dJ} {kf:Value}
theorem GW.less (h:GW P C tb B K kf Z w) (hB:B'≤B):GW P C tb B' K kf Z w:=by
  obtain ⟨f,caps,h1,h2,h3⟩:=h;exact ⟨f,caps,h1,h2,fun to ps fu tv w2 hx hR ht hf=>h3 to ps fu tv w2 hx hR ht (by omega)⟩
theorem wJ (h:(zK P C tb B K kf).P Z w):kf.cells=#[kf]:=by obtain ⟨f,caps,rfl,_⟩:=h;rfl
theorem gR.in {n:Nat} {a:Act} {τ:Nat→aP} (h:gR C tb ps fu ou tv w) (hτ:τ 0=Td C tb) (st:St (fun k=>Td C tb k∨w.heap.size≤k) w n a w τ):RunR C tb ps fu ou tv (fb τ w) (τ 0) w:=
  h.mono (fun g hg=>⟨hg.1,fun t ht=>(st.bnd t g ht).1.elim (fun h=>hg.2 h) (fun h=>by have:=hg.1;omega)⟩) (fun g hg=>by rw [hτ];exact hg)
theorem ko {n:Nat} {a:Act} {τ:Nat→aP} {Φ:ZP} (h:Φ.P (Fr C tb w) w) (st:St (fun k=>Td C tb k∨w.heap.size≤k) w n a w τ):Fz Φ τ w:=
  Φ.st (fun g hg=>⟨hg.1,fun t ht=>(st.bnd t g ht).1.elim (fun h=>hg.2 h) (fun h=>by have:=hg.1;omega)⟩) (Ext.refl _ w) h
theorem gR.tdlt (h:gR C tb ps fu ou tv w):∀g,Td C tb g→g < w.heap.size:=RunR.tdlt h
theorem mu {τ:Nat→aP} {f:FuncId} {args:Array Value} {x:Rs} (h:RunR C tb ps fu ou tv (fb τ w) (τ 0) w) (hc:Calls P f args w (mt C tb ps tv x w)):
    Calls P f args w (fun e w'=>e= .returned (.bool x.1.isSome)∧Ext (τ 0) w w'∧RunR C tb (dG ps x) x.2.1 x.2.2 (dx tv x) (fb τ w') (τ 0) w'):=
  hc.mono fun e w' ⟨h1,h2,h3⟩=>⟨h1,h2.mono fun g _ hg=>h.td g hg,h3.back h h2 (fun g hg=>ke g hg) (jf h2.size)⟩
theorem EE {τ:Nat→aP} {f:FuncId} {args:Array Value} {v:Value} (h:RunR C tb ps fu ou tv (fb τ w) (τ 0) w) (hc:Calls P f args w (fun e w'=>e= .returned v∧Ext (Td C tb) w w'∧gR C tb ps' fu' ou' tv' w')):
    Calls P f args w (fun e w'=>e= .returned v∧Ext (τ 0) w w'∧RunR C tb ps' fu' ou' tv' (fb τ w') (τ 0) w'):=
  hc.mono fun e w' ⟨h1,h2,h3⟩=>⟨h1,h2.mono fun g _ hg=>h.td g hg,h3.back h h2 (fun g hg=>ke g hg) (jf h2.size)⟩
theorem kZ {x:Rs} (h:x.1.isSome=false):dG ps x=ps:=by
  unfold dG;cases hx:x.1 with
  | none => rfl
  | some y => rw [hx] at h; cases h
theorem pM {x:Rs} (h:x.1.isSome=false):dx tv x=tv:=by
  unfold dx;cases hx:x.1 with
  | none => rfl
  | some y => rw [hx] at h; cases h
theorem sU {x:Rs} (h:x.1.isSome=true):dG ps x=dG ps' x:=by
  unfold dG;cases hx:x.1 with
  | none => rw [hx] at h; cases h
  | some y => rfl
theorem RunR.nope {x:Rs} (h:RunR C tb (dG ps x) fu ou (dx tv x) Z T w) (hx:x.1.isSome=false):RunR C tb ps fu ou tv Z T w:=by rwa [kZ hx,pM hx] at h
theorem RunR.yep {x:Rs} (h:RunR C tb (dG ps x) fu ou (dx tv x) Z T w) (hx:x.1.isSome=true):RunR C tb (dG ps' x) fu ou (dx tv x) Z T w:=by rwa [sU hx] at h
theorem RunR.ouf (h:RunR C tb ps fu ou tv Z T w) (ho:ou=false):RunR C tb ps fu false tv Z T w:=ho ▸ h
theorem RunR.psc (h:RunR C tb ps fu ou tv Z T w) (e:ps'=ps):RunR C tb ps' fu ou tv Z T w:=e ▸ h
theorem kX {x:Rs} (h:x.1.isSome=false):x=(Option.none,x.2):=by
  obtain ⟨a,b⟩:=x;cases a with
  | none => rfl
  | some y => cases h
theorem xP {v:Value} {lo hi m:Nat} (h:lo≤hi):gp v lo hi m=gp v lo (lo+(hi - lo)) m:=by rw [show lo+(hi - lo)=hi by omega]
theorem oO {τ:Nat→aP} {f:FuncId} {args:Array Value} {v:Value} (h:RunR C tb ps fu ou tv (fb τ w) (τ 0) w) (hl:ps'.length=ps.length) (hc:Calls P f args w (fun e w'=>e= .returned v∧iZ bP C.st w' C.pv.v ps'∧Ext (fun k=>C.pv.v.ownBlock=some k) w w')):
    Calls P f args w (fun e w'=>e= .returned v∧Ext (τ 0) w w'∧RunR C tb ps' fu ou tv (fb τ w') (τ 0) w'):=
  hc.mono fun e w' ⟨h1,h2,h3⟩=>⟨h1,h3.mono fun g _ hg=>h.b.parts.2 g hg,h.turn h3 h2 hl (jf h3.size) fun g hg=>ke g hg⟩
theorem RunR.dz {τ:Nat→aP} (h:RunR C tb ps fu ou tv (fb τ w) (τ 0) w):gR C tb ps fu ou tv w:=h.d (fun g hg=>ke g hg) wG
theorem RunR.fz {τ:Nat→aP} {Φ:ZP} (h:RunR C tb ps fu ou tv (fb τ w) (τ 0) w) (hz:Φ.P (fb τ w) w):Φ.P (Fr C tb w) w:=h.fr (fun g hg=>ke g hg) wG hz
theorem lw {τ:Nat→aP} {a:Act} {o:Oper} {x x1:Operand} {ts:Array TypeId} {to:Nat} (h:RunR C tb ps fu false tv (fb τ w) (τ 0) w) (hk:(zK P C tb B K kf).P (fb τ w) w) (ht:to≤C.E.cs.length) (hf:fu < B) (hm:fu≤1000000)
    (ho:o.op= .call { callee:= .value x,args:=#[x1],argTypes:=ts }) (hx:a.eval x=kf) (h1:a.eval x1= .int .i64 (to:Int)):
    ∃g args,fA P a o w g args∧Calls P g args w (fun e w'=>e= .returned (.bool (K to ps (fu,false)).1.isSome)∧Ext (τ 0) w w'∧RunR C tb (dG ps (K to ps (fu,false))) (K to ps (fu,false)).2.1 (K to ps (fu,false)).2.2 (dx tv (K to ps (fu,false))) (fb τ w') (τ 0) w'):=by
  obtain ⟨f,caps,e1,e2,e3⟩:=hk;exact ⟨f,_,Fk ho (hx.trans e1) e2 h1,mu h (e3 to ps fu tv w (Ext.refl _ _) h.dz ht hf hm fun g hg=>⟨wG g hg,fun ht=>ke g (h.td g ht) hg⟩)⟩
end
end
section
open Go.RowKit Srt
def uQ (G:aP) (p:Pt):ZP:=⟨fun Z w=>PtT (fun g=>Z g∧G g) w p,fun hz he h=>(PtT.keep h he fun g hg hn=>hn hg.1).mono fun g hg _=>⟨hz g hg.1,hg.2⟩⟩
def yY (G:aP) (l:List Pt):ZP:=⟨fun Z w=>∀p ∈ l,PtT (fun g=>Z g∧G g) w p,fun hz he h p hp=>(uQ G p).st hz he (h p hp)⟩
section
variable {G F Z:aP} {τ:Nat→aP} {w w':World} {p:Pt} {l:List Pt}
theorem Fz.pn (G:aP) (τ:Nat→aP) (w:World):Fz (yY G []) τ w:=fun p hp=>by simp at hp
theorem Fz.psnoc (h:Fz (yY G l) τ w) (h2:Fz (uQ G p) τ w):Fz (yY G (l++ [p])) τ w:=fun q hq=>(List.mem_append.1 hq).elim (h q) fun hq=>by simp at hq;rw [hq];exact h2
theorem Fz.pouts (h:Fz (yY G l) τ w):∀p ∈ l,PtT G w p:=fun p hp=>PtT.mono (h p hp) fun g hg _=>hg.2
end
section
variable {N:aP} {P:Program} {ops:Array Oper} {sp:List (Spec N)} {In:Nat→Ini N} {a0:Act} {w0 W:World} {bf:List Nat} {j:Nat} {o:Oper} {s:Spec N} {done:Nat→Bool} {a:Act} {w:World} {τ:Nat→aP} {β:Type} {pc:Prop}
theorem Cx.zbx (c:Cx ops sp In a0 w0 bf j o done a w τ) (i:Nat) {ty t slot:Nat} {p:Value} {cells:β→List Value} {f:β→Value} {Ψ:β→Prop} {Φ:β→ZP} (hs:sp[i]? =some (iU ty N t slot p cells f Ψ Φ)) (hl:bH (sp.map (·.tag)) t j=some i:=by exact rfl) (hord:jD (sp.map (·.tag)) bf t j=true:=by kernel_rfl):
    ∃b,a.eval (.tmp slot)=f b∧cd ty (cells b) (τ t) p w∧Ψ b∧(Φ b).P (fb τ w) w:=c.res i t _ hs hl hord
theorem Cx.pz {p:Pt} {F:aP} {n:Nat} {a1:Act} {τ0:Nat→aP} {w':World} (c:Cx ops sp In a0 w0 bf j o done a w τ) (st:St N W n a1 w0 τ0) (hx:w.heap.size≤w'.heap.size) (h:PtT (Gn (fun g=>fb τ w g∧Gn F W g) w) w' p):(uQ (Gn F W) p).P (fb τ w') w':=PtT.mono h (c.gz (c.hW st) hx)
theorem vp {α:Type} {E:Enc α} {ty e tag t:Nat} {xs:List α} {ys:β→List α} {Ψ:β→Prop} {Φ:β→ZP} {x y:Operand} {z:Value} {i:TypeInfo} (hg:o.guard=none)
    (ho:o.op= .call { callee:= .builtin .append,args:=#[x,y],argTypes:=#[ty,ty] })
    (hty:P.underlying ty=some (.slice e)) (hi:P.info? e=some i) (hz:i.zero=some z) (hsize:i.size=E.sz) (hzs:z.cells.size=E.sz)
    (h63:∀b,xs.length+(ys b).length≤maxLen) (hby:∀b,(xs.length+(ys b).length) * i.bytes≤140737488355328)
    (hp:∀{done a w τ},Cx ops sp In a0 w0 bf j o done a w τ→∃v b,eb E e xs (τ tag) v w∧a.eval x=v∧Ψ b∧(Φ b).P (fb τ w) w∧∃u,a.eval y=u∧SlT E w u (ys b))
    (hs:s=qa E e N tag t True (fun b=>xs++ys b) Ψ Φ:=by exact rfl) (hd:o.dst=some t:=by exact rfl):Ob ops sp In a0 w0 P bf j o s:=by
  subst hs;refine ey hg rfl fun done a w τ c=> ?_;obtain ⟨v,b,⟨hown,hT⟩,hx,hq,hzz,u,hy,hsl⟩:=hp c;obtain ⟨v',w',hr,h2,h3,h4⟩:=oG (P:=P) (E:=E) ty o.type e i z hty hi hz hsize hzs hown hsl (h63 b) (hby b);have hr':(execOp a.eval o).run P w= .ok (.value v') w':=by
    simp only [execOp,ho,resolve,invoke,builtin,Sem.run_bind,Sem.run_pure,Result.andThen_ok,eu,bz,bU,hx,hy,hr]
  refine fP hr' ⟨_,rfl,h3.mono (fun k _ h=>hT k h),fun g=>v'.ownBlock=some g,fun g hg=>(h4 g hg).elim (fun h=> .inl (hT g h)) (fun h=> .inr h),fun _=>⟨b,?_,hq,?_⟩⟩
  · show eb E e (xs++ys b) _ (aT (a.put o.dst _) t) _;rw [hd,dA a t t _ (c.lt t hd),if_pos rfl];exact ⟨h2,fun g h=>h⟩
  · refine (Φ b).st (fun g hg=>⟨cR hg.1 h3.size,fun t' ht=> ?_⟩) (h3.mono fun g _ hg hZ=>hZ.2 tag (hT g hg)) hzz;unfold nn at ht;split at ht
    · rcases h4 g ht with h | h
      · exact hg.2 tag (hT g h)
      · exact absurd hg.1 (by omega)
    · exact hg.2 t' ht
theorem ue {x y:Operand} {t t':TypeId} {p:Int} (ho:o.op= .binOp .and t x y t') (hx:a.eval x= .int .u64 p) (hy:a.eval y= .int .u64 4294967295) (h0:0≤p) (h1:p < 4294967296):cp P a o w (.int .u64 p):=by
  obtain ⟨n,rfl⟩:=Int.eq_ofNat_of_zero_le h0;have hn:n < 4294967296:=by omega
  have e1:(BitVec.ofInt 64 (n:Int)).toNat=n:=by
    rw [BitVec.toNat_ofInt];omega
  have e:n&&&4294967295=n:=by
    have:=Nat.and_two_pow_sub_one_eq_mod n 32;rw [show (2 ^ 32 - 1:Nat)=4294967295 from rfl] at this
    rw [this];exact Nat.mod_eq_of_lt hn
  have e3:IntKind.u64.wrap (n:Int)=n:=by simp [IntKind.wrap,IntKind.signed,IntKind.bits];omega
  have e5:(BitVec.ofInt 64 4294967295).toNat=4294967295:=by decide
  have hr:(Op.intBits .and .u64 (n:Int) 4294967295).run P w= .ok (.int .u64 n) w:=by
    have e6:(BitVec.ofInt (IntKind.bits .u64) (n:Int)&&&BitVec.ofInt (IntKind.bits .u64) 4294967295).toNat=n:=by
      rw [BitVec.toNat_and];show (BitVec.ofInt 64 (n:Int)).toNat&&&(BitVec.ofInt 64 4294967295).toNat=n;rw [e1,e5,e]
    unfold Op.intBits;simp only [e6,e3];rfl
  simp only [cp,execOp,ho,hx,hy];simp [eqGuard,binOp,hr]
theorem pq {x y:Operand} {t t':TypeId} {p:Int} (ho:o.op= .binOp .shr t x y t') (hx:a.eval x= .int .u64 p) (hy:a.eval y= .int .u64 32) (h0:0≤p) (h1:p < 4294967296):cp P a o w (.int .u64 0):=by
  have e:p.fdiv 4294967296=0:=by
    rw [lf p (by omega)];exact Int.ediv_eq_zero_of_lt h0 h1
  simp [cp,execOp,ho,hx,hy,eqGuard,binOp,Op.shift,IntKind.bits];exact e
theorem rL {x y:Operand} {t t':TypeId} {p q r:Int} (ho:o.op= .binOp .mul t x y t') (hx:a.eval x= .int .u64 p) (hy:a.eval y= .int .u64 q) (e:p * q=r) (h0:0≤r) (h1:r < 18446744073709551616):cp P a o w (.int .u64 r):=by
  have e2:IntKind.u64.wrap r=r:=by simp [IntKind.wrap,IntKind.signed,IntKind.bits];omega
  simp [cp,execOp,ho,hx,hy,eqGuard,binOp,Op.intArith,e,e2]
theorem uf {x y:Operand} {t t':TypeId} {p q r:Int} (ho:o.op= .binOp .add t x y t') (hx:a.eval x= .int .u64 p) (hy:a.eval y= .int .u64 q) (e:p+q=r) (h0:0≤r) (h1:r < 18446744073709551616):cp P a o w (.int .u64 r):=by
  have e2:IntKind.u64.wrap r=r:=by simp [IntKind.wrap,IntKind.signed,IntKind.bits];omega
  simp [cp,execOp,ho,hx,hy,eqGuard,binOp,Op.intArith,e,e2]
theorem Dh {α:Type} {E:Enc α} {ty e tag t n:Nat} {x y:Operand} {z:Value} {i:TypeInfo} {x0:α} (hs:s=own E e N tag t (List.replicate n x0)) (hg:o.guard=none) (hd:o.dst=some t) (ho:o.op= .makeSlice ty x y)
    (hty:P.underlying ty=some (.slice e)) (hi:P.info? e=some i) (hz:i.zero=some z) (hsize:i.size=E.sz) (hc:z.cells.toList=E.cells x0) (hby:i.bytes * n≤281474976710656) (h63:n≤maxLen)
    (hp:∀{done a w τ},Cx ops sp In a0 w0 bf j o done a w τ→a.eval x= .int .i64 (n:Int)∧a.eval y= .int .i64 (n:Int)):Ob ops sp In a0 w0 P bf j o s:=by
  subst hs;refine ey hg rfl fun done a w τ c=> ?_;obtain ⟨hx,hy⟩:=hp c;have h63':(n:Int)≤9223372036854775807:=by
    have h:=h63;simp only [maxLen] at h;omega
  have hb':(i.bytes:Int) * (n:Int)≤281474976710656:=by
    have h:((i.bytes * n:Nat):Int)≤281474976710656:=by omega
    rwa [Int.natCast_mul] at h
  have hr:=run_make (P:=P) w ty e i z hty hi hz .i64 .i64 n n (by omega) (eY _) hb' h63';simp only [iS] at hr;have hr':(execOp a.eval o).run P w= .ok (.value (.slice (some ⟨w.heap.size,0,none⟩) n n)) (w.alloc (.cells (madeCells z.cells (n * i.size)) e)):=by
    simp only [execOp,ho,hx,hy,Sem.run_bind,hr];rfl
  have hzs:z.cells.size=E.sz:=by rw [←fl,hc,E.len]
  have hrow:(madeCells z.cells (n * i.size)).toList=E.row (List.replicate n x0):=by
    apply List.ext_getElem?;intro q;rw [hsize];have hl:(E.row (List.replicate n x0)).length=n * E.sz:=by rw [E.row_length,bO]
    by_cases hq:q < n * E.sz
    · have hdiv:q / E.sz < n:=Nat.div_lt_of_lt_mul (by rwa [Nat.mul_comm] at hq)
      have hmod:q % E.sz < E.sz:=Nat.mod_lt _ E.pos
      have h1:=E.row_get (xs:=List.replicate n x0) (i:=q / E.sz) (j:=q % E.sz) (x:=x0) (by rw [List.getElem?_replicate,if_pos hdiv]) hmod;rw [show q / E.sz * E.sz+q % E.sz=q from Nat.div_add_mod' q E.sz] at h1;rw [h1,←hc];have hm2:q % E.sz < z.cells.size:=by omega
      simp only [madeCells,Array.toList_map,List.getElem?_map,Array.toList_range,List.getElem?_range hq,Option.map_some,hzs];rw [getElem!_pos z.cells _ hm2,bE (by simpa using hm2),Array.getElem_toList]
    · rw [kh (by simp [madeCells];omega),kh (by omega)]
  refine fP hr' ⟨_,rfl,Ext.alloc _ _ _,fun g=>g=w.heap.size,fun g hg=> .inr (by subst hg;simp),?_⟩;show eb E e _ _ (aT (a.put o.dst _) t) _;rw [hd,dA a t t _ (c.lt t hd),if_pos rfl];refine ⟨⟨E.row_length _,.inr ⟨w.heap.size,n,_,by rw [bO],ee _,heap_alloc_new w _,by rw [bO];exact br _,h63,by rw [size_madeCells,hsize],?_⟩⟩,fun g h=> ?_⟩
  · rw [hrow,bO];exact bF (by rw [E.row_length,bO];exact br _)
  · simp only [Value.ownBlock,Option.some.injEq] at h;exact h.symm
end
section
variable {N:aP} {l:List Oper} {sp:List (Spec N)} {il:List (Ini N)} {a0 a:Act} {w:World} {τ:Nat→aP} {β:Type} {pc:Prop}
theorem Fin.gzo (h:Fin l sp il a0 a w τ) {α:Type} {E:Enc α} {ty t slot:Nat} {xs:β→List α} {Ψ:β→Prop} {Φ:β→ZP} (j:Nat) {v:Value} (hv:aT a slot=v) (hs:sp[j]? =some (qa E ty N t slot True xs Ψ Φ)) (hl:bH (sp.map (·.tag)) t sp.length=some j:=by exact rfl):∃b,eb E ty (xs b) (τ t) v w∧Ψ b∧Fz (Φ b) τ w:=
  hv ▸ h.res j t _ hs rfl hl trivial
end
section
variable {α:Type} {E:Enc α} {ty:Nat} {P:Program} {w:World}
theorem AL {dT sT rt elem:TypeId} {d:Option Addr} {dl dc:Nat} {u u':Value} {ys:List α} (hu:SlT E w u ys) (hdT:P.underlying dT=some (.slice elem)) (hsz:(P.info? elem).map (·.size)=some E.sz) (hu':u'=gp u 0 (Nat.min ys.length dl) E.sz):
    (Builtin.copy_ #[dT,sT] rt #[.slice d dl dc,u]).run P w=(Builtin.copy_ #[dT,sT] rt #[.slice d (Nat.min ys.length dl) dc,u']).run P w:=by
  subst hu';cases hq:P.info? elem with
  | none => simp [hq] at hsz
  | some i =>
    have hi:i.size=E.sz:=by simpa [hq] using hsz
    rcases hu.sl with ⟨rfl,h0⟩ | ⟨b,cap,rfl,hc,hm⟩
    · rw [h0];simp [gp,Builtin.copy_,run_underlying hdT,Builtin.lenOf,Builtin.firstCells,sizeOf,typeInfo,hq,hi]
    · have e:gp (.slice (some b) ys.length cap) 0 (Nat.min ys.length dl) E.sz= .slice (some b) (Nat.min ys.length dl) cap:=by
        simp only [gp];split
        · simp_all
        · simp [Addr.add]
      rw [e];simp [Builtin.copy_,run_underlying hdT,Builtin.lenOf,Builtin.firstCells,sizeOf,typeInfo,hq,hi]
end
section
variable {α:Type} {E:Enc α} {ty:Nat} {P:Program} {w:World}
theorem sV {v:Value} {xs:List α} (h:iZ E ty w v xs):gp v 0 xs.length E.sz=v:=by
  rcases h.2 with ⟨rfl,h0⟩ | ⟨g,cap,cur,rfl,hb,hg,g2,g3,g4,g5⟩
  · rw [h0];rfl
  · simp only [gp];split
    · simp
    · simp [Addr.add]
theorem vq {dT sT rt elem:TypeId} {v u:Value} {xs ys:List α} {lo hi:Nat} (h:iZ E ty w v xs) (hu:SlT E w u ys) (hdT:P.underlying dT=some (.slice elem)) (hsz:(P.info? elem).map (·.size)=some E.sz)
    (h1:lo≤hi) (h2:hi≤xs.length):
    ∃w',(Builtin.copy_ #[dT,sT] rt #[gp v lo hi E.sz,u]).run P w= .ok (goInt (Nat.min ys.length (hi - lo))) w'∧iZ E ty w' v (xs.take lo++ys.take (Nat.min ys.length (hi - lo))++xs.drop (lo+Nat.min ys.length (hi - lo)))∧Ext (fun k=>v.ownBlock=some k) w w':=by
  have hm1:Nat.min ys.length (hi - lo)≤ys.length:=Nat.min_le_left _ _;have hm2:Nat.min ys.length (hi - lo)≤hi - lo:=dw _ _;have hsl:=SlT.sub hu (lo:=0) (hi:=Nat.min ys.length (hi - lo)) (ee _) hm1;rw [li,Nat.sub_zero] at hsl;obtain ⟨w',hr,k2,k3⟩:=qm (P:=P) (dT:=dT) (sT:=sT) (rt:=rt) (lo:=lo) (hi:=lo+Nat.min ys.length (hi - lo)) h hsl hdT hsz (by omega) (by omega) (by rw [dE];omega);rw [dE,Nat.min_eq_left hm1] at hr;refine ⟨w',?_,k2,k3⟩;have hsub:∃d dc,gp v lo hi E.sz= .slice d (hi - lo) dc∧gp v lo (lo+Nat.min ys.length (hi - lo)) E.sz= .slice d (Nat.min ys.length (hi - lo)) dc:=by
    rcases h.2 with ⟨rfl,h0⟩ | ⟨g,cap,cur,rfl,hb,hg,g2,g3,g4,g5⟩
    · exact ⟨none,0 - lo,by simp [gp],by simp [gp]⟩
    · exact ⟨if cap=lo then some ⟨g,0,none⟩ else some ((⟨g,0,none⟩:Addr).add (lo * E.sz)),cap - lo,by simp only [gp];split <;> rfl,by simp only [gp,Nat.add_sub_cancel_left];split <;> rfl⟩
  obtain ⟨d,dc,e1,e2⟩:=hsub;rw [e2] at hr;rw [e1,AL (sT:=sT) (rt:=rt) hu hdT hsz rfl];exact hr
end
section
variable {N:aP} {P:Program} {ops:Array Oper} {sp:List (Spec N)} {In:Nat→Ini N} {a0:Act} {w0 W:World} {bf:List Nat} {j:Nat} {o:Oper} {s:Spec N} {done:Nat→Bool} {a:Act} {w:World} {τ:Nat→aP}
def yZ {α:Type} (E:Enc α) (ty:Nat) (N:aP) (tag t:Nat) (v:Value) (xs:List α) (k:Value):Spec N:=⟨some tag,t,fun _ T u w=>u=k∧eb E ty xs T v w,fun _ _ T u w w' _ h hr=>⟨hr.1,jY T v w w' h.less hr.2⟩,fun u=>u=k,fun _ _ _ _ h=>h.1⟩
theorem Cx.oc {α:Type} {E:Enc α} {ty t slot:Nat} {v k:Value} {xs:List α} (c:Cx ops sp In a0 w0 bf j o done a w τ) (i:Nat) (hs:sp[i]? =some (yZ E ty N t slot v xs k)) (hb:(bf.getD j 0).testBit i=true:=by exact rfl):a.eval (.tmp slot)=k:=c.J.pur i _ hs (c.pre i hb)
theorem rM {α:Type} {E:Enc α} {ty tag t dT sT e lo hi:Nat} {v:Value} {xs ys:List α} {x y:Operand} (hs:s=yZ E ty N tag t v (xs.take lo++ys.take (Nat.min ys.length (hi - lo))++xs.drop (lo+Nat.min ys.length (hi - lo))) (.int .i64 ((Nat.min ys.length (hi - lo):Nat):Int))) (hg:o.guard=none) (hd:o.dst=some t)
    (ho:o.op= .call { callee:= .builtin .copy,args:=#[x,y],argTypes:=#[dT,sT] }) (hdT:P.underlying dT=some (.slice e)) (hsz:(P.info? e).map (·.size)=some E.sz)
    (h1:lo≤hi) (h2:hi≤xs.length)
    (hp:∀{done a w τ},Cx ops sp In a0 w0 bf j o done a w τ→eb E ty xs (τ tag) v w∧a.eval x=gp v lo hi E.sz∧∃u,a.eval y=u∧SlT E w u ys):Ob ops sp In a0 w0 P bf j o s:=by
  subst hs;refine ey hg rfl fun done a w τ c=> ?_;obtain ⟨⟨hown,hT⟩,hx,u,hy,hu⟩:=hp c;obtain ⟨w',hr,k2,k3⟩:=vq (P:=P) (sT:=sT) (rt:=o.type) hown hu hdT hsz h1 h2;have hr':(execOp a.eval o).run P w= .ok (.value (.int .i64 ((Nat.min ys.length (hi - lo):Nat):Int))) w':=by
    have hr2:(Builtin.copy_ #[dT,sT] o.type #[gp v lo hi E.sz,u]).run P w= .ok (goInt (Nat.min ys.length (hi - lo))) w':=hr;simp only [execOp,ho,resolve,invoke,builtin,Sem.run_bind,Sem.run_pure,Result.andThen_ok,eu,bz,bU,hx,hy,hr2];rfl
  refine fP hr' ⟨_,rfl,k3.mono fun k _ hk=>hT k hk,τ tag,fun g h=> .inl h,?_,k2,hT⟩;show aT (a.put o.dst _) t=_;rw [hd,dA a t t _ (c.lt t hd),if_pos rfl]
end
section
variable {N:aP} {l:List Oper} {sp:List (Spec N)} {il:List (Ini N)} {a0 a:Act} {w:World} {τ:Nat→aP}
theorem Fin.oc {α:Type} {E:Enc α} {ty t slot:Nat} {v k:Value} {xs:List α} (h:Fin l sp il a0 a w τ) (j:Nat) (hs:sp[j]? =some (yZ E ty N t slot v xs k)) (hl:bH (sp.map (·.tag)) t sp.length=some j:=by exact rfl):aT a slot=k:=(h.res j t _ hs rfl hl).1
theorem Fin.or {α:Type} {E:Enc α} {ty t slot:Nat} {v k:Value} {xs:List α} (h:Fin l sp il a0 a w τ) (j:Nat) (hs:sp[j]? =some (yZ E ty N t slot v xs k)) (hl:bH (sp.map (·.tag)) t sp.length=some j:=by exact rfl):eb E ty xs (τ t) v w:=(h.res j t _ hs rfl hl).2
end
def grpsN (l:List Tr):Nat:=(l.map grpN).sum
theorem mY (l:List Tr) (t:Tr):grpsN (l++ [t])=grpsN l+grpN t:=by simp [grpsN]
theorem za (l:List Tr):((grpsN l:Nat):Int)=cZ (l.map dB):=by
  induction l with
  | nil => rfl
  | cons t l ih =>
    have h1:=(ia t).1;rw [bz,jO,←ih];have:grpsN (t::l)=grpN t+grpsN l:=by simp [grpsN]
    rw [this];unfold grpN;omega
theorem pN {t:Tr}:∀{ps:List Pt} {ts:List Tr} {g:Nat} {p:Pt},LayL ps ts g→Lay p t (g+grpsN ts)→LayL (ps++ [p]) (ts++ [t]) g
  | [], [], g, p, h, h2 => by
    have e:g+grpsN []=g:=rfl;rw [e] at h2;exact .cons h2 .nil
  | [], _ :: _, g, p, h, h2 => by cases h
  | _ :: _, [], g, p, h, h2 => by cases h
  | q :: ps, u :: ts, g, p, h, h2 => by
    cases h with
    | cons h3 h4 =>
      have e:g+grpsN (u::ts)=g+grpN u+grpsN ts:=by simp [grpsN];omega
      rw [e] at h2;exact .cons h3 (pN h4 h2)
theorem lP (t:Tr):grpN t=(if t.k=5 then 1 else 0)+grpsN t.kids:=by
  have h1:=mS t;have h2:=za t.kids;have h3:=(ia t).1;unfold grpN;rw [h1,←h2];split <;> omega
theorem ug (t:Tr) (g:Nat):mo t g=g+(if t.k=5 then 1 else 0):=by
  unfold mo;split <;> omega
theorem jg (t:Tr):((grpN t:Nat):Int)=dB t:=by
  have:=(ia t).1;unfold grpN;omega
theorem mZ (t:Tr):(grpN t:Int)≤fy t:=by
  have h1:=(ia t).2;have h2:=rx t;rw [jg];omega
theorem Di (l:List Tr):(grpsN l:Int)≤cZ (l.map fy):=by
  induction l with
  | nil => exact eY _
  | cons t l ih =>
    have h1:=mZ t;have e:grpsN (t::l)=grpN t+grpsN l:=by simp [grpsN]
    rw [bz,jO,e];omega
theorem vr {t:Tr} {k:Nat} (h:k < t.kids.length):(grpsN (t.kids.take k):Int)+fy (nth t.kids (k:Int))+1≤fy t:=by
  have h1:=Di (t.kids.take k);have h2:=ka (f:=fy) h;have h3:=(nD (f:=fy) (ts:=t.kids) (fun q _=>by have:=lL q;omega) (k+1)).2;have h4:=kO t;have h5:=nY t.rows;omega
end
section
open Go.RowKit
open Srt
set_option maxRecDepth 100000 in
theorem qu (t:Tr) (ih:∀k ∈ t.kids,∀(w:World),kW w k→cm k≤1000000000→Calls Tryz.prog 66 #[k.v] w (fun e w'=>e= .returned (aj (cm k))∧Ext bc w w')) (w:World) (hT:kW w t) (hy0:cm t≤1000000000):Calls Tryz.prog 66 #[t.v] w (fun e w'=>e= .returned (aj (cm t))∧Ext bc w w'):=by
 refine enter (n:=21) Tryz.func66 rfl rfl (av rfl) ?_;intro a0 τ0 ha st0;have e0:aT a0 0=(ta t):=ha 0 _ rfl;clear ha;have hle:=hT.kids.le;have hf0:∀q ∈ t.kids,0≤cm q:=fun q _=>by have:=jd q;omega
 have hpe:=gJ t;refine wp_seq (rg [box _ _ 0 1 (tc t),_] [0,0] st0 [] ⟨fh (v:=(ta t)) rfl rfl rfl rfl rfl (fun _ _ _ _ c=>(c.p e0)),am fun c=>ar rfl rfl,ax⟩ fun ac ag ae ab aa=> ?_);obtain ⟨b1x1,e1⟩:=gx ac 1;have e2:=aa.V 1;have r0:=aa.rb 0 e1 rfl;refine wp_seq (eB ab [jb r0] ⟨am fun c=>ar rfl rfl,ax⟩ fun ac ag ae ab aa=> ?_);obtain ⟨e1,e2⟩:=aa.k2 e1 e2;have e3:=aa.V 0;replace r0:=aa.B 0;refine wp_seq ?_;refine wp_seq (eB ab [jb r0] ⟨am fun c=>ar rfl rfl,ax⟩ fun ac ag ae ab aa=> ?_);obtain ⟨e1,e2,e3⟩:=aa.k3 e1 e2 e3;have e4:=aa.V 0;replace r0:=aa.B 0;refine wp_block ?_;refine wp_loop (fun a_ w_=>∃(k:Nat) (τ:Nat→aP),(k≤t.kids.length)∧
      St (Nw w) w 21 a_ w_ τ∧
      aT a_ 3=(aj (1+cZ ((t.kids.take k).map cm)))∧
      aT a_ 4=(aj (k:Int))∧
      aT a_ 1=b1x1∧
      aT a_ 2=(aj 0)∧
      cd 25 (tc t) (τ 0) b1x1 w_) (fun a_ _=>t.kids.length - (intOf (aT a_ 4)).toNat) ?_ ?_
 · refine ⟨0,ae,?_,ab,(e3.trans (bd (by first | omega | rfl | (rw [ka (by omega)];omega)))),(e4.trans (bd (by first | omega | rfl | (rw [ka (by omega)];omega)))),e1,e2,r0⟩
   · omega
 intro a4 w4 hI;obtain ⟨k,τ4,q0,st4,e3,e4,e1,e2,r0⟩:=hI;have hsl:=nD (f:=cm) hf0 k;have hss:k < t.kids.length→cm (nth t.kids (k:Int))≤cZ (t.kids.map cm)∧cZ ((t.kids.take (k+1)).map cm)=cZ ((t.kids.take k).map cm)+cm (nth t.kids (k:Int)):=fun h_=>⟨mT hf0 (cP (by omega) (by omega)),ka h_⟩
 have hs2:=nD (f:=cm) hf0 (k+1);have m4:=e4;refine wp_seq ?_;refine wp_seq (xy [0,0,2,6,15] st4 [jb r0] ⟨ao e4,bZ aq bC e1 r0.ptr,dq bS 1 0 7,am fun c=>cX rfl aI (c.q 2) (hT.at st4.ext).tl.sl.sl,am fun c=>dh rfl (c.q 0) (c.q 3),ax⟩ fun ac ag ae ab aa=> ?_);obtain ⟨e1,e2,e3,e4⟩:=aa.k4 e1 e2 e3 e4;have e9:=aa.V 4;replace r0:=aa.B 0;refine wp_cond_split e9 (fun hc1=> ?_) (fun hc1=> ?_)
 · try simp only [ai] at hc1
   refine wp_skip ?_;refine wp_seq ?_;refine wp_block ?_;refine qy [0,0,2,0,14,30,62,127,255] ab [jb r0] ⟨ao e3,bZ aq bC e1 r0.ptr,dq bS 1 0 7,ao e4,am fun c=>aK rfl aI ak (c.q 2) (hT.at ab.ext).tl.sl.sl (c.q 3) (by omega) (by omega),am fun c=>cT (vs:=(tc (nth t.kids (k:Int)))) rfl aD ak (c.q 4) rfl (fun _ _ hj=>((hT.at (ab.ext.trans c.J.ext)).tl.sl).elem (bu (i:=(k:Int)) (by omega) (by omega)) hj),dU fun c=>⟨_,_,(bq rfl rfl Tryz.call66 (c.q 5)),ih _ (cP (by omega) (by omega)) _ ((hT.at (ab.ext.trans c.J.ext)).tl.el (by omega) (by omega)) (by omega)⟩,am fun c=>cV rfl (c.q 0) (c.q 6) (by omega),aF 7,ax⟩ fun ac ag ae ab aa=> ?_;obtain ⟨e1,e2,e4,e9⟩:=aa.k4 e1 e2 e4 e9;have e3:=aa.V 8;replace r0:=aa.B 0;show _;refine eM ab [jb r0] ⟨ao e4,am fun c=>cV rfl (c.q 0) rfl (by omega),aF 1,ax⟩ fun ac ag ae ab aa=> ?_;obtain ⟨e1,e2,e3,e9⟩:=aa.k4 e1 e2 e3 e9;have e4:=aa.V 2;replace r0:=aa.B 0;refine ⟨⟨k+1,ae,?_,ab,(e3.trans (bd (by first | omega | rfl | (rw [ka (by omega)];omega)))),(e4.trans (bd (by first | omega | rfl | (rw [ka (by omega)];omega)))),e1,e2,r0⟩,?_⟩
   · omega
   · simp only [m4,e4,intOf];omega
 try simp only [ah,aX] at hc1
 refine wp_exit ?_;repeat (with_reducible refine cn ?_)
 refine cr ?_;refine wp_seq (eC ab [jb r0] ⟨ao e3,aF 0,ax⟩ fun ac ag ae ab aa=> ?_);have e2:=aa.V 1;refine wp_ret ?_;refine rp ?_;refine cH (fn:=Tryz.f66) rfl ab.defers e2 ?_;have htk:cZ ((t.kids.take k).map cm)=cZ (t.kids.map cm):=by rw [bF (by omega)]
 exact ⟨congrArg _ (bd (by omega)),ab.ext0⟩
theorem wK (t:Tr):∀(w:World),kW w t→cm t≤1000000000→Calls Tryz.prog 66 #[t.v] w (fun e w'=>e= .returned (.int .i64 (cm t))∧Ext bc w w'):=Tr.ind (P:=fun t=>∀(w:World),kW w t→cm t≤1000000000→Calls Tryz.prog 66 #[t.v] w (fun e w'=>e= .returned (.int .i64 (cm t))∧Ext bc w w')) qu t
set_option maxRecDepth 100000 in
theorem pO (t:Tr) (ih:∀k ∈ t.kids,∀(w:World),kW w k→cm k≤1000000000→Calls Tryz.prog 74 #[k.v] w (fun e w'=>e= .returned (aj (dB k))∧Ext bc w w')) (w:World) (hT:kW w t) (hy0:cm t≤1000000000):Calls Tryz.prog 74 #[t.v] w (fun e w'=>e= .returned (aj (dB t))∧Ext bc w w'):=by
 refine enter (n:=24) Tryz.func74 rfl rfl (av rfl) ?_;intro a0 τ0 ha st0;have e0:aT a0 0=(ta t):=ha 0 _ rfl;clear ha;have hle:=hT.kids.le;have hf0:∀q ∈ t.kids,0≤dB q:=fun q _=>(ia q).1;have hf1:∀q ∈ t.kids,0≤cm q:=fun q _=>by have:=jd q;omega
 have hgb:=ia t;have hpe:=mS t;have hpm:∀k:Nat,k < t.kids.length→cm (nth t.kids (k:Int))≤1000000000:=fun k h_=>by
   have h1_:=mT hf1 (cP (xs:=t.kids) (i:=(k:Int)) (by omega) (by omega));have h2_:=gJ t;omega
 refine wp_seq (rg [box _ _ 0 1 (tc t),_] [0,0] st0 [] ⟨fh (v:=(ta t)) rfl rfl rfl rfl rfl (fun _ _ _ _ c=>(c.p e0)),am fun c=>ar rfl rfl,ax⟩ fun ac ag ae ab aa=> ?_);obtain ⟨b1x1,e1⟩:=gx ac 1;have e2:=aa.V 1;have r0:=aa.rb 0 e1 rfl;refine wp_seq (eB ab [jb r0] ⟨am fun c=>ar rfl rfl,ax⟩ fun ac ag ae ab aa=> ?_);obtain ⟨e1,e2⟩:=aa.k2 e1 e2;have e3:=aa.V 0;replace r0:=aa.B 0;refine wp_seq ?_;refine wp_seq (eM ab [jb r0] ⟨bZ aq au e1 r0.ptr,dq aC 0 0 0,am fun c=>bW rfl (c.q 1) rfl,ax⟩ fun ac ag ae ab aa=> ?_);obtain ⟨e1,e2,e3⟩:=aa.k3 e1 e2 e3;have e7:=aa.V 2;replace r0:=aa.B 0;refine wp_cond_split e7 (fun hc1=> ?_) (fun hc1=> ?_)
 · try simp only [ai] at hc1
   refine eB ab [jb r0] ⟨am fun c=>ar rfl rfl,ax⟩ fun ac ag ae ab aa=> ?_;obtain ⟨e1,e2⟩:=aa.k2 e1 e2;have e3:=aa.V 0;replace r0:=aa.B 0;refine wp_seq ?_;refine wp_seq (eB ab [jb r0] ⟨am fun c=>ar rfl rfl,ax⟩ fun ac ag ae ab aa=> ?_);obtain ⟨e1,e2,e3⟩:=aa.k3 e1 e2 e3;have e4:=aa.V 0;replace r0:=aa.B 0;refine wp_block ?_;refine wp_loop (fun a_ w_=>∃(k:Nat) (τ:Nat→aP),(k≤t.kids.length)∧
          St (Nw w) w 24 a_ w_ τ∧
          aT a_ 3=(aj ((if t.k=5 then 1 else 0)+cZ ((t.kids.take k).map dB)))∧
          aT a_ 4=(aj (k:Int))∧
          aT a_ 1=b1x1∧
          aT a_ 2=(aj 0)∧
          cd 25 (tc t) (τ 0) b1x1 w_) (fun a_ _=>t.kids.length - (intOf (aT a_ 4)).toNat) ?_ ?_
   · refine ⟨0,ae,?_,ab,(e3.trans (bd (by first | omega | (rw [if_pos (by assumption)];rfl) | (rw [if_neg (by assumption)];rfl)))),(e4.trans (bd (by first | omega | (rw [if_pos (by assumption)];rfl) | (rw [if_neg (by assumption)];rfl)))),e1,e2,r0⟩
     · omega
   intro a6 w6 hI;obtain ⟨k,τ6,q0,st6,e3,e4,e1,e2,r0⟩:=hI;have hsl:=nD (f:=dB) hf0 k;have hss:k < t.kids.length→dB (nth t.kids (k:Int))≤cZ (t.kids.map dB)∧cZ ((t.kids.take (k+1)).map dB)=cZ ((t.kids.take k).map dB)+dB (nth t.kids (k:Int)):=fun h_=>⟨mT hf0 (cP (by omega) (by omega)),ka h_⟩
   have hs2:=nD (f:=dB) hf0 (k+1);have hpk:=hpm k;have hsp:(0:Int)≤(if t.k=5 then 1 else 0)∧(if t.k=5 then (1:Int) else 0)≤1:=by split <;> omega
   have m4:=e4;refine wp_seq ?_;refine wp_seq (xy [0,0,2,6,15] st6 [jb r0] ⟨ao e4,bZ aq bC e1 r0.ptr,dq bS 1 0 7,am fun c=>cX rfl aI (c.q 2) (hT.at st6.ext).tl.sl.sl,am fun c=>dh rfl (c.q 0) (c.q 3),ax⟩ fun ac ag ae ab aa=> ?_);obtain ⟨e1,e2,e3,e4⟩:=aa.k4 e1 e2 e3 e4;have e12:=aa.V 4;replace r0:=aa.B 0;refine wp_cond_split e12 (fun hc2=> ?_) (fun hc2=> ?_)
   · try simp only [ai] at hc2
     refine wp_skip ?_;refine wp_seq ?_;refine wp_block ?_;refine qy [0,0,2,0,14,30,62,127,255] ab [jb r0] ⟨ao e3,bZ aq bC e1 r0.ptr,dq bS 1 0 7,ao e4,am fun c=>aK rfl aI ak (c.q 2) (hT.at ab.ext).tl.sl.sl (c.q 3) (by omega) (by omega),am fun c=>cT (vs:=(tc (nth t.kids (k:Int)))) rfl aD ak (c.q 4) rfl (fun _ _ hj=>((hT.at (ab.ext.trans c.J.ext)).tl.sl).elem (bu (i:=(k:Int)) (by omega) (by omega)) hj),dU fun c=>⟨_,_,(bq rfl rfl jI (c.q 5)),ih _ (cP (by omega) (by omega)) _ ((hT.at (ab.ext.trans c.J.ext)).tl.el (by omega) (by omega)) (by omega)⟩,am fun c=>cV rfl (c.q 0) (c.q 6) (by omega),aF 7,ax⟩ fun ac ag ae ab aa=> ?_;obtain ⟨e1,e2,e4,e12⟩:=aa.k4 e1 e2 e4 e12;have e3:=aa.V 8;replace r0:=aa.B 0;show _;refine eM ab [jb r0] ⟨ao e4,am fun c=>cV rfl (c.q 0) rfl (by omega),aF 1,ax⟩ fun ac ag ae ab aa=> ?_;obtain ⟨e1,e2,e3,e12⟩:=aa.k4 e1 e2 e3 e12;have e4:=aa.V 2;replace r0:=aa.B 0;refine ⟨⟨k+1,ae,?_,ab,(e3.trans (bd (by first | omega | (rw [if_pos (by assumption)];rfl) | (rw [if_neg (by assumption)];rfl)))),(e4.trans (bd (by first | omega | (rw [if_pos (by assumption)];rfl) | (rw [if_neg (by assumption)];rfl)))),e1,e2,r0⟩,?_⟩
     · omega
     · simp only [m4,e4,intOf];omega
   try simp only [ah,aX] at hc2
   refine wp_exit ?_;repeat (with_reducible refine cn ?_)
   refine cr ?_;refine wp_seq (eC ab [jb r0] ⟨ao e3,aF 0,ax⟩ fun ac ag ae ab aa=> ?_);have e2:=aa.V 1;refine wp_ret ?_;refine rp ?_;refine cH (fn:=Tryz.f74) rfl ab.defers e2 ?_;have htk:cZ ((t.kids.take k).map dB)=cZ (t.kids.map dB):=by rw [bF (by omega)]
   exact ⟨congrArg _ (bd (by omega)),ab.ext0⟩
 try simp only [ah] at hc1
 refine wp_skip ?_;refine wp_seq ?_;refine wp_seq (eB ab [jb r0] ⟨am fun c=>ar rfl rfl,ax⟩ fun ac ag ae ab aa=> ?_);obtain ⟨e1,e2,e3⟩:=aa.k3 e1 e2 e3;have e4:=aa.V 0;replace r0:=aa.B 0;refine wp_block ?_;refine wp_loop (fun a_ w_=>∃(k:Nat) (τ:Nat→aP),(k≤t.kids.length)∧
      St (Nw w) w 24 a_ w_ τ∧
      aT a_ 3=(aj ((if t.k=5 then 1 else 0)+cZ ((t.kids.take k).map dB)))∧
      aT a_ 4=(aj (k:Int))∧
      aT a_ 1=b1x1∧
      aT a_ 2=(aj 0)∧
      cd 25 (tc t) (τ 0) b1x1 w_) (fun a_ _=>t.kids.length - (intOf (aT a_ 4)).toNat) ?_ ?_
 · refine ⟨0,ae,?_,ab,(e3.trans (bd (by first | omega | (rw [if_pos (by assumption)];rfl) | (rw [if_neg (by assumption)];rfl)))),(e4.trans (bd (by first | omega | (rw [if_pos (by assumption)];rfl) | (rw [if_neg (by assumption)];rfl)))),e1,e2,r0⟩
   · omega
 intro a12 w12 hI;obtain ⟨k,τ12,q0,st12,e3,e4,e1,e2,r0⟩:=hI;have hsl:=nD (f:=dB) hf0 k;have hss:k < t.kids.length→dB (nth t.kids (k:Int))≤cZ (t.kids.map dB)∧cZ ((t.kids.take (k+1)).map dB)=cZ ((t.kids.take k).map dB)+dB (nth t.kids (k:Int)):=fun h_=>⟨mT hf0 (cP (by omega) (by omega)),ka h_⟩
 have hs2:=nD (f:=dB) hf0 (k+1);have hpk:=hpm k;have hsp:(0:Int)≤(if t.k=5 then 1 else 0)∧(if t.k=5 then (1:Int) else 0)≤1:=by split <;> omega
 have m4:=e4;refine wp_seq ?_;refine wp_seq (xy [0,0,2,6,15] st12 [jb r0] ⟨ao e4,bZ aq bC e1 r0.ptr,dq bS 1 0 7,am fun c=>cX rfl aI (c.q 2) (hT.at st12.ext).tl.sl.sl,am fun c=>dh rfl (c.q 0) (c.q 3),ax⟩ fun ac ag ae ab aa=> ?_);obtain ⟨e1,e2,e3,e4⟩:=aa.k4 e1 e2 e3 e4;have e12:=aa.V 4;replace r0:=aa.B 0;refine wp_cond_split e12 (fun hc3=> ?_) (fun hc3=> ?_)
 · try simp only [ai] at hc3
   refine wp_skip ?_;refine wp_seq ?_;refine wp_block ?_;refine qy [0,0,2,0,14,30,62,127,255] ab [jb r0] ⟨ao e3,bZ aq bC e1 r0.ptr,dq bS 1 0 7,ao e4,am fun c=>aK rfl aI ak (c.q 2) (hT.at ab.ext).tl.sl.sl (c.q 3) (by omega) (by omega),am fun c=>cT (vs:=(tc (nth t.kids (k:Int)))) rfl aD ak (c.q 4) rfl (fun _ _ hj=>((hT.at (ab.ext.trans c.J.ext)).tl.sl).elem (bu (i:=(k:Int)) (by omega) (by omega)) hj),dU fun c=>⟨_,_,(bq rfl rfl jI (c.q 5)),ih _ (cP (by omega) (by omega)) _ ((hT.at (ab.ext.trans c.J.ext)).tl.el (by omega) (by omega)) (by omega)⟩,am fun c=>cV rfl (c.q 0) (c.q 6) (by omega),aF 7,ax⟩ fun ac ag ae ab aa=> ?_;obtain ⟨e1,e2,e4,e12⟩:=aa.k4 e1 e2 e4 e12;have e3:=aa.V 8;replace r0:=aa.B 0;show _;refine eM ab [jb r0] ⟨ao e4,am fun c=>cV rfl (c.q 0) rfl (by omega),aF 1,ax⟩ fun ac ag ae ab aa=> ?_;obtain ⟨e1,e2,e3,e12⟩:=aa.k4 e1 e2 e3 e12;have e4:=aa.V 2;replace r0:=aa.B 0;refine ⟨⟨k+1,ae,?_,ab,(e3.trans (bd (by first | omega | (rw [if_pos (by assumption)];rfl) | (rw [if_neg (by assumption)];rfl)))),(e4.trans (bd (by first | omega | (rw [if_pos (by assumption)];rfl) | (rw [if_neg (by assumption)];rfl)))),e1,e2,r0⟩,?_⟩
   · omega
   · simp only [m4,e4,intOf];omega
 try simp only [ah,aX] at hc3
 refine wp_exit ?_;repeat (with_reducible refine cn ?_)
 refine cr ?_;refine wp_seq (eC ab [jb r0] ⟨ao e3,aF 0,ax⟩ fun ac ag ae ab aa=> ?_);have e2:=aa.V 1;refine wp_ret ?_;refine rp ?_;refine cH (fn:=Tryz.f74) rfl ab.defers e2 ?_;have htk:cZ ((t.kids.take k).map dB)=cZ (t.kids.map dB):=by rw [bF (by omega)]
 exact ⟨congrArg _ (bd (by omega)),ab.ext0⟩
theorem kI (t:Tr):∀(w:World),kW w t→cm t≤1000000000→Calls Tryz.prog 74 #[t.v] w (fun e w'=>e= .returned (.int .i64 (dB t))∧Ext bc w w'):=Tr.ind (P:=fun t=>∀(w:World),kW w t→cm t≤1000000000→Calls Tryz.prog 74 #[t.v] w (fun e w'=>e= .returned (.int .i64 (dB t))∧Ext bc w w')) pO t
set_option maxRecDepth 100000 in
theorem Dj (n:Int) (w:World):Calls Tryz.prog 56 #[(aj n)] w (fun e w'=>e= .returned (aA (decide (n=5) || decide (n=6)))∧Ext bc w w'):=by
 refine enter (n:=9) Tryz.func56 rfl rfl (av rfl) ?_;intro a0 τ0 ha st0;have e0:=np ha;refine wp_seq (eB st0 [] ⟨am fun c=>ar rfl rfl,ax⟩ fun ac ag ae ab aa=> ?_);replace e0:=aa.k1 e0;have e2:=aa.V 0;refine wp_seq (wh ab [] ⟨ao e0,am fun c=>bW rfl (c.q 0) rfl,bm 1,bo 2 rfl fun c hpc=>aJ rfl (c.p e0),bo 2 rfl fun c hpc=>bW rfl (c.M 3 hpc) rfl,dD 2 4,aF 5,ax⟩ fun ac ag ae ab aa=> ?_);have e2:=aa.V 6;refine wp_ret ?_;refine rp ?_;refine cH (fn:=Tryz.f56) rfl ab.defers e2 ?_;exact ⟨rfl,ab.ext0⟩
set_option maxRecDepth 100000 in
theorem rN (t:Tr) (ih:∀k ∈ t.kids,∀(w:World),kW w k→cm k≤1000000000→Calls Tryz.prog 67 #[k.v] w (fun e w'=>e= .returned (aj (eH k))∧Ext bc w w')) (w:World) (hT:kW w t) (hy0:cm t≤1000000000):Calls Tryz.prog 67 #[t.v] w (fun e w'=>e= .returned (aj (eH t))∧Ext bc w w'):=by
 refine enter (n:=31) Tryz.func67 rfl rfl (av rfl) ?_;intro a0 τ0 ha st0;have e0:aT a0 0=(ta t):=ha 0 _ rfl;clear ha;have hle:=hT.kids.le;have hf1:∀q ∈ t.kids,0≤cm q:=fun q _=>by have:=jd q;omega
 have hgb:=qh t;have hpe:=lp t;have hpm:∀k:Nat,k < t.kids.length→cm (nth t.kids (k:Int))≤1000000000:=fun k h_=>by
   have h1_:=mT hf1 (cP (xs:=t.kids) (i:=(k:Int)) (by omega) (by omega));have h2_:=gJ t;omega
 refine wp_seq (rg [box _ _ 0 1 (tc t),_] [0,0] st0 [] ⟨fh (v:=(ta t)) rfl rfl rfl rfl rfl (fun _ _ _ _ c=>(c.p e0)),am fun c=>ar rfl rfl,ax⟩ fun ac ag ae ab aa=> ?_);obtain ⟨b1x1,e1⟩:=gx ac 1;have e2:=aa.V 1;have r0:=aa.rb 0 e1 rfl;refine wp_seq (eB ab [jb r0] ⟨am fun c=>ar rfl rfl,ax⟩ fun ac ag ae ab aa=> ?_);obtain ⟨e1,e2⟩:=aa.k2 e1 e2;have e3:=aa.V 0;replace r0:=aa.B 0;refine wp_seq ?_;refine wp_seq (eB ab [jb r0] ⟨am fun c=>ar rfl rfl,ax⟩ fun ac ag ae ab aa=> ?_);obtain ⟨e1,e2,e3⟩:=aa.k3 e1 e2 e3;have e4:=aa.V 0;replace r0:=aa.B 0;refine wp_block ?_;refine wp_loop (fun a_ w_=>∃(k:Nat) (τ:Nat→aP),(k≤t.kids.length)∧
      St (Nw w) w 31 a_ w_ τ∧
      aT a_ 3=(aj (kN ((t.kids.take k).map eH)))∧
      aT a_ 4=(aj (k:Int))∧
      aT a_ 1=b1x1∧
      aT a_ 2=(aj 0)∧
      cd 25 (tc t) (τ 0) b1x1 w_) (fun a_ _=>t.kids.length - (intOf (aT a_ 4)).toNat) ?_ ?_
 · refine ⟨0,ae,?_,ab,(e3.trans (bd (by first | omega | rfl | exact (nX (by omega)).symm))),(e4.trans (bd (by first | omega | rfl | exact (nX (by omega)).symm))),e1,e2,r0⟩
   · omega
 intro a4 w4 hI;obtain ⟨k,τ4,q0,st4,e3,e4,e1,e2,r0⟩:=hI;have hpk:=hpm k;have m4:=e4;refine wp_seq ?_;refine wp_seq (xy [0,0,2,6,15] st4 [jb r0] ⟨ao e4,bZ aq bC e1 r0.ptr,dq bS 1 0 7,am fun c=>cX rfl aI (c.q 2) (hT.at st4.ext).tl.sl.sl,am fun c=>dh rfl (c.q 0) (c.q 3),ax⟩ fun ac ag ae ab aa=> ?_);obtain ⟨e1,e2,e3,e4⟩:=aa.k4 e1 e2 e3 e4;have e9:=aa.V 4;replace r0:=aa.B 0;refine wp_cond_split e9 (fun hc1=> ?_) (fun hc1=> ?_)
 · try simp only [ai] at hc1
   refine wp_skip ?_;refine wp_seq ?_;refine wp_block ?_;refine qy [0,0,2,0,14,30,62,127,255] ab [jb r0] ⟨ao e3,bZ aq bC e1 r0.ptr,dq bS 1 0 7,ao e4,am fun c=>aK rfl aI ak (c.q 2) (hT.at ab.ext).tl.sl.sl (c.q 3) (by omega) (by omega),am fun c=>cT (vs:=(tc (nth t.kids (k:Int)))) rfl aD ak (c.q 4) rfl (fun _ _ hj=>((hT.at (ab.ext.trans c.J.ext)).tl.sl).elem (bu (i:=(k:Int)) (by omega) (by omega)) hj),dU fun c=>⟨_,_,(bq rfl rfl Tryz.call67 (c.q 5)),ih _ (cP (by omega) (by omega)) _ ((hT.at (ab.ext.trans c.J.ext)).tl.el (by omega) (by omega)) (by omega)⟩,am fun c=>zS rfl (c.q 0) (c.q 6),aF 7,ax⟩ fun ac ag ae ab aa=> ?_;obtain ⟨e1,e2,e4,e9⟩:=aa.k4 e1 e2 e4 e9;have e3:=aa.V 8;replace r0:=aa.B 0;show _;refine eM ab [jb r0] ⟨ao e4,am fun c=>cV rfl (c.q 0) rfl (by omega),aF 1,ax⟩ fun ac ag ae ab aa=> ?_;obtain ⟨e1,e2,e3,e9⟩:=aa.k4 e1 e2 e3 e9;have e4:=aa.V 2;replace r0:=aa.B 0;refine ⟨⟨k+1,ae,?_,ab,(e3.trans (bd (by first | omega | rfl | exact (nX (by omega)).symm))),(e4.trans (bd (by first | omega | rfl | exact (nX (by omega)).symm))),e1,e2,r0⟩,?_⟩
   · omega
   · simp only [m4,e4,intOf];omega
 try simp only [ah,aX] at hc1
 refine wp_exit ?_;repeat (with_reducible refine cn ?_)
 refine cr ?_;refine wp_seq ?_;refine wp_seq (wi ab [jb r0] ⟨bZ aq au e1 r0.ptr,dq aC 0 0 0,am fun c=>bW rfl (c.q 1) rfl,bm 2,bo 3 rfl fun c hpc=>cN rfl aq au ((c.p e1).trans r0.ptr),bo 3 rfl fun c hpc=>ay rfl aC (c.M 4 hpc) ((c.B 0).cell (j:=0) rfl),bo 3 rfl fun c hpc=>bW rfl (c.M 5 hpc) rfl,dD 3 6,ax⟩ fun ac ag ae ab aa=> ?_);obtain ⟨e2,e3⟩:=aa.k2 e2 e3;have e27:=aa.V 7;refine wp_cond_split e27 (fun hc2=> ?_) (fun hc2=> ?_)
 · have hd2:=hc2;try simp only [aN,ai] at hd2
   have hmp:=nC ((t.kids.take k).map eH);have hmd:kN ((t.kids.take k).map eH)≤1000000000:=by rw [bF (by omega)];have h_:(0:Int)≤(if oM t=true then 1 else 0):=(by split <;> omega);omega
   refine eM ab [] ⟨ao e3,am fun c=>cV rfl (c.q 0) rfl (by omega),aF 1,ax⟩ fun ac ag ae ab aa=> ?_;replace e2:=aa.k1 e2;have e3:=aa.V 2;refine wp_seq (eC ab [] ⟨ao e3,aF 0,ax⟩ fun ac ag ae ab aa=> ?_);have e2:=aa.V 1;refine wp_ret ?_;refine rp ?_;refine cH (fn:=Tryz.f67) rfl ab.defers e2 ?_;have htk:kN ((t.kids.take k).map eH)=kN (t.kids.map eH):=by rw [bF (by omega)]
   exact ⟨congrArg _ (bd (by rw [hpe,htk];unfold oM;first | (rw [if_pos (by simpa using (by assumption))]) | (rw [if_neg (by simpa using (by assumption))];omega))),ab.ext0⟩
 have hd2:=hc2;try simp only [aG,ah] at hd2
 refine wp_skip ?_;refine wp_seq (eC ab [] ⟨ao e3,aF 0,ax⟩ fun ac ag ae ab aa=> ?_);have e2:=aa.V 1;refine wp_ret ?_;refine rp ?_;refine cH (fn:=Tryz.f67) rfl ab.defers e2 ?_;have htk:kN ((t.kids.take k).map eH)=kN (t.kids.map eH):=by rw [bF (by omega)]
 exact ⟨congrArg _ (bd (by rw [hpe,htk];unfold oM;first | (rw [if_pos (by simpa using (by assumption))]) | (rw [if_neg (by simpa using (by assumption))];omega))),ab.ext0⟩
theorem zf (t:Tr):∀(w:World),kW w t→cm t≤1000000000→Calls Tryz.prog 67 #[t.v] w (fun e w'=>e= .returned (.int .i64 (eH t))∧Ext bc w w'):=Tr.ind (P:=fun t=>∀(w:World),kW w t→cm t≤1000000000→Calls Tryz.prog 67 #[t.v] w (fun e w'=>e= .returned (.int .i64 (eH t))∧Ext bc w w')) rN t
end
section
open Go.RowKit
open Srt
set_option maxRecDepth 100000 in
theorem Dk (t:Tr) (ih:∀k ∈ t.kids,∀(n:Int) (w:World),kW w k→ -1000000≤n∧n≤1000000→Calls Tryz.prog 19 #[k.v,aj n] w (fun e w'=>e= .returned (aj (uO k n))∧Ext bc w w')) (n:Int) (w:World) (hT:kW w t) (hn: -1000000≤n∧n≤1000000):Calls Tryz.prog 19 #[t.v,aj n] w (fun e w'=>e= .returned (aj (uO t n))∧Ext bc w w'):=by
 refine enter (n:=96) Tryz.func19 rfl rfl (av rfl) ?_;intro a0 τ0 ha st0;have e0:aT a0 0=(ta t):=ha 0 _ rfl;have e1:aT a0 1=(aj n):=ha 1 _ rfl;clear ha;have hle:=hT.kids.le;have hle2:=hT.rows.le;refine wp_seq (rg [box _ _ 0 2 (tc t),_] [0,0] st0 [] ⟨fh (v:=(ta t)) rfl rfl rfl rfl rfl (fun _ _ _ _ c=>(c.p e0)),am fun c=>ar rfl rfl,ax⟩ fun ac ag ae ab aa=> ?_);obtain ⟨b1x2,e2⟩:=gx ac 2;replace e1:=aa.k1 e1;have e4:=aa.V 1;have r0:=aa.rb 0 e2 rfl;refine wp_seq ?_;refine wp_seq (rg [_,_,_,_,_,_,_,_,_,_,_,_,_,_,_,_,_,_,_] [0,1,3,0,15,31,63,127,255,63,1023,2047,4095,8191,16383,32767,8191,131071,262143] ab [jb r0] ⟨bZ aq aZ e2 r0.ptr,dq bD 0 0 1,am fun c=>gA rfl ba (c.q 1),ao e1,am fun c=>fW rfl (c.q 2) (c.q 3),bm 4,bo 5 rfl fun c hpc=>cN rfl aq dQ ((c.p e2).trans r0.ptr),bo 5 rfl fun c hpc=>ay rfl fN (c.M 6 hpc) ((c.B 0).cell (j:=3) rfl),bo 5 rfl fun c hpc=>cX rfl aV (c.M 7 hpc) (hT.at ab.ext).rows.sl,bo 5 rfl fun c hpc=>aJ rfl (c.p e1),bo 5 rfl fun c hpc=>fW rfl (c.M 8 hpc) (c.M 9 hpc),dD 5 10,bm 11,bo 12 rfl fun c hpc=>cN rfl aq bC ((c.p e2).trans r0.ptr),bo 12 rfl fun c hpc=>ay rfl bS (c.M 13 hpc) ((c.B 0).cell (j:=7) rfl),bo 12 rfl fun c hpc=>cX rfl aI (c.M 14 hpc) (hT.at ab.ext).tl.sl.sl,bo 12 rfl fun c hpc=>aJ rfl (c.p e1),bo 12 rfl fun c hpc=>fW rfl (c.M 15 hpc) (c.M 16 hpc),dD 12 17,ax⟩ fun ac ag ae ab aa=> ?_);obtain ⟨e1,e2,e4⟩:=aa.k3 e1 e2 e4;have e25:=aa.V 18;replace r0:=aa.B 0;refine wp_cond_split e25 (fun hc1=> ?_) (fun hc1=> ?_)
 · have hd1:=hc1;try simp only [aN,ai] at hd1
   refine wp_seq (eB ab [jb r0] ⟨am fun c=>ar rfl rfl,ax⟩ fun ac ag ae ab aa=> ?_);obtain ⟨e1,e2⟩:=aa.k2 e1 e2;have e4:=aa.V 0;replace r0:=aa.B 0;refine wp_ret ?_;refine rp ?_;refine cH (fn:=Tryz.f19) rfl ab.defers e4 ?_;exact ⟨congrArg _ (bd (by first | exact (tU (by assumption)).symm | exact (tV htop (k:=k) (by assumption) (by omega) (by assumption)).symm | exact (tW htop (k:=k) (m:=l) (by assumption) (by omega) q2 (by omega)).symm)),ab.ext0⟩
 have hd1:=hc1;try simp only [aG,ah,dF] at hd1
 refine wp_skip ?_;refine wp_seq ?_;have htop:ph t n=false:=by assumption
 have htp:=htop;unfold ph at htp;simp only [aG,ah,dF] at htp;refine so [0,1,0,4,12,31,63] ab [jb r0] ⟨ao e1,am fun c=>iA rfl (c.q 0) rfl (by omega),bZ aq aZ e2 r0.ptr,dq bD 2 0 1,am fun c=>gA rfl ba (c.q 3),am fun c=>iA rfl (c.q 1) (c.q 4) (by omega),aF 5,ax⟩ fun ac ag ae ab aa=> ?_;obtain ⟨e2,e4⟩:=aa.k2 e2 e4;have e1:=aa.V 6;replace r0:=aa.B 0;refine wp_seq ?_;refine wp_seq (eB ab [jb r0] ⟨am fun c=>ar rfl rfl,ax⟩ fun ac ag ae ab aa=> ?_);obtain ⟨e1,e2,e4⟩:=aa.k3 e1 e2 e4;have e5:=aa.V 0;replace r0:=aa.B 0;refine wp_block ?_;refine wp_loop (fun a_ w_=>∃(k:Nat) (l:Int) (τ:Nat→aP),(k≤t.rows.length)∧
      (-1000000≤l∧l≤1000000)∧
      (ic (n - 1 - (t.ch.size:Int)) t.rows=ic l (t.rows.drop k))∧
      St (Nw w) w 96 a_ w_ τ∧
      aT a_ 1=(aj l)∧
      aT a_ 5=(aj (k:Int))∧
      aT a_ 2=b1x2∧
      cd 25 (tc t) (τ 0) b1x2 w_) (fun a_ _=>t.rows.length - (intOf (aT a_ 5)).toNat) ?_ ?_
 · refine ⟨0,n - 1 - (t.ch.size:Int),ae,?_,?_,?_,ab,(e1.trans (bd (by omega))),(e5.trans (bd (by omega))),e2,r0⟩
   · omega
   · omega
   · rfl
 intro a6 w6 hI;obtain ⟨k,l,τ6,q0,q1,q2,st6,e1,e5,e2,r0⟩:=hI;have m5:=e5;refine wp_seq ?_;refine wp_seq (xy [0,0,2,6,15] st6 [jb r0] ⟨ao e5,bZ aq dQ e2 r0.ptr,dq fN 1 0 3,am fun c=>cX rfl aV (c.q 2) (hT.at st6.ext).rows.sl,am fun c=>dh rfl (c.q 0) (c.q 3),ax⟩ fun ac ag ae ab aa=> ?_);obtain ⟨e1,e2,e5⟩:=aa.k3 e1 e2 e5;have e36:=aa.V 4;replace r0:=aa.B 0;refine wp_cond_split e36 (fun hc2=> ?_) (fun hc2=> ?_)
 · try simp only [ai] at hc2
   refine wp_skip ?_;refine wp_seq ?_;refine wp_block ?_;refine wp_seq ?_;refine wp_seq ?_;refine rg [_,_,_,_,_,_,_,_,_,_,_,_,_,_,_,_,_,_,_,_] [0,1,0,7,15,31,63,0,255,511,1023,2047,1023,8191,16383,32767,65535,1023,262143,524287] ab [jb r0] ⟨bZ aq dQ e2 r0.ptr,dq fN 0 0 3,ao e5,am fun c=>aK rfl aV bM (c.q 1) (hT.at ab.ext).rows.sl (c.q 2) (by omega) (by omega),bw bB aZ 3 rfl,am fun c=>ay rfl bD (c.q 4) (((hT.at (ab.ext.trans c.J.ext)).rows).elem (j:=0) (bu (i:=(k:Int)) (by omega) (by omega)) rfl),am fun c=>gA rfl ba (c.q 5),ao e1,am fun c=>fW rfl (c.q 6) (c.q 7),bm 8,bo 9 rfl fun c hpc=>cN rfl aq dQ ((c.p e2).trans r0.ptr),bo 9 rfl fun c hpc=>ay rfl fN (c.M 10 hpc) ((c.B 0).cell (j:=3) rfl),bo 9 rfl fun c hpc=>aJ rfl (c.p e5),bo 9 rfl fun c hpc=>aK rfl aV bM (c.M 11 hpc) (hT.at ab.ext).rows.sl (c.M 12 hpc) (by have hq0:=bn hpc;omega) (by have hq0:=bn hpc;omega),bo 9 rfl fun c hpc=>cN rfl bB aZ (c.M 13 hpc),bo 9 rfl fun c hpc=>ay rfl bD (c.M 14 hpc) (((hT.at (ab.ext.trans c.J.ext)).rows).elem (j:=1) (bu (i:=(k:Int)) (by have hq0:=bn hpc;omega) (by have hq0:=bn hpc;omega)) rfl),bo 9 rfl fun c hpc=>gA rfl ba (c.M 15 hpc),bo 9 rfl fun c hpc=>aJ rfl (c.p e1),bo 9 rfl fun c hpc=>fW rfl (c.M 16 hpc) (c.M 17 hpc),dD 9 18,ax⟩ fun ac ag ae ab aa=> ?_;obtain ⟨e1,e2,e5,e36⟩:=aa.k4 e1 e2 e5 e36;have e58:=aa.V 19;replace r0:=aa.B 0;refine wp_cond_split e58 (fun hc3=> ?_) (fun hc3=> ?_)
   · have hd3:=hc3;try simp only [aN,ai] at hd3
     refine wp_seq (eB ab [jb r0] ⟨am fun c=>ar rfl rfl,ax⟩ fun ac ag ae ab aa=> ?_);obtain ⟨e1,e2,e5,e36,e58⟩:=aa.k5 e1 e2 e5 e36 e58;have e4:=aa.V 0;replace r0:=aa.B 0;refine wp_ret ?_;refine rp ?_;refine cH (fn:=Tryz.f19) rfl ab.defers e4 ?_;exact ⟨congrArg _ (bd (by first | exact (tU (by assumption)).symm | exact (tV htop (k:=k) (by assumption) (by omega) (by assumption)).symm | exact (tW htop (k:=k) (m:=l) (by assumption) (by omega) q2 (by omega)).symm)),ab.ext0⟩
   have hd3:=hc3;try simp only [aG,ah,dF] at hd3
   refine wp_skip ?_;have hrr:(decide (l≤((nth t.rows (k:Int)).1.size:Int)) || decide (l≤((nth t.rows (k:Int)).2.size:Int)))=false:=by assumption
   have hrs:=hrr;simp only [aG,ah,dF] at hrs;refine rg [_,_,_,_,_,_,_,_,_,_,_,_,_,_,_,_,_,_,_] [0,1,0,4,0,28,60,124,252,511,0,1024,0,7168,15360,31744,64512,131071,262143] ab [jb r0] ⟨ao e1,am fun c=>iA rfl (c.q 0) rfl (by omega),bZ aq dQ e2 r0.ptr,dq fN 2 0 3,ao e5,am fun c=>aK rfl aV bM (c.q 3) (hT.at ab.ext).rows.sl (c.q 4) (by omega) (by omega),bw bB aZ 5 rfl,am fun c=>ay rfl bD (c.q 6) (((hT.at (ab.ext.trans c.J.ext)).rows).elem (j:=0) (bu (i:=(k:Int)) (by omega) (by omega)) rfl),am fun c=>gA rfl ba (c.q 7),am fun c=>iA rfl (c.q 1) (c.q 8) (by omega),bZ aq dQ e2 r0.ptr,dq fN 10 0 3,ao e5,am fun c=>aK rfl aV bM (c.q 11) (hT.at ab.ext).rows.sl (c.q 12) (by omega) (by omega),bw bB aZ 13 rfl,am fun c=>ay rfl bD (c.q 14) (((hT.at (ab.ext.trans c.J.ext)).rows).elem (j:=1) (bu (i:=(k:Int)) (by omega) (by omega)) rfl),am fun c=>gA rfl ba (c.q 15),am fun c=>iA rfl (c.q 9) (c.q 16) (by omega),aF 17,ax⟩ fun ac ag ae ab aa=> ?_;obtain ⟨e2,e5,e36,e58⟩:=aa.k4 e2 e5 e36 e58;have e1:=aa.V 18;replace r0:=aa.B 0;show _;refine eM ab [jb r0] ⟨ao e5,am fun c=>cV rfl (c.q 0) rfl (by omega),aF 1,ax⟩ fun ac ag ae ab aa=> ?_;obtain ⟨e1,e2,e36,e58⟩:=aa.k4 e1 e2 e36 e58;have e5:=aa.V 2;replace r0:=aa.B 0;refine ⟨⟨k+1,l - 1 - (((nth t.rows (k:Int)).1).size:Int) - (((nth t.rows (k:Int)).2).size:Int),ae,?_,?_,?_,ab,(e1.trans (bd (by omega))),(e5.trans (bd (by omega))),e2,r0⟩,?_⟩
   · omega
   · omega
   · exact vf q2 (by omega) hrr
   · simp only [m5,e5,intOf];omega
 try simp only [ah,aX] at hc2
 refine wp_exit ?_;repeat (with_reducible refine cn ?_)
 refine cr ?_;refine wp_seq ?_;refine wp_seq (eB ab [jb r0] ⟨am fun c=>ar rfl rfl,ax⟩ fun ac ag ae ab aa=> ?_);obtain ⟨e1,e2⟩:=aa.k2 e1 e2;have e6:=aa.V 0;replace r0:=aa.B 0;refine wp_block ?_;refine wp_loop (fun a_ w_=>∃(j:Nat) (p:Int) (τ:Nat→aP),(j≤t.kids.length)∧
      (-1000000≤p∧p≤1000000)∧
      (wj t.kids l=wj (t.kids.drop j) p)∧
      St (Nw w) w 96 a_ w_ τ∧
      aT a_ 1=(aj p)∧
      aT a_ 6=(aj (j:Int))∧
      aT a_ 2=b1x2∧
      cd 25 (tc t) (τ 0) b1x2 w_) (fun a_ _=>t.kids.length - (intOf (aT a_ 6)).toNat) ?_ ?_
 · refine ⟨0,l,ae,?_,?_,?_,ab,(e1.trans (bd (by omega))),(e6.trans (bd (by omega))),e2,r0⟩
   · omega
   · omega
   · rfl
 intro a13 w13 hI;obtain ⟨j,p,τ13,q0,q1,q2,st13,e1,e6,e2,r0⟩:=hI;have m6:=e6;refine wp_seq ?_;refine wp_seq (qy [0,0,2,6,15,31,63,127,255] st13 [jb r0] ⟨ao e6,bZ aq bC e2 r0.ptr,dq bS 1 0 7,am fun c=>cX rfl aI (c.q 2) (hT.at st13.ext).tl.sl.sl,am fun c=>dh rfl (c.q 0) (c.q 3),bm 4,aE 5 rfl fun c hpc=>aJ rfl (c.p e1),aE 5 rfl fun c hpc=>fW rfl (c.M 6 hpc) rfl,bK 5 7,ax⟩ fun ac ag ae ab aa=> ?_);obtain ⟨e1,e2,e6⟩:=aa.k3 e1 e2 e6;have e85:=aa.V 8;replace r0:=aa.B 0;refine wp_cond_split e85 (fun hc4=> ?_) (fun hc4=> ?_)
 · have hd4:=hc4;try simp only [aw,ai] at hd4
   refine wp_skip ?_;refine wp_seq ?_;refine wp_block ?_;refine EX [0,1,0,7,15,0,63,127] ab [jb r0] ⟨bZ aq bC e2 r0.ptr,dq bS 0 0 7,ao e6,am fun c=>aK rfl aI ak (c.q 1) (hT.at ab.ext).tl.sl.sl (c.q 2) (by omega) (by omega),am fun c=>cT (vs:=(tc (nth t.kids (j:Int)))) rfl aD ak (c.q 3) rfl (fun _ _ hj=>((hT.at (ab.ext.trans c.J.ext)).tl.sl).elem (bu (i:=(j:Int)) (by omega) (by omega)) hj),ao e1,dU fun c=>⟨_,_,(co rfl rfl Tryz.call19 (c.q 4) (c.q 5)),ih _ (cP (by omega) (by omega)) p _ ((hT.at (ab.ext.trans c.J.ext)).tl.el (by omega) (by omega)) (by omega)⟩,aF 6,ax⟩ fun ac ag ae ab aa=> ?_;obtain ⟨e2,e6,e85⟩:=aa.k3 e2 e6 e85;have e1:=aa.V 7;replace r0:=aa.B 0;show _;refine eM ab [jb r0] ⟨ao e6,am fun c=>cV rfl (c.q 0) rfl (by omega),aF 1,ax⟩ fun ac ag ae ab aa=> ?_;obtain ⟨e1,e2,e85⟩:=aa.k3 e1 e2 e85;have e6:=aa.V 2;replace r0:=aa.B 0;refine ⟨⟨j+1,uO (nth t.kids (j:Int)) p,ae,?_,?_,?_,ab,(e1.trans (bd (by omega))),(e6.trans (bd (by omega))),e2,r0⟩,?_⟩
   · omega
   · exact yP _ (by omega) (by omega)
   · exact Ap q2 (by omega) (by omega)
   · simp only [m6,e6,intOf];omega
 have hd4:=hc4;try simp only [aL,ah,aX,dF] at hd4
 refine wp_exit ?_;repeat (with_reducible refine cn ?_)
 refine cr ?_;refine wp_seq (eC ab [jb r0] ⟨ao e1,aF 0,ax⟩ fun ac ag ae ab aa=> ?_);have e4:=aa.V 1;refine wp_ret ?_;refine rp ?_;refine cH (fn:=Tryz.f19) rfl ab.defers e4 ?_;exact ⟨congrArg _ (bd (by first | exact (tU (by assumption)).symm | exact (tV htop (k:=k) (by assumption) (by omega) (by assumption)).symm | exact (tW htop (k:=k) (m:=l) (by assumption) (by omega) q2 (by omega)).symm)),ab.ext0⟩
theorem Hb (t:Tr):∀(n:Int) (w:World),kW w t→ -1000000≤n∧n≤1000000→Calls Tryz.prog 19 #[t.v,.int .i64 n] w (fun e w'=>e= .returned (.int .i64 (uO t n))∧Ext bc w w'):=Tr.ind (P:=fun t=>∀(n:Int) (w:World),kW w t→ -1000000≤n∧n≤1000000→Calls Tryz.prog 19 #[t.v,.int .i64 n] w (fun e w'=>e= .returned (.int .i64 (uO t n))∧Ext bc w w')) Dk t
end
section
open Go.RowKit
open Srt
def jP (ch:ByteArray) (ng:Bool) (rows:List Rw) (mn mx:Int) (lz:Bool):Bool:=((((iI ch (⟨#[]⟩:ByteArray)&& !ng)&&decide ((rows.length:Int)=0))&&decide (mn=0))&&decide (mx=0))&& !lz
set_option maxRecDepth 100000 in
theorem kP (k:Int) (ch:ByteArray) (ng:Bool) (rv:Value) (rows:List (ByteArray × ByteArray)) (mn mx:Int) (lz:Bool) (kv:Value) (ho:kv.oneCell'=true) (w:World) (hS:SlT ik w rv rows):Calls Tryz.prog 99 #[(.agg #[(aj k),(aR ch),(aA ng),rv,(aj mn),(aj mx),(aA lz),kv])] w (fun e w'=>e= .returned (aA (jP ch ng rows mn mx lz))∧Ext bc w w'):=by
 refine enter (n:=32) Tryz.func99 rfl rfl (av rfl) ?_;intro a0 τ0 ha st0;have e0:aT a0 0=(.agg #[(aj k),(aR ch),(aA ng),rv,(aj mn),(aj mx),(aA lz),kv]):=ha 0 _ rfl;clear ha;refine wp_seq (rg [box _ _ 0 1 [(aj k),(aR ch),(aA ng),rv,(aj mn),(aj mx),(aA lz),kv],_] [0,0] st0 [] ⟨fh (v:=(.agg #[(aj k),(aR ch),(aA ng),rv,(aj mn),(aj mx),(aA lz),kv])) rfl rfl rfl rfl rfl (fun _ _ _ _ c=>(c.p e0)),am fun c=>ar rfl rfl,ax⟩ fun ac ag ae ab aa=> ?_);obtain ⟨b1x1,e1⟩:=gx ac 1;have e2:=aa.V 1;have r0:=aa.rb 0 e1 rfl;refine wp_seq (rg [_,_,_,_,_,_,_,_,_,_,_,_,_,_,_,_,_,_,_,_,_,_,_,_,_,_,_,_,_,_] [0,1,3,7,15,31,63,127,255,511,1023,2047,4095,8191,16383,32767,65535,131071,262143,524287,1048575,2097151,4194303,8388607,16777215,33554431,67108863,134217727,268435455,536870911] ab [jb r0] ⟨bZ aq aZ e1 r0.ptr,dq bD 0 0 1,am fun c=>gn rfl (c.q 1) rfl,bm 2,aE 3 rfl fun c hpc=>cN rfl aq bh ((c.p e1).trans r0.ptr),aE 3 rfl fun c hpc=>ay rfl cu (c.M 4 hpc) ((c.B 0).cell (j:=2) rfl),aE 3 rfl fun c hpc=>dY rfl (c.M 5 hpc),bK 3 6,bm 7,aE 8 rfl fun c hpc=>cN rfl aq dQ ((c.p e1).trans r0.ptr),aE 8 rfl fun c hpc=>ay rfl fN (c.M 9 hpc) ((c.B 0).cell (j:=3) rfl),aE 8 rfl fun c hpc=>cX rfl aV (c.M 10 hpc) hS.sl,aE 8 rfl fun c hpc=>bW rfl (c.M 11 hpc) rfl,bK 8 12,bm 13,aE 14 rfl fun c hpc=>cN rfl aq au ((c.p e1).trans r0.ptr),aE 14 rfl fun c hpc=>ay rfl aC (c.M 15 hpc) ((c.B 0).cell (j:=4) rfl),aE 14 rfl fun c hpc=>bW rfl (c.M 16 hpc) rfl,bK 14 17,bm 18,aE 19 rfl fun c hpc=>cN rfl aq au ((c.p e1).trans r0.ptr),aE 19 rfl fun c hpc=>ay rfl aC (c.M 20 hpc) ((c.B 0).cell (j:=5) rfl),aE 19 rfl fun c hpc=>bW rfl (c.M 21 hpc) rfl,bK 19 22,bm 23,aE 24 rfl fun c hpc=>cN rfl aq bh ((c.p e1).trans r0.ptr),aE 24 rfl fun c hpc=>ay rfl cu (c.M 25 hpc) ((c.B 0).cell (j:=6) rfl),aE 24 rfl fun c hpc=>dY rfl (c.M 26 hpc),bK 24 27,aF 28,ax⟩ fun ac ag ae ab aa=> ?_);have e2:=aa.V 29;refine wp_ret ?_;refine rp ?_;refine cH (fn:=Tryz.f99) rfl ab.defers e2 ?_;exact ⟨rfl,ab.ext0⟩
set_option maxRecDepth 100000 in
theorem gU (k:Int) (ch:ByteArray) (ng:Bool) (rv:Value) (rows:List (ByteArray × ByteArray)) (mn mx:Int) (lz:Bool) (kv:Value) (ho:kv.oneCell'=true) (w:World) (hS:SlT ik w rv rows):Calls Tryz.prog 85 #[(.agg #[(aj k),(aR ch),(aA ng),rv,(aj mn),(aj mx),(aA lz),kv])] w (fun e w'=>e= .returned (aA (jP ch ng rows mn mx lz))∧Ext bc w w'):=by
 refine enter (n:=32) Tryz.func85 rfl rfl (av rfl) ?_;intro a0 τ0 ha st0;have e0:aT a0 0=(.agg #[(aj k),(aR ch),(aA ng),rv,(aj mn),(aj mx),(aA lz),kv]):=ha 0 _ rfl;clear ha;refine wp_seq (rg [box _ _ 0 1 [(aj k),(aR ch),(aA ng),rv,(aj mn),(aj mx),(aA lz),kv],_] [0,0] st0 [] ⟨fh (v:=(.agg #[(aj k),(aR ch),(aA ng),rv,(aj mn),(aj mx),(aA lz),kv])) rfl rfl rfl rfl rfl (fun _ _ _ _ c=>(c.p e0)),am fun c=>ar rfl rfl,ax⟩ fun ac ag ae ab aa=> ?_);obtain ⟨b1x1,e1⟩:=gx ac 1;have e2:=aa.V 1;have r0:=aa.rb 0 e1 rfl;refine wp_seq (rg [_,_,_,_,_,_,_,_,_,_,_,_,_,_,_,_,_,_,_,_,_,_,_,_,_,_,_,_,_,_] [0,1,3,7,15,31,63,127,255,511,1023,2047,4095,8191,16383,32767,65535,131071,262143,524287,1048575,2097151,4194303,8388607,16777215,33554431,67108863,134217727,268435455,536870911] ab [jb r0] ⟨bZ aq aZ e1 r0.ptr,dq bD 0 0 1,am fun c=>gn rfl (c.q 1) rfl,bm 2,aE 3 rfl fun c hpc=>cN rfl aq bh ((c.p e1).trans r0.ptr),aE 3 rfl fun c hpc=>ay rfl cu (c.M 4 hpc) ((c.B 0).cell (j:=2) rfl),aE 3 rfl fun c hpc=>dY rfl (c.M 5 hpc),bK 3 6,bm 7,aE 8 rfl fun c hpc=>cN rfl aq dQ ((c.p e1).trans r0.ptr),aE 8 rfl fun c hpc=>ay rfl fN (c.M 9 hpc) ((c.B 0).cell (j:=3) rfl),aE 8 rfl fun c hpc=>cX rfl aV (c.M 10 hpc) hS.sl,aE 8 rfl fun c hpc=>bW rfl (c.M 11 hpc) rfl,bK 8 12,bm 13,aE 14 rfl fun c hpc=>cN rfl aq au ((c.p e1).trans r0.ptr),aE 14 rfl fun c hpc=>ay rfl aC (c.M 15 hpc) ((c.B 0).cell (j:=4) rfl),aE 14 rfl fun c hpc=>bW rfl (c.M 16 hpc) rfl,bK 14 17,bm 18,aE 19 rfl fun c hpc=>cN rfl aq au ((c.p e1).trans r0.ptr),aE 19 rfl fun c hpc=>ay rfl aC (c.M 20 hpc) ((c.B 0).cell (j:=5) rfl),aE 19 rfl fun c hpc=>bW rfl (c.M 21 hpc) rfl,bK 19 22,bm 23,aE 24 rfl fun c hpc=>cN rfl aq bh ((c.p e1).trans r0.ptr),aE 24 rfl fun c hpc=>ay rfl cu (c.M 25 hpc) ((c.B 0).cell (j:=6) rfl),aE 24 rfl fun c hpc=>dY rfl (c.M 26 hpc),bK 24 27,aF 28,ax⟩ fun ac ag ae ab aa=> ?_);have e2:=aa.V 29;refine wp_ret ?_;refine rp ?_;refine cH (fn:=Tryz.f85) rfl ab.defers e2 ?_;exact ⟨rfl,ab.ext0⟩
end
section
open Go.RowKit
open Srt
theorem od {s:ByteArray} (h:iI s (⟨#[]⟩:ByteArray)=false):(0:Int) < (s.size:Int):=by
  have hl:=iQ s;rw [Aa] at h;cases hb:bs s with
  | nil =>
    have:s.data.toList=[]:=hb;rw [this] at h;simp at h
  | cons b l => rw [hb] at hl; simp at hl; omega
theorem rO {s:ByteArray} {k:Nat} (h:(decide ((k:Int)+1=(s.size:Int)) || mi (ca s ((k:Int)+1)))=true):ji s (k+1)=((ji s k).1++ [s.extract (ji s k).2 (k+1)],k+1):=by
  rw [ji,lY,if_pos (by rw [show ((k+1:Nat):Int)=(k:Int)+1 by omega];exact h)]
theorem pP {s:ByteArray} {k:Nat} (h:(decide ((k:Int)+1=(s.size:Int)) || mi (ca s ((k:Int)+1)))=false):ji s (k+1)=ji s k:=by
  rw [ji,lY,if_neg (by rw [show ((k+1:Nat):Int)=(k:Int)+1 by omega,h];decide)]
theorem xQ {s:ByteArray} {k:Nat} (h:(decide ((k:Int)+1=(s.size:Int)) || mi (ca s ((k:Int)+1)))=true):(ji s (k+1)).1=(ji s k).1++ [s.extract (ji s k).2 ((k:Int)+1).toNat]:=by
  rw [rO h];rfl
theorem vt {s:ByteArray} {k:Nat} (h:(decide ((k:Int)+1=(s.size:Int)) || mi (ca s ((k:Int)+1)))=false):(ji s (k+1)).1=(ji s k).1:=by rw [pP h]
theorem mw {s:ByteArray} {k:Nat} (h:(decide ((k:Int)+1=(s.size:Int)) || mi (ca s ((k:Int)+1)))=true):(ji s (k+1)).2=k+1:=by rw [rO h]
theorem la {s:ByteArray} {k:Nat} (h:(decide ((k:Int)+1=(s.size:Int)) || mi (ca s ((k:Int)+1)))=false):(ji s (k+1)).2=(ji s k).2:=by rw [pP h]
set_option maxRecDepth 100000 in
theorem vu (b:Int) (w:World):Calls Tryz.prog 54 #[.int .u8 b] w (fun e w'=>e= .returned (aA (qt b))∧Ext bc w w'):=by
 refine enter (n:=9) Tryz.func54 rfl rfl (av rfl) ?_;intro a0 τ0 ha st0;have e0:=np ha;refine wp_seq (eB st0 [] ⟨am fun c=>ar rfl rfl,ax⟩ fun ac ag ae ab aa=> ?_);replace e0:=aa.k1 e0;have e2:=aa.V 0;refine wp_seq (wh ab [] ⟨ao e0,am fun c=>fW rfl (c.q 0) rfl,bm 1,aE 2 rfl fun c hpc=>aJ rfl (c.p e0),aE 2 rfl fun c hpc=>ki rfl (c.M 3 hpc) rfl,bK 2 4,aF 5,ax⟩ fun ac ag ae ab aa=> ?_);have e2:=aa.V 6;refine wp_ret ?_;refine rp ?_;refine cH (fn:=Tryz.f54) rfl ab.defers e2 ?_;exact ⟨rfl,ab.ext0⟩
set_option maxRecDepth 100000 in
theorem wL (b:Int) (w:World):Calls Tryz.prog 57 #[.int .u8 b] w (fun e w'=>e= .returned (aA (mi b))∧Ext bc w w'):=by
 refine enter (n:=9) Tryz.func57 rfl rfl (av rfl) ?_;intro a0 τ0 ha st0;have e0:=np ha;refine wp_seq (eB st0 [] ⟨am fun c=>ar rfl rfl,ax⟩ fun ac ag ae ab aa=> ?_);replace e0:=aa.k1 e0;have e2:=aa.V 0;refine wp_seq (wh ab [] ⟨ao e0,am fun c=>dh rfl (c.q 0) rfl,bm 1,bo 2 rfl fun c hpc=>aJ rfl (c.p e0),bo 2 rfl fun c hpc=>jp rfl (c.M 3 hpc) rfl,dD 2 4,aF 5,ax⟩ fun ac ag ae ab aa=> ?_);have e2:=aa.V 6;refine wp_ret ?_;refine rp ?_;refine cH (fn:=Tryz.f57) rfl ab.defers e2 ?_;exact ⟨rfl,ab.ext0⟩
set_option maxRecDepth 100000 in
theorem AM (s:ByteArray) (a:Nat) (w:World) (hs:s.size≤1000000000) (ha:a≤1000000000):Calls Tryz.prog 55 #[(aR s),(aj (a:Int))] w (fun e w'=>e= .returned (aj (endF s a:Nat))∧Ext bc w w'):=by
 refine enter (n:=20) Tryz.func55 rfl rfl (av rfl) ?_;intro a0 τ0 ha st0;obtain ⟨e0,e1⟩:=qr ha;refine wp_seq (eB st0 [] ⟨am fun c=>ar rfl rfl,ax⟩ fun ac ag ae ab aa=> ?_);obtain ⟨e0,e1⟩:=aa.k2 e0 e1;have e4:=aa.V 0;refine wp_seq (eM ab [] ⟨ao e1,am fun c=>cV rfl (c.q 0) rfl (by omega),aF 1,ax⟩ fun ac ag ae ab aa=> ?_);obtain ⟨e0,e4⟩:=aa.k2 e0 e4;have e1:=aa.V 2;refine wp_seq ?_;refine wp_block ?_;refine wp_loop (fun a_ w_=>∃(m:Nat) (τ:Nat→aP),(m+tw s m=a+1+tw s (a+1))∧
      (m≤1000000000+1)∧
      St (Nw w) w 20 a_ w_ τ∧
      aT a_ 1=(aj (m:Int))∧
      aT a_ 0=(aR s)∧
      aT a_ 4=(aj 0)) (fun a_ _=>s.size - (intOf (aT a_ 1)).toNat) ?_ ?_
 · refine ⟨a+1,ae,?_,?_,ab,(e1.trans (bd (by omega))),e0,e4⟩
   · rfl
   · omega
 intro a3 w3 hI;obtain ⟨m,τ3,q0,q1,st3,e1,e0,e4⟩:=hI;have m1:=e1;refine wp_seq ?_;refine wp_seq ?_;refine tJ [0,0,2,7,15,31,31,127,255,511] st3 [] ⟨ao e1,ao e0,am fun c=>gA rfl ba (c.q 1),am fun c=>dh rfl (c.q 0) (c.q 2),bm 3,aE 4 rfl fun c hpc=>aJ rfl (c.p e0),aE 4 rfl fun c hpc=>aJ rfl (c.p e1),aE 4 rfl fun c hpc=>gL rfl ba (c.M 5 hpc) (c.M 6 hpc) (by have hq0:=bt hpc;omega) (by have hq0:=bt hpc;omega),fv 4 true rfl fun c hpc=>⟨_,_,(bq rfl rfl Tryz.call54 (c.M 7 hpc)),vu (ca s (m:Int)) _⟩,bK 4 8,ax⟩ fun ac ag ae ab aa=> ?_;obtain ⟨e0,e1,e4⟩:=aa.k3 e0 e1 e4;have e16:=aa.V 9;refine wp_cond_split e16 (fun hc1=> ?_) (fun hc1=> ?_)
 · try simp only [aw,ai] at hc1
   refine wp_skip ?_;refine wp_block ?_;refine eM ab [] ⟨ao e1,am fun c=>cV rfl (c.q 0) rfl (by omega),aF 1,ax⟩ fun ac ag ae ab aa=> ?_;obtain ⟨e0,e4,e16⟩:=aa.k3 e0 e4 e16;have e1:=aa.V 2;show _;refine ⟨⟨m+1,ae,?_,?_,ab,(e1.trans (bd (by omega))),e0,e4⟩,?_⟩
   · obtain ⟨c1_,c2_⟩:=(by assumption:(m:Int) < (s.size:Int)∧qt (ca s (m:Int))=true);rw [←q0,pd (by omega) c2_]
   · omega
   · simp only [m1,e1,intOf];omega
 try simp only [aL,ah,aX] at hc1
 refine wp_exit ?_;repeat (with_reducible refine cn ?_)
 refine cr ?_;refine wp_seq (eC ab [] ⟨ao e1,aF 0,ax⟩ fun ac ag ae ab aa=> ?_);have e4:=aa.V 1;refine wp_ret ?_;refine rp ?_;refine cH (fn:=Tryz.f55) rfl ab.defers e4 ?_;have h_:(s.size:Int)≤(m:Int)∨qt (ca s (m:Int))=false:=by assumption
 have h2_:=tN (s:=s) (k:=m) (h_.elim (fun h=> .inl (by omega)) .inr);exact ⟨congrArg _ (bd (by unfold endF;omega)),ab.ext0⟩
set_option maxRecDepth 100000 in
theorem rP (s:ByteArray) (w:World) (hs:s.size≤1000000000):Calls Tryz.prog 29 #[(aR s)] w (fun e w'=>e= .returned (aA (ef s))∧Ext bc w w'):=by
 refine enter (n:=18) Tryz.func29 rfl rfl (av rfl) ?_;intro a0 τ0 ha st0;have e0:=np ha;refine wp_seq (eB st0 [] ⟨am fun c=>ar rfl rfl,ax⟩ fun ac ag ae ab aa=> ?_);replace e0:=aa.k1 e0;have e2:=aa.V 0;refine wp_seq ?_;refine rg [_,_,_,_,_,_,_,_,_,_,_,_,_,_,_,_] [0,1,3,7,15,31,63,127,255,511,1023,511,2559,8191,16383,32767] ab [] ⟨ao e0,am fun c=>lT rfl (c.q 0) rfl,bm 1,aE 2 rfl fun c hpc=>aJ rfl (c.p e0),aE 2 rfl fun c hpc=>gL rfl ba (c.M 3 hpc) rfl (by have hq0:=hpc;(try simp only [aB,az] at hq0);first | omega | exact od (by assumption)) (by have hq0:=hpc;(try simp only [aB,az] at hq0);first | omega | exact od (by assumption)),fv 2 true rfl fun c hpc=>⟨_,_,(bq rfl rfl Tryz.call54 (c.M 4 hpc)),vu (ca s 0) _⟩,aE 2 rfl fun c hpc=>dY rfl (c.M 5 hpc),bK 2 6,bm 7,aE 8 rfl fun c hpc=>aJ rfl (c.p e0),fv 8 true rfl fun c hpc=>⟨_,_,(co rfl rfl Tryz.call55 (c.M 9 hpc) rfl),AM s 0 _ (by have hq0:=hpc;(try simp only [aw,aL,aB,az] at hq0);first | omega | exact od (by assumption)) (by have hq0:=hpc;(try simp only [aw,aL,aB,az] at hq0);first | omega | exact od (by assumption))⟩,aE 8 rfl fun c hpc=>aJ rfl (c.p e0),aE 8 rfl fun c hpc=>gA rfl ba (c.M 11 hpc),aE 8 rfl fun c hpc=>bW rfl (c.M 10 hpc) (c.M 12 hpc),bK 8 13,aF 14,ax⟩ fun ac ag ae ab aa=> ?_;have e2:=aa.V 15;refine wp_ret ?_;refine rp ?_;refine cH (fn:=Tryz.f29) rfl ab.defers e2 ?_;exact ⟨congrArg _ (congrArg _ (yJ s)),ab.ext0⟩
set_option maxRecDepth 100000 in
theorem uh (s:ByteArray) (w:World) (hs:s.size≤1000000000):Calls Tryz.prog 37 #[(aR s)] w (fun e w'=>∃v',e= .returned v'∧Ext bc w w'∧oT fq 9 w w' v' (cQ s)):=by
 refine enter (n:=31) Tryz.func37 rfl rfl (av rfl) ?_;intro a0 τ0 ha st0;have e0:=np ha;refine wp_seq (eB st0 [] ⟨am fun c=>ar rfl rfl,ax⟩ fun ac ag ae ab aa=> ?_);replace e0:=aa.k1 e0;have e2:=aa.V 0;refine wp_seq (eB ab [] ⟨am fun c=>ar rfl rfl,ax⟩ fun ac ag ae ab aa=> ?_);obtain ⟨e0,e2⟩:=aa.k2 e0 e2;have e3:=aa.V 0;refine wp_seq (eB ab [] ⟨am fun c=>ar rfl rfl,ax⟩ fun ac ag ae ab aa=> ?_);obtain ⟨e0,e2,e3⟩:=aa.k3 e0 e2 e3;have e4:=aa.V 0;refine wp_seq ?_;refine wp_seq (eB ab [] ⟨am fun c=>ar rfl rfl,ax⟩ fun ac ag ae ab aa=> ?_);obtain ⟨e0,e2,e3,e4⟩:=aa.k4 e0 e2 e3 e4;have e5:=aa.V 0;refine wp_block ?_;refine wp_loop (fun a_ w_=>∃(k:Nat) (u:Value) (τ:Nat→aP),(k≤s.size)∧
      St (Nw w) w 31 a_ w_ τ∧
      aT a_ 3=u∧
      aT a_ 4=(aj ((ji s k).2:Int))∧
      aT a_ 5=(aj ((k:Int)+1))∧
      aT a_ 0=(aR s)∧
      aT a_ 2=(.slice none 0 0)∧
      eb fq 9 ((ji s k).1) (τ 0) u w_) (fun a_ _=>s.size+1 - (intOf (aT a_ 5)).toNat) ?_ ?_
 · refine ⟨0,(.slice none 0 0),ae,?_,ab,e3,(e4.trans (bd (by first | omega | rfl | (rw [la (by assumption)]) | (rw [mw (by assumption)];omega)))),(e5.trans (bd (by first | omega | rfl | (rw [la (by assumption)]) | (rw [mw (by assumption)];omega)))),e0,e2,?_⟩
   · omega
   · exact eb.nil _ _ _ _
 intro a5 w5 hI;obtain ⟨k,u,τ5,q0,st5,e3,e4,e5,e0,e2,r0⟩:=hI;have hfr:=vd s k;have hln:=qA s k;have m5:=e5;refine wp_seq ?_;refine wp_seq (lD [0,0,2,7] st5 [jo r0] ⟨ao e5,ao e0,am fun c=>gA rfl ba (c.q 1),am fun c=>ki rfl (c.q 0) (c.q 2),ax⟩ fun ac ag ae ab aa=> ?_);obtain ⟨e0,e2,e3,e4,e5⟩:=aa.k5 e0 e2 e3 e4 e5;have e9:=aa.V 3;replace r0:=aa.O 0;refine wp_cond_split e9 (fun hc1=> ?_) (fun hc1=> ?_)
 · try simp only [ai] at hc1
   refine wp_skip ?_;refine wp_seq ?_;refine wp_block ?_;refine wp_seq ?_;refine tJ [0,0,2,7,15,31,31,127,255,511] ab [jo r0] ⟨ao e5,ao e0,am fun c=>gA rfl ba (c.q 1),am fun c=>bW rfl (c.q 0) (c.q 2),bm 3,bo 4 rfl fun c hpc=>aJ rfl (c.p e0),bo 4 rfl fun c hpc=>aJ rfl (c.p e5),bo 4 rfl fun c hpc=>gL rfl ba (c.M 5 hpc) (c.M 6 hpc) (by have hq0:=bn hpc;omega) (by have hq0:=bn hpc;omega),fv 4 false rfl fun c hpc=>⟨_,_,(bq rfl rfl Tryz.call57 (c.M 7 hpc)),wL (ca s ((k:Int)+1)) _⟩,dD 4 8,ax⟩ fun ac ag ae ab aa=> ?_;obtain ⟨e0,e2,e3,e4,e5,e9⟩:=aa.k6 e0 e2 e3 e4 e5 e9;have e21:=aa.V 9;replace r0:=aa.O 0;refine wp_cond_split e21 (fun hc2=> ?_) (fun hc2=> ?_)
   · have hd2:=hc2;try simp only [aN,ai] at hd2
     refine wp_seq ?_;refine rg [_,_,_,_,_,own fq 9 _ 1 27 ([s.extract ((ji s k).2:Int).toNat ((k:Int)+1).toNat]),own _ _ _ 0 28 _,own _ _ _ 0 3 _] [0,0,0,0,14,30,63,127] ab [jo r0] ⟨ao e3,ao e0,ao e4,ao e5,am fun c=>zZ (s:=s) (p:=((ji s k).2:Int)) (q:=(k:Int)+1) rfl ba (c.q 1) (c.q 2) (c.q 3) (by omega) (by omega) (by omega),dp (cells:=#[(aR (s.extract ((ji s k).2:Int).toNat ((k:Int)+1).toNat))]) rfl rfl rfl rfl bj aZ Tryz.zeroValue9 rfl (by decide) (by decide) (fun _ _ _ _ c=>gH (c.n 4 rfl) (by kernel_rfl)) rfl,eW (t0:=3) rfl rfl rfl rfl bj (i:=Tryz.t9) rfl rfl rfl rfl (by simp only [maxLen];(try simp);omega) (by show _ * 16≤_;(try simp);omega) (fun _ _ _ _ c=>⟨c.ip 0 rfl e3,c.sm (c.n 0 rfl) e3,⟨_,rfl,(c.ro 5 rfl).1.sl⟩⟩),dK (t0:=28) rfl rfl rfl rfl rfl (.inr rfl) (fun _ _ _ _ c=>⟨c.ro 6 rfl,rfl⟩),ax⟩ fun ac ag ae ab aa=> ?_;obtain ⟨b8x27,e27⟩:=gx ac 27;obtain ⟨b8x3,e3⟩:=gx ac 3;obtain ⟨e0,e2,e4,e5,e9,e21⟩:=aa.k6 e0 e2 e4 e5 e9 e21;replace r0:=aa.ro 7 e3 rfl;have r1:=aa.ro 5 e27 rfl;refine eC ab [jo r0,jo r1] ⟨ao e5,aF 0,ax⟩ fun ac ag ae ab aa=> ?_;obtain ⟨e0,e2,e3,e5,e9,e21⟩:=aa.k6 e0 e2 e3 e5 e9 e21;have e4:=aa.V 1;replace r0:=aa.O 0;replace r1:=aa.O 1;show _;refine eM ab [jo r0,jo r1] ⟨ao e5,am fun c=>cV rfl (c.q 0) rfl (by omega),aF 1,ax⟩ fun ac ag ae ab aa=> ?_;obtain ⟨e0,e2,e3,e4,e9,e21⟩:=aa.k6 e0 e2 e3 e4 e9 e21;have e5:=aa.V 2;replace r0:=aa.O 0;replace r1:=aa.O 1;refine ⟨⟨k+1,b8x3,ae,?_,ab,e3,(e4.trans (bd (by first | omega | rfl | (rw [la (by assumption)]) | (rw [mw (by assumption)];omega)))),(e5.trans (bd (by first | omega | rfl | (rw [la (by assumption)]) | (rw [mw (by assumption)];omega)))),e0,e2,?_⟩,?_⟩
     · omega
     · exact r0.cast (by first | exact xQ (by assumption) | exact vt (by assumption))
     · simp only [m5,e5,intOf];omega
   have hd2:=hc2;try simp only [aG,ah] at hd2
   refine wp_skip ?_;show _;refine eM ab [jo r0] ⟨ao e5,am fun c=>cV rfl (c.q 0) rfl (by omega),aF 1,ax⟩ fun ac ag ae ab aa=> ?_;obtain ⟨e0,e2,e3,e4,e9,e21⟩:=aa.k6 e0 e2 e3 e4 e9 e21;have e5:=aa.V 2;replace r0:=aa.O 0;refine ⟨⟨k+1,u,ae,?_,ab,e3,(e4.trans (bd (by first | omega | rfl | (rw [la (by assumption)]) | (rw [mw (by assumption)];omega)))),(e5.trans (bd (by first | omega | rfl | (rw [la (by assumption)]) | (rw [mw (by assumption)];omega)))),e0,e2,?_⟩,?_⟩
   · omega
   · exact r0.cast (by first | exact xQ (by assumption) | exact vt (by assumption))
   · simp only [m5,e5,intOf];omega
 try simp only [ah,dF] at hc1
 refine wp_exit ?_;repeat (with_reducible refine cn ?_)
 refine cr ?_;refine wp_seq (eC ab [jo r0] ⟨ao e3,aF 0,ax⟩ fun ac ag ae ab aa=> ?_);have e2:=aa.V 1;replace r0:=aa.O 0;refine wp_ret ?_;refine rp ?_;refine cH (fn:=Tryz.f37) rfl ab.defers e2 ?_;replace r0:=r0.cast (show cQ s=_ from by rw [cQ,show s.size=k by omega]);exact ⟨_,rfl,ab.ext0,r0.1,fun g_ h_=>(ab.bnd _ g_ (r0.2 g_ h_)).1⟩
set_option maxRecDepth 100000 in
theorem jQ (s:ByteArray) (w:World) (hs:s.size≤1000000000):Calls Tryz.prog 86 #[(aR s)] w (fun e w'=>e= .returned (aA (ef s))∧Ext bc w w'):=by
 refine enter (n:=17) Tryz.func86 rfl rfl (av rfl) ?_;intro a0 τ0 ha st0;have e0:=np ha;refine wp_seq (eB st0 [] ⟨am fun c=>ar rfl rfl,ax⟩ fun ac ag ae ab aa=> ?_);replace e0:=aa.k1 e0;have e2:=aa.V 0;refine wp_seq ?_;refine rg [_,_,_,_,_,_,_,_,_,_,gown (((decide (0 < (s.size:Int)))&&(mi (ca s 0)))=true) fq 9 (Nw w) 0 13 (cQ s),_,_,_,_] [0,1,3,7,15,31,63,127,255,511,1023,2047,4095,8191,16383] ab [] ⟨ao e0,am fun c=>gA rfl ba (c.q 0),am fun c=>jp rfl (c.q 1) rfl,bm 2,aE 3 rfl fun c hpc=>aJ rfl (c.p e0),aE 3 rfl fun c hpc=>gL rfl ba (c.M 4 hpc) rfl (by have hq0:=bt hpc;omega) (by have hq0:=bt hpc;omega),fv 3 true rfl fun c hpc=>⟨_,_,(bq rfl rfl Tryz.call57 (c.M 5 hpc)),wL (ca s 0) _⟩,bK 3 6,bm 7,aE 8 rfl fun c hpc=>aJ rfl (c.p e0),tI (gi:=8) (tg:=11) rfl rfl rfl rfl rfl rfl Iff.rfl (fun hpc=>qV rfl rfl rfl (fun _ a_ _ _ c=>⟨_,_,(bq rfl rfl Tryz.call37 (c.M 9 hpc)),uh s _ (by have hq0:=hpc;(try simp only [aw,ai] at hq0);omega)⟩)),aE 8 rfl fun c hpc=>cX rfl bj rfl (c.rg 10 rfl hpc).isSl,aE 8 rfl fun c hpc=>bW rfl (c.M 11 hpc) rfl,bK 8 12,aF 13,ax⟩ fun ac ag ae ab aa=> ?_;have e2:=aa.V 14;refine wp_ret ?_;refine rp ?_;refine cH (fn:=Tryz.f86) rfl ab.defers e2 ?_;exact ⟨congrArg _ (congrArg _ (tO s)),ab.ext0⟩
end
section
open Srt
def qv (s:ByteArray) (k:Int):Bool:=decide (k=(s.size:Int)) || mi (ca s k)
def su (s:ByteArray):Nat→List Int
  | 0 => [0]
  | k + 1 => if qv s ((k : Int) + 1) = true then su s k ++ [((k : Nat) : Int) + 1] else su s k
def dC (s:ByteArray):List Int:=su s s.size
theorem pr {s:ByteArray} {k:Nat} (h:qv s ((k:Int)+1)=true):su s (k+1)=su s k++ [((k:Nat):Int)+1]:=by rw [su,if_pos h]
theorem nL {s:ByteArray} {k:Nat} (h:qv s ((k:Int)+1)=false):su s (k+1)=su s k:=by rw [su,if_neg (by rw [h];decide)]
theorem AN {s:ByteArray} {k:Nat} (h:qv s ((k:Int)+1)=true):ji s (k+1)=((ji s k).1++ [s.extract (ji s k).2 (k+1)],k+1):=rO h
theorem AO {s:ByteArray} {k:Nat} (h:qv s ((k:Int)+1)=false):ji s (k+1)=ji s k:=pP h
theorem uj (s:ByteArray) (k:Nat):(su s k).length=(ji s k).1.length+1:=by
  induction k with
  | zero => rfl
  | succ k ih =>
    cases h:qv s ((k:Int)+1) with
    | true => rw [pr h, AN h]; simp [ih]
    | false => rw [nL h, AO h, ih]
theorem rQ (s:ByteArray):(dC s).length=(cQ s).length+1:=uj s s.size
theorem lx {s:ByteArray} {p:Nat} (h:p < s.size):p < endF s p∧endF s p≤s.size:=by
  have:=Gw s (p+1) (by omega);unfold endF;omega
theorem AP {s:ByteArray} {p m:Nat} (h:p < s.size) (h1:p < m) (h2:m < endF s p):qv s (m:Int)=false:=by
  have h3:∀d,p+1+d < endF s p→(p+1+d < s.size∧qt (ca s ((p+1+d:Nat):Int))=true)∧(p+1+d)+1+tw s (p+1+d+1)=endF s p:=by
    intro d;induction d with
    | zero =>
      intro hd;have hs:p+1 < s.size:=by have:=(lx h).2;omega
      have hb:qt (ca s ((p+1:Nat):Int))=true:=by
        cases hb:qt (ca s ((p+1:Nat):Int)) with
        | true => rfl
        | false =>
          have:=tN (s:=s) (k:=p+1) (.inr hb);unfold endF at hd;omega
      refine ⟨⟨hs,hb⟩,?_⟩;have:=pd hs hb;exact this.symm
    | succ d ih =>
      intro hd;obtain ⟨⟨i1,i2⟩,i3⟩:=ih (by omega);have hs:p+1+(d+1) < s.size:=by have:=(lx h).2;omega
      have hb:qt (ca s ((p+1+(d+1):Nat):Int))=true:=by
        cases hb:qt (ca s ((p+1+(d+1):Nat):Int)) with
        | true => rfl
        | false =>
          have:=tN (s:=s) (k:=p+1+(d+1)) (.inr hb);have e:p+1+d+1=p+1+(d+1):=by omega
          rw [e] at i3;omega
      refine ⟨⟨hs,hb⟩,?_⟩;have:=pd hs hb;have e:p+1+d+1=p+1+(d+1):=by omega
      rw [e] at i3;omega
  obtain ⟨d,rfl⟩:∃d,m=p+1+d:=⟨m - (p+1),by omega⟩;obtain ⟨⟨h4,h5⟩,_⟩:=h3 d h2;unfold qv;rw [mQ,h5];simp;omega
theorem Dl {s:ByteArray} {p:Nat} (h:p < s.size):qv s (endF s p:Int)=true:=by
  unfold qv;by_cases he:endF s p=s.size
  · rw [he];simp
  · have hlt:endF s p < s.size:=by have:=(lx h).2;omega
    have hb:qt (ca s (endF s p:Int))=false:=by
      cases hb:qt (ca s (endF s p:Int)) with
      | false => rfl
      | true =>
        have h1:=pd hlt hb;have h3:∀d,p+1+d≤endF s p→p+1+d+tw s (p+1+d)=endF s p:=by
          intro d;induction d with
          | zero => intro _; rfl
          | succ d ih =>
            intro hd;have i:=ih (by omega);have hx:=AP h (m:=p+1+d) (by omega) (by omega);have hy:qt (ca s ((p+1+d:Nat):Int))=true:=by
              unfold qv at hx;rw [aG,mQ] at hx;simpa using hx.2
            have:=pd (s:=s) (k:=p+1+d) (by have:=(lx h).2;omega) hy;have e:p+1+d+1=p+1+(d+1):=by omega
            rw [e] at this;omega
        have:=h3 (endF s p - (p+1)) (by have:=(lx h).1;omega);have e:p+1+(endF s p - (p+1))=endF s p:=by have:=(lx h).1;omega
        rw [e] at this
        omega
    rw [mQ,hb];simp
theorem vv {s:ByteArray} {p:Nat} (h:p < s.size) (hs:(ji s p).2=p):ji s (endF s p)=((ji s p).1++ [s.extract p (endF s p)],endF s p)∧su s (endF s p)=su s p++ [(endF s p:Int)]:=by
  have h1:∀d,p+d < endF s p→ji s (p+d)=ji s p∧su s (p+d)=su s p:=by
    intro d;induction d with
    | zero => intro _; exact ⟨rfl, rfl⟩
    | succ d ih =>
      intro hd;obtain ⟨i1,i2⟩:=ih (by omega);have hb:=AP h (m:=p+d+1) (by omega) (by omega);have e:((p+d+1:Nat):Int)=((p+d:Nat):Int)+1:=by omega
      rw [e] at hb;exact ⟨by rw [←Nat.add_assoc,AO hb,i1],by rw [←Nat.add_assoc,nL hb,i2]⟩
  obtain ⟨k,hk⟩:∃k,endF s p=k+1:=⟨endF s p - 1,by have:=(lx h).1;omega⟩;obtain ⟨i1,i2⟩:=h1 (k - p) (by have:=(lx h).1;omega);have e:p+(k - p)=k:=by have:=(lx h).1;omega
  rw [e] at i1 i2;have hb:=Dl h;rw [hk] at hb ⊢;have e2:((k+1:Nat):Int)=(k:Int)+1:=by omega
  rw [e2] at hb;rw [AN hb,pr hb,i1,i2,hs,e2];exact ⟨rfl,rfl⟩
theorem vw (s:ByteArray) (k:Nat):(su s k).Pairwise (· < ·)∧(∀x ∈ su s k,0≤x∧x≤(k:Int))∧(su s k)[0]? =some 0:=by
  induction k with
  | zero => exact ⟨by simp [su], fun x hx => by simp [su] at hx; omega, rfl⟩
  | succ k ih =>
    obtain ⟨i1,i2,i3⟩:=ih;cases h:qv s ((k:Int)+1) with
    | true =>
      rw [pr h];refine ⟨?_,fun x hx=> ?_,?_⟩
      · rw [List.pairwise_append];refine ⟨i1,by simp,fun x hx y hy=> ?_⟩;simp at hy;have:=(i2 x hx).2;omega
      · rcases List.mem_append.1 hx with hx | hx
        · have:=i2 x hx;omega
        · simp at hx;omega
      · rw [jn (List.getElem?_eq_some_iff.1 i3).1];exact i3
    | false =>
      rw [nL h];exact ⟨i1,fun x hx=>by have:=i2 x hx;omega,i3⟩
theorem pt {xs:List Int} (h:xs.Pairwise (· < ·)) {i j:Nat} (hij:i < j) (hj:j < xs.length):nth xs (i:Int) < nth xs (j:Int):=by
  rw [mI,mI];have h1:=List.pairwise_iff_getElem.1 h i j (by omega) hj hij;simp only [List.getD,bE hj,bE (show i < xs.length by omega),Option.getD_some];exact h1
def plcF (xs:List Int) (x:Int):Nat:=(xs.takeWhile fun y=>decide (y < x)).length
theorem rR {xs:List Int} {x:Int} (h:xs.Pairwise (· < ·)) {i:Nat} (hi:i≤xs.length) (h1:∀j:Nat,j < i→nth xs (j:Int) < x) (h2:i < xs.length→x≤nth xs (i:Int)):plcF xs x=i:=by
  induction xs generalizing i with
  | nil => simp at hi; subst hi; rfl
  | cons y ys ih =>
    have hp:=List.pairwise_cons.1 h;cases i with
    | zero =>
      have:=h2 (by simp);have e:nth (y::ys) ((0:Nat):Int)=y:=rfl;rw [e] at this
      unfold plcF;rw [gw,if_neg (by simp;omega)];rfl
    | succ i =>
      have h0:=h1 0 (by omega);have e:nth (y::ys) ((0:Nat):Int)=y:=rfl;rw [e] at h0;have hs:∀j:Nat,nth (y::ys) ((j+1:Nat):Int)=nth ys (j:Int):=fun j=>by rw [mI,mI];rfl
      have:=ih hp.2 (i:=i) (by simp at hi;omega) (fun j hj=>by rw [←hs j];exact h1 (j+1) (by omega)) (fun hi2=>by rw [←hs i];exact h2 (by simp;omega));unfold plcF at this ⊢
      rw [gw,if_pos (by simpa using h0),bY,this]
def KQ (n k:Nat) (Q:Nat × Ps→Prop) (K:dJ):Prop:=∀(to:Nat) (ps:Ps) (φ:Fl),k≤to→to≤n→∀y,(K to ps φ).1=some y→Q y
theorem KQ.up {n k k':Nat} {Q:Nat × Ps→Prop} {K:dJ} (h:KQ n k Q K) (hk:k≤k'):KQ n k' Q K:=fun to ps φ h1 h2=>h to ps φ (by omega) h2
def RQ (n:Nat) (r:iw):Prop:=∀(k:Nat) (K:dJ) (ps:Ps) (φ:Fl) (Q:Nat × Ps→Prop),k≤n→KQ n k Q K→∀y,(r k K ps φ).1=some y→Q y
theorem AQ {n:Nat}:∀(l:List iw),(∀r ∈ l,RQ n r)→RQ n (iV l)
  | [], _ => fun k K ps φ Q hk hK y hy => hK k ps φ (br _) hk y hy
  | r :: l, h => fun k K ps φ Q hk hK y hy => h r (by simp) k (fun to ps φ => iV l to K ps φ) ps φ Q hk (fun to ps φ h1 h2 y hy => AQ l (fun x hx => h x (by simp [hx])) to K ps φ Q h2 (hK.up h1) y hy) y hy
theorem AR {n:Nat}:∀(l:List iw),(∀r ∈ l,RQ n r)→RQ n (jF l)
  | [], _ => fun k K ps φ Q hk hK y hy => by cases hy
  | r :: l, h => fun k K ps φ Q hk hK y hy => by
    rw [jF] at hy;split at hy
    · exact h r (by simp) k K ps φ Q hk hK y hy
    · exact AR l (fun x hx=>h x (by simp [hx])) k K ps _ Q hk hK y hy
theorem vx {n:Nat} {r:iw} (hr:RQ n r) {lo m:Nat} {mn mx:Int} {lz:Bool}:∀(g times:Nat),RQ n (cA r lo m mn mx lz g times)
  | 0, times => fun k K ps φ Q hk hK y hy => by cases hy
  | g + 1, times => fun k K ps φ Q hk hK y hy => by
    have h1:∀y,(gQ mn lz times k K ps φ).1=some y→Q y:=fun y hy=>by
      unfold gQ at hy;split at hy
      · exact hK k ps φ (br _) hk y hy
      · cases hy
    have h2:∀φ y,(df r lo m mn mx lz g times k K ps φ).1=some y→Q y:=fun φ y hy=>hr k (dM r lo m mn mx lz g times k K) _ φ Q hk (fun to ps φ a1 a2 y hy=>by
      unfold dM at hy;split at hy
      · exact vx hr g (times+1) to K ps φ Q a2 (hK.up a1) y hy
      · cases hy) y hy
    have h3:∀φ y,(gM mn lz times k K ps φ).1=some y→Q y:=fun φ y hy=>by
      unfold gM at hy;split at hy
      · exact hK k ps φ (br _) hk y hy
      · cases hy
    rw [mm] at hy;split at hy
    · exact h1 y hy
    · split at hy
      · split at hy
        · exact h2 _ y hy
        · exact h3 _ y hy
      · exact h3 _ y hy
theorem uk {n:Nat} {l:List iw} (h:∀r ∈ l,RQ n r):RQ n (sM l):=by
  cases l with
  | nil => exact fun k K ps φ Q hk hK y hy => by cases hy
  | cons r l => exact h r (by simp)
theorem xR {E:Env} {t:Tr} {lo m:Nat} {l:List iw} (h:∀r ∈ l,RQ E.cs.length r):RQ E.cs.length (iB E t lo m l):=fun k K ps φ Q hk hK y hy=>by
  unfold iB at hy;split at hy
  · cases hy
  · split at hy
    · exact AQ l h k K ps φ Q hk hK y hy
    · split at hy
      · exact AR l h k K ps φ Q hk hK y hy
      · split at hy
        · exact vx (uk h) _ _ k K ps φ Q hk hK y hy
        · split at hy
          · cases hy
          · unfold kb at hy;split at hy
            · exact uk h k _ ps _ Q hk (fun to ps φ a1 a2 y hy=>hK to _ φ a1 a2 y hy) y hy
            · split at hy
              · exact uk h k K ps _ Q hk hK y hy
              · split at hy
                · split at hy
                  · rename_i hc;simp only [aw,ai] at hc;exact hK (k+1) ps _ (by omega) (by omega) y hy
                  · cases hy
                · split at hy
                  · exact hK k ps _ (br _) hk y hy
                  · cases hy
theorem kp (E:Env) (p:Pt):RQ E.cs.length (be E p):=by
  induction p using Pt.ind with
  | h p ih =>
    rw [kB];exact xR fun r hr=>by
      obtain ⟨q,hq,rfl⟩:=List.mem_map.1 hr;exact ih q hq
theorem xS {E:Env}:∀(l:List Tr) (g:Nat),(∀k ∈ l,∀g,RQ E.cs.length (bi E k g))→∀r ∈ gb E l g,RQ E.cs.length r
  | [], g, h, r, hr => by simp [gb] at hr
  | t :: l, g, h, r, hr => by
    rw [gb] at hr;rcases List.mem_cons.1 hr with rfl | hr
    · exact h t (by simp) g
    · exact xS l (g+grpN t) (fun k hk=>h k (by simp [hk])) r hr
theorem Dm (E:Env) (t:Tr):∀g,RQ E.cs.length (bi E t g):=by
  induction t using Tr.ind with
  | h t ih =>
    intro g;rw [kc];exact xR (xS t.kids _ ih)
end
section
open Go.RowKit
open Srt
set_option maxRecDepth 100000 in
theorem GA (r:ByteArray × ByteArray) (w:World) (h1:r.1.size≤1000000000) (h2:r.2.size≤1000000000):Calls Tryz.prog 123 #[(.agg #[(aR r.1),(aR r.2)])] w (fun e w'=>e= .returned (aA (fj r))∧Ext bc w w'):=by
 refine enter (n:=18) Tryz.func123 rfl rfl (av rfl) ?_;intro a0 τ0 ha st0;have e0:aT a0 0=(.agg #[(aR r.1),(aR r.2)]):=ha 0 _ rfl;clear ha;refine wp_seq (rg [box _ _ 0 1 [(aR r.1),(aR r.2)],_] [0,0] st0 [] ⟨fh (v:=(.agg #[(aR r.1),(aR r.2)])) rfl rfl rfl rfl rfl (fun _ _ _ _ c=>(c.p e0)),am fun c=>ar rfl rfl,ax⟩ fun ac ag ae ab aa=> ?_);obtain ⟨b1x1,e1⟩:=gx ac 1;have e2:=aa.V 1;have r0:=aa.rb 0 e1 rfl;refine wp_seq ?_;refine rg [_,_,_,_,_,_,_,_,_,_,_,_,_,_,_,_] [0,1,3,7,15,31,63,127,255,511,1023,511,2559,8191,16383,32767] ab [jb r0] ⟨bZ bB aZ e1 r0.ptr,dq bD 0 0 0,dU fun c=>⟨_,_,(bq rfl rfl Tryz.call29 (c.q 1)),rP r.1 _ (by omega)⟩,bm 2,aE 3 rfl fun c hpc=>cN rfl bB aZ ((c.p e1).trans r0.ptr),aE 3 rfl fun c hpc=>ay rfl bD (c.M 4 hpc) ((c.B 0).cell (j:=1) rfl),fv 3 true rfl fun c hpc=>⟨_,_,(bq rfl rfl Tryz.call29 (c.M 5 hpc)),rP r.2 _ (by have hq0:=hpc;omega)⟩,bK 3 6,bm 7,aE 8 rfl fun c hpc=>cN rfl bB aZ ((c.p e1).trans r0.ptr),aE 8 rfl fun c hpc=>ay rfl bD (c.M 9 hpc) ((c.B 0).cell (j:=0) rfl),aE 8 rfl fun c hpc=>cN rfl bB aZ ((c.p e1).trans r0.ptr),aE 8 rfl fun c hpc=>ay rfl bD (c.M 11 hpc) ((c.B 0).cell (j:=1) rfl),aE 8 rfl fun c hpc=>nB rfl (c.M 10 hpc) (c.M 12 hpc),bK 8 13,aF 14,ax⟩ fun ac ag ae ab aa=> ?_;have e2:=aa.V 15;refine wp_ret ?_;refine rp ?_;refine cH (fn:=Tryz.f123) rfl ab.defers e2 ?_;exact ⟨rfl,ab.ext0⟩
set_option maxRecDepth 100000 in
theorem Fn (v:Value) (xs:List (ByteArray × ByteArray)) (w:World) (hS:SlT ik w v xs) (hz:pk xs) (hbig:xs.length≤1000000000):Calls Tryz.prog 100 #[v] w (fun e w'=>e= .returned (aA (lZ xs))∧Ext bc w w'):=by
 refine enter (n:=31) Tryz.func100 rfl rfl (av rfl) ?_;intro a0 τ0 ha st0;have e0:=np ha;have hle:=hS.le;refine wp_seq (eB st0 [] ⟨am fun c=>ar rfl rfl,ax⟩ fun ac ag ae ab aa=> ?_);replace e0:=aa.k1 e0;have e2:=aa.V 0;refine wp_seq ?_;refine wp_seq (zO [0,1,0] ab [] ⟨ao e0,am fun c=>cX rfl aV (c.q 0) hS.sl,am fun c=>aJ rfl rfl,ax⟩ fun ac ag ae ab aa=> ?_);obtain ⟨e0,e2⟩:=aa.k2 e0 e2;have e5:=aa.V 0;have e6:=aa.V 1;have e7:=aa.V 2;refine wp_block ?_;refine wp_loop (fun a_ w_=>∃(k:Nat) (τ:Nat→aP),(k≤xs.length)∧
      (∀i < k,nG xs ((i:Nat):Int)=false)∧
      St (Nw w) w 31 a_ w_ τ∧
      aT a_ 7=(aj (k:Int))∧
      aT a_ 0=v∧
      aT a_ 5=v∧
      aT a_ 6=(aj (xs.length:Int))) (fun a_ _=>xs.length - (intOf (aT a_ 7)).toNat) ?_ ?_
 · refine ⟨0,ae,?_,?_,ab,(e7.trans (bd (by omega))),e0,e5,e6⟩
   · omega
   · intro i hi;omega
 intro a3 w3 hI;obtain ⟨k,τ3,q0,q1,st3,e7,e0,e5,e6⟩:=hI;have hzk:=rA hz (k:=k);have m7:=e7;refine wp_seq (eB st3 [] ⟨am fun c=>dh rfl (c.p e7) (c.p e6),ax⟩ fun ac ag ae ab aa=> ?_);obtain ⟨e0,e5,e6,e7⟩:=aa.k4 e0 e5 e6 e7;have e8:=aa.V 0;refine wp_seq ?_;refine wp_cond_split e8 (fun hc1=> ?_) (fun hc1=> ?_)
 · try simp only [ai] at hc1
   refine wp_skip ?_;refine wp_seq ?_;refine wp_block ?_;refine wp_seq (rg [_,_,_,box _ _ 0 4 [(aR (⟨#[]⟩:ByteArray)),(aR (⟨#[]⟩:ByteArray))],_,_] [0,0,2,0,15,31] ab [] ⟨ao e7,am fun c=>aK rfl aV bM (c.p e5) hS.sl (c.p e7) (by omega) (by omega),am fun c=>cT (vs:=[(aR ((nth xs (k:Int)).1)),(aR ((nth xs (k:Int)).2))]) rfl gY bM (c.q 1) rfl (fun _ _ hj=>(hS.at (ab.ext.trans c.J.ext)).elem (bu (i:=(k:Int)) (by omega) (by omega)) hj),cB rfl rfl rfl rfl cS rfl,aF 0,fZ (cx:=[(aR ((nth xs (k:Int)).1)),(aR ((nth xs (k:Int)).2))]) (off:=0) rfl bM fun c=>⟨c.rb 3 rfl,(c.rb 3 rfl).ptr,(c.q 2)⟩,ax⟩ fun ac ag ae ab aa=> ?_);obtain ⟨b5x4,e4⟩:=gx ac 4;obtain ⟨e0,e5,e6,e7,e8⟩:=aa.k5 e0 e5 e6 e7 e8;have e3:=aa.V 4;have r0:=aa.rb 5 e4 rfl;refine wp_seq ?_;refine rg [_,_,_,_,_,_,_,_,_,_,_,_,_,_,_,_,_,_] [0,1,3,7,15,31,63,127,255,127,127,1151,3711,7807,15999,32767,65535,131071] ab [jb r0] ⟨am fun c=>ec rfl gY bM ((c.p e4).trans r0.ptr) (c.B 0),dU fun c=>⟨_,_,(bq rfl rfl Tryz.call123 (c.q 0)),GA (nth xs (k:Int)) _ (by omega) (by omega)⟩,am fun c=>dY rfl (c.q 1),bm 2,bo 3 rfl fun c hpc=>aJ rfl (c.p e3),bo 3 rfl fun c hpc=>jp rfl (c.M 4 hpc) rfl,bo 3 rfl fun c hpc=>aJ rfl (c.M 5 hpc),cF 6 true rfl fun c hpc=>cN rfl bB aZ ((c.p e4).trans r0.ptr),cF 6 true rfl fun c hpc=>ay rfl bD (c.M 7 hpc) ((c.B 0).cell (j:=0) rfl),cF 6 true rfl fun c hpc=>aJ rfl (c.p e0),cF 6 true rfl fun c hpc=>aJ rfl (c.p e3),cF 6 true rfl fun c hpc=>iA rfl (c.M 10 hpc) rfl (by have hq0:=bt hpc.2;have hq1:=hpc.1;(try simp only [aB,az] at hq1);omega),cF 6 true rfl fun c hpc=>aK rfl aV bM (c.M 9 hpc) hS.sl (c.M 11 hpc) (by have hq0:=bt hpc.2;have hq1:=hpc.1;(try simp only [aB,az] at hq1);omega) (by have hq0:=bt hpc.2;have hq1:=hpc.1;(try simp only [aB,az] at hq1);omega),cF 6 true rfl fun c hpc=>cN rfl bB aZ (c.M 12 hpc),cF 6 true rfl fun c hpc=>ay rfl bD (c.M 13 hpc) ((hS.at (ab.ext.trans c.J.ext)).elem (j:=1) (bu (i:=(k:Int) - 1) (by have hq0:=bt hpc.2;have hq1:=hpc.1;(try simp only [aB,az] at hq1);omega) (by have hq0:=bt hpc.2;have hq1:=hpc.1;(try simp only [aB,az] at hq1);omega)) rfl),cF 6 true rfl fun c hpc=>nB rfl (c.M 8 hpc) (c.M 14 hpc),bo 3 rfl fun c hpc=>lG rfl (c.M 6 hpc) (fun h=>c.m 15 rfl (And.intro hpc h)),dD 3 16,ax⟩ fun ac ag ae ab aa=> ?_;obtain ⟨e0,e3,e4,e5,e6,e7,e8⟩:=aa.k7 e0 e3 e4 e5 e6 e7 e8;have e29:=aa.V 17;replace r0:=aa.B 0;refine wp_cond_split e29 (fun hc2=> ?_) (fun hc2=> ?_)
   · have hd2:=hc2;try simp only [aw,aL,aN,aG,aB,az,ai,ah,aX] at hd2
     refine wp_seq (eB ab [jb r0] ⟨am fun c=>ar rfl rfl,ax⟩ fun ac ag ae ab aa=> ?_);obtain ⟨e0,e3,e4,e5,e6,e7,e8,e29⟩:=aa.k8 e0 e3 e4 e5 e6 e7 e8 e29;have e2:=aa.V 0;replace r0:=aa.B 0;refine wp_ret ?_;refine rp ?_;refine cH (fn:=Tryz.f100) rfl ab.defers e2 ?_;exact ⟨congrArg _ (congrArg _ (by exact (sK (k:=k) (by omega) (by assumption)).symm)),ab.ext0⟩
   have hd2:=hc2;try simp only [aw,aL,aN,aG,aB,az,ai,ah,aX] at hd2
   refine wp_skip ?_;show _;refine eC ab [jb r0] ⟨am fun c=>cV rfl (c.p e7) rfl (by omega),bm 0,ax⟩ fun ac ag ae ab aa=> ?_;obtain ⟨e0,e3,e4,e5,e6,e8,e29⟩:=aa.k7 e0 e3 e4 e5 e6 e8 e29;have e7:=aa.V 1;replace r0:=aa.B 0;refine ⟨⟨k+1,ae,?_,?_,ab,(e7.trans (bd (by omega))),e0,e5,e6⟩,?_⟩
   · omega
   · exact nZ q1 (by assumption)
   · simp only [m7,e7,intOf];omega
 try simp only [ah,aX] at hc1
 refine wp_exit ?_;repeat (with_reducible refine cn ?_)
 refine cr ?_;refine wp_seq (eB ab [] ⟨am fun c=>ar rfl rfl,ax⟩ fun ac ag ae ab aa=> ?_);have e2:=aa.V 0;refine wp_ret ?_;refine rp ?_;refine cH (fn:=Tryz.f100) rfl ab.defers e2 ?_;exact ⟨congrArg _ (congrArg _ (by exact (oN q1 (by omega)).symm)),ab.ext0⟩
set_option maxRecDepth 100000 in
theorem zg (v:Value) (xs:List (ByteArray × ByteArray)) (w:World) (hS:SlT ik w v xs) (hz:pk xs) (hbig:xs.length≤1000000000):Calls Tryz.prog 87 #[v] w (fun e w'=>e= .returned (aA (lZ xs))∧Ext bc w w'):=by
 refine enter (n:=47) Tryz.func87 rfl rfl (av rfl) ?_;intro a0 τ0 ha st0;have e0:=np ha;have hle:=hS.le;refine wp_seq (eB st0 [] ⟨am fun c=>ar rfl rfl,ax⟩ fun ac ag ae ab aa=> ?_);replace e0:=aa.k1 e0;have e2:=aa.V 0;refine wp_seq ?_;refine wp_seq (eB ab [] ⟨am fun c=>ar rfl rfl,ax⟩ fun ac ag ae ab aa=> ?_);obtain ⟨e0,e2⟩:=aa.k2 e0 e2;have e3:=aa.V 0;refine wp_block ?_;refine wp_loop (fun a_ w_=>∃(k:Nat) (τ:Nat→aP),(k≤xs.length)∧
      (∀i < k,nG xs ((i:Nat):Int)=false)∧
      St (Nw w) w 47 a_ w_ τ∧
      aT a_ 3=(aj (k:Int))∧
      aT a_ 0=v) (fun a_ _=>xs.length - (intOf (aT a_ 3)).toNat) ?_ ?_
 · refine ⟨0,ae,?_,?_,ab,(e3.trans (bd (by omega))),e0⟩
   · omega
   · intro i hi;omega
 intro a3 w3 hI;obtain ⟨k,τ3,q0,q1,st3,e3,e0⟩:=hI;have hzk:=rA hz (k:=k);have m3:=e3;refine wp_seq ?_;refine wp_seq (lD [0,0,2,7] st3 [] ⟨ao e3,ao e0,am fun c=>cX rfl aV (c.q 1) hS.sl,am fun c=>dh rfl (c.q 0) (c.q 2),ax⟩ fun ac ag ae ab aa=> ?_);obtain ⟨e0,e3⟩:=aa.k2 e0 e3;have e8:=aa.V 3;refine wp_cond_split e8 (fun hc1=> ?_) (fun hc1=> ?_)
 · try simp only [ai] at hc1
   refine wp_skip ?_;refine wp_seq ?_;refine wp_block ?_;refine wp_seq (rg [_,_,_,_,box _ _ 0 4 [(aR (⟨#[]⟩:ByteArray)),(aR (⟨#[]⟩:ByteArray))],_] [0,0,3,7,0,31] ab [] ⟨ao e0,ao e3,am fun c=>aK rfl aV bM (c.q 0) hS.sl (c.q 1) (by omega) (by omega),am fun c=>cT (vs:=[(aR ((nth xs (k:Int)).1)),(aR ((nth xs (k:Int)).2))]) rfl gY bM (c.q 2) rfl (fun _ _ hj=>(hS.at (ab.ext.trans c.J.ext)).elem (bu (i:=(k:Int)) (by omega) (by omega)) hj),cB rfl rfl rfl rfl cS rfl,fZ (cx:=[(aR ((nth xs (k:Int)).1)),(aR ((nth xs (k:Int)).2))]) (off:=0) rfl bM fun c=>⟨c.rb 4 rfl,(c.rb 4 rfl).ptr,(c.q 3)⟩,ax⟩ fun ac ag ae ab aa=> ?_);obtain ⟨b5x4,e4⟩:=gx ac 4;obtain ⟨e0,e3,e8⟩:=aa.k3 e0 e3 e8;have r0:=aa.rb 5 e4 rfl;refine wp_seq ?_;refine rg [_,_,_,_,_,_,_,_,_,_,_,_,_,_,_,_,_,_,_,_,_,_,_,_,_,_,_,_,_,_,_,_] [0,1,3,7,15,31,63,127,255,511,1023,2047,4095,2047,10239,32767,65535,131071,262143,524287,1048575,2097151,4194303,2097151,2097151,18874367,60817407,127926271,262143999,536870911,1073741823,2147483647] ab [jb r0] ⟨bZ bB aZ e4 r0.ptr,dq bD 0 0 0,dU fun c=>⟨_,_,(bq rfl rfl kC (c.q 1)),jQ ((nth xs (k:Int)).1) _ (by omega)⟩,am fun c=>dY rfl (c.q 2),bm 3,bo 4 rfl fun c hpc=>cN rfl bB aZ ((c.p e4).trans r0.ptr),bo 4 rfl fun c hpc=>ay rfl bD (c.M 5 hpc) ((c.B 0).cell (j:=1) rfl),fv 4 false rfl fun c hpc=>⟨_,_,(bq rfl rfl kC (c.M 6 hpc)),jQ ((nth xs (k:Int)).2) _ (by have hq0:=hpc;(try simp only [aB,az] at hq0);omega)⟩,bo 4 rfl fun c hpc=>dY rfl (c.M 7 hpc),dD 4 8,bm 9,bo 10 rfl fun c hpc=>cN rfl bB aZ ((c.p e4).trans r0.ptr),bo 10 rfl fun c hpc=>ay rfl bD (c.M 11 hpc) ((c.B 0).cell (j:=0) rfl),bo 10 rfl fun c hpc=>cN rfl bB aZ ((c.p e4).trans r0.ptr),bo 10 rfl fun c hpc=>ay rfl bD (c.M 13 hpc) ((c.B 0).cell (j:=1) rfl),bo 10 rfl fun c hpc=>zY rfl (c.M 12 hpc) (c.M 14 hpc),dD 10 15,bm 16,bo 17 rfl fun c hpc=>aJ rfl (c.p e3),bo 17 rfl fun c hpc=>jp rfl (c.M 18 hpc) rfl,bo 17 rfl fun c hpc=>aJ rfl (c.M 19 hpc),cF 20 true rfl fun c hpc=>cN rfl bB aZ ((c.p e4).trans r0.ptr),cF 20 true rfl fun c hpc=>ay rfl bD (c.M 21 hpc) ((c.B 0).cell (j:=0) rfl),cF 20 true rfl fun c hpc=>aJ rfl (c.p e0),cF 20 true rfl fun c hpc=>aJ rfl (c.p e3),cF 20 true rfl fun c hpc=>iA rfl (c.M 24 hpc) rfl (by have hq0:=bt hpc.2;have hq1:=hpc.1;(try simp only [aN,aG,aB,az] at hq1);omega),cF 20 true rfl fun c hpc=>aK rfl aV bM (c.M 23 hpc) hS.sl (c.M 25 hpc) (by have hq0:=bt hpc.2;have hq1:=hpc.1;(try simp only [aN,aG,aB,az] at hq1);omega) (by have hq0:=bt hpc.2;have hq1:=hpc.1;(try simp only [aN,aG,aB,az] at hq1);omega),cF 20 true rfl fun c hpc=>cN rfl bB aZ (c.M 26 hpc),cF 20 true rfl fun c hpc=>ay rfl bD (c.M 27 hpc) ((hS.at (ab.ext.trans c.J.ext)).elem (j:=1) (bu (i:=(k:Int) - 1) (by have hq0:=bt hpc.2;have hq1:=hpc.1;(try simp only [aN,aG,aB,az] at hq1);omega) (by have hq0:=bt hpc.2;have hq1:=hpc.1;(try simp only [aN,aG,aB,az] at hq1);omega)) rfl),cF 20 true rfl fun c hpc=>nB rfl (c.M 22 hpc) (c.M 28 hpc),bo 17 rfl fun c hpc=>lG rfl (c.M 20 hpc) (fun h=>c.m 29 rfl (And.intro hpc h)),dD 17 30,ax⟩ fun ac ag ae ab aa=> ?_;obtain ⟨e0,e3,e4,e8⟩:=aa.k4 e0 e3 e4 e8;have e46:=aa.V 31;replace r0:=aa.B 0;refine wp_cond_split e46 (fun hc2=> ?_) (fun hc2=> ?_)
   · have hd2:=hc2;try simp only [aw,aL,aN,aG,aB,az,ai,ah,aX] at hd2
     refine wp_seq (eB ab [jb r0] ⟨am fun c=>ar rfl rfl,ax⟩ fun ac ag ae ab aa=> ?_);obtain ⟨e0,e3,e4,e8,e46⟩:=aa.k5 e0 e3 e4 e8 e46;have e2:=aa.V 0;replace r0:=aa.B 0;refine wp_ret ?_;refine rp ?_;refine cH (fn:=Tryz.f87) rfl ab.defers e2 ?_;exact ⟨congrArg _ (congrArg _ (by exact (sK (k:=k) (by omega) ((rB xs (k:Int)).symm.trans (by assumption))).symm)),ab.ext0⟩
   have hd2:=hc2;try simp only [aw,aL,aN,aG,aB,az,ai,ah,aX] at hd2
   refine wp_skip ?_;show _;refine eM ab [jb r0] ⟨ao e3,am fun c=>cV rfl (c.q 0) rfl (by omega),aF 1,ax⟩ fun ac ag ae ab aa=> ?_;obtain ⟨e0,e4,e8,e46⟩:=aa.k4 e0 e4 e8 e46;have e3:=aa.V 2;replace r0:=aa.B 0;refine ⟨⟨k+1,ae,?_,?_,ab,(e3.trans (bd (by omega))),e0⟩,?_⟩
   · omega
   · exact nZ q1 ((rB xs (k:Int)).symm.trans (by assumption))
   · simp only [m3,e3,intOf];omega
 try simp only [ah,aX] at hc1
 refine wp_exit ?_;repeat (with_reducible refine cn ?_)
 refine cr ?_;refine wp_seq (eB ab [] ⟨am fun c=>ar rfl rfl,ax⟩ fun ac ag ae ab aa=> ?_);have e2:=aa.V 0;refine wp_ret ?_;refine rp ?_;refine cH (fn:=Tryz.f87) rfl ab.defers e2 ?_;exact ⟨congrArg _ (congrArg _ (by exact (oN q1 (by omega)).symm)),ab.ext0⟩
end
section
open Go.RowKit
open Srt
def oP (k:Int):Bool:=decide (k=2) || (decide (k=3) || (decide (k=4) || (decide (k=5) || decide (k=6))))
set_option maxRecDepth 100000 in
theorem wM (k:Int) (w:World):Calls Tryz.prog 101 #[(aj k)] w (fun e w'=>e= .returned (aA (oP k))∧Ext bc w w'):=by
 refine enter (n:=10) Tryz.func101 rfl rfl (av rfl) ?_;intro a0 τ0 ha st0;have e0:=np ha;refine wp_seq (eB st0 [] ⟨am fun c=>ar rfl rfl,ax⟩ fun ac ag ae ab aa=> ?_);replace e0:=aa.k1 e0;have e2:=aa.V 0;refine wp_seq ?_;refine wp_seq (eB ab [] ⟨ao e0,ax⟩ fun ac ag ae ab aa=> ?_);replace e2:=aa.k1 e2;have e3:=aa.V 0;refine wp_block ?_;refine wp_seq ?_;refine wp_seq (eC ab [] ⟨am fun c=>bW rfl (c.p e3) rfl,aF 0,ax⟩ fun ac ag ae ab aa=> ?_);obtain ⟨e2,e3⟩:=aa.k2 e2 e3;have e4:=aa.V 1;refine wp_cond_split e4 (fun hc1=> ?_) (fun hc1=> ?_)
 · have hd1:=hc1;try simp only [ai] at hd1
   refine wp_skip ?_;refine wp_cond_true (e4.trans (congrArg _ hc1)) ?_;refine wp_seq (eB ab [] ⟨am fun c=>ar rfl rfl,ax⟩ fun ac ag ae ab aa=> ?_);have e2:=aa.V 0;refine wp_ret ?_;refine rp ?_;refine cH (fn:=Tryz.f101) rfl ab.defers e2 ?_;exact ⟨congrArg _ (congrArg _ (by unfold oP;symm;simp;omega)),ab.ext0⟩
 have hd2:=hc1;try simp only [ah] at hd2
 refine wp_seq (eC ab [] ⟨am fun c=>bW rfl (c.p e3) rfl,aF 0,ax⟩ fun ac ag ae ab aa=> ?_);obtain ⟨e2,e3⟩:=aa.k2 e2 e3;have e4:=aa.V 1;refine wp_cond_split e4 (fun hc3=> ?_) (fun hc3=> ?_)
 · have hd3:=hc3;try simp only [ai] at hd3
   refine wp_skip ?_;refine wp_cond_true (e4.trans (congrArg _ hc3)) ?_;refine wp_seq (eB ab [] ⟨am fun c=>ar rfl rfl,ax⟩ fun ac ag ae ab aa=> ?_);have e2:=aa.V 0;refine wp_ret ?_;refine rp ?_;refine cH (fn:=Tryz.f101) rfl ab.defers e2 ?_;exact ⟨congrArg _ (congrArg _ (by unfold oP;symm;simp;omega)),ab.ext0⟩
 have hd4:=hc3;try simp only [ah] at hd4
 refine wp_seq (eC ab [] ⟨am fun c=>bW rfl (c.p e3) rfl,aF 0,ax⟩ fun ac ag ae ab aa=> ?_);obtain ⟨e2,e3⟩:=aa.k2 e2 e3;have e4:=aa.V 1;refine wp_cond_split e4 (fun hc5=> ?_) (fun hc5=> ?_)
 · have hd5:=hc5;try simp only [ai] at hd5
   refine wp_skip ?_;refine wp_cond_true (e4.trans (congrArg _ hc5)) ?_;refine wp_seq (eB ab [] ⟨am fun c=>ar rfl rfl,ax⟩ fun ac ag ae ab aa=> ?_);have e2:=aa.V 0;refine wp_ret ?_;refine rp ?_;refine cH (fn:=Tryz.f101) rfl ab.defers e2 ?_;exact ⟨congrArg _ (congrArg _ (by unfold oP;symm;simp;omega)),ab.ext0⟩
 have hd6:=hc5;try simp only [ah] at hd6
 refine wp_seq (eC ab [] ⟨am fun c=>bW rfl (c.p e3) rfl,aF 0,ax⟩ fun ac ag ae ab aa=> ?_);obtain ⟨e2,e3⟩:=aa.k2 e2 e3;have e4:=aa.V 1;refine wp_cond_split e4 (fun hc7=> ?_) (fun hc7=> ?_)
 · have hd7:=hc7;try simp only [ai] at hd7
   refine wp_skip ?_;refine wp_cond_true (e4.trans (congrArg _ hc7)) ?_;refine wp_seq (eB ab [] ⟨am fun c=>ar rfl rfl,ax⟩ fun ac ag ae ab aa=> ?_);have e2:=aa.V 0;refine wp_ret ?_;refine rp ?_;refine cH (fn:=Tryz.f101) rfl ab.defers e2 ?_;exact ⟨congrArg _ (congrArg _ (by unfold oP;symm;simp;omega)),ab.ext0⟩
 have hd8:=hc7;try simp only [ah] at hd8
 refine eC ab [] ⟨am fun c=>bW rfl (c.p e3) rfl,aF 0,ax⟩ fun ac ag ae ab aa=> ?_;replace e2:=aa.k1 e2;have e4:=aa.V 1;refine wp_cond_split e4 (fun hc9=> ?_) (fun hc9=> ?_)
 · have hd9:=hc9;try simp only [ai] at hd9
   refine wp_seq (eB ab [] ⟨am fun c=>ar rfl rfl,ax⟩ fun ac ag ae ab aa=> ?_);have e2:=aa.V 0;refine wp_ret ?_;refine rp ?_;refine cH (fn:=Tryz.f101) rfl ab.defers e2 ?_;exact ⟨congrArg _ (congrArg _ (by unfold oP;symm;simp;omega)),ab.ext0⟩
 have hd9:=hc9;try simp only [ah] at hd9
 refine wp_skip ?_;show _;refine wp_seq (eB ab [] ⟨am fun c=>ar rfl rfl,ax⟩ fun ac ag ae ab aa=> ?_);have e2:=aa.V 0;refine wp_ret ?_;refine rp ?_;refine cH (fn:=Tryz.f101) rfl ab.defers e2 ?_;exact ⟨congrArg _ (congrArg _ (by unfold oP;symm;simp;omega)),ab.ext0⟩
set_option maxRecDepth 100000 in
theorem Dn (v:Value) (xs:List Int) (x:Int) (w:World) (hS:SlT gl w v xs):Calls Tryz.prog 143 #[v,(aj x)] w (fun e w'=>e= .returned (aj (EA (fun y=>decide (x=y)) xs))∧Ext bc w w'):=by
 refine enter (n:=19) Tryz.func143 rfl rfl (av rfl) ?_;intro a0 τ0 ha st0;obtain ⟨e0,e1⟩:=qr ha;have hle:=hS.le;refine wp_seq (eB st0 [] ⟨am fun c=>ar rfl rfl,ax⟩ fun ac ag ae ab aa=> ?_);obtain ⟨e0,e1⟩:=aa.k2 e0 e1;have e4:=aa.V 0;refine wp_seq ?_;refine wp_seq (zO [0,1,0] ab [] ⟨ao e0,am fun c=>cX rfl cb (c.q 0) hS.sl,am fun c=>aJ rfl rfl,ax⟩ fun ac ag ae ab aa=> ?_);obtain ⟨e0,e1,e4⟩:=aa.k3 e0 e1 e4;have e7:=aa.V 1;have e8:=aa.V 2;refine wp_block ?_;refine wp_loop (fun a_ w_=>∃(k:Nat) (τ:Nat→aP),(k≤xs.length)∧
      (∀y ∈ xs.take k,decide (x=y)=false)∧
      St (Nw w) w 19 a_ w_ τ∧
      aT a_ 8=(aj (k:Int))∧
      aT a_ 0=v∧
      aT a_ 1=(aj x)∧
      aT a_ 7=(aj (xs.length:Int))) (fun a_ _=>xs.length - (intOf (aT a_ 8)).toNat) ?_ ?_
 · refine ⟨0,ae,?_,?_,ab,(e8.trans (bd (by omega))),e0,e1,e7⟩
   · omega
   · simp
 intro a3 w3 hI;obtain ⟨k,τ3,q0,q1,st3,e8,e0,e1,e7⟩:=hI;have m8:=e8;refine wp_seq (eB st3 [] ⟨am fun c=>dh rfl (c.p e8) (c.p e7),ax⟩ fun ac ag ae ab aa=> ?_);obtain ⟨e0,e1,e7,e8⟩:=aa.k4 e0 e1 e7 e8;have e9:=aa.V 0;refine wp_seq ?_;refine wp_cond_split e9 (fun hc1=> ?_) (fun hc1=> ?_)
 · try simp only [ai] at hc1
   refine wp_skip ?_;refine wp_seq ?_;refine wp_block ?_;refine wp_seq (eC ab [] ⟨ao e8,aF 0,ax⟩ fun ac ag ae ab aa=> ?_);obtain ⟨e0,e1,e7,e8,e9⟩:=aa.k5 e0 e1 e7 e8 e9;have e5:=aa.V 1;refine wp_seq (CK [0,0,0,6,14,31] ab [] ⟨ao e1,ao e0,ao e5,am fun c=>aK rfl cb au (c.q 1) hS.sl (c.q 2) (by omega) (by omega),am fun c=>ay rfl aC (c.q 3) ((hS.at (ab.ext.trans c.J.ext)).elem (j:=0) (bu (i:=(k:Int)) (by omega) (by omega)) rfl),am fun c=>bW rfl (c.q 0) (c.q 4),ax⟩ fun ac ag ae ab aa=> ?_);obtain ⟨e0,e1,e5,e7,e8,e9⟩:=aa.k6 e0 e1 e5 e7 e8 e9;have e16:=aa.V 5;refine wp_cond_split e16 (fun hc2=> ?_) (fun hc2=> ?_)
   · have hd2:=hc2;try simp only [ai] at hd2
     refine wp_seq (eC ab [] ⟨ao e5,aF 0,ax⟩ fun ac ag ae ab aa=> ?_);obtain ⟨e0,e1,e5,e7,e8,e9,e16⟩:=aa.k7 e0 e1 e5 e7 e8 e9 e16;have e4:=aa.V 1;refine wp_ret ?_;refine rp ?_;refine cH (fn:=Tryz.f143) rfl ab.defers e4 ?_;exact ⟨congrArg _ (bd (by first | exact (tQ (f:=fun y=>decide (x=y)) (by omega) q1 (by assumption)).symm | exact (qC (f:=fun y=>decide (x=y)) (k:=k) (by omega) q1).symm)),ab.ext0⟩
   have hd2:=hc2;try simp only [ah] at hd2
   refine wp_skip ?_;show _;refine eC ab [] ⟨am fun c=>cV rfl (c.p e8) rfl (by omega),bm 0,ax⟩ fun ac ag ae ab aa=> ?_;obtain ⟨e0,e1,e5,e7,e9,e16⟩:=aa.k6 e0 e1 e5 e7 e9 e16;have e8:=aa.V 1;refine ⟨⟨k+1,ae,?_,?_,ab,(e8.trans (bd (by omega))),e0,e1,e7⟩,?_⟩
   · omega
   · exact qD (f:=fun y=>decide (x=y)) (by omega) q1 (by assumption)
   · simp only [m8,e8,intOf];omega
 try simp only [ah,aX] at hc1
 refine wp_exit ?_;repeat (with_reducible refine cn ?_)
 refine cr ?_;refine wp_seq (eB ab [] ⟨am fun c=>ar rfl rfl,ax⟩ fun ac ag ae ab aa=> ?_);have e4:=aa.V 0;refine wp_ret ?_;refine rp ?_;refine cH (fn:=Tryz.f143) rfl ab.defers e4 ?_;exact ⟨congrArg _ (bd (by first | exact (tQ (f:=fun y=>decide (x=y)) (by omega) q1 (by assumption)).symm | exact (qC (f:=fun y=>decide (x=y)) (k:=k) (by omega) q1).symm)),ab.ext0⟩
set_option maxRecDepth 100000 in
theorem AS (v:Value) (xs:List Int) (x:Int) (w:World) (hS:SlT gl w v xs):Calls Tryz.prog 126 #[v,(aj x)] w (fun e w'=>e= .returned (aA (xs.any fun y=>decide (x=y)))∧Ext bc w w'):=by
 refine enter (n:=9) Tryz.func126 rfl rfl (av rfl) ?_;intro a0 τ0 ha st0;obtain ⟨e0,e1⟩:=qr ha;have hle:=hS.le;refine wp_seq (eB st0 [] ⟨am fun c=>ar rfl rfl,ax⟩ fun ac ag ae ab aa=> ?_);obtain ⟨e0,e1⟩:=aa.k2 e0 e1;have e4:=aa.V 0;refine wp_seq (xy [0,0,3,7,15] ab [] ⟨ao e0,ao e1,dU fun c=>⟨_,_,(co rfl rfl Tryz.call143 (c.q 0) (c.q 1)),Dn v xs x _ (hS.at (ab.ext.trans c.J.ext))⟩,am fun c=>fW rfl (c.q 2) rfl,aF 3,ax⟩ fun ac ag ae ab aa=> ?_);have e4:=aa.V 4;refine wp_ret ?_;refine rp ?_;refine cH (fn:=Tryz.f126) rfl ab.defers e4 ?_;exact ⟨congrArg _ (congrArg _ (Ao _ _)),ab.ext0⟩
end
section
open Go.RowKit
open Srt
theorem GB {xs:List Tr} {k:Nat} (h:k < xs.length):fy (nth xs (k:Int))≤cZ (xs.map fy)∧cZ ((xs.take (k+1)).map fy)=cZ ((xs.take k).map fy)+fy (nth xs (k:Int))∧cZ ((xs.take (k+1)).map fy)≤cZ (xs.map fy):=
  ⟨mT (fun t _=>by have:=lL t;omega) (cP (by omega) (by omega)),ka h,(nD (fun t _=>by have:=lL t;omega) _).2⟩
theorem wN {ts xs:List Tr} {k:Int} {n:Nat} (hq:ts.map er=iq k ((xs.take n).map er)):(ts.length:Int)≤cZ ((xs.take n).map fy):=by
  have h:=yS hq;have h1:∀l:List Tr,cZ (l.map cm)≤cZ (l.map fy):=by
    intro l;induction l using fw with
    | h0 => exact eY _
    | h1 l x ih =>
      rw [bT,bT,bz,bU,bz,bU,eD,eD];have:=rx x;omega
  have:=h1 (xs.take n);omega
end
section
open Go.RowKit
open Srt
set_option maxRecDepth 100000 in
theorem AT (F:aP) (kind:Int) (v:Value) (xs:List Tr) (w:World) (hS:SlT ox w v xs) (hF:∀t ∈ xs,TrT F w t) (hP:cZ (xs.map fy)≤1000000):Calls Tryz.prog 81 #[(aj kind),v] w (fun e w'=>∃v' ts,e= .returned v'∧Ext bc w w'∧oT ox 25 w w' v' ts∧(∀t ∈ ts,TrT (fun g=>(Gn F w) g∧v'.ownBlock≠some g) w' t)∧ts.map er=iq kind (xs.map er)):=by
 refine enter (n:=35) Tryz.func81 rfl rfl (av rfl) ?_;intro a0 τ0 ha st0;obtain ⟨e0,e1⟩:=qr ha;have hle:=hS.le;have r9:Fz (nE (Gn F w) xs) τ0 w:=TrT.inzs hF st0;refine wp_seq (eB st0 [jz 9 r9] ⟨am fun c=>ar rfl rfl,ax⟩ fun ac ag ae ab aa=> ?_);obtain ⟨e0,e1⟩:=aa.k2 e0 e1;have e4:=aa.V 0;replace r9:=aa.z1 9;refine wp_seq (eB ab [jz 9 r9] ⟨am fun c=>ar rfl rfl,ax⟩ fun ac ag ae ab aa=> ?_);obtain ⟨e0,e1,e4⟩:=aa.k3 e0 e1 e4;have e5:=aa.V 0;replace r9:=aa.z1 9;refine wp_seq ?_;refine wp_seq (eB ab [jz 9 r9] ⟨am fun c=>ar rfl rfl,ax⟩ fun ac ag ae ab aa=> ?_);obtain ⟨e0,e1,e4,e5⟩:=aa.k4 e0 e1 e4 e5;have e6:=aa.V 0;replace r9:=aa.z1 9;refine wp_block ?_;refine wp_loop (fun a_ w_=>∃(k:Nat) (u:Value) (ts:List Tr) (τ:Nat→aP),(k≤xs.length)∧
      (ts.map er=iq kind ((xs.take k).map er))∧
      St (Nw w) w 35 a_ w_ τ∧
      aT a_ 5=u∧
      aT a_ 6=(aj (k:Int))∧
      aT a_ 0=(aj kind)∧
      aT a_ 1=v∧
      aT a_ 4=(.slice none 0 0)∧
      eb ox 25 ts (τ 5) u w_∧
      Fz (nE (Gn F w) ts) τ w_∧
      Fz (nE (Gn F w) xs) τ w_) (fun a_ _=>xs.length - (intOf (aT a_ 6)).toNat) ?_ ?_
 · refine ⟨0,(.slice none 0 0),[],ae,?_,?_,ab,e5,(e6.trans (bd (by omega))),e0,e1,e4,?_,?_,r9⟩
   · omega
   · simp [iq]
   · exact eb.nil _ _ _ _
   · exact Fz.tn _ _ _
 intro a4 w4 hI;obtain ⟨k,u,ts,τ4,q0,q1,st4,e5,e6,e0,e1,e4,r5,r6,r9⟩:=hI;have hw:=GB (xs:=xs) (k:=k);have hrm:=wN q1;have hew:=(ek (nth xs (k:Int))).1;have m6:=e6;refine wp_seq ?_;refine wp_seq (lD [0,0,2,7] st4 [jo r5,jz 6 r6,jz 9 r9] ⟨ao e6,ao e1,am fun c=>cX rfl aI (c.q 1) ((⟨hS,fun t_ h_=>(hF t_ h_).s⟩:TlS w v xs).at st4.ext).sl.sl,am fun c=>dh rfl (c.q 0) (c.q 2),ax⟩ fun ac ag ae ab aa=> ?_);obtain ⟨e0,e1,e4,e5,e6⟩:=aa.k5 e0 e1 e4 e5 e6;have e10:=aa.V 3;replace r5:=aa.O 5;obtain ⟨r6,r9⟩:=aa.z2 6 9;refine wp_cond_split e10 (fun hc1=> ?_) (fun hc1=> ?_)
 · try simp only [ai] at hc1
   refine wp_skip ?_;refine wp_seq ?_;refine wp_block ?_;refine wp_seq (so [0,0,3,7,15,0,63] ab [jo r5,jz 6 r6,jz 9 r9] ⟨ao e1,ao e6,am fun c=>aK rfl aI ak (c.q 0) ((⟨hS,fun t_ h_=>(hF t_ h_).s⟩:TlS w v xs).at ab.ext).sl.sl (c.q 1) (by omega) (by omega),bw aq au 2 rfl,am fun c=>ay rfl aC (c.q 3) ((((⟨hS,fun t_ h_=>(hF t_ h_).s⟩:TlS w v xs).at (ab.ext.trans c.J.ext)).sl).elem (j:=0) (bu (i:=(k:Int)) (by omega) (by omega)) rfl),ao e0,am fun c=>bW rfl (c.q 4) (c.q 5),ax⟩ fun ac ag ae ab aa=> ?_);obtain ⟨e0,e1,e4,e5,e6,e10⟩:=aa.k6 e0 e1 e4 e5 e6 e10;have e19:=aa.V 6;replace r5:=aa.O 5;obtain ⟨r6,r9⟩:=aa.z2 6 9;refine wp_cond_split e19 (fun hc2=> ?_) (fun hc2=> ?_)
   · try simp only [ai] at hc2
     refine rg [_,_,_,_,_,_,own _ _ _ 5 26 _,own _ _ _ 5 5 _] [0,0,0,6,14,30,63,127] ab [jo r5,jz 6 r6,jz 9 r9] ⟨ao e5,ao e1,ao e6,am fun c=>aK rfl aI ak (c.q 1) ((⟨hS,fun t_ h_=>(hF t_ h_).s⟩:TlS w v xs).at ab.ext).sl.sl (c.q 2) (by omega) (by omega),bw aq bC 3 rfl,am fun c=>ay rfl bS (c.q 4) ((((⟨hS,fun t_ h_=>(hF t_ h_).s⟩:TlS w v xs).at (ab.ext.trans c.J.ext)).sl).elem (j:=7) (bu (i:=(k:Int)) (by omega) (by omega)) rfl),eW (t0:=5) rfl rfl rfl rfl aI (i:=Tryz.t25) rfl rfl rfl rfl (by simp only [maxLen];(try simp);omega) (by show _ * 104≤_;(try simp);omega) (fun _ _ _ _ c=>⟨c.ip 5 rfl e5,c.sm (c.n 0 rfl) e5,⟨_,(c.n 5 rfl),(((⟨hS,fun t_ h_=>(hF t_ h_).s⟩:TlS w v xs).at (ab.ext.trans c.J.ext)).el (by omega) (by omega)).tl.sl⟩⟩),dK (t0:=26) rfl rfl rfl rfl rfl (.inr rfl) (fun _ _ _ _ c=>⟨c.ro 6 rfl,rfl⟩),ax⟩ fun ac ag ae ab aa=> ?_;obtain ⟨b7x5,e5⟩:=gx ac 5;obtain ⟨e0,e1,e4,e6,e10,e19⟩:=aa.k6 e0 e1 e4 e6 e10 e19;replace r5:=aa.ro 7 e5 rfl;obtain ⟨r6,r9⟩:=aa.z2 6 9;show _;refine eM ab [jo r5,jz 6 r6,jz 9 r9] ⟨ao e6,am fun c=>cV rfl (c.q 0) rfl (by omega),aF 1,ax⟩ fun ac ag ae ab aa=> ?_;obtain ⟨e0,e1,e4,e5,e10,e19⟩:=aa.k6 e0 e1 e4 e5 e10 e19;have e6:=aa.V 2;replace r5:=aa.O 5;obtain ⟨r6,r9⟩:=aa.z2 6 9;refine ⟨⟨k+1,b7x5,ts++((nth xs (k:Int)).kids),ae,?_,?_,ab,e5,(e6.trans (bd (by omega))),e0,e1,e4,?_,?_,r9⟩,?_⟩
     · omega
     · first | exact vg (by omega) q1 rfl (by assumption) rfl | exact sJ (by omega) q1 rfl (by assumption)
     · exact r5.cast (by rfl)
     · exact Fz.app r6 (r9.e (by omega) (by omega)).kl
     · simp only [m6,e6,intOf];omega
   try simp only [ah] at hc2
   refine rg [_,_,_,_,_,own ox 25 _ 0 32 ([(nth xs (k:Int))]),own _ _ _ 5 33 _,own _ _ _ 5 5 _] [0,0,0,6,14,30,63,127] ab [jo r5,jz 6 r6,jz 9 r9] ⟨ao e5,ao e1,ao e6,am fun c=>aK rfl aI ak (c.q 1) ((⟨hS,fun t_ h_=>(hF t_ h_).s⟩:TlS w v xs).at ab.ext).sl.sl (c.q 2) (by omega) (by omega),am fun c=>cT (vs:=(tc (nth xs (k:Int)))) rfl aD ak (c.q 3) rfl (fun _ _ hj=>(((⟨hS,fun t_ h_=>(hF t_ h_).s⟩:TlS w v xs).at (ab.ext.trans c.J.ext)).sl).elem (bu (i:=(k:Int)) (by omega) (by omega)) hj),dp (cells:=#[(aj ((nth xs (k:Int)).k)),(aR ((nth xs (k:Int)).ch)),(aA ((nth xs (k:Int)).ng)),(nth xs (k:Int)).rv.v,(aj ((nth xs (k:Int)).mn)),(aj ((nth xs (k:Int)).mx)),(aA ((nth xs (k:Int)).lz)),(nth xs (k:Int)).kv.v]) rfl rfl rfl rfl aI ak aO rfl (by decide) (by decide) (fun _ _ _ _ c=>gH (c.n 4 rfl) (by kernel_rfl)) rfl,eW (t0:=5) rfl rfl rfl rfl aI (i:=Tryz.t25) rfl rfl rfl rfl (by simp only [maxLen];(try simp);omega) (by show _ * 104≤_;(try simp);omega) (fun _ _ _ _ c=>⟨c.ip 5 rfl e5,c.sm (c.n 0 rfl) e5,⟨_,rfl,(c.ro 5 rfl).1.sl⟩⟩),dK (t0:=33) rfl rfl rfl rfl rfl (.inr rfl) (fun _ _ _ _ c=>⟨c.ro 6 rfl,rfl⟩),ax⟩ fun ac ag ae ab aa=> ?_;obtain ⟨b9x32,e32⟩:=gx ac 32;obtain ⟨b9x5,e5⟩:=gx ac 5;obtain ⟨e0,e1,e4,e6,e10,e19⟩:=aa.k6 e0 e1 e4 e6 e10 e19;have r0:=aa.ro 5 e32 rfl;replace r5:=aa.ro 7 e5 rfl;obtain ⟨r6,r9⟩:=aa.z2 6 9;show _;refine eM ab [jo r0,jo r5,jz 6 r6,jz 9 r9] ⟨ao e6,am fun c=>cV rfl (c.q 0) rfl (by omega),aF 1,ax⟩ fun ac ag ae ab aa=> ?_;obtain ⟨e0,e1,e4,e5,e10,e19⟩:=aa.k6 e0 e1 e4 e5 e10 e19;have e6:=aa.V 2;replace r0:=aa.O 0;replace r5:=aa.O 5;obtain ⟨r6,r9⟩:=aa.z2 6 9;refine ⟨⟨k+1,b9x5,ts++ [(nth xs (k:Int))],ae,?_,?_,ab,e5,(e6.trans (bd (by omega))),e0,e1,e4,?_,?_,r9⟩,?_⟩
   · omega
   · first | exact vg (by omega) q1 rfl (by assumption) rfl | exact sJ (by omega) q1 rfl (by assumption)
   · exact r5.cast (by rfl)
   · exact Fz.snoc r6 (r9.e (by omega) (by omega))
   · simp only [m6,e6,intOf];omega
 try simp only [ah,aX] at hc1
 refine wp_exit ?_;repeat (with_reducible refine cn ?_)
 refine cr ?_;refine wp_seq (eC ab [jo r5,jz 6 r6,jz 9 r9] ⟨ao e5,aF 0,ax⟩ fun ac ag ae ab aa=> ?_);have e4:=aa.V 1;replace r5:=aa.O 5;obtain ⟨r6,r9⟩:=aa.z2 6 9;refine wp_ret ?_;refine rp ?_;refine cH (fn:=Tryz.f81) rfl ab.defers e4 ?_;rw [bF (by omega)] at q1;exact ⟨_,ts,rfl,ab.ext0,⟨r5.1,fun g_ h_=>(ab.bnd _ g_ (r5.2 g_ h_)).1⟩,r6.outo (i:=5) r5.2,q1⟩
set_option maxRecDepth 100000 in
theorem AU (F:aP) (v:Value) (xs:List Tr) (w:World) (hS:SlT ox w v xs) (hF:∀t ∈ xs,TrT F w t) (hP:cZ (xs.map fy)≤1000000):Calls Tryz.prog 60 #[v] w (fun e w'=>∃t':Tr,e= .returned t'.v∧Ext bc w w'∧TrT (Gn F w) w' t'∧er t'=lq (xs.map er)):=by
 refine enter (n:=14) Tryz.func60 rfl rfl (av rfl) ?_;intro a0 τ0 ha st0;have e0:=np ha;have hle:=hS.le;have r9:Fz (nE (Gn F w) xs) τ0 w:=TrT.inzs hF st0;refine wp_seq (rg [box _ _ 0 2 [(aj 0),(aR (⟨#[]⟩:ByteArray)),(aA false),(.slice none 0 0),(aj 0),(aj 0),(aA false),(.slice none 0 0)]] [0] st0 [jz 9 r9] ⟨cB rfl rfl rfl rfl aO rfl,ax⟩ fun ac ag ae ab aa=> ?_);obtain ⟨b1x2,e2⟩:=gx ac 2;replace e0:=aa.k1 e0;have r0:=aa.rb 0 e2 rfl;replace r9:=aa.z1 9;refine wp_seq ?_;refine bk ?_;refine cI 2 (by kernel_rfl) ?_;refine og [_,CJ ox 25 _ 1 5 (fun b:List Tr=>b) (fun b:List Tr=>b.map er=iq 0 (xs.map er)) (fun b:List Tr=>nE (Gn F w) b)] [0,1] ab [jb r0,jz 9 r9] ⟨ao e0,Ew (xs:=fun b:List Tr=>b) (Ψ:=fun b:List Tr=>b.map er=iq 0 (xs.map er)) (Φ:=fun b:List Tr=>nE (Gn F w) b) fun {_ a_ _ _} c=>⟨_,_,(co rfl rfl Tryz.call81 rfl (c.q 0)),(AT _ 0 v xs _ (zl (c.iz 9 rfl) ((⟨hS,fun t_ h_=>(hF t_ h_).s⟩:TlS w v xs).at (ab.ext.trans c.J.ext)).sl).sl (c.iz 9 rfl) (by omega)).mono (fun e w' ⟨v_,ts_,he_,hx_,ho_,ht_,hq_⟩=>⟨v_,ts_,he_,hx_,ho_,hq_,c.tzo (tag:=1) ab hx_ ho_ ht_⟩)⟩,ax⟩ fun ac ag ae ab aa=> ?_;obtain ⟨b2x5,e5⟩:=gx ac 5;replace e2:=aa.k1 e2;obtain ⟨ts1_,hro2,hqts1_,hz2⟩:=aa.zo 1 e5 rfl;replace r0:=aa.B 0;have r1:=hro2;replace r9:=aa.z1 9;have r2:=hz2;refine cJ ?_;refine og [_] [0] ab [jb r0,jo r1,jz 2 r2,jz 9 r9] ⟨qb e5,ax⟩ fun ac ag ae ab aa=> ?_;replace e2:=aa.k1 e2;have e3:=aa.V 0;replace r0:=aa.B 0;replace r1:=aa.O 1;obtain ⟨r2,r9⟩:=aa.z2 2 9;obtain ⟨kv0,rfl⟩:=r1.isSl.sv;refine wp_seq ?_;refine wp_seq (eM ab [jb r0,jo r1,jz 2 r2,jz 9 r9] ⟨ao e3,am fun c=>cX rfl aI (c.q 0) r1.isSl,am fun c=>bW rfl (c.q 1) rfl,ax⟩ fun ac ag ae ab aa=> ?_);obtain ⟨e2,e3⟩:=aa.k2 e2 e3;have e8:=aa.V 2;replace r0:=aa.B 0;replace r1:=aa.O 1;obtain ⟨r2,r9⟩:=aa.z2 2 9;refine wp_cond_split e8 (fun hc1=> ?_) (fun hc1=> ?_)
 · try simp only [ai] at hc1
   refine wp_seq (yF ab [jb r0,jo r1,jz 2 r2,jz 9 r9] ⟨ao e3,am fun c=>aK rfl aI ak (c.q 0) r1.isSl rfl (by omega) (by omega),am fun c=>cT (vs:=(tc (nth ts1_ 0))) rfl aD ak (c.q 1) rfl (fun _ _ hj=>((c.io 1 rfl).1.sl).elem (bu (i:=0) (by omega) (by omega)) hj),ck (cx:=(tc (nth ts1_ 0))) (off:=0) ak fun c=>⟨c.bp 0 rfl e2,c.ad ((c.p e2).trans r0.ptr) e2 rfl,(c.q 2)⟩,ax⟩ fun ac ag ae ab aa=> ?_);obtain ⟨e2,e3⟩:=aa.k2 e2 e3;replace r0:=aa.RB 3 e2;replace r1:=aa.O 1;obtain ⟨r2,r9⟩:=aa.z2 2 9;refine wp_ret ?_;refine rp ?_;refine qZ (fn:=Tryz.f60) rfl ab.defers e2 r0 aD ak rfl ?_;exact ⟨_,rfl,ab.ext0,(r2.e (by omega) (by omega)).out,CV hqts1_ (by omega)⟩
 try simp only [ah] at hc1
 refine wp_skip ?_;refine wp_seq (eM ab [jb r0,jo r1,jz 2 r2,jz 9 r9] ⟨ao e3,am fun c=>ga (cells:=#[(aj 0),(aR (⟨#[]⟩:ByteArray)),(aA false),(.slice none 0 0),(aj 0),(aj 0),(aA false),kv0.v]) rfl aO (im rfl (c.n 0 rfl) rfl),ck (cx:=[(aj 0),(aR (⟨#[]⟩:ByteArray)),(aA false),(.slice none 0 0),(aj 0),(aj 0),(aA false),kv0.v]) (off:=0) ak fun c=>⟨c.bp 0 rfl e2,c.ad ((c.p e2).trans r0.ptr) e2 rfl,(c.q 1)⟩,ax⟩ fun ac ag ae ab aa=> ?_);replace e2:=aa.k1 e2;replace r0:=aa.RB 2 e2;replace r1:=aa.O 1;obtain ⟨r2,r9⟩:=aa.z2 2 9;refine wp_ret ?_;refine rp ?_;refine qZ (fn:=Tryz.f60) rfl ab.defers e2 r0 aD ak rfl ?_;exact ⟨⟨0,⟨#[]⟩,false,Sv.nil,[],0,0,false,kv0,ts1_⟩,rfl,ab.ext0,Av r1 (fun g h=> .inr (ab.bnd _ _ h).1) r2.outs,by rw [ED];exact As hqts1_ (by omega)⟩
set_option maxRecDepth 100000 in
theorem AV (F:aP) (v:Value) (xs:List Tr) (w:World) (hS:SlT ox w v xs) (hF:∀t ∈ xs,TrT F w t) (hP:cZ (xs.map fy)≤1000000):Calls Tryz.prog 62 #[v] w (fun e w'=>∃t':Tr,e= .returned t'.v∧Ext bc w w'∧TrT (Gn F w) w' t'∧er t'=mj (xs.map er)):=by
 refine enter (n:=18) Tryz.func62 rfl rfl (av rfl) ?_;intro a0 τ0 ha st0;have e0:=np ha;have hle:=hS.le;have r9:Fz (nE (Gn F w) xs) τ0 w:=TrT.inzs hF st0;refine wp_seq (rg [box _ _ 0 2 [(aj 0),(aR (⟨#[]⟩:ByteArray)),(aA false),(.slice none 0 0),(aj 0),(aj 0),(aA false),(.slice none 0 0)]] [0] st0 [jz 9 r9] ⟨cB rfl rfl rfl rfl aO rfl,ax⟩ fun ac ag ae ab aa=> ?_);obtain ⟨b1x2,e2⟩:=gx ac 2;replace e0:=aa.k1 e0;have r0:=aa.rb 0 e2 rfl;replace r9:=aa.z1 9;refine wp_seq ?_;refine bk ?_;refine cI 2 (by kernel_rfl) ?_;refine og [_,CJ ox 25 _ 1 5 (fun b:List Tr=>b) (fun b:List Tr=>b.map er=iq 1 (xs.map er)) (fun b:List Tr=>nE (Gn F w) b)] [0,1] ab [jb r0,jz 9 r9] ⟨ao e0,Ew (xs:=fun b:List Tr=>b) (Ψ:=fun b:List Tr=>b.map er=iq 1 (xs.map er)) (Φ:=fun b:List Tr=>nE (Gn F w) b) fun {_ a_ _ _} c=>⟨_,_,(co rfl rfl Tryz.call81 rfl (c.q 0)),(AT _ 1 v xs _ (zl (c.iz 9 rfl) ((⟨hS,fun t_ h_=>(hF t_ h_).s⟩:TlS w v xs).at (ab.ext.trans c.J.ext)).sl).sl (c.iz 9 rfl) (by omega)).mono (fun e w' ⟨v_,ts_,he_,hx_,ho_,ht_,hq_⟩=>⟨v_,ts_,he_,hx_,ho_,hq_,c.tzo (tag:=1) ab hx_ ho_ ht_⟩)⟩,ax⟩ fun ac ag ae ab aa=> ?_;obtain ⟨b2x5,e5⟩:=gx ac 5;replace e2:=aa.k1 e2;obtain ⟨ts1_,hro2,hqts1_,hz2⟩:=aa.zo 1 e5 rfl;replace r0:=aa.B 0;have r1:=hro2;replace r9:=aa.z1 9;have r2:=hz2;refine cJ ?_;refine og [_] [0] ab [jb r0,jo r1,jz 2 r2,jz 9 r9] ⟨qb e5,ax⟩ fun ac ag ae ab aa=> ?_;replace e2:=aa.k1 e2;have e3:=aa.V 0;replace r0:=aa.B 0;replace r1:=aa.O 1;obtain ⟨r2,r9⟩:=aa.z2 2 9;obtain ⟨kv0,rfl⟩:=r1.isSl.sv;refine wp_seq ?_;refine wp_seq (eM ab [jb r0,jo r1,jz 2 r2,jz 9 r9] ⟨ao e3,am fun c=>cX rfl aI (c.q 0) r1.isSl,am fun c=>bW rfl (c.q 1) rfl,ax⟩ fun ac ag ae ab aa=> ?_);obtain ⟨e2,e3⟩:=aa.k2 e2 e3;have e8:=aa.V 2;replace r0:=aa.B 0;replace r1:=aa.O 1;obtain ⟨r2,r9⟩:=aa.z2 2 9;refine wp_cond_split e8 (fun hc1=> ?_) (fun hc1=> ?_)
 · try simp only [ai] at hc1
   refine wp_seq (eC ab [jb r0,jo r1,jz 2 r2,jz 9 r9] ⟨am fun c=>ga (cells:=#[(aj 0),(aR (⟨#[]⟩:ByteArray)),(aA false),(.slice none 0 0),(aj 0),(aj 0),(aA false),(.slice none 0 0)]) rfl aO (gH rfl rfl),ck (cx:=[(aj 0),(aR (⟨#[]⟩:ByteArray)),(aA false),(.slice none 0 0),(aj 0),(aj 0),(aA false),(.slice none 0 0)]) (off:=0) ak fun c=>⟨c.bp 0 rfl e2,c.ad ((c.p e2).trans r0.ptr) e2 rfl,(c.q 0)⟩,ax⟩ fun ac ag ae ab aa=> ?_);obtain ⟨e2,e3⟩:=aa.k2 e2 e3;replace r0:=aa.RB 1 e2;replace r1:=aa.O 1;obtain ⟨r2,r9⟩:=aa.z2 2 9;refine wp_ret ?_;refine rp ?_;refine qZ (fn:=Tryz.f62) rfl ab.defers e2 r0 aD ak rfl ?_;exact ⟨nq 0 [],rfl,ab.ext0,fF _ _ _ _ _ _ _ _,At hqts1_ (by omega)⟩
 try simp only [ah] at hc1
 refine wp_skip ?_;refine wp_seq ?_;refine wp_seq (eM ab [jb r0,jo r1,jz 2 r2,jz 9 r9] ⟨ao e3,am fun c=>cX rfl aI (c.q 0) r1.isSl,am fun c=>bW rfl (c.q 1) rfl,ax⟩ fun ac ag ae ab aa=> ?_);obtain ⟨e2,e3⟩:=aa.k2 e2 e3;have e12:=aa.V 2;replace r0:=aa.B 0;replace r1:=aa.O 1;obtain ⟨r2,r9⟩:=aa.z2 2 9;refine wp_cond_split e12 (fun hc2=> ?_) (fun hc2=> ?_)
 · try simp only [ai] at hc2
   refine wp_seq (yF ab [jb r0,jo r1,jz 2 r2,jz 9 r9] ⟨ao e3,am fun c=>aK rfl aI ak (c.q 0) r1.isSl rfl (by omega) (by omega),am fun c=>cT (vs:=(tc (nth ts1_ 0))) rfl aD ak (c.q 1) rfl (fun _ _ hj=>((c.io 1 rfl).1.sl).elem (bu (i:=0) (by omega) (by omega)) hj),ck (cx:=(tc (nth ts1_ 0))) (off:=0) ak fun c=>⟨c.bp 0 rfl e2,c.ad ((c.p e2).trans r0.ptr) e2 rfl,(c.q 2)⟩,ax⟩ fun ac ag ae ab aa=> ?_);obtain ⟨e2,e3⟩:=aa.k2 e2 e3;replace r0:=aa.RB 3 e2;replace r1:=aa.O 1;obtain ⟨r2,r9⟩:=aa.z2 2 9;refine wp_ret ?_;refine rp ?_;refine qZ (fn:=Tryz.f62) rfl ab.defers e2 r0 aD ak rfl ?_;exact ⟨_,rfl,ab.ext0,(r2.e (by omega) (by omega)).out,CW hqts1_ (by omega)⟩
 try simp only [ah] at hc2
 refine wp_skip ?_;refine wp_seq (eM ab [jb r0,jo r1,jz 2 r2,jz 9 r9] ⟨ao e3,am fun c=>ga (cells:=#[(aj 1),(aR (⟨#[]⟩:ByteArray)),(aA false),(.slice none 0 0),(aj 0),(aj 0),(aA false),kv0.v]) rfl aO (im rfl (c.n 0 rfl) rfl),ck (cx:=[(aj 1),(aR (⟨#[]⟩:ByteArray)),(aA false),(.slice none 0 0),(aj 0),(aj 0),(aA false),kv0.v]) (off:=0) ak fun c=>⟨c.bp 0 rfl e2,c.ad ((c.p e2).trans r0.ptr) e2 rfl,(c.q 1)⟩,ax⟩ fun ac ag ae ab aa=> ?_);replace e2:=aa.k1 e2;replace r0:=aa.RB 2 e2;replace r1:=aa.O 1;obtain ⟨r2,r9⟩:=aa.z2 2 9;refine wp_ret ?_;refine rp ?_;refine qZ (fn:=Tryz.f62) rfl ab.defers e2 r0 aD ak rfl ?_;exact ⟨⟨1,⟨#[]⟩,false,Sv.nil,[],0,0,false,kv0,ts1_⟩,rfl,ab.ext0,Av r1 (fun g h=> .inr (ab.bnd _ _ h).1) r2.outs,by rw [ED];exact Au hqts1_ (by omega) (by omega)⟩
end
section
open Go.RowKit
open Srt
set_option maxRecDepth 100000 in
theorem Do (t:Tr) (p:Addr) (v:Value) (ks:List Int) (w:World) (hc:w.cell? p=some v) (hS:SlT gl w v ks):Calls Tryz.prog 125 #[(ta t),(.pointer (some p))] w (fun e w'=>e= .returned (aA (ks.any fun y=>decide (t.k=y)))∧Ext bc w w'):=by
 refine enter (n:=8) Tryz.func125 rfl rfl (av rfl) ?_;intro a0 τ0 ha st0;have e0:aT a0 0=(ta t):=ha 0 _ rfl;have e1:aT a0 1=(.pointer (some p)):=ha 1 _ rfl;clear ha;refine wp_seq (rg [box _ _ 0 2 (tc t),_] [0,0] st0 [] ⟨fh (v:=(ta t)) rfl rfl rfl rfl rfl (fun _ _ _ _ c=>(c.p e0)),am fun c=>ar rfl rfl,ax⟩ fun ac ag ae ab aa=> ?_);obtain ⟨b1x2,e2⟩:=gx ac 2;replace e1:=aa.k1 e1;have e3:=aa.V 1;have r0:=aa.rb 0 e2 rfl;refine wp_seq (xy [0,0,2,7,15] ab [jb r0] ⟨am fun c=>ay rfl ep (c.p e1) ((ab.ext.trans c.J.ext).cellAt hc),bZ aq au e2 r0.ptr,dq aC 1 0 0,dU fun c=>⟨_,_,(co rfl rfl Tryz.call126 (c.q 0) (c.q 2)),AS v ks t.k _ (hS.at (ab.ext.trans c.J.ext))⟩,aF 3,ax⟩ fun ac ag ae ab aa=> ?_);have e3:=aa.V 4;refine wp_ret ?_;refine rp ?_;refine cH (fn:=Tryz.f125) rfl ab.defers e3 ?_;exact ⟨rfl,ab.ext0⟩
set_option maxRecDepth 100000 in
theorem Fo (v cap:Value) (ts:List Tr) (q:Tr→Bool) (w:World) (hf:∀t ∈ ts,∀w2:World,Ext bc w w2→Calls Tryz.prog 125 #[t.v,cap] w2 (fun e w3=>e= .returned (aA (q t))∧Ext bc w2 w3)) (hS:SlT ox w v ts):Calls Tryz.prog 142 #[v,(.func (.func 125) #[] #[cap])] w (fun e w'=>e= .returned (aj (EA q ts))∧Ext bc w w'):=by
 refine enter (n:=19) Tryz.func142 rfl rfl (av rfl) ?_;intro a0 τ0 ha st0;obtain ⟨e0,e1⟩:=qr ha;have hle:=hS.le;refine wp_seq (eB st0 [] ⟨am fun c=>ar rfl rfl,ax⟩ fun ac ag ae ab aa=> ?_);obtain ⟨e0,e1⟩:=aa.k2 e0 e1;have e4:=aa.V 0;refine wp_seq ?_;refine wp_seq (zO [0,1,0] ab [] ⟨ao e0,am fun c=>cX rfl aI (c.q 0) hS.sl,am fun c=>aJ rfl rfl,ax⟩ fun a2 w2 τ2 st2 f2=> ?_);obtain ⟨e0,e1,e4⟩:=f2.k3 e0 e1 e4;have e7:=f2.V 1;have e8:=f2.V 2;refine wp_block ?_;refine wp_loop (fun a_ w_=>∃(k:Nat) (τ:Nat→aP),(k≤ts.length)∧
      (∀y ∈ ts.take k,q y=false)∧
      St (Nw w) w 19 a_ w_ τ∧
      aT a_ 8=(aj (k:Int))∧
      aT a_ 0=v∧
      aT a_ 1=(.func (.func 125) #[] #[cap])∧
      aT a_ 7=(aj (ts.length:Int))) (fun a_ _=>ts.length - (intOf (aT a_ 8)).toNat) ?_ ?_
 · refine ⟨0,τ2,?_,?_,st2,(e8.trans (bd (by omega))),e0,e1,e7⟩
   · omega
   · simp
 intro a3 w3 hI;obtain ⟨k,τ3,q0,q1,st3,e8,e0,e1,e7⟩:=hI;have m8:=e8;refine wp_seq (eB st3 [] ⟨am fun c=>dh rfl (c.p e8) (c.p e7),ax⟩ fun ac ag ae ab aa=> ?_);obtain ⟨e0,e1,e7,e8⟩:=aa.k4 e0 e1 e7 e8;have e9:=aa.V 0;refine wp_seq ?_;refine wp_cond_split e9 (fun hc1=> ?_) (fun hc1=> ?_)
 · try simp only [ai] at hc1
   refine wp_skip ?_;refine wp_seq ?_;refine wp_block ?_;refine wp_seq (eC ab [] ⟨ao e8,aF 0,ax⟩ fun ac ag ae ab aa=> ?_);obtain ⟨e0,e1,e7,e8,e9⟩:=aa.k5 e0 e1 e7 e8 e9;have e5:=aa.V 1;refine wp_seq (CK [0,0,0,6,14,31] ab [] ⟨ao e1,ao e0,ao e5,am fun c=>aK rfl aI ak (c.q 1) hS.sl (c.q 2) (by omega) (by omega),am fun c=>cT (vs:=(tc (nth ts (k:Int)))) rfl aD ak (c.q 3) rfl (fun _ _ hj=>(hS.at (ab.ext.trans c.J.ext)).elem (bu (i:=(k:Int)) (by omega) (by omega)) hj),dU fun c=>⟨_,_,(Af rfl (c.q 0) Tryz.call125 (c.q 4)),hf _ (cP (by omega) (by omega)) _ (ab.ext.trans c.J.ext).fresh⟩,ax⟩ fun ac ag ae ab aa=> ?_);obtain ⟨e0,e1,e5,e7,e8,e9⟩:=aa.k6 e0 e1 e5 e7 e8 e9;have e16:=aa.V 5;refine wp_cond_split e16 (fun hc2=> ?_) (fun hc2=> ?_)
   · have hd2:=hc2;skip;refine wp_seq (eC ab [] ⟨ao e5,aF 0,ax⟩ fun ac ag ae ab aa=> ?_);obtain ⟨e0,e1,e5,e7,e8,e9,e16⟩:=aa.k7 e0 e1 e5 e7 e8 e9 e16;have e4:=aa.V 1;refine wp_ret ?_;refine rp ?_;refine cH (fn:=Tryz.f142) rfl ab.defers e4 ?_;exact ⟨congrArg _ (bd (by first | exact (tQ (f:=q) (by omega) q1 (by assumption)).symm | exact (qC (f:=q) (k:=k) (by omega) q1).symm)),ab.ext0⟩
   have hd2:=hc2;skip;refine wp_skip ?_;show _;refine eC ab [] ⟨am fun c=>cV rfl (c.p e8) rfl (by omega),bm 0,ax⟩ fun ac ag ae ab aa=> ?_;obtain ⟨e0,e1,e5,e7,e9,e16⟩:=aa.k6 e0 e1 e5 e7 e9 e16;have e8:=aa.V 1;refine ⟨⟨k+1,ae,?_,?_,ab,(e8.trans (bd (by omega))),e0,e1,e7⟩,?_⟩
   · omega
   · exact qD (f:=q) (by omega) q1 (by assumption)
   · simp only [m8,e8,intOf];omega
 try simp only [ah,aX] at hc1
 refine wp_exit ?_;repeat (with_reducible refine cn ?_)
 refine cr ?_;refine wp_seq (eB ab [] ⟨am fun c=>ar rfl rfl,ax⟩ fun ac ag ae ab aa=> ?_);have e4:=aa.V 0;refine wp_ret ?_;refine rp ?_;refine cH (fn:=Tryz.f142) rfl ab.defers e4 ?_;exact ⟨congrArg _ (bd (by first | exact (tQ (f:=q) (by omega) q1 (by assumption)).symm | exact (qC (f:=q) (k:=k) (by omega) q1).symm)),ab.ext0⟩
set_option maxRecDepth 100000 in
theorem Dp (v cap:Value) (ts:List Tr) (q:Tr→Bool) (w:World) (hf:∀t ∈ ts,∀w2:World,Ext bc w w2→Calls Tryz.prog 125 #[t.v,cap] w2 (fun e w3=>e= .returned (aA (q t))∧Ext bc w2 w3)) (hS:SlT ox w v ts):Calls Tryz.prog 124 #[v,(.func (.func 125) #[] #[cap])] w (fun e w'=>e= .returned (aA (ts.any q))∧Ext bc w w'):=by
 refine enter (n:=9) Tryz.func124 rfl rfl (av rfl) ?_;intro a0 τ0 ha st0;obtain ⟨e0,e1⟩:=qr ha;have hle:=hS.le;refine wp_seq (eB st0 [] ⟨am fun c=>ar rfl rfl,ax⟩ fun ac ag ae ab aa=> ?_);obtain ⟨e0,e1⟩:=aa.k2 e0 e1;have e4:=aa.V 0;refine wp_seq (xy [0,0,3,7,15] ab [] ⟨ao e0,ao e1,dU fun c=>⟨_,_,(co rfl rfl Tryz.call142 (c.q 0) (c.q 1)),Fo v cap ts q _ (fun t_ h_ w2_ he_=>hf t_ h_ w2_ ((ab.ext.trans c.J.ext).fresh.trans he_)) (hS.at (ab.ext.trans c.J.ext))⟩,am fun c=>fW rfl (c.q 2) rfl,aF 3,ax⟩ fun a2 w2 τ2 st2 f2=> ?_);have e4:=f2.V 4;refine wp_ret ?_;refine rp ?_;refine cH (fn:=Tryz.f124) rfl st2.defers e4 ?_;exact ⟨congrArg _ (congrArg _ (Ao _ _)),st2.ext0⟩
set_option maxRecDepth 100000 in
theorem Fp (v:Value) (u:Sv) (ts:List Tr) (ks:List Int) (w:World) (hS:SlT ox w v ts) (hU:SlT gl w u.v ks):Calls Tryz.prog 102 #[v,u.v] w (fun e w'=>e= .returned (aA (ts.any fun x=>ks.any fun y=>decide (x.k=y)))∧Ext bc w w'):=by
 refine enter (n:=8) Tryz.func102 rfl rfl (av rfl) ?_;intro a0 τ0 ha st0;obtain ⟨e0,e1⟩:=qr ha;have hle:=hS.le;refine wp_seq (rg [box _ _ 0 3 [u.v],_] [0,0] st0 [] ⟨fh (v:=u.v) rfl rfl rfl rfl rfl (fun _ _ _ _ c=>(c.p e1)),am fun c=>ar rfl rfl,ax⟩ fun ac ag ae ab aa=> ?_);obtain ⟨b1x3,e3⟩:=gx ac 3;replace e0:=aa.k1 e0;have e4:=aa.V 1;have r0:=aa.rb 0 e3 rfl;refine wp_seq ?_;refine lD [0,0,3,7] ab [jb r0] ⟨ao e0,am fun c=>pZ rfl (c.p e3),dU fun c=>⟨_,_,(co rfl rfl Tryz.call124 (c.q 0) (c.q 1)),Dp v b1x3 ts (fun x_=>(ks).any fun y_=>decide (x_.k=y_)) _ (fun t_ _ w2_ he_=>by rw [(c.ib 0 rfl).ptr];exact Do t_ _ u.v ks w2_ (he_.cell_some ((c.ib 0 rfl).cell (j:=0) rfl) (fun h=>h)) ((hU.at (ab.ext.trans c.J.ext)).keep he_ (fun _ h=>h))) (hS.at (ab.ext.trans c.J.ext))⟩,aF 2,ax⟩ fun ac ag ae ab aa=> ?_;have e4:=aa.V 3;refine wp_ret ?_;refine rp ?_;refine cH (fn:=Tryz.f102) rfl ab.defers e4 ?_;exact ⟨rfl,ab.ext0⟩
end
end B
end Go.Proofs.YtcfdebjhikahfaaGreat
