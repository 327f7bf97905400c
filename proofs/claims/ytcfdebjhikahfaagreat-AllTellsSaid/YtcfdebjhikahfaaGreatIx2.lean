import Derived.Test.YtcfdebjhikahfaaGreatIx1
import Derived.Laws.CopyRow
import Derived.Laws.MakeOwn
set_option linter.unusedSimpArgs false
set_option linter.unusedVariables false
set_option linter.unusedSectionVars false
namespace Go.Proofs.YtcfdebjhikahfaaGreat
namespace B
section
open Go.RowKit
abbrev ef:=@Int.not_le
abbrev jR:=@List.any_eq_false
abbrev ma:=@List.getElem_map
abbrev bL:=@List.length_replicate
abbrev dj:=@Nat.min_le_right
abbrev jF:=@Tryz.call74
abbrev kA:=@Tryz.call86
abbrev gd:=@Tryz.call99
abbrev jS:=@Tryz.isAgg22
abbrev bU:=@Tryz.isAgg23
abbrev aD:=@Tryz.isAgg25
abbrev aC:=@Tryz.isAgg3
abbrev co:=@Tryz.isAgg4
abbrev ec:=@Tryz.isAgg62
abbrev gV:=@Tryz.isAgg89
abbrev bG:=@Tryz.isAgg9
abbrev bR:=@Tryz.sizeOf89
abbrev ba:=@Tryz.underlying22
abbrev aI:=@Tryz.underlying23
abbrev bd:=@Tryz.underlying60
abbrev bW:=@Tryz.underlying62
abbrev bm:=@Tryz.underlying9
abbrev aN:=@Tryz.zeroValue25
abbrev go:=@Tryz.zeroValue3
abbrev cN:=@Tryz.zeroValue89
end
section
open Go.RowKit Srt
theorem cI {K:Act→World→Prop} {a:Act} {w:World} (h:K a w):Cc K .normal a w:=⟨rfl,h⟩
theorem mB.sv {v:Value} {n:Nat} (h:mB v n):∃s:Sv,v=s.v:=by
  rcases h with ⟨rfl,_⟩ | ⟨b,cap,rfl,_⟩
  · exact ⟨⟨none,0,0⟩,rfl⟩
  · exact ⟨⟨some b,n,cap⟩,rfl⟩
def ii (G:aQ) (t:Tr):ZP:=⟨fun Z w=>TrT (fun g=>Z g∧G g) w t,fun hz he h=>(TrT.keep h he fun g hg hn=>hn hg.1).mono fun g hg _=>⟨hz g hg.1,hg.2⟩⟩
def nt (G:aQ) (ts:List Tr):ZP:=⟨fun Z w=>∀t ∈ ts,TrT (fun g=>Z g∧G g) w t,fun hz he h t ht=>(ii G t).st hz he (h t ht)⟩
section
variable {G F:aQ} {Z:aQ} {τ:Nat→aQ} {w w':World} {t:Tr} {ts us:List Tr} {v:Value}
theorem Fz.s (h:Fz (ii G t) τ w):mc w t:=TrT.s h
theorem zs (h:(ii G t).P Z w):mc w t:=TrT.s h
theorem zl (h:(nt G ts).P Z w) (hs:SlT oN w v ts):TlS w v ts:=⟨hs,fun t ht=>TrT.s (h t ht)⟩
theorem Fz.l (h:Fz (nt G ts) τ w) (hs:SlT oN w v ts):TlS w v ts:=zl h hs
theorem Ey (h:(ii G t).P Z w):(nt G t.kids).P Z w:=fun k hk=>TrT.kid h hk
theorem Fz.kl (h:Fz (ii G t) τ w):Fz (nt G t.kids) τ w:=Ey h
theorem ze {i:Int} (h:(nt G ts).P Z w) (h0:0≤i) (h1:i < ts.length):(ii G (nth ts i)).P Z w:=h _ (cG h0 h1)
theorem Fz.e {i:Int} (h:Fz (nt G ts) τ w) (h0:0≤i) (h1:i < ts.length):Fz (ii G (nth ts i)) τ w:=ze h h0 h1
theorem Fz.tn (G:aQ) (τ:Nat→aQ) (w:World):Fz (nt G []) τ w:=fun t h=>by cases h
theorem Fz.snoc (h:Fz (nt G ts) τ w) (h2:Fz (ii G t) τ w):Fz (nt G (ts++ [t])) τ w:=fun x hx=>by
  rcases List.mem_append.1 hx with hx | hx
  · exact h x hx
  · simp at hx;subst hx;exact h2
theorem Fz.app (h:Fz (nt G ts) τ w) (h2:Fz (nt G us) τ w):Fz (nt G (ts++us)) τ w:=fun x hx=>by
  rcases List.mem_append.1 hx with hx | hx
  · exact h x hx
  · exact h2 x hx
theorem TrT.inz {n:Nat} {a:Act} {τ0:Nat→aQ} (h:TrT F w t) (st:St (Nw w) w n a w τ0):Fz (ii (Gn F w) t) τ0 w:=TrT.mono h fun g hg hlt=>⟨⟨hlt,fun s hs=>by have:=(st.bnd s g hs).1;simp only [Nw] at this;omega⟩,.inl hg⟩
theorem TrT.inzs {n:Nat} {a:Act} {τ0:Nat→aQ} (h:∀t ∈ ts,TrT F w t) (st:St (Nw w) w n a w τ0):Fz (nt (Gn F w) ts) τ0 w:=fun t ht=>(h t ht).inz st
theorem TrT.inT {n:Nat} {a:Act} {τ0:Nat→aQ} {T:aQ} (h:TrT F w t) (hF:∀g,F g→¬T g) (st:St (fun k=>T k∨w.heap.size≤k) w n a w τ0):Fz (ii (Gn F w) t) τ0 w:=TrT.mono h fun g hg hlt=>⟨⟨hlt,fun s hs=>by
  rcases (st.bnd s g hs).1 with h1 | h1
  · exact hF g hg h1
  · omega⟩,.inl hg⟩
theorem Fz.out (h:Fz (ii G t) τ w):TrT G w t:=TrT.mono h fun g hg _=>hg.2
theorem Fz.outs (h:Fz (nt G ts) τ w):∀t ∈ ts,TrT G w t:=fun t ht=>TrT.mono (h t ht) fun g hg _=>hg.2
theorem Fz.outo (h:Fz (nt G ts) τ w) {i:Nat} {v:Value} (hv:∀g,v.ownBlock=some g→τ i g):∀t ∈ ts,TrT (fun g=>G g∧v.ownBlock≠some g) w t:=fun t ht=>TrT.mono (h t ht) fun g hg _=>⟨hg.2,fun e=>hg.1.2 i (hv g e)⟩
end
section
variable {α:Type} {N:aQ} {P:Program} {ops:Array Oper} {sp:List (Spec N)} {In:Nat→Ini N} {a0:Act} {w0:World} {bf:List Nat} {j:Nat} {o:Oper} {done:Nat→Bool} {a:Act} {w w' W:World} {τ τ0:Nat→aQ} {F:aQ} {t:Tr} {ts:List Tr} {n:Nat} {a1:Act}
theorem Cx.hW (c:Cx ops sp In a0 w0 bf j o done a w τ) (st:St N W n a1 w0 τ0):W.heap.size≤w.heap.size:=dA st.ext.size c.J.ext.size
theorem Cx.tz (c:Cx ops sp In a0 w0 bf j o done a w τ) (st:St N W n a1 w0 τ0) (hx:Ext aY w w') (h:TrT (Gn (fun g=>eW τ w g∧Gn F W g) w) w' t):(ii (Gn F W) t).P (eW τ w') w':=TrT.mono h (c.gz (c.hW st) hx.size)
theorem Cx.tn (c:Cx ops sp In a0 w0 bf j o done a w τ) (st:St N W n a1 w0 τ0) (hx:Ext aY w w') (h:TrT (Gn aY w) w' t):(ii (Gn F W) t).P (eW τ w') w':=c.tz st hx (h.mono fun g hg _=>hg.elim (fun h=>h.elim) .inr)
theorem Cx.tzo {tag:Nat} {v:Value} {E:Enc α} {ty:Nat} {xs:List α} (c:Cx ops sp In a0 w0 bf j o done a w τ) (st:St N W n a1 w0 τ0) (hx:Ext aY w w') (hv:oP E ty w w' v xs) (h:∀t ∈ ts,TrT (fun g=>Gn (fun g=>eW τ w g∧Gn F W g) w g∧v.ownBlock≠some g) w' t):(nt (Gn F W) ts).P (eW (nd τ tag fun g=>v.ownBlock=some g) w') w':=fun t ht=>TrT.mono (h t ht) (c.gzo (c.hW st) hx.size hv.2)
theorem Cx.sn {v:Value} {E:Enc α} {ty:Nat} {xs:List α} (c:Cx ops sp In a0 w0 bf j o done a w τ) (st:St N W n a1 w0 τ0) (hx:Ext aY w w') (h:oP E ty w w' v xs):(dE E (Gn F W) v xs).P (eW τ w') w':=⟨h.1.sl,fun hn=>by
  have hlt:=h.1.sl.lt hn;have hge:w.heap.size≤(dh v).block:=by
    rcases h.1.2 with ⟨_,h0⟩ | ⟨g,cap,cur,hv,_⟩
    · exact absurd (bQ h0) hn
    · subst hv;exact h.2 g rfl
  exact c.gz (c.hW st) hx.size _ (.inr hge) hlt⟩
end
theorem dM.blk {α:Type} {E:Enc α} {ty:Nat} {xs:List α} {T:aQ} {v:Value} {w:World} (h:dM E ty xs T v w) (hn:xs≠ []):T (dh v).block:=by
  rcases h.1.2 with ⟨_,h0⟩ | ⟨g,cap,cur,hv,_⟩
  · exact absurd (bQ h0) hn
  · subst hv;exact h.2 g rfl
theorem sd {G Z:aQ} {w:World}:(nt G []).P Z w:=fun t h=>by cases h
theorem oo {G Z:aQ} {w:World} {t:Tr} {ts:List Tr} (h:(ii G t).P Z w) (h2:(nt G ts).P Z w):(nt G (t::ts)).P Z w:=fun x hx=>by
  rcases List.mem_cons.1 hx with hx | hx
  · subst hx;exact h
  · exact h2 x hx
def di (k:Int) (ch:ByteArray) (ng:Bool) (mn mx:Int) (lz:Bool):Tr:=⟨k,ch,ng,Sv.nil,[],mn,mx,lz,Sv.nil,[]⟩
theorem fy (F:aQ) (w:World) (k:Int) (ch:ByteArray) (ng:Bool) (mn mx:Int) (lz:Bool):TrT F w (di k ch ng mn mx lz):= .mk (SlT.nil _ _) (fun h=>absurd rfl h) (SlT.nil _ _) (fun h=>absurd rfl h) (fun k h=>by cases h)
def nh (k:Int) (ks:List Tr):Tr:=⟨k,⟨#[]⟩,false,Sv.nil,[],0,0,false,Sv.nil,ks⟩
def ic (k:Int) (l:List Tr):List Tr:=l.flatMap fun x=>if x.k=k then x.kids else [x]
def lj (l:List Tr):Tr:=match ic 0 l with
  | [x] => x
  | ks => nh 0 ks
def me (l:List Tr):Tr:=match ic 1 l with
  | [] => nh 0 []
  | [x] => x
  | ks => nh 1 ks
theorem mP (k:Int) (l:List Tr) (x:Tr):ic k (l++ [x])=ic k l++if x.k=k then x.kids else [x]:=by simp [ic]
theorem uL {ts xs us:List Tr} {k:Int} {n:Nat} (h:n < xs.length) (hq:ts.map er=ic k ((xs.take n).map er)) {t:Tr} (ht:er t=er (nth xs (n:Int))) (hk:t.k=k) (hu:us=t.kids):(ts++us).map er=ic k ((xs.take (n+1)).map er):=by
  subst hu;rw [eZ h,bT,bT,bw,bP,mP,←ht,ym,if_pos hk,←hq,mI]
theorem sC {ts xs:List Tr} {k:Int} {n:Nat} (h:n < xs.length) (hq:ts.map er=ic k ((xs.take n).map er)) {t:Tr} (ht:er t=er (nth xs (n:Int))) (hk:¬t.k=k):(ts++ [t]).map er=ic k ((xs.take (n+1)).map er):=by
  rw [eZ h,bT,bT,bw,bP,bw,bP,mP,←ht,ym,if_neg hk,←hq]
theorem qY (t:Tr):(t.kids.length:Int)+1≤cg t:=by
  have h:∀ks:List Tr,(ks.length:Int)≤de (ks.map cg):=by
    intro ks;induction ks using fj with
    | h0 => exact fe _
    | h1 ks x ih =>
      rw [bT,bw,bP,eu,bY];have:=iW x;simp;omega
  have:=gD t;have:=h t.kids;omega
def zn (rs:List (ByteArray × ByteArray)):Int:=de (rs.map fun r=>1+(r.1.size:Int)+(r.2.size:Int))
def fC:Tr→Int:=lF fun t l=>1+(t.ch.size:Int)+zn t.rows+de l
theorem lk (t:Tr):fC t=1+(t.ch.size:Int)+zn t.rows+de (t.kids.map fC):=iV _ t
theorem nS (rs:List (ByteArray × ByteArray)):(rs.length:Int)≤zn rs:=by
  unfold zn;induction rs using fj with
  | h0 => exact fe _
  | h1 rs r ih => rw [bT, bw, bP, eu, bY]; simp; omega
theorem Cn {rs:List (ByteArray × ByteArray)} {r:ByteArray × ByteArray} (h:r ∈ rs):(r.1.size:Int)+(r.2.size:Int)≤zn rs:=by
  have:=qW (xs:=rs.map fun r=>1+(r.1.size:Int)+(r.2.size:Int)) (fun x hx=>by obtain ⟨q,_,rfl⟩:=List.mem_map.1 hx;omega) (List.mem_map.2 ⟨r,h,rfl⟩);unfold zn;omega
theorem lG (t:Tr):1≤fC t:=by
  induction t using Tr.ind with
  | h t ih =>
    rw [lk];have:0≤de (t.kids.map fC):=iB fun x hx=>by
      obtain ⟨k,hk,rfl⟩:=List.mem_map.1 hx;have:=ih k hk;omega
    have:=nS t.rows;omega
theorem mQ {t k:Tr} (h:k ∈ t.kids):fC k < fC t:=by
  have h1:=mO (f:=fC) (fun q _=>by have:=lG q;omega) h;have:=lk t;have:=nS t.rows;omega
theorem qZ (t:Tr):fC (er t)=fC t:=oZ (fun t l=>by cases t;rfl) t
theorem ra (t:Tr):cg t≤fC t:=by
  induction t using Tr.ind with
  | h t ih =>
    have h1:∀ks:List Tr,(∀k ∈ ks,cg k≤fC k)→de (ks.map cg)≤de (ks.map fC):=by
      intro ks;induction ks using fj with
      | h0 => intro _; exact fe _
      | h1 ks x ih2 =>
        intro h;rw [bT,bT,bw,bP,bw,bP,eu,eu];have:=ih2 fun k hk=>h k (by simp [hk]);have:=h x (by simp);omega
    have:=h1 t.kids ih;have:=nS t.rows;rw [gD,lk];omega
theorem ew (t:Tr):(t.kids.length:Int)+1≤fC t∧(t.rows.length:Int)≤fC t∧cg t≤fC t∧(t.ch.size:Int)≤fC t:=by
  have h0:=nS t.rows;have h1:=qY t;have h2:=ra t;have h3:=lk t;have h4:0≤de (t.kids.map fC):=iB fun x hx=>by
    obtain ⟨k,hk,rfl⟩:=List.mem_map.1 hx;have:=lG k;omega
  omega
theorem xg {t u:Tr} (h:er t=er u):fC t=fC u:=by rw [←qZ t,h,qZ]
theorem zR (k:Int) (l:List Tr):(((ic k l).length:Nat):Int)≤de (l.map cg):=by
  induction l using fj with
  | h0 => exact fe _
  | h1 l x ih =>
    rw [mP,bT,bw,bP,eu,bY];have h1:=qY x;have h2:=iW x;split <;> simp <;> omega
theorem yo (l:List Tr):(l.map er).map cg=l.map cg:=by
  rw [mu];exact jk fun t _=>yn t
theorem yq {ts xs:List Tr} {k:Int} {n:Nat} (hq:ts.map er=ic k ((xs.take n).map er)):(ts.length:Int)≤de ((xs.take n).map cg):=by
  have h1:=zR k ((xs.take n).map er);rw [←hq,yo] at h1;simpa using h1
theorem Co {ts l:List Tr} (h:ts.map er=ic 0 l) (h1:ts.length=1):er (nth ts 0)=lj l:=by
  match ts,h1 with
  | [x], _ =>
    unfold lj;rw [←h];rfl
theorem zS {ts l:List Tr} (h:ts.map er=ic 0 l) (h1:¬ts.length=1):nh 0 (ts.map er)=lj l:=by
  unfold lj;rw [←h];match ts,h1 with
  | [], _ => rfl
  | [x], h1 => exact absurd rfl h1
  | x :: y :: l, _ => rfl
theorem zT {ts l:List Tr} (h:ts.map er=ic 1 l) (h1:ts.length=0):nh 0 []=me l:=by
  match ts,h1 with
  | [], _ =>
    unfold me;rw [←h];rfl
theorem Cp {ts l:List Tr} (h:ts.map er=ic 1 l) (h1:ts.length=1):er (nth ts 0)=me l:=by
  match ts,h1 with
  | [x], _ =>
    unfold me;rw [←h];rfl
theorem zU {ts l:List Tr} (h:ts.map er=ic 1 l) (h0:¬ts.length=0) (h1:¬ts.length=1):nh 1 (ts.map er)=me l:=by
  unfold me;rw [←h];match ts,h0,h1 with
  | [], h0, _ => exact absurd rfl h0
  | [x], _, h1 => exact absurd rfl h1
  | x :: y :: l, _, _ => rfl
theorem zV {G:aQ} {w:World} {T:aQ} {kv:Sv} {ty:Nat} {ts:List Tr} {k:Int} (ho:dM oN ty ts T kv.v w) (hT:∀g,T g→G g) (ht:∀t ∈ ts,TrT G w t):TrT G w ⟨k,⟨#[]⟩,false,Sv.nil,[],0,0,false,kv,ts⟩:=
  .mk (SlT.nil _ _) (fun h=>absurd rfl h) ho.1.sl (fun hn=>hT _ (ho.blk hn)) ht
theorem DU {k:Int} {kv:Sv} {ts:List Tr}:er ⟨k,⟨#[]⟩,false,Sv.nil,[],0,0,false,kv,ts⟩=nh k (ts.map er):=by rw [oS];rfl
def fS (k:Int) (ch:ByteArray) (ng:Bool) (mn mx:Int) (lz:Bool) (kv:Sv) (ks:List Tr):Tr:=⟨k,ch,ng,Sv.nil,[],mn,mx,lz,kv,ks⟩
theorem lH (k:Int) (ch:ByteArray) (ng:Bool) (mn mx:Int) (lz:Bool) (kv:Sv) (ks:List Tr):er (fS k ch ng mn mx lz kv ks)=fS k ch ng mn mx lz Sv.nil (ks.map er):=by rw [oS];rfl
theorem qc {G Z:aQ} {w:World} {k:Int} {ch:ByteArray} {ng:Bool} {mn mx:Int} {lz:Bool} {kv:Sv} {ks:List Tr} (h:(dE oN G kv.v ks).P Z w) (h2:(nt G ks).P Z w):(ii G (fS k ch ng mn mx lz kv ks)).P Z w:=
  .mk (SlT.nil _ _) (fun h=>absurd rfl h) h.1 h.2 h2
section
variable {N:aQ} {P:Program} {ops:Array Oper} {sp:List (Spec N)} {In:Nat→Ini N} {a0:Act} {w0 W:World} {bf:List Nat} {j:Nat} {o:Oper} {s:Spec N} {pc:Prop} {n0:Nat} {a1:Act} {τ0:Nat→aQ} {F:aQ} {β:Type}
theorem tE {α:Type} {E:Enc α} {ty e t n:Nat} {xs:List α} {parts:Array (Nat × Operand)} {z:Value} {cells:Array Value} (st:St N W n0 a1 w0 τ0) (hgd:uC ops sp bf j o pc) (ho:o.op= .buildSlice ty n parts)
    (hty:P.underlying ty=some (.slice e)) (hsz:∀w,(sizeOf e).run P w= .ok E.sz w) (hz:∀w,(zeroValue e).run P w= .ok z w) (hn0:0 < n) (hsmall:n * E.sz≤16777216) (hn:n=xs.length) (hc:cells.toList=E.row xs)
    (h:∀{done a w τ},Cx ops sp In a0 w0 bf j o done a w τ→pc→Instr.fill (fun i=>some (i * E.sz,E.sz)) ((Array.range (n * E.sz)).map (z.cells[· % z.cells.size]!)) (parts.map fun (i,x)=>(i,a.eval x)).toList=some cells)
    (hs:s=eO N t pc (fun b:Sv=>b.v) (fun _=>True) (fun b=>dE E (Gn F W) b.v xs):=by exact rfl) (hd:o.dst=some t:=by exact rfl):Ob ops sp In a0 w0 P bf j o s:=by
  subst hs;intro done a w τ c;refine ⟨fun hw=> ?_,fun hw=>⟨Ext.refl _ _,fun hp=>by rw [(hgd.known c).2 hp] at hw;cases hw⟩⟩;have hp:=(hgd.known c).1 hw;have hf:=h c hp;have h2:¬(n * E.sz > 2 ^ 24):=by omega
  have h0:¬(n * E.sz=0):=by have:=Nat.mul_pos hn0 E.pos;omega
  have hr:(execOp a.eval o).run P w= .ok (.value (.slice (some ⟨w.heap.size,0,none⟩) n n)) (w.alloc (.cells cells e)):=by
    simp only [execOp,ho,Instr.buildSlice,Sem.run_bind,run_underlying hty,Result.andThen_ok,hsz,h2,if_false,Sem.run_pure,h0,hz];rw [hf];rfl
  have hl:cells.size=n * E.sz:=by rw [←fc,hc,E.row_length,←hn]
  have hown:iS E e (w.alloc (.cells cells e)) (.slice (some ⟨w.heap.size,0,none⟩) n n) xs:=⟨E.row_length xs,.inr ⟨w.heap.size,n,cells,by rw [←hn],dJ _,heap_alloc_new w _,by rw [←hn];exact bk _,by have:=jE n E.pos;simp only [maxLen];omega,hl,by rw [hc,←E.row_length];exact kg⟩⟩;have hx:Ext aY w (w.alloc (.cells cells e)):=Ext.alloc _ _ _;refine fJ hr ⟨_,rfl,hx,fun _=>⟨⟨some ⟨w.heap.size,0,none⟩,n,n⟩,?_,ax,?_⟩⟩
  · show aU (a.put o.dst _) t=_;rw [hd,dm a t t _ (c.lt t hd),if_pos rfl];rfl
  · exact c.sn st hx ⟨hown,fun g hg=>by have hg':some w.heap.size=some g:=hg;simp only [Option.some.injEq] at hg';omega⟩
theorem zW {t:Nat} {f:β→Value} {Ψ:β→Prop} {Φ:β→ZP} (hgd:uC ops sp bf j o pc) (h:∀{done a w τ},Cx ops sp In a0 w0 bf j o done a w τ→pc→∃b,Ψ b∧(Φ b).P (eW τ w) w∧ck P a o w (f b))
    (hs:s=eO N t pc f Ψ Φ:=by exact rfl) (hd:o.dst=some t:=by exact rfl):Ob ops sp In a0 w0 P bf j o s:=by
  subst hs;intro done a w τ c;refine ⟨fun hw=> ?_,fun hw=>⟨Ext.refl _ _,fun hp=>by rw [(hgd.known c).2 hp] at hw;cases hw⟩⟩;obtain ⟨b,hq,hz,hr⟩:=h c ((hgd.known c).1 hw);refine lg hr ⟨_,rfl,Ext.refl _ _,fun _=>⟨b,?_,hq,hz⟩⟩;show aU (a.put o.dst _) t=_;rw [hd,dm a t t _ (c.lt t hd),if_pos rfl]
end
theorem kF:de []=0:=rfl
theorem jK (x:Int) (l:List Int):de (x::l)=x+de l:=by
  rw [show x::l=[x]++l from rfl,jX];simp [de]
theorem xh (k:Int) (ch:ByteArray) (ng:Bool) (mn mx:Int) (lz:Bool):fC (di k ch ng mn mx lz)=1+(ch.size:Int):=by rw [lk];simp [di,zn,de]
theorem Cq (k:Int) (ch:ByteArray) (ng:Bool) (mn mx:Int) (lz:Bool) (kv:Sv) (ks:List Tr):fC (fS k ch ng mn mx lz kv ks)=1+(ch.size:Int)+de (ks.map fC):=by rw [lk];simp [fS,zn,de]
theorem zX (k:Int) (ks:List Tr):fC (nh k ks)=1+de (ks.map fC):=by
  rw [lk];have h:((⟨#[]⟩:ByteArray).size:Int)=0:=rfl;simp [nh,zn,de,h]
theorem xi (k:Int) (l:List Tr):de ((ic k l).map fC)≤de (l.map fC):=by
  induction l using fj with
  | h0 => exact fe _
  | h1 l x ih =>
    rw [mP,bT,bT,bw,bP,jX,eu];have h1:=lk x;have h2:=nS x.rows;split
    · omega
    · rw [bw,bP];simp [de] at ih ⊢;omega
theorem tF (l:List Tr):(l.map er).map fC=l.map fC:=by
  rw [mu];exact jk fun t _=>qZ t
theorem wh (l:List Tr):fC (lj l)≤1+de (l.map fC):=by
  have h:=xi 0 l;unfold lj;split
  · rename_i x hx;rw [hx] at h;simp [de] at h ⊢;omega
  · rename_i ks _;rw [zX];omega
theorem zY (l:List Tr):fC (me l)≤1+de (l.map fC):=by
  have h:=xi 1 l;unfold me;split
  · rename_i hx;rw [hx] at h;rw [zX];simp [de] at h ⊢;omega
  · rename_i x hx;rw [hx] at h;simp [de] at h ⊢;omega
  · rename_i ks _ _;rw [zX];omega
theorem Cr {t:Tr} {l:List Tr} (h:er t=lj (l.map er)):fC t≤1+de (l.map fC):=by
  have:=wh (l.map er);rw [tF] at this
  rw [←qZ t,h];exact this
theorem Cs {t:Tr} {l:List Tr} (h:er t=me (l.map er)):fC t≤1+de (l.map fC):=by
  have:=zY (l.map er);rw [tF] at this
  rw [←qZ t,h];exact this
end
section
open Go.RowKit
theorem cr {P:Program} {a:Act} {o:Oper} {w:World} {x:Operand} {v:Value} {p:Addr} (ho:o.op= .nilCheck x) (hx:a.eval x=v) (hv:v= .pointer (some p)):ck P a o w v:=by
  subst hv;simp [ck,execOp,ho,hx]
def Al:aQ:=fun _=>True
def bF (v:Value):aQ:=fun g=>v= .pointer (some ⟨g,0,none⟩)
theorem cd.foot {ty:Nat} {cells:List Value} {T:aQ} {v:Value} {w:World} (h:cd ty cells T v w):cd ty cells (bF v) v w:=by
  obtain ⟨g,rfl,hlt,_,hg⟩:=h;exact ⟨g,rfl,hlt,rfl,hg⟩
theorem bF.eq {v:Value} {g g':Nat} (h:bF v g) (h':bF v g'):g=g':=by
  unfold bF at h h';rw [h] at h';simpa using h'
theorem cd.own {ty:Nat} {cells:List Value} {T:aQ} {v:Value} {w:World} (h:cd ty cells T v w) {g:Nat} (hg:bF v g):T g:=by
  obtain ⟨g',rfl,_,hT,_⟩:=h;unfold bF at hg;simp at hg;rw [←hg];exact hT
theorem cd.back {ty ty':Nat} {cells cells':List Value} {T:aQ} {v:Value} {w w':World} (h:cd ty cells (bF v) v w') (h':cd ty' cells' T v w):cd ty cells T v w':=by
  obtain ⟨g,hv,hlt,hT,hg⟩:=h;exact ⟨g,hv,hlt,h'.own hT,hg⟩
theorem cd.ext {ty:Nat} {cells:List Value} {T:aQ} {v:Value} {w w1 w2:World} (h:cd ty cells T v w) (hx:Ext (bF v) w1 w2):Ext T w1 w2:=hx.mono fun _ _ hg=>h.own hg
theorem cd.lt {ty:Nat} {cells:List Value} {T:aQ} {v:Value} {w:World} (h:cd ty cells T v w):∀g,bF v g→g < w.heap.size:=fun g hg=>by
  obtain ⟨g',rfl,hlt,_,_⟩:=h;unfold bF at hg;simp at hg;omega
structure RdR (ty:Nat) (v:Value) (cv:Sv) (cs:List ByteArray) (i:Nat) (w:World):Prop where
  box:cd ty [cv.v,.int .i64 (i:Int)] (bF v) v w
  sl:SlT fi w cv.v cs
  ne:cs≠ []→¬bF v (dh cv.v).block
theorem kH {ty:Nat} {v:Value} {cv:Sv} {cs:List ByteArray} {i:Nat} {w:World} {T Z:aQ} (hb:cd ty [cv.v,.int .i64 (i:Int)] T v w) (hz:(dE fi Al cv.v cs).P Z w) (hd:∀g,T g→¬Z g):RdR ty v cv cs i w:=
  ⟨hb.foot,hz.1,fun hn hg=>hd _ (hb.own hg) (hz.2 hn).1⟩
theorem RdR.inz {ty:Nat} {v:Value} {cv:Sv} {cs:List ByteArray} {i:Nat} {w:World} {n:Nat} {a:Act} {τ0:Nat→aQ} (h:RdR ty v cv cs i w) (st:St (fun k=>bF v k∨w.heap.size≤k) w n a w τ0):Fz (dE fi Al cv.v cs) τ0 w:=
  ⟨h.sl,fun hn=>⟨⟨h.sl.lt hn,fun s hs=>by
    rcases (st.bnd s _ hs).1 with h1 | h1
    · exact h.ne hn h1
    · have:=h.sl.lt hn;omega⟩,ax⟩⟩
def je (ty:Nat) (N:aQ) (tag t:Nat) (p:Value) (cells:List Value) (v:Value):Spec N:=⟨some tag,t,fun _ T u w=>u=v∧cd ty cells T p w,fun _ _ T u w w' _ h hr=>⟨hr.1,kD T p w w' h.less hr.2⟩,fun u=>u=v,fun _ _ _ _ h=>h.1⟩
section
variable {N:aQ} {P:Program} {ops:Array Oper} {sp:List (Spec N)} {In:Nat→Ini N} {a0:Act} {w0 W:World} {bf:List Nat} {j:Nat} {o:Oper} {s:Spec N} {done:Nat→Bool} {a:Act} {w:World} {τ:Nat→aQ}
theorem gW {ty tag t:Nat} {p v:Value} {cells:List Value} (h:∀{done a w τ},Cx ops sp In a0 w0 bf j o done a w τ→∃g args,fv P a o w g args∧Calls P g args w (fun e w'=>e= .returned v∧Ext (τ tag) w w'∧cd ty cells (τ tag) p w'))
    (hs:s=je ty N tag t p cells v:=by exact rfl) (hg:o.guard=none:=by exact rfl) (hd:o.dst=some t:=by exact rfl):Ob ops sp In a0 w0 P bf j o s:=by
  subst hs;refine jq (tag:=tag) hg rfl fun done a w τ c=> ?_;obtain ⟨g,args,h1,h2⟩:=h c;refine ⟨g,args,h1,h2.mono fun e w' ⟨he,hx,hb⟩=>⟨v,he,hx,τ tag,fun g h=> .inl h,?_,hb⟩⟩;show aU (a.put o.dst v) t=v;rw [hd,dm a t t _ (c.lt t hd),if_pos rfl]
theorem Cx.dv {ty t slot:Nat} {p v:Value} {cells:List Value} (c:Cx ops sp In a0 w0 bf j o done a w τ) (i:Nat) (hs:sp[i]? =some (je ty N t slot p cells v)) (hb:(bf.getD j 0).testBit i=true:=by exact rfl):a.eval (.tmp slot)=v:=c.J.pur i _ hs (c.pre i hb)
theorem Cx.db {ty t slot:Nat} {p v:Value} {cells:List Value} (c:Cx ops sp In a0 w0 bf j o done a w τ) (i:Nat) (hs:sp[i]? =some (je ty N t slot p cells v)) (hl:bE (sp.map (·.tag)) t j=some i:=by exact rfl) (hord:jA (sp.map (·.tag)) bf t j=true:=by kernel_rfl):cd ty cells (τ t) p w:=(c.res i t _ hs hl hord).2
theorem gX {f:FuncId} {args:Array Value} {ty ty':Nat} {p v:Value} {cells cells':List Value} {T:aQ} (hb:cd ty' cells' T p w) (h:Calls P f args w (fun e w'=>e= .returned v∧Ext (bF p) w w'∧cd ty cells (bF p) p w')):Calls P f args w (fun e w'=>e= .returned v∧Ext T w w'∧cd ty cells T p w'):=
  h.mono fun e w' ⟨h1,h2,h3⟩=>⟨h1,hb.ext h2,h3.back hb⟩
theorem Cx.tzs {t:Tr} {F:aQ} {n:Nat} {a1:Act} {τ0:Nat→aQ} {w':World} (c:Cx ops sp In a0 w0 bf j o done a w τ) (st:St N W n a1 w0 τ0) (hx:w.heap.size≤w'.heap.size) (h:TrT (Gn (fun g=>eW τ w g∧Gn F W g) w) w' t):(ii (Gn F W) t).P (eW τ w') w':=TrT.mono h (c.gz (c.hW st) hx)
theorem Cx.tns {t:Tr} {F:aQ} {n:Nat} {a1:Act} {τ0:Nat→aQ} {w':World} (c:Cx ops sp In a0 w0 bf j o done a w τ) (st:St N W n a1 w0 τ0) (hx:w.heap.size≤w'.heap.size) (h:TrT (Gn aY w) w' t):(ii (Gn F W) t).P (eW τ w') w':=c.tzs st hx (h.mono fun g hg _=>hg.elim (fun h=>h.elim) .inr)
theorem Cx.sns {α:Type} {E:Enc α} {xs:List α} {v:Value} {F:aQ} {n:Nat} {a1:Act} {τ0:Nat→aQ} {w':World} (c:Cx ops sp In a0 w0 bf j o done a w τ) (st:St N W n a1 w0 τ0) (hx:w.heap.size≤w'.heap.size) (h:SlT E w' v xs∧(xs≠ []→w.heap.size≤(dh v).block)):(dE E (Gn F W) v xs).P (eW τ w') w':=
  ⟨h.1,fun hn=>c.gz (c.hW st) hx _ (.inr (h.2 hn)) (h.1.lt hn)⟩
end
section
variable {N:aQ} {l:List Oper} {sp:List (Spec N)} {il:List (Ini N)} {a0 a:Act} {w:World} {τ:Nat→aQ}
theorem Fin.dv (h:Fin l sp il a0 a w τ) {ty t slot:Nat} {p v:Value} {cells:List Value} (j:Nat) (hs:sp[j]? =some (je ty N t slot p cells v)) (hl:bE (sp.map (·.tag)) t sp.length=some j:=by exact rfl):aU a slot=v:=(h.res j t _ hs rfl hl).1
theorem Fin.db (h:Fin l sp il a0 a w τ) {ty t slot:Nat} {p v:Value} {cells:List Value} (j:Nat) (hs:sp[j]? =some (je ty N t slot p cells v)) (hl:bE (sp.map (·.tag)) t sp.length=some j:=by exact rfl):cd ty cells (τ t) p w:=(h.res j t _ hs rfl hl).2
end
theorem cd.cast {ty:Nat} {cs cs':List Value} {T:aQ} {v:Value} {w:World} (h:cd ty cs T v w) (e:cs'=cs):cd ty cs' T v w:=e ▸ h
theorem jf {P:Program} {fn:Func} {R:Ending→World→Prop} {a:Act} {w:World} {t t' t2:Nat} {v v' v2:Value} (hr:fn.results=#[.tmp t,.tmp t',.tmp t2]) (hd:a.defers=[]) (hv:aU a t=v) (hv':aU a t'=v') (hv2:aU a t2=v2) (h:R (.returned (.tuple #[v,v',v2])) w):bodyPost P fn R .ret a w:=
  bodyPost_ret (v:= .tuple #[v,v',v2]) (by
    have h0:(a.tmps[t]?).getD undef=v:=by rw [←aV];exact hv
    have h1:(a.tmps[t']?).getD undef=v':=by rw [←aV];exact hv'
    have h2:(a.tmps[t2]?).getD undef=v2:=by rw [←aV];exact hv2
    simp only [results,hr]
    simp [h0,h1,h2]) hd h
def zZ (v:Value) (w:World):Nat:=match w.cell? ((dh v).add 1) with
  | some (.int _ n) => n.toNat
  | _ => 0
theorem lI {ty:Nat} {v x:Value} {i:Nat} {T:aQ} {w:World} (h:cd ty [x,.int .i64 (i:Int)] T v w):zZ v w=i:=by
  unfold zZ;rw [h.cell (j:=1) rfl];simp
section
variable {N:aQ} {P:Program} {ops:Array Oper} {sp:List (Spec N)} {In:Nat→Ini N} {a0:Act} {w0:World} {bf:List Nat} {j:Nat} {o:Oper} {s:Spec N}
theorem qd (gi:Nat) {tg t:Nat} {want b:Bool} (hs:s=B.det N t undef:=by exact rfl) (hg:o.guard=some (gi,want):=by exact rfl) (hd:o.dst=some t:=by exact rfl) (hgd:((ops[gi]?).bind (·.dst))=some tg:=by exact rfl) (hgs:sp[gi]? =some (B.det N tg (.bool b)):=by exact rfl) (hb:(bf.getD j 0).testBit gi=true:=by exact rfl) (hne:b≠want:=by decide):Ob ops sp In a0 w0 P bf j o s:=by
  intro done a w τ c;subst hs;have hv:=qO (c.v gi hgs hb);refine ⟨fun hn=> ?_,fun _=>⟨Ext.refl _ _,?_⟩⟩
  · exfalso;cases want <;> cases b <;> simp [Region.wanted,hg,yielded,hgd,hv] at hn hne
  · show aU (a.put o.dst undef) t=undef;rw [hd,dm a t t _ (c.lt t hd),if_pos rfl]
theorem rc (gi:Nat) {tg t:Nat} {want:Bool} (hs:s=B.det N t undef:=by exact rfl) (hg:o.guard=some (gi,want):=by exact rfl) (hd:o.dst=some t:=by exact rfl) (hgd:((ops[gi]?).bind (·.dst))=some tg:=by exact rfl) (hgs:sp[gi]? =some (B.det N tg undef):=by exact rfl) (hb:(bf.getD j 0).testBit gi=true:=by exact rfl):Ob ops sp In a0 w0 P bf j o s:=by
  intro done a w τ c;subst hs;have hv:=sk (c.v gi hgs hb);have hy:yielded ops a.tmps gi=none:=by
    cases h':a.tmps[tg]? with
    | none => simp [yielded, hgd, h']
    | some u => cases u <;> first | exact absurd h' (hv _) | simp [yielded, hgd, h']
  refine ⟨fun hn=> ?_,fun _=>⟨Ext.refl _ _,?_⟩⟩
  · exfalso;simp [Region.wanted,hg,hy] at hn
  · show aU (a.put o.dst undef) t=undef;rw [hd,dm a t t _ (c.lt t hd),if_pos rfl]
end
theorem FJ {G Z:aQ} {w:World} {ts us:List Tr} (h:(nt G ts).P Z w) (h2:(nt G us).P Z w):(nt G (ts++us)).P Z w:=fun x hx=>(List.mem_append.1 hx).elim (h x) (h2 x)
end
section
open Srt
abbrev Rw:=ByteArray × ByteArray
theorem pa {α:Type} [Inhabited α] {xs:List α} {k:Nat} (h:k < xs.length):nth xs (k:Int) ∈ xs:=gT (wa h)
theorem nT {f:Int→Bool} {k:Nat} (h:∀i < k,f ((i:Nat):Int)=false) (h2:f (k:Int)=false):∀i < k+1,f ((i:Nat):Int)=false:=by
  intro i hi;by_cases e:i=k
  · subst e;exact h2
  · exact h i (by omega)
def pb (xs:List Rw):Prop:=∀r ∈ xs,r.1.size≤1000000∧r.2.size≤1000000
theorem re {xs:List Rw} (h:pb xs) {k:Nat}:k < xs.length→(nth xs (k:Int)).1.size≤1000000∧(nth xs (k:Int)).2.size≤1000000:=fun hk=>h _ (pa hk)
def fa (r:Rw):Bool:=(dS r.1&&dS r.2)&&oD r.1 r.2
def FK (p q:Rw):Int:=Gd [uI p.1 q.1,uI p.2 q.2]
def nu (p q:Rw):Bool:=decide (FK p q < 0)
theorem xj {x y:ByteArray}:uI x y < 0↔nk x y=true:=by
  unfold uI;split
  · rename_i h;simp [h]
  · rename_i h;split <;> simp [h]
theorem Ct {x y:ByteArray}:uI x y=0↔x=y:=by
  unfold uI;constructor
  · intro h;rcases qt x y with h' | h' | h'
    · rw [if_pos h'] at h;cases h
    · exact h'
    · rw [if_neg (by rw [sy h'];decide),if_pos h'] at h;cases h
  · rintro rfl
    rw [if_neg (by rw [oW];decide),if_neg (by rw [oW];decide)]
theorem xk (p q:Rw):nu p q=true↔nk p.1 q.1=true∨(p.1=q.1∧nk p.2 q.2=true):=by
  unfold nu FK Gd;rw [ai,←xj,←xj,←Ct];generalize uI p.1 q.1=a;generalize uI p.2 q.2=b;have hn:∀x:Int,¬x=0→(x !=0)=true:=fun x h=>by simpa using h
  by_cases h1:a=0
  · subst h1;by_cases h2:b=0
    · subst h2;simp [List.find?]
    · simp [List.find?,hn b h2]
  · simp [List.find?,hn a h1,h1]
def ur (xs:List Rw) (c:ByteArray):Bool:=xs.any fun r=>oD r.1 c&&oD c r.2
theorem xl {xs:List Rw} {c:ByteArray} {k:Nat} (h:k < xs.length) (hc:(oD (nth xs (k:Int)).1 c&&oD c (nth xs (k:Int)).2)=true):ur xs c=true:=List.any_eq_true.2 ⟨_,pa h,hc⟩
theorem Aa {xs:List Rw} {c:ByteArray} {k:Nat} (h:xs.length≤k) (hq:∀i < k,(oD (nth xs ((i:Nat):Int)).1 c&&oD c (nth xs ((i:Nat):Int)).2)=false):ur xs c=false:=by
  unfold ur;rw [jR];intro r hr;obtain ⟨i,hi,rfl⟩:=kM hr;have:=hq i (by omega);rw [qR (bD hi)] at this
  rw [this];decide
def se (xs:List Rw) (n f:Bool) (c:ByteArray):Bool:= !((if f=true then (ur xs c || ur xs (fO c)) || ur xs (DS c) else ur xs c)==n)
def nv (xs:List Rw) (i:Int):Bool:= !fa (nth xs i) || (decide (0 < i)&&oD (nth xs i).1 (nth xs (i - 1)).2)
def lT (xs:List Rw):Bool:=(List.range xs.length).all fun i=> !nv xs (i:Int)
theorem sD {xs:List Rw} {k:Nat} (h:k < xs.length) (hb:nv xs (k:Int)=true):lT xs=false:=by
  unfold lT;rw [List.all_eq_false];exact ⟨k,by simpa using h,by simp [hb]⟩
theorem oI {xs:List Rw} {k:Nat} (h:∀i < k,nv xs ((i:Nat):Int)=false) (hk:xs.length≤k):lT xs=true:=by
  unfold lT;rw [cR];intro i hi;simp at hi;simp [h i (by omega)]
theorem rf (xs:List Rw) (i:Int):(((!dS (nth xs i).1 || !dS (nth xs i).2) || !oD (nth xs i).1 (nth xs i).2) || (decide (0 < i)&&oD (nth xs i).1 (nth xs (i - 1)).2))=nv xs i:=by
  unfold nv fa;cases dS (nth xs i).1 <;> cases dS (nth xs i).2 <;> cases oD (nth xs i).1 (nth xs i).2 <;> rfl
theorem xm (r:Rw):((!dS r.1 || !dS r.2) || !oD r.1 r.2)= !fa r:=by
  unfold fa;cases dS r.1 <;> cases dS r.2 <;> cases oD r.1 r.2 <;> rfl
theorem Ab {α:Type} [Inhabited α] {f:α→Bool} {xs:List α} {k:Nat} (h:k < xs.length) (hp:f (nth xs (k:Int))=true):(xs.take (k+1)).filter f=(xs.take k).filter f++ [nth xs (k:Int)]:=by
  rw [eZ h,List.filter_append];simp [hp]
theorem uM {α:Type} [Inhabited α] {f:α→Bool} {xs:List α} {k:Nat} (h:k < xs.length) (hp:f (nth xs (k:Int))=false):(xs.take (k+1)).filter f=(xs.take k).filter f:=by
  rw [eZ h,List.filter_append];simp [hp]
theorem yr {α:Type} {f:α→Bool} {xs:List α} {k:Nat}:((xs.take k).filter f).length≤xs.length:=by
  have h1:=List.length_filter_le f (xs.take k);have h3:=List.length_take_le' k xs;omega
theorem nw (xs:List Rw):(eF nu (xs.filter fa)).length≤xs.length:=by
  rw [oV];exact List.length_filter_le _ _
def uN (acc:List Rw) (p:Rw):Bool:=decide (0≤(acc.length:Int) - 1)&&oD p.1 (nth acc ((acc.length:Int) - 1)).2
def qe (acc:List Rw) (p:Rw):List Rw:=
  if uN acc p=true then acc.set ((acc.length:Int) - 1).toNat ((nth acc ((acc.length:Int) - 1)).1,qj (nth acc ((acc.length:Int) - 1)).2 p.2) else acc++ [p]
def gj (xs:List Rw):List Rw:=xs.foldl qe []
theorem mR (xs:List Rw) (p:Rw):gj (xs++ [p])=qe (gj xs) p:=by simp [gj]
theorem sE {xs:List Rw} {k:Nat} (h:k < xs.length) (hc:uN (gj (xs.take k)) (nth xs (k:Int))=true):
    gj (xs.take (k+1))=(gj (xs.take k)).set (((gj (xs.take k)).length:Int) - 1).toNat ((nth (gj (xs.take k)) (((gj (xs.take k)).length:Int) - 1)).1,qj (nth (gj (xs.take k)) (((gj (xs.take k)).length:Int) - 1)).2 (nth xs (k:Int)).2):=by
  rw [eZ h,mR,qe,if_pos hc]
theorem rh {xs:List Rw} {k:Nat} (h:k < xs.length) (hc:uN (gj (xs.take k)) (nth xs (k:Int))=false):gj (xs.take (k+1))=gj (xs.take k)++ [nth xs (k:Int)]:=by
  rw [eZ h,mR,qe,if_neg (by rw [hc];decide)]
theorem uO (xs:List Rw):(gj xs).length≤xs.length:=by
  induction xs using fj with
  | h0 => simp [gj]
  | h1 xs x ih =>
    rw [mR,qe];split
    · simp;omega
    · simp;omega
theorem wi {xs:List Rw} {k:Nat}:(gj (xs.take k)).length≤k:=by
  have h1:=uO (xs.take k);have h2:=List.length_take_le k xs;omega
theorem pd {acc:List Rw} {p:Rw} {b:Bool} (h:(decide ((0:Int) < (acc.length:Int))&&oD p.1 (nth acc ((acc.length:Int) - 1)).2)=b):uN acc p=b:=by
  rw [←h];unfold uN;congr 1;exact decide_eq_decide.2 (by omega)
def gu (xs:List Rw):List Rw:=gj (eF nu (xs.filter fa))
def sf (x y:Rw):Bool:=nk x.1 y.1 || (iA x.1 y.1&&nk x.2 y.2)
theorem Ez:sf=nu:=by
  funext x y;rw [eT,xk,sf,aO,av,qq]
theorem uP {xs:List Rw} {i k:Nat} (h:i < xs.length) (hr:fa (nth xs (i:Int))=true) (hk:k≤(eF sf ((xs.take i).filter fa)).length) (hq:∀q ∈ (eF sf ((xs.take i).filter fa)).drop k,sf (nth xs (i:Int)) q=true)
    (hc:(decide ((0:Int) < (k:Int))&&sf (nth xs (i:Int)) (nth (eF sf ((xs.take i).filter fa)) ((k:Int) - 1)))=false):
    eF sf ((xs.take (i+1)).filter fa)=(([]++((eF sf ((xs.take i).filter fa)).drop 0).take (k - 0))++ [nth xs (i:Int)])++((eF sf ((xs.take i).filter fa)).drop k).take ((eF sf ((xs.take i).filter fa)).length - k):=by
  rw [Ab h hr,lh,Ex hk hq hc]
def gv (n:Int):List Rw:=if n=100 then [(⟨#[48]⟩,⟨#[57]⟩)] else if n=119 then [(⟨#[48]⟩,⟨#[57]⟩),(⟨#[65]⟩,⟨#[90]⟩),(⟨#[95]⟩,⟨#[95]⟩),(⟨#[97]⟩,⟨#[122]⟩)] else if n=115 then [(⟨#[9]⟩,⟨#[13]⟩),(⟨#[32]⟩,⟨#[32]⟩)] else []
def hH (n:Int):Bool:=decide (n=100) || (decide (n=119) || decide (n=115))
theorem pe {s:ByteArray} {k:Nat} (h:k < (bs s).length) (hc:(decide ((65:Int)≤((nth (fB jJ (bs s) k) (k:Int)).toNat:Int))&&decide (((nth (fB jJ (bs s) k) (k:Int)).toNat:Int)≤90))=true):
    fB jJ (bs s) (k+1)=(fB jJ (bs s) k).set (k:Int).toNat (UInt8.ofNat (IntKind.u8.wrap (((nth (fB jJ (bs s) k) (k:Int)).toNat:Int)+32)).toNat):=by
  refine sA h ?_;rw [nO h] at hc ⊢;rw [jJ,if_pos hc]
theorem nU {s:ByteArray} {k:Nat} (h:k < (bs s).length) (hc:(decide ((65:Int)≤((nth (fB jJ (bs s) k) (k:Int)).toNat:Int))&&decide (((nth (fB jJ (bs s) k) (k:Int)).toNat:Int)≤90))=false):fB jJ (bs s) (k+1)=fB jJ (bs s) k:=by
  refine qU h ?_;rw [nO h] at hc;rw [jJ,if_neg (by rw [hc];decide)]
theorem tG {s:ByteArray} {k:Nat} (h:k < (bs s).length) (hc:(decide ((97:Int)≤((nth (fB uq (bs s) k) (k:Int)).toNat:Int))&&decide (((nth (fB uq (bs s) k) (k:Int)).toNat:Int)≤122))=true):
    fB uq (bs s) (k+1)=(fB uq (bs s) k).set (k:Int).toNat (UInt8.ofNat (IntKind.u8.wrap (((nth (fB uq (bs s) k) (k:Int)).toNat:Int) - 32)).toNat):=by
  refine sA h ?_;rw [nO h] at hc ⊢;rw [uq,if_pos hc]
theorem qx {s:ByteArray} {k:Nat} (h:k < (bs s).length) (hc:(decide ((97:Int)≤((nth (fB uq (bs s) k) (k:Int)).toNat:Int))&&decide (((nth (fB uq (bs s) k) (k:Int)).toNat:Int)≤122))=false):fB uq (bs s) (k+1)=fB uq (bs s) k:=by
  refine qU h ?_;rw [nO h] at hc;rw [uq,if_neg (by rw [hc];decide)]
end
section
open Srt
abbrev Ps:=List (Int × Int)
abbrev Fl:=Nat × Bool
abbrev Rs:=Option (Nat × Ps) × Fl
abbrev dC:=Nat→Ps→Fl→Rs
abbrev ie:=Nat→dC→Ps→Fl→Rs
structure Env where
  cs:List ByteArray
  pl:List Int
  fold:Bool
def ny (s:ByteArray):Bool:=decide ((s.size:Int)=1)&&((((decide (97≤ca s 0)&&decide (ca s 0≤122)) || (decide (65≤ca s 0)&&decide (ca s 0≤90))) || (decide (48≤ca s 0)&&decide (ca s 0≤57))) || decide (ca s 0=95))
def fI (fold:Bool) (t:Tr) (x:ByteArray):Bool:=
  if t.k=2 then iA x t.ch || (fold&&iA (fO x) (fO t.ch))
  else if t.k=3 then !(iA x ⟨#[10]⟩)
  else se t.rows t.ng fold x
def EA (cs:List ByteArray) (k:Int):Bool:=decide (0 < k)&&ny (nth cs (k - 1))
def Cu (cs:List ByteArray) (k:Int):Bool:=decide (k < (cs.length:Int))&&ny (nth cs k)
def gl (cs:List ByteArray) (kd:Int) (k:Int):Bool:=
  if kd=8 then decide (k=0) else if kd=9 then decide (k=(cs.length:Int)) else (!(EA cs k==Cu cs k))==decide (kd=10)
def cS (ps:Ps) (lo n:Nat):Ps:=ps.take lo++List.replicate n ((-1:Int),(-1:Int))++ps.drop (lo+n)
def iM:List ie→ie
  | [], k, K, ps, φ => K k ps φ
  | r :: l, k, K, ps, φ => r k (fun to ps φ => iM l to K ps φ) ps φ
def jC:List ie→ie
  | [], _, _, _, φ => (none, φ)
  | r :: l, k, K, ps, φ => if (r k K ps φ).1.isSome = true then r k K ps φ else jC l k K ps (r k K ps φ).2
def gM (mn:Int) (lz:Bool) (times:Nat) (k:Nat) (K:dC) (ps:Ps) (φ:Fl):Rs:=if (decide (mn≤(times:Int))&&lz)=true then K k ps φ else (none,φ)
def gI (mn:Int) (lz:Bool) (times:Nat) (k:Nat) (K:dC) (ps:Ps) (φ:Fl):Rs:=if ((decide (mn≤(times:Int))&& !lz)&& !φ.2)=true then K k ps φ else (none,φ)
def cn (r:ie) (lo n:Nat) (mn mx:Int) (lz:Bool):Nat→Nat→ie
  | 0, _, _, _, _, φ => (none, φ)
  | g + 1, times, k, K, ps, φ =>
    if (gM mn lz times k K ps φ).1.isSome=true then gM mn lz times k K ps φ else
    if (decide (mx < 0) || decide ((times:Int) < mx))=true then
      if (r k (fun to ps' φ'=>if (decide (k < to) || decide ((times:Int) < mn))=true then cn r lo n mn mx lz g (times+1) to K ps' φ' else (none,φ')) (cS ps lo n) (gM mn lz times k K ps φ).2).1.isSome=true then
        r k (fun to ps' φ'=>if (decide (k < to) || decide ((times:Int) < mn))=true then cn r lo n mn mx lz g (times+1) to K ps' φ' else (none,φ')) (cS ps lo n) (gM mn lz times k K ps φ).2
      else gI mn lz times k K ps (r k (fun to ps' φ'=>if (decide (k < to) || decide ((times:Int) < mn))=true then cn r lo n mn mx lz g (times+1) to K ps' φ' else (none,φ')) (cS ps lo n) (gM mn lz times k K ps φ).2).2
    else gI mn lz times k K ps (gM mn lz times k K ps φ).2
def dD (r:ie) (lo n:Nat) (mn mx:Int) (lz:Bool) (g times k:Nat) (K:dC):dC:=fun to ps' φ'=>if (decide (k < to) || decide ((times:Int) < mn))=true then cn r lo n mn mx lz g (times+1) to K ps' φ' else (none,φ')
def cU (r:ie) (lo n:Nat) (mn mx:Int) (lz:Bool) (g times k:Nat) (K:dC) (ps:Ps) (φ:Fl):Rs:=r k (dD r lo n mn mx lz g times k K) (cS ps lo n) φ
theorem mf (r:ie) (lo n:Nat) (mn mx:Int) (lz:Bool) (g times k:Nat) (K:dC) (ps:Ps) (φ:Fl):cn r lo n mn mx lz (g+1) times k K ps φ=
    if (gM mn lz times k K ps φ).1.isSome=true then gM mn lz times k K ps φ else
    if (decide (mx < 0) || decide ((times:Int) < mx))=true then
      if (cU r lo n mn mx lz g times k K ps (gM mn lz times k K ps φ).2).1.isSome=true then cU r lo n mn mx lz g times k K ps (gM mn lz times k K ps φ).2
      else gI mn lz times k K ps (cU r lo n mn mx lz g times k K ps (gM mn lz times k K ps φ).2).2
    else gI mn lz times k K ps (gM mn lz times k K ps φ).2:=rfl
def sF:List ie→ie
  | r :: _ => r
  | [] => fun _ _ _ φ => (none, φ)
def dZ (E:Env) (lo k:Nat) (K:dC):dC:=fun to ps φ=>K to (ps.set lo (nth E.pl (k:Int),nth E.pl (to:Int))) φ
def jZ (E:Env) (t:Tr) (lo:Nat) (l:List ie):ie:=fun k K ps φ=>
  if t.k=5 then sF l k (dZ E lo k K) ps φ
  else if t.k=6 then sF l k K ps φ
  else if t.k=2∨t.k=3∨t.k=4 then (if (decide ((k:Int) < (E.cs.length:Int))&&fI E.fold t (nth E.cs (k:Int)))=true then K (k+1) ps φ else (none,φ))
  else if gl E.cs t.k (k:Int)=true then K k ps φ else (none,φ)
def ik (E:Env) (t:Tr) (lo n:Nat) (l:List ie):ie:=fun k K ps φ=>
  if φ.2=true then (none,φ)
  else if t.k=0 then iM l k K ps φ
  else if t.k=1 then jC l k K ps φ
  else if t.k=7 then cn (sF l) lo n t.mn t.mx t.lz (φ.1+1) 0 k K ps φ
  else if φ.1=0 then (none,(0,true))
  else jZ E t lo l k K ps (φ.1 - 1,false)
def lx (k:Int):Bool:= !((decide (k=0) || decide (k=1)) || decide (k=7))
structure Pt where
  t:Tr
  pv:Sv
  ps:List Pt
  lo:Int
  hi:Int
instance:Inhabited Pt:=⟨⟨default,Sv.nil,[],0,0⟩⟩
theorem Pt.kid_lt {t k:Pt} (h:k ∈ t.ps):SizeOf.sizeOf k < SizeOf.sizeOf t:=by
  have h1:=List.sizeOf_lt_of_mem h;cases t
  simp at h1 ⊢;omega
theorem Pt.ind {P:Pt→Prop} (h:∀t,(∀k ∈ t.ps,P k)→P t) (t:Pt):P t:=h t fun k hk=>Pt.ind h k
termination_by SizeOf.sizeOf t
decreasing_by exact Pt.kid_lt hk
def vO:Enc Pt:=⟨fun p=> [.int .i64 p.t.k,.string p.t.ch,.bool p.t.ng,p.t.rv.v,.int .i64 p.t.mn,.int .i64 p.t.mx,.bool p.t.lz,p.t.kv.v,p.pv.v,.int .i64 p.lo,.int .i64 p.hi],11,by decide,fun _=>rfl,fun x u hu=>by
  simp at hu;rcases hu with rfl | rfl | rfl | rfl | rfl | rfl | rfl | rfl | rfl | rfl | rfl <;> rfl⟩
def Pt.v (p:Pt):Value:= .agg #[.int .i64 p.t.k,.string p.t.ch,.bool p.t.ng,p.t.rv.v,.int .i64 p.t.mn,.int .i64 p.t.mx,.bool p.t.lz,p.t.kv.v,p.pv.v,.int .i64 p.lo,.int .i64 p.hi]
section
variable {β:Type}
mutual
def sG (g:Pt→List β→β):Pt→β
  | ⟨t, pv, ps, lo, hi⟩ => g ⟨t, pv, ps, lo, hi⟩ (ri g ps)
def ri (g:Pt→List β→β):List Pt→List β
  | [] => []
  | t :: ts => sG g t :: ri g ts
end
theorem wj (g:Pt→List β→β) (ts:List Pt):ri g ts=ts.map (sG g):=by
  induction ts with
  | nil => rw [ri]; rfl
  | cons t ts ih => rw [ri, ih]; rfl
theorem Ac (g:Pt→List β→β) (t:Pt):sG g t=g t (t.ps.map (sG g)):=by
  cases t;rw [sG,wj]
end
def bi (E:Env):Pt→ie:=sG fun p l=>ik E p.t p.lo.toNat (p.hi - p.lo).toNat l
theorem kz (E:Env) (p:Pt):bi E p=ik E p.t p.lo.toNat (p.hi - p.lo).toNat (p.ps.map (bi E)):=Ac _ p
def Ad (g:Nat):List (Nat × (Nat→ie))→List ie
  | [] => []
  | (n, r) :: l => r g :: Ad (g + n) l
def mg (t:Tr) (g:Nat):Nat:=if t.k=5 then g+1 else g
def grpN (t:Tr):Nat:=(dp t).toNat
def ll (E:Env):Tr→Nat × (Nat→ie):=lF fun t l=>((if t.k=5 then 1 else 0)+(l.map (·.1)).sum,fun g=>ik E t g ((if t.k=5 then 1 else 0)+(l.map (·.1)).sum) (Ad (mg t g) l))
def be (E:Env) (t:Tr) (g:Nat):ie:=(ll E t).2 g
def fX (E:Env):List Tr→Nat→List ie
  | [], _ => []
  | t :: ts, g => be E t g :: fX E ts (g + grpN t)
theorem xo (E:Env) (t:Tr):(ll E t).1=grpN t:=by
  induction t using Tr.ind with
  | h t ih =>
    have h1:(ll E t).1=(if t.k=5 then 1 else 0)+((t.kids.map (ll E)).map (·.1)).sum:=congrArg Prod.fst (iV _ t);have h2:=mN t;have h3:∀l:List Tr,(∀k ∈ l,(ll E k).1=grpN k)→((((l.map (ll E)).map (·.1)).sum:Nat):Int)=de (l.map dp):=by
      intro l;induction l with
      | nil => intro _; rfl
      | cons k l ih2 =>
        intro hl;have e1:=ih2 fun x hx=>hl x (by simp [hx]);have e2:=hl k (by simp);have e3:=(hD k).1;rw [bw,bw,List.sum_cons,bw,jK,e2];unfold grpN;omega
    have h4:=h3 t.kids ih;rw [h1];unfold grpN;rw [h2];split <;> omega
theorem sH (E:Env):∀(l:List Tr) (g:Nat),Ad g (l.map (ll E))=fX E l g
  | [], _ => rfl
  | t :: l, g => by
    rw [bw,fX];show (ll E t).2 g::Ad (g+(ll E t).1) (l.map (ll E))=_;rw [xo,sH E l];rfl
theorem ka (E:Env) (t:Tr) (g:Nat):be E t g=ik E t g (grpN t) (fX E t.kids (mg t g)):=by
  have h1:(ll E t).2=fun g=>ik E t g ((if t.k=5 then 1 else 0)+((t.kids.map (ll E)).map (·.1)).sum) (Ad (mg t g) (t.kids.map (ll E))):=congrArg Prod.snd (iV _ t);have h2:(ll E t).1=(if t.k=5 then 1 else 0)+((t.kids.map (ll E)).map (·.1)).sum:=congrArg Prod.fst (iV _ t);unfold be;rw [h1];show ik E t g _ _=_;rw [←h2,xo,sH]
mutual
inductive Lay:Pt→Tr→Nat→Prop
  | mk {p : Pt} {t : Tr} {g : Nat} : er p.t = er t → p.lo = (g : Int) → p.hi = (g : Int) + dp t → LayL p.ps t.kids (mg t g) → Lay p t g
inductive LayL:List Pt→List Tr→Nat→Prop
  | nil {g : Nat} : LayL [] [] g
  | cons {p : Pt} {ps : List Pt} {t : Tr} {ts : List Tr} {g : Nat} : Lay p t g → LayL ps ts (g + grpN t) → LayL (p :: ps) (t :: ts) g
end
theorem mh {a b:Tr} (h:er a=er b):a.k=b.k∧a.ch=b.ch∧a.ng=b.ng∧a.rows=b.rows∧a.mn=b.mn∧a.mx=b.mx∧a.lz=b.lz:=by
  rw [oS,oS] at h;injection h with h1 h2 h3 h4 h5 h6 h7 h8 h9 h10
  exact ⟨h1,h2,h3,h5,h6,h7,h8⟩
theorem yt {f:Bool} {a b:Tr} (h:er a=er b) (x:ByteArray):fI f a x=fI f b x:=by
  obtain ⟨h1,h2,h3,h4,h5,h6,h7⟩:=mh h;unfold fI;rw [h1,h2,h3,h4]
theorem uQ (E:Env) {a b:Tr} (h:er a=er b) (lo n:Nat) (l:List ie):ik E a lo n l=ik E b lo n l:=by
  obtain ⟨h1,h2,h3,h4,h5,h6,h7⟩:=mh h;funext k K ps φ;unfold ik jZ;rw [h1,h5,h6,h7,yt h]
theorem xq (E:Env) (t:Tr):∀(p:Pt) (g:Nat),Lay p t g→bi E p=be E t g:=by
  induction t using Tr.ind with
  | h t ih =>
    intro p g h;cases h with
    | mk h1 h2 h3 h4 =>
      rw [kz,ka,uQ E h1];have e1:p.lo.toNat=g:=by omega
      have e2:(p.hi - p.lo).toNat=grpN t:=by unfold grpN;omega
      have e3:∀(ts:List Tr) (ps:List Pt) (g:Nat),(∀k ∈ ts,k ∈ t.kids)→LayL ps ts g→ps.map (bi E)=fX E ts g:=by
        intro ts;induction ts with
        | nil => intro ps g _ h; cases h; rfl
        | cons k ts ih2 =>
          intro ps g hm h;cases h with
          | cons h5 h6 => rw [bw, fX, ih k (hm k (by simp)) _ _ h5, ih2 _ _ (fun x hx => hm x (by simp [hx])) h6]
      rw [e1,e2,e3 _ _ _ (fun _ h=>h) h4]
theorem xr (E:Env) (t:Tr):∀(u:Tr) (g:Nat),er t=er u→be E t g=be E u g:=by
  induction t using Tr.ind with
  | h t ih =>
    intro u g h;rw [ka,ka,uQ E h];have e1:grpN t=grpN u:=by unfold grpN;rw [←ki t,←ki u,h]
    have e2:mg t g=mg u g:=by unfold mg;rw [(mh h).1]
    have e3:t.kids.map er=u.kids.map er:=by rw [←mI,←mI,h]
    have e4:∀(ts us:List Tr) (g:Nat),(∀k ∈ ts,k ∈ t.kids)→ts.map er=us.map er→fX E ts g=fX E us g:=by
      intro ts;induction ts with
      | nil => intro us g _ h; cases us with
        | nil => rfl
        | cons => simp at h
      | cons k ts ih2 =>
        intro us g hm h;cases us with
        | nil => simp at h
        | cons v us =>
          simp only [bw,List.cons.injEq] at h;have e5:grpN k=grpN v:=by unfold grpN;rw [←ki k,←ki v,h.1]
          rw [fX,fX,ih k (hm k (by simp)) v g h.1,e5,ih2 us _ (fun x hx=>hm x (by simp [hx])) h.2]
    rw [e1,e2,e4 _ _ _ (fun _ h=>h) e3]
def KP (B:Nat) (K:dC):Prop:=∀(to:Nat) (ps:Ps) (fu:Nat),fu < B→(K to ps (fu,false)).2.1≤fu
theorem KP.less {B B':Nat} {K:dC} (h:KP B K) (hB:B'≤B):KP B' K:=fun to ps fu hf=>h to ps fu (by omega)
def RP (r:ie):Prop:=∀(k B:Nat) (K:dC),KP B K→∀(ps:Ps) (fu:Nat) (ou:Bool),fu < B→(r k K ps (fu,ou)).2.1≤fu
theorem wk:∀(l:List ie),(∀r ∈ l,RP r)→∀(k B:Nat) (K:dC),KP B K→∀(ps:Ps) (fu:Nat),fu < B→(iM l k K ps (fu,false)).2.1≤fu
  | [], _, k, B, K, hK, ps, fu, hf => hK k ps fu hf
  | r :: l, h, k, B, K, hK, ps, fu, hf => h r (by simp) k B (fun to ps φ => iM l to K ps φ) (fun to ps fu hf => wk l (fun x hx => h x (by simp [hx])) to B K hK ps fu hf) ps fu false hf
theorem Ae:∀(l:List ie),(∀r ∈ l,RP r)→∀(k B:Nat) (K:dC),KP B K→∀(ps:Ps) (fu:Nat) (ou:Bool),fu < B→(jC l k K ps (fu,ou)).2.1≤fu
  | [], _, k, B, K, hK, ps, fu, ou, hf => bk _
  | r :: l, h, k, B, K, hK, ps, fu, ou, hf => by
    have h1:=h r (by simp) k B K hK ps fu ou hf;rw [jC];split
    · exact h1
    · have h2:=Ae l (fun x hx=>h x (by simp [hx])) k B K hK ps (r k K ps (fu,ou)).2.1 (r k K ps (fu,ou)).2.2 (by omega);exact dA h2 h1
theorem Cv {B:Nat} {K:dC} (hK:KP B K) {mn:Int} {lz:Bool} {times k:Nat} {ps:Ps} {fu:Nat} (hf:fu < B):(gM mn lz times k K ps (fu,false)).2.1≤fu:=by
  unfold gM;split
  · exact hK k ps fu hf
  · exact bk _
theorem xt {B:Nat} {K:dC} (hK:KP B K) {mn:Int} {lz:Bool} {times k:Nat} {ps:Ps} {fu:Nat} {ou:Bool} (hf:fu < B):(gI mn lz times k K ps (fu,ou)).2.1≤fu:=by
  unfold gI;split
  · rename_i h;cases ou with
    | true => simp at h
    | false => exact hK k ps fu hf
  · exact bk _
theorem rj {r:ie} (hr:RP r) {lo n:Nat} {mn mx:Int} {lz:Bool}:∀(g times k B:Nat) (K:dC),KP B K→∀(ps:Ps) (fu:Nat),fu < B→(cn r lo n mn mx lz g times k K ps (fu,false)).2.1≤fu
  | 0, times, k, B, K, hK, ps, fu, hf => bk _
  | g + 1, times, k, B, K, hK, ps, fu, hf => by
    have h1:=Cv hK (mn:=mn) (lz:=lz) (times:=times) (k:=k) (ps:=ps) hf;have hk:KP B (dD r lo n mn mx lz g times k K):=fun to ps' fu' hf'=>by
      unfold dD;split
      · exact rj hr g (times+1) to B K hK ps' fu' hf'
      · exact bk _
    have h2:(cU r lo n mn mx lz g times k K ps (gM mn lz times k K ps (fu,false)).2).2.1≤(gM mn lz times k K ps (fu,false)).2.1:=hr k B _ hk (cS ps lo n) (gM mn lz times k K ps (fu,false)).2.1 (gM mn lz times k K ps (fu,false)).2.2 (by omega);rw [mf];split
    · exact h1
    · split
      · split
        · exact dA h2 h1
        · have h3:=xt hK (mn:=mn) (lz:=lz) (times:=times) (k:=k) (ps:=ps) (fu:=(cU r lo n mn mx lz g times k K ps (gM mn lz times k K ps (fu,false)).2).2.1) (ou:=(cU r lo n mn mx lz g times k K ps (gM mn lz times k K ps (fu,false)).2).2.2) (by omega);exact dA h3 (dA h2 h1)
      · have h3:=xt hK (mn:=mn) (lz:=lz) (times:=times) (k:=k) (ps:=ps) (fu:=(gM mn lz times k K ps (fu,false)).2.1) (ou:=(gM mn lz times k K ps (fu,false)).2.2) (by omega);exact dA h3 h1
theorem mi {r:ie} (hr:RP r) {lo n:Nat} {mn mx:Int} {lz:Bool} {g times k B:Nat} {K:dC} (hK:KP B K):KP B (dD r lo n mn mx lz g times k K):=fun to ps' fu' hf'=>by
  unfold dD;split
  · exact rj hr g (times+1) to B K hK ps' fu' hf'
  · exact bk _
theorem tH {l:List ie} (h:∀r ∈ l,RP r):RP (sF l):=by
  cases l with
  | nil => exact fun k B K hK ps fu ou hf => bk _
  | cons r l => exact h r (by simp)
theorem rl {E:Env} {lo k B:Nat} {K:dC} (hK:KP B K):KP B (dZ E lo k K):=fun to ps fu hf=>hK to _ fu hf
theorem Af {l:List ie} (h:∀r ∈ l,RP r) {B:Nat} {K:dC} (hK:KP B K):KP B (fun to ps φ=>iM l to K ps φ):=fun to ps fu hf=>wk l h to B K hK ps fu hf
theorem tI {E:Env} {t:Tr} {lo:Nat} {l:List ie} (h:∀r ∈ l,RP r) {k B:Nat} {K:dC} (hK:KP B K) {ps:Ps} {fu:Nat} (hf:fu < B):(jZ E t lo l k K ps (fu,false)).2.1≤fu:=by
  unfold jZ;split
  · exact tH h k B _ (rl hK) ps fu false hf
  · split
    · exact tH h k B K hK ps fu false hf
    · split
      · split
        · exact hK _ ps fu hf
        · exact bk _
      · split
        · exact hK _ ps fu hf
        · exact bk _
theorem xu {E:Env} {t:Tr} {lo n:Nat} {l:List ie} (h:∀r ∈ l,RP r):RP (ik E t lo n l):=fun k B K hK ps fu ou hf=>by
  unfold ik;split
  · exact bk _
  · rename_i ho;have ho:ou=false:=by simpa using ho
    subst ho;split
    · exact wk l h k B K hK ps fu hf
    · split
      · exact Ae l h k B K hK ps fu false hf
      · split
        · exact rj (tH h) _ _ k B K hK ps fu hf
        · split
          · exact dJ _
          · have:=tI (E:=E) (t:=t) (lo:=lo) h hK (k:=k) (ps:=ps) (fu:=fu - 1) (by omega);exact dA this (by show fu - 1≤fu;omega)
theorem nz (E:Env) (p:Pt):RP (bi E p):=by
  induction p using Pt.ind with
  | h p ih =>
    rw [kz];exact xu fun r hr=>by
      obtain ⟨q,hq,rfl⟩:=List.mem_map.1 hr;exact ih q hq
theorem xv (E:Env) (l:List Pt):∀r ∈ l.map (bi E),RP r:=fun r hr=>by
  obtain ⟨q,hq,rfl⟩:=List.mem_map.1 hr;exact nz E q
theorem xw (E:Env) (p:Pt) (hb:lx p.t.k=true) {k B:Nat} {K:dC} (hK:KP B K) {ps:Ps} {fu:Nat} {ou:Bool} (hf:fu < B+1):(bi E p k K ps (fu,ou)).2.1≤fu:=by
  rw [kz];have hk:¬p.t.k=0∧¬p.t.k=1∧¬p.t.k=7:=by
    simp only [lx,aB,aF,ah] at hb;exact ⟨hb.1.1,hb.1.2,hb.2⟩
  unfold ik;rw [if_neg hk.1,if_neg hk.2.1,if_neg hk.2.2];split
  · exact bk _
  · split
    · exact dJ _
    · rename_i h0;have h0:¬fu=0:=h0;have:=tI (E:=E) (t:=p.t) (lo:=p.lo.toNat) (xv E p.ps) hK (k:=k) (ps:=ps) (fu:=fu - 1) (by omega);exact dA this (by show fu - 1≤fu;omega)
theorem xx {l:List ie} (h:l.length=0) (k:Nat) (K:dC) (ps:Ps) (φ:Fl):iM l k K ps φ=K k ps φ:=by
  rw [bQ h];rfl
theorem uR {E:Env} {l:List Pt} (h:¬l.length=0) (k:Nat) (K:dC) (ps:Ps) (φ:Fl):iM (l.map (bi E)) k K ps φ=bi E (nth l 0) k (fun to ps φ=>iM ((l.drop 1).map (bi E)) to K ps φ) ps φ:=by
  cases l with
  | nil => exact absurd rfl h
  | cons q l => rfl
theorem rm {E:Env} {l:List Pt} (h:l.length=1):sF (l.map (bi E))=bi E (nth l 0):=by
  cases l with
  | nil => simp at h
  | cons q l => rfl
theorem Ag {E:Env} {p:Pt} {k:Nat} {K:dC} {ps:Ps} {fu:Nat}:bi E p k K ps (fu,true)=(none,(fu,true)):=by
  rw [kz];unfold ik;rw [if_pos rfl]
theorem Ah {E:Env} {p:Pt} {k:Nat} {K:dC} {ps:Ps} {fu:Nat} (h:p.t.k=0):bi E p k K ps (fu,false)=iM (p.ps.map (bi E)) k K ps (fu,false):=by
  rw [kz];unfold ik;rw [if_neg (by simp),if_pos h]
theorem uS {E:Env} {p:Pt} {k:Nat} {K:dC} {ps:Ps} {fu:Nat} (h:p.t.k=1):bi E p k K ps (fu,false)=jC (p.ps.map (bi E)) k K ps (fu,false):=by
  rw [kz];unfold ik;rw [if_neg (by simp),if_neg (by omega),if_pos h]
theorem Ai {E:Env} {p:Pt} {k:Nat} {K:dC} {ps:Ps} {fu:Nat} (h:p.t.k=7) (hl:p.ps.length=1):bi E p k K ps (fu,false)=cn (bi E (nth p.ps 0)) p.lo.toNat (p.hi - p.lo).toNat p.t.mn p.t.mx p.t.lz (fu+1) 0 k K ps (fu,false):=by
  rw [kz];unfold ik;rw [if_neg (by simp),if_neg (by omega),if_neg (by omega),if_pos h,rm hl]
theorem yu {E:Env} {p:Pt} {k:Nat} {K:dC} {ps:Ps} {fu:Nat} (h0:¬p.t.k=0) (h1:¬p.t.k=1) (h7:¬p.t.k=7) (hf:fu=0):bi E p k K ps (fu,false)=(none,(fu,true)):=by
  subst hf;rw [kz];unfold ik;rw [if_neg (by simp),if_neg h0,if_neg h1,if_neg h7,if_pos rfl]
theorem gE {E:Env} {p:Pt} {k:Nat} {K:dC} {ps:Ps} {fu:Nat} (h0:¬p.t.k=0) (h1:¬p.t.k=1) (h7:¬p.t.k=7) (hf:¬fu=0):bi E p k K ps (fu,false)=jZ E p.t p.lo.toNat (p.ps.map (bi E)) k K ps (fu - 1,false):=by
  rw [kz];unfold ik;rw [if_neg (by simp),if_neg h0,if_neg h1,if_neg h7,if_neg hf]
theorem wl {E:Env} {p:Pt} {k:Nat} {K:dC} {ps:Ps} {φ:Fl} (h:p.t.k=5) (hl:p.ps.length=1):jZ E p.t p.lo.toNat (p.ps.map (bi E)) k K ps φ=bi E (nth p.ps 0) k (dZ E p.lo.toNat k K) ps φ:=by
  unfold jZ;rw [if_pos h,rm hl]
theorem yv {E:Env} {p:Pt} {k:Nat} {K:dC} {ps:Ps} {φ:Fl} (h:p.t.k=6) (hl:p.ps.length=1):jZ E p.t p.lo.toNat (p.ps.map (bi E)) k K ps φ=bi E (nth p.ps 0) k K ps φ:=by
  unfold jZ;rw [if_neg (by omega),if_pos h,rm hl]
theorem jg {E:Env} {t:Tr} {lo:Nat} {l:List ie} {k:Nat} {K:dC} {ps:Ps} {φ:Fl} (h:t.k=2∨t.k=3∨t.k=4):jZ E t lo l k K ps φ=if (decide ((k:Int) < (E.cs.length:Int))&&fI E.fold t (nth E.cs (k:Int)))=true then K (k+1) ps φ else (none,φ):=by
  unfold jZ;rw [if_neg (by omega),if_neg (by omega),if_pos h]
theorem rn {E:Env} {t:Tr} {lo:Nat} {l:List ie} {k:Nat} {K:dC} {ps:Ps} {φ:Fl} (h5:¬t.k=5) (h6:¬t.k=6) (h:¬(t.k=2∨t.k=3∨t.k=4)):jZ E t lo l k K ps φ=if gl E.cs t.k (k:Int)=true then K k ps φ else (none,φ):=by
  unfold jZ;rw [if_neg h5,if_neg h6,if_neg h]
theorem EB {l:List ie} {i k:Nat} {K:dC} {ps:Ps} {φ:Fl} (hi:i < l.length) (h:((l[i]'hi) k K ps φ).1.isSome=false):jC (l.drop i) k K ps φ=jC (l.drop (i+1)) k K ps ((l[i]'hi) k K ps φ).2:=by
  rw [dI hi,jC,if_neg (by rw [h];decide)]
theorem xy {E:Env} {l:List Pt} {i:Nat} (hi:i < (l.map (bi E)).length):(l.map (bi E))[i]'hi=bi E (nth l (i:Int)):=by
  have h1:i < l.length:=by simpa using hi
  rw [ma,mD];simp [List.getD,bD h1]
theorem Aj {E:Env} {l:List Pt} {i k:Nat} {K:dC} {ps:Ps} {φ:Fl} (hi:i < l.length) (h:(bi E (nth l (i:Int)) k K ps φ).1.isSome=false):jC ((l.map (bi E)).drop i) k K ps φ=jC ((l.map (bi E)).drop (i+1)) k K ps (bi E (nth l (i:Int)) k K ps φ).2:=by
  have hi2:i < (l.map (bi E)).length:=by simpa using hi
  rw [←xy hi2] at h ⊢;exact EB hi2 h
theorem Cw {E:Env} {l:List Pt} {i k:Nat} {K:dC} {ps:Ps} {φ:Fl} (hi:i < l.length) (h:(bi E (nth l (i:Int)) k K ps φ).1.isSome=true):jC ((l.map (bi E)).drop i) k K ps φ=bi E (nth l (i:Int)) k K ps φ:=by
  have hi2:i < (l.map (bi E)).length:=by simpa using hi
  rw [←xy hi2] at h ⊢;rw [dI hi2,jC,if_pos h]
theorem Cy {l:List ie} {i k:Nat} {K:dC} {ps:Ps} {φ:Fl} (hi:l.length≤i):jC (l.drop i) k K ps φ=(none,φ):=by
  rw [ex hi];rfl
theorem Ak {ps:Ps} {i:Nat} {x:Int × Int}:(ps.set i x).set i (nth ps (i:Int))=ps:=by
  rw [List.set_set,mD];by_cases h:i < ps.length
  · simp [List.getD,bD h]
  · rw [List.set_eq_of_length_le (by omega)]
theorem sI {ps:Ps} {lo hi:Nat} (h1:lo≤hi) (h2:hi≤ps.length):(cS ps lo (hi - lo)).take lo++(ps.drop lo).take (hi - lo)++(cS ps lo (hi - lo)).drop hi=ps:=by
  have e1:(ps.take lo).length=lo:=by simp;omega
  have e2:(cS ps lo (hi - lo)).take lo=ps.take lo:=by
    unfold cS;rw [fG,jc,e1,mw,List.take_zero,gP,bB (by omega)]
  have e3:(cS ps lo (hi - lo)).drop hi=ps.drop hi:=by
    unfold cS;have e4:(ps.take lo++List.replicate (hi - lo) ((-1:Int),(-1:Int))).length=hi:=by simp;omega
    rw [lX,e4,mw,lc,ex (by omega),gn,show lo+(hi - lo)=hi by omega]
  rw [e2,e3,fG];have e5:(ps.drop lo).take (hi - lo)++ps.drop hi=ps.drop lo:=by
    have:ps.drop hi=(ps.drop lo).drop (hi - lo):=by rw [List.drop_drop];congr 1;omega
    rw [this,fQ]
  rw [e5,fQ]
theorem rq {r:ie} {lo n:Nat} {mn mx:Int} {lz:Bool} {g times k:Nat} {K:dC} {ps:Ps} {φ:Fl} (h:(decide (mn≤(times:Int))&&lz)=true) (hs:(K k ps φ).1.isSome=true):cn r lo n mn mx lz (g+1) times k K ps φ=K k ps φ:=by
  have e:gM mn lz times k K ps φ=K k ps φ:=by unfold gM;rw [if_pos h]
  rw [mf,e,if_pos hs]
def im (r:ie) (lo n:Nat) (mn mx:Int) (lz:Bool) (g times k:Nat) (K:dC) (ps:Ps) (φ:Fl):Rs:=
  if (decide (mx < 0) || decide ((times:Int) < mx))=true then
    if (cU r lo n mn mx lz g times k K ps φ).1.isSome=true then cU r lo n mn mx lz g times k K ps φ
    else gI mn lz times k K ps (cU r lo n mn mx lz g times k K ps φ).2
  else gI mn lz times k K ps φ
theorem iX {r:ie} {lo n:Nat} {mn mx:Int} {lz:Bool} {g times k:Nat} {K:dC} {ps:Ps} {φ:Fl} (h:(decide (mn≤(times:Int))&&lz)=true) (hs:(K k ps φ).1.isSome=false):cn r lo n mn mx lz (g+1) times k K ps φ=im r lo n mn mx lz g times k K ps (K k ps φ).2:=by
  have e:gM mn lz times k K ps φ=K k ps φ:=by unfold gM;rw [if_pos h]
  rw [mf,e,if_neg (by rw [hs];decide)];rfl
theorem gY {r:ie} {lo n:Nat} {mn mx:Int} {lz:Bool} {g times k:Nat} {K:dC} {ps:Ps} {φ:Fl} (h:(decide (mn≤(times:Int))&&lz)=false):cn r lo n mn mx lz (g+1) times k K ps φ=im r lo n mn mx lz g times k K ps φ:=by
  have e:gM mn lz times k K ps φ=(none,φ):=by unfold gM;rw [if_neg (by rw [h];decide)]
  rw [mf,e,if_neg (by simp)];rfl
theorem nA {r:ie} {lo n:Nat} {mn mx:Int} {lz:Bool} {g times k:Nat} {K:dC} {ps:Ps} {φ:Fl} (h:(decide (mx < 0) || decide ((times:Int) < mx))=true) (hs:(cU r lo n mn mx lz g times k K ps φ).1.isSome=true):im r lo n mn mx lz g times k K ps φ=cU r lo n mn mx lz g times k K ps φ:=by
  unfold im;rw [if_pos h,if_pos hs]
theorem jh {r:ie} {lo n:Nat} {mn mx:Int} {lz:Bool} {g times k:Nat} {K:dC} {ps:Ps} {φ:Fl} (h:(decide (mx < 0) || decide ((times:Int) < mx))=true) (hs:(cU r lo n mn mx lz g times k K ps φ).1.isSome=false):im r lo n mn mx lz g times k K ps φ=gI mn lz times k K ps (cU r lo n mn mx lz g times k K ps φ).2:=by
  unfold im;rw [if_pos h,if_neg (by rw [hs];decide)]
theorem nV {r:ie} {lo n:Nat} {mn mx:Int} {lz:Bool} {g times k:Nat} {K:dC} {ps:Ps} {φ:Fl} (h:(decide (mx < 0) || decide ((times:Int) < mx))=false):im r lo n mn mx lz g times k K ps φ=gI mn lz times k K ps φ:=by
  unfold im;rw [if_neg (by rw [h];decide)]
theorem mS {mn:Int} {lz:Bool} {times k:Nat} {K:dC} {ps:Ps} {fu:Nat} {ou:Bool} (h:((decide (mn≤(times:Int))&& !lz)&& !ou)=true):gI mn lz times k K ps (fu,ou)=K k ps (fu,false)∧ou=false:=by
  have ho:ou=false:=by simp at h;exact h.2
  subst ho;unfold gI;rw [if_pos h];exact ⟨rfl,rfl⟩
theorem qy {mn:Int} {lz:Bool} {times k:Nat} {K:dC} {ps:Ps} {fu:Nat} {ou:Bool} (h:((decide (mn≤(times:Int))&& !lz)&& !ou)=false):gI mn lz times k K ps (fu,ou)=(none,(fu,ou)):=by
  unfold gI;rw [if_neg (by rw [show (fu,ou).2=ou from rfl,h];decide)]
end
section
open Go.RowKit Srt
inductive PtT (F:aQ) (w:World):Pt→Prop
  | mk {p : Pt} : TrT F w p.t → SlT vO w p.pv.v p.ps → (p.ps ≠ [] → F (dh p.pv.v).block) → (∀ q ∈ p.ps, PtT F w q) → PtT F w p
section
variable {F F':aQ} {w w':World} {p q:Pt}
theorem PtT.tree (h:PtT F w p):TrT F w p.t:=by cases h;assumption
theorem PtT.sl (h:PtT F w p):SlT vO w p.pv.v p.ps:=by cases h;assumption
theorem PtT.slF (h:PtT F w p):p.ps≠ []→F (dh p.pv.v).block:=by cases h;assumption
theorem PtT.kid (h:PtT F w p) (hq:q ∈ p.ps):PtT F w q:=by cases h;rename_i h1;exact h1 q hq
theorem PtT.keep (h:PtT F w p) {M:Nat→Prop} (he:Ext M w w') (hm:∀g,F g→¬M g):PtT F w' p:=by
  induction h with
  | mk h1 h2 h3 h4 ih => exact .mk (h1.keep he hm) (h2.keep he fun hn => hm _ (h3 hn)) h3 ih
theorem PtT.mono (h:PtT F w p) (hf:∀g,F g→g < w.heap.size→F' g):PtT F' w p:=by
  induction h with
  | mk h1 h2 h3 h4 ih => exact .mk (h1.mono hf) h2 (fun hn => hf _ (h3 hn) (h2.lt hn)) ih
end
def lm (p:Pt):ZP:=⟨fun Z w=>PtT Z w p,fun hz he h=>(PtT.keep h he fun g hg hn=>hn hg).mono fun g hg _=>hz g hg⟩
def sJ (v:Sv) (l:List Pt):ZP:=⟨fun Z w=>(SlT vO w v.v l∧(l≠ []→Z (dh v.v).block))∧∀p ∈ l,PtT Z w p,fun hz he h=>⟨⟨h.1.1.keep he fun hn hm=>hm (h.1.2 hn),fun hn=>hz _ (h.1.2 hn)⟩,fun p hp=>(lm p).st hz he (h.2 p hp)⟩⟩
def cD (p:Addr) (vs:List Value):ZP:=⟨fun Z w=>Z p.block∧∀j u,vs[j]? =some u→w.cell? (p.add j)=some u,fun hz he h=>⟨hz _ h.1,fun j u hu=>he.cell_some (h.2 j u hu) fun hn=>hn (by rw [lf];exact h.1)⟩⟩
section
variable {Z:aQ} {w:World} {p:Pt} {v:Sv} {l:List Pt}
theorem lm.kids (h:(lm p).P Z w):(sJ p.pv p.ps).P Z w:=⟨⟨PtT.sl h,PtT.slF h⟩,fun q hq=>PtT.kid h hq⟩
theorem sJ.at (h:(sJ v l).P Z w) {i:Int} (h0:0≤i) (h1:i < l.length):(lm (nth l i)).P Z w:=h.2 _ (cG h0 h1)
theorem sJ.tail {n:Nat} (h:(sJ v l).P Z w) (hn:n≤l.length) {u:Sv} (hu:u.v=gk v.v n l.length 11):(sJ u (l.drop n)).P Z w:=by
  have hs:=SlT.sub h.1.1 (lo:=n) (hi:=l.length) hn (bk _);rw [bB (by simp)] at hs;refine ⟨⟨?_,fun hne=> ?_⟩,fun q hq=>h.2 q (iP hq)⟩
  · rw [hu];exact hs
  · have hl:l≠ []:=by rintro rfl;simp at hne
    have hb:(dh (gk v.v n l.length 11)).block=(dh v.v).block:=by
      rcases h.1.1.sl with ⟨e,hl0⟩ | ⟨b,cap,e,h1,h2⟩
      · exact absurd (bQ hl0) hl
      · rw [e];simp only [gk];split <;> simp [dh,lf]
    rw [hu,hb];exact h.1.2 hl
end
inductive OkP (m:Nat):Pt→Prop
  | mk {p : Pt} : (0 ≤ p.lo ∧ p.lo ≤ p.hi ∧ p.hi ≤ (m : Int)) → (p.t.k = 5 → p.lo < p.hi) → (p.t.k = 5 ∨ p.t.k = 6 ∨ p.t.k = 7 → p.ps.length = 1) → (p.t.k = 7 → lx (nth p.ps 0).t.k = true) → fC p.t ≤ 1000000 → p.ps.length ≤ 1000000 → (∀ q ∈ p.ps, OkP m q) → OkP m p
theorem OkP.kid {m:Nat} {p q:Pt} (h:OkP m p) (hq:q ∈ p.ps):OkP m q:=by cases h;rename_i h1;exact h1 q hq
theorem OkP.facts {m:Nat} {p:Pt} (h:OkP m p):(0≤p.lo∧p.lo≤p.hi∧p.hi≤(m:Int))∧(p.t.k=5→p.lo < p.hi)∧(p.t.k=5∨p.t.k=6∨p.t.k=7→p.ps.length=1)∧(p.t.k=7→lx (nth p.ps 0).t.k=true)∧fC p.t≤1000000∧p.ps.length≤1000000:=by
  cases h;rename_i h1 h2 h3 h4 h5 h6 h7;exact ⟨h1,h2,h3,h4,h5,h6⟩
structure Cfg where
  rt:Nat
  st:Nat
  it:Nat
  g:Nat
  top:Pt
  E:Env
  cv:Sv
  lv:Sv
  pv:Sv
  m:Nat
def Cfg.ad (C:Cfg):Addr:=⟨C.g,0,none⟩
def Cfg.rv (C:Cfg):Value:= .pointer (some C.ad)
def Cfg.cells (C:Cfg) (fu:Nat) (ou:Bool):List Value:=vO.cells C.top++ [.bool C.E.fold,C.cv.v,C.lv.v,C.pv.v,.int .i64 (fu:Int),.bool ou]
structure Cfg.Ok (C:Cfg):Prop where
  pg:∀b,C.pv.v.ownBlock=some b→b≠C.g
  pl:C.E.pl.length=C.E.cs.length+1
  cl:C.E.cs.length≤1000000
  ml:C.m≤1000000
  cz:∀x ∈ C.E.cs,x.size≤1000000
structure RunB (C:Cfg) (ps:Ps) (fu:Nat) (ou:Bool) (Z T:aQ) (w:World):Prop where
  ok:C.Ok
  len:ps.length=C.m
  lt:C.g < w.heap.size
  own:T C.g
  at':w.heap[C.g]? =some (.cells (C.cells fu ou).toArray C.rt (0,0))
  parts:dM bX C.st ps T C.pv.v w
  chars:(dE fi Al C.cv.v C.E.cs).P Z w
  places:(dE gb Al C.lv.v C.E.pl).P Z w
section
variable {C:Cfg} {ps ps':Ps} {fu fu':Nat} {ou ou':Bool} {tv tv':Int} {tb:Option Nat} {Z Z' T T' N:aQ} {w w':World}
theorem RunB.mono (h:RunB C ps fu ou Z T w) (hZ:∀g,Z g→Z' g) (hT:∀g,T g→T' g):RunB C ps fu ou Z' T' w:=
  ⟨h.ok,h.len,h.lt,hT _ h.own,h.at',⟨h.parts.1,fun g hg=>hT _ (h.parts.2 g hg)⟩,⟨h.chars.1,fun hn=>⟨hZ _ (h.chars.2 hn).1,ax⟩⟩,⟨h.places.1,fun hn=>⟨hZ _ (h.places.2 hn).1,ax⟩⟩⟩
theorem RunB.loc (hz:∀g,Z g→Z' g) (he:Ext (fun g=>N g∧¬T g∧¬Z g) w w') (h:RunB C ps fu ou Z T w):RunB C ps fu ou Z' T w':=
  ⟨h.ok,h.len,cJ h.lt he.size,h.own,by rw [he.block _ h.lt fun hn=>hn.2.1 h.own];exact h.at',jV (N:=N) T _ w w' he.less h.parts,
    (dE fi Al C.cv.v C.E.cs).st hz (he.mono fun _ _ h=>h.2.2) h.chars,(dE gb Al C.lv.v C.E.pl).st hz (he.mono fun _ _ h=>h.2.2) h.places⟩
theorem RunB.cell (h:RunB C ps fu ou Z T w) {j:Nat} {u:Value} (hu:(C.cells fu ou)[j]? =some u):w.cell? (C.ad.add j)=some u:=by
  have hb:cd C.rt (C.cells fu ou) T C.rv w:=⟨C.g,rfl,h.lt,h.own,h.at'⟩;exact hb.cell hu
theorem RunB.sl (h:RunB C ps fu ou Z T w):SlT bX w C.pv.v ps:=h.parts.1.sl
structure RunR (C:Cfg) (tb:Option Nat) (ps:Ps) (fu:Nat) (ou:Bool) (tv:Int) (Z T:aQ) (w:World):Prop where
  b:RunB C ps fu ou Z T w
  to:∀q,tb=some q→cd C.it [.int .i64 tv] T (.pointer (some ⟨q,0,none⟩)) w
  tg:∀q,tb=some q→q≠C.g∧∀b,C.pv.v.ownBlock=some b→b≠q
theorem RunR.mono (h:RunR C tb ps fu ou tv Z T w) (hZ:∀g,Z g→Z' g) (hT:∀g,T g→T' g):RunR C tb ps fu ou tv Z' T' w:=
  ⟨h.b.mono hZ hT,fun q hq=>by obtain ⟨g,e,h1,h2,h3⟩:=h.to q hq;exact ⟨g,e,h1,hT _ h2,h3⟩,h.tg⟩
theorem RunR.loc (hz:∀g,Z g→Z' g) (he:Ext (fun g=>N g∧¬T g∧¬Z g) w w') (h:RunR C tb ps fu ou tv Z T w):RunR C tb ps fu ou tv Z' T w':=
  ⟨h.b.loc hz he,fun q hq=>kD (N:=N) T _ w w' he.less (h.to q hq),h.tg⟩
theorem RunR.cell (h:RunR C tb ps fu ou tv Z T w) {j:Nat} {u:Value} (hu:(C.cells fu ou)[j]? =some u):w.cell? (C.ad.add j)=some u:=h.b.cell hu
theorem RunR.sl (h:RunR C tb ps fu ou tv Z T w):SlT bX w C.pv.v ps:=h.b.sl
def Td (C:Cfg) (tb:Option Nat):aQ:=fun b=>b=C.g∨C.pv.v.ownBlock=some b∨tb=some b
theorem RunB.r (h:RunB C ps fu ou Z T w):RunR C none ps fu ou tv Z T w:=⟨h,fun _ hq=>(by cases hq),fun _ hq=>(by cases hq)⟩
def Fr (C:Cfg) (tb:Option Nat) (w:World):aQ:=fun b=>b < w.heap.size∧¬Td C tb b
def gN (C:Cfg) (tb:Option Nat) (ps:Ps) (fu:Nat) (ou:Bool) (tv:Int) (w:World):Prop:=RunR C tb ps fu ou tv (Fr C tb w) (Td C tb) w
theorem RunR.td (h:RunR C tb ps fu ou tv Z T w):∀b,Td C tb b→T b:=by
  rintro b (rfl | hb | hb)
  · exact h.b.own
  · exact h.b.parts.2 _ hb
  · obtain ⟨g,e,_,hT,_⟩:=h.to b hb;simp at e;rw [e];exact hT
theorem RunR.tdlt (h:RunR C tb ps fu ou tv Z T w):∀b,Td C tb b→b < w.heap.size:=by
  rintro b (rfl | hb | hb)
  · exact h.b.lt
  · exact h.b.parts.1.lt _ hb
  · obtain ⟨g,e,hl,_,_⟩:=h.to b hb;simp at e;omega
theorem RunR.d (h:RunR C tb ps fu ou tv Z T w) (hd:∀g,T g→¬Z g) (hl:∀g,Z g→g < w.heap.size):gN C tb ps fu ou tv w:=by
  have hZ:∀g,Z g→Fr C tb w g:=fun g hg=>⟨hl g hg,fun ht=>hd _ (h.td _ ht) hg⟩;obtain ⟨⟨h1,h2,h3,h4,h5,h6,h7,h8⟩,h9,h10⟩:=h;refine ⟨⟨h1,h2,h3,.inl rfl,h5,⟨h6.1,fun g hg=> .inr (.inl hg)⟩,⟨h7.1,fun hn=>⟨hZ _ (h7.2 hn).1,ax⟩⟩,⟨h8.1,fun hn=>⟨hZ _ (h8.2 hn).1,ax⟩⟩⟩,fun q hq=> ?_,h10⟩;obtain ⟨g,e,k1,k2,k3⟩:=h9 q hq;exact ⟨g,e,k1,by simp at e;exact .inr (.inr (e ▸ hq)),k3⟩
theorem RunR.fr (h:RunR C tb ps fu ou tv Z T w) (hd:∀g,T g→¬Z g) (hl:∀g,Z g→g < w.heap.size) {Φ:ZP} (hz:Φ.P Z w):Φ.P (Fr C tb w) w:=
  Φ.st (fun g hg=>⟨hl g hg,fun ht=>hd _ (h.td _ ht) hg⟩) (Ext.refl _ w) hz
theorem gN.back (h':gN C tb ps' fu' ou' tv' w') (h:RunR C tb ps fu ou tv Z T w) (hx:Ext (Td C tb) w w') (hd:∀g,T g→¬Z g) (hZ:∀g,Z g→Z' g):RunR C tb ps' fu' ou' tv' Z' T w':=by
  have hm:Ext (fun g=>¬Z g) w w':=hx.mono fun g _ hg hz=>hd _ (h.td _ hg) hz;obtain ⟨⟨h1,h2,h3,h4,h5,h6,h7,h8⟩,h9,h10⟩:=h';refine ⟨⟨h1,h2,h3,h.b.own,h5,⟨h6.1,h.b.parts.2⟩,(dE fi Al C.cv.v C.E.cs).st hZ hm h.b.chars,(dE gb Al C.lv.v C.E.pl).st hZ hm h.b.places⟩,fun q hq=> ?_,h10⟩;obtain ⟨g,e,k1,k2,k3⟩:=h9 q hq;obtain ⟨g',e',j1,j2,j3⟩:=h.to q hq;refine ⟨g,e,k1,?_,k3⟩;simp at e e';rw [←e,e'];exact j2
end
section
variable {N:aQ}
def jl (N:aQ) (tag t:Nat) (C:Cfg) (tb:Option Nat) (ps:Ps) (fu:Nat) (ou:Bool) (tv:Int) (v:Value):Spec N:=⟨some tag,t,fun Z T u w=>u=v∧RunR C tb ps fu ou tv Z T w,fun Z Z' T u w w' hz he h=>⟨h.1,RunR.loc hz he h.2⟩,fun u=>u=v,fun _ _ _ _ h=>h.1⟩
def ln (N:aQ) (tag t:Nat) (C:Cfg) (tb:Option Nat) (ps:Ps) (fu:Nat) (ou:Bool) (tv:Int):Spec N:=⟨some tag,t,fun Z T u w=>RunR C tb ps fu ou tv Z T w,fun Z Z' T u w w' hz he h=>RunR.loc hz he h,fun _=>True,fun _ _ _ _ _=>trivial⟩
def Cz (N:aQ) (C:Cfg) (tb:Option Nat) (ps:Ps) (fu:Nat) (ou:Bool) (tv:Int):Ini N:=⟨fun Z T w=>RunR C tb ps fu ou tv Z T w,fun Z Z' T w w' hz he h=>RunR.loc hz he h⟩
abbrev ir {N:aQ} {C:Cfg} {tb:Option Nat} {ps:Ps} {fu:Nat} {ou:Bool} {tv:Int} {Z T:aQ} {w:World} (_:RunR C tb ps fu ou tv Z T w):Ini N:=Cz N C tb ps fu ou tv
end
theorem wm {τ:Nat→aQ} {w:World}:∀g,eW τ w g→g < w.heap.size:=fun _ h=>h.1
theorem kj {τ:Nat→aQ} {w:World} {t:Nat}:∀g,τ t g→¬eW τ w g:=fun g h hz=>hz.2 _ h
theorem js {τ:Nat→aQ} {w w':World} (h:w.heap.size≤w'.heap.size):∀g,eW τ w g→eW τ w' g:=fun _ hz=>⟨cJ hz.1 h,hz.2⟩
section
variable {N:aQ} {P:Program} {ops:Array Oper} {sp:List (Spec N)} {In:Nat→Ini N} {a0:Act} {w0:World} {bf:List Nat} {j:Nat} {o:Oper} {s:Spec N} {done:Nat→Bool} {a:Act} {w:World} {τ:Nat→aQ} {C:Cfg} {tb:Option Nat} {ps ps':Ps} {fu fu':Nat} {ou ou':Bool} {tv tv':Int}
theorem Cx.ir (c:Cx ops sp In a0 w0 bf j o done a w τ) (t:Nat) (hI:In t=Cz N C tb ps fu ou tv) (hl:bE (sp.map (·.tag)) t j=none:=by exact rfl) (hord:jA (sp.map (·.tag)) bf t j=true:=by kernel_rfl):RunR C tb ps fu ou tv (eW τ w) (τ t) w:=c.ini t _ hI hl hord
theorem Cx.rr {t slot:Nat} {v:Value} (c:Cx ops sp In a0 w0 bf j o done a w τ) (i:Nat) (hs:sp[i]? =some (jl N t slot C tb ps fu ou tv v)) (hl:bE (sp.map (·.tag)) t j=some i:=by exact rfl) (hord:jA (sp.map (·.tag)) bf t j=true:=by kernel_rfl):RunR C tb ps fu ou tv (eW τ w) (τ t) w:=(c.res i t _ hs hl hord).2
theorem Cx.rv {t slot:Nat} {v:Value} (c:Cx ops sp In a0 w0 bf j o done a w τ) (i:Nat) (hs:sp[i]? =some (jl N t slot C tb ps fu ou tv v)) (hb:(bf.getD j 0).testBit i=true:=by exact rfl):a.eval (.tmp slot)=v:=c.J.pur i _ hs (c.pre i hb)
theorem iC {tag t:Nat} {v:Value} (h:∀{done a w τ},Cx ops sp In a0 w0 bf j o done a w τ→∃g args,fv P a o w g args∧Calls P g args w (fun e w'=>e= .returned v∧Ext (τ tag) w w'∧RunR C tb ps fu ou tv (eW τ w') (τ tag) w'))
    (hs:s=jl N tag t C tb ps fu ou tv v:=by exact rfl) (hg:o.guard=none:=by exact rfl) (hd:o.dst=some t:=by exact rfl):Ob ops sp In a0 w0 P bf j o s:=by
  subst hs;refine jq (tag:=tag) hg rfl fun done a w τ c=> ?_;obtain ⟨g,args,h1,h2⟩:=h c;refine ⟨g,args,h1,h2.mono fun e w' ⟨he,hx,hb⟩=>⟨v,he,hx,τ tag,fun g h=> .inl h,?_,hb.mono (ky fun _ h=>h) fun _ h=>h⟩⟩;show aU (a.put o.dst v) t=v;rw [hd,dm a t t _ (c.lt t hd),if_pos rfl]
theorem wn {tag t:Nat} (h:∀{done a w τ},Cx ops sp In a0 w0 bf j o done a w τ→∃g args v,fv P a o w g args∧Calls P g args w (fun e w'=>e= .returned v∧Ext (τ tag) w w'∧RunR C tb ps fu ou tv (eW τ w') (τ tag) w'))
    (hs:s=ln N tag t C tb ps fu ou tv:=by exact rfl) (hg:o.guard=none:=by exact rfl):Ob ops sp In a0 w0 P bf j o s:=by
  subst hs;refine jq (tag:=tag) hg rfl fun done a w τ c=> ?_;obtain ⟨g,args,v,h1,h2⟩:=h c;exact ⟨g,args,h1,h2.mono fun e w' ⟨he,hx,hb⟩=>⟨v,he,hx,τ tag,fun g h=> .inl h,hb.mono (ky fun _ h=>h) fun _ h=>h⟩⟩
theorem lJ {tag t tt off:Nat} {x y:Operand} {v:Value} (hs:s=ln N tag t C tb ps fu' ou' tv) (hg:o.guard=none) (hd:o.dst=none) (ho:o.op= .store tt x y) (hsz:∀w,(sizeOf tt).run P w= .ok 1 w)
    (hv:v.cells=#[v]) (h1:v.oneCell'=true) (hfit:off+1≤17) (hc:C.cells fu' ou'=(C.cells fu ou).take off++ [v]++(C.cells fu ou).drop (off+1))
    (hp:∀{done a w τ},Cx ops sp In a0 w0 bf j o done a w τ→RunR C tb ps fu ou tv (eW τ w) (τ tag) w∧a.eval x= .pointer (some (C.ad.add off))∧a.eval y=v):Ob ops sp In a0 w0 P bf j o s:=by
  subst hs;refine ei hg rfl fun done a w τ c=> ?_;obtain ⟨hR,hx,hy⟩:=hp c;have hr:=run_store (P:=P) (t:=tt) (v:=v) (off:=off) hR.b.at' (by rw [hv];exact hsz) (by rw [hv];simpa [Cfg.cells,vO] using hfit) (by rw [hv];simpa using h1);rw [hv] at hr;have hr':(execOp a.eval o).run P w= .ok .skip (w.setRow C.g (C.cells fu' ou').toArray):=by
    simp only [execOp,ho,hx,hy,Sem.run_bind];have e:C.ad.add off=⟨C.g,off,none⟩:=lC C.g off;rw [e,hr,hc];rfl
  have hext:=iv w C.g (C.cells fu' ou').toArray;refine iw hr' ⟨_,rfl,hext.mono fun k _ hk=>by subst hk;exact hR.b.own,τ tag,fun g h=> .inl h,?_⟩;have hm:Ext (fun g=>¬eW τ w g) w (w.setRow C.g (C.cells fu' ou').toArray):=hext.mono fun k _ hk=>by subst hk;exact kj _ hR.b.own
  have hsz2:w.heap.size≤(w.setRow C.g (C.cells fu' ou').toArray).heap.size:=hext.size;have hzz:∀g,eW τ w g→eW (nd τ tag (τ tag)) (w.setRow C.g (C.cells fu' ou').toArray) g:=fun g hz=>ky (fun _ h=>h) g (js hsz2 g hz);obtain ⟨⟨k1,k2,k3,k4,k5,k6,k7,k8⟩,k9,k10⟩:=hR;refine ⟨⟨k1,k2,by simpa [World.setRow] using k3,k4,?_,⟨iS.keep k6.1 hext fun g hg he=>k1.pg g hg he,k6.2⟩,(dE fi Al C.cv.v C.E.cs).st hzz hm k7,(dE gb Al C.lv.v C.E.pl).st hzz hm k8⟩,fun q hq=> ?_,k10⟩
  · exact setRow_heap w C.g _ _ C.rt _ k5
  · obtain ⟨g,e,l1,l2,l3⟩:=k9 q hq;refine ⟨g,e,cJ l1 hsz2,l2,?_⟩;rw [hext.block g l1 (by simp at e;intro he;exact (k10 q hq).1 (by rw [e,he]))];exact l3
end
section
variable {N:aQ} {l:List Oper} {sp:List (Spec N)} {il:List (Ini N)} {a0 a:Act} {w:World} {τ:Nat→aQ} {C:Cfg} {tb:Option Nat} {ps:Ps} {fu:Nat} {ou:Bool} {tv:Int}
theorem Fin.ir (h:Fin l sp il a0 a w τ) (t:Nat) (hI:eD il t=Cz N C tb ps fu ou tv) (hl:bE (sp.map (·.tag)) t sp.length=none:=by exact rfl):RunR C tb ps fu ou tv (eW τ w) (τ t) w:=by
  have:=h.ini t hl;rw [hI] at this;exact this
theorem Fin.rv {t slot:Nat} {v:Value} (h:Fin l sp il a0 a w τ) (j:Nat) (hs:sp[j]? =some (jl N t slot C tb ps fu ou tv v)) (hl:bE (sp.map (·.tag)) t sp.length=some j:=by exact rfl):aU a slot=v:=(h.res j t _ hs rfl hl).1
theorem Fin.rr {t slot:Nat} {v:Value} (h:Fin l sp il a0 a w τ) (j:Nat) (hs:sp[j]? =some (jl N t slot C tb ps fu ou tv v)) (hl:bE (sp.map (·.tag)) t sp.length=some j:=by exact rfl):RunR C tb ps fu ou tv (eW τ w) (τ t) w:=(h.res j t _ hs rfl hl).2
theorem Fin.r0 {t slot:Nat} (h:Fin l sp il a0 a w τ) (j:Nat) (hs:sp[j]? =some (ln N t slot C tb ps fu ou tv)) (hl:bE (sp.map (·.tag)) t sp.length=some j:=by exact rfl):RunR C tb ps fu ou tv (eW τ w) (τ t) w:=h.res j t _ hs rfl hl
end
end
section
open Go.RowKit
abbrev jr {N:aQ} {τ:Nat→aQ} {w:World} {C:Cfg} {tb:Option Nat} {ps:Ps} {fu t:Nat} {ou:Bool} {tv:Int} (h:RunR C tb ps fu ou tv (eW τ w) (τ t) w):IE N τ w:=⟨Cz N C tb ps fu ou tv,t,h⟩
end
section
open Go.RowKit Srt
section
variable {P:Program} {a:Act} {o:Oper} {w:World}
theorem EC {x x1:Operand} {ts:Array TypeId} {v1:Value} {f:FuncId} {caps:Array Value} (ho:o.op= .call { callee:= .value x,args:=#[x1],argTypes:=ts }) (hx:a.eval x= .func (.func f) #[] caps) (hcall:∀args w,(callFunc f args).run P w= .ok (.enter f args) w) (h1:a.eval x1=v1):fv P a o w f (#[v1]++caps):=
  mC ho hx hcall (by simp [h1])
theorem qf {f:FuncId} {x1 x2 x3 x4 x5:Operand} {v1 v2 v3 v4 v5:Value} (ho:o.op= .makeFunc (.func f) #[] #[x1,x2,x3,x4,x5]) (h1:a.eval x1=v1) (h2:a.eval x2=v2) (h3:a.eval x3=v3) (h4:a.eval x4=v4) (h5:a.eval x5=v5):ck P a o w (.func (.func f) #[] #[v1,v2,v3,v4,v5]):=by
  subst h1 h2 h3 h4 h5;simp [ck,execOp,ho,Instr.makeFunc]
theorem wo {t e:TypeId} {x y:Operand} {v:Value} {n m lo hi i:Nat} {k:IntKind} (ho:o.op= .indexAddr t x y) (ht:P.underlying t=some (.slice e)) (hz:∀w,(sizeOf e).run P w= .ok m w) (hx:a.eval x=gk v lo hi m) (hv:mB v n) (hy:a.eval y= .int k (i:Int)) (h1:lo+i < hi) (h2:hi≤n):
    ck P a o w (.pointer (some ((dh v).add ((lo+i) * m)))):=by
  rcases hv with ⟨_,rfl⟩ | ⟨b,cap,rfl,hc,_⟩
  · omega
  · have hne:¬cap=lo:=by omega
    have h3:(i:Int) < ((hi - lo:Nat):Int):=by omega
    have h0:(0:Int)≤(i:Int):=by omega
    have e2:gk (.slice (some b) n cap) lo hi m= .slice (some (b.add (lo * m))) (hi - lo) (cap - lo):=by simp [gk,hne]
    rw [e2] at hx;have hq:=aK (w:=w) (n:=hi - lo) ho ht hz hx (.inr ⟨_,_,rfl,by omega,by omega⟩) hy h0 h3;have e3:dh (.slice (some (b.add (lo * m))) (hi - lo) (cap - lo))=b.add (lo * m):=rfl;rw [e3,add_add,iK,←fM] at hq;exact hq
theorem sK {v:Value} {n lo hi m:Nat} (hv:mB v n) (h1:lo≤hi) (h2:hi≤n):mB (gk v lo hi m) (hi - lo):=by
  rcases hv with ⟨rfl,rfl⟩ | ⟨b,cap,rfl,hc,hm⟩
  · left;simp [gk];omega
  · right;exact ⟨if cap=lo then b else b.add (lo * m),cap - lo,by simp only [gk];split <;> rfl,by omega,by omega⟩
theorem sL {dT sT ty elem:TypeId} {g o' dLen dCap:Nat} {sa:Option Addr} {sLen sCap m:Nat} {cur:Array Value} {t:TypeId} {cs:List Value}
    (hu:P.underlying dT=some (.slice elem)) (hs:(P.info? elem).map (·.size)=some m)
    (hg:w.heap[g]? =some (.cells cur t (0,0))) (hn:cs.length=Nat.min sLen dLen * m)
    (hsrc:∀ad,sa=some ad→∀j v,cs[j]? =some v→w.cell? (ad.add j)=some v) (hsn:sa=none→cs=[]) (hfit:o'+cs.length≤cur.size) (h1:∀v ∈ cs,v.oneCell'=true):
    (Builtin.copy_ #[dT,sT] ty #[.slice (some ⟨g,o',none⟩) dLen dCap,.slice sa sLen sCap]).run P w=
      .ok (goInt (Nat.min sLen dLen)) (w.setRow g (cur.toList.take o'++cs++cur.toList.drop (o'+cs.length)).toArray):=by
  have hst:=run_storeCells_at P g o' t cs 0 cur w hg (by simpa using hfit) h1;cases hq:P.info? elem with
  | none => simp [hq] at hs
  | some i =>
    have hi:i.size=m:=by simpa [hq] using hs
    cases sa with
    | none =>
      have hc:=hsn rfl;subst hc;simp only [kO] at hst;simp [Builtin.copy_,run_underlying hu,Builtin.lenOf,Builtin.firstCells,sizeOf,typeInfo,hq,hi,hst]
    | some ad =>
      have hl:=run_loadCells_list (P:=P) w ad cs (hsrc ad rfl);rw [hn] at hl;simp only [kO] at hst;simp [Builtin.copy_,run_underlying hu,Builtin.lenOf,Builtin.firstCells,sizeOf,typeInfo,hq,hi,hl,hst]
end
section
variable {α:Type} {E:Enc α} {ty:Nat} {P:Program} {w:World}
theorem qg {dT sT rt elem:TypeId} {v u:Value} {xs ys:List α} {lo hi:Nat} (h:iS E ty w v xs) (hu:SlT E w u ys) (hdT:P.underlying dT=some (.slice elem)) (hsz:(P.info? elem).map (·.size)=some E.sz)
    (h1:lo≤hi) (h2:hi≤xs.length) (hl:ys.length=hi - lo):
    ∃w',(Builtin.copy_ #[dT,sT] rt #[gk v lo hi E.sz,u]).run P w= .ok (goInt ys.length) w'∧iS E ty w' v (xs.take lo++ys++xs.drop hi)∧Ext (fun k=>v.ownBlock=some k) w w':=by
  have hpos:=E.pos;have hxl:(xs.take lo++ys++xs.drop hi).length=xs.length:=by simp;omega
  rcases h.2 with ⟨rfl,h0⟩ | ⟨g,cap,cur,rfl,hb,hg,g2,g3,g4,g5⟩
  · obtain rfl:hi=0:=by omega
    obtain rfl:lo=0:=by omega
    have hy:ys=[]:=bQ (by omega);have hx:xs=[]:=bQ (by omega);subst hy;subst hx;refine ⟨w,?_,by simpa using h,Ext.refl _ _⟩;cases hq:P.info? elem with
    | none => simp [hq] at hsz
    | some i =>
      rcases hu.sl with ⟨rfl,_⟩ | ⟨b,cap,rfl,_⟩
      · simp [gk,Builtin.copy_,run_underlying hdT,Builtin.lenOf,Builtin.firstCells,sizeOf,typeInfo,hq]
      · have hl0:(loadCells b 0).run P w= .ok #[] w:=by simpa using run_loadCells_list (P:=P) w b [] (by simp)
        simp [gk,Builtin.copy_,run_underlying hdT,Builtin.lenOf,Builtin.firstCells,sizeOf,typeInfo,hq,hl0]
  · have hcs:(E.row ys).length=ys.length * E.sz:=E.row_length _;have hm1:hi * E.sz≤xs.length * E.sz:=gS _ h2;have hm2:xs.length * E.sz≤cap * E.sz:=gS _ g2;have hm3:lo * E.sz+ys.length * E.sz=hi * E.sz:=by rw [←fM];congr 1;omega
    obtain ⟨sa,sCap,hue,hsa,hsn⟩:∃sa sCap,u= .slice sa ys.length sCap∧(∀ad,sa=some ad→∀j x,(E.row ys)[j]? =some x→w.cell? (ad.add j)=some x)∧(sa=none→E.row ys=[]):=by
      rcases hu.sl with ⟨e,h0⟩ | ⟨b,cap2,e,_⟩
      · refine ⟨none,0,by rw [e,h0],fun _ h=>(by cases h),fun _=> ?_⟩;rw [bQ h0];rfl
      · refine ⟨some b,cap2,e,fun ad h j x hj=> ?_,fun h=>by cases h⟩;cases h
        have:=hu.cell j x hj;rw [e] at this;exact this
    subst hue;by_cases hc:cap=lo
    · obtain rfl:hi=lo:=by omega
      have hy:ys=[]:=bQ (by omega);subst hy;have hr:=sL (P:=P) (sT:=sT) (ty:=rt) (o':=0) (dLen:=0) (dCap:=0) (sa:=sa) (sLen:=0) (sCap:=sCap) (cs:=[]) hdT hsz hg (by simp) (fun _ _ j v hj=>by simp at hj) (fun _=>rfl) (by simp) (by simp);have hw:w.setRow g (cur.toList.take 0++ []++cur.toList.drop (0+([]:List Value).length)).toArray=w:=by
        simp only [List.take_zero,gn,bZ,kO,lc,Array.toArray_toList];exact setRow_self w g cur ty (0,0) hg
      rw [hw] at hr;refine ⟨w,?_,by simpa using h,Ext.refl _ _⟩;have e2:gk (.slice (some ⟨g,0,none⟩) xs.length cap) hi hi E.sz= .slice (some ⟨g,0,none⟩) 0 0:=by simp [gk,hc]
      rw [e2];simpa using hr
    · have e2:gk (.slice (some ⟨g,0,none⟩) xs.length cap) lo hi E.sz= .slice (some ⟨g,lo * E.sz,none⟩) (hi - lo) (cap - lo):=by
        simp [gk,hc,lC]
      have hmin:Nat.min ys.length (hi - lo)=ys.length:=by rw [hl];exact Nat.min_self _
      have hr:=sL (P:=P) (sT:=sT) (ty:=rt) (o':=lo * E.sz) (dLen:=hi - lo) (dCap:=cap - lo) (sa:=sa) (sLen:=ys.length) (sCap:=sCap) (cs:=E.row ys) hdT hsz hg (by rw [hmin,hcs]) hsa hsn (by rw [hcs];omega) E.row_one;rw [hmin] at hr;rw [e2];refine ⟨_,hr,⟨by rw [E.row_length],.inr ⟨g,cap,_,by rw [hxl],hb,setRow_heap w g cur _ ty _ hg,by rw [hxl];exact g2,g3,?_,?_⟩⟩,(iv w g _).mono fun k _ h=>by rw [h];rfl⟩
      · simp only [jO,bY,dt,ed,fc,hcs];omega
      · rw [hxl];have e3:E.row (xs.take lo++ys++xs.drop hi)=(E.row xs).take (lo * E.sz)++E.row ys++(E.row xs).drop (hi * E.sz):=by
          rw [E.row_append,E.row_append,E.row_take,E.row_drop]
        rw [e3,←g5,List.take_take,List.drop_take,hcs,hm3];have e4:min (lo * E.sz) (xs.length * E.sz)=lo * E.sz:=by omega
        rw [e4];have hA:(cur.toList.take (lo * E.sz)++E.row ys).length=hi * E.sz:=by simp [hcs];omega
        show (cur.toList.take (lo * E.sz)++E.row ys++cur.toList.drop (hi * E.sz)).take (xs.length * E.sz)=_;rw [jc,hA,bB (by omega)]
end
section
variable {C:Cfg} {ps ps':Ps} {fu:Nat} {ou:Bool} {tv:Int} {tb:Option Nat} {Z Z' T:aQ} {w w':World}
theorem RunB.turn (h:RunB C ps fu ou Z T w) (hx:Ext (fun k=>C.pv.v.ownBlock=some k) w w') (ho:iS bX C.st w' C.pv.v ps') (hl:ps'.length=ps.length) (hZ:∀g,Z g→Z' g) (hd:∀g,T g→¬Z g):RunB C ps' fu ou Z' T w':=by
  have hm:Ext (fun g=>¬Z g) w w':=hx.mono fun g _ hg hz=>hd _ (h.parts.2 g hg) hz;obtain ⟨k1,k2,k3,k4,k5,k6,k7,k8⟩:=h;refine ⟨k1,hl.trans k2,cJ k3 hx.size,k4,?_,⟨ho,k6.2⟩,(dE fi Al C.cv.v C.E.cs).st hZ hm k7,(dE gb Al C.lv.v C.E.pl).st hZ hm k8⟩;rw [hx.block C.g k3 fun hb=>k1.pg _ hb rfl];exact k5
theorem RunR.turn (h:RunR C tb ps fu ou tv Z T w) (hx:Ext (fun k=>C.pv.v.ownBlock=some k) w w') (ho:iS bX C.st w' C.pv.v ps') (hl:ps'.length=ps.length) (hZ:∀g,Z g→Z' g) (hd:∀g,T g→¬Z g):RunR C tb ps' fu ou tv Z' T w':=by
  refine ⟨h.b.turn hx ho hl hZ hd,fun q hq=> ?_,h.tg⟩;obtain ⟨g,e,l1,l2,l3⟩:=h.to q hq;refine ⟨g,e,cJ l1 hx.size,l2,?_⟩;rw [hx.block g l1 fun hb=>(h.tg q hq).2 _ hb (by simp at e;exact e.symm)];exact l3
theorem fK {ps:Ps} {lo n:Nat} (h:lo+n≤ps.length):(cS ps lo n).length=ps.length:=by
  simp [cS];omega
end
section
variable {N:aQ} {P:Program} {ops:Array Oper} {sp:List (Spec N)} {In:Nat→Ini N} {a0:Act} {w0:World} {bf:List Nat} {j:Nat} {o:Oper} {s:Spec N} {done:Nat→Bool} {a:Act} {w:World} {τ:Nat→aQ} {C:Cfg} {tb:Option Nat} {ps ps':Ps} {fu fu':Nat} {ou ou':Bool} {tv tv':Int} {pc:Prop}
theorem eP {ty t:Nat} {cells:List Value} {x:Operand} {v:Value} (hgd:uC ops sp bf j o pc) (ho:o.op= .box ty x) (hc:v.cells=cells.toArray)
    (h:∀{done a w τ},Cx ops sp In a0 w0 bf j o done a w τ→pc→a.eval x=v)
    (hs:s=eO N t pc (fun b:Nat=> .pointer (some ⟨b,0,none⟩)) (fun _=>True) (fun b=>cD ⟨b,0,none⟩ cells):=by exact rfl) (hd:o.dst=some t:=by exact rfl):Ob ops sp In a0 w0 P bf j o s:=by
  subst hs;intro done a w τ c;refine ⟨fun hw=> ?_,fun hw=>⟨Ext.refl _ _,fun hp=>by rw [(hgd.known c).2 hp] at hw;cases hw⟩⟩;have hp:=(hgd.known c).1 hw;have hr:(execOp a.eval o).run P w= .ok (.value (.pointer (some ⟨w.heap.size,0,none⟩))) (w.alloc (.cells cells.toArray ty)):=by
    simp only [execOp,ho,h c hp,Instr.box,newVar,newRow,newObj,hc];rfl
  refine fJ hr ⟨_,rfl,Ext.alloc _ _ _,fun _=>⟨w.heap.size,?_,ax,⟨⟨by simp,fun t ht=> ?_⟩,fun j u hu=> ?_⟩⟩⟩
  · show aU (a.put o.dst _) t=_;rw [hd,dm a t t _ (c.lt t hd),if_pos rfl]
  · have:=(c.J.bnd t _ ht).2;exact absurd this (Nat.lt_irrefl _)
  · exact (tm (ty:=ty) (cells:=cells) (w:=w)).cell hu
def ED {α:Type} (E:Enc α) (ty:Nat) (N:aQ) (tag t:Nat) (v:Value) (xs:List α):Spec N:=⟨some tag,t,fun _ T _ w=>dM E ty xs T v w,fun _ _ T u w w' _ h hr=>jV T v w w' h.less hr,fun _=>True,fun _ _ _ _ _=>trivial⟩
theorem yw {α:Type} {E:Enc α} {ty tag t tt i:Nat} {v:Value} {xs:List α} {x x':α} {p q:Operand} {u:Value} (hs:s=ED E ty N tag t v (xs.set i x')) (hg:o.guard=none) (hd:o.dst=none) (ho:o.op= .store tt p q) (hsz:∀w,(sizeOf tt).run P w= .ok u.cells.size w)
    (hx:xs[i]? =some x) (hl:0+u.cells.size≤E.sz) (h1:∀c ∈ u.cells.toList,c.oneCell'=true) (hc:E.cells x'=iT (E.cells x) 0 u.cells.toList)
    (hp:∀{done a w τ},Cx ops sp In a0 w0 bf j o done a w τ→dM E ty xs (τ tag) v w∧a.eval p= .pointer (some ((dh v).add (i * E.sz)))∧a.eval q=u):Ob ops sp In a0 w0 P bf j o s:=by
  subst hs;refine ei hg rfl fun done a w τ c=> ?_;obtain ⟨⟨hown,hT⟩,hp',hq⟩:=hp c;obtain ⟨w',hr,h2,h3⟩:=lN (P:=P) (tt:=tt) hown hx hsz hl h1 hc;have hr':(execOp a.eval o).run P w= .ok .skip w':=by
    have hr2:(Instr.storeAt tt (.pointer (some ((dh v).add (i * E.sz)))) u).run P w= .ok () w':=hr;simp only [execOp,ho,hp',hq,Sem.run_bind,hr2];rfl
  exact iw hr' ⟨_,rfl,h3.mono fun k _ hk=>hT k hk,τ tag,fun g h=> .inl h,h2,hT⟩
theorem ru {tag t tt i:Nat} {x x':Int × Int} {p q:Operand} (hs:s=ln N tag t C tb (ps.set i x') fu ou tv) (hg:o.guard=none) (hd:o.dst=none) (ho:o.op= .store tt p q) (hsz:∀w,(sizeOf tt).run P w= .ok 2 w)
    (hx:ps[i]? =some x)
    (hp:∀{done a w τ},Cx ops sp In a0 w0 bf j o done a w τ→RunR C tb ps fu ou tv (eW τ w) (τ tag) w∧a.eval p= .pointer (some ((dh C.pv.v).add (i * 2)))∧a.eval q=lD x'):Ob ops sp In a0 w0 P bf j o s:=by
  subst hs;refine ei hg rfl fun done a w τ c=> ?_;obtain ⟨hR,hp',hq⟩:=hp c;obtain ⟨w',hr,h2,h3⟩:=lN (P:=P) (tt:=tt) (u:=lD x') (off:=0) (x':=x') hR.b.parts.1 hx (by exact hsz) (by exact bk _) (by simp [lD,Value.cells,Value.oneCell']) (by
    simp [bX,lD,Value.cells,iT])
  have hr':(execOp a.eval o).run P w= .ok .skip w':=by
    have hr2:(Instr.storeAt tt (.pointer (some ((dh C.pv.v).add (i * 2)))) (lD x')).run P w= .ok () w':=hr;simp only [execOp,ho,hp',hq,Sem.run_bind,hr2];rfl
  exact iw hr' ⟨_,rfl,h3.mono fun k _ hk=>hR.b.parts.2 k hk,τ tag,fun g h=> .inl h,hR.turn h3 h2 (by simp) (fun g hz=>ky (fun _ h=>h) g (js h3.size g hz)) fun g h=>kj g h⟩
theorem rx {tag t dT sT e lo hi:Nat} {ys:Ps} {x y:Operand} (hs:s=jl N tag t C tb (ps.take lo++ys++ps.drop hi) fu ou tv (.int .i64 (ys.length:Int))) (hg:o.guard=none) (hd:o.dst=some t)
    (ho:o.op= .call { callee:= .builtin .copy,args:=#[x,y],argTypes:=#[dT,sT] }) (hdT:P.underlying dT=some (.slice e)) (hsz:(P.info? e).map (·.size)=some 2)
    (h1:lo≤hi) (h2:hi≤ps.length) (hl:ys.length=hi - lo)
    (hp:∀{done a w τ},Cx ops sp In a0 w0 bf j o done a w τ→RunR C tb ps fu ou tv (eW τ w) (τ tag) w∧a.eval x=gk C.pv.v lo hi 2∧∃u,a.eval y=u∧SlT bX w u ys):Ob ops sp In a0 w0 P bf j o s:=by
  subst hs;refine ei hg rfl fun done a w τ c=> ?_;obtain ⟨hR,hx,u,hy,hu⟩:=hp c;obtain ⟨w',hr,k2,k3⟩:=qg (P:=P) (sT:=sT) (rt:=o.type) hR.b.parts.1 hu hdT hsz h1 h2 hl;have hr':(execOp a.eval o).run P w= .ok (.value (.int .i64 (ys.length:Int))) w':=by
    have hr2:(Builtin.copy_ #[dT,sT] o.type #[gk C.pv.v lo hi 2,u]).run P w= .ok (goInt ys.length) w':=hr;simp only [execOp,ho,resolve,invoke,builtin,Sem.run_bind,Sem.run_pure,Result.andThen_ok,ee,bw,bP,hx,hy,hr2];rfl
  refine fJ hr' ⟨_,rfl,k3.mono fun k _ hk=>hR.b.parts.2 k hk,τ tag,fun g h=> .inl h,?_,hR.turn k3 k2 (by simp;omega) (fun g hz=>ky (fun _ h=>h) g (js k3.size g hz)) fun g h=>kj g h⟩;show aU (a.put o.dst _) t=_;rw [hd,dm a t t _ (c.lt t hd),if_pos rfl]
theorem ph {α:Type} {E:Enc α} {ty e tag t:Nat} {ys:List α} {y:Operand} {z:Value} {i:TypeInfo} (hs:s=own E e N tag t ys) (hg:o.guard=none) (hd:o.dst=some t)
    (ho:o.op= .call { callee:= .builtin .append,args:=#[.const (.slice none 0 0),y],argTypes:=#[ty,ty] })
    (hty:P.underlying ty=some (.slice e)) (hi:P.info? e=some i) (hz:i.zero=some z) (hsize:i.size=E.sz) (hzs:z.cells.size=E.sz)
    (h63:ys.length≤maxLen) (hby:ys.length * i.bytes≤140737488355328)
    (hp:∀{done a w τ},Cx ops sp In a0 w0 bf j o done a w τ→∃u,a.eval y=u∧SlT E w u ys):Ob ops sp In a0 w0 P bf j o s:=by
  subst hs;refine ei hg rfl fun done a w τ c=> ?_;obtain ⟨u,hy,hsl⟩:=hp c;obtain ⟨v',w',hr,h2,h3,h4⟩:=oB (P:=P) (E:=E) ty o.type e i z hty hi hz hsize hzs (iS.nil E e w) hsl (by simpa using h63) (by simpa using hby);have hr':(execOp a.eval o).run P w= .ok (.value v') w':=by
    simp only [execOp,ho,resolve,invoke,builtin,Sem.run_bind,Sem.run_pure,Result.andThen_ok,ee,bw,bP,hy];have hr2:(Builtin.append_ #[ty,ty] o.type #[a.eval (.const (.slice none 0 0)),u]).run P w= .ok v' w':=hr;simp only [hr2];rfl
  rw [gn] at h2;refine fJ hr' ⟨_,rfl,h3.mono (fun k _ h=>by simp [Value.ownBlock] at h),fun g=>v'.ownBlock=some g,fun g hg=>(h4 g hg).elim (fun h=>by simp [Value.ownBlock] at h) (fun h=> .inr h),?_⟩;show dM E e ys _ (aU (a.put o.dst _) t) _;rw [hd,dm a t t _ (c.lt t hd),if_pos rfl];exact ⟨h2,fun g h=>h⟩
end
section
variable {N:aQ} {l:List Oper} {sp:List (Spec N)} {il:List (Ini N)} {a0 a:Act} {w:World} {τ:Nat→aQ}
theorem Fin.ov {α:Type} {E:Enc α} {ty t slot:Nat} {v:Value} {xs:List α} (h:Fin l sp il a0 a w τ) (j:Nat) (hs:sp[j]? =some (ED E ty N t slot v xs)) (hl:bE (sp.map (·.tag)) t sp.length=some j:=by exact rfl):dM E ty xs (τ t) v w:=h.res j t _ hs rfl hl
end
def dy (ps:Ps) (x:Rs):Ps:=match x.1 with
  | some y => y.2
  | none => ps
def dk (tv:Int) (x:Rs):Int:=match x.1 with
  | some y => (y.1 : Int)
  | none => tv
def mj (C:Cfg) (tb:Option Nat) (ps:Ps) (tv:Int) (x:Rs) (w:World) (e:Ending) (w':World):Prop:=e= .returned (.bool x.1.isSome)∧Ext (Td C tb) w w'∧gN C tb (dy ps x) x.2.1 x.2.2 (dk tv x) w'
def Ge (P:Program) (C:Cfg) (tb:Option Nat) (B:Nat) (K:dC) (kf:Value) (Z:aQ) (w:World):Prop:=∃f caps,kf= .func (.func f) #[] caps∧(∀args w,(callFunc f args).run P w= .ok (.enter f args) w)∧
  ∀(to:Nat) (ps:Ps) (fu:Nat) (tv:Int) (w2:World),Ext (fun g=>¬Z g) w w2→gN C tb ps fu false tv w2→to≤C.E.cs.length→fu < B→fu≤1000000→(∀g,Z g→Fr C tb w2 g)→Calls P f (#[.int .i64 (to:Int)]++caps) w2 (mj C tb ps tv (K to ps (fu,false)) w2)
def zK (P:Program) (C:Cfg) (tb:Option Nat) (B:Nat) (K:dC) (kf:Value):ZP:=⟨fun Z w=>Ge P C tb B K kf Z w,fun hz he ⟨f,caps,h1,h2,h3⟩=>⟨f,caps,h1,h2,fun to ps fu tv w2 hx hR ht hf hm hfr=>h3 to ps fu tv w2 (he.trans (hx.mono fun g _ hn hg=>hn (hz g hg))) hR ht hf hm fun g hg=>hfr g (hz g hg)⟩⟩
section
variable {C:Cfg} {ps ps':Ps} {fu fu' B B':Nat} {ou ou':Bool} {tv tv':Int} {tb:Option Nat} {Z Z' T:aQ} {w w':World} {P:Program} {K:dC} {kf:Value}
theorem Ge.less (h:Ge P C tb B K kf Z w) (hB:B'≤B):Ge P C tb B' K kf Z w:=by
  obtain ⟨f,caps,h1,h2,h3⟩:=h;exact ⟨f,caps,h1,h2,fun to ps fu tv w2 hx hR ht hf=>h3 to ps fu tv w2 hx hR ht (by omega)⟩
theorem wq (h:(zK P C tb B K kf).P Z w):kf.cells=#[kf]:=by obtain ⟨f,caps,rfl,_⟩:=h;rfl
theorem gN.in {n:Nat} {a:Act} {τ:Nat→aQ} (h:gN C tb ps fu ou tv w) (hτ:τ 0=Td C tb) (st:St (fun k=>Td C tb k∨w.heap.size≤k) w n a w τ):RunR C tb ps fu ou tv (eW τ w) (τ 0) w:=
  h.mono (fun g hg=>⟨hg.1,fun t ht=>(st.bnd t g ht).1.elim (fun h=>hg.2 h) (fun h=>by have:=hg.1;omega)⟩) (fun g hg=>by rw [hτ];exact hg)
theorem kk {n:Nat} {a:Act} {τ:Nat→aQ} {Φ:ZP} (h:Φ.P (Fr C tb w) w) (st:St (fun k=>Td C tb k∨w.heap.size≤k) w n a w τ):Fz Φ τ w:=
  Φ.st (fun g hg=>⟨hg.1,fun t ht=>(st.bnd t g ht).1.elim (fun h=>hg.2 h) (fun h=>by have:=hg.1;omega)⟩) (Ext.refl _ w) h
theorem gN.tdlt (h:gN C tb ps fu ou tv w):∀g,Td C tb g→g < w.heap.size:=RunR.tdlt h
theorem mm {τ:Nat→aQ} {f:FuncId} {args:Array Value} {x:Rs} (h:RunR C tb ps fu ou tv (eW τ w) (τ 0) w) (hc:Calls P f args w (mj C tb ps tv x w)):
    Calls P f args w (fun e w'=>e= .returned (.bool x.1.isSome)∧Ext (τ 0) w w'∧RunR C tb (dy ps x) x.2.1 x.2.2 (dk tv x) (eW τ w') (τ 0) w'):=
  hc.mono fun e w' ⟨h1,h2,h3⟩=>⟨h1,h2.mono fun g _ hg=>h.td g hg,h3.back h h2 (fun g hg=>kj g hg) (js h2.size)⟩
theorem DV {τ:Nat→aQ} {f:FuncId} {args:Array Value} {v:Value} (h:RunR C tb ps fu ou tv (eW τ w) (τ 0) w) (hc:Calls P f args w (fun e w'=>e= .returned v∧Ext (Td C tb) w w'∧gN C tb ps' fu' ou' tv' w')):
    Calls P f args w (fun e w'=>e= .returned v∧Ext (τ 0) w w'∧RunR C tb ps' fu' ou' tv' (eW τ w') (τ 0) w'):=
  hc.mono fun e w' ⟨h1,h2,h3⟩=>⟨h1,h2.mono fun g _ hg=>h.td g hg,h3.back h h2 (fun g hg=>kj g hg) (js h2.size)⟩
theorem kU {x:Rs} (h:x.1.isSome=false):dy ps x=ps:=by
  unfold dy;cases hx:x.1 with
  | none => rfl
  | some y => rw [hx] at h; cases h
theorem pH {x:Rs} (h:x.1.isSome=false):dk tv x=tv:=by
  unfold dk;cases hx:x.1 with
  | none => rfl
  | some y => rw [hx] at h; cases h
theorem sM {x:Rs} (h:x.1.isSome=true):dy ps x=dy ps' x:=by
  unfold dy;cases hx:x.1 with
  | none => rw [hx] at h; cases h
  | some y => rfl
theorem RunR.nope {x:Rs} (h:RunR C tb (dy ps x) fu ou (dk tv x) Z T w) (hx:x.1.isSome=false):RunR C tb ps fu ou tv Z T w:=by rwa [kU hx,pH hx] at h
theorem RunR.yep {x:Rs} (h:RunR C tb (dy ps x) fu ou (dk tv x) Z T w) (hx:x.1.isSome=true):RunR C tb (dy ps' x) fu ou (dk tv x) Z T w:=by rwa [sM hx] at h
theorem RunR.ouf (h:RunR C tb ps fu ou tv Z T w) (ho:ou=false):RunR C tb ps fu false tv Z T w:=ho ▸ h
theorem RunR.psc (h:RunR C tb ps fu ou tv Z T w) (e:ps'=ps):RunR C tb ps' fu ou tv Z T w:=e ▸ h
theorem kS {x:Rs} (h:x.1.isSome=false):x=(Option.none,x.2):=by
  obtain ⟨a,b⟩:=x;cases a with
  | none => rfl
  | some y => cases h
theorem xz {v:Value} {lo hi m:Nat} (h:lo≤hi):gk v lo hi m=gk v lo (lo+(hi - lo)) m:=by rw [show lo+(hi - lo)=hi by omega]
theorem oJ {τ:Nat→aQ} {f:FuncId} {args:Array Value} {v:Value} (h:RunR C tb ps fu ou tv (eW τ w) (τ 0) w) (hl:ps'.length=ps.length) (hc:Calls P f args w (fun e w'=>e= .returned v∧iS bX C.st w' C.pv.v ps'∧Ext (fun k=>C.pv.v.ownBlock=some k) w w')):
    Calls P f args w (fun e w'=>e= .returned v∧Ext (τ 0) w w'∧RunR C tb ps' fu ou tv (eW τ w') (τ 0) w'):=
  hc.mono fun e w' ⟨h1,h2,h3⟩=>⟨h1,h3.mono fun g _ hg=>h.b.parts.2 g hg,h.turn h3 h2 hl (js h3.size) fun g hg=>kj g hg⟩
theorem RunR.dz {τ:Nat→aQ} (h:RunR C tb ps fu ou tv (eW τ w) (τ 0) w):gN C tb ps fu ou tv w:=h.d (fun g hg=>kj g hg) wm
theorem RunR.fz {τ:Nat→aQ} {Φ:ZP} (h:RunR C tb ps fu ou tv (eW τ w) (τ 0) w) (hz:Φ.P (eW τ w) w):Φ.P (Fr C tb w) w:=h.fr (fun g hg=>kj g hg) wm hz
theorem lp {τ:Nat→aQ} {a:Act} {o:Oper} {x x1:Operand} {ts:Array TypeId} {to:Nat} (h:RunR C tb ps fu false tv (eW τ w) (τ 0) w) (hk:(zK P C tb B K kf).P (eW τ w) w) (ht:to≤C.E.cs.length) (hf:fu < B) (hm:fu≤1000000)
    (ho:o.op= .call { callee:= .value x,args:=#[x1],argTypes:=ts }) (hx:a.eval x=kf) (h1:a.eval x1= .int .i64 (to:Int)):
    ∃g args,fv P a o w g args∧Calls P g args w (fun e w'=>e= .returned (.bool (K to ps (fu,false)).1.isSome)∧Ext (τ 0) w w'∧RunR C tb (dy ps (K to ps (fu,false))) (K to ps (fu,false)).2.1 (K to ps (fu,false)).2.2 (dk tv (K to ps (fu,false))) (eW τ w') (τ 0) w'):=by
  obtain ⟨f,caps,e1,e2,e3⟩:=hk;exact ⟨f,_,EC ho (hx.trans e1) e2 h1,mm h (e3 to ps fu tv w (Ext.refl _ _) h.dz ht hf hm fun g hg=>⟨wm g hg,fun ht=>kj g (h.td g ht) hg⟩)⟩
end
end
section
open Go.RowKit Srt
def ut (G:aQ) (p:Pt):ZP:=⟨fun Z w=>PtT (fun g=>Z g∧G g) w p,fun hz he h=>(PtT.keep h he fun g hg hn=>hn hg.1).mono fun g hg _=>⟨hz g hg.1,hg.2⟩⟩
def yx (G:aQ) (l:List Pt):ZP:=⟨fun Z w=>∀p ∈ l,PtT (fun g=>Z g∧G g) w p,fun hz he h p hp=>(ut G p).st hz he (h p hp)⟩
section
variable {G F Z:aQ} {τ:Nat→aQ} {w w':World} {p:Pt} {l:List Pt}
theorem Fz.pn (G:aQ) (τ:Nat→aQ) (w:World):Fz (yx G []) τ w:=fun p hp=>by simp at hp
theorem Fz.psnoc (h:Fz (yx G l) τ w) (h2:Fz (ut G p) τ w):Fz (yx G (l++ [p])) τ w:=fun q hq=>(List.mem_append.1 hq).elim (h q) fun hq=>by simp at hq;rw [hq];exact h2
theorem Fz.pouts (h:Fz (yx G l) τ w):∀p ∈ l,PtT G w p:=fun p hp=>PtT.mono (h p hp) fun g hg _=>hg.2
end
section
variable {N:aQ} {P:Program} {ops:Array Oper} {sp:List (Spec N)} {In:Nat→Ini N} {a0:Act} {w0 W:World} {bf:List Nat} {j:Nat} {o:Oper} {s:Spec N} {done:Nat→Bool} {a:Act} {w:World} {τ:Nat→aQ} {β:Type} {pc:Prop}
theorem Cx.zbx (c:Cx ops sp In a0 w0 bf j o done a w τ) (i:Nat) {ty t slot:Nat} {p:Value} {cells:β→List Value} {f:β→Value} {Ψ:β→Prop} {Φ:β→ZP} (hs:sp[i]? =some (iU ty N t slot p cells f Ψ Φ)) (hl:bE (sp.map (·.tag)) t j=some i:=by exact rfl) (hord:jA (sp.map (·.tag)) bf t j=true:=by kernel_rfl):
    ∃b,a.eval (.tmp slot)=f b∧cd ty (cells b) (τ t) p w∧Ψ b∧(Φ b).P (eW τ w) w:=c.res i t _ hs hl hord
theorem Cx.pz {p:Pt} {F:aQ} {n:Nat} {a1:Act} {τ0:Nat→aQ} {w':World} (c:Cx ops sp In a0 w0 bf j o done a w τ) (st:St N W n a1 w0 τ0) (hx:w.heap.size≤w'.heap.size) (h:PtT (Gn (fun g=>eW τ w g∧Gn F W g) w) w' p):(ut (Gn F W) p).P (eW τ w') w':=PtT.mono h (c.gz (c.hW st) hx)
theorem uT {α:Type} {E:Enc α} {ty e tag t:Nat} {xs:List α} {ys:β→List α} {Ψ:β→Prop} {Φ:β→ZP} {x y:Operand} {z:Value} {i:TypeInfo} (hg:o.guard=none)
    (ho:o.op= .call { callee:= .builtin .append,args:=#[x,y],argTypes:=#[ty,ty] })
    (hty:P.underlying ty=some (.slice e)) (hi:P.info? e=some i) (hz:i.zero=some z) (hsize:i.size=E.sz) (hzs:z.cells.size=E.sz)
    (h63:∀b,xs.length+(ys b).length≤maxLen) (hby:∀b,(xs.length+(ys b).length) * i.bytes≤140737488355328)
    (hp:∀{done a w τ},Cx ops sp In a0 w0 bf j o done a w τ→∃v b,dM E e xs (τ tag) v w∧a.eval x=v∧Ψ b∧(Φ b).P (eW τ w) w∧∃u,a.eval y=u∧SlT E w u (ys b))
    (hs:s=pW E e N tag t True (fun b=>xs++ys b) Ψ Φ:=by exact rfl) (hd:o.dst=some t:=by exact rfl):Ob ops sp In a0 w0 P bf j o s:=by
  subst hs;refine ei hg rfl fun done a w τ c=> ?_;obtain ⟨v,b,⟨hown,hT⟩,hx,hq,hzz,u,hy,hsl⟩:=hp c;obtain ⟨v',w',hr,h2,h3,h4⟩:=oB (P:=P) (E:=E) ty o.type e i z hty hi hz hsize hzs hown hsl (h63 b) (hby b);have hr':(execOp a.eval o).run P w= .ok (.value v') w':=by
    simp only [execOp,ho,resolve,invoke,builtin,Sem.run_bind,Sem.run_pure,Result.andThen_ok,ee,bw,bP,hx,hy,hr]
  refine fJ hr' ⟨_,rfl,h3.mono (fun k _ h=>hT k h),fun g=>v'.ownBlock=some g,fun g hg=>(h4 g hg).elim (fun h=> .inl (hT g h)) (fun h=> .inr h),fun _=>⟨b,?_,hq,?_⟩⟩
  · show dM E e (xs++ys b) _ (aU (a.put o.dst _) t) _;rw [hd,dm a t t _ (c.lt t hd),if_pos rfl];exact ⟨h2,fun g h=>h⟩
  · refine (Φ b).st (fun g hg=>⟨cJ hg.1 h3.size,fun t' ht=> ?_⟩) (h3.mono fun g _ hg hZ=>hZ.2 tag (hT g hg)) hzz;unfold nd at ht;split at ht
    · rcases h4 g ht with h | h
      · exact hg.2 tag (hT g h)
      · exact absurd hg.1 (by omega)
    · exact hg.2 t' ht
theorem tJ {x y:Operand} {t t':TypeId} {p:Int} (ho:o.op= .binOp .and t x y t') (hx:a.eval x= .int .u64 p) (hy:a.eval y= .int .u64 4294967295) (h0:0≤p) (h1:p < 4294967296):ck P a o w (.int .u64 p):=by
  obtain ⟨n,rfl⟩:=Int.eq_ofNat_of_zero_le h0;have hn:n < 4294967296:=by omega
  have e1:(BitVec.ofInt 64 (n:Int)).toNat=n:=by
    rw [BitVec.toNat_ofInt];omega
  have e:n&&&4294967295=n:=by
    have:=Nat.and_two_pow_sub_one_eq_mod n 32;rw [show (2 ^ 32 - 1:Nat)=4294967295 from rfl] at this
    rw [this];exact Nat.mod_eq_of_lt hn
  have e3:IntKind.u64.wrap (n:Int)=n:=by simp [IntKind.wrap,IntKind.signed,IntKind.bits];omega
  have e5:(BitVec.ofInt 64 4294967295).toNat=4294967295:=by decide
  have hr:(Op.intBits .and .u64 (n:Int) 4294967295).run P w= .ok (.int .u64 n) w:=by
    have e6:(BitVec.ofInt (IntKind.bits .u64) (n:Int)&&&BitVec.ofInt (IntKind.bits .u64) 4294967295).toNat=n:=by
      rw [BitVec.toNat_and];show (BitVec.ofInt 64 (n:Int)).toNat&&&(BitVec.ofInt 64 4294967295).toNat=n;rw [e1,e5,e]
    unfold Op.intBits;simp only [e6,e3];rfl
  simp only [ck,execOp,ho,hx,hy];simp [eqGuard,binOp,hr]
theorem pi {x y:Operand} {t t':TypeId} {p:Int} (ho:o.op= .binOp .shr t x y t') (hx:a.eval x= .int .u64 p) (hy:a.eval y= .int .u64 32) (h0:0≤p) (h1:p < 4294967296):ck P a o w (.int .u64 0):=by
  have e:p.fdiv 4294967296=0:=by
    rw [kY p (by omega)];exact Int.ediv_eq_zero_of_lt h0 h1
  simp [ck,execOp,ho,hx,hy,eqGuard,binOp,Op.shift,IntKind.bits];exact e
theorem rz {x y:Operand} {t t':TypeId} {p q r:Int} (ho:o.op= .binOp .mul t x y t') (hx:a.eval x= .int .u64 p) (hy:a.eval y= .int .u64 q) (e:p * q=r) (h0:0≤r) (h1:r < 18446744073709551616):ck P a o w (.int .u64 r):=by
  have e2:IntKind.u64.wrap r=r:=by simp [IntKind.wrap,IntKind.signed,IntKind.bits];omega
  simp [ck,execOp,ho,hx,hy,eqGuard,binOp,Op.intArith,e,e2]
theorem tK {x y:Operand} {t t':TypeId} {p q r:Int} (ho:o.op= .binOp .add t x y t') (hx:a.eval x= .int .u64 p) (hy:a.eval y= .int .u64 q) (e:p+q=r) (h0:0≤r) (h1:r < 18446744073709551616):ck P a o w (.int .u64 r):=by
  have e2:IntKind.u64.wrap r=r:=by simp [IntKind.wrap,IntKind.signed,IntKind.bits];omega
  simp [ck,execOp,ho,hx,hy,eqGuard,binOp,Op.intArith,e,e2]
theorem CA {α:Type} {E:Enc α} {ty e tag t n:Nat} {x y:Operand} {z:Value} {i:TypeInfo} {x0:α} (hs:s=own E e N tag t (List.replicate n x0)) (hg:o.guard=none) (hd:o.dst=some t) (ho:o.op= .makeSlice ty x y)
    (hty:P.underlying ty=some (.slice e)) (hi:P.info? e=some i) (hz:i.zero=some z) (hsize:i.size=E.sz) (hc:z.cells.toList=E.cells x0) (hby:i.bytes * n≤281474976710656) (h63:n≤maxLen)
    (hp:∀{done a w τ},Cx ops sp In a0 w0 bf j o done a w τ→a.eval x= .int .i64 (n:Int)∧a.eval y= .int .i64 (n:Int)):Ob ops sp In a0 w0 P bf j o s:=by
  subst hs;refine ei hg rfl fun done a w τ c=> ?_;obtain ⟨hx,hy⟩:=hp c;have h63':(n:Int)≤9223372036854775807:=by
    have h:=h63;simp only [maxLen] at h;omega
  have hb':(i.bytes:Int) * (n:Int)≤281474976710656:=by
    have h:((i.bytes * n:Nat):Int)≤281474976710656:=by omega
    rwa [Int.natCast_mul] at h
  have hr:=run_make (P:=P) w ty e i z hty hi hz .i64 .i64 n n (by omega) (fe _) hb' h63';simp only [iK] at hr;have hr':(execOp a.eval o).run P w= .ok (.value (.slice (some ⟨w.heap.size,0,none⟩) n n)) (w.alloc (.cells (madeCells z.cells (n * i.size)) e)):=by
    simp only [execOp,ho,hx,hy,Sem.run_bind,hr];rfl
  have hzs:z.cells.size=E.sz:=by rw [←fc,hc,E.len]
  have hrow:(madeCells z.cells (n * i.size)).toList=E.row (List.replicate n x0):=by
    apply List.ext_getElem?;intro q;rw [hsize];have hl:(E.row (List.replicate n x0)).length=n * E.sz:=by rw [E.row_length,bL]
    by_cases hq:q < n * E.sz
    · have hdiv:q / E.sz < n:=Nat.div_lt_of_lt_mul (by rwa [Nat.mul_comm] at hq)
      have hmod:q % E.sz < E.sz:=Nat.mod_lt _ E.pos
      have h1:=E.row_get (xs:=List.replicate n x0) (i:=q / E.sz) (j:=q % E.sz) (x:=x0) (by rw [List.getElem?_replicate,if_pos hdiv]) hmod;rw [show q / E.sz * E.sz+q % E.sz=q from Nat.div_add_mod' q E.sz] at h1;rw [h1,←hc];have hm2:q % E.sz < z.cells.size:=by omega
      simp only [madeCells,Array.toList_map,List.getElem?_map,Array.toList_range,List.getElem?_range hq,Option.map_some,hzs];rw [getElem!_pos z.cells _ hm2,bD (by simpa using hm2),Array.getElem_toList]
    · rw [kc (by simp [madeCells];omega),kc (by omega)]
  refine fJ hr' ⟨_,rfl,Ext.alloc _ _ _,fun g=>g=w.heap.size,fun g hg=> .inr (by subst hg;simp),?_⟩;show dM E e _ _ (aU (a.put o.dst _) t) _;rw [hd,dm a t t _ (c.lt t hd),if_pos rfl];refine ⟨⟨E.row_length _,.inr ⟨w.heap.size,n,_,by rw [bL],dJ _,heap_alloc_new w _,by rw [bL];exact bk _,h63,by rw [size_madeCells,hsize],?_⟩⟩,fun g h=> ?_⟩
  · rw [hrow,bL];exact bB (by rw [E.row_length,bL];exact bk _)
  · simp only [Value.ownBlock,Option.some.injEq] at h;exact h.symm
end
section
variable {N:aQ} {l:List Oper} {sp:List (Spec N)} {il:List (Ini N)} {a0 a:Act} {w:World} {τ:Nat→aQ} {β:Type} {pc:Prop}
theorem Fin.gzo (h:Fin l sp il a0 a w τ) {α:Type} {E:Enc α} {ty t slot:Nat} {xs:β→List α} {Ψ:β→Prop} {Φ:β→ZP} (j:Nat) {v:Value} (hv:aU a slot=v) (hs:sp[j]? =some (pW E ty N t slot True xs Ψ Φ)) (hl:bE (sp.map (·.tag)) t sp.length=some j:=by exact rfl):∃b,dM E ty (xs b) (τ t) v w∧Ψ b∧Fz (Φ b) τ w:=
  hv ▸ h.res j t _ hs rfl hl trivial
end
section
variable {α:Type} {E:Enc α} {ty:Nat} {P:Program} {w:World}
theorem Am {dT sT rt elem:TypeId} {d:Option Addr} {dl dc:Nat} {u u':Value} {ys:List α} (hu:SlT E w u ys) (hdT:P.underlying dT=some (.slice elem)) (hsz:(P.info? elem).map (·.size)=some E.sz) (hu':u'=gk u 0 (Nat.min ys.length dl) E.sz):
    (Builtin.copy_ #[dT,sT] rt #[.slice d dl dc,u]).run P w=(Builtin.copy_ #[dT,sT] rt #[.slice d (Nat.min ys.length dl) dc,u']).run P w:=by
  subst hu';cases hq:P.info? elem with
  | none => simp [hq] at hsz
  | some i =>
    have hi:i.size=E.sz:=by simpa [hq] using hsz
    rcases hu.sl with ⟨rfl,h0⟩ | ⟨b,cap,rfl,hc,hm⟩
    · rw [h0];simp [gk,Builtin.copy_,run_underlying hdT,Builtin.lenOf,Builtin.firstCells,sizeOf,typeInfo,hq,hi]
    · have e:gk (.slice (some b) ys.length cap) 0 (Nat.min ys.length dl) E.sz= .slice (some b) (Nat.min ys.length dl) cap:=by
        simp only [gk];split
        · simp_all
        · simp [Addr.add]
      rw [e];simp [Builtin.copy_,run_underlying hdT,Builtin.lenOf,Builtin.firstCells,sizeOf,typeInfo,hq,hi]
end
section
variable {α:Type} {E:Enc α} {ty:Nat} {P:Program} {w:World}
theorem sN {v:Value} {xs:List α} (h:iS E ty w v xs):gk v 0 xs.length E.sz=v:=by
  rcases h.2 with ⟨rfl,h0⟩ | ⟨g,cap,cur,rfl,hb,hg,g2,g3,g4,g5⟩
  · rw [h0];rfl
  · simp only [gk];split
    · simp
    · simp [Addr.add]
theorem uU {dT sT rt elem:TypeId} {v u:Value} {xs ys:List α} {lo hi:Nat} (h:iS E ty w v xs) (hu:SlT E w u ys) (hdT:P.underlying dT=some (.slice elem)) (hsz:(P.info? elem).map (·.size)=some E.sz)
    (h1:lo≤hi) (h2:hi≤xs.length):
    ∃w',(Builtin.copy_ #[dT,sT] rt #[gk v lo hi E.sz,u]).run P w= .ok (goInt (Nat.min ys.length (hi - lo))) w'∧iS E ty w' v (xs.take lo++ys.take (Nat.min ys.length (hi - lo))++xs.drop (lo+Nat.min ys.length (hi - lo)))∧Ext (fun k=>v.ownBlock=some k) w w':=by
  have hm1:Nat.min ys.length (hi - lo)≤ys.length:=Nat.min_le_left _ _;have hm2:Nat.min ys.length (hi - lo)≤hi - lo:=dj _ _;have hsl:=SlT.sub hu (lo:=0) (hi:=Nat.min ys.length (hi - lo)) (dJ _) hm1;rw [lc,Nat.sub_zero] at hsl;obtain ⟨w',hr,k2,k3⟩:=qg (P:=P) (dT:=dT) (sT:=sT) (rt:=rt) (lo:=lo) (hi:=lo+Nat.min ys.length (hi - lo)) h hsl hdT hsz (by omega) (by omega) (by rw [dt];omega);rw [dt,Nat.min_eq_left hm1] at hr;refine ⟨w',?_,k2,k3⟩;have hsub:∃d dc,gk v lo hi E.sz= .slice d (hi - lo) dc∧gk v lo (lo+Nat.min ys.length (hi - lo)) E.sz= .slice d (Nat.min ys.length (hi - lo)) dc:=by
    rcases h.2 with ⟨rfl,h0⟩ | ⟨g,cap,cur,rfl,hb,hg,g2,g3,g4,g5⟩
    · exact ⟨none,0 - lo,by simp [gk],by simp [gk]⟩
    · exact ⟨if cap=lo then some ⟨g,0,none⟩ else some ((⟨g,0,none⟩:Addr).add (lo * E.sz)),cap - lo,by simp only [gk];split <;> rfl,by simp only [gk,Nat.add_sub_cancel_left];split <;> rfl⟩
  obtain ⟨d,dc,e1,e2⟩:=hsub;rw [e2] at hr;rw [e1,Am (sT:=sT) (rt:=rt) hu hdT hsz rfl];exact hr
end
section
variable {N:aQ} {P:Program} {ops:Array Oper} {sp:List (Spec N)} {In:Nat→Ini N} {a0:Act} {w0 W:World} {bf:List Nat} {j:Nat} {o:Oper} {s:Spec N} {done:Nat→Bool} {a:Act} {w:World} {τ:Nat→aQ}
def yy {α:Type} (E:Enc α) (ty:Nat) (N:aQ) (tag t:Nat) (v:Value) (xs:List α) (k:Value):Spec N:=⟨some tag,t,fun _ T u w=>u=k∧dM E ty xs T v w,fun _ _ T u w w' _ h hr=>⟨hr.1,jV T v w w' h.less hr.2⟩,fun u=>u=k,fun _ _ _ _ h=>h.1⟩
theorem Cx.oc {α:Type} {E:Enc α} {ty t slot:Nat} {v k:Value} {xs:List α} (c:Cx ops sp In a0 w0 bf j o done a w τ) (i:Nat) (hs:sp[i]? =some (yy E ty N t slot v xs k)) (hb:(bf.getD j 0).testBit i=true:=by exact rfl):a.eval (.tmp slot)=k:=c.J.pur i _ hs (c.pre i hb)
theorem rA {α:Type} {E:Enc α} {ty tag t dT sT e lo hi:Nat} {v:Value} {xs ys:List α} {x y:Operand} (hs:s=yy E ty N tag t v (xs.take lo++ys.take (Nat.min ys.length (hi - lo))++xs.drop (lo+Nat.min ys.length (hi - lo))) (.int .i64 ((Nat.min ys.length (hi - lo):Nat):Int))) (hg:o.guard=none) (hd:o.dst=some t)
    (ho:o.op= .call { callee:= .builtin .copy,args:=#[x,y],argTypes:=#[dT,sT] }) (hdT:P.underlying dT=some (.slice e)) (hsz:(P.info? e).map (·.size)=some E.sz)
    (h1:lo≤hi) (h2:hi≤xs.length)
    (hp:∀{done a w τ},Cx ops sp In a0 w0 bf j o done a w τ→dM E ty xs (τ tag) v w∧a.eval x=gk v lo hi E.sz∧∃u,a.eval y=u∧SlT E w u ys):Ob ops sp In a0 w0 P bf j o s:=by
  subst hs;refine ei hg rfl fun done a w τ c=> ?_;obtain ⟨⟨hown,hT⟩,hx,u,hy,hu⟩:=hp c;obtain ⟨w',hr,k2,k3⟩:=uU (P:=P) (sT:=sT) (rt:=o.type) hown hu hdT hsz h1 h2;have hr':(execOp a.eval o).run P w= .ok (.value (.int .i64 ((Nat.min ys.length (hi - lo):Nat):Int))) w':=by
    have hr2:(Builtin.copy_ #[dT,sT] o.type #[gk v lo hi E.sz,u]).run P w= .ok (goInt (Nat.min ys.length (hi - lo))) w':=hr;simp only [execOp,ho,resolve,invoke,builtin,Sem.run_bind,Sem.run_pure,Result.andThen_ok,ee,bw,bP,hx,hy,hr2];rfl
  refine fJ hr' ⟨_,rfl,k3.mono fun k _ hk=>hT k hk,τ tag,fun g h=> .inl h,?_,k2,hT⟩;show aU (a.put o.dst _) t=_;rw [hd,dm a t t _ (c.lt t hd),if_pos rfl]
end
section
variable {N:aQ} {l:List Oper} {sp:List (Spec N)} {il:List (Ini N)} {a0 a:Act} {w:World} {τ:Nat→aQ}
theorem Fin.oc {α:Type} {E:Enc α} {ty t slot:Nat} {v k:Value} {xs:List α} (h:Fin l sp il a0 a w τ) (j:Nat) (hs:sp[j]? =some (yy E ty N t slot v xs k)) (hl:bE (sp.map (·.tag)) t sp.length=some j:=by exact rfl):aU a slot=k:=(h.res j t _ hs rfl hl).1
theorem Fin.or {α:Type} {E:Enc α} {ty t slot:Nat} {v k:Value} {xs:List α} (h:Fin l sp il a0 a w τ) (j:Nat) (hs:sp[j]? =some (yy E ty N t slot v xs k)) (hl:bE (sp.map (·.tag)) t sp.length=some j:=by exact rfl):dM E ty xs (τ t) v w:=(h.res j t _ hs rfl hl).2
end
def grpsN (l:List Tr):Nat:=(l.map grpN).sum
theorem mT (l:List Tr) (t:Tr):grpsN (l++ [t])=grpsN l+grpN t:=by simp [grpsN]
theorem yz (l:List Tr):((grpsN l:Nat):Int)=de (l.map dp):=by
  induction l with
  | nil => rfl
  | cons t l ih =>
    have h1:=(hD t).1;rw [bw,jK,←ih];have:grpsN (t::l)=grpN t+grpsN l:=by simp [grpsN]
    rw [this];unfold grpN;omega
theorem pI {t:Tr}:∀{ps:List Pt} {ts:List Tr} {g:Nat} {p:Pt},LayL ps ts g→Lay p t (g+grpsN ts)→LayL (ps++ [p]) (ts++ [t]) g
  | [], [], g, p, h, h2 => by
    have e:g+grpsN []=g:=rfl;rw [e] at h2;exact .cons h2 .nil
  | [], _ :: _, g, p, h, h2 => by cases h
  | _ :: _, [], g, p, h, h2 => by cases h
  | q :: ps, u :: ts, g, p, h, h2 => by
    cases h with
    | cons h3 h4 =>
      have e:g+grpsN (u::ts)=g+grpN u+grpsN ts:=by simp [grpsN];omega
      rw [e] at h2;exact .cons h3 (pI h4 h2)
theorem lK (t:Tr):grpN t=(if t.k=5 then 1 else 0)+grpsN t.kids:=by
  have h1:=mN t;have h2:=yz t.kids;have h3:=(hD t).1;unfold grpN;rw [h1,←h2];split <;> omega
theorem tL (t:Tr) (g:Nat):mg t g=g+(if t.k=5 then 1 else 0):=by
  unfold mg;split <;> omega
theorem iY (t:Tr):((grpN t:Nat):Int)=dp t:=by
  have:=(hD t).1;unfold grpN;omega
theorem nB (t:Tr):(grpN t:Int)≤fC t:=by
  have h1:=(hD t).2;have h2:=ra t;rw [iY];omega
theorem CB (l:List Tr):(grpsN l:Int)≤de (l.map fC):=by
  induction l with
  | nil => exact fe _
  | cons t l ih =>
    have h1:=nB t;have e:grpsN (t::l)=grpN t+grpsN l:=by simp [grpsN]
    rw [bw,jK,e];omega
theorem uV {t:Tr} {k:Nat} (h:k < t.kids.length):(grpsN (t.kids.take k):Int)+fC (nth t.kids (k:Int))+1≤fC t:=by
  have h1:=CB (t.kids.take k);have h2:=jY (f:=fC) h;have h3:=(ns (f:=fC) (ts:=t.kids) (fun q _=>by have:=lG q;omega) (k+1)).2;have h4:=lk t;have h5:=nS t.rows;omega
end
section
open Go.RowKit
open Srt
set_option maxRecDepth 100000 in
theorem qm (t:Tr) (ih:∀k ∈ t.kids,∀(w:World),mc w k→cg k≤1000000000→Calls Tryz.prog 66 #[k.v] w (fun e w'=>e= .returned (aj (cg k))∧Ext aY w w')) (w:World) (hT:mc w t) (hy0:cg t≤1000000000):Calls Tryz.prog 66 #[t.v] w (fun e w'=>e= .returned (aj (cg t))∧Ext aY w w'):=by
 refine enter (n:=21) Tryz.func66 rfl rfl (aw rfl) ?_;intro a0 τ0 ha st0;have e0:aU a0 0=(ta t):=ha 0 _ rfl;clear ha;have hle:=hT.kids.le;have hf0:∀q ∈ t.kids,0≤cg q:=fun q _=>by have:=iW q;omega
 have hpe:=gD t;refine wp_seq (rg [box _ _ 0 1 (tc t),_] [0,0] st0 [] ⟨fP (v:=(ta t)) rfl rfl rfl rfl rfl (fun _ _ _ _ c=>(c.p e0)),am fun c=>au rfl rfl,ax⟩ fun ac ag ae ab aa=> ?_);obtain ⟨b1x1,e1⟩:=gx ac 1;have e2:=aa.V 1;have r0:=aa.rb 0 e1 rfl;refine wp_seq (en ab [jb r0] ⟨am fun c=>au rfl rfl,ax⟩ fun ac ag ae ab aa=> ?_);obtain ⟨e1,e2⟩:=aa.k2 e1 e2;have e3:=aa.V 0;replace r0:=aa.B 0;refine wp_seq ?_;refine wp_seq (en ab [jb r0] ⟨am fun c=>au rfl rfl,ax⟩ fun ac ag ae ab aa=> ?_);obtain ⟨e1,e2,e3⟩:=aa.k3 e1 e2 e3;have e4:=aa.V 0;replace r0:=aa.B 0;refine wp_block ?_;refine wp_loop (fun a_ w_=>∃(k:Nat) (τ:Nat→aQ),(k≤t.kids.length)∧
      St (Nw w) w 21 a_ w_ τ∧
      aU a_ 3=(aj (1+de ((t.kids.take k).map cg)))∧
      aU a_ 4=(aj (k:Int))∧
      aU a_ 1=b1x1∧
      aU a_ 2=(aj 0)∧
      cd 25 (tc t) (τ 0) b1x1 w_) (fun a_ _=>t.kids.length - (intOf (aU a_ 4)).toNat) ?_ ?_
 · refine ⟨0,ae,?_,ab,(e3.trans (bh (by first | omega | rfl | (rw [jY (by omega)];omega)))),(e4.trans (bh (by first | omega | rfl | (rw [jY (by omega)];omega)))),e1,e2,r0⟩
   · omega
 intro a4 w4 hI;obtain ⟨k,τ4,q0,st4,e3,e4,e1,e2,r0⟩:=hI;have hsl:=ns (f:=cg) hf0 k;have hss:k < t.kids.length→cg (nth t.kids (k:Int))≤de (t.kids.map cg)∧de ((t.kids.take (k+1)).map cg)=de ((t.kids.take k).map cg)+cg (nth t.kids (k:Int)):=fun h_=>⟨mO hf0 (cG (by omega) (by omega)),jY h_⟩
 have hs2:=ns (f:=cg) hf0 (k+1);have m4:=e4;refine wp_seq ?_;refine wp_seq (yg [0,0,2,6,15] st4 [jb r0] ⟨ao e4,cb aq bC e1 r0.ptr,dq bU 1 0 7,am fun c=>cQ rfl aI (c.q 2) (hT.at st4.ext).tl.sl.sl,am fun c=>df rfl (c.q 0) (c.q 3),ax⟩ fun ac ag ae ab aa=> ?_);obtain ⟨e1,e2,e3,e4⟩:=aa.k4 e1 e2 e3 e4;have e9:=aa.V 4;replace r0:=aa.B 0;refine wp_cond_split e9 (fun hc1=> ?_) (fun hc1=> ?_)
 · try simp only [ai] at hc1
   refine wp_skip ?_;refine wp_seq ?_;refine wp_block ?_;refine qQ [0,0,2,0,14,30,62,127,255] ab [jb r0] ⟨ao e3,cb aq bC e1 r0.ptr,dq bU 1 0 7,ao e4,am fun c=>aK rfl aI ak (c.q 2) (hT.at ab.ext).tl.sl.sl (c.q 3) (by omega) (by omega),am fun c=>cM (vs:=(tc (nth t.kids (k:Int)))) rfl aD ak (c.q 4) rfl (fun _ _ hj=>((hT.at (ab.ext.trans c.J.ext)).tl.sl).elem (bo (i:=(k:Int)) (by omega) (by omega)) hj),dR fun c=>⟨_,_,(bj rfl rfl Tryz.call66 (c.q 5)),ih _ (cG (by omega) (by omega)) _ ((hT.at (ab.ext.trans c.J.ext)).tl.el (by omega) (by omega)) (by omega)⟩,am fun c=>cP rfl (c.q 0) (c.q 6) (by omega),aG 7,ax⟩ fun ac ag ae ab aa=> ?_;obtain ⟨e1,e2,e4,e9⟩:=aa.k4 e1 e2 e4 e9;have e3:=aa.V 8;replace r0:=aa.B 0;show _;refine eI ab [jb r0] ⟨ao e4,am fun c=>cP rfl (c.q 0) rfl (by omega),aG 1,ax⟩ fun ac ag ae ab aa=> ?_;obtain ⟨e1,e2,e3,e9⟩:=aa.k4 e1 e2 e3 e9;have e4:=aa.V 2;replace r0:=aa.B 0;refine ⟨⟨k+1,ae,?_,ab,(e3.trans (bh (by first | omega | rfl | (rw [jY (by omega)];omega)))),(e4.trans (bh (by first | omega | rfl | (rw [jY (by omega)];omega)))),e1,e2,r0⟩,?_⟩
   · omega
   · simp only [m4,e4,intOf];omega
 try simp only [ah,aX] at hc1
 refine wp_exit ?_;repeat (with_reducible refine ce ?_)
 refine ci ?_;refine wp_seq (es ab [jb r0] ⟨ao e3,aG 0,ax⟩ fun ac ag ae ab aa=> ?_);have e2:=aa.V 1;refine wp_ret ?_;refine rp ?_;refine cC (fn:=Tryz.f66) rfl ab.defers e2 ?_;have htk:de ((t.kids.take k).map cg)=de (t.kids.map cg):=by rw [bB (by omega)]
 exact ⟨congrArg _ (bh (by omega)),ab.ext0⟩
theorem wr (t:Tr):∀(w:World),mc w t→cg t≤1000000000→Calls Tryz.prog 66 #[t.v] w (fun e w'=>e= .returned (.int .i64 (cg t))∧Ext aY w w'):=Tr.ind (P:=fun t=>∀(w:World),mc w t→cg t≤1000000000→Calls Tryz.prog 66 #[t.v] w (fun e w'=>e= .returned (.int .i64 (cg t))∧Ext aY w w')) qm t
set_option maxRecDepth 100000 in
theorem pJ (t:Tr) (ih:∀k ∈ t.kids,∀(w:World),mc w k→cg k≤1000000000→Calls Tryz.prog 74 #[k.v] w (fun e w'=>e= .returned (aj (dp k))∧Ext aY w w')) (w:World) (hT:mc w t) (hy0:cg t≤1000000000):Calls Tryz.prog 74 #[t.v] w (fun e w'=>e= .returned (aj (dp t))∧Ext aY w w'):=by
 refine enter (n:=24) Tryz.func74 rfl rfl (aw rfl) ?_;intro a0 τ0 ha st0;have e0:aU a0 0=(ta t):=ha 0 _ rfl;clear ha;have hle:=hT.kids.le;have hf0:∀q ∈ t.kids,0≤dp q:=fun q _=>(hD q).1;have hf1:∀q ∈ t.kids,0≤cg q:=fun q _=>by have:=iW q;omega
 have hgb:=hD t;have hpe:=mN t;have hpm:∀k:Nat,k < t.kids.length→cg (nth t.kids (k:Int))≤1000000000:=fun k h_=>by
   have h1_:=mO hf1 (cG (xs:=t.kids) (i:=(k:Int)) (by omega) (by omega));have h2_:=gD t;omega
 refine wp_seq (rg [box _ _ 0 1 (tc t),_] [0,0] st0 [] ⟨fP (v:=(ta t)) rfl rfl rfl rfl rfl (fun _ _ _ _ c=>(c.p e0)),am fun c=>au rfl rfl,ax⟩ fun ac ag ae ab aa=> ?_);obtain ⟨b1x1,e1⟩:=gx ac 1;have e2:=aa.V 1;have r0:=aa.rb 0 e1 rfl;refine wp_seq (en ab [jb r0] ⟨am fun c=>au rfl rfl,ax⟩ fun ac ag ae ab aa=> ?_);obtain ⟨e1,e2⟩:=aa.k2 e1 e2;have e3:=aa.V 0;replace r0:=aa.B 0;refine wp_seq ?_;refine wp_seq (eI ab [jb r0] ⟨cb aq ar e1 r0.ptr,dq aC 0 0 0,am fun c=>bV rfl (c.q 1) rfl,ax⟩ fun ac ag ae ab aa=> ?_);obtain ⟨e1,e2,e3⟩:=aa.k3 e1 e2 e3;have e7:=aa.V 2;replace r0:=aa.B 0;refine wp_cond_split e7 (fun hc1=> ?_) (fun hc1=> ?_)
 · try simp only [ai] at hc1
   refine en ab [jb r0] ⟨am fun c=>au rfl rfl,ax⟩ fun ac ag ae ab aa=> ?_;obtain ⟨e1,e2⟩:=aa.k2 e1 e2;have e3:=aa.V 0;replace r0:=aa.B 0;refine wp_seq ?_;refine wp_seq (en ab [jb r0] ⟨am fun c=>au rfl rfl,ax⟩ fun ac ag ae ab aa=> ?_);obtain ⟨e1,e2,e3⟩:=aa.k3 e1 e2 e3;have e4:=aa.V 0;replace r0:=aa.B 0;refine wp_block ?_;refine wp_loop (fun a_ w_=>∃(k:Nat) (τ:Nat→aQ),(k≤t.kids.length)∧
          St (Nw w) w 24 a_ w_ τ∧
          aU a_ 3=(aj ((if t.k=5 then 1 else 0)+de ((t.kids.take k).map dp)))∧
          aU a_ 4=(aj (k:Int))∧
          aU a_ 1=b1x1∧
          aU a_ 2=(aj 0)∧
          cd 25 (tc t) (τ 0) b1x1 w_) (fun a_ _=>t.kids.length - (intOf (aU a_ 4)).toNat) ?_ ?_
   · refine ⟨0,ae,?_,ab,(e3.trans (bh (by first | omega | (rw [if_pos (by assumption)];rfl) | (rw [if_neg (by assumption)];rfl)))),(e4.trans (bh (by first | omega | (rw [if_pos (by assumption)];rfl) | (rw [if_neg (by assumption)];rfl)))),e1,e2,r0⟩
     · omega
   intro a6 w6 hI;obtain ⟨k,τ6,q0,st6,e3,e4,e1,e2,r0⟩:=hI;have hsl:=ns (f:=dp) hf0 k;have hss:k < t.kids.length→dp (nth t.kids (k:Int))≤de (t.kids.map dp)∧de ((t.kids.take (k+1)).map dp)=de ((t.kids.take k).map dp)+dp (nth t.kids (k:Int)):=fun h_=>⟨mO hf0 (cG (by omega) (by omega)),jY h_⟩
   have hs2:=ns (f:=dp) hf0 (k+1);have hpk:=hpm k;have hsp:(0:Int)≤(if t.k=5 then 1 else 0)∧(if t.k=5 then (1:Int) else 0)≤1:=by split <;> omega
   have m4:=e4;refine wp_seq ?_;refine wp_seq (yg [0,0,2,6,15] st6 [jb r0] ⟨ao e4,cb aq bC e1 r0.ptr,dq bU 1 0 7,am fun c=>cQ rfl aI (c.q 2) (hT.at st6.ext).tl.sl.sl,am fun c=>df rfl (c.q 0) (c.q 3),ax⟩ fun ac ag ae ab aa=> ?_);obtain ⟨e1,e2,e3,e4⟩:=aa.k4 e1 e2 e3 e4;have e12:=aa.V 4;replace r0:=aa.B 0;refine wp_cond_split e12 (fun hc2=> ?_) (fun hc2=> ?_)
   · try simp only [ai] at hc2
     refine wp_skip ?_;refine wp_seq ?_;refine wp_block ?_;refine qQ [0,0,2,0,14,30,62,127,255] ab [jb r0] ⟨ao e3,cb aq bC e1 r0.ptr,dq bU 1 0 7,ao e4,am fun c=>aK rfl aI ak (c.q 2) (hT.at ab.ext).tl.sl.sl (c.q 3) (by omega) (by omega),am fun c=>cM (vs:=(tc (nth t.kids (k:Int)))) rfl aD ak (c.q 4) rfl (fun _ _ hj=>((hT.at (ab.ext.trans c.J.ext)).tl.sl).elem (bo (i:=(k:Int)) (by omega) (by omega)) hj),dR fun c=>⟨_,_,(bj rfl rfl jF (c.q 5)),ih _ (cG (by omega) (by omega)) _ ((hT.at (ab.ext.trans c.J.ext)).tl.el (by omega) (by omega)) (by omega)⟩,am fun c=>cP rfl (c.q 0) (c.q 6) (by omega),aG 7,ax⟩ fun ac ag ae ab aa=> ?_;obtain ⟨e1,e2,e4,e12⟩:=aa.k4 e1 e2 e4 e12;have e3:=aa.V 8;replace r0:=aa.B 0;show _;refine eI ab [jb r0] ⟨ao e4,am fun c=>cP rfl (c.q 0) rfl (by omega),aG 1,ax⟩ fun ac ag ae ab aa=> ?_;obtain ⟨e1,e2,e3,e12⟩:=aa.k4 e1 e2 e3 e12;have e4:=aa.V 2;replace r0:=aa.B 0;refine ⟨⟨k+1,ae,?_,ab,(e3.trans (bh (by first | omega | (rw [if_pos (by assumption)];rfl) | (rw [if_neg (by assumption)];rfl)))),(e4.trans (bh (by first | omega | (rw [if_pos (by assumption)];rfl) | (rw [if_neg (by assumption)];rfl)))),e1,e2,r0⟩,?_⟩
     · omega
     · simp only [m4,e4,intOf];omega
   try simp only [ah,aX] at hc2
   refine wp_exit ?_;repeat (with_reducible refine ce ?_)
   refine ci ?_;refine wp_seq (es ab [jb r0] ⟨ao e3,aG 0,ax⟩ fun ac ag ae ab aa=> ?_);have e2:=aa.V 1;refine wp_ret ?_;refine rp ?_;refine cC (fn:=Tryz.f74) rfl ab.defers e2 ?_;have htk:de ((t.kids.take k).map dp)=de (t.kids.map dp):=by rw [bB (by omega)]
   exact ⟨congrArg _ (bh (by omega)),ab.ext0⟩
 try simp only [ah] at hc1
 refine wp_skip ?_;refine wp_seq ?_;refine wp_seq (en ab [jb r0] ⟨am fun c=>au rfl rfl,ax⟩ fun ac ag ae ab aa=> ?_);obtain ⟨e1,e2,e3⟩:=aa.k3 e1 e2 e3;have e4:=aa.V 0;replace r0:=aa.B 0;refine wp_block ?_;refine wp_loop (fun a_ w_=>∃(k:Nat) (τ:Nat→aQ),(k≤t.kids.length)∧
      St (Nw w) w 24 a_ w_ τ∧
      aU a_ 3=(aj ((if t.k=5 then 1 else 0)+de ((t.kids.take k).map dp)))∧
      aU a_ 4=(aj (k:Int))∧
      aU a_ 1=b1x1∧
      aU a_ 2=(aj 0)∧
      cd 25 (tc t) (τ 0) b1x1 w_) (fun a_ _=>t.kids.length - (intOf (aU a_ 4)).toNat) ?_ ?_
 · refine ⟨0,ae,?_,ab,(e3.trans (bh (by first | omega | (rw [if_pos (by assumption)];rfl) | (rw [if_neg (by assumption)];rfl)))),(e4.trans (bh (by first | omega | (rw [if_pos (by assumption)];rfl) | (rw [if_neg (by assumption)];rfl)))),e1,e2,r0⟩
   · omega
 intro a12 w12 hI;obtain ⟨k,τ12,q0,st12,e3,e4,e1,e2,r0⟩:=hI;have hsl:=ns (f:=dp) hf0 k;have hss:k < t.kids.length→dp (nth t.kids (k:Int))≤de (t.kids.map dp)∧de ((t.kids.take (k+1)).map dp)=de ((t.kids.take k).map dp)+dp (nth t.kids (k:Int)):=fun h_=>⟨mO hf0 (cG (by omega) (by omega)),jY h_⟩
 have hs2:=ns (f:=dp) hf0 (k+1);have hpk:=hpm k;have hsp:(0:Int)≤(if t.k=5 then 1 else 0)∧(if t.k=5 then (1:Int) else 0)≤1:=by split <;> omega
 have m4:=e4;refine wp_seq ?_;refine wp_seq (yg [0,0,2,6,15] st12 [jb r0] ⟨ao e4,cb aq bC e1 r0.ptr,dq bU 1 0 7,am fun c=>cQ rfl aI (c.q 2) (hT.at st12.ext).tl.sl.sl,am fun c=>df rfl (c.q 0) (c.q 3),ax⟩ fun ac ag ae ab aa=> ?_);obtain ⟨e1,e2,e3,e4⟩:=aa.k4 e1 e2 e3 e4;have e12:=aa.V 4;replace r0:=aa.B 0;refine wp_cond_split e12 (fun hc3=> ?_) (fun hc3=> ?_)
 · try simp only [ai] at hc3
   refine wp_skip ?_;refine wp_seq ?_;refine wp_block ?_;refine qQ [0,0,2,0,14,30,62,127,255] ab [jb r0] ⟨ao e3,cb aq bC e1 r0.ptr,dq bU 1 0 7,ao e4,am fun c=>aK rfl aI ak (c.q 2) (hT.at ab.ext).tl.sl.sl (c.q 3) (by omega) (by omega),am fun c=>cM (vs:=(tc (nth t.kids (k:Int)))) rfl aD ak (c.q 4) rfl (fun _ _ hj=>((hT.at (ab.ext.trans c.J.ext)).tl.sl).elem (bo (i:=(k:Int)) (by omega) (by omega)) hj),dR fun c=>⟨_,_,(bj rfl rfl jF (c.q 5)),ih _ (cG (by omega) (by omega)) _ ((hT.at (ab.ext.trans c.J.ext)).tl.el (by omega) (by omega)) (by omega)⟩,am fun c=>cP rfl (c.q 0) (c.q 6) (by omega),aG 7,ax⟩ fun ac ag ae ab aa=> ?_;obtain ⟨e1,e2,e4,e12⟩:=aa.k4 e1 e2 e4 e12;have e3:=aa.V 8;replace r0:=aa.B 0;show _;refine eI ab [jb r0] ⟨ao e4,am fun c=>cP rfl (c.q 0) rfl (by omega),aG 1,ax⟩ fun ac ag ae ab aa=> ?_;obtain ⟨e1,e2,e3,e12⟩:=aa.k4 e1 e2 e3 e12;have e4:=aa.V 2;replace r0:=aa.B 0;refine ⟨⟨k+1,ae,?_,ab,(e3.trans (bh (by first | omega | (rw [if_pos (by assumption)];rfl) | (rw [if_neg (by assumption)];rfl)))),(e4.trans (bh (by first | omega | (rw [if_pos (by assumption)];rfl) | (rw [if_neg (by assumption)];rfl)))),e1,e2,r0⟩,?_⟩
   · omega
   · simp only [m4,e4,intOf];omega
 try simp only [ah,aX] at hc3
 refine wp_exit ?_;repeat (with_reducible refine ce ?_)
 refine ci ?_;refine wp_seq (es ab [jb r0] ⟨ao e3,aG 0,ax⟩ fun ac ag ae ab aa=> ?_);have e2:=aa.V 1;refine wp_ret ?_;refine rp ?_;refine cC (fn:=Tryz.f74) rfl ab.defers e2 ?_;have htk:de ((t.kids.take k).map dp)=de (t.kids.map dp):=by rw [bB (by omega)]
 exact ⟨congrArg _ (bh (by omega)),ab.ext0⟩
theorem kG (t:Tr):∀(w:World),mc w t→cg t≤1000000000→Calls Tryz.prog 74 #[t.v] w (fun e w'=>e= .returned (.int .i64 (dp t))∧Ext aY w w'):=Tr.ind (P:=fun t=>∀(w:World),mc w t→cg t≤1000000000→Calls Tryz.prog 74 #[t.v] w (fun e w'=>e= .returned (.int .i64 (dp t))∧Ext aY w w')) pJ t
set_option maxRecDepth 100000 in
theorem CC (n:Int) (w:World):Calls Tryz.prog 56 #[(aj n)] w (fun e w'=>e= .returned (aA (decide (n=5) || decide (n=6)))∧Ext aY w w'):=by
 refine enter (n:=9) Tryz.func56 rfl rfl (aw rfl) ?_;intro a0 τ0 ha st0;have e0:=nf ha;refine wp_seq (en st0 [] ⟨am fun c=>au rfl rfl,ax⟩ fun ac ag ae ab aa=> ?_);replace e0:=aa.k1 e0;have e2:=aa.V 0;refine wp_seq (vN ab [] ⟨ao e0,am fun c=>bV rfl (c.q 0) rfl,bq 1,bu 2 rfl fun c hpc=>aJ rfl (c.p e0),bu 2 rfl fun c hpc=>bV rfl (c.M 3 hpc) rfl,dw 2 4,aG 5,ax⟩ fun ac ag ae ab aa=> ?_);have e2:=aa.V 6;refine wp_ret ?_;refine rp ?_;refine cC (fn:=Tryz.f56) rfl ab.defers e2 ?_;exact ⟨rfl,ab.ext0⟩
set_option maxRecDepth 100000 in
theorem rB (t:Tr) (ih:∀k ∈ t.kids,∀(w:World),mc w k→cg k≤1000000000→Calls Tryz.prog 67 #[k.v] w (fun e w'=>e= .returned (aj (eC k))∧Ext aY w w')) (w:World) (hT:mc w t) (hy0:cg t≤1000000000):Calls Tryz.prog 67 #[t.v] w (fun e w'=>e= .returned (aj (eC t))∧Ext aY w w'):=by
 refine enter (n:=31) Tryz.func67 rfl rfl (aw rfl) ?_;intro a0 τ0 ha st0;have e0:aU a0 0=(ta t):=ha 0 _ rfl;clear ha;have hle:=hT.kids.le;have hf1:∀q ∈ t.kids,0≤cg q:=fun q _=>by have:=iW q;omega
 have hgb:=qb t;have hpe:=li t;have hpm:∀k:Nat,k < t.kids.length→cg (nth t.kids (k:Int))≤1000000000:=fun k h_=>by
   have h1_:=mO hf1 (cG (xs:=t.kids) (i:=(k:Int)) (by omega) (by omega));have h2_:=gD t;omega
 refine wp_seq (rg [box _ _ 0 1 (tc t),_] [0,0] st0 [] ⟨fP (v:=(ta t)) rfl rfl rfl rfl rfl (fun _ _ _ _ c=>(c.p e0)),am fun c=>au rfl rfl,ax⟩ fun ac ag ae ab aa=> ?_);obtain ⟨b1x1,e1⟩:=gx ac 1;have e2:=aa.V 1;have r0:=aa.rb 0 e1 rfl;refine wp_seq (en ab [jb r0] ⟨am fun c=>au rfl rfl,ax⟩ fun ac ag ae ab aa=> ?_);obtain ⟨e1,e2⟩:=aa.k2 e1 e2;have e3:=aa.V 0;replace r0:=aa.B 0;refine wp_seq ?_;refine wp_seq (en ab [jb r0] ⟨am fun c=>au rfl rfl,ax⟩ fun ac ag ae ab aa=> ?_);obtain ⟨e1,e2,e3⟩:=aa.k3 e1 e2 e3;have e4:=aa.V 0;replace r0:=aa.B 0;refine wp_block ?_;refine wp_loop (fun a_ w_=>∃(k:Nat) (τ:Nat→aQ),(k≤t.kids.length)∧
      St (Nw w) w 31 a_ w_ τ∧
      aU a_ 3=(aj (kK ((t.kids.take k).map eC)))∧
      aU a_ 4=(aj (k:Int))∧
      aU a_ 1=b1x1∧
      aU a_ 2=(aj 0)∧
      cd 25 (tc t) (τ 0) b1x1 w_) (fun a_ _=>t.kids.length - (intOf (aU a_ 4)).toNat) ?_ ?_
 · refine ⟨0,ae,?_,ab,(e3.trans (bh (by first | omega | rfl | exact (nR (by omega)).symm))),(e4.trans (bh (by first | omega | rfl | exact (nR (by omega)).symm))),e1,e2,r0⟩
   · omega
 intro a4 w4 hI;obtain ⟨k,τ4,q0,st4,e3,e4,e1,e2,r0⟩:=hI;have hpk:=hpm k;have m4:=e4;refine wp_seq ?_;refine wp_seq (yg [0,0,2,6,15] st4 [jb r0] ⟨ao e4,cb aq bC e1 r0.ptr,dq bU 1 0 7,am fun c=>cQ rfl aI (c.q 2) (hT.at st4.ext).tl.sl.sl,am fun c=>df rfl (c.q 0) (c.q 3),ax⟩ fun ac ag ae ab aa=> ?_);obtain ⟨e1,e2,e3,e4⟩:=aa.k4 e1 e2 e3 e4;have e9:=aa.V 4;replace r0:=aa.B 0;refine wp_cond_split e9 (fun hc1=> ?_) (fun hc1=> ?_)
 · try simp only [ai] at hc1
   refine wp_skip ?_;refine wp_seq ?_;refine wp_block ?_;refine qQ [0,0,2,0,14,30,62,127,255] ab [jb r0] ⟨ao e3,cb aq bC e1 r0.ptr,dq bU 1 0 7,ao e4,am fun c=>aK rfl aI ak (c.q 2) (hT.at ab.ext).tl.sl.sl (c.q 3) (by omega) (by omega),am fun c=>cM (vs:=(tc (nth t.kids (k:Int)))) rfl aD ak (c.q 4) rfl (fun _ _ hj=>((hT.at (ab.ext.trans c.J.ext)).tl.sl).elem (bo (i:=(k:Int)) (by omega) (by omega)) hj),dR fun c=>⟨_,_,(bj rfl rfl Tryz.call67 (c.q 5)),ih _ (cG (by omega) (by omega)) _ ((hT.at (ab.ext.trans c.J.ext)).tl.el (by omega) (by omega)) (by omega)⟩,am fun c=>zu rfl (c.q 0) (c.q 6),aG 7,ax⟩ fun ac ag ae ab aa=> ?_;obtain ⟨e1,e2,e4,e9⟩:=aa.k4 e1 e2 e4 e9;have e3:=aa.V 8;replace r0:=aa.B 0;show _;refine eI ab [jb r0] ⟨ao e4,am fun c=>cP rfl (c.q 0) rfl (by omega),aG 1,ax⟩ fun ac ag ae ab aa=> ?_;obtain ⟨e1,e2,e3,e9⟩:=aa.k4 e1 e2 e3 e9;have e4:=aa.V 2;replace r0:=aa.B 0;refine ⟨⟨k+1,ae,?_,ab,(e3.trans (bh (by first | omega | rfl | exact (nR (by omega)).symm))),(e4.trans (bh (by first | omega | rfl | exact (nR (by omega)).symm))),e1,e2,r0⟩,?_⟩
   · omega
   · simp only [m4,e4,intOf];omega
 try simp only [ah,aX] at hc1
 refine wp_exit ?_;repeat (with_reducible refine ce ?_)
 refine ci ?_;refine wp_seq ?_;refine wp_seq (vX ab [jb r0] ⟨cb aq ar e1 r0.ptr,dq aC 0 0 0,am fun c=>bV rfl (c.q 1) rfl,bq 2,bu 3 rfl fun c hpc=>cF rfl aq ar ((c.p e1).trans r0.ptr),bu 3 rfl fun c hpc=>ay rfl aC (c.M 4 hpc) ((c.B 0).cell (j:=0) rfl),bu 3 rfl fun c hpc=>bV rfl (c.M 5 hpc) rfl,dw 3 6,ax⟩ fun ac ag ae ab aa=> ?_);obtain ⟨e2,e3⟩:=aa.k2 e2 e3;have e27:=aa.V 7;refine wp_cond_split e27 (fun hc2=> ?_) (fun hc2=> ?_)
 · have hd2:=hc2;try simp only [aO,ai] at hd2
   have hmp:=nr ((t.kids.take k).map eC);have hmd:kK ((t.kids.take k).map eC)≤1000000000:=by rw [bB (by omega)];have h_:(0:Int)≤(if oH t=true then 1 else 0):=(by split <;> omega);omega
   refine eI ab [] ⟨ao e3,am fun c=>cP rfl (c.q 0) rfl (by omega),aG 1,ax⟩ fun ac ag ae ab aa=> ?_;replace e2:=aa.k1 e2;have e3:=aa.V 2;refine wp_seq (es ab [] ⟨ao e3,aG 0,ax⟩ fun ac ag ae ab aa=> ?_);have e2:=aa.V 1;refine wp_ret ?_;refine rp ?_;refine cC (fn:=Tryz.f67) rfl ab.defers e2 ?_;have htk:kK ((t.kids.take k).map eC)=kK (t.kids.map eC):=by rw [bB (by omega)]
   exact ⟨congrArg _ (bh (by rw [hpe,htk];unfold oH;first | (rw [if_pos (by simpa using (by assumption))]) | (rw [if_neg (by simpa using (by assumption))];omega))),ab.ext0⟩
 have hd2:=hc2;try simp only [aF,ah] at hd2
 refine wp_skip ?_;refine wp_seq (es ab [] ⟨ao e3,aG 0,ax⟩ fun ac ag ae ab aa=> ?_);have e2:=aa.V 1;refine wp_ret ?_;refine rp ?_;refine cC (fn:=Tryz.f67) rfl ab.defers e2 ?_;have htk:kK ((t.kids.take k).map eC)=kK (t.kids.map eC):=by rw [bB (by omega)]
 exact ⟨congrArg _ (bh (by rw [hpe,htk];unfold oH;first | (rw [if_pos (by simpa using (by assumption))]) | (rw [if_neg (by simpa using (by assumption))];omega))),ab.ext0⟩
theorem yA (t:Tr):∀(w:World),mc w t→cg t≤1000000000→Calls Tryz.prog 67 #[t.v] w (fun e w'=>e= .returned (.int .i64 (eC t))∧Ext aY w w'):=Tr.ind (P:=fun t=>∀(w:World),mc w t→cg t≤1000000000→Calls Tryz.prog 67 #[t.v] w (fun e w'=>e= .returned (.int .i64 (eC t))∧Ext aY w w')) rB t
end
section
open Go.RowKit
open Srt
def jL (ch:ByteArray) (ng:Bool) (rows:List Rw) (mn mx:Int) (lz:Bool):Bool:=((((iA ch (⟨#[]⟩:ByteArray)&& !ng)&&decide ((rows.length:Int)=0))&&decide (mn=0))&&decide (mx=0))&& !lz
set_option maxRecDepth 100000 in
theorem kL (k:Int) (ch:ByteArray) (ng:Bool) (rv:Value) (rows:List (ByteArray × ByteArray)) (mn mx:Int) (lz:Bool) (kv:Value) (ho:kv.oneCell'=true) (w:World) (hS:SlT iG w rv rows):Calls Tryz.prog 99 #[(.agg #[(aj k),(aS ch),(aA ng),rv,(aj mn),(aj mx),(aA lz),kv])] w (fun e w'=>e= .returned (aA (jL ch ng rows mn mx lz))∧Ext aY w w'):=by
 refine enter (n:=32) Tryz.func99 rfl rfl (aw rfl) ?_;intro a0 τ0 ha st0;have e0:aU a0 0=(.agg #[(aj k),(aS ch),(aA ng),rv,(aj mn),(aj mx),(aA lz),kv]):=ha 0 _ rfl;clear ha;refine wp_seq (rg [box _ _ 0 1 [(aj k),(aS ch),(aA ng),rv,(aj mn),(aj mx),(aA lz),kv],_] [0,0] st0 [] ⟨fP (v:=(.agg #[(aj k),(aS ch),(aA ng),rv,(aj mn),(aj mx),(aA lz),kv])) rfl rfl rfl rfl rfl (fun _ _ _ _ c=>(c.p e0)),am fun c=>au rfl rfl,ax⟩ fun ac ag ae ab aa=> ?_);obtain ⟨b1x1,e1⟩:=gx ac 1;have e2:=aa.V 1;have r0:=aa.rb 0 e1 rfl;refine wp_seq (rg [_,_,_,_,_,_,_,_,_,_,_,_,_,_,_,_,_,_,_,_,_,_,_,_,_,_,_,_,_,_] [0,1,3,7,15,31,63,127,255,511,1023,2047,4095,8191,16383,32767,65535,131071,262143,524287,1048575,2097151,4194303,8388607,16777215,33554431,67108863,134217727,268435455,536870911] ab [jb r0] ⟨cb aq aZ e1 r0.ptr,dq bG 0 0 1,am fun c=>gh rfl (c.q 1) rfl,bq 2,aE 3 rfl fun c hpc=>cF rfl aq bc ((c.p e1).trans r0.ptr),aE 3 rfl fun c hpc=>ay rfl co (c.M 4 hpc) ((c.B 0).cell (j:=2) rfl),aE 3 rfl fun c hpc=>dP rfl (c.M 5 hpc),bN 3 6,bq 7,aE 8 rfl fun c hpc=>cF rfl aq eU ((c.p e1).trans r0.ptr),aE 8 rfl fun c hpc=>ay rfl jS (c.M 9 hpc) ((c.B 0).cell (j:=3) rfl),aE 8 rfl fun c hpc=>cQ rfl ba (c.M 10 hpc) hS.sl,aE 8 rfl fun c hpc=>bV rfl (c.M 11 hpc) rfl,bN 8 12,bq 13,aE 14 rfl fun c hpc=>cF rfl aq ar ((c.p e1).trans r0.ptr),aE 14 rfl fun c hpc=>ay rfl aC (c.M 15 hpc) ((c.B 0).cell (j:=4) rfl),aE 14 rfl fun c hpc=>bV rfl (c.M 16 hpc) rfl,bN 14 17,bq 18,aE 19 rfl fun c hpc=>cF rfl aq ar ((c.p e1).trans r0.ptr),aE 19 rfl fun c hpc=>ay rfl aC (c.M 20 hpc) ((c.B 0).cell (j:=5) rfl),aE 19 rfl fun c hpc=>bV rfl (c.M 21 hpc) rfl,bN 19 22,bq 23,aE 24 rfl fun c hpc=>cF rfl aq bc ((c.p e1).trans r0.ptr),aE 24 rfl fun c hpc=>ay rfl co (c.M 25 hpc) ((c.B 0).cell (j:=6) rfl),aE 24 rfl fun c hpc=>dP rfl (c.M 26 hpc),bN 24 27,aG 28,ax⟩ fun ac ag ae ab aa=> ?_);have e2:=aa.V 29;refine wp_ret ?_;refine rp ?_;refine cC (fn:=Tryz.f99) rfl ab.defers e2 ?_;exact ⟨rfl,ab.ext0⟩
set_option maxRecDepth 100000 in
theorem gQ (k:Int) (ch:ByteArray) (ng:Bool) (rv:Value) (rows:List (ByteArray × ByteArray)) (mn mx:Int) (lz:Bool) (kv:Value) (ho:kv.oneCell'=true) (w:World) (hS:SlT iG w rv rows):Calls Tryz.prog 85 #[(.agg #[(aj k),(aS ch),(aA ng),rv,(aj mn),(aj mx),(aA lz),kv])] w (fun e w'=>e= .returned (aA (jL ch ng rows mn mx lz))∧Ext aY w w'):=by
 refine enter (n:=32) Tryz.func85 rfl rfl (aw rfl) ?_;intro a0 τ0 ha st0;have e0:aU a0 0=(.agg #[(aj k),(aS ch),(aA ng),rv,(aj mn),(aj mx),(aA lz),kv]):=ha 0 _ rfl;clear ha;refine wp_seq (rg [box _ _ 0 1 [(aj k),(aS ch),(aA ng),rv,(aj mn),(aj mx),(aA lz),kv],_] [0,0] st0 [] ⟨fP (v:=(.agg #[(aj k),(aS ch),(aA ng),rv,(aj mn),(aj mx),(aA lz),kv])) rfl rfl rfl rfl rfl (fun _ _ _ _ c=>(c.p e0)),am fun c=>au rfl rfl,ax⟩ fun ac ag ae ab aa=> ?_);obtain ⟨b1x1,e1⟩:=gx ac 1;have e2:=aa.V 1;have r0:=aa.rb 0 e1 rfl;refine wp_seq (rg [_,_,_,_,_,_,_,_,_,_,_,_,_,_,_,_,_,_,_,_,_,_,_,_,_,_,_,_,_,_] [0,1,3,7,15,31,63,127,255,511,1023,2047,4095,8191,16383,32767,65535,131071,262143,524287,1048575,2097151,4194303,8388607,16777215,33554431,67108863,134217727,268435455,536870911] ab [jb r0] ⟨cb aq aZ e1 r0.ptr,dq bG 0 0 1,am fun c=>gh rfl (c.q 1) rfl,bq 2,aE 3 rfl fun c hpc=>cF rfl aq bc ((c.p e1).trans r0.ptr),aE 3 rfl fun c hpc=>ay rfl co (c.M 4 hpc) ((c.B 0).cell (j:=2) rfl),aE 3 rfl fun c hpc=>dP rfl (c.M 5 hpc),bN 3 6,bq 7,aE 8 rfl fun c hpc=>cF rfl aq eU ((c.p e1).trans r0.ptr),aE 8 rfl fun c hpc=>ay rfl jS (c.M 9 hpc) ((c.B 0).cell (j:=3) rfl),aE 8 rfl fun c hpc=>cQ rfl ba (c.M 10 hpc) hS.sl,aE 8 rfl fun c hpc=>bV rfl (c.M 11 hpc) rfl,bN 8 12,bq 13,aE 14 rfl fun c hpc=>cF rfl aq ar ((c.p e1).trans r0.ptr),aE 14 rfl fun c hpc=>ay rfl aC (c.M 15 hpc) ((c.B 0).cell (j:=4) rfl),aE 14 rfl fun c hpc=>bV rfl (c.M 16 hpc) rfl,bN 14 17,bq 18,aE 19 rfl fun c hpc=>cF rfl aq ar ((c.p e1).trans r0.ptr),aE 19 rfl fun c hpc=>ay rfl aC (c.M 20 hpc) ((c.B 0).cell (j:=5) rfl),aE 19 rfl fun c hpc=>bV rfl (c.M 21 hpc) rfl,bN 19 22,bq 23,aE 24 rfl fun c hpc=>cF rfl aq bc ((c.p e1).trans r0.ptr),aE 24 rfl fun c hpc=>ay rfl co (c.M 25 hpc) ((c.B 0).cell (j:=6) rfl),aE 24 rfl fun c hpc=>dP rfl (c.M 26 hpc),bN 24 27,aG 28,ax⟩ fun ac ag ae ab aa=> ?_);have e2:=aa.V 29;refine wp_ret ?_;refine rp ?_;refine cC (fn:=Tryz.f85) rfl ab.defers e2 ?_;exact ⟨rfl,ab.ext0⟩
end
section
open Go.RowKit
open Srt
theorem nW {s:ByteArray} (h:iA s (⟨#[]⟩:ByteArray)=false):(0:Int) < (s.size:Int):=by
  have hl:=iH s;rw [zB] at h;cases hb:bs s with
  | nil =>
    have:s.data.toList=[]:=hb;rw [this] at h;simp at h
  | cons b l => rw [hb] at hl; simp at hl; omega
theorem rC {s:ByteArray} {k:Nat} (h:(decide ((k:Int)+1=(s.size:Int)) || md (ca s ((k:Int)+1)))=true):ja s (k+1)=((ja s k).1++ [s.extract (ja s k).2 (k+1)],k+1):=by
  rw [ja,lS,if_pos (by rw [show ((k+1:Nat):Int)=(k:Int)+1 by omega];exact h)]
theorem pK {s:ByteArray} {k:Nat} (h:(decide ((k:Int)+1=(s.size:Int)) || md (ca s ((k:Int)+1)))=false):ja s (k+1)=ja s k:=by
  rw [ja,lS,if_neg (by rw [show ((k+1:Nat):Int)=(k:Int)+1 by omega,h];decide)]
theorem xA {s:ByteArray} {k:Nat} (h:(decide ((k:Int)+1=(s.size:Int)) || md (ca s ((k:Int)+1)))=true):(ja s (k+1)).1=(ja s k).1++ [s.extract (ja s k).2 ((k:Int)+1).toNat]:=by
  rw [rC h];rfl
theorem uW {s:ByteArray} {k:Nat} (h:(decide ((k:Int)+1=(s.size:Int)) || md (ca s ((k:Int)+1)))=false):(ja s (k+1)).1=(ja s k).1:=by rw [pK h]
theorem mo {s:ByteArray} {k:Nat} (h:(decide ((k:Int)+1=(s.size:Int)) || md (ca s ((k:Int)+1)))=true):(ja s (k+1)).2=k+1:=by rw [rC h]
theorem kV {s:ByteArray} {k:Nat} (h:(decide ((k:Int)+1=(s.size:Int)) || md (ca s ((k:Int)+1)))=false):(ja s (k+1)).2=(ja s k).2:=by rw [pK h]
set_option maxRecDepth 100000 in
theorem uX (b:Int) (w:World):Calls Tryz.prog 54 #[.int .u8 b] w (fun e w'=>e= .returned (aA (ql b))∧Ext aY w w'):=by
 refine enter (n:=9) Tryz.func54 rfl rfl (aw rfl) ?_;intro a0 τ0 ha st0;have e0:=nf ha;refine wp_seq (en st0 [] ⟨am fun c=>au rfl rfl,ax⟩ fun ac ag ae ab aa=> ?_);replace e0:=aa.k1 e0;have e2:=aa.V 0;refine wp_seq (vN ab [] ⟨ao e0,am fun c=>gF rfl (c.q 0) rfl,bq 1,aE 2 rfl fun c hpc=>aJ rfl (c.p e0),aE 2 rfl fun c hpc=>ke rfl (c.M 3 hpc) rfl,bN 2 4,aG 5,ax⟩ fun ac ag ae ab aa=> ?_);have e2:=aa.V 6;refine wp_ret ?_;refine rp ?_;refine cC (fn:=Tryz.f54) rfl ab.defers e2 ?_;exact ⟨rfl,ab.ext0⟩
set_option maxRecDepth 100000 in
theorem ws (b:Int) (w:World):Calls Tryz.prog 57 #[.int .u8 b] w (fun e w'=>e= .returned (aA (md b))∧Ext aY w w'):=by
 refine enter (n:=9) Tryz.func57 rfl rfl (aw rfl) ?_;intro a0 τ0 ha st0;have e0:=nf ha;refine wp_seq (en st0 [] ⟨am fun c=>au rfl rfl,ax⟩ fun ac ag ae ab aa=> ?_);replace e0:=aa.k1 e0;have e2:=aa.V 0;refine wp_seq (vN ab [] ⟨ao e0,am fun c=>df rfl (c.q 0) rfl,bq 1,bu 2 rfl fun c hpc=>aJ rfl (c.p e0),bu 2 rfl fun c hpc=>iR rfl (c.M 3 hpc) rfl,dw 2 4,aG 5,ax⟩ fun ac ag ae ab aa=> ?_);have e2:=aa.V 6;refine wp_ret ?_;refine rp ?_;refine cC (fn:=Tryz.f57) rfl ab.defers e2 ?_;exact ⟨rfl,ab.ext0⟩
set_option maxRecDepth 100000 in
theorem An (s:ByteArray) (a:Nat) (w:World) (hs:s.size≤1000000000) (ha:a≤1000000000):Calls Tryz.prog 55 #[(aS s),(aj (a:Int))] w (fun e w'=>e= .returned (aj (endF s a:Nat))∧Ext aY w w'):=by
 refine enter (n:=20) Tryz.func55 rfl rfl (aw rfl) ?_;intro a0 τ0 ha st0;obtain ⟨e0,e1⟩:=qr ha;refine wp_seq (en st0 [] ⟨am fun c=>au rfl rfl,ax⟩ fun ac ag ae ab aa=> ?_);obtain ⟨e0,e1⟩:=aa.k2 e0 e1;have e4:=aa.V 0;refine wp_seq (eI ab [] ⟨ao e1,am fun c=>cP rfl (c.q 0) rfl (by omega),aG 1,ax⟩ fun ac ag ae ab aa=> ?_);obtain ⟨e0,e4⟩:=aa.k2 e0 e4;have e1:=aa.V 2;refine wp_seq ?_;refine wp_block ?_;refine wp_loop (fun a_ w_=>∃(m:Nat) (τ:Nat→aQ),(m+tw s m=a+1+tw s (a+1))∧
      (m≤1000000000+1)∧
      St (Nw w) w 20 a_ w_ τ∧
      aU a_ 1=(aj (m:Int))∧
      aU a_ 0=(aS s)∧
      aU a_ 4=(aj 0)) (fun a_ _=>s.size - (intOf (aU a_ 1)).toNat) ?_ ?_
 · refine ⟨a+1,ae,?_,?_,ab,(e1.trans (bh (by omega))),e0,e4⟩
   · rfl
   · omega
 intro a3 w3 hI;obtain ⟨m,τ3,q0,q1,st3,e1,e0,e4⟩:=hI;have m1:=e1;refine wp_seq ?_;refine wp_seq ?_;refine uE [0,0,2,7,15,31,31,127,255,511] st3 [] ⟨ao e1,ao e0,am fun c=>iF rfl bm (c.q 1),am fun c=>df rfl (c.q 0) (c.q 2),bq 3,aE 4 rfl fun c hpc=>aJ rfl (c.p e0),aE 4 rfl fun c hpc=>aJ rfl (c.p e1),aE 4 rfl fun c hpc=>gG rfl bm (c.M 5 hpc) (c.M 6 hpc) (by have hq0:=bt hpc;omega) (by have hq0:=bt hpc;omega),fx 4 true rfl fun c hpc=>⟨_,_,(bj rfl rfl Tryz.call54 (c.M 7 hpc)),uX (ca s (m:Int)) _⟩,bN 4 8,ax⟩ fun ac ag ae ab aa=> ?_;obtain ⟨e0,e1,e4⟩:=aa.k3 e0 e1 e4;have e16:=aa.V 9;refine wp_cond_split e16 (fun hc1=> ?_) (fun hc1=> ?_)
 · try simp only [av,ai] at hc1
   refine wp_skip ?_;refine wp_block ?_;refine eI ab [] ⟨ao e1,am fun c=>cP rfl (c.q 0) rfl (by omega),aG 1,ax⟩ fun ac ag ae ab aa=> ?_;obtain ⟨e0,e4,e16⟩:=aa.k3 e0 e4 e16;have e1:=aa.V 2;show _;refine ⟨⟨m+1,ae,?_,?_,ab,(e1.trans (bh (by omega))),e0,e4⟩,?_⟩
   · obtain ⟨c1_,c2_⟩:=(by assumption:(m:Int) < (s.size:Int)∧ql (ca s (m:Int))=true);rw [←q0,oX (by omega) c2_]
   · omega
   · simp only [m1,e1,intOf];omega
 try simp only [aM,ah,aX] at hc1
 refine wp_exit ?_;repeat (with_reducible refine ce ?_)
 refine ci ?_;refine wp_seq (es ab [] ⟨ao e1,aG 0,ax⟩ fun ac ag ae ab aa=> ?_);have e4:=aa.V 1;refine wp_ret ?_;refine rp ?_;refine cC (fn:=Tryz.f55) rfl ab.defers e4 ?_;have h_:(s.size:Int)≤(m:Int)∨ql (ca s (m:Int))=false:=by assumption
 have h2_:=tB (s:=s) (k:=m) (h_.elim (fun h=> .inl (by omega)) .inr);exact ⟨congrArg _ (bh (by unfold endF;omega)),ab.ext0⟩
set_option maxRecDepth 100000 in
theorem rD (s:ByteArray) (w:World) (hs:s.size≤1000000000):Calls Tryz.prog 29 #[(aS s)] w (fun e w'=>e= .returned (aA (dS s))∧Ext aY w w'):=by
 refine enter (n:=18) Tryz.func29 rfl rfl (aw rfl) ?_;intro a0 τ0 ha st0;have e0:=nf ha;refine wp_seq (en st0 [] ⟨am fun c=>au rfl rfl,ax⟩ fun ac ag ae ab aa=> ?_);replace e0:=aa.k1 e0;have e2:=aa.V 0;refine wp_seq ?_;refine rg [_,_,_,_,_,_,_,_,_,_,_,_,_,_,_,_] [0,1,3,7,15,31,63,127,255,511,1023,511,2559,8191,16383,32767] ab [] ⟨ao e0,am fun c=>lO rfl (c.q 0) rfl,bq 1,aE 2 rfl fun c hpc=>aJ rfl (c.p e0),aE 2 rfl fun c hpc=>gG rfl bm (c.M 3 hpc) rfl (by have hq0:=hpc;(try simp only [aB,az] at hq0);first | omega | exact nW (by assumption)) (by have hq0:=hpc;(try simp only [aB,az] at hq0);first | omega | exact nW (by assumption)),fx 2 true rfl fun c hpc=>⟨_,_,(bj rfl rfl Tryz.call54 (c.M 4 hpc)),uX (ca s 0) _⟩,aE 2 rfl fun c hpc=>dP rfl (c.M 5 hpc),bN 2 6,bq 7,aE 8 rfl fun c hpc=>aJ rfl (c.p e0),fx 8 true rfl fun c hpc=>⟨_,_,(cu rfl rfl Tryz.call55 (c.M 9 hpc) rfl),An s 0 _ (by have hq0:=hpc;(try simp only [av,aM,aB,az] at hq0);first | omega | exact nW (by assumption)) (by have hq0:=hpc;(try simp only [av,aM,aB,az] at hq0);first | omega | exact nW (by assumption))⟩,aE 8 rfl fun c hpc=>aJ rfl (c.p e0),aE 8 rfl fun c hpc=>iF rfl bm (c.M 11 hpc),aE 8 rfl fun c hpc=>bV rfl (c.M 10 hpc) (c.M 12 hpc),bN 8 13,aG 14,ax⟩ fun ac ag ae ab aa=> ?_;have e2:=aa.V 15;refine wp_ret ?_;refine rp ?_;refine cC (fn:=Tryz.f29) rfl ab.defers e2 ?_;exact ⟨congrArg _ (congrArg _ (yi s)),ab.ext0⟩
set_option maxRecDepth 100000 in
theorem tM (s:ByteArray) (w:World) (hs:s.size≤1000000000):Calls Tryz.prog 37 #[(aS s)] w (fun e w'=>∃v',e= .returned v'∧Ext aY w w'∧oP fi 9 w w' v' (cL s)):=by
 refine enter (n:=31) Tryz.func37 rfl rfl (aw rfl) ?_;intro a0 τ0 ha st0;have e0:=nf ha;refine wp_seq (en st0 [] ⟨am fun c=>au rfl rfl,ax⟩ fun ac ag ae ab aa=> ?_);replace e0:=aa.k1 e0;have e2:=aa.V 0;refine wp_seq (en ab [] ⟨am fun c=>au rfl rfl,ax⟩ fun ac ag ae ab aa=> ?_);obtain ⟨e0,e2⟩:=aa.k2 e0 e2;have e3:=aa.V 0;refine wp_seq (en ab [] ⟨am fun c=>au rfl rfl,ax⟩ fun ac ag ae ab aa=> ?_);obtain ⟨e0,e2,e3⟩:=aa.k3 e0 e2 e3;have e4:=aa.V 0;refine wp_seq ?_;refine wp_seq (en ab [] ⟨am fun c=>au rfl rfl,ax⟩ fun ac ag ae ab aa=> ?_);obtain ⟨e0,e2,e3,e4⟩:=aa.k4 e0 e2 e3 e4;have e5:=aa.V 0;refine wp_block ?_;refine wp_loop (fun a_ w_=>∃(k:Nat) (u:Value) (τ:Nat→aQ),(k≤s.size)∧
      St (Nw w) w 31 a_ w_ τ∧
      aU a_ 3=u∧
      aU a_ 4=(aj ((ja s k).2:Int))∧
      aU a_ 5=(aj ((k:Int)+1))∧
      aU a_ 0=(aS s)∧
      aU a_ 2=(.slice none 0 0)∧
      dM fi 9 ((ja s k).1) (τ 0) u w_) (fun a_ _=>s.size+1 - (intOf (aU a_ 5)).toNat) ?_ ?_
 · refine ⟨0,(.slice none 0 0),ae,?_,ab,e3,(e4.trans (bh (by first | omega | rfl | (rw [kV (by assumption)]) | (rw [mo (by assumption)];omega)))),(e5.trans (bh (by first | omega | rfl | (rw [kV (by assumption)]) | (rw [mo (by assumption)];omega)))),e0,e2,?_⟩
   · omega
   · exact dM.nil _ _ _ _
 intro a5 w5 hI;obtain ⟨k,u,τ5,q0,st5,e3,e4,e5,e0,e2,r0⟩:=hI;have hfr:=uJ s k;have hln:=oY s k;have m5:=e5;refine wp_seq ?_;refine wp_seq (lE [0,0,2,7] st5 [jo r0] ⟨ao e5,ao e0,am fun c=>iF rfl bm (c.q 1),am fun c=>ke rfl (c.q 0) (c.q 2),ax⟩ fun ac ag ae ab aa=> ?_);obtain ⟨e0,e2,e3,e4,e5⟩:=aa.k5 e0 e2 e3 e4 e5;have e9:=aa.V 3;replace r0:=aa.O 0;refine wp_cond_split e9 (fun hc1=> ?_) (fun hc1=> ?_)
 · try simp only [ai] at hc1
   refine wp_skip ?_;refine wp_seq ?_;refine wp_block ?_;refine wp_seq ?_;refine uE [0,0,2,7,15,31,31,127,255,511] ab [jo r0] ⟨ao e5,ao e0,am fun c=>iF rfl bm (c.q 1),am fun c=>bV rfl (c.q 0) (c.q 2),bq 3,bu 4 rfl fun c hpc=>aJ rfl (c.p e0),bu 4 rfl fun c hpc=>aJ rfl (c.p e5),bu 4 rfl fun c hpc=>gG rfl bm (c.M 5 hpc) (c.M 6 hpc) (by have hq0:=bn hpc;omega) (by have hq0:=bn hpc;omega),fx 4 false rfl fun c hpc=>⟨_,_,(bj rfl rfl Tryz.call57 (c.M 7 hpc)),ws (ca s ((k:Int)+1)) _⟩,dw 4 8,ax⟩ fun ac ag ae ab aa=> ?_;obtain ⟨e0,e2,e3,e4,e5,e9⟩:=aa.k6 e0 e2 e3 e4 e5 e9;have e21:=aa.V 9;replace r0:=aa.O 0;refine wp_cond_split e21 (fun hc2=> ?_) (fun hc2=> ?_)
   · have hd2:=hc2;try simp only [aO,ai] at hd2
     refine wp_seq ?_;refine rg [_,_,_,_,_,own fi 9 _ 1 27 ([s.extract ((ja s k).2:Int).toNat ((k:Int)+1).toNat]),own _ _ _ 0 28 _,own _ _ _ 0 3 _] [0,0,0,0,14,30,63,127] ab [jo r0] ⟨ao e3,ao e0,ao e4,ao e5,am fun c=>zA (s:=s) (p:=((ja s k).2:Int)) (q:=(k:Int)+1) rfl bm (c.q 1) (c.q 2) (c.q 3) (by omega) (by omega) (by omega),cX (cells:=#[(aS (s.extract ((ja s k).2:Int).toNat ((k:Int)+1).toNat))]) rfl rfl rfl rfl bd aZ Tryz.zeroValue9 rfl (by decide) (by decide) (fun _ _ _ _ c=>gq (c.n 4 rfl) (by kernel_rfl)) rfl,eH (t0:=3) rfl rfl rfl rfl bd (i:=Tryz.t9) rfl rfl rfl rfl (by simp only [maxLen];(try simp);omega) (by show _ * 16≤_;(try simp);omega) (fun _ _ _ _ c=>⟨c.ip 0 rfl e3,c.sm (c.n 0 rfl) e3,⟨_,rfl,(c.ro 5 rfl).1.sl⟩⟩),dx (t0:=28) rfl rfl rfl rfl rfl (.inr rfl) (fun _ _ _ _ c=>⟨c.ro 6 rfl,rfl⟩),ax⟩ fun ac ag ae ab aa=> ?_;obtain ⟨b8x27,e27⟩:=gx ac 27;obtain ⟨b8x3,e3⟩:=gx ac 3;obtain ⟨e0,e2,e4,e5,e9,e21⟩:=aa.k6 e0 e2 e4 e5 e9 e21;replace r0:=aa.ro 7 e3 rfl;have r1:=aa.ro 5 e27 rfl;refine es ab [jo r0,jo r1] ⟨ao e5,aG 0,ax⟩ fun ac ag ae ab aa=> ?_;obtain ⟨e0,e2,e3,e5,e9,e21⟩:=aa.k6 e0 e2 e3 e5 e9 e21;have e4:=aa.V 1;replace r0:=aa.O 0;replace r1:=aa.O 1;show _;refine eI ab [jo r0,jo r1] ⟨ao e5,am fun c=>cP rfl (c.q 0) rfl (by omega),aG 1,ax⟩ fun ac ag ae ab aa=> ?_;obtain ⟨e0,e2,e3,e4,e9,e21⟩:=aa.k6 e0 e2 e3 e4 e9 e21;have e5:=aa.V 2;replace r0:=aa.O 0;replace r1:=aa.O 1;refine ⟨⟨k+1,b8x3,ae,?_,ab,e3,(e4.trans (bh (by first | omega | rfl | (rw [kV (by assumption)]) | (rw [mo (by assumption)];omega)))),(e5.trans (bh (by first | omega | rfl | (rw [kV (by assumption)]) | (rw [mo (by assumption)];omega)))),e0,e2,?_⟩,?_⟩
     · omega
     · exact r0.cast (by first | exact xA (by assumption) | exact uW (by assumption))
     · simp only [m5,e5,intOf];omega
   have hd2:=hc2;try simp only [aF,ah] at hd2
   refine wp_skip ?_;show _;refine eI ab [jo r0] ⟨ao e5,am fun c=>cP rfl (c.q 0) rfl (by omega),aG 1,ax⟩ fun ac ag ae ab aa=> ?_;obtain ⟨e0,e2,e3,e4,e9,e21⟩:=aa.k6 e0 e2 e3 e4 e9 e21;have e5:=aa.V 2;replace r0:=aa.O 0;refine ⟨⟨k+1,u,ae,?_,ab,e3,(e4.trans (bh (by first | omega | rfl | (rw [kV (by assumption)]) | (rw [mo (by assumption)];omega)))),(e5.trans (bh (by first | omega | rfl | (rw [kV (by assumption)]) | (rw [mo (by assumption)];omega)))),e0,e2,?_⟩,?_⟩
   · omega
   · exact r0.cast (by first | exact xA (by assumption) | exact uW (by assumption))
   · simp only [m5,e5,intOf];omega
 try simp only [ah,ef] at hc1
 refine wp_exit ?_;repeat (with_reducible refine ce ?_)
 refine ci ?_;refine wp_seq (es ab [jo r0] ⟨ao e3,aG 0,ax⟩ fun ac ag ae ab aa=> ?_);have e2:=aa.V 1;replace r0:=aa.O 0;refine wp_ret ?_;refine rp ?_;refine cC (fn:=Tryz.f37) rfl ab.defers e2 ?_;replace r0:=r0.cast (show cL s=_ from by rw [cL,show s.size=k by omega]);exact ⟨_,rfl,ab.ext0,r0.1,fun g_ h_=>(ab.bnd _ g_ (r0.2 g_ h_)).1⟩
set_option maxRecDepth 100000 in
theorem jM (s:ByteArray) (w:World) (hs:s.size≤1000000000):Calls Tryz.prog 86 #[(aS s)] w (fun e w'=>e= .returned (aA (dS s))∧Ext aY w w'):=by
 refine enter (n:=17) Tryz.func86 rfl rfl (aw rfl) ?_;intro a0 τ0 ha st0;have e0:=nf ha;refine wp_seq (en st0 [] ⟨am fun c=>au rfl rfl,ax⟩ fun ac ag ae ab aa=> ?_);replace e0:=aa.k1 e0;have e2:=aa.V 0;refine wp_seq ?_;refine rg [_,_,_,_,_,_,_,_,_,_,gown (((decide (0 < (s.size:Int)))&&(md (ca s 0)))=true) fi 9 (Nw w) 0 13 (cL s),_,_,_,_] [0,1,3,7,15,31,63,127,255,511,1023,2047,4095,8191,16383] ab [] ⟨ao e0,am fun c=>iF rfl bm (c.q 0),am fun c=>iR rfl (c.q 1) rfl,bq 2,aE 3 rfl fun c hpc=>aJ rfl (c.p e0),aE 3 rfl fun c hpc=>gG rfl bm (c.M 4 hpc) rfl (by have hq0:=bt hpc;omega) (by have hq0:=bt hpc;omega),fx 3 true rfl fun c hpc=>⟨_,_,(bj rfl rfl Tryz.call57 (c.M 5 hpc)),ws (ca s 0) _⟩,bN 3 6,bq 7,aE 8 rfl fun c hpc=>aJ rfl (c.p e0),tq (gi:=8) (tg:=11) rfl rfl rfl rfl rfl rfl Iff.rfl (fun hpc=>qJ rfl rfl rfl (fun _ a_ _ _ c=>⟨_,_,(bj rfl rfl Tryz.call37 (c.M 9 hpc)),tM s _ (by have hq0:=hpc;(try simp only [av,ai] at hq0);omega)⟩)),aE 8 rfl fun c hpc=>cQ rfl bd rfl (c.rg 10 rfl hpc).isSl,aE 8 rfl fun c hpc=>bV rfl (c.M 11 hpc) rfl,bN 8 12,aG 13,ax⟩ fun ac ag ae ab aa=> ?_;have e2:=aa.V 14;refine wp_ret ?_;refine rp ?_;refine cC (fn:=Tryz.f86) rfl ab.defers e2 ?_;exact ⟨congrArg _ (congrArg _ (tC s)),ab.ext0⟩
end
section
open Srt
def qn (s:ByteArray) (k:Int):Bool:=decide (k=(s.size:Int)) || md (ca s k)
def sg (s:ByteArray):Nat→List Int
  | 0 => [0]
  | k + 1 => if qn s ((k : Int) + 1) = true then sg s k ++ [((k : Nat) : Int) + 1] else sg s k
def dQ (s:ByteArray):List Int:=sg s s.size
theorem pj {s:ByteArray} {k:Nat} (h:qn s ((k:Int)+1)=true):sg s (k+1)=sg s k++ [((k:Nat):Int)+1]:=by rw [sg,if_pos h]
theorem nC {s:ByteArray} {k:Nat} (h:qn s ((k:Int)+1)=false):sg s (k+1)=sg s k:=by rw [sg,if_neg (by rw [h];decide)]
theorem Ao {s:ByteArray} {k:Nat} (h:qn s ((k:Int)+1)=true):ja s (k+1)=((ja s k).1++ [s.extract (ja s k).2 (k+1)],k+1):=rC h
theorem Ap {s:ByteArray} {k:Nat} (h:qn s ((k:Int)+1)=false):ja s (k+1)=ja s k:=pK h
theorem tN (s:ByteArray) (k:Nat):(sg s k).length=(ja s k).1.length+1:=by
  induction k with
  | zero => rfl
  | succ k ih =>
    cases h:qn s ((k:Int)+1) with
    | true => rw [pj h, Ao h]; simp [ih]
    | false => rw [nC h, Ap h, ih]
theorem rE (s:ByteArray):(dQ s).length=(cL s).length+1:=tN s s.size
theorem lq {s:ByteArray} {p:Nat} (h:p < s.size):p < endF s p∧endF s p≤s.size:=by
  have:=FI s (p+1) (by omega);unfold endF;omega
theorem Aq {s:ByteArray} {p m:Nat} (h:p < s.size) (h1:p < m) (h2:m < endF s p):qn s (m:Int)=false:=by
  have h3:∀d,p+1+d < endF s p→(p+1+d < s.size∧ql (ca s ((p+1+d:Nat):Int))=true)∧(p+1+d)+1+tw s (p+1+d+1)=endF s p:=by
    intro d;induction d with
    | zero =>
      intro hd;have hs:p+1 < s.size:=by have:=(lq h).2;omega
      have hb:ql (ca s ((p+1:Nat):Int))=true:=by
        cases hb:ql (ca s ((p+1:Nat):Int)) with
        | true => rfl
        | false =>
          have:=tB (s:=s) (k:=p+1) (.inr hb);unfold endF at hd;omega
      refine ⟨⟨hs,hb⟩,?_⟩;have:=oX hs hb;exact this.symm
    | succ d ih =>
      intro hd;obtain ⟨⟨i1,i2⟩,i3⟩:=ih (by omega);have hs:p+1+(d+1) < s.size:=by have:=(lq h).2;omega
      have hb:ql (ca s ((p+1+(d+1):Nat):Int))=true:=by
        cases hb:ql (ca s ((p+1+(d+1):Nat):Int)) with
        | true => rfl
        | false =>
          have:=tB (s:=s) (k:=p+1+(d+1)) (.inr hb);have e:p+1+d+1=p+1+(d+1):=by omega
          rw [e] at i3;omega
      refine ⟨⟨hs,hb⟩,?_⟩;have:=oX hs hb;have e:p+1+d+1=p+1+(d+1):=by omega
      rw [e] at i3;omega
  obtain ⟨d,rfl⟩:∃d,m=p+1+d:=⟨m - (p+1),by omega⟩;obtain ⟨⟨h4,h5⟩,_⟩:=h3 d h2;unfold qn;rw [mL,h5];simp;omega
theorem CD {s:ByteArray} {p:Nat} (h:p < s.size):qn s (endF s p:Int)=true:=by
  unfold qn;by_cases he:endF s p=s.size
  · rw [he];simp
  · have hlt:endF s p < s.size:=by have:=(lq h).2;omega
    have hb:ql (ca s (endF s p:Int))=false:=by
      cases hb:ql (ca s (endF s p:Int)) with
      | false => rfl
      | true =>
        have h1:=oX hlt hb;have h3:∀d,p+1+d≤endF s p→p+1+d+tw s (p+1+d)=endF s p:=by
          intro d;induction d with
          | zero => intro _; rfl
          | succ d ih =>
            intro hd;have i:=ih (by omega);have hx:=Aq h (m:=p+1+d) (by omega) (by omega);have hy:ql (ca s ((p+1+d:Nat):Int))=true:=by
              unfold qn at hx;rw [aF,mL] at hx;simpa using hx.2
            have:=oX (s:=s) (k:=p+1+d) (by have:=(lq h).2;omega) hy;have e:p+1+d+1=p+1+(d+1):=by omega
            rw [e] at this;omega
        have:=h3 (endF s p - (p+1)) (by have:=(lq h).1;omega);have e:p+1+(endF s p - (p+1))=endF s p:=by have:=(lq h).1;omega
        rw [e] at this
        omega
    rw [mL,hb];simp
theorem uY {s:ByteArray} {p:Nat} (h:p < s.size) (hs:(ja s p).2=p):ja s (endF s p)=((ja s p).1++ [s.extract p (endF s p)],endF s p)∧sg s (endF s p)=sg s p++ [(endF s p:Int)]:=by
  have h1:∀d,p+d < endF s p→ja s (p+d)=ja s p∧sg s (p+d)=sg s p:=by
    intro d;induction d with
    | zero => intro _; exact ⟨rfl, rfl⟩
    | succ d ih =>
      intro hd;obtain ⟨i1,i2⟩:=ih (by omega);have hb:=Aq h (m:=p+d+1) (by omega) (by omega);have e:((p+d+1:Nat):Int)=((p+d:Nat):Int)+1:=by omega
      rw [e] at hb;exact ⟨by rw [←Nat.add_assoc,Ap hb,i1],by rw [←Nat.add_assoc,nC hb,i2]⟩
  obtain ⟨k,hk⟩:∃k,endF s p=k+1:=⟨endF s p - 1,by have:=(lq h).1;omega⟩;obtain ⟨i1,i2⟩:=h1 (k - p) (by have:=(lq h).1;omega);have e:p+(k - p)=k:=by have:=(lq h).1;omega
  rw [e] at i1 i2;have hb:=CD h;rw [hk] at hb ⊢;have e2:((k+1:Nat):Int)=(k:Int)+1:=by omega
  rw [e2] at hb;rw [Ao hb,pj hb,i1,i2,hs,e2];exact ⟨rfl,rfl⟩
theorem uZ (s:ByteArray) (k:Nat):(sg s k).Pairwise (· < ·)∧(∀x ∈ sg s k,0≤x∧x≤(k:Int))∧(sg s k)[0]? =some 0:=by
  induction k with
  | zero => exact ⟨by simp [sg], fun x hx => by simp [sg] at hx; omega, rfl⟩
  | succ k ih =>
    obtain ⟨i1,i2,i3⟩:=ih;cases h:qn s ((k:Int)+1) with
    | true =>
      rw [pj h];refine ⟨?_,fun x hx=> ?_,?_⟩
      · rw [List.pairwise_append];refine ⟨i1,by simp,fun x hx y hy=> ?_⟩;simp at hy;have:=(i2 x hx).2;omega
      · rcases List.mem_append.1 hx with hx | hx
        · have:=i2 x hx;omega
        · simp at hx;omega
      · rw [ji (List.getElem?_eq_some_iff.1 i3).1];exact i3
    | false =>
      rw [nC h];exact ⟨i1,fun x hx=>by have:=i2 x hx;omega,i3⟩
theorem nD {xs:List Int} (h:xs.Pairwise (· < ·)) {i j:Nat} (hij:i < j) (hj:j < xs.length):nth xs (i:Int) < nth xs (j:Int):=by
  rw [mD,mD];have h1:=List.pairwise_iff_getElem.1 h i j (by omega) hj hij;simp only [List.getD,bD hj,bD (show i < xs.length by omega),Option.getD_some];exact h1
def plcF (xs:List Int) (x:Int):Nat:=(xs.takeWhile fun y=>decide (y < x)).length
theorem pk {xs:List Int} {x:Int} (h:xs.Pairwise (· < ·)) {i:Nat} (hi:i≤xs.length) (h1:∀j:Nat,j < i→nth xs (j:Int) < x) (h2:i < xs.length→x≤nth xs (i:Int)):plcF xs x=i:=by
  induction xs generalizing i with
  | nil => simp at hi; subst hi; rfl
  | cons y ys ih =>
    have hp:=List.pairwise_cons.1 h;cases i with
    | zero =>
      have:=h2 (by simp);have e:nth (y::ys) ((0:Nat):Int)=y:=rfl;rw [e] at this
      unfold plcF;rw [gp,if_neg (by simp;omega)];rfl
    | succ i =>
      have h0:=h1 0 (by omega);have e:nth (y::ys) ((0:Nat):Int)=y:=rfl;rw [e] at h0;have hs:∀j:Nat,nth (y::ys) ((j+1:Nat):Int)=nth ys (j:Int):=fun j=>by rw [mD,mD];rfl
      have:=ih hp.2 (i:=i) (by simp at hi;omega) (fun j hj=>by rw [←hs j];exact h1 (j+1) (by omega)) (fun hi2=>by rw [←hs i];exact h2 (by simp;omega));unfold plcF at this ⊢
      rw [gp,if_pos (by simpa using h0),bS,this]
def KQ (n k:Nat) (Q:Nat × Ps→Prop) (K:dC):Prop:=∀(to:Nat) (ps:Ps) (φ:Fl),k≤to→to≤n→∀y,(K to ps φ).1=some y→Q y
theorem KQ.up {n k k':Nat} {Q:Nat × Ps→Prop} {K:dC} (h:KQ n k Q K) (hk:k≤k'):KQ n k' Q K:=fun to ps φ h1 h2=>h to ps φ (by omega) h2
def RQ (n:Nat) (r:ie):Prop:=∀(k:Nat) (K:dC) (ps:Ps) (φ:Fl) (Q:Nat × Ps→Prop),k≤n→KQ n k Q K→∀y,(r k K ps φ).1=some y→Q y
theorem Ar {n:Nat}:∀(l:List ie),(∀r ∈ l,RQ n r)→RQ n (iM l)
  | [], _ => fun k K ps φ Q hk hK y hy => hK k ps φ (bk _) hk y hy
  | r :: l, h => fun k K ps φ Q hk hK y hy => h r (by simp) k (fun to ps φ => iM l to K ps φ) ps φ Q hk (fun to ps φ h1 h2 y hy => Ar l (fun x hx => h x (by simp [hx])) to K ps φ Q h2 (hK.up h1) y hy) y hy
theorem As {n:Nat}:∀(l:List ie),(∀r ∈ l,RQ n r)→RQ n (jC l)
  | [], _ => fun k K ps φ Q hk hK y hy => by cases hy
  | r :: l, h => fun k K ps φ Q hk hK y hy => by
    rw [jC] at hy;split at hy
    · exact h r (by simp) k K ps φ Q hk hK y hy
    · exact As l (fun x hx=>h x (by simp [hx])) k K ps _ Q hk hK y hy
theorem va {n:Nat} {r:ie} (hr:RQ n r) {lo m:Nat} {mn mx:Int} {lz:Bool}:∀(g times:Nat),RQ n (cn r lo m mn mx lz g times)
  | 0, times => fun k K ps φ Q hk hK y hy => by cases hy
  | g + 1, times => fun k K ps φ Q hk hK y hy => by
    have h1:∀y,(gM mn lz times k K ps φ).1=some y→Q y:=fun y hy=>by
      unfold gM at hy;split at hy
      · exact hK k ps φ (bk _) hk y hy
      · cases hy
    have h2:∀φ y,(cU r lo m mn mx lz g times k K ps φ).1=some y→Q y:=fun φ y hy=>hr k (dD r lo m mn mx lz g times k K) _ φ Q hk (fun to ps φ a1 a2 y hy=>by
      unfold dD at hy;split at hy
      · exact va hr g (times+1) to K ps φ Q a2 (hK.up a1) y hy
      · cases hy) y hy
    have h3:∀φ y,(gI mn lz times k K ps φ).1=some y→Q y:=fun φ y hy=>by
      unfold gI at hy;split at hy
      · exact hK k ps φ (bk _) hk y hy
      · cases hy
    rw [mf] at hy;split at hy
    · exact h1 y hy
    · split at hy
      · split at hy
        · exact h2 _ y hy
        · exact h3 _ y hy
      · exact h3 _ y hy
theorem tO {n:Nat} {l:List ie} (h:∀r ∈ l,RQ n r):RQ n (sF l):=by
  cases l with
  | nil => exact fun k K ps φ Q hk hK y hy => by cases hy
  | cons r l => exact h r (by simp)
theorem xB {E:Env} {t:Tr} {lo m:Nat} {l:List ie} (h:∀r ∈ l,RQ E.cs.length r):RQ E.cs.length (ik E t lo m l):=fun k K ps φ Q hk hK y hy=>by
  unfold ik at hy;split at hy
  · cases hy
  · split at hy
    · exact Ar l h k K ps φ Q hk hK y hy
    · split at hy
      · exact As l h k K ps φ Q hk hK y hy
      · split at hy
        · exact va (tO h) _ _ k K ps φ Q hk hK y hy
        · split at hy
          · cases hy
          · unfold jZ at hy;split at hy
            · exact tO h k _ ps _ Q hk (fun to ps φ a1 a2 y hy=>hK to _ φ a1 a2 y hy) y hy
            · split at hy
              · exact tO h k K ps _ Q hk hK y hy
              · split at hy
                · split at hy
                  · rename_i hc;simp only [av,ai] at hc;exact hK (k+1) ps _ (by omega) (by omega) y hy
                  · cases hy
                · split at hy
                  · exact hK k ps _ (bk _) hk y hy
                  · cases hy
theorem km (E:Env) (p:Pt):RQ E.cs.length (bi E p):=by
  induction p using Pt.ind with
  | h p ih =>
    rw [kz];exact xB fun r hr=>by
      obtain ⟨q,hq,rfl⟩:=List.mem_map.1 hr;exact ih q hq
theorem xC {E:Env}:∀(l:List Tr) (g:Nat),(∀k ∈ l,∀g,RQ E.cs.length (be E k g))→∀r ∈ fX E l g,RQ E.cs.length r
  | [], g, h, r, hr => by simp [fX] at hr
  | t :: l, g, h, r, hr => by
    rw [fX] at hr;rcases List.mem_cons.1 hr with rfl | hr
    · exact h t (by simp) g
    · exact xC l (g+grpN t) (fun k hk=>h k (by simp [hk])) r hr
theorem tQ (E:Env) (t:Tr):∀g,RQ E.cs.length (be E t g):=by
  induction t using Tr.ind with
  | h t ih =>
    intro g;rw [ka];exact xB (xC t.kids _ ih)
end
section
open Go.RowKit
open Srt
set_option maxRecDepth 100000 in
theorem FL (r:ByteArray × ByteArray) (w:World) (h1:r.1.size≤1000000000) (h2:r.2.size≤1000000000):Calls Tryz.prog 123 #[(.agg #[(aS r.1),(aS r.2)])] w (fun e w'=>e= .returned (aA (fa r))∧Ext aY w w'):=by
 refine enter (n:=18) Tryz.func123 rfl rfl (aw rfl) ?_;intro a0 τ0 ha st0;have e0:aU a0 0=(.agg #[(aS r.1),(aS r.2)]):=ha 0 _ rfl;clear ha;refine wp_seq (rg [box _ _ 0 1 [(aS r.1),(aS r.2)],_] [0,0] st0 [] ⟨fP (v:=(.agg #[(aS r.1),(aS r.2)])) rfl rfl rfl rfl rfl (fun _ _ _ _ c=>(c.p e0)),am fun c=>au rfl rfl,ax⟩ fun ac ag ae ab aa=> ?_);obtain ⟨b1x1,e1⟩:=gx ac 1;have e2:=aa.V 1;have r0:=aa.rb 0 e1 rfl;refine wp_seq ?_;refine rg [_,_,_,_,_,_,_,_,_,_,_,_,_,_,_,_] [0,1,3,7,15,31,63,127,255,511,1023,511,2559,8191,16383,32767] ab [jb r0] ⟨cb bH aZ e1 r0.ptr,dq bG 0 0 0,dR fun c=>⟨_,_,(bj rfl rfl Tryz.call29 (c.q 1)),rD r.1 _ (by omega)⟩,bq 2,aE 3 rfl fun c hpc=>cF rfl bH aZ ((c.p e1).trans r0.ptr),aE 3 rfl fun c hpc=>ay rfl bG (c.M 4 hpc) ((c.B 0).cell (j:=1) rfl),fx 3 true rfl fun c hpc=>⟨_,_,(bj rfl rfl Tryz.call29 (c.M 5 hpc)),rD r.2 _ (by have hq0:=hpc;omega)⟩,bN 3 6,bq 7,aE 8 rfl fun c hpc=>cF rfl bH aZ ((c.p e1).trans r0.ptr),aE 8 rfl fun c hpc=>ay rfl bG (c.M 9 hpc) ((c.B 0).cell (j:=0) rfl),aE 8 rfl fun c hpc=>cF rfl bH aZ ((c.p e1).trans r0.ptr),aE 8 rfl fun c hpc=>ay rfl bG (c.M 11 hpc) ((c.B 0).cell (j:=1) rfl),aE 8 rfl fun c hpc=>nq rfl (c.M 10 hpc) (c.M 12 hpc),bN 8 13,aG 14,ax⟩ fun ac ag ae ab aa=> ?_;have e2:=aa.V 15;refine wp_ret ?_;refine rp ?_;refine cC (fn:=Tryz.f123) rfl ab.defers e2 ?_;exact ⟨rfl,ab.ext0⟩
set_option maxRecDepth 100000 in
theorem EE (v:Value) (xs:List (ByteArray × ByteArray)) (w:World) (hS:SlT iG w v xs) (hz:pb xs) (hbig:xs.length≤1000000000):Calls Tryz.prog 100 #[v] w (fun e w'=>e= .returned (aA (lT xs))∧Ext aY w w'):=by
 refine enter (n:=31) Tryz.func100 rfl rfl (aw rfl) ?_;intro a0 τ0 ha st0;have e0:=nf ha;have hle:=hS.le;refine wp_seq (en st0 [] ⟨am fun c=>au rfl rfl,ax⟩ fun ac ag ae ab aa=> ?_);replace e0:=aa.k1 e0;have e2:=aa.V 0;refine wp_seq ?_;refine wp_seq (zi [0,1,0] ab [] ⟨ao e0,am fun c=>cQ rfl ba (c.q 0) hS.sl,am fun c=>aJ rfl rfl,ax⟩ fun ac ag ae ab aa=> ?_);obtain ⟨e0,e2⟩:=aa.k2 e0 e2;have e5:=aa.V 0;have e6:=aa.V 1;have e7:=aa.V 2;refine wp_block ?_;refine wp_loop (fun a_ w_=>∃(k:Nat) (τ:Nat→aQ),(k≤xs.length)∧
      (∀i < k,nv xs ((i:Nat):Int)=false)∧
      St (Nw w) w 31 a_ w_ τ∧
      aU a_ 7=(aj (k:Int))∧
      aU a_ 0=v∧
      aU a_ 5=v∧
      aU a_ 6=(aj (xs.length:Int))) (fun a_ _=>xs.length - (intOf (aU a_ 7)).toNat) ?_ ?_
 · refine ⟨0,ae,?_,?_,ab,(e7.trans (bh (by omega))),e0,e5,e6⟩
   · omega
   · intro i hi;omega
 intro a3 w3 hI;obtain ⟨k,τ3,q0,q1,st3,e7,e0,e5,e6⟩:=hI;have hzk:=re hz (k:=k);have m7:=e7;refine wp_seq (en st3 [] ⟨am fun c=>df rfl (c.p e7) (c.p e6),ax⟩ fun ac ag ae ab aa=> ?_);obtain ⟨e0,e5,e6,e7⟩:=aa.k4 e0 e5 e6 e7;have e8:=aa.V 0;refine wp_seq ?_;refine wp_cond_split e8 (fun hc1=> ?_) (fun hc1=> ?_)
 · try simp only [ai] at hc1
   refine wp_skip ?_;refine wp_seq ?_;refine wp_block ?_;refine wp_seq (rg [_,_,_,box _ _ 0 4 [(aS (⟨#[]⟩:ByteArray)),(aS (⟨#[]⟩:ByteArray))],_,_] [0,0,2,0,15,31] ab [] ⟨ao e7,am fun c=>aK rfl ba bR (c.p e5) hS.sl (c.p e7) (by omega) (by omega),am fun c=>cM (vs:=[(aS ((nth xs (k:Int)).1)),(aS ((nth xs (k:Int)).2))]) rfl gV bR (c.q 1) rfl (fun _ _ hj=>(hS.at (ab.ext.trans c.J.ext)).elem (bo (i:=(k:Int)) (by omega) (by omega)) hj),cK rfl rfl rfl rfl cN rfl,aG 0,gH (cx:=[(aS ((nth xs (k:Int)).1)),(aS ((nth xs (k:Int)).2))]) (off:=0) rfl bR fun c=>⟨c.rb 3 rfl,(c.rb 3 rfl).ptr,(c.q 2)⟩,ax⟩ fun ac ag ae ab aa=> ?_);obtain ⟨b5x4,e4⟩:=gx ac 4;obtain ⟨e0,e5,e6,e7,e8⟩:=aa.k5 e0 e5 e6 e7 e8;have e3:=aa.V 4;have r0:=aa.rb 5 e4 rfl;refine wp_seq ?_;refine rg [_,_,_,_,_,_,_,_,_,_,_,_,_,_,_,_,_,_] [0,1,3,7,15,31,63,127,255,127,127,1151,3711,7807,15999,32767,65535,131071] ab [jb r0] ⟨am fun c=>eA rfl gV bR ((c.p e4).trans r0.ptr) (c.B 0),dR fun c=>⟨_,_,(bj rfl rfl Tryz.call123 (c.q 0)),FL (nth xs (k:Int)) _ (by omega) (by omega)⟩,am fun c=>dP rfl (c.q 1),bq 2,bu 3 rfl fun c hpc=>aJ rfl (c.p e3),bu 3 rfl fun c hpc=>iR rfl (c.M 4 hpc) rfl,bu 3 rfl fun c hpc=>aJ rfl (c.M 5 hpc),cB 6 true rfl fun c hpc=>cF rfl bH aZ ((c.p e4).trans r0.ptr),cB 6 true rfl fun c hpc=>ay rfl bG (c.M 7 hpc) ((c.B 0).cell (j:=0) rfl),cB 6 true rfl fun c hpc=>aJ rfl (c.p e0),cB 6 true rfl fun c hpc=>aJ rfl (c.p e3),cB 6 true rfl fun c hpc=>jp rfl (c.M 10 hpc) rfl (by have hq0:=bt hpc.2;have hq1:=hpc.1;(try simp only [aB,az] at hq1);omega),cB 6 true rfl fun c hpc=>aK rfl ba bR (c.M 9 hpc) hS.sl (c.M 11 hpc) (by have hq0:=bt hpc.2;have hq1:=hpc.1;(try simp only [aB,az] at hq1);omega) (by have hq0:=bt hpc.2;have hq1:=hpc.1;(try simp only [aB,az] at hq1);omega),cB 6 true rfl fun c hpc=>cF rfl bH aZ (c.M 12 hpc),cB 6 true rfl fun c hpc=>ay rfl bG (c.M 13 hpc) ((hS.at (ab.ext.trans c.J.ext)).elem (j:=1) (bo (i:=(k:Int) - 1) (by have hq0:=bt hpc.2;have hq1:=hpc.1;(try simp only [aB,az] at hq1);omega) (by have hq0:=bt hpc.2;have hq1:=hpc.1;(try simp only [aB,az] at hq1);omega)) rfl),cB 6 true rfl fun c hpc=>nq rfl (c.M 8 hpc) (c.M 14 hpc),bu 3 rfl fun c hpc=>ly rfl (c.M 6 hpc) (fun h=>c.m 15 rfl (And.intro hpc h)),dw 3 16,ax⟩ fun ac ag ae ab aa=> ?_;obtain ⟨e0,e3,e4,e5,e6,e7,e8⟩:=aa.k7 e0 e3 e4 e5 e6 e7 e8;have e29:=aa.V 17;replace r0:=aa.B 0;refine wp_cond_split e29 (fun hc2=> ?_) (fun hc2=> ?_)
   · have hd2:=hc2;try simp only [av,aM,aO,aF,aB,az,ai,ah,aX] at hd2
     refine wp_seq (en ab [jb r0] ⟨am fun c=>au rfl rfl,ax⟩ fun ac ag ae ab aa=> ?_);obtain ⟨e0,e3,e4,e5,e6,e7,e8,e29⟩:=aa.k8 e0 e3 e4 e5 e6 e7 e8 e29;have e2:=aa.V 0;replace r0:=aa.B 0;refine wp_ret ?_;refine rp ?_;refine cC (fn:=Tryz.f100) rfl ab.defers e2 ?_;exact ⟨congrArg _ (congrArg _ (by exact (sD (k:=k) (by omega) (by assumption)).symm)),ab.ext0⟩
   have hd2:=hc2;try simp only [av,aM,aO,aF,aB,az,ai,ah,aX] at hd2
   refine wp_skip ?_;show _;refine es ab [jb r0] ⟨am fun c=>cP rfl (c.p e7) rfl (by omega),bq 0,ax⟩ fun ac ag ae ab aa=> ?_;obtain ⟨e0,e3,e4,e5,e6,e8,e29⟩:=aa.k7 e0 e3 e4 e5 e6 e8 e29;have e7:=aa.V 1;replace r0:=aa.B 0;refine ⟨⟨k+1,ae,?_,?_,ab,(e7.trans (bh (by omega))),e0,e5,e6⟩,?_⟩
   · omega
   · exact nT q1 (by assumption)
   · simp only [m7,e7,intOf];omega
 try simp only [ah,aX] at hc1
 refine wp_exit ?_;repeat (with_reducible refine ce ?_)
 refine ci ?_;refine wp_seq (en ab [] ⟨am fun c=>au rfl rfl,ax⟩ fun ac ag ae ab aa=> ?_);have e2:=aa.V 0;refine wp_ret ?_;refine rp ?_;refine cC (fn:=Tryz.f100) rfl ab.defers e2 ?_;exact ⟨congrArg _ (congrArg _ (by exact (oI q1 (by omega)).symm)),ab.ext0⟩
set_option maxRecDepth 100000 in
theorem yB (v:Value) (xs:List (ByteArray × ByteArray)) (w:World) (hS:SlT iG w v xs) (hz:pb xs) (hbig:xs.length≤1000000000):Calls Tryz.prog 87 #[v] w (fun e w'=>e= .returned (aA (lT xs))∧Ext aY w w'):=by
 refine enter (n:=47) Tryz.func87 rfl rfl (aw rfl) ?_;intro a0 τ0 ha st0;have e0:=nf ha;have hle:=hS.le;refine wp_seq (en st0 [] ⟨am fun c=>au rfl rfl,ax⟩ fun ac ag ae ab aa=> ?_);replace e0:=aa.k1 e0;have e2:=aa.V 0;refine wp_seq ?_;refine wp_seq (en ab [] ⟨am fun c=>au rfl rfl,ax⟩ fun ac ag ae ab aa=> ?_);obtain ⟨e0,e2⟩:=aa.k2 e0 e2;have e3:=aa.V 0;refine wp_block ?_;refine wp_loop (fun a_ w_=>∃(k:Nat) (τ:Nat→aQ),(k≤xs.length)∧
      (∀i < k,nv xs ((i:Nat):Int)=false)∧
      St (Nw w) w 47 a_ w_ τ∧
      aU a_ 3=(aj (k:Int))∧
      aU a_ 0=v) (fun a_ _=>xs.length - (intOf (aU a_ 3)).toNat) ?_ ?_
 · refine ⟨0,ae,?_,?_,ab,(e3.trans (bh (by omega))),e0⟩
   · omega
   · intro i hi;omega
 intro a3 w3 hI;obtain ⟨k,τ3,q0,q1,st3,e3,e0⟩:=hI;have hzk:=re hz (k:=k);have m3:=e3;refine wp_seq ?_;refine wp_seq (lE [0,0,2,7] st3 [] ⟨ao e3,ao e0,am fun c=>cQ rfl ba (c.q 1) hS.sl,am fun c=>df rfl (c.q 0) (c.q 2),ax⟩ fun ac ag ae ab aa=> ?_);obtain ⟨e0,e3⟩:=aa.k2 e0 e3;have e8:=aa.V 3;refine wp_cond_split e8 (fun hc1=> ?_) (fun hc1=> ?_)
 · try simp only [ai] at hc1
   refine wp_skip ?_;refine wp_seq ?_;refine wp_block ?_;refine wp_seq (rg [_,_,_,_,box _ _ 0 4 [(aS (⟨#[]⟩:ByteArray)),(aS (⟨#[]⟩:ByteArray))],_] [0,0,3,7,0,31] ab [] ⟨ao e0,ao e3,am fun c=>aK rfl ba bR (c.q 0) hS.sl (c.q 1) (by omega) (by omega),am fun c=>cM (vs:=[(aS ((nth xs (k:Int)).1)),(aS ((nth xs (k:Int)).2))]) rfl gV bR (c.q 2) rfl (fun _ _ hj=>(hS.at (ab.ext.trans c.J.ext)).elem (bo (i:=(k:Int)) (by omega) (by omega)) hj),cK rfl rfl rfl rfl cN rfl,gH (cx:=[(aS ((nth xs (k:Int)).1)),(aS ((nth xs (k:Int)).2))]) (off:=0) rfl bR fun c=>⟨c.rb 4 rfl,(c.rb 4 rfl).ptr,(c.q 3)⟩,ax⟩ fun ac ag ae ab aa=> ?_);obtain ⟨b5x4,e4⟩:=gx ac 4;obtain ⟨e0,e3,e8⟩:=aa.k3 e0 e3 e8;have r0:=aa.rb 5 e4 rfl;refine wp_seq ?_;refine rg [_,_,_,_,_,_,_,_,_,_,_,_,_,_,_,_,_,_,_,_,_,_,_,_,_,_,_,_,_,_,_,_] [0,1,3,7,15,31,63,127,255,511,1023,2047,4095,2047,10239,32767,65535,131071,262143,524287,1048575,2097151,4194303,2097151,2097151,18874367,60817407,127926271,262143999,536870911,1073741823,2147483647] ab [jb r0] ⟨cb bH aZ e4 r0.ptr,dq bG 0 0 0,dR fun c=>⟨_,_,(bj rfl rfl kA (c.q 1)),jM ((nth xs (k:Int)).1) _ (by omega)⟩,am fun c=>dP rfl (c.q 2),bq 3,bu 4 rfl fun c hpc=>cF rfl bH aZ ((c.p e4).trans r0.ptr),bu 4 rfl fun c hpc=>ay rfl bG (c.M 5 hpc) ((c.B 0).cell (j:=1) rfl),fx 4 false rfl fun c hpc=>⟨_,_,(bj rfl rfl kA (c.M 6 hpc)),jM ((nth xs (k:Int)).2) _ (by have hq0:=hpc;(try simp only [aB,az] at hq0);omega)⟩,bu 4 rfl fun c hpc=>dP rfl (c.M 7 hpc),dw 4 8,bq 9,bu 10 rfl fun c hpc=>cF rfl bH aZ ((c.p e4).trans r0.ptr),bu 10 rfl fun c hpc=>ay rfl bG (c.M 11 hpc) ((c.B 0).cell (j:=0) rfl),bu 10 rfl fun c hpc=>cF rfl bH aZ ((c.p e4).trans r0.ptr),bu 10 rfl fun c hpc=>ay rfl bG (c.M 13 hpc) ((c.B 0).cell (j:=1) rfl),bu 10 rfl fun c hpc=>zz rfl (c.M 12 hpc) (c.M 14 hpc),dw 10 15,bq 16,bu 17 rfl fun c hpc=>aJ rfl (c.p e3),bu 17 rfl fun c hpc=>iR rfl (c.M 18 hpc) rfl,bu 17 rfl fun c hpc=>aJ rfl (c.M 19 hpc),cB 20 true rfl fun c hpc=>cF rfl bH aZ ((c.p e4).trans r0.ptr),cB 20 true rfl fun c hpc=>ay rfl bG (c.M 21 hpc) ((c.B 0).cell (j:=0) rfl),cB 20 true rfl fun c hpc=>aJ rfl (c.p e0),cB 20 true rfl fun c hpc=>aJ rfl (c.p e3),cB 20 true rfl fun c hpc=>jp rfl (c.M 24 hpc) rfl (by have hq0:=bt hpc.2;have hq1:=hpc.1;(try simp only [aO,aF,aB,az] at hq1);omega),cB 20 true rfl fun c hpc=>aK rfl ba bR (c.M 23 hpc) hS.sl (c.M 25 hpc) (by have hq0:=bt hpc.2;have hq1:=hpc.1;(try simp only [aO,aF,aB,az] at hq1);omega) (by have hq0:=bt hpc.2;have hq1:=hpc.1;(try simp only [aO,aF,aB,az] at hq1);omega),cB 20 true rfl fun c hpc=>cF rfl bH aZ (c.M 26 hpc),cB 20 true rfl fun c hpc=>ay rfl bG (c.M 27 hpc) ((hS.at (ab.ext.trans c.J.ext)).elem (j:=1) (bo (i:=(k:Int) - 1) (by have hq0:=bt hpc.2;have hq1:=hpc.1;(try simp only [aO,aF,aB,az] at hq1);omega) (by have hq0:=bt hpc.2;have hq1:=hpc.1;(try simp only [aO,aF,aB,az] at hq1);omega)) rfl),cB 20 true rfl fun c hpc=>nq rfl (c.M 22 hpc) (c.M 28 hpc),bu 17 rfl fun c hpc=>ly rfl (c.M 20 hpc) (fun h=>c.m 29 rfl (And.intro hpc h)),dw 17 30,ax⟩ fun ac ag ae ab aa=> ?_;obtain ⟨e0,e3,e4,e8⟩:=aa.k4 e0 e3 e4 e8;have e46:=aa.V 31;replace r0:=aa.B 0;refine wp_cond_split e46 (fun hc2=> ?_) (fun hc2=> ?_)
   · have hd2:=hc2;try simp only [av,aM,aO,aF,aB,az,ai,ah,aX] at hd2
     refine wp_seq (en ab [jb r0] ⟨am fun c=>au rfl rfl,ax⟩ fun ac ag ae ab aa=> ?_);obtain ⟨e0,e3,e4,e8,e46⟩:=aa.k5 e0 e3 e4 e8 e46;have e2:=aa.V 0;replace r0:=aa.B 0;refine wp_ret ?_;refine rp ?_;refine cC (fn:=Tryz.f87) rfl ab.defers e2 ?_;exact ⟨congrArg _ (congrArg _ (by exact (sD (k:=k) (by omega) ((rf xs (k:Int)).symm.trans (by assumption))).symm)),ab.ext0⟩
   have hd2:=hc2;try simp only [av,aM,aO,aF,aB,az,ai,ah,aX] at hd2
   refine wp_skip ?_;show _;refine eI ab [jb r0] ⟨ao e3,am fun c=>cP rfl (c.q 0) rfl (by omega),aG 1,ax⟩ fun ac ag ae ab aa=> ?_;obtain ⟨e0,e4,e8,e46⟩:=aa.k4 e0 e4 e8 e46;have e3:=aa.V 2;replace r0:=aa.B 0;refine ⟨⟨k+1,ae,?_,?_,ab,(e3.trans (bh (by omega))),e0⟩,?_⟩
   · omega
   · exact nT q1 ((rf xs (k:Int)).symm.trans (by assumption))
   · simp only [m3,e3,intOf];omega
 try simp only [ah,aX] at hc1
 refine wp_exit ?_;repeat (with_reducible refine ce ?_)
 refine ci ?_;refine wp_seq (en ab [] ⟨am fun c=>au rfl rfl,ax⟩ fun ac ag ae ab aa=> ?_);have e2:=aa.V 0;refine wp_ret ?_;refine rp ?_;refine cC (fn:=Tryz.f87) rfl ab.defers e2 ?_;exact ⟨congrArg _ (congrArg _ (by exact (oI q1 (by omega)).symm)),ab.ext0⟩
end
section
open Go.RowKit
open Srt
def oK (k:Int):Bool:=decide (k=2) || (decide (k=3) || (decide (k=4) || (decide (k=5) || decide (k=6))))
set_option maxRecDepth 100000 in
theorem wu (k:Int) (w:World):Calls Tryz.prog 101 #[(aj k)] w (fun e w'=>e= .returned (aA (oK k))∧Ext aY w w'):=by
 refine enter (n:=10) Tryz.func101 rfl rfl (aw rfl) ?_;intro a0 τ0 ha st0;have e0:=nf ha;refine wp_seq (en st0 [] ⟨am fun c=>au rfl rfl,ax⟩ fun ac ag ae ab aa=> ?_);replace e0:=aa.k1 e0;have e2:=aa.V 0;refine wp_seq ?_;refine wp_seq (en ab [] ⟨ao e0,ax⟩ fun ac ag ae ab aa=> ?_);replace e2:=aa.k1 e2;have e3:=aa.V 0;refine wp_block ?_;refine wp_seq ?_;refine wp_seq (es ab [] ⟨am fun c=>bV rfl (c.p e3) rfl,aG 0,ax⟩ fun ac ag ae ab aa=> ?_);obtain ⟨e2,e3⟩:=aa.k2 e2 e3;have e4:=aa.V 1;refine wp_cond_split e4 (fun hc1=> ?_) (fun hc1=> ?_)
 · have hd1:=hc1;try simp only [ai] at hd1
   refine wp_skip ?_;refine wp_cond_true (e4.trans (congrArg _ hc1)) ?_;refine wp_seq (en ab [] ⟨am fun c=>au rfl rfl,ax⟩ fun ac ag ae ab aa=> ?_);have e2:=aa.V 0;refine wp_ret ?_;refine rp ?_;refine cC (fn:=Tryz.f101) rfl ab.defers e2 ?_;exact ⟨congrArg _ (congrArg _ (by unfold oK;symm;simp;omega)),ab.ext0⟩
 have hd2:=hc1;try simp only [ah] at hd2
 refine wp_seq (es ab [] ⟨am fun c=>bV rfl (c.p e3) rfl,aG 0,ax⟩ fun ac ag ae ab aa=> ?_);obtain ⟨e2,e3⟩:=aa.k2 e2 e3;have e4:=aa.V 1;refine wp_cond_split e4 (fun hc3=> ?_) (fun hc3=> ?_)
 · have hd3:=hc3;try simp only [ai] at hd3
   refine wp_skip ?_;refine wp_cond_true (e4.trans (congrArg _ hc3)) ?_;refine wp_seq (en ab [] ⟨am fun c=>au rfl rfl,ax⟩ fun ac ag ae ab aa=> ?_);have e2:=aa.V 0;refine wp_ret ?_;refine rp ?_;refine cC (fn:=Tryz.f101) rfl ab.defers e2 ?_;exact ⟨congrArg _ (congrArg _ (by unfold oK;symm;simp;omega)),ab.ext0⟩
 have hd4:=hc3;try simp only [ah] at hd4
 refine wp_seq (es ab [] ⟨am fun c=>bV rfl (c.p e3) rfl,aG 0,ax⟩ fun ac ag ae ab aa=> ?_);obtain ⟨e2,e3⟩:=aa.k2 e2 e3;have e4:=aa.V 1;refine wp_cond_split e4 (fun hc5=> ?_) (fun hc5=> ?_)
 · have hd5:=hc5;try simp only [ai] at hd5
   refine wp_skip ?_;refine wp_cond_true (e4.trans (congrArg _ hc5)) ?_;refine wp_seq (en ab [] ⟨am fun c=>au rfl rfl,ax⟩ fun ac ag ae ab aa=> ?_);have e2:=aa.V 0;refine wp_ret ?_;refine rp ?_;refine cC (fn:=Tryz.f101) rfl ab.defers e2 ?_;exact ⟨congrArg _ (congrArg _ (by unfold oK;symm;simp;omega)),ab.ext0⟩
 have hd6:=hc5;try simp only [ah] at hd6
 refine wp_seq (es ab [] ⟨am fun c=>bV rfl (c.p e3) rfl,aG 0,ax⟩ fun ac ag ae ab aa=> ?_);obtain ⟨e2,e3⟩:=aa.k2 e2 e3;have e4:=aa.V 1;refine wp_cond_split e4 (fun hc7=> ?_) (fun hc7=> ?_)
 · have hd7:=hc7;try simp only [ai] at hd7
   refine wp_skip ?_;refine wp_cond_true (e4.trans (congrArg _ hc7)) ?_;refine wp_seq (en ab [] ⟨am fun c=>au rfl rfl,ax⟩ fun ac ag ae ab aa=> ?_);have e2:=aa.V 0;refine wp_ret ?_;refine rp ?_;refine cC (fn:=Tryz.f101) rfl ab.defers e2 ?_;exact ⟨congrArg _ (congrArg _ (by unfold oK;symm;simp;omega)),ab.ext0⟩
 have hd8:=hc7;try simp only [ah] at hd8
 refine es ab [] ⟨am fun c=>bV rfl (c.p e3) rfl,aG 0,ax⟩ fun ac ag ae ab aa=> ?_;replace e2:=aa.k1 e2;have e4:=aa.V 1;refine wp_cond_split e4 (fun hc9=> ?_) (fun hc9=> ?_)
 · have hd9:=hc9;try simp only [ai] at hd9
   refine wp_seq (en ab [] ⟨am fun c=>au rfl rfl,ax⟩ fun ac ag ae ab aa=> ?_);have e2:=aa.V 0;refine wp_ret ?_;refine rp ?_;refine cC (fn:=Tryz.f101) rfl ab.defers e2 ?_;exact ⟨congrArg _ (congrArg _ (by unfold oK;symm;simp;omega)),ab.ext0⟩
 have hd9:=hc9;try simp only [ah] at hd9
 refine wp_skip ?_;show _;refine wp_seq (en ab [] ⟨am fun c=>au rfl rfl,ax⟩ fun ac ag ae ab aa=> ?_);have e2:=aa.V 0;refine wp_ret ?_;refine rp ?_;refine cC (fn:=Tryz.f101) rfl ab.defers e2 ?_;exact ⟨congrArg _ (congrArg _ (by unfold oK;symm;simp;omega)),ab.ext0⟩
set_option maxRecDepth 100000 in
theorem CE (v:Value) (xs:List Int) (x:Int) (w:World) (hS:SlT gb w v xs):Calls Tryz.prog 143 #[v,(aj x)] w (fun e w'=>e= .returned (aj (DT (fun y=>decide (x=y)) xs))∧Ext aY w w'):=by
 refine enter (n:=19) Tryz.func143 rfl rfl (aw rfl) ?_;intro a0 τ0 ha st0;obtain ⟨e0,e1⟩:=qr ha;have hle:=hS.le;refine wp_seq (en st0 [] ⟨am fun c=>au rfl rfl,ax⟩ fun ac ag ae ab aa=> ?_);obtain ⟨e0,e1⟩:=aa.k2 e0 e1;have e4:=aa.V 0;refine wp_seq ?_;refine wp_seq (zi [0,1,0] ab [] ⟨ao e0,am fun c=>cQ rfl bW (c.q 0) hS.sl,am fun c=>aJ rfl rfl,ax⟩ fun ac ag ae ab aa=> ?_);obtain ⟨e0,e1,e4⟩:=aa.k3 e0 e1 e4;have e7:=aa.V 1;have e8:=aa.V 2;refine wp_block ?_;refine wp_loop (fun a_ w_=>∃(k:Nat) (τ:Nat→aQ),(k≤xs.length)∧
      (∀y ∈ xs.take k,decide (x=y)=false)∧
      St (Nw w) w 19 a_ w_ τ∧
      aU a_ 8=(aj (k:Int))∧
      aU a_ 0=v∧
      aU a_ 1=(aj x)∧
      aU a_ 7=(aj (xs.length:Int))) (fun a_ _=>xs.length - (intOf (aU a_ 8)).toNat) ?_ ?_
 · refine ⟨0,ae,?_,?_,ab,(e8.trans (bh (by omega))),e0,e1,e7⟩
   · omega
   · simp
 intro a3 w3 hI;obtain ⟨k,τ3,q0,q1,st3,e8,e0,e1,e7⟩:=hI;have m8:=e8;refine wp_seq (en st3 [] ⟨am fun c=>df rfl (c.p e8) (c.p e7),ax⟩ fun ac ag ae ab aa=> ?_);obtain ⟨e0,e1,e7,e8⟩:=aa.k4 e0 e1 e7 e8;have e9:=aa.V 0;refine wp_seq ?_;refine wp_cond_split e9 (fun hc1=> ?_) (fun hc1=> ?_)
 · try simp only [ai] at hc1
   refine wp_skip ?_;refine wp_seq ?_;refine wp_block ?_;refine wp_seq (es ab [] ⟨ao e8,aG 0,ax⟩ fun ac ag ae ab aa=> ?_);obtain ⟨e0,e1,e7,e8,e9⟩:=aa.k5 e0 e1 e7 e8 e9;have e5:=aa.V 1;refine wp_seq (Cf [0,0,0,6,14,31] ab [] ⟨ao e1,ao e0,ao e5,am fun c=>aK rfl bW ar (c.q 1) hS.sl (c.q 2) (by omega) (by omega),am fun c=>ay rfl aC (c.q 3) ((hS.at (ab.ext.trans c.J.ext)).elem (j:=0) (bo (i:=(k:Int)) (by omega) (by omega)) rfl),am fun c=>bV rfl (c.q 0) (c.q 4),ax⟩ fun ac ag ae ab aa=> ?_);obtain ⟨e0,e1,e5,e7,e8,e9⟩:=aa.k6 e0 e1 e5 e7 e8 e9;have e16:=aa.V 5;refine wp_cond_split e16 (fun hc2=> ?_) (fun hc2=> ?_)
   · have hd2:=hc2;try simp only [ai] at hd2
     refine wp_seq (es ab [] ⟨ao e5,aG 0,ax⟩ fun ac ag ae ab aa=> ?_);obtain ⟨e0,e1,e5,e7,e8,e9,e16⟩:=aa.k7 e0 e1 e5 e7 e8 e9 e16;have e4:=aa.V 1;refine wp_ret ?_;refine rp ?_;refine cC (fn:=Tryz.f143) rfl ab.defers e4 ?_;exact ⟨congrArg _ (bh (by first | exact (tD (f:=fun y=>decide (x=y)) (by omega) q1 (by assumption)).symm | exact (qv (f:=fun y=>decide (x=y)) (k:=k) (by omega) q1).symm)),ab.ext0⟩
   have hd2:=hc2;try simp only [ah] at hd2
   refine wp_skip ?_;show _;refine es ab [] ⟨am fun c=>cP rfl (c.p e8) rfl (by omega),bq 0,ax⟩ fun ac ag ae ab aa=> ?_;obtain ⟨e0,e1,e5,e7,e9,e16⟩:=aa.k6 e0 e1 e5 e7 e9 e16;have e8:=aa.V 1;refine ⟨⟨k+1,ae,?_,?_,ab,(e8.trans (bh (by omega))),e0,e1,e7⟩,?_⟩
   · omega
   · exact qw (f:=fun y=>decide (x=y)) (by omega) q1 (by assumption)
   · simp only [m8,e8,intOf];omega
 try simp only [ah,aX] at hc1
 refine wp_exit ?_;repeat (with_reducible refine ce ?_)
 refine ci ?_;refine wp_seq (en ab [] ⟨am fun c=>au rfl rfl,ax⟩ fun ac ag ae ab aa=> ?_);have e4:=aa.V 0;refine wp_ret ?_;refine rp ?_;refine cC (fn:=Tryz.f143) rfl ab.defers e4 ?_;exact ⟨congrArg _ (bh (by first | exact (tD (f:=fun y=>decide (x=y)) (by omega) q1 (by assumption)).symm | exact (qv (f:=fun y=>decide (x=y)) (k:=k) (by omega) q1).symm)),ab.ext0⟩
set_option maxRecDepth 100000 in
theorem At (v:Value) (xs:List Int) (x:Int) (w:World) (hS:SlT gb w v xs):Calls Tryz.prog 126 #[v,(aj x)] w (fun e w'=>e= .returned (aA (xs.any fun y=>decide (x=y)))∧Ext aY w w'):=by
 refine enter (n:=9) Tryz.func126 rfl rfl (aw rfl) ?_;intro a0 τ0 ha st0;obtain ⟨e0,e1⟩:=qr ha;have hle:=hS.le;refine wp_seq (en st0 [] ⟨am fun c=>au rfl rfl,ax⟩ fun ac ag ae ab aa=> ?_);obtain ⟨e0,e1⟩:=aa.k2 e0 e1;have e4:=aa.V 0;refine wp_seq (yg [0,0,3,7,15] ab [] ⟨ao e0,ao e1,dR fun c=>⟨_,_,(cu rfl rfl Tryz.call143 (c.q 0) (c.q 1)),CE v xs x _ (hS.at (ab.ext.trans c.J.ext))⟩,am fun c=>gF rfl (c.q 2) rfl,aG 3,ax⟩ fun ac ag ae ab aa=> ?_);have e4:=aa.V 4;refine wp_ret ?_;refine rp ?_;refine cC (fn:=Tryz.f126) rfl ab.defers e4 ?_;exact ⟨congrArg _ (congrArg _ (zQ _ _)),ab.ext0⟩
end
section
open Go.RowKit
open Srt
theorem FM {xs:List Tr} {k:Nat} (h:k < xs.length):fC (nth xs (k:Int))≤de (xs.map fC)∧de ((xs.take (k+1)).map fC)=de ((xs.take k).map fC)+fC (nth xs (k:Int))∧de ((xs.take (k+1)).map fC)≤de (xs.map fC):=
  ⟨mO (fun t _=>by have:=lG t;omega) (cG (by omega) (by omega)),jY h,(ns (fun t _=>by have:=lG t;omega) _).2⟩
theorem wv {ts xs:List Tr} {k:Int} {n:Nat} (hq:ts.map er=ic k ((xs.take n).map er)):(ts.length:Int)≤de ((xs.take n).map fC):=by
  have h:=yq hq;have h1:∀l:List Tr,de (l.map cg)≤de (l.map fC):=by
    intro l;induction l using fj with
    | h0 => exact fe _
    | h1 l x ih =>
      rw [bT,bT,bw,bP,bw,bP,eu,eu];have:=ra x;omega
  have:=h1 (xs.take n);omega
end
section
open Go.RowKit
open Srt
set_option maxRecDepth 100000 in
theorem Au (F:aQ) (kind:Int) (v:Value) (xs:List Tr) (w:World) (hS:SlT oN w v xs) (hF:∀t ∈ xs,TrT F w t) (hP:de (xs.map fC)≤1000000):Calls Tryz.prog 81 #[(aj kind),v] w (fun e w'=>∃v' ts,e= .returned v'∧Ext aY w w'∧oP oN 25 w w' v' ts∧(∀t ∈ ts,TrT (fun g=>(Gn F w) g∧v'.ownBlock≠some g) w' t)∧ts.map er=ic kind (xs.map er)):=by
 refine enter (n:=35) Tryz.func81 rfl rfl (aw rfl) ?_;intro a0 τ0 ha st0;obtain ⟨e0,e1⟩:=qr ha;have hle:=hS.le;have r9:Fz (nt (Gn F w) xs) τ0 w:=TrT.inzs hF st0;refine wp_seq (en st0 [jz 9 r9] ⟨am fun c=>au rfl rfl,ax⟩ fun ac ag ae ab aa=> ?_);obtain ⟨e0,e1⟩:=aa.k2 e0 e1;have e4:=aa.V 0;replace r9:=aa.z1 9;refine wp_seq (en ab [jz 9 r9] ⟨am fun c=>au rfl rfl,ax⟩ fun ac ag ae ab aa=> ?_);obtain ⟨e0,e1,e4⟩:=aa.k3 e0 e1 e4;have e5:=aa.V 0;replace r9:=aa.z1 9;refine wp_seq ?_;refine wp_seq (en ab [jz 9 r9] ⟨am fun c=>au rfl rfl,ax⟩ fun ac ag ae ab aa=> ?_);obtain ⟨e0,e1,e4,e5⟩:=aa.k4 e0 e1 e4 e5;have e6:=aa.V 0;replace r9:=aa.z1 9;refine wp_block ?_;refine wp_loop (fun a_ w_=>∃(k:Nat) (u:Value) (ts:List Tr) (τ:Nat→aQ),(k≤xs.length)∧
      (ts.map er=ic kind ((xs.take k).map er))∧
      St (Nw w) w 35 a_ w_ τ∧
      aU a_ 5=u∧
      aU a_ 6=(aj (k:Int))∧
      aU a_ 0=(aj kind)∧
      aU a_ 1=v∧
      aU a_ 4=(.slice none 0 0)∧
      dM oN 25 ts (τ 5) u w_∧
      Fz (nt (Gn F w) ts) τ w_∧
      Fz (nt (Gn F w) xs) τ w_) (fun a_ _=>xs.length - (intOf (aU a_ 6)).toNat) ?_ ?_
 · refine ⟨0,(.slice none 0 0),[],ae,?_,?_,ab,e5,(e6.trans (bh (by omega))),e0,e1,e4,?_,?_,r9⟩
   · omega
   · simp [ic]
   · exact dM.nil _ _ _ _
   · exact Fz.tn _ _ _
 intro a4 w4 hI;obtain ⟨k,u,ts,τ4,q0,q1,st4,e5,e6,e0,e1,e4,r5,r6,r9⟩:=hI;have hw:=FM (xs:=xs) (k:=k);have hrm:=wv q1;have hew:=(ew (nth xs (k:Int))).1;have m6:=e6;refine wp_seq ?_;refine wp_seq (lE [0,0,2,7] st4 [jo r5,jz 6 r6,jz 9 r9] ⟨ao e6,ao e1,am fun c=>cQ rfl aI (c.q 1) ((⟨hS,fun t_ h_=>(hF t_ h_).s⟩:TlS w v xs).at st4.ext).sl.sl,am fun c=>df rfl (c.q 0) (c.q 2),ax⟩ fun ac ag ae ab aa=> ?_);obtain ⟨e0,e1,e4,e5,e6⟩:=aa.k5 e0 e1 e4 e5 e6;have e10:=aa.V 3;replace r5:=aa.O 5;obtain ⟨r6,r9⟩:=aa.z2 6 9;refine wp_cond_split e10 (fun hc1=> ?_) (fun hc1=> ?_)
 · try simp only [ai] at hc1
   refine wp_skip ?_;refine wp_seq ?_;refine wp_block ?_;refine wp_seq (sc [0,0,3,7,15,0,63] ab [jo r5,jz 6 r6,jz 9 r9] ⟨ao e1,ao e6,am fun c=>aK rfl aI ak (c.q 0) ((⟨hS,fun t_ h_=>(hF t_ h_).s⟩:TlS w v xs).at ab.ext).sl.sl (c.q 1) (by omega) (by omega),br aq ar 2 rfl,am fun c=>ay rfl aC (c.q 3) ((((⟨hS,fun t_ h_=>(hF t_ h_).s⟩:TlS w v xs).at (ab.ext.trans c.J.ext)).sl).elem (j:=0) (bo (i:=(k:Int)) (by omega) (by omega)) rfl),ao e0,am fun c=>bV rfl (c.q 4) (c.q 5),ax⟩ fun ac ag ae ab aa=> ?_);obtain ⟨e0,e1,e4,e5,e6,e10⟩:=aa.k6 e0 e1 e4 e5 e6 e10;have e19:=aa.V 6;replace r5:=aa.O 5;obtain ⟨r6,r9⟩:=aa.z2 6 9;refine wp_cond_split e19 (fun hc2=> ?_) (fun hc2=> ?_)
   · try simp only [ai] at hc2
     refine rg [_,_,_,_,_,_,own _ _ _ 5 26 _,own _ _ _ 5 5 _] [0,0,0,6,14,30,63,127] ab [jo r5,jz 6 r6,jz 9 r9] ⟨ao e5,ao e1,ao e6,am fun c=>aK rfl aI ak (c.q 1) ((⟨hS,fun t_ h_=>(hF t_ h_).s⟩:TlS w v xs).at ab.ext).sl.sl (c.q 2) (by omega) (by omega),br aq bC 3 rfl,am fun c=>ay rfl bU (c.q 4) ((((⟨hS,fun t_ h_=>(hF t_ h_).s⟩:TlS w v xs).at (ab.ext.trans c.J.ext)).sl).elem (j:=7) (bo (i:=(k:Int)) (by omega) (by omega)) rfl),eH (t0:=5) rfl rfl rfl rfl aI (i:=Tryz.t25) rfl rfl rfl rfl (by simp only [maxLen];(try simp);omega) (by show _ * 104≤_;(try simp);omega) (fun _ _ _ _ c=>⟨c.ip 5 rfl e5,c.sm (c.n 0 rfl) e5,⟨_,(c.n 5 rfl),(((⟨hS,fun t_ h_=>(hF t_ h_).s⟩:TlS w v xs).at (ab.ext.trans c.J.ext)).el (by omega) (by omega)).tl.sl⟩⟩),dx (t0:=26) rfl rfl rfl rfl rfl (.inr rfl) (fun _ _ _ _ c=>⟨c.ro 6 rfl,rfl⟩),ax⟩ fun ac ag ae ab aa=> ?_;obtain ⟨b7x5,e5⟩:=gx ac 5;obtain ⟨e0,e1,e4,e6,e10,e19⟩:=aa.k6 e0 e1 e4 e6 e10 e19;replace r5:=aa.ro 7 e5 rfl;obtain ⟨r6,r9⟩:=aa.z2 6 9;show _;refine eI ab [jo r5,jz 6 r6,jz 9 r9] ⟨ao e6,am fun c=>cP rfl (c.q 0) rfl (by omega),aG 1,ax⟩ fun ac ag ae ab aa=> ?_;obtain ⟨e0,e1,e4,e5,e10,e19⟩:=aa.k6 e0 e1 e4 e5 e10 e19;have e6:=aa.V 2;replace r5:=aa.O 5;obtain ⟨r6,r9⟩:=aa.z2 6 9;refine ⟨⟨k+1,b7x5,ts++((nth xs (k:Int)).kids),ae,?_,?_,ab,e5,(e6.trans (bh (by omega))),e0,e1,e4,?_,?_,r9⟩,?_⟩
     · omega
     · first | exact uL (by omega) q1 rfl (by assumption) rfl | exact sC (by omega) q1 rfl (by assumption)
     · exact r5.cast (by rfl)
     · exact Fz.app r6 (r9.e (by omega) (by omega)).kl
     · simp only [m6,e6,intOf];omega
   try simp only [ah] at hc2
   refine rg [_,_,_,_,_,own oN 25 _ 0 32 ([(nth xs (k:Int))]),own _ _ _ 5 33 _,own _ _ _ 5 5 _] [0,0,0,6,14,30,63,127] ab [jo r5,jz 6 r6,jz 9 r9] ⟨ao e5,ao e1,ao e6,am fun c=>aK rfl aI ak (c.q 1) ((⟨hS,fun t_ h_=>(hF t_ h_).s⟩:TlS w v xs).at ab.ext).sl.sl (c.q 2) (by omega) (by omega),am fun c=>cM (vs:=(tc (nth xs (k:Int)))) rfl aD ak (c.q 3) rfl (fun _ _ hj=>(((⟨hS,fun t_ h_=>(hF t_ h_).s⟩:TlS w v xs).at (ab.ext.trans c.J.ext)).sl).elem (bo (i:=(k:Int)) (by omega) (by omega)) hj),cX (cells:=#[(aj ((nth xs (k:Int)).k)),(aS ((nth xs (k:Int)).ch)),(aA ((nth xs (k:Int)).ng)),(nth xs (k:Int)).rv.v,(aj ((nth xs (k:Int)).mn)),(aj ((nth xs (k:Int)).mx)),(aA ((nth xs (k:Int)).lz)),(nth xs (k:Int)).kv.v]) rfl rfl rfl rfl aI ak aN rfl (by decide) (by decide) (fun _ _ _ _ c=>gq (c.n 4 rfl) (by kernel_rfl)) rfl,eH (t0:=5) rfl rfl rfl rfl aI (i:=Tryz.t25) rfl rfl rfl rfl (by simp only [maxLen];(try simp);omega) (by show _ * 104≤_;(try simp);omega) (fun _ _ _ _ c=>⟨c.ip 5 rfl e5,c.sm (c.n 0 rfl) e5,⟨_,rfl,(c.ro 5 rfl).1.sl⟩⟩),dx (t0:=33) rfl rfl rfl rfl rfl (.inr rfl) (fun _ _ _ _ c=>⟨c.ro 6 rfl,rfl⟩),ax⟩ fun ac ag ae ab aa=> ?_;obtain ⟨b9x32,e32⟩:=gx ac 32;obtain ⟨b9x5,e5⟩:=gx ac 5;obtain ⟨e0,e1,e4,e6,e10,e19⟩:=aa.k6 e0 e1 e4 e6 e10 e19;have r0:=aa.ro 5 e32 rfl;replace r5:=aa.ro 7 e5 rfl;obtain ⟨r6,r9⟩:=aa.z2 6 9;show _;refine eI ab [jo r0,jo r5,jz 6 r6,jz 9 r9] ⟨ao e6,am fun c=>cP rfl (c.q 0) rfl (by omega),aG 1,ax⟩ fun ac ag ae ab aa=> ?_;obtain ⟨e0,e1,e4,e5,e10,e19⟩:=aa.k6 e0 e1 e4 e5 e10 e19;have e6:=aa.V 2;replace r0:=aa.O 0;replace r5:=aa.O 5;obtain ⟨r6,r9⟩:=aa.z2 6 9;refine ⟨⟨k+1,b9x5,ts++ [(nth xs (k:Int))],ae,?_,?_,ab,e5,(e6.trans (bh (by omega))),e0,e1,e4,?_,?_,r9⟩,?_⟩
   · omega
   · first | exact uL (by omega) q1 rfl (by assumption) rfl | exact sC (by omega) q1 rfl (by assumption)
   · exact r5.cast (by rfl)
   · exact Fz.snoc r6 (r9.e (by omega) (by omega))
   · simp only [m6,e6,intOf];omega
 try simp only [ah,aX] at hc1
 refine wp_exit ?_;repeat (with_reducible refine ce ?_)
 refine ci ?_;refine wp_seq (es ab [jo r5,jz 6 r6,jz 9 r9] ⟨ao e5,aG 0,ax⟩ fun ac ag ae ab aa=> ?_);have e4:=aa.V 1;replace r5:=aa.O 5;obtain ⟨r6,r9⟩:=aa.z2 6 9;refine wp_ret ?_;refine rp ?_;refine cC (fn:=Tryz.f81) rfl ab.defers e4 ?_;rw [bB (by omega)] at q1;exact ⟨_,ts,rfl,ab.ext0,⟨r5.1,fun g_ h_=>(ab.bnd _ g_ (r5.2 g_ h_)).1⟩,r6.outo (i:=5) r5.2,q1⟩
set_option maxRecDepth 100000 in
theorem Av (F:aQ) (v:Value) (xs:List Tr) (w:World) (hS:SlT oN w v xs) (hF:∀t ∈ xs,TrT F w t) (hP:de (xs.map fC)≤1000000):Calls Tryz.prog 60 #[v] w (fun e w'=>∃t':Tr,e= .returned t'.v∧Ext aY w w'∧TrT (Gn F w) w' t'∧er t'=lj (xs.map er)):=by
 refine enter (n:=14) Tryz.func60 rfl rfl (aw rfl) ?_;intro a0 τ0 ha st0;have e0:=nf ha;have hle:=hS.le;have r9:Fz (nt (Gn F w) xs) τ0 w:=TrT.inzs hF st0;refine wp_seq (rg [box _ _ 0 2 [(aj 0),(aS (⟨#[]⟩:ByteArray)),(aA false),(.slice none 0 0),(aj 0),(aj 0),(aA false),(.slice none 0 0)]] [0] st0 [jz 9 r9] ⟨cK rfl rfl rfl rfl aN rfl,ax⟩ fun ac ag ae ab aa=> ?_);obtain ⟨b1x2,e2⟩:=gx ac 2;replace e0:=aa.k1 e0;have r0:=aa.rb 0 e2 rfl;replace r9:=aa.z1 9;refine wp_seq ?_;refine bA ?_;refine cH 2 (by kernel_rfl) ?_;refine og [_,Ce oN 25 _ 1 5 (fun b:List Tr=>b) (fun b:List Tr=>b.map er=ic 0 (xs.map er)) (fun b:List Tr=>nt (Gn F w) b)] [0,1] ab [jb r0,jz 9 r9] ⟨ao e0,DO (xs:=fun b:List Tr=>b) (Ψ:=fun b:List Tr=>b.map er=ic 0 (xs.map er)) (Φ:=fun b:List Tr=>nt (Gn F w) b) fun {_ a_ _ _} c=>⟨_,_,(cu rfl rfl Tryz.call81 rfl (c.q 0)),(Au _ 0 v xs _ (zl (c.iz 9 rfl) ((⟨hS,fun t_ h_=>(hF t_ h_).s⟩:TlS w v xs).at (ab.ext.trans c.J.ext)).sl).sl (c.iz 9 rfl) (by omega)).mono (fun e w' ⟨v_,ts_,he_,hx_,ho_,ht_,hq_⟩=>⟨v_,ts_,he_,hx_,ho_,hq_,c.tzo (tag:=1) ab hx_ ho_ ht_⟩)⟩,ax⟩ fun ac ag ae ab aa=> ?_;obtain ⟨b2x5,e5⟩:=gx ac 5;replace e2:=aa.k1 e2;obtain ⟨ts1_,hro2,hqts1_,hz2⟩:=aa.zo 1 e5 rfl;replace r0:=aa.B 0;have r1:=hro2;replace r9:=aa.z1 9;have r2:=hz2;refine cI ?_;refine og [_] [0] ab [jb r0,jo r1,jz 2 r2,jz 9 r9] ⟨ss e5,ax⟩ fun ac ag ae ab aa=> ?_;replace e2:=aa.k1 e2;have e3:=aa.V 0;replace r0:=aa.B 0;replace r1:=aa.O 1;obtain ⟨r2,r9⟩:=aa.z2 2 9;obtain ⟨kv0,rfl⟩:=r1.isSl.sv;refine wp_seq ?_;refine wp_seq (eI ab [jb r0,jo r1,jz 2 r2,jz 9 r9] ⟨ao e3,am fun c=>cQ rfl aI (c.q 0) r1.isSl,am fun c=>bV rfl (c.q 1) rfl,ax⟩ fun ac ag ae ab aa=> ?_);obtain ⟨e2,e3⟩:=aa.k2 e2 e3;have e8:=aa.V 2;replace r0:=aa.B 0;replace r1:=aa.O 1;obtain ⟨r2,r9⟩:=aa.z2 2 9;refine wp_cond_split e8 (fun hc1=> ?_) (fun hc1=> ?_)
 · try simp only [ai] at hc1
   refine wp_seq (zj ab [jb r0,jo r1,jz 2 r2,jz 9 r9] ⟨ao e3,am fun c=>aK rfl aI ak (c.q 0) r1.isSl rfl (by omega) (by omega),am fun c=>cM (vs:=(tc (nth ts1_ 0))) rfl aD ak (c.q 1) rfl (fun _ _ hj=>((c.io 1 rfl).1.sl).elem (bo (i:=0) (by omega) (by omega)) hj),ct (cx:=(tc (nth ts1_ 0))) (off:=0) ak fun c=>⟨c.bp 0 rfl e2,c.ad ((c.p e2).trans r0.ptr) e2 rfl,(c.q 2)⟩,ax⟩ fun ac ag ae ab aa=> ?_);obtain ⟨e2,e3⟩:=aa.k2 e2 e3;replace r0:=aa.RB 3 e2;replace r1:=aa.O 1;obtain ⟨r2,r9⟩:=aa.z2 2 9;refine wp_ret ?_;refine rp ?_;refine qN (fn:=Tryz.f60) rfl ab.defers e2 r0 aD ak rfl ?_;exact ⟨_,rfl,ab.ext0,(r2.e (by omega) (by omega)).out,Co hqts1_ (by omega)⟩
 try simp only [ah] at hc1
 refine wp_skip ?_;refine wp_seq (eI ab [jb r0,jo r1,jz 2 r2,jz 9 r9] ⟨ao e3,am fun c=>fW (cells:=#[(aj 0),(aS (⟨#[]⟩:ByteArray)),(aA false),(.slice none 0 0),(aj 0),(aj 0),(aA false),kv0.v]) rfl aN (ia rfl (c.n 0 rfl) rfl),ct (cx:=[(aj 0),(aS (⟨#[]⟩:ByteArray)),(aA false),(.slice none 0 0),(aj 0),(aj 0),(aA false),kv0.v]) (off:=0) ak fun c=>⟨c.bp 0 rfl e2,c.ad ((c.p e2).trans r0.ptr) e2 rfl,(c.q 1)⟩,ax⟩ fun ac ag ae ab aa=> ?_);replace e2:=aa.k1 e2;replace r0:=aa.RB 2 e2;replace r1:=aa.O 1;obtain ⟨r2,r9⟩:=aa.z2 2 9;refine wp_ret ?_;refine rp ?_;refine qN (fn:=Tryz.f60) rfl ab.defers e2 r0 aD ak rfl ?_;exact ⟨⟨0,⟨#[]⟩,false,Sv.nil,[],0,0,false,kv0,ts1_⟩,rfl,ab.ext0,zV r1 (fun g h=> .inr (ab.bnd _ _ h).1) r2.outs,by rw [DU];exact zS hqts1_ (by omega)⟩
set_option maxRecDepth 100000 in
theorem Aw (F:aQ) (v:Value) (xs:List Tr) (w:World) (hS:SlT oN w v xs) (hF:∀t ∈ xs,TrT F w t) (hP:de (xs.map fC)≤1000000):Calls Tryz.prog 62 #[v] w (fun e w'=>∃t':Tr,e= .returned t'.v∧Ext aY w w'∧TrT (Gn F w) w' t'∧er t'=me (xs.map er)):=by
 refine enter (n:=18) Tryz.func62 rfl rfl (aw rfl) ?_;intro a0 τ0 ha st0;have e0:=nf ha;have hle:=hS.le;have r9:Fz (nt (Gn F w) xs) τ0 w:=TrT.inzs hF st0;refine wp_seq (rg [box _ _ 0 2 [(aj 0),(aS (⟨#[]⟩:ByteArray)),(aA false),(.slice none 0 0),(aj 0),(aj 0),(aA false),(.slice none 0 0)]] [0] st0 [jz 9 r9] ⟨cK rfl rfl rfl rfl aN rfl,ax⟩ fun ac ag ae ab aa=> ?_);obtain ⟨b1x2,e2⟩:=gx ac 2;replace e0:=aa.k1 e0;have r0:=aa.rb 0 e2 rfl;replace r9:=aa.z1 9;refine wp_seq ?_;refine bA ?_;refine cH 2 (by kernel_rfl) ?_;refine og [_,Ce oN 25 _ 1 5 (fun b:List Tr=>b) (fun b:List Tr=>b.map er=ic 1 (xs.map er)) (fun b:List Tr=>nt (Gn F w) b)] [0,1] ab [jb r0,jz 9 r9] ⟨ao e0,DO (xs:=fun b:List Tr=>b) (Ψ:=fun b:List Tr=>b.map er=ic 1 (xs.map er)) (Φ:=fun b:List Tr=>nt (Gn F w) b) fun {_ a_ _ _} c=>⟨_,_,(cu rfl rfl Tryz.call81 rfl (c.q 0)),(Au _ 1 v xs _ (zl (c.iz 9 rfl) ((⟨hS,fun t_ h_=>(hF t_ h_).s⟩:TlS w v xs).at (ab.ext.trans c.J.ext)).sl).sl (c.iz 9 rfl) (by omega)).mono (fun e w' ⟨v_,ts_,he_,hx_,ho_,ht_,hq_⟩=>⟨v_,ts_,he_,hx_,ho_,hq_,c.tzo (tag:=1) ab hx_ ho_ ht_⟩)⟩,ax⟩ fun ac ag ae ab aa=> ?_;obtain ⟨b2x5,e5⟩:=gx ac 5;replace e2:=aa.k1 e2;obtain ⟨ts1_,hro2,hqts1_,hz2⟩:=aa.zo 1 e5 rfl;replace r0:=aa.B 0;have r1:=hro2;replace r9:=aa.z1 9;have r2:=hz2;refine cI ?_;refine og [_] [0] ab [jb r0,jo r1,jz 2 r2,jz 9 r9] ⟨ss e5,ax⟩ fun ac ag ae ab aa=> ?_;replace e2:=aa.k1 e2;have e3:=aa.V 0;replace r0:=aa.B 0;replace r1:=aa.O 1;obtain ⟨r2,r9⟩:=aa.z2 2 9;obtain ⟨kv0,rfl⟩:=r1.isSl.sv;refine wp_seq ?_;refine wp_seq (eI ab [jb r0,jo r1,jz 2 r2,jz 9 r9] ⟨ao e3,am fun c=>cQ rfl aI (c.q 0) r1.isSl,am fun c=>bV rfl (c.q 1) rfl,ax⟩ fun ac ag ae ab aa=> ?_);obtain ⟨e2,e3⟩:=aa.k2 e2 e3;have e8:=aa.V 2;replace r0:=aa.B 0;replace r1:=aa.O 1;obtain ⟨r2,r9⟩:=aa.z2 2 9;refine wp_cond_split e8 (fun hc1=> ?_) (fun hc1=> ?_)
 · try simp only [ai] at hc1
   refine wp_seq (es ab [jb r0,jo r1,jz 2 r2,jz 9 r9] ⟨am fun c=>fW (cells:=#[(aj 0),(aS (⟨#[]⟩:ByteArray)),(aA false),(.slice none 0 0),(aj 0),(aj 0),(aA false),(.slice none 0 0)]) rfl aN (gq rfl rfl),ct (cx:=[(aj 0),(aS (⟨#[]⟩:ByteArray)),(aA false),(.slice none 0 0),(aj 0),(aj 0),(aA false),(.slice none 0 0)]) (off:=0) ak fun c=>⟨c.bp 0 rfl e2,c.ad ((c.p e2).trans r0.ptr) e2 rfl,(c.q 0)⟩,ax⟩ fun ac ag ae ab aa=> ?_);obtain ⟨e2,e3⟩:=aa.k2 e2 e3;replace r0:=aa.RB 1 e2;replace r1:=aa.O 1;obtain ⟨r2,r9⟩:=aa.z2 2 9;refine wp_ret ?_;refine rp ?_;refine qN (fn:=Tryz.f62) rfl ab.defers e2 r0 aD ak rfl ?_;exact ⟨nh 0 [],rfl,ab.ext0,fy _ _ _ _ _ _ _ _,zT hqts1_ (by omega)⟩
 try simp only [ah] at hc1
 refine wp_skip ?_;refine wp_seq ?_;refine wp_seq (eI ab [jb r0,jo r1,jz 2 r2,jz 9 r9] ⟨ao e3,am fun c=>cQ rfl aI (c.q 0) r1.isSl,am fun c=>bV rfl (c.q 1) rfl,ax⟩ fun ac ag ae ab aa=> ?_);obtain ⟨e2,e3⟩:=aa.k2 e2 e3;have e12:=aa.V 2;replace r0:=aa.B 0;replace r1:=aa.O 1;obtain ⟨r2,r9⟩:=aa.z2 2 9;refine wp_cond_split e12 (fun hc2=> ?_) (fun hc2=> ?_)
 · try simp only [ai] at hc2
   refine wp_seq (zj ab [jb r0,jo r1,jz 2 r2,jz 9 r9] ⟨ao e3,am fun c=>aK rfl aI ak (c.q 0) r1.isSl rfl (by omega) (by omega),am fun c=>cM (vs:=(tc (nth ts1_ 0))) rfl aD ak (c.q 1) rfl (fun _ _ hj=>((c.io 1 rfl).1.sl).elem (bo (i:=0) (by omega) (by omega)) hj),ct (cx:=(tc (nth ts1_ 0))) (off:=0) ak fun c=>⟨c.bp 0 rfl e2,c.ad ((c.p e2).trans r0.ptr) e2 rfl,(c.q 2)⟩,ax⟩ fun ac ag ae ab aa=> ?_);obtain ⟨e2,e3⟩:=aa.k2 e2 e3;replace r0:=aa.RB 3 e2;replace r1:=aa.O 1;obtain ⟨r2,r9⟩:=aa.z2 2 9;refine wp_ret ?_;refine rp ?_;refine qN (fn:=Tryz.f62) rfl ab.defers e2 r0 aD ak rfl ?_;exact ⟨_,rfl,ab.ext0,(r2.e (by omega) (by omega)).out,Cp hqts1_ (by omega)⟩
 try simp only [ah] at hc2
 refine wp_skip ?_;refine wp_seq (eI ab [jb r0,jo r1,jz 2 r2,jz 9 r9] ⟨ao e3,am fun c=>fW (cells:=#[(aj 1),(aS (⟨#[]⟩:ByteArray)),(aA false),(.slice none 0 0),(aj 0),(aj 0),(aA false),kv0.v]) rfl aN (ia rfl (c.n 0 rfl) rfl),ct (cx:=[(aj 1),(aS (⟨#[]⟩:ByteArray)),(aA false),(.slice none 0 0),(aj 0),(aj 0),(aA false),kv0.v]) (off:=0) ak fun c=>⟨c.bp 0 rfl e2,c.ad ((c.p e2).trans r0.ptr) e2 rfl,(c.q 1)⟩,ax⟩ fun ac ag ae ab aa=> ?_);replace e2:=aa.k1 e2;replace r0:=aa.RB 2 e2;replace r1:=aa.O 1;obtain ⟨r2,r9⟩:=aa.z2 2 9;refine wp_ret ?_;refine rp ?_;refine qN (fn:=Tryz.f62) rfl ab.defers e2 r0 aD ak rfl ?_;exact ⟨⟨1,⟨#[]⟩,false,Sv.nil,[],0,0,false,kv0,ts1_⟩,rfl,ab.ext0,zV r1 (fun g h=> .inr (ab.bnd _ _ h).1) r2.outs,by rw [DU];exact zU hqts1_ (by omega) (by omega)⟩
end
section
open Go.RowKit
open Srt
set_option maxRecDepth 100000 in
theorem CF (t:Tr) (p:Addr) (v:Value) (ks:List Int) (w:World) (hc:w.cell? p=some v) (hS:SlT gb w v ks):Calls Tryz.prog 125 #[(ta t),(.pointer (some p))] w (fun e w'=>e= .returned (aA (ks.any fun y=>decide (t.k=y)))∧Ext aY w w'):=by
 refine enter (n:=8) Tryz.func125 rfl rfl (aw rfl) ?_;intro a0 τ0 ha st0;have e0:aU a0 0=(ta t):=ha 0 _ rfl;have e1:aU a0 1=(.pointer (some p)):=ha 1 _ rfl;clear ha;refine wp_seq (rg [box _ _ 0 2 (tc t),_] [0,0] st0 [] ⟨fP (v:=(ta t)) rfl rfl rfl rfl rfl (fun _ _ _ _ c=>(c.p e0)),am fun c=>au rfl rfl,ax⟩ fun ac ag ae ab aa=> ?_);obtain ⟨b1x2,e2⟩:=gx ac 2;replace e1:=aa.k1 e1;have e3:=aa.V 1;have r0:=aa.rb 0 e2 rfl;refine wp_seq (yg [0,0,2,7,15] ab [jb r0] ⟨am fun c=>ay rfl ec (c.p e1) ((ab.ext.trans c.J.ext).cellAt hc),cb aq ar e2 r0.ptr,dq aC 1 0 0,dR fun c=>⟨_,_,(cu rfl rfl Tryz.call126 (c.q 0) (c.q 2)),At v ks t.k _ (hS.at (ab.ext.trans c.J.ext))⟩,aG 3,ax⟩ fun ac ag ae ab aa=> ?_);have e3:=aa.V 4;refine wp_ret ?_;refine rp ?_;refine cC (fn:=Tryz.f125) rfl ab.defers e3 ?_;exact ⟨rfl,ab.ext0⟩
set_option maxRecDepth 100000 in
theorem EF (v cap:Value) (ts:List Tr) (q:Tr→Bool) (w:World) (hf:∀t ∈ ts,∀w2:World,Ext aY w w2→Calls Tryz.prog 125 #[t.v,cap] w2 (fun e w3=>e= .returned (aA (q t))∧Ext aY w2 w3)) (hS:SlT oN w v ts):Calls Tryz.prog 142 #[v,(.func (.func 125) #[] #[cap])] w (fun e w'=>e= .returned (aj (DT q ts))∧Ext aY w w'):=by
 refine enter (n:=19) Tryz.func142 rfl rfl (aw rfl) ?_;intro a0 τ0 ha st0;obtain ⟨e0,e1⟩:=qr ha;have hle:=hS.le;refine wp_seq (en st0 [] ⟨am fun c=>au rfl rfl,ax⟩ fun ac ag ae ab aa=> ?_);obtain ⟨e0,e1⟩:=aa.k2 e0 e1;have e4:=aa.V 0;refine wp_seq ?_;refine wp_seq (zi [0,1,0] ab [] ⟨ao e0,am fun c=>cQ rfl aI (c.q 0) hS.sl,am fun c=>aJ rfl rfl,ax⟩ fun a2 w2 τ2 st2 f2=> ?_);obtain ⟨e0,e1,e4⟩:=f2.k3 e0 e1 e4;have e7:=f2.V 1;have e8:=f2.V 2;refine wp_block ?_;refine wp_loop (fun a_ w_=>∃(k:Nat) (τ:Nat→aQ),(k≤ts.length)∧
      (∀y ∈ ts.take k,q y=false)∧
      St (Nw w) w 19 a_ w_ τ∧
      aU a_ 8=(aj (k:Int))∧
      aU a_ 0=v∧
      aU a_ 1=(.func (.func 125) #[] #[cap])∧
      aU a_ 7=(aj (ts.length:Int))) (fun a_ _=>ts.length - (intOf (aU a_ 8)).toNat) ?_ ?_
 · refine ⟨0,τ2,?_,?_,st2,(e8.trans (bh (by omega))),e0,e1,e7⟩
   · omega
   · simp
 intro a3 w3 hI;obtain ⟨k,τ3,q0,q1,st3,e8,e0,e1,e7⟩:=hI;have m8:=e8;refine wp_seq (en st3 [] ⟨am fun c=>df rfl (c.p e8) (c.p e7),ax⟩ fun ac ag ae ab aa=> ?_);obtain ⟨e0,e1,e7,e8⟩:=aa.k4 e0 e1 e7 e8;have e9:=aa.V 0;refine wp_seq ?_;refine wp_cond_split e9 (fun hc1=> ?_) (fun hc1=> ?_)
 · try simp only [ai] at hc1
   refine wp_skip ?_;refine wp_seq ?_;refine wp_block ?_;refine wp_seq (es ab [] ⟨ao e8,aG 0,ax⟩ fun ac ag ae ab aa=> ?_);obtain ⟨e0,e1,e7,e8,e9⟩:=aa.k5 e0 e1 e7 e8 e9;have e5:=aa.V 1;refine wp_seq (Cf [0,0,0,6,14,31] ab [] ⟨ao e1,ao e0,ao e5,am fun c=>aK rfl aI ak (c.q 1) hS.sl (c.q 2) (by omega) (by omega),am fun c=>cM (vs:=(tc (nth ts (k:Int)))) rfl aD ak (c.q 3) rfl (fun _ _ hj=>(hS.at (ab.ext.trans c.J.ext)).elem (bo (i:=(k:Int)) (by omega) (by omega)) hj),dR fun c=>⟨_,_,(zG rfl (c.q 0) Tryz.call125 (c.q 4)),hf _ (cG (by omega) (by omega)) _ (ab.ext.trans c.J.ext).fresh⟩,ax⟩ fun ac ag ae ab aa=> ?_);obtain ⟨e0,e1,e5,e7,e8,e9⟩:=aa.k6 e0 e1 e5 e7 e8 e9;have e16:=aa.V 5;refine wp_cond_split e16 (fun hc2=> ?_) (fun hc2=> ?_)
   · have hd2:=hc2;skip;refine wp_seq (es ab [] ⟨ao e5,aG 0,ax⟩ fun ac ag ae ab aa=> ?_);obtain ⟨e0,e1,e5,e7,e8,e9,e16⟩:=aa.k7 e0 e1 e5 e7 e8 e9 e16;have e4:=aa.V 1;refine wp_ret ?_;refine rp ?_;refine cC (fn:=Tryz.f142) rfl ab.defers e4 ?_;exact ⟨congrArg _ (bh (by first | exact (tD (f:=q) (by omega) q1 (by assumption)).symm | exact (qv (f:=q) (k:=k) (by omega) q1).symm)),ab.ext0⟩
   have hd2:=hc2;skip;refine wp_skip ?_;show _;refine es ab [] ⟨am fun c=>cP rfl (c.p e8) rfl (by omega),bq 0,ax⟩ fun ac ag ae ab aa=> ?_;obtain ⟨e0,e1,e5,e7,e9,e16⟩:=aa.k6 e0 e1 e5 e7 e9 e16;have e8:=aa.V 1;refine ⟨⟨k+1,ae,?_,?_,ab,(e8.trans (bh (by omega))),e0,e1,e7⟩,?_⟩
   · omega
   · exact qw (f:=q) (by omega) q1 (by assumption)
   · simp only [m8,e8,intOf];omega
 try simp only [ah,aX] at hc1
 refine wp_exit ?_;repeat (with_reducible refine ce ?_)
 refine ci ?_;refine wp_seq (en ab [] ⟨am fun c=>au rfl rfl,ax⟩ fun ac ag ae ab aa=> ?_);have e4:=aa.V 0;refine wp_ret ?_;refine rp ?_;refine cC (fn:=Tryz.f142) rfl ab.defers e4 ?_;exact ⟨congrArg _ (bh (by first | exact (tD (f:=q) (by omega) q1 (by assumption)).symm | exact (qv (f:=q) (k:=k) (by omega) q1).symm)),ab.ext0⟩
set_option maxRecDepth 100000 in
theorem CG (v cap:Value) (ts:List Tr) (q:Tr→Bool) (w:World) (hf:∀t ∈ ts,∀w2:World,Ext aY w w2→Calls Tryz.prog 125 #[t.v,cap] w2 (fun e w3=>e= .returned (aA (q t))∧Ext aY w2 w3)) (hS:SlT oN w v ts):Calls Tryz.prog 124 #[v,(.func (.func 125) #[] #[cap])] w (fun e w'=>e= .returned (aA (ts.any q))∧Ext aY w w'):=by
 refine enter (n:=9) Tryz.func124 rfl rfl (aw rfl) ?_;intro a0 τ0 ha st0;obtain ⟨e0,e1⟩:=qr ha;have hle:=hS.le;refine wp_seq (en st0 [] ⟨am fun c=>au rfl rfl,ax⟩ fun ac ag ae ab aa=> ?_);obtain ⟨e0,e1⟩:=aa.k2 e0 e1;have e4:=aa.V 0;refine wp_seq (yg [0,0,3,7,15] ab [] ⟨ao e0,ao e1,dR fun c=>⟨_,_,(cu rfl rfl Tryz.call142 (c.q 0) (c.q 1)),EF v cap ts q _ (fun t_ h_ w2_ he_=>hf t_ h_ w2_ ((ab.ext.trans c.J.ext).fresh.trans he_)) (hS.at (ab.ext.trans c.J.ext))⟩,am fun c=>gF rfl (c.q 2) rfl,aG 3,ax⟩ fun a2 w2 τ2 st2 f2=> ?_);have e4:=f2.V 4;refine wp_ret ?_;refine rp ?_;refine cC (fn:=Tryz.f124) rfl st2.defers e4 ?_;exact ⟨congrArg _ (congrArg _ (zQ _ _)),st2.ext0⟩
set_option maxRecDepth 100000 in
theorem EG (v:Value) (u:Sv) (ts:List Tr) (ks:List Int) (w:World) (hS:SlT oN w v ts) (hU:SlT gb w u.v ks):Calls Tryz.prog 102 #[v,u.v] w (fun e w'=>e= .returned (aA (ts.any fun x=>ks.any fun y=>decide (x.k=y)))∧Ext aY w w'):=by
 refine enter (n:=8) Tryz.func102 rfl rfl (aw rfl) ?_;intro a0 τ0 ha st0;obtain ⟨e0,e1⟩:=qr ha;have hle:=hS.le;refine wp_seq (rg [box _ _ 0 3 [u.v],_] [0,0] st0 [] ⟨fP (v:=u.v) rfl rfl rfl rfl rfl (fun _ _ _ _ c=>(c.p e1)),am fun c=>au rfl rfl,ax⟩ fun ac ag ae ab aa=> ?_);obtain ⟨b1x3,e3⟩:=gx ac 3;replace e0:=aa.k1 e0;have e4:=aa.V 1;have r0:=aa.rb 0 e3 rfl;refine wp_seq ?_;refine lE [0,0,3,7] ab [jb r0] ⟨ao e0,am fun c=>pV rfl (c.p e3),dR fun c=>⟨_,_,(cu rfl rfl Tryz.call124 (c.q 0) (c.q 1)),CG v b1x3 ts (fun x_=>(ks).any fun y_=>decide (x_.k=y_)) _ (fun t_ _ w2_ he_=>by rw [(c.ib 0 rfl).ptr];exact CF t_ _ u.v ks w2_ (he_.cell_some ((c.ib 0 rfl).cell (j:=0) rfl) (fun h=>h)) ((hU.at (ab.ext.trans c.J.ext)).keep he_ (fun _ h=>h))) (hS.at (ab.ext.trans c.J.ext))⟩,aG 2,ax⟩ fun ac ag ae ab aa=> ?_;have e4:=aa.V 3;refine wp_ret ?_;refine rp ?_;refine cC (fn:=Tryz.f102) rfl ab.defers e4 ?_;exact ⟨rfl,ab.ext0⟩
end
section
open Go.RowKit
open Srt
theorem xD (v u:Value) (ts:List Tr) (ks:List Int) (w:World) (hS:SlT oN w v ts) (hU:SlT gb w u ks):Calls Tryz.prog 102 #[v,u] w (fun e w'=>e= .returned (.bool (ts.any fun x=>ks.any fun y=>decide (x.k=y)))∧Ext aY w w'):=by
  obtain ⟨s,rfl⟩:=hU.sl.sv;exact EG v s ts ks w hS hU
theorem rF {t:Tr} (h:fC t≤1000000):pb t.rows:=fun r hr=>by
  have h1:=Cn hr;have h2:=lk t;have h3:0≤de (t.kids.map fC):=iB fun x hx=>by
    obtain ⟨k,hk,rfl⟩:=List.mem_map.1 hx;have:=lG k;omega
  omega
def oq (t:Tr) (ks:List Int):Bool:=(t.kids).any fun x_=>ks.any fun y_=>decide (x_.k=y_)
def lr (t:Tr):Bool:=jL t.ch t.ng t.rows t.mn t.mx t.lz
def cq (t:Tr):Bool:=
  if t.k=2 then (jL (⟨#[]⟩:ByteArray) t.ng t.rows t.mn t.mx t.lz&&decide ((t.kids.length:Int)=0))&&dS t.ch
  else if t.k=4 then (jL t.ch false [] t.mn t.mx t.lz&&decide ((t.kids.length:Int)=0))&&lT t.rows
  else if t.k=7 then ((((jL t.ch t.ng t.rows 0 0 false&&decide ((t.kids.length:Int)=1))&&oK (nth t.kids 0).k)&&decide (0≤t.mn))&&decide (t.mn≤255))&&(decide (t.mx= -1) || (decide (t.mn≤t.mx)&&decide (t.mx≤255)))
  else if t.k=0 then (lr t&& !decide ((t.kids.length:Int)=1))&& !oq t [0,1]
  else if t.k=1 then (lr t&&decide (1 < (t.kids.length:Int)))&& !oq t [1]
  else if t.k=5∨t.k=6 then lr t&&decide ((t.kids.length:Int)=1)
  else if t.k=3∨t.k=8∨t.k=9∨t.k=10∨t.k=11 then lr t&&decide ((t.kids.length:Int)=0)
  else false
set_option maxRecDepth 100000 in
theorem vc (t:Tr) (w:World) (hT:mc w t) (hP:fC t≤1000000):Calls Tryz.prog 77 #[(ta t)] w (fun e w'=>e= .returned (aA (cq t))∧Ext aY w w'):=by
 refine enter (n:=149) Tryz.func77 rfl rfl (aw rfl) ?_;intro a0 τ0 ha st0;have e0:aU a0 0=(ta t):=ha 0 _ rfl;clear ha;have hle:=hT.kids.le;have hle2:=hT.rows.le;have hwt:=ew t;have hsm:=rF hP;refine wp_seq (rg [box _ _ 0 1 (tc t),_] [0,0] st0 [] ⟨fP (v:=(ta t)) rfl rfl rfl rfl rfl (fun _ _ _ _ c=>(c.p e0)),am fun c=>au rfl rfl,ax⟩ fun ac ag ae ab aa=> ?_);obtain ⟨b1x1,e1⟩:=gx ac 1;have e2:=aa.V 1;have r0:=aa.rb 0 e1 rfl;refine wp_seq ?_;refine wp_seq (es ab [jb r0] ⟨cb aq ar e1 r0.ptr,dq aC 0 0 0,ax⟩ fun ac ag ae ab aa=> ?_);obtain ⟨e1,e2⟩:=aa.k2 e1 e2;have e8:=aa.V 1;replace r0:=aa.B 0;refine wp_block ?_;refine wp_seq (es ab [jb r0] ⟨am fun c=>bV rfl (c.p e8) rfl,aG 0,ax⟩ fun ac ag ae ab aa=> ?_);obtain ⟨e1,e2,e8⟩:=aa.k3 e1 e2 e8;have e9:=aa.V 1;replace r0:=aa.B 0;refine wp_cond_split e9 (fun hc1=> ?_) (fun hc1=> ?_)
 · try simp only [ai] at hc1
   refine wp_seq (eI ab [jb r0] ⟨cb aq aZ e1 r0.ptr,dq bG 0 0 1,aG 1,ax⟩ fun ac ag ae ab aa=> ?_);obtain ⟨e1,e2,e8⟩:=aa.k3 e1 e2 e8;have e3:=aa.V 2;replace r0:=aa.B 0;refine wp_seq (es ab [jb r0] ⟨cb aq aZ e1 r0.ptr,ct (cx:=[(aj t.k),(aS (⟨#[]⟩:ByteArray)),(aA t.ng),t.rv.v,(aj t.mn),(aj t.mx),(aA t.lz),t.kv.v]) (v:=(aS (⟨#[]⟩:ByteArray))) aZ fun c=>⟨c.bp 0 rfl e1,c.ad (c.q 0) e1 rfl,rfl⟩,ax⟩ fun ac ag ae ab aa=> ?_);obtain ⟨e1,e2,e3,e8⟩:=aa.k4 e1 e2 e3 e8;replace r0:=aa.RB 1 e1;refine wp_seq ?_;refine rg [_,_,_,_,_,_,_,_,_,_,_,_,_] [0,1,3,7,15,31,63,127,255,511,1023,2047,4095] ab [jb r0] ⟨am fun c=>eA rfl aD ak ((c.p e1).trans r0.ptr) (c.B 0),dR fun c=>⟨_,_,(bj rfl rfl gd (c.q 0)),kL t.k (⟨#[]⟩:ByteArray) t.ng t.rv.v t.rows t.mn t.mx t.lz t.kv.v rfl _ (hT.at (ab.ext.trans c.J.ext)).rows⟩,bq 1,aE 2 rfl fun c hpc=>cF rfl aq bC ((c.p e1).trans r0.ptr),aE 2 rfl fun c hpc=>ay rfl bU (c.M 3 hpc) ((c.B 0).cell (j:=7) rfl),aE 2 rfl fun c hpc=>cQ rfl aI (c.M 4 hpc) (hT.at ab.ext).tl.sl.sl,aE 2 rfl fun c hpc=>bV rfl (c.M 5 hpc) rfl,bN 2 6,bq 7,aE 8 rfl fun c hpc=>aJ rfl (c.p e3),fx 8 true rfl fun c hpc=>⟨_,_,(bj rfl rfl Tryz.call29 (c.M 9 hpc)),rD t.ch _ (by have hq0:=hpc;(try simp only [av,ai] at hq0);omega)⟩,bN 8 10,aG 11,ax⟩ fun ac ag ae ab aa=> ?_;obtain ⟨e1,e8⟩:=aa.k2 e1 e8;have e2:=aa.V 12;replace r0:=aa.B 0;refine wp_ret ?_;refine rp ?_;refine cC (fn:=Tryz.f77) rfl ab.defers e2 ?_;exact ⟨congrArg _ (congrArg _ (by unfold cq;(repeat (first | rw [if_neg (by omega)] | rw [if_pos (by omega)]));(try rfl))),ab.ext0⟩
 try simp only [ah] at hc1
 refine wp_seq (es ab [jb r0] ⟨am fun c=>bV rfl (c.p e8) rfl,aG 0,ax⟩ fun ac ag ae ab aa=> ?_);obtain ⟨e1,e2,e8⟩:=aa.k3 e1 e2 e8;have e26:=aa.V 1;replace r0:=aa.B 0;refine wp_cond_split e26 (fun hc2=> ?_) (fun hc2=> ?_)
 · try simp only [ai] at hc2
   refine wp_seq (eI ab [jb r0] ⟨cb aq eU e1 r0.ptr,dq jS 0 0 3,aG 1,ax⟩ fun ac ag ae ab aa=> ?_);obtain ⟨e1,e2,e8⟩:=aa.k3 e1 e2 e8;have e4:=aa.V 2;replace r0:=aa.B 0;refine wp_seq ?_;refine bA ?_;refine cH 3 (by kernel_rfl) ?_;refine og [_,_,_] [0,1,3] ab [jb r0] ⟨cb aq eU e1 r0.ptr,ct (cx:=[(aj t.k),(aS t.ch),(aA t.ng),(.slice none 0 0),(aj t.mn),(aj t.mx),(aA t.lz),t.kv.v]) (v:=(.slice none 0 0)) eU fun c=>⟨c.bp 0 rfl e1,c.ad (c.q 0) e1 rfl,rfl⟩,cb aq bc e1 r0.ptr,ax⟩ fun ac ag ae ab aa=> ?_;obtain ⟨e1,e2,e4,e8⟩:=aa.k4 e1 e2 e4 e8;have e31:=aa.V 2;replace r0:=aa.RB 1 e1;refine cI ?_;refine og [_] [0] ab [jb r0] ⟨ct (cx:=[(aj t.k),(aS t.ch),(aA false),(.slice none 0 0),(aj t.mn),(aj t.mx),(aA t.lz),t.kv.v]) (v:=(aA false)) bc fun c=>⟨c.bp 0 rfl e1,c.ad (c.p e31) e1 rfl,rfl⟩,ax⟩ fun ac ag ae ab aa=> ?_;obtain ⟨e1,e2,e4,e8⟩:=aa.k4 e1 e2 e4 e8;replace r0:=aa.RB 0 e1;refine wp_seq ?_;refine rg [_,_,_,_,_,_,_,_,_,_,_,_,_] [0,1,3,7,15,31,63,127,255,511,1023,2047,4095] ab [jb r0] ⟨am fun c=>eA rfl aD ak ((c.p e1).trans r0.ptr) (c.B 0),dR fun c=>⟨_,_,(bj rfl rfl gd (c.q 0)),kL t.k t.ch false (.slice none 0 0) [] t.mn t.mx t.lz t.kv.v rfl _ (SlT.nil _ _)⟩,bq 1,aE 2 rfl fun c hpc=>cF rfl aq bC ((c.p e1).trans r0.ptr),aE 2 rfl fun c hpc=>ay rfl bU (c.M 3 hpc) ((c.B 0).cell (j:=7) rfl),aE 2 rfl fun c hpc=>cQ rfl aI (c.M 4 hpc) (hT.at ab.ext).tl.sl.sl,aE 2 rfl fun c hpc=>bV rfl (c.M 5 hpc) rfl,bN 2 6,bq 7,aE 8 rfl fun c hpc=>aJ rfl (c.p e4),fx 8 true rfl fun c hpc=>⟨_,_,(bj rfl rfl Tryz.call100 (c.M 9 hpc)),EE t.rv.v t.rows _ (hT.at (ab.ext.trans c.J.ext)).rows (by first | assumption | (unfold pb;decide)) (by have hq0:=hpc;(try simp only [av,ai] at hq0);omega)⟩,bN 8 10,aG 11,ax⟩ fun ac ag ae ab aa=> ?_;obtain ⟨e1,e8⟩:=aa.k2 e1 e8;have e2:=aa.V 12;replace r0:=aa.B 0;refine wp_ret ?_;refine rp ?_;refine cC (fn:=Tryz.f77) rfl ab.defers e2 ?_;exact ⟨congrArg _ (congrArg _ (by unfold cq;(repeat (first | rw [if_neg (by omega)] | rw [if_pos (by omega)]));(try rfl))),ab.ext0⟩
 try simp only [ah] at hc2
 refine wp_seq (es ab [jb r0] ⟨am fun c=>bV rfl (c.p e8) rfl,aG 0,ax⟩ fun ac ag ae ab aa=> ?_);obtain ⟨e1,e2,e8⟩:=aa.k3 e1 e2 e8;have e44:=aa.V 1;replace r0:=aa.B 0;refine wp_cond_split e44 (fun hc3=> ?_) (fun hc3=> ?_)
 · try simp only [ai] at hc3
   refine wp_seq (Cf [0,1,0,4,3,31] ab [jb r0] ⟨cb aq ar e1 r0.ptr,dq aC 0 0 4,cb aq ar e1 r0.ptr,dq aC 2 0 5,aG 1,aG 3,ax⟩ fun ac ag ae ab aa=> ?_);obtain ⟨e1,e2,e8⟩:=aa.k3 e1 e2 e8;have e5:=aa.V 4;have e6:=aa.V 5;replace r0:=aa.B 0;refine wp_seq ?_;refine bA ?_;refine cH 3 (by kernel_rfl) ?_;refine og [_,_,_] [0,1,3] ab [jb r0] ⟨cb aq ar e1 r0.ptr,ct (cx:=[(aj t.k),(aS t.ch),(aA t.ng),t.rv.v,(aj 0),(aj t.mx),(aA t.lz),t.kv.v]) (v:=(aj 0)) ar fun c=>⟨c.bp 0 rfl e1,c.ad (c.q 0) e1 rfl,rfl⟩,cb aq ar e1 r0.ptr,ax⟩ fun ac ag ae ab aa=> ?_;obtain ⟨e1,e2,e5,e6,e8⟩:=aa.k5 e1 e2 e5 e6 e8;have e51:=aa.V 2;replace r0:=aa.RB 1 e1;refine cI ?_;refine cH 2 (by kernel_rfl) ?_;refine og [_,_] [0,1] ab [jb r0] ⟨ct (cx:=[(aj t.k),(aS t.ch),(aA t.ng),t.rv.v,(aj 0),(aj 0),(aA t.lz),t.kv.v]) (v:=(aj 0)) ar fun c=>⟨c.bp 0 rfl e1,c.ad (c.p e51) e1 rfl,rfl⟩,cb aq bc e1 r0.ptr,ax⟩ fun ac ag ae ab aa=> ?_;obtain ⟨e1,e2,e5,e6,e8⟩:=aa.k5 e1 e2 e5 e6 e8;have e52:=aa.V 1;replace r0:=aa.RB 0 e1;refine cI ?_;refine og [_] [0] ab [jb r0] ⟨ct (cx:=[(aj t.k),(aS t.ch),(aA t.ng),t.rv.v,(aj 0),(aj 0),(aA false),t.kv.v]) (v:=(aA false)) bc fun c=>⟨c.bp 0 rfl e1,c.ad (c.p e52) e1 rfl,rfl⟩,ax⟩ fun ac ag ae ab aa=> ?_;obtain ⟨e1,e2,e5,e6,e8⟩:=aa.k5 e1 e2 e5 e6 e8;replace r0:=aa.RB 0 e1;refine wp_seq ?_;refine rg [_,_,_,_,_,_,_,_,_,_,_,_,_,_,_,_,_,_,_,_,_,_,_,_,_,_,_,_,_,_,_,_,_,_,_,_,_,_] [0,1,3,7,15,31,63,127,255,511,1023,2047,4095,8191,16383,32767,65535,131071,262143,524287,1048575,2097151,4194303,8388607,16777215,33554431,67108863,134217727,268435455,268435455,1073741823,2147483647,4294967295,8589934591,17179869183,34359738367,68719476735,137438953471] ab [jb r0] ⟨am fun c=>eA rfl aD ak ((c.p e1).trans r0.ptr) (c.B 0),dR fun c=>⟨_,_,(bj rfl rfl gd (c.q 0)),kL t.k t.ch t.ng t.rv.v t.rows 0 0 false t.kv.v rfl _ (hT.at (ab.ext.trans c.J.ext)).rows⟩,bq 1,aE 2 rfl fun c hpc=>cF rfl aq bC ((c.p e1).trans r0.ptr),aE 2 rfl fun c hpc=>ay rfl bU (c.M 3 hpc) ((c.B 0).cell (j:=7) rfl),aE 2 rfl fun c hpc=>cQ rfl aI (c.M 4 hpc) (hT.at ab.ext).tl.sl.sl,aE 2 rfl fun c hpc=>bV rfl (c.M 5 hpc) rfl,bN 2 6,bq 7,aE 8 rfl fun c hpc=>cF rfl aq bC ((c.p e1).trans r0.ptr),aE 8 rfl fun c hpc=>ay rfl bU (c.M 9 hpc) ((c.B 0).cell (j:=7) rfl),aE 8 rfl fun c hpc=>aK rfl aI ak (c.M 10 hpc) (hT.at ab.ext).tl.sl.sl rfl (by have hq0:=hpc;(try simp only [av,ai] at hq0);omega) (by have hq0:=hpc;(try simp only [av,ai] at hq0);omega),aE 8 rfl fun c hpc=>cF rfl aq ar (c.M 11 hpc),aE 8 rfl fun c hpc=>ay rfl aC (c.M 12 hpc) (((hT.at (ab.ext.trans c.J.ext)).tl.sl).elem (j:=0) (bo (i:=0) (by have hq0:=hpc;(try simp only [av,ai] at hq0);omega) (by have hq0:=hpc;(try simp only [av,ai] at hq0);omega)) rfl),fx 8 true rfl fun c hpc=>⟨_,_,(bj rfl rfl Tryz.call101 (c.M 13 hpc)),wu ((nth t.kids 0).k) _⟩,bN 8 14,bq 15,aE 16 rfl fun c hpc=>aJ rfl (c.p e5),aE 16 rfl fun c hpc=>gF rfl (c.M 17 hpc) rfl,bN 16 18,bq 19,aE 20 rfl fun c hpc=>aJ rfl (c.p e5),aE 20 rfl fun c hpc=>ke rfl (c.M 21 hpc) rfl,bN 20 22,bq 23,aE 24 rfl fun c hpc=>aJ rfl (c.p e6),aE 24 rfl fun c hpc=>bV rfl (c.M 25 hpc) rfl,aE 24 rfl fun c hpc=>aJ rfl (c.M 26 hpc),cB 27 false rfl fun c hpc=>aJ rfl (c.p e6),cB 27 false rfl fun c hpc=>aJ rfl (c.p e5),cB 27 false rfl fun c hpc=>gF rfl (c.M 28 hpc) (c.M 29 hpc),cB 27 false rfl fun c hpc=>aJ rfl (c.M 30 hpc),cB 31 true rfl fun c hpc=>aJ rfl (c.p e6),cB 31 true rfl fun c hpc=>ke rfl (c.M 32 hpc) rfl,cB 27 false rfl fun c hpc=>ly rfl (c.M 31 hpc) (fun h=>c.m 33 rfl (And.intro hpc h)),aE 24 rfl fun c hpc=>oO rfl (c.M 27 hpc) (fun h=>c.m 34 rfl (And.intro hpc h)),bN 24 35,aG 36,ax⟩ fun ac ag ae ab aa=> ?_;obtain ⟨e1,e8⟩:=aa.k2 e1 e8;have e2:=aa.V 37;replace r0:=aa.B 0;refine wp_ret ?_;refine rp ?_;refine cC (fn:=Tryz.f77) rfl ab.defers e2 ?_;exact ⟨congrArg _ (congrArg _ (by unfold cq;(repeat (first | rw [if_neg (by omega)] | rw [if_pos (by omega)]));(try rfl))),ab.ext0⟩
 try simp only [ah] at hc3
 refine wp_seq (es ab [jb r0] ⟨am fun c=>bV rfl (c.p e8) rfl,aG 0,ax⟩ fun ac ag ae ab aa=> ?_);obtain ⟨e1,e2,e8⟩:=aa.k3 e1 e2 e8;have e90:=aa.V 1;replace r0:=aa.B 0;refine wp_cond_split e90 (fun hc4=> ?_) (fun hc4=> ?_)
 · try simp only [ai] at hc4
   refine wp_seq (rg [_,_,_,_,_,_,_,_,_,_,_,gown (((jL t.ch t.ng t.rows t.mn t.mx t.lz)&&(!decide ((t.kids.length:Int)=1)))=true) gb 3 (Nw w) 1 103 ([0,1]),_,_,_,_] [0,1,3,7,15,31,63,127,255,511,1023,511,4095,8191,16383,32767] ab [jb r0] ⟨am fun c=>eA rfl aD ak ((c.p e1).trans r0.ptr) (c.B 0),dR fun c=>⟨_,_,(bj rfl rfl gd (c.q 0)),kL t.k t.ch t.ng t.rv.v t.rows t.mn t.mx t.lz t.kv.v rfl _ (hT.at (ab.ext.trans c.J.ext)).rows⟩,bq 1,aE 2 rfl fun c hpc=>cF rfl aq bC ((c.p e1).trans r0.ptr),aE 2 rfl fun c hpc=>ay rfl bU (c.M 3 hpc) ((c.B 0).cell (j:=7) rfl),aE 2 rfl fun c hpc=>cQ rfl aI (c.M 4 hpc) (hT.at ab.ext).tl.sl.sl,aE 2 rfl fun c hpc=>jn rfl (c.M 5 hpc) rfl,bN 2 6,bq 7,aE 8 rfl fun c hpc=>cF rfl aq bC ((c.p e1).trans r0.ptr),aE 8 rfl fun c hpc=>ay rfl bU (c.M 9 hpc) ((c.B 0).cell (j:=7) rfl),tq (gi:=8) (tg:=100) rfl rfl rfl rfl rfl rfl Iff.rfl (fun hpc=>cX (cells:=#[(aj 0),(aj 1)]) rfl rfl rfl rfl bW ar go rfl (by decide) (by decide) (fun _ _ _ _ c=>ia rfl rfl (by kernel_rfl)) rfl),fx 8 true rfl fun c hpc=>⟨_,_,(cu rfl rfl Tryz.call102 (c.M 10 hpc) (qH _ 103)),xD t.kv.v _ t.kids [0,1] _ (hT.at (ab.ext.trans c.J.ext)).tl.sl (c.rg 11 rfl hpc).1.sl⟩,aE 8 rfl fun c hpc=>dP rfl (c.M 12 hpc),bN 8 13,aG 14,ax⟩ fun ac ag ae ab aa=> ?_);obtain ⟨e1,e8⟩:=aa.k2 e1 e8;have e2:=aa.V 15;replace r0:=aa.B 0;refine wp_ret ?_;refine rp ?_;refine cC (fn:=Tryz.f77) rfl ab.defers e2 ?_;exact ⟨congrArg _ (congrArg _ (by unfold cq;(repeat (first | rw [if_neg (by omega)] | rw [if_pos (by omega)]));(try rfl))),ab.ext0⟩
 try simp only [ah] at hc4
 refine wp_seq (es ab [jb r0] ⟨am fun c=>bV rfl (c.p e8) rfl,aG 0,ax⟩ fun ac ag ae ab aa=> ?_);obtain ⟨e1,e2,e8⟩:=aa.k3 e1 e2 e8;have e107:=aa.V 1;replace r0:=aa.B 0;refine wp_cond_split e107 (fun hc5=> ?_) (fun hc5=> ?_)
 · try simp only [ai] at hc5
   refine wp_seq (rg [_,_,_,_,_,_,_,_,_,_,_,gown (((jL t.ch t.ng t.rows t.mn t.mx t.lz)&&(decide (1 < (t.kids.length:Int))))=true) gb 3 (Nw w) 1 120 ([1]),_,_,_,_] [0,1,3,7,15,31,63,127,255,511,1023,511,4095,8191,16383,32767] ab [jb r0] ⟨am fun c=>eA rfl aD ak ((c.p e1).trans r0.ptr) (c.B 0),dR fun c=>⟨_,_,(bj rfl rfl gd (c.q 0)),kL t.k t.ch t.ng t.rv.v t.rows t.mn t.mx t.lz t.kv.v rfl _ (hT.at (ab.ext.trans c.J.ext)).rows⟩,bq 1,aE 2 rfl fun c hpc=>cF rfl aq bC ((c.p e1).trans r0.ptr),aE 2 rfl fun c hpc=>ay rfl bU (c.M 3 hpc) ((c.B 0).cell (j:=7) rfl),aE 2 rfl fun c hpc=>cQ rfl aI (c.M 4 hpc) (hT.at ab.ext).tl.sl.sl,aE 2 rfl fun c hpc=>iR rfl (c.M 5 hpc) rfl,bN 2 6,bq 7,aE 8 rfl fun c hpc=>cF rfl aq bC ((c.p e1).trans r0.ptr),aE 8 rfl fun c hpc=>ay rfl bU (c.M 9 hpc) ((c.B 0).cell (j:=7) rfl),tq (gi:=8) (tg:=117) rfl rfl rfl rfl rfl rfl Iff.rfl (fun hpc=>cX (cells:=#[(aj 1)]) rfl rfl rfl rfl bW ar go rfl (by decide) (by decide) (fun _ _ _ _ c=>gq rfl (by kernel_rfl)) rfl),fx 8 true rfl fun c hpc=>⟨_,_,(cu rfl rfl Tryz.call102 (c.M 10 hpc) (qH _ 120)),xD t.kv.v _ t.kids [1] _ (hT.at (ab.ext.trans c.J.ext)).tl.sl (c.rg 11 rfl hpc).1.sl⟩,aE 8 rfl fun c hpc=>dP rfl (c.M 12 hpc),bN 8 13,aG 14,ax⟩ fun ac ag ae ab aa=> ?_);obtain ⟨e1,e8⟩:=aa.k2 e1 e8;have e2:=aa.V 15;replace r0:=aa.B 0;refine wp_ret ?_;refine rp ?_;refine cC (fn:=Tryz.f77) rfl ab.defers e2 ?_;exact ⟨congrArg _ (congrArg _ (by unfold cq;(repeat (first | rw [if_neg (by omega)] | rw [if_pos (by omega)]));(try rfl))),ab.ext0⟩
 try simp only [ah] at hc5
 refine wp_seq ?_;refine wp_seq (es ab [jb r0] ⟨am fun c=>bV rfl (c.p e8) rfl,aG 0,ax⟩ fun ac ag ae ab aa=> ?_);obtain ⟨e1,e2,e8⟩:=aa.k3 e1 e2 e8;have e124:=aa.V 1;replace r0:=aa.B 0;refine wp_cond_split e124 (fun hc6=> ?_) (fun hc6=> ?_)
 · have hd6:=hc6;try simp only [ai] at hd6
   refine wp_skip ?_;refine wp_cond_true (e124.trans (congrArg _ hc6)) ?_;refine wp_seq (qQ [0,1,3,7,15,31,63,127,255] ab [jb r0] ⟨am fun c=>eA rfl aD ak ((c.p e1).trans r0.ptr) (c.B 0),dR fun c=>⟨_,_,(bj rfl rfl gd (c.q 0)),kL t.k t.ch t.ng t.rv.v t.rows t.mn t.mx t.lz t.kv.v rfl _ (hT.at (ab.ext.trans c.J.ext)).rows⟩,bq 1,aE 2 rfl fun c hpc=>cF rfl aq bC ((c.p e1).trans r0.ptr),aE 2 rfl fun c hpc=>ay rfl bU (c.M 3 hpc) ((c.B 0).cell (j:=7) rfl),aE 2 rfl fun c hpc=>cQ rfl aI (c.M 4 hpc) (hT.at ab.ext).tl.sl.sl,aE 2 rfl fun c hpc=>bV rfl (c.M 5 hpc) rfl,bN 2 6,aG 7,ax⟩ fun ac ag ae ab aa=> ?_);obtain ⟨e1,e8⟩:=aa.k2 e1 e8;have e2:=aa.V 8;replace r0:=aa.B 0;refine wp_ret ?_;refine rp ?_;refine cC (fn:=Tryz.f77) rfl ab.defers e2 ?_;exact ⟨congrArg _ (congrArg _ (by unfold cq;(repeat (first | rw [if_neg (by omega)] | rw [if_pos (by omega)]));(try rfl))),ab.ext0⟩
 have hd7:=hc6;try simp only [ah] at hd7
 refine es ab [jb r0] ⟨am fun c=>bV rfl (c.p e8) rfl,aG 0,ax⟩ fun ac ag ae ab aa=> ?_;obtain ⟨e1,e2,e8⟩:=aa.k3 e1 e2 e8;have e124:=aa.V 1;replace r0:=aa.B 0;refine wp_cond_split e124 (fun hc8=> ?_) (fun hc8=> ?_)
 · have hd8:=hc8;try simp only [ai] at hd8
   refine wp_seq (qQ [0,1,3,7,15,31,63,127,255] ab [jb r0] ⟨am fun c=>eA rfl aD ak ((c.p e1).trans r0.ptr) (c.B 0),dR fun c=>⟨_,_,(bj rfl rfl gd (c.q 0)),kL t.k t.ch t.ng t.rv.v t.rows t.mn t.mx t.lz t.kv.v rfl _ (hT.at (ab.ext.trans c.J.ext)).rows⟩,bq 1,aE 2 rfl fun c hpc=>cF rfl aq bC ((c.p e1).trans r0.ptr),aE 2 rfl fun c hpc=>ay rfl bU (c.M 3 hpc) ((c.B 0).cell (j:=7) rfl),aE 2 rfl fun c hpc=>cQ rfl aI (c.M 4 hpc) (hT.at ab.ext).tl.sl.sl,aE 2 rfl fun c hpc=>bV rfl (c.M 5 hpc) rfl,bN 2 6,aG 7,ax⟩ fun ac ag ae ab aa=> ?_);obtain ⟨e1,e8⟩:=aa.k2 e1 e8;have e2:=aa.V 8;replace r0:=aa.B 0;refine wp_ret ?_;refine rp ?_;refine cC (fn:=Tryz.f77) rfl ab.defers e2 ?_;exact ⟨congrArg _ (congrArg _ (by unfold cq;(repeat (first | rw [if_neg (by omega)] | rw [if_pos (by omega)]));(try rfl))),ab.ext0⟩
 have hd8:=hc8;try simp only [ah] at hd8
 refine wp_seq ?_;refine wp_seq (es ab [jb r0] ⟨am fun c=>bV rfl (c.p e8) rfl,aG 0,ax⟩ fun ac ag ae ab aa=> ?_);obtain ⟨e1,e2,e8⟩:=aa.k3 e1 e2 e8;have e135:=aa.V 1;replace r0:=aa.B 0;refine wp_cond_split e135 (fun hc9=> ?_) (fun hc9=> ?_)
 · have hd9:=hc9;try simp only [ai] at hd9
   refine wp_skip ?_;refine wp_cond_true (e135.trans (congrArg _ hc9)) ?_;refine wp_seq (qQ [0,1,3,7,15,31,63,127,255] ab [jb r0] ⟨am fun c=>eA rfl aD ak ((c.p e1).trans r0.ptr) (c.B 0),dR fun c=>⟨_,_,(bj rfl rfl gd (c.q 0)),kL t.k t.ch t.ng t.rv.v t.rows t.mn t.mx t.lz t.kv.v rfl _ (hT.at (ab.ext.trans c.J.ext)).rows⟩,bq 1,aE 2 rfl fun c hpc=>cF rfl aq bC ((c.p e1).trans r0.ptr),aE 2 rfl fun c hpc=>ay rfl bU (c.M 3 hpc) ((c.B 0).cell (j:=7) rfl),aE 2 rfl fun c hpc=>cQ rfl aI (c.M 4 hpc) (hT.at ab.ext).tl.sl.sl,aE 2 rfl fun c hpc=>bV rfl (c.M 5 hpc) rfl,bN 2 6,aG 7,ax⟩ fun ac ag ae ab aa=> ?_);have e2:=aa.V 8;refine wp_ret ?_;refine rp ?_;refine cC (fn:=Tryz.f77) rfl ab.defers e2 ?_;exact ⟨congrArg _ (congrArg _ (by unfold cq;(repeat (first | rw [if_neg (by omega)] | rw [if_pos (by omega)]));(try rfl))),ab.ext0⟩
 have hd10:=hc9;try simp only [ah] at hd10
 refine wp_seq (es ab [jb r0] ⟨am fun c=>bV rfl (c.p e8) rfl,aG 0,ax⟩ fun ac ag ae ab aa=> ?_);obtain ⟨e1,e2,e8⟩:=aa.k3 e1 e2 e8;have e135:=aa.V 1;replace r0:=aa.B 0;refine wp_cond_split e135 (fun hc11=> ?_) (fun hc11=> ?_)
 · have hd11:=hc11;try simp only [ai] at hd11
   refine wp_skip ?_;refine wp_cond_true (e135.trans (congrArg _ hc11)) ?_;refine wp_seq (qQ [0,1,3,7,15,31,63,127,255] ab [jb r0] ⟨am fun c=>eA rfl aD ak ((c.p e1).trans r0.ptr) (c.B 0),dR fun c=>⟨_,_,(bj rfl rfl gd (c.q 0)),kL t.k t.ch t.ng t.rv.v t.rows t.mn t.mx t.lz t.kv.v rfl _ (hT.at (ab.ext.trans c.J.ext)).rows⟩,bq 1,aE 2 rfl fun c hpc=>cF rfl aq bC ((c.p e1).trans r0.ptr),aE 2 rfl fun c hpc=>ay rfl bU (c.M 3 hpc) ((c.B 0).cell (j:=7) rfl),aE 2 rfl fun c hpc=>cQ rfl aI (c.M 4 hpc) (hT.at ab.ext).tl.sl.sl,aE 2 rfl fun c hpc=>bV rfl (c.M 5 hpc) rfl,bN 2 6,aG 7,ax⟩ fun ac ag ae ab aa=> ?_);have e2:=aa.V 8;refine wp_ret ?_;refine rp ?_;refine cC (fn:=Tryz.f77) rfl ab.defers e2 ?_;exact ⟨congrArg _ (congrArg _ (by unfold cq;(repeat (first | rw [if_neg (by omega)] | rw [if_pos (by omega)]));(try rfl))),ab.ext0⟩
 have hd12:=hc11;try simp only [ah] at hd12
 refine wp_seq (es ab [jb r0] ⟨am fun c=>bV rfl (c.p e8) rfl,aG 0,ax⟩ fun ac ag ae ab aa=> ?_);obtain ⟨e1,e2,e8⟩:=aa.k3 e1 e2 e8;have e135:=aa.V 1;replace r0:=aa.B 0;refine wp_cond_split e135 (fun hc13=> ?_) (fun hc13=> ?_)
 · have hd13:=hc13;try simp only [ai] at hd13
   refine wp_skip ?_;refine wp_cond_true (e135.trans (congrArg _ hc13)) ?_;refine wp_seq (qQ [0,1,3,7,15,31,63,127,255] ab [jb r0] ⟨am fun c=>eA rfl aD ak ((c.p e1).trans r0.ptr) (c.B 0),dR fun c=>⟨_,_,(bj rfl rfl gd (c.q 0)),kL t.k t.ch t.ng t.rv.v t.rows t.mn t.mx t.lz t.kv.v rfl _ (hT.at (ab.ext.trans c.J.ext)).rows⟩,bq 1,aE 2 rfl fun c hpc=>cF rfl aq bC ((c.p e1).trans r0.ptr),aE 2 rfl fun c hpc=>ay rfl bU (c.M 3 hpc) ((c.B 0).cell (j:=7) rfl),aE 2 rfl fun c hpc=>cQ rfl aI (c.M 4 hpc) (hT.at ab.ext).tl.sl.sl,aE 2 rfl fun c hpc=>bV rfl (c.M 5 hpc) rfl,bN 2 6,aG 7,ax⟩ fun ac ag ae ab aa=> ?_);have e2:=aa.V 8;refine wp_ret ?_;refine rp ?_;refine cC (fn:=Tryz.f77) rfl ab.defers e2 ?_;exact ⟨congrArg _ (congrArg _ (by unfold cq;(repeat (first | rw [if_neg (by omega)] | rw [if_pos (by omega)]));(try rfl))),ab.ext0⟩
 have hd14:=hc13;try simp only [ah] at hd14
 refine wp_seq (es ab [jb r0] ⟨am fun c=>bV rfl (c.p e8) rfl,aG 0,ax⟩ fun ac ag ae ab aa=> ?_);obtain ⟨e1,e2,e8⟩:=aa.k3 e1 e2 e8;have e135:=aa.V 1;replace r0:=aa.B 0;refine wp_cond_split e135 (fun hc15=> ?_) (fun hc15=> ?_)
 · have hd15:=hc15;try simp only [ai] at hd15
   refine wp_skip ?_;refine wp_cond_true (e135.trans (congrArg _ hc15)) ?_;refine wp_seq (qQ [0,1,3,7,15,31,63,127,255] ab [jb r0] ⟨am fun c=>eA rfl aD ak ((c.p e1).trans r0.ptr) (c.B 0),dR fun c=>⟨_,_,(bj rfl rfl gd (c.q 0)),kL t.k t.ch t.ng t.rv.v t.rows t.mn t.mx t.lz t.kv.v rfl _ (hT.at (ab.ext.trans c.J.ext)).rows⟩,bq 1,aE 2 rfl fun c hpc=>cF rfl aq bC ((c.p e1).trans r0.ptr),aE 2 rfl fun c hpc=>ay rfl bU (c.M 3 hpc) ((c.B 0).cell (j:=7) rfl),aE 2 rfl fun c hpc=>cQ rfl aI (c.M 4 hpc) (hT.at ab.ext).tl.sl.sl,aE 2 rfl fun c hpc=>bV rfl (c.M 5 hpc) rfl,bN 2 6,aG 7,ax⟩ fun ac ag ae ab aa=> ?_);have e2:=aa.V 8;refine wp_ret ?_;refine rp ?_;refine cC (fn:=Tryz.f77) rfl ab.defers e2 ?_;exact ⟨congrArg _ (congrArg _ (by unfold cq;(repeat (first | rw [if_neg (by omega)] | rw [if_pos (by omega)]));(try rfl))),ab.ext0⟩
 have hd16:=hc15;try simp only [ah] at hd16
 refine es ab [jb r0] ⟨am fun c=>bV rfl (c.p e8) rfl,aG 0,ax⟩ fun ac ag ae ab aa=> ?_;obtain ⟨e1,e2⟩:=aa.k2 e1 e2;have e135:=aa.V 1;replace r0:=aa.B 0;refine wp_cond_split e135 (fun hc17=> ?_) (fun hc17=> ?_)
 · have hd17:=hc17;try simp only [ai] at hd17
   refine wp_seq (qQ [0,1,3,7,15,31,63,127,255] ab [jb r0] ⟨am fun c=>eA rfl aD ak ((c.p e1).trans r0.ptr) (c.B 0),dR fun c=>⟨_,_,(bj rfl rfl gd (c.q 0)),kL t.k t.ch t.ng t.rv.v t.rows t.mn t.mx t.lz t.kv.v rfl _ (hT.at (ab.ext.trans c.J.ext)).rows⟩,bq 1,aE 2 rfl fun c hpc=>cF rfl aq bC ((c.p e1).trans r0.ptr),aE 2 rfl fun c hpc=>ay rfl bU (c.M 3 hpc) ((c.B 0).cell (j:=7) rfl),aE 2 rfl fun c hpc=>cQ rfl aI (c.M 4 hpc) (hT.at ab.ext).tl.sl.sl,aE 2 rfl fun c hpc=>bV rfl (c.M 5 hpc) rfl,bN 2 6,aG 7,ax⟩ fun ac ag ae ab aa=> ?_);have e2:=aa.V 8;refine wp_ret ?_;refine rp ?_;refine cC (fn:=Tryz.f77) rfl ab.defers e2 ?_;exact ⟨congrArg _ (congrArg _ (by unfold cq;(repeat (first | rw [if_neg (by omega)] | rw [if_pos (by omega)]));(try rfl))),ab.ext0⟩
 have hd17:=hc17;try simp only [ah] at hd17
 refine wp_skip ?_;show _;refine wp_seq (en ab [jb r0] ⟨am fun c=>au rfl rfl,ax⟩ fun ac ag ae ab aa=> ?_);have e2:=aa.V 0;refine wp_ret ?_;refine rp ?_;refine cC (fn:=Tryz.f77) rfl ab.defers e2 ?_;exact ⟨congrArg _ (congrArg _ (by unfold cq;(repeat (first | rw [if_neg (by omega)] | rw [if_pos (by omega)]));(try rfl))),ab.ext0⟩
end
end B
end Go.Proofs.YtcfdebjhikahfaaGreat
