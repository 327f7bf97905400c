import Derived.Test.YtcfdebjhikahfaaPx1
import Derived.Laws.CopyRow
import Derived.Laws.MakeOwn
set_option linter.unusedSimpArgs false
set_option linter.unusedVariables false
set_option linter.unusedSectionVars false
namespace Go.Proofs.Ytcfdebjhikahfaa
namespace B
section
open Go.RowKit
abbrev aw:=@Bool.not_eq_false'
abbrev ea:=@Int.not_le
abbrev bd:=@Int.not_lt
abbrev kk:=@List.any_eq_false
abbrev kQ:=@List.getElem_map
abbrev dF:=@List.length_replicate
abbrev cL:=@Nat.min_le_right
abbrev mI:=@Try.call18
abbrev fD:=@Try.call80
abbrev dh:=@Try.isAgg25
abbrev fU:=@Try.isAgg28
abbrev aD:=@Try.isAgg3
abbrev lM:=@Try.isAgg30
abbrev aE:=@Try.isAgg32
abbrev cQ:=@Try.isAgg4
abbrev gT:=@Try.isAgg47
abbrev bQ:=@Try.isAgg9
abbrev bR:=@Try.sizeOf47
abbrev aP:=@Try.underlying25
abbrev aY:=@Try.underlying26
abbrev ce:=@Try.underlying28
abbrev bh:=@Try.underlying30
abbrev br:=@Try.underlying9
abbrev gU:=@Try.zeroValue3
abbrev aG:=@Try.zeroValue32
abbrev cI:=@Try.zeroValue47
end
section
open Go.RowKit Srt
theorem cP {K:Act→World→Prop} {a:Act} {w:World} (h:K a w):zz K .normal a w:=⟨rfl,h⟩
theorem lj.sv {v:Value} {n:Nat} (h:lj v n):∃s:Sv,v=s.v:=by
  rcases h with ⟨rfl,_⟩ | ⟨b,cap,rfl,_⟩
  · exact ⟨⟨none,0,0⟩,rfl⟩
  · exact ⟨⟨some b,n,cap⟩,rfl⟩
def iF (G:aQ) (t:Tr):ZP:=⟨fun Z w=>TrT (fun g=>Z g∧G g) w t,fun hz he h=>(TrT.keep h he fun g hg hn=>hn hg.1).mono fun g hg _=>⟨hz g hg.1,hg.2⟩⟩
def kH (G:aQ) (ts:List Tr):ZP:=⟨fun Z w=>∀t ∈ ts,TrT (fun g=>Z g∧G g) w t,fun hz he h t ht=>(iF G t).st hz he (h t ht)⟩
section
variable {G F:aQ} {Z:aQ} {τ:Nat→aQ} {w w':World} {t:Tr} {ts us:List Tr} {v:Value}
theorem Fz.s (h:Fz (iF G t) τ w):oI w t:=TrT.s h
theorem zs (h:(iF G t).P Z w):oI w t:=TrT.s h
theorem zl (h:(kH G ts).P Z w) (hs:SlT lE w v ts):TlS w v ts:=⟨hs,fun t ht=>TrT.s (h t ht)⟩
theorem Fz.l (h:Fz (kH G ts) τ w) (hs:SlT lE w v ts):TlS w v ts:=zl h hs
theorem Dj (h:(iF G t).P Z w):(kH G t.kids).P Z w:=fun k hk=>TrT.kid h hk
theorem Fz.kl (h:Fz (iF G t) τ w):Fz (kH G t.kids) τ w:=Dj h
theorem ze {i:Int} (h:(kH G ts).P Z w) (h0:0≤i) (h1:i < ts.length):(iF G (nth ts i)).P Z w:=h _ (bo h0 h1)
theorem Fz.e {i:Int} (h:Fz (kH G ts) τ w) (h0:0≤i) (h1:i < ts.length):Fz (iF G (nth ts i)) τ w:=ze h h0 h1
theorem Fz.tn (G:aQ) (τ:Nat→aQ) (w:World):Fz (kH G []) τ w:=fun t h=>by cases h
theorem Fz.snoc (h:Fz (kH G ts) τ w) (h2:Fz (iF G t) τ w):Fz (kH G (ts++ [t])) τ w:=fun x hx=>by
  rcases List.mem_append.1 hx with hx | hx
  · exact h x hx
  · simp at hx;subst hx;exact h2
theorem Fz.app (h:Fz (kH G ts) τ w) (h2:Fz (kH G us) τ w):Fz (kH G (ts++us)) τ w:=fun x hx=>by
  rcases List.mem_append.1 hx with hx | hx
  · exact h x hx
  · exact h2 x hx
theorem TrT.inz {n:Nat} {a:Act} {τ0:Nat→aQ} (h:TrT F w t) (st:St (Nw w) w n a w τ0):Fz (iF (Gn F w) t) τ0 w:=TrT.mono h fun g hg hlt=>⟨⟨hlt,fun s hs=>by have:=(st.bnd s g hs).1;simp only [Nw] at this;omega⟩,.inl hg⟩
theorem TrT.inzs {n:Nat} {a:Act} {τ0:Nat→aQ} (h:∀t ∈ ts,TrT F w t) (st:St (Nw w) w n a w τ0):Fz (kH (Gn F w) ts) τ0 w:=fun t ht=>(h t ht).inz st
theorem TrT.inT {n:Nat} {a:Act} {τ0:Nat→aQ} {T:aQ} (h:TrT F w t) (hF:∀g,F g→¬T g) (st:St (fun k=>T k∨w.heap.size≤k) w n a w τ0):Fz (iF (Gn F w) t) τ0 w:=TrT.mono h fun g hg hlt=>⟨⟨hlt,fun s hs=>by
  rcases (st.bnd s g hs).1 with h1 | h1
  · exact hF g hg h1
  · omega⟩,.inl hg⟩
theorem Fz.out (h:Fz (iF G t) τ w):TrT G w t:=TrT.mono h fun g hg _=>hg.2
theorem Fz.outs (h:Fz (kH G ts) τ w):∀t ∈ ts,TrT G w t:=fun t ht=>TrT.mono (h t ht) fun g hg _=>hg.2
theorem Fz.outo (h:Fz (kH G ts) τ w) {i:Nat} {v:Value} (hv:∀g,v.ownBlock=some g→τ i g):∀t ∈ ts,TrT (fun g=>G g∧v.ownBlock≠some g) w t:=fun t ht=>TrT.mono (h t ht) fun g hg _=>⟨hg.2,fun e=>hg.1.2 i (hv g e)⟩
end
section
variable {α:Type} {N:aQ} {P:Program} {ops:Array Oper} {sp:List (Spec N)} {In:Nat→Ini N} {a0:Act} {w0:World} {bf:List Nat} {j:Nat} {o:Oper} {done:Nat→Bool} {a:Act} {w w' W:World} {τ τ0:Nat→aQ} {F:aQ} {t:Tr} {ts:List Tr} {n:Nat} {a1:Act}
theorem Cx.hW (c:Cx ops sp In a0 w0 bf j o done a w τ) (st:St N W n a1 w0 τ0):W.heap.size≤w.heap.size:=aT st.ext.size c.J.ext.size
theorem Cx.tz (c:Cx ops sp In a0 w0 bf j o done a w τ) (st:St N W n a1 w0 τ0) (hx:Ext aV w w') (h:TrT (Gn (fun g=>ex τ w g∧Gn F W g) w) w' t):(iF (Gn F W) t).P (ex τ w') w':=TrT.mono h (c.gz (c.hW st) hx.size)
theorem Cx.tn (c:Cx ops sp In a0 w0 bf j o done a w τ) (st:St N W n a1 w0 τ0) (hx:Ext aV w w') (h:TrT (Gn aV w) w' t):(iF (Gn F W) t).P (ex τ w') w':=c.tz st hx (h.mono fun g hg _=>hg.elim (fun h=>h.elim) .inr)
theorem Cx.tzo {tag:Nat} {v:Value} {E:Enc α} {ty:Nat} {xs:List α} (c:Cx ops sp In a0 w0 bf j o done a w τ) (st:St N W n a1 w0 τ0) (hx:Ext aV w w') (hv:mr E ty w w' v xs) (h:∀t ∈ ts,TrT (fun g=>Gn (fun g=>ex τ w g∧Gn F W g) w g∧v.ownBlock≠some g) w' t):(kH (Gn F W) ts).P (ex (lJ τ tag fun g=>v.ownBlock=some g) w') w':=fun t ht=>TrT.mono (h t ht) (c.gzo (c.hW st) hx.size hv.2)
theorem Cx.tno {tag:Nat} {v:Value} {E:Enc α} {ty:Nat} {xs:List α} (c:Cx ops sp In a0 w0 bf j o done a w τ) (st:St N W n a1 w0 τ0) (hx:Ext aV w w') (hv:mr E ty w w' v xs) (h:∀t ∈ ts,TrT (fun g=>Gn aV w g∧v.ownBlock≠some g) w' t):(kH (Gn F W) ts).P (ex (lJ τ tag fun g=>v.ownBlock=some g) w') w':=c.tzo st hx hv fun t ht=>(h t ht).mono fun g hg _=>⟨hg.1.elim (fun h=>h.elim) .inr,hg.2⟩
theorem Cx.sn {v:Value} {E:Enc α} {ty:Nat} {xs:List α} (c:Cx ops sp In a0 w0 bf j o done a w τ) (st:St N W n a1 w0 τ0) (hx:Ext aV w w') (h:mr E ty w w' v xs):(eY E (Gn F W) v xs).P (ex τ w') w':=⟨h.1.sl,fun hn=>by
  have hlt:=h.1.sl.lt hn;have hge:w.heap.size≤(cX v).block:=by
    rcases h.1.2 with ⟨_,h0⟩ | ⟨g,cap,cur,hv,_⟩
    · exact absurd (bB h0) hn
    · subst hv;exact h.2 g rfl
  exact c.gz (c.hW st) hx.size _ (.inr hge) hlt⟩
end
theorem dq.blk {α:Type} {E:Enc α} {ty:Nat} {xs:List α} {T:aQ} {v:Value} {w:World} (h:dq E ty xs T v w) (hn:xs≠ []):T (cX v).block:=by
  rcases h.1.2 with ⟨_,h0⟩ | ⟨g,cap,cur,hv,_⟩
  · exact absurd (bB h0) hn
  · subst hv;exact h.2 g rfl
theorem qj {G Z:aQ} {w:World}:(kH G []).P Z w:=fun t h=>by cases h
theorem mC {G Z:aQ} {w:World} {t:Tr} {ts:List Tr} (h:(iF G t).P Z w) (h2:(kH G ts).P Z w):(kH G (t::ts)).P Z w:=fun x hx=>by
  rcases List.mem_cons.1 hx with hx | hx
  · subst hx;exact h
  · exact h2 x hx
def cB (k:Int) (ch:ByteArray) (ng:Bool) (mn mx:Int) (lz:Bool):Tr:=⟨k,ch,ng,Sv.nil,[],mn,mx,lz,Sv.nil,[]⟩
theorem ey (F:aQ) (w:World) (k:Int) (ch:ByteArray) (ng:Bool) (mn mx:Int) (lz:Bool):TrT F w (cB k ch ng mn mx lz):= .mk (SlT.nil _ _) (fun h=>absurd rfl h) (SlT.nil _ _) (fun h=>absurd rfl h) (fun k h=>by cases h)
theorem CL (G Z:aQ) (w:World) (k:Int) (ch:ByteArray) (ng:Bool) (mn mx:Int) (lz:Bool):(iF G (cB k ch ng mn mx lz)).P Z w:=ey _ w k ch ng mn mx lz
def kJ (k:Int) (ks:List Tr):Tr:=⟨k,⟨#[]⟩,false,Sv.nil,[],0,0,false,Sv.nil,ks⟩
def fi (k:Int) (l:List Tr):List Tr:=l.flatMap fun x=>if x.k=k then x.kids else [x]
def dA (l:List Tr):Tr:=match fi 0 l with
  | [x] => x
  | ks => kJ 0 ks
def kU (l:List Tr):Tr:=match fi 1 l with
  | [] => kJ 0 []
  | [x] => x
  | ks => kJ 1 ks
theorem lr (k:Int) (l:List Tr) (x:Tr):fi k (l++ [x])=fi k l++if x.k=k then x.kids else [x]:=by simp [fi]
theorem ns {ts xs us:List Tr} {k:Int} {n:Nat} (h:n < xs.length) (hq:ts.map er=fi k ((xs.take n).map er)) {t:Tr} (ht:er t=er (nth xs (n:Int))) (hk:t.k=k) (hu:us=t.kids):(ts++us).map er=fi k ((xs.take (n+1)).map er):=by
  subst hu;rw [eT h,bA,bA,aZ,bF,lr,←ht,wh,if_pos hk,←hq,kr]
theorem mf {ts xs:List Tr} {k:Int} {n:Nat} (h:n < xs.length) (hq:ts.map er=fi k ((xs.take n).map er)) {t:Tr} (ht:er t=er (nth xs (n:Int))) (hk:¬t.k=k):(ts++ [t]).map er=fi k ((xs.take (n+1)).map er):=by
  rw [eT h,bA,bA,aZ,bF,aZ,bF,lr,←ht,wh,if_neg hk,←hq]
theorem pB (t:Tr):(t.kids.length:Int)+1≤cE t:=by
  have h:∀ks:List Tr,(ks.length:Int)≤cR (ks.map cE):=by
    intro ks;induction ks using em with
    | h0 => exact ei _
    | h1 ks x ih =>
      rw [bA,aZ,bF,dL,bK];have:=jW x;simp;omega
  have:=gJ t;have:=h t.kids;omega
def wY (rs:List (ByteArray × ByteArray)):Int:=cR (rs.map fun r=>1+(r.1.size:Int)+(r.2.size:Int))
def eJ:Tr→Int:=ku fun t l=>1+(t.ch.size:Int)+wY t.rows+cR l
theorem jX (t:Tr):eJ t=1+(t.ch.size:Int)+wY t.rows+cR (t.kids.map eJ):=gZ _ t
theorem mg (rs:List (ByteArray × ByteArray)):(rs.length:Int)≤wY rs:=by
  unfold wY;induction rs using em with
  | h0 => exact ei _
  | h1 rs r ih => rw [bA, aZ, bF, dL, bK]; simp; omega
theorem zH {rs:List (ByteArray × ByteArray)} {r:ByteArray × ByteArray} (h:r ∈ rs):(r.1.size:Int)+(r.2.size:Int)≤wY rs:=by
  have:=py (xs:=rs.map fun r=>1+(r.1.size:Int)+(r.2.size:Int)) (fun x hx=>by obtain ⟨q,_,rfl⟩:=List.mem_map.1 hx;omega) (List.mem_map.2 ⟨r,h,rfl⟩);unfold wY;omega
theorem kw (t:Tr):1≤eJ t:=by
  induction t using Tr.ind with
  | h t ih =>
    rw [jX];have:0≤cR (t.kids.map eJ):=gH fun x hx=>by
      obtain ⟨k,hk,rfl⟩:=List.mem_map.1 hx;have:=ih k hk;omega
    have:=mg t.rows;omega
theorem oM {t k:Tr} (h:k ∈ t.kids):eJ k < eJ t:=by
  have h1:=va (f:=eJ) (fun q _=>by have:=kw q;omega) h;have:=jX t;have:=mg t.rows;omega
theorem pC (t:Tr):eJ (er t)=eJ t:=nq (fun t l=>by cases t;rfl) t
theorem pD (t:Tr):cE t≤eJ t:=by
  induction t using Tr.ind with
  | h t ih =>
    have h1:∀ks:List Tr,(∀k ∈ ks,cE k≤eJ k)→cR (ks.map cE)≤cR (ks.map eJ):=by
      intro ks;induction ks using em with
      | h0 => intro _; exact ei _
      | h1 ks x ih2 =>
        intro h;rw [bA,bA,aZ,bF,aZ,bF,dL,dL];have:=ih2 fun k hk=>h k (by simp [hk]);have:=h x (by simp);omega
    have:=h1 t.kids ih;have:=mg t.rows;rw [gJ,jX];omega
theorem fQ (t:Tr):(t.kids.length:Int)+1≤eJ t∧(t.rows.length:Int)≤eJ t∧cE t≤eJ t∧(t.ch.size:Int)≤eJ t:=by
  have h0:=mg t.rows;have h1:=pB t;have h2:=pD t;have h3:=jX t;have h4:0≤cR (t.kids.map eJ):=gH fun x hx=>by
    obtain ⟨k,hk,rfl⟩:=List.mem_map.1 hx;have:=kw k;omega
  omega
theorem xC {t u:Tr} (h:er t=er u):eJ t=eJ u:=by rw [←pC t,h,pC]
theorem zI {t u:Tr} (h:er t=er u):t.kids.length=u.kids.length:=by
  have:=congrArg (fun x=>x.kids.length) h;simpa [kr] using this
theorem xD (k:Int) (l:List Tr):(((fi k l).length:Nat):Int)≤cR (l.map cE):=by
  induction l using em with
  | h0 => exact ei _
  | h1 l x ih =>
    rw [lr,bA,aZ,bF,dL,bK];have h1:=pB x;have h2:=jW x;split <;> simp <;> omega
theorem wj (l:List Tr):(l.map er).map cE=l.map cE:=by
  rw [jx];exact gk fun t _=>wi t
theorem wk {ts xs:List Tr} {k:Int} {n:Nat} (hq:ts.map er=fi k ((xs.take n).map er)):(ts.length:Int)≤cR ((xs.take n).map cE):=by
  have h1:=xD k ((xs.take n).map er);rw [←hq,wj] at h1;simpa using h1
theorem vc {ts l:List Tr} (h:ts.map er=fi 0 l) (h1:ts.length=1):er (nth ts 0)=dA l:=by
  match ts,h1 with
  | [x], _ =>
    unfold dA;rw [←h];rfl
theorem sF {ts l:List Tr} (h:ts.map er=fi 0 l) (h1:¬ts.length=1):kJ 0 (ts.map er)=dA l:=by
  unfold dA;rw [←h];match ts,h1 with
  | [], _ => rfl
  | [x], h1 => exact absurd rfl h1
  | x :: y :: l, _ => rfl
theorem xE {ts l:List Tr} (h:ts.map er=fi 1 l) (h1:ts.length=0):kJ 0 []=kU l:=by
  match ts,h1 with
  | [], _ =>
    unfold kU;rw [←h];rfl
theorem zJ {ts l:List Tr} (h:ts.map er=fi 1 l) (h1:ts.length=1):er (nth ts 0)=kU l:=by
  match ts,h1 with
  | [x], _ =>
    unfold kU;rw [←h];rfl
theorem xF {ts l:List Tr} (h:ts.map er=fi 1 l) (h0:¬ts.length=0) (h1:¬ts.length=1):kJ 1 (ts.map er)=kU l:=by
  unfold kU;rw [←h];match ts,h0,h1 with
  | [], h0, _ => exact absurd rfl h0
  | [x], _, h1 => exact absurd rfl h1
  | x :: y :: l, _, _ => rfl
theorem uc {G:aQ} {w:World} {T:aQ} {kv:Sv} {ty:Nat} {ts:List Tr} {k:Int} (ho:dq lE ty ts T kv.v w) (hT:∀g,T g→G g) (ht:∀t ∈ ts,TrT G w t):TrT G w ⟨k,⟨#[]⟩,false,Sv.nil,[],0,0,false,kv,ts⟩:=
  .mk (SlT.nil _ _) (fun h=>absurd rfl h) ho.1.sl (fun hn=>hT _ (ho.blk hn)) ht
theorem xG {k:Int} {kv:Sv} {ts:List Tr}:er ⟨k,⟨#[]⟩,false,Sv.nil,[],0,0,false,kv,ts⟩=kJ k (ts.map er):=by rw [lR];rfl
def eR (k:Int) (ch:ByteArray) (ng:Bool) (mn mx:Int) (lz:Bool) (kv:Sv) (ks:List Tr):Tr:=⟨k,ch,ng,Sv.nil,[],mn,mx,lz,kv,ks⟩
theorem kx (k:Int) (ch:ByteArray) (ng:Bool) (mn mx:Int) (lz:Bool) (kv:Sv) (ks:List Tr):er (eR k ch ng mn mx lz kv ks)=eR k ch ng mn mx lz Sv.nil (ks.map er):=by rw [lR];rfl
theorem oo {G Z:aQ} {w:World} {k:Int} {ch:ByteArray} {ng:Bool} {mn mx:Int} {lz:Bool} {kv:Sv} {ks:List Tr} (h:(eY lE G kv.v ks).P Z w) (h2:(kH G ks).P Z w):(iF G (eR k ch ng mn mx lz kv ks)).P Z w:=
  .mk (SlT.nil _ _) (fun h=>absurd rfl h) h.1 h.2 h2
section
variable {N:aQ} {P:Program} {ops:Array Oper} {sp:List (Spec N)} {In:Nat→Ini N} {a0:Act} {w0 W:World} {bf:List Nat} {j:Nat} {o:Oper} {s:Spec N} {pc:Prop} {n0:Nat} {a1:Act} {τ0:Nat→aQ} {F:aQ} {β:Type}
theorem rz {α:Type} {E:Enc α} {ty e t n:Nat} {xs:List α} {parts:Array (Nat × Operand)} {z:Value} {cells:Array Value} (st:St N W n0 a1 w0 τ0) (hgd:sx ops sp bf j o pc) (ho:o.op= .buildSlice ty n parts)
    (hty:P.underlying ty=some (.slice e)) (hsz:∀w,(sizeOf e).run P w= .ok E.sz w) (hz:∀w,(zeroValue e).run P w= .ok z w) (hn0:0 < n) (hsmall:n * E.sz≤16777216) (hn:n=xs.length) (hc:cells.toList=E.row xs)
    (h:∀{done a w τ},Cx ops sp In a0 w0 bf j o done a w τ→pc→Instr.fill (fun i=>some (i * E.sz,E.sz)) ((Array.range (n * E.sz)).map (z.cells[· % z.cells.size]!)) (parts.map fun (i,x)=>(i,a.eval x)).toList=some cells)
    (hs:s=fG N t pc (fun b:Sv=>b.v) (fun _=>True) (fun b=>eY E (Gn F W) b.v xs):=by exact rfl) (hd:o.dst=some t:=by exact rfl):Ob ops sp In a0 w0 P bf j o s:=by
  subst hs;intro done a w τ c;refine ⟨fun hw=> ?_,fun hw=>⟨Ext.refl _ _,fun hp=>by rw [(hgd.known c).2 hp] at hw;cases hw⟩⟩;have hp:=(hgd.known c).1 hw;have hf:=h c hp;have h2:¬(n * E.sz > 2 ^ 24):=by omega
  have h0:¬(n * E.sz=0):=by have:=Nat.mul_pos hn0 E.pos;omega
  have hr:(execOp a.eval o).run P w= .ok (.value (.slice (some ⟨w.heap.size,0,none⟩) n n)) (w.alloc (.cells cells e)):=by
    simp only [execOp,ho,Instr.buildSlice,Sem.run_bind,run_underlying hty,Result.andThen_ok,hsz,h2,if_false,Sem.run_pure,h0,hz];rw [hf];rfl
  have hl:cells.size=n * E.sz:=by rw [←ef,hc,E.row_length,←hn]
  have hown:gQ E e (w.alloc (.cells cells e)) (.slice (some ⟨w.heap.size,0,none⟩) n n) xs:=⟨E.row_length xs,.inr ⟨w.heap.size,n,cells,by rw [←hn],dE _,heap_alloc_new w _,by rw [←hn];exact bj _,by have:=iA n E.pos;simp only [maxLen];omega,hl,by rw [hc,←E.row_length];exact kM⟩⟩;have hx:Ext aV w (w.alloc (.cells cells e)):=Ext.alloc _ _ _;refine eI hr ⟨_,rfl,hx,fun _=>⟨⟨some ⟨w.heap.size,0,none⟩,n,n⟩,?_,av,?_⟩⟩
  · show aS (a.put o.dst _) t=_;rw [hd,cT a t t _ (c.lt t hd),if_pos rfl];rfl
  · exact c.sn st hx ⟨hown,fun g hg=>by have hg':some w.heap.size=some g:=hg;simp only [Option.some.injEq] at hg';omega⟩
theorem xH {t:Nat} {f:β→Value} {Ψ:β→Prop} {Φ:β→ZP} (hgd:sx ops sp bf j o pc) (h:∀{done a w τ},Cx ops sp In a0 w0 bf j o done a w τ→pc→∃b,Ψ b∧(Φ b).P (ex τ w) w∧bU P a o w (f b))
    (hs:s=fG N t pc f Ψ Φ:=by exact rfl) (hd:o.dst=some t:=by exact rfl):Ob ops sp In a0 w0 P bf j o s:=by
  subst hs;intro done a w τ c;refine ⟨fun hw=> ?_,fun hw=>⟨Ext.refl _ _,fun hp=>by rw [(hgd.known c).2 hp] at hw;cases hw⟩⟩;obtain ⟨b,hq,hz,hr⟩:=h c ((hgd.known c).1 hw);refine jT hr ⟨_,rfl,Ext.refl _ _,fun _=>⟨b,?_,hq,hz⟩⟩;show aS (a.put o.dst _) t=_;rw [hd,cT a t t _ (c.lt t hd),if_pos rfl]
end
theorem ji:cR []=0:=rfl
theorem gK (x:Int) (l:List Int):cR (x::l)=x+cR l:=by
  rw [show x::l=[x]++l from rfl,iQ];simp [cR]
theorem vd (k:Int) (ch:ByteArray) (ng:Bool) (mn mx:Int) (lz:Bool):eJ (cB k ch ng mn mx lz)=1+(ch.size:Int):=by rw [jX];simp [cB,wY,cR]
theorem zL (k:Int) (ch:ByteArray) (ng:Bool) (mn mx:Int) (lz:Bool) (kv:Sv) (ks:List Tr):eJ (eR k ch ng mn mx lz kv ks)=1+(ch.size:Int)+cR (ks.map eJ):=by rw [jX];simp [eR,wY,cR]
theorem xI (k:Int) (ks:List Tr):eJ (kJ k ks)=1+cR (ks.map eJ):=by
  rw [jX];have h:((⟨#[]⟩:ByteArray).size:Int)=0:=rfl;simp [kJ,wY,cR,h]
theorem ve (k:Int) (l:List Tr):cR ((fi k l).map eJ)≤cR (l.map eJ):=by
  induction l using em with
  | h0 => exact ei _
  | h1 l x ih =>
    rw [lr,bA,bA,aZ,bF,iQ,dL];have h1:=jX x;have h2:=mg x.rows;split
    · omega
    · rw [aZ,bF];simp [cR] at ih ⊢;omega
theorem rA (l:List Tr):(l.map er).map eJ=l.map eJ:=by
  rw [jx];exact gk fun t _=>pC t
theorem ud (l:List Tr):eJ (dA l)≤1+cR (l.map eJ):=by
  have h:=ve 0 l;unfold dA;split
  · rename_i x hx;rw [hx] at h;simp [cR] at h ⊢;omega
  · rename_i ks _;rw [xI];omega
theorem xJ (l:List Tr):eJ (kU l)≤1+cR (l.map eJ):=by
  have h:=ve 1 l;unfold kU;split
  · rename_i hx;rw [hx] at h;rw [xI];simp [cR] at h ⊢;omega
  · rename_i x hx;rw [hx] at h;simp [cR] at h ⊢;omega
  · rename_i ks _ _;rw [xI];omega
theorem vf {t:Tr} {l:List Tr} (h:er t=dA (l.map er)):eJ t≤1+cR (l.map eJ):=by
  have:=ud (l.map er);rw [rA] at this
  rw [←pC t,h];exact this
theorem zM {t:Tr} {l:List Tr} (h:er t=kU (l.map er)):eJ t≤1+cR (l.map eJ):=by
  have:=xJ (l.map er);rw [rA] at this
  rw [←pC t,h];exact this
end
section
open Go.RowKit
theorem cH {P:Program} {a:Act} {o:Oper} {w:World} {x:Operand} {v:Value} {p:Addr} (ho:o.op= .nilCheck x) (hx:a.eval x=v) (hv:v= .pointer (some p)):bU P a o w v:=by
  subst hv;simp [bU,execOp,ho,hx]
def Al:aQ:=fun _=>True
def bS (v:Value):aQ:=fun g=>v= .pointer (some ⟨g,0,none⟩)
theorem cj.foot {ty:Nat} {cells:List Value} {T:aQ} {v:Value} {w:World} (h:cj ty cells T v w):cj ty cells (bS v) v w:=by
  obtain ⟨g,rfl,hlt,_,hg⟩:=h;exact ⟨g,rfl,hlt,rfl,hg⟩
theorem cj.own {ty:Nat} {cells:List Value} {T:aQ} {v:Value} {w:World} (h:cj ty cells T v w) {g:Nat} (hg:bS v g):T g:=by
  obtain ⟨g',rfl,_,hT,_⟩:=h;unfold bS at hg;simp at hg;rw [←hg];exact hT
theorem cj.back {ty ty':Nat} {cells cells':List Value} {T:aQ} {v:Value} {w w':World} (h:cj ty cells (bS v) v w') (h':cj ty' cells' T v w):cj ty cells T v w':=by
  obtain ⟨g,hv,hlt,hT,hg⟩:=h;exact ⟨g,hv,hlt,h'.own hT,hg⟩
theorem cj.ext {ty:Nat} {cells:List Value} {T:aQ} {v:Value} {w w1 w2:World} (h:cj ty cells T v w) (hx:Ext (bS v) w1 w2):Ext T w1 w2:=hx.mono fun _ _ hg=>h.own hg
theorem cj.lt {ty:Nat} {cells:List Value} {T:aQ} {v:Value} {w:World} (h:cj ty cells T v w):∀g,bS v g→g < w.heap.size:=fun g hg=>by
  obtain ⟨g',rfl,hlt,_,_⟩:=h;unfold bS at hg;simp at hg;omega
structure RdR (ty:Nat) (v:Value) (cv:Sv) (cs:List ByteArray) (i:Nat) (w:World):Prop where
  box:cj ty [cv.v,.int .i64 (i:Int)] (bS v) v w
  sl:SlT fy w cv.v cs
  ne:cs≠ []→¬bS v (cX cv.v).block
theorem jm {ty:Nat} {v:Value} {cv:Sv} {cs:List ByteArray} {i:Nat} {w:World} {T Z:aQ} (hb:cj ty [cv.v,.int .i64 (i:Int)] T v w) (hz:(eY fy Al cv.v cs).P Z w) (hd:∀g,T g→¬Z g):RdR ty v cv cs i w:=
  ⟨hb.foot,hz.1,fun hn hg=>hd _ (hb.own hg) (hz.2 hn).1⟩
theorem RdR.inz {ty:Nat} {v:Value} {cv:Sv} {cs:List ByteArray} {i:Nat} {w:World} {n:Nat} {a:Act} {τ0:Nat→aQ} (h:RdR ty v cv cs i w) (st:St (fun k=>bS v k∨w.heap.size≤k) w n a w τ0):Fz (eY fy Al cv.v cs) τ0 w:=
  ⟨h.sl,fun hn=>⟨⟨h.sl.lt hn,fun s hs=>by
    rcases (st.bnd s _ hs).1 with h1 | h1
    · exact h.ne hn h1
    · have:=h.sl.lt hn;omega⟩,av⟩⟩
def hQ (ty:Nat) (N:aQ) (tag t:Nat) (p:Value) (cells:List Value) (v:Value):Spec N:=⟨some tag,t,fun _ T u w=>u=v∧cj ty cells T p w,fun _ _ T u w w' _ h hr=>⟨hr.1,jS T p w w' h.less hr.2⟩,fun u=>u=v,fun _ _ _ _ h=>h.1⟩
section
variable {N:aQ} {P:Program} {ops:Array Oper} {sp:List (Spec N)} {In:Nat→Ini N} {a0:Act} {w0 W:World} {bf:List Nat} {j:Nat} {o:Oper} {s:Spec N} {done:Nat→Bool} {a:Act} {w:World} {τ:Nat→aQ}
theorem fW {ty tag t:Nat} {p v:Value} {cells:List Value} (h:∀{done a w τ},Cx ops sp In a0 w0 bf j o done a w τ→∃g args,eD P a o w g args∧Calls P g args w (fun e w'=>e= .returned v∧Ext (τ tag) w w'∧cj ty cells (τ tag) p w'))
    (hs:s=hQ ty N tag t p cells v:=by exact rfl) (hg:o.guard=none:=by exact rfl) (hd:o.dst=some t:=by exact rfl):Ob ops sp In a0 w0 P bf j o s:=by
  subst hs;refine iL (tag:=tag) hg rfl fun done a w τ c=> ?_;obtain ⟨g,args,h1,h2⟩:=h c;refine ⟨g,args,h1,h2.mono fun e w' ⟨he,hx,hb⟩=>⟨v,he,hx,τ tag,fun g h=> .inl h,?_,hb⟩⟩;show aS (a.put o.dst v) t=v;rw [hd,cT a t t _ (c.lt t hd),if_pos rfl]
theorem Cx.dv {ty t slot:Nat} {p v:Value} {cells:List Value} (c:Cx ops sp In a0 w0 bf j o done a w τ) (i:Nat) (hs:sp[i]? =some (hQ ty N t slot p cells v)) (hb:(bf.getD j 0).testBit i=true:=by exact rfl):a.eval (.tmp slot)=v:=c.J.pur i _ hs (c.pre i hb)
theorem Cx.db {ty t slot:Nat} {p v:Value} {cells:List Value} (c:Cx ops sp In a0 w0 bf j o done a w τ) (i:Nat) (hs:sp[i]? =some (hQ ty N t slot p cells v)) (hl:bu (sp.map (·.tag)) t j=some i:=by exact rfl) (hord:iw (sp.map (·.tag)) bf t j=true:=by kernel_rfl):cj ty cells (τ t) p w:=(c.res i t _ hs hl hord).2
theorem fX {f:FuncId} {args:Array Value} {ty ty':Nat} {p v:Value} {cells cells':List Value} {T:aQ} (hb:cj ty' cells' T p w) (h:Calls P f args w (fun e w'=>e= .returned v∧Ext (bS p) w w'∧cj ty cells (bS p) p w')):Calls P f args w (fun e w'=>e= .returned v∧Ext T w w'∧cj ty cells T p w'):=
  h.mono fun e w' ⟨h1,h2,h3⟩=>⟨h1,hb.ext h2,h3.back hb⟩
theorem Cx.tzs {t:Tr} {F:aQ} {n:Nat} {a1:Act} {τ0:Nat→aQ} {w':World} (c:Cx ops sp In a0 w0 bf j o done a w τ) (st:St N W n a1 w0 τ0) (hx:w.heap.size≤w'.heap.size) (h:TrT (Gn (fun g=>ex τ w g∧Gn F W g) w) w' t):(iF (Gn F W) t).P (ex τ w') w':=TrT.mono h (c.gz (c.hW st) hx)
theorem Cx.tns {t:Tr} {F:aQ} {n:Nat} {a1:Act} {τ0:Nat→aQ} {w':World} (c:Cx ops sp In a0 w0 bf j o done a w τ) (st:St N W n a1 w0 τ0) (hx:w.heap.size≤w'.heap.size) (h:TrT (Gn aV w) w' t):(iF (Gn F W) t).P (ex τ w') w':=c.tzs st hx (h.mono fun g hg _=>hg.elim (fun h=>h.elim) .inr)
theorem Cx.sns {α:Type} {E:Enc α} {xs:List α} {v:Value} {F:aQ} {n:Nat} {a1:Act} {τ0:Nat→aQ} {w':World} (c:Cx ops sp In a0 w0 bf j o done a w τ) (st:St N W n a1 w0 τ0) (hx:w.heap.size≤w'.heap.size) (h:SlT E w' v xs∧(xs≠ []→w.heap.size≤(cX v).block)):(eY E (Gn F W) v xs).P (ex τ w') w':=
  ⟨h.1,fun hn=>c.gz (c.hW st) hx _ (.inr (h.2 hn)) (h.1.lt hn)⟩
end
section
variable {N:aQ} {l:List Oper} {sp:List (Spec N)} {il:List (Ini N)} {a0 a:Act} {w:World} {τ:Nat→aQ}
theorem Fin.dv (h:Fin l sp il a0 a w τ) {ty t slot:Nat} {p v:Value} {cells:List Value} (j:Nat) (hs:sp[j]? =some (hQ ty N t slot p cells v)) (hl:bu (sp.map (·.tag)) t sp.length=some j:=by exact rfl):aS a slot=v:=(h.res j t _ hs rfl hl).1
theorem Fin.db (h:Fin l sp il a0 a w τ) {ty t slot:Nat} {p v:Value} {cells:List Value} (j:Nat) (hs:sp[j]? =some (hQ ty N t slot p cells v)) (hl:bu (sp.map (·.tag)) t sp.length=some j:=by exact rfl):cj ty cells (τ t) p w:=(h.res j t _ hs rfl hl).2
end
theorem cj.cast {ty:Nat} {cs cs':List Value} {T:aQ} {v:Value} {w:World} (h:cj ty cs T v w) (e:cs'=cs):cj ty cs' T v w:=e ▸ h
theorem rB {P:Program} {fn:Func} {R:Ending→World→Prop} {a:Act} {w:World} {t t' t2:Nat} {v v' v2:Value} (hr:fn.results=#[.tmp t,.tmp t',.tmp t2]) (hd:a.defers=[]) (hv:aS a t=v) (hv':aS a t'=v') (hv2:aS a t2=v2) (h:R (.returned (.tuple #[v,v',v2])) w):bodyPost P fn R .ret a w:=
  bodyPost_ret (v:= .tuple #[v,v',v2]) (by
    have h0:(a.tmps[t]?).getD undef=v:=by rw [←aO];exact hv
    have h1:(a.tmps[t']?).getD undef=v':=by rw [←aO];exact hv'
    have h2:(a.tmps[t2]?).getD undef=v2:=by rw [←aO];exact hv2
    simp only [results,hr]
    simp [h0,h1,h2]) hd h
def xK (v:Value) (w:World):Nat:=match w.cell? ((cX v).add 1) with
  | some (.int _ n) => n.toNat
  | _ => 0
theorem ky {ty:Nat} {v x:Value} {i:Nat} {T:aQ} {w:World} (h:cj ty [x,.int .i64 (i:Int)] T v w):xK v w=i:=by
  unfold xK;rw [h.cell (j:=1) rfl];simp
section
variable {N:aQ} {P:Program} {ops:Array Oper} {sp:List (Spec N)} {In:Nat→Ini N} {a0:Act} {w0:World} {bf:List Nat} {j:Nat} {o:Oper} {s:Spec N}
theorem oq (gi:Nat) {tg t:Nat} {want b:Bool} (hs:s=B.det N t undef:=by exact rfl) (hg:o.guard=some (gi,want):=by exact rfl) (hd:o.dst=some t:=by exact rfl) (hgd:((ops[gi]?).bind (·.dst))=some tg:=by exact rfl) (hgs:sp[gi]? =some (B.det N tg (.bool b)):=by exact rfl) (hb:(bf.getD j 0).testBit gi=true:=by exact rfl) (hne:b≠want:=by decide):Ob ops sp In a0 w0 P bf j o s:=by
  intro done a w τ c;subst hs;have hv:=pk (c.v gi hgs hb);refine ⟨fun hn=> ?_,fun _=>⟨Ext.refl _ _,?_⟩⟩
  · exfalso;cases want <;> cases b <;> simp [Region.wanted,hg,yielded,hgd,hv] at hn hne
  · show aS (a.put o.dst undef) t=undef;rw [hd,cT a t t _ (c.lt t hd),if_pos rfl]
theorem pE (gi:Nat) {tg t:Nat} {want:Bool} (hs:s=B.det N t undef:=by exact rfl) (hg:o.guard=some (gi,want):=by exact rfl) (hd:o.dst=some t:=by exact rfl) (hgd:((ops[gi]?).bind (·.dst))=some tg:=by exact rfl) (hgs:sp[gi]? =some (B.det N tg undef):=by exact rfl) (hb:(bf.getD j 0).testBit gi=true:=by exact rfl):Ob ops sp In a0 w0 P bf j o s:=by
  intro done a w τ c;subst hs;have hv:=qo (c.v gi hgs hb);have hy:yielded ops a.tmps gi=none:=by
    cases h':a.tmps[tg]? with
    | none => simp [yielded, hgd, h']
    | some u => cases u <;> first | exact absurd h' (hv _) | simp [yielded, hgd, h']
  refine ⟨fun hn=> ?_,fun _=>⟨Ext.refl _ _,?_⟩⟩
  · exfalso;simp [Region.wanted,hg,hy] at hn
  · show aS (a.put o.dst undef) t=undef;rw [hd,cT a t t _ (c.lt t hd),if_pos rfl]
end
theorem CM {G Z:aQ} {w:World} {ts us:List Tr} (h:(kH G ts).P Z w) (h2:(kH G us).P Z w):(kH G (ts++us)).P Z w:=fun x hx=>(List.mem_append.1 hx).elim (h x) (h2 x)
end
section
open Srt
abbrev Rw:=ByteArray × ByteArray
theorem nt {α:Type} [Inhabited α] {xs:List α} {k:Nat} (h:k < xs.length):nth xs (k:Int) ∈ xs:=fT (rn h)
theorem qx {f:Int→Bool} {k:Nat} (h:∀i < k,f ((i:Nat):Int)=false) (h2:f (k:Int)=false):∀i < k+1,f ((i:Nat):Int)=false:=by
  intro i hi;by_cases e:i=k
  · subst e;exact h2
  · exact h i (by omega)
def pF (xs:List Rw):Prop:=∀r ∈ xs,r.1.size≤1000000∧r.2.size≤1000000
theorem sG {xs:List Rw} (h:pF xs) {k:Nat}:k < xs.length→(nth xs (k:Int)).1.size≤1000000∧(nth xs (k:Int)).2.size≤1000000:=fun hk=>h _ (nt hk)
def eh (r:Rw):Bool:=(cY r.1&&cY r.2)&&oF r.1 r.2
def CN (p q:Rw):Int:=De [sC p.1 q.1,sC p.2 q.2]
def lU (p q:Rw):Bool:=decide (CN p q < 0)
theorem vg {x y:ByteArray}:sC x y < 0↔lK x y=true:=by
  unfold sC;split
  · rename_i h;simp [h]
  · rename_i h;split <;> simp [h]
theorem zN {x y:ByteArray}:sC x y=0↔x=y:=by
  unfold sC;constructor
  · intro h;rcases oJ x y with h' | h' | h'
    · rw [if_pos h'] at h;cases h
    · exact h'
    · rw [if_neg (by rw [qv h'];decide),if_pos h'] at h;cases h
  · rintro rfl
    rw [if_neg (by rw [nm];decide),if_neg (by rw [nm];decide)]
theorem vh (p q:Rw):lU p q=true↔lK p.1 q.1=true∨(p.1=q.1∧lK p.2 q.2=true):=by
  unfold lU CN De;rw [ah,←vg,←vg,←zN];generalize sC p.1 q.1=a;generalize sC p.2 q.2=b;have hn:∀x:Int,¬x=0→(x !=0)=true:=fun x h=>by simpa using h
  by_cases h1:a=0
  · subst h1;by_cases h2:b=0
    · subst h2;simp [List.find?]
    · simp [List.find?,hn b h2]
  · simp [List.find?,hn a h1,h1]
def wZ (xs:List Rw) (c:ByteArray):Bool:=xs.any fun r=>oF r.1 c&&oF c r.2
theorem zO {xs:List Rw} {c:ByteArray} {k:Nat} (h:k < xs.length) (hc:(oF (nth xs (k:Int)).1 c&&oF c (nth xs (k:Int)).2)=true):wZ xs c=true:=List.any_eq_true.2 ⟨_,nt h,hc⟩
theorem Bz {xs:List Rw} {c:ByteArray} {k:Nat} (h:xs.length≤k) (hq:∀i < k,(oF (nth xs ((i:Nat):Int)).1 c&&oF c (nth xs ((i:Nat):Int)).2)=false):wZ xs c=false:=by
  unfold wZ;rw [kk];intro r hr;obtain ⟨i,hi,rfl⟩:=ic hr;have:=hq i (by omega);rw [mU (bm hi)] at this
  rw [this];decide
def wl (xs:List Rw) (n f:Bool) (c:ByteArray):Bool:= !((if f=true then (wZ xs c || wZ xs (eZ c)) || wZ xs (Dd c) else wZ xs c)==n)
def pG (xs:List Rw) (i:Int):Bool:= !eh (nth xs i) || (decide (0 < i)&&oF (nth xs i).1 (nth xs (i - 1)).2)
def ls (xs:List Rw):Bool:=(List.range xs.length).all fun i=> !pG xs (i:Int)
theorem wm {xs:List Rw} {k:Nat} (h:k < xs.length) (hb:pG xs (k:Int)=true):ls xs=false:=by
  unfold ls;rw [List.all_eq_false];exact ⟨k,by simpa using h,by simp [hb]⟩
theorem pH {xs:List Rw} {k:Nat} (h:∀i < k,pG xs ((i:Nat):Int)=false) (hk:xs.length≤k):ls xs=true:=by
  unfold ls;rw [cK];intro i hi;simp at hi;simp [h i (by omega)]
theorem vi (r:Rw):((!cY r.1 || !cY r.2) || !oF r.1 r.2)= !eh r:=by
  unfold eh;cases cY r.1 <;> cases cY r.2 <;> cases oF r.1 r.2 <;> rfl
theorem xL {α:Type} [Inhabited α] {f:α→Bool} {xs:List α} {k:Nat} (h:k < xs.length) (hp:f (nth xs (k:Int))=true):(xs.take (k+1)).filter f=(xs.take k).filter f++ [nth xs (k:Int)]:=by
  rw [eT h,List.filter_append];simp [hp]
theorem sH {α:Type} [Inhabited α] {f:α→Bool} {xs:List α} {k:Nat} (h:k < xs.length) (hp:f (nth xs (k:Int))=false):(xs.take (k+1)).filter f=(xs.take k).filter f:=by
  rw [eT h,List.filter_append];simp [hp]
theorem wn {α:Type} {f:α→Bool} {xs:List α} {k:Nat}:((xs.take k).filter f).length≤xs.length:=by
  have h1:=List.length_filter_le f (xs.take k);have h3:=List.length_take_le' k xs;omega
theorem lV (xs:List Rw):(dQ lU (xs.filter eh)).length≤xs.length:=by
  rw [nl];exact List.length_filter_le _ _
def sI (acc:List Rw) (p:Rw):Bool:=decide (0≤(acc.length:Int) - 1)&&oF p.1 (nth acc ((acc.length:Int) - 1)).2
def ot (acc:List Rw) (p:Rw):List Rw:=
  if sI acc p=true then acc.set ((acc.length:Int) - 1).toNat ((nth acc ((acc.length:Int) - 1)).1,oA (nth acc ((acc.length:Int) - 1)).2 p.2) else acc++ [p]
def fa (xs:List Rw):List Rw:=xs.foldl ot []
theorem lu (xs:List Rw) (p:Rw):fa (xs++ [p])=ot (fa xs) p:=by simp [fa]
theorem qy {xs:List Rw} {k:Nat} (h:k < xs.length) (hc:sI (fa (xs.take k)) (nth xs (k:Int))=true):
    fa (xs.take (k+1))=(fa (xs.take k)).set (((fa (xs.take k)).length:Int) - 1).toNat ((nth (fa (xs.take k)) (((fa (xs.take k)).length:Int) - 1)).1,oA (nth (fa (xs.take k)) (((fa (xs.take k)).length:Int) - 1)).2 (nth xs (k:Int)).2):=by
  rw [eT h,lu,ot,if_pos hc]
theorem pI {xs:List Rw} {k:Nat} (h:k < xs.length) (hc:sI (fa (xs.take k)) (nth xs (k:Int))=false):fa (xs.take (k+1))=fa (xs.take k)++ [nth xs (k:Int)]:=by
  rw [eT h,lu,ot,if_neg (by rw [hc];decide)]
theorem sJ (xs:List Rw):(fa xs).length≤xs.length:=by
  induction xs using em with
  | h0 => simp [fa]
  | h1 xs x ih =>
    rw [lu,ot];split
    · simp;omega
    · simp;omega
theorem ue {xs:List Rw} {k:Nat}:(fa (xs.take k)).length≤k:=by
  have h1:=sJ (xs.take k);have h2:=List.length_take_le k xs;omega
theorem nu {acc:List Rw} {p:Rw} {b:Bool} (h:(decide ((0:Int) < (acc.length:Int))&&oF p.1 (nth acc ((acc.length:Int) - 1)).2)=b):sI acc p=b:=by
  rw [←h];unfold sI;congr 1;exact decide_eq_decide.2 (by omega)
def fl (xs:List Rw):List Rw:=fa (dQ lU (xs.filter eh))
def qk (x y:Rw):Bool:=lK x.1 y.1 || (gD x.1 y.1&&lK x.2 y.2)
theorem BA:qk=lU:=by
  funext x y;rw [eK,vh,qk,ba,ao,oG]
theorem sK {xs:List Rw} {i k:Nat} (h:i < xs.length) (hr:eh (nth xs (i:Int))=true) (hk:k≤(dQ qk ((xs.take i).filter eh)).length) (hq:∀q ∈ (dQ qk ((xs.take i).filter eh)).drop k,qk (nth xs (i:Int)) q=true)
    (hc:(decide ((0:Int) < (k:Int))&&qk (nth xs (i:Int)) (nth (dQ qk ((xs.take i).filter eh)) ((k:Int) - 1)))=false):
    dQ qk ((xs.take (i+1)).filter eh)=(([]++((dQ qk ((xs.take i).filter eh)).drop 0).take (k - 0))++ [nth xs (i:Int)])++((dQ qk ((xs.take i).filter eh)).drop k).take ((dQ qk ((xs.take i).filter eh)).length - k):=by
  rw [xL h hr,jV,By hk hq hc]
def fm (n:Int):List Rw:=if n=100 then [(⟨#[48]⟩,⟨#[57]⟩)] else if n=119 then [(⟨#[48]⟩,⟨#[57]⟩),(⟨#[65]⟩,⟨#[90]⟩),(⟨#[95]⟩,⟨#[95]⟩),(⟨#[97]⟩,⟨#[122]⟩)] else if n=115 then [(⟨#[9]⟩,⟨#[13]⟩),(⟨#[32]⟩,⟨#[32]⟩)] else []
def gh (n:Int):Bool:=decide (n=100) || (decide (n=119) || decide (n=115))
theorem nv {s:ByteArray} {k:Nat} (h:k < (bs s).length) (hc:(decide ((65:Int)≤((nth (eP iD (bs s) k) (k:Int)).toNat:Int))&&decide (((nth (eP iD (bs s) k) (k:Int)).toNat:Int)≤90))=true):
    eP iD (bs s) (k+1)=(eP iD (bs s) k).set (k:Int).toNat (UInt8.ofNat (IntKind.u8.wrap (((nth (eP iD (bs s) k) (k:Int)).toNat:Int)+32)).toNat):=by
  refine qw h ?_;rw [me h] at hc ⊢;rw [iD,if_pos hc]
theorem mh {s:ByteArray} {k:Nat} (h:k < (bs s).length) (hc:(decide ((65:Int)≤((nth (eP iD (bs s) k) (k:Int)).toNat:Int))&&decide (((nth (eP iD (bs s) k) (k:Int)).toNat:Int)≤90))=false):eP iD (bs s) (k+1)=eP iD (bs s) k:=by
  refine pw h ?_;rw [me h] at hc;rw [iD,if_neg (by rw [hc];decide)]
theorem xM {s:ByteArray} {k:Nat} (h:k < (bs s).length) (hc:(decide ((97:Int)≤((nth (eP ua (bs s) k) (k:Int)).toNat:Int))&&decide (((nth (eP ua (bs s) k) (k:Int)).toNat:Int)≤122))=true):
    eP ua (bs s) (k+1)=(eP ua (bs s) k).set (k:Int).toNat (UInt8.ofNat (IntKind.u8.wrap (((nth (eP ua (bs s) k) (k:Int)).toNat:Int) - 32)).toNat):=by
  refine qw h ?_;rw [me h] at hc ⊢;rw [ua,if_pos hc]
theorem vj {s:ByteArray} {k:Nat} (h:k < (bs s).length) (hc:(decide ((97:Int)≤((nth (eP ua (bs s) k) (k:Int)).toNat:Int))&&decide (((nth (eP ua (bs s) k) (k:Int)).toNat:Int)≤122))=false):eP ua (bs s) (k+1)=eP ua (bs s) k:=by
  refine pw h ?_;rw [me h] at hc;rw [ua,if_neg (by rw [hc];decide)]
end
section
open Srt
abbrev Ps:=List (Int × Int)
abbrev Fl:=Nat × Bool
abbrev Rs:=Option (Nat × Ps) × Fl
abbrev dZ:=Nat→Ps→Fl→Rs
abbrev ig:=Nat→dZ→Ps→Fl→Rs
structure Env where
  cs:List ByteArray
  pl:List Int
  fold:Bool
def sL (s:ByteArray):Bool:=decide ((s.size:Int)=1)&&((((decide (97≤bI s 0)&&decide (bI s 0≤122)) || (decide (65≤bI s 0)&&decide (bI s 0≤90))) || (decide (48≤bI s 0)&&decide (bI s 0≤57))) || decide (bI s 0=95))
def gm (fold:Bool) (t:Tr) (x:ByteArray):Bool:=
  if t.k=2 then gD x t.ch || (fold&&gD (eZ x) (eZ t.ch))
  else if t.k=3 then !(gD x ⟨#[10]⟩)
  else wl t.rows t.ng fold x
def BB (cs:List ByteArray) (k:Int):Bool:=decide (0 < k)&&sL (nth cs (k - 1))
def zP (cs:List ByteArray) (k:Int):Bool:=decide (k < (cs.length:Int))&&sL (nth cs k)
def jG (cs:List ByteArray) (kd:Int) (k:Int):Bool:=
  if kd=8 then decide (k=0) else if kd=9 then decide (k=(cs.length:Int)) else (!(BB cs k==zP cs k))==decide (kd=10)
def dx (ps:Ps) (lo n:Nat):Ps:=ps.take lo++List.replicate n ((-1:Int),(-1:Int))++ps.drop (lo+n)
def fY:List ig→ig
  | [], k, K, ps, φ => K k ps φ
  | r :: l, k, K, ps, φ => r k (fun to ps φ => fY l to K ps φ) ps φ
def lW:List ig→ig
  | [], _, _, _, φ => (none, φ)
  | r :: l, k, K, ps, φ => if (r k K ps φ).1.isSome = true then r k K ps φ else lW l k K ps (r k K ps φ).2
def fK (mn:Int) (lz:Bool) (times:Nat) (k:Nat) (K:dZ) (ps:Ps) (φ:Fl):Rs:=if (decide (mn≤(times:Int))&&lz)=true then K k ps φ else (none,φ)
def gP (mn:Int) (lz:Bool) (times:Nat) (k:Nat) (K:dZ) (ps:Ps) (φ:Fl):Rs:=if ((decide (mn≤(times:Int))&& !lz)&& !φ.2)=true then K k ps φ else (none,φ)
def dV (r:ig) (lo n:Nat) (mn mx:Int) (lz:Bool):Nat→Nat→ig
  | 0, _, _, _, _, φ => (none, φ)
  | g + 1, times, k, K, ps, φ =>
    if (fK mn lz times k K ps φ).1.isSome=true then fK mn lz times k K ps φ else
    if (decide (mx < 0) || decide ((times:Int) < mx))=true then
      if (r k (fun to ps' φ'=>if (decide (k < to) || decide ((times:Int) < mn))=true then dV r lo n mn mx lz g (times+1) to K ps' φ' else (none,φ')) (dx ps lo n) (fK mn lz times k K ps φ).2).1.isSome=true then
        r k (fun to ps' φ'=>if (decide (k < to) || decide ((times:Int) < mn))=true then dV r lo n mn mx lz g (times+1) to K ps' φ' else (none,φ')) (dx ps lo n) (fK mn lz times k K ps φ).2
      else gP mn lz times k K ps (r k (fun to ps' φ'=>if (decide (k < to) || decide ((times:Int) < mn))=true then dV r lo n mn mx lz g (times+1) to K ps' φ' else (none,φ')) (dx ps lo n) (fK mn lz times k K ps φ).2).2
    else gP mn lz times k K ps (fK mn lz times k K ps φ).2
def ez (r:ig) (lo n:Nat) (mn mx:Int) (lz:Bool) (g times k:Nat) (K:dZ):dZ:=fun to ps' φ'=>if (decide (k < to) || decide ((times:Int) < mn))=true then dV r lo n mn mx lz g (times+1) to K ps' φ' else (none,φ')
def iE (r:ig) (lo n:Nat) (mn mx:Int) (lz:Bool) (g times k:Nat) (K:dZ) (ps:Ps) (φ:Fl):Rs:=r k (ez r lo n mn mx lz g times k K) (dx ps lo n) φ
theorem kV (r:ig) (lo n:Nat) (mn mx:Int) (lz:Bool) (g times k:Nat) (K:dZ) (ps:Ps) (φ:Fl):dV r lo n mn mx lz (g+1) times k K ps φ=
    if (fK mn lz times k K ps φ).1.isSome=true then fK mn lz times k K ps φ else
    if (decide (mx < 0) || decide ((times:Int) < mx))=true then
      if (iE r lo n mn mx lz g times k K ps (fK mn lz times k K ps φ).2).1.isSome=true then iE r lo n mn mx lz g times k K ps (fK mn lz times k K ps φ).2
      else gP mn lz times k K ps (iE r lo n mn mx lz g times k K ps (fK mn lz times k K ps φ).2).2
    else gP mn lz times k K ps (fK mn lz times k K ps φ).2:=rfl
def qz:List ig→ig
  | r :: _ => r
  | [] => fun _ _ _ φ => (none, φ)
def gn (E:Env) (lo k:Nat) (K:dZ):dZ:=fun to ps φ=>K to (ps.set lo (nth E.pl (k:Int),nth E.pl (to:Int))) φ
def jY (E:Env) (t:Tr) (lo:Nat) (l:List ig):ig:=fun k K ps φ=>
  if t.k=5 then qz l k (gn E lo k K) ps φ
  else if t.k=6 then qz l k K ps φ
  else if t.k=2∨t.k=3∨t.k=4 then (if (decide ((k:Int) < (E.cs.length:Int))&&gm E.fold t (nth E.cs (k:Int)))=true then K (k+1) ps φ else (none,φ))
  else if jG E.cs t.k (k:Int)=true then K k ps φ else (none,φ)
def hY (E:Env) (t:Tr) (lo n:Nat) (l:List ig):ig:=fun k K ps φ=>
  if φ.2=true then (none,φ)
  else if t.k=0 then fY l k K ps φ
  else if t.k=1 then lW l k K ps φ
  else if t.k=7 then dV (qz l) lo n t.mn t.mx t.lz (φ.1+1) 0 k K ps φ
  else if φ.1=0 then (none,(0,true))
  else jY E t lo l k K ps (φ.1 - 1,false)
def sM (k:Int):Bool:= !((decide (k=0) || decide (k=1)) || decide (k=7))
structure Pt where
  t:Tr
  pv:Sv
  ps:List Pt
  lo:Int
  hi:Int
instance:Inhabited Pt:=⟨⟨default,Sv.nil,[],0,0⟩⟩
theorem Pt.kid_lt {t k:Pt} (h:k ∈ t.ps):SizeOf.sizeOf k < SizeOf.sizeOf t:=by
  have h1:=List.sizeOf_lt_of_mem h;cases t
  simp at h1 ⊢;omega
theorem Pt.ind {P:Pt→Prop} (h:∀t,(∀k ∈ t.ps,P k)→P t) (t:Pt):P t:=h t fun k hk=>Pt.ind h k
termination_by SizeOf.sizeOf t
decreasing_by exact Pt.kid_lt hk
def tM:Enc Pt:=⟨fun p=> [.int .i64 p.t.k,.string p.t.ch,.bool p.t.ng,p.t.rv.v,.int .i64 p.t.mn,.int .i64 p.t.mx,.bool p.t.lz,p.t.kv.v,p.pv.v,.int .i64 p.lo,.int .i64 p.hi],11,by decide,fun _=>rfl,fun x u hu=>by
  simp at hu;rcases hu with rfl | rfl | rfl | rfl | rfl | rfl | rfl | rfl | rfl | rfl | rfl <;> rfl⟩
def Pt.v (p:Pt):Value:= .agg #[.int .i64 p.t.k,.string p.t.ch,.bool p.t.ng,p.t.rv.v,.int .i64 p.t.mn,.int .i64 p.t.mx,.bool p.t.lz,p.t.kv.v,p.pv.v,.int .i64 p.lo,.int .i64 p.hi]
section
variable {β:Type}
mutual
def qA (g:Pt→List β→β):Pt→β
  | ⟨t, pv, ps, lo, hi⟩ => g ⟨t, pv, ps, lo, hi⟩ (pJ g ps)
def pJ (g:Pt→List β→β):List Pt→List β
  | [] => []
  | t :: ts => qA g t :: pJ g ts
end
theorem uf (g:Pt→List β→β) (ts:List Pt):pJ g ts=ts.map (qA g):=by
  induction ts with
  | nil => rw [pJ]; rfl
  | cons t ts ih => rw [pJ, ih]; rfl
theorem xN (g:Pt→List β→β) (t:Pt):qA g t=g t (t.ps.map (qA g)):=by
  cases t;rw [qA,uf]
end
def aX (E:Env):Pt→ig:=qA fun p l=>hY E p.t p.lo.toNat (p.hi - p.lo).toNat l
theorem jg (E:Env) (p:Pt):aX E p=hY E p.t p.lo.toNat (p.hi - p.lo).toNat (p.ps.map (aX E)):=xN _ p
def xO (g:Nat):List (Nat × (Nat→ig))→List ig
  | [] => []
  | (n, r) :: l => r g :: xO (g + n) l
def nw (t:Tr) (g:Nat):Nat:=if t.k=5 then g+1 else g
def grpN (t:Tr):Nat:=(fV t).toNat
def jZ (E:Env):Tr→Nat × (Nat→ig):=ku fun t l=>((if t.k=5 then 1 else 0)+(l.map (·.1)).sum,fun g=>hY E t g ((if t.k=5 then 1 else 0)+(l.map (·.1)).sum) (xO (nw t g) l))
def ka (E:Env) (t:Tr) (g:Nat):ig:=(jZ E t).2 g
def kW (E:Env):List Tr→Nat→List ig
  | [], _ => []
  | t :: ts, g => ka E t g :: kW E ts (g + grpN t)
theorem vk (E:Env) (t:Tr):(jZ E t).1=grpN t:=by
  induction t using Tr.ind with
  | h t ih =>
    have h1:(jZ E t).1=(if t.k=5 then 1 else 0)+((t.kids.map (jZ E)).map (·.1)).sum:=congrArg Prod.fst (gZ _ t);have h2:=lq t;have h3:∀l:List Tr,(∀k ∈ l,(jZ E k).1=grpN k)→((((l.map (jZ E)).map (·.1)).sum:Nat):Int)=cR (l.map fV):=by
      intro l;induction l with
      | nil => intro _; rfl
      | cons k l ih2 =>
        intro hl;have e1:=ih2 fun x hx=>hl x (by simp [hx]);have e2:=hl k (by simp);have e3:=(im k).1;rw [aZ,aZ,List.sum_cons,aZ,gK,e2];unfold grpN;omega
    have h4:=h3 t.kids ih;rw [h1];unfold grpN;rw [h2];split <;> omega
theorem qB (E:Env):∀(l:List Tr) (g:Nat),xO g (l.map (jZ E))=kW E l g
  | [], _ => rfl
  | t :: l, g => by
    rw [aZ,kW];show (jZ E t).2 g::xO (g+(jZ E t).1) (l.map (jZ E))=_;rw [vk,qB E l];rfl
theorem nx (E:Env) (t:Tr) (g:Nat):ka E t g=hY E t g (grpN t) (kW E t.kids (nw t g)):=by
  have h1:(jZ E t).2=fun g=>hY E t g ((if t.k=5 then 1 else 0)+((t.kids.map (jZ E)).map (·.1)).sum) (xO (nw t g) (t.kids.map (jZ E))):=congrArg Prod.snd (gZ _ t);have h2:(jZ E t).1=(if t.k=5 then 1 else 0)+((t.kids.map (jZ E)).map (·.1)).sum:=congrArg Prod.fst (gZ _ t);unfold ka;rw [h1];show hY E t g _ _=_;rw [←h2,vk,qB]
mutual
inductive Lay:Pt→Tr→Nat→Prop
  | mk {p : Pt} {t : Tr} {g : Nat} : er p.t = er t → p.lo = (g : Int) → p.hi = (g : Int) + fV t → LayL p.ps t.kids (nw t g) → Lay p t g
inductive LayL:List Pt→List Tr→Nat→Prop
  | nil {g : Nat} : LayL [] [] g
  | cons {p : Pt} {ps : List Pt} {t : Tr} {ts : List Tr} {g : Nat} : Lay p t g → LayL ps ts (g + grpN t) → LayL (p :: ps) (t :: ts) g
end
theorem kX {a b:Tr} (h:er a=er b):a.k=b.k∧a.ch=b.ch∧a.ng=b.ng∧a.rows=b.rows∧a.mn=b.mn∧a.mx=b.mx∧a.lz=b.lz:=by
  rw [lR,lR] at h;injection h with h1 h2 h3 h4 h5 h6 h7 h8 h9 h10
  exact ⟨h1,h2,h3,h5,h6,h7,h8⟩
theorem wo {f:Bool} {a b:Tr} (h:er a=er b) (x:ByteArray):gm f a x=gm f b x:=by
  obtain ⟨h1,h2,h3,h4,h5,h6,h7⟩:=kX h;unfold gm;rw [h1,h2,h3,h4]
theorem sN (E:Env) {a b:Tr} (h:er a=er b) (lo n:Nat) (l:List ig):hY E a lo n l=hY E b lo n l:=by
  obtain ⟨h1,h2,h3,h4,h5,h6,h7⟩:=kX h;funext k K ps φ;unfold hY jY;rw [h1,h5,h6,h7,wo h]
theorem rC (E:Env) (t:Tr):∀(p:Pt) (g:Nat),Lay p t g→aX E p=ka E t g:=by
  induction t using Tr.ind with
  | h t ih =>
    intro p g h;cases h with
    | mk h1 h2 h3 h4 =>
      rw [jg,nx,sN E h1];have e1:p.lo.toNat=g:=by omega
      have e2:(p.hi - p.lo).toNat=grpN t:=by unfold grpN;omega
      have e3:∀(ts:List Tr) (ps:List Pt) (g:Nat),(∀k ∈ ts,k ∈ t.kids)→LayL ps ts g→ps.map (aX E)=kW E ts g:=by
        intro ts;induction ts with
        | nil => intro ps g _ h; cases h; rfl
        | cons k ts ih2 =>
          intro ps g hm h;cases h with
          | cons h5 h6 => rw [aZ, kW, ih k (hm k (by simp)) _ _ h5, ih2 _ _ (fun x hx => hm x (by simp [hx])) h6]
      rw [e1,e2,e3 _ _ _ (fun _ h=>h) h4]
theorem rD (E:Env) (t:Tr):∀(u:Tr) (g:Nat),er t=er u→ka E t g=ka E u g:=by
  induction t using Tr.ind with
  | h t ih =>
    intro u g h;rw [nx,nx,sN E h];have e1:grpN t=grpN u:=by unfold grpN;rw [←iX t,←iX u,h]
    have e2:nw t g=nw u g:=by unfold nw;rw [(kX h).1]
    have e3:t.kids.map er=u.kids.map er:=by rw [←kr,←kr,h]
    have e4:∀(ts us:List Tr) (g:Nat),(∀k ∈ ts,k ∈ t.kids)→ts.map er=us.map er→kW E ts g=kW E us g:=by
      intro ts;induction ts with
      | nil => intro us g _ h; cases us with
        | nil => rfl
        | cons => simp at h
      | cons k ts ih2 =>
        intro us g hm h;cases us with
        | nil => simp at h
        | cons v us =>
          simp only [aZ,List.cons.injEq] at h;have e5:grpN k=grpN v:=by unfold grpN;rw [←iX k,←iX v,h.1]
          rw [kW,kW,ih k (hm k (by simp)) v g h.1,e5,ih2 us _ (fun x hx=>hm x (by simp [hx])) h.2]
    rw [e1,e2,e4 _ _ _ (fun _ h=>h) e3]
def KP (B:Nat) (K:dZ):Prop:=∀(to:Nat) (ps:Ps) (fu:Nat),fu < B→(K to ps (fu,false)).2.1≤fu
theorem KP.less {B B':Nat} {K:dZ} (h:KP B K) (hB:B'≤B):KP B' K:=fun to ps fu hf=>h to ps fu (by omega)
def RP (r:ig):Prop:=∀(k B:Nat) (K:dZ),KP B K→∀(ps:Ps) (fu:Nat) (ou:Bool),fu < B→(r k K ps (fu,ou)).2.1≤fu
theorem ug:∀(l:List ig),(∀r ∈ l,RP r)→∀(k B:Nat) (K:dZ),KP B K→∀(ps:Ps) (fu:Nat),fu < B→(fY l k K ps (fu,false)).2.1≤fu
  | [], _, k, B, K, hK, ps, fu, hf => hK k ps fu hf
  | r :: l, h, k, B, K, hK, ps, fu, hf => h r (by simp) k B (fun to ps φ => fY l to K ps φ) (fun to ps fu hf => ug l (fun x hx => h x (by simp [hx])) to B K hK ps fu hf) ps fu false hf
theorem xP:∀(l:List ig),(∀r ∈ l,RP r)→∀(k B:Nat) (K:dZ),KP B K→∀(ps:Ps) (fu:Nat) (ou:Bool),fu < B→(lW l k K ps (fu,ou)).2.1≤fu
  | [], _, k, B, K, hK, ps, fu, ou, hf => bj _
  | r :: l, h, k, B, K, hK, ps, fu, ou, hf => by
    have h1:=h r (by simp) k B K hK ps fu ou hf;rw [lW];split
    · exact h1
    · have h2:=xP l (fun x hx=>h x (by simp [hx])) k B K hK ps (r k K ps (fu,ou)).2.1 (r k K ps (fu,ou)).2.2 (by omega);exact aT h2 h1
theorem zQ {B:Nat} {K:dZ} (hK:KP B K) {mn:Int} {lz:Bool} {times k:Nat} {ps:Ps} {fu:Nat} (hf:fu < B):(fK mn lz times k K ps (fu,false)).2.1≤fu:=by
  unfold fK;split
  · exact hK k ps fu hf
  · exact bj _
theorem vl {B:Nat} {K:dZ} (hK:KP B K) {mn:Int} {lz:Bool} {times k:Nat} {ps:Ps} {fu:Nat} {ou:Bool} (hf:fu < B):(gP mn lz times k K ps (fu,ou)).2.1≤fu:=by
  unfold gP;split
  · rename_i h;cases ou with
    | true => simp at h
    | false => exact hK k ps fu hf
  · exact bj _
theorem pK {r:ig} (hr:RP r) {lo n:Nat} {mn mx:Int} {lz:Bool}:∀(g times k B:Nat) (K:dZ),KP B K→∀(ps:Ps) (fu:Nat),fu < B→(dV r lo n mn mx lz g times k K ps (fu,false)).2.1≤fu
  | 0, times, k, B, K, hK, ps, fu, hf => bj _
  | g + 1, times, k, B, K, hK, ps, fu, hf => by
    have h1:=zQ hK (mn:=mn) (lz:=lz) (times:=times) (k:=k) (ps:=ps) hf;have hk:KP B (ez r lo n mn mx lz g times k K):=fun to ps' fu' hf'=>by
      unfold ez;split
      · exact pK hr g (times+1) to B K hK ps' fu' hf'
      · exact bj _
    have h2:(iE r lo n mn mx lz g times k K ps (fK mn lz times k K ps (fu,false)).2).2.1≤(fK mn lz times k K ps (fu,false)).2.1:=hr k B _ hk (dx ps lo n) (fK mn lz times k K ps (fu,false)).2.1 (fK mn lz times k K ps (fu,false)).2.2 (by omega);rw [kV];split
    · exact h1
    · split
      · split
        · exact aT h2 h1
        · have h3:=vl hK (mn:=mn) (lz:=lz) (times:=times) (k:=k) (ps:=ps) (fu:=(iE r lo n mn mx lz g times k K ps (fK mn lz times k K ps (fu,false)).2).2.1) (ou:=(iE r lo n mn mx lz g times k K ps (fK mn lz times k K ps (fu,false)).2).2.2) (by omega);exact aT h3 (aT h2 h1)
      · have h3:=vl hK (mn:=mn) (lz:=lz) (times:=times) (k:=k) (ps:=ps) (fu:=(fK mn lz times k K ps (fu,false)).2.1) (ou:=(fK mn lz times k K ps (fu,false)).2.2) (by omega);exact aT h3 h1
theorem ny {r:ig} (hr:RP r) {lo n:Nat} {mn mx:Int} {lz:Bool} {g times k B:Nat} {K:dZ} (hK:KP B K):KP B (ez r lo n mn mx lz g times k K):=fun to ps' fu' hf'=>by
  unfold ez;split
  · exact pK hr g (times+1) to B K hK ps' fu' hf'
  · exact bj _
theorem rE {l:List ig} (h:∀r ∈ l,RP r):RP (qz l):=by
  cases l with
  | nil => exact fun k B K hK ps fu ou hf => bj _
  | cons r l => exact h r (by simp)
theorem sO {E:Env} {lo k B:Nat} {K:dZ} (hK:KP B K):KP B (gn E lo k K):=fun to ps fu hf=>hK to _ fu hf
theorem BC {l:List ig} (h:∀r ∈ l,RP r) {B:Nat} {K:dZ} (hK:KP B K):KP B (fun to ps φ=>fY l to K ps φ):=fun to ps fu hf=>ug l h to B K hK ps fu hf
theorem vm {E:Env} {t:Tr} {lo:Nat} {l:List ig} (h:∀r ∈ l,RP r) {k B:Nat} {K:dZ} (hK:KP B K) {ps:Ps} {fu:Nat} (hf:fu < B):(jY E t lo l k K ps (fu,false)).2.1≤fu:=by
  unfold jY;split
  · exact rE h k B _ (sO hK) ps fu false hf
  · split
    · exact rE h k B K hK ps fu false hf
    · split
      · split
        · exact hK _ ps fu hf
        · exact bj _
      · split
        · exact hK _ ps fu hf
        · exact bj _
theorem zR {E:Env} {t:Tr} {lo n:Nat} {l:List ig} (h:∀r ∈ l,RP r):RP (hY E t lo n l):=fun k B K hK ps fu ou hf=>by
  unfold hY;split
  · exact bj _
  · rename_i ho;have ho:ou=false:=by simpa using ho
    subst ho;split
    · exact ug l h k B K hK ps fu hf
    · split
      · exact xP l h k B K hK ps fu false hf
      · split
        · exact pK (rE h) _ _ k B K hK ps fu hf
        · split
          · exact dE _
          · have:=vm (E:=E) (t:=t) (lo:=lo) h hK (k:=k) (ps:=ps) (fu:=fu - 1) (by omega);exact aT this (by show fu - 1≤fu;omega)
theorem lX (E:Env) (p:Pt):RP (aX E p):=by
  induction p using Pt.ind with
  | h p ih =>
    rw [jg];exact zR fun r hr=>by
      obtain ⟨q,hq,rfl⟩:=List.mem_map.1 hr;exact ih q hq
theorem vn (E:Env) (l:List Pt):∀r ∈ l.map (aX E),RP r:=fun r hr=>by
  obtain ⟨q,hq,rfl⟩:=List.mem_map.1 hr;exact lX E q
theorem vo (E:Env) (p:Pt) (hb:sM p.t.k=true) {k B:Nat} {K:dZ} (hK:KP B K) {ps:Ps} {fu:Nat} {ou:Bool} (hf:fu < B+1):(aX E p k K ps (fu,ou)).2.1≤fu:=by
  rw [jg];have hk:¬p.t.k=0∧¬p.t.k=1∧¬p.t.k=7:=by
    simp only [sM,ax,aH,ai] at hb;exact ⟨hb.1.1,hb.1.2,hb.2⟩
  unfold hY;rw [if_neg hk.1,if_neg hk.2.1,if_neg hk.2.2];split
  · exact bj _
  · split
    · exact dE _
    · rename_i h0;have h0:¬fu=0:=h0;have:=vm (E:=E) (t:=p.t) (lo:=p.lo.toNat) (vn E p.ps) hK (k:=k) (ps:=ps) (fu:=fu - 1) (by omega);exact aT this (by show fu - 1≤fu;omega)
theorem vp {l:List ig} (h:l.length=0) (k:Nat) (K:dZ) (ps:Ps) (φ:Fl):fY l k K ps φ=K k ps φ:=by
  rw [bB h];rfl
theorem sP {E:Env} {l:List Pt} (h:¬l.length=0) (k:Nat) (K:dZ) (ps:Ps) (φ:Fl):fY (l.map (aX E)) k K ps φ=aX E (nth l 0) k (fun to ps φ=>fY ((l.drop 1).map (aX E)) to K ps φ) ps φ:=by
  cases l with
  | nil => exact absurd rfl h
  | cons q l => rfl
theorem pL {E:Env} {l:List Pt} (h:l.length=1):qz (l.map (aX E))=aX E (nth l 0):=by
  cases l with
  | nil => simp at h
  | cons q l => rfl
theorem xQ {E:Env} {p:Pt} {k:Nat} {K:dZ} {ps:Ps} {fu:Nat}:aX E p k K ps (fu,true)=(none,(fu,true)):=by
  rw [jg];unfold hY;rw [if_pos rfl]
theorem xR {E:Env} {p:Pt} {k:Nat} {K:dZ} {ps:Ps} {fu:Nat} (h:p.t.k=0):aX E p k K ps (fu,false)=fY (p.ps.map (aX E)) k K ps (fu,false):=by
  rw [jg];unfold hY;rw [if_neg (by simp),if_pos h]
theorem sQ {E:Env} {p:Pt} {k:Nat} {K:dZ} {ps:Ps} {fu:Nat} (h:p.t.k=1):aX E p k K ps (fu,false)=lW (p.ps.map (aX E)) k K ps (fu,false):=by
  rw [jg];unfold hY;rw [if_neg (by simp),if_neg (by omega),if_pos h]
theorem xS {E:Env} {p:Pt} {k:Nat} {K:dZ} {ps:Ps} {fu:Nat} (h:p.t.k=7) (hl:p.ps.length=1):aX E p k K ps (fu,false)=dV (aX E (nth p.ps 0)) p.lo.toNat (p.hi - p.lo).toNat p.t.mn p.t.mx p.t.lz (fu+1) 0 k K ps (fu,false):=by
  rw [jg];unfold hY;rw [if_neg (by simp),if_neg (by omega),if_neg (by omega),if_pos h,pL hl]
theorem wq {E:Env} {p:Pt} {k:Nat} {K:dZ} {ps:Ps} {fu:Nat} (h0:¬p.t.k=0) (h1:¬p.t.k=1) (h7:¬p.t.k=7) (hf:fu=0):aX E p k K ps (fu,false)=(none,(fu,true)):=by
  subst hf;rw [jg];unfold hY;rw [if_neg (by simp),if_neg h0,if_neg h1,if_neg h7,if_pos rfl]
theorem fA {E:Env} {p:Pt} {k:Nat} {K:dZ} {ps:Ps} {fu:Nat} (h0:¬p.t.k=0) (h1:¬p.t.k=1) (h7:¬p.t.k=7) (hf:¬fu=0):aX E p k K ps (fu,false)=jY E p.t p.lo.toNat (p.ps.map (aX E)) k K ps (fu - 1,false):=by
  rw [jg];unfold hY;rw [if_neg (by simp),if_neg h0,if_neg h1,if_neg h7,if_neg hf]
theorem uh {E:Env} {p:Pt} {k:Nat} {K:dZ} {ps:Ps} {φ:Fl} (h:p.t.k=5) (hl:p.ps.length=1):jY E p.t p.lo.toNat (p.ps.map (aX E)) k K ps φ=aX E (nth p.ps 0) k (gn E p.lo.toNat k K) ps φ:=by
  unfold jY;rw [if_pos h,pL hl]
theorem wr {E:Env} {p:Pt} {k:Nat} {K:dZ} {ps:Ps} {φ:Fl} (h:p.t.k=6) (hl:p.ps.length=1):jY E p.t p.lo.toNat (p.ps.map (aX E)) k K ps φ=aX E (nth p.ps 0) k K ps φ:=by
  unfold jY;rw [if_neg (by omega),if_pos h,pL hl]
theorem hX {E:Env} {t:Tr} {lo:Nat} {l:List ig} {k:Nat} {K:dZ} {ps:Ps} {φ:Fl} (h:t.k=2∨t.k=3∨t.k=4):jY E t lo l k K ps φ=if (decide ((k:Int) < (E.cs.length:Int))&&gm E.fold t (nth E.cs (k:Int)))=true then K (k+1) ps φ else (none,φ):=by
  unfold jY;rw [if_neg (by omega),if_neg (by omega),if_pos h]
theorem pM {E:Env} {t:Tr} {lo:Nat} {l:List ig} {k:Nat} {K:dZ} {ps:Ps} {φ:Fl} (h5:¬t.k=5) (h6:¬t.k=6) (h:¬(t.k=2∨t.k=3∨t.k=4)):jY E t lo l k K ps φ=if jG E.cs t.k (k:Int)=true then K k ps φ else (none,φ):=by
  unfold jY;rw [if_neg h5,if_neg h6,if_neg h]
theorem BD {l:List ig} {i k:Nat} {K:dZ} {ps:Ps} {φ:Fl} (hi:i < l.length) (h:((l[i]'hi) k K ps φ).1.isSome=false):lW (l.drop i) k K ps φ=lW (l.drop (i+1)) k K ps ((l[i]'hi) k K ps φ).2:=by
  rw [dK hi,lW,if_neg (by rw [h];decide)]
theorem vq {E:Env} {l:List Pt} {i:Nat} (hi:i < (l.map (aX E)).length):(l.map (aX E))[i]'hi=aX E (nth l (i:Int)):=by
  have h1:i < l.length:=by simpa using hi
  rw [kQ,iN];simp [List.getD,bm h1]
theorem xT {E:Env} {l:List Pt} {i k:Nat} {K:dZ} {ps:Ps} {φ:Fl} (hi:i < l.length) (h:(aX E (nth l (i:Int)) k K ps φ).1.isSome=false):lW ((l.map (aX E)).drop i) k K ps φ=lW ((l.map (aX E)).drop (i+1)) k K ps (aX E (nth l (i:Int)) k K ps φ).2:=by
  have hi2:i < (l.map (aX E)).length:=by simpa using hi
  rw [←vq hi2] at h ⊢;exact BD hi2 h
theorem zS {E:Env} {l:List Pt} {i k:Nat} {K:dZ} {ps:Ps} {φ:Fl} (hi:i < l.length) (h:(aX E (nth l (i:Int)) k K ps φ).1.isSome=true):lW ((l.map (aX E)).drop i) k K ps φ=aX E (nth l (i:Int)) k K ps φ:=by
  have hi2:i < (l.map (aX E)).length:=by simpa using hi
  rw [←vq hi2] at h ⊢;rw [dK hi2,lW,if_pos h]
theorem zT {l:List ig} {i k:Nat} {K:dZ} {ps:Ps} {φ:Fl} (hi:l.length≤i):lW (l.drop i) k K ps φ=(none,φ):=by
  rw [ed hi];rfl
theorem xU {ps:Ps} {i:Nat} {x:Int × Int}:(ps.set i x).set i (nth ps (i:Int))=ps:=by
  rw [List.set_set,iN];by_cases h:i < ps.length
  · simp [List.getD,bm h]
  · rw [List.set_eq_of_length_le (by omega)]
theorem qC {ps:Ps} {lo hi:Nat} (h1:lo≤hi) (h2:hi≤ps.length):(dx ps lo (hi - lo)).take lo++(ps.drop lo).take (hi - lo)++(dx ps lo (hi - lo)).drop hi=ps:=by
  have e1:(ps.take lo).length=lo:=by simp;omega
  have e2:(dx ps lo (hi - lo)).take lo=ps.take lo:=by
    unfold dx;rw [gM,hH,e1,lg,List.take_zero,fO,bL (by omega)]
  have e3:(dx ps lo (hi - lo)).drop hi=ps.drop hi:=by
    unfold dx;have e4:(ps.take lo++List.replicate (hi - lo) ((-1:Int),(-1:Int))).length=hi:=by simp;omega
    rw [kN,e4,lg,iI,ed (by omega),fc,show lo+(hi - lo)=hi by omega]
  rw [e2,e3,gM];have e5:(ps.drop lo).take (hi - lo)++ps.drop hi=ps.drop lo:=by
    have:ps.drop hi=(ps.drop lo).drop (hi - lo):=by rw [List.drop_drop];congr 1;omega
    rw [this,eQ]
  rw [e5,eQ]
theorem ui {r:ig} {lo n:Nat} {mn mx:Int} {lz:Bool} {g times k:Nat} {K:dZ} {ps:Ps} {φ:Fl} (h:(decide (mn≤(times:Int))&&lz)=true) (hs:(K k ps φ).1.isSome=true):dV r lo n mn mx lz (g+1) times k K ps φ=K k ps φ:=by
  have e:fK mn lz times k K ps φ=K k ps φ:=by unfold fK;rw [if_pos h]
  rw [kV,e,if_pos hs]
def gr (r:ig) (lo n:Nat) (mn mx:Int) (lz:Bool) (g times k:Nat) (K:dZ) (ps:Ps) (φ:Fl):Rs:=
  if (decide (mx < 0) || decide ((times:Int) < mx))=true then
    if (iE r lo n mn mx lz g times k K ps φ).1.isSome=true then iE r lo n mn mx lz g times k K ps φ
    else gP mn lz times k K ps (iE r lo n mn mx lz g times k K ps φ).2
  else gP mn lz times k K ps φ
theorem jj {r:ig} {lo n:Nat} {mn mx:Int} {lz:Bool} {g times k:Nat} {K:dZ} {ps:Ps} {φ:Fl} (h:(decide (mn≤(times:Int))&&lz)=true) (hs:(K k ps φ).1.isSome=false):dV r lo n mn mx lz (g+1) times k K ps φ=gr r lo n mn mx lz g times k K ps (K k ps φ).2:=by
  have e:fK mn lz times k K ps φ=K k ps φ:=by unfold fK;rw [if_pos h]
  rw [kV,e,if_neg (by rw [hs];decide)];rfl
theorem jk {r:ig} {lo n:Nat} {mn mx:Int} {lz:Bool} {g times k:Nat} {K:dZ} {ps:Ps} {φ:Fl} (h:(decide (mn≤(times:Int))&&lz)=false):dV r lo n mn mx lz (g+1) times k K ps φ=gr r lo n mn mx lz g times k K ps φ:=by
  have e:fK mn lz times k K ps φ=(none,φ):=by unfold fK;rw [if_neg (by rw [h];decide)]
  rw [kV,e,if_neg (by simp)];rfl
theorem sR {r:ig} {lo n:Nat} {mn mx:Int} {lz:Bool} {g times k:Nat} {K:dZ} {ps:Ps} {φ:Fl} (h:(decide (mx < 0) || decide ((times:Int) < mx))=true) (hs:(iE r lo n mn mx lz g times k K ps φ).1.isSome=true):gr r lo n mn mx lz g times k K ps φ=iE r lo n mn mx lz g times k K ps φ:=by
  unfold gr;rw [if_pos h,if_pos hs]
theorem mi {r:ig} {lo n:Nat} {mn mx:Int} {lz:Bool} {g times k:Nat} {K:dZ} {ps:Ps} {φ:Fl} (h:(decide (mx < 0) || decide ((times:Int) < mx))=true) (hs:(iE r lo n mn mx lz g times k K ps φ).1.isSome=false):gr r lo n mn mx lz g times k K ps φ=gP mn lz times k K ps (iE r lo n mn mx lz g times k K ps φ).2:=by
  unfold gr;rw [if_pos h,if_neg (by rw [hs];decide)]
theorem oN {r:ig} {lo n:Nat} {mn mx:Int} {lz:Bool} {g times k:Nat} {K:dZ} {ps:Ps} {φ:Fl} (h:(decide (mx < 0) || decide ((times:Int) < mx))=false):gr r lo n mn mx lz g times k K ps φ=gP mn lz times k K ps φ:=by
  unfold gr;rw [if_neg (by rw [h];decide)]
theorem lw {mn:Int} {lz:Bool} {times k:Nat} {K:dZ} {ps:Ps} {fu:Nat} {ou:Bool} (h:((decide (mn≤(times:Int))&& !lz)&& !ou)=true):gP mn lz times k K ps (fu,ou)=K k ps (fu,false)∧ou=false:=by
  have ho:ou=false:=by simp at h;exact h.2
  subst ho;unfold gP;rw [if_pos h];exact ⟨rfl,rfl⟩
theorem oO {mn:Int} {lz:Bool} {times k:Nat} {K:dZ} {ps:Ps} {fu:Nat} {ou:Bool} (h:((decide (mn≤(times:Int))&& !lz)&& !ou)=false):gP mn lz times k K ps (fu,ou)=(none,(fu,ou)):=by
  unfold gP;rw [if_neg (by rw [show (fu,ou).2=ou from rfl,h];decide)]
end
section
open Go.RowKit Srt
inductive PtT (F:aQ) (w:World):Pt→Prop
  | mk {p : Pt} : TrT F w p.t → SlT tM w p.pv.v p.ps → (p.ps ≠ [] → F (cX p.pv.v).block) → (∀ q ∈ p.ps, PtT F w q) → PtT F w p
section
variable {F F':aQ} {w w':World} {p q:Pt}
theorem PtT.tree (h:PtT F w p):TrT F w p.t:=by cases h;assumption
theorem PtT.sl (h:PtT F w p):SlT tM w p.pv.v p.ps:=by cases h;assumption
theorem PtT.slF (h:PtT F w p):p.ps≠ []→F (cX p.pv.v).block:=by cases h;assumption
theorem PtT.kid (h:PtT F w p) (hq:q ∈ p.ps):PtT F w q:=by cases h;rename_i h1;exact h1 q hq
theorem PtT.keep (h:PtT F w p) {M:Nat→Prop} (he:Ext M w w') (hm:∀g,F g→¬M g):PtT F w' p:=by
  induction h with
  | mk h1 h2 h3 h4 ih => exact .mk (h1.keep he hm) (h2.keep he fun hn => hm _ (h3 hn)) h3 ih
theorem PtT.mono (h:PtT F w p) (hf:∀g,F g→g < w.heap.size→F' g):PtT F' w p:=by
  induction h with
  | mk h1 h2 h3 h4 ih => exact .mk (h1.mono hf) h2 (fun hn => hf _ (h3 hn) (h2.lt hn)) ih
end
def kb (p:Pt):ZP:=⟨fun Z w=>PtT Z w p,fun hz he h=>(PtT.keep h he fun g hg hn=>hn hg).mono fun g hg _=>hz g hg⟩
def qD (v:Sv) (l:List Pt):ZP:=⟨fun Z w=>(SlT tM w v.v l∧(l≠ []→Z (cX v.v).block))∧∀p ∈ l,PtT Z w p,fun hz he h=>⟨⟨h.1.1.keep he fun hn hm=>hm (h.1.2 hn),fun hn=>hz _ (h.1.2 hn)⟩,fun p hp=>(kb p).st hz he (h.2 p hp)⟩⟩
def di (p:Addr) (vs:List Value):ZP:=⟨fun Z w=>Z p.block∧∀j u,vs[j]? =some u→w.cell? (p.add j)=some u,fun hz he h=>⟨hz _ h.1,fun j u hu=>he.cell_some (h.2 j u hu) fun hn=>hn (by rw [jR];exact h.1)⟩⟩
section
variable {Z:aQ} {w:World} {p:Pt} {v:Sv} {l:List Pt}
theorem kb.kids (h:(kb p).P Z w):(qD p.pv p.ps).P Z w:=⟨⟨PtT.sl h,PtT.slF h⟩,fun q hq=>PtT.kid h hq⟩
theorem qD.at (h:(qD v l).P Z w) {i:Int} (h0:0≤i) (h1:i < l.length):(kb (nth l i)).P Z w:=h.2 _ (bo h0 h1)
theorem qD.tail {n:Nat} (h:(qD v l).P Z w) (hn:n≤l.length) {u:Sv} (hu:u.v=fb v.v n l.length 11):(qD u (l.drop n)).P Z w:=by
  have hs:=SlT.sub h.1.1 (lo:=n) (hi:=l.length) hn (bj _);rw [bL (by simp)] at hs;refine ⟨⟨?_,fun hne=> ?_⟩,fun q hq=>h.2 q (gS hq)⟩
  · rw [hu];exact hs
  · have hl:l≠ []:=by rintro rfl;simp at hne
    have hb:(cX (fb v.v n l.length 11)).block=(cX v.v).block:=by
      rcases h.1.1.sl with ⟨e,hl0⟩ | ⟨b,cap,e,h1,h2⟩
      · exact absurd (bB hl0) hl
      · rw [e];simp only [fb];split <;> simp [cX,jR]
    rw [hu,hb];exact h.1.2 hl
end
inductive OkP (m:Nat):Pt→Prop
  | mk {p : Pt} : (0 ≤ p.lo ∧ p.lo ≤ p.hi ∧ p.hi ≤ (m : Int)) → (p.t.k = 5 → p.lo < p.hi) → (p.t.k = 5 ∨ p.t.k = 6 ∨ p.t.k = 7 → p.ps.length = 1) → (p.t.k = 7 → sM (nth p.ps 0).t.k = true) → eJ p.t ≤ 1000000 → p.ps.length ≤ 1000000 → (∀ q ∈ p.ps, OkP m q) → OkP m p
theorem OkP.kid {m:Nat} {p q:Pt} (h:OkP m p) (hq:q ∈ p.ps):OkP m q:=by cases h;rename_i h1;exact h1 q hq
theorem OkP.facts {m:Nat} {p:Pt} (h:OkP m p):(0≤p.lo∧p.lo≤p.hi∧p.hi≤(m:Int))∧(p.t.k=5→p.lo < p.hi)∧(p.t.k=5∨p.t.k=6∨p.t.k=7→p.ps.length=1)∧(p.t.k=7→sM (nth p.ps 0).t.k=true)∧eJ p.t≤1000000∧p.ps.length≤1000000:=by
  cases h;rename_i h1 h2 h3 h4 h5 h6 h7;exact ⟨h1,h2,h3,h4,h5,h6⟩
structure Cfg where
  rt:Nat
  st:Nat
  it:Nat
  g:Nat
  top:Pt
  E:Env
  cv:Sv
  lv:Sv
  pv:Sv
  m:Nat
def Cfg.ad (C:Cfg):Addr:=⟨C.g,0,none⟩
def Cfg.rv (C:Cfg):Value:= .pointer (some C.ad)
def Cfg.cells (C:Cfg) (fu:Nat) (ou:Bool):List Value:=tM.cells C.top++ [.bool C.E.fold,C.cv.v,C.lv.v,C.pv.v,.int .i64 (fu:Int),.bool ou]
structure Cfg.Ok (C:Cfg):Prop where
  pg:∀b,C.pv.v.ownBlock=some b→b≠C.g
  pl:C.E.pl.length=C.E.cs.length+1
  cl:C.E.cs.length≤1000000
  ml:C.m≤1000000
  cz:∀x ∈ C.E.cs,x.size≤1000000
structure RunB (C:Cfg) (ps:Ps) (fu:Nat) (ou:Bool) (Z T:aQ) (w:World):Prop where
  ok:C.Ok
  len:ps.length=C.m
  lt:C.g < w.heap.size
  own:T C.g
  at':w.heap[C.g]? =some (.cells (C.cells fu ou).toArray C.rt (0,0))
  parts:dq dp C.st ps T C.pv.v w
  chars:(eY fy Al C.cv.v C.E.cs).P Z w
  places:(eY iV Al C.lv.v C.E.pl).P Z w
section
variable {C:Cfg} {ps ps':Ps} {fu fu':Nat} {ou ou':Bool} {tv tv':Int} {tb:Option Nat} {Z Z' T T' N:aQ} {w w':World}
theorem RunB.mono (h:RunB C ps fu ou Z T w) (hZ:∀g,Z g→Z' g) (hT:∀g,T g→T' g):RunB C ps fu ou Z' T' w:=
  ⟨h.ok,h.len,h.lt,hT _ h.own,h.at',⟨h.parts.1,fun g hg=>hT _ (h.parts.2 g hg)⟩,⟨h.chars.1,fun hn=>⟨hZ _ (h.chars.2 hn).1,av⟩⟩,⟨h.places.1,fun hn=>⟨hZ _ (h.places.2 hn).1,av⟩⟩⟩
theorem RunB.loc (hz:∀g,Z g→Z' g) (he:Ext (fun g=>N g∧¬T g∧¬Z g) w w') (h:RunB C ps fu ou Z T w):RunB C ps fu ou Z' T w':=
  ⟨h.ok,h.len,cn h.lt he.size,h.own,by rw [he.block _ h.lt fun hn=>hn.2.1 h.own];exact h.at',iK (N:=N) T _ w w' he.less h.parts,
    (eY fy Al C.cv.v C.E.cs).st hz (he.mono fun _ _ h=>h.2.2) h.chars,(eY iV Al C.lv.v C.E.pl).st hz (he.mono fun _ _ h=>h.2.2) h.places⟩
theorem RunB.cell (h:RunB C ps fu ou Z T w) {j:Nat} {u:Value} (hu:(C.cells fu ou)[j]? =some u):w.cell? (C.ad.add j)=some u:=by
  have hb:cj C.rt (C.cells fu ou) T C.rv w:=⟨C.g,rfl,h.lt,h.own,h.at'⟩;exact hb.cell hu
theorem RunB.sl (h:RunB C ps fu ou Z T w):SlT dp w C.pv.v ps:=h.parts.1.sl
structure RunR (C:Cfg) (tb:Option Nat) (ps:Ps) (fu:Nat) (ou:Bool) (tv:Int) (Z T:aQ) (w:World):Prop where
  b:RunB C ps fu ou Z T w
  to:∀q,tb=some q→cj C.it [.int .i64 tv] T (.pointer (some ⟨q,0,none⟩)) w
  tg:∀q,tb=some q→q≠C.g∧∀b,C.pv.v.ownBlock=some b→b≠q
theorem RunR.mono (h:RunR C tb ps fu ou tv Z T w) (hZ:∀g,Z g→Z' g) (hT:∀g,T g→T' g):RunR C tb ps fu ou tv Z' T' w:=
  ⟨h.b.mono hZ hT,fun q hq=>by obtain ⟨g,e,h1,h2,h3⟩:=h.to q hq;exact ⟨g,e,h1,hT _ h2,h3⟩,h.tg⟩
theorem RunR.loc (hz:∀g,Z g→Z' g) (he:Ext (fun g=>N g∧¬T g∧¬Z g) w w') (h:RunR C tb ps fu ou tv Z T w):RunR C tb ps fu ou tv Z' T w':=
  ⟨h.b.loc hz he,fun q hq=>jS (N:=N) T _ w w' he.less (h.to q hq),h.tg⟩
theorem RunR.cell (h:RunR C tb ps fu ou tv Z T w) {j:Nat} {u:Value} (hu:(C.cells fu ou)[j]? =some u):w.cell? (C.ad.add j)=some u:=h.b.cell hu
theorem RunR.sl (h:RunR C tb ps fu ou tv Z T w):SlT dp w C.pv.v ps:=h.b.sl
def Td (C:Cfg) (tb:Option Nat):aQ:=fun b=>b=C.g∨C.pv.v.ownBlock=some b∨tb=some b
theorem RunB.r (h:RunB C ps fu ou Z T w):RunR C none ps fu ou tv Z T w:=⟨h,fun _ hq=>(by cases hq),fun _ hq=>(by cases hq)⟩
def Fr (C:Cfg) (tb:Option Nat) (w:World):aQ:=fun b=>b < w.heap.size∧¬Td C tb b
def fL (C:Cfg) (tb:Option Nat) (ps:Ps) (fu:Nat) (ou:Bool) (tv:Int) (w:World):Prop:=RunR C tb ps fu ou tv (Fr C tb w) (Td C tb) w
theorem RunR.td (h:RunR C tb ps fu ou tv Z T w):∀b,Td C tb b→T b:=by
  rintro b (rfl | hb | hb)
  · exact h.b.own
  · exact h.b.parts.2 _ hb
  · obtain ⟨g,e,_,hT,_⟩:=h.to b hb;simp at e;rw [e];exact hT
theorem RunR.tdlt (h:RunR C tb ps fu ou tv Z T w):∀b,Td C tb b→b < w.heap.size:=by
  rintro b (rfl | hb | hb)
  · exact h.b.lt
  · exact h.b.parts.1.lt _ hb
  · obtain ⟨g,e,hl,_,_⟩:=h.to b hb;simp at e;omega
theorem RunR.d (h:RunR C tb ps fu ou tv Z T w) (hd:∀g,T g→¬Z g) (hl:∀g,Z g→g < w.heap.size):fL C tb ps fu ou tv w:=by
  have hZ:∀g,Z g→Fr C tb w g:=fun g hg=>⟨hl g hg,fun ht=>hd _ (h.td _ ht) hg⟩;obtain ⟨⟨h1,h2,h3,h4,h5,h6,h7,h8⟩,h9,h10⟩:=h;refine ⟨⟨h1,h2,h3,.inl rfl,h5,⟨h6.1,fun g hg=> .inr (.inl hg)⟩,⟨h7.1,fun hn=>⟨hZ _ (h7.2 hn).1,av⟩⟩,⟨h8.1,fun hn=>⟨hZ _ (h8.2 hn).1,av⟩⟩⟩,fun q hq=> ?_,h10⟩;obtain ⟨g,e,k1,k2,k3⟩:=h9 q hq;exact ⟨g,e,k1,by simp at e;exact .inr (.inr (e ▸ hq)),k3⟩
theorem RunR.fr (h:RunR C tb ps fu ou tv Z T w) (hd:∀g,T g→¬Z g) (hl:∀g,Z g→g < w.heap.size) {Φ:ZP} (hz:Φ.P Z w):Φ.P (Fr C tb w) w:=
  Φ.st (fun g hg=>⟨hl g hg,fun ht=>hd _ (h.td _ ht) hg⟩) (Ext.refl _ w) hz
theorem fL.back (h':fL C tb ps' fu' ou' tv' w') (h:RunR C tb ps fu ou tv Z T w) (hx:Ext (Td C tb) w w') (hd:∀g,T g→¬Z g) (hZ:∀g,Z g→Z' g):RunR C tb ps' fu' ou' tv' Z' T w':=by
  have hm:Ext (fun g=>¬Z g) w w':=hx.mono fun g _ hg hz=>hd _ (h.td _ hg) hz;obtain ⟨⟨h1,h2,h3,h4,h5,h6,h7,h8⟩,h9,h10⟩:=h';refine ⟨⟨h1,h2,h3,h.b.own,h5,⟨h6.1,h.b.parts.2⟩,(eY fy Al C.cv.v C.E.cs).st hZ hm h.b.chars,(eY iV Al C.lv.v C.E.pl).st hZ hm h.b.places⟩,fun q hq=> ?_,h10⟩;obtain ⟨g,e,k1,k2,k3⟩:=h9 q hq;obtain ⟨g',e',j1,j2,j3⟩:=h.to q hq;refine ⟨g,e,k1,?_,k3⟩;simp at e e';rw [←e,e'];exact j2
end
section
variable {N:aQ}
def ii (N:aQ) (tag t:Nat) (C:Cfg) (tb:Option Nat) (ps:Ps) (fu:Nat) (ou:Bool) (tv:Int) (v:Value):Spec N:=⟨some tag,t,fun Z T u w=>u=v∧RunR C tb ps fu ou tv Z T w,fun Z Z' T u w w' hz he h=>⟨h.1,RunR.loc hz he h.2⟩,fun u=>u=v,fun _ _ _ _ h=>h.1⟩
def kc (N:aQ) (tag t:Nat) (C:Cfg) (tb:Option Nat) (ps:Ps) (fu:Nat) (ou:Bool) (tv:Int):Spec N:=⟨some tag,t,fun Z T u w=>RunR C tb ps fu ou tv Z T w,fun Z Z' T u w w' hz he h=>RunR.loc hz he h,fun _=>True,fun _ _ _ _ _=>trivial⟩
def zU (N:aQ) (C:Cfg) (tb:Option Nat) (ps:Ps) (fu:Nat) (ou:Bool) (tv:Int):Ini N:=⟨fun Z T w=>RunR C tb ps fu ou tv Z T w,fun Z Z' T w w' hz he h=>RunR.loc hz he h⟩
abbrev ir {N:aQ} {C:Cfg} {tb:Option Nat} {ps:Ps} {fu:Nat} {ou:Bool} {tv:Int} {Z T:aQ} {w:World} (_:RunR C tb ps fu ou tv Z T w):Ini N:=zU N C tb ps fu ou tv
end
theorem uj {τ:Nat→aQ} {w:World}:∀g,ex τ w g→g < w.heap.size:=fun _ h=>h.1
theorem iR {τ:Nat→aQ} {w:World} {t:Nat}:∀g,τ t g→¬ex τ w g:=fun g h hz=>hz.2 _ h
theorem hC {τ:Nat→aQ} {w w':World} (h:w.heap.size≤w'.heap.size):∀g,ex τ w g→ex τ w' g:=fun _ hz=>⟨cn hz.1 h,hz.2⟩
section
variable {N:aQ} {P:Program} {ops:Array Oper} {sp:List (Spec N)} {In:Nat→Ini N} {a0:Act} {w0:World} {bf:List Nat} {j:Nat} {o:Oper} {s:Spec N} {done:Nat→Bool} {a:Act} {w:World} {τ:Nat→aQ} {C:Cfg} {tb:Option Nat} {ps ps':Ps} {fu fu':Nat} {ou ou':Bool} {tv tv':Int}
theorem Cx.ir (c:Cx ops sp In a0 w0 bf j o done a w τ) (t:Nat) (hI:In t=zU N C tb ps fu ou tv) (hl:bu (sp.map (·.tag)) t j=none:=by exact rfl) (hord:iw (sp.map (·.tag)) bf t j=true:=by kernel_rfl):RunR C tb ps fu ou tv (ex τ w) (τ t) w:=c.ini t _ hI hl hord
theorem Cx.rr {t slot:Nat} {v:Value} (c:Cx ops sp In a0 w0 bf j o done a w τ) (i:Nat) (hs:sp[i]? =some (ii N t slot C tb ps fu ou tv v)) (hl:bu (sp.map (·.tag)) t j=some i:=by exact rfl) (hord:iw (sp.map (·.tag)) bf t j=true:=by kernel_rfl):RunR C tb ps fu ou tv (ex τ w) (τ t) w:=(c.res i t _ hs hl hord).2
theorem Cx.rv {t slot:Nat} {v:Value} (c:Cx ops sp In a0 w0 bf j o done a w τ) (i:Nat) (hs:sp[i]? =some (ii N t slot C tb ps fu ou tv v)) (hb:(bf.getD j 0).testBit i=true:=by exact rfl):a.eval (.tmp slot)=v:=c.J.pur i _ hs (c.pre i hb)
theorem gI {tag t:Nat} {v:Value} (h:∀{done a w τ},Cx ops sp In a0 w0 bf j o done a w τ→∃g args,eD P a o w g args∧Calls P g args w (fun e w'=>e= .returned v∧Ext (τ tag) w w'∧RunR C tb ps fu ou tv (ex τ w') (τ tag) w'))
    (hs:s=ii N tag t C tb ps fu ou tv v:=by exact rfl) (hg:o.guard=none:=by exact rfl) (hd:o.dst=some t:=by exact rfl):Ob ops sp In a0 w0 P bf j o s:=by
  subst hs;refine iL (tag:=tag) hg rfl fun done a w τ c=> ?_;obtain ⟨g,args,h1,h2⟩:=h c;refine ⟨g,args,h1,h2.mono fun e w' ⟨he,hx,hb⟩=>⟨v,he,hx,τ tag,fun g h=> .inl h,?_,hb.mono (jf fun _ h=>h) fun _ h=>h⟩⟩;show aS (a.put o.dst v) t=v;rw [hd,cT a t t _ (c.lt t hd),if_pos rfl]
theorem uk {tag t:Nat} (h:∀{done a w τ},Cx ops sp In a0 w0 bf j o done a w τ→∃g args v,eD P a o w g args∧Calls P g args w (fun e w'=>e= .returned v∧Ext (τ tag) w w'∧RunR C tb ps fu ou tv (ex τ w') (τ tag) w'))
    (hs:s=kc N tag t C tb ps fu ou tv:=by exact rfl) (hg:o.guard=none:=by exact rfl):Ob ops sp In a0 w0 P bf j o s:=by
  subst hs;refine iL (tag:=tag) hg rfl fun done a w τ c=> ?_;obtain ⟨g,args,v,h1,h2⟩:=h c;exact ⟨g,args,h1,h2.mono fun e w' ⟨he,hx,hb⟩=>⟨v,he,hx,τ tag,fun g h=> .inl h,hb.mono (jf fun _ h=>h) fun _ h=>h⟩⟩
theorem kz {tag t tt off:Nat} {x y:Operand} {v:Value} (hs:s=kc N tag t C tb ps fu' ou' tv) (hg:o.guard=none) (hd:o.dst=none) (ho:o.op= .store tt x y) (hsz:∀w,(sizeOf tt).run P w= .ok 1 w)
    (hv:v.cells=#[v]) (h1:v.oneCell'=true) (hfit:off+1≤17) (hc:C.cells fu' ou'=(C.cells fu ou).take off++ [v]++(C.cells fu ou).drop (off+1))
    (hp:∀{done a w τ},Cx ops sp In a0 w0 bf j o done a w τ→RunR C tb ps fu ou tv (ex τ w) (τ tag) w∧a.eval x= .pointer (some (C.ad.add off))∧a.eval y=v):Ob ops sp In a0 w0 P bf j o s:=by
  subst hs;refine dI hg rfl fun done a w τ c=> ?_;obtain ⟨hR,hx,hy⟩:=hp c;have hr:=run_store (P:=P) (t:=tt) (v:=v) (off:=off) hR.b.at' (by rw [hv];exact hsz) (by rw [hv];simpa [Cfg.cells,tM] using hfit) (by rw [hv];simpa using h1);rw [hv] at hr;have hr':(execOp a.eval o).run P w= .ok .skip (w.setRow C.g (C.cells fu' ou').toArray):=by
    simp only [execOp,ho,hx,hy,Sem.run_bind];have e:C.ad.add off=⟨C.g,off,none⟩:=kq C.g off;rw [e,hr,hc];rfl
  have hext:=gy w C.g (C.cells fu' ou').toArray;refine gA hr' ⟨_,rfl,hext.mono fun k _ hk=>by subst hk;exact hR.b.own,τ tag,fun g h=> .inl h,?_⟩;have hm:Ext (fun g=>¬ex τ w g) w (w.setRow C.g (C.cells fu' ou').toArray):=hext.mono fun k _ hk=>by subst hk;exact iR _ hR.b.own
  have hsz2:w.heap.size≤(w.setRow C.g (C.cells fu' ou').toArray).heap.size:=hext.size;have hzz:∀g,ex τ w g→ex (lJ τ tag (τ tag)) (w.setRow C.g (C.cells fu' ou').toArray) g:=fun g hz=>jf (fun _ h=>h) g (hC hsz2 g hz);obtain ⟨⟨k1,k2,k3,k4,k5,k6,k7,k8⟩,k9,k10⟩:=hR;refine ⟨⟨k1,k2,by simpa [World.setRow] using k3,k4,?_,⟨gQ.keep k6.1 hext fun g hg he=>k1.pg g hg he,k6.2⟩,(eY fy Al C.cv.v C.E.cs).st hzz hm k7,(eY iV Al C.lv.v C.E.pl).st hzz hm k8⟩,fun q hq=> ?_,k10⟩
  · exact setRow_heap w C.g _ _ C.rt _ k5
  · obtain ⟨g,e,l1,l2,l3⟩:=k9 q hq;refine ⟨g,e,cn l1 hsz2,l2,?_⟩;rw [hext.block g l1 (by simp at e;intro he;exact (k10 q hq).1 (by rw [e,he]))];exact l3
end
section
variable {N:aQ} {l:List Oper} {sp:List (Spec N)} {il:List (Ini N)} {a0 a:Act} {w:World} {τ:Nat→aQ} {C:Cfg} {tb:Option Nat} {ps:Ps} {fu:Nat} {ou:Bool} {tv:Int}
theorem Fin.ir (h:Fin l sp il a0 a w τ) (t:Nat) (hI:ek il t=zU N C tb ps fu ou tv) (hl:bu (sp.map (·.tag)) t sp.length=none:=by exact rfl):RunR C tb ps fu ou tv (ex τ w) (τ t) w:=by
  have:=h.ini t hl;rw [hI] at this;exact this
theorem Fin.rv {t slot:Nat} {v:Value} (h:Fin l sp il a0 a w τ) (j:Nat) (hs:sp[j]? =some (ii N t slot C tb ps fu ou tv v)) (hl:bu (sp.map (·.tag)) t sp.length=some j:=by exact rfl):aS a slot=v:=(h.res j t _ hs rfl hl).1
theorem Fin.rr {t slot:Nat} {v:Value} (h:Fin l sp il a0 a w τ) (j:Nat) (hs:sp[j]? =some (ii N t slot C tb ps fu ou tv v)) (hl:bu (sp.map (·.tag)) t sp.length=some j:=by exact rfl):RunR C tb ps fu ou tv (ex τ w) (τ t) w:=(h.res j t _ hs rfl hl).2
theorem Fin.r0 {t slot:Nat} (h:Fin l sp il a0 a w τ) (j:Nat) (hs:sp[j]? =some (kc N t slot C tb ps fu ou tv)) (hl:bu (sp.map (·.tag)) t sp.length=some j:=by exact rfl):RunR C tb ps fu ou tv (ex τ w) (τ t) w:=h.res j t _ hs rfl hl
end
end
section
open Go.RowKit
abbrev jr {N:aQ} {τ:Nat→aQ} {w:World} {C:Cfg} {tb:Option Nat} {ps:Ps} {fu t:Nat} {ou:Bool} {tv:Int} (h:RunR C tb ps fu ou tv (ex τ w) (τ t) w):IE N τ w:=⟨zU N C tb ps fu ou tv,t,h⟩
end
section
open Go.RowKit Srt
section
variable {P:Program} {a:Act} {o:Oper} {w:World}
theorem BE {x x1:Operand} {ts:Array TypeId} {v1:Value} {f:FuncId} {caps:Array Value} (ho:o.op= .call { callee:= .value x,args:=#[x1],argTypes:=ts }) (hx:a.eval x= .func (.func f) #[] caps) (hcall:∀args w,(callFunc f args).run P w= .ok (.enter f args) w) (h1:a.eval x1=v1):eD P a o w f (#[v1]++caps):=
  ll ho hx hcall (by simp [h1])
theorem ow {f:FuncId} {x1 x2 x3 x4 x5:Operand} {v1 v2 v3 v4 v5:Value} (ho:o.op= .makeFunc (.func f) #[] #[x1,x2,x3,x4,x5]) (h1:a.eval x1=v1) (h2:a.eval x2=v2) (h3:a.eval x3=v3) (h4:a.eval x4=v4) (h5:a.eval x5=v5):bU P a o w (.func (.func f) #[] #[v1,v2,v3,v4,v5]):=by
  subst h1 h2 h3 h4 h5;simp [bU,execOp,ho,Instr.makeFunc]
theorem ul {t e:TypeId} {x y:Operand} {v:Value} {n m lo hi i:Nat} {k:IntKind} (ho:o.op= .indexAddr t x y) (ht:P.underlying t=some (.slice e)) (hz:∀w,(sizeOf e).run P w= .ok m w) (hx:a.eval x=fb v lo hi m) (hv:lj v n) (hy:a.eval y= .int k (i:Int)) (h1:lo+i < hi) (h2:hi≤n):
    bU P a o w (.pointer (some ((cX v).add ((lo+i) * m)))):=by
  rcases hv with ⟨_,rfl⟩ | ⟨b,cap,rfl,hc,_⟩
  · omega
  · have hne:¬cap=lo:=by omega
    have h3:(i:Int) < ((hi - lo:Nat):Int):=by omega
    have h0:(0:Int)≤(i:Int):=by omega
    have e2:fb (.slice (some b) n cap) lo hi m= .slice (some (b.add (lo * m))) (hi - lo) (cap - lo):=by simp [fb,hne]
    rw [e2] at hx;have hq:=aW (w:=w) (n:=hi - lo) ho ht hz hx (.inr ⟨_,_,rfl,by omega,by omega⟩) hy h0 h3;have e3:cX (.slice (some (b.add (lo * m))) (hi - lo) (cap - lo))=b.add (lo * m):=rfl;rw [e3,add_add,gN,←eL] at hq;exact hq
theorem qE {v:Value} {n lo hi m:Nat} (hv:lj v n) (h1:lo≤hi) (h2:hi≤n):lj (fb v lo hi m) (hi - lo):=by
  rcases hv with ⟨rfl,rfl⟩ | ⟨b,cap,rfl,hc,hm⟩
  · left;simp [fb];omega
  · right;exact ⟨if cap=lo then b else b.add (lo * m),cap - lo,by simp only [fb];split <;> rfl,by omega,by omega⟩
theorem qF {dT sT ty elem:TypeId} {g o' dLen dCap:Nat} {sa:Option Addr} {sLen sCap m:Nat} {cur:Array Value} {t:TypeId} {cs:List Value}
    (hu:P.underlying dT=some (.slice elem)) (hs:(P.info? elem).map (·.size)=some m)
    (hg:w.heap[g]? =some (.cells cur t (0,0))) (hn:cs.length=Nat.min sLen dLen * m)
    (hsrc:∀ad,sa=some ad→∀j v,cs[j]? =some v→w.cell? (ad.add j)=some v) (hsn:sa=none→cs=[]) (hfit:o'+cs.length≤cur.size) (h1:∀v ∈ cs,v.oneCell'=true):
    (Builtin.copy_ #[dT,sT] ty #[.slice (some ⟨g,o',none⟩) dLen dCap,.slice sa sLen sCap]).run P w=
      .ok (goInt (Nat.min sLen dLen)) (w.setRow g (cur.toList.take o'++cs++cur.toList.drop (o'+cs.length)).toArray):=by
  have hst:=run_storeCells_at P g o' t cs 0 cur w hg (by simpa using hfit) h1;cases hq:P.info? elem with
  | none => simp [hq] at hs
  | some i =>
    have hi:i.size=m:=by simpa [hq] using hs
    cases sa with
    | none =>
      have hc:=hsn rfl;subst hc;simp only [jw] at hst;simp [Builtin.copy_,run_underlying hu,Builtin.lenOf,Builtin.firstCells,sizeOf,typeInfo,hq,hi,hst]
    | some ad =>
      have hl:=run_loadCells_list (P:=P) w ad cs (hsrc ad rfl);rw [hn] at hl;simp only [jw] at hst;simp [Builtin.copy_,run_underlying hu,Builtin.lenOf,Builtin.firstCells,sizeOf,typeInfo,hq,hi,hl,hst]
end
section
variable {α:Type} {E:Enc α} {ty:Nat} {P:Program} {w:World}
theorem ox {dT sT rt elem:TypeId} {v u:Value} {xs ys:List α} {lo hi:Nat} (h:gQ E ty w v xs) (hu:SlT E w u ys) (hdT:P.underlying dT=some (.slice elem)) (hsz:(P.info? elem).map (·.size)=some E.sz)
    (h1:lo≤hi) (h2:hi≤xs.length) (hl:ys.length=hi - lo):
    ∃w',(Builtin.copy_ #[dT,sT] rt #[fb v lo hi E.sz,u]).run P w= .ok (goInt ys.length) w'∧gQ E ty w' v (xs.take lo++ys++xs.drop hi)∧Ext (fun k=>v.ownBlock=some k) w w':=by
  have hpos:=E.pos;have hxl:(xs.take lo++ys++xs.drop hi).length=xs.length:=by simp;omega
  rcases h.2 with ⟨rfl,h0⟩ | ⟨g,cap,cur,rfl,hb,hg,g2,g3,g4,g5⟩
  · obtain rfl:hi=0:=by omega
    obtain rfl:lo=0:=by omega
    have hy:ys=[]:=bB (by omega);have hx:xs=[]:=bB (by omega);subst hy;subst hx;refine ⟨w,?_,by simpa using h,Ext.refl _ _⟩;cases hq:P.info? elem with
    | none => simp [hq] at hsz
    | some i =>
      rcases hu.sl with ⟨rfl,_⟩ | ⟨b,cap,rfl,_⟩
      · simp [fb,Builtin.copy_,run_underlying hdT,Builtin.lenOf,Builtin.firstCells,sizeOf,typeInfo,hq]
      · have hl0:(loadCells b 0).run P w= .ok #[] w:=by simpa using run_loadCells_list (P:=P) w b [] (by simp)
        simp [fb,Builtin.copy_,run_underlying hdT,Builtin.lenOf,Builtin.firstCells,sizeOf,typeInfo,hq,hl0]
  · have hcs:(E.row ys).length=ys.length * E.sz:=E.row_length _;have hm1:hi * E.sz≤xs.length * E.sz:=fS _ h2;have hm2:xs.length * E.sz≤cap * E.sz:=fS _ g2;have hm3:lo * E.sz+ys.length * E.sz=hi * E.sz:=by rw [←eL];congr 1;omega
    obtain ⟨sa,sCap,hue,hsa,hsn⟩:∃sa sCap,u= .slice sa ys.length sCap∧(∀ad,sa=some ad→∀j x,(E.row ys)[j]? =some x→w.cell? (ad.add j)=some x)∧(sa=none→E.row ys=[]):=by
      rcases hu.sl with ⟨e,h0⟩ | ⟨b,cap2,e,_⟩
      · refine ⟨none,0,by rw [e,h0],fun _ h=>(by cases h),fun _=> ?_⟩;rw [bB h0];rfl
      · refine ⟨some b,cap2,e,fun ad h j x hj=> ?_,fun h=>by cases h⟩;cases h
        have:=hu.cell j x hj;rw [e] at this;exact this
    subst hue;by_cases hc:cap=lo
    · obtain rfl:hi=lo:=by omega
      have hy:ys=[]:=bB (by omega);subst hy;have hr:=qF (P:=P) (sT:=sT) (ty:=rt) (o':=0) (dLen:=0) (dCap:=0) (sa:=sa) (sLen:=0) (sCap:=sCap) (cs:=[]) hdT hsz hg (by simp) (fun _ _ j v hj=>by simp at hj) (fun _=>rfl) (by simp) (by simp);have hw:w.setRow g (cur.toList.take 0++ []++cur.toList.drop (0+([]:List Value).length)).toArray=w:=by
        simp only [List.take_zero,fc,bG,jw,iI,Array.toArray_toList];exact setRow_self w g cur ty (0,0) hg
      rw [hw] at hr;refine ⟨w,?_,by simpa using h,Ext.refl _ _⟩;have e2:fb (.slice (some ⟨g,0,none⟩) xs.length cap) hi hi E.sz= .slice (some ⟨g,0,none⟩) 0 0:=by simp [fb,hc]
      rw [e2];simpa using hr
    · have e2:fb (.slice (some ⟨g,0,none⟩) xs.length cap) lo hi E.sz= .slice (some ⟨g,lo * E.sz,none⟩) (hi - lo) (cap - lo):=by
        simp [fb,hc,kq]
      have hmin:Nat.min ys.length (hi - lo)=ys.length:=by rw [hl];exact Nat.min_self _
      have hr:=qF (P:=P) (sT:=sT) (ty:=rt) (o':=lo * E.sz) (dLen:=hi - lo) (dCap:=cap - lo) (sa:=sa) (sLen:=ys.length) (sCap:=sCap) (cs:=E.row ys) hdT hsz hg (by rw [hmin,hcs]) hsa hsn (by rw [hcs];omega) E.row_one;rw [hmin] at hr;rw [e2];refine ⟨_,hr,⟨by rw [E.row_length],.inr ⟨g,cap,_,by rw [hxl],hb,setRow_heap w g cur _ ty _ hg,by rw [hxl];exact g2,g3,?_,?_⟩⟩,(gy w g _).mono fun k _ h=>by rw [h];rfl⟩
      · simp only [iG,bK,cD,dH,ef,hcs];omega
      · rw [hxl];have e3:E.row (xs.take lo++ys++xs.drop hi)=(E.row xs).take (lo * E.sz)++E.row ys++(E.row xs).drop (hi * E.sz):=by
          rw [E.row_append,E.row_append,E.row_take,E.row_drop]
        rw [e3,←g5,List.take_take,List.drop_take,hcs,hm3];have e4:min (lo * E.sz) (xs.length * E.sz)=lo * E.sz:=by omega
        rw [e4];have hA:(cur.toList.take (lo * E.sz)++E.row ys).length=hi * E.sz:=by simp [hcs];omega
        show (cur.toList.take (lo * E.sz)++E.row ys++cur.toList.drop (hi * E.sz)).take (xs.length * E.sz)=_;rw [hH,hA,bL (by omega)]
end
section
variable {C:Cfg} {ps ps':Ps} {fu:Nat} {ou:Bool} {tv:Int} {tb:Option Nat} {Z Z' T:aQ} {w w':World}
theorem RunB.turn (h:RunB C ps fu ou Z T w) (hx:Ext (fun k=>C.pv.v.ownBlock=some k) w w') (ho:gQ dp C.st w' C.pv.v ps') (hl:ps'.length=ps.length) (hZ:∀g,Z g→Z' g) (hd:∀g,T g→¬Z g):RunB C ps' fu ou Z' T w':=by
  have hm:Ext (fun g=>¬Z g) w w':=hx.mono fun g _ hg hz=>hd _ (h.parts.2 g hg) hz;obtain ⟨k1,k2,k3,k4,k5,k6,k7,k8⟩:=h;refine ⟨k1,hl.trans k2,cn k3 hx.size,k4,?_,⟨ho,k6.2⟩,(eY fy Al C.cv.v C.E.cs).st hZ hm k7,(eY iV Al C.lv.v C.E.pl).st hZ hm k8⟩;rw [hx.block C.g k3 fun hb=>k1.pg _ hb rfl];exact k5
theorem RunR.turn (h:RunR C tb ps fu ou tv Z T w) (hx:Ext (fun k=>C.pv.v.ownBlock=some k) w w') (ho:gQ dp C.st w' C.pv.v ps') (hl:ps'.length=ps.length) (hZ:∀g,Z g→Z' g) (hd:∀g,T g→¬Z g):RunR C tb ps' fu ou tv Z' T w':=by
  refine ⟨h.b.turn hx ho hl hZ hd,fun q hq=> ?_,h.tg⟩;obtain ⟨g,e,l1,l2,l3⟩:=h.to q hq;refine ⟨g,e,cn l1 hx.size,l2,?_⟩;rw [hx.block g l1 fun hb=>(h.tg q hq).2 _ hb (by simp at e;exact e.symm)];exact l3
theorem fB {ps:Ps} {lo n:Nat} (h:lo+n≤ps.length):(dx ps lo n).length=ps.length:=by
  simp [dx];omega
end
section
variable {N:aQ} {P:Program} {ops:Array Oper} {sp:List (Spec N)} {In:Nat→Ini N} {a0:Act} {w0:World} {bf:List Nat} {j:Nat} {o:Oper} {s:Spec N} {done:Nat→Bool} {a:Act} {w:World} {τ:Nat→aQ} {C:Cfg} {tb:Option Nat} {ps ps':Ps} {fu fu':Nat} {ou ou':Bool} {tv tv':Int} {pc:Prop}
theorem fH {ty t:Nat} {cells:List Value} {x:Operand} {v:Value} (hgd:sx ops sp bf j o pc) (ho:o.op= .box ty x) (hc:v.cells=cells.toArray)
    (h:∀{done a w τ},Cx ops sp In a0 w0 bf j o done a w τ→pc→a.eval x=v)
    (hs:s=fG N t pc (fun b:Nat=> .pointer (some ⟨b,0,none⟩)) (fun _=>True) (fun b=>di ⟨b,0,none⟩ cells):=by exact rfl) (hd:o.dst=some t:=by exact rfl):Ob ops sp In a0 w0 P bf j o s:=by
  subst hs;intro done a w τ c;refine ⟨fun hw=> ?_,fun hw=>⟨Ext.refl _ _,fun hp=>by rw [(hgd.known c).2 hp] at hw;cases hw⟩⟩;have hp:=(hgd.known c).1 hw;have hr:(execOp a.eval o).run P w= .ok (.value (.pointer (some ⟨w.heap.size,0,none⟩))) (w.alloc (.cells cells.toArray ty)):=by
    simp only [execOp,ho,h c hp,Instr.box,newVar,newRow,newObj,hc];rfl
  refine eI hr ⟨_,rfl,Ext.alloc _ _ _,fun _=>⟨w.heap.size,?_,av,⟨⟨by simp,fun t ht=> ?_⟩,fun j u hu=> ?_⟩⟩⟩
  · show aS (a.put o.dst _) t=_;rw [hd,cT a t t _ (c.lt t hd),if_pos rfl]
  · have:=(c.J.bnd t _ ht).2;exact absurd this (Nat.lt_irrefl _)
  · exact (rd (ty:=ty) (cells:=cells) (w:=w)).cell hu
def BF {α:Type} (E:Enc α) (ty:Nat) (N:aQ) (tag t:Nat) (v:Value) (xs:List α):Spec N:=⟨some tag,t,fun _ T _ w=>dq E ty xs T v w,fun _ _ T u w w' _ h hr=>iK T v w w' h.less hr,fun _=>True,fun _ _ _ _ _=>trivial⟩
theorem wu {α:Type} {E:Enc α} {ty tag t tt i:Nat} {v:Value} {xs:List α} {x x':α} {p q:Operand} {u:Value} (hs:s=BF E ty N tag t v (xs.set i x')) (hg:o.guard=none) (hd:o.dst=none) (ho:o.op= .store tt p q) (hsz:∀w,(sizeOf tt).run P w= .ok u.cells.size w)
    (hx:xs[i]? =some x) (hl:0+u.cells.size≤E.sz) (h1:∀c ∈ u.cells.toList,c.oneCell'=true) (hc:E.cells x'=gW (E.cells x) 0 u.cells.toList)
    (hp:∀{done a w τ},Cx ops sp In a0 w0 bf j o done a w τ→dq E ty xs (τ tag) v w∧a.eval p= .pointer (some ((cX v).add (i * E.sz)))∧a.eval q=u):Ob ops sp In a0 w0 P bf j o s:=by
  subst hs;refine dI hg rfl fun done a w τ c=> ?_;obtain ⟨⟨hown,hT⟩,hp',hq⟩:=hp c;obtain ⟨w',hr,h2,h3⟩:=kD (P:=P) (tt:=tt) hown hx hsz hl h1 hc;have hr':(execOp a.eval o).run P w= .ok .skip w':=by
    have hr2:(Instr.storeAt tt (.pointer (some ((cX v).add (i * E.sz)))) u).run P w= .ok () w':=hr;simp only [execOp,ho,hp',hq,Sem.run_bind,hr2];rfl
  exact gA hr' ⟨_,rfl,h3.mono fun k _ hk=>hT k hk,τ tag,fun g h=> .inl h,h2,hT⟩
theorem pN {tag t tt i:Nat} {x x':Int × Int} {p q:Operand} (hs:s=kc N tag t C tb (ps.set i x') fu ou tv) (hg:o.guard=none) (hd:o.dst=none) (ho:o.op= .store tt p q) (hsz:∀w,(sizeOf tt).run P w= .ok 2 w)
    (hx:ps[i]? =some x)
    (hp:∀{done a w τ},Cx ops sp In a0 w0 bf j o done a w τ→RunR C tb ps fu ou tv (ex τ w) (τ tag) w∧a.eval p= .pointer (some ((cX C.pv.v).add (i * 2)))∧a.eval q=so x'):Ob ops sp In a0 w0 P bf j o s:=by
  subst hs;refine dI hg rfl fun done a w τ c=> ?_;obtain ⟨hR,hp',hq⟩:=hp c;obtain ⟨w',hr,h2,h3⟩:=kD (P:=P) (tt:=tt) (u:=so x') (off:=0) (x':=x') hR.b.parts.1 hx (by exact hsz) (by exact bj _) (by simp [so,Value.cells,Value.oneCell']) (by
    simp [dp,so,Value.cells,gW])
  have hr':(execOp a.eval o).run P w= .ok .skip w':=by
    have hr2:(Instr.storeAt tt (.pointer (some ((cX C.pv.v).add (i * 2)))) (so x')).run P w= .ok () w':=hr;simp only [execOp,ho,hp',hq,Sem.run_bind,hr2];rfl
  exact gA hr' ⟨_,rfl,h3.mono fun k _ hk=>hR.b.parts.2 k hk,τ tag,fun g h=> .inl h,hR.turn h3 h2 (by simp) (fun g hz=>jf (fun _ h=>h) g (hC h3.size g hz)) fun g h=>iR g h⟩
theorem pO {tag t dT sT e lo hi:Nat} {ys:Ps} {x y:Operand} (hs:s=ii N tag t C tb (ps.take lo++ys++ps.drop hi) fu ou tv (.int .i64 (ys.length:Int))) (hg:o.guard=none) (hd:o.dst=some t)
    (ho:o.op= .call { callee:= .builtin .copy,args:=#[x,y],argTypes:=#[dT,sT] }) (hdT:P.underlying dT=some (.slice e)) (hsz:(P.info? e).map (·.size)=some 2)
    (h1:lo≤hi) (h2:hi≤ps.length) (hl:ys.length=hi - lo)
    (hp:∀{done a w τ},Cx ops sp In a0 w0 bf j o done a w τ→RunR C tb ps fu ou tv (ex τ w) (τ tag) w∧a.eval x=fb C.pv.v lo hi 2∧∃u,a.eval y=u∧SlT dp w u ys):Ob ops sp In a0 w0 P bf j o s:=by
  subst hs;refine dI hg rfl fun done a w τ c=> ?_;obtain ⟨hR,hx,u,hy,hu⟩:=hp c;obtain ⟨w',hr,k2,k3⟩:=ox (P:=P) (sT:=sT) (rt:=o.type) hR.b.parts.1 hu hdT hsz h1 h2 hl;have hr':(execOp a.eval o).run P w= .ok (.value (.int .i64 (ys.length:Int))) w':=by
    have hr2:(Builtin.copy_ #[dT,sT] o.type #[fb C.pv.v lo hi 2,u]).run P w= .ok (goInt ys.length) w':=hr;simp only [execOp,ho,resolve,invoke,builtin,Sem.run_bind,Sem.run_pure,Result.andThen_ok,dR,aZ,bF,hx,hy,hr2];rfl
  refine eI hr' ⟨_,rfl,k3.mono fun k _ hk=>hR.b.parts.2 k hk,τ tag,fun g h=> .inl h,?_,hR.turn k3 k2 (by simp;omega) (fun g hz=>jf (fun _ h=>h) g (hC k3.size g hz)) fun g h=>iR g h⟩;show aS (a.put o.dst _) t=_;rw [hd,cT a t t _ (c.lt t hd),if_pos rfl]
theorem nz {α:Type} {E:Enc α} {ty e tag t:Nat} {ys:List α} {y:Operand} {z:Value} {i:TypeInfo} (hs:s=own E e N tag t ys) (hg:o.guard=none) (hd:o.dst=some t)
    (ho:o.op= .call { callee:= .builtin .append,args:=#[.const (.slice none 0 0),y],argTypes:=#[ty,ty] })
    (hty:P.underlying ty=some (.slice e)) (hi:P.info? e=some i) (hz:i.zero=some z) (hsize:i.size=E.sz) (hzs:z.cells.size=E.sz)
    (h63:ys.length≤maxLen) (hby:ys.length * i.bytes≤140737488355328)
    (hp:∀{done a w τ},Cx ops sp In a0 w0 bf j o done a w τ→∃u,a.eval y=u∧SlT E w u ys):Ob ops sp In a0 w0 P bf j o s:=by
  subst hs;refine dI hg rfl fun done a w τ c=> ?_;obtain ⟨u,hy,hsl⟩:=hp c;obtain ⟨v',w',hr,h2,h3,h4⟩:=mO (P:=P) (E:=E) ty o.type e i z hty hi hz hsize hzs (gQ.nil E e w) hsl (by simpa using h63) (by simpa using hby);have hr':(execOp a.eval o).run P w= .ok (.value v') w':=by
    simp only [execOp,ho,resolve,invoke,builtin,Sem.run_bind,Sem.run_pure,Result.andThen_ok,dR,aZ,bF,hy];have hr2:(Builtin.append_ #[ty,ty] o.type #[a.eval (.const (.slice none 0 0)),u]).run P w= .ok v' w':=hr;simp only [hr2];rfl
  rw [fc] at h2;refine eI hr' ⟨_,rfl,h3.mono (fun k _ h=>by simp [Value.ownBlock] at h),fun g=>v'.ownBlock=some g,fun g hg=>(h4 g hg).elim (fun h=>by simp [Value.ownBlock] at h) (fun h=> .inr h),?_⟩;show dq E e ys _ (aS (a.put o.dst _) t) _;rw [hd,cT a t t _ (c.lt t hd),if_pos rfl];exact ⟨h2,fun g h=>h⟩
end
section
variable {N:aQ} {l:List Oper} {sp:List (Spec N)} {il:List (Ini N)} {a0 a:Act} {w:World} {τ:Nat→aQ}
theorem Fin.ov {α:Type} {E:Enc α} {ty t slot:Nat} {v:Value} {xs:List α} (h:Fin l sp il a0 a w τ) (j:Nat) (hs:sp[j]? =some (BF E ty N t slot v xs)) (hl:bu (sp.map (·.tag)) t sp.length=some j:=by exact rfl):dq E ty xs (τ t) v w:=h.res j t _ hs rfl hl
end
def fo (ps:Ps) (x:Rs):Ps:=match x.1 with
  | some y => y.2
  | none => ps
def fg (tv:Int) (x:Rs):Int:=match x.1 with
  | some y => (y.1 : Int)
  | none => tv
def kY (C:Cfg) (tb:Option Nat) (ps:Ps) (tv:Int) (x:Rs) (w:World) (e:Ending) (w':World):Prop:=e= .returned (.bool x.1.isSome)∧Ext (Td C tb) w w'∧fL C tb (fo ps x) x.2.1 x.2.2 (fg tv x) w'
def Df (P:Program) (C:Cfg) (tb:Option Nat) (B:Nat) (K:dZ) (kf:Value) (Z:aQ) (w:World):Prop:=∃f caps,kf= .func (.func f) #[] caps∧(∀args w,(callFunc f args).run P w= .ok (.enter f args) w)∧
  ∀(to:Nat) (ps:Ps) (fu:Nat) (tv:Int) (w2:World),Ext (fun g=>¬Z g) w w2→fL C tb ps fu false tv w2→to≤C.E.cs.length→fu < B→fu≤1000000→(∀g,Z g→Fr C tb w2 g)→Calls P f (#[.int .i64 (to:Int)]++caps) w2 (kY C tb ps tv (K to ps (fu,false)) w2)
def zK (P:Program) (C:Cfg) (tb:Option Nat) (B:Nat) (K:dZ) (kf:Value):ZP:=⟨fun Z w=>Df P C tb B K kf Z w,fun hz he ⟨f,caps,h1,h2,h3⟩=>⟨f,caps,h1,h2,fun to ps fu tv w2 hx hR ht hf hm hfr=>h3 to ps fu tv w2 (he.trans (hx.mono fun g _ hn hg=>hn (hz g hg))) hR ht hf hm fun g hg=>hfr g (hz g hg)⟩⟩
section
variable {C:Cfg} {ps ps':Ps} {fu fu' B B':Nat} {ou ou':Bool} {tv tv':Int} {tb:Option Nat} {Z Z' T:aQ} {w w':World} {P:Program} {K:dZ} {kf:Value}
theorem Df.less (h:Df P C tb B K kf Z w) (hB:B'≤B):Df P C tb B' K kf Z w:=by
  obtain ⟨f,caps,h1,h2,h3⟩:=h;exact ⟨f,caps,h1,h2,fun to ps fu tv w2 hx hR ht hf=>h3 to ps fu tv w2 hx hR ht (by omega)⟩
theorem um (h:(zK P C tb B K kf).P Z w):kf.cells=#[kf]:=by obtain ⟨f,caps,rfl,_⟩:=h;rfl
theorem fL.in {n:Nat} {a:Act} {τ:Nat→aQ} (h:fL C tb ps fu ou tv w) (hτ:τ 0=Td C tb) (st:St (fun k=>Td C tb k∨w.heap.size≤k) w n a w τ):RunR C tb ps fu ou tv (ex τ w) (τ 0) w:=
  h.mono (fun g hg=>⟨hg.1,fun t ht=>(st.bnd t g ht).1.elim (fun h=>hg.2 h) (fun h=>by have:=hg.1;omega)⟩) (fun g hg=>by rw [hτ];exact hg)
theorem iY {n:Nat} {a:Act} {τ:Nat→aQ} {Φ:ZP} (h:Φ.P (Fr C tb w) w) (st:St (fun k=>Td C tb k∨w.heap.size≤k) w n a w τ):Fz Φ τ w:=
  Φ.st (fun g hg=>⟨hg.1,fun t ht=>(st.bnd t g ht).1.elim (fun h=>hg.2 h) (fun h=>by have:=hg.1;omega)⟩) (Ext.refl _ w) h
theorem fL.tdlt (h:fL C tb ps fu ou tv w):∀g,Td C tb g→g < w.heap.size:=RunR.tdlt h
theorem kZ {τ:Nat→aQ} {f:FuncId} {args:Array Value} {x:Rs} (h:RunR C tb ps fu ou tv (ex τ w) (τ 0) w) (hc:Calls P f args w (kY C tb ps tv x w)):
    Calls P f args w (fun e w'=>e= .returned (.bool x.1.isSome)∧Ext (τ 0) w w'∧RunR C tb (fo ps x) x.2.1 x.2.2 (fg tv x) (ex τ w') (τ 0) w'):=
  hc.mono fun e w' ⟨h1,h2,h3⟩=>⟨h1,h2.mono fun g _ hg=>h.td g hg,h3.back h h2 (fun g hg=>iR g hg) (hC h2.size)⟩
theorem AY {τ:Nat→aQ} {f:FuncId} {args:Array Value} {v:Value} (h:RunR C tb ps fu ou tv (ex τ w) (τ 0) w) (hc:Calls P f args w (fun e w'=>e= .returned v∧Ext (Td C tb) w w'∧fL C tb ps' fu' ou' tv' w')):
    Calls P f args w (fun e w'=>e= .returned v∧Ext (τ 0) w w'∧RunR C tb ps' fu' ou' tv' (ex τ w') (τ 0) w'):=
  hc.mono fun e w' ⟨h1,h2,h3⟩=>⟨h1,h2.mono fun g _ hg=>h.td g hg,h3.back h h2 (fun g hg=>iR g hg) (hC h2.size)⟩
theorem jI {x:Rs} (h:x.1.isSome=false):fo ps x=ps:=by
  unfold fo;cases hx:x.1 with
  | none => rfl
  | some y => rw [hx] at h; cases h
theorem nW {x:Rs} (h:x.1.isSome=false):fg tv x=tv:=by
  unfold fg;cases hx:x.1 with
  | none => rfl
  | some y => rw [hx] at h; cases h
theorem qG {x:Rs} (h:x.1.isSome=true):fo ps x=fo ps' x:=by
  unfold fo;cases hx:x.1 with
  | none => rw [hx] at h; cases h
  | some y => rfl
theorem RunR.nope {x:Rs} (h:RunR C tb (fo ps x) fu ou (fg tv x) Z T w) (hx:x.1.isSome=false):RunR C tb ps fu ou tv Z T w:=by rwa [jI hx,nW hx] at h
theorem RunR.yep {x:Rs} (h:RunR C tb (fo ps x) fu ou (fg tv x) Z T w) (hx:x.1.isSome=true):RunR C tb (fo ps' x) fu ou (fg tv x) Z T w:=by rwa [qG hx] at h
theorem RunR.ouf (h:RunR C tb ps fu ou tv Z T w) (ho:ou=false):RunR C tb ps fu false tv Z T w:=ho ▸ h
theorem RunR.psc (h:RunR C tb ps fu ou tv Z T w) (e:ps'=ps):RunR C tb ps' fu ou tv Z T w:=e ▸ h
theorem oP {x:Rs} (h:x.1.isSome=false):x=(Option.none,x.2):=by
  obtain ⟨a,b⟩:=x;cases a with
  | none => rfl
  | some y => cases h
theorem vr {v:Value} {lo hi m:Nat} (h:lo≤hi):fb v lo hi m=fb v lo (lo+(hi - lo)) m:=by rw [show lo+(hi - lo)=hi by omega]
theorem mW {τ:Nat→aQ} {f:FuncId} {args:Array Value} {v:Value} (h:RunR C tb ps fu ou tv (ex τ w) (τ 0) w) (hl:ps'.length=ps.length) (hc:Calls P f args w (fun e w'=>e= .returned v∧gQ dp C.st w' C.pv.v ps'∧Ext (fun k=>C.pv.v.ownBlock=some k) w w')):
    Calls P f args w (fun e w'=>e= .returned v∧Ext (τ 0) w w'∧RunR C tb ps' fu ou tv (ex τ w') (τ 0) w'):=
  hc.mono fun e w' ⟨h1,h2,h3⟩=>⟨h1,h3.mono fun g _ hg=>h.b.parts.2 g hg,h.turn h3 h2 hl (hC h3.size) fun g hg=>iR g hg⟩
theorem RunR.dz {τ:Nat→aQ} (h:RunR C tb ps fu ou tv (ex τ w) (τ 0) w):fL C tb ps fu ou tv w:=h.d (fun g hg=>iR g hg) uj
theorem RunR.fz {τ:Nat→aQ} {Φ:ZP} (h:RunR C tb ps fu ou tv (ex τ w) (τ 0) w) (hz:Φ.P (ex τ w) w):Φ.P (Fr C tb w) w:=h.fr (fun g hg=>iR g hg) uj hz
theorem ke {τ:Nat→aQ} {a:Act} {o:Oper} {x x1:Operand} {ts:Array TypeId} {to:Nat} (h:RunR C tb ps fu false tv (ex τ w) (τ 0) w) (hk:(zK P C tb B K kf).P (ex τ w) w) (ht:to≤C.E.cs.length) (hf:fu < B) (hm:fu≤1000000)
    (ho:o.op= .call { callee:= .value x,args:=#[x1],argTypes:=ts }) (hx:a.eval x=kf) (h1:a.eval x1= .int .i64 (to:Int)):
    ∃g args,eD P a o w g args∧Calls P g args w (fun e w'=>e= .returned (.bool (K to ps (fu,false)).1.isSome)∧Ext (τ 0) w w'∧RunR C tb (fo ps (K to ps (fu,false))) (K to ps (fu,false)).2.1 (K to ps (fu,false)).2.2 (fg tv (K to ps (fu,false))) (ex τ w') (τ 0) w'):=by
  obtain ⟨f,caps,e1,e2,e3⟩:=hk;exact ⟨f,_,BE ho (hx.trans e1) e2 h1,kZ h (e3 to ps fu tv w (Ext.refl _ _) h.dz ht hf hm fun g hg=>⟨uj g hg,fun ht=>iR g (h.td g ht) hg⟩)⟩
end
end
section
open Go.RowKit Srt
def sj (G:aQ) (p:Pt):ZP:=⟨fun Z w=>PtT (fun g=>Z g∧G g) w p,fun hz he h=>(PtT.keep h he fun g hg hn=>hn hg.1).mono fun g hg _=>⟨hz g hg.1,hg.2⟩⟩
def wv (G:aQ) (l:List Pt):ZP:=⟨fun Z w=>∀p ∈ l,PtT (fun g=>Z g∧G g) w p,fun hz he h p hp=>(sj G p).st hz he (h p hp)⟩
section
variable {G F Z:aQ} {τ:Nat→aQ} {w w':World} {p:Pt} {l:List Pt}
theorem Fz.pn (G:aQ) (τ:Nat→aQ) (w:World):Fz (wv G []) τ w:=fun p hp=>by simp at hp
theorem Fz.psnoc (h:Fz (wv G l) τ w) (h2:Fz (sj G p) τ w):Fz (wv G (l++ [p])) τ w:=fun q hq=>(List.mem_append.1 hq).elim (h q) fun hq=>by simp at hq;rw [hq];exact h2
theorem Fz.pouts (h:Fz (wv G l) τ w):∀p ∈ l,PtT G w p:=fun p hp=>PtT.mono (h p hp) fun g hg _=>hg.2
end
section
variable {N:aQ} {P:Program} {ops:Array Oper} {sp:List (Spec N)} {In:Nat→Ini N} {a0:Act} {w0 W:World} {bf:List Nat} {j:Nat} {o:Oper} {s:Spec N} {done:Nat→Bool} {a:Act} {w:World} {τ:Nat→aQ} {β:Type} {pc:Prop}
theorem Cx.zbx (c:Cx ops sp In a0 w0 bf j o done a w τ) (i:Nat) {ty t slot:Nat} {p:Value} {cells:β→List Value} {f:β→Value} {Ψ:β→Prop} {Φ:β→ZP} (hs:sp[i]? =some (mu ty N t slot p cells f Ψ Φ)) (hl:bu (sp.map (·.tag)) t j=some i:=by exact rfl) (hord:iw (sp.map (·.tag)) bf t j=true:=by kernel_rfl):
    ∃b,a.eval (.tmp slot)=f b∧cj ty (cells b) (τ t) p w∧Ψ b∧(Φ b).P (ex τ w) w:=c.res i t _ hs hl hord
theorem Cx.pz {p:Pt} {F:aQ} {n:Nat} {a1:Act} {τ0:Nat→aQ} {w':World} (c:Cx ops sp In a0 w0 bf j o done a w τ) (st:St N W n a1 w0 τ0) (hx:w.heap.size≤w'.heap.size) (h:PtT (Gn (fun g=>ex τ w g∧Gn F W g) w) w' p):(sj (Gn F W) p).P (ex τ w') w':=PtT.mono h (c.gz (c.hW st) hx)
theorem sS {α:Type} {E:Enc α} {ty e tag t:Nat} {xs:List α} {ys:β→List α} {Ψ:β→Prop} {Φ:β→ZP} {x y:Operand} {z:Value} {i:TypeInfo} (hg:o.guard=none)
    (ho:o.op= .call { callee:= .builtin .append,args:=#[x,y],argTypes:=#[ty,ty] })
    (hty:P.underlying ty=some (.slice e)) (hi:P.info? e=some i) (hz:i.zero=some z) (hsize:i.size=E.sz) (hzs:z.cells.size=E.sz)
    (h63:∀b,xs.length+(ys b).length≤maxLen) (hby:∀b,(xs.length+(ys b).length) * i.bytes≤140737488355328)
    (hp:∀{done a w τ},Cx ops sp In a0 w0 bf j o done a w τ→∃v b,dq E e xs (τ tag) v w∧a.eval x=v∧Ψ b∧(Φ b).P (ex τ w) w∧∃u,a.eval y=u∧SlT E w u (ys b))
    (hs:s=oj E e N tag t True (fun b=>xs++ys b) Ψ Φ:=by exact rfl) (hd:o.dst=some t:=by exact rfl):Ob ops sp In a0 w0 P bf j o s:=by
  subst hs;refine dI hg rfl fun done a w τ c=> ?_;obtain ⟨v,b,⟨hown,hT⟩,hx,hq,hzz,u,hy,hsl⟩:=hp c;obtain ⟨v',w',hr,h2,h3,h4⟩:=mO (P:=P) (E:=E) ty o.type e i z hty hi hz hsize hzs hown hsl (h63 b) (hby b);have hr':(execOp a.eval o).run P w= .ok (.value v') w':=by
    simp only [execOp,ho,resolve,invoke,builtin,Sem.run_bind,Sem.run_pure,Result.andThen_ok,dR,aZ,bF,hx,hy,hr]
  refine eI hr' ⟨_,rfl,h3.mono (fun k _ h=>hT k h),fun g=>v'.ownBlock=some g,fun g hg=>(h4 g hg).elim (fun h=> .inl (hT g h)) (fun h=> .inr h),fun _=>⟨b,?_,hq,?_⟩⟩
  · show dq E e (xs++ys b) _ (aS (a.put o.dst _) t) _;rw [hd,cT a t t _ (c.lt t hd),if_pos rfl];exact ⟨h2,fun g h=>h⟩
  · refine (Φ b).st (fun g hg=>⟨cn hg.1 h3.size,fun t' ht=> ?_⟩) (h3.mono fun g _ hg hZ=>hZ.2 tag (hT g hg)) hzz;unfold lJ at ht;split at ht
    · rcases h4 g ht with h | h
      · exact hg.2 tag (hT g h)
      · exact absurd hg.1 (by omega)
    · exact hg.2 t' ht
theorem rF {x y:Operand} {t t':TypeId} {p:Int} (ho:o.op= .binOp .and t x y t') (hx:a.eval x= .int .u64 p) (hy:a.eval y= .int .u64 4294967295) (h0:0≤p) (h1:p < 4294967296):bU P a o w (.int .u64 p):=by
  obtain ⟨n,rfl⟩:=Int.eq_ofNat_of_zero_le h0;have hn:n < 4294967296:=by omega
  have e1:(BitVec.ofInt 64 (n:Int)).toNat=n:=by
    rw [BitVec.toNat_ofInt];omega
  have e:n&&&4294967295=n:=by
    have:=Nat.and_two_pow_sub_one_eq_mod n 32;rw [show (2 ^ 32 - 1:Nat)=4294967295 from rfl] at this
    rw [this];exact Nat.mod_eq_of_lt hn
  have e3:IntKind.u64.wrap (n:Int)=n:=by simp [IntKind.wrap,IntKind.signed,IntKind.bits];omega
  have e5:(BitVec.ofInt 64 4294967295).toNat=4294967295:=by decide
  have hr:(Op.intBits .and .u64 (n:Int) 4294967295).run P w= .ok (.int .u64 n) w:=by
    have e6:(BitVec.ofInt (IntKind.bits .u64) (n:Int)&&&BitVec.ofInt (IntKind.bits .u64) 4294967295).toNat=n:=by
      rw [BitVec.toNat_and];show (BitVec.ofInt 64 (n:Int)).toNat&&&(BitVec.ofInt 64 4294967295).toNat=n;rw [e1,e5,e]
    unfold Op.intBits;simp only [e6,e3];rfl
  simp only [bU,execOp,ho,hx,hy];simp [eqGuard,binOp,hr]
theorem nA {x y:Operand} {t t':TypeId} {p:Int} (ho:o.op= .binOp .shr t x y t') (hx:a.eval x= .int .u64 p) (hy:a.eval y= .int .u64 32) (h0:0≤p) (h1:p < 4294967296):bU P a o w (.int .u64 0):=by
  have e:p.fdiv 4294967296=0:=by
    rw [jL p (by omega)];exact Int.ediv_eq_zero_of_lt h0 h1
  simp [bU,execOp,ho,hx,hy,eqGuard,binOp,Op.shift,IntKind.bits];exact e
theorem pP {x y:Operand} {t t':TypeId} {p q r:Int} (ho:o.op= .binOp .mul t x y t') (hx:a.eval x= .int .u64 p) (hy:a.eval y= .int .u64 q) (e:p * q=r) (h0:0≤r) (h1:r < 18446744073709551616):bU P a o w (.int .u64 r):=by
  have e2:IntKind.u64.wrap r=r:=by simp [IntKind.wrap,IntKind.signed,IntKind.bits];omega
  simp [bU,execOp,ho,hx,hy,eqGuard,binOp,Op.intArith,e,e2]
theorem rG {x y:Operand} {t t':TypeId} {p q r:Int} (ho:o.op= .binOp .add t x y t') (hx:a.eval x= .int .u64 p) (hy:a.eval y= .int .u64 q) (e:p+q=r) (h0:0≤r) (h1:r < 18446744073709551616):bU P a o w (.int .u64 r):=by
  have e2:IntKind.u64.wrap r=r:=by simp [IntKind.wrap,IntKind.signed,IntKind.bits];omega
  simp [bU,execOp,ho,hx,hy,eqGuard,binOp,Op.intArith,e,e2]
theorem zV {α:Type} {E:Enc α} {ty e tag t n:Nat} {x y:Operand} {z:Value} {i:TypeInfo} {x0:α} (hs:s=own E e N tag t (List.replicate n x0)) (hg:o.guard=none) (hd:o.dst=some t) (ho:o.op= .makeSlice ty x y)
    (hty:P.underlying ty=some (.slice e)) (hi:P.info? e=some i) (hz:i.zero=some z) (hsize:i.size=E.sz) (hc:z.cells.toList=E.cells x0) (hby:i.bytes * n≤281474976710656) (h63:n≤maxLen)
    (hp:∀{done a w τ},Cx ops sp In a0 w0 bf j o done a w τ→a.eval x= .int .i64 (n:Int)∧a.eval y= .int .i64 (n:Int)):Ob ops sp In a0 w0 P bf j o s:=by
  subst hs;refine dI hg rfl fun done a w τ c=> ?_;obtain ⟨hx,hy⟩:=hp c;have h63':(n:Int)≤9223372036854775807:=by
    have h:=h63;simp only [maxLen] at h;omega
  have hb':(i.bytes:Int) * (n:Int)≤281474976710656:=by
    have h:((i.bytes * n:Nat):Int)≤281474976710656:=by omega
    rwa [Int.natCast_mul] at h
  have hr:=run_make (P:=P) w ty e i z hty hi hz .i64 .i64 n n (by omega) (ei _) hb' h63';simp only [gN] at hr;have hr':(execOp a.eval o).run P w= .ok (.value (.slice (some ⟨w.heap.size,0,none⟩) n n)) (w.alloc (.cells (madeCells z.cells (n * i.size)) e)):=by
    simp only [execOp,ho,hx,hy,Sem.run_bind,hr];rfl
  have hzs:z.cells.size=E.sz:=by rw [←ef,hc,E.len]
  have hrow:(madeCells z.cells (n * i.size)).toList=E.row (List.replicate n x0):=by
    apply List.ext_getElem?;intro q;rw [hsize];have hl:(E.row (List.replicate n x0)).length=n * E.sz:=by rw [E.row_length,dF]
    by_cases hq:q < n * E.sz
    · have hdiv:q / E.sz < n:=Nat.div_lt_of_lt_mul (by rwa [Nat.mul_comm] at hq)
      have hmod:q % E.sz < E.sz:=Nat.mod_lt _ E.pos
      have h1:=E.row_get (xs:=List.replicate n x0) (i:=q / E.sz) (j:=q % E.sz) (x:=x0) (by rw [List.getElem?_replicate,if_pos hdiv]) hmod;rw [show q / E.sz * E.sz+q % E.sz=q from Nat.div_add_mod' q E.sz] at h1;rw [h1,←hc];have hm2:q % E.sz < z.cells.size:=by omega
      simp only [madeCells,Array.toList_map,List.getElem?_map,Array.toList_range,List.getElem?_range hq,Option.map_some,hzs];rw [getElem!_pos z.cells _ hm2,bm (by simpa using hm2),Array.getElem_toList]
    · rw [iT (by simp [madeCells];omega),iT (by omega)]
  refine eI hr' ⟨_,rfl,Ext.alloc _ _ _,fun g=>g=w.heap.size,fun g hg=> .inr (by subst hg;simp),?_⟩;show dq E e _ _ (aS (a.put o.dst _) t) _;rw [hd,cT a t t _ (c.lt t hd),if_pos rfl];refine ⟨⟨E.row_length _,.inr ⟨w.heap.size,n,_,by rw [dF],dE _,heap_alloc_new w _,by rw [dF];exact bj _,h63,by rw [size_madeCells,hsize],?_⟩⟩,fun g h=> ?_⟩
  · rw [hrow,dF];exact bL (by rw [E.row_length,dF];exact bj _)
  · simp only [Value.ownBlock,Option.some.injEq] at h;exact h.symm
end
section
variable {N:aQ} {l:List Oper} {sp:List (Spec N)} {il:List (Ini N)} {a0 a:Act} {w:World} {τ:Nat→aQ} {β:Type} {pc:Prop}
theorem Fin.gzo (h:Fin l sp il a0 a w τ) {α:Type} {E:Enc α} {ty t slot:Nat} {xs:β→List α} {Ψ:β→Prop} {Φ:β→ZP} (j:Nat) {v:Value} (hv:aS a slot=v) (hs:sp[j]? =some (oj E ty N t slot True xs Ψ Φ)) (hl:bu (sp.map (·.tag)) t sp.length=some j:=by exact rfl):∃b,dq E ty (xs b) (τ t) v w∧Ψ b∧Fz (Φ b) τ w:=
  hv ▸ h.res j t _ hs rfl hl trivial
end
section
variable {α:Type} {E:Enc α} {ty:Nat} {P:Program} {w:World}
theorem xV {dT sT rt elem:TypeId} {d:Option Addr} {dl dc:Nat} {u u':Value} {ys:List α} (hu:SlT E w u ys) (hdT:P.underlying dT=some (.slice elem)) (hsz:(P.info? elem).map (·.size)=some E.sz) (hu':u'=fb u 0 (Nat.min ys.length dl) E.sz):
    (Builtin.copy_ #[dT,sT] rt #[.slice d dl dc,u]).run P w=(Builtin.copy_ #[dT,sT] rt #[.slice d (Nat.min ys.length dl) dc,u']).run P w:=by
  subst hu';cases hq:P.info? elem with
  | none => simp [hq] at hsz
  | some i =>
    have hi:i.size=E.sz:=by simpa [hq] using hsz
    rcases hu.sl with ⟨rfl,h0⟩ | ⟨b,cap,rfl,hc,hm⟩
    · rw [h0];simp [fb,Builtin.copy_,run_underlying hdT,Builtin.lenOf,Builtin.firstCells,sizeOf,typeInfo,hq,hi]
    · have e:fb (.slice (some b) ys.length cap) 0 (Nat.min ys.length dl) E.sz= .slice (some b) (Nat.min ys.length dl) cap:=by
        simp only [fb];split
        · simp_all
        · simp [Addr.add]
      rw [e];simp [Builtin.copy_,run_underlying hdT,Builtin.lenOf,Builtin.firstCells,sizeOf,typeInfo,hq,hi]
end
section
variable {α:Type} {E:Enc α} {ty:Nat} {P:Program} {w:World}
theorem qH {v:Value} {xs:List α} (h:gQ E ty w v xs):fb v 0 xs.length E.sz=v:=by
  rcases h.2 with ⟨rfl,h0⟩ | ⟨g,cap,cur,rfl,hb,hg,g2,g3,g4,g5⟩
  · rw [h0];rfl
  · simp only [fb];split
    · simp
    · simp [Addr.add]
theorem sU {dT sT rt elem:TypeId} {v u:Value} {xs ys:List α} {lo hi:Nat} (h:gQ E ty w v xs) (hu:SlT E w u ys) (hdT:P.underlying dT=some (.slice elem)) (hsz:(P.info? elem).map (·.size)=some E.sz)
    (h1:lo≤hi) (h2:hi≤xs.length):
    ∃w',(Builtin.copy_ #[dT,sT] rt #[fb v lo hi E.sz,u]).run P w= .ok (goInt (Nat.min ys.length (hi - lo))) w'∧gQ E ty w' v (xs.take lo++ys.take (Nat.min ys.length (hi - lo))++xs.drop (lo+Nat.min ys.length (hi - lo)))∧Ext (fun k=>v.ownBlock=some k) w w':=by
  have hm1:Nat.min ys.length (hi - lo)≤ys.length:=Nat.min_le_left _ _;have hm2:Nat.min ys.length (hi - lo)≤hi - lo:=cL _ _;have hsl:=SlT.sub hu (lo:=0) (hi:=Nat.min ys.length (hi - lo)) (dE _) hm1;rw [iI,Nat.sub_zero] at hsl;obtain ⟨w',hr,k2,k3⟩:=ox (P:=P) (dT:=dT) (sT:=sT) (rt:=rt) (lo:=lo) (hi:=lo+Nat.min ys.length (hi - lo)) h hsl hdT hsz (by omega) (by omega) (by rw [cD];omega);rw [cD,Nat.min_eq_left hm1] at hr;refine ⟨w',?_,k2,k3⟩;have hsub:∃d dc,fb v lo hi E.sz= .slice d (hi - lo) dc∧fb v lo (lo+Nat.min ys.length (hi - lo)) E.sz= .slice d (Nat.min ys.length (hi - lo)) dc:=by
    rcases h.2 with ⟨rfl,h0⟩ | ⟨g,cap,cur,rfl,hb,hg,g2,g3,g4,g5⟩
    · exact ⟨none,0 - lo,by simp [fb],by simp [fb]⟩
    · exact ⟨if cap=lo then some ⟨g,0,none⟩ else some ((⟨g,0,none⟩:Addr).add (lo * E.sz)),cap - lo,by simp only [fb];split <;> rfl,by simp only [fb,Nat.add_sub_cancel_left];split <;> rfl⟩
  obtain ⟨d,dc,e1,e2⟩:=hsub;rw [e2] at hr;rw [e1,xV (sT:=sT) (rt:=rt) hu hdT hsz rfl];exact hr
end
section
variable {N:aQ} {P:Program} {ops:Array Oper} {sp:List (Spec N)} {In:Nat→Ini N} {a0:Act} {w0 W:World} {bf:List Nat} {j:Nat} {o:Oper} {s:Spec N} {done:Nat→Bool} {a:Act} {w:World} {τ:Nat→aQ}
def ww {α:Type} (E:Enc α) (ty:Nat) (N:aQ) (tag t:Nat) (v:Value) (xs:List α) (k:Value):Spec N:=⟨some tag,t,fun _ T u w=>u=k∧dq E ty xs T v w,fun _ _ T u w w' _ h hr=>⟨hr.1,iK T v w w' h.less hr.2⟩,fun u=>u=k,fun _ _ _ _ h=>h.1⟩
theorem Cx.oc {α:Type} {E:Enc α} {ty t slot:Nat} {v k:Value} {xs:List α} (c:Cx ops sp In a0 w0 bf j o done a w τ) (i:Nat) (hs:sp[i]? =some (ww E ty N t slot v xs k)) (hb:(bf.getD j 0).testBit i=true:=by exact rfl):a.eval (.tmp slot)=k:=c.J.pur i _ hs (c.pre i hb)
theorem pQ {α:Type} {E:Enc α} {ty tag t dT sT e lo hi:Nat} {v:Value} {xs ys:List α} {x y:Operand} (hs:s=ww E ty N tag t v (xs.take lo++ys.take (Nat.min ys.length (hi - lo))++xs.drop (lo+Nat.min ys.length (hi - lo))) (.int .i64 ((Nat.min ys.length (hi - lo):Nat):Int))) (hg:o.guard=none) (hd:o.dst=some t)
    (ho:o.op= .call { callee:= .builtin .copy,args:=#[x,y],argTypes:=#[dT,sT] }) (hdT:P.underlying dT=some (.slice e)) (hsz:(P.info? e).map (·.size)=some E.sz)
    (h1:lo≤hi) (h2:hi≤xs.length)
    (hp:∀{done a w τ},Cx ops sp In a0 w0 bf j o done a w τ→dq E ty xs (τ tag) v w∧a.eval x=fb v lo hi E.sz∧∃u,a.eval y=u∧SlT E w u ys):Ob ops sp In a0 w0 P bf j o s:=by
  subst hs;refine dI hg rfl fun done a w τ c=> ?_;obtain ⟨⟨hown,hT⟩,hx,u,hy,hu⟩:=hp c;obtain ⟨w',hr,k2,k3⟩:=sU (P:=P) (sT:=sT) (rt:=o.type) hown hu hdT hsz h1 h2;have hr':(execOp a.eval o).run P w= .ok (.value (.int .i64 ((Nat.min ys.length (hi - lo):Nat):Int))) w':=by
    have hr2:(Builtin.copy_ #[dT,sT] o.type #[fb v lo hi E.sz,u]).run P w= .ok (goInt (Nat.min ys.length (hi - lo))) w':=hr;simp only [execOp,ho,resolve,invoke,builtin,Sem.run_bind,Sem.run_pure,Result.andThen_ok,dR,aZ,bF,hx,hy,hr2];rfl
  refine eI hr' ⟨_,rfl,k3.mono fun k _ hk=>hT k hk,τ tag,fun g h=> .inl h,?_,k2,hT⟩;show aS (a.put o.dst _) t=_;rw [hd,cT a t t _ (c.lt t hd),if_pos rfl]
end
section
variable {N:aQ} {l:List Oper} {sp:List (Spec N)} {il:List (Ini N)} {a0 a:Act} {w:World} {τ:Nat→aQ}
theorem Fin.oc {α:Type} {E:Enc α} {ty t slot:Nat} {v k:Value} {xs:List α} (h:Fin l sp il a0 a w τ) (j:Nat) (hs:sp[j]? =some (ww E ty N t slot v xs k)) (hl:bu (sp.map (·.tag)) t sp.length=some j:=by exact rfl):aS a slot=k:=(h.res j t _ hs rfl hl).1
theorem Fin.or {α:Type} {E:Enc α} {ty t slot:Nat} {v k:Value} {xs:List α} (h:Fin l sp il a0 a w τ) (j:Nat) (hs:sp[j]? =some (ww E ty N t slot v xs k)) (hl:bu (sp.map (·.tag)) t sp.length=some j:=by exact rfl):dq E ty xs (τ t) v w:=(h.res j t _ hs rfl hl).2
end
def grpsN (l:List Tr):Nat:=(l.map grpN).sum
theorem pR (l:List Tr) (t:Tr):grpsN (l++ [t])=grpsN l+grpN t:=by simp [grpsN]
theorem wx (l:List Tr):((grpsN l:Nat):Int)=cR (l.map fV):=by
  induction l with
  | nil => rfl
  | cons t l ih =>
    have h1:=(im t).1;rw [aZ,gK,←ih];have:grpsN (t::l)=grpN t+grpsN l:=by simp [grpsN]
    rw [this];unfold grpN;omega
theorem nX {t:Tr}:∀{ps:List Pt} {ts:List Tr} {g:Nat} {p:Pt},LayL ps ts g→Lay p t (g+grpsN ts)→LayL (ps++ [p]) (ts++ [t]) g
  | [], [], g, p, h, h2 => by
    have e:g+grpsN []=g:=rfl;rw [e] at h2;exact .cons h2 .nil
  | [], _ :: _, g, p, h, h2 => by cases h
  | _ :: _, [], g, p, h, h2 => by cases h
  | q :: ps, u :: ts, g, p, h, h2 => by
    cases h with
    | cons h3 h4 =>
      have e:g+grpsN (u::ts)=g+grpN u+grpsN ts:=by simp [grpsN];omega
      rw [e] at h2;exact .cons h3 (nX h4 h2)
theorem oQ (t:Tr):grpN t=(if t.k=5 then 1 else 0)+grpsN t.kids:=by
  have h1:=lq t;have h2:=wx t.kids;have h3:=(im t).1;unfold grpN;rw [h1,←h2];split <;> omega
theorem rH (t:Tr) (g:Nat):nw t g=g+(if t.k=5 then 1 else 0):=by
  unfold nw;split <;> omega
theorem nB (t:Tr):((grpN t:Nat):Int)=fV t:=by
  have:=(im t).1;unfold grpN;omega
theorem uo (t:Tr):(grpN t:Int)≤eJ t:=by
  have h1:=(im t).2;have h2:=pD t;rw [nB];omega
theorem zW (l:List Tr):(grpsN l:Int)≤cR (l.map eJ):=by
  induction l with
  | nil => exact ei _
  | cons t l ih =>
    have h1:=uo t;have e:grpsN (t::l)=grpN t+grpsN l:=by simp [grpsN]
    rw [aZ,gK,e];omega
theorem sV {t:Tr} {k:Nat} (h:k < t.kids.length):(grpsN (t.kids.take k):Int)+eJ (nth t.kids (k:Int))+1≤eJ t:=by
  have h1:=zW (t.kids.take k);have h2:=sE (f:=eJ) h;have h3:=(xB (f:=eJ) (ts:=t.kids) (fun q _=>by have:=kw q;omega) (k+1)).2;have h4:=jX t;have h5:=mg t.rows;omega
end
section
open Go.RowKit
open Srt
set_option maxRecDepth 100000 in
theorem zX (n:Int) (w:World):Calls Try.prog 66 #[(aj n)] w (fun e w'=>e= .returned (aB (decide (n=5) || decide (n=6)))∧Ext aV w w'):=by
 refine enter (n:=9) Try.func66 rfl rfl (ar rfl) ?_;intro a0 τ0 ha st0;have e0:=lL ha;refine wp_seq (ew st0 [] ⟨am fun c=>au rfl rfl,av⟩ fun ac ag ae ab aa=> ?_);replace e0:=aa.k1 e0;have e2:=aa.V 0;refine wp_seq (CZ ab [] ⟨aq e0,am fun c=>cu rfl (c.q 0) rfl,bk 1,bJ 2 rfl fun c hpc=>aN rfl (c.p e0),bJ 2 rfl fun c hpc=>cu rfl (c.M 3 hpc) rfl,dM 2 4,aK 5,av⟩ fun ac ag ae ab aa=> ?_);have e2:=aa.V 6;refine wp_ret ?_;refine rp ?_;refine cG (fn:=Try.f66) rfl ab.defers e2 ?_;exact ⟨rfl,ab.ext0⟩
end
section
open Go.RowKit
open Srt
def kg (ch:ByteArray) (ng:Bool) (rows:List Rw) (mn mx:Int) (lz:Bool):Bool:=((((gD ch (⟨#[]⟩:ByteArray)&& !ng)&&decide ((rows.length:Int)=0))&&decide (mn=0))&&decide (mx=0))&& !lz
set_option maxRecDepth 100000 in
theorem jq (k:Int) (ch:ByteArray) (ng:Bool) (rv:Value) (rows:List (ByteArray × ByteArray)) (mn mx:Int) (lz:Bool) (kv:Value) (ho:kv.oneCell'=true) (w:World) (hS:SlT gC w rv rows):Calls Try.prog 80 #[(.agg #[(aj k),(aR ch),(aB ng),rv,(aj mn),(aj mx),(aB lz),kv])] w (fun e w'=>e= .returned (aB (kg ch ng rows mn mx lz))∧Ext aV w w'):=by
 refine enter (n:=32) Try.func80 rfl rfl (ar rfl) ?_;intro a0 τ0 ha st0;have e0:aS a0 0=(.agg #[(aj k),(aR ch),(aB ng),rv,(aj mn),(aj mx),(aB lz),kv]):=ha 0 _ rfl;clear ha;refine wp_seq (rg [box _ _ 0 1 [(aj k),(aR ch),(aB ng),rv,(aj mn),(aj mx),(aB lz),kv],_] [0,0] st0 [] ⟨gV (v:=(.agg #[(aj k),(aR ch),(aB ng),rv,(aj mn),(aj mx),(aB lz),kv])) rfl rfl rfl rfl rfl (fun _ _ _ _ c=>(c.p e0)),am fun c=>au rfl rfl,av⟩ fun ac ag ae ab aa=> ?_);obtain ⟨b1x1,e1⟩:=gx ac 1;have e2:=aa.V 1;have r0:=aa.rb 0 e1 rfl;refine wp_seq (rg [_,_,_,_,_,_,_,_,_,_,_,_,_,_,_,_,_,_,_,_,_,_,_,_,_,_,_,_,_,_] [0,1,3,7,15,31,63,127,255,511,1023,2047,4095,8191,16383,32767,65535,131071,262143,524287,1048575,2097151,4194303,8388607,16777215,33554431,67108863,134217727,268435455,536870911] ab [jb r0] ⟨cg aA bq e1 r0.ptr,eG bQ 0 0 1,am fun c=>eX rfl (c.q 1) rfl,bk 2,aC 3 rfl fun c hpc=>cN rfl aA bC ((c.p e1).trans r0.ptr),aC 3 rfl fun c hpc=>az rfl cQ (c.M 4 hpc) ((c.B 0).cell (j:=2) rfl),aC 3 rfl fun c hpc=>dC rfl (c.M 5 hpc),bN 3 6,bk 7,aC 8 rfl fun c hpc=>cN rfl aA eW ((c.p e1).trans r0.ptr),aC 8 rfl fun c hpc=>az rfl lM (c.M 9 hpc) ((c.B 0).cell (j:=3) rfl),aC 8 rfl fun c hpc=>cU rfl bh (c.M 10 hpc) hS.sl,aC 8 rfl fun c hpc=>cu rfl (c.M 11 hpc) rfl,bN 8 12,bk 13,aC 14 rfl fun c hpc=>cN rfl aA ay ((c.p e1).trans r0.ptr),aC 14 rfl fun c hpc=>az rfl aD (c.M 15 hpc) ((c.B 0).cell (j:=4) rfl),aC 14 rfl fun c hpc=>cu rfl (c.M 16 hpc) rfl,bN 14 17,bk 18,aC 19 rfl fun c hpc=>cN rfl aA ay ((c.p e1).trans r0.ptr),aC 19 rfl fun c hpc=>az rfl aD (c.M 20 hpc) ((c.B 0).cell (j:=5) rfl),aC 19 rfl fun c hpc=>cu rfl (c.M 21 hpc) rfl,bN 19 22,bk 23,aC 24 rfl fun c hpc=>cN rfl aA bC ((c.p e1).trans r0.ptr),aC 24 rfl fun c hpc=>az rfl cQ (c.M 25 hpc) ((c.B 0).cell (j:=6) rfl),aC 24 rfl fun c hpc=>dC rfl (c.M 26 hpc),bN 24 27,aK 28,av⟩ fun ac ag ae ab aa=> ?_);have e2:=aa.V 29;refine wp_ret ?_;refine rp ?_;refine cG (fn:=Try.f80) rfl ab.defers e2 ?_;exact ⟨rfl,ab.ext0⟩
end
section
open Go.RowKit
open Srt
theorem mj {s:ByteArray} (h:gD s (⟨#[]⟩:ByteArray)=false):(0:Int) < (s.size:Int):=by
  have hl:=gY s;rw [ri] at h;cases hb:bs s with
  | nil =>
    have:s.data.toList=[]:=hb;rw [this] at h;simp at h
  | cons b l => rw [hb] at hl; simp at hl; omega
theorem pS {s:ByteArray} {k:Nat} (h:(decide ((k:Int)+1=(s.size:Int)) || kS (bI s ((k:Int)+1)))=true):gj s (k+1)=((gj s k).1++ [s.extract (gj s k).2 (k+1)],k+1):=by
  rw [gj,jp,if_pos (by rw [show ((k+1:Nat):Int)=(k:Int)+1 by omega];exact h)]
theorem nY {s:ByteArray} {k:Nat} (h:(decide ((k:Int)+1=(s.size:Int)) || kS (bI s ((k:Int)+1)))=false):gj s (k+1)=gj s k:=by
  rw [gj,jp,if_neg (by rw [show ((k+1:Nat):Int)=(k:Int)+1 by omega,h];decide)]
theorem vt {s:ByteArray} {k:Nat} (h:(decide ((k:Int)+1=(s.size:Int)) || kS (bI s ((k:Int)+1)))=true):(gj s (k+1)).1=(gj s k).1++ [s.extract (gj s k).2 ((k:Int)+1).toNat]:=by
  rw [pS h];rfl
theorem sW {s:ByteArray} {k:Nat} (h:(decide ((k:Int)+1=(s.size:Int)) || kS (bI s ((k:Int)+1)))=false):(gj s (k+1)).1=(gj s k).1:=by rw [nY h]
theorem la {s:ByteArray} {k:Nat} (h:(decide ((k:Int)+1=(s.size:Int)) || kS (bI s ((k:Int)+1)))=true):(gj s (k+1)).2=k+1:=by rw [pS h]
theorem jJ {s:ByteArray} {k:Nat} (h:(decide ((k:Int)+1=(s.size:Int)) || kS (bI s ((k:Int)+1)))=false):(gj s (k+1)).2=(gj s k).2:=by rw [nY h]
set_option maxRecDepth 100000 in
theorem sX (b:Int) (w:World):Calls Try.prog 17 #[.int .u8 b] w (fun e w'=>e= .returned (aB (nn b))∧Ext aV w w'):=by
 refine enter (n:=9) Try.func17 rfl rfl (ar rfl) ?_;intro a0 τ0 ha st0;have e0:=lL ha;refine wp_seq (ew st0 [] ⟨am fun c=>au rfl rfl,av⟩ fun ac ag ae ab aa=> ?_);replace e0:=aa.k1 e0;have e2:=aa.V 0;refine wp_seq (CZ ab [] ⟨aq e0,am fun c=>gl rfl (c.q 0) rfl,bk 1,aC 2 rfl fun c hpc=>aN rfl (c.p e0),aC 2 rfl fun c hpc=>jQ rfl (c.M 3 hpc) rfl,bN 2 4,aK 5,av⟩ fun ac ag ae ab aa=> ?_);have e2:=aa.V 6;refine wp_ret ?_;refine rp ?_;refine cG (fn:=Try.f17) rfl ab.defers e2 ?_;exact ⟨rfl,ab.ext0⟩
set_option maxRecDepth 100000 in
theorem xW (b:Int) (w:World):Calls Try.prog 44 #[.int .u8 b] w (fun e w'=>e= .returned (aB (kS b))∧Ext aV w w'):=by
 refine enter (n:=9) Try.func44 rfl rfl (ar rfl) ?_;intro a0 τ0 ha st0;have e0:=lL ha;refine wp_seq (ew st0 [] ⟨am fun c=>au rfl rfl,av⟩ fun ac ag ae ab aa=> ?_);replace e0:=aa.k1 e0;have e2:=aa.V 0;refine wp_seq (CZ ab [] ⟨aq e0,am fun c=>dt rfl (c.q 0) rfl,bk 1,bJ 2 rfl fun c hpc=>aN rfl (c.p e0),bJ 2 rfl fun c hpc=>jh rfl (c.M 3 hpc) rfl,dM 2 4,aK 5,av⟩ fun ac ag ae ab aa=> ?_);have e2:=aa.V 6;refine wp_ret ?_;refine rp ?_;refine cG (fn:=Try.f44) rfl ab.defers e2 ?_;exact ⟨rfl,ab.ext0⟩
set_option maxRecDepth 100000 in
theorem vu (s:ByteArray) (a:Nat) (w:World) (hs:s.size≤1000000000) (ha:a≤1000000000):Calls Try.prog 18 #[(aR s),(aj (a:Int))] w (fun e w'=>e= .returned (aj (endF s a:Nat))∧Ext aV w w'):=by
 refine enter (n:=20) Try.func18 rfl rfl (ar rfl) ?_;intro a0 τ0 ha st0;obtain ⟨e0,e1⟩:=pp ha;refine wp_seq (ew st0 [] ⟨am fun c=>au rfl rfl,av⟩ fun ac ag ae ab aa=> ?_);obtain ⟨e0,e1⟩:=aa.k2 e0 e1;have e4:=aa.V 0;refine wp_seq (eN ab [] ⟨aq e1,am fun c=>cZ rfl (c.q 0) rfl (by omega),aK 1,av⟩ fun ac ag ae ab aa=> ?_);obtain ⟨e0,e4⟩:=aa.k2 e0 e4;have e1:=aa.V 2;refine wp_seq ?_;refine wp_block ?_;refine wp_loop (fun a_ w_=>∃(m:Nat) (τ:Nat→aQ),(m+tw s m=a+1+tw s (a+1))∧
      (m≤1000000000+1)∧
      St (Nw w) w 20 a_ w_ τ∧
      aS a_ 1=(aj (m:Int))∧
      aS a_ 0=(aR s)∧
      aS a_ 4=(aj 0)) (fun a_ _=>s.size - (intOf (aS a_ 1)).toNat) ?_ ?_
 · refine ⟨a+1,ae,?_,?_,ab,(e1.trans (bE (by omega))),e0,e4⟩
   · rfl
   · omega
 intro a3 w3 hI;obtain ⟨m,τ3,q0,q1,st3,e1,e0,e4⟩:=hI;have m1:=e1;refine wp_seq ?_;refine wp_seq ?_;refine tV [0,0,2,7,15,31,31,127,255,511] st3 [] ⟨aq e1,aq e0,am fun c=>ie rfl br (c.q 1),am fun c=>dt rfl (c.q 0) (c.q 2),bk 3,aC 4 rfl fun c hpc=>aN rfl (c.p e0),aC 4 rfl fun c hpc=>aN rfl (c.p e1),aC 4 rfl fun c hpc=>gX rfl br (c.M 5 hpc) (c.M 6 hpc) (by have hq0:=bt hpc;omega) (by have hq0:=bt hpc;omega),fE 4 true rfl fun c hpc=>⟨_,_,(bw rfl rfl Try.call17 (c.M 7 hpc)),sX (bI s (m:Int)) _⟩,bN 4 8,av⟩ fun ac ag ae ab aa=> ?_;obtain ⟨e0,e1,e4⟩:=aa.k3 e0 e1 e4;have e16:=aa.V 9;refine wp_cond_split e16 (fun hc1=> ?_) (fun hc1=> ?_)
 · try simp only [ao,ah] at hc1
   refine wp_skip ?_;refine wp_block ?_;refine eN ab [] ⟨aq e1,am fun c=>cZ rfl (c.q 0) rfl (by omega),aK 1,av⟩ fun ac ag ae ab aa=> ?_;obtain ⟨e0,e4,e16⟩:=aa.k3 e0 e4 e16;have e1:=aa.V 2;show _;refine ⟨⟨m+1,ae,?_,?_,ab,(e1.trans (bE (by omega))),e0,e4⟩,?_⟩
   · obtain ⟨c1_,c2_⟩:=(by assumption:(m:Int) < (s.size:Int)∧nn (bI s (m:Int))=true);rw [←q0,np (by omega) c2_]
   · omega
   · simp only [m1,e1,intOf];omega
 try simp only [aM,ai,bd] at hc1
 refine wp_exit ?_;repeat (with_reducible refine ct ?_)
 refine cw ?_;refine wp_seq (eE ab [] ⟨aq e1,aK 0,av⟩ fun ac ag ae ab aa=> ?_);have e4:=aa.V 1;refine wp_ret ?_;refine rp ?_;refine cG (fn:=Try.f18) rfl ab.defers e4 ?_;have h_:(s.size:Int)≤(m:Int)∨nn (bI s (m:Int))=false:=by assumption
 have h2_:=rq (s:=s) (k:=m) (h_.elim (fun h=> .inl (by omega)) .inr);exact ⟨congrArg _ (bE (by unfold endF;omega)),ab.ext0⟩
set_option maxRecDepth 100000 in
theorem nC (s:ByteArray) (w:World) (hs:s.size≤1000000000):Calls Try.prog 5 #[(aR s)] w (fun e w'=>e= .returned (aB (cY s))∧Ext aV w w'):=by
 refine enter (n:=18) Try.func5 rfl rfl (ar rfl) ?_;intro a0 τ0 ha st0;have e0:=lL ha;refine wp_seq (ew st0 [] ⟨am fun c=>au rfl rfl,av⟩ fun ac ag ae ab aa=> ?_);replace e0:=aa.k1 e0;have e2:=aa.V 0;refine wp_seq ?_;refine rg [_,_,_,_,_,_,_,_,_,_,_,_,_,_,_,_] [0,1,3,7,15,31,63,127,255,511,1023,511,2559,8191,16383,32767] ab [] ⟨aq e0,am fun c=>lm rfl (c.q 0) rfl,bk 1,aC 2 rfl fun c hpc=>aN rfl (c.p e0),aC 2 rfl fun c hpc=>gX rfl br (c.M 3 hpc) rfl (by have hq0:=hpc;(try simp only [ax,aw] at hq0);first | omega | exact mj (by assumption)) (by have hq0:=hpc;(try simp only [ax,aw] at hq0);first | omega | exact mj (by assumption)),fE 2 true rfl fun c hpc=>⟨_,_,(bw rfl rfl Try.call17 (c.M 4 hpc)),sX (bI s 0) _⟩,aC 2 rfl fun c hpc=>dC rfl (c.M 5 hpc),bN 2 6,bk 7,aC 8 rfl fun c hpc=>aN rfl (c.p e0),fE 8 true rfl fun c hpc=>⟨_,_,(ca rfl rfl mI (c.M 9 hpc) rfl),vu s 0 _ (by have hq0:=hpc;(try simp only [ao,aM,ax,aw] at hq0);first | omega | exact mj (by assumption)) (by have hq0:=hpc;(try simp only [ao,aM,ax,aw] at hq0);first | omega | exact mj (by assumption))⟩,aC 8 rfl fun c hpc=>aN rfl (c.p e0),aC 8 rfl fun c hpc=>ie rfl br (c.M 11 hpc),aC 8 rfl fun c hpc=>cu rfl (c.M 10 hpc) (c.M 12 hpc),bN 8 13,aK 14,av⟩ fun ac ag ae ab aa=> ?_;have e2:=aa.V 15;refine wp_ret ?_;refine rp ?_;refine cG (fn:=Try.f5) rfl ab.defers e2 ?_;exact ⟨congrArg _ (congrArg _ (wc s)),ab.ext0⟩
set_option maxRecDepth 100000 in
theorem vv (s:ByteArray) (w:World) (hs:s.size≤1000000000):Calls Try.prog 32 #[(aR s)] w (fun e w'=>∃v',e= .returned v'∧Ext aV w w'∧mr fy 9 w w' v' (be s)):=by
 refine enter (n:=31) Try.func32 rfl rfl (ar rfl) ?_;intro a0 τ0 ha st0;have e0:=lL ha;refine wp_seq (ew st0 [] ⟨am fun c=>au rfl rfl,av⟩ fun ac ag ae ab aa=> ?_);replace e0:=aa.k1 e0;have e2:=aa.V 0;refine wp_seq (ew ab [] ⟨am fun c=>au rfl rfl,av⟩ fun ac ag ae ab aa=> ?_);obtain ⟨e0,e2⟩:=aa.k2 e0 e2;have e3:=aa.V 0;refine wp_seq (ew ab [] ⟨am fun c=>au rfl rfl,av⟩ fun ac ag ae ab aa=> ?_);obtain ⟨e0,e2,e3⟩:=aa.k3 e0 e2 e3;have e4:=aa.V 0;refine wp_seq ?_;refine wp_seq (ew ab [] ⟨am fun c=>au rfl rfl,av⟩ fun ac ag ae ab aa=> ?_);obtain ⟨e0,e2,e3,e4⟩:=aa.k4 e0 e2 e3 e4;have e5:=aa.V 0;refine wp_block ?_;refine wp_loop (fun a_ w_=>∃(k:Nat) (u:Value) (τ:Nat→aQ),(k≤s.size)∧
      St (Nw w) w 31 a_ w_ τ∧
      aS a_ 3=u∧
      aS a_ 4=(aj ((gj s k).2:Int))∧
      aS a_ 5=(aj ((k:Int)+1))∧
      aS a_ 0=(aR s)∧
      aS a_ 2=(.slice none 0 0)∧
      dq fy 9 ((gj s k).1) (τ 0) u w_) (fun a_ _=>s.size+1 - (intOf (aS a_ 5)).toNat) ?_ ?_
 · refine ⟨0,(.slice none 0 0),ae,?_,ab,e3,(e4.trans (bE (by first | omega | rfl | (rw [jJ (by assumption)]) | (rw [la (by assumption)];omega)))),(e5.trans (bE (by first | omega | rfl | (rw [jJ (by assumption)]) | (rw [la (by assumption)];omega)))),e0,e2,?_⟩
   · omega
   · exact dq.nil _ _ _ _
 intro a5 w5 hI;obtain ⟨k,u,τ5,q0,st5,e3,e4,e5,e0,e2,r0⟩:=hI;have hfr:=pu s k;have hln:=jF s k;have m5:=e5;refine wp_seq ?_;refine wp_seq (lS [0,0,2,7] st5 [jo r0] ⟨aq e5,aq e0,am fun c=>ie rfl br (c.q 1),am fun c=>jQ rfl (c.q 0) (c.q 2),av⟩ fun ac ag ae ab aa=> ?_);obtain ⟨e0,e2,e3,e4,e5⟩:=aa.k5 e0 e2 e3 e4 e5;have e9:=aa.V 3;replace r0:=aa.O 0;refine wp_cond_split e9 (fun hc1=> ?_) (fun hc1=> ?_)
 · try simp only [ah] at hc1
   refine wp_skip ?_;refine wp_seq ?_;refine wp_block ?_;refine wp_seq ?_;refine tV [0,0,2,7,15,31,31,127,255,511] ab [jo r0] ⟨aq e5,aq e0,am fun c=>ie rfl br (c.q 1),am fun c=>cu rfl (c.q 0) (c.q 2),bk 3,bJ 4 rfl fun c hpc=>aN rfl (c.p e0),bJ 4 rfl fun c hpc=>aN rfl (c.p e5),bJ 4 rfl fun c hpc=>gX rfl br (c.M 5 hpc) (c.M 6 hpc) (by have hq0:=bn hpc;omega) (by have hq0:=bn hpc;omega),fE 4 false rfl fun c hpc=>⟨_,_,(bw rfl rfl Try.call44 (c.M 7 hpc)),xW (bI s ((k:Int)+1)) _⟩,dM 4 8,av⟩ fun ac ag ae ab aa=> ?_;obtain ⟨e0,e2,e3,e4,e5,e9⟩:=aa.k6 e0 e2 e3 e4 e5 e9;have e21:=aa.V 9;replace r0:=aa.O 0;refine wp_cond_split e21 (fun hc2=> ?_) (fun hc2=> ?_)
   · have hd2:=hc2;try simp only [ba,ah] at hd2
     refine wp_seq ?_;refine rg [_,_,_,_,_,own fy 9 _ 1 27 ([s.extract ((gj s k).2:Int).toNat ((k:Int)+1).toNat]),own _ _ _ 0 28 _,own _ _ _ 0 3 _] [0,0,0,0,14,30,63,127] ab [jo r0] ⟨aq e3,aq e0,aq e4,aq e5,am fun c=>xi (s:=s) (p:=((gj s k).2:Int)) (q:=(k:Int)+1) rfl br (c.q 1) (c.q 2) (c.q 3) (by omega) (by omega) (by omega),cJ (cells:=#[(aR (s.extract ((gj s k).2:Int).toNat ((k:Int)+1).toNat))]) rfl rfl rfl rfl aY bq Try.zeroValue9 rfl (by decide) (by decide) (fun _ _ _ _ c=>fF (c.n 4 rfl) (by kernel_rfl)) rfl,dS (t0:=3) rfl rfl rfl rfl aY (i:=Try.t9) rfl rfl rfl rfl (by simp only [maxLen];(try simp);omega) (by show _ * 16≤_;(try simp);omega) (fun _ _ _ _ c=>⟨c.ip 0 rfl e3,c.sm (c.n 0 rfl) e3,⟨_,rfl,(c.ro 5 rfl).1.sl⟩⟩),de (t0:=28) rfl rfl rfl rfl rfl (.inr rfl) (fun _ _ _ _ c=>⟨c.ro 6 rfl,rfl⟩),av⟩ fun ac ag ae ab aa=> ?_;obtain ⟨b8x27,e27⟩:=gx ac 27;obtain ⟨b8x3,e3⟩:=gx ac 3;obtain ⟨e0,e2,e4,e5,e9,e21⟩:=aa.k6 e0 e2 e4 e5 e9 e21;replace r0:=aa.ro 7 e3 rfl;have r1:=aa.ro 5 e27 rfl;refine eE ab [jo r0,jo r1] ⟨aq e5,aK 0,av⟩ fun ac ag ae ab aa=> ?_;obtain ⟨e0,e2,e3,e5,e9,e21⟩:=aa.k6 e0 e2 e3 e5 e9 e21;have e4:=aa.V 1;replace r0:=aa.O 0;replace r1:=aa.O 1;show _;refine eN ab [jo r0,jo r1] ⟨aq e5,am fun c=>cZ rfl (c.q 0) rfl (by omega),aK 1,av⟩ fun ac ag ae ab aa=> ?_;obtain ⟨e0,e2,e3,e4,e9,e21⟩:=aa.k6 e0 e2 e3 e4 e9 e21;have e5:=aa.V 2;replace r0:=aa.O 0;replace r1:=aa.O 1;refine ⟨⟨k+1,b8x3,ae,?_,ab,e3,(e4.trans (bE (by first | omega | rfl | (rw [jJ (by assumption)]) | (rw [la (by assumption)];omega)))),(e5.trans (bE (by first | omega | rfl | (rw [jJ (by assumption)]) | (rw [la (by assumption)];omega)))),e0,e2,?_⟩,?_⟩
     · omega
     · exact r0.cast (by first | exact vt (by assumption) | exact sW (by assumption))
     · simp only [m5,e5,intOf];omega
   have hd2:=hc2;try simp only [aH,ai] at hd2
   refine wp_skip ?_;show _;refine eN ab [jo r0] ⟨aq e5,am fun c=>cZ rfl (c.q 0) rfl (by omega),aK 1,av⟩ fun ac ag ae ab aa=> ?_;obtain ⟨e0,e2,e3,e4,e9,e21⟩:=aa.k6 e0 e2 e3 e4 e9 e21;have e5:=aa.V 2;replace r0:=aa.O 0;refine ⟨⟨k+1,u,ae,?_,ab,e3,(e4.trans (bE (by first | omega | rfl | (rw [jJ (by assumption)]) | (rw [la (by assumption)];omega)))),(e5.trans (bE (by first | omega | rfl | (rw [jJ (by assumption)]) | (rw [la (by assumption)];omega)))),e0,e2,?_⟩,?_⟩
   · omega
   · exact r0.cast (by first | exact vt (by assumption) | exact sW (by assumption))
   · simp only [m5,e5,intOf];omega
 try simp only [ai,ea] at hc1
 refine wp_exit ?_;repeat (with_reducible refine ct ?_)
 refine cw ?_;refine wp_seq (eE ab [jo r0] ⟨aq e3,aK 0,av⟩ fun ac ag ae ab aa=> ?_);have e2:=aa.V 1;replace r0:=aa.O 0;refine wp_ret ?_;refine rp ?_;refine cG (fn:=Try.f32) rfl ab.defers e2 ?_;replace r0:=r0.cast (show be s=_ from by rw [be,show s.size=k by omega]);exact ⟨_,rfl,ab.ext0,r0.1,fun g_ h_=>(ab.bnd _ g_ (r0.2 g_ h_)).1⟩
set_option maxRecDepth 100000 in
theorem lY (s:ByteArray) (w:World) (hs:s.size≤1000000000):Calls Try.prog 78 #[(aR s)] w (fun e w'=>e= .returned (aB (cY s))∧Ext aV w w'):=by
 refine enter (n:=17) Try.func78 rfl rfl (ar rfl) ?_;intro a0 τ0 ha st0;have e0:=lL ha;refine wp_seq (ew st0 [] ⟨am fun c=>au rfl rfl,av⟩ fun ac ag ae ab aa=> ?_);replace e0:=aa.k1 e0;have e2:=aa.V 0;refine wp_seq ?_;refine rg [_,_,_,_,_,_,_,_,_,_,gown (((decide (0 < (s.size:Int)))&&(kS (bI s 0)))=true) fy 9 (Nw w) 0 13 (be s),_,_,_,_] [0,1,3,7,15,31,63,127,255,511,1023,2047,4095,8191,16383] ab [] ⟨aq e0,am fun c=>ie rfl br (c.q 0),am fun c=>jh rfl (c.q 1) rfl,bk 2,aC 3 rfl fun c hpc=>aN rfl (c.p e0),aC 3 rfl fun c hpc=>gX rfl br (c.M 4 hpc) rfl (by have hq0:=bt hpc;omega) (by have hq0:=bt hpc;omega),fE 3 true rfl fun c hpc=>⟨_,_,(bw rfl rfl Try.call44 (c.M 5 hpc)),xW (bI s 0) _⟩,bN 3 6,bk 7,aC 8 rfl fun c hpc=>aN rfl (c.p e0),rh (gi:=8) (tg:=11) rfl rfl rfl rfl rfl rfl Iff.rfl (fun hpc=>pd rfl rfl rfl (fun _ a_ _ _ c=>⟨_,_,(bw rfl rfl Try.call32 (c.M 9 hpc)),vv s _ (by have hq0:=hpc;(try simp only [ao,ah] at hq0);omega)⟩)),aC 8 rfl fun c hpc=>cU rfl aY rfl (c.rg 10 rfl hpc).isSl,aC 8 rfl fun c hpc=>cu rfl (c.M 11 hpc) rfl,bN 8 12,aK 13,av⟩ fun ac ag ae ab aa=> ?_;have e2:=aa.V 14;refine wp_ret ?_;refine rp ?_;refine cG (fn:=Try.f78) rfl ab.defers e2 ?_;exact ⟨congrArg _ (congrArg _ (ru s)),ab.ext0⟩
end
section
open Srt
def oC (s:ByteArray) (k:Int):Bool:=decide (k=(s.size:Int)) || kS (bI s k)
def qI (s:ByteArray):Nat→List Int
  | 0 => [0]
  | k + 1 => if oC s ((k : Int) + 1) = true then qI s k ++ [((k : Nat) : Int) + 1] else qI s k
def bc (s:ByteArray):List Int:=qI s s.size
theorem rI {s:ByteArray} {k:Nat} (h:oC s ((k:Int)+1)=true):qI s (k+1)=qI s k++ [((k:Nat):Int)+1]:=by rw [qI,if_pos h]
theorem pT {s:ByteArray} {k:Nat} (h:oC s ((k:Int)+1)=false):qI s (k+1)=qI s k:=by rw [qI,if_neg (by rw [h];decide)]
theorem xX {s:ByteArray} {k:Nat} (h:oC s ((k:Int)+1)=true):gj s (k+1)=((gj s k).1++ [s.extract (gj s k).2 (k+1)],k+1):=pS h
theorem xY {s:ByteArray} {k:Nat} (h:oC s ((k:Int)+1)=false):gj s (k+1)=gj s k:=nY h
theorem nD (s:ByteArray) (k:Nat):(qI s k).length=(gj s k).1.length+1:=by
  induction k with
  | zero => rfl
  | succ k ih =>
    cases h:oC s ((k:Int)+1) with
    | true => rw [rI h, xX h]; simp [ih]
    | false => rw [pT h, xY h, ih]
theorem uq (s:ByteArray):(bc s).length=(be s).length+1:=nD s s.size
theorem js {s:ByteArray} {p:Nat} (h:p < s.size):p < endF s p∧endF s p≤s.size:=by
  have:=CJ s (p+1) (by omega);unfold endF;omega
theorem xZ {s:ByteArray} {p m:Nat} (h:p < s.size) (h1:p < m) (h2:m < endF s p):oC s (m:Int)=false:=by
  have h3:∀d,p+1+d < endF s p→(p+1+d < s.size∧nn (bI s ((p+1+d:Nat):Int))=true)∧(p+1+d)+1+tw s (p+1+d+1)=endF s p:=by
    intro d;induction d with
    | zero =>
      intro hd;have hs:p+1 < s.size:=by have:=(js h).2;omega
      have hb:nn (bI s ((p+1:Nat):Int))=true:=by
        cases hb:nn (bI s ((p+1:Nat):Int)) with
        | true => rfl
        | false =>
          have:=rq (s:=s) (k:=p+1) (.inr hb);unfold endF at hd;omega
      refine ⟨⟨hs,hb⟩,?_⟩;have:=np hs hb;exact this.symm
    | succ d ih =>
      intro hd;obtain ⟨⟨i1,i2⟩,i3⟩:=ih (by omega);have hs:p+1+(d+1) < s.size:=by have:=(js h).2;omega
      have hb:nn (bI s ((p+1+(d+1):Nat):Int))=true:=by
        cases hb:nn (bI s ((p+1+(d+1):Nat):Int)) with
        | true => rfl
        | false =>
          have:=rq (s:=s) (k:=p+1+(d+1)) (.inr hb);have e:p+1+d+1=p+1+(d+1):=by omega
          rw [e] at i3;omega
      refine ⟨⟨hs,hb⟩,?_⟩;have:=np hs hb;have e:p+1+d+1=p+1+(d+1):=by omega
      rw [e] at i3;omega
  obtain ⟨d,rfl⟩:∃d,m=p+1+d:=⟨m - (p+1),by omega⟩;obtain ⟨⟨h4,h5⟩,_⟩:=h3 d h2;unfold oC;rw [jE,h5];simp;omega
theorem zY {s:ByteArray} {p:Nat} (h:p < s.size):oC s (endF s p:Int)=true:=by
  unfold oC;by_cases he:endF s p=s.size
  · rw [he];simp
  · have hlt:endF s p < s.size:=by have:=(js h).2;omega
    have hb:nn (bI s (endF s p:Int))=false:=by
      cases hb:nn (bI s (endF s p:Int)) with
      | false => rfl
      | true =>
        have h1:=np hlt hb;have h3:∀d,p+1+d≤endF s p→p+1+d+tw s (p+1+d)=endF s p:=by
          intro d;induction d with
          | zero => intro _; rfl
          | succ d ih =>
            intro hd;have i:=ih (by omega);have hx:=xZ h (m:=p+1+d) (by omega) (by omega);have hy:nn (bI s ((p+1+d:Nat):Int))=true:=by
              unfold oC at hx;rw [aH,jE] at hx;simpa using hx.2
            have:=np (s:=s) (k:=p+1+d) (by have:=(js h).2;omega) hy;have e:p+1+d+1=p+1+(d+1):=by omega
            rw [e] at this;omega
        have:=h3 (endF s p - (p+1)) (by have:=(js h).1;omega);have e:p+1+(endF s p - (p+1))=endF s p:=by have:=(js h).1;omega
        rw [e] at this
        omega
    rw [jE,hb];simp
theorem sY {s:ByteArray} {p:Nat} (h:p < s.size) (hs:(gj s p).2=p):gj s (endF s p)=((gj s p).1++ [s.extract p (endF s p)],endF s p)∧qI s (endF s p)=qI s p++ [(endF s p:Int)]:=by
  have h1:∀d,p+d < endF s p→gj s (p+d)=gj s p∧qI s (p+d)=qI s p:=by
    intro d;induction d with
    | zero => intro _; exact ⟨rfl, rfl⟩
    | succ d ih =>
      intro hd;obtain ⟨i1,i2⟩:=ih (by omega);have hb:=xZ h (m:=p+d+1) (by omega) (by omega);have e:((p+d+1:Nat):Int)=((p+d:Nat):Int)+1:=by omega
      rw [e] at hb;exact ⟨by rw [←Nat.add_assoc,xY hb,i1],by rw [←Nat.add_assoc,pT hb,i2]⟩
  obtain ⟨k,hk⟩:∃k,endF s p=k+1:=⟨endF s p - 1,by have:=(js h).1;omega⟩;obtain ⟨i1,i2⟩:=h1 (k - p) (by have:=(js h).1;omega);have e:p+(k - p)=k:=by have:=(js h).1;omega
  rw [e] at i1 i2;have hb:=zY h;rw [hk] at hb ⊢;have e2:((k+1:Nat):Int)=(k:Int)+1:=by omega
  rw [e2] at hb;rw [xX hb,rI hb,i1,i2,hs,e2];exact ⟨rfl,rfl⟩
theorem pU (s:ByteArray) (k:Nat):(qI s k).Pairwise (· < ·)∧(∀x ∈ qI s k,0≤x∧x≤(k:Int))∧(qI s k)[0]? =some 0:=by
  induction k with
  | zero => exact ⟨by simp [qI], fun x hx => by simp [qI] at hx; omega, rfl⟩
  | succ k ih =>
    obtain ⟨i1,i2,i3⟩:=ih;cases h:oC s ((k:Int)+1) with
    | true =>
      rw [rI h];refine ⟨?_,fun x hx=> ?_,?_⟩
      · rw [List.pairwise_append];refine ⟨i1,by simp,fun x hx y hy=> ?_⟩;simp at hy;have:=(i2 x hx).2;omega
      · rcases List.mem_append.1 hx with hx | hx
        · have:=i2 x hx;omega
        · simp at hx;omega
      · rw [fN (List.getElem?_eq_some_iff.1 i3).1];exact i3
    | false =>
      rw [pT h];exact ⟨i1,fun x hx=>by have:=i2 x hx;omega,i3⟩
theorem nE {xs:List Int} (h:xs.Pairwise (· < ·)) {i j:Nat} (hij:i < j) (hj:j < xs.length):nth xs (i:Int) < nth xs (j:Int):=by
  rw [iN,iN];have h1:=List.pairwise_iff_getElem.1 h i j (by omega) hj hij;simp only [List.getD,bm hj,bm (show i < xs.length by omega),Option.getD_some];exact h1
def plcF (xs:List Int) (x:Int):Nat:=(xs.takeWhile fun y=>decide (y < x)).length
theorem pV {xs:List Int} {x:Int} (h:xs.Pairwise (· < ·)) {i:Nat} (hi:i≤xs.length) (h1:∀j:Nat,j < i→nth xs (j:Int) < x) (h2:i < xs.length→x≤nth xs (i:Int)):plcF xs x=i:=by
  induction xs generalizing i with
  | nil => simp at hi; subst hi; rfl
  | cons y ys ih =>
    have hp:=List.pairwise_cons.1 h;cases i with
    | zero =>
      have:=h2 (by simp);have e:nth (y::ys) ((0:Nat):Int)=y:=rfl;rw [e] at this
      unfold plcF;rw [fh,if_neg (by simp;omega)];rfl
    | succ i =>
      have h0:=h1 0 (by omega);have e:nth (y::ys) ((0:Nat):Int)=y:=rfl;rw [e] at h0;have hs:∀j:Nat,nth (y::ys) ((j+1:Nat):Int)=nth ys (j:Int):=fun j=>by rw [iN,iN];rfl
      have:=ih hp.2 (i:=i) (by simp at hi;omega) (fun j hj=>by rw [←hs j];exact h1 (j+1) (by omega)) (fun hi2=>by rw [←hs i];exact h2 (by simp;omega));unfold plcF at this ⊢
      rw [fh,if_pos (by simpa using h0),bi,this]
def KQ (n k:Nat) (Q:Nat × Ps→Prop) (K:dZ):Prop:=∀(to:Nat) (ps:Ps) (φ:Fl),k≤to→to≤n→∀y,(K to ps φ).1=some y→Q y
theorem KQ.up {n k k':Nat} {Q:Nat × Ps→Prop} {K:dZ} (h:KQ n k Q K) (hk:k≤k'):KQ n k' Q K:=fun to ps φ h1 h2=>h to ps φ (by omega) h2
def RQ (n:Nat) (r:ig):Prop:=∀(k:Nat) (K:dZ) (ps:Ps) (φ:Fl) (Q:Nat × Ps→Prop),k≤n→KQ n k Q K→∀y,(r k K ps φ).1=some y→Q y
theorem ya {n:Nat}:∀(l:List ig),(∀r ∈ l,RQ n r)→RQ n (fY l)
  | [], _ => fun k K ps φ Q hk hK y hy => hK k ps φ (bj _) hk y hy
  | r :: l, h => fun k K ps φ Q hk hK y hy => h r (by simp) k (fun to ps φ => fY l to K ps φ) ps φ Q hk (fun to ps φ h1 h2 y hy => ya l (fun x hx => h x (by simp [hx])) to K ps φ Q h2 (hK.up h1) y hy) y hy
theorem yb {n:Nat}:∀(l:List ig),(∀r ∈ l,RQ n r)→RQ n (lW l)
  | [], _ => fun k K ps φ Q hk hK y hy => by cases hy
  | r :: l, h => fun k K ps φ Q hk hK y hy => by
    rw [lW] at hy;split at hy
    · exact h r (by simp) k K ps φ Q hk hK y hy
    · exact yb l (fun x hx=>h x (by simp [hx])) k K ps _ Q hk hK y hy
theorem sZ {n:Nat} {r:ig} (hr:RQ n r) {lo m:Nat} {mn mx:Int} {lz:Bool}:∀(g times:Nat),RQ n (dV r lo m mn mx lz g times)
  | 0, times => fun k K ps φ Q hk hK y hy => by cases hy
  | g + 1, times => fun k K ps φ Q hk hK y hy => by
    have h1:∀y,(fK mn lz times k K ps φ).1=some y→Q y:=fun y hy=>by
      unfold fK at hy;split at hy
      · exact hK k ps φ (bj _) hk y hy
      · cases hy
    have h2:∀φ y,(iE r lo m mn mx lz g times k K ps φ).1=some y→Q y:=fun φ y hy=>hr k (ez r lo m mn mx lz g times k K) _ φ Q hk (fun to ps φ a1 a2 y hy=>by
      unfold ez at hy;split at hy
      · exact sZ hr g (times+1) to K ps φ Q a2 (hK.up a1) y hy
      · cases hy) y hy
    have h3:∀φ y,(gP mn lz times k K ps φ).1=some y→Q y:=fun φ y hy=>by
      unfold gP at hy;split at hy
      · exact hK k ps φ (bj _) hk y hy
      · cases hy
    rw [kV] at hy;split at hy
    · exact h1 y hy
    · split at hy
      · split at hy
        · exact h2 _ y hy
        · exact h3 _ y hy
      · exact h3 _ y hy
theorem rJ {n:Nat} {l:List ig} (h:∀r ∈ l,RQ n r):RQ n (qz l):=by
  cases l with
  | nil => exact fun k K ps φ Q hk hK y hy => by cases hy
  | cons r l => exact h r (by simp)
theorem zZ {E:Env} {t:Tr} {lo m:Nat} {l:List ig} (h:∀r ∈ l,RQ E.cs.length r):RQ E.cs.length (hY E t lo m l):=fun k K ps φ Q hk hK y hy=>by
  unfold hY at hy;split at hy
  · cases hy
  · split at hy
    · exact ya l h k K ps φ Q hk hK y hy
    · split at hy
      · exact yb l h k K ps φ Q hk hK y hy
      · split at hy
        · exact sZ (rJ h) _ _ k K ps φ Q hk hK y hy
        · split at hy
          · cases hy
          · unfold jY at hy;split at hy
            · exact rJ h k _ ps _ Q hk (fun to ps φ a1 a2 y hy=>hK to _ φ a1 a2 y hy) y hy
            · split at hy
              · exact rJ h k K ps _ Q hk hK y hy
              · split at hy
                · split at hy
                  · rename_i hc;simp only [ao,ah] at hc;exact hK (k+1) ps _ (by omega) (by omega) y hy
                  · cases hy
                · split at hy
                  · exact hK k ps _ (bj _) hk y hy
                  · cases hy
theorem iZ (E:Env) (p:Pt):RQ E.cs.length (aX E p):=by
  induction p using Pt.ind with
  | h p ih =>
    rw [jg];exact zZ fun r hr=>by
      obtain ⟨q,hq,rfl⟩:=List.mem_map.1 hr;exact ih q hq
end
section
open Go.RowKit
open Srt
set_option maxRecDepth 100000 in
theorem CO (r:ByteArray × ByteArray) (w:World) (h1:r.1.size≤1000000000) (h2:r.2.size≤1000000000):Calls Try.prog 24 #[(.agg #[(aR r.1),(aR r.2)])] w (fun e w'=>e= .returned (aB (eh r))∧Ext aV w w'):=by
 refine enter (n:=18) Try.func24 rfl rfl (ar rfl) ?_;intro a0 τ0 ha st0;have e0:aS a0 0=(.agg #[(aR r.1),(aR r.2)]):=ha 0 _ rfl;clear ha;refine wp_seq (rg [box _ _ 0 1 [(aR r.1),(aR r.2)],_] [0,0] st0 [] ⟨gV (v:=(.agg #[(aR r.1),(aR r.2)])) rfl rfl rfl rfl rfl (fun _ _ _ _ c=>(c.p e0)),am fun c=>au rfl rfl,av⟩ fun ac ag ae ab aa=> ?_);obtain ⟨b1x1,e1⟩:=gx ac 1;have e2:=aa.V 1;have r0:=aa.rb 0 e1 rfl;refine wp_seq ?_;refine rg [_,_,_,_,_,_,_,_,_,_,_,_,_,_,_,_] [0,1,3,7,15,31,63,127,255,511,1023,511,2559,8191,16383,32767] ab [jb r0] ⟨cg bP bq e1 r0.ptr,eG bQ 0 0 0,eu fun c=>⟨_,_,(bw rfl rfl Try.call5 (c.q 1)),nC r.1 _ (by omega)⟩,bk 2,aC 3 rfl fun c hpc=>cN rfl bP bq ((c.p e1).trans r0.ptr),aC 3 rfl fun c hpc=>az rfl bQ (c.M 4 hpc) ((c.B 0).cell (j:=1) rfl),fE 3 true rfl fun c hpc=>⟨_,_,(bw rfl rfl Try.call5 (c.M 5 hpc)),nC r.2 _ (by have hq0:=hpc;omega)⟩,bN 3 6,bk 7,aC 8 rfl fun c hpc=>cN rfl bP bq ((c.p e1).trans r0.ptr),aC 8 rfl fun c hpc=>az rfl bQ (c.M 9 hpc) ((c.B 0).cell (j:=0) rfl),aC 8 rfl fun c hpc=>cN rfl bP bq ((c.p e1).trans r0.ptr),aC 8 rfl fun c hpc=>az rfl bQ (c.M 11 hpc) ((c.B 0).cell (j:=1) rfl),aC 8 rfl fun c hpc=>pj rfl (c.M 10 hpc) (c.M 12 hpc),bN 8 13,aK 14,av⟩ fun ac ag ae ab aa=> ?_;have e2:=aa.V 15;refine wp_ret ?_;refine rp ?_;refine cG (fn:=Try.f24) rfl ab.defers e2 ?_;exact ⟨rfl,ab.ext0⟩
set_option maxRecDepth 100000 in
theorem BG (v:Value) (xs:List (ByteArray × ByteArray)) (w:World) (hS:SlT gC w v xs) (hz:pF xs) (hbig:xs.length≤1000000000):Calls Try.prog 81 #[v] w (fun e w'=>e= .returned (aB (ls xs))∧Ext aV w w'):=by
 refine enter (n:=31) Try.func81 rfl rfl (ar rfl) ?_;intro a0 τ0 ha st0;have e0:=lL ha;have hle:=hS.le;refine wp_seq (ew st0 [] ⟨am fun c=>au rfl rfl,av⟩ fun ac ag ae ab aa=> ?_);replace e0:=aa.k1 e0;have e2:=aa.V 0;refine wp_seq ?_;refine wp_seq (zp [0,1,0] ab [] ⟨aq e0,am fun c=>cU rfl bh (c.q 0) hS.sl,am fun c=>aN rfl rfl,av⟩ fun ac ag ae ab aa=> ?_);obtain ⟨e0,e2⟩:=aa.k2 e0 e2;have e5:=aa.V 0;have e6:=aa.V 1;have e7:=aa.V 2;refine wp_block ?_;refine wp_loop (fun a_ w_=>∃(k:Nat) (τ:Nat→aQ),(k≤xs.length)∧
      (∀i < k,pG xs ((i:Nat):Int)=false)∧
      St (Nw w) w 31 a_ w_ τ∧
      aS a_ 7=(aj (k:Int))∧
      aS a_ 0=v∧
      aS a_ 5=v∧
      aS a_ 6=(aj (xs.length:Int))) (fun a_ _=>xs.length - (intOf (aS a_ 7)).toNat) ?_ ?_
 · refine ⟨0,ae,?_,?_,ab,(e7.trans (bE (by omega))),e0,e5,e6⟩
   · omega
   · intro i hi;omega
 intro a3 w3 hI;obtain ⟨k,τ3,q0,q1,st3,e7,e0,e5,e6⟩:=hI;have hzk:=sG hz (k:=k);have m7:=e7;refine wp_seq (ew st3 [] ⟨am fun c=>dt rfl (c.p e7) (c.p e6),av⟩ fun ac ag ae ab aa=> ?_);obtain ⟨e0,e5,e6,e7⟩:=aa.k4 e0 e5 e6 e7;have e8:=aa.V 0;refine wp_seq ?_;refine wp_cond_split e8 (fun hc1=> ?_) (fun hc1=> ?_)
 · try simp only [ah] at hc1
   refine wp_skip ?_;refine wp_seq ?_;refine wp_block ?_;refine wp_seq (rg [_,_,_,box _ _ 0 4 [(aR (⟨#[]⟩:ByteArray)),(aR (⟨#[]⟩:ByteArray))],_,_] [0,0,2,0,15,31] ab [] ⟨aq e7,am fun c=>aW rfl bh bR (c.p e5) hS.sl (c.p e7) (by omega) (by omega),am fun c=>dB (vs:=[(aR ((nth xs (k:Int)).1)),(aR ((nth xs (k:Int)).2))]) rfl gT bR (c.q 1) rfl (fun _ _ hj=>(hS.at (ab.ext.trans c.J.ext)).elem (bD (i:=(k:Int)) (by omega) (by omega)) hj),ci rfl rfl rfl rfl cI rfl,aK 0,fJ (cx:=[(aR ((nth xs (k:Int)).1)),(aR ((nth xs (k:Int)).2))]) (off:=0) rfl bR fun c=>⟨c.rb 3 rfl,(c.rb 3 rfl).ptr,(c.q 2)⟩,av⟩ fun ac ag ae ab aa=> ?_);obtain ⟨b5x4,e4⟩:=gx ac 4;obtain ⟨e0,e5,e6,e7,e8⟩:=aa.k5 e0 e5 e6 e7 e8;have e3:=aa.V 4;have r0:=aa.rb 5 e4 rfl;refine wp_seq ?_;refine rg [_,_,_,_,_,_,_,_,_,_,_,_,_,_,_,_,_,_] [0,1,3,7,15,31,63,127,255,127,127,1151,3711,7807,15999,32767,65535,131071] ab [jb r0] ⟨am fun c=>eB rfl gT bR ((c.p e4).trans r0.ptr) (c.B 0),eu fun c=>⟨_,_,(bw rfl rfl Try.call24 (c.q 0)),CO (nth xs (k:Int)) _ (by omega) (by omega)⟩,am fun c=>dC rfl (c.q 1),bk 2,bJ 3 rfl fun c hpc=>aN rfl (c.p e3),bJ 3 rfl fun c hpc=>jh rfl (c.M 4 hpc) rfl,bJ 3 rfl fun c hpc=>aN rfl (c.M 5 hpc),cA 6 true rfl fun c hpc=>cN rfl bP bq ((c.p e4).trans r0.ptr),cA 6 true rfl fun c hpc=>az rfl bQ (c.M 7 hpc) ((c.B 0).cell (j:=0) rfl),cA 6 true rfl fun c hpc=>aN rfl (c.p e0),cA 6 true rfl fun c hpc=>aN rfl (c.p e3),cA 6 true rfl fun c hpc=>kn rfl (c.M 10 hpc) rfl (by have hq0:=bt hpc.2;have hq1:=hpc.1;(try simp only [ax,aw] at hq1);omega),cA 6 true rfl fun c hpc=>aW rfl bh bR (c.M 9 hpc) hS.sl (c.M 11 hpc) (by have hq0:=bt hpc.2;have hq1:=hpc.1;(try simp only [ax,aw] at hq1);omega) (by have hq0:=bt hpc.2;have hq1:=hpc.1;(try simp only [ax,aw] at hq1);omega),cA 6 true rfl fun c hpc=>cN rfl bP bq (c.M 12 hpc),cA 6 true rfl fun c hpc=>az rfl bQ (c.M 13 hpc) ((hS.at (ab.ext.trans c.J.ext)).elem (j:=1) (bD (i:=(k:Int) - 1) (by have hq0:=bt hpc.2;have hq1:=hpc.1;(try simp only [ax,aw] at hq1);omega) (by have hq0:=bt hpc.2;have hq1:=hpc.1;(try simp only [ax,aw] at hq1);omega)) rfl),cA 6 true rfl fun c hpc=>pj rfl (c.M 8 hpc) (c.M 14 hpc),bJ 3 rfl fun c hpc=>lD rfl (c.M 6 hpc) (fun h=>c.m 15 rfl (And.intro hpc h)),dM 3 16,av⟩ fun ac ag ae ab aa=> ?_;obtain ⟨e0,e3,e4,e5,e6,e7,e8⟩:=aa.k7 e0 e3 e4 e5 e6 e7 e8;have e29:=aa.V 17;replace r0:=aa.B 0;refine wp_cond_split e29 (fun hc2=> ?_) (fun hc2=> ?_)
   · have hd2:=hc2;try simp only [ao,aM,ba,aH,ax,aw,ah,ai,bd] at hd2
     refine wp_seq (ew ab [jb r0] ⟨am fun c=>au rfl rfl,av⟩ fun ac ag ae ab aa=> ?_);obtain ⟨e0,e3,e4,e5,e6,e7,e8,e29⟩:=aa.k8 e0 e3 e4 e5 e6 e7 e8 e29;have e2:=aa.V 0;replace r0:=aa.B 0;refine wp_ret ?_;refine rp ?_;refine cG (fn:=Try.f81) rfl ab.defers e2 ?_;exact ⟨congrArg _ (congrArg _ (by exact (wm (k:=k) (by omega) (by assumption)).symm)),ab.ext0⟩
   have hd2:=hc2;try simp only [ao,aM,ba,aH,ax,aw,ah,ai,bd] at hd2
   refine wp_skip ?_;show _;refine eE ab [jb r0] ⟨am fun c=>cZ rfl (c.p e7) rfl (by omega),bk 0,av⟩ fun ac ag ae ab aa=> ?_;obtain ⟨e0,e3,e4,e5,e6,e8,e29⟩:=aa.k7 e0 e3 e4 e5 e6 e8 e29;have e7:=aa.V 1;replace r0:=aa.B 0;refine ⟨⟨k+1,ae,?_,?_,ab,(e7.trans (bE (by omega))),e0,e5,e6⟩,?_⟩
   · omega
   · exact qx q1 (by assumption)
   · simp only [m7,e7,intOf];omega
 try simp only [ai,bd] at hc1
 refine wp_exit ?_;repeat (with_reducible refine ct ?_)
 refine cw ?_;refine wp_seq (ew ab [] ⟨am fun c=>au rfl rfl,av⟩ fun ac ag ae ab aa=> ?_);have e2:=aa.V 0;refine wp_ret ?_;refine rp ?_;refine cG (fn:=Try.f81) rfl ab.defers e2 ?_;exact ⟨congrArg _ (congrArg _ (by exact (pH q1 (by omega)).symm)),ab.ext0⟩
end
section
open Go.RowKit
open Srt
def nZ (k:Int):Bool:=decide (k=2) || (decide (k=3) || (decide (k=4) || (decide (k=5) || decide (k=6))))
set_option maxRecDepth 100000 in
theorem ur (k:Int) (w:World):Calls Try.prog 82 #[(aj k)] w (fun e w'=>e= .returned (aB (nZ k))∧Ext aV w w'):=by
 refine enter (n:=10) Try.func82 rfl rfl (ar rfl) ?_;intro a0 τ0 ha st0;have e0:=lL ha;refine wp_seq (ew st0 [] ⟨am fun c=>au rfl rfl,av⟩ fun ac ag ae ab aa=> ?_);replace e0:=aa.k1 e0;have e2:=aa.V 0;refine wp_seq ?_;refine wp_seq (ew ab [] ⟨aq e0,av⟩ fun ac ag ae ab aa=> ?_);replace e2:=aa.k1 e2;have e3:=aa.V 0;refine wp_block ?_;refine wp_seq ?_;refine wp_seq (eE ab [] ⟨am fun c=>cu rfl (c.p e3) rfl,aK 0,av⟩ fun ac ag ae ab aa=> ?_);obtain ⟨e2,e3⟩:=aa.k2 e2 e3;have e4:=aa.V 1;refine wp_cond_split e4 (fun hc1=> ?_) (fun hc1=> ?_)
 · have hd1:=hc1;try simp only [ah] at hd1
   refine wp_skip ?_;refine wp_cond_true (e4.trans (congrArg _ hc1)) ?_;refine wp_seq (ew ab [] ⟨am fun c=>au rfl rfl,av⟩ fun ac ag ae ab aa=> ?_);have e2:=aa.V 0;refine wp_ret ?_;refine rp ?_;refine cG (fn:=Try.f82) rfl ab.defers e2 ?_;exact ⟨congrArg _ (congrArg _ (by unfold nZ;symm;simp;omega)),ab.ext0⟩
 have hd2:=hc1;try simp only [ai] at hd2
 refine wp_seq (eE ab [] ⟨am fun c=>cu rfl (c.p e3) rfl,aK 0,av⟩ fun ac ag ae ab aa=> ?_);obtain ⟨e2,e3⟩:=aa.k2 e2 e3;have e4:=aa.V 1;refine wp_cond_split e4 (fun hc3=> ?_) (fun hc3=> ?_)
 · have hd3:=hc3;try simp only [ah] at hd3
   refine wp_skip ?_;refine wp_cond_true (e4.trans (congrArg _ hc3)) ?_;refine wp_seq (ew ab [] ⟨am fun c=>au rfl rfl,av⟩ fun ac ag ae ab aa=> ?_);have e2:=aa.V 0;refine wp_ret ?_;refine rp ?_;refine cG (fn:=Try.f82) rfl ab.defers e2 ?_;exact ⟨congrArg _ (congrArg _ (by unfold nZ;symm;simp;omega)),ab.ext0⟩
 have hd4:=hc3;try simp only [ai] at hd4
 refine wp_seq (eE ab [] ⟨am fun c=>cu rfl (c.p e3) rfl,aK 0,av⟩ fun ac ag ae ab aa=> ?_);obtain ⟨e2,e3⟩:=aa.k2 e2 e3;have e4:=aa.V 1;refine wp_cond_split e4 (fun hc5=> ?_) (fun hc5=> ?_)
 · have hd5:=hc5;try simp only [ah] at hd5
   refine wp_skip ?_;refine wp_cond_true (e4.trans (congrArg _ hc5)) ?_;refine wp_seq (ew ab [] ⟨am fun c=>au rfl rfl,av⟩ fun ac ag ae ab aa=> ?_);have e2:=aa.V 0;refine wp_ret ?_;refine rp ?_;refine cG (fn:=Try.f82) rfl ab.defers e2 ?_;exact ⟨congrArg _ (congrArg _ (by unfold nZ;symm;simp;omega)),ab.ext0⟩
 have hd6:=hc5;try simp only [ai] at hd6
 refine wp_seq (eE ab [] ⟨am fun c=>cu rfl (c.p e3) rfl,aK 0,av⟩ fun ac ag ae ab aa=> ?_);obtain ⟨e2,e3⟩:=aa.k2 e2 e3;have e4:=aa.V 1;refine wp_cond_split e4 (fun hc7=> ?_) (fun hc7=> ?_)
 · have hd7:=hc7;try simp only [ah] at hd7
   refine wp_skip ?_;refine wp_cond_true (e4.trans (congrArg _ hc7)) ?_;refine wp_seq (ew ab [] ⟨am fun c=>au rfl rfl,av⟩ fun ac ag ae ab aa=> ?_);have e2:=aa.V 0;refine wp_ret ?_;refine rp ?_;refine cG (fn:=Try.f82) rfl ab.defers e2 ?_;exact ⟨congrArg _ (congrArg _ (by unfold nZ;symm;simp;omega)),ab.ext0⟩
 have hd8:=hc7;try simp only [ai] at hd8
 refine eE ab [] ⟨am fun c=>cu rfl (c.p e3) rfl,aK 0,av⟩ fun ac ag ae ab aa=> ?_;replace e2:=aa.k1 e2;have e4:=aa.V 1;refine wp_cond_split e4 (fun hc9=> ?_) (fun hc9=> ?_)
 · have hd9:=hc9;try simp only [ah] at hd9
   refine wp_seq (ew ab [] ⟨am fun c=>au rfl rfl,av⟩ fun ac ag ae ab aa=> ?_);have e2:=aa.V 0;refine wp_ret ?_;refine rp ?_;refine cG (fn:=Try.f82) rfl ab.defers e2 ?_;exact ⟨congrArg _ (congrArg _ (by unfold nZ;symm;simp;omega)),ab.ext0⟩
 have hd9:=hc9;try simp only [ai] at hd9
 refine wp_skip ?_;show _;refine wp_seq (ew ab [] ⟨am fun c=>au rfl rfl,av⟩ fun ac ag ae ab aa=> ?_);have e2:=aa.V 0;refine wp_ret ?_;refine rp ?_;refine cG (fn:=Try.f82) rfl ab.defers e2 ?_;exact ⟨congrArg _ (congrArg _ (by unfold nZ;symm;simp;omega)),ab.ext0⟩
set_option maxRecDepth 100000 in
theorem Aa (v:Value) (xs:List Int) (x:Int) (w:World) (hS:SlT iV w v xs):Calls Try.prog 99 #[v,(aj x)] w (fun e w'=>e= .returned (aj (AX (fun y=>decide (x=y)) xs))∧Ext aV w w'):=by
 refine enter (n:=19) Try.func99 rfl rfl (ar rfl) ?_;intro a0 τ0 ha st0;obtain ⟨e0,e1⟩:=pp ha;have hle:=hS.le;refine wp_seq (ew st0 [] ⟨am fun c=>au rfl rfl,av⟩ fun ac ag ae ab aa=> ?_);obtain ⟨e0,e1⟩:=aa.k2 e0 e1;have e4:=aa.V 0;refine wp_seq ?_;refine wp_seq (zp [0,1,0] ab [] ⟨aq e0,am fun c=>cU rfl ce (c.q 0) hS.sl,am fun c=>aN rfl rfl,av⟩ fun ac ag ae ab aa=> ?_);obtain ⟨e0,e1,e4⟩:=aa.k3 e0 e1 e4;have e7:=aa.V 1;have e8:=aa.V 2;refine wp_block ?_;refine wp_loop (fun a_ w_=>∃(k:Nat) (τ:Nat→aQ),(k≤xs.length)∧
      (∀y ∈ xs.take k,decide (x=y)=false)∧
      St (Nw w) w 19 a_ w_ τ∧
      aS a_ 8=(aj (k:Int))∧
      aS a_ 0=v∧
      aS a_ 1=(aj x)∧
      aS a_ 7=(aj (xs.length:Int))) (fun a_ _=>xs.length - (intOf (aS a_ 8)).toNat) ?_ ?_
 · refine ⟨0,ae,?_,?_,ab,(e8.trans (bE (by omega))),e0,e1,e7⟩
   · omega
   · simp
 intro a3 w3 hI;obtain ⟨k,τ3,q0,q1,st3,e8,e0,e1,e7⟩:=hI;have m8:=e8;refine wp_seq (ew st3 [] ⟨am fun c=>dt rfl (c.p e8) (c.p e7),av⟩ fun ac ag ae ab aa=> ?_);obtain ⟨e0,e1,e7,e8⟩:=aa.k4 e0 e1 e7 e8;have e9:=aa.V 0;refine wp_seq ?_;refine wp_cond_split e9 (fun hc1=> ?_) (fun hc1=> ?_)
 · try simp only [ah] at hc1
   refine wp_skip ?_;refine wp_seq ?_;refine wp_block ?_;refine wp_seq (eE ab [] ⟨aq e8,aK 0,av⟩ fun ac ag ae ab aa=> ?_);obtain ⟨e0,e1,e7,e8,e9⟩:=aa.k5 e0 e1 e7 e8 e9;have e5:=aa.V 1;refine wp_seq (Cr [0,0,0,6,14,31] ab [] ⟨aq e1,aq e0,aq e5,am fun c=>aW rfl ce ay (c.q 1) hS.sl (c.q 2) (by omega) (by omega),am fun c=>az rfl aD (c.q 3) ((hS.at (ab.ext.trans c.J.ext)).elem (j:=0) (bD (i:=(k:Int)) (by omega) (by omega)) rfl),am fun c=>cu rfl (c.q 0) (c.q 4),av⟩ fun ac ag ae ab aa=> ?_);obtain ⟨e0,e1,e5,e7,e8,e9⟩:=aa.k6 e0 e1 e5 e7 e8 e9;have e16:=aa.V 5;refine wp_cond_split e16 (fun hc2=> ?_) (fun hc2=> ?_)
   · have hd2:=hc2;try simp only [ah] at hd2
     refine wp_seq (eE ab [] ⟨aq e5,aK 0,av⟩ fun ac ag ae ab aa=> ?_);obtain ⟨e0,e1,e5,e7,e8,e9,e16⟩:=aa.k7 e0 e1 e5 e7 e8 e9 e16;have e4:=aa.V 1;refine wp_ret ?_;refine rp ?_;refine cG (fn:=Try.f99) rfl ab.defers e4 ?_;exact ⟨congrArg _ (bE (by first | exact (rx (f:=fun y=>decide (x=y)) (by omega) q1 (by assumption)).symm | exact (oL (f:=fun y=>decide (x=y)) (k:=k) (by omega) q1).symm)),ab.ext0⟩
   have hd2:=hc2;try simp only [ai] at hd2
   refine wp_skip ?_;show _;refine eE ab [] ⟨am fun c=>cZ rfl (c.p e8) rfl (by omega),bk 0,av⟩ fun ac ag ae ab aa=> ?_;obtain ⟨e0,e1,e5,e7,e9,e16⟩:=aa.k6 e0 e1 e5 e7 e9 e16;have e8:=aa.V 1;refine ⟨⟨k+1,ae,?_,?_,ab,(e8.trans (bE (by omega))),e0,e1,e7⟩,?_⟩
   · omega
   · exact uZ (f:=fun y=>decide (x=y)) (by omega) q1 (by assumption)
   · simp only [m8,e8,intOf];omega
 try simp only [ai,bd] at hc1
 refine wp_exit ?_;repeat (with_reducible refine ct ?_)
 refine cw ?_;refine wp_seq (ew ab [] ⟨am fun c=>au rfl rfl,av⟩ fun ac ag ae ab aa=> ?_);have e4:=aa.V 0;refine wp_ret ?_;refine rp ?_;refine cG (fn:=Try.f99) rfl ab.defers e4 ?_;exact ⟨congrArg _ (bE (by first | exact (rx (f:=fun y=>decide (x=y)) (by omega) q1 (by assumption)).symm | exact (oL (f:=fun y=>decide (x=y)) (k:=k) (by omega) q1).symm)),ab.ext0⟩
set_option maxRecDepth 100000 in
theorem yc (v:Value) (xs:List Int) (x:Int) (w:World) (hS:SlT iV w v xs):Calls Try.prog 96 #[v,(aj x)] w (fun e w'=>e= .returned (aB (xs.any fun y=>decide (x=y)))∧Ext aV w w'):=by
 refine enter (n:=9) Try.func96 rfl rfl (ar rfl) ?_;intro a0 τ0 ha st0;obtain ⟨e0,e1⟩:=pp ha;have hle:=hS.le;refine wp_seq (ew st0 [] ⟨am fun c=>au rfl rfl,av⟩ fun ac ag ae ab aa=> ?_);obtain ⟨e0,e1⟩:=aa.k2 e0 e1;have e4:=aa.V 0;refine wp_seq (zB [0,0,3,7,15] ab [] ⟨aq e0,aq e1,eu fun c=>⟨_,_,(ca rfl rfl Try.call99 (c.q 0) (c.q 1)),Aa v xs x _ (hS.at (ab.ext.trans c.J.ext))⟩,am fun c=>gl rfl (c.q 2) rfl,aK 3,av⟩ fun ac ag ae ab aa=> ?_);have e4:=aa.V 4;refine wp_ret ?_;refine rp ?_;refine cG (fn:=Try.f96) rfl ab.defers e4 ?_;exact ⟨congrArg _ (congrArg _ (xA _ _)),ab.ext0⟩
end
section
open Go.RowKit
open Srt
set_option maxRecDepth 100000 in
theorem te (v:Value) (xs:List (ByteArray × ByteArray)) (w:World) (hS:SlT gC w v xs) (hb:xs.length≤1000000000):Calls Try.prog 54 #[v] w (fun e w'=>∃v',e= .returned v'∧Ext aV w w'∧mr gC 47 w w' v' xs):=by
 refine enter (n:=8) Try.func54 rfl rfl (ar rfl) ?_;intro a0 τ0 ha st0;have e0:=lL ha;have hle:=hS.le;refine wp_seq (ew st0 [] ⟨am fun c=>au rfl rfl,av⟩ fun ac ag ae ab aa=> ?_);replace e0:=aa.k1 e0;have e2:=aa.V 0;refine wp_seq ?_;refine wp_seq (eE ab [] ⟨aq e0,am fun c=>uQ rfl bh (c.q 0) hS.sl,av⟩ fun ac ag ae ab aa=> ?_);obtain ⟨e0,e2⟩:=aa.k2 e0 e2;have e4:=aa.V 1;refine wp_cond_split e4 (fun hc1=> ?_) (fun hc1=> ?_)
 · skip;refine wp_seq (ew ab [] ⟨am fun c=>au rfl rfl,av⟩ fun ac ag ae ab aa=> ?_);replace e0:=aa.k1 e0;have e2:=aa.V 0;refine wp_ret ?_;refine rp ?_;refine cG (fn:=Try.f54) rfl ab.defers e2 ?_;have hnil:xs=[]:=hS.isNil (by assumption);subst hnil;exact ⟨_,rfl,ab.ext0,gQ.nil _ _ _,fun g_ h_=>by simp [Value.ownBlock] at h_⟩
 skip;refine wp_skip ?_;refine wp_seq ?_;refine rg [own gC 47 _ 0 5 ([]),_,own _ _ _ 0 7 _,own _ _ _ 0 2 _] [0,0,3,7] ab [] ⟨kC rfl rfl rfl rfl bh bR,aq e0,dS (t0:=5) rfl rfl rfl rfl bh (i:=Try.t47) rfl rfl rfl rfl (by simp only [maxLen];(try simp);omega) (by show _ * 32≤_;(try simp);omega) (fun _ _ _ _ c=>⟨c.ro 0 rfl,rfl,⟨_,(c.n 1 rfl),(hS.at (ab.ext.trans c.J.ext))⟩⟩),de (t0:=7) rfl rfl rfl rfl rfl (.inr rfl) (fun _ _ _ _ c=>⟨c.ro 2 rfl,rfl⟩),av⟩ fun ac ag ae ab aa=> ?_;obtain ⟨b4x2,e2⟩:=gx ac 2;have r0:=aa.ro 3 e2 rfl;refine wp_ret ?_;refine rp ?_;refine cG (fn:=Try.f54) rfl ab.defers e2 ?_;rw [fc] at r0;exact ⟨_,rfl,ab.ext0,r0.1,fun g_ h_=>(ab.bnd _ g_ (r0.2 g_ h_)).1⟩
set_option maxRecDepth 100000 in
theorem ut (t:Tr) (ih:∀k ∈ t.kids,∀(w:World),oI w k→eJ k≤1000000→Calls Try.prog 37 #[k.v] w (fun e w'=>∃t':Tr,e= .returned t'.v∧Ext aV w w'∧TrT (Gn aV w) w' t'∧er t'=er k)) (w:World) (hT:oI w t) (hP:eJ t≤1000000):Calls Try.prog 37 #[t.v] w (fun e w'=>∃t':Tr,e= .returned t'.v∧Ext aV w w'∧TrT (Gn aV w) w' t'∧er t'=er t):=by
 refine enter (n:=26) Try.func37 rfl rfl (ar rfl) ?_;intro a0 τ0 ha st0;have e0:aS a0 0=(ta t):=ha 0 _ rfl;clear ha;have hle:=hT.kids.le;have hwt:=fQ t;have hpk:∀k:Nat,k < t.kids.length→eJ (nth t.kids (k:Int))≤1000000:=fun k h_=>by have h1_:=oM (bo (xs:=t.kids) (i:=(k:Int)) (by omega) (by omega));omega
 refine wp_seq (rg [box _ _ 0 1 (tc t),box _ _ 1 2 [(aj 0),(aR (⟨#[]⟩:ByteArray)),(aB false),(.slice none 0 0),(aj 0),(aj 0),(aB false),(.slice none 0 0)]] [0,0] st0 [] ⟨gV (v:=(ta t)) rfl rfl rfl rfl rfl (fun _ _ _ _ c=>(c.p e0)),ci rfl rfl rfl rfl aG rfl,av⟩ fun ac ag ae ab aa=> ?_);obtain ⟨b1x1,e1⟩:=gx ac 1;obtain ⟨b1x2,e2⟩:=gx ac 2;have r0:=aa.rb 0 e1 rfl;have r1:=aa.rb 1 e2 rfl;refine wp_seq ?_;refine bz ?_;refine cO 3 (by kernel_rfl) ?_;refine og [_,_,kF _ 8 (fun b:Sv=>b.v) (fun _=>True) (fun b:Sv=>eY gC (Gn aV w) b.v t.rows)] [0,1,3] ab [jb r0,jb r1] ⟨cg aA eW e1 r0.ptr,eG lM 0 0 3,iP (f:=fun b:Sv=>b.v) (Ψ:=fun _=>True) (Φ:=fun b:Sv=>eY gC (Gn aV w) b.v t.rows) fun {_ a_ _ _} c=>⟨_,_,(bw rfl rfl Try.call54 (c.q 1)),(te t.rv.v t.rows _ (hT.at (ab.ext.trans c.J.ext)).rows (by omega)).mono (fun e w' ⟨v_,he_,hx_,hn_⟩=>by obtain ⟨s_,rfl⟩:=hn_.1.sl.sl.sv;exact ⟨s_,he_,hx_,av,c.sn ab hx_ hn_⟩)⟩,av⟩ fun ac ag ae ab aa=> ?_;obtain ⟨e1,e2⟩:=aa.k2 e1 e2;obtain ⟨rw1_,e8,-,hz2⟩:=aa.zd 2 rfl;have e8:aS ac 8=rw1_.v:=e8;replace r0:=aa.B 0;replace r1:=aa.B 1;have r2:=hz2;refine cP ?_;refine og [_,_] [0,1] ab [jb r0,jb r1,jz 2 r2] ⟨cg aA eW e1 r0.ptr,bX (cx:=[(aj t.k),(aR t.ch),(aB t.ng),rw1_.v,(aj t.mn),(aj t.mx),(aB t.lz),t.kv.v]) eW fun c=>⟨c.bp 0 rfl e1,c.ad (c.q 0) e1 rfl,(c.p e8)⟩,av⟩ fun ac ag ae ab aa=> ?_;obtain ⟨e1,e2⟩:=aa.k2 e1 e2;replace r0:=aa.RB 1 e1;replace r1:=aa.B 1;replace r2:=aa.z1 2;refine wp_seq (ew ab [jb r0,jb r1,jz 2 r2] ⟨am fun c=>au rfl rfl,av⟩ fun ac ag ae ab aa=> ?_);obtain ⟨e1,e2⟩:=aa.k2 e1 e2;have e3:=aa.V 0;replace r0:=aa.B 0;replace r1:=aa.B 1;replace r2:=aa.z1 2;refine wp_seq ?_;refine wp_seq (lS [0,1,3,0] ab [jb r0,jb r1,jz 2 r2] ⟨cg aA ck e1 r0.ptr,eG dh 0 0 7,am fun c=>cU rfl aP (c.q 1) (hT.at ab.ext).tl.sl.sl,am fun c=>aN rfl rfl,av⟩ fun ac ag ae ab aa=> ?_);obtain ⟨e1,e2,e3⟩:=aa.k3 e1 e2 e3;have e11:=aa.V 1;have e12:=aa.V 2;have e13:=aa.V 3;replace r0:=aa.B 0;replace r1:=aa.B 1;replace r2:=aa.z1 2;refine wp_block ?_;refine wp_loop (fun a_ w_=>∃(k:Nat) (u:Value) (ts:List Tr) (τ:Nat→aQ),(k≤t.kids.length)∧
      (ts.map er=(t.kids.take k).map er)∧
      St (Nw w) w 26 a_ w_ τ∧
      aS a_ 3=u∧
      aS a_ 13=(aj (k:Int))∧
      aS a_ 1=b1x1∧
      aS a_ 2=b1x2∧
      aS a_ 11=t.kv.v∧
      aS a_ 12=(aj (t.kids.length:Int))∧
      dq lE 32 ts (τ 5) u w_∧
      Fz (kH (Gn aV w) ts) τ w_∧
      cj 32 [(aj t.k),(aR t.ch),(aB t.ng),rw1_.v,(aj t.mn),(aj t.mx),(aB t.lz),t.kv.v] (τ 0) b1x1 w_∧
      cj 32 [(aj 0),(aR (⟨#[]⟩:ByteArray)),(aB false),(.slice none 0 0),(aj 0),(aj 0),(aB false),(.slice none 0 0)] (τ 1) b1x2 w_∧
      Fz (eY gC (Gn aV w) rw1_.v t.rows) τ w_) (fun a_ _=>t.kids.length - (intOf (aS a_ 13)).toNat) ?_ ?_
 · refine ⟨0,(.slice none 0 0),[],ae,?_,?_,ab,e3,(e13.trans (bE (by omega))),e1,e2,e11,e12,?_,?_,r0,r1,r2⟩
   · omega
   · simp
   · exact dq.nil _ _ _ _
   · exact Fz.tn _ _ _
 intro a6 w6 hI;obtain ⟨k,u,ts,τ6,q0,q1,st6,e3,e13,e1,e2,e11,e12,r5,r6,r0,r1,r2⟩:=hI;have hpk0:=hpk k;have htl:ts.length=k:=by have h_:=congrArg List.length q1;simp at h_;omega
 have m13:=e13;refine wp_seq (ew st6 [jb r0,jb r1,jz 2 r2,jo r5,jz 6 r6] ⟨am fun c=>dt rfl (c.p e13) (c.p e12),av⟩ fun ac ag ae ab aa=> ?_);obtain ⟨e1,e2,e3,e11,e12,e13⟩:=aa.k6 e1 e2 e3 e11 e12 e13;have e14:=aa.V 0;replace r0:=aa.B 0;replace r1:=aa.B 1;obtain ⟨r2,r6⟩:=aa.z2 2 6;replace r5:=aa.O 5;refine wp_seq ?_;refine wp_cond_split e14 (fun hc1=> ?_) (fun hc1=> ?_)
 · try simp only [ah] at hc1
   refine wp_skip ?_;refine wp_seq ?_;refine wp_block ?_;refine wp_seq (rg [_,_,box _ _ 3 5 [(aj 0),(aR (⟨#[]⟩:ByteArray)),(aB false),(.slice none 0 0),(aj 0),(aj 0),(aB false),(.slice none 0 0)],_] [0,1,0,7] ab [jb r0,jb r1,jz 2 r2,jo r5,jz 6 r6] ⟨am fun c=>aW rfl aP ak (c.p e11) (hT.at ab.ext).tl.sl.sl (c.p e13) (by omega) (by omega),am fun c=>dB (vs:=(tc (nth t.kids (k:Int)))) rfl aE ak (c.q 0) rfl (fun _ _ hj=>((hT.at (ab.ext.trans c.J.ext)).tl.sl).elem (bD (i:=(k:Int)) (by omega) (by omega)) hj),ci rfl rfl rfl rfl aG rfl,fJ (cx:=(tc (nth t.kids (k:Int)))) (off:=0) rfl ak fun c=>⟨c.rb 2 rfl,(c.rb 2 rfl).ptr,(c.q 1)⟩,av⟩ fun ac ag ae ab aa=> ?_);obtain ⟨b8x5,e5⟩:=gx ac 5;obtain ⟨e1,e2,e3,e11,e12,e13,e14⟩:=aa.k7 e1 e2 e3 e11 e12 e13 e14;replace r0:=aa.B 0;replace r1:=aa.B 1;replace r2:=aa.z1 2;have r3:=aa.rb 3 e5 rfl;replace r5:=aa.O 5;replace r6:=aa.z1 6;refine bz ?_;refine cO 3 (by kernel_rfl) ?_;refine og [_,_,kF _ 19 (fun b:Tr=>b.v) (fun b:Tr=>er b=er (nth t.kids (k:Int))) (fun b:Tr=>iF (Gn aV w) b)] [0,0,2] ab [jb r0,jb r1,jz 2 r2,jb r3,jo r5,jz 6 r6] ⟨aq e3,am fun c=>eB rfl aE ak ((c.p e5).trans r3.ptr) (c.B 3),iP (f:=fun b:Tr=>b.v) (Ψ:=fun b:Tr=>er b=er (nth t.kids (k:Int))) (Φ:=fun b:Tr=>iF (Gn aV w) b) fun {_ a_ _ _} c=>⟨_,_,(bw rfl rfl Try.call37 (c.q 1)),(ih _ (bo (by omega) (by omega)) _ ((hT.at (ab.ext.trans c.J.ext)).tl.el (by omega) (by omega)) (by omega)).mono (fun e w' ⟨t_,he_,hx_,ht_,hq_⟩=>⟨t_,he_,hx_,hq_,c.tn ab hx_ ht_⟩)⟩,av⟩ fun ac ag ae ab aa=> ?_;obtain ⟨e1,e2,e3,e5,e11,e12,e13,e14⟩:=aa.k8 e1 e2 e3 e5 e11 e12 e13 e14;have e17:=aa.V 0;obtain ⟨t2_,e19,hqt2_,hz9⟩:=aa.zd 2 rfl;have e19:aS ac 19=(ta t2_):=e19;replace r0:=aa.B 0;replace r1:=aa.B 1;obtain ⟨r2,r6⟩:=aa.z2 2 6;replace r3:=aa.B 3;replace r5:=aa.O 5;have r4:=hz9;refine cP ?_;refine og [own lE 32 _ 7 20 ([t2_]),own _ _ _ 5 21 _,own _ _ _ 5 3 _] [0,1,3] ab [jb r0,jb r1,jz 2 r2,jb r3,jz 4 r4,jo r5,jz 6 r6] ⟨cJ (cells:=#[(aj t2_.k),(aR t2_.ch),(aB t2_.ng),t2_.rv.v,(aj t2_.mn),(aj t2_.mx),(aB t2_.lz),t2_.kv.v]) rfl rfl rfl rfl aP ak aG rfl (by decide) (by decide) (fun _ _ _ _ c=>fF (c.p e19) (by kernel_rfl)) rfl,dS (t0:=3) rfl rfl rfl rfl aP (i:=Try.t32) rfl rfl rfl rfl (by simp only [maxLen];(try simp);omega) (by show _ * 104≤_;(try simp);omega) (fun _ _ _ _ c=>⟨c.ip 5 rfl e3,c.sm (c.p e17) e3,⟨_,rfl,(c.ro 0 rfl).1.sl⟩⟩),de (t0:=21) rfl rfl rfl rfl rfl (.inr rfl) (fun _ _ _ _ c=>⟨c.ro 1 rfl,rfl⟩),av⟩ fun ac ag ae ab aa=> ?_;obtain ⟨b10x20,e20⟩:=gx ac 20;obtain ⟨b10x3,e3⟩:=gx ac 3;obtain ⟨e1,e2,e5,e11,e12,e13,e14⟩:=aa.k7 e1 e2 e5 e11 e12 e13 e14;replace r0:=aa.B 0;replace r1:=aa.B 1;obtain ⟨r2,r4,r6⟩:=aa.z3 2 4 6;replace r3:=aa.B 3;replace r5:=aa.ro 2 e3 rfl;have r7:=aa.ro 0 e20 rfl;show _;refine eE ab [jb r0,jb r1,jz 2 r2,jb r3,jz 4 r4,jo r5,jz 6 r6,jo r7] ⟨am fun c=>cZ rfl (c.p e13) rfl (by omega),bk 0,av⟩ fun ac ag ae ab aa=> ?_;obtain ⟨e1,e2,e3,e5,e11,e12,e14⟩:=aa.k7 e1 e2 e3 e5 e11 e12 e14;have e13:=aa.V 1;replace r0:=aa.B 0;replace r1:=aa.B 1;obtain ⟨r2,r4,r6⟩:=aa.z3 2 4 6;replace r3:=aa.B 3;replace r5:=aa.O 5;replace r7:=aa.O 7;refine ⟨⟨k+1,b10x3,ts++ [t2_],ae,?_,?_,ab,e3,(e13.trans (bE (by omega))),e1,e2,e11,e12,?_,?_,r0,r1,r2⟩,?_⟩
   · omega
   · rw [eT (by omega),bA,bA,q1];simp [*]
   · exact r5.cast (by rfl)
   · exact Fz.snoc r6 r4
   · simp only [m13,e13,intOf];omega
 try simp only [ai,bd] at hc1
 refine wp_exit ?_;repeat (with_reducible refine ct ?_)
 refine cw ?_;refine wp_seq ?_;obtain ⟨kv0,rfl⟩:=r5.isSl.sv;refine eN ab [jb r0,jb r1,jz 2 r2,jo r5,jz 6 r6] ⟨aq e3,cg aA ck e1 r0.ptr,bX (cx:=[(aj t.k),(aR t.ch),(aB t.ng),rw1_.v,(aj t.mn),(aj t.mx),(aB t.lz),kv0.v]) ck fun c=>⟨c.bp 0 rfl e1,c.ad (c.q 1) e1 rfl,(c.q 0)⟩,av⟩ fun ac ag ae ab aa=> ?_;obtain ⟨e1,e2⟩:=aa.k2 e1 e2;replace r0:=aa.RB 2 e1;replace r1:=aa.B 1;obtain ⟨r2,r6⟩:=aa.z2 2 6;replace r5:=aa.O 5;refine wp_seq (eE ab [jb r0,jb r1,jz 2 r2,jo r5,jz 6 r6] ⟨am fun c=>eB rfl aE ak ((c.p e1).trans r0.ptr) (c.B 0),bX (cx:=[(aj t.k),(aR t.ch),(aB t.ng),rw1_.v,(aj t.mn),(aj t.mx),(aB t.lz),kv0.v]) (off:=0) ak fun c=>⟨c.bp 1 rfl e2,c.ad ((c.p e2).trans r1.ptr) e2 rfl,(c.q 0)⟩,av⟩ fun ac ag ae ab aa=> ?_);replace e2:=aa.k1 e2;replace r1:=aa.RB 1 e2;obtain ⟨r2,r6⟩:=aa.z2 2 6;replace r5:=aa.O 5;refine wp_ret ?_;refine rp ?_;refine mw (fn:=Try.f37) rfl ab.defers e2 r1 aE ak rfl ?_;exact ⟨⟨t.k,t.ch,t.ng,rw1_,t.rows,t.mn,t.mx,t.lz,kv0,ts⟩,rfl,ab.ext0,.mk r2.1 (fun hn=>(r2.2 hn).2) r5.1.sl (fun hn=> .inr (ab.bnd _ _ (r5.blk hn)).1) r6.outs,by rw [lR,lR t,q1,bL (by omega)]⟩
theorem Ab (t:Tr):∀(w:World),oI w t→eJ t≤1000000→Calls Try.prog 37 #[t.v] w (fun e w'=>∃t':Tr,e= .returned t'.v∧Ext aV w w'∧TrT (Gn aV w) w' t'∧er t'=er t):=Tr.ind (P:=fun t=>∀(w:World),oI w t→eJ t≤1000000→Calls Try.prog 37 #[t.v] w (fun e w'=>∃t':Tr,e= .returned t'.v∧Ext aV w w'∧TrT (Gn aV w) w' t'∧er t'=er t)) ut t
end
section
open Go.RowKit
open Srt
theorem AZ {xs:List Tr} {k:Nat} (h:k < xs.length):eJ (nth xs (k:Int))≤cR (xs.map eJ)∧cR ((xs.take (k+1)).map eJ)=cR ((xs.take k).map eJ)+eJ (nth xs (k:Int))∧cR ((xs.take (k+1)).map eJ)≤cR (xs.map eJ):=
  ⟨va (fun t _=>by have:=kw t;omega) (bo (by omega) (by omega)),sE h,(xB (fun t _=>by have:=kw t;omega) _).2⟩
theorem pW {ts xs:List Tr} {k:Int} {n:Nat} (hq:ts.map er=fi k ((xs.take n).map er)):(ts.length:Int)≤cR ((xs.take n).map eJ):=by
  have h:=wk hq;have h1:∀l:List Tr,cR (l.map cE)≤cR (l.map eJ):=by
    intro l;induction l using em with
    | h0 => exact ei _
    | h1 l x ih =>
      rw [bA,bA,aZ,bF,aZ,bF,dL,dL];have:=pD x;omega
  have:=h1 (xs.take n);omega
set_option maxRecDepth 100000 in
theorem BH (kind:Int) (v:Value) (xs:List Tr) (w:World) (hS:TlS w v xs) (hP:cR (xs.map eJ)≤1000000):Calls Try.prog 23 #[(aj kind),v] w (fun e w'=>∃v' ts,e= .returned v'∧Ext aV w w'∧mr lE 32 w w' v' ts∧(∀t ∈ ts,TrT (fun g=>(Gn aV w) g∧v'.ownBlock≠some g) w' t)∧ts.map er=fi kind (xs.map er)):=by
 refine enter (n:=30) Try.func23 rfl rfl (ar rfl) ?_;intro a0 τ0 ha st0;obtain ⟨e0,e1⟩:=pp ha;have hle:=hS.sl.le;refine wp_seq (ew st0 [] ⟨am fun c=>au rfl rfl,av⟩ fun ac ag ae ab aa=> ?_);obtain ⟨e0,e1⟩:=aa.k2 e0 e1;have e4:=aa.V 0;refine wp_seq (ew ab [] ⟨am fun c=>au rfl rfl,av⟩ fun ac ag ae ab aa=> ?_);obtain ⟨e0,e1,e4⟩:=aa.k3 e0 e1 e4;have e5:=aa.V 0;refine wp_seq ?_;refine wp_seq (zp [0,1,0] ab [] ⟨aq e1,am fun c=>cU rfl aP (c.q 0) (hS.at ab.ext).sl.sl,am fun c=>aN rfl rfl,av⟩ fun ac ag ae ab aa=> ?_);obtain ⟨e0,e4,e5⟩:=aa.k3 e0 e4 e5;have e8:=aa.V 0;have e9:=aa.V 1;have e10:=aa.V 2;refine wp_block ?_;refine wp_loop (fun a_ w_=>∃(k:Nat) (u:Value) (ts:List Tr) (τ:Nat→aQ),(k≤xs.length)∧
      (ts.map er=fi kind ((xs.take k).map er))∧
      St (Nw w) w 30 a_ w_ τ∧
      aS a_ 5=u∧
      aS a_ 10=(aj (k:Int))∧
      aS a_ 0=(aj kind)∧
      aS a_ 4=(.slice none 0 0)∧
      aS a_ 8=v∧
      aS a_ 9=(aj (xs.length:Int))∧
      dq lE 32 ts (τ 5) u w_∧
      Fz (kH (Gn aV w) ts) τ w_) (fun a_ _=>xs.length - (intOf (aS a_ 10)).toNat) ?_ ?_
 · refine ⟨0,(.slice none 0 0),[],ae,?_,?_,ab,e5,(e10.trans (bE (by omega))),e0,e4,e8,e9,?_,?_⟩
   · omega
   · simp [fi]
   · exact dq.nil _ _ _ _
   · exact Fz.tn _ _ _
 intro a4 w4 hI;obtain ⟨k,u,ts,τ4,q0,q1,st4,e5,e10,e0,e4,e8,e9,r5,r6⟩:=hI;have hw:=AZ (xs:=xs) (k:=k);have hrm:=pW q1;have hpk:k < xs.length→eJ (nth xs (k:Int))≤1000000:=fun h_=>by have h2_:=hw h_;omega
 have m10:=e10;refine wp_seq (ew st4 [jo r5,jz 6 r6] ⟨am fun c=>dt rfl (c.p e10) (c.p e9),av⟩ fun ac ag ae ab aa=> ?_);obtain ⟨e0,e4,e5,e8,e9,e10⟩:=aa.k6 e0 e4 e5 e8 e9 e10;have e11:=aa.V 0;replace r5:=aa.O 5;replace r6:=aa.z1 6;refine wp_seq ?_;refine wp_cond_split e11 (fun hc1=> ?_) (fun hc1=> ?_)
 · try simp only [ah] at hc1
   refine wp_skip ?_;refine wp_seq ?_;refine wp_block ?_;refine wp_seq (rg [_,_,box _ _ 0 7 [(aj 0),(aR (⟨#[]⟩:ByteArray)),(aB false),(.slice none 0 0),(aj 0),(aj 0),(aB false),(.slice none 0 0)],_] [0,1,0,7] ab [jo r5,jz 6 r6] ⟨am fun c=>aW rfl aP ak (c.p e8) (hS.at ab.ext).sl.sl (c.p e10) (by omega) (by omega),am fun c=>dB (vs:=(tc (nth xs (k:Int)))) rfl aE ak (c.q 0) rfl (fun _ _ hj=>((hS.at (ab.ext.trans c.J.ext)).sl).elem (bD (i:=(k:Int)) (by omega) (by omega)) hj),ci rfl rfl rfl rfl aG rfl,fJ (cx:=(tc (nth xs (k:Int)))) (off:=0) rfl ak fun c=>⟨c.rb 2 rfl,(c.rb 2 rfl).ptr,(c.q 1)⟩,av⟩ fun ac ag ae ab aa=> ?_);obtain ⟨b6x7,e7⟩:=gx ac 7;obtain ⟨e0,e4,e5,e8,e9,e10,e11⟩:=aa.k7 e0 e4 e5 e8 e9 e10 e11;have r0:=aa.rb 3 e7 rfl;replace r5:=aa.O 5;replace r6:=aa.z1 6;refine wp_seq ?_;refine bz ?_;refine cO 2 (by kernel_rfl) ?_;refine og [_,kF _ 15 (fun b:Tr=>b.v) (fun b:Tr=>er b=er (nth xs (k:Int))) (fun b:Tr=>iF (Gn aV w) b)] [0,1] ab [jb r0,jo r5,jz 6 r6] ⟨am fun c=>eB rfl aE ak ((c.p e7).trans r0.ptr) (c.B 0),iP (f:=fun b:Tr=>b.v) (Ψ:=fun b:Tr=>er b=er (nth xs (k:Int))) (Φ:=fun b:Tr=>iF (Gn aV w) b) fun {_ a_ _ _} c=>⟨_,_,(bw rfl rfl Try.call37 (c.q 0)),(Ab (nth xs (k:Int)) _ ((hS.at (ab.ext.trans c.J.ext)).el (by omega) (by omega)) (by omega)).mono (fun e w' ⟨t_,he_,hx_,ht_,hq_⟩=>⟨t_,he_,hx_,hq_,c.tn ab hx_ ht_⟩)⟩,av⟩ fun ac ag ae ab aa=> ?_;obtain ⟨e0,e4,e5,e7,e8,e9,e10,e11⟩:=aa.k8 e0 e4 e5 e7 e8 e9 e10 e11;obtain ⟨t1_,e15,hqt1_,hz7⟩:=aa.zd 1 rfl;have e15:aS ac 15=(ta t1_):=e15;replace r0:=aa.B 0;replace r5:=aa.O 5;replace r6:=aa.z1 6;have r1:=hz7;refine cP ?_;refine og [_] [0] ab [jb r0,jz 1 r1,jo r5,jz 6 r6] ⟨bX (cx:=(tc t1_)) (off:=0) ak fun c=>⟨c.bp 0 rfl e7,c.ad ((c.p e7).trans r0.ptr) e7 rfl,(c.p e15)⟩,av⟩ fun ac ag ae ab aa=> ?_;obtain ⟨e0,e4,e5,e7,e8,e9,e10,e11⟩:=aa.k8 e0 e4 e5 e7 e8 e9 e10 e11;replace r0:=aa.RB 0 e7;obtain ⟨r1,r6⟩:=aa.z2 1 6;replace r5:=aa.O 5;have hek:=zI hqt1_;have hew:=(fQ (nth xs (k:Int))).1;refine wp_seq (lS [0,1,0,7] ab [jb r0,jz 1 r1,jo r5,jz 6 r6] ⟨cg aA ay e7 r0.ptr,eG aD 0 0 0,aq e0,am fun c=>cu rfl (c.q 1) (c.q 2),av⟩ fun ac ag ae ab aa=> ?_);obtain ⟨e0,e4,e5,e7,e8,e9,e10,e11⟩:=aa.k8 e0 e4 e5 e7 e8 e9 e10 e11;have e19:=aa.V 3;replace r0:=aa.B 0;obtain ⟨r1,r6⟩:=aa.z2 1 6;replace r5:=aa.O 5;refine wp_cond_split e19 (fun hc2=> ?_) (fun hc2=> ?_)
   · try simp only [ah] at hc2
     refine rg [_,_,_,own _ _ _ 5 23 _,own _ _ _ 5 5 _] [0,0,2,7,15] ab [jb r0,jz 1 r1,jo r5,jz 6 r6] ⟨aq e5,cg aA ck e7 r0.ptr,eG dh 1 0 7,dS (t0:=5) rfl rfl rfl rfl aP (i:=Try.t32) rfl rfl rfl rfl (by simp only [maxLen];(try simp);omega) (by show _ * 104≤_;(try simp);omega) (fun _ _ _ _ c=>⟨c.ip 5 rfl e5,c.sm (c.n 0 rfl) e5,⟨_,(c.n 2 rfl),(zs (c.iz 1 rfl)).tl.sl⟩⟩),de (t0:=23) rfl rfl rfl rfl rfl (.inr rfl) (fun _ _ _ _ c=>⟨c.ro 3 rfl,rfl⟩),av⟩ fun ac ag ae ab aa=> ?_;obtain ⟨b10x5,e5⟩:=gx ac 5;obtain ⟨e0,e4,e7,e8,e9,e10,e11,e19⟩:=aa.k8 e0 e4 e7 e8 e9 e10 e11 e19;replace r0:=aa.B 0;obtain ⟨r1,r6⟩:=aa.z2 1 6;replace r5:=aa.ro 4 e5 rfl;show _;refine eE ab [jb r0,jz 1 r1,jo r5,jz 6 r6] ⟨am fun c=>cZ rfl (c.p e10) rfl (by omega),bk 0,av⟩ fun ac ag ae ab aa=> ?_;obtain ⟨e0,e4,e5,e7,e8,e9,e11,e19⟩:=aa.k8 e0 e4 e5 e7 e8 e9 e11 e19;have e10:=aa.V 1;replace r0:=aa.B 0;obtain ⟨r1,r6⟩:=aa.z2 1 6;replace r5:=aa.O 5;refine ⟨⟨k+1,b10x5,ts++t1_.kids,ae,?_,?_,ab,e5,(e10.trans (bE (by omega))),e0,e4,e8,e9,?_,?_⟩,?_⟩
     · omega
     · first | exact ns (by omega) q1 (by assumption) (by assumption) rfl | exact mf (by omega) q1 (by assumption) (by assumption)
     · exact r5.cast (by rfl)
     · exact Fz.app r6 r1.kl
     · simp only [m10,e10,intOf];omega
   try simp only [ai] at hc2
   refine rg [_,_,own lE 32 _ 2 26 ([t1_]),own _ _ _ 5 27 _,own _ _ _ 5 5 _] [0,0,2,7,15] ab [jb r0,jz 1 r1,jo r5,jz 6 r6] ⟨aq e5,am fun c=>eB rfl aE ak ((c.p e7).trans r0.ptr) (c.B 0),cJ (cells:=#[(aj t1_.k),(aR t1_.ch),(aB t1_.ng),t1_.rv.v,(aj t1_.mn),(aj t1_.mx),(aB t1_.lz),t1_.kv.v]) rfl rfl rfl rfl aP ak aG rfl (by decide) (by decide) (fun _ _ _ _ c=>fF (c.n 1 rfl) (by kernel_rfl)) rfl,dS (t0:=5) rfl rfl rfl rfl aP (i:=Try.t32) rfl rfl rfl rfl (by simp only [maxLen];(try simp);omega) (by show _ * 104≤_;(try simp);omega) (fun _ _ _ _ c=>⟨c.ip 5 rfl e5,c.sm (c.n 0 rfl) e5,⟨_,rfl,(c.ro 2 rfl).1.sl⟩⟩),de (t0:=27) rfl rfl rfl rfl rfl (.inr rfl) (fun _ _ _ _ c=>⟨c.ro 3 rfl,rfl⟩),av⟩ fun ac ag ae ab aa=> ?_;obtain ⟨b12x26,e26⟩:=gx ac 26;obtain ⟨b12x5,e5⟩:=gx ac 5;obtain ⟨e0,e4,e7,e8,e9,e10,e11,e19⟩:=aa.k8 e0 e4 e7 e8 e9 e10 e11 e19;replace r0:=aa.B 0;replace r1:=aa.z1 1;have r2:=aa.ro 2 e26 rfl;replace r5:=aa.ro 4 e5 rfl;replace r6:=aa.z1 6;show _;refine eE ab [jb r0,jz 1 r1,jo r2,jo r5,jz 6 r6] ⟨am fun c=>cZ rfl (c.p e10) rfl (by omega),bk 0,av⟩ fun ac ag ae ab aa=> ?_;obtain ⟨e0,e4,e5,e7,e8,e9,e11,e19⟩:=aa.k8 e0 e4 e5 e7 e8 e9 e11 e19;have e10:=aa.V 1;replace r0:=aa.B 0;obtain ⟨r1,r6⟩:=aa.z2 1 6;replace r2:=aa.O 2;replace r5:=aa.O 5;refine ⟨⟨k+1,b12x5,ts++ [t1_],ae,?_,?_,ab,e5,(e10.trans (bE (by omega))),e0,e4,e8,e9,?_,?_⟩,?_⟩
   · omega
   · first | exact ns (by omega) q1 (by assumption) (by assumption) rfl | exact mf (by omega) q1 (by assumption) (by assumption)
   · exact r5.cast (by rfl)
   · exact Fz.snoc r6 r1
   · simp only [m10,e10,intOf];omega
 try simp only [ai,bd] at hc1
 refine wp_exit ?_;repeat (with_reducible refine ct ?_)
 refine cw ?_;refine wp_seq (eE ab [jo r5,jz 6 r6] ⟨aq e5,aK 0,av⟩ fun ac ag ae ab aa=> ?_);have e4:=aa.V 1;replace r5:=aa.O 5;replace r6:=aa.z1 6;refine wp_ret ?_;refine rp ?_;refine cG (fn:=Try.f23) rfl ab.defers e4 ?_;rw [bL (by omega)] at q1;exact ⟨_,ts,rfl,ab.ext0,⟨r5.1,fun g_ h_=>(ab.bnd _ g_ (r5.2 g_ h_)).1⟩,r6.outo (i:=5) r5.2,q1⟩
set_option maxRecDepth 100000 in
theorem CP (v:Value) (xs:List Tr) (w:World) (hS:TlS w v xs) (hP:cR (xs.map eJ)≤1000000):Calls Try.prog 12 #[v] w (fun e w'=>∃t':Tr,e= .returned t'.v∧Ext aV w w'∧TrT (Gn aV w) w' t'∧er t'=dA (xs.map er)):=by
 refine enter (n:=14) Try.func12 rfl rfl (ar rfl) ?_;intro a0 τ0 ha st0;have e0:=lL ha;have hle:=hS.sl.le;refine wp_seq (rg [box _ _ 0 2 [(aj 0),(aR (⟨#[]⟩:ByteArray)),(aB false),(.slice none 0 0),(aj 0),(aj 0),(aB false),(.slice none 0 0)]] [0] st0 [] ⟨ci rfl rfl rfl rfl aG rfl,av⟩ fun ac ag ae ab aa=> ?_);obtain ⟨b1x2,e2⟩:=gx ac 2;replace e0:=aa.k1 e0;have r0:=aa.rb 0 e2 rfl;refine wp_seq ?_;refine bz ?_;refine cO 2 (by kernel_rfl) ?_;refine og [_,xo lE 32 _ 1 5 (fun b:List Tr=>b) (fun b:List Tr=>b.map er=fi 0 (xs.map er)) (fun b:List Tr=>kH (Gn aV w) b)] [0,1] ab [jb r0] ⟨aq e0,xq (xs:=fun b:List Tr=>b) (Ψ:=fun b:List Tr=>b.map er=fi 0 (xs.map er)) (Φ:=fun b:List Tr=>kH (Gn aV w) b) fun {_ a_ _ _} c=>⟨_,_,(ca rfl rfl Try.call23 rfl (c.q 0)),(BH 0 v xs _ (hS.at (ab.ext.trans c.J.ext)) (by omega)).mono (fun e w' ⟨v_,ts_,he_,hx_,ho_,ht_,hq_⟩=>⟨v_,ts_,he_,hx_,ho_,hq_,c.tno (tag:=1) ab hx_ ho_ ht_⟩)⟩,av⟩ fun ac ag ae ab aa=> ?_;obtain ⟨b2x5,e5⟩:=gx ac 5;replace e2:=aa.k1 e2;obtain ⟨ts1_,hro2,hqts1_,hz2⟩:=aa.zo 1 e5 rfl;replace r0:=aa.B 0;have r1:=hro2;have r2:=hz2;refine cP ?_;refine og [_] [0] ab [jb r0,jo r1,jz 2 r2] ⟨nd e5,av⟩ fun ac ag ae ab aa=> ?_;replace e2:=aa.k1 e2;have e3:=aa.V 0;replace r0:=aa.B 0;replace r1:=aa.O 1;replace r2:=aa.z1 2;obtain ⟨kv0,rfl⟩:=r1.isSl.sv;refine wp_seq ?_;refine wp_seq (eN ab [jb r0,jo r1,jz 2 r2] ⟨aq e3,am fun c=>cU rfl aP (c.q 0) r1.isSl,am fun c=>cu rfl (c.q 1) rfl,av⟩ fun ac ag ae ab aa=> ?_);obtain ⟨e2,e3⟩:=aa.k2 e2 e3;have e8:=aa.V 2;replace r0:=aa.B 0;replace r1:=aa.O 1;replace r2:=aa.z1 2;refine wp_cond_split e8 (fun hc1=> ?_) (fun hc1=> ?_)
 · try simp only [ah] at hc1
   refine wp_seq (xw ab [jb r0,jo r1,jz 2 r2] ⟨aq e3,am fun c=>aW rfl aP ak (c.q 0) r1.isSl rfl (by omega) (by omega),am fun c=>dB (vs:=(tc (nth ts1_ 0))) rfl aE ak (c.q 1) rfl (fun _ _ hj=>((c.io 1 rfl).1.sl).elem (bD (i:=0) (by omega) (by omega)) hj),bX (cx:=(tc (nth ts1_ 0))) (off:=0) ak fun c=>⟨c.bp 0 rfl e2,c.ad ((c.p e2).trans r0.ptr) e2 rfl,(c.q 2)⟩,av⟩ fun ac ag ae ab aa=> ?_);obtain ⟨e2,e3⟩:=aa.k2 e2 e3;replace r0:=aa.RB 3 e2;replace r1:=aa.O 1;replace r2:=aa.z1 2;refine wp_ret ?_;refine rp ?_;refine mw (fn:=Try.f12) rfl ab.defers e2 r0 aE ak rfl ?_;exact ⟨_,rfl,ab.ext0,(r2.e (by omega) (by omega)).out,vc hqts1_ (by omega)⟩
 try simp only [ai] at hc1
 refine wp_skip ?_;refine wp_seq (eN ab [jb r0,jo r1,jz 2 r2] ⟨aq e3,am fun c=>eO (cells:=#[(aj 0),(aR (⟨#[]⟩:ByteArray)),(aB false),(.slice none 0 0),(aj 0),(aj 0),(aB false),kv0.v]) rfl aG (gO rfl (c.n 0 rfl) rfl),bX (cx:=[(aj 0),(aR (⟨#[]⟩:ByteArray)),(aB false),(.slice none 0 0),(aj 0),(aj 0),(aB false),kv0.v]) (off:=0) ak fun c=>⟨c.bp 0 rfl e2,c.ad ((c.p e2).trans r0.ptr) e2 rfl,(c.q 1)⟩,av⟩ fun ac ag ae ab aa=> ?_);replace e2:=aa.k1 e2;replace r0:=aa.RB 2 e2;replace r1:=aa.O 1;replace r2:=aa.z1 2;refine wp_ret ?_;refine rp ?_;refine mw (fn:=Try.f12) rfl ab.defers e2 r0 aE ak rfl ?_;exact ⟨⟨0,⟨#[]⟩,false,Sv.nil,[],0,0,false,kv0,ts1_⟩,rfl,ab.ext0,uc r1 (fun g h=> .inr (ab.bnd _ _ h).1) r2.outs,by rw [xG];exact sF hqts1_ (by omega)⟩
end
section
open Go.RowKit
open Srt
set_option maxRecDepth 100000 in
theorem yd (F:aQ) (kind:Int) (v:Value) (xs:List Tr) (w:World) (hS:SlT lE w v xs) (hF:∀t ∈ xs,TrT F w t) (hP:cR (xs.map eJ)≤1000000):Calls Try.prog 65 #[(aj kind),v] w (fun e w'=>∃v' ts,e= .returned v'∧Ext aV w w'∧mr lE 32 w w' v' ts∧(∀t ∈ ts,TrT (fun g=>(Gn F w) g∧v'.ownBlock≠some g) w' t)∧ts.map er=fi kind (xs.map er)):=by
 refine enter (n:=35) Try.func65 rfl rfl (ar rfl) ?_;intro a0 τ0 ha st0;obtain ⟨e0,e1⟩:=pp ha;have hle:=hS.le;have r9:Fz (kH (Gn F w) xs) τ0 w:=TrT.inzs hF st0;refine wp_seq (ew st0 [jz 9 r9] ⟨am fun c=>au rfl rfl,av⟩ fun ac ag ae ab aa=> ?_);obtain ⟨e0,e1⟩:=aa.k2 e0 e1;have e4:=aa.V 0;replace r9:=aa.z1 9;refine wp_seq (ew ab [jz 9 r9] ⟨am fun c=>au rfl rfl,av⟩ fun ac ag ae ab aa=> ?_);obtain ⟨e0,e1,e4⟩:=aa.k3 e0 e1 e4;have e5:=aa.V 0;replace r9:=aa.z1 9;refine wp_seq ?_;refine wp_seq (ew ab [jz 9 r9] ⟨am fun c=>au rfl rfl,av⟩ fun ac ag ae ab aa=> ?_);obtain ⟨e0,e1,e4,e5⟩:=aa.k4 e0 e1 e4 e5;have e6:=aa.V 0;replace r9:=aa.z1 9;refine wp_block ?_;refine wp_loop (fun a_ w_=>∃(k:Nat) (u:Value) (ts:List Tr) (τ:Nat→aQ),(k≤xs.length)∧
      (ts.map er=fi kind ((xs.take k).map er))∧
      St (Nw w) w 35 a_ w_ τ∧
      aS a_ 5=u∧
      aS a_ 6=(aj (k:Int))∧
      aS a_ 0=(aj kind)∧
      aS a_ 1=v∧
      aS a_ 4=(.slice none 0 0)∧
      dq lE 32 ts (τ 5) u w_∧
      Fz (kH (Gn F w) ts) τ w_∧
      Fz (kH (Gn F w) xs) τ w_) (fun a_ _=>xs.length - (intOf (aS a_ 6)).toNat) ?_ ?_
 · refine ⟨0,(.slice none 0 0),[],ae,?_,?_,ab,e5,(e6.trans (bE (by omega))),e0,e1,e4,?_,?_,r9⟩
   · omega
   · simp [fi]
   · exact dq.nil _ _ _ _
   · exact Fz.tn _ _ _
 intro a4 w4 hI;obtain ⟨k,u,ts,τ4,q0,q1,st4,e5,e6,e0,e1,e4,r5,r6,r9⟩:=hI;have hw:=AZ (xs:=xs) (k:=k);have hrm:=pW q1;have hew:=(fQ (nth xs (k:Int))).1;have m6:=e6;refine wp_seq ?_;refine wp_seq (lS [0,0,2,7] st4 [jo r5,jz 6 r6,jz 9 r9] ⟨aq e6,aq e1,am fun c=>cU rfl aP (c.q 1) ((⟨hS,fun t_ h_=>(hF t_ h_).s⟩:TlS w v xs).at st4.ext).sl.sl,am fun c=>dt rfl (c.q 0) (c.q 2),av⟩ fun ac ag ae ab aa=> ?_);obtain ⟨e0,e1,e4,e5,e6⟩:=aa.k5 e0 e1 e4 e5 e6;have e10:=aa.V 3;replace r5:=aa.O 5;obtain ⟨r6,r9⟩:=aa.z2 6 9;refine wp_cond_split e10 (fun hc1=> ?_) (fun hc1=> ?_)
 · try simp only [ah] at hc1
   refine wp_skip ?_;refine wp_seq ?_;refine wp_block ?_;refine wp_seq (tU [0,0,3,7,15,0,63] ab [jo r5,jz 6 r6,jz 9 r9] ⟨aq e1,aq e6,am fun c=>aW rfl aP ak (c.q 0) ((⟨hS,fun t_ h_=>(hF t_ h_).s⟩:TlS w v xs).at ab.ext).sl.sl (c.q 1) (by omega) (by omega),bW aA ay 2 rfl,am fun c=>az rfl aD (c.q 3) ((((⟨hS,fun t_ h_=>(hF t_ h_).s⟩:TlS w v xs).at (ab.ext.trans c.J.ext)).sl).elem (j:=0) (bD (i:=(k:Int)) (by omega) (by omega)) rfl),aq e0,am fun c=>cu rfl (c.q 4) (c.q 5),av⟩ fun ac ag ae ab aa=> ?_);obtain ⟨e0,e1,e4,e5,e6,e10⟩:=aa.k6 e0 e1 e4 e5 e6 e10;have e19:=aa.V 6;replace r5:=aa.O 5;obtain ⟨r6,r9⟩:=aa.z2 6 9;refine wp_cond_split e19 (fun hc2=> ?_) (fun hc2=> ?_)
   · try simp only [ah] at hc2
     refine rg [_,_,_,_,_,_,own _ _ _ 5 26 _,own _ _ _ 5 5 _] [0,0,0,6,14,30,63,127] ab [jo r5,jz 6 r6,jz 9 r9] ⟨aq e5,aq e1,aq e6,am fun c=>aW rfl aP ak (c.q 1) ((⟨hS,fun t_ h_=>(hF t_ h_).s⟩:TlS w v xs).at ab.ext).sl.sl (c.q 2) (by omega) (by omega),bW aA ck 3 rfl,am fun c=>az rfl dh (c.q 4) ((((⟨hS,fun t_ h_=>(hF t_ h_).s⟩:TlS w v xs).at (ab.ext.trans c.J.ext)).sl).elem (j:=7) (bD (i:=(k:Int)) (by omega) (by omega)) rfl),dS (t0:=5) rfl rfl rfl rfl aP (i:=Try.t32) rfl rfl rfl rfl (by simp only [maxLen];(try simp);omega) (by show _ * 104≤_;(try simp);omega) (fun _ _ _ _ c=>⟨c.ip 5 rfl e5,c.sm (c.n 0 rfl) e5,⟨_,(c.n 5 rfl),(((⟨hS,fun t_ h_=>(hF t_ h_).s⟩:TlS w v xs).at (ab.ext.trans c.J.ext)).el (by omega) (by omega)).tl.sl⟩⟩),de (t0:=26) rfl rfl rfl rfl rfl (.inr rfl) (fun _ _ _ _ c=>⟨c.ro 6 rfl,rfl⟩),av⟩ fun ac ag ae ab aa=> ?_;obtain ⟨b7x5,e5⟩:=gx ac 5;obtain ⟨e0,e1,e4,e6,e10,e19⟩:=aa.k6 e0 e1 e4 e6 e10 e19;replace r5:=aa.ro 7 e5 rfl;obtain ⟨r6,r9⟩:=aa.z2 6 9;show _;refine eN ab [jo r5,jz 6 r6,jz 9 r9] ⟨aq e6,am fun c=>cZ rfl (c.q 0) rfl (by omega),aK 1,av⟩ fun ac ag ae ab aa=> ?_;obtain ⟨e0,e1,e4,e5,e10,e19⟩:=aa.k6 e0 e1 e4 e5 e10 e19;have e6:=aa.V 2;replace r5:=aa.O 5;obtain ⟨r6,r9⟩:=aa.z2 6 9;refine ⟨⟨k+1,b7x5,ts++((nth xs (k:Int)).kids),ae,?_,?_,ab,e5,(e6.trans (bE (by omega))),e0,e1,e4,?_,?_,r9⟩,?_⟩
     · omega
     · first | exact ns (by omega) q1 rfl (by assumption) rfl | exact mf (by omega) q1 rfl (by assumption)
     · exact r5.cast (by rfl)
     · exact Fz.app r6 (r9.e (by omega) (by omega)).kl
     · simp only [m6,e6,intOf];omega
   try simp only [ai] at hc2
   refine rg [_,_,_,_,_,own lE 32 _ 0 32 ([(nth xs (k:Int))]),own _ _ _ 5 33 _,own _ _ _ 5 5 _] [0,0,0,6,14,30,63,127] ab [jo r5,jz 6 r6,jz 9 r9] ⟨aq e5,aq e1,aq e6,am fun c=>aW rfl aP ak (c.q 1) ((⟨hS,fun t_ h_=>(hF t_ h_).s⟩:TlS w v xs).at ab.ext).sl.sl (c.q 2) (by omega) (by omega),am fun c=>dB (vs:=(tc (nth xs (k:Int)))) rfl aE ak (c.q 3) rfl (fun _ _ hj=>(((⟨hS,fun t_ h_=>(hF t_ h_).s⟩:TlS w v xs).at (ab.ext.trans c.J.ext)).sl).elem (bD (i:=(k:Int)) (by omega) (by omega)) hj),cJ (cells:=#[(aj ((nth xs (k:Int)).k)),(aR ((nth xs (k:Int)).ch)),(aB ((nth xs (k:Int)).ng)),(nth xs (k:Int)).rv.v,(aj ((nth xs (k:Int)).mn)),(aj ((nth xs (k:Int)).mx)),(aB ((nth xs (k:Int)).lz)),(nth xs (k:Int)).kv.v]) rfl rfl rfl rfl aP ak aG rfl (by decide) (by decide) (fun _ _ _ _ c=>fF (c.n 4 rfl) (by kernel_rfl)) rfl,dS (t0:=5) rfl rfl rfl rfl aP (i:=Try.t32) rfl rfl rfl rfl (by simp only [maxLen];(try simp);omega) (by show _ * 104≤_;(try simp);omega) (fun _ _ _ _ c=>⟨c.ip 5 rfl e5,c.sm (c.n 0 rfl) e5,⟨_,rfl,(c.ro 5 rfl).1.sl⟩⟩),de (t0:=33) rfl rfl rfl rfl rfl (.inr rfl) (fun _ _ _ _ c=>⟨c.ro 6 rfl,rfl⟩),av⟩ fun ac ag ae ab aa=> ?_;obtain ⟨b9x32,e32⟩:=gx ac 32;obtain ⟨b9x5,e5⟩:=gx ac 5;obtain ⟨e0,e1,e4,e6,e10,e19⟩:=aa.k6 e0 e1 e4 e6 e10 e19;have r0:=aa.ro 5 e32 rfl;replace r5:=aa.ro 7 e5 rfl;obtain ⟨r6,r9⟩:=aa.z2 6 9;show _;refine eN ab [jo r0,jo r5,jz 6 r6,jz 9 r9] ⟨aq e6,am fun c=>cZ rfl (c.q 0) rfl (by omega),aK 1,av⟩ fun ac ag ae ab aa=> ?_;obtain ⟨e0,e1,e4,e5,e10,e19⟩:=aa.k6 e0 e1 e4 e5 e10 e19;have e6:=aa.V 2;replace r0:=aa.O 0;replace r5:=aa.O 5;obtain ⟨r6,r9⟩:=aa.z2 6 9;refine ⟨⟨k+1,b9x5,ts++ [(nth xs (k:Int))],ae,?_,?_,ab,e5,(e6.trans (bE (by omega))),e0,e1,e4,?_,?_,r9⟩,?_⟩
   · omega
   · first | exact ns (by omega) q1 rfl (by assumption) rfl | exact mf (by omega) q1 rfl (by assumption)
   · exact r5.cast (by rfl)
   · exact Fz.snoc r6 (r9.e (by omega) (by omega))
   · simp only [m6,e6,intOf];omega
 try simp only [ai,bd] at hc1
 refine wp_exit ?_;repeat (with_reducible refine ct ?_)
 refine cw ?_;refine wp_seq (eE ab [jo r5,jz 6 r6,jz 9 r9] ⟨aq e5,aK 0,av⟩ fun ac ag ae ab aa=> ?_);have e4:=aa.V 1;replace r5:=aa.O 5;obtain ⟨r6,r9⟩:=aa.z2 6 9;refine wp_ret ?_;refine rp ?_;refine cG (fn:=Try.f65) rfl ab.defers e4 ?_;rw [bL (by omega)] at q1;exact ⟨_,ts,rfl,ab.ext0,⟨r5.1,fun g_ h_=>(ab.bnd _ g_ (r5.2 g_ h_)).1⟩,r6.outo (i:=5) r5.2,q1⟩
set_option maxRecDepth 100000 in
theorem ye (F:aQ) (v:Value) (xs:List Tr) (w:World) (hS:SlT lE w v xs) (hF:∀t ∈ xs,TrT F w t) (hP:cR (xs.map eJ)≤1000000):Calls Try.prog 47 #[v] w (fun e w'=>∃t':Tr,e= .returned t'.v∧Ext aV w w'∧TrT (Gn F w) w' t'∧er t'=dA (xs.map er)):=by
 refine enter (n:=14) Try.func47 rfl rfl (ar rfl) ?_;intro a0 τ0 ha st0;have e0:=lL ha;have hle:=hS.le;have r9:Fz (kH (Gn F w) xs) τ0 w:=TrT.inzs hF st0;refine wp_seq (rg [box _ _ 0 2 [(aj 0),(aR (⟨#[]⟩:ByteArray)),(aB false),(.slice none 0 0),(aj 0),(aj 0),(aB false),(.slice none 0 0)]] [0] st0 [jz 9 r9] ⟨ci rfl rfl rfl rfl aG rfl,av⟩ fun ac ag ae ab aa=> ?_);obtain ⟨b1x2,e2⟩:=gx ac 2;replace e0:=aa.k1 e0;have r0:=aa.rb 0 e2 rfl;replace r9:=aa.z1 9;refine wp_seq ?_;refine bz ?_;refine cO 2 (by kernel_rfl) ?_;refine og [_,xo lE 32 _ 1 5 (fun b:List Tr=>b) (fun b:List Tr=>b.map er=fi 0 (xs.map er)) (fun b:List Tr=>kH (Gn F w) b)] [0,1] ab [jb r0,jz 9 r9] ⟨aq e0,xq (xs:=fun b:List Tr=>b) (Ψ:=fun b:List Tr=>b.map er=fi 0 (xs.map er)) (Φ:=fun b:List Tr=>kH (Gn F w) b) fun {_ a_ _ _} c=>⟨_,_,(ca rfl rfl Try.call65 rfl (c.q 0)),(yd _ 0 v xs _ (zl (c.iz 9 rfl) ((⟨hS,fun t_ h_=>(hF t_ h_).s⟩:TlS w v xs).at (ab.ext.trans c.J.ext)).sl).sl (c.iz 9 rfl) (by omega)).mono (fun e w' ⟨v_,ts_,he_,hx_,ho_,ht_,hq_⟩=>⟨v_,ts_,he_,hx_,ho_,hq_,c.tzo (tag:=1) ab hx_ ho_ ht_⟩)⟩,av⟩ fun ac ag ae ab aa=> ?_;obtain ⟨b2x5,e5⟩:=gx ac 5;replace e2:=aa.k1 e2;obtain ⟨ts1_,hro2,hqts1_,hz2⟩:=aa.zo 1 e5 rfl;replace r0:=aa.B 0;have r1:=hro2;replace r9:=aa.z1 9;have r2:=hz2;refine cP ?_;refine og [_] [0] ab [jb r0,jo r1,jz 2 r2,jz 9 r9] ⟨nd e5,av⟩ fun ac ag ae ab aa=> ?_;replace e2:=aa.k1 e2;have e3:=aa.V 0;replace r0:=aa.B 0;replace r1:=aa.O 1;obtain ⟨r2,r9⟩:=aa.z2 2 9;obtain ⟨kv0,rfl⟩:=r1.isSl.sv;refine wp_seq ?_;refine wp_seq (eN ab [jb r0,jo r1,jz 2 r2,jz 9 r9] ⟨aq e3,am fun c=>cU rfl aP (c.q 0) r1.isSl,am fun c=>cu rfl (c.q 1) rfl,av⟩ fun ac ag ae ab aa=> ?_);obtain ⟨e2,e3⟩:=aa.k2 e2 e3;have e8:=aa.V 2;replace r0:=aa.B 0;replace r1:=aa.O 1;obtain ⟨r2,r9⟩:=aa.z2 2 9;refine wp_cond_split e8 (fun hc1=> ?_) (fun hc1=> ?_)
 · try simp only [ah] at hc1
   refine wp_seq (xw ab [jb r0,jo r1,jz 2 r2,jz 9 r9] ⟨aq e3,am fun c=>aW rfl aP ak (c.q 0) r1.isSl rfl (by omega) (by omega),am fun c=>dB (vs:=(tc (nth ts1_ 0))) rfl aE ak (c.q 1) rfl (fun _ _ hj=>((c.io 1 rfl).1.sl).elem (bD (i:=0) (by omega) (by omega)) hj),bX (cx:=(tc (nth ts1_ 0))) (off:=0) ak fun c=>⟨c.bp 0 rfl e2,c.ad ((c.p e2).trans r0.ptr) e2 rfl,(c.q 2)⟩,av⟩ fun ac ag ae ab aa=> ?_);obtain ⟨e2,e3⟩:=aa.k2 e2 e3;replace r0:=aa.RB 3 e2;replace r1:=aa.O 1;obtain ⟨r2,r9⟩:=aa.z2 2 9;refine wp_ret ?_;refine rp ?_;refine mw (fn:=Try.f47) rfl ab.defers e2 r0 aE ak rfl ?_;exact ⟨_,rfl,ab.ext0,(r2.e (by omega) (by omega)).out,vc hqts1_ (by omega)⟩
 try simp only [ai] at hc1
 refine wp_skip ?_;refine wp_seq (eN ab [jb r0,jo r1,jz 2 r2,jz 9 r9] ⟨aq e3,am fun c=>eO (cells:=#[(aj 0),(aR (⟨#[]⟩:ByteArray)),(aB false),(.slice none 0 0),(aj 0),(aj 0),(aB false),kv0.v]) rfl aG (gO rfl (c.n 0 rfl) rfl),bX (cx:=[(aj 0),(aR (⟨#[]⟩:ByteArray)),(aB false),(.slice none 0 0),(aj 0),(aj 0),(aB false),kv0.v]) (off:=0) ak fun c=>⟨c.bp 0 rfl e2,c.ad ((c.p e2).trans r0.ptr) e2 rfl,(c.q 1)⟩,av⟩ fun ac ag ae ab aa=> ?_);replace e2:=aa.k1 e2;replace r0:=aa.RB 2 e2;replace r1:=aa.O 1;obtain ⟨r2,r9⟩:=aa.z2 2 9;refine wp_ret ?_;refine rp ?_;refine mw (fn:=Try.f47) rfl ab.defers e2 r0 aE ak rfl ?_;exact ⟨⟨0,⟨#[]⟩,false,Sv.nil,[],0,0,false,kv0,ts1_⟩,rfl,ab.ext0,uc r1 (fun g h=> .inr (ab.bnd _ _ h).1) r2.outs,by rw [xG];exact sF hqts1_ (by omega)⟩
set_option maxRecDepth 100000 in
theorem yf (F:aQ) (v:Value) (xs:List Tr) (w:World) (hS:SlT lE w v xs) (hF:∀t ∈ xs,TrT F w t) (hP:cR (xs.map eJ)≤1000000):Calls Try.prog 49 #[v] w (fun e w'=>∃t':Tr,e= .returned t'.v∧Ext aV w w'∧TrT (Gn F w) w' t'∧er t'=kU (xs.map er)):=by
 refine enter (n:=18) Try.func49 rfl rfl (ar rfl) ?_;intro a0 τ0 ha st0;have e0:=lL ha;have hle:=hS.le;have r9:Fz (kH (Gn F w) xs) τ0 w:=TrT.inzs hF st0;refine wp_seq (rg [box _ _ 0 2 [(aj 0),(aR (⟨#[]⟩:ByteArray)),(aB false),(.slice none 0 0),(aj 0),(aj 0),(aB false),(.slice none 0 0)]] [0] st0 [jz 9 r9] ⟨ci rfl rfl rfl rfl aG rfl,av⟩ fun ac ag ae ab aa=> ?_);obtain ⟨b1x2,e2⟩:=gx ac 2;replace e0:=aa.k1 e0;have r0:=aa.rb 0 e2 rfl;replace r9:=aa.z1 9;refine wp_seq ?_;refine bz ?_;refine cO 2 (by kernel_rfl) ?_;refine og [_,xo lE 32 _ 1 5 (fun b:List Tr=>b) (fun b:List Tr=>b.map er=fi 1 (xs.map er)) (fun b:List Tr=>kH (Gn F w) b)] [0,1] ab [jb r0,jz 9 r9] ⟨aq e0,xq (xs:=fun b:List Tr=>b) (Ψ:=fun b:List Tr=>b.map er=fi 1 (xs.map er)) (Φ:=fun b:List Tr=>kH (Gn F w) b) fun {_ a_ _ _} c=>⟨_,_,(ca rfl rfl Try.call65 rfl (c.q 0)),(yd _ 1 v xs _ (zl (c.iz 9 rfl) ((⟨hS,fun t_ h_=>(hF t_ h_).s⟩:TlS w v xs).at (ab.ext.trans c.J.ext)).sl).sl (c.iz 9 rfl) (by omega)).mono (fun e w' ⟨v_,ts_,he_,hx_,ho_,ht_,hq_⟩=>⟨v_,ts_,he_,hx_,ho_,hq_,c.tzo (tag:=1) ab hx_ ho_ ht_⟩)⟩,av⟩ fun ac ag ae ab aa=> ?_;obtain ⟨b2x5,e5⟩:=gx ac 5;replace e2:=aa.k1 e2;obtain ⟨ts1_,hro2,hqts1_,hz2⟩:=aa.zo 1 e5 rfl;replace r0:=aa.B 0;have r1:=hro2;replace r9:=aa.z1 9;have r2:=hz2;refine cP ?_;refine og [_] [0] ab [jb r0,jo r1,jz 2 r2,jz 9 r9] ⟨nd e5,av⟩ fun ac ag ae ab aa=> ?_;replace e2:=aa.k1 e2;have e3:=aa.V 0;replace r0:=aa.B 0;replace r1:=aa.O 1;obtain ⟨r2,r9⟩:=aa.z2 2 9;obtain ⟨kv0,rfl⟩:=r1.isSl.sv;refine wp_seq ?_;refine wp_seq (eN ab [jb r0,jo r1,jz 2 r2,jz 9 r9] ⟨aq e3,am fun c=>cU rfl aP (c.q 0) r1.isSl,am fun c=>cu rfl (c.q 1) rfl,av⟩ fun ac ag ae ab aa=> ?_);obtain ⟨e2,e3⟩:=aa.k2 e2 e3;have e8:=aa.V 2;replace r0:=aa.B 0;replace r1:=aa.O 1;obtain ⟨r2,r9⟩:=aa.z2 2 9;refine wp_cond_split e8 (fun hc1=> ?_) (fun hc1=> ?_)
 · try simp only [ah] at hc1
   refine wp_seq (eE ab [jb r0,jo r1,jz 2 r2,jz 9 r9] ⟨am fun c=>eO (cells:=#[(aj 0),(aR (⟨#[]⟩:ByteArray)),(aB false),(.slice none 0 0),(aj 0),(aj 0),(aB false),(.slice none 0 0)]) rfl aG (fF rfl rfl),bX (cx:=[(aj 0),(aR (⟨#[]⟩:ByteArray)),(aB false),(.slice none 0 0),(aj 0),(aj 0),(aB false),(.slice none 0 0)]) (off:=0) ak fun c=>⟨c.bp 0 rfl e2,c.ad ((c.p e2).trans r0.ptr) e2 rfl,(c.q 0)⟩,av⟩ fun ac ag ae ab aa=> ?_);obtain ⟨e2,e3⟩:=aa.k2 e2 e3;replace r0:=aa.RB 1 e2;replace r1:=aa.O 1;obtain ⟨r2,r9⟩:=aa.z2 2 9;refine wp_ret ?_;refine rp ?_;refine mw (fn:=Try.f49) rfl ab.defers e2 r0 aE ak rfl ?_;exact ⟨kJ 0 [],rfl,ab.ext0,ey _ _ _ _ _ _ _ _,xE hqts1_ (by omega)⟩
 try simp only [ai] at hc1
 refine wp_skip ?_;refine wp_seq ?_;refine wp_seq (eN ab [jb r0,jo r1,jz 2 r2,jz 9 r9] ⟨aq e3,am fun c=>cU rfl aP (c.q 0) r1.isSl,am fun c=>cu rfl (c.q 1) rfl,av⟩ fun ac ag ae ab aa=> ?_);obtain ⟨e2,e3⟩:=aa.k2 e2 e3;have e12:=aa.V 2;replace r0:=aa.B 0;replace r1:=aa.O 1;obtain ⟨r2,r9⟩:=aa.z2 2 9;refine wp_cond_split e12 (fun hc2=> ?_) (fun hc2=> ?_)
 · try simp only [ah] at hc2
   refine wp_seq (xw ab [jb r0,jo r1,jz 2 r2,jz 9 r9] ⟨aq e3,am fun c=>aW rfl aP ak (c.q 0) r1.isSl rfl (by omega) (by omega),am fun c=>dB (vs:=(tc (nth ts1_ 0))) rfl aE ak (c.q 1) rfl (fun _ _ hj=>((c.io 1 rfl).1.sl).elem (bD (i:=0) (by omega) (by omega)) hj),bX (cx:=(tc (nth ts1_ 0))) (off:=0) ak fun c=>⟨c.bp 0 rfl e2,c.ad ((c.p e2).trans r0.ptr) e2 rfl,(c.q 2)⟩,av⟩ fun ac ag ae ab aa=> ?_);obtain ⟨e2,e3⟩:=aa.k2 e2 e3;replace r0:=aa.RB 3 e2;replace r1:=aa.O 1;obtain ⟨r2,r9⟩:=aa.z2 2 9;refine wp_ret ?_;refine rp ?_;refine mw (fn:=Try.f49) rfl ab.defers e2 r0 aE ak rfl ?_;exact ⟨_,rfl,ab.ext0,(r2.e (by omega) (by omega)).out,zJ hqts1_ (by omega)⟩
 try simp only [ai] at hc2
 refine wp_skip ?_;refine wp_seq (eN ab [jb r0,jo r1,jz 2 r2,jz 9 r9] ⟨aq e3,am fun c=>eO (cells:=#[(aj 1),(aR (⟨#[]⟩:ByteArray)),(aB false),(.slice none 0 0),(aj 0),(aj 0),(aB false),kv0.v]) rfl aG (gO rfl (c.n 0 rfl) rfl),bX (cx:=[(aj 1),(aR (⟨#[]⟩:ByteArray)),(aB false),(.slice none 0 0),(aj 0),(aj 0),(aB false),kv0.v]) (off:=0) ak fun c=>⟨c.bp 0 rfl e2,c.ad ((c.p e2).trans r0.ptr) e2 rfl,(c.q 1)⟩,av⟩ fun ac ag ae ab aa=> ?_);replace e2:=aa.k1 e2;replace r0:=aa.RB 2 e2;replace r1:=aa.O 1;obtain ⟨r2,r9⟩:=aa.z2 2 9;refine wp_ret ?_;refine rp ?_;refine mw (fn:=Try.f49) rfl ab.defers e2 r0 aE ak rfl ?_;exact ⟨⟨1,⟨#[]⟩,false,Sv.nil,[],0,0,false,kv0,ts1_⟩,rfl,ab.ext0,uc r1 (fun g h=> .inr (ab.bnd _ _ h).1) r2.outs,by rw [xG];exact xF hqts1_ (by omega) (by omega)⟩
end
section
open Go.RowKit
open Srt
set_option maxRecDepth 100000 in
theorem Ac (t:Tr) (p:Addr) (v:Value) (ks:List Int) (w:World) (hc:w.cell? p=some v) (hS:SlT iV w v ks):Calls Try.prog 95 #[(ta t),(.pointer (some p))] w (fun e w'=>e= .returned (aB (ks.any fun y=>decide (t.k=y)))∧Ext aV w w'):=by
 refine enter (n:=8) Try.func95 rfl rfl (ar rfl) ?_;intro a0 τ0 ha st0;have e0:aS a0 0=(ta t):=ha 0 _ rfl;have e1:aS a0 1=(.pointer (some p)):=ha 1 _ rfl;clear ha;refine wp_seq (rg [box _ _ 0 2 (tc t),_] [0,0] st0 [] ⟨gV (v:=(ta t)) rfl rfl rfl rfl rfl (fun _ _ _ _ c=>(c.p e0)),am fun c=>au rfl rfl,av⟩ fun ac ag ae ab aa=> ?_);obtain ⟨b1x2,e2⟩:=gx ac 2;replace e1:=aa.k1 e1;have e3:=aa.V 1;have r0:=aa.rb 0 e2 rfl;refine wp_seq (zB [0,0,2,7,15] ab [jb r0] ⟨am fun c=>az rfl fU (c.p e1) ((ab.ext.trans c.J.ext).cellAt hc),cg aA ay e2 r0.ptr,eG aD 1 0 0,eu fun c=>⟨_,_,(ca rfl rfl Try.call96 (c.q 0) (c.q 2)),yc v ks t.k _ (hS.at (ab.ext.trans c.J.ext))⟩,aK 3,av⟩ fun ac ag ae ab aa=> ?_);have e3:=aa.V 4;refine wp_ret ?_;refine rp ?_;refine cG (fn:=Try.f95) rfl ab.defers e3 ?_;exact ⟨rfl,ab.ext0⟩
set_option maxRecDepth 100000 in
theorem BI (v cap:Value) (ts:List Tr) (q:Tr→Bool) (w:World) (hf:∀t ∈ ts,∀w2:World,Ext aV w w2→Calls Try.prog 95 #[t.v,cap] w2 (fun e w3=>e= .returned (aB (q t))∧Ext aV w2 w3)) (hS:SlT lE w v ts):Calls Try.prog 98 #[v,(.func (.func 95) #[] #[cap])] w (fun e w'=>e= .returned (aj (AX q ts))∧Ext aV w w'):=by
 refine enter (n:=19) Try.func98 rfl rfl (ar rfl) ?_;intro a0 τ0 ha st0;obtain ⟨e0,e1⟩:=pp ha;have hle:=hS.le;refine wp_seq (ew st0 [] ⟨am fun c=>au rfl rfl,av⟩ fun ac ag ae ab aa=> ?_);obtain ⟨e0,e1⟩:=aa.k2 e0 e1;have e4:=aa.V 0;refine wp_seq ?_;refine wp_seq (zp [0,1,0] ab [] ⟨aq e0,am fun c=>cU rfl aP (c.q 0) hS.sl,am fun c=>aN rfl rfl,av⟩ fun a2 w2 τ2 st2 f2=> ?_);obtain ⟨e0,e1,e4⟩:=f2.k3 e0 e1 e4;have e7:=f2.V 1;have e8:=f2.V 2;refine wp_block ?_;refine wp_loop (fun a_ w_=>∃(k:Nat) (τ:Nat→aQ),(k≤ts.length)∧
      (∀y ∈ ts.take k,q y=false)∧
      St (Nw w) w 19 a_ w_ τ∧
      aS a_ 8=(aj (k:Int))∧
      aS a_ 0=v∧
      aS a_ 1=(.func (.func 95) #[] #[cap])∧
      aS a_ 7=(aj (ts.length:Int))) (fun a_ _=>ts.length - (intOf (aS a_ 8)).toNat) ?_ ?_
 · refine ⟨0,τ2,?_,?_,st2,(e8.trans (bE (by omega))),e0,e1,e7⟩
   · omega
   · simp
 intro a3 w3 hI;obtain ⟨k,τ3,q0,q1,st3,e8,e0,e1,e7⟩:=hI;have m8:=e8;refine wp_seq (ew st3 [] ⟨am fun c=>dt rfl (c.p e8) (c.p e7),av⟩ fun ac ag ae ab aa=> ?_);obtain ⟨e0,e1,e7,e8⟩:=aa.k4 e0 e1 e7 e8;have e9:=aa.V 0;refine wp_seq ?_;refine wp_cond_split e9 (fun hc1=> ?_) (fun hc1=> ?_)
 · try simp only [ah] at hc1
   refine wp_skip ?_;refine wp_seq ?_;refine wp_block ?_;refine wp_seq (eE ab [] ⟨aq e8,aK 0,av⟩ fun ac ag ae ab aa=> ?_);obtain ⟨e0,e1,e7,e8,e9⟩:=aa.k5 e0 e1 e7 e8 e9;have e5:=aa.V 1;refine wp_seq (Cr [0,0,0,6,14,31] ab [] ⟨aq e1,aq e0,aq e5,am fun c=>aW rfl aP ak (c.q 1) hS.sl (c.q 2) (by omega) (by omega),am fun c=>dB (vs:=(tc (nth ts (k:Int)))) rfl aE ak (c.q 3) rfl (fun _ _ hj=>(hS.at (ab.ext.trans c.J.ext)).elem (bD (i:=(k:Int)) (by omega) (by omega)) hj),eu fun c=>⟨_,_,(xr rfl (c.q 0) Try.call95 (c.q 4)),hf _ (bo (by omega) (by omega)) _ (ab.ext.trans c.J.ext).fresh⟩,av⟩ fun ac ag ae ab aa=> ?_);obtain ⟨e0,e1,e5,e7,e8,e9⟩:=aa.k6 e0 e1 e5 e7 e8 e9;have e16:=aa.V 5;refine wp_cond_split e16 (fun hc2=> ?_) (fun hc2=> ?_)
   · have hd2:=hc2;skip;refine wp_seq (eE ab [] ⟨aq e5,aK 0,av⟩ fun ac ag ae ab aa=> ?_);obtain ⟨e0,e1,e5,e7,e8,e9,e16⟩:=aa.k7 e0 e1 e5 e7 e8 e9 e16;have e4:=aa.V 1;refine wp_ret ?_;refine rp ?_;refine cG (fn:=Try.f98) rfl ab.defers e4 ?_;exact ⟨congrArg _ (bE (by first | exact (rx (f:=q) (by omega) q1 (by assumption)).symm | exact (oL (f:=q) (k:=k) (by omega) q1).symm)),ab.ext0⟩
   have hd2:=hc2;skip;refine wp_skip ?_;show _;refine eE ab [] ⟨am fun c=>cZ rfl (c.p e8) rfl (by omega),bk 0,av⟩ fun ac ag ae ab aa=> ?_;obtain ⟨e0,e1,e5,e7,e9,e16⟩:=aa.k6 e0 e1 e5 e7 e9 e16;have e8:=aa.V 1;refine ⟨⟨k+1,ae,?_,?_,ab,(e8.trans (bE (by omega))),e0,e1,e7⟩,?_⟩
   · omega
   · exact uZ (f:=q) (by omega) q1 (by assumption)
   · simp only [m8,e8,intOf];omega
 try simp only [ai,bd] at hc1
 refine wp_exit ?_;repeat (with_reducible refine ct ?_)
 refine cw ?_;refine wp_seq (ew ab [] ⟨am fun c=>au rfl rfl,av⟩ fun ac ag ae ab aa=> ?_);have e4:=aa.V 0;refine wp_ret ?_;refine rp ?_;refine cG (fn:=Try.f98) rfl ab.defers e4 ?_;exact ⟨congrArg _ (bE (by first | exact (rx (f:=q) (by omega) q1 (by assumption)).symm | exact (oL (f:=q) (k:=k) (by omega) q1).symm)),ab.ext0⟩
set_option maxRecDepth 100000 in
theorem Ad (v cap:Value) (ts:List Tr) (q:Tr→Bool) (w:World) (hf:∀t ∈ ts,∀w2:World,Ext aV w w2→Calls Try.prog 95 #[t.v,cap] w2 (fun e w3=>e= .returned (aB (q t))∧Ext aV w2 w3)) (hS:SlT lE w v ts):Calls Try.prog 94 #[v,(.func (.func 95) #[] #[cap])] w (fun e w'=>e= .returned (aB (ts.any q))∧Ext aV w w'):=by
 refine enter (n:=9) Try.func94 rfl rfl (ar rfl) ?_;intro a0 τ0 ha st0;obtain ⟨e0,e1⟩:=pp ha;have hle:=hS.le;refine wp_seq (ew st0 [] ⟨am fun c=>au rfl rfl,av⟩ fun ac ag ae ab aa=> ?_);obtain ⟨e0,e1⟩:=aa.k2 e0 e1;have e4:=aa.V 0;refine wp_seq (zB [0,0,3,7,15] ab [] ⟨aq e0,aq e1,eu fun c=>⟨_,_,(ca rfl rfl Try.call98 (c.q 0) (c.q 1)),BI v cap ts q _ (fun t_ h_ w2_ he_=>hf t_ h_ w2_ ((ab.ext.trans c.J.ext).fresh.trans he_)) (hS.at (ab.ext.trans c.J.ext))⟩,am fun c=>gl rfl (c.q 2) rfl,aK 3,av⟩ fun a2 w2 τ2 st2 f2=> ?_);have e4:=f2.V 4;refine wp_ret ?_;refine rp ?_;refine cG (fn:=Try.f94) rfl st2.defers e4 ?_;exact ⟨congrArg _ (congrArg _ (xA _ _)),st2.ext0⟩
set_option maxRecDepth 100000 in
theorem BJ (v:Value) (u:Sv) (ts:List Tr) (ks:List Int) (w:World) (hS:SlT lE w v ts) (hU:SlT iV w u.v ks):Calls Try.prog 83 #[v,u.v] w (fun e w'=>e= .returned (aB (ts.any fun x=>ks.any fun y=>decide (x.k=y)))∧Ext aV w w'):=by
 refine enter (n:=8) Try.func83 rfl rfl (ar rfl) ?_;intro a0 τ0 ha st0;obtain ⟨e0,e1⟩:=pp ha;have hle:=hS.le;refine wp_seq (rg [box _ _ 0 3 [u.v],_] [0,0] st0 [] ⟨gV (v:=u.v) rfl rfl rfl rfl rfl (fun _ _ _ _ c=>(c.p e1)),am fun c=>au rfl rfl,av⟩ fun ac ag ae ab aa=> ?_);obtain ⟨b1x3,e3⟩:=gx ac 3;replace e0:=aa.k1 e0;have e4:=aa.V 1;have r0:=aa.rb 0 e3 rfl;refine wp_seq ?_;refine lS [0,0,3,7] ab [jb r0] ⟨aq e0,am fun c=>oi rfl (c.p e3),eu fun c=>⟨_,_,(ca rfl rfl Try.call94 (c.q 0) (c.q 1)),Ad v b1x3 ts (fun x_=>(ks).any fun y_=>decide (x_.k=y_)) _ (fun t_ _ w2_ he_=>by rw [(c.ib 0 rfl).ptr];exact Ac t_ _ u.v ks w2_ (he_.cell_some ((c.ib 0 rfl).cell (j:=0) rfl) (fun h=>h)) ((hU.at (ab.ext.trans c.J.ext)).keep he_ (fun _ h=>h))) (hS.at (ab.ext.trans c.J.ext))⟩,aK 2,av⟩ fun ac ag ae ab aa=> ?_;have e4:=aa.V 3;refine wp_ret ?_;refine rp ?_;refine cG (fn:=Try.f83) rfl ab.defers e4 ?_;exact ⟨rfl,ab.ext0⟩
end
section
open Go.RowKit
open Srt
theorem vw (v u:Value) (ts:List Tr) (ks:List Int) (w:World) (hS:SlT lE w v ts) (hU:SlT iV w u ks):Calls Try.prog 83 #[v,u] w (fun e w'=>e= .returned (.bool (ts.any fun x=>ks.any fun y=>decide (x.k=y)))∧Ext aV w w'):=by
  obtain ⟨s,rfl⟩:=hU.sl.sv;exact BJ v s ts ks w hS hU
theorem yg {t:Tr} (h:eJ t≤1000000):pF t.rows:=fun r hr=>by
  have h1:=zH hr;have h2:=jX t;have h3:0≤cR (t.kids.map eJ):=gH fun x hx=>by
    obtain ⟨k,hk,rfl⟩:=List.mem_map.1 hx;have:=kw k;omega
  omega
def mD (t:Tr) (ks:List Int):Bool:=(t.kids).any fun x_=>ks.any fun y_=>decide (x_.k=y_)
def lc (t:Tr):Bool:=kg t.ch t.ng t.rows t.mn t.mx t.lz
def cV (t:Tr):Bool:=
  if t.k=2 then (kg (⟨#[]⟩:ByteArray) t.ng t.rows t.mn t.mx t.lz&&decide ((t.kids.length:Int)=0))&&cY t.ch
  else if t.k=4 then (kg t.ch false [] t.mn t.mx t.lz&&decide ((t.kids.length:Int)=0))&&ls t.rows
  else if t.k=7 then ((((kg t.ch t.ng t.rows 0 0 false&&decide ((t.kids.length:Int)=1))&&nZ (nth t.kids 0).k)&&decide (0≤t.mn))&&decide (t.mn≤255))&&(decide (t.mx= -1) || (decide (t.mn≤t.mx)&&decide (t.mx≤255)))
  else if t.k=0 then (lc t&& !decide ((t.kids.length:Int)=1))&& !mD t [0,1]
  else if t.k=1 then (lc t&&decide (1 < (t.kids.length:Int)))&& !mD t [1]
  else if t.k=5∨t.k=6 then lc t&&decide ((t.kids.length:Int)=1)
  else if t.k=3∨t.k=8∨t.k=9∨t.k=10∨t.k=11 then lc t&&decide ((t.kids.length:Int)=0)
  else false
set_option maxRecDepth 100000 in
theorem tf (t:Tr) (w:World) (hT:oI w t) (hP:eJ t≤1000000):Calls Try.prog 67 #[(ta t)] w (fun e w'=>e= .returned (aB (cV t))∧Ext aV w w'):=by
 refine enter (n:=149) Try.func67 rfl rfl (ar rfl) ?_;intro a0 τ0 ha st0;have e0:aS a0 0=(ta t):=ha 0 _ rfl;clear ha;have hle:=hT.kids.le;have hle2:=hT.rows.le;have hwt:=fQ t;have hsm:=yg hP;refine wp_seq (rg [box _ _ 0 1 (tc t),_] [0,0] st0 [] ⟨gV (v:=(ta t)) rfl rfl rfl rfl rfl (fun _ _ _ _ c=>(c.p e0)),am fun c=>au rfl rfl,av⟩ fun ac ag ae ab aa=> ?_);obtain ⟨b1x1,e1⟩:=gx ac 1;have e2:=aa.V 1;have r0:=aa.rb 0 e1 rfl;refine wp_seq ?_;refine wp_seq (eE ab [jb r0] ⟨cg aA ay e1 r0.ptr,eG aD 0 0 0,av⟩ fun ac ag ae ab aa=> ?_);obtain ⟨e1,e2⟩:=aa.k2 e1 e2;have e8:=aa.V 1;replace r0:=aa.B 0;refine wp_block ?_;refine wp_seq (eE ab [jb r0] ⟨am fun c=>cu rfl (c.p e8) rfl,aK 0,av⟩ fun ac ag ae ab aa=> ?_);obtain ⟨e1,e2,e8⟩:=aa.k3 e1 e2 e8;have e9:=aa.V 1;replace r0:=aa.B 0;refine wp_cond_split e9 (fun hc1=> ?_) (fun hc1=> ?_)
 · try simp only [ah] at hc1
   refine wp_seq (eN ab [jb r0] ⟨cg aA bq e1 r0.ptr,eG bQ 0 0 1,aK 1,av⟩ fun ac ag ae ab aa=> ?_);obtain ⟨e1,e2,e8⟩:=aa.k3 e1 e2 e8;have e3:=aa.V 2;replace r0:=aa.B 0;refine wp_seq (eE ab [jb r0] ⟨cg aA bq e1 r0.ptr,bX (cx:=[(aj t.k),(aR (⟨#[]⟩:ByteArray)),(aB t.ng),t.rv.v,(aj t.mn),(aj t.mx),(aB t.lz),t.kv.v]) (v:=(aR (⟨#[]⟩:ByteArray))) bq fun c=>⟨c.bp 0 rfl e1,c.ad (c.q 0) e1 rfl,rfl⟩,av⟩ fun ac ag ae ab aa=> ?_);obtain ⟨e1,e2,e3,e8⟩:=aa.k4 e1 e2 e3 e8;replace r0:=aa.RB 1 e1;refine wp_seq ?_;refine rg [_,_,_,_,_,_,_,_,_,_,_,_,_] [0,1,3,7,15,31,63,127,255,511,1023,2047,4095] ab [jb r0] ⟨am fun c=>eB rfl aE ak ((c.p e1).trans r0.ptr) (c.B 0),eu fun c=>⟨_,_,(bw rfl rfl fD (c.q 0)),jq t.k (⟨#[]⟩:ByteArray) t.ng t.rv.v t.rows t.mn t.mx t.lz t.kv.v rfl _ (hT.at (ab.ext.trans c.J.ext)).rows⟩,bk 1,aC 2 rfl fun c hpc=>cN rfl aA ck ((c.p e1).trans r0.ptr),aC 2 rfl fun c hpc=>az rfl dh (c.M 3 hpc) ((c.B 0).cell (j:=7) rfl),aC 2 rfl fun c hpc=>cU rfl aP (c.M 4 hpc) (hT.at ab.ext).tl.sl.sl,aC 2 rfl fun c hpc=>cu rfl (c.M 5 hpc) rfl,bN 2 6,bk 7,aC 8 rfl fun c hpc=>aN rfl (c.p e3),fE 8 true rfl fun c hpc=>⟨_,_,(bw rfl rfl Try.call5 (c.M 9 hpc)),nC t.ch _ (by have hq0:=hpc;(try simp only [ao,ah] at hq0);omega)⟩,bN 8 10,aK 11,av⟩ fun ac ag ae ab aa=> ?_;obtain ⟨e1,e8⟩:=aa.k2 e1 e8;have e2:=aa.V 12;replace r0:=aa.B 0;refine wp_ret ?_;refine rp ?_;refine cG (fn:=Try.f67) rfl ab.defers e2 ?_;exact ⟨congrArg _ (congrArg _ (by unfold cV;(repeat (first | rw [if_neg (by omega)] | rw [if_pos (by omega)]));(try rfl))),ab.ext0⟩
 try simp only [ai] at hc1
 refine wp_seq (eE ab [jb r0] ⟨am fun c=>cu rfl (c.p e8) rfl,aK 0,av⟩ fun ac ag ae ab aa=> ?_);obtain ⟨e1,e2,e8⟩:=aa.k3 e1 e2 e8;have e26:=aa.V 1;replace r0:=aa.B 0;refine wp_cond_split e26 (fun hc2=> ?_) (fun hc2=> ?_)
 · try simp only [ah] at hc2
   refine wp_seq (eN ab [jb r0] ⟨cg aA eW e1 r0.ptr,eG lM 0 0 3,aK 1,av⟩ fun ac ag ae ab aa=> ?_);obtain ⟨e1,e2,e8⟩:=aa.k3 e1 e2 e8;have e4:=aa.V 2;replace r0:=aa.B 0;refine wp_seq ?_;refine bz ?_;refine cO 3 (by kernel_rfl) ?_;refine og [_,_,_] [0,1,3] ab [jb r0] ⟨cg aA eW e1 r0.ptr,bX (cx:=[(aj t.k),(aR t.ch),(aB t.ng),(.slice none 0 0),(aj t.mn),(aj t.mx),(aB t.lz),t.kv.v]) (v:=(.slice none 0 0)) eW fun c=>⟨c.bp 0 rfl e1,c.ad (c.q 0) e1 rfl,rfl⟩,cg aA bC e1 r0.ptr,av⟩ fun ac ag ae ab aa=> ?_;obtain ⟨e1,e2,e4,e8⟩:=aa.k4 e1 e2 e4 e8;have e31:=aa.V 2;replace r0:=aa.RB 1 e1;refine cP ?_;refine og [_] [0] ab [jb r0] ⟨bX (cx:=[(aj t.k),(aR t.ch),(aB false),(.slice none 0 0),(aj t.mn),(aj t.mx),(aB t.lz),t.kv.v]) (v:=(aB false)) bC fun c=>⟨c.bp 0 rfl e1,c.ad (c.p e31) e1 rfl,rfl⟩,av⟩ fun ac ag ae ab aa=> ?_;obtain ⟨e1,e2,e4,e8⟩:=aa.k4 e1 e2 e4 e8;replace r0:=aa.RB 0 e1;refine wp_seq ?_;refine rg [_,_,_,_,_,_,_,_,_,_,_,_,_] [0,1,3,7,15,31,63,127,255,511,1023,2047,4095] ab [jb r0] ⟨am fun c=>eB rfl aE ak ((c.p e1).trans r0.ptr) (c.B 0),eu fun c=>⟨_,_,(bw rfl rfl fD (c.q 0)),jq t.k t.ch false (.slice none 0 0) [] t.mn t.mx t.lz t.kv.v rfl _ (SlT.nil _ _)⟩,bk 1,aC 2 rfl fun c hpc=>cN rfl aA ck ((c.p e1).trans r0.ptr),aC 2 rfl fun c hpc=>az rfl dh (c.M 3 hpc) ((c.B 0).cell (j:=7) rfl),aC 2 rfl fun c hpc=>cU rfl aP (c.M 4 hpc) (hT.at ab.ext).tl.sl.sl,aC 2 rfl fun c hpc=>cu rfl (c.M 5 hpc) rfl,bN 2 6,bk 7,aC 8 rfl fun c hpc=>aN rfl (c.p e4),fE 8 true rfl fun c hpc=>⟨_,_,(bw rfl rfl Try.call81 (c.M 9 hpc)),BG t.rv.v t.rows _ (hT.at (ab.ext.trans c.J.ext)).rows (by first | assumption | (unfold pF;decide)) (by have hq0:=hpc;(try simp only [ao,ah] at hq0);omega)⟩,bN 8 10,aK 11,av⟩ fun ac ag ae ab aa=> ?_;obtain ⟨e1,e8⟩:=aa.k2 e1 e8;have e2:=aa.V 12;replace r0:=aa.B 0;refine wp_ret ?_;refine rp ?_;refine cG (fn:=Try.f67) rfl ab.defers e2 ?_;exact ⟨congrArg _ (congrArg _ (by unfold cV;(repeat (first | rw [if_neg (by omega)] | rw [if_pos (by omega)]));(try rfl))),ab.ext0⟩
 try simp only [ai] at hc2
 refine wp_seq (eE ab [jb r0] ⟨am fun c=>cu rfl (c.p e8) rfl,aK 0,av⟩ fun ac ag ae ab aa=> ?_);obtain ⟨e1,e2,e8⟩:=aa.k3 e1 e2 e8;have e44:=aa.V 1;replace r0:=aa.B 0;refine wp_cond_split e44 (fun hc3=> ?_) (fun hc3=> ?_)
 · try simp only [ah] at hc3
   refine wp_seq (Cr [0,1,0,4,3,31] ab [jb r0] ⟨cg aA ay e1 r0.ptr,eG aD 0 0 4,cg aA ay e1 r0.ptr,eG aD 2 0 5,aK 1,aK 3,av⟩ fun ac ag ae ab aa=> ?_);obtain ⟨e1,e2,e8⟩:=aa.k3 e1 e2 e8;have e5:=aa.V 4;have e6:=aa.V 5;replace r0:=aa.B 0;refine wp_seq ?_;refine bz ?_;refine cO 3 (by kernel_rfl) ?_;refine og [_,_,_] [0,1,3] ab [jb r0] ⟨cg aA ay e1 r0.ptr,bX (cx:=[(aj t.k),(aR t.ch),(aB t.ng),t.rv.v,(aj 0),(aj t.mx),(aB t.lz),t.kv.v]) (v:=(aj 0)) ay fun c=>⟨c.bp 0 rfl e1,c.ad (c.q 0) e1 rfl,rfl⟩,cg aA ay e1 r0.ptr,av⟩ fun ac ag ae ab aa=> ?_;obtain ⟨e1,e2,e5,e6,e8⟩:=aa.k5 e1 e2 e5 e6 e8;have e51:=aa.V 2;replace r0:=aa.RB 1 e1;refine cP ?_;refine cO 2 (by kernel_rfl) ?_;refine og [_,_] [0,1] ab [jb r0] ⟨bX (cx:=[(aj t.k),(aR t.ch),(aB t.ng),t.rv.v,(aj 0),(aj 0),(aB t.lz),t.kv.v]) (v:=(aj 0)) ay fun c=>⟨c.bp 0 rfl e1,c.ad (c.p e51) e1 rfl,rfl⟩,cg aA bC e1 r0.ptr,av⟩ fun ac ag ae ab aa=> ?_;obtain ⟨e1,e2,e5,e6,e8⟩:=aa.k5 e1 e2 e5 e6 e8;have e52:=aa.V 1;replace r0:=aa.RB 0 e1;refine cP ?_;refine og [_] [0] ab [jb r0] ⟨bX (cx:=[(aj t.k),(aR t.ch),(aB t.ng),t.rv.v,(aj 0),(aj 0),(aB false),t.kv.v]) (v:=(aB false)) bC fun c=>⟨c.bp 0 rfl e1,c.ad (c.p e52) e1 rfl,rfl⟩,av⟩ fun ac ag ae ab aa=> ?_;obtain ⟨e1,e2,e5,e6,e8⟩:=aa.k5 e1 e2 e5 e6 e8;replace r0:=aa.RB 0 e1;refine wp_seq ?_;refine rg [_,_,_,_,_,_,_,_,_,_,_,_,_,_,_,_,_,_,_,_,_,_,_,_,_,_,_,_,_,_,_,_,_,_,_,_,_,_] [0,1,3,7,15,31,63,127,255,511,1023,2047,4095,8191,16383,32767,65535,131071,262143,524287,1048575,2097151,4194303,8388607,16777215,33554431,67108863,134217727,268435455,268435455,1073741823,2147483647,4294967295,8589934591,17179869183,34359738367,68719476735,137438953471] ab [jb r0] ⟨am fun c=>eB rfl aE ak ((c.p e1).trans r0.ptr) (c.B 0),eu fun c=>⟨_,_,(bw rfl rfl fD (c.q 0)),jq t.k t.ch t.ng t.rv.v t.rows 0 0 false t.kv.v rfl _ (hT.at (ab.ext.trans c.J.ext)).rows⟩,bk 1,aC 2 rfl fun c hpc=>cN rfl aA ck ((c.p e1).trans r0.ptr),aC 2 rfl fun c hpc=>az rfl dh (c.M 3 hpc) ((c.B 0).cell (j:=7) rfl),aC 2 rfl fun c hpc=>cU rfl aP (c.M 4 hpc) (hT.at ab.ext).tl.sl.sl,aC 2 rfl fun c hpc=>cu rfl (c.M 5 hpc) rfl,bN 2 6,bk 7,aC 8 rfl fun c hpc=>cN rfl aA ck ((c.p e1).trans r0.ptr),aC 8 rfl fun c hpc=>az rfl dh (c.M 9 hpc) ((c.B 0).cell (j:=7) rfl),aC 8 rfl fun c hpc=>aW rfl aP ak (c.M 10 hpc) (hT.at ab.ext).tl.sl.sl rfl (by have hq0:=hpc;(try simp only [ao,ah] at hq0);omega) (by have hq0:=hpc;(try simp only [ao,ah] at hq0);omega),aC 8 rfl fun c hpc=>cN rfl aA ay (c.M 11 hpc),aC 8 rfl fun c hpc=>az rfl aD (c.M 12 hpc) (((hT.at (ab.ext.trans c.J.ext)).tl.sl).elem (j:=0) (bD (i:=0) (by have hq0:=hpc;(try simp only [ao,ah] at hq0);omega) (by have hq0:=hpc;(try simp only [ao,ah] at hq0);omega)) rfl),fE 8 true rfl fun c hpc=>⟨_,_,(bw rfl rfl Try.call82 (c.M 13 hpc)),ur ((nth t.kids 0).k) _⟩,bN 8 14,bk 15,aC 16 rfl fun c hpc=>aN rfl (c.p e5),aC 16 rfl fun c hpc=>gl rfl (c.M 17 hpc) rfl,bN 16 18,bk 19,aC 20 rfl fun c hpc=>aN rfl (c.p e5),aC 20 rfl fun c hpc=>jQ rfl (c.M 21 hpc) rfl,bN 20 22,bk 23,aC 24 rfl fun c hpc=>aN rfl (c.p e6),aC 24 rfl fun c hpc=>cu rfl (c.M 25 hpc) rfl,aC 24 rfl fun c hpc=>aN rfl (c.M 26 hpc),cA 27 false rfl fun c hpc=>aN rfl (c.p e6),cA 27 false rfl fun c hpc=>aN rfl (c.p e5),cA 27 false rfl fun c hpc=>gl rfl (c.M 28 hpc) (c.M 29 hpc),cA 27 false rfl fun c hpc=>aN rfl (c.M 30 hpc),cA 31 true rfl fun c hpc=>aN rfl (c.p e6),cA 31 true rfl fun c hpc=>jQ rfl (c.M 32 hpc) rfl,cA 27 false rfl fun c hpc=>lD rfl (c.M 31 hpc) (fun h=>c.m 33 rfl (And.intro hpc h)),aC 24 rfl fun c hpc=>vW rfl (c.M 27 hpc) (fun h=>c.m 34 rfl (And.intro hpc h)),bN 24 35,aK 36,av⟩ fun ac ag ae ab aa=> ?_;obtain ⟨e1,e8⟩:=aa.k2 e1 e8;have e2:=aa.V 37;replace r0:=aa.B 0;refine wp_ret ?_;refine rp ?_;refine cG (fn:=Try.f67) rfl ab.defers e2 ?_;exact ⟨congrArg _ (congrArg _ (by unfold cV;(repeat (first | rw [if_neg (by omega)] | rw [if_pos (by omega)]));(try rfl))),ab.ext0⟩
 try simp only [ai] at hc3
 refine wp_seq (eE ab [jb r0] ⟨am fun c=>cu rfl (c.p e8) rfl,aK 0,av⟩ fun ac ag ae ab aa=> ?_);obtain ⟨e1,e2,e8⟩:=aa.k3 e1 e2 e8;have e90:=aa.V 1;replace r0:=aa.B 0;refine wp_cond_split e90 (fun hc4=> ?_) (fun hc4=> ?_)
 · try simp only [ah] at hc4
   refine wp_seq (rg [_,_,_,_,_,_,_,_,_,_,_,gown (((kg t.ch t.ng t.rows t.mn t.mx t.lz)&&(!decide ((t.kids.length:Int)=1)))=true) iV 3 (Nw w) 1 103 ([0,1]),_,_,_,_] [0,1,3,7,15,31,63,127,255,511,1023,511,4095,8191,16383,32767] ab [jb r0] ⟨am fun c=>eB rfl aE ak ((c.p e1).trans r0.ptr) (c.B 0),eu fun c=>⟨_,_,(bw rfl rfl fD (c.q 0)),jq t.k t.ch t.ng t.rv.v t.rows t.mn t.mx t.lz t.kv.v rfl _ (hT.at (ab.ext.trans c.J.ext)).rows⟩,bk 1,aC 2 rfl fun c hpc=>cN rfl aA ck ((c.p e1).trans r0.ptr),aC 2 rfl fun c hpc=>az rfl dh (c.M 3 hpc) ((c.B 0).cell (j:=7) rfl),aC 2 rfl fun c hpc=>cU rfl aP (c.M 4 hpc) (hT.at ab.ext).tl.sl.sl,aC 2 rfl fun c hpc=>km rfl (c.M 5 hpc) rfl,bN 2 6,bk 7,aC 8 rfl fun c hpc=>cN rfl aA ck ((c.p e1).trans r0.ptr),aC 8 rfl fun c hpc=>az rfl dh (c.M 9 hpc) ((c.B 0).cell (j:=7) rfl),rh (gi:=8) (tg:=100) rfl rfl rfl rfl rfl rfl Iff.rfl (fun hpc=>cJ (cells:=#[(aj 0),(aj 1)]) rfl rfl rfl rfl ce ay gU rfl (by decide) (by decide) (fun _ _ _ _ c=>gO rfl rfl (by kernel_rfl)) rfl),fE 8 true rfl fun c hpc=>⟨_,_,(ca rfl rfl Try.call83 (c.M 10 hpc) (oZ _ 103)),vw t.kv.v _ t.kids [0,1] _ (hT.at (ab.ext.trans c.J.ext)).tl.sl (c.rg 11 rfl hpc).1.sl⟩,aC 8 rfl fun c hpc=>dC rfl (c.M 12 hpc),bN 8 13,aK 14,av⟩ fun ac ag ae ab aa=> ?_);obtain ⟨e1,e8⟩:=aa.k2 e1 e8;have e2:=aa.V 15;replace r0:=aa.B 0;refine wp_ret ?_;refine rp ?_;refine cG (fn:=Try.f67) rfl ab.defers e2 ?_;exact ⟨congrArg _ (congrArg _ (by unfold cV;(repeat (first | rw [if_neg (by omega)] | rw [if_pos (by omega)]));(try rfl))),ab.ext0⟩
 try simp only [ai] at hc4
 refine wp_seq (eE ab [jb r0] ⟨am fun c=>cu rfl (c.p e8) rfl,aK 0,av⟩ fun ac ag ae ab aa=> ?_);obtain ⟨e1,e2,e8⟩:=aa.k3 e1 e2 e8;have e107:=aa.V 1;replace r0:=aa.B 0;refine wp_cond_split e107 (fun hc5=> ?_) (fun hc5=> ?_)
 · try simp only [ah] at hc5
   refine wp_seq (rg [_,_,_,_,_,_,_,_,_,_,_,gown (((kg t.ch t.ng t.rows t.mn t.mx t.lz)&&(decide (1 < (t.kids.length:Int))))=true) iV 3 (Nw w) 1 120 ([1]),_,_,_,_] [0,1,3,7,15,31,63,127,255,511,1023,511,4095,8191,16383,32767] ab [jb r0] ⟨am fun c=>eB rfl aE ak ((c.p e1).trans r0.ptr) (c.B 0),eu fun c=>⟨_,_,(bw rfl rfl fD (c.q 0)),jq t.k t.ch t.ng t.rv.v t.rows t.mn t.mx t.lz t.kv.v rfl _ (hT.at (ab.ext.trans c.J.ext)).rows⟩,bk 1,aC 2 rfl fun c hpc=>cN rfl aA ck ((c.p e1).trans r0.ptr),aC 2 rfl fun c hpc=>az rfl dh (c.M 3 hpc) ((c.B 0).cell (j:=7) rfl),aC 2 rfl fun c hpc=>cU rfl aP (c.M 4 hpc) (hT.at ab.ext).tl.sl.sl,aC 2 rfl fun c hpc=>jh rfl (c.M 5 hpc) rfl,bN 2 6,bk 7,aC 8 rfl fun c hpc=>cN rfl aA ck ((c.p e1).trans r0.ptr),aC 8 rfl fun c hpc=>az rfl dh (c.M 9 hpc) ((c.B 0).cell (j:=7) rfl),rh (gi:=8) (tg:=117) rfl rfl rfl rfl rfl rfl Iff.rfl (fun hpc=>cJ (cells:=#[(aj 1)]) rfl rfl rfl rfl ce ay gU rfl (by decide) (by decide) (fun _ _ _ _ c=>fF rfl (by kernel_rfl)) rfl),fE 8 true rfl fun c hpc=>⟨_,_,(ca rfl rfl Try.call83 (c.M 10 hpc) (oZ _ 120)),vw t.kv.v _ t.kids [1] _ (hT.at (ab.ext.trans c.J.ext)).tl.sl (c.rg 11 rfl hpc).1.sl⟩,aC 8 rfl fun c hpc=>dC rfl (c.M 12 hpc),bN 8 13,aK 14,av⟩ fun ac ag ae ab aa=> ?_);obtain ⟨e1,e8⟩:=aa.k2 e1 e8;have e2:=aa.V 15;replace r0:=aa.B 0;refine wp_ret ?_;refine rp ?_;refine cG (fn:=Try.f67) rfl ab.defers e2 ?_;exact ⟨congrArg _ (congrArg _ (by unfold cV;(repeat (first | rw [if_neg (by omega)] | rw [if_pos (by omega)]));(try rfl))),ab.ext0⟩
 try simp only [ai] at hc5
 refine wp_seq ?_;refine wp_seq (eE ab [jb r0] ⟨am fun c=>cu rfl (c.p e8) rfl,aK 0,av⟩ fun ac ag ae ab aa=> ?_);obtain ⟨e1,e2,e8⟩:=aa.k3 e1 e2 e8;have e124:=aa.V 1;replace r0:=aa.B 0;refine wp_cond_split e124 (fun hc6=> ?_) (fun hc6=> ?_)
 · have hd6:=hc6;try simp only [ah] at hd6
   refine wp_skip ?_;refine wp_cond_true (e124.trans (congrArg _ hc6)) ?_;refine wp_seq (uU [0,1,3,7,15,31,63,127,255] ab [jb r0] ⟨am fun c=>eB rfl aE ak ((c.p e1).trans r0.ptr) (c.B 0),eu fun c=>⟨_,_,(bw rfl rfl fD (c.q 0)),jq t.k t.ch t.ng t.rv.v t.rows t.mn t.mx t.lz t.kv.v rfl _ (hT.at (ab.ext.trans c.J.ext)).rows⟩,bk 1,aC 2 rfl fun c hpc=>cN rfl aA ck ((c.p e1).trans r0.ptr),aC 2 rfl fun c hpc=>az rfl dh (c.M 3 hpc) ((c.B 0).cell (j:=7) rfl),aC 2 rfl fun c hpc=>cU rfl aP (c.M 4 hpc) (hT.at ab.ext).tl.sl.sl,aC 2 rfl fun c hpc=>cu rfl (c.M 5 hpc) rfl,bN 2 6,aK 7,av⟩ fun ac ag ae ab aa=> ?_);obtain ⟨e1,e8⟩:=aa.k2 e1 e8;have e2:=aa.V 8;replace r0:=aa.B 0;refine wp_ret ?_;refine rp ?_;refine cG (fn:=Try.f67) rfl ab.defers e2 ?_;exact ⟨congrArg _ (congrArg _ (by unfold cV;(repeat (first | rw [if_neg (by omega)] | rw [if_pos (by omega)]));(try rfl))),ab.ext0⟩
 have hd7:=hc6;try simp only [ai] at hd7
 refine eE ab [jb r0] ⟨am fun c=>cu rfl (c.p e8) rfl,aK 0,av⟩ fun ac ag ae ab aa=> ?_;obtain ⟨e1,e2,e8⟩:=aa.k3 e1 e2 e8;have e124:=aa.V 1;replace r0:=aa.B 0;refine wp_cond_split e124 (fun hc8=> ?_) (fun hc8=> ?_)
 · have hd8:=hc8;try simp only [ah] at hd8
   refine wp_seq (uU [0,1,3,7,15,31,63,127,255] ab [jb r0] ⟨am fun c=>eB rfl aE ak ((c.p e1).trans r0.ptr) (c.B 0),eu fun c=>⟨_,_,(bw rfl rfl fD (c.q 0)),jq t.k t.ch t.ng t.rv.v t.rows t.mn t.mx t.lz t.kv.v rfl _ (hT.at (ab.ext.trans c.J.ext)).rows⟩,bk 1,aC 2 rfl fun c hpc=>cN rfl aA ck ((c.p e1).trans r0.ptr),aC 2 rfl fun c hpc=>az rfl dh (c.M 3 hpc) ((c.B 0).cell (j:=7) rfl),aC 2 rfl fun c hpc=>cU rfl aP (c.M 4 hpc) (hT.at ab.ext).tl.sl.sl,aC 2 rfl fun c hpc=>cu rfl (c.M 5 hpc) rfl,bN 2 6,aK 7,av⟩ fun ac ag ae ab aa=> ?_);obtain ⟨e1,e8⟩:=aa.k2 e1 e8;have e2:=aa.V 8;replace r0:=aa.B 0;refine wp_ret ?_;refine rp ?_;refine cG (fn:=Try.f67) rfl ab.defers e2 ?_;exact ⟨congrArg _ (congrArg _ (by unfold cV;(repeat (first | rw [if_neg (by omega)] | rw [if_pos (by omega)]));(try rfl))),ab.ext0⟩
 have hd8:=hc8;try simp only [ai] at hd8
 refine wp_seq ?_;refine wp_seq (eE ab [jb r0] ⟨am fun c=>cu rfl (c.p e8) rfl,aK 0,av⟩ fun ac ag ae ab aa=> ?_);obtain ⟨e1,e2,e8⟩:=aa.k3 e1 e2 e8;have e135:=aa.V 1;replace r0:=aa.B 0;refine wp_cond_split e135 (fun hc9=> ?_) (fun hc9=> ?_)
 · have hd9:=hc9;try simp only [ah] at hd9
   refine wp_skip ?_;refine wp_cond_true (e135.trans (congrArg _ hc9)) ?_;refine wp_seq (uU [0,1,3,7,15,31,63,127,255] ab [jb r0] ⟨am fun c=>eB rfl aE ak ((c.p e1).trans r0.ptr) (c.B 0),eu fun c=>⟨_,_,(bw rfl rfl fD (c.q 0)),jq t.k t.ch t.ng t.rv.v t.rows t.mn t.mx t.lz t.kv.v rfl _ (hT.at (ab.ext.trans c.J.ext)).rows⟩,bk 1,aC 2 rfl fun c hpc=>cN rfl aA ck ((c.p e1).trans r0.ptr),aC 2 rfl fun c hpc=>az rfl dh (c.M 3 hpc) ((c.B 0).cell (j:=7) rfl),aC 2 rfl fun c hpc=>cU rfl aP (c.M 4 hpc) (hT.at ab.ext).tl.sl.sl,aC 2 rfl fun c hpc=>cu rfl (c.M 5 hpc) rfl,bN 2 6,aK 7,av⟩ fun ac ag ae ab aa=> ?_);have e2:=aa.V 8;refine wp_ret ?_;refine rp ?_;refine cG (fn:=Try.f67) rfl ab.defers e2 ?_;exact ⟨congrArg _ (congrArg _ (by unfold cV;(repeat (first | rw [if_neg (by omega)] | rw [if_pos (by omega)]));(try rfl))),ab.ext0⟩
 have hd10:=hc9;try simp only [ai] at hd10
 refine wp_seq (eE ab [jb r0] ⟨am fun c=>cu rfl (c.p e8) rfl,aK 0,av⟩ fun ac ag ae ab aa=> ?_);obtain ⟨e1,e2,e8⟩:=aa.k3 e1 e2 e8;have e135:=aa.V 1;replace r0:=aa.B 0;refine wp_cond_split e135 (fun hc11=> ?_) (fun hc11=> ?_)
 · have hd11:=hc11;try simp only [ah] at hd11
   refine wp_skip ?_;refine wp_cond_true (e135.trans (congrArg _ hc11)) ?_;refine wp_seq (uU [0,1,3,7,15,31,63,127,255] ab [jb r0] ⟨am fun c=>eB rfl aE ak ((c.p e1).trans r0.ptr) (c.B 0),eu fun c=>⟨_,_,(bw rfl rfl fD (c.q 0)),jq t.k t.ch t.ng t.rv.v t.rows t.mn t.mx t.lz t.kv.v rfl _ (hT.at (ab.ext.trans c.J.ext)).rows⟩,bk 1,aC 2 rfl fun c hpc=>cN rfl aA ck ((c.p e1).trans r0.ptr),aC 2 rfl fun c hpc=>az rfl dh (c.M 3 hpc) ((c.B 0).cell (j:=7) rfl),aC 2 rfl fun c hpc=>cU rfl aP (c.M 4 hpc) (hT.at ab.ext).tl.sl.sl,aC 2 rfl fun c hpc=>cu rfl (c.M 5 hpc) rfl,bN 2 6,aK 7,av⟩ fun ac ag ae ab aa=> ?_);have e2:=aa.V 8;refine wp_ret ?_;refine rp ?_;refine cG (fn:=Try.f67) rfl ab.defers e2 ?_;exact ⟨congrArg _ (congrArg _ (by unfold cV;(repeat (first | rw [if_neg (by omega)] | rw [if_pos (by omega)]));(try rfl))),ab.ext0⟩
 have hd12:=hc11;try simp only [ai] at hd12
 refine wp_seq (eE ab [jb r0] ⟨am fun c=>cu rfl (c.p e8) rfl,aK 0,av⟩ fun ac ag ae ab aa=> ?_);obtain ⟨e1,e2,e8⟩:=aa.k3 e1 e2 e8;have e135:=aa.V 1;replace r0:=aa.B 0;refine wp_cond_split e135 (fun hc13=> ?_) (fun hc13=> ?_)
 · have hd13:=hc13;try simp only [ah] at hd13
   refine wp_skip ?_;refine wp_cond_true (e135.trans (congrArg _ hc13)) ?_;refine wp_seq (uU [0,1,3,7,15,31,63,127,255] ab [jb r0] ⟨am fun c=>eB rfl aE ak ((c.p e1).trans r0.ptr) (c.B 0),eu fun c=>⟨_,_,(bw rfl rfl fD (c.q 0)),jq t.k t.ch t.ng t.rv.v t.rows t.mn t.mx t.lz t.kv.v rfl _ (hT.at (ab.ext.trans c.J.ext)).rows⟩,bk 1,aC 2 rfl fun c hpc=>cN rfl aA ck ((c.p e1).trans r0.ptr),aC 2 rfl fun c hpc=>az rfl dh (c.M 3 hpc) ((c.B 0).cell (j:=7) rfl),aC 2 rfl fun c hpc=>cU rfl aP (c.M 4 hpc) (hT.at ab.ext).tl.sl.sl,aC 2 rfl fun c hpc=>cu rfl (c.M 5 hpc) rfl,bN 2 6,aK 7,av⟩ fun ac ag ae ab aa=> ?_);have e2:=aa.V 8;refine wp_ret ?_;refine rp ?_;refine cG (fn:=Try.f67) rfl ab.defers e2 ?_;exact ⟨congrArg _ (congrArg _ (by unfold cV;(repeat (first | rw [if_neg (by omega)] | rw [if_pos (by omega)]));(try rfl))),ab.ext0⟩
 have hd14:=hc13;try simp only [ai] at hd14
 refine wp_seq (eE ab [jb r0] ⟨am fun c=>cu rfl (c.p e8) rfl,aK 0,av⟩ fun ac ag ae ab aa=> ?_);obtain ⟨e1,e2,e8⟩:=aa.k3 e1 e2 e8;have e135:=aa.V 1;replace r0:=aa.B 0;refine wp_cond_split e135 (fun hc15=> ?_) (fun hc15=> ?_)
 · have hd15:=hc15;try simp only [ah] at hd15
   refine wp_skip ?_;refine wp_cond_true (e135.trans (congrArg _ hc15)) ?_;refine wp_seq (uU [0,1,3,7,15,31,63,127,255] ab [jb r0] ⟨am fun c=>eB rfl aE ak ((c.p e1).trans r0.ptr) (c.B 0),eu fun c=>⟨_,_,(bw rfl rfl fD (c.q 0)),jq t.k t.ch t.ng t.rv.v t.rows t.mn t.mx t.lz t.kv.v rfl _ (hT.at (ab.ext.trans c.J.ext)).rows⟩,bk 1,aC 2 rfl fun c hpc=>cN rfl aA ck ((c.p e1).trans r0.ptr),aC 2 rfl fun c hpc=>az rfl dh (c.M 3 hpc) ((c.B 0).cell (j:=7) rfl),aC 2 rfl fun c hpc=>cU rfl aP (c.M 4 hpc) (hT.at ab.ext).tl.sl.sl,aC 2 rfl fun c hpc=>cu rfl (c.M 5 hpc) rfl,bN 2 6,aK 7,av⟩ fun ac ag ae ab aa=> ?_);have e2:=aa.V 8;refine wp_ret ?_;refine rp ?_;refine cG (fn:=Try.f67) rfl ab.defers e2 ?_;exact ⟨congrArg _ (congrArg _ (by unfold cV;(repeat (first | rw [if_neg (by omega)] | rw [if_pos (by omega)]));(try rfl))),ab.ext0⟩
 have hd16:=hc15;try simp only [ai] at hd16
 refine eE ab [jb r0] ⟨am fun c=>cu rfl (c.p e8) rfl,aK 0,av⟩ fun ac ag ae ab aa=> ?_;obtain ⟨e1,e2⟩:=aa.k2 e1 e2;have e135:=aa.V 1;replace r0:=aa.B 0;refine wp_cond_split e135 (fun hc17=> ?_) (fun hc17=> ?_)
 · have hd17:=hc17;try simp only [ah] at hd17
   refine wp_seq (uU [0,1,3,7,15,31,63,127,255] ab [jb r0] ⟨am fun c=>eB rfl aE ak ((c.p e1).trans r0.ptr) (c.B 0),eu fun c=>⟨_,_,(bw rfl rfl fD (c.q 0)),jq t.k t.ch t.ng t.rv.v t.rows t.mn t.mx t.lz t.kv.v rfl _ (hT.at (ab.ext.trans c.J.ext)).rows⟩,bk 1,aC 2 rfl fun c hpc=>cN rfl aA ck ((c.p e1).trans r0.ptr),aC 2 rfl fun c hpc=>az rfl dh (c.M 3 hpc) ((c.B 0).cell (j:=7) rfl),aC 2 rfl fun c hpc=>cU rfl aP (c.M 4 hpc) (hT.at ab.ext).tl.sl.sl,aC 2 rfl fun c hpc=>cu rfl (c.M 5 hpc) rfl,bN 2 6,aK 7,av⟩ fun ac ag ae ab aa=> ?_);have e2:=aa.V 8;refine wp_ret ?_;refine rp ?_;refine cG (fn:=Try.f67) rfl ab.defers e2 ?_;exact ⟨congrArg _ (congrArg _ (by unfold cV;(repeat (first | rw [if_neg (by omega)] | rw [if_pos (by omega)]));(try rfl))),ab.ext0⟩
 have hd17:=hc17;try simp only [ai] at hd17
 refine wp_skip ?_;show _;refine wp_seq (ew ab [jb r0] ⟨am fun c=>au rfl rfl,av⟩ fun ac ag ae ab aa=> ?_);have e2:=aa.V 0;refine wp_ret ?_;refine rp ?_;refine cG (fn:=Try.f67) rfl ab.defers e2 ?_;exact ⟨congrArg _ (congrArg _ (by unfold cV;(repeat (first | rw [if_neg (by omega)] | rw [if_pos (by omega)]));(try rfl))),ab.ext0⟩
end
end B
end Go.Proofs.Ytcfdebjhikahfaa
