/-
  Proved here: the given statement RunSpanSaid of chapter 16, that is: the law RunSpan answers true for every two texts and place.
  Conditions: none beyond the statement. Own texts, put together and shortened by programs.
-/
import Derived.Test.YtcfdebjhikahfaaGreatZx7
import Derived.Test.YtcfdebjhikahfaaGreatRows
import Derived.ChangeMaps5
set_option linter.unusedSimpArgs false
set_option linter.unusedVariables false
set_option linter.unusedSectionVars false
namespace Go.Proofs.YtcfdebjhikahfaaGreat
section
open Go.RowKit
abbrev iL:=@List.eq_of_mem_replicate
abbrev jI:=@List.mem_or_eq_of_mem_set
abbrev dE:=@Nat.lt_of_le_of_lt
abbrev nn:=@Nat.not_lt_zero
abbrev dN:=@Tryz.call15
abbrev lf:=@Tryz.call22
abbrev jM:=@Tryz.call25
abbrev jN:=@Tryz.call34
end
namespace B
section
open Go.RowKit
section
variable {P:Program} {a:Act} {o:Oper} {w:World}
section ints
variable {t t':TypeId} {x y:Operand} {k:IntKind} {p q:Int}
theorem tH (ho:o.op= .binOp .rem t x y t') (hx:a.eval x= .int k p) (hy:a.eval y= .int k q) (hq:q≠0):cA P a o w (.int k (p.tmod q)):=by
  simp [cA,execOp,ho,hx,hy,eqGuard,binOp,Op.intDiv,hq]
end ints
section memory
variable {t e:TypeId} {x y:Operand} {p:Addr}
end memory
end
end
section
open Go.ChangeShapes Go.WideShapes Go.ChangeAt Go.RowKit
section
variable {P:Program} {e:TypeId}
end
section
variable {P:Program} {W:World} {H:Type} {enc:TypeId × Value→H} {base:Nat} {spare:Nat→Bool} {held:Bool}
theorem jB {t:TypeId} (ht:P.underlying t=some (.int .i64)) {r:Reach} {b0:Nat} {v:Value} (hv:Value.okWide P W r b0 t v) {d:DataW H} {p:List MemPlace} (h:DataW.Trod enc P W base spare held t v d p):∃n,v= .int .i64 n∧ -9223372036854775808≤n∧n≤9223372036854775807:=by
  obtain ⟨n,rfl,_,_,hw⟩:=open_int ht hv h;simp [Lit.wf,IntKind.min,IntKind.max,IntKind.signed,IntKind.bits] at hw;exact ⟨n,rfl,hw⟩
end
end
section
open Go.RowKit
def ff (x n:Int):Int:=IntKind.i64.wrap ((IntKind.u64.wrap x).tmod (IntKind.u64.wrap n))
theorem nH {n:Int} (h:0 < n) (h2:n≤9223372036854775807):IntKind.u64.wrap n≠0:=by
  have:IntKind.u64.wrap n=n:=by simp [IntKind.wrap,IntKind.signed,IntKind.bits];omega
  omega
def dA (p q:Int × Int):Bool:=decide (p=q)
theorem ko (p q:Int × Int):dA p q=(decide (p.1=q.1)&&decide (p.2=q.2)):=by
  rw [eZ];simp [dA,Prod.ext_iff]
set_option maxRecDepth 100000 in
theorem iW (p q:Int × Int) (w:World):(Op.equal 38 (fB p) (fB q)).run Tryz.prog w= .ok (dA p q) w:=by
  rw [ko];have h:=run_equalIn_struct (P:=Tryz.prog) w 9999 38 #[.int .i64 p.1,.int .i64 p.2] #[.int .i64 q.1,.int .i64 q.2] rfl Tryz.stoodInHeld38;simp only [Op.equal,Op.maxDepth,fB,h];simp [Program.fieldsOf,Op.eqFields,part,go_sem];by_cases h1:p.1=q.1 <;> by_cases h2:p.2=q.2 <;> simp [h1,h2]
theorem jU {a:Act} {o:Oper} {w:World} {x y:Operand} {t':TypeId} {p q:Int × Int} (ho:o.op= .binOp .neq 38 x y t') (hx:a.eval x=fB p) (hy:a.eval y=fB q):cA Tryz.prog a o w (.bool (!dA p q)):=by
  have h:=iW p q w;simp only [fB] at h hx hy;simp [cA,execOp,ho,hx,hy,eqGuard,binOp,h]
set_option maxRecDepth 100000 in
theorem qC (x n:Int) (w:World) (hn:0 < n) (hn2:n≤9223372036854775807):Calls Tryz.prog 22 #[aj x,aj n] w (fun e w'=>e= .returned (aj (ff x n))∧Ext aW w w'):=by
 refine enter (n:=11) Tryz.func22 rfl rfl (aw rfl) ?_;intro a0 τ0 ha st0;obtain ⟨e0,e1⟩:=qG ha;refine wp_seq (eK st0 [] ⟨aq fun c=>ax rfl rfl,av⟩ fun ac ag ae ab aa=> ?_);obtain ⟨e0,e1⟩:=aa.k2 e0 e1;have e4:=aa.V 0;refine wp_seq (ue [0,1,0,4,15,31,63] ab [] ⟨ao e0,aq fun c=>lg rfl bX cB (c.q 0),ao e1,aq fun c=>lg rfl bX cB (c.q 2),aq fun c=>tH rfl (c.q 1) (c.q 3) (by exact nH hn hn2),aq fun c=>lg rfl cB bX (c.q 4),aK 5,av⟩ fun ac ag ae ab aa=> ?_);have e4:=aa.V 6;refine wp_ret ?_;refine rp ?_;refine cO (fn:=Tryz.f22) rfl ab.defers e4 ?_;exact ⟨rfl,ab.ext0⟩
end
section
open Go.RowKit
open Srt
set_option maxRecDepth 100000 in
theorem pj (t:Tr) (ih:∀k ∈ t.kids,∀(w:World),oO w k→di k≤1000000000→Calls Tryz.prog 34 #[k.v] w (fun e w'=>e= .returned (aj (cL k))∧Ext aW w w')) (w:World) (hT:oO w t) (hy0:di t≤1000000000):Calls Tryz.prog 34 #[t.v] w (fun e w'=>e= .returned (aj (cL t))∧Ext aW w w'):=by
 refine enter (n:=22) Tryz.func34 rfl rfl (aw rfl) ?_;intro a0 τ0 ha st0;have e0:be a0 0=(ta t):=ha 0 _ rfl;clear ha;have hle:=hT.kids.le;have hf0:∀q ∈ t.kids,0≤cL q:=fun q _=>(iN q).1;have hf1:∀q ∈ t.kids,0≤di q:=fun q _=>by have:=kE q;omega
 have hgb:=iN t;have hpe:=mJ t;have hpm:∀k:Nat,k < t.kids.length→di (nth t.kids (k:Int))≤1000000000:=fun k h_=>by
   have h1_:=mR hf1 (bN (xs:=t.kids) (i:=(k:Int)) (by omega) (by omega));have h2_:=iG t;omega
 refine wp_seq (rg [box _ _ 0 1 (tc t),_] [0,0] st0 [] ⟨hH (v:=(ta t)) rfl rfl rfl rfl rfl (fun _ _ _ _ c=>(c.p e0)),aq fun c=>ax rfl rfl,av⟩ fun ac ag ae ab aa=> ?_);obtain ⟨b1x1,e1⟩:=gx ac 1;have e2:=aa.V 1;have r0:=aa.rb 0 e1 rfl;refine wp_seq (eK ab [jb r0] ⟨aq fun c=>ax rfl rfl,av⟩ fun ac ag ae ab aa=> ?_);obtain ⟨e1,e2⟩:=aa.k2 e1 e2;have e3:=aa.V 0;replace r0:=aa.B 0;refine wp_seq ?_;refine wp_seq (fX ab [jb r0] ⟨cK aJ aA e1 r0.ptr,fE aN 0 0 0,aq fun c=>cY rfl (c.q 1) rfl,av⟩ fun ac ag ae ab aa=> ?_);obtain ⟨e1,e2,e3⟩:=aa.k3 e1 e2 e3;have e8:=aa.V 2;replace r0:=aa.B 0;refine wp_cond_split e8 (fun hc1=> ?_) (fun hc1=> ?_)
 · try simp only [ai] at hc1
   refine eK ab [jb r0] ⟨aq fun c=>ax rfl rfl,av⟩ fun ac ag ae ab aa=> ?_;obtain ⟨e1,e2⟩:=aa.k2 e1 e2;have e3:=aa.V 0;replace r0:=aa.B 0;refine wp_seq ?_;refine wp_seq (lr [0,1,3,0] ab [jb r0] ⟨cK aJ cR e1 r0.ptr,fE dG 0 0 7,aq fun c=>dk rfl aU (c.q 1) (hT.at ab.ext).tl.sl.sl,aq fun c=>aS rfl rfl,av⟩ fun ac ag ae ab aa=> ?_);obtain ⟨e2,e3⟩:=aa.k2 e2 e3;have e10:=aa.V 1;have e11:=aa.V 2;have e12:=aa.V 3;refine wp_block ?_;refine wp_loop (fun a_ w_=>∃(k:Nat) (τ:Nat→bj),(k≤t.kids.length)∧
          St (Nw w) w 22 a_ w_ τ∧
          be a_ 3=(aj ((if t.k=5 then 1 else 0)+dH ((t.kids.take k).map cL)))∧
          be a_ 12=(aj (k:Int))∧
          be a_ 2=(aj 0)∧
          be a_ 10=t.kv.v∧
          be a_ 11=(aj (t.kids.length:Int))) (fun a_ _=>t.kids.length - (intOf (be a_ 12)).toNat) ?_ ?_
   · refine ⟨0,ae,?_,ab,(e3.trans (bB (by first | omega | (rw [if_pos (by assumption)];rfl) | (rw [if_neg (by assumption)];rfl)))),(e12.trans (bB (by first | omega | (rw [if_pos (by assumption)];rfl) | (rw [if_neg (by assumption)];rfl)))),e2,e10,e11⟩
     · omega
   intro a6 w6 hI;obtain ⟨k,τ6,q0,st6,e3,e12,e2,e10,e11⟩:=hI;have hsl:=pd (f:=cL) hf0 k;have hss:k < t.kids.length→cL (nth t.kids (k:Int))≤dH (t.kids.map cL)∧dH ((t.kids.take (k+1)).map cL)=dH ((t.kids.take k).map cL)+cL (nth t.kids (k:Int)):=fun h_=>⟨mR hf0 (bN (by omega) (by omega)),pE h_⟩
   have hs2:=pd (f:=cL) hf0 (k+1);have hpk:=hpm k;have hsp:(0:Int)≤(if t.k=5 then 1 else 0)∧(if t.k=5 then (1:Int) else 0)≤1:=by split <;> omega
   have m12:=e12;refine wp_seq (eK st6 [] ⟨aq fun c=>cW rfl (c.p e12) (c.p e11),av⟩ fun ac ag ae ab aa=> ?_);obtain ⟨e2,e3,e10,e11,e12⟩:=aa.k5 e2 e3 e10 e11 e12;have e13:=aa.V 0;refine wp_seq ?_;refine wp_cond_split e13 (fun hc2=> ?_) (fun hc2=> ?_)
   · try simp only [ai] at hc2
     refine wp_skip ?_;refine wp_seq ?_;refine wp_block ?_;refine wp_seq (rg [_,_,box _ _ 0 5 [(aj 0),(bc (⟨#[]⟩:ByteArray)),(aE false),(.slice none 0 0),(aj 0),(aj 0),(aE false),(.slice none 0 0)],_] [0,1,0,7] ab [] ⟨aq fun c=>aX rfl aU ak (c.p e10) (hT.at ab.ext).tl.sl.sl (c.p e12) (by omega) (by omega),aq fun c=>cq (vs:=(tc (nth t.kids (k:Int)))) rfl az ak (c.q 0) rfl (fun _ _ hj=>((hT.at (ab.ext.trans c.J.ext)).tl.sl).elem (bF (i:=(k:Int)) (by omega) (by omega)) hj),bO rfl rfl rfl rfl aD rfl,ey (cx:=(tc (nth t.kids (k:Int)))) (off:=0) rfl ak fun c=>⟨c.rb 2 rfl,(c.rb 2 rfl).ptr,(c.q 1)⟩,av⟩ fun ac ag ae ab aa=> ?_);obtain ⟨b8x5,e5⟩:=gx ac 5;obtain ⟨e2,e3,e10,e11,e12,e13⟩:=aa.k6 e2 e3 e10 e11 e12 e13;have r0:=aa.rb 3 e5 rfl;refine vO [0,0,2,7,15] ab [jb r0] ⟨ao e3,aq fun c=>dY rfl az ak ((c.p e5).trans r0.ptr) (c.B 0),eE fun c=>⟨_,_,(bK rfl rfl jN (c.q 1)),ih _ (bN (by omega) (by omega)) _ ((hT.at (ab.ext.trans c.J.ext)).tl.el (by omega) (by omega)) (by omega)⟩,aq fun c=>cN rfl (c.q 0) (c.q 2) (by omega),aK 3,av⟩ fun ac ag ae ab aa=> ?_;obtain ⟨e2,e5,e10,e11,e12,e13⟩:=aa.k6 e2 e5 e10 e11 e12 e13;have e3:=aa.V 4;replace r0:=aa.B 0;show _;refine eA ab [jb r0] ⟨aq fun c=>cN rfl (c.p e12) rfl (by omega),bD 0,av⟩ fun ac ag ae ab aa=> ?_;obtain ⟨e2,e3,e5,e10,e11,e13⟩:=aa.k6 e2 e3 e5 e10 e11 e13;have e12:=aa.V 1;replace r0:=aa.B 0;refine ⟨⟨k+1,ae,?_,ab,(e3.trans (bB (by first | omega | (rw [if_pos (by assumption)];rfl) | (rw [if_neg (by assumption)];rfl)))),(e12.trans (bB (by first | omega | (rw [if_pos (by assumption)];rfl) | (rw [if_neg (by assumption)];rfl)))),e2,e10,e11⟩,?_⟩
     · omega
     · simp only [m12,e12,intOf];omega
   try simp only [ah,aV] at hc2
   refine wp_exit ?_;repeat (with_reducible refine cy ?_)
   refine cC ?_;refine wp_seq (eA ab [] ⟨ao e3,aK 0,av⟩ fun ac ag ae ab aa=> ?_);have e2:=aa.V 1;refine wp_ret ?_;refine rp ?_;refine cO (fn:=Tryz.f34) rfl ab.defers e2 ?_;have htk:dH ((t.kids.take k).map cL)=dH (t.kids.map cL):=by rw [bw (by omega)]
   exact ⟨congrArg _ (bB (by omega)),ab.ext0⟩
 try simp only [ah] at hc1
 refine wp_skip ?_;refine wp_seq ?_;refine wp_seq (lr [0,1,3,0] ab [jb r0] ⟨cK aJ cR e1 r0.ptr,fE dG 0 0 7,aq fun c=>dk rfl aU (c.q 1) (hT.at ab.ext).tl.sl.sl,aq fun c=>aS rfl rfl,av⟩ fun ac ag ae ab aa=> ?_);obtain ⟨e2,e3⟩:=aa.k2 e2 e3;have e10:=aa.V 1;have e11:=aa.V 2;have e12:=aa.V 3;refine wp_block ?_;refine wp_loop (fun a_ w_=>∃(k:Nat) (τ:Nat→bj),(k≤t.kids.length)∧
      St (Nw w) w 22 a_ w_ τ∧
      be a_ 3=(aj ((if t.k=5 then 1 else 0)+dH ((t.kids.take k).map cL)))∧
      be a_ 12=(aj (k:Int))∧
      be a_ 2=(aj 0)∧
      be a_ 10=t.kv.v∧
      be a_ 11=(aj (t.kids.length:Int))) (fun a_ _=>t.kids.length - (intOf (be a_ 12)).toNat) ?_ ?_
 · refine ⟨0,ae,?_,ab,(e3.trans (bB (by first | omega | (rw [if_pos (by assumption)];rfl) | (rw [if_neg (by assumption)];rfl)))),(e12.trans (bB (by first | omega | (rw [if_pos (by assumption)];rfl) | (rw [if_neg (by assumption)];rfl)))),e2,e10,e11⟩
   · omega
 intro a13 w13 hI;obtain ⟨k,τ13,q0,st13,e3,e12,e2,e10,e11⟩:=hI;have hsl:=pd (f:=cL) hf0 k;have hss:k < t.kids.length→cL (nth t.kids (k:Int))≤dH (t.kids.map cL)∧dH ((t.kids.take (k+1)).map cL)=dH ((t.kids.take k).map cL)+cL (nth t.kids (k:Int)):=fun h_=>⟨mR hf0 (bN (by omega) (by omega)),pE h_⟩
 have hs2:=pd (f:=cL) hf0 (k+1);have hpk:=hpm k;have hsp:(0:Int)≤(if t.k=5 then 1 else 0)∧(if t.k=5 then (1:Int) else 0)≤1:=by split <;> omega
 have m12:=e12;refine wp_seq (eK st13 [] ⟨aq fun c=>cW rfl (c.p e12) (c.p e11),av⟩ fun ac ag ae ab aa=> ?_);obtain ⟨e2,e3,e10,e11,e12⟩:=aa.k5 e2 e3 e10 e11 e12;have e13:=aa.V 0;refine wp_seq ?_;refine wp_cond_split e13 (fun hc3=> ?_) (fun hc3=> ?_)
 · try simp only [ai] at hc3
   refine wp_skip ?_;refine wp_seq ?_;refine wp_block ?_;refine wp_seq (rg [_,_,box _ _ 0 5 [(aj 0),(bc (⟨#[]⟩:ByteArray)),(aE false),(.slice none 0 0),(aj 0),(aj 0),(aE false),(.slice none 0 0)],_] [0,1,0,7] ab [] ⟨aq fun c=>aX rfl aU ak (c.p e10) (hT.at ab.ext).tl.sl.sl (c.p e12) (by omega) (by omega),aq fun c=>cq (vs:=(tc (nth t.kids (k:Int)))) rfl az ak (c.q 0) rfl (fun _ _ hj=>((hT.at (ab.ext.trans c.J.ext)).tl.sl).elem (bF (i:=(k:Int)) (by omega) (by omega)) hj),bO rfl rfl rfl rfl aD rfl,ey (cx:=(tc (nth t.kids (k:Int)))) (off:=0) rfl ak fun c=>⟨c.rb 2 rfl,(c.rb 2 rfl).ptr,(c.q 1)⟩,av⟩ fun ac ag ae ab aa=> ?_);obtain ⟨b15x5,e5⟩:=gx ac 5;obtain ⟨e2,e3,e10,e11,e12,e13⟩:=aa.k6 e2 e3 e10 e11 e12 e13;have r0:=aa.rb 3 e5 rfl;refine vO [0,0,2,7,15] ab [jb r0] ⟨ao e3,aq fun c=>dY rfl az ak ((c.p e5).trans r0.ptr) (c.B 0),eE fun c=>⟨_,_,(bK rfl rfl jN (c.q 1)),ih _ (bN (by omega) (by omega)) _ ((hT.at (ab.ext.trans c.J.ext)).tl.el (by omega) (by omega)) (by omega)⟩,aq fun c=>cN rfl (c.q 0) (c.q 2) (by omega),aK 3,av⟩ fun ac ag ae ab aa=> ?_;obtain ⟨e2,e5,e10,e11,e12,e13⟩:=aa.k6 e2 e5 e10 e11 e12 e13;have e3:=aa.V 4;replace r0:=aa.B 0;show _;refine eA ab [jb r0] ⟨aq fun c=>cN rfl (c.p e12) rfl (by omega),bD 0,av⟩ fun ac ag ae ab aa=> ?_;obtain ⟨e2,e3,e5,e10,e11,e13⟩:=aa.k6 e2 e3 e5 e10 e11 e13;have e12:=aa.V 1;replace r0:=aa.B 0;refine ⟨⟨k+1,ae,?_,ab,(e3.trans (bB (by first | omega | (rw [if_pos (by assumption)];rfl) | (rw [if_neg (by assumption)];rfl)))),(e12.trans (bB (by first | omega | (rw [if_pos (by assumption)];rfl) | (rw [if_neg (by assumption)];rfl)))),e2,e10,e11⟩,?_⟩
   · omega
   · simp only [m12,e12,intOf];omega
 try simp only [ah,aV] at hc3
 refine wp_exit ?_;repeat (with_reducible refine cy ?_)
 refine cC ?_;refine wp_seq (eA ab [] ⟨ao e3,aK 0,av⟩ fun ac ag ae ab aa=> ?_);have e2:=aa.V 1;refine wp_ret ?_;refine rp ?_;refine cO (fn:=Tryz.f34) rfl ab.defers e2 ?_;have htk:dH ((t.kids.take k).map cL)=dH (t.kids.map cL):=by rw [bw (by omega)]
 exact ⟨congrArg _ (bB (by omega)),ab.ext0⟩
theorem oy (t:Tr):∀(w:World),oO w t→di t≤1000000000→Calls Tryz.prog 34 #[t.v] w (fun e w'=>e= .returned (.int .i64 (cL t))∧Ext aW w w'):=Tr.ind (P:=fun t=>∀(w:World),oO w t→di t≤1000000000→Calls Tryz.prog 34 #[t.v] w (fun e w'=>e= .returned (.int .i64 (cL t))∧Ext aW w w')) pj t
end
section
open Go.RowKit Srt
section
variable {E:Env} {t:Tr} {g:Nat}
theorem iX (h:∀q ∈ t.kids,∀g,RP (cM E q g)):∀(ts:List Tr) (g:Nat),(∀q ∈ ts,q ∈ t.kids)→∀r ∈ dy E ts g,RP r
  | [], _, _, r, hr => by simp [dy] at hr
  | u :: ts, g, hm, r, hr => by
    rw [dy] at hr;rcases List.mem_cons.1 hr with rfl | hr
    · exact h u (hm u (by simp)) g
    · exact iX h ts _ (fun x hx=>hm x (by simp [hx])) r hr
theorem kc (E:Env) (t:Tr):∀g,RP (cM E t g):=by
  induction t using Tr.ind with
  | h t ih =>
    intro g;rw [eO];exact qq (iX ih t.kids _ fun _ h=>h)
variable {r:fe} {lo n:Nat} {mn mx:Int} {lz:Bool} {gas times k:Nat} {K:cQ} {ps:Ps} {fu:Nat}
end
end
section
open Go.RowKit Srt
theorem nu {φ:Fl} (h:φ.2=false):φ=(φ.1,false):=by obtain ⟨a,b⟩:=φ;cases h;rfl
theorem jp (E:Env) (t:Tr) (lo n:Nat) (l:List fe) (k:Nat) (K:cQ) (ps:Ps) (f:Nat):im E t lo n l k K ps (f,false)=if t.k=0 then ge l k K ps (f,false) else if t.k=1 then fv l k K ps (f,false) else if t.k=7 then ea (jh l) lo n t.mn t.mx t.lz (f+1) 0 k K ps (f,false) else if f=0 then (none,(0,true)) else ji E t lo l k K ps (f - 1,false):=rfl
theorem KD.kp {K:cQ} (h:KD K) (B:Nat):KP B K:=fun to ps fu _=>h to ps fu
theorem kY {E:Env} {t:Tr} {g:Nat}:qu (cM E t g):=fun k K ps fu=>by
  rw [eO];unfold im;rw [if_pos rfl]
theorem fS (E:Env) (t:Tr) (g:Nat):jZ (cM E t g):=⟨kc E t g,kY⟩
theorem jZ.bad {r:fe} (h:jZ r) {d k:Nat} {K:cQ} (hK:KD K) {ps:Ps} {φ:Fl} (hb:mr d φ):mr d (r k K ps φ).2:=by
  obtain ⟨f,o⟩:=φ;cases o with
  | true => rw [h.2]; exact .inl rfl
  | false =>
    rcases hb with hb | hb
    · cases hb
    · exact .inr (dE (h.1 k (f+1) K (hK.kp _) ps f false (bT _)) hb)
theorem gZ:∀(l:List fe),(∀r ∈ l,jZ r)→qu (fv l)
  | [], _ => fun k K ps fu => rfl
  | r :: l, h => fun k K ps fu => by
    rw [fv,(h r (by simp)).2,if_neg (by simp)];exact gZ l (fun x hx=>h x (by simp [hx])) k K ps fu
theorem ox {l:List fe} (h:∀r ∈ l,jZ r):jZ (fv l):=⟨fun k B K hK ps fu ou hf=>rf l (fun r hr=>(h r hr).1) k B K hK ps fu ou hf,gZ l h⟩
theorem kT {l:List fe} (h:∀r ∈ l,jZ r) {K:cQ} (hK:KD K):KD (fun to ps φ=>ge l to K ps φ):=fun to ps fu=>qo l (fun r hr=>(h r hr).1) to (fu+1) K (hK.kp _) ps fu (bT _)
theorem fD {r:fe} (hr:RP r) {lo n:Nat} {mn mx:Int} {lz:Bool} {g times k:Nat} {K:cQ} (hK:KD K):KD (eB r lo n mn mx lz g times k K):=fun to ps fu=>lF hr (hK.kp (fu+1)) to ps fu (bT _)
theorem iE {E:Env} {lo k:Nat} {K:cQ} (hK:KD K):KD (ia E lo k K):=fun to ps fu=>hK to _ fu
theorem mt:KD K0:=fun to ps fu=>bz _
theorem gp {mn:Int} {lz:Bool} {times k d:Nat} {K:cQ} (hK:KD K) {ps:Ps} {φ:Fl} (hb:mr d φ):mr d (em mn lz times k K ps φ).2:=by
  obtain ⟨f,o⟩:=φ;unfold em;split
  · rename_i h;cases o with
    | true => simp at h
    | false =>
      rcases hb with hb | hb
      · cases hb
      · exact .inr (dE (hK k ps f) hb)
  · exact hb
theorem gq {mn:Int} {lz:Bool} {times k:Nat} {K:cQ} {ps:Ps} {fu:Nat}:em mn lz times k K ps (fu,true)=(none,(fu,true)):=by
  unfold em;rw [if_neg (by simp)]
theorem ln {r:fe} (h:jZ r) {lo n:Nat} {mn mx:Int} {lz:Bool} {g times k d:Nat} {K:cQ} (hK:KD K) {ps:Ps} {φ:Fl} (hb:mr d φ):mr d (dW r lo n mn mx lz g times k K ps φ).2:=by
  have h1:mr d (fV r lo n mn mx lz g times k K ps φ).2:=h.bad (fD h.1 hK) hb;unfold dW;split
  · split
    · exact h1
    · exact gp hK h1
  · exact gp hK hb
theorem lp {r:fe} (h:qu r) {lo n:Nat} {mn mx:Int} {lz:Bool} {g times k:Nat} {K:cQ} {ps:Ps} {fu:Nat}:dW r lo n mn mx lz g times k K ps (fu,true)=(none,(fu,true)):=by
  have e:fV r lo n mn mx lz g times k K ps (fu,true)=(none,(fu,true)):=h _ _ _ _;unfold dW;rw [e];split
  · rw [if_neg (by simp)];exact gq
  · exact gq
theorem Sm.L.ok1 {S:Sm} {l1 l2:List fe} (h:S.L l1 l2):(∀r ∈ l1,jZ r)∧∀r ∈ l2,jZ r:=by
  induction h with
  | nil => simp
  | cons a b c d ih =>
    constructor
    · intro r hr;rcases List.mem_cons.1 hr with rfl | hr
      · exact a
      · exact ih.1 r hr
    · intro r hr;rcases List.mem_cons.1 hr with rfl | hr
      · exact b
      · exact ih.2 r hr
theorem mu {S:Sm} {l1 l2:List fe} (h:S.L l1 l2):S.G 0 (ge l1) (ge l2):=by
  induction h with
  | nil => exact fun k B K1 K2 h1 h2 hK p q fu hp hf => hK k p q fu hp hf
  | cons a b c d ih => exact fun k B K1 K2 h1 h2 hK p q fu hp hf => c k B _ _ (kT d.ok1.1 h1) (kT d.ok1.2 h2) (fun to p q fu hp hf => ih to B K1 K2 h1 h2 hK p q fu hp hf) p q fu hp hf
theorem jD {S:Sm} {x y:Rs} {f1 f2:Fl→Rs} (h:S.R x y) (h1:∀φ,mr S.d φ→mr S.d (f1 φ).2) (h2:∀fu,f2 (fu,true)=(none,(fu,true))) (hn:y.2.2=false→x.2=(y.2.1+S.d,false)→S.R (f1 x.2) (f2 y.2)):
    S.R (if x.1.isSome=true then x else f1 x.2) (if y.1.isSome=true then y else f2 y.2):=by
  rcases h with ⟨a,b⟩ | ⟨a,b,c,d⟩ | ⟨a,b,c⟩ | ⟨a,b⟩
  · refine .inl ⟨?_,?_⟩
    · split
      · exact a
      · rw [show y.2=(y.2.1,true) from by rw [←a],h2]
    · split
      · exact b
      · exact h1 _ b
  · rw [if_neg (by rw [a];decide),if_neg (by rw [b];decide)];exact hn c d
  · rw [if_pos a,if_pos b];exact .inr (.inr (.inl ⟨a,b,c⟩))
  · rw [if_pos a];exact .inr (.inr (.inr ⟨a,b⟩))
theorem mw {S:Sm} {l1 l2:List fe} (h:S.L l1 l2):S.G 0 (fv l1) (fv l2):=by
  induction h with
  | nil => exact fun k B K1 K2 h1 h2 hK p q fu hp hf => .none
  | @cons r1 r2 l1 l2 a b c d ih =>
    intro k B K1 K2 h1 h2 hK p q fu hp hf;rw [fv,fv];refine jD (f1:=fv l1 k K1 p) (f2:=fv l2 k K2 q) (c k B K1 K2 h1 h2 hK p q fu hp hf) (fun φ hb=>(ox d.ok1.1).bad h1 hb) (fun fu=>gZ l2 d.ok1.2 k K2 q fu) fun e1 e2=> ?_;have hle:=b.1 k (fu+1) K2 (h2.kp _) q fu false (bT _);rw [e2,nu e1];exact ih k B K1 K2 h1 h2 hK p q _ hp (by omega)
theorem gV (r:fe) (lo n:Nat) (mn mx:Int) (lz:Bool) (g times k:Nat) (K:cQ) (ps:Ps) (φ:Fl):ea r lo n mn mx lz (g+1) times k K ps φ=if (eD mn lz times k K ps φ).1.isSome=true then eD mn lz times k K ps φ else dW r lo n mn mx lz g times k K ps (eD mn lz times k K ps φ).2:=rfl
theorem lq {S:Sm} {r1 r2:fe} (ok1:jZ r1) (ok2:jZ r2) (hG:S.G 1 r1 r2) {lo m:Nat} (hm:lo+m≤S.n) {mn mx:Int} {lz:Bool} {g1 g2 times k B:Nat} {K1 K2:cQ} (h1:KD K1) (h2:KD K2) (hK:S.K B K1 K2) {p q:Ps} {fu:Nat} (hp:S.P p q) (hf:fu < B)
    (ih:S.K fu (eB r1 (lo+S.A.length) m mn mx lz g1 times k K1) (eB r2 lo m mn mx lz g2 times k K2)):
    S.R (dW r1 (lo+S.A.length) m mn mx lz g1 times k K1 p (fu+S.d,false)) (dW r2 lo m mn mx lz g2 times k K2 q (fu,false)):=by
  have rest:∀{f:Nat},f < B→S.R (em mn lz times k K1 p (f+S.d,false)) (em mn lz times k K2 q (f,false)):=fun {f} hf=>by
    unfold em;by_cases hc:((decide (mn≤(times:Int))&& !lz)&& !false)=true
    · rw [if_pos hc,if_pos hc];exact hK k p q f hp hf
    · rw [if_neg hc,if_neg hc];exact .none
  unfold dW;split
  · have hx:S.R (fV r1 (lo+S.A.length) m mn mx lz g1 times k K1 p (fu+S.d,false)) (fV r2 lo m mn mx lz g2 times k K2 q (fu,false)):=hG k fu _ _ (fD ok1.1 h1) (fD ok2.1 h2) ih _ _ fu (hp.noneR hm) (bT _);refine jD (f1:=em mn lz times k K1 p) (f2:=em mn lz times k K2 q) hx (fun φ hb=>gp h1 hb) (fun fu=>gq) fun e1 e2=> ?_;have hle:(fV r2 lo m mn mx lz g2 times k K2 q (fu,false)).2.1≤fu:=ok2.1 k (fu+1) _ ((fD ok2.1 h2).kp _) _ fu false (bT _);rw [e2,nu e1];exact rest (by omega)
  · exact rest hf
theorem gW {S:Sm} {r1 r2:fe} (ok1:jZ r1) (ok2:jZ r2) (hG:S.G 1 r1 r2) {lo m:Nat} (hm:lo+m≤S.n) {mn mx:Int} {lz:Bool}:∀(g2 g1 times k B:Nat) (K1 K2:cQ),KD K1→KD K2→S.K B K1 K2→∀(p q:Ps) (fu:Nat),S.P p q→fu < B→fu+S.d < g1→fu < g2→
    S.R (ea r1 (lo+S.A.length) m mn mx lz g1 times k K1 p (fu+S.d,false)) (ea r2 lo m mn mx lz g2 times k K2 q (fu,false))
  | 0, _, _, _, _, _, _, _, _, _, _, _, _, _, _, _, h => by omega
  | _ + 1, 0, _, _, _, _, _, _, _, _, _, _, _, _, _, h, _ => by omega
  | g2 + 1, g1 + 1, times, k, B, K1, K2, h1, h2, hK, p, q, fu, hp, hf, hg1, hg2 => by
    rw [gV,gV];have hx:S.R (eD mn lz times k K1 p (fu+S.d,false)) (eD mn lz times k K2 q (fu,false)):=by
      unfold eD;split
      · exact hK k p q fu hp hf
      · exact .none
    refine jD (f1:=dW r1 (lo+S.A.length) m mn mx lz g1 times k K1 p) (f2:=dW r2 lo m mn mx lz g2 times k K2 q) hx (fun φ hb=>ln ok1 h1 hb) (fun fu=>lp ok2.2) fun e1 e2=> ?_;have hle:(eD mn lz times k K2 q (fu,false)).2.1≤fu:=qp (h2.kp (fu+1)) (bT _);rw [e2,nu e1];refine lq ok1 ok2 hG hm h1 h2 hK hp (by omega) fun to p q f hp hf=> ?_;unfold eB;split
    · exact gW ok1 ok2 hG hm g2 g1 (times+1) to B K1 K2 h1 h2 hK p q f hp (by omega) (by omega) (by omega)
    · exact .none
theorem iY {S:Sm} {E:Env}:∀(l:List Tr) (g:Nat),(∀t ∈ l,∀g,g+grpN t≤S.n→S.G (if lk t.k then 1 else 0) (cM E t (g+S.A.length)) (cM E t g))→g+grpsN l≤S.n→S.L (dy E l (g+S.A.length)) (dy E l g)
  | [], _, _, _ => .nil
  | t :: l, g, h, hn => by
    rw [dy,dy,show g+S.A.length+grpN t=g+grpN t+S.A.length by omega];have hs:grpsN (t::l)=grpN t+grpsN l:=rfl;exact .cons (fS _ _ _) (fS _ _ _) (h t (by simp) g (by omega)).zero (iY l (g+grpN t) (fun x hx=>h x (by simp [hx])) (by omega))
theorem iq {t k:Tr} (h:fq t=true) (hk:k ∈ t.kids):fq k=true:=by
  rw [gY,au,cI] at h;exact h.1 k hk
theorem jE {t:Tr} (h:fq t=true):(t.k=5∨t.k=6∨t.k=7→t.kids.length=1)∧(t.k=7→lk (nth t.kids 0).k=true):=by
  have ha:=h;rw [gY,au,cI] at ha;have hfl:=ha.2;unfold dZ at hfl;refine ⟨fun hk=> ?_,fun h7=> ?_⟩
  · rcases hk with h | h | h
    · rw [if_neg (by omega),if_neg (by omega),if_neg (by omega),if_neg (by omega),if_neg (by omega),if_pos (by omega)] at hfl;simp at hfl;omega
    · rw [if_neg (by omega),if_neg (by omega),if_neg (by omega),if_neg (by omega),if_neg (by omega),if_pos (by omega)] at hfl;simp at hfl;omega
    · rw [if_neg (by omega),if_neg (by omega),if_pos (by omega)] at hfl;simp at hfl;omega
  · rw [if_neg (by omega),if_neg (by omega),if_pos h7] at hfl;simp only [au,aR,ai] at hfl;have hr:=hfl.1.1.1.2;unfold qg at hr;unfold lk;simp only [aR,ai] at hr;simp;omega
theorem jV {l:List Tr} (h:l.length=1):l=[nth l 0]:=by
  match l,h with
  | [x], _ => rfl
theorem lL {S:Sm} {E:Env} (t:Tr):fq t=true→∀g,g+grpN t≤S.n→S.G (if lk t.k then 1 else 0) (cM E t (g+S.A.length)) (cM E t g):=by
  induction t using Tr.ind with
  | h t ih =>
    intro ha g hg;have hgn:=jn t;have hkg:fk t (g+S.A.length)=fk t g+S.A.length:=by unfold fk;split <;> omega
    have hkn:fk t g+grpsN t.kids≤S.n:=by unfold fk;split <;> rename_i h5 <;> simp only [h5] at hgn <;> simp at hgn <;> omega
    have hl:=iY (E:=E) t.kids (fk t g) (fun k hk g hg=>ih k hk (iq ha hk) g hg) hkn;obtain ⟨hf1,hf7⟩:=jE ha;intro k B K1 K2 h1 h2 hK p q fu hp hf;rw [eO,eO,hkg,jp,jp];by_cases k0:t.k=0
    · rw [if_pos k0,if_pos k0];rw [k0,if_neg (by decide)] at hf;exact mu hl k B K1 K2 h1 h2 hK p q fu hp hf
    rw [if_neg k0,if_neg k0];by_cases k1:t.k=1
    · rw [if_pos k1,if_pos k1];rw [k1,if_neg (by decide)] at hf;exact mw hl k B K1 K2 h1 h2 hK p q fu hp hf
    rw [if_neg k1,if_neg k1];by_cases k7:t.k=7
    · rw [if_pos k7,if_pos k7];rw [k7,if_neg (by decide)] at hf;have hk1:=jV (hf1 (by omega));have hm:nth t.kids 0 ∈ t.kids:=by rw [hk1];simp [nth]
      have hkg7:fk t g=g:=by unfold fk;rw [if_neg (by omega)]
      have hgs:grpsN t.kids=grpN (nth t.kids 0):=by rw [hk1];simp [grpsN,nth]
      have hG:=ih _ hm (iq ha hm) g (by omega);rw [hf7 k7,if_pos rfl] at hG;have e1:∀g',jh (dy E t.kids g')=cM E (nth t.kids 0) g':=fun g'=>by rw [hk1];rfl
      rw [e1,e1,hkg7];exact gW (fS _ _ _) (fS _ _ _) hG (by omega) (fu+1) (fu+S.d+1) 0 k B K1 K2 h1 h2 hK p q fu hp hf (by omega) (by omega)
    rw [if_neg k7,if_neg k7];by_cases f0:fu=0
    · subst f0;rw [if_pos (show (0:Nat)=0 from rfl)];refine .inl ⟨rfl,?_⟩;split
      · exact .inl rfl
      · rename_i hd;refine .inr (dE (oT (fun r hr=>(hl.ok1.1 r hr).1) (h1.kp (0+S.d)) (by omega)) (by omega))
    rw [if_neg (show ¬fu+S.d=0 by omega),if_neg f0];have hfb:fu - 1 < B:=by split at hf <;> omega
    rw [show fu+S.d - 1=fu - 1+S.d by omega];unfold ji;have head:∀{K1 K2:cQ},t.k=5∨t.k=6→KD K1→KD K2→S.K B K1 K2→S.R (jh (dy E t.kids (fk t g+S.A.length)) k K1 p (fu - 1+S.d,false)) (jh (dy E t.kids (fk t g)) k K2 q (fu - 1,false)):=fun {K1 K2} h56 h1 h2 hK=>by
      have hk1:=jV (hf1 (by omega));rw [hk1] at hl ⊢;cases hl with
      | cons a b c d => exact c k B K1 K2 h1 h2 hK p q _ hp hfb
    by_cases k5:t.k=5
    · rw [if_pos k5,if_pos k5];simp only [k5,if_pos] at hgn;exact head (.inl k5) (iE h1) (iE h2) fun to p q f hp hf=>hK to _ _ f (hp.set (by omega) _) hf
    rw [if_neg k5,if_neg k5];by_cases k6:t.k=6
    · rw [if_pos k6,if_pos k6];exact head (.inr k6) h1 h2 hK
    rw [if_neg k6,if_neg k6];by_cases k2:t.k=2∨t.k=3∨t.k=4
    · rw [if_pos k2,if_pos k2];split
      · exact hK _ p q _ hp hfb
      · exact .none
    rw [if_neg k2,if_neg k2];split
    · exact hK _ p q _ hp hfb
    · exact .none
end
section
open Go.RowKit Srt
abbrev nP (n:Nat):Ps:=List.replicate n ((-1:Int),(-1:Int))
theorem eL {E:Env} {r:fe} {m k to f:Nat} {ps:Ps} {φ:Fl} (h:eS r m k φ=(some (to,ps),(f,false))):eu E r m k φ=(some ((nth E.pl (k:Int),nth E.pl (to:Int)),ps),(f,false)):=by
  rw [oW (by rw [h];show (decide ((to:Int) < 0) || false)=false;simp),h];rfl
theorem eM {E:Env} {r:fe} {m k:Nat} {φ φ':Fl} (h:eS r m k φ=(none,φ')):eu E r m k φ=(none,φ'):=by
  rw [ph (by rw [h];rfl),h]
theorem jF (x:Rs):x.2.2=true∨(∃f,x=(none,(f,false)))∨∃to ps f,x=(some (to,ps),(f,false)):=by
  obtain ⟨o,f,u⟩:=x;cases u with
  | true => exact .inl rfl
  | false => cases o with
    | none => exact .inr (.inl ⟨f, rfl⟩)
    | some y => obtain ⟨to, ps⟩ := y; exact .inr (.inr ⟨to, ps, f, rfl⟩)
theorem kI {may hit:Bool} {x:Mt × Fl} (h:(gQ may hit x).2.2=0):may=true∧hit=true∧x.2.2=false:=by
  unfold gQ at h;split at h
  · exact absurd h (by decide)
  · split at h
    · exact absurd h (by decide)
    · split at h
      · exact absurd h (by decide)
      · simp_all
theorem kZ {t:Tr} (h:(cX t 512 16).2=true):fq t=true:=by
  rw [kF] at h;unfold rd at h;simp only [au] at h;exact h.2
section
variable {t:Tr} {fold:Bool} {s:ByteArray} {k u v:Int}
theorem my {may hit:Bool} {x:Mt × Fl} (h:¬(gQ may hit x).2.2=0):(gQ may hit x).1=none∧(gQ may hit x).2.1=0:=by
  unfold gQ at h ⊢;split
  · exact ⟨rfl,rfl⟩
  · split
    · exact ⟨rfl,rfl⟩
    · split
      · exact ⟨rfl,rfl⟩
      · rename_i h1 h2 h3;rw [if_neg h1,if_neg h2,if_neg h3] at h;exact absurd rfl h
end
def rj (A D:Ps) (n:Nat):Sm:=⟨0,A,D,n,fun x y=>∃to ps f,ps.length=n∧y=(some (to,ps),(f,false))∧x=(some (to,A++ps++D),(f,false)),fun _=>False⟩
theorem tN (A D:Ps) (n B:Nat):(rj A D n).K B K0 K0:=fun to p q fu hp hf=>by
  obtain ⟨rfl,h⟩:=hp;exact .inr (.inr (.inl ⟨rfl,rfl,to,q,fu,h,rfl,rfl⟩))
def AY (A D:Ps) (n:Nat) (x y:Rs):Prop:=(y.2.2=true∧x.2.2=true)∨(∃f,y=(none,(f,false))∧x=(none,(f,false)))∨∃to ps f,ps.length=n∧y=(some (to,ps),(f,false))∧x=(some (to,A++ps++D),(f,false))
theorem tO {A D:Ps} {n:Nat} {x y:Rs} (h:(rj A D n).R x y):AY A D n x y:=by
  rcases h with ⟨a,b⟩ | ⟨a,b,c,d⟩ | ⟨_,_,h⟩ | ⟨_,h⟩
  · rcases b with b | b
    · exact .inl ⟨a,b⟩
    · exact absurd b (nn _)
  · refine .inr (.inl ⟨y.2.1,Prod.ext b (Prod.ext rfl c),Prod.ext a d⟩)
  · exact .inr (.inr h)
  · exact h.elim
theorem qv (E:Env) {t:Tr} (ha:fq t=true) (A D:Ps) (k fu:Nat):AY A D (grpN t) (cM E t A.length k K0 (A++nP (grpN t)++D) (fu,false)) (eS (cM E t 0) (grpN t) k (fu,false)):=by
  have h:=lL (S:=rj A D (grpN t)) (E:=E) t ha 0 (by show 0+grpN t≤grpN t;omega) k (fu+1) K0 K0 mt mt (tN _ _ _ _) (A++nP (grpN t)++D) (nP (grpN t)) fu ⟨rfl,by simp [rj]⟩ (by omega);rw [show 0+(rj A D (grpN t)).A.length=A.length from gw _] at h;exact tO h
theorem rl {E:Env} {t:Tr} (ha:fq t=true) {k fu to f:Nat} {ps:Ps} (h:eS (cM E t 0) (grpN t) k (fu,false)=(some (to,ps),(f,false))):ps.length=grpN t:=by
  rcases qv E ha [] [] k fu with ⟨a,_⟩ | ⟨g,a,_⟩ | ⟨to',ps',g,a,b,_⟩
  · rw [h] at a;cases a
  · rw [h] at a;cases a
  · rw [h] at b;cases b;exact a
section
variable {t:Tr} {fold:Bool} {s:ByteArray} {k u v:Int} {x y z:Mt × Int × Int}
theorem sI (hq:x=dL t fold s k u) (h:¬x.2.2=0):x.1=none∧x.2.1=0:=by subst hq;exact my h
theorem mz {n:Int} (h:PatOk (er t) n 0) (hn:n≤255):(cX t 512 16).2=true:=by
  rw [←ki,kF];unfold rd;simp only [au,ai];exact ⟨⟨by have:=h.parts;omega,by have:=h.deep;omega⟩,h.all⟩
theorem qw (hq:x=dL t fold s k u):(x.1.isSome=true→((bJ x.1).length:Int)=cL t∧(cX t 512 16).2=true∧x.2.2=0)∧(x.1.isSome=false→(bJ x.1).length=0):=by
  subst hq;refine ⟨fun h=> ?_,fun h=>by cases hx:(dL t fold s k u).1 with | none=>rfl | some m=>rw [hx] at h;cases h⟩;have h0:(dL t fold s k u).2.2=0:=Classical.byContradiction fun hn=>by
    rw [(sI rfl hn).1] at h;cases h
  obtain ⟨m,hh,ho⟩:=kI h0;have e1:dL t fold s k u=_:=fm m hh ho;rw [e1] at h ⊢;refine ⟨?_,m,rfl⟩;rcases jF (eS (cM ⟨bA s,aO s,fold⟩ t 0) (grpN t) (plcF (aO s) k) (clampF u,false)) with h1 | ⟨f,h1⟩ | ⟨to,ps,f,h1⟩
  · rw [lm,h1] at ho;cases ho
  · rw [eM h1] at h;cases h
  · rw [eL h1];show ((ps.length:Nat):Int)=cL t;rw [rl (kZ m) h1,lH]
end
section
variable {x z:Mt × Int × Int} {n:Nat} {g1 g2:Int}
end
end
section
open Go.RowKit Srt
theorem pk {xs:List Int} (h:xs.Pairwise (· < ·)) {i:Nat} (hi:i < xs.length):plcF xs (nth xs (i:Int))=i∧mO xs (nth xs (i:Int))=true:=by
  have hp:plcF xs (nth xs (i:Int))=i:=pK h (by omega) (fun j hj=>ll h hj hi) (fun _=>by omega);refine ⟨hp,?_⟩;unfold mO;rw [hp];simp;omega
end
section
open Go.RowKit Srt
def VQ (E:Env) (k0 to:Nat) (ps:Ps):Prop:=∀p ∈ ps,p=(-1,-1)∨∃a b:Nat,k0≤a∧a≤b∧b≤to∧p=(nth E.pl (a:Int),nth E.pl (b:Int))
theorem VQ.up {E:Env} {k0 k k':Nat} {ps:Ps} (h:VQ E k0 k ps) (hk:k≤k'):VQ E k0 k' ps:=fun p hp=>(h p hp).imp id fun ⟨a,b,h1,h2,h3,h4⟩=>⟨a,b,h1,h2,by omega,h4⟩
theorem VQ.set {E:Env} {k0 k to lo:Nat} {ps:Ps} (h:VQ E k0 to ps) (h0:k0≤k) (h1:k≤to):VQ E k0 to (ps.set lo (nth E.pl (k:Int),nth E.pl (to:Int))):=fun p hp=>by
  rcases jI hp with hp | rfl
  · exact h p hp
  · exact .inr ⟨k,to,h0,h1,bz _,rfl⟩
theorem VQ.rep {E:Env} {k0 to n:Nat}:VQ E k0 to (List.replicate n ((-1:Int),(-1:Int))):=fun p hp=> .inl (iL hp)
theorem VQ.none {E:Env} {k0 to lo n:Nat} {ps:Ps} (h:VQ E k0 to ps):VQ E k0 to (noneR ps lo n):=fun p hp=>by
  unfold noneR at hp;rcases List.mem_append.1 hp with hp | hp
  · rcases List.mem_append.1 hp with hp | hp
    · exact h p (iR hp)
    · exact .inl (iL hp)
  · exact h p (gl hp)
def KV (E:Env) (k0 k:Nat) (Q:Nat × Ps→Prop) (K:cQ):Prop:=∀(to:Nat) (ps:Ps) (φ:Fl),k≤to→to≤E.cs.length→VQ E k0 to ps→∀y,(K to ps φ).1=some y→Q y
theorem KV.up {E:Env} {k0 k k':Nat} {Q:Nat × Ps→Prop} {K:cQ} (h:KV E k0 k Q K) (hk:k≤k'):KV E k0 k' Q K:=fun to ps φ h1 h2=>h to ps φ (by omega) h2
def RV (E:Env) (k0:Nat) (r:fe):Prop:=∀(k:Nat) (K:cQ) (ps:Ps) (φ:Fl) (Q:Nat × Ps→Prop),k0≤k→k≤E.cs.length→VQ E k0 k ps→KV E k0 k Q K→∀y,(r k K ps φ).1=some y→Q y
section
variable {E:Env} {k0:Nat}
theorem GS:∀(l:List fe),(∀r ∈ l,RV E k0 r)→RV E k0 (ge l)
  | [], _ => fun k K ps φ Q h0 hk hv hK y hy => hK k ps φ (bz _) hk hv y hy
  | r :: l, h => fun k K ps φ Q h0 hk hv hK y hy => h r (by simp) k (fun to ps φ => ge l to K ps φ) ps φ Q h0 hk hv (fun to ps φ h1 h2 hv y hy => GS l (fun x hx => h x (by simp [hx])) to K ps φ Q (by omega) h2 hv (hK.up h1) y hy) y hy
theorem GT:∀(l:List fe),(∀r ∈ l,RV E k0 r)→RV E k0 (fv l)
  | [], _ => fun k K ps φ Q h0 hk hv hK y hy => by cases hy
  | r :: l, h => fun k K ps φ Q h0 hk hv hK y hy => by
    rw [fv] at hy;split at hy
    · exact h r (by simp) k K ps φ Q h0 hk hv hK y hy
    · exact GT l (fun x hx=>h x (by simp [hx])) k K ps _ Q h0 hk hv hK y hy
theorem Bf {r:fe} (hr:RV E k0 r) {lo m:Nat} {mn mx:Int} {lz:Bool}:∀(g times:Nat),RV E k0 (ea r lo m mn mx lz g times)
  | 0, times => fun k K ps φ Q h0 hk hv hK y hy => by cases hy
  | g + 1, times => fun k K ps φ Q h0 hk hv hK y hy => by
    have h1:∀y,(eD mn lz times k K ps φ).1=some y→Q y:=fun y hy=>by
      unfold eD at hy;split at hy
      · exact hK k ps φ (bz _) hk hv y hy
      · cases hy
    have h2:∀φ y,(fV r lo m mn mx lz g times k K ps φ).1=some y→Q y:=fun φ y hy=>hr k (eB r lo m mn mx lz g times k K) _ φ Q h0 hk hv.none (fun to ps φ a1 a2 hv y hy=>by
      unfold eB at hy;split at hy
      · exact Bf hr g (times+1) to K ps φ Q (by omega) a2 hv (hK.up a1) y hy
      · cases hy) y hy
    have h3:∀φ y,(em mn lz times k K ps φ).1=some y→Q y:=fun φ y hy=>by
      unfold em at hy;split at hy
      · exact hK k ps φ (bz _) hk hv y hy
      · cases hy
    rw [nN] at hy;split at hy
    · exact h1 y hy
    · split at hy
      · split at hy
        · exact h2 _ y hy
        · exact h3 _ y hy
      · exact h3 _ y hy
theorem zm {l:List fe} (h:∀r ∈ l,RV E k0 r):RV E k0 (jh l):=by
  cases l with
  | nil => exact fun k K ps φ Q h0 hk hv hK y hy => by cases hy
  | cons r l => exact h r (by simp)
theorem II {t:Tr} {lo m:Nat} {l:List fe} (h:∀r ∈ l,RV E k0 r):RV E k0 (im E t lo m l):=fun k K ps φ Q h0 hk hv hK y hy=>by
  unfold im at hy;split at hy
  · cases hy
  · split at hy
    · exact GS l h k K ps φ Q h0 hk hv hK y hy
    · split at hy
      · exact GT l h k K ps φ Q h0 hk hv hK y hy
      · split at hy
        · exact Bf (zm h) _ _ k K ps φ Q h0 hk hv hK y hy
        · split at hy
          · cases hy
          · unfold ji at hy;split at hy
            · exact zm h k _ ps _ Q h0 hk hv (fun to ps φ a1 a2 hv y hy=>hK to _ φ a1 a2 (hv.set h0 a1) y hy) y hy
            · split at hy
              · exact zm h k K ps _ Q h0 hk hv hK y hy
              · split at hy
                · split at hy
                  · rename_i hc;simp only [au,ai] at hc;exact hK (k+1) ps _ (by omega) (by omega) (hv.up (by omega)) y hy
                  · cases hy
                · split at hy
                  · exact hK k ps _ (bz _) hk hv y hy
                  · cases hy
theorem Du:∀(l:List Tr) (g:Nat),(∀k ∈ l,∀g,RV E k0 (cM E k g))→∀r ∈ dy E l g,RV E k0 r
  | [], g, h, r, hr => by simp [dy] at hr
  | t :: l, g, h, r, hr => by
    rw [dy] at hr;rcases List.mem_cons.1 hr with rfl | hr
    · exact h t (by simp) g
    · exact Du l (g+grpN t) (fun k hk=>h k (by simp [hk])) r hr
theorem IJ (E:Env) (k0:Nat) (t:Tr):∀g,RV E k0 (cM E t g):=by
  induction t using Tr.ind with
  | h t ih =>
    intro g;rw [eO];exact II (Du t.kids _ ih)
end
def vh (xs:List Int) (x:Int):Nat→Bool
  | 0 => false
  | i + 1 => vh xs x i || decide (nth xs (i : Int) = x)
theorem xb {xs:List Int} {x:Int}:∀n,vh xs x n=true↔∃i:Nat,i < n∧nth xs (i:Int)=x
  | 0 => by simp [vh]
  | n + 1 => by
    rw [vh,aR,xb n,ai];constructor
    · rintro (⟨i,h1,h2⟩ | h)
      · exact ⟨i,by omega,h2⟩
      · exact ⟨n,by omega,h⟩
    · rintro ⟨i,h1,h2⟩
      by_cases e:i=n
      · subst e;exact .inr h2
      · exact .inl ⟨i,by omega,h2⟩
theorem Bg {xs:List Int} (h:xs.Pairwise (· < ·)) {x:Int}:vh xs x xs.length=mO xs x:=by
  rw [eZ,xb];constructor
  · rintro ⟨i,h1,rfl⟩;exact (pk h h1).2
  · intro hh;refine ⟨plcF xs x,uD hh,?_⟩;unfold mO at hh;simp only [au,ai] at hh;exact hh.2
theorem rn {xs:List Int} (h:xs.Pairwise (· < ·)) {i j:Nat} (hij:i≤j) (hj:j < xs.length):nth xs (i:Int)≤nth xs (j:Int):=by
  rcases pS i j with hlt | hge
  · exact Int.le_of_lt (ll h hlt hj)
  · rw [show i=j by omega];exact fJ _
section
variable {t:Tr} {fold:Bool} {s:ByteArray} {k u:Int} {x:Mt × Int × Int}
theorem gX (s:ByteArray):(aO s).Pairwise (· < ·):=(oo s s.size).1
theorem IK (hq:x=dL t fold s k u) (hs:x.1.isSome=true):x.2.2=0∧(aM x.1).1=k∧k≤(aM x.1).2∧vh (aO s) (aM x.1).2 (aO s).length=true∧
    ∀p ∈ bJ x.1,p=(-1,-1)∨((aM x.1).1≤p.1∧p.2≤(aM x.1).2∧p.1≤p.2):=by
  subst hq;have h0:(dL t fold s k u).2.2=0:=((qw rfl).1 hs).2.2;obtain ⟨m,hh,ho⟩:=kI h0;have e1:dL t fold s k u=_:=fm m hh ho;refine ⟨h0,?_⟩;rw [e1] at hs ⊢;have hpr:=gX s;have hpl:(aO s).length=(bA s).length+1:=lK s s.size;have hlt:=uD hh;have hk:nth (aO s) (plcF (aO s) k:Int)=k:=by
    unfold mO at hh;simp only [au,ai] at hh;exact hh.2
  rcases jF (eS (cM ⟨bA s,aO s,fold⟩ t 0) (grpN t) (plcF (aO s) k) (clampF u,false)) with h1 | ⟨f,h1⟩ | ⟨to,ps,f,h1⟩
  · rw [lm,h1] at ho;cases ho
  · rw [eM h1] at hs;cases hs
  · rw [eL h1];show nth (aO s) (plcF (aO s) k:Int)=k∧k≤nth (aO s) (to:Int)∧vh (aO s) (nth (aO s) (to:Int)) (aO s).length=true∧∀p ∈ ps,p=(-1,-1)∨(nth (aO s) (plcF (aO s) k:Int)≤p.1∧p.2≤nth (aO s) (to:Int)∧p.1≤p.2);have hv:=IJ ⟨bA s,aO s,fold⟩ (plcF (aO s) k) t 0 (plcF (aO s) k) K0 (List.replicate (grpN t) (-1,-1)) (clampF u,false) (fun y=>plcF (aO s) k≤y.1∧y.1≤(bA s).length∧VQ ⟨bA s,aO s,fold⟩ (plcF (aO s) k) y.1 y.2) (bz _) (by show plcF (aO s) k≤(bA s).length;omega) VQ.rep (fun to ps φ a1 a2 a3 y hy=>by cases hy;exact ⟨a1,a2,a3⟩) (to,ps) (by
      show (eS (cM ⟨bA s,aO s,fold⟩ t 0) (grpN t) (plcF (aO s) k) (clampF u,false)).1=_;rw [h1])
    obtain ⟨a1,a2,a3⟩:=hv;have a1:plcF (aO s) k≤to:=a1;have a2:to≤(bA s).length:=a2;have a3:VQ ⟨bA s,aO s,fold⟩ (plcF (aO s) k) to ps:=a3;have hup:nth (aO s) (plcF (aO s) k:Int)≤nth (aO s) (to:Int):=rn hpr a1 (by omega);refine ⟨hk,by rw [←hk];exact hup,(xb _).2 ⟨to,by omega,rfl⟩,fun p hp=> ?_⟩;rcases a3 p hp with h | ⟨a,b,b1,b2,b3,rfl⟩
    · exact .inl h
    · exact .inr ⟨rn hpr b1 (by show a < (aO s).length;omega),rn hpr b3 (by omega),rn hpr b2 (by show b < (aO s).length;omega)⟩
theorem GU (hq:x=dL t fold s k u) (hm:(cX t 512 16).2=true) (h:vh (aO s) k (aO s).length=false):x=(none,0,3):=by
  subst hq;rw [Bg (gX s)] at h;unfold dL;rw [hm,h];rfl
theorem GV (hq:x=dL t fold s k u) (hm:(cX t 512 16).2=true) (h:vh (aO s) k (aO s).length=true):x.2.2=0∨x.2.2=9:=by
  subst hq;rw [Bg (gX s)] at h;unfold dL gQ;rw [hm,h,if_neg (by decide),if_neg (by decide)];split
  · exact .inr rfl
  · exact .inl rfl
end
end
section
open Go.RowKit
open Srt
set_option maxRecDepth 100000 in
set_option maxHeartbeats 4000000 in
theorem EF (p:ByteArray) (fold:Bool) (s:ByteArray) (a:Int) (w:World):Calls Tryz.prog 11 #[(bc p),(aE fold),(bc s),(aj a)] w (fun e w'=>e= .returned (aE true)∧Ext aW w w'):=by
 refine enter (n:=172) Tryz.func11 rfl rfl (aw rfl) ?_;intro a0 τ0 ha st0;obtain ⟨e0,e1,e2,e3⟩:=KF ha;refine wp_seq (eK st0 [] ⟨aq fun c=>ax rfl rfl,av⟩ fun ac ag ae ab aa=> ?_);obtain ⟨e0,e1,e2,e3⟩:=aa.k4 e0 e1 e2 e3;have e8:=aa.V 0;refine wp_seq ?_;refine aY ?_;refine bV 2 (by kernel_rfl) ?_;refine og [_,gE _ 24 (fun b:Tr × Int=> .tuple #[b.1.v,aj b.2]) (fun b:Tr × Int=>(b.2=0→PatOk (er b.1) (p.size:Int) 0)∧fc b.1≤2200 * (p.size:Int)+2∧fc b.1≤600000) (fun b:Tr × Int=>gT (Gn aW w) b.1)] [0,1] ab [] ⟨ao e0,eT (f:=fun b:Tr × Int=> .tuple #[b.1.v,aj b.2]) (Ψ:=fun b:Tr × Int=>(b.2=0→PatOk (er b.1) (p.size:Int) 0)∧fc b.1≤2200 * (p.size:Int)+2∧fc b.1≤600000) (Φ:=fun b:Tr × Int=>gT (Gn aW w) b.1) fun {_ a_ _ _} c=>⟨_,_,(bK rfl rfl jM (c.q 0)),(lG p _).mono (fun e w' ⟨t_,r_,he_,hx_,ht_,hp_⟩=>⟨⟨t_,r_⟩,he_,hx_,hp_,c.tn ab hx_ ht_⟩)⟩,av⟩ fun ac ag ae ab aa=> ?_;obtain ⟨e0,e1,e2,e3,e8⟩:=aa.k5 e0 e1 e2 e3 e8;obtain ⟨⟨t1_,er1_⟩,e24,hqt1_,hz2⟩:=aa.zd 1 rfl;have e24:be ac 24=(.tuple #[(ta t1_),(aj er1_)]):=e24;have hqt1_:(er1_=0→PatOk (er t1_) (p.size:Int) 0)∧fc t1_≤2200 * (p.size:Int)+2∧fc t1_≤600000:=hqt1_;obtain ⟨hpt1_,hwt1_⟩:=hqt1_;have hbt1_:=fG t1_;have r0:=hz2;refine bW ?_;refine og [_,_,_,box _ _ 1 9 [(aj 0),(bc (⟨#[]⟩:ByteArray)),(aE false),(.slice none 0 0),(aj 0),(aj 0),(aE false),(.slice none 0 0)],_,_] [0,1,3,7,15,31] ab [jz 0 r0] ⟨ao e24,bR 0,bR 0,bO rfl rfl rfl rfl aD rfl,ey (cx:=(tc t1_)) (off:=0) rfl ak fun c=>⟨c.rb 3 rfl,(c.rb 3 rfl).ptr,(c.q 1)⟩,aK 2,av⟩ fun ac ag ae ab aa=> ?_;obtain ⟨b3x9,e9⟩:=gx ac 9;obtain ⟨e0,e1,e2,e3,e8⟩:=aa.k5 e0 e1 e2 e3 e8;have e10:=aa.V 5;replace r0:=aa.z1 0;have r1:=aa.rb 4 e9 rfl;refine wp_seq ?_;refine wp_seq (zG [0,1,3,7,15,31,63,127,255,511,1023,2047] ab [jz 0 r0,jb r1] ⟨ao e0,aq fun c=>fA rfl aZ (c.q 0),aq fun c=>ii rfl (c.q 1) rfl,bD 2,bm 3 rfl fun c hpc=>aS rfl (c.p e2),bm 3 rfl fun c hpc=>fA rfl aZ (c.M 4 hpc),bm 3 rfl fun c hpc=>ii rfl (c.M 5 hpc) rfl,dm 3 6,bD 7,bm 8 rfl fun c hpc=>aS rfl (c.p e10),bm 8 rfl fun c hpc=>fh rfl (c.M 9 hpc) rfl,dm 8 10,av⟩ fun ac ag ae ab aa=> ?_);obtain ⟨e1,e2,e3,e8,e9⟩:=aa.k5 e1 e2 e3 e8 e9;have e38:=aa.V 11;replace r0:=aa.z1 0;replace r1:=aa.B 1;refine wp_cond_split e38 (fun hc1=> ?_) (fun hc1=> ?_)
 · try simp only [aR,aG,ar,am,ai,ah,aV] at hc1
   refine wp_seq (eA ab [jz 0 r0,jb r1] ⟨eE fun c=>⟨_,_,(fN rfl rfl dN),fO _⟩,aK 0,av⟩ fun ac ag ae ab aa=> ?_);obtain ⟨e1,e2,e3,e9⟩:=aa.k4 e1 e2 e3 e9;have e8:=aa.V 1;replace r0:=aa.z1 0;replace r1:=aa.B 1;refine wp_ret ?_;refine rp ?_;refine cO (fn:=Tryz.f11) rfl ab.defers e8 ?_;refine ⟨congrArg _ (congrArg _ ?_),ab.ext0⟩;rfl
 try simp only [aR,aG,ar,am,ai,ah,aV] at hc1
 refine wp_skip ?_;refine wp_seq ?_;refine Hm [0,0,2,6,15,31] ab [jz 0 r0,jb r1] ⟨ao e3,ao e2,aq fun c=>fA rfl aZ (c.q 1),aq fun c=>cN rfl (c.q 2) rfl (by first | omega | decide | (simp only [aB,aH,bk,bC,bM,bP,ByteArray.size,aF,ay,aC] at *;omega)),eE fun c=>⟨_,_,(ck rfl rfl lf (c.q 0) (c.q 3)),qC a ((s.size:Int)+1) _ (by first | omega | decide | (simp only [aB,aH,bk,bC,bM,bP,ByteArray.size,aF,ay,aC] at *;omega)) (by first | omega | decide | (simp only [aB,aH,bk,bC,bM,bP,ByteArray.size,aF,ay,aC] at *;omega))⟩,aK 4,av⟩ fun ac ag ae ab aa=> ?_;obtain ⟨e1,e2,e8,e9⟩:=aa.k4 e1 e2 e8 e9;have e11:=aa.V 5;replace r0:=aa.z1 0;replace r1:=aa.B 1;refine wp_seq ?_;refine aY ?_;refine bV 5 (by kernel_rfl) ?_;refine og [_,_,_,_,gE _ 50 (fun b:Sv × (Mt × Int × Int)=> .tuple #[(.agg #[aj (aM b.2.1).1,aj (aM b.2.1).2,b.1.v]),aj b.2.2.1,aE b.2.1.isSome,aj b.2.2.2]) (fun b:Sv × (Mt × Int × Int)=>b.2=dL t1_ fold s (ff a ((s.size:Int)+1)) 3000) (fun b:Sv × (Mt × Int × Int)=>fb cF (Gn aW w) b.1.v (bJ b.2.1))] [0,0,0,0,15] ab [jz 0 r0,jb r1] ⟨aq fun c=>dY rfl az ak ((c.p e9).trans r1.ptr) (c.B 1),ao e1,ao e2,ao e11,eT (f:=fun b:Sv × (Mt × Int × Int)=> .tuple #[(.agg #[aj (aM b.2.1).1,aj (aM b.2.1).2,b.1.v]),aj b.2.2.1,aE b.2.1.isSome,aj b.2.2.2]) (Ψ:=fun b:Sv × (Mt × Int × Int)=>b.2=dL t1_ fold s (ff a ((s.size:Int)+1)) 3000) (Φ:=fun b:Sv × (Mt × Int × Int)=>fb cF (Gn aW w) b.1.v (bJ b.2.1)) fun {_ a_ _ _} c=>⟨_,_,(eC rfl rfl fL (c.q 0) (c.q 1) (c.q 2) (c.q 3) rfl),(kH _ t1_ fold s (ff a ((s.size:Int)+1)) 3000 _ (c.iz 0 rfl) (by first | omega | decide | (simp only [aB,aH,bk,bC,bM,bP,ByteArray.size,aF,ay,aC] at *;omega)) (by first | omega | decide | (simp only [aB,aH,bk,bC,bM,bP,ByteArray.size,aF,ay,aC] at *;omega))).mono (fun e w' ⟨b_,he_,hx_,hs_,hn_⟩=>⟨⟨b_,_⟩,he_,hx_,rfl,c.sns ab hx_.size ⟨hs_,hn_⟩⟩)⟩,av⟩ fun ac ag ae ab aa=> ?_;obtain ⟨e2,e8,e9,e11⟩:=aa.k4 e2 e8 e9 e11;obtain ⟨⟨mv2_,at2_⟩,e50,hqat2_,hz7⟩:=aa.zd 4 rfl;have e50:be ac 50=(.tuple #[(.agg #[(aj ((aM at2_.1).1)),(aj ((aM at2_.1).2)),mv2_.v]),(aj at2_.2.1),(aE at2_.1.isSome),(aj at2_.2.2)]):=e50;have hqat2_:at2_=dL t1_ fold s (ff a ((s.size:Int)+1)) 3000:=hqat2_;replace r0:=aa.z1 0;replace r1:=aa.B 1;have r2:=hz7;refine bW ?_;refine og [_,_,_,_,_,box _ _ 3 12 [(aj 0),(aj 0),(.slice none 0 0)],_,_,_,_] [0,1,3,7,15,31,63,127,255,511] ab [jz 0 r0,jb r1,jz 2 r2] ⟨ao e50,bR 0,bR 0,bR 0,bR 0,bO rfl rfl rfl rfl bI rfl,ey (cx:=[(aj ((aM at2_.1).1)),(aj ((aM at2_.1).2)),mv2_.v]) (off:=0) rfl bi fun c=>⟨c.rb 5 rfl,(c.rb 5 rfl).ptr,(c.q 1)⟩,aK 2,aK 3,aK 4,av⟩ fun ac ag ae ab aa=> ?_;obtain ⟨b8x12,e12⟩:=gx ac 12;obtain ⟨e2,e8,e9,e11⟩:=aa.k4 e2 e8 e9 e11;have e14:=aa.V 8;have e15:=aa.V 9;obtain ⟨r0,r2⟩:=aa.z2 0 2;replace r1:=aa.B 1;have r3:=aa.rb 6 e12 rfl;refine wp_seq (eK ab [jz 0 r0,jb r1,jz 2 r2,jb r3] ⟨aq fun c=>ax rfl rfl,av⟩ fun ac ag ae ab aa=> ?_);obtain ⟨e2,e8,e9,e11,e12,e14,e15⟩:=aa.k7 e2 e8 e9 e11 e12 e14 e15;have e16:=aa.V 0;obtain ⟨r0,r2⟩:=aa.z2 0 2;replace r1:=aa.B 1;replace r3:=aa.B 3;refine wp_seq (eK ab [jz 0 r0,jb r1,jz 2 r2,jb r3] ⟨aq fun c=>ax rfl rfl,av⟩ fun ac ag ae ab aa=> ?_);obtain ⟨e2,e8,e9,e11,e12,e14,e15,e16⟩:=aa.k8 e2 e8 e9 e11 e12 e14 e15 e16;have e17:=aa.V 0;obtain ⟨r0,r2⟩:=aa.z2 0 2;replace r1:=aa.B 1;replace r3:=aa.B 3;refine wp_seq ?_;refine aY ?_;refine bV 2 (by kernel_rfl) ?_;refine og [_,gE _ 56 (fun b:Sv=>b.v) (fun _=>True) (fun b:Sv=>fb lM (Gn aW w) b.v (aO s))] [0,1] ab [jz 0 r0,jb r1,jz 2 r2,jb r3] ⟨ao e2,eT (f:=fun b:Sv=>b.v) (Ψ:=fun _=>True) (Φ:=fun b:Sv=>fb lM (Gn aW w) b.v (aO s)) fun {_ a_ _ _} c=>⟨_,_,(bK rfl rfl Tryz.call32 (c.q 0)),(uy s _ (by first | omega | decide | (simp only [aB,aH,bk,bC,bM,bP,ByteArray.size,aF,ay,aC] at *;omega))).mono (fun e w' ⟨v_,he_,hx_,hn_⟩=>by obtain ⟨s_,rfl⟩:=hn_.1.sl.sl.sv;exact ⟨s_,he_,hx_,av,c.sn ab hx_ hn_⟩)⟩,av⟩ fun ac ag ae ab aa=> ?_;obtain ⟨e8,e9,e11,e12,e14,e15,e16,e17⟩:=aa.k8 e8 e9 e11 e12 e14 e15 e16 e17;obtain ⟨kv3_,e56,-,hz11⟩:=aa.zd 1 rfl;have e56:be ac 56=kv3_.v:=e56;obtain ⟨r0,r2⟩:=aa.z2 0 2;replace r1:=aa.B 1;replace r3:=aa.B 3;have r4:=hz11;refine bW ?_;refine og [_] [0] ab [jz 0 r0,jb r1,jz 2 r2,jb r3,jz 4 r4] ⟨oQ e56,av⟩ fun ac ag ae ab aa=> ?_;obtain ⟨e8,e9,e11,e12,e14,e15,e16,e17⟩:=aa.k8 e8 e9 e11 e12 e14 e15 e16 e17;have e18:=aa.V 0;obtain ⟨r0,r2,r4⟩:=aa.z3 0 2 4;replace r1:=aa.B 1;replace r3:=aa.B 3;refine wp_seq ?_;refine wp_seq (eK ab [jz 0 r0,jb r1,jz 2 r2,jb r3,jz 4 r4] ⟨aq fun c=>ax rfl rfl,av⟩ fun ac ag ae ab aa=> ?_);obtain ⟨e8,e9,e11,e12,e14,e15,e16,e17,e18⟩:=aa.k9 e8 e9 e11 e12 e14 e15 e16 e17 e18;have e19:=aa.V 0;obtain ⟨r0,r2,r4⟩:=aa.z3 0 2 4;replace r1:=aa.B 1;replace r3:=aa.B 3;refine wp_block ?_;refine wp_loop (fun a_ w_=>∃(i:Nat) (τ:Nat→bj),(i≤(aO s).length)∧
      St (Nw w) w 172 a_ w_ τ∧
      be a_ 16=(aE (vh (aO s) (ff a ((s.size:Int)+1)) i))∧
      be a_ 17=(aE (vh (aO s) ((aM at2_.1).2) i))∧
      be a_ 19=(aj (i:Int))∧
      be a_ 8=(aE false)∧
      be a_ 9=b3x9∧
      be a_ 11=(aj (ff a ((s.size:Int)+1)))∧
      be a_ 12=b8x12∧
      be a_ 14=(aE at2_.1.isSome)∧
      be a_ 15=(aj at2_.2.2)∧
      be a_ 18=kv3_.v∧
      Fz (gT (Gn aW w) t1_) τ w_∧
      cH 25 (tc t1_) (τ 1) b3x9 w_∧
      Fz (fb cF (Gn aW w) mv2_.v (bJ at2_.1)) τ w_∧
      cH 41 [(aj ((aM at2_.1).1)),(aj ((aM at2_.1).2)),mv2_.v] (τ 3) b8x12 w_∧
      Fz (fb lM (Gn aW w) kv3_.v (aO s)) τ w_) (fun a_ _=>(aO s).length - (intOf (be a_ 19)).toNat) ?_ ?_
 · refine ⟨0,ae,?_,ab,e16,e17,(e19.trans (bB (by omega))),e8,e9,e11,e12,e14,e15,e18,r0,r1,r2,r3,r4⟩
   · omega
 intro a14 w14 hI;obtain ⟨i,τ14,q0,st14,e16,e17,e19,e8,e9,e11,e12,e14,e15,e18,r0,r1,r2,r3,r4⟩:=hI;have hpll_:(aO s).length=(bA s).length+1:=lK s s.size;have hls_:(bA s).length≤s.size:=rE s s.size;have m19:=e19;refine wp_seq ?_;refine wp_seq (lr [0,0,2,7] st14 [jz 0 r0,jb r1,jz 2 r2,jb r3,jz 4 r4] ⟨ao e19,ao e18,aq fun c=>dk rfl cE (c.q 1) (r4).1.sl,aq fun c=>cW rfl (c.q 0) (c.q 2),av⟩ fun ac ag ae ab aa=> ?_);obtain ⟨e8,e9,e11,e12,e14,e15,e16,e17,e18,e19⟩:=aa.k10 e8 e9 e11 e12 e14 e15 e16 e17 e18 e19;have e60:=aa.V 3;obtain ⟨r0,r2,r4⟩:=aa.z3 0 2 4;replace r1:=aa.B 1;replace r3:=aa.B 3;refine wp_cond_split e60 (fun hc2=> ?_) (fun hc2=> ?_)
 · try simp only [ai] at hc2
   refine wp_skip ?_;refine wp_seq ?_;refine wp_block ?_;refine wp_seq ?_;refine mG [0,1,3,3,15,31,3,127,255,511] ab [jz 0 r0,jb r1,jz 2 r2,jb r3,jz 4 r4] ⟨ao e16,bD 0,bm 1 rfl fun c hpc=>aS rfl (c.p e18),bm 1 rfl fun c hpc=>aS rfl (c.p e19),bm 1 rfl fun c hpc=>aX rfl cE aA (c.M 2 hpc) (r4).1.sl (c.M 3 hpc) (by have hq0:=hpc;first | omega | decide | (simp only [aB,aH,bk,bC,bM,bP,ByteArray.size,aF,ay,aC] at *;omega)) (by have hq0:=hpc;first | omega | decide | (simp only [aB,aH,bk,bC,bM,bP,ByteArray.size,aF,ay,aC] at *;omega)),bm 1 rfl fun c hpc=>aI rfl aN (c.M 4 hpc) (((c.iz 4 rfl).1).elem (j:=0) (bF (i:=(i:Int)) (by have hq0:=hpc;first | omega | decide | (simp only [aB,aH,bk,bC,bM,bP,ByteArray.size,aF,ay,aC] at *;omega)) (by have hq0:=hpc;first | omega | decide | (simp only [aB,aH,bk,bC,bM,bP,ByteArray.size,aF,ay,aC] at *;omega))) rfl),bm 1 rfl fun c hpc=>aS rfl (c.p e11),bm 1 rfl fun c hpc=>cY rfl (c.M 5 hpc) (c.M 6 hpc),dm 1 7,aK 8,av⟩ fun ac ag ae ab aa=> ?_;obtain ⟨e8,e9,e11,e12,e14,e15,e17,e18,e19,e60⟩:=aa.k10 e8 e9 e11 e12 e14 e15 e17 e18 e19 e60;have e16:=aa.V 9;obtain ⟨r0,r2,r4⟩:=aa.z3 0 2 4;replace r1:=aa.B 1;replace r3:=aa.B 3;refine zG [0,1,3,3,15,31,3,67,195,511,1023,2047] ab [jz 0 r0,jb r1,jz 2 r2,jb r3,jz 4 r4] ⟨ao e17,bD 0,bm 1 rfl fun c hpc=>aS rfl (c.p e18),bm 1 rfl fun c hpc=>aS rfl (c.p e19),bm 1 rfl fun c hpc=>aX rfl cE aA (c.M 2 hpc) (r4).1.sl (c.M 3 hpc) (by have hq0:=hpc;first | omega | decide | (simp only [aB,aH,bk,bC,bM,bP,ByteArray.size,aF,ay,aC] at *;omega)) (by have hq0:=hpc;first | omega | decide | (simp only [aB,aH,bk,bC,bM,bP,ByteArray.size,aF,ay,aC] at *;omega)),bm 1 rfl fun c hpc=>aI rfl aN (c.M 4 hpc) (((c.iz 4 rfl).1).elem (j:=0) (bF (i:=(i:Int)) (by have hq0:=hpc;first | omega | decide | (simp only [aB,aH,bk,bC,bM,bP,ByteArray.size,aF,ay,aC] at *;omega)) (by have hq0:=hpc;first | omega | decide | (simp only [aB,aH,bk,bC,bM,bP,ByteArray.size,aF,ay,aC] at *;omega))) rfl),bm 1 rfl fun c hpc=>dh rfl bd aT ((c.p e12).trans r3.ptr),bm 1 rfl fun c hpc=>dh rfl cw aA (c.M 6 hpc),bm 1 rfl fun c hpc=>aI rfl aN (c.M 7 hpc) (by rw [add_add];exact (c.ib 3 rfl).cell (j:=1) rfl),bm 1 rfl fun c hpc=>cY rfl (c.M 5 hpc) (c.M 8 hpc),dm 1 9,aK 10,av⟩ fun ac ag ae ab aa=> ?_;obtain ⟨e8,e9,e11,e12,e14,e15,e16,e18,e19,e60⟩:=aa.k10 e8 e9 e11 e12 e14 e15 e16 e18 e19 e60;have e17:=aa.V 11;obtain ⟨r0,r2,r4⟩:=aa.z3 0 2 4;replace r1:=aa.B 1;replace r3:=aa.B 3;show _;refine fX ab [jz 0 r0,jb r1,jz 2 r2,jb r3,jz 4 r4] ⟨ao e19,aq fun c=>cN rfl (c.q 0) rfl (by first | omega | decide | (simp only [aB,aH,bk,bC,bM,bP,ByteArray.size,aF,ay,aC] at *;omega)),aK 1,av⟩ fun ac ag ae ab aa=> ?_;obtain ⟨e8,e9,e11,e12,e14,e15,e16,e17,e18,e60⟩:=aa.k10 e8 e9 e11 e12 e14 e15 e16 e17 e18 e60;have e19:=aa.V 2;obtain ⟨r0,r2,r4⟩:=aa.z3 0 2 4;replace r1:=aa.B 1;replace r3:=aa.B 3;refine ⟨⟨i+1,ae,?_,ab,e16,e17,(e19.trans (bB (by omega))),e8,e9,e11,e12,e14,e15,e18,r0,r1,r2,r3,r4⟩,?_⟩
   · omega
   · simp only [m19,e19,intOf];omega
 try simp only [ah,aV] at hc2
 refine wp_exit ?_;repeat (with_reducible refine cy ?_)
 refine cC ?_;refine wp_seq ?_;refine wp_seq ?_;have hil_:i=(aO s).length:=by omega
 rw [hil_] at e16;rw [hil_] at e17;refine eA ab [jz 0 r0,jb r1,jz 2 r2,jb r3,jz 4 r4] ⟨ao e16,aq fun c=>ew rfl (c.q 0),av⟩ fun ac ag ae ab aa=> ?_;obtain ⟨e8,e9,e11,e12,e14,e15,e17⟩:=aa.k7 e8 e9 e11 e12 e14 e15 e17;have e84:=aa.V 1;obtain ⟨r0,r2,r4⟩:=aa.z3 0 2 4;replace r1:=aa.B 1;replace r3:=aa.B 3;refine wp_cond_split e84 (fun hc3=> ?_) (fun hc3=> ?_)
 · try simp only [ar,am] at hc3
   refine wp_seq (mG [0,1,3,7,15,31,63,127,255,511] ab [jz 0 r0,jb r1,jz 2 r2,jb r3] ⟨ao e15,aq fun c=>cY rfl (c.q 0) rfl,bD 1,aL 2 rfl fun c hpc=>aS rfl (c.p e14),aL 2 rfl fun c hpc=>ew rfl (c.M 3 hpc),bZ 2 4,bD 5,fC 6 true rfl fun c hpc=>⟨_,_,(fN rfl rfl dN),fO _⟩,bZ 6 7,aK 8,av⟩ fun ac ag ae ab aa=> ?_);obtain ⟨e9,e11,e12,e14,e15,e17⟩:=aa.k6 e9 e11 e12 e14 e15 e17;have e8:=aa.V 9;obtain ⟨r0,r2⟩:=aa.z2 0 2;replace r1:=aa.B 1;replace r3:=aa.B 3;refine wp_ret ?_;refine rp ?_;refine cO (fn:=Tryz.f11) rfl ab.defers e8 ?_;refine ⟨congrArg _ (congrArg _ ?_),ab.ext0⟩;rw [GU hqat2_ (mz (hpt1_ (by omega)) (by omega)) (by assumption)];rfl
 try simp only [ar,am] at hc3
 refine wp_skip ?_;refine wp_seq ?_;refine wp_seq (eA ab [jz 0 r0,jb r1,jz 2 r2,jb r3] ⟨ao e14,aq fun c=>ew rfl (c.q 0),av⟩ fun ac ag ae ab aa=> ?_);obtain ⟨e8,e9,e11,e12,e15,e17⟩:=aa.k6 e8 e9 e11 e12 e15 e17;have e95:=aa.V 1;obtain ⟨r0,r2⟩:=aa.z2 0 2;replace r1:=aa.B 1;replace r3:=aa.B 3;refine wp_cond_split e95 (fun hc4=> ?_) (fun hc4=> ?_)
 · try simp only [ar,am] at hc4
   refine wp_seq (mG [0,1,3,7,15,31,63,127,255,511] ab [jz 0 r0,jb r1,jz 2 r2,jb r3] ⟨ao e15,aq fun c=>cY rfl (c.q 0) rfl,bD 1,bm 2 rfl fun c hpc=>aS rfl (c.p e15),bm 2 rfl fun c hpc=>cY rfl (c.M 3 hpc) rfl,dm 2 4,bD 5,fC 6 true rfl fun c hpc=>⟨_,_,(fN rfl rfl dN),fO _⟩,bZ 6 7,aK 8,av⟩ fun ac ag ae ab aa=> ?_);obtain ⟨e9,e11,e12,e15,e17⟩:=aa.k5 e9 e11 e12 e15 e17;have e8:=aa.V 9;obtain ⟨r0,r2⟩:=aa.z2 0 2;replace r1:=aa.B 1;replace r3:=aa.B 3;refine wp_ret ?_;refine rp ?_;refine cO (fn:=Tryz.f11) rfl ab.defers e8 ?_;refine ⟨congrArg _ (congrArg _ ?_),ab.ext0⟩;rcases GV hqat2_ (mz (hpt1_ (by omega)) (by omega)) (by assumption) with h_ | h_ <;> rw [h_] <;> rfl
 try simp only [ar,am] at hc4
 refine wp_skip ?_;refine wp_seq ?_;refine wp_seq ?_;have hle2_:=(r2).1.le;obtain ⟨hs1_,hs2_,hs3_,hs4_,hs5_⟩:=IK hqat2_ (by assumption);have hpl_:=(qw hqat2_).1 (by assumption);refine rg [_,_,_,_,_,_,_,_,_,_,_,_,_,_,_,_,_,_,_,_,_,_,_,_,_,_,_,_] [0,1,3,7,15,31,7,127,255,511,1023,2047,4095,1023,16383,32767,65535,131071,262143,524287,1048575,2097151,4194303,8388607,2097151,18874367,67108863,134217727] ab [jz 0 r0,jb r1,jz 2 r2,jb r3] ⟨ao e15,aq fun c=>fh rfl (c.q 0) rfl,bD 1,bm 2 rfl fun c hpc=>dh rfl bd aT ((c.p e12).trans r3.ptr),bm 2 rfl fun c hpc=>dh rfl cw aA (c.M 3 hpc),bm 2 rfl fun c hpc=>aI rfl aN (c.M 4 hpc) (by rw [add_add];exact (c.ib 3 rfl).cell (j:=0) rfl),bm 2 rfl fun c hpc=>aS rfl (c.p e11),bm 2 rfl fun c hpc=>fh rfl (c.M 5 hpc) (c.M 6 hpc),dm 2 7,bD 8,bm 9 rfl fun c hpc=>dh rfl bd aT ((c.p e12).trans r3.ptr),bm 9 rfl fun c hpc=>dh rfl cw aA (c.M 10 hpc),bm 9 rfl fun c hpc=>aI rfl aN (c.M 11 hpc) (by rw [add_add];exact (c.ib 3 rfl).cell (j:=1) rfl),bm 9 rfl fun c hpc=>aS rfl (c.p e11),bm 9 rfl fun c hpc=>cW rfl (c.M 12 hpc) (c.M 13 hpc),dm 9 14,bD 15,bm 16 rfl fun c hpc=>aS rfl (c.p e17),bm 16 rfl fun c hpc=>ew rfl (c.M 17 hpc),dm 16 18,bD 19,bm 20 rfl fun c hpc=>dh rfl bd co ((c.p e12).trans r3.ptr),bm 20 rfl fun c hpc=>aI rfl cG (c.M 21 hpc) ((c.B 3).cell (j:=2) rfl),bm 20 rfl fun c hpc=>dk rfl bh (c.M 22 hpc) (r2).1.sl,bm 20 rfl fun c hpc=>dY rfl az ak ((c.p e9).trans r1.ptr) (c.B 1),fC 20 false rfl fun c hpc=>⟨_,_,(bK rfl rfl jN (c.M 24 hpc)),oy t1_ _ (zs (c.iz 0 rfl)) (by have hq0:=hpc;(try simp only [aR,aG,ar,am,ai,ah,aV] at hq0);first | omega | decide | (simp only [aB,aH,bk,bC,bM,bP,ByteArray.size,aF,ay,aC] at *;omega))⟩,bm 20 rfl fun c hpc=>fh rfl (c.M 23 hpc) (c.M 25 hpc),aq (v:=(aE false)) fun c=>cA.isB (b:=((((!decide (at2_.2.2=0)) || (!decide ((aM at2_.1).1=ff a ((s.size:Int)+1)))) || (decide ((aM at2_.1).2 < ff a ((s.size:Int)+1)))) || (!(vh (aO s) ((aM at2_.1).2) (aO s).length))) || (!decide (((bJ at2_.1).length:Int)=cL t1_))) (pT rfl (c.q 20) (fun h=>c.M 26 h)) (by rw [hs1_,hs2_,hs4_,hpl_.1,decide_eq_false (show ¬(aM at2_.1).2 < (ff a ((s.size:Int)+1)) by omega)];simp),av⟩ fun ac ag ae ab aa=> ?_;obtain ⟨e8,e12⟩:=aa.k2 e8 e12;have e132:=aa.V 27;obtain ⟨r0,r2⟩:=aa.z2 0 2;replace r3:=aa.B 3;refine wp_cond_false e132 ?_;refine wp_skip ?_;refine wp_seq ?_;refine wp_seq (eK ab [jz 0 r0,jz 2 r2,jb r3] ⟨aq fun c=>ax rfl rfl,av⟩ fun ac ag ae ab aa=> ?_);obtain ⟨e8,e12⟩:=aa.k2 e8 e12;have e20:=aa.V 0;obtain ⟨r0,r2⟩:=aa.z2 0 2;replace r3:=aa.B 3;refine wp_block ?_;refine wp_loop (fun a_ w_=>∃(j:Nat) (τ:Nat→bj),(j≤(bJ at2_.1).length)∧
      St (Nw w) w 172 a_ w_ τ∧
      be a_ 20=(aj (j:Int))∧
      be a_ 12=b8x12∧
      Fz (gT (Gn aW w) t1_) τ w_∧
      Fz (fb cF (Gn aW w) mv2_.v (bJ at2_.1)) τ w_∧
      cH 41 [(aj ((aM at2_.1).1)),(aj ((aM at2_.1).2)),mv2_.v] (τ 3) b8x12 w_) (fun a_ _=>(bJ at2_.1).length - (intOf (be a_ 20)).toNat) ?_ ?_
 · refine ⟨0,ae,?_,ab,(e20.trans (bB (by omega))),e12,r0,r2,r3⟩
   · omega
 intro a25 w25 hI;obtain ⟨j,τ25,q0,st25,e20,e12,r0,r2,r3⟩:=hI;have m20:=e20;refine wp_seq ?_;refine wp_seq (vO [0,0,2,6,15] st25 [jz 0 r0,jz 2 r2,jb r3] ⟨ao e20,cK bd co e12 r3.ptr,fE cG 1 3 2,aq fun c=>dk rfl bh (c.q 2) (r2).1.sl,aq fun c=>cW rfl (c.q 0) (c.q 3),av⟩ fun ac ag ae ab aa=> ?_);obtain ⟨e12,e20⟩:=aa.k2 e12 e20;have e137:=aa.V 4;obtain ⟨r0,r2⟩:=aa.z2 0 2;replace r3:=aa.B 3;refine wp_cond_split e137 (fun hc6=> ?_) (fun hc6=> ?_)
 · try simp only [ai] at hc6
   refine wp_skip ?_;refine wp_seq ?_;refine wp_block ?_;refine wp_seq ?_;refine rg [_,_,_,_,_,box _ _ 1 21 [(aj 0),(aj 0)],_] [0,1,0,7,15,0,63] ab [jz 0 r0,jz 2 r2,jb r3] ⟨cK bd co e12 r3.ptr,fE cG 0 3 2,ao e20,aq fun c=>aX rfl bh aT (c.q 1) (r2).1.sl (c.q 2) (by first | omega | decide | (simp only [aB,aH,bk,bC,bM,bP,ByteArray.size,aF,ay,aC] at *;omega)) (by first | omega | decide | (simp only [aB,aH,bk,bC,bM,bP,ByteArray.size,aF,ay,aC] at *;omega)),aq fun c=>cq (vs:=[(aj ((nth (bJ at2_.1) (j:Int)).1)),(aj ((nth (bJ at2_.1) (j:Int)).2))]) rfl cV aT (c.q 3) rfl (fun _ _ hj=>((c.iz 2 rfl).1).elem (bF (i:=(j:Int)) (by first | omega | decide | (simp only [aB,aH,bk,bC,bM,bP,ByteArray.size,aF,ay,aC] at *;omega)) (by first | omega | decide | (simp only [aB,aH,bk,bC,bM,bP,ByteArray.size,aF,ay,aC] at *;omega))) hj),bO rfl rfl rfl rfl gU rfl,ey (cx:=[(aj ((nth (bJ at2_.1) (j:Int)).1)),(aj ((nth (bJ at2_.1) (j:Int)).2))]) (off:=0) rfl aT fun c=>⟨c.rb 5 rfl,(c.rb 5 rfl).ptr,(c.q 4)⟩,av⟩ fun ac ag ae ab aa=> ?_;obtain ⟨b27x21,e21⟩:=gx ac 21;obtain ⟨e12,e20,e137⟩:=aa.k3 e12 e20 e137;replace r0:=aa.z1 0;have r1:=aa.rb 6 e21 rfl;replace r2:=aa.z1 2;replace r3:=aa.B 3;refine wp_seq ?_;refine rg [_,_,_,_,_,_,_,_,_,_,_,_,_,_,_,_,_,_,_,_,_,_,_,_,_,_] [0,0,3,7,15,31,15,79,207,511,1023,2047,4095,2047,10239,26623,65535,131071,262143,524287,1048575,524287,2621439,8388607,16777215,33554431] ab [jz 0 r0,jb r1,jz 2 r2,jb r3] ⟨aq fun c=>dY rfl cV aT ((c.p e21).trans r1.ptr) (c.B 1),aq fun c=>xE (cells:=#[(aj (-1)),(aj (-1))]) rfl gU (iT rfl rfl rfl),aq fun c=>jU (p:=(nth (bJ at2_.1) (j:Int))) (q:=((-1),(-1))) rfl (c.q 0) (c.q 1),bD 2,aL 3 rfl fun c hpc=>dh rfl cw aA ((c.p e21).trans r1.ptr),aL 3 rfl fun c hpc=>aI rfl aN (c.M 4 hpc) ((c.B 1).cell (j:=0) rfl),aL 3 rfl fun c hpc=>dh rfl bd aT ((c.p e12).trans r3.ptr),aL 3 rfl fun c hpc=>dh rfl cw aA (c.M 6 hpc),aL 3 rfl fun c hpc=>aI rfl aN (c.M 7 hpc) (by rw [add_add];exact (c.ib 3 rfl).cell (j:=0) rfl),aL 3 rfl fun c hpc=>cW rfl (c.M 5 hpc) (c.M 8 hpc),aL 3 rfl fun c hpc=>aS rfl (c.M 9 hpc),dj 10 false rfl fun c hpc=>dh rfl cw aA ((c.p e21).trans r1.ptr),dj 10 false rfl fun c hpc=>aI rfl aN (c.M 11 hpc) ((c.B 1).cell (j:=1) rfl),dj 10 false rfl fun c hpc=>dh rfl bd aT ((c.p e12).trans r3.ptr),dj 10 false rfl fun c hpc=>dh rfl cw aA (c.M 13 hpc),dj 10 false rfl fun c hpc=>aI rfl aN (c.M 14 hpc) (by rw [add_add];exact (c.ib 3 rfl).cell (j:=1) rfl),dj 10 false rfl fun c hpc=>ii rfl (c.M 12 hpc) (c.M 15 hpc),aL 3 rfl fun c hpc=>pT rfl (c.M 10 hpc) (fun h=>c.m 16 rfl (And.intro hpc h)),aL 3 rfl fun c hpc=>aS rfl (c.M 17 hpc),dj 18 false rfl fun c hpc=>dh rfl cw aA ((c.p e21).trans r1.ptr),dj 18 false rfl fun c hpc=>aI rfl aN (c.M 19 hpc) ((c.B 1).cell (j:=0) rfl),dj 18 false rfl fun c hpc=>dh rfl cw aA ((c.p e21).trans r1.ptr),dj 18 false rfl fun c hpc=>aI rfl aN (c.M 21 hpc) ((c.B 1).cell (j:=1) rfl),dj 18 false rfl fun c hpc=>ii rfl (c.M 20 hpc) (c.M 22 hpc),aL 3 rfl fun c hpc=>pT rfl (c.M 18 hpc) (fun h=>c.m 23 rfl (And.intro hpc h)),aq (v:=(aE false)) fun c=>cA.isB (b:=(!(dA (nth (bJ at2_.1) (j:Int)) ((-1),(-1))))&&(((decide ((nth (bJ at2_.1) (j:Int)).1 < (aM at2_.1).1)) || (decide ((aM at2_.1).2 < (nth (bJ at2_.1) (j:Int)).2))) || (decide ((nth (bJ at2_.1) (j:Int)).2 < (nth (bJ at2_.1) (j:Int)).1)))) (oK rfl (c.q 3) (fun h=>c.M 24 h)) (by rcases hs5_ _ (bN (xs:=bJ at2_.1) (i:=(j:Int)) (by omega) (by omega)) with h_ | ⟨h1_,h2_,h3_⟩;(rw [h_];simp [dA]);(simp [aV.2 h1_,aV.2 h2_,aV.2 h3_])),av⟩ fun ac ag ae ab aa=> ?_;obtain ⟨e12,e20,e21,e137⟩:=aa.k4 e12 e20 e21 e137;have e170:=aa.V 25;obtain ⟨r0,r2⟩:=aa.z2 0 2;replace r1:=aa.B 1;replace r3:=aa.B 3;refine wp_cond_false e170 ?_;refine wp_skip ?_;show _;refine fX ab [jz 0 r0,jb r1,jz 2 r2,jb r3] ⟨ao e20,aq fun c=>cN rfl (c.q 0) rfl (by first | omega | decide | (simp only [aB,aH,bk,bC,bM,bP,ByteArray.size,aF,ay,aC] at *;omega)),aK 1,av⟩ fun ac ag ae ab aa=> ?_;obtain ⟨e12,e21,e137,e170⟩:=aa.k4 e12 e21 e137 e170;have e20:=aa.V 2;obtain ⟨r0,r2⟩:=aa.z2 0 2;replace r1:=aa.B 1;replace r3:=aa.B 3;refine ⟨⟨j+1,ae,?_,ab,(e20.trans (bB (by omega))),e12,r0,r2,r3⟩,?_⟩
   · omega
   · simp only [m20,e20,intOf];omega
 try simp only [ah,aV] at hc6
 refine wp_exit ?_;repeat (with_reducible refine cy ?_)
 refine cC ?_;refine wp_seq (eA ab [jz 0 r0,jz 2 r2,jb r3] ⟨eE fun c=>⟨_,_,(fN rfl rfl dN),fO _⟩,aK 0,av⟩ fun ac ag ae ab aa=> ?_);have e8:=aa.V 1;obtain ⟨r0,r2⟩:=aa.z2 0 2;refine wp_ret ?_;refine rp ?_;refine cO (fn:=Tryz.f11) rfl ab.defers e8 ?_;refine ⟨congrArg _ (congrArg _ ?_),ab.ext0⟩;rfl
end
end B
end Go.Proofs.YtcfdebjhikahfaaGreat
namespace Go.Proofs.YtcfdebjhikahfaaGreat
open Go.ChangeShapes Go.WideShapes Go.ChangeAt Go.RowKit
namespace B
theorem sK:ownKnob Tryz.prog.godebug=none:=by kernel_rfl
theorem kJ:laidOutB Tryz.prog=true:=by kernel_rfl
set_option maxRecDepth 100000 in
theorem uG (H:Type) (enc:TypeId × Value→H) (W:World) (base:Nat) (args:Array Value) (ds gs:List (DataW H)) (before:List MemPlace)
    (hval:∀(j:Nat) t v,Tryz.f11.params[j]? =some t→args[j]? =some v→Value.okWide Tryz.prog W .any base t v)
    (hW:DataW.Whole enc Tryz.prog Tryz.f11.params.toList Rows.runSpanSpec.vars false W args.toList ds gs before):
    Calls Tryz.prog 11 args W fun e W'=>∃v,e= .returned v∧Rows.runSpanSpec.post enc Tryz.prog Tryz.f11 false true false false W args v W':=by
  have hW':=hW;obtain ⟨p,q,hA0,hV,rfl,hfz,hnd⟩:=hW;have hA:DataW.TrodAll enc Tryz.prog W 0 (fun _=>true) true Tryz.f11.params.toList args.toList ds p:=hA0;rw [Tryz.params11] at hA hval;obtain ⟨v0,vs0,d0,ds0,p0,q0,hargs0,rfl,rfl,h0,r0⟩:=trodAll_cons hA;obtain ⟨v1,vs1,d1,ds1,p1,q1,hargs1,rfl,rfl,h1,r1⟩:=trodAll_cons r0;obtain ⟨v2,vs2,d2,ds2,p2,q2,hargs2,rfl,rfl,h2,r2⟩:=trodAll_cons r1;obtain ⟨v3,vs3,d3,ds3,p3,q3,hargs3,rfl,rfl,h3,r3⟩:=trodAll_cons r2;obtain ⟨rfl,rfl,rfl⟩:=trodAll_nil r3;subst hargs3;subst hargs2;subst hargs1;obtain rfl:args=#[v0,v1,v2,v3]:=by first | exact Array.ext' hargs0 | (cases args;simp_all)
  obtain ⟨x0,rfl,rfl,rfl,b0⟩:=Go.ChangeMaps.open_string aZ (hval 0 9 v0 rfl rfl) h0;obtain ⟨x1,rfl,rfl,rfl⟩:=open_bool cT (hval 1 4 v1 rfl rfl) h1;obtain ⟨x2,rfl,rfl,rfl,b2⟩:=Go.ChangeMaps.open_string aZ (hval 2 9 v2 rfl rfl) h2;obtain ⟨x3,rfl,b3⟩:=jB bX (hval 3 3 v3 rfl rfl) h3;exact (EF x0 x1 x2 x3 W).mono fun e W' ⟨he,hx⟩=>⟨_,he,lU kJ hW' rfl (by kernel_rfl) rfl rfl cT hx⟩
set_option maxRecDepth 100000 in
theorem xc (os:Os) (started:os.Started) (H:Type) (enc:TypeId × Value→H):
    ReturnsInHanded {} Tryz.checked os 11 .any (Rows.runSpanSpec.pre6 enc Tryz.prog Tryz.f11 Rows.runSpanRow.domain false) (Rows.runSpanSpec.post enc Tryz.prog Tryz.f11 false true false false):=by
  refine returnsInHanded_of_change (C:=Tryz.checked) sK started (by kernel_rfl) Tryz.func11
    (ChangeSpec.witness6 (enc:=enc) (C:=Tryz.checked) false ⟨#[],#[.string ⟨#[]⟩,.bool false,.string ⟨#[]⟩,.int .i64 0],[]⟩ 8 (by kernel_rfl) (by kernel_rfl) (by kernel_rfl) (by kernel_rfl)) ?_
  intro W base args ds gs before hval hW _ _;exact uG H enc W base args ds gs before hval hW
theorem runSpan_holds:Rows.RunSpanSaid:=
  OpenClaim.holds_of_wide 11 Tryz.f11 rfl rfl rfl rfl rfl rfl rfl ⟨rfl,rfl,rfl,rfl,rfl⟩ rfl rfl rfl rfl rfl (by kernel_rfl) Tryz.func11 (by kernel_rfl)
    (of_decide_eq_true (by kernel_rfl)) (by unfold Func.isWrapper;first | (rw [if_pos (by decide+kernel)];kernel_rfl) | (rw [if_neg (by decide+kernel)];exact ⟨rfl,rfl⟩))
    (fun os started H enc _=>xc os started H enc)
end B
end Go.Proofs.YtcfdebjhikahfaaGreat
