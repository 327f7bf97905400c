/-
  Proved here: the given statement RunCodesSaid of chapter 16, that is: the law RunCodes answers true for every tree, every two texts and all numbers.
  Conditions: none beyond the statement. Own texts, put together and shortened by programs.
-/
import Derived.Test.YtcfdebjhikahfaaGreatZx7
import Derived.Test.YtcfdebjhikahfaaGreatRows
import Derived.ChangeMaps5
set_option linter.unusedSimpArgs false
set_option linter.unusedVariables false
set_option linter.unusedSectionVars false
namespace Go.Proofs.YtcfdebjhikahfaaGreat
section
open Go.RowKit
abbrev dN:=@Tryz.call15
abbrev qM:=@Tryz.call23
abbrev jM:=@Tryz.call25
abbrev kt:=@Tryz.call26
end
namespace B
section
open Go.ChangeShapes Go.WideShapes Go.ChangeAt Go.RowKit
def GH {α:Type} (P:Program) (e:TypeId) (E:Enc α):Prop:=
  ∀(H:Type) (enc:TypeId × Value→H) (w:World) (base:Nat) (spare:Nat→Bool) (held:Bool) (n:Nat) (cs:List Value) (y:DataW H × List MemPlace),DataW.trod enc P w base spare held n e cs=some y→∃x:α,cs=E.cells x
section
variable {P:Program} {e:TypeId}
theorem EA {cs:List Value} {v0 v1:Value} (hl:cs.length=2) (h0:cs.take 1=[v0]) (h1:(cs.drop 1).take 1=[v1]):cs=[v0,v1]:=by
  match cs,hl with
  | [a, b], _ => simp at h0 h1; rw [h0, h1]
theorem EB {f0 f1:Field} (he:P.underlying e=some (.struct #[f0,f1])) (ce:P.cellsOf e=2) (o0:f0.offset=0) (o1:f1.offset=1) (c0:P.cellsOf f0.type=1) (c1:P.cellsOf f1.type=1)
    (t0:P.underlying f0.type=some .string) (t1:P.underlying f1.type=some .string):GH P e fx:=fun H enc w base spare held n cs y h=>by
  obtain ⟨y0,y1,m,_,hl,h0,h1⟩:=trod_struct2 he h;obtain ⟨a,ha,_⟩:=DataW.trod_string t0 h0;obtain ⟨b,hb,_⟩:=DataW.trod_string t1 h1;rw [o0,c0] at ha;rw [o1,c1] at hb;exact ⟨(a,b),EA (hl.trans ce) ha hb⟩
end
section
variable {P:Program} {W:World} {H:Type} {enc:TypeId × Value→H} {base:Nat} {spare:Nat→Bool} {held:Bool}
theorem jB {t:TypeId} (ht:P.underlying t=some (.int .i64)) {r:Reach} {b0:Nat} {v:Value} (hv:Value.okWide P W r b0 t v) {d:DataW H} {p:List MemPlace} (h:DataW.Trod enc P W base spare held t v d p):∃n,v= .int .i64 n∧ -9223372036854775808≤n∧n≤9223372036854775807:=by
  obtain ⟨n,rfl,_,_,hw⟩:=open_int ht hv h;simp [Lit.wf,IntKind.min,IntKind.max,IntKind.signed,IntKind.bits] at hw;exact ⟨n,rfl,hw⟩
end
end
section
open Go.RowKit
theorem kn {α:Type} [Inhabited α] {xs ys:List α} {k:Nat} (h:k < xs.length) (h':k < ys.length) (hq:xs.take k=ys.take k) (h0:nth xs (k:Int)=nth ys (k:Int)):xs.take (k+1)=ys.take (k+1):=by
  rw [eH h,eH h',hq,h0]
theorem jC {α:Type} [Inhabited α] {xs ys:List α} {i:Int} (h:¬nth xs i=nth ys i):¬xs=ys:=fun e=>h (by rw [e])
theorem go {α:Type} {xs ys:List α} {k:Nat} (hl:xs.length=ys.length) (hk:k≤xs.length) (hq:xs.take k=ys.take k) (h:(xs.length:Int)≤k):xs=ys:=by
  rwa [bw (by omega),bw (by omega)] at hq
def dA (p q:Int × Int):Bool:=decide (p=q)
theorem ko (p q:Int × Int):dA p q=(decide (p.1=q.1)&&decide (p.2=q.2)):=by
  rw [eZ];simp [dA,Prod.ext_iff]
set_option maxRecDepth 100000 in
theorem iW (p q:Int × Int) (w:World):(Op.equal 38 (fB p) (fB q)).run Tryz.prog w= .ok (dA p q) w:=by
  rw [ko];have h:=run_equalIn_struct (P:=Tryz.prog) w 9999 38 #[.int .i64 p.1,.int .i64 p.2] #[.int .i64 q.1,.int .i64 q.2] rfl Tryz.stoodInHeld38;simp only [Op.equal,Op.maxDepth,fB,h];simp [Program.fieldsOf,Op.eqFields,part,go_sem];by_cases h1:p.1=q.1 <;> by_cases h2:p.2=q.2 <;> simp [h1,h2]
theorem mU {a:Act} {o:Oper} {w:World} {x y:Operand} {t':TypeId} {p q:Int × Int} (ho:o.op= .binOp .eql 38 x y t') (hx:a.eval x=fB p) (hy:a.eval y=fB q):cA Tryz.prog a o w (.bool (dA p q)):=by
  have h:=iW p q w;simp only [fB] at h hx hy;simp [cA,execOp,ho,hx,hy,eqGuard,binOp,h]
theorem jU {a:Act} {o:Oper} {w:World} {x y:Operand} {t':TypeId} {p q:Int × Int} (ho:o.op= .binOp .neq 38 x y t') (hx:a.eval x=fB p) (hy:a.eval y=fB q):cA Tryz.prog a o w (.bool (!dA p q)):=by
  have h:=iW p q w;simp only [fB] at h hx hy;simp [cA,execOp,ho,hx,hy,eqGuard,binOp,h]
set_option maxRecDepth 100000 in
theorem kX (v u:Value) (xs ys:List (Int × Int)) (w:World) (hS:SlT cF w v xs) (hU:SlT cF w u ys):Calls Tryz.prog 26 #[v,u] w (fun e w'=>e= .returned (aE (decide (xs=ys)))∧Ext aW w w'):=by
 refine enter (n:=26) Tryz.func26 rfl rfl (aw rfl) ?_;intro a0 τ0 ha st0;obtain ⟨e0,e1⟩:=qG ha;have hle:=hS.le;have hle2:=hU.le;refine wp_seq (eK st0 [] ⟨aq fun c=>ax rfl rfl,av⟩ fun ac ag ae ab aa=> ?_);obtain ⟨e0,e1⟩:=aa.k2 e0 e1;have e4:=aa.V 0;refine wp_seq ?_;refine wp_seq (vO [0,1,0,4,15] ab [] ⟨ao e0,aq fun c=>dk rfl bh (c.q 0) hS.sl,ao e1,aq fun c=>dk rfl bh (c.q 2) hU.sl,aq fun c=>fh rfl (c.q 1) (c.q 3),av⟩ fun ac ag ae ab aa=> ?_);obtain ⟨e0,e1,e4⟩:=aa.k3 e0 e1 e4;have e10:=aa.V 4;refine wp_cond_split e10 (fun hc1=> ?_) (fun hc1=> ?_)
 · try simp only [ar,am,ai,ah] at hc1
   refine wp_seq (eK ab [] ⟨aq fun c=>ax rfl rfl,av⟩ fun ac ag ae ab aa=> ?_);obtain ⟨e0,e1⟩:=aa.k2 e0 e1;have e4:=aa.V 0;refine wp_ret ?_;refine rp ?_;refine cO (fn:=Tryz.f26) rfl ab.defers e4 ?_;exact ⟨congrArg _ (congrArg _ (by first | (symm;exact decide_eq_false (fun h=>by subst h;omega)) | (symm;exact decide_eq_false (jC (by assumption))) | (symm;exact decide_eq_true (go q1 q0 q2 (by assumption))))),ab.ext0⟩
 try simp only [ar,am,ai,ah] at hc1
 refine wp_skip ?_;refine wp_seq ?_;refine wp_seq (eK ab [] ⟨aq fun c=>ax rfl rfl,av⟩ fun ac ag ae ab aa=> ?_);obtain ⟨e0,e1,e4⟩:=aa.k3 e0 e1 e4;have e5:=aa.V 0;refine wp_block ?_;refine wp_loop (fun a_ w_=>∃(k:Nat) (τ:Nat→bj),(k≤xs.length)∧
      (xs.length=ys.length)∧
      (xs.take k=ys.take k)∧
      St (Nw w) w 26 a_ w_ τ∧
      be a_ 5=(aj (k:Int))∧
      be a_ 0=v∧
      be a_ 1=u) (fun a_ _=>xs.length - (intOf (be a_ 5)).toNat) ?_ ?_
 · refine ⟨0,ae,?_,?_,?_,ab,(e5.trans (bB (by omega))),e0,e1⟩
   · omega
   · omega
   · simp
 intro a5 w5 hI;obtain ⟨k,τ5,q0,q1,q2,st5,e5,e0,e1⟩:=hI;have m5:=e5;refine wp_seq ?_;refine wp_seq (lr [0,0,2,7] st5 [] ⟨ao e5,ao e0,aq fun c=>dk rfl bh (c.q 1) hS.sl,aq fun c=>cW rfl (c.q 0) (c.q 2),av⟩ fun ac ag ae ab aa=> ?_);obtain ⟨e0,e1,e5⟩:=aa.k3 e0 e1 e5;have e14:=aa.V 3;refine wp_cond_split e14 (fun hc2=> ?_) (fun hc2=> ?_)
 · try simp only [ai] at hc2
   refine wp_skip ?_;refine wp_seq ?_;refine wp_block ?_;refine wp_seq (xD [0,0,3,7,0,0,48,112,255] ab [] ⟨ao e0,ao e5,aq fun c=>aX rfl bh aT (c.q 0) hS.sl (c.q 1) (by omega) (by omega),aq fun c=>cq (vs:=[(aj ((nth xs (k:Int)).1)),(aj ((nth xs (k:Int)).2))]) rfl cV aT (c.q 2) rfl (fun _ _ hj=>(hS.at (ab.ext.trans c.J.ext)).elem (bF (i:=(k:Int)) (by omega) (by omega)) hj),ao e1,ao e5,aq fun c=>aX rfl bh aT (c.q 4) hU.sl (c.q 5) (by omega) (by omega),aq fun c=>cq (vs:=[(aj ((nth ys (k:Int)).1)),(aj ((nth ys (k:Int)).2))]) rfl cV aT (c.q 6) rfl (fun _ _ hj=>(hU.at (ab.ext.trans c.J.ext)).elem (bF (i:=(k:Int)) (by omega) (by omega)) hj),aq fun c=>jU rfl (c.q 3) (c.q 7),av⟩ fun ac ag ae ab aa=> ?_);obtain ⟨e0,e1,e5,e14⟩:=aa.k4 e0 e1 e5 e14;have e25:=aa.V 8;refine wp_cond_split e25 (fun hc3=> ?_) (fun hc3=> ?_)
   · try simp only [ar,am,ai,ah,dA] at hc3
     refine wp_seq (eK ab [] ⟨aq fun c=>ax rfl rfl,av⟩ fun ac ag ae ab aa=> ?_);obtain ⟨e0,e1,e5,e14,e25⟩:=aa.k5 e0 e1 e5 e14 e25;have e4:=aa.V 0;refine wp_ret ?_;refine rp ?_;refine cO (fn:=Tryz.f26) rfl ab.defers e4 ?_;exact ⟨congrArg _ (congrArg _ (by first | (symm;exact decide_eq_false (fun h=>by subst h;omega)) | (symm;exact decide_eq_false (jC (by assumption))) | (symm;exact decide_eq_true (go q1 q0 q2 (by assumption))))),ab.ext0⟩
   try simp only [ar,am,ai,ah,dA] at hc3
   refine wp_skip ?_;show _;refine fX ab [] ⟨ao e5,aq fun c=>cN rfl (c.q 0) rfl (by omega),aK 1,av⟩ fun ac ag ae ab aa=> ?_;obtain ⟨e0,e1,e14,e25⟩:=aa.k4 e0 e1 e14 e25;have e5:=aa.V 2;refine ⟨⟨k+1,ae,?_,?_,?_,ab,(e5.trans (bB (by omega))),e0,e1⟩,?_⟩
   · omega
   · omega
   · exact kn (by omega) (by omega) q2 (by assumption)
   · simp only [m5,e5,intOf];omega
 try simp only [ah,aV] at hc2
 refine wp_exit ?_;repeat (with_reducible refine cy ?_)
 refine cC ?_;refine wp_seq (eK ab [] ⟨aq fun c=>ax rfl rfl,av⟩ fun ac ag ae ab aa=> ?_);have e4:=aa.V 0;refine wp_ret ?_;refine rp ?_;refine cO (fn:=Tryz.f26) rfl ab.defers e4 ?_;exact ⟨congrArg _ (congrArg _ (by first | (symm;exact decide_eq_false (fun h=>by subst h;omega)) | (symm;exact decide_eq_false (jC (by assumption))) | (symm;exact decide_eq_true (go q1 q0 q2 (by assumption))))),ab.ext0⟩
end
section
open Srt
section
variable {β:Type}
end
def ka:Int→List (ByteArray × ByteArray)→Option Int
  | n, [] => some n
  | n, r :: rs => if (decide (n ≤ (r.1.size : Int)) || decide (n ≤ (r.2.size : Int))) = true then none else ka (n - 1 - (r.1.size : Int) - (r.2.size : Int)) rs
def tJ (t:Tr) (n:Int):Bool:=(decide (n≤(t.ch.size:Int)) || decide (n≤(t.rows.length:Int))) || decide (n≤(t.kids.length:Int))
def Lq (l:List (Int→Int)) (n:Int):Int:=l.foldl (fun m g=>if m < 0 then m else g m) n
def zv:Tr→Int→Int:=oi fun t l n=>if tJ t n=true then -1 else match ka (n - 1 - (t.ch.size:Int)) t.rows with
  | none => -1
  | some m => Lq l m
def Bl (ks:List Tr) (n:Int):Int:=Lq (ks.map zv) n
theorem wY (t:Tr) (n:Int):zv t n=if tJ t n=true then -1 else match ka (n - 1 - (t.ch.size:Int)) t.rows with
  | none => -1
  | some m => Bl t.kids m := by
  have h:=congrFun (kN (fun t l n=>if tJ t n=true then (-1:Int) else match ka (n - 1 - (t.ch.size:Int)) t.rows with
    | none => -1
    | some m => Lq l m) t) n
  exact h
theorem tK (t:Tr) (ks:List Tr) (n:Int):Bl (t::ks) n=Bl ks (if n < 0 then n else zv t n):=rfl
theorem zg {ks:List Tr} {n:Int} (h:n < 0):Bl ks n=n:=by
  induction ks with
  | nil => rfl
  | cons k ks ih => rw [tK, if_pos h, ih]
theorem zh {rs:List (ByteArray × ByteArray)} {n m M:Int} (h1: -M≤n) (h2:n≤M) (h:ka n rs=some m): -M≤m∧m≤n:=by
  induction rs generalizing n with
  | nil => simp [ka] at h; subst h; exact ⟨h1, fJ _⟩
  | cons r rs ih =>
    rw [ka] at h;split at h
    · cases h
    · rename_i hc;simp only [aR,ai,not_or,dD] at hc;have:=ih (by omega) (by omega) h;omega
theorem EC (t:Tr):∀{n M:Int},1≤M→n≤M→ -M≤zv t n∧zv t n≤M:=by
  induction t using Tr.ind with
  | h t ih =>
    intro n M h1 h2;have hK:∀ks:List Tr,(∀k ∈ ks,k ∈ t.kids)→∀m,-M≤m→m≤M→ -M≤Bl ks m∧Bl ks m≤M:=by
      intro ks;induction ks with
      | nil => intro _ m a b; exact ⟨a, b⟩
      | cons k ks ih2 =>
        intro hm m a b;rw [tK];split
        · exact ih2 (fun x hx=>hm x (by simp [hx])) m a b
        · have:=ih k (hm k (by simp)) h1 b;exact ih2 (fun x hx=>hm x (by simp [hx])) _ this.1 this.2
    rw [wY];split
    · omega
    · rename_i hc;unfold tJ at hc;simp only [aR,ai,not_or,dD] at hc;split
      · omega
      · rename_i m hm;have:=zh (M:=M) (by omega) (by omega) hm;exact hK t.kids (fun _ h=>h) m (by omega) (by omega)
theorem zi {t:Tr} {n:Int} (h:tJ t n=true):zv t n= -1:=by rw [wY,if_pos h]
theorem zj {t:Tr} {n m:Int} {k:Nat} (h:tJ t n=false) (hq:ka (n - 1 - (t.ch.size:Int)) t.rows=ka m (t.rows.drop k)) (hk:k < t.rows.length) (hc:(decide (m≤((nth t.rows (k:Int)).1.size:Int)) || decide (m≤((nth t.rows (k:Int)).2.size:Int)))=true):zv t n= -1:=by
  rw [wY,if_neg (by rw [h];decide),hq,iv hk,ka,if_pos hc]
theorem AU {t:Tr} {m:Int} {k:Nat} {x:Option Int} (hq:x=ka m (t.rows.drop k)) (hk:k < t.rows.length) (hc:(decide (m≤((nth t.rows (k:Int)).1.size:Int)) || decide (m≤((nth t.rows (k:Int)).2.size:Int)))=false):x=ka (m - 1 - ((nth t.rows (k:Int)).1.size:Int) - ((nth t.rows (k:Int)).2.size:Int)) (t.rows.drop (k+1)):=by
  rw [hq,iv hk,ka,if_neg (by rw [hc];decide)]
theorem zk {t:Tr} {n m l:Int} {k j:Nat} (h:tJ t n=false) (hq:ka (n - 1 - (t.ch.size:Int)) t.rows=ka m (t.rows.drop k)) (hk:t.rows.length≤k) (hj:Bl t.kids m=Bl (t.kids.drop j) l) (hd:l < 0∨t.kids.length≤j):zv t n=l:=by
  rw [wY,if_neg (by rw [h];decide),hq,dX hk,ka];show Bl t.kids m=l;rw [hj];rcases hd with hd | hd
  · exact zg hd
  · rw [dX hd];rfl
theorem GI {ks:List Tr} {l x:Int} {j:Nat} (h:x=Bl (ks.drop j) l) (hj:j < ks.length) (h0:0≤l):x=Bl (ks.drop (j+1)) (zv (nth ks (j:Int)) l):=by
  rw [h,iv hj,tK,if_neg (by omega)]
end
section
open Go.RowKit
open Srt
set_option maxRecDepth 100000 in
theorem Iy (t:Tr) (ih:∀k ∈ t.kids,∀(n:Int) (w:World),oO w k→ -1000000≤n∧n≤1000000→Calls Tryz.prog 19 #[k.v,aj n] w (fun e w'=>e= .returned (aj (zv k n))∧Ext aW w w')) (n:Int) (w:World) (hT:oO w t) (hn: -1000000≤n∧n≤1000000):Calls Tryz.prog 19 #[t.v,aj n] w (fun e w'=>e= .returned (aj (zv t n))∧Ext aW w w'):=by
 refine enter (n:=96) Tryz.func19 rfl rfl (aw rfl) ?_;intro a0 τ0 ha st0;have e0:be a0 0=(ta t):=ha 0 _ rfl;have e1:be a0 1=(aj n):=ha 1 _ rfl;clear ha;have hle:=hT.kids.le;have hle2:=hT.rows.le;refine wp_seq (rg [box _ _ 0 2 (tc t),_] [0,0] st0 [] ⟨hH (v:=(ta t)) rfl rfl rfl rfl rfl (fun _ _ _ _ c=>(c.p e0)),aq fun c=>ax rfl rfl,av⟩ fun ac ag ae ab aa=> ?_);obtain ⟨b1x2,e2⟩:=gx ac 2;replace e1:=aa.k1 e1;have e4:=aa.V 1;have r0:=aa.rb 0 e2 rfl;refine wp_seq ?_;refine wp_seq (rg [_,_,_,_,_,_,_,_,_,_,_,_,_,_,_,_,_,_,_] [0,1,3,0,15,31,63,127,255,63,1023,2047,4095,8191,16383,32767,8191,131071,262143] ab [jb r0] ⟨cK aJ cf e2 r0.ptr,fE cJ 0 0 1,aq fun c=>fA rfl aZ (c.q 1),ao e1,aq fun c=>iC rfl (c.q 2) (c.q 3),bD 4,bm 5 rfl fun c hpc=>dh rfl aJ fl ((c.p e2).trans r0.ptr),bm 5 rfl fun c hpc=>aI rfl jk (c.M 6 hpc) ((c.B 0).cell (j:=3) rfl),bm 5 rfl fun c hpc=>dk rfl br (c.M 7 hpc) (hT.at ab.ext).rows.sl,bm 5 rfl fun c hpc=>aS rfl (c.p e1),bm 5 rfl fun c hpc=>iC rfl (c.M 8 hpc) (c.M 9 hpc),dm 5 10,bD 11,bm 12 rfl fun c hpc=>dh rfl aJ cR ((c.p e2).trans r0.ptr),bm 12 rfl fun c hpc=>aI rfl dG (c.M 13 hpc) ((c.B 0).cell (j:=7) rfl),bm 12 rfl fun c hpc=>dk rfl aU (c.M 14 hpc) (hT.at ab.ext).tl.sl.sl,bm 12 rfl fun c hpc=>aS rfl (c.p e1),bm 12 rfl fun c hpc=>iC rfl (c.M 15 hpc) (c.M 16 hpc),dm 12 17,av⟩ fun ac ag ae ab aa=> ?_);obtain ⟨e1,e2,e4⟩:=aa.k3 e1 e2 e4;have e25:=aa.V 18;replace r0:=aa.B 0;refine wp_cond_split e25 (fun hc1=> ?_) (fun hc1=> ?_)
 · have hd1:=hc1;try simp only [aR,ai] at hd1
   refine wp_seq (eK ab [jb r0] ⟨aq fun c=>ax rfl rfl,av⟩ fun ac ag ae ab aa=> ?_);obtain ⟨e1,e2⟩:=aa.k2 e1 e2;have e4:=aa.V 0;replace r0:=aa.B 0;refine wp_ret ?_;refine rp ?_;refine cO (fn:=Tryz.f19) rfl ab.defers e4 ?_;exact ⟨congrArg _ (bB (by first | exact (zi (by assumption)).symm | exact (zj htop (k:=k) (by assumption) (by omega) (by assumption)).symm | exact (zk htop (k:=k) (m:=l) (by assumption) (by omega) q2 (by omega)).symm)),ab.ext0⟩
 have hd1:=hc1;try simp only [aG,ah,dD] at hd1
 refine wp_skip ?_;refine wp_seq ?_;have htop:tJ t n=false:=by assumption
 have htp:=htop;unfold tJ at htp;simp only [aG,ah,dD] at htp;refine ue [0,1,0,4,12,31,63] ab [jb r0] ⟨ao e1,aq fun c=>gd rfl (c.q 0) rfl (by omega),cK aJ cf e2 r0.ptr,fE cJ 2 0 1,aq fun c=>fA rfl aZ (c.q 3),aq fun c=>gd rfl (c.q 1) (c.q 4) (by omega),aK 5,av⟩ fun ac ag ae ab aa=> ?_;obtain ⟨e2,e4⟩:=aa.k2 e2 e4;have e1:=aa.V 6;replace r0:=aa.B 0;refine wp_seq ?_;refine wp_seq (eK ab [jb r0] ⟨aq fun c=>ax rfl rfl,av⟩ fun ac ag ae ab aa=> ?_);obtain ⟨e1,e2,e4⟩:=aa.k3 e1 e2 e4;have e5:=aa.V 0;replace r0:=aa.B 0;refine wp_block ?_;refine wp_loop (fun a_ w_=>∃(k:Nat) (l:Int) (τ:Nat→bj),(k≤t.rows.length)∧
      (-1000000≤l∧l≤1000000)∧
      (ka (n - 1 - (t.ch.size:Int)) t.rows=ka l (t.rows.drop k))∧
      St (Nw w) w 96 a_ w_ τ∧
      be a_ 1=(aj l)∧
      be a_ 5=(aj (k:Int))∧
      be a_ 2=b1x2∧
      cH 25 (tc t) (τ 0) b1x2 w_) (fun a_ _=>t.rows.length - (intOf (be a_ 5)).toNat) ?_ ?_
 · refine ⟨0,n - 1 - (t.ch.size:Int),ae,?_,?_,?_,ab,(e1.trans (bB (by omega))),(e5.trans (bB (by omega))),e2,r0⟩
   · omega
   · omega
   · rfl
 intro a6 w6 hI;obtain ⟨k,l,τ6,q0,q1,q2,st6,e1,e5,e2,r0⟩:=hI;have m5:=e5;refine wp_seq ?_;refine wp_seq (vO [0,0,2,6,15] st6 [jb r0] ⟨ao e5,cK aJ fl e2 r0.ptr,fE jk 1 0 3,aq fun c=>dk rfl br (c.q 2) (hT.at st6.ext).rows.sl,aq fun c=>cW rfl (c.q 0) (c.q 3),av⟩ fun ac ag ae ab aa=> ?_);obtain ⟨e1,e2,e5⟩:=aa.k3 e1 e2 e5;have e36:=aa.V 4;replace r0:=aa.B 0;refine wp_cond_split e36 (fun hc2=> ?_) (fun hc2=> ?_)
 · try simp only [ai] at hc2
   refine wp_skip ?_;refine wp_seq ?_;refine wp_block ?_;refine wp_seq ?_;refine wp_seq ?_;refine rg [_,_,_,_,_,_,_,_,_,_,_,_,_,_,_,_,_,_,_,_] [0,1,0,7,15,31,63,0,255,511,1023,2047,1023,8191,16383,32767,65535,1023,262143,524287] ab [jb r0] ⟨cK aJ fl e2 r0.ptr,fE jk 0 0 3,ao e5,aq fun c=>aX rfl br bq (c.q 1) (hT.at ab.ext).rows.sl (c.q 2) (by omega) (by omega),bS cZ cf 3 rfl,aq fun c=>aI rfl cJ (c.q 4) (((hT.at (ab.ext.trans c.J.ext)).rows).elem (j:=0) (bF (i:=(k:Int)) (by omega) (by omega)) rfl),aq fun c=>fA rfl aZ (c.q 5),ao e1,aq fun c=>iC rfl (c.q 6) (c.q 7),bD 8,bm 9 rfl fun c hpc=>dh rfl aJ fl ((c.p e2).trans r0.ptr),bm 9 rfl fun c hpc=>aI rfl jk (c.M 10 hpc) ((c.B 0).cell (j:=3) rfl),bm 9 rfl fun c hpc=>aS rfl (c.p e5),bm 9 rfl fun c hpc=>aX rfl br bq (c.M 11 hpc) (hT.at ab.ext).rows.sl (c.M 12 hpc) (by have hq0:=bn hpc;omega) (by have hq0:=bn hpc;omega),bm 9 rfl fun c hpc=>dh rfl cZ cf (c.M 13 hpc),bm 9 rfl fun c hpc=>aI rfl cJ (c.M 14 hpc) (((hT.at (ab.ext.trans c.J.ext)).rows).elem (j:=1) (bF (i:=(k:Int)) (by have hq0:=bn hpc;omega) (by have hq0:=bn hpc;omega)) rfl),bm 9 rfl fun c hpc=>fA rfl aZ (c.M 15 hpc),bm 9 rfl fun c hpc=>aS rfl (c.p e1),bm 9 rfl fun c hpc=>iC rfl (c.M 16 hpc) (c.M 17 hpc),dm 9 18,av⟩ fun ac ag ae ab aa=> ?_;obtain ⟨e1,e2,e5,e36⟩:=aa.k4 e1 e2 e5 e36;have e58:=aa.V 19;replace r0:=aa.B 0;refine wp_cond_split e58 (fun hc3=> ?_) (fun hc3=> ?_)
   · have hd3:=hc3;try simp only [aR,ai] at hd3
     refine wp_seq (eK ab [jb r0] ⟨aq fun c=>ax rfl rfl,av⟩ fun ac ag ae ab aa=> ?_);obtain ⟨e1,e2,e5,e36,e58⟩:=aa.k5 e1 e2 e5 e36 e58;have e4:=aa.V 0;replace r0:=aa.B 0;refine wp_ret ?_;refine rp ?_;refine cO (fn:=Tryz.f19) rfl ab.defers e4 ?_;exact ⟨congrArg _ (bB (by first | exact (zi (by assumption)).symm | exact (zj htop (k:=k) (by assumption) (by omega) (by assumption)).symm | exact (zk htop (k:=k) (m:=l) (by assumption) (by omega) q2 (by omega)).symm)),ab.ext0⟩
   have hd3:=hc3;try simp only [aG,ah,dD] at hd3
   refine wp_skip ?_;have hrr:(decide (l≤((nth t.rows (k:Int)).1.size:Int)) || decide (l≤((nth t.rows (k:Int)).2.size:Int)))=false:=by assumption
   have hrs:=hrr;simp only [aG,ah,dD] at hrs;refine rg [_,_,_,_,_,_,_,_,_,_,_,_,_,_,_,_,_,_,_] [0,1,0,4,0,28,60,124,252,511,0,1024,0,7168,15360,31744,64512,131071,262143] ab [jb r0] ⟨ao e1,aq fun c=>gd rfl (c.q 0) rfl (by omega),cK aJ fl e2 r0.ptr,fE jk 2 0 3,ao e5,aq fun c=>aX rfl br bq (c.q 3) (hT.at ab.ext).rows.sl (c.q 4) (by omega) (by omega),bS cZ cf 5 rfl,aq fun c=>aI rfl cJ (c.q 6) (((hT.at (ab.ext.trans c.J.ext)).rows).elem (j:=0) (bF (i:=(k:Int)) (by omega) (by omega)) rfl),aq fun c=>fA rfl aZ (c.q 7),aq fun c=>gd rfl (c.q 1) (c.q 8) (by omega),cK aJ fl e2 r0.ptr,fE jk 10 0 3,ao e5,aq fun c=>aX rfl br bq (c.q 11) (hT.at ab.ext).rows.sl (c.q 12) (by omega) (by omega),bS cZ cf 13 rfl,aq fun c=>aI rfl cJ (c.q 14) (((hT.at (ab.ext.trans c.J.ext)).rows).elem (j:=1) (bF (i:=(k:Int)) (by omega) (by omega)) rfl),aq fun c=>fA rfl aZ (c.q 15),aq fun c=>gd rfl (c.q 9) (c.q 16) (by omega),aK 17,av⟩ fun ac ag ae ab aa=> ?_;obtain ⟨e2,e5,e36,e58⟩:=aa.k4 e2 e5 e36 e58;have e1:=aa.V 18;replace r0:=aa.B 0;show _;refine fX ab [jb r0] ⟨ao e5,aq fun c=>cN rfl (c.q 0) rfl (by omega),aK 1,av⟩ fun ac ag ae ab aa=> ?_;obtain ⟨e1,e2,e36,e58⟩:=aa.k4 e1 e2 e36 e58;have e5:=aa.V 2;replace r0:=aa.B 0;refine ⟨⟨k+1,l - 1 - (((nth t.rows (k:Int)).1).size:Int) - (((nth t.rows (k:Int)).2).size:Int),ae,?_,?_,?_,ab,(e1.trans (bB (by omega))),(e5.trans (bB (by omega))),e2,r0⟩,?_⟩
   · omega
   · omega
   · exact AU q2 (by omega) hrr
   · simp only [m5,e5,intOf];omega
 try simp only [ah,aV] at hc2
 refine wp_exit ?_;repeat (with_reducible refine cy ?_)
 refine cC ?_;refine wp_seq ?_;refine wp_seq (eK ab [jb r0] ⟨aq fun c=>ax rfl rfl,av⟩ fun ac ag ae ab aa=> ?_);obtain ⟨e1,e2⟩:=aa.k2 e1 e2;have e6:=aa.V 0;replace r0:=aa.B 0;refine wp_block ?_;refine wp_loop (fun a_ w_=>∃(j:Nat) (p:Int) (τ:Nat→bj),(j≤t.kids.length)∧
      (-1000000≤p∧p≤1000000)∧
      (Bl t.kids l=Bl (t.kids.drop j) p)∧
      St (Nw w) w 96 a_ w_ τ∧
      be a_ 1=(aj p)∧
      be a_ 6=(aj (j:Int))∧
      be a_ 2=b1x2∧
      cH 25 (tc t) (τ 0) b1x2 w_) (fun a_ _=>t.kids.length - (intOf (be a_ 6)).toNat) ?_ ?_
 · refine ⟨0,l,ae,?_,?_,?_,ab,(e1.trans (bB (by omega))),(e6.trans (bB (by omega))),e2,r0⟩
   · omega
   · omega
   · rfl
 intro a13 w13 hI;obtain ⟨j,p,τ13,q0,q1,q2,st13,e1,e6,e2,r0⟩:=hI;have m6:=e6;refine wp_seq ?_;refine wp_seq (xD [0,0,2,6,15,31,63,127,255] st13 [jb r0] ⟨ao e6,cK aJ cR e2 r0.ptr,fE dG 1 0 7,aq fun c=>dk rfl aU (c.q 2) (hT.at st13.ext).tl.sl.sl,aq fun c=>cW rfl (c.q 0) (c.q 3),bD 4,aL 5 rfl fun c hpc=>aS rfl (c.p e1),aL 5 rfl fun c hpc=>iC rfl (c.M 6 hpc) rfl,bZ 5 7,av⟩ fun ac ag ae ab aa=> ?_);obtain ⟨e1,e2,e6⟩:=aa.k3 e1 e2 e6;have e85:=aa.V 8;replace r0:=aa.B 0;refine wp_cond_split e85 (fun hc4=> ?_) (fun hc4=> ?_)
 · have hd4:=hc4;try simp only [au,ai] at hd4
   refine wp_skip ?_;refine wp_seq ?_;refine wp_block ?_;refine xC [0,1,0,7,15,0,63,127] ab [jb r0] ⟨cK aJ cR e2 r0.ptr,fE dG 0 0 7,ao e6,aq fun c=>aX rfl aU ak (c.q 1) (hT.at ab.ext).tl.sl.sl (c.q 2) (by omega) (by omega),aq fun c=>cq (vs:=(tc (nth t.kids (j:Int)))) rfl az ak (c.q 3) rfl (fun _ _ hj=>((hT.at (ab.ext.trans c.J.ext)).tl.sl).elem (bF (i:=(j:Int)) (by omega) (by omega)) hj),ao e1,eE fun c=>⟨_,_,(ck rfl rfl Tryz.call19 (c.q 4) (c.q 5)),ih _ (bN (by omega) (by omega)) p _ ((hT.at (ab.ext.trans c.J.ext)).tl.el (by omega) (by omega)) (by omega)⟩,aK 6,av⟩ fun ac ag ae ab aa=> ?_;obtain ⟨e2,e6,e85⟩:=aa.k3 e2 e6 e85;have e1:=aa.V 7;replace r0:=aa.B 0;show _;refine fX ab [jb r0] ⟨ao e6,aq fun c=>cN rfl (c.q 0) rfl (by omega),aK 1,av⟩ fun ac ag ae ab aa=> ?_;obtain ⟨e1,e2,e85⟩:=aa.k3 e1 e2 e85;have e6:=aa.V 2;replace r0:=aa.B 0;refine ⟨⟨j+1,zv (nth t.kids (j:Int)) p,ae,?_,?_,?_,ab,(e1.trans (bB (by omega))),(e6.trans (bB (by omega))),e2,r0⟩,?_⟩
   · omega
   · exact EC _ (by omega) (by omega)
   · exact GI q2 (by omega) (by omega)
   · simp only [m6,e6,intOf];omega
 have hd4:=hc4;try simp only [bl,ah,aV,dD] at hd4
 refine wp_exit ?_;repeat (with_reducible refine cy ?_)
 refine cC ?_;refine wp_seq (eA ab [jb r0] ⟨ao e1,aK 0,av⟩ fun ac ag ae ab aa=> ?_);have e4:=aa.V 1;refine wp_ret ?_;refine rp ?_;refine cO (fn:=Tryz.f19) rfl ab.defers e4 ?_;exact ⟨congrArg _ (bB (by first | exact (zi (by assumption)).symm | exact (zj htop (k:=k) (by assumption) (by omega) (by assumption)).symm | exact (zk htop (k:=k) (m:=l) (by assumption) (by omega) q2 (by omega)).symm)),ab.ext0⟩
theorem Lx (t:Tr):∀(n:Int) (w:World),oO w t→ -1000000≤n∧n≤1000000→Calls Tryz.prog 19 #[t.v,.int .i64 n] w (fun e w'=>e= .returned (.int .i64 (zv t n))∧Ext aW w w'):=Tr.ind (P:=fun t=>∀(n:Int) (w:World),oO w t→ -1000000≤n∧n≤1000000→Calls Tryz.prog 19 #[t.v,.int .i64 n] w (fun e w'=>e= .returned (.int .i64 (zv t n))∧Ext aW w w')) Iy t
end
section
open Srt
theorem Iz {n m:Int} {rs:List (ByteArray × ByteArray)} (h:ka n rs=some m):m=n - Ah rs:=by
  induction rs generalizing n with
  | nil => simp [ka] at h; subst h; simp [Ah, dH]
  | cons r rs ih =>
    rw [ka] at h;split at h
    · cases h
    · have:=ih h;have hs:Ah (r::rs)=1+(r.1.size:Int)+(r.2.size:Int)+Ah rs:=by
        unfold Ah;rw [show r::rs=[r]++rs from rfl,aP,cu];simp [dH]
      omega
theorem Lc (t:Tr):∀n:Int,0≤zv t n→fc t≤n:=by
  have key:∀t:Tr,∀n:Int,0≤zv t n→zv t n=n - fc t:=by
    intro t;induction t using Tr.ind with
    | h t ih =>
      have hK:∀ks:List Tr,(∀k ∈ ks,k ∈ t.kids)→∀m:Int,0≤Bl ks m→Bl ks m=m - dH (ks.map fc):=by
        intro ks;induction ks with
        | nil => intro _ m _; simp [Bl, Lq, dH]
        | cons k ks ih2 =>
          intro hm m h;have hs:dH ((k::ks).map fc)=fc k+dH (ks.map fc):=by
            rw [show k::ks=[k]++ks from rfl,aP,cu];simp [dH]
          rw [tK] at h ⊢;by_cases hm0:m < 0
          · rw [if_pos hm0,zg hm0] at h;omega
          · rw [if_neg hm0] at h ⊢;have h1:=ih2 (fun x hx=>hm x (by simp [hx])) _ h;have h2:0≤zv k m:=by
              apply aV.1;intro hneg;rw [zg hneg] at h;omega
            have h3:=ih k (hm k (by simp)) m h2;omega
      intro n h;rw [wY] at h ⊢;rw [ns];split at h
      · omega
      · rename_i hc;rw [if_neg hc];split at h
        · omega
        · rename_i m hm;have h1:=Iz hm;have h2:=hK t.kids (fun _ h=>h) m h;omega
  intro n h;have:=key t n h;omega
end
section
open Go.RowKit Srt
section
variable {C:Cfg} {ps ps':Ps} {fu fu':Nat} {ou ou':Bool} {tv tv':Int} {tb:Option Nat} {Z Z' T:bj} {w w':World} {τ:Nat→bj}
end
section
variable {N:bj} {P:Program} {ops:Array Oper} {sp:List (Spec N)} {In:Nat→Ini N} {a0:Act} {w0 W:World} {bf:List Nat} {j:Nat} {o:Oper} {s:Spec N} {done:Nat→Bool} {a:Act} {w:World} {τ:Nat→bj} {C:Cfg} {q:Nat} {ps ps':Ps} {fu fu':Nat} {ou ou':Bool} {tv tv':Int} {β:Type}
end
section
variable {N:bj} {l:List Oper} {sp:List (Spec N)} {il:List (Ini N)} {a0 a:Act} {w:World} {τ:Nat→bj} {C:Cfg} {fu:Nat} {ou:Bool} {tv:Int} {β:Type}
end
section
variable {N:bj} {P:Program} {ops:Array Oper} {sp:List (Spec N)} {In:Nat→Ini N} {a0:Act} {w0 W:World} {bf:List Nat} {j:Nat} {o:Oper} {s:Spec N} {done:Nat→Bool} {a:Act} {w w':World} {τ:Nat→bj}
end
section
variable {N:bj} {l:List Oper} {sp:List (Spec N)} {il:List (Ini N)} {a0 a:Act} {w:World} {τ:Nat→bj}
end
def dI (t:Tr) (fold:Bool) (s:ByteArray) (at' fuel:Int):Mt × Int × Int:=gQ (cX t 512 16).2 (mO (aO s) at') (cn ⟨bA s,aO s,fold⟩ (cM ⟨bA s,aO s,fold⟩ t 0) (grpN t) (aO s).length (plcF (aO s) at') (clampF fuel,false))
end
section
open Go.RowKit Srt
theorem BegP.fnd {t:Tr} {s:ByteArray} {fold:Bool} {C:Cfg} {rt st it:Nat} (h:BegP t s fold C rt st it) (n k:Nat) (φ:Fl):cn C.E (bH C.E C.top) C.m n k φ=cn ⟨bA s,aO s,fold⟩ (cM ⟨bA s,aO s,fold⟩ t 0) (grpN t) n k φ:=by
  rw [tk _ _ _ _ h.lay,h.env,h.m]
end
section
open Go.RowKit
open Srt
set_option maxRecDepth 100000 in
set_option maxHeartbeats 4000000 in
theorem tL (F:bj) (t:Tr) (fold:Bool) (s:ByteArray) (at_ n:Int) (w:World) (hT:TrT F w t) (hP:fc t≤1000000) (hs:s.size≤900000):Calls Tryz.prog 46 #[(ta t),(aE fold),(bc s),(aj at_),(aj n),(.func (.func 40) #[] #[])] w (fun e w'=>∃mv:Sv,e= .returned (.tuple #[(.agg #[aj (aM (dI t fold s at_ n).1).1,aj (aM (dI t fold s at_ n).1).2,mv.v]),aj (dI t fold s at_ n).2.1,aE (dI t fold s at_ n).1.isSome,aj (dI t fold s at_ n).2.2])∧Ext aW w w'∧SlT cF w' mv.v (bJ (dI t fold s at_ n).1)∧(bJ (dI t fold s at_ n).1≠ []→w.heap.size≤(ee mv.v).block)):=by
 refine enter (n:=59) Tryz.func46 rfl rfl (aw rfl) ?_;intro a0 τ0 ha st0;have e0:be a0 0=(ta t):=ha 0 _ rfl;have e1:be a0 1=(aE fold):=ha 1 _ rfl;have e2:be a0 2=(bc s):=ha 2 _ rfl;have e3:be a0 3=(aj at_):=ha 3 _ rfl;have e4:be a0 4=(aj n):=ha 4 _ rfl;have e5:be a0 5=(.func (.func 40) #[] #[]):=ha 5 _ rfl;clear ha;have hwt:=fG t;have r8:Fz (gT (Gn F w) t) τ0 w:=TrT.inz hT st0;refine wp_seq (rg [box _ _ 1 6 (tc t),box _ _ 2 12 [(aj 0),(aj 0),(.slice none 0 0)],_,_,_] [0,0,0,4,12] st0 [jz 8 r8] ⟨hH (v:=(ta t)) rfl rfl rfl rfl rfl (fun _ _ _ _ c=>(c.p e0)),bO rfl rfl rfl rfl bI rfl,aq fun c=>ax rfl rfl,aq fun c=>ax rfl rfl,aq fun c=>ax rfl rfl,av⟩ fun ac ag ae ab aa=> ?_);obtain ⟨b1x6,e6⟩:=gx ac 6;obtain ⟨b1x12,e12⟩:=gx ac 12;obtain ⟨e1,e2,e3,e4,e5⟩:=aa.k5 e1 e2 e3 e4 e5;have e13:=aa.V 2;have e14:=aa.V 3;have e15:=aa.V 4;have r1:=aa.rb 0 e6 rfl;have r2:=aa.rb 1 e12 rfl;replace r8:=aa.z1 8;refine wp_seq ?_;refine wp_seq (fX ab [jb r1,jb r2,jz 8 r8] ⟨aq fun c=>dY rfl az ak ((c.p e6).trans r1.ptr) (c.B 1),eE fun c=>⟨_,_,(bK rfl rfl ld (c.q 0)),uQ t _ (zs (c.iz 8 rfl)) (by omega)⟩,aq fun c=>ew rfl (c.q 1),av⟩ fun ac ag ae ab aa=> ?_);obtain ⟨e1,e2,e3,e4,e5,e6,e12,e13,e14,e15⟩:=aa.k10 e1 e2 e3 e4 e5 e6 e12 e13 e14 e15;have e22:=aa.V 2;replace r1:=aa.B 1;replace r2:=aa.B 2;replace r8:=aa.z1 8;refine wp_cond_split e22 (fun hc1=> ?_) (fun hc1=> ?_)
 · try simp only [ar,am] at hc1
   refine wp_seq (xk ab [jb r1,jb r2,jz 8 r8] ⟨aq fun c=>od (cells:=#[(aj 0),(aj 0),(.slice none 0 0)]) rfl bI ni,cp (cx:=[(aj 0),(aj 0),(.slice none 0 0)]) (off:=0) bi fun c=>⟨c.bp 2 rfl e12,c.ad ((c.p e12).trans r2.ptr) e12 rfl,(c.q 0)⟩,aq fun c=>ax rfl rfl,aq fun c=>ax rfl rfl,aq fun c=>ax rfl rfl,av⟩ fun ac ag ae ab aa=> ?_);obtain ⟨e1,e2,e3,e4,e5,e6,e12⟩:=aa.k7 e1 e2 e3 e4 e5 e6 e12;have e13:=aa.V 2;have e14:=aa.V 3;have e15:=aa.V 4;replace r1:=aa.B 1;replace r2:=aa.RB 1 e12;replace r8:=aa.z1 8;refine wp_ret ?_;refine rp ?_;refine lW (fn:=Tryz.f46) rfl ab.defers e12 e13 e14 e15 r2 dB bi rfl ?_;have hF_:(dI t fold s at_ n)=(none,0,10):=by unfold dI;exact rR (by assumption)
   rw [hF_];exact ⟨Sv.nil,rfl,ab.ext0,SlT.nil _ _,fun h=>absurd rfl h⟩
 try simp only [ar,am] at hc1
 refine wp_skip ?_;refine wp_seq ?_;refine aY ?_;refine bV 5 (by kernel_rfl) ?_;refine og [_,_,_,_,Ca _ 0 28 t s fold 76 38 3 (clampF n)] [0,0,0,0,15] ab [jb r1,jb r2,jz 8 r8] ⟨aq fun c=>dY rfl az ak ((c.p e6).trans r1.ptr) (c.B 1),ao e1,ao e2,ao e4,wU fun {_ a_ _ _} c=>⟨_,_,(iM rfl rfl oI (c.q 0) (c.q 1) (c.q 2) (c.q 3)),c.beg (tag:=0) ab (tE _ t fold s n _ (c.iz 8 rfl) (by omega) (by omega))⟩,av⟩ fun ac ag ae ab aa=> ?_;obtain ⟨e3,e5,e12,e13,e14,e15⟩:=aa.k6 e3 e5 e12 e13 e14 e15;obtain ⟨C,e28,hCp,hro4,hz4⟩:=aa.bg 4 rfl;have r0:=hro4;replace r2:=aa.B 2;replace r8:=aa.z1 8;have r1:=hz4;refine bW ?_;refine og [_] [0] ab [jr r0,jz 1 r1,jb r2,jz 8 r8] ⟨oQ e28,av⟩ fun ac ag ae ab aa=> ?_;obtain ⟨e3,e5,e12,e13,e14,e15⟩:=aa.k6 e3 e5 e12 e13 e14 e15;have e16:=aa.V 0;replace r0:=aa.ir 0 rfl;obtain ⟨r1,r8⟩:=aa.z2 1 8;replace r2:=aa.B 2;refine wp_seq ?_;have hmay:(cX t 512 16).2=true:=by assumption
 have hok:OkP C.m C.top:=hCp.ok hmay (by omega);have hit:C.it=3:=hCp.tys.2.2;have hrise:=hCp.rise;have hplen:=r0.b.ok.pl;have hclen:=r0.b.ok.cl;have hcz:=pN n;refine uf [0,1,3,7,0,31,63,127,127,255,1023] ab [jr r0,jz 1 r1,jb r2,jz 8 r8] ⟨ao e16,cD 0 rfl,bS ba gI 1 rfl,aq fun c=>aI rfl ig (c.q 2) (by exact (c.ir 0 rfl).cell (j:=13) rfl),ao e3,eE fun c=>⟨_,_,(ck rfl rfl oJ (c.q 3) (c.q 4)),tC C.lv.v C.E.pl at_ _ ((c.ir 0 rfl).b.places).1 hrise (by omega)⟩,bD 5,bR 6,bR 6,aK 7,aK 8,av⟩ fun ac ag ae ab aa=> ?_;obtain ⟨e5,e12,e13,e14,e15,e16⟩:=aa.k6 e5 e12 e13 e14 e15 e16;have e17:=aa.V 9;have e18:=aa.V 10;replace r0:=aa.ir 0 rfl;obtain ⟨r1,r8⟩:=aa.z2 1 8;replace r2:=aa.B 2;refine wp_seq ?_;refine wp_seq (eA ab [jr r0,jz 1 r1,jb r2,jz 8 r8] ⟨ao e18,aq fun c=>ew rfl (c.q 0),av⟩ fun ac ag ae ab aa=> ?_);obtain ⟨e5,e12,e13,e14,e15,e16,e17,e18⟩:=aa.k8 e5 e12 e13 e14 e15 e16 e17 e18;have e39:=aa.V 1;replace r0:=aa.ir 0 rfl;obtain ⟨r1,r8⟩:=aa.z2 1 8;replace r2:=aa.B 2;refine wp_cond_split e39 (fun hc2=> ?_) (fun hc2=> ?_)
 · try simp only [ar,am] at hc2
   refine wp_seq (xk ab [jr r0,jz 1 r1,jb r2,jz 8 r8] ⟨aq fun c=>od (cells:=#[(aj 0),(aj 0),(.slice none 0 0)]) rfl bI ni,cp (cx:=[(aj 0),(aj 0),(.slice none 0 0)]) (off:=0) bi fun c=>⟨c.bp 2 rfl e12,c.ad ((c.p e12).trans r2.ptr) e12 rfl,(c.q 0)⟩,aq fun c=>ax rfl rfl,aq fun c=>ax rfl rfl,aq fun c=>ax rfl rfl,av⟩ fun ac ag ae ab aa=> ?_);obtain ⟨e5,e12,e16,e17,e18⟩:=aa.k5 e5 e12 e16 e17 e18;have e13:=aa.V 2;have e14:=aa.V 3;have e15:=aa.V 4;replace r0:=aa.ir 0 rfl;obtain ⟨r1,r8⟩:=aa.z2 1 8;replace r2:=aa.RB 1 e12;refine wp_ret ?_;refine rp ?_;refine lW (fn:=Tryz.f46) rfl ab.defers e12 e13 e14 e15 r2 dB bi rfl ?_;have hF_:(dI t fold s at_ n)=(none,0,3):=by unfold dI;exact vC hmay (by rw [←hCp.pl];assumption)
   rw [hF_];exact ⟨Sv.nil,rfl,ab.ext0,SlT.nil _ _,fun h=>absurd rfl h⟩
 try simp only [ar,am] at hc2
 refine wp_skip ?_;refine wp_seq ?_;have hlt_:=uD (by assumption:mO C.E.pl at_=true);refine aY ?_;refine bV 4 (by kernel_rfl) ?_;refine og [_,_,_,AM _ 0 45 C none (fun b:Sv × Ps=>b.2) ((cn C.E (bH C.E C.top) C.m C.E.pl.length (plcF C.E.pl at_) ((clampF n),false)).2.1) ((cn C.E (bH C.E C.top) C.m C.E.pl.length (plcF C.E.pl at_) ((clampF n),false)).2.2) 0 (fun b:Sv × Ps=> .tuple #[(.agg #[aj (aM (cn C.E (bH C.E C.top) C.m C.E.pl.length (plcF C.E.pl at_) ((clampF n),false)).1).1,aj (aM (cn C.E (bH C.E C.top) C.m C.E.pl.length (plcF C.E.pl at_) ((clampF n),false)).1).2,b.1.v]),aE (cn C.E (bH C.E C.top) C.m C.E.pl.length (plcF C.E.pl at_) ((clampF n),false)).1.isSome]) (fun _=>True) (fun b:Sv × Ps=>fb cF (Gn aW w) b.1.v (bJ (cn C.E (bH C.E C.top) C.m C.E.pl.length (plcF C.E.pl at_) ((clampF n),false)).1))] [0,0,0,7] ab [jr r0,jz 1 r1,jb r2,jz 8 r8] ⟨ao e5,ao e16,ao e17,ye (pf:=fun b:Sv × Ps=>b.2) (f:=fun b:Sv × Ps=> .tuple #[(.agg #[aj (aM (cn C.E (bH C.E C.top) C.m C.E.pl.length (plcF C.E.pl at_) ((clampF n),false)).1).1,aj (aM (cn C.E (bH C.E C.top) C.m C.E.pl.length (plcF C.E.pl at_) ((clampF n),false)).1).2,b.1.v]),aE (cn C.E (bH C.E C.top) C.m C.E.pl.length (plcF C.E.pl at_) ((clampF n),false)).1.isSome]) (Ψ:=fun _=>True) (Φ:=fun b:Sv × Ps=>fb cF (Gn aW w) b.1.v (bJ (cn C.E (bH C.E C.top) C.m C.E.pl.length (plcF C.E.pl at_) ((clampF n),false)).1)) fun {_ a_ _ _} c=>⟨_,_,(ck rfl (c.q 0) qL (c.q 1) (c.q 2)),(yY C (plcF C.E.pl at_) (List.replicate C.m ((-1:Int),(-1:Int))) (clampF n) false 0 _ (c.ir 0 rfl).dz ((c.ir 0 rfl).fz (c.iz 1 rfl)) hok hit (by omega) (by omega)).mono (fun e w' ⟨b_,he_,hx_,hr_,hs_,hn_⟩=>⟨b_,he_,hx_.mono (fun g _ hg=>(c.ir 0 rfl).td g hg),hr_.back (c.ir 0 rfl) hx_ (fun g hg=>lC g hg) (kk hx_.size),av,c.sns ab hx_.size ⟨hs_,hn_⟩⟩)⟩,av⟩ fun ac ag ae ab aa=> ?_;obtain ⟨e12,e13,e14,e15,e16,e18⟩:=aa.k6 e12 e13 e14 e15 e16 e18;obtain ⟨⟨mv1_,psmv1_⟩,e45,hro9,-,hz9⟩:=aa.zr 3 rfl;have e45:be ac 45=(.tuple #[(.agg #[(aj ((aM (cn C.E (bH C.E C.top) C.m C.E.pl.length (plcF C.E.pl at_) ((clampF n),false)).1).1)),(aj ((aM (cn C.E (bH C.E C.top) C.m C.E.pl.length (plcF C.E.pl at_) ((clampF n),false)).1).2)),mv1_.v]),(aE ((cn C.E (bH C.E C.top) C.m C.E.pl.length (plcF C.E.pl at_) ((clampF n),false)).1.isSome))]):=e45;replace r0:=hro9;obtain ⟨r1,r8⟩:=aa.z2 1 8;replace r2:=aa.B 2;have r3:=hz9;refine bW ?_;refine og [_,_,_,box _ _ 4 19 [(aj 0),(aj 0),(.slice none 0 0)],_,_] [0,1,3,7,15,31] ab [jr r0,jz 1 r1,jb r2,jz 3 r3,jz 8 r8] ⟨ao e45,bR 0,bR 0,bO rfl rfl rfl rfl bI rfl,ey (cx:=[(aj ((aM (cn C.E (bH C.E C.top) C.m C.E.pl.length (plcF C.E.pl at_) ((clampF n),false)).1).1)),(aj ((aM (cn C.E (bH C.E C.top) C.m C.E.pl.length (plcF C.E.pl at_) ((clampF n),false)).1).2)),mv1_.v]) (off:=0) rfl bi fun c=>⟨c.rb 3 rfl,(c.rb 3 rfl).ptr,(c.q 1)⟩,aK 2,av⟩ fun ac ag ae ab aa=> ?_;obtain ⟨b10x19,e19⟩:=gx ac 19;obtain ⟨e12,e13,e14,e15,e16⟩:=aa.k5 e12 e13 e14 e15 e16;have e18:=aa.V 5;replace r0:=aa.ir 0 rfl;obtain ⟨r1,r3⟩:=aa.z2 1 3;replace r2:=aa.B 2;have r4:=aa.rb 4 e19 rfl;replace r8:=aa.z1 8;refine wp_seq ?_;refine wp_seq (xi ab [jr r0,jz 1 r1,jb r2,jz 3 r3,jb r4,jz 8 r8] ⟨ao e16,cD 0 rfl,bS ba cj 1 rfl,aq fun c=>aI rfl dS (c.q 2) (by exact (c.ir 0 rfl).cell (j:=16) rfl),av⟩ fun ac ag ae ab aa=> ?_);obtain ⟨e12,e13,e14,e15,e16,e18,e19⟩:=aa.k7 e12 e13 e14 e15 e16 e18 e19;have e51:=aa.V 3;replace r0:=aa.ir 0 rfl;obtain ⟨r1,r3,r8⟩:=aa.z3 1 3 8;replace r2:=aa.B 2;replace r4:=aa.B 4;refine wp_cond_split e51 (fun hc3=> ?_) (fun hc3=> ?_)
 · skip;refine wp_seq (xk ab [jr r0,jz 1 r1,jb r2,jz 3 r3,jb r4,jz 8 r8] ⟨aq fun c=>od (cells:=#[(aj 0),(aj 0),(.slice none 0 0)]) rfl bI ni,cp (cx:=[(aj 0),(aj 0),(.slice none 0 0)]) (off:=0) bi fun c=>⟨c.bp 2 rfl e12,c.ad ((c.p e12).trans r2.ptr) e12 rfl,(c.q 0)⟩,aq fun c=>ax rfl rfl,aq fun c=>ax rfl rfl,aq fun c=>ax rfl rfl,av⟩ fun ac ag ae ab aa=> ?_);obtain ⟨e12,e16,e18,e19⟩:=aa.k4 e12 e16 e18 e19;have e13:=aa.V 2;have e14:=aa.V 3;have e15:=aa.V 4;replace r0:=aa.ir 0 rfl;obtain ⟨r1,r3,r8⟩:=aa.z3 1 3 8;replace r2:=aa.RB 1 e12;replace r4:=aa.B 4;refine wp_ret ?_;refine rp ?_;refine lW (fn:=Tryz.f46) rfl ab.defers e12 e13 e14 e15 r2 dB bi rfl ?_;have hF_:(dI t fold s at_ n)=(none,0,9):=by unfold dI;rw [←hCp.fnd _,←hCp.pl];exact km hmay (by assumption) (by assumption)
   rw [hF_];exact ⟨Sv.nil,rfl,ab.ext0,SlT.nil _ _,fun h=>absurd rfl h⟩
 skip;refine wp_skip ?_;refine wp_seq (mG [0,0,2,6,14,0,1,95,255,511] ab [jr r0,jz 1 r1,jb r2,jz 3 r3,jb r4,jz 8 r8] ⟨aq fun c=>dY rfl dB bi ((c.p e19).trans r4.ptr) (c.B 4),ao e16,cD 1 rfl,bS ba aA 2 rfl,aq fun c=>aI rfl aN (c.q 3) (by exact (c.ir 0 rfl).cell (j:=15) rfl),ao e18,cp (cx:=[(aj ((aM (cn C.E (bH C.E C.top) C.m C.E.pl.length (plcF C.E.pl at_) ((clampF n),false)).1).1)),(aj ((aM (cn C.E (bH C.E C.top) C.m C.E.pl.length (plcF C.E.pl at_) ((clampF n),false)).1).2)),mv1_.v]) (off:=0) bi fun c=>⟨c.bp 2 rfl e12,c.ad ((c.p e12).trans r2.ptr) e12 rfl,(c.q 0)⟩,aK 4,aK 5,aq fun c=>ax rfl rfl,av⟩ fun ac ag ae ab aa=> ?_);replace e12:=aa.k1 e12;have e13:=aa.V 7;have e14:=aa.V 8;have e15:=aa.V 9;replace r0:=aa.ir 0 rfl;obtain ⟨r1,r3,r8⟩:=aa.z3 1 3 8;replace r2:=aa.RB 6 e12;refine wp_ret ?_;refine rp ?_;refine lW (fn:=Tryz.f46) rfl ab.defers e12 e13 e14 e15 r2 dB bi rfl ?_;have hF_:(dI t fold s at_ n)=((cn C.E (bH C.E C.top) C.m C.E.pl.length (plcF C.E.pl at_) (clampF n,false)).1,((cn C.E (bH C.E C.top) C.m C.E.pl.length (plcF C.E.pl at_) (clampF n,false)).2.1:Int),0):=by unfold dI;rw [←hCp.fnd _,←hCp.pl];exact fm hmay (by assumption) (by assumption)
 rw [hF_];exact ⟨mv1_,rfl,ab.ext0,r3.1,fun hn=>(r3.2 hn).2.resolve_left (fun h=>h.elim)⟩
end
section
open Go.RowKit
open Srt
set_option maxRecDepth 100000 in
theorem pO (F:bj) (t:Tr) (fold:Bool) (s:ByteArray) (at_ n:Int) (w:World) (hT:TrT F w t) (hP:fc t≤1000000) (hs:s.size≤900000):Calls Tryz.prog 23 #[(ta t),(aE fold),(bc s),(aj at_),(aj n)] w (fun e w'=>∃mv:Sv,e= .returned (.tuple #[(.agg #[aj (aM (dI t fold s at_ n).1).1,aj (aM (dI t fold s at_ n).1).2,mv.v]),aj (dI t fold s at_ n).2.1,aE (dI t fold s at_ n).1.isSome,aj (dI t fold s at_ n).2.2])∧Ext aW w w'∧SlT cF w' mv.v (bJ (dI t fold s at_ n).1)∧(bJ (dI t fold s at_ n).1≠ []→w.heap.size≤(ee mv.v).block)):=by
 refine enter (n:=24) Tryz.func23 rfl rfl (aw rfl) ?_;intro a0 τ0 ha st0;have e0:be a0 0=(ta t):=ha 0 _ rfl;have e1:be a0 1=(aE fold):=ha 1 _ rfl;have e2:be a0 2=(bc s):=ha 2 _ rfl;have e3:be a0 3=(aj at_):=ha 3 _ rfl;have e4:be a0 4=(aj n):=ha 4 _ rfl;clear ha;have r8:Fz (gT (Gn F w) t) τ0 w:=TrT.inz hT st0;refine wp_seq (rg [box _ _ 0 5 (tc t),box _ _ 1 10 [(aj 0),(aj 0),(.slice none 0 0)],_,_,_] [0,0,0,4,12] st0 [jz 8 r8] ⟨hH (v:=(ta t)) rfl rfl rfl rfl rfl (fun _ _ _ _ c=>(c.p e0)),bO rfl rfl rfl rfl bI rfl,aq fun c=>ax rfl rfl,aq fun c=>ax rfl rfl,aq fun c=>ax rfl rfl,av⟩ fun ac ag ae ab aa=> ?_);obtain ⟨b1x5,e5⟩:=gx ac 5;obtain ⟨b1x10,e10⟩:=gx ac 10;obtain ⟨e1,e2,e3,e4⟩:=aa.k4 e1 e2 e3 e4;have e11:=aa.V 2;have e12:=aa.V 3;have e13:=aa.V 4;have r0:=aa.rb 0 e5 rfl;have r1:=aa.rb 1 e10 rfl;replace r8:=aa.z1 8;refine wp_seq ?_;refine aY ?_;refine bV 6 (by kernel_rfl) ?_;refine og [_,_,_,_,_,gE _ 19 (fun b:Sv=> .tuple #[(.agg #[aj (aM (dI t fold s at_ n).1).1,aj (aM (dI t fold s at_ n).1).2,b.v]),aj (dI t fold s at_ n).2.1,aE (dI t fold s at_ n).1.isSome,aj (dI t fold s at_ n).2.2]) (fun _=>True) (fun b:Sv=>fb cF (Gn aW w) b.v (bJ (dI t fold s at_ n).1))] [0,0,0,0,0,31] ab [jb r0,jb r1,jz 8 r8] ⟨aq fun c=>dY rfl az ak ((c.p e5).trans r0.ptr) (c.B 0),ao e1,ao e2,ao e3,ao e4,eT (f:=fun b:Sv=> .tuple #[(.agg #[aj (aM (dI t fold s at_ n).1).1,aj (aM (dI t fold s at_ n).1).2,b.v]),aj (dI t fold s at_ n).2.1,aE (dI t fold s at_ n).1.isSome,aj (dI t fold s at_ n).2.2]) (Ψ:=fun _=>True) (Φ:=fun b:Sv=>fb cF (Gn aW w) b.v (bJ (dI t fold s at_ n).1)) fun {_ a_ _ _} c=>⟨_,_,(vD rfl rfl qK (c.q 0) (c.q 1) (c.q 2) (c.q 3) (c.q 4) rfl),(tL _ t fold s at_ n _ (c.iz 8 rfl) (by omega) (by omega)).mono (fun e w' ⟨b_,he_,hx_,hs_,hn_⟩=>⟨b_,he_,hx_,av,c.sns ab hx_.size ⟨hs_,hn_⟩⟩)⟩,av⟩ fun ac ag ae ab aa=> ?_;obtain ⟨e10,e11,e12,e13⟩:=aa.k4 e10 e11 e12 e13;obtain ⟨mv1_,e19,-,hz2⟩:=aa.zd 5 rfl;have e19:be ac 19=(.tuple #[(.agg #[(aj ((aM (dI t fold s at_ n).1).1)),(aj ((aM (dI t fold s at_ n).1).2)),mv1_.v]),(aj ((dI t fold s at_ n).2.1)),(aE ((dI t fold s at_ n).1.isSome)),(aj ((dI t fold s at_ n).2.2))]):=e19;replace r1:=aa.B 1;replace r8:=aa.z1 8;have r0:=hz2;refine bW ?_;refine og [_,_,_,_,_,_,_,_] [0,1,3,7,15,31,63,127] ab [jz 0 r0,jb r1,jz 8 r8] ⟨jG e19,jG e19,jG e19,jG e19,cp (cx:=[(aj ((aM (dI t fold s at_ n).1).1)),(aj ((aM (dI t fold s at_ n).1).2)),mv1_.v]) (off:=0) bi fun c=>⟨c.bp 1 rfl e10,c.ad ((c.p e10).trans r1.ptr) e10 rfl,(c.q 0)⟩,aK 1,aK 2,aK 3,av⟩ fun ac ag ae ab aa=> ?_;replace e10:=aa.k1 e10;have e11:=aa.V 5;have e12:=aa.V 6;have e13:=aa.V 7;obtain ⟨r0,r8⟩:=aa.z2 0 8;replace r1:=aa.RB 4 e10;refine wp_ret ?_;refine rp ?_;refine lW (fn:=Tryz.f23) rfl ab.defers e10 e11 e12 e13 r1 dB bi rfl ?_;exact ⟨mv1_,rfl,ab.ext0,r0.1,fun hn=>(r0.2 hn).2.resolve_left (fun h=>h.elim)⟩
end
section
open Go.RowKit Srt
section
variable {t:Tr} {fold:Bool} {s:ByteArray} {k u v:Int}
theorem AV (n:Int):clampF (max (min n 20000) 0)=clampF n:=by unfold clampF;congr 1;omega
end
section
variable {t:Tr} {fold:Bool} {s:ByteArray} {k u v:Int} {x y z:Mt × Int × Int}
theorem Ld (hq:x=dL t fold s k u) (h:(cX t 512 16).2=false):x=(none,0,10):=by subst hq;exact rR h
theorem Le (hq:x=dI t fold s k u) (h:(cX t 512 16).2=false):x=(none,0,10):=by subst hq;exact rR h
theorem AW (hq:x=dL t fold s k u) (hy:y=dL t fold s k (max (min u 20000) 0)):y=x:=by subst hq;subst hy;unfold dL;rw [AV]
end
section
variable {x z:Mt × Int × Int} {n:Nat} {g1 g2:Int}
end
end
section
open Go.ChangeShapes Go.WideShapes Go.ChangeAt Go.RowKit
section
variable {P:Program} {W:World} {H:Type} {enc:TypeId × Value→H} {base:Nat} {spare:Nat→Bool} {held:Bool}
theorem Ji {α:Type} [Inhabited α] {E:Enc α} {t e:TypeId} (ht:P.underlying t=some (.slice e)) (hC:P.cellsOf e=E.sz) {Q:α→Prop} {fuel:Nat} {cs:List Value} {y:DataW H × List MemPlace}
    (hE:∀n < fuel,∀cs y,DataW.trod enc P W base spare held n e cs=some y→∃x:α,cs=E.cells x∧Q x) (h:DataW.trod enc P W base spare held fuel t cs=some y):∃(s:Sv) (xs:List α),cs=[s.v]∧SlT E W s.v xs∧∀x ∈ xs,Q x:=by
  rcases DataW.trod_slice ht h with ⟨rfl,_⟩ | ⟨a,len,cap,elems,rest,n,hn,rfl,_,hb,hl,hm,hlen,hel,_,_⟩
  · exact ⟨Sv.nil,[],rfl,SlT.nil _ _,fun x hx=>by cases hx⟩
  · have each:∀i,i < len→∃x:α,W.cells? base (a.add (i * P.cellsOf e)) (P.cellsOf e)=some (E.cells x)∧Q x:=by
      intro i hi;have key:=hel i hi;rw [cd (by omega)] at key;obtain ⟨cs',h1,h2⟩:=Option.bind_eq_some_iff.1 key;obtain ⟨x,rfl,hq⟩:=hE n (by omega) _ _ h2;exact ⟨x,h1,hq⟩
    obtain ⟨X,hX⟩:=Deep.choose_lt each;refine ⟨⟨some a,len,cap⟩,(List.range len).map X,rfl,⟨.inr ⟨a,cap,by simp [Sv.v],by simpa using hl,hm⟩,fun j u hj=> ?_⟩,fun x hx=> ?_⟩
    · have hlen2:j < len * E.sz:=by
        have:=(List.getElem?_eq_some_iff.1 hj).1;rw [E.row_length] at this
        simpa using this
      have hi:j / E.sz < len:=Nat.div_lt_of_lt_mul (by rw [Nat.mul_comm];exact hlen2)
      have hr:j % E.sz < E.sz:=Nat.mod_lt _ E.pos
      have hj':j=j / E.sz * E.sz+j % E.sz:=by rw [Nat.mul_comm];exact (Nat.div_add_mod j E.sz).symm
      have hx':((List.range len).map X)[j / E.sz]? =some (X (j / E.sz)):=by simp [hi]
      rw [hj',E.row_get hx' hr] at hj;obtain ⟨_,_,hc⟩:=World.cells?_some (hX _ hi).1;rw [hC] at hc;have:=hc (j % E.sz) hr;rw [hj] at this
      rw [hj',←add_add];exact this
    · obtain ⟨i,hi,rfl⟩:=List.mem_map.1 hx;exact (hX i (by simpa using hi)).2
theorem Jj {α:Type} {cs:List α} (h:cs.length=8):∃c0 c1 c2 c3 c4 c5 c6 c7,cs=[c0,c1,c2,c3,c4,c5,c6,c7]:=by
  match cs,h with
  | [c0, c1, c2, c3, c4, c5, c6, c7], _ => exact ⟨c0, c1, c2, c3, c4, c5, c6, c7, rfl⟩
structure IsTree (P:Program) (t:TypeId):Prop where
  ex:∃ti ts tb tr er:TypeId,∃f0 f1 f2 f3 f4 f5 f6 f7:Field,P.underlying t=some (.struct #[f0,f1,f2,f3,f4,f5,f6,f7])∧
    (f0.offset=0∧f1.offset=1∧f2.offset=2∧f3.offset=3∧f4.offset=4∧f5.offset=5∧f6.offset=6∧f7.offset=7)∧
    (f0.type=ti∧f1.type=ts∧f2.type=tb∧f3.type=tr∧f4.type=ti∧f5.type=ti∧f6.type=tb)∧
    (P.cellsOf ti=1∧P.cellsOf ts=1∧P.cellsOf tb=1∧P.cellsOf tr=1∧P.cellsOf f7.type=1)∧
    P.underlying ti=some (.int .i64)∧P.underlying ts=some .string∧P.underlying tb=some .bool∧P.underlying tr=some (.slice er)∧P.cellsOf er=2∧GH P er fx∧P.underlying f7.type=some (.slice t)∧P.cellsOf t=8
theorem IA {t:TypeId} (ht:IsTree P t):∀(m fuel:Nat),fuel≤m→∀(cs:List Value) (y:DataW H × List MemPlace),DataW.trod enc P W base spare held fuel t cs=some y→∃tr:Tr,cs=lY.cells tr∧oO W tr:=by
  obtain ⟨ti,ts,tb,tr,er,f0,f1,f2,f3,f4,f5,f6,f7,hu,⟨o0,o1,o2,o3,o4,o5,o6,o7⟩,⟨g0,g1,g2,g3,g4,g5,g6⟩,⟨c0,c1,c2,c3,c7⟩,ui,us,ub,ur,cer,hR,u7,ct⟩:=ht.ex;intro m;induction m with
  | zero =>
    intro fuel hf cs y h;obtain rfl:fuel=0:=by omega
    simp [DataW.trod] at h
  | succ m ih =>
    intro fuel hf cs y h;obtain ⟨xs,n,hn,_,hl,hlen,hfl⟩:=DataW.trod_struct hu h;rw [ct] at hl;obtain ⟨v0,v1,v2,v3,v4,v5,v6,v7,rfl⟩:=Jj hl;obtain ⟨y0,y1,y2,y3,y4,y5,y6,y7,rfl⟩:=Jj (show xs.length=8 by simpa using hlen);have h0:=hfl 0 f0 rfl;have h1:=hfl 1 f1 rfl;have h2:=hfl 2 f2 rfl;have h3:=hfl 3 f3 rfl;have h4:=hfl 4 f4 rfl;have h5:=hfl 5 f5 rfl;have h6:=hfl 6 f6 rfl;have h7:=hfl 7 f7 rfl;rw [o0,g0,c0] at h0;rw [o1,g1,c1] at h1;rw [o2,g2,c2] at h2;rw [o3,g3,c3] at h3;rw [o4,g4,c0] at h4;rw [o5,g5,c0] at h5;rw [o6,g6,c2] at h6;rw [o7,c7] at h7;simp at h0 h1 h2 h3 h4 h5 h6 h7;obtain ⟨k,hk,_⟩:=DataW.trod_int ui h0;obtain ⟨s,hs,_⟩:=DataW.trod_string us h1;obtain ⟨b,hb,_⟩:=DataW.trod_bool ub h2;obtain ⟨mn,hmn,_⟩:=DataW.trod_int ui h4;obtain ⟨mx,hmx,_⟩:=DataW.trod_int ui h5;obtain ⟨lz,hlz,_⟩:=DataW.trod_bool ub h6;obtain ⟨rv,rows,hrv,hrs,_⟩:=Ji (E:=fx) (Q:=fun _=>True) ur cer (fun n _ cs y hh=>by obtain ⟨x,hx⟩:=hR _ _ _ _ _ _ _ _ _ hh;exact ⟨x,hx,av⟩) h3;obtain ⟨kv,kids,hkv,hks,hall⟩:=Ji (E:=lY) (Q:=fun x=>oO W x) u7 ct (fun n' hn' cs y hh=>ih n' (by omega) cs y hh) h7;refine ⟨⟨k,s,b,rv,rows,mn,mx,lz,kv,kids⟩,?_,.mk hrs (fun hn=>hrs.lt hn) hks (fun hn=>hks.lt hn) hall⟩;simp at hk hs hb hmn hmx hlz hrv hkv;subst hk hs hb hmn hmx hlz hrv hkv;rfl
theorem ED {t:TypeId} (ht:IsTree P t) {r:Reach} {b0:Nat} {v:Value} {d:DataW H} {p:List MemPlace} (hv:Value.okWide P W r b0 t v) (h:DataW.Trod enc P W base spare held t v d p):∃tr:Tr,v=tr.v∧oO W tr:=by
  have hu:∃fs,P.underlying t=some (.struct fs):=by
    obtain ⟨ti,ts,tb,tr,er,f0,f1,f2,f3,f4,f5,f6,f7,hu,_⟩:=ht.ex;exact ⟨_,hu⟩
  obtain ⟨fs,hu⟩:=hu;obtain ⟨cs,rfl,_⟩:=okWide_struct hu hv;obtain ⟨fuel,hf⟩:=h;obtain ⟨tr,hc,hT⟩:=IA ht fuel fuel (bz _) _ _ hf;refine ⟨tr,?_,hT⟩;unfold Tr.v;congr 1;exact Array.ext' hc
end
end
section
open Go.RowKit
open Srt
set_option maxRecDepth 100000 in
set_option maxHeartbeats 4000000 in
theorem Ck (t:Tr) (p s:ByteArray) (a n:Int) (w:World) (hT:oO w t):Calls Tryz.prog 8 #[(ta t),(bc p),(bc s),(aj a),(aj n)] w (fun e w'=>e= .returned (aE true)∧Ext aW w w'):=by
 refine enter (n:=166) Tryz.func8 rfl rfl (aw rfl) ?_;intro a0 τ0 ha st0;have e0:be a0 0=(ta t):=ha 0 _ rfl;have e1:be a0 1=(bc p):=ha 1 _ rfl;have e2:be a0 2=(bc s):=ha 2 _ rfl;have e3:be a0 3=(aj a):=ha 3 _ rfl;have e4:be a0 4=(aj n):=ha 4 _ rfl;clear ha;have r8:Fz (gT (Gn (fun g=>g < w.heap.size) w) t) τ0 w:=TrT.inz hT st0;refine wp_seq (rg [box _ _ 0 5 (tc t),_] [0,0] st0 [jz 8 r8] ⟨hH (v:=(ta t)) rfl rfl rfl rfl rfl (fun _ _ _ _ c=>(c.p e0)),aq fun c=>ax rfl rfl,av⟩ fun ac ag ae ab aa=> ?_);obtain ⟨b1x5,e5⟩:=gx ac 5;obtain ⟨e1,e2,e3,e4⟩:=aa.k4 e1 e2 e3 e4;have e10:=aa.V 1;have r0:=aa.rb 0 e5 rfl;replace r8:=aa.z1 8;refine wp_seq ?_;refine wp_seq (rg [_,_,_,_,_,_,_,_,_,_,_,_,_] [0,1,3,7,15,31,63,127,255,511,1023,2047,4095] ab [jb r0,jz 8 r8] ⟨aq fun c=>dY rfl az ak ((c.p e5).trans r0.ptr) (c.B 0),eE fun c=>⟨_,_,(ck rfl rfl Tryz.call19 (c.q 0) rfl),Lx t 50 _ (zs (c.iz 8 rfl)) (by omega)⟩,aq fun c=>cW rfl (c.q 1) rfl,bD 2,bm 3 rfl fun c hpc=>aS rfl (c.p e1),bm 3 rfl fun c hpc=>fA rfl aZ (c.M 4 hpc),bm 3 rfl fun c hpc=>ii rfl (c.M 5 hpc) rfl,dm 3 6,bD 7,bm 8 rfl fun c hpc=>aS rfl (c.p e2),bm 8 rfl fun c hpc=>fA rfl aZ (c.M 9 hpc),bm 8 rfl fun c hpc=>ii rfl (c.M 10 hpc) rfl,dm 8 11,av⟩ fun ac ag ae ab aa=> ?_);obtain ⟨e1,e2,e3,e4,e5,e10⟩:=aa.k6 e1 e2 e3 e4 e5 e10;have e44:=aa.V 12;replace r0:=aa.B 0;replace r8:=aa.z1 8;refine wp_cond_split e44 (fun hc1=> ?_) (fun hc1=> ?_)
 · try simp only [aR,ai] at hc1
   refine wp_seq (eA ab [jb r0,jz 8 r8] ⟨eE fun c=>⟨_,_,(fN rfl rfl dN),fO _⟩,aK 0,av⟩ fun ac ag ae ab aa=> ?_);obtain ⟨e1,e2,e3,e4,e5⟩:=aa.k5 e1 e2 e3 e4 e5;have e10:=aa.V 1;replace r0:=aa.B 0;replace r8:=aa.z1 8;refine wp_ret ?_;refine rp ?_;refine cO (fn:=Tryz.f8) rfl ab.defers e10 ?_;refine ⟨congrArg _ (congrArg _ ?_),ab.ext0⟩;rfl
 try simp only [aG,ah,aV] at hc1
 refine wp_skip ?_;refine wp_seq ?_;refine wp_seq ?_;have hP:=Lc t 50 (by omega);refine fX ab [jb r0,jz 8 r8] ⟨aq fun c=>dY rfl az ak ((c.p e5).trans r0.ptr) (c.B 0),eE fun c=>⟨_,_,(bK rfl rfl ld (c.q 0)),uQ t _ (zs (c.iz 8 rfl)) (by omega)⟩,aq fun c=>ew rfl (c.q 1),av⟩ fun ac ag ae ab aa=> ?_;obtain ⟨e1,e2,e3,e4,e5,e10⟩:=aa.k6 e1 e2 e3 e4 e5 e10;have e48:=aa.V 2;replace r0:=aa.B 0;replace r8:=aa.z1 8;refine wp_cond_split e48 (fun hc2=> ?_) (fun hc2=> ?_)
 · try simp only [ar,am] at hc2
   refine wp_seq ?_;refine aY ?_;refine bV 5 (by kernel_rfl) ?_;refine og [_,_,_,_,gE _ 54 (fun b:Sv × (Mt × Int × Int)=> .tuple #[(.agg #[aj (aM b.2.1).1,aj (aM b.2.1).2,b.1.v]),aj b.2.2.1,aE b.2.1.isSome,aj b.2.2.2]) (fun b:Sv × (Mt × Int × Int)=>b.2=dL t false s a n) (fun b:Sv × (Mt × Int × Int)=>fb cF (Gn (fun g=>g < w.heap.size) w) b.1.v (bJ b.2.1))] [0,0,0,0,15] ab [jb r0,jz 8 r8] ⟨aq fun c=>dY rfl az ak ((c.p e5).trans r0.ptr) (c.B 0),ao e2,ao e3,ao e4,eT (f:=fun b:Sv × (Mt × Int × Int)=> .tuple #[(.agg #[aj (aM b.2.1).1,aj (aM b.2.1).2,b.1.v]),aj b.2.2.1,aE b.2.1.isSome,aj b.2.2.2]) (Ψ:=fun b:Sv × (Mt × Int × Int)=>b.2=dL t false s a n) (Φ:=fun b:Sv × (Mt × Int × Int)=>fb cF (Gn (fun g=>g < w.heap.size) w) b.1.v (bJ b.2.1)) fun {_ a_ _ _} c=>⟨_,_,(eC rfl rfl fL (c.q 0) rfl (c.q 1) (c.q 2) (c.q 3)),(kH _ t false s a n _ (c.iz 8 rfl) (by omega) (by omega)).mono (fun e w' ⟨b_,he_,hx_,hs_,hn_⟩=>⟨⟨b_,_⟩,he_,hx_,rfl,c.sns ab hx_.size ⟨hs_,hn_⟩⟩)⟩,av⟩ fun ac ag ae ab aa=> ?_;obtain ⟨e1,e2,e3,e4,e5,e10⟩:=aa.k6 e1 e2 e3 e4 e5 e10;obtain ⟨⟨mv1_,at1_⟩,e54,hqat1_,hz5⟩:=aa.zd 4 rfl;have e54:be ac 54=(.tuple #[(.agg #[(aj ((aM at1_.1).1)),(aj ((aM at1_.1).2)),mv1_.v]),(aj at1_.2.1),(aE at1_.1.isSome),(aj at1_.2.2)]):=e54;have hqat1_:at1_=dL t false s a n:=hqat1_;replace r0:=aa.B 0;replace r8:=aa.z1 8;have r1:=hz5;refine bW ?_;refine og [_,_,_,_,_,box _ _ 2 11 [(aj 0),(aj 0),(.slice none 0 0)],_,_,_,_] [0,1,3,7,15,31,63,127,255,511] ab [jb r0,jz 1 r1,jz 8 r8] ⟨ao e54,bR 0,bR 0,bR 0,bR 0,bO rfl rfl rfl rfl bI rfl,ey (cx:=[(aj ((aM at1_.1).1)),(aj ((aM at1_.1).2)),mv1_.v]) (off:=0) rfl bi fun c=>⟨c.rb 5 rfl,(c.rb 5 rfl).ptr,(c.q 1)⟩,aK 2,aK 3,aK 4,av⟩ fun ac ag ae ab aa=> ?_;obtain ⟨b6x11,e11⟩:=gx ac 11;obtain ⟨e1,e2,e3,e4,e5,e10⟩:=aa.k6 e1 e2 e3 e4 e5 e10;have e12:=aa.V 7;have e14:=aa.V 9;replace r0:=aa.B 0;obtain ⟨r1,r8⟩:=aa.z2 1 8;refine wp_seq ?_;refine aY ?_;refine bV 5 (by kernel_rfl) ?_;refine og [_,_,_,_,gE _ 64 (fun b:Sv × (Mt × Int × Int)=> .tuple #[(.agg #[aj (aM b.2.1).1,aj (aM b.2.1).2,b.1.v]),aj b.2.2.1,aE b.2.1.isSome,aj b.2.2.2]) (fun b:Sv × (Mt × Int × Int)=>b.2=dI t true s a n) (fun b:Sv × (Mt × Int × Int)=>fb cF (Gn (fun g=>g < w.heap.size) w) b.1.v (bJ b.2.1))] [0,0,0,0,15] ab [jb r0,jz 8 r8] ⟨aq fun c=>dY rfl az ak ((c.p e5).trans r0.ptr) (c.B 0),ao e2,ao e3,ao e4,eT (f:=fun b:Sv × (Mt × Int × Int)=> .tuple #[(.agg #[aj (aM b.2.1).1,aj (aM b.2.1).2,b.1.v]),aj b.2.2.1,aE b.2.1.isSome,aj b.2.2.2]) (Ψ:=fun b:Sv × (Mt × Int × Int)=>b.2=dI t true s a n) (Φ:=fun b:Sv × (Mt × Int × Int)=>fb cF (Gn (fun g=>g < w.heap.size) w) b.1.v (bJ b.2.1)) fun {_ a_ _ _} c=>⟨_,_,(eC rfl rfl qM (c.q 0) rfl (c.q 1) (c.q 2) (c.q 3)),(pO _ t true s a n _ (c.iz 8 rfl) (by omega) (by omega)).mono (fun e w' ⟨b_,he_,hx_,hs_,hn_⟩=>⟨⟨b_,_⟩,he_,hx_,rfl,c.sns ab hx_.size ⟨hs_,hn_⟩⟩)⟩,av⟩ fun ac ag ae ab aa=> ?_;obtain ⟨e1,e2,e3,e4,e5,e10,e12,e14⟩:=aa.k8 e1 e2 e3 e4 e5 e10 e12 e14;obtain ⟨⟨mv2_,at2_⟩,e64,hqat2_,hz7⟩:=aa.zd 4 rfl;have e64:be ac 64=(.tuple #[(.agg #[(aj ((aM at2_.1).1)),(aj ((aM at2_.1).2)),mv2_.v]),(aj at2_.2.1),(aE at2_.1.isSome),(aj at2_.2.2)]):=e64;have hqat2_:at2_=dI t true s a n:=hqat2_;replace r0:=aa.B 0;replace r8:=aa.z1 8;have r1:=hz7;refine bW ?_;refine og [_,_,_,_,_,box _ _ 2 15 [(aj 0),(aj 0),(.slice none 0 0)],_,_,_,_] [0,1,3,7,15,31,63,127,255,511] ab [jb r0,jz 1 r1,jz 8 r8] ⟨ao e64,bR 0,bR 0,bR 0,bR 0,bO rfl rfl rfl rfl bI rfl,ey (cx:=[(aj ((aM at2_.1).1)),(aj ((aM at2_.1).2)),mv2_.v]) (off:=0) rfl bi fun c=>⟨c.rb 5 rfl,(c.rb 5 rfl).ptr,(c.q 1)⟩,aK 2,aK 3,aK 4,av⟩ fun ac ag ae ab aa=> ?_;obtain ⟨b8x15,e15⟩:=gx ac 15;obtain ⟨e1,e2,e3,e4,e5,e10,e12,e14⟩:=aa.k8 e1 e2 e3 e4 e5 e10 e12 e14;have e16:=aa.V 7;have e18:=aa.V 9;replace r0:=aa.B 0;obtain ⟨r1,r8⟩:=aa.z2 1 8;refine wp_seq ?_;refine aY ?_;refine bV 4 (by kernel_rfl) ?_;refine og [_,_,_,gE _ 73 (fun b:Sv × List Mv=> .tuple #[b.1.v,aj (ie t false s n).2.1,aj (ie t false s n).2.2]) (fun b:Sv × List Mv=>b.2.map Mv.er=(ie t false s n).1) (fun b:Sv × List Mv=>(fb Dr (Gn (fun g=>g < w.heap.size) w) b.1.v b.2).and (Bk (Gn (fun g=>g < w.heap.size) w) b.2))] [0,0,0,7] ab [jb r0,jz 8 r8] ⟨aq fun c=>dY rfl az ak ((c.p e5).trans r0.ptr) (c.B 0),ao e2,ao e4,eT (f:=fun b:Sv × List Mv=> .tuple #[b.1.v,aj (ie t false s n).2.1,aj (ie t false s n).2.2]) (Ψ:=fun b:Sv × List Mv=>b.2.map Mv.er=(ie t false s n).1) (Φ:=fun b:Sv × List Mv=>(fb Dr (Gn (fun g=>g < w.heap.size) w) b.1.v b.2).and (Bk (Gn (fun g=>g < w.heap.size) w) b.2)) fun {_ a_ _ _} c=>⟨_,_,(iM rfl rfl Tryz.call16 (c.q 0) rfl (c.q 1) (c.q 2)),(yZ _ t false s n _ (c.iz 8 rfl) (by omega) (by omega)).mono (fun e w' h_=>Ci h_ (fun g hg hl=>c.gz (F:=(fun g=>g < w.heap.size)) (c.hW ab) (by obtain ⟨_,_,_,hx_,_⟩:=h_;exact hx_.size) g (.inr hg) hl))⟩,av⟩ fun ac ag ae ab aa=> ?_;obtain ⟨e1,e2,e3,e4,e10,e12,e14,e16,e18⟩:=aa.k9 e1 e2 e3 e4 e10 e12 e14 e16 e18;obtain ⟨⟨av3_,msav3_⟩,e73,hqav3_,hz9⟩:=aa.zd 3 rfl;have e73:be ac 73=(.tuple #[av3_.v,(aj ((ie t false s n).2.1)),(aj ((ie t false s n).2.2))]):=e73;replace r8:=aa.z1 8;have r0:Fz (fb Dr (Gn (fun g=>g < w.heap.size) w) av3_.v msav3_) ae ag:=hz9.1;have r1:Fz (Bk (Gn (fun g=>g < w.heap.size) w) msav3_) ae ag:=hz9.2;refine bW ?_;refine og [_,_,_,_,_,_,_] [0,1,3,7,15,31,63] ab [jz 0 r0,jz 1 r1,jz 8 r8] ⟨ao e73,bR 0,bR 0,bR 0,aK 1,aK 2,aK 3,av⟩ fun ac ag ae ab aa=> ?_;obtain ⟨e1,e2,e3,e4,e10,e12,e14,e16,e18⟩:=aa.k9 e1 e2 e3 e4 e10 e12 e14 e16 e18;have e19:=aa.V 4;have e20:=aa.V 5;have e21:=aa.V 6;obtain ⟨r0,r1,r8⟩:=aa.z3 0 1 8;refine wp_seq ?_;have h2_:=Ld hqat1_ (by assumption);have h3_:=Le hqat2_ (by assumption);have h4_:ie t false s n=([],0,10):=AS (by assumption);have h5_:msav3_=[]:=by rw [h4_] at hqav3_;exact List.map_eq_nil_iff.1 hqav3_
   have z2_:at1_.2.1=0:=by rw [h2_]
   have z3_:at2_.2.1=0:=by rw [h3_]
   have z4_:(ie t false s n).2.1=0:=by rw [h4_]
   have z5_:msav3_.length=0:=by rw [h5_];rfl
   refine rg [_,_,_,_,_,_,_,_,_,_,_,_,_,_,_,_,_,_,_,_,_] [0,1,3,7,15,31,63,127,255,511,1023,2047,2047,8191,2047,32767,2047,67583,262143,524287,1048575] ab [jz 0 r0,jz 1 r1,jz 8 r8] ⟨ao e14,aq fun c=>fh rfl (c.q 0) rfl,bD 1,bm 2 rfl fun c hpc=>aS rfl (c.p e18),bm 2 rfl fun c hpc=>fh rfl (c.M 3 hpc) rfl,dm 2 4,bD 5,bm 6 rfl fun c hpc=>aS rfl (c.p e21),bm 6 rfl fun c hpc=>fh rfl (c.M 7 hpc) rfl,dm 6 8,bD 9,bm 10 rfl fun c hpc=>aS rfl (c.p e12),bm 10 rfl fun c hpc=>aS rfl (c.p e16),bm 10 rfl fun c hpc=>cN rfl (c.M 11 hpc) (c.M 12 hpc) (by have hq0:=hpc;(try simp only [aR,aG,ar,am,ai,ah] at hq0);omega),bm 10 rfl fun c hpc=>aS rfl (c.p e20),bm 10 rfl fun c hpc=>cN rfl (c.M 13 hpc) (c.M 14 hpc) (by have hq0:=hpc;(try simp only [aR,aG,ar,am,ai,ah] at hq0);omega),bm 10 rfl fun c hpc=>aS rfl (c.p e19),bm 10 rfl fun c hpc=>dk rfl dV (c.M 16 hpc) (r0).1.sl,bm 10 rfl fun c hpc=>cN rfl (c.M 15 hpc) (c.M 17 hpc) (by have hq0:=hpc;(try simp only [aR,aG,ar,am,ai,ah] at hq0);omega),bm 10 rfl fun c hpc=>fh rfl (c.M 18 hpc) rfl,aq (v:=(aE false)) fun c=>cA.isB (b:=(((!decide (at1_.2.2=10)) || (!decide (at2_.2.2=10))) || (!decide ((ie t false s n).2.2=10))) || (!decide (at1_.2.1+at2_.2.1+((ie t false s n).2.1)+(msav3_.length:Int)=0))) (pT rfl (c.q 10) (fun h=>c.M 19 h)) (by rw [h2_,h3_,h4_,h5_];rfl),av⟩ fun ac ag ae ab aa=> ?_;obtain ⟨e1,e2,e3,e4,e10⟩:=aa.k5 e1 e2 e3 e4 e10;have e97:=aa.V 20;obtain ⟨r0,r1,r8⟩:=aa.z3 0 1 8;refine wp_cond_false e97 ?_;refine wp_skip ?_;refine wp_seq ?_;refine aY ?_;refine bV 2 (by kernel_rfl) ?_;refine og [_,gE _ 100 (fun b:Tr × Int=> .tuple #[b.1.v,aj b.2]) (fun b:Tr × Int=>(b.2=0→PatOk (er b.1) (p.size:Int) 0)∧fc b.1≤2200 * (p.size:Int)+2∧fc b.1≤600000) (fun b:Tr × Int=>gT (Gn (fun g=>g < w.heap.size) w) b.1)] [0,1] ab [jz 8 r8] ⟨ao e1,eT (f:=fun b:Tr × Int=> .tuple #[b.1.v,aj b.2]) (Ψ:=fun b:Tr × Int=>(b.2=0→PatOk (er b.1) (p.size:Int) 0)∧fc b.1≤2200 * (p.size:Int)+2∧fc b.1≤600000) (Φ:=fun b:Tr × Int=>gT (Gn (fun g=>g < w.heap.size) w) b.1) fun {_ a_ _ _} c=>⟨_,_,(bK rfl rfl jM (c.q 0)),(lG p _).mono (fun e w' ⟨t_,r_,he_,hx_,ht_,hp_⟩=>⟨⟨t_,r_⟩,he_,hx_,hp_,c.tn ab hx_ ht_⟩)⟩,av⟩ fun ac ag ae ab aa=> ?_;obtain ⟨e2,e3,e4,e10⟩:=aa.k4 e2 e3 e4 e10;obtain ⟨⟨t4_,er4_⟩,e100,hqt4_,hz12⟩:=aa.zd 1 rfl;have e100:be ac 100=(.tuple #[(ta t4_),(aj er4_)]):=e100;have hqt4_:(er4_=0→PatOk (er t4_) (p.size:Int) 0)∧fc t4_≤2200 * (p.size:Int)+2∧fc t4_≤600000:=hqt4_;obtain ⟨hpt4_,hwt4_⟩:=hqt4_;have hbt4_:=fG t4_;replace r8:=aa.z1 8;have r0:=hz12;refine bW ?_;refine og [_,_,_,box _ _ 1 22 [(aj 0),(bc (⟨#[]⟩:ByteArray)),(aE false),(.slice none 0 0),(aj 0),(aj 0),(aE false),(.slice none 0 0)],_,_] [0,1,3,7,15,31] ab [jz 0 r0,jz 8 r8] ⟨ao e100,bR 0,bR 0,bO rfl rfl rfl rfl aD rfl,ey (cx:=(tc t4_)) (off:=0) rfl ak fun c=>⟨c.rb 3 rfl,(c.rb 3 rfl).ptr,(c.q 1)⟩,aK 2,av⟩ fun ac ag ae ab aa=> ?_;obtain ⟨b13x22,e22⟩:=gx ac 22;obtain ⟨e2,e3,e4,e10⟩:=aa.k4 e2 e3 e4 e10;have e23:=aa.V 5;replace r0:=aa.z1 0;have r1:=aa.rb 4 e22 rfl;replace r8:=aa.z1 8;refine wp_seq ?_;refine wp_seq (mG [0,1,3,7,15,31,63,127,255,511] ab [jz 0 r0,jb r1,jz 8 r8] ⟨ao e23,aq fun c=>fh rfl (c.q 0) rfl,bD 1,bm 2 rfl fun c hpc=>aS rfl (c.p e4),bm 2 rfl fun c hpc=>iC rfl (c.M 3 hpc) rfl,bm 2 rfl fun c hpc=>aS rfl (c.M 4 hpc),dj 5 true rfl fun c hpc=>aS rfl (c.p e4),dj 5 true rfl fun c hpc=>mX rfl (c.M 6 hpc) rfl,bm 2 rfl fun c hpc=>oK rfl (c.M 5 hpc) (fun h=>c.m 7 rfl (And.intro hpc h)),dm 2 8,av⟩ fun ac ag ae ab aa=> ?_);obtain ⟨e2,e3,e4,e10,e22⟩:=aa.k5 e2 e3 e4 e10 e22;have e112:=aa.V 9;obtain ⟨r0,r8⟩:=aa.z2 0 8;replace r1:=aa.B 1;refine wp_cond_split e112 (fun hc4=> ?_) (fun hc4=> ?_)
   · try simp only [au,bl,aR,aG,ar,am,ai,ah,dD] at hc4
     refine wp_seq (eA ab [jz 0 r0,jb r1,jz 8 r8] ⟨eE fun c=>⟨_,_,(fN rfl rfl dN),fO _⟩,aK 0,av⟩ fun ac ag ae ab aa=> ?_);obtain ⟨e2,e3,e4,e22⟩:=aa.k4 e2 e3 e4 e22;have e10:=aa.V 1;obtain ⟨r0,r8⟩:=aa.z2 0 8;replace r1:=aa.B 1;refine wp_ret ?_;refine rp ?_;refine cO (fn:=Tryz.f8) rfl ab.defers e10 ?_;refine ⟨congrArg _ (congrArg _ ?_),ab.ext0⟩;rfl
   try simp only [au,bl,aR,aG,ar,am,ai,ah,dD] at hc4
   refine wp_skip ?_;refine wp_seq ?_;refine aY ?_;refine bV 5 (by kernel_rfl) ?_;refine og [_,_,_,_,gE _ 119 (fun b:Sv × (Mt × Int × Int)=> .tuple #[(.agg #[aj (aM b.2.1).1,aj (aM b.2.1).2,b.1.v]),aj b.2.2.1,aE b.2.1.isSome,aj b.2.2.2]) (fun b:Sv × (Mt × Int × Int)=>b.2=dL t4_ true s a n) (fun b:Sv × (Mt × Int × Int)=>fb cF (Gn (fun g=>g < w.heap.size) w) b.1.v (bJ b.2.1))] [0,0,0,0,15] ab [jz 0 r0,jb r1,jz 8 r8] ⟨aq fun c=>dY rfl az ak ((c.p e22).trans r1.ptr) (c.B 1),ao e2,ao e3,ao e4,eT (f:=fun b:Sv × (Mt × Int × Int)=> .tuple #[(.agg #[aj (aM b.2.1).1,aj (aM b.2.1).2,b.1.v]),aj b.2.2.1,aE b.2.1.isSome,aj b.2.2.2]) (Ψ:=fun b:Sv × (Mt × Int × Int)=>b.2=dL t4_ true s a n) (Φ:=fun b:Sv × (Mt × Int × Int)=>fb cF (Gn (fun g=>g < w.heap.size) w) b.1.v (bJ b.2.1)) fun {_ a_ _ _} c=>⟨_,_,(eC rfl rfl fL (c.q 0) rfl (c.q 1) (c.q 2) (c.q 3)),(kH _ t4_ true s a n _ (c.iz 0 rfl) (by omega) (by omega)).mono (fun e w' ⟨b_,he_,hx_,hs_,hn_⟩=>⟨⟨b_,_⟩,he_,hx_,rfl,c.sns ab hx_.size ⟨hs_,hn_⟩⟩)⟩,av⟩ fun ac ag ae ab aa=> ?_;obtain ⟨e2,e3,e4,e10,e22⟩:=aa.k5 e2 e3 e4 e10 e22;obtain ⟨⟨mv5_,at5_⟩,e119,hqat5_,hz16⟩:=aa.zd 4 rfl;have e119:be ac 119=(.tuple #[(.agg #[(aj ((aM at5_.1).1)),(aj ((aM at5_.1).2)),mv5_.v]),(aj at5_.2.1),(aE at5_.1.isSome),(aj at5_.2.2)]):=e119;have hqat5_:at5_=dL t4_ true s a n:=hqat5_;obtain ⟨r0,r8⟩:=aa.z2 0 8;replace r1:=aa.B 1;have r2:=hz16;refine bW ?_;refine og [_,_,_,_,_,box _ _ 3 24 [(aj 0),(aj 0),(.slice none 0 0)],_,_,_,_] [0,1,3,7,15,31,63,127,255,511] ab [jz 0 r0,jb r1,jz 2 r2,jz 8 r8] ⟨ao e119,bR 0,bR 0,bR 0,bR 0,bO rfl rfl rfl rfl bI rfl,ey (cx:=[(aj ((aM at5_.1).1)),(aj ((aM at5_.1).2)),mv5_.v]) (off:=0) rfl bi fun c=>⟨c.rb 5 rfl,(c.rb 5 rfl).ptr,(c.q 1)⟩,aK 2,aK 3,aK 4,av⟩ fun ac ag ae ab aa=> ?_;obtain ⟨b17x24,e24⟩:=gx ac 24;obtain ⟨e2,e3,e4,e10,e22⟩:=aa.k5 e2 e3 e4 e10 e22;have e25:=aa.V 7;have e26:=aa.V 8;have e27:=aa.V 9;obtain ⟨r0,r2⟩:=aa.z2 0 2;replace r1:=aa.B 1;have r3:=aa.rb 6 e24 rfl;replace r8:=aa.z1 8;refine wp_seq ?_;refine aY ?_;refine bV 7 (by kernel_rfl) ?_;refine og [_,_,_,_,_,_,gE _ 131 (fun b:Sv × (Mt × Int × Int)=> .tuple #[(.agg #[aj (aM b.2.1).1,aj (aM b.2.1).2,b.1.v]),aj b.2.2.1,aE b.2.1.isSome,aj b.2.2.2]) (fun b:Sv × (Mt × Int × Int)=>b.2=dL t4_ true s a (max (min n 20000) 0)) (fun b:Sv × (Mt × Int × Int)=>fb cF (Gn (fun g=>g < w.heap.size) w) b.1.v (bJ b.2.1))] [0,0,0,0,8,24,63] ab [jz 0 r0,jb r1,jz 2 r2,jb r3,jz 8 r8] ⟨aq fun c=>dY rfl az ak ((c.p e22).trans r1.ptr) (c.B 1),ao e2,ao e3,ao e4,aq fun c=>EP rfl (c.q 3) rfl,aq fun c=>zy rfl (c.q 4) rfl,eT (f:=fun b:Sv × (Mt × Int × Int)=> .tuple #[(.agg #[aj (aM b.2.1).1,aj (aM b.2.1).2,b.1.v]),aj b.2.2.1,aE b.2.1.isSome,aj b.2.2.2]) (Ψ:=fun b:Sv × (Mt × Int × Int)=>b.2=dL t4_ true s a (max (min n 20000) 0)) (Φ:=fun b:Sv × (Mt × Int × Int)=>fb cF (Gn (fun g=>g < w.heap.size) w) b.1.v (bJ b.2.1)) fun {_ a_ _ _} c=>⟨_,_,(eC rfl rfl fL (c.q 0) rfl (c.q 1) (c.q 2) (c.q 5)),(kH _ t4_ true s a (max (min n 20000) 0) _ (c.iz 0 rfl) (by omega) (by omega)).mono (fun e w' ⟨b_,he_,hx_,hs_,hn_⟩=>⟨⟨b_,_⟩,he_,hx_,rfl,c.sns ab hx_.size ⟨hs_,hn_⟩⟩)⟩,av⟩ fun ac ag ae ab aa=> ?_;obtain ⟨e10,e24,e25,e26,e27⟩:=aa.k5 e10 e24 e25 e26 e27;obtain ⟨⟨mv6_,at6_⟩,e131,hqat6_,hz18⟩:=aa.zd 6 rfl;have e131:be ac 131=(.tuple #[(.agg #[(aj ((aM at6_.1).1)),(aj ((aM at6_.1).2)),mv6_.v]),(aj at6_.2.1),(aE at6_.1.isSome),(aj at6_.2.2)]):=e131;have hqat6_:at6_=dL t4_ true s a (max (min n 20000) 0):=hqat6_;obtain ⟨r0,r2,r8⟩:=aa.z3 0 2 8;replace r3:=aa.B 3;have r1:=hz18;refine bW ?_;refine og [_,_,_,_,_,box _ _ 4 28 [(aj 0),(aj 0),(.slice none 0 0)],_,_,_,_] [0,1,3,7,15,31,63,127,255,511] ab [jz 0 r0,jz 1 r1,jz 2 r2,jb r3,jz 8 r8] ⟨ao e131,bR 0,bR 0,bR 0,bR 0,bO rfl rfl rfl rfl bI rfl,ey (cx:=[(aj ((aM at6_.1).1)),(aj ((aM at6_.1).2)),mv6_.v]) (off:=0) rfl bi fun c=>⟨c.rb 5 rfl,(c.rb 5 rfl).ptr,(c.q 1)⟩,aK 2,aK 3,aK 4,av⟩ fun ac ag ae ab aa=> ?_;obtain ⟨b19x28,e28⟩:=gx ac 28;obtain ⟨e10,e24,e25,e26,e27⟩:=aa.k5 e10 e24 e25 e26 e27;have e29:=aa.V 7;have e30:=aa.V 8;have e31:=aa.V 9;obtain ⟨r0,r1,r2⟩:=aa.z3 0 1 2;replace r3:=aa.B 3;have r4:=aa.rb 6 e28 rfl;replace r8:=aa.z1 8;refine wp_seq ?_;refine rg [_,_,_,_,_,_,_,_,_,_,_,_,_,_,_,_,_,_,_,_,_,_,_,_,_,_,_,_,_,_,_] [0,1,0,4,15,31,63,127,63,319,1023,2047,4095,8191,8191,32767,65535,131071,262143,262143,1048575,2097151,4194303,8388607,8388607,33554431,67108863,134217727,268435455,536870911,1073741823] ab [jz 0 r0,jz 1 r1,jz 2 r2,jb r3,jb r4,jz 8 r8] ⟨cK bd aT e24 r3.ptr,aq fun c=>cq (vs:=[(aj ((aM at5_.1).1)),(aj ((aM at5_.1).2))]) rfl cV aT (c.q 0) rfl (fun j_ _ hj=>by rw [add_add];exact (c.ib 3 rfl).cell (j:=0+j_) (ei (l:=[(aj ((aM at5_.1).1)),(aj ((aM at5_.1).2)),mv5_.v]) (o:=0) (n:=2) rfl hj)),cK bd aT e28 r4.ptr,aq fun c=>cq (vs:=[(aj ((aM at6_.1).1)),(aj ((aM at6_.1).2))]) rfl cV aT (c.q 2) rfl (fun j_ _ hj=>by rw [add_add];exact (c.ib 4 rfl).cell (j:=0+j_) (ei (l:=[(aj ((aM at6_.1).1)),(aj ((aM at6_.1).2)),mv6_.v]) (o:=0) (n:=2) rfl hj)),aq fun c=>mU (p:=((aM at5_.1).1,(aM at5_.1).2)) (q:=((aM at6_.1).1,(aM at6_.1).2)) rfl (c.q 1) (c.q 3),bD 4,aL 5 rfl fun c hpc=>dh rfl bd co ((c.p e24).trans r3.ptr),aL 5 rfl fun c hpc=>aI rfl cG (c.M 6 hpc) ((c.B 3).cell (j:=2) rfl),aL 5 rfl fun c hpc=>dh rfl bd co ((c.p e28).trans r4.ptr),aL 5 rfl fun c hpc=>aI rfl cG (c.M 8 hpc) ((c.B 4).cell (j:=2) rfl),fC 5 true rfl fun c hpc=>⟨_,_,(ck rfl rfl kt (c.M 7 hpc) (c.M 9 hpc)),kX mv5_.v mv6_.v (bJ at5_.1) (bJ at6_.1) _ (c.iz 2 rfl).1 (c.iz 1 rfl).1⟩,bZ 5 10,bD 11,aL 12 rfl fun c hpc=>aS rfl (c.p e25),aL 12 rfl fun c hpc=>aS rfl (c.p e29),aL 12 rfl fun c hpc=>cY rfl (c.M 13 hpc) (c.M 14 hpc),bZ 12 15,bD 16,aL 17 rfl fun c hpc=>aS rfl (c.p e26),aL 17 rfl fun c hpc=>aS rfl (c.p e30),aL 17 rfl fun c hpc=>Bn rfl cT (c.M 18 hpc) (c.M 19 hpc),bZ 17 20,bD 21,aL 22 rfl fun c hpc=>aS rfl (c.p e27),aL 22 rfl fun c hpc=>aS rfl (c.p e31),aL 22 rfl fun c hpc=>cY rfl (c.M 23 hpc) (c.M 24 hpc),bZ 22 25,bD 26,fC 27 true rfl fun c hpc=>⟨_,_,(fN rfl rfl dN),fO _⟩,bZ 27 28,aK 29,av⟩ fun ac ag ae ab aa=> ?_;have e10:=aa.V 30;obtain ⟨r0,r1,r2,r8⟩:=aa.z4 0 1 2 8;refine wp_ret ?_;refine rp ?_;refine cO (fn:=Tryz.f8) rfl ab.defers e10 ?_;refine ⟨congrArg _ (congrArg _ ?_),ab.ext0⟩;have hA_:=AW hqat5_ hqat6_;rw [hA_];simp [dA]
 try simp only [ar,am] at hc2
 refine wp_skip ?_;refine wp_seq ?_;refine aY ?_;refine bV 2 (by kernel_rfl) ?_;refine og [_,gE _ 100 (fun b:Tr × Int=> .tuple #[b.1.v,aj b.2]) (fun b:Tr × Int=>(b.2=0→PatOk (er b.1) (p.size:Int) 0)∧fc b.1≤2200 * (p.size:Int)+2∧fc b.1≤600000) (fun b:Tr × Int=>gT (Gn (fun g=>g < w.heap.size) w) b.1)] [0,1] ab [jb r0,jz 8 r8] ⟨ao e1,eT (f:=fun b:Tr × Int=> .tuple #[b.1.v,aj b.2]) (Ψ:=fun b:Tr × Int=>(b.2=0→PatOk (er b.1) (p.size:Int) 0)∧fc b.1≤2200 * (p.size:Int)+2∧fc b.1≤600000) (Φ:=fun b:Tr × Int=>gT (Gn (fun g=>g < w.heap.size) w) b.1) fun {_ a_ _ _} c=>⟨_,_,(bK rfl rfl jM (c.q 0)),(lG p _).mono (fun e w' ⟨t_,r_,he_,hx_,ht_,hp_⟩=>⟨⟨t_,r_⟩,he_,hx_,hp_,c.tn ab hx_ ht_⟩)⟩,av⟩ fun ac ag ae ab aa=> ?_;obtain ⟨e2,e3,e4,e10⟩:=aa.k4 e2 e3 e4 e10;obtain ⟨⟨t7_,er7_⟩,e100,hqt7_,hz21⟩:=aa.zd 1 rfl;have e100:be ac 100=(.tuple #[(ta t7_),(aj er7_)]):=e100;have hqt7_:(er7_=0→PatOk (er t7_) (p.size:Int) 0)∧fc t7_≤2200 * (p.size:Int)+2∧fc t7_≤600000:=hqt7_;obtain ⟨hpt7_,hwt7_⟩:=hqt7_;have hbt7_:=fG t7_;replace r8:=aa.z1 8;have r0:=hz21;refine bW ?_;refine og [_,_,_,box _ _ 1 22 [(aj 0),(bc (⟨#[]⟩:ByteArray)),(aE false),(.slice none 0 0),(aj 0),(aj 0),(aE false),(.slice none 0 0)],_,_] [0,1,3,7,15,31] ab [jz 0 r0,jz 8 r8] ⟨ao e100,bR 0,bR 0,bO rfl rfl rfl rfl aD rfl,ey (cx:=(tc t7_)) (off:=0) rfl ak fun c=>⟨c.rb 3 rfl,(c.rb 3 rfl).ptr,(c.q 1)⟩,aK 2,av⟩ fun ac ag ae ab aa=> ?_;obtain ⟨b22x22,e22⟩:=gx ac 22;obtain ⟨e2,e3,e4,e10⟩:=aa.k4 e2 e3 e4 e10;have e23:=aa.V 5;replace r0:=aa.z1 0;have r1:=aa.rb 4 e22 rfl;replace r8:=aa.z1 8;refine wp_seq ?_;refine wp_seq (mG [0,1,3,7,15,31,63,127,255,511] ab [jz 0 r0,jb r1,jz 8 r8] ⟨ao e23,aq fun c=>fh rfl (c.q 0) rfl,bD 1,bm 2 rfl fun c hpc=>aS rfl (c.p e4),bm 2 rfl fun c hpc=>iC rfl (c.M 3 hpc) rfl,bm 2 rfl fun c hpc=>aS rfl (c.M 4 hpc),dj 5 true rfl fun c hpc=>aS rfl (c.p e4),dj 5 true rfl fun c hpc=>mX rfl (c.M 6 hpc) rfl,bm 2 rfl fun c hpc=>oK rfl (c.M 5 hpc) (fun h=>c.m 7 rfl (And.intro hpc h)),dm 2 8,av⟩ fun ac ag ae ab aa=> ?_);obtain ⟨e2,e3,e4,e10,e22⟩:=aa.k5 e2 e3 e4 e10 e22;have e112:=aa.V 9;obtain ⟨r0,r8⟩:=aa.z2 0 8;replace r1:=aa.B 1;refine wp_cond_split e112 (fun hc5=> ?_) (fun hc5=> ?_)
 · try simp only [au,bl,aR,aG,ar,am,ai,ah,dD] at hc5
   refine wp_seq (eA ab [jz 0 r0,jb r1,jz 8 r8] ⟨eE fun c=>⟨_,_,(fN rfl rfl dN),fO _⟩,aK 0,av⟩ fun ac ag ae ab aa=> ?_);obtain ⟨e2,e3,e4,e22⟩:=aa.k4 e2 e3 e4 e22;have e10:=aa.V 1;obtain ⟨r0,r8⟩:=aa.z2 0 8;replace r1:=aa.B 1;refine wp_ret ?_;refine rp ?_;refine cO (fn:=Tryz.f8) rfl ab.defers e10 ?_;refine ⟨congrArg _ (congrArg _ ?_),ab.ext0⟩;rfl
 try simp only [au,bl,aR,aG,ar,am,ai,ah,dD] at hc5
 refine wp_skip ?_;refine wp_seq ?_;refine aY ?_;refine bV 5 (by kernel_rfl) ?_;refine og [_,_,_,_,gE _ 119 (fun b:Sv × (Mt × Int × Int)=> .tuple #[(.agg #[aj (aM b.2.1).1,aj (aM b.2.1).2,b.1.v]),aj b.2.2.1,aE b.2.1.isSome,aj b.2.2.2]) (fun b:Sv × (Mt × Int × Int)=>b.2=dL t7_ true s a n) (fun b:Sv × (Mt × Int × Int)=>fb cF (Gn (fun g=>g < w.heap.size) w) b.1.v (bJ b.2.1))] [0,0,0,0,15] ab [jz 0 r0,jb r1,jz 8 r8] ⟨aq fun c=>dY rfl az ak ((c.p e22).trans r1.ptr) (c.B 1),ao e2,ao e3,ao e4,eT (f:=fun b:Sv × (Mt × Int × Int)=> .tuple #[(.agg #[aj (aM b.2.1).1,aj (aM b.2.1).2,b.1.v]),aj b.2.2.1,aE b.2.1.isSome,aj b.2.2.2]) (Ψ:=fun b:Sv × (Mt × Int × Int)=>b.2=dL t7_ true s a n) (Φ:=fun b:Sv × (Mt × Int × Int)=>fb cF (Gn (fun g=>g < w.heap.size) w) b.1.v (bJ b.2.1)) fun {_ a_ _ _} c=>⟨_,_,(eC rfl rfl fL (c.q 0) rfl (c.q 1) (c.q 2) (c.q 3)),(kH _ t7_ true s a n _ (c.iz 0 rfl) (by omega) (by omega)).mono (fun e w' ⟨b_,he_,hx_,hs_,hn_⟩=>⟨⟨b_,_⟩,he_,hx_,rfl,c.sns ab hx_.size ⟨hs_,hn_⟩⟩)⟩,av⟩ fun ac ag ae ab aa=> ?_;obtain ⟨e2,e3,e4,e10,e22⟩:=aa.k5 e2 e3 e4 e10 e22;obtain ⟨⟨mv8_,at8_⟩,e119,hqat8_,hz25⟩:=aa.zd 4 rfl;have e119:be ac 119=(.tuple #[(.agg #[(aj ((aM at8_.1).1)),(aj ((aM at8_.1).2)),mv8_.v]),(aj at8_.2.1),(aE at8_.1.isSome),(aj at8_.2.2)]):=e119;have hqat8_:at8_=dL t7_ true s a n:=hqat8_;obtain ⟨r0,r8⟩:=aa.z2 0 8;replace r1:=aa.B 1;have r2:=hz25;refine bW ?_;refine og [_,_,_,_,_,box _ _ 3 24 [(aj 0),(aj 0),(.slice none 0 0)],_,_,_,_] [0,1,3,7,15,31,63,127,255,511] ab [jz 0 r0,jb r1,jz 2 r2,jz 8 r8] ⟨ao e119,bR 0,bR 0,bR 0,bR 0,bO rfl rfl rfl rfl bI rfl,ey (cx:=[(aj ((aM at8_.1).1)),(aj ((aM at8_.1).2)),mv8_.v]) (off:=0) rfl bi fun c=>⟨c.rb 5 rfl,(c.rb 5 rfl).ptr,(c.q 1)⟩,aK 2,aK 3,aK 4,av⟩ fun ac ag ae ab aa=> ?_;obtain ⟨b26x24,e24⟩:=gx ac 24;obtain ⟨e2,e3,e4,e10,e22⟩:=aa.k5 e2 e3 e4 e10 e22;have e25:=aa.V 7;have e26:=aa.V 8;have e27:=aa.V 9;obtain ⟨r0,r2⟩:=aa.z2 0 2;replace r1:=aa.B 1;have r3:=aa.rb 6 e24 rfl;replace r8:=aa.z1 8;refine wp_seq ?_;refine aY ?_;refine bV 7 (by kernel_rfl) ?_;refine og [_,_,_,_,_,_,gE _ 131 (fun b:Sv × (Mt × Int × Int)=> .tuple #[(.agg #[aj (aM b.2.1).1,aj (aM b.2.1).2,b.1.v]),aj b.2.2.1,aE b.2.1.isSome,aj b.2.2.2]) (fun b:Sv × (Mt × Int × Int)=>b.2=dL t7_ true s a (max (min n 20000) 0)) (fun b:Sv × (Mt × Int × Int)=>fb cF (Gn (fun g=>g < w.heap.size) w) b.1.v (bJ b.2.1))] [0,0,0,0,8,24,63] ab [jz 0 r0,jb r1,jz 2 r2,jb r3,jz 8 r8] ⟨aq fun c=>dY rfl az ak ((c.p e22).trans r1.ptr) (c.B 1),ao e2,ao e3,ao e4,aq fun c=>EP rfl (c.q 3) rfl,aq fun c=>zy rfl (c.q 4) rfl,eT (f:=fun b:Sv × (Mt × Int × Int)=> .tuple #[(.agg #[aj (aM b.2.1).1,aj (aM b.2.1).2,b.1.v]),aj b.2.2.1,aE b.2.1.isSome,aj b.2.2.2]) (Ψ:=fun b:Sv × (Mt × Int × Int)=>b.2=dL t7_ true s a (max (min n 20000) 0)) (Φ:=fun b:Sv × (Mt × Int × Int)=>fb cF (Gn (fun g=>g < w.heap.size) w) b.1.v (bJ b.2.1)) fun {_ a_ _ _} c=>⟨_,_,(eC rfl rfl fL (c.q 0) rfl (c.q 1) (c.q 2) (c.q 5)),(kH _ t7_ true s a (max (min n 20000) 0) _ (c.iz 0 rfl) (by omega) (by omega)).mono (fun e w' ⟨b_,he_,hx_,hs_,hn_⟩=>⟨⟨b_,_⟩,he_,hx_,rfl,c.sns ab hx_.size ⟨hs_,hn_⟩⟩)⟩,av⟩ fun ac ag ae ab aa=> ?_;obtain ⟨e10,e24,e25,e26,e27⟩:=aa.k5 e10 e24 e25 e26 e27;obtain ⟨⟨mv9_,at9_⟩,e131,hqat9_,hz27⟩:=aa.zd 6 rfl;have e131:be ac 131=(.tuple #[(.agg #[(aj ((aM at9_.1).1)),(aj ((aM at9_.1).2)),mv9_.v]),(aj at9_.2.1),(aE at9_.1.isSome),(aj at9_.2.2)]):=e131;have hqat9_:at9_=dL t7_ true s a (max (min n 20000) 0):=hqat9_;obtain ⟨r0,r2,r8⟩:=aa.z3 0 2 8;replace r3:=aa.B 3;have r1:=hz27;refine bW ?_;refine og [_,_,_,_,_,box _ _ 4 28 [(aj 0),(aj 0),(.slice none 0 0)],_,_,_,_] [0,1,3,7,15,31,63,127,255,511] ab [jz 0 r0,jz 1 r1,jz 2 r2,jb r3,jz 8 r8] ⟨ao e131,bR 0,bR 0,bR 0,bR 0,bO rfl rfl rfl rfl bI rfl,ey (cx:=[(aj ((aM at9_.1).1)),(aj ((aM at9_.1).2)),mv9_.v]) (off:=0) rfl bi fun c=>⟨c.rb 5 rfl,(c.rb 5 rfl).ptr,(c.q 1)⟩,aK 2,aK 3,aK 4,av⟩ fun ac ag ae ab aa=> ?_;obtain ⟨b28x28,e28⟩:=gx ac 28;obtain ⟨e10,e24,e25,e26,e27⟩:=aa.k5 e10 e24 e25 e26 e27;have e29:=aa.V 7;have e30:=aa.V 8;have e31:=aa.V 9;obtain ⟨r0,r1,r2⟩:=aa.z3 0 1 2;replace r3:=aa.B 3;have r4:=aa.rb 6 e28 rfl;replace r8:=aa.z1 8;refine wp_seq ?_;refine rg [_,_,_,_,_,_,_,_,_,_,_,_,_,_,_,_,_,_,_,_,_,_,_,_,_,_,_,_,_,_,_] [0,1,0,4,15,31,63,127,63,319,1023,2047,4095,8191,8191,32767,65535,131071,262143,262143,1048575,2097151,4194303,8388607,8388607,33554431,67108863,134217727,268435455,536870911,1073741823] ab [jz 0 r0,jz 1 r1,jz 2 r2,jb r3,jb r4,jz 8 r8] ⟨cK bd aT e24 r3.ptr,aq fun c=>cq (vs:=[(aj ((aM at8_.1).1)),(aj ((aM at8_.1).2))]) rfl cV aT (c.q 0) rfl (fun j_ _ hj=>by rw [add_add];exact (c.ib 3 rfl).cell (j:=0+j_) (ei (l:=[(aj ((aM at8_.1).1)),(aj ((aM at8_.1).2)),mv8_.v]) (o:=0) (n:=2) rfl hj)),cK bd aT e28 r4.ptr,aq fun c=>cq (vs:=[(aj ((aM at9_.1).1)),(aj ((aM at9_.1).2))]) rfl cV aT (c.q 2) rfl (fun j_ _ hj=>by rw [add_add];exact (c.ib 4 rfl).cell (j:=0+j_) (ei (l:=[(aj ((aM at9_.1).1)),(aj ((aM at9_.1).2)),mv9_.v]) (o:=0) (n:=2) rfl hj)),aq fun c=>mU (p:=((aM at8_.1).1,(aM at8_.1).2)) (q:=((aM at9_.1).1,(aM at9_.1).2)) rfl (c.q 1) (c.q 3),bD 4,aL 5 rfl fun c hpc=>dh rfl bd co ((c.p e24).trans r3.ptr),aL 5 rfl fun c hpc=>aI rfl cG (c.M 6 hpc) ((c.B 3).cell (j:=2) rfl),aL 5 rfl fun c hpc=>dh rfl bd co ((c.p e28).trans r4.ptr),aL 5 rfl fun c hpc=>aI rfl cG (c.M 8 hpc) ((c.B 4).cell (j:=2) rfl),fC 5 true rfl fun c hpc=>⟨_,_,(ck rfl rfl kt (c.M 7 hpc) (c.M 9 hpc)),kX mv8_.v mv9_.v (bJ at8_.1) (bJ at9_.1) _ (c.iz 2 rfl).1 (c.iz 1 rfl).1⟩,bZ 5 10,bD 11,aL 12 rfl fun c hpc=>aS rfl (c.p e25),aL 12 rfl fun c hpc=>aS rfl (c.p e29),aL 12 rfl fun c hpc=>cY rfl (c.M 13 hpc) (c.M 14 hpc),bZ 12 15,bD 16,aL 17 rfl fun c hpc=>aS rfl (c.p e26),aL 17 rfl fun c hpc=>aS rfl (c.p e30),aL 17 rfl fun c hpc=>Bn rfl cT (c.M 18 hpc) (c.M 19 hpc),bZ 17 20,bD 21,aL 22 rfl fun c hpc=>aS rfl (c.p e27),aL 22 rfl fun c hpc=>aS rfl (c.p e31),aL 22 rfl fun c hpc=>cY rfl (c.M 23 hpc) (c.M 24 hpc),bZ 22 25,bD 26,fC 27 true rfl fun c hpc=>⟨_,_,(fN rfl rfl dN),fO _⟩,bZ 27 28,aK 29,av⟩ fun ac ag ae ab aa=> ?_;have e10:=aa.V 30;obtain ⟨r0,r1,r2,r8⟩:=aa.z4 0 1 2 8;refine wp_ret ?_;refine rp ?_;refine cO (fn:=Tryz.f8) rfl ab.defers e10 ?_;refine ⟨congrArg _ (congrArg _ ?_),ab.ext0⟩;have hA_:=AW hqat8_ hqat9_;rw [hA_];simp [dA]
end
end B
end Go.Proofs.YtcfdebjhikahfaaGreat
namespace Go.Proofs.YtcfdebjhikahfaaGreat
open Go.ChangeShapes Go.WideShapes Go.ChangeAt Go.RowKit
namespace B
theorem sK:ownKnob Tryz.prog.godebug=none:=by kernel_rfl
theorem kJ:laidOutB Tryz.prog=true:=by kernel_rfl
theorem IB:GH Tryz.prog 89 fx:=EB cZ (by kernel_rfl) rfl rfl (by kernel_rfl) (by kernel_rfl) aZ aZ
theorem Kg:IsTree Tryz.prog 25:=⟨3,9,4,22,89,_,_,_,_,_,_,_,_,aJ,⟨rfl,rfl,rfl,rfl,rfl,rfl,rfl,rfl⟩,⟨rfl,rfl,rfl,rfl,rfl,rfl,rfl⟩,⟨by kernel_rfl,by kernel_rfl,by kernel_rfl,by kernel_rfl,by kernel_rfl⟩,bX,aZ,cT,br,by kernel_rfl,IB,aU,by kernel_rfl⟩
set_option maxRecDepth 100000 in
theorem tM (H:Type) (enc:TypeId × Value→H) (W:World) (base:Nat) (args:Array Value) (ds gs:List (DataW H)) (before:List MemPlace)
    (hval:∀(j:Nat) t v,Tryz.f8.params[j]? =some t→args[j]? =some v→Value.okWide Tryz.prog W .any base t v)
    (hW:DataW.Whole enc Tryz.prog Tryz.f8.params.toList Rows.runCodesSpec.vars false W args.toList ds gs before):
    Calls Tryz.prog 8 args W fun e W'=>∃v,e= .returned v∧Rows.runCodesSpec.post enc Tryz.prog Tryz.f8 false true false false W args v W':=by
  have hW':=hW;obtain ⟨p,q,hA0,hV,rfl,hfz,hnd⟩:=hW;have hA:DataW.TrodAll enc Tryz.prog W 0 (fun _=>true) true Tryz.f8.params.toList args.toList ds p:=hA0;rw [Tryz.params8] at hA hval;obtain ⟨v0,vs0,d0,ds0,p0,q0,hargs0,rfl,rfl,h0,r0⟩:=trodAll_cons hA;obtain ⟨v1,vs1,d1,ds1,p1,q1,hargs1,rfl,rfl,h1,r1⟩:=trodAll_cons r0;obtain ⟨v2,vs2,d2,ds2,p2,q2,hargs2,rfl,rfl,h2,r2⟩:=trodAll_cons r1;obtain ⟨v3,vs3,d3,ds3,p3,q3,hargs3,rfl,rfl,h3,r3⟩:=trodAll_cons r2;obtain ⟨v4,vs4,d4,ds4,p4,q4,hargs4,rfl,rfl,h4,r4⟩:=trodAll_cons r3;obtain ⟨rfl,rfl,rfl⟩:=trodAll_nil r4;subst hargs4;subst hargs3;subst hargs2;subst hargs1;obtain rfl:args=#[v0,v1,v2,v3,v4]:=by first | exact Array.ext' hargs0 | (cases args;simp_all)
  obtain ⟨x0,rfl,s0⟩:=ED Kg (hval 0 25 v0 rfl rfl) h0;obtain ⟨x1,rfl,rfl,rfl,b1⟩:=Go.ChangeMaps.open_string aZ (hval 1 9 v1 rfl rfl) h1;obtain ⟨x2,rfl,rfl,rfl,b2⟩:=Go.ChangeMaps.open_string aZ (hval 2 9 v2 rfl rfl) h2;obtain ⟨x3,rfl,b3⟩:=jB bX (hval 3 3 v3 rfl rfl) h3;obtain ⟨x4,rfl,b4⟩:=jB bX (hval 4 3 v4 rfl rfl) h4;exact (Ck x0 x1 x2 x3 x4 W s0).mono fun e W' ⟨he,hx⟩=>⟨_,he,lU kJ hW' rfl (by kernel_rfl) rfl rfl cT hx⟩
set_option maxRecDepth 100000 in
theorem ve (os:Os) (started:os.Started) (H:Type) (enc:TypeId × Value→H):
    ReturnsInHanded {} Tryz.checked os 8 .any (Rows.runCodesSpec.pre6 enc Tryz.prog Tryz.f8 Rows.runCodesRow.domain false) (Rows.runCodesSpec.post enc Tryz.prog Tryz.f8 false true false false):=by
  refine returnsInHanded_of_change (C:=Tryz.checked) sK started (by kernel_rfl) Tryz.func8
    (ChangeSpec.witness6 (enc:=enc) (C:=Tryz.checked) false ⟨#[],#[.agg #[.int .i64 0,.string ⟨#[]⟩,.bool false,.slice none 0 0,.int .i64 0,.int .i64 0,.bool false,.slice none 0 0],.string ⟨#[]⟩,.string ⟨#[]⟩,.int .i64 0,.int .i64 0],[]⟩ 8 (by kernel_rfl) (by kernel_rfl) (by kernel_rfl) (by kernel_rfl)) ?_
  intro W base args ds gs before hval hW _ _;exact tM H enc W base args ds gs before hval hW
theorem runCodes_holds:Rows.RunCodesSaid:=
  OpenClaim.holds_of_wide 8 Tryz.f8 rfl rfl rfl rfl rfl rfl rfl ⟨rfl,rfl,rfl,rfl,rfl⟩ rfl rfl rfl rfl rfl (by kernel_rfl) Tryz.func8 (by kernel_rfl)
    (of_decide_eq_true (by kernel_rfl)) (by unfold Func.isWrapper;first | (rw [if_pos (by decide+kernel)];kernel_rfl) | (rw [if_neg (by decide+kernel)];exact ⟨rfl,rfl⟩))
    (fun os started H enc _=>ve os started H enc)
end B
end Go.Proofs.YtcfdebjhikahfaaGreat
