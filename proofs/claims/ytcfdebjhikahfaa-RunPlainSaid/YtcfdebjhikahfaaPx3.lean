import Derived.Test.YtcfdebjhikahfaaPx2
set_option linter.unusedSimpArgs false
set_option linter.unusedVariables false
set_option linter.unusedSectionVars false
namespace Go.Proofs.Ytcfdebjhikahfaa
namespace B
section
open Go.RowKit
abbrev aL:=@Bool.not_eq_false
abbrev jA:=@Int.le_trans
abbrev jO:=@Int.lt_of_lt_of_le
abbrev fe:=@Try.call45
abbrev cW:=@Try.call48
abbrev mJ:=@Try.call92
abbrev cq:=@Try.isAgg26
abbrev lh:=@Try.isAgg5
abbrev fv:=@Try.sizeOf5
abbrev fP:=@Try.underlying5
abbrev cM:=@Try.underlying64
end
section
open Go.RowKit
open Srt
def gu (l:List (Int→Int→Int × Bool)) (n d:Int):Int × Bool:=match l with
  | [] => (n, true)
  | g :: l => if (g n d).2 = true then gu l (g n d).1 d else ((g n d).1, false)
def cF (t:Tr) (d:Int):Int:=if oB t=true then d - 1 else d
def cC:Tr→Int→Int→Int × Bool:=ku fun t l n d=>if ((decide (n < 1) || decide (cF t d < 0)) || !cV t)=true then (n,false) else gu l (n - 1) (cF t d)
theorem lZ (t:Tr) (n d:Int):cC t n d=if ((decide (n < 1) || decide (cF t d < 0)) || !cV t)=true then (n,false) else gu (t.kids.map cC) (n - 1) (cF t d):=
  congrFun (congrFun (gZ (fun t l n d=>if ((decide (n < 1) || decide (cF t d < 0)) || !cV t)=true then (n,false) else gu l (n - 1) (cF t d)) t) n) d
theorem ma (t:Tr):∀{n d:Int},0≤n→0≤(cC t n d).1∧(cC t n d).1≤n:=by
  induction t using Tr.ind with
  | h t ih =>
    intro n d hn;have hK:∀ks:List Tr,(∀k ∈ ks,k ∈ t.kids)→∀m d,0≤m→0≤(gu (ks.map cC) m d).1∧(gu (ks.map cC) m d).1≤m:=by
      intro ks;induction ks with
      | nil => intro _ m d h; exact ⟨h, ei _⟩
      | cons k ks ih2 =>
        intro hm m d h;have h1:=ih k (hm k (by simp)) (n:=m) (d:=d) h;rw [aZ,gu];split
        · have:=ih2 (fun x hx=>hm x (by simp [hx])) _ d h1.1;omega
        · exact h1
    rw [lZ];split
    · exact ⟨hn,ei _⟩
    · rename_i hc;simp only [ba,ah,not_or] at hc;have:=hK t.kids (fun _ h=>h) (n - 1) (cF t d) (by omega);omega
theorem vx {t:Tr} {n d:Int} (h:((decide (n < 1) || decide (cF t d < 0)) || !cV t)=true):cC t n d=(n,false):=by rw [lZ,if_pos h]
theorem th {t:Tr} {n d m:Int} {k:Nat} (h:((decide (n < 1) || decide (cF t d < 0)) || !cV t)=false) (hq:gu (t.kids.map cC) (n - 1) (cF t d)=gu ((t.kids.drop k).map cC) m (cF t d)) (hk:k < t.kids.length) (hb:(cC (nth t.kids (k:Int)) m (cF t d)).2=false):cC t n d=((cC (nth t.kids (k:Int)) m (cF t d)).1,false):=by
  rw [lZ,if_neg (by rw [h];decide),hq,iW hk,aZ,gu,if_neg (by rw [hb];decide)]
theorem ti {t:Tr} {n d m:Int} {k:Nat} (h:((decide (n < 1) || decide (cF t d < 0)) || !cV t)=false) (hq:gu (t.kids.map cC) (n - 1) (cF t d)=gu ((t.kids.drop k).map cC) m (cF t d)) (hk:t.kids.length≤k):cC t n d=(m,true):=by
  rw [lZ,if_neg (by rw [h];decide),hq,ed hk];rfl
theorem qJ {t:Tr} {n d m:Int} {k:Nat} (hq:gu (t.kids.map cC) (n - 1) (cF t d)=gu ((t.kids.drop k).map cC) m (cF t d)) (hk:k < t.kids.length) (hb:(cC (nth t.kids (k:Int)) m (cF t d)).2=true):gu (t.kids.map cC) (n - 1) (cF t d)=gu ((t.kids.drop (k+1)).map cC) (cC (nth t.kids (k:Int)) m (cF t d)).1 (cF t d):=by
  rw [hq,iW hk,aZ,gu,if_pos hb]
set_option maxRecDepth 100000 in
theorem wy (t:Tr) (ih:∀k ∈ t.kids,∀(n d:Int) (w:World),oI w k→eJ k≤1000000→0≤n∧n≤1000→0≤d∧d≤1000→Calls Try.prog 50 #[k.v,aj n,aj d] w (fun e w'=>e= .returned (.tuple #[aj (cC k n d).1,aB (cC k n d).2])∧Ext aV w w')) (n d:Int) (w:World) (hT:oI w t) (hP:eJ t≤1000000) (hn:0≤n∧n≤1000) (hd:0≤d∧d≤1000):Calls Try.prog 50 #[t.v,aj n,aj d] w (fun e w'=>e= .returned (.tuple #[aj (cC t n d).1,aB (cC t n d).2])∧Ext aV w w'):=by
 refine enter (n:=49) Try.func50 rfl rfl (ar rfl) ?_;intro a0 τ0 ha st0;have e0:aS a0 0=(ta t):=ha 0 _ rfl;have e1:aS a0 1=(aj n):=ha 1 _ rfl;have e2:aS a0 2=(aj d):=ha 2 _ rfl;clear ha;have hle:=hT.kids.le;have hwt:=fQ t;have hpk:∀k:Nat,k < t.kids.length→eJ (nth t.kids (k:Int))≤1000000:=fun k h_=>by have h1_:=oM (bo (xs:=t.kids) (i:=(k:Int)) (by omega) (by omega));omega
 refine wp_seq (rg [box _ _ 0 3 (tc t),_,_] [0,0,2] st0 [] ⟨gV (v:=(ta t)) rfl rfl rfl rfl rfl (fun _ _ _ _ c=>(c.p e0)),am fun c=>au rfl rfl,am fun c=>au rfl rfl,av⟩ fun ac ag ae ab aa=> ?_);obtain ⟨b1x3,e3⟩:=gx ac 3;obtain ⟨e1,e2⟩:=aa.k2 e1 e2;have e6:=aa.V 1;have e7:=aa.V 2;have r0:=aa.rb 0 e3 rfl;refine wp_seq ?_;refine wp_seq (eN ab [jb r0] ⟨cg aA ay e3 r0.ptr,eG aD 0 0 0,eu fun c=>⟨_,_,(bw rfl rfl Try.call66 (c.q 1)),zX t.k _⟩,av⟩ fun ac ag ae ab aa=> ?_);obtain ⟨e1,e2,e3,e6,e7⟩:=aa.k5 e1 e2 e3 e6 e7;have e13:=aa.V 2;replace r0:=aa.B 0;refine wp_cond_split e13 (fun hc1=> ?_) (fun hc1=> ?_)
 · have hd1:=hc1;try simp only [ba,ah] at hd1
   refine eN ab [jb r0] ⟨aq e2,am fun c=>kn rfl (c.q 0) rfl (by omega),aK 1,av⟩ fun ac ag ae ab aa=> ?_;obtain ⟨e1,e3,e6,e7⟩:=aa.k4 e1 e3 e6 e7;have e2:=aa.V 2;replace r0:=aa.B 0;refine wp_seq ?_;refine wp_seq ?_;have hdp:d - 1=cF t d:=by unfold cF oB;first | (rw [if_pos (by simpa using (by assumption))]) | (rw [if_neg (by simpa using (by assumption))])
   replace e2:aS ac 2=aj (cF t d):=e2.trans (bE hdp);have hdr:cF t d≤1000∧ -1≤cF t d:=by unfold cF;split <;> omega
   refine rj [0,1,3,7,15,31,63,127,255,511,1023] ab [jb r0] ⟨aq e1,am fun c=>dt rfl (c.q 0) rfl,bk 1,bJ 2 rfl fun c hpc=>aN rfl (c.p e2),bJ 2 rfl fun c hpc=>dt rfl (c.M 3 hpc) rfl,dM 2 4,bk 5,bJ 6 rfl fun c hpc=>eB rfl aE ak ((c.p e3).trans r0.ptr) (c.B 0),fE 6 false rfl fun c hpc=>⟨_,_,(bw rfl rfl Try.call67 (c.M 7 hpc)),tf t _ (hT.at (ab.ext.trans c.J.ext)) (by have hq0:=hpc;(try simp only [aH,ai,bd] at hq0);omega)⟩,bJ 6 rfl fun c hpc=>dC rfl (c.M 8 hpc),dM 6 9,av⟩ fun ac ag ae ab aa=> ?_;obtain ⟨e1,e2,e3,e6,e7⟩:=aa.k5 e1 e2 e3 e6 e7;have e26:=aa.V 10;replace r0:=aa.B 0;refine wp_cond_split e26 (fun hc2=> ?_) (fun hc2=> ?_)
   · have hd2:=hc2;try simp only [ba,aH,ax,aw,ah,ai,bd] at hd2
     refine wp_seq ?_;have hcd:=hc2;refine eN ab [jb r0] ⟨aq e1,aK 0,am fun c=>au rfl rfl,av⟩ fun ac ag ae ab aa=> ?_;obtain ⟨e1,e2,e3⟩:=aa.k3 e1 e2 e3;have e6:=aa.V 1;have e7:=aa.V 2;replace r0:=aa.B 0;refine wp_ret ?_;refine rp ?_;refine jU (fn:=Try.f50) rfl ab.defers e6 e7 ?_;exact ⟨congrArg _ (show (Value.tuple #[(aj n),(aB false)])=(.tuple #[aj (cC t n d).1,aB (cC t n d).2]) from by rw [vx hcd]),ab.ext0⟩
   have hd2:=hc2;try simp only [ba,aH,ax,aw,ah,ai,bd] at hd2
   refine wp_skip ?_;refine wp_seq ?_;have hcd:((decide (n < 1) || decide (cF t d < 0)) || !cV t)=false:=by assumption
   have hce:=hcd;simp only [aH,ai,bd] at hce;refine eN ab [jb r0] ⟨aq e1,am fun c=>kn rfl (c.q 0) rfl (by omega),aK 1,av⟩ fun ac ag ae ab aa=> ?_;obtain ⟨e2,e3,e6,e7⟩:=aa.k4 e2 e3 e6 e7;have e1:=aa.V 2;replace r0:=aa.B 0;refine wp_seq ?_;refine wp_seq (lS [0,1,3,0] ab [jb r0] ⟨cg aA ck e3 r0.ptr,eG dh 0 0 7,am fun c=>cU rfl aP (c.q 1) (hT.at ab.ext).tl.sl.sl,am fun c=>aN rfl rfl,av⟩ fun ac ag ae ab aa=> ?_);obtain ⟨e1,e2,e6,e7⟩:=aa.k4 e1 e2 e6 e7;have e31:=aa.V 1;have e32:=aa.V 2;have e33:=aa.V 3;refine wp_block ?_;refine wp_loop (fun a_ w_=>∃(k:Nat) (m:Int) (τ:Nat→aQ),(k≤t.kids.length)∧
          (0≤m∧m≤1000)∧
          (gu (t.kids.map cC) (n - 1) (cF t d)=gu ((t.kids.drop k).map cC) m (cF t d))∧
          St (Nw w) w 49 a_ w_ τ∧
          aS a_ 1=(aj m)∧
          aS a_ 33=(aj (k:Int))∧
          aS a_ 2=(aj (cF t d))∧
          aS a_ 31=t.kv.v∧
          aS a_ 32=(aj (t.kids.length:Int))) (fun a_ _=>t.kids.length - (intOf (aS a_ 33)).toNat) ?_ ?_
   · refine ⟨0,n - 1,ae,?_,?_,?_,ab,(e1.trans (bE (by omega))),(e33.trans (bE (by omega))),e2,e31,e32⟩
     · omega
     · omega
     · rfl
   intro a8 w8 hI;obtain ⟨k,m,τ8,q0,q1,q2,st8,e1,e33,e2,e31,e32⟩:=hI;have hpk0:=hpk k;have m33:=e33;refine wp_seq (ew st8 [] ⟨am fun c=>dt rfl (c.p e33) (c.p e32),av⟩ fun ac ag ae ab aa=> ?_);obtain ⟨e1,e2,e31,e32,e33⟩:=aa.k5 e1 e2 e31 e32 e33;have e34:=aa.V 0;refine wp_seq ?_;refine wp_cond_split e34 (fun hc3=> ?_) (fun hc3=> ?_)
   · try simp only [ah] at hc3
     refine wp_skip ?_;refine wp_seq ?_;refine wp_block ?_;refine wp_seq (rg [_,_,box _ _ 0 9 [(aj 0),(aR (⟨#[]⟩:ByteArray)),(aB false),(.slice none 0 0),(aj 0),(aj 0),(aB false),(.slice none 0 0)],_] [0,1,0,7] ab [] ⟨am fun c=>aW rfl aP ak (c.p e31) (hT.at ab.ext).tl.sl.sl (c.p e33) (by omega) (by omega),am fun c=>dB (vs:=(tc (nth t.kids (k:Int)))) rfl aE ak (c.q 0) rfl (fun _ _ hj=>((hT.at (ab.ext.trans c.J.ext)).tl.sl).elem (bD (i:=(k:Int)) (by omega) (by omega)) hj),ci rfl rfl rfl rfl aG rfl,fJ (cx:=(tc (nth t.kids (k:Int)))) (off:=0) rfl ak fun c=>⟨c.rb 2 rfl,(c.rb 2 rfl).ptr,(c.q 1)⟩,av⟩ fun ac ag ae ab aa=> ?_);obtain ⟨b10x9,e9⟩:=gx ac 9;obtain ⟨e1,e2,e31,e32,e33,e34⟩:=aa.k6 e1 e2 e31 e32 e33 e34;have r0:=aa.rb 3 e9 rfl;refine wp_seq (ew ab [jb r0] ⟨am fun c=>au rfl rfl,av⟩ fun ac ag ae ab aa=> ?_);obtain ⟨e1,e2,e9,e31,e32,e33,e34⟩:=aa.k7 e1 e2 e9 e31 e32 e33 e34;have e10:=aa.V 0;replace r0:=aa.B 0;refine wp_seq (uU [0,0,0,7,15,31,31,63,255] ab [jb r0] ⟨am fun c=>eB rfl aE ak ((c.p e9).trans r0.ptr) (c.B 0),aq e1,aq e2,eu fun c=>⟨_,_,(iO rfl rfl Try.call50 (c.q 0) (c.q 1) (c.q 2)),ih _ (bo (by omega) (by omega)) m (cF t d) _ ((hT.at (ab.ext.trans c.J.ext)).tl.el (by omega) (by omega)) (by omega) (by omega) (by omega)⟩,bk 3,df 4,df 4,aK 5,aK 6,av⟩ fun ac ag ae ab aa=> ?_);obtain ⟨e2,e9,e31,e32,e33,e34⟩:=aa.k6 e2 e9 e31 e32 e33 e34;have e1:=aa.V 7;have e10:=aa.V 8;replace r0:=aa.B 0;refine wp_seq (eE ab [jb r0] ⟨aq e10,am fun c=>dC rfl (c.q 0),av⟩ fun ac ag ae ab aa=> ?_);obtain ⟨e1,e2,e9,e10,e31,e32,e33,e34⟩:=aa.k8 e1 e2 e9 e10 e31 e32 e33 e34;have e45:=aa.V 1;replace r0:=aa.B 0;refine wp_cond_split e45 (fun hc4=> ?_) (fun hc4=> ?_)
     · have hd4:=hc4;try simp only [ax,aw] at hd4
       refine wp_seq ?_;have hbad:(cC (nth t.kids (k:Int)) m (cF t d)).2=false:=by simpa using (by assumption:(!(cC (nth t.kids (k:Int)) m (cF t d)).2)=true)
       refine eN ab [jb r0] ⟨aq e1,aK 0,am fun c=>au rfl rfl,av⟩ fun ac ag ae ab aa=> ?_;obtain ⟨e1,e2,e9,e10,e31,e32,e33,e34,e45⟩:=aa.k9 e1 e2 e9 e10 e31 e32 e33 e34 e45;have e6:=aa.V 1;have e7:=aa.V 2;replace r0:=aa.B 0;refine wp_ret ?_;refine rp ?_;refine jU (fn:=Try.f50) rfl ab.defers e6 e7 ?_;exact ⟨congrArg _ (show (Value.tuple #[(aj ((cC (nth t.kids (k:Int)) m (cF t d)).1)),(aB false)])=(.tuple #[aj (cC t n d).1,aB (cC t n d).2]) from by rw [th hcd q2 (by omega) hbad]),ab.ext0⟩
     have hd4:=hc4;try simp only [ax,aw] at hd4
     refine wp_skip ?_;show _;have hgood:(cC (nth t.kids (k:Int)) m (cF t d)).2=true:=by simpa using (by assumption:(!(cC (nth t.kids (k:Int)) m (cF t d)).2)=false)
     have hrg:=ma (nth t.kids (k:Int)) (n:=m) (d:=cF t d) (by omega);refine eE ab [jb r0] ⟨am fun c=>cZ rfl (c.p e33) rfl (by omega),bk 0,av⟩ fun ac ag ae ab aa=> ?_;obtain ⟨e1,e2,e9,e10,e31,e32,e34,e45⟩:=aa.k8 e1 e2 e9 e10 e31 e32 e34 e45;have e33:=aa.V 1;replace r0:=aa.B 0;refine ⟨⟨k+1,(cC (nth t.kids (k:Int)) m (cF t d)).1,ae,?_,?_,?_,ab,(e1.trans (bE (by omega))),(e33.trans (bE (by omega))),e2,e31,e32⟩,?_⟩
     · omega
     · omega
     · exact qJ q2 (by omega) hgood
     · simp only [m33,e33,intOf];omega
   try simp only [ai,bd] at hc3
   refine wp_exit ?_;repeat (with_reducible refine ct ?_)
   refine cw ?_;refine wp_seq (eN ab [] ⟨aq e1,aK 0,am fun c=>au rfl rfl,av⟩ fun ac ag ae ab aa=> ?_);have e6:=aa.V 1;have e7:=aa.V 2;refine wp_ret ?_;refine rp ?_;refine jU (fn:=Try.f50) rfl ab.defers e6 e7 ?_;exact ⟨congrArg _ (show (Value.tuple #[(aj m),(aB true)])=(.tuple #[aj (cC t n d).1,aB (cC t n d).2]) from by rw [ti hcd q2 (by omega)]),ab.ext0⟩
 have hd4:=hc1;try simp only [aH,ai] at hd4
 refine wp_skip ?_;refine wp_seq ?_;refine wp_seq ?_;have hdp:d=cF t d:=by unfold cF oB;first | (rw [if_pos (by simpa using (by assumption))]) | (rw [if_neg (by simpa using (by assumption))])
 replace e2:aS ac 2=aj (cF t d):=e2.trans (bE hdp);have hdr:cF t d≤1000∧ -1≤cF t d:=by unfold cF;split <;> omega
 refine rj [0,1,3,7,15,31,63,127,255,511,1023] ab [jb r0] ⟨aq e1,am fun c=>dt rfl (c.q 0) rfl,bk 1,bJ 2 rfl fun c hpc=>aN rfl (c.p e2),bJ 2 rfl fun c hpc=>dt rfl (c.M 3 hpc) rfl,dM 2 4,bk 5,bJ 6 rfl fun c hpc=>eB rfl aE ak ((c.p e3).trans r0.ptr) (c.B 0),fE 6 false rfl fun c hpc=>⟨_,_,(bw rfl rfl Try.call67 (c.M 7 hpc)),tf t _ (hT.at (ab.ext.trans c.J.ext)) (by have hq0:=hpc;(try simp only [aH,ai,bd] at hq0);omega)⟩,bJ 6 rfl fun c hpc=>dC rfl (c.M 8 hpc),dM 6 9,av⟩ fun ac ag ae ab aa=> ?_;obtain ⟨e1,e2,e3,e6,e7⟩:=aa.k5 e1 e2 e3 e6 e7;have e26:=aa.V 10;replace r0:=aa.B 0;refine wp_cond_split e26 (fun hc5=> ?_) (fun hc5=> ?_)
 · have hd5:=hc5;try simp only [ba,aH,ax,aw,ah,ai,bd] at hd5
   refine wp_seq ?_;have hcd:=hc5;refine eN ab [jb r0] ⟨aq e1,aK 0,am fun c=>au rfl rfl,av⟩ fun ac ag ae ab aa=> ?_;obtain ⟨e1,e2,e3⟩:=aa.k3 e1 e2 e3;have e6:=aa.V 1;have e7:=aa.V 2;replace r0:=aa.B 0;refine wp_ret ?_;refine rp ?_;refine jU (fn:=Try.f50) rfl ab.defers e6 e7 ?_;exact ⟨congrArg _ (show (Value.tuple #[(aj n),(aB false)])=(.tuple #[aj (cC t n d).1,aB (cC t n d).2]) from by rw [vx hcd]),ab.ext0⟩
 have hd5:=hc5;try simp only [ba,aH,ax,aw,ah,ai,bd] at hd5
 refine wp_skip ?_;refine wp_seq ?_;have hcd:((decide (n < 1) || decide (cF t d < 0)) || !cV t)=false:=by assumption
 have hce:=hcd;simp only [aH,ai,bd] at hce;refine eN ab [jb r0] ⟨aq e1,am fun c=>kn rfl (c.q 0) rfl (by omega),aK 1,av⟩ fun ac ag ae ab aa=> ?_;obtain ⟨e2,e3,e6,e7⟩:=aa.k4 e2 e3 e6 e7;have e1:=aa.V 2;replace r0:=aa.B 0;refine wp_seq ?_;refine wp_seq (lS [0,1,3,0] ab [jb r0] ⟨cg aA ck e3 r0.ptr,eG dh 0 0 7,am fun c=>cU rfl aP (c.q 1) (hT.at ab.ext).tl.sl.sl,am fun c=>aN rfl rfl,av⟩ fun ac ag ae ab aa=> ?_);obtain ⟨e1,e2,e6,e7⟩:=aa.k4 e1 e2 e6 e7;have e31:=aa.V 1;have e32:=aa.V 2;have e33:=aa.V 3;refine wp_block ?_;refine wp_loop (fun a_ w_=>∃(k:Nat) (m:Int) (τ:Nat→aQ),(k≤t.kids.length)∧
      (0≤m∧m≤1000)∧
      (gu (t.kids.map cC) (n - 1) (cF t d)=gu ((t.kids.drop k).map cC) m (cF t d))∧
      St (Nw w) w 49 a_ w_ τ∧
      aS a_ 1=(aj m)∧
      aS a_ 33=(aj (k:Int))∧
      aS a_ 2=(aj (cF t d))∧
      aS a_ 31=t.kv.v∧
      aS a_ 32=(aj (t.kids.length:Int))) (fun a_ _=>t.kids.length - (intOf (aS a_ 33)).toNat) ?_ ?_
 · refine ⟨0,n - 1,ae,?_,?_,?_,ab,(e1.trans (bE (by omega))),(e33.trans (bE (by omega))),e2,e31,e32⟩
   · omega
   · omega
   · rfl
 intro a21 w21 hI;obtain ⟨k,m,τ21,q0,q1,q2,st21,e1,e33,e2,e31,e32⟩:=hI;have hpk0:=hpk k;have m33:=e33;refine wp_seq (ew st21 [] ⟨am fun c=>dt rfl (c.p e33) (c.p e32),av⟩ fun ac ag ae ab aa=> ?_);obtain ⟨e1,e2,e31,e32,e33⟩:=aa.k5 e1 e2 e31 e32 e33;have e34:=aa.V 0;refine wp_seq ?_;refine wp_cond_split e34 (fun hc6=> ?_) (fun hc6=> ?_)
 · try simp only [ah] at hc6
   refine wp_skip ?_;refine wp_seq ?_;refine wp_block ?_;refine wp_seq (rg [_,_,box _ _ 0 9 [(aj 0),(aR (⟨#[]⟩:ByteArray)),(aB false),(.slice none 0 0),(aj 0),(aj 0),(aB false),(.slice none 0 0)],_] [0,1,0,7] ab [] ⟨am fun c=>aW rfl aP ak (c.p e31) (hT.at ab.ext).tl.sl.sl (c.p e33) (by omega) (by omega),am fun c=>dB (vs:=(tc (nth t.kids (k:Int)))) rfl aE ak (c.q 0) rfl (fun _ _ hj=>((hT.at (ab.ext.trans c.J.ext)).tl.sl).elem (bD (i:=(k:Int)) (by omega) (by omega)) hj),ci rfl rfl rfl rfl aG rfl,fJ (cx:=(tc (nth t.kids (k:Int)))) (off:=0) rfl ak fun c=>⟨c.rb 2 rfl,(c.rb 2 rfl).ptr,(c.q 1)⟩,av⟩ fun ac ag ae ab aa=> ?_);obtain ⟨b23x9,e9⟩:=gx ac 9;obtain ⟨e1,e2,e31,e32,e33,e34⟩:=aa.k6 e1 e2 e31 e32 e33 e34;have r0:=aa.rb 3 e9 rfl;refine wp_seq (ew ab [jb r0] ⟨am fun c=>au rfl rfl,av⟩ fun ac ag ae ab aa=> ?_);obtain ⟨e1,e2,e9,e31,e32,e33,e34⟩:=aa.k7 e1 e2 e9 e31 e32 e33 e34;have e10:=aa.V 0;replace r0:=aa.B 0;refine wp_seq (uU [0,0,0,7,15,31,31,63,255] ab [jb r0] ⟨am fun c=>eB rfl aE ak ((c.p e9).trans r0.ptr) (c.B 0),aq e1,aq e2,eu fun c=>⟨_,_,(iO rfl rfl Try.call50 (c.q 0) (c.q 1) (c.q 2)),ih _ (bo (by omega) (by omega)) m (cF t d) _ ((hT.at (ab.ext.trans c.J.ext)).tl.el (by omega) (by omega)) (by omega) (by omega) (by omega)⟩,bk 3,df 4,df 4,aK 5,aK 6,av⟩ fun ac ag ae ab aa=> ?_);obtain ⟨e2,e9,e31,e32,e33,e34⟩:=aa.k6 e2 e9 e31 e32 e33 e34;have e1:=aa.V 7;have e10:=aa.V 8;replace r0:=aa.B 0;refine wp_seq (eE ab [jb r0] ⟨aq e10,am fun c=>dC rfl (c.q 0),av⟩ fun ac ag ae ab aa=> ?_);obtain ⟨e1,e2,e9,e10,e31,e32,e33,e34⟩:=aa.k8 e1 e2 e9 e10 e31 e32 e33 e34;have e45:=aa.V 1;replace r0:=aa.B 0;refine wp_cond_split e45 (fun hc7=> ?_) (fun hc7=> ?_)
   · have hd7:=hc7;try simp only [ax,aw] at hd7
     refine wp_seq ?_;have hbad:(cC (nth t.kids (k:Int)) m (cF t d)).2=false:=by simpa using (by assumption:(!(cC (nth t.kids (k:Int)) m (cF t d)).2)=true)
     refine eN ab [jb r0] ⟨aq e1,aK 0,am fun c=>au rfl rfl,av⟩ fun ac ag ae ab aa=> ?_;obtain ⟨e1,e2,e9,e10,e31,e32,e33,e34,e45⟩:=aa.k9 e1 e2 e9 e10 e31 e32 e33 e34 e45;have e6:=aa.V 1;have e7:=aa.V 2;replace r0:=aa.B 0;refine wp_ret ?_;refine rp ?_;refine jU (fn:=Try.f50) rfl ab.defers e6 e7 ?_;exact ⟨congrArg _ (show (Value.tuple #[(aj ((cC (nth t.kids (k:Int)) m (cF t d)).1)),(aB false)])=(.tuple #[aj (cC t n d).1,aB (cC t n d).2]) from by rw [th hcd q2 (by omega) hbad]),ab.ext0⟩
   have hd7:=hc7;try simp only [ax,aw] at hd7
   refine wp_skip ?_;show _;have hgood:(cC (nth t.kids (k:Int)) m (cF t d)).2=true:=by simpa using (by assumption:(!(cC (nth t.kids (k:Int)) m (cF t d)).2)=false)
   have hrg:=ma (nth t.kids (k:Int)) (n:=m) (d:=cF t d) (by omega);refine eE ab [jb r0] ⟨am fun c=>cZ rfl (c.p e33) rfl (by omega),bk 0,av⟩ fun ac ag ae ab aa=> ?_;obtain ⟨e1,e2,e9,e10,e31,e32,e34,e45⟩:=aa.k8 e1 e2 e9 e10 e31 e32 e34 e45;have e33:=aa.V 1;replace r0:=aa.B 0;refine ⟨⟨k+1,(cC (nth t.kids (k:Int)) m (cF t d)).1,ae,?_,?_,?_,ab,(e1.trans (bE (by omega))),(e33.trans (bE (by omega))),e2,e31,e32⟩,?_⟩
   · omega
   · omega
   · exact qJ q2 (by omega) hgood
   · simp only [m33,e33,intOf];omega
 try simp only [ai,bd] at hc6
 refine wp_exit ?_;repeat (with_reducible refine ct ?_)
 refine cw ?_;refine wp_seq (eN ab [] ⟨aq e1,aK 0,am fun c=>au rfl rfl,av⟩ fun ac ag ae ab aa=> ?_);have e6:=aa.V 1;have e7:=aa.V 2;refine wp_ret ?_;refine rp ?_;refine jU (fn:=Try.f50) rfl ab.defers e6 e7 ?_;exact ⟨congrArg _ (show (Value.tuple #[(aj m),(aB true)])=(.tuple #[aj (cC t n d).1,aB (cC t n d).2]) from by rw [ti hcd q2 (by omega)]),ab.ext0⟩
theorem BK (t:Tr):∀(n d:Int) (w:World),oI w t→eJ t≤1000000→0≤n∧n≤1000→0≤d∧d≤1000→Calls Try.prog 50 #[t.v,.int .i64 n,.int .i64 d] w (fun e w'=>e= .returned (.tuple #[.int .i64 (cC t n d).1,.bool (cC t n d).2])∧Ext aV w w'):=Tr.ind (P:=fun t=>∀(n d:Int) (w:World),oI w t→eJ t≤1000000→0≤n∧n≤1000→0≤d∧d≤1000→Calls Try.prog 50 #[t.v,.int .i64 n,.int .i64 d] w (fun e w'=>e= .returned (.tuple #[.int .i64 (cC t n d).1,.bool (cC t n d).2])∧Ext aV w w')) wy t
set_option maxRecDepth 100000 in
theorem yh (t:Tr) (w:World) (hT:oI w t) (hP:eJ t≤1000000):Calls Try.prog 34 #[(ta t)] w (fun e w'=>e= .returned (aB ((cC t 512 16).2))∧Ext aV w w'):=by
 refine enter (n:=11) Try.func34 rfl rfl (ar rfl) ?_;intro a0 τ0 ha st0;have e0:aS a0 0=(ta t):=ha 0 _ rfl;clear ha;refine wp_seq (rg [box _ _ 0 1 (tc t),_] [0,0] st0 [] ⟨gV (v:=(ta t)) rfl rfl rfl rfl rfl (fun _ _ _ _ c=>(c.p e0)),am fun c=>au rfl rfl,av⟩ fun ac ag ae ab aa=> ?_);obtain ⟨b1x1,e1⟩:=gx ac 1;have e2:=aa.V 1;have r0:=aa.rb 0 e1 rfl;refine wp_seq (tU [0,1,3,7,7,15,63] ab [jb r0] ⟨am fun c=>eB rfl aE ak ((c.p e1).trans r0.ptr) (c.B 0),eu fun c=>⟨_,_,(iO rfl rfl Try.call50 (c.q 0) rfl rfl),BK t 512 16 _ (hT.at (ab.ext.trans c.J.ext)) (by omega) (by omega) (by omega)⟩,bk 1,df 2,df 2,aK 3,aK 4,av⟩ fun ac ag ae ab aa=> ?_);replace e2:=aa.k1 e2;have e4:=aa.V 6;refine wp_seq (eE ab [] ⟨aq e4,aK 0,av⟩ fun ac ag ae ab aa=> ?_);have e2:=aa.V 1;refine wp_ret ?_;refine rp ?_;refine cG (fn:=Try.f34) rfl ab.defers e2 ?_;exact ⟨rfl,ab.ext0⟩
end
section
open Go.RowKit
open Srt
def ij:Tr→Bool:=ku fun t l=>l.all (fun b=>b)&&cV t
theorem kA (t:Tr):ij t=(t.kids.all ij&&cV t):=by
  have h:=gZ (fun t l=>l.all (fun b=>b)&&cV t) t;rw [List.all_map] at h;exact h
theorem wz (t:Tr):mD t [0,1]=t.kids.any fun y=>decide (y.k=0) || decide (y.k=1):=by
  unfold mD;congr 1;funext y;simp
theorem wA (t:Tr):mD t [1]=t.kids.any fun y=>decide (y.k=1):=by
  unfold mD;congr 1;funext y;simp
end
section
open Srt
theorem wB (t:Tr) (d:Int):(eC t≤d)↔(lT (t.kids.map eC)≤cF t d):=by
  rw [kT];unfold cF;split <;> omega
theorem wC (t:Tr):∀n d:Int,0≤n→0≤d→(((cC t n d).2=true↔(cE t≤n∧eC t≤d∧ij t=true))∧((cC t n d).2=true→(cC t n d).1=n - cE t)):=by
  induction t using Tr.ind with
  | h t ih =>
    intro n d hn hd;have hK:∀ks:List Tr,(∀k ∈ ks,k ∈ t.kids)→∀m d:Int,0≤m→0≤d→(((gu (ks.map cC) m d).2=true↔(cR (ks.map cE)≤m∧lT (ks.map eC)≤d∧ks.all ij=true))∧((gu (ks.map cC) m d).2=true→(gu (ks.map cC) m d).1=m - cR (ks.map cE))):=by
      intro ks;induction ks with
      | nil => intro _ m d h h2; simp [gu, cR, lT]; omega
      | cons k ks ih2 =>
        intro hm m d h h2;obtain ⟨i1,i2⟩:=ih k (hm k (by simp)) m d h h2;have hr:=ma k (n:=m) (d:=d) h;have hs:cR ((k::ks).map cE)=cE k+cR (ks.map cE):=by
          rw [show k::ks=[k]++ks from rfl,bA,iQ];simp [cR]
        have hx:∀d:Int,lT ((k::ks).map eC)≤d↔(eC k≤d∧lT (ks.map eC)≤d):=by
          intro d;constructor
          · intro hh;refine ⟨jA (pA (by simp)) hh,oK (jA (nr _) hh) fun x hx=>jA (pA (by simp at hx ⊢;exact .inr hx)) hh⟩
          · rintro ⟨h3,h4⟩
            refine oK (jA (nr _) h4) fun x hx=> ?_;simp at hx;rcases hx with rfl | ⟨q,hq,rfl⟩
            · exact h3
            · exact jA (pA (List.mem_map.2 ⟨q,hq,rfl⟩)) h4
        have hp:0≤cR (ks.map cE):=gH fun x hx=>by
          obtain ⟨q,_,rfl⟩:=List.mem_map.1 hx;have:=jW q;omega
        rw [aZ,gu,hs,hx];split
        · rename_i hf;have hf':=i2 hf;obtain ⟨g1,g2,g3⟩:=i1.1 hf;obtain ⟨j1,j2⟩:=ih2 (fun x hx=>hm x (by simp [hx])) (cC k m d).1 d hr.1 h2;rw [hf'] at j1 j2 ⊢;refine ⟨?_,fun hh=> ?_⟩
          · rw [j1,dg,g3,fq];constructor
            · rintro ⟨a,b,c⟩;exact ⟨by omega,⟨g2,b⟩,c⟩
            · rintro ⟨a,⟨_,b⟩,c⟩;exact ⟨by omega,b,c⟩
          · rw [j2 hh];omega
        · rename_i hf;refine ⟨⟨fun hh=>(by cases hh),fun ⟨a,b,c⟩=> ?_⟩,fun hh=>(by cases hh)⟩;rw [dg,ao] at c;exact absurd (i1.2 ⟨by omega,b.1,c.1⟩) hf
    have hp:0≤cR (t.kids.map cE):=gH fun x hx=>by
      obtain ⟨q,_,rfl⟩:=List.mem_map.1 hx;have:=jW q;omega
    have hx0:=nr (t.kids.map eC);rw [lZ,kA,gJ,wB];split
    · rename_i hc;refine ⟨⟨fun hh=>(by cases hh),fun ⟨a,b,c⟩=> ?_⟩,fun hh=>(by cases hh)⟩;rw [ao] at c;simp [c.2] at hc;omega
    · rename_i hc;simp only [ba,ah,ax,not_or,bd,aL] at hc;obtain ⟨j1,j2⟩:=hK t.kids (fun _ h=>h) (n - 1) (cF t d) (by omega) (by omega);refine ⟨?_,fun hh=> ?_⟩
      · rw [j1,hc.2,Bool.and_true];constructor
        · rintro ⟨a,b,c⟩;exact ⟨by omega,b,c⟩
        · rintro ⟨a,b,c⟩;exact ⟨by omega,b,c⟩
      · rw [j2 hh];omega
def Ae (t:Tr):Bool:=(decide (cE t≤512)&&decide (eC t≤16))&&ij t
theorem vy (t:Tr):(cC t 512 16).2=Ae t:=by
  rw [eK,(wC t 512 16 (by omega) (by omega)).1];unfold Ae;rw [ao,ao,ah,ah,and_assoc]
theorem uu (t:Tr):cV (er t)=cV t:=by
  have h1:∀f:Int→Bool,(er t).kids.any (fun x=>f x.k)=t.kids.any (fun x=>f x.k):=fun f=>by
    rw [kr,List.any_map];congr 1;funext x;simp [wh]
  have h2:(nth (er t).kids 0).k=(nth t.kids 0).k:=by
    rw [kr];cases hk:t.kids with
    | nil => rfl
    | cons x l =>
      show (nth (List.map er (x::l)) 0).k=x.k;rw [←wh x];rfl
  have h3:(er t).kids.length=t.kids.length:=by rw [kr];simp
  have h4:∀ks,mD (er t) ks=mD t ks:=fun ks=>h1 fun k=>ks.any fun y=>decide (k=y);have h5:lc (er t)=lc t:=by unfold lc;rw [lR]
  unfold cV;rw [h2,h3,h4,h4,h5];rw [lR]
theorem tj (t:Tr):cC (er t)=cC t:=nq (fun t l=>by funext n d;rw [uu];unfold cF oB;rw [wh]) t
end
section
open Srt
def cf (cs:List ByteArray) (i:Nat):ByteArray:=if (cs.length:Int)≤(i:Int) then ⟨#[]⟩ else nth cs (i:Int)
def dX (cs:List ByteArray) (i:Nat) (c:ByteArray):Bool:= !(decide ((cs.length:Int)≤(i:Int)) || (!(gD (nth cs (i:Int)) c)))
def tkN (cs:List ByteArray) (i:Nat) (c:ByteArray):Nat:=if dX cs i c=true then i+1 else i
theorem ia {cs:List ByteArray} {i:Nat} {c:ByteArray} (h:dX cs i c=true):tkN cs i c=i+1:=if_pos h
theorem iS {cs:List ByteArray} {i:Nat} {c:ByteArray} (h:dX cs i c=false):tkN cs i c=i:=if_neg (by rw [h];decide)
theorem BL (cs:List ByteArray) (i:Nat) (c:ByteArray):tkN cs i c≤i+1∧i≤tkN cs i c:=by unfold tkN;split <;> omega
theorem fx {cs:List ByteArray} {i:Nat} {c:ByteArray} (h:dX cs i c=true):i < cs.length:=by
  simp [dX] at h;omega
theorem fZ {cs:List ByteArray} {i:Nat} (h:((cf cs i).size:Int)=1):i < cs.length:=by
  unfold cf at h;split at h
  · exact absurd h (by decide)
  · omega
theorem lx {cs:List ByteArray} {i:Nat} (h:gD (cf cs i) (⟨#[]⟩:ByteArray)=false):i < cs.length:=by
  unfold cf at h;split at h
  · exact absurd h (by decide+kernel)
  · omega
def vz (n:Int):Bool:=(decide (65≤n)&&decide (n≤90)) || (decide (97≤n)&&decide (n≤122))
def jt (n:Int):Bool:=decide (48≤n)&&decide (n≤57)
def gv:Tr:=cB 0 ⟨#[]⟩ false 0 0 false
def ly (ng:Bool) (rv:Sv) (rows:List Rw):Tr:=⟨4,⟨#[]⟩,ng,rv,rows,0,0,false,Sv.nil,[]⟩
theorem yi (ng:Bool) (rv:Sv) (rows:List Rw):er (ly ng rv rows)=ly ng Sv.nil rows:=by rw [lR];rfl
theorem CQ {G Z:aQ} {w:World} {ng:Bool} {rv:Sv} {rows:List Rw} (h:(eY gC G rv.v rows).P Z w):(iF G (ly ng rv rows)).P Z w:=
  .mk h.1 h.2 (SlT.nil _ _) (fun h=>absurd rfl h) (fun k h=>by cases h)
def eF (c:ByteArray):ByteArray × Bool:=
  if gD c ⟨#[]⟩=true then (⟨#[]⟩,false) else if gD c ⟨#[110]⟩=true then (⟨#[10]⟩,true) else if gD c ⟨#[114]⟩=true then (⟨#[13]⟩,true) else if gD c ⟨#[116]⟩=true then (⟨#[9]⟩,true)
  else if gD c ⟨#[102]⟩=true then (⟨#[12]⟩,true) else if gD c ⟨#[118]⟩=true then (⟨#[11]⟩,true)
  else if (decide ((c.size:Int)=1)&&(vz (bI c 0) || jt (bI c 0)))=true then (⟨#[]⟩,false) else (c,true)
def lH (cs:List ByteArray):Nat→Int→Nat→Nat→Int × Nat × Nat
  | 0, n, m, i => (n, m, i)
  | f + 1, n, m, i => if ((decide ((m : Int) < 3) && decide (((cf cs i).size : Int) = 1)) && jt (bI (cf cs i) 0)) = true then lH cs f (n * 10 + (bI (cf cs i) 0 - 48)) (m + 1) (i + 1) else (n, m, i)
def bO (cs:List ByteArray) (i:Nat):Int × Nat × Nat:=lH cs 4 0 0 i
def iq (r:Int × Nat × Nat):Bool:=decide ((0:Int) < (r.2.1:Int))&&decide (r.1≤255)
theorem oR (cs:List ByteArray):∀(f:Nat) (n:Int) (m i:Nat),i≤(lH cs f n m i).2.2∧((lH cs f n m i).2.2≤cs.length∨(lH cs f n m i).2.2=i)
  | 0, n, m, i => ⟨bj _, .inr rfl⟩
  | f + 1, n, m, i => by
    rw [lH];split
    · rename_i h;simp only [ao,ah] at h;have hlt:=fZ h.1.2;have:=oR cs f (n * 10+(bI (cf cs i) 0 - 48)) (m+1) (i+1);omega
    · exact ⟨bj _,.inr rfl⟩
theorem vA (cs:List ByteArray):∀(f:Nat) (n:Int) (m i:Nat),0≤n→m≤3→n < 10 ^ m→0≤(lH cs f n m i).1∧(lH cs f n m i).1 < 1000
  | 0, n, m, i => fun h0 hm h1 => ⟨h0, jO h1 (by
      show (10:Int) ^ m≤1000;match m,hm with
      | 0, _ => decide
      | 1, _ => decide
      | 2, _ => decide
      | 3, _ => decide)⟩
  | f + 1, n, m, i => fun h0 hm h1 => by
    rw [lH];split
    · rename_i h;simp only [ao,ah,jt] at h;refine vA cs f _ (m+1) (i+1) (by omega) (by omega) ?_;rw [Int.pow_succ];omega
    · refine ⟨h0,jO h1 ?_⟩;match m,hm with
      | 0, _ => decide
      | 1, _ => decide
      | 2, _ => decide
      | 3, _ => decide
theorem rK (cs:List ByteArray) (i:Nat):0≤(bO cs i).1∧(bO cs i).1 < 1000:=vA cs 4 0 0 i (by decide) (by decide) (by decide)
def yj (x:Tr) (mn mx:Int) (lz:Bool):Tr:=eR 7 ⟨#[]⟩ false mn mx lz Sv.nil [x]
def jv (cs:List ByteArray) (x:Tr) (j:Nat) (mn mx:Int):Tr × Int × Nat:=(yj x mn mx (dX cs j ⟨#[63]⟩),0,tkN cs j ⟨#[63]⟩)
def kI (cs:List ByteArray) (x:Tr) (mn mx:Int) (ok:Bool) (j:Nat):Tr × Int × Nat:=
  if ok=false then (gv,10,j) else if dX cs j ⟨#[125]⟩=false then (gv,10,j) else if ((!decide (mx= -1))&&decide (mx < mn))=true then (gv,10,j+1) else jv cs x (j+1) mn mx
def dk (cs:List ByteArray) (x:Tr) (i:Nat):Tr × Int × Nat:=
  if dX cs i ⟨#[42]⟩=true then jv cs x (i+1) 0 (-1)
  else if dX cs i ⟨#[43]⟩=true then jv cs x (i+1) 1 (-1)
  else if dX cs i ⟨#[63]⟩=true then jv cs x (i+1) 0 1
  else if dX cs i ⟨#[123]⟩=true then
    if iq (bO cs (i+1))=false then (gv,10,(bO cs (i+1)).2.2)
    else if dX cs (bO cs (i+1)).2.2 ⟨#[44]⟩=true then
      if gD (cf cs ((bO cs (i+1)).2.2+1)) ⟨#[125]⟩=false then kI cs x (bO cs (i+1)).1 (bO cs ((bO cs (i+1)).2.2+1)).1 (iq (bO cs ((bO cs (i+1)).2.2+1))) (bO cs ((bO cs (i+1)).2.2+1)).2.2
      else kI cs x (bO cs (i+1)).1 (-1) true ((bO cs (i+1)).2.2+1)
    else kI cs x (bO cs (i+1)).1 (bO cs (i+1)).1 true (bO cs (i+1)).2.2
  else (x,0,i)
def bl (cs:List ByteArray) (i:Nat):List Rw × ByteArray × Bool × Nat:=
  if (gD (cf cs i) ⟨#[]⟩ || gD (cf cs i) ⟨#[93]⟩)=true then ([],⟨#[]⟩,false,i)
  else if gD (cf cs i) ⟨#[92]⟩=false then ([],cf cs i,true,i+1)
  else if (decide (((cf cs (i+1)).size:Int)=1)&&gh (bI (cf cs (i+1)) 0))=true then (fm (bI (cf cs (i+1)) 0),⟨#[]⟩,true,i+2)
  else ([],(eF (cf cs (i+1))).1,(eF (cf cs (i+1))).2,i+2)
def hD (cs:List ByteArray) (ng:Bool):Nat→Nat→List Rw→Tr × Int × Nat
  | 0, i, _ => (gv, 99, i)
  | f + 1, i, rows =>
    if dX cs i ⟨#[93]⟩=true then (ly ng Sv.nil (fl rows),0,i+1)
    else if (bl cs i).2.2.1=false then (gv,10,(bl cs i).2.2.2)
    else if (0:Int) < ((bl cs i).1.length:Int) then hD cs ng f (bl cs i).2.2.2 (rows++(bl cs i).1)
    else if ((gD (cf cs (bl cs i).2.2.2) ⟨#[45]⟩&&decide (((bl cs i).2.2.2:Int)+1 < (cs.length:Int)))&& !(gD (nth cs (((bl cs i).2.2.2:Int)+1)) ⟨#[93]⟩))=true then
      if (((!(bl cs ((bl cs i).2.2.2+1)).2.2.1) || decide ((0:Int) < ((bl cs ((bl cs i).2.2.2+1)).1.length:Int))) || lK (bl cs ((bl cs i).2.2.2+1)).2.1 (bl cs i).2.1)=true then (gv,10,(bl cs ((bl cs i).2.2.2+1)).2.2.2)
      else hD cs ng f (bl cs ((bl cs i).2.2.2+1)).2.2.2 (rows++ [((bl cs i).2.1,(bl cs ((bl cs i).2.2.2+1)).2.1)])
    else hD cs ng f (bl cs i).2.2.2 (rows++ [((bl cs i).2.1,(bl cs i).2.1)])
def ja (cs:List ByteArray) (i:Nat):Tr × Int × Nat:=hD cs (dX cs i ⟨#[94]⟩) (cs.length+1) (tkN cs i ⟨#[94]⟩) []
def fM (cs:List ByteArray) (i:Nat):Tr × Int × Nat:=
  if (decide (((cf cs i).size:Int)=1)&&gh (bI (eZ (cf cs i)) 0))=true then (ly (!(gD (cf cs i) (eZ (cf cs i)))) Sv.nil (fm (bI (eZ (cf cs i)) 0)),0,i+1)
  else if (eF (cf cs i)).2=false then (gv,10,i)
  else (cB 2 (eF (cf cs i)).1 false 0 0 false,0,i+1)
def BM (c:ByteArray):Bool:=((((((gD c ⟨#[42]⟩ || gD c ⟨#[43]⟩) || gD c ⟨#[63]⟩) || gD c ⟨#[41]⟩) || gD c ⟨#[123]⟩) || gD c ⟨#[124]⟩) || (!(cY c)))
def da (sub:Int→Nat→Tr × Int × Nat) (cs:List ByteArray) (d:Int) (i:Nat):Tr × Int × Nat:=
  if dX cs i ⟨#[46]⟩=true then (cB 3 ⟨#[]⟩ false 0 0 false,0,i+1)
  else if dX cs i ⟨#[40]⟩=true then
    if 16≤d then (gv,8,i+1)
    else if dX cs (i+1) ⟨#[63]⟩=true then
      if dX cs (i+2) ⟨#[58]⟩=false then (gv,10,i+2)
      else if (sub (d+1) (i+3)).2.1≠0 then (gv,(sub (d+1) (i+3)).2.1,(sub (d+1) (i+3)).2.2)
      else if dX cs (sub (d+1) (i+3)).2.2 ⟨#[41]⟩=false then (gv,10,(sub (d+1) (i+3)).2.2)
      else (eR 6 ⟨#[]⟩ false 0 0 false Sv.nil [(sub (d+1) (i+3)).1],0,(sub (d+1) (i+3)).2.2+1)
    else if (sub (d+1) (i+1)).2.1≠0 then (gv,(sub (d+1) (i+1)).2.1,(sub (d+1) (i+1)).2.2)
    else if dX cs (sub (d+1) (i+1)).2.2 ⟨#[41]⟩=false then (gv,10,(sub (d+1) (i+1)).2.2)
    else (eR 5 ⟨#[]⟩ false 0 0 false Sv.nil [(sub (d+1) (i+1)).1],0,(sub (d+1) (i+1)).2.2+1)
  else if dX cs i ⟨#[91]⟩=true then ja cs (i+1)
  else if dX cs i ⟨#[92]⟩=true then fM cs (i+1)
  else if BM (cf cs i)=true then (gv,10,i)
  else (cB 2 (cf cs i) false 0 0 false,0,i+1)
def qK (cs:List ByteArray) (i:Nat) (c:ByteArray):Bool:=(gD (cf cs i) ⟨#[92]⟩&&decide ((i:Int)+1 < (cs.length:Int)))&&gD (nth cs ((i:Int)+1)) c
def ec (sub:Int→Nat→Tr × Int × Nat) (cs:List ByteArray) (d:Int) (i:Nat):Tr × Int × Nat:=
  if dX cs i ⟨#[94]⟩=true then (cB 8 ⟨#[]⟩ false 0 0 false,0,i+1)
  else if dX cs i ⟨#[36]⟩=true then (cB 9 ⟨#[]⟩ false 0 0 false,0,i+1)
  else if qK cs i ⟨#[98]⟩=true then (cB 10 ⟨#[]⟩ false 0 0 false,0,i+2)
  else if qK cs i ⟨#[66]⟩=true then (cB 11 ⟨#[]⟩ false 0 0 false,0,i+2)
  else if (da sub cs d i).2.1≠0 then (gv,(da sub cs d i).2.1,(da sub cs d i).2.2)
  else dk cs (da sub cs d i).1 (da sub cs d i).2.2
def tk (cs:List ByteArray) (i:Nat):Bool:=(decide ((i:Int) < (cs.length:Int))&& !(gD (cf cs i) ⟨#[124]⟩))&& !(gD (cf cs i) ⟨#[41]⟩)
def dW (cs:List ByteArray):Nat→Int→Nat→List Tr→List Tr→Tr × Int × Nat
  | 0, _, i, _, _ => (gv, 99, i)
  | f + 1, d, i, alts, terms =>
    if tk cs i=true then
      if (ec (fun d j=>dW cs f d j [] []) cs d i).2.1≠0 then (gv,(ec (fun d j=>dW cs f d j [] []) cs d i).2.1,(ec (fun d j=>dW cs f d j [] []) cs d i).2.2)
      else dW cs f d (ec (fun d j=>dW cs f d j [] []) cs d i).2.2 alts (terms++ [(ec (fun d j=>dW cs f d j [] []) cs d i).1])
    else if dX cs i ⟨#[124]⟩=true then dW cs f d (i+1) (alts++ [dA terms]) []
    else (kU (alts++ [dA terms]),0,i)
def fI (s:ByteArray):Tr × Int:=
  if 256 < (s.size:Int) then (gv,4)
  else if (dW (be s) ((be s).length+1) 0 0 [] []).2.1≠0 then (gv,(dW (be s) ((be s).length+1) 0 0 [] []).2.1)
  else if ((dW (be s) ((be s).length+1) 0 0 [] []).2.2:Int) < ((be s).length:Int) then (gv,10)
  else ((dW (be s) ((be s).length+1) 0 0 [] []).1,0)
end
section
open Srt
theorem rL (cs:List ByteArray) (i:Nat) (c:ByteArray):i≤tkN cs i c∧(tkN cs i c≤cs.length∨tkN cs i c=i):=by
  unfold tkN;split
  · rename_i h;have:=fx h;omega
  · omega
theorem uv {c:ByteArray} (h:(eF c).2=true):gD c (⟨#[]⟩:ByteArray)=false:=by
  cases hz:gD c (⟨#[]⟩:ByteArray) with
  | false => rfl
  | true =>
    simp only [eF] at h;rw [if_pos hz] at h;cases h
theorem rM {cs:List ByteArray} {i:Nat} (h:(bl cs i).2.2.1=true):i < (bl cs i).2.2.2∧(bl cs i).2.2.2≤cs.length:=by
  unfold bl at h ⊢;split at h
  · cases h
  · rename_i h0;have hlt:i < cs.length:=by
      rw [aI,aH] at h0;exact lx h0.1
    rw [if_neg h0];split at h
    · rename_i h1;rw [if_pos h1];simp;omega
    · rename_i h1;rw [if_neg h1];split at h
      · rename_i h2;rw [if_pos h2];rw [ao,ah] at h2;have:=fZ h2.1;simp;omega
      · rename_i h2;rw [if_neg h2];have:=lx (uv h);simp;omega
theorem mm (cs:List ByteArray) (x:Tr) (j:Nat) (mn mx:Int):j≤(jv cs x j mn mx).2.2∧((jv cs x j mn mx).2.2≤cs.length∨(jv cs x j mn mx).2.2=j):=rL cs j _
theorem rN (cs:List ByteArray) (i:Nat):i≤(bO cs i).2.2∧((bO cs i).2.2≤cs.length∨(bO cs i).2.2=i):=oR cs 4 0 0 i
theorem rO {cs:List ByteArray} {x:Tr} {mn mx:Int} {ok:Bool} {j:Nat} (h:(kI cs x mn mx ok j).2.1=0):j≤(kI cs x mn mx ok j).2.2∧(kI cs x mn mx ok j).2.2≤cs.length:=by
  unfold kI at h ⊢;split at h
  · cases h
  · rename_i h1;rw [if_neg h1];split at h
    · cases h
    · rename_i h2;rw [if_neg h2];split at h
      · cases h
      · rename_i h3;rw [if_neg h3];have:=fx (by simpa using h2:dX cs j ⟨#[125]⟩=true);have:=mm cs x (j+1) mn mx;omega
theorem yk {cs:List ByteArray} {x:Tr} {i:Nat} (h:(dk cs x i).2.1=0):i≤(dk cs x i).2.2∧((dk cs x i).2.2≤cs.length∨(dk cs x i).2.2=i):=by
  have one:∀c,dX cs i c=true→∀mn mx,i≤(jv cs x (i+1) mn mx).2.2∧((jv cs x (i+1) mn mx).2.2≤cs.length∨(jv cs x (i+1) mn mx).2.2=i):=fun c hc mn mx=>by
    have:=fx hc;have:=mm cs x (i+1) mn mx;omega
  unfold dk at h ⊢;split
  · exact one _ (by assumption) _ _
  · split
    · exact one _ (by assumption) _ _
    · split
      · exact one _ (by assumption) _ _
      · split
        · rename_i h1 h2 h3 h4;rw [if_neg h1,if_neg h2,if_neg h3,if_pos h4] at h;have a1:=fx h4;have a2:=rN cs (i+1);split
          · rename_i h5;rw [if_pos h5] at h;cases h
          · rename_i h5;rw [if_neg h5] at h;split
            · rename_i h6;rw [if_pos h6] at h;have a3:=rN cs ((bO cs (i+1)).2.2+1);split
              · rename_i h7;rw [if_pos h7] at h;have:=rO h;omega
              · rename_i h7;rw [if_neg h7] at h;have:=rO h;omega
            · rename_i h6;rw [if_neg h6] at h;have:=rO h;omega
        · exact ⟨bj _,.inr rfl⟩
theorem oS {cs:List ByteArray} {ng:Bool}:∀(f i:Nat) (rows:List Rw),(hD cs ng f i rows).2.1=0→i < (hD cs ng f i rows).2.2∧(hD cs ng f i rows).2.2≤cs.length
  | 0, i, rows, h => by cases h
  | f + 1, i, rows, h => by
    rw [hD] at h ⊢;split
    · rename_i h1;have:=fx h1;simp;omega
    · rename_i h1;rw [if_neg h1] at h;split
      · rename_i h2;rw [if_pos h2] at h;cases h
      · rename_i h2;rw [if_neg h2] at h;have a1:=rM (by simpa using h2:(bl cs i).2.2.1=true);split
        · rename_i h3;rw [if_pos h3] at h;have:=oS f _ _ h;omega
        · rename_i h3;rw [if_neg h3] at h;split
          · rename_i h4;rw [if_pos h4] at h;split
            · rename_i h5;rw [if_pos h5] at h;cases h
            · rename_i h5;rw [if_neg h5] at h;have h6:(bl cs ((bl cs i).2.2.2+1)).2.2.1=true:=by
                rw [aI,aH,aH,aw] at h5;exact h5.1.1
              have a2:=rM h6;have:=oS f _ _ h;omega
          · rename_i h4;rw [if_neg h4] at h;have:=oS f _ _ h;omega
theorem uw {cs:List ByteArray} {i:Nat} (h:(ja cs i).2.1=0):i < (ja cs i).2.2∧(ja cs i).2.2≤cs.length:=by
  have a1:=oS _ _ _ h;have a2:=rL cs i (⟨#[94]⟩:ByteArray);unfold ja at h ⊢;omega
theorem rP {cs:List ByteArray} {i:Nat} (h:(fM cs i).2.1=0):i < (fM cs i).2.2∧(fM cs i).2.2≤cs.length:=by
  unfold fM at h ⊢;split
  · rename_i h1;rw [ao,ah] at h1;have:=fZ h1.1;simp;omega
  · rename_i h1;rw [if_neg h1] at h;split
    · rename_i h2;rw [if_pos h2] at h;cases h
    · rename_i h2;have:=lx (uv (by simpa using h2));simp;omega
def qL (cs:List ByteArray) (sub:Int→Nat→Tr × Int × Nat):Prop:=∀(d2:Int) (j:Nat),(sub d2 j).2.1=0→j≤(sub d2 j).2.2∧((sub d2 j).2.2≤cs.length∨(sub d2 j).2.2=j)
theorem oT {sub:Int→Nat→Tr × Int × Nat} {cs:List ByteArray} {d:Int} {i:Nat} (hs:qL cs sub) (h:(da sub cs d i).2.1=0):i < (da sub cs d i).2.2∧(da sub cs d i).2.2≤cs.length:=by
  unfold da at h ⊢;split
  · rename_i h1;have:=fx h1;simp;omega
  · rename_i h1;rw [if_neg h1] at h;split
    · rename_i h2;rw [if_pos h2] at h;have a2:=fx h2;split
      · rename_i h3;rw [if_pos h3] at h;cases h
      · rename_i h3;rw [if_neg h3] at h;split
        · rename_i h4;rw [if_pos h4] at h;split
          · rename_i h5;rw [if_pos h5] at h;cases h
          · rename_i h5;rw [if_neg h5] at h;split
            · rename_i h6;rw [if_pos h6] at h;exact absurd h h6
            · rename_i h6;rw [if_neg h6] at h;split
              · rename_i h7;rw [if_pos h7] at h;cases h
              · rename_i h7;have a3:=fx (by simpa using h7:dX cs (sub (d+1) (i+3)).2.2 ⟨#[41]⟩=true);have a4:=hs (d+1) (i+3) (Classical.byContradiction h6);simp;omega
        · rename_i h4;rw [if_neg h4] at h;split
          · rename_i h6;rw [if_pos h6] at h;exact absurd h h6
          · rename_i h6;rw [if_neg h6] at h;split
            · rename_i h7;rw [if_pos h7] at h;cases h
            · rename_i h7;have a3:=fx (by simpa using h7:dX cs (sub (d+1) (i+1)).2.2 ⟨#[41]⟩=true);have a4:=hs (d+1) (i+1) (Classical.byContradiction h6);simp;omega
    · rename_i h2;rw [if_neg h2] at h;split
      · rename_i h3;rw [if_pos h3] at h;have:=uw h;omega
      · rename_i h3;rw [if_neg h3] at h;split
        · rename_i h4;rw [if_pos h4] at h;have:=rP h;omega
        · rename_i h4;rw [if_neg h4] at h;split
          · rename_i h5;rw [if_pos h5] at h;cases h
          · rename_i h5;have hne:gD (cf cs i) (⟨#[]⟩:ByteArray)=false:=by
              cases hz:gD (cf cs i) (⟨#[]⟩:ByteArray) with
              | false => rfl
              | true =>
                rw [oG.1 hz] at h5;exact absurd (by decide+kernel) h5
            have:=lx hne;simp;omega
theorem oU {cs:List ByteArray} {i:Nat} {c:ByteArray} (h:qK cs i c=true):i+1 < cs.length:=by
  unfold qK at h;simp only [ao,ah] at h;omega
theorem rQ {sub:Int→Nat→Tr × Int × Nat} {cs:List ByteArray} {d:Int} {i:Nat} (hs:qL cs sub) (h:(ec sub cs d i).2.1=0):i < (ec sub cs d i).2.2∧(ec sub cs d i).2.2≤cs.length:=by
  unfold ec at h ⊢;split
  · rename_i h1;have:=fx h1;simp;omega
  · rename_i h1;rw [if_neg h1] at h;split
    · rename_i h2;have:=fx h2;simp;omega
    · rename_i h2;rw [if_neg h2] at h;split
      · rename_i h3;have:=oU h3;simp;omega
      · rename_i h3;rw [if_neg h3] at h;split
        · rename_i h4;have:=oU h4;simp;omega
        · rename_i h4;rw [if_neg h4] at h;split
          · rename_i h5;rw [if_pos h5] at h;exact absurd h h5
          · rename_i h5;rw [if_neg h5] at h;have a1:=oT hs (Classical.byContradiction h5);have a2:=yk h;omega
theorem mX (cs:List ByteArray):∀(f:Nat) (d:Int) (i:Nat) (alts terms:List Tr),(dW cs f d i alts terms).2.1=0→i≤(dW cs f d i alts terms).2.2∧((dW cs f d i alts terms).2.2≤cs.length∨(dW cs f d i alts terms).2.2=i)
  | 0, d, i, alts, terms, h => by cases h
  | f + 1, d, i, alts, terms, h => by
    have hs:qL cs fun d j=>dW cs f d j [] []:=fun d j hh=>mX cs f d j [] [] hh;rw [dW] at h ⊢;split
    · rename_i h1;rw [if_pos h1] at h;split
      · rename_i h2;rw [if_pos h2] at h;exact absurd h h2
      · rename_i h2;rw [if_neg h2] at h;have a1:=rQ hs (Classical.byContradiction h2);have:=mX cs f d _ _ _ h;omega
    · rename_i h1;rw [if_neg h1] at h;split
      · rename_i h2;rw [if_pos h2] at h;have a1:=fx h2;have:=mX cs f d _ _ _ h;omega
      · exact ⟨bj _,.inr rfl⟩
end
section
open Srt
def Ba (x y:Int × Int):Bool:=decide (Bx x y < 0)
theorem Af (x y:Int × Int):Bx x y=if x.1 < y.1 then -1 else if y.1 < x.1 then 1 else if x.2 < y.2 then -1 else if y.2 < x.2 then 1 else 0:=by
  unfold Bx De Bw;by_cases h1:x.1 < y.1 <;> by_cases h2:y.1 < x.1 <;> by_cases h3:x.2 < y.2 <;> by_cases h4:y.2 < x.2 <;> simp [h1,h2,h3,h4,List.find?]
theorem mo (x y:Int × Int):Ba x y=true↔x.1 < y.1∨(x.1=y.1∧x.2 < y.2):=by
  unfold Ba;rw [Af,ah];split
  · constructor <;> intro _ <;> omega
  · split
    · constructor <;> intro _ <;> omega
    · split
      · constructor <;> intro _ <;> omega
      · split
        · constructor <;> intro _ <;> omega
        · constructor <;> intro _ <;> omega
def oV (acc:List (Int × Int)) (p:Int × Int):Bool:=decide (0≤(acc.length:Int) - 1)&&nU (nth acc ((acc.length:Int) - 1)) p
def ld (acc:List (Int × Int)) (p:Int × Int):List (Int × Int):=
  if oV acc p=true then acc.set ((acc.length:Int) - 1).toNat ((nth acc ((acc.length:Int) - 1)).1,max (nth acc ((acc.length:Int) - 1)).2 p.2) else acc++ [p]
def lF (xs:List (Int × Int)):List (Int × Int):=xs.foldl ld []
theorem pX (xs:List (Int × Int)) (p:Int × Int):lF (xs++ [p])=ld (lF xs) p:=by simp [lF]
theorem mY {p q:Int × Int}:nU p q=true↔max p.1 q.1≤min p.2 q.2:=by simp [nU]
theorem tm (A:List (Int × Int)) (l:Int × Int):nth (A++ [l]) (((A++ [l]).length:Int) - 1)=l:=
  rm (A:=A) (B:=[]) (by simp)
theorem nF (q:Int × Int):ld [] q=[q]:=by simp [ld,oV]
theorem mE (A:List (Int × Int)) (l q:Int × Int):ld (A++ [l]) q=if nU l q=true then A++ [(l.1,max l.2 q.2)] else A++ [l]++ [q]:=by
  have h1:oV (A++ [l]) q=nU l q:=by
    unfold oV;rw [tm,decide_eq_true (by simp),fq]
  unfold ld;rw [h1,tm];split
  · rw [show (((A++ [l]).length:Int) - 1).toNat=A.length by simp];simp
  · rfl
def vB (xs:List (Int × Int)) (y:Int):Prop:=∃p ∈ xs,2 * p.1≤y∧y≤2 * p.2
def Dn (xs:List (Int × Int)):Prop:=(∀p ∈ xs,p.1≤p.2)∧xs.Pairwise fun p q=>p.2 < q.1
theorem jc (xs ys:List (Int × Int)) (y:Int):vB (xs++ys) y↔vB xs y∨vB ys y:=by
  simp only [vB,List.mem_append];constructor
  · rintro ⟨p,hp | hp,h⟩
    · exact .inl ⟨p,hp,h⟩
    · exact .inr ⟨p,hp,h⟩
  · rintro (⟨p,hp,h⟩ | ⟨p,hp,h⟩)
    · exact ⟨p,.inl hp,h⟩
    · exact ⟨p,.inr hp,h⟩
theorem rR (p:Int × Int) (y:Int):vB [p] y↔2 * p.1≤y∧y≤2 * p.2:=by simp [vB]
theorem Ag {xs ys:List (Int × Int)} (h:∀p,p ∈ xs↔p ∈ ys) (y:Int):vB xs y↔vB ys y:=by
  simp only [vB,h]
theorem pY (ys:List (Int × Int)) (hs:mS Ba ys) (ho:∀p ∈ ys,p.1≤p.2):
    Dn (lF ys)∧(∀y,vB (lF ys) y↔vB ys y)∧∀l ∈ lF ys,∃p ∈ ys,l.1=p.1:=by
  induction ys using em with
  | h0 => exact ⟨⟨fun p hp => by simp [lF] at hp, by simp [lF]⟩, fun y => Iff.rfl, fun l hl => by simp [lF] at hl⟩
  | h1 ys q ih =>
    obtain ⟨hs1,_,hs2⟩:=List.pairwise_append.1 hs;obtain ⟨⟨i1,i2⟩,i3,i4⟩:=ih hs1 (fun p hp=>ho p (by simp [hp]));have hq:=ho q (by simp);have hle:∀l ∈ lF ys,l.1≤q.1:=by
      intro l hl;obtain ⟨p,hp,e⟩:=i4 l hl;have:=hs2 p hp q (by simp);rw [←aI,mo] at this
      omega
    rw [pX];cases hys:lF ys with
    | nil =>
      rw [hys] at i3;rw [nF];refine ⟨⟨by simpa using hq,by simp⟩,fun y=> ?_,fun l hl=>⟨q,by simp,by simp at hl;rw [hl]⟩⟩;rw [jc,←i3];simp [vB]
    | cons a l0 =>
      obtain ⟨A,l,e⟩:∃A l',a::l0=A++ [l']:=⟨(a::l0).dropLast,(a::l0).getLast (by simp),(List.dropLast_concat_getLast _).symm⟩;rw [hys,e] at i1 i2 i3 i4 hle;rw [e,mE];obtain ⟨j1,_,j2⟩:=List.pairwise_append.1 i2;have hl1:=hle l (by simp);have hl2:=i1 l (by simp);split
      · rename_i ht;rw [mY] at ht;refine ⟨⟨fun p hp=> ?_,List.pairwise_append.2 ⟨j1,by simp,fun p hp r hr=> ?_⟩⟩,fun y=> ?_,fun r hr=> ?_⟩
        · rcases List.mem_append.1 hp with hp | hp
          · exact i1 p (by simp [hp])
          · simp at hp;subst hp;show l.1≤max l.2 q.2;omega
        · simp at hr;subst hr;exact j2 p hp l (by simp)
        · rw [jc,jc,rR,rR,←i3,jc,rR];show _∨(2 * l.1≤y∧y≤2 * max l.2 q.2)↔_;constructor
          · rintro (h | h)
            · exact .inl (.inl h)
            · by_cases hy:y≤2 * l.2
              · exact .inl (.inr ⟨h.1,hy⟩)
              · exact .inr ⟨by omega,by omega⟩
          · rintro ((h | h) | h)
            · exact .inl h
            · exact .inr ⟨h.1,by omega⟩
            · exact .inr ⟨by omega,by omega⟩
        · rcases List.mem_append.1 hr with hr | hr
          · obtain ⟨p,hp,e⟩:=i4 r (by simp [hr]);exact ⟨p,by simp [hp],e⟩
          · simp at hr;subst hr;obtain ⟨p,hp,e⟩:=i4 l (by simp);exact ⟨p,by simp [hp],e⟩
      · rename_i ht;rw [mY] at ht;refine ⟨⟨fun p hp=> ?_,List.pairwise_append.2 ⟨i2,by simp,fun p hp r hr=> ?_⟩⟩,fun y=> ?_,fun r hr=> ?_⟩
        · rcases List.mem_append.1 hp with hp | hp
          · exact i1 p hp
          · simp at hp;subst hp;exact hq
        · simp at hr;subst hr;rcases List.mem_append.1 hp with hp | hp
          · have:=j2 p hp l (by simp);omega
          · simp at hp;subst hp;omega
        · rw [jc,jc ys,i3]
        · rcases List.mem_append.1 hr with hr | hr
          · obtain ⟨p,hp,e⟩:=i4 r hr;exact ⟨p,by simp [hp],e⟩
          · simp at hr;subst hr;exact ⟨r,by simp,rfl⟩
end
section
open Srt
theorem Ah:Swo Ba:=by
  constructor
  · intro x y h;rw [←aI,mo];rw [mo] at h;omega
  · intro x y z h1 h2;rw [←aI,mo] at h1 h2 ⊢;omega
section
variable {α β:Type} [Inhabited α] [Inhabited β]
omit [Inhabited α] [Inhabited β] in
theorem pZ {lt:α→α→Bool} {lt':β→β→Bool} {f:α→β} {x:α}:∀{ys:List α},(∀y ∈ ys,lt x y=lt' (f x) (f y))→(kG lt x ys).map f=kG lt' (f x) (ys.map f)
  | [], _ => rfl
  | y :: ys, h => by
    have h0:=h y (by simp);have ih:=pZ (lt:=lt) (lt':=lt') (f:=f) (x:=x) (ys:=ys) fun z hz=>h z (by simp [hz]);simp only [kG,aZ];rw [←h0];split <;> simp [ih]
omit [Inhabited α] [Inhabited β] in
theorem Ai {lt:α→α→Bool} {lt':β→β→Bool} {f:α→β} {x:α} {ys:List α} (h:∀y ∈ ys,lt x y=lt' (f x) (f y)):(wX lt x ys).map f=wX lt' (f x) (ys.map f):=by
  unfold wX;rw [List.map_reverse,pZ (lt':=lt') (f:=f) (fun y hy=>h y (by simpa using hy)),List.map_reverse]
omit [Inhabited α] [Inhabited β] in
theorem wD {lt:α→α→Bool} {lt':β→β→Bool} {f:α→β} {xs:List α} (h:∀x ∈ xs,∀y ∈ xs,lt x y=lt' (f x) (f y)):(dQ lt xs).map f=dQ lt' (xs.map f):=by
  induction xs using em with
  | h0 => rfl
  | h1 xs x ih =>
    rw [jV,bA,aZ,bF,jV,←ih fun a ha b hb=>h a (by simp [ha]) b (by simp [hb])];exact Ai fun y hy=>h x (by simp) y (by simp [((lp (lt:=lt) xs).mem_iff).1 hy])
end
def In (S:List ByteArray) (p:Rw):Prop:=p.1 ∈ S∧p.2 ∈ S
def f2 (S:List ByteArray) (p:Rw):Int × Int:=(rk S p.1,rk S p.2)
theorem CR {S:List ByteArray} {p q:Rw} (hp:In S p) (hq:In S q):lU p q=Ba (f2 S p) (f2 S q):=by
  rw [eK,vh,mo,pt hp.1 hq.1,pt hp.2 hq.2];constructor
  · rintro (h | ⟨e,h⟩)
    · exact .inl h
    · exact .inr ⟨by simp only [f2];rw [e],h⟩
  · rintro (h | ⟨e,h⟩)
    · exact .inl h
    · exact .inr ⟨Bu hp.1 hq.1 e,h⟩
def Ok (S:List ByteArray) (xs:List Rw):Prop:=∀p ∈ xs,eh p=true∧In S p
theorem yl {S:List ByteArray} {p:Rw} (h:eh p=true∧In S p):(f2 S p).1≤(f2 S p).2:=by
  have:=h.1;unfold eh at this
  rw [ao] at this
  exact (uX h.2.1 h.2.2).1 this.2
theorem BN {S:List ByteArray} {x y:ByteArray} (hx:x ∈ S) (hy:y ∈ S):rk S (oA x y)=max (rk S x) (rk S y):=(xz hx hy).2
theorem ym {S:List ByteArray} (ys:List Rw) (hok:Ok S ys) (hs:mS Ba (ys.map (f2 S))):
    (fa ys).map (f2 S)=lF (ys.map (f2 S))∧∀l ∈ fa ys,(∃p ∈ ys,l.1=p.1)∧∃p ∈ ys,l.2=p.2:=by
  induction ys using em with
  | h0 => exact ⟨rfl, fun l hl => by simp [fa] at hl⟩
  | h1 ys q ih =>
    rw [bA,aZ,bF] at hs ⊢;obtain ⟨hs1,_,hs2⟩:=List.pairwise_append.1 hs;have hok1:Ok S ys:=fun p hp=>hok p (by simp [hp]);obtain ⟨i1,i2⟩:=ih hok1 hs1;have hsp:=pY (ys.map (f2 S)) hs1 (fun p hp=>by obtain ⟨r,hr,rfl⟩:=List.mem_map.1 hp;exact yl (hok1 r hr));have hq:=hok q (by simp);have hin:∀l ∈ fa ys,In S l:=fun l hl=>by
      obtain ⟨⟨p,hp,e1⟩,r,hr,e2⟩:=i2 l hl;exact ⟨e1 ▸ (hok1 p hp).2.1,e2 ▸ (hok1 r hr).2.2⟩
    rw [lu,pX,←i1];cases hjt:fa ys using em with
    | h0 =>
      have e:ot [] q=[q]:=by simp [ot,sI]
      rw [e,bF,nF];exact ⟨rfl,fun l hl=>by simp at hl;subst hl;exact ⟨⟨l,by simp,rfl⟩,l,by simp,rfl⟩⟩
    | h1 A l =>
      rw [hjt] at i1 i2 hin;have hl:=hin l (by simp);have hn:nth (A++ [l]) (((A++ [l]).length:Int) - 1)=l:=rm (A:=A) (B:=[]) (by simp);have hle:(f2 S l).1≤(f2 S q).1:=by
        obtain ⟨⟨p,hp,e⟩,_⟩:=i2 l (by simp);have:=hs2 (f2 S p) (List.mem_map.2 ⟨p,hp,rfl⟩) (f2 S q) (by simp);rw [←aI,mo] at this
        have e':(f2 S l).1=(f2 S p).1:=by simp only [f2];rw [e]
        omega
      have hll:(f2 S l).1≤(f2 S l).2:=by
        have h3:=hsp.1.1;rw [←i1] at h3;exact h3 (f2 S l) (by simp)
      have hqq:=yl hq;have hhit:sI (A++ [l]) q=nU (f2 S l) (f2 S q):=by
        unfold sI;rw [hn,decide_eq_true (by simp),fq,eK,uX hq.2.1 hl.2,mY];show (f2 S q).1≤(f2 S l).2↔_;omega
      rw [bA,aZ,bF,mE,ot,hhit,hn,show (((A++ [l]).length:Int) - 1).toNat=A.length by simp];split
      · refine ⟨?_,fun r hr=> ?_⟩
        · simp [f2,BN hl.2 hq.2.2]
        · simp at hr;rcases hr with hr | rfl
          · obtain ⟨⟨p,hp,e⟩,p',hp',e'⟩:=i2 r (by simp [hr]);exact ⟨⟨p,by simp [hp],e⟩,p',by simp [hp'],e'⟩
          · obtain ⟨⟨p,hp,e⟩,p',hp',e'⟩:=i2 l (by simp);refine ⟨⟨p,by simp [hp],e⟩,?_⟩;unfold oA;split
            · exact ⟨q,by simp,rfl⟩
            · exact ⟨p',by simp [hp'],e'⟩
      · refine ⟨by simp,fun r hr=> ?_⟩;rcases List.mem_append.1 hr with hr | hr
        · obtain ⟨⟨p,hp,e⟩,p',hp',e'⟩:=i2 r hr;exact ⟨⟨p,by simp [hp],e⟩,p',by simp [hp'],e'⟩
        · simp at hr;subst hr;exact ⟨⟨r,by simp,rfl⟩,r,by simp,rfl⟩
theorem kh {S:List ByteArray} {xs:List Rw} (h:Ok S (xs.filter eh)):
    Dn ((fl xs).map (f2 S))∧(∀y,vB ((fl xs).map (f2 S)) y↔vB ((xs.filter eh).map (f2 S)) y)∧∀l ∈ fl xs,(∃p ∈ xs.filter eh,l.1=p.1)∧∃p ∈ xs.filter eh,l.2=p.2:=by
  have hp:=lp (lt:=lU) (xs.filter eh);have hok:Ok S (dQ lU (xs.filter eh)):=fun p hm=>h p (hp.mem_iff.1 hm);have hm:=wD (lt:=lU) (lt':=Ba) (f:=f2 S) (xs:=xs.filter eh) fun x hx y hy=>CR (h x hx).2 (h y hy).2;have hs:mS Ba ((dQ lU (xs.filter eh)).map (f2 S)):=by rw [hm];exact rl Ah _
  obtain ⟨j1,j2⟩:=ym _ hok hs;have j3:=pY _ hs fun p hq=>by obtain ⟨r,hr,rfl⟩:=List.mem_map.1 hq;exact yl (hok r hr)
  unfold fl;rw [j1];refine ⟨j3.1,fun y=>(j3.2.1 y).trans ?_,fun l hl=> ?_⟩
  · exact Ag (fun p=>by rw [hm];exact (lp _).mem_iff) y
  · obtain ⟨⟨p,h1,e1⟩,q,h2,e2⟩:=j2 l hl;exact ⟨⟨p,hp.mem_iff.1 h1,e1⟩,q,hp.mem_iff.1 h2,e2⟩
def BO (xs:List Rw):List ByteArray:=xs.flatMap fun p=> [p.1,p.2]
theorem vC {S:List ByteArray} {xs:List Rw} (h:∀c ∈ BO xs,c ∈ S):Ok S (xs.filter eh):=fun p hp=>by
  obtain ⟨h1,h2⟩:=List.mem_filter.1 hp;exact ⟨h2,h _ (List.mem_flatMap.2 ⟨p,h1,by simp⟩),h _ (List.mem_flatMap.2 ⟨p,h1,by simp⟩)⟩
theorem qa {S:List ByteArray} {xs:List Rw} (h:Ok S (xs.filter eh)):∀l ∈ fl xs,In S l:=fun l hl=>by
  obtain ⟨⟨p,hp,e1⟩,r,hr,e2⟩:=(kh h).2.2 l hl;exact ⟨e1 ▸ (h p hp).2.1,e2 ▸ (h r hr).2.2⟩
theorem qb {p:Rw}:eh p=true↔(cY p.1=true∧cY p.2=true)∧oF p.1 p.2=true:=by
  unfold eh;rw [ao,ao]
theorem yn {S:List ByteArray} {xs:List Rw} (h:Ok S (xs.filter eh)):Ok S (fl xs):=fun l hl=>by
  have hin:=qa h l hl;obtain ⟨⟨p,hp,e1⟩,r,hr,e2⟩:=(kh h).2.2 l hl;refine ⟨qb.2 ⟨⟨e1 ▸ (qb.1 (h p hp).1).1.1,e2 ▸ (qb.1 (h r hr).1).1.2⟩,?_⟩,hin⟩;exact (uX hin.1 hin.2).2 ((kh h).1.1 (f2 S l) (List.mem_map.2 ⟨l,hl,rfl⟩))
theorem rS (xs:List Rw):ls (fl xs)=true:=by
  have h1:Ok (BO xs) (xs.filter eh):=vC fun _ hc=>hc;refine pH (k:=(fl xs).length) (fun i hi=> ?_) (bj _);have hm:=nt hi;unfold pG;rw [(yn h1 _ hm).1,je,gd];by_cases h0:i=0
  · subst h0;rfl
  · have hi':i - 1 < (fl xs).length:=by omega
    rw [show (i:Int) - 1=((i - 1:Nat):Int) by omega];have hp:=List.pairwise_iff_getElem.1 (kh h1).1.2 (i - 1) i (by simpa using hi') (by simpa using hi) (by omega);rw [kQ,kQ,←mU (bm hi),←mU (bm hi')] at hp;simp only [f2] at hp;have a:=qa h1 _ hm;have b:=qa h1 _ (nt hi');have:oF (nth (fl xs) (i:Int)).1 (nth (fl xs) ((i - 1:Nat):Int)).2=false:=by
      rw [←aI,uX a.1 b.2];omega
    rw [this,Bool.and_false]
theorem wE (xs:List Rw):(fl xs).length≤xs.length:=aT (sJ _) (lV xs)
theorem qM (n:Int):(fm n).length≤4:=by unfold fm;split <;> (try split) <;> (try split) <;> decide
theorem wF (n:Int):ls (fm n)=true:=by unfold fm;split <;> (try split) <;> (try split) <;> decide+kernel
end
section
open Srt
def lA (cs:List ByteArray):Prop:=cs.length≤256∧∀c ∈ cs,c.size≤256
def BP (cs:List ByteArray):Prop:=∀i:Nat,1≤i→i < cs.length→cY (nth cs (i:Int))=true
def iu (rows:List Rw):Prop:=∀r ∈ rows,r.1.size≤256∧r.2.size≤256
theorem iu.small {rows:List Rw} (h:iu rows):pF rows:=fun r hr=>⟨aT (h r hr).1 (by decide),aT (h r hr).2 (by decide)⟩
theorem iu.app {xs ys:List Rw} (h:iu xs) (h2:iu ys):iu (xs++ys):=fun r hr=>(List.mem_append.1 hr).elim (h r) (h2 r)
theorem iu.one {a b:ByteArray} (h:a.size≤256) (h2:b.size≤256):iu [(a,b)]:=fun r hr=>by
  simp at hr;subst hr;exact ⟨h,h2⟩
theorem iu.nil:iu []:=fun r hr=>by cases hr
theorem ux {xs:List Rw} (h:iu xs):iu (fl xs):=fun l hl=>by
  obtain ⟨⟨p,hp,e1⟩,r,hr,e2⟩:=(kh (S:=BO xs) (vC fun _ hc=>hc)).2.2 l hl;rw [e1,e2];exact ⟨(h p (List.mem_filter.1 hp).1).1,(h r (List.mem_filter.1 hr).1).2⟩
theorem qc (n:Int):iu (fm n):=by unfold fm;split <;> (try split) <;> (try split) <;> (unfold iu;decide)
theorem vD {rows:List Rw} (h:iu rows):wY rows≤513 * (rows.length:Int):=by
  unfold wY;induction rows using em with
  | h0 => simp [cR]
  | h1 rows r ih =>
    rw [bA,aZ,bF,dL,bK];have:=ih fun x hx=>h x (by simp [hx]);have:=h r (by simp);simp;omega
theorem cr {cs:List ByteArray} (h:lA cs) (i:Nat):(cf cs i).size≤256:=by
  unfold cf;split
  · exact dE _
  · exact h.2 _ (bo (by omega) (by omega))
theorem tp (c:ByteArray) (h:c.size≤256):(eF c).1.size≤256:=by
  unfold eF;repeat (split;exact (by decide))
  exact h
theorem lB {cs:List ByteArray} (h:lA cs) (i:Nat):iu (bl cs i).1∧(bl cs i).2.1.size≤256∧(bl cs i).1.length≤4∧(bl cs i).2.2.2≤i+2∧((bl cs i).2.2.1=true→i < (bl cs i).2.2.2∧(bl cs i).2.2.2≤cs.length):=by
  refine ⟨?_,?_,?_,?_,rM⟩ <;> unfold bl <;> (repeat' split)
  · exact iu.nil
  · exact iu.nil
  · exact qc _
  · exact iu.nil
  · exact dE _
  · exact cr h i
  · exact dE _
  · exact tp _ (cr h _)
  · exact dE _
  · exact dE _
  · exact qM _
  · exact dE _
  · simp
  · simp
  · simp
  · simp
theorem rT (k:Int) (c:ByteArray) (h:(k=2∧cY c=true)∨((k=3∨k=8∨k=9∨k=10∨k=11)∧c=⟨#[]⟩)):ij (cB k c false 0 0 false)=true∧cE (cB k c false 0 0 false)=1∧eC (cB k c false 0 0 false)=0:=by
  refine ⟨?_,?_,?_⟩
  · rw [kA];have:cV (cB k c false 0 0 false)=true:=by
      rcases h with ⟨rfl,h⟩ | ⟨h,rfl⟩
      · simp [cV,cB,kg,gD,h]
      · rcases h with rfl | rfl | rfl | rfl | rfl <;> simp [cV,cB,lc,kg,gD]
    rw [this];rfl
  · rw [gJ];rfl
  · rw [kT];have:oB (cB k c false 0 0 false)=false:=by
      unfold oB cB;rcases h with ⟨rfl,h⟩ | ⟨h,rfl⟩
      · rfl
      · rcases h with rfl | rfl | rfl | rfl | rfl <;> rfl
    rw [this];rfl
theorem yo (ng:Bool) (rows:List Rw) (h:ls rows=true):ij (ly ng Sv.nil rows)=true∧cE (ly ng Sv.nil rows)=1∧eC (ly ng Sv.nil rows)=0∧eJ (ly ng Sv.nil rows)=1+wY rows:=by
  refine ⟨?_,?_,?_,?_⟩
  · rw [kA];have:cV (ly ng Sv.nil rows)=true:=by simp [cV,ly,kg,gD,h]
    rw [this];rfl
  · rw [gJ];rfl
  · rw [kT];rfl
  · rw [jX];have:((⟨#[]⟩:ByteArray).size:Int)=0:=rfl;simp [ly,cR,this]
theorem Bb (k:Int) (mn mx:Int) (lz:Bool) (x:Tr):cE (eR k ⟨#[]⟩ false mn mx lz Sv.nil [x])=1+cE x∧eC (eR k ⟨#[]⟩ false mn mx lz Sv.nil [x])=max 0 (eC x)+(if k=5∨k=6 then 1 else 0)∧eJ (eR k ⟨#[]⟩ false mn mx lz Sv.nil [x])=1+eJ x:=by
  refine ⟨?_,?_,?_⟩
  · rw [gJ];simp [eR,cR]
  · rw [kT];have:(oB (eR k ⟨#[]⟩ false mn mx lz Sv.nil [x])=true)↔(k=5∨k=6):=by unfold oB eR;simp
    simp only [this];simp [eR,lT]
  · rw [zL];have:((⟨#[]⟩:ByteArray).size:Int)=0:=rfl;simp [cR,this]
theorem BQ {k:Int} {x:Tr} (hk:k=5∨k=6) (h:ij x=true):ij (eR k ⟨#[]⟩ false 0 0 false Sv.nil [x])=true:=by
  rw [kA];have:cV (eR k ⟨#[]⟩ false 0 0 false Sv.nil [x])=true:=by
    rcases hk with rfl | rfl <;> simp [cV,eR,lc,kg,gD]
  rw [this];simp [eR,h]
theorem BR {x:Tr} {mn mx:Int} {lz:Bool} (h:ij x=true) (hk:x.k=2∨x.k=3∨x.k=4∨x.k=5∨x.k=6) (h0:0≤mn∧mn≤255) (h1:mx= -1∨(mn≤mx∧mx≤255)):ij (yj x mn mx lz)=true:=by
  rw [kA];have hn:(nth [x] 0).k=x.k:=rfl;have:cV (yj x mn mx lz)=true:=by
    have hr:nZ x.k=true:=by unfold nZ;rcases hk with h | h | h | h | h <;> simp [h]
    have h5:(decide (mx= -1) || (decide (mn≤mx)&&decide (mx≤255)))=true:=by
      rw [ba,ao,ah,ah,ah];exact h1
    have h6:cV (yj x mn mx lz)=(((((kg ⟨#[]⟩ false [] 0 0 false&&decide (([x].length:Int)=1))&&nZ (nth [x] 0).k)&&decide (0≤mn))&&decide (mn≤255))&&(decide (mx= -1) || (decide (mn≤mx)&&decide (mx≤255)))):=rfl;rw [h6,h5,hn,hr,decide_eq_true h0.1,decide_eq_true h0.2];simp [kg,gD]
  rw [this];simp [yj,eR,h]
theorem tq (k:Int) (ks:List Tr):cE (kJ k ks)=1+cR (ks.map cE):=gJ _
theorem vE (k:Int) (ks:List Tr) (hk:k=0∨k=1):eC (kJ k ks)=lT (ks.map eC):=by
  rw [kT];have:oB (kJ k ks)=false:=by unfold oB kJ;rcases hk with rfl | rfl <;> rfl
  rw [this];simp [kJ]
theorem Aj {ks:List Tr} (h:∀x ∈ ks,ij x=true∧x.k≠0∧x.k≠1) (hl:ks.length≠1):ij (kJ 0 ks)=true:=by
  rw [kA];have h1:ks.all ij=true:=cK.2 fun x hx=>(h x hx).1;have h2:mD (kJ 0 ks) [0,1]=false:=by
    rw [wz,kk];intro x hx;have:=h x hx;simp [this.2.1,this.2.2]
  have:cV (kJ 0 ks)=true:=by
    unfold cV;rw [show (kJ 0 ks).k=0 from rfl,if_neg (by decide),if_neg (by decide),if_neg (by decide),if_pos rfl,h2];have:lc (kJ 0 ks)=true:=by unfold lc kg kJ;simp [gD]
    have hl':decide (((kJ 0 ks).kids.length:Int)=1)=false:=decide_eq_false (by show ¬(ks.length:Int)=1;omega);rw [this,hl'];rfl
  rw [this];simp [kJ,h1]
theorem Ak {ks:List Tr} (h:∀x ∈ ks,ij x=true∧x.k≠1) (hl:2≤ks.length):ij (kJ 1 ks)=true:=by
  rw [kA];have h1:ks.all ij=true:=cK.2 fun x hx=>(h x hx).1;have h2:mD (kJ 1 ks) [1]=false:=by
    rw [wA,kk];intro x hx;have:=h x hx;simp [this.2]
  have:cV (kJ 1 ks)=true:=by
    unfold cV;rw [show (kJ 1 ks).k=1 from rfl,if_neg (by decide),if_neg (by decide),if_neg (by decide),if_neg (by decide),if_pos rfl,h2];have:lc (kJ 1 ks)=true:=by unfold lc kg kJ;simp [gD]
    rw [this];have hl':decide ((1:Int) < ((kJ 1 ks).kids.length:Int))=true:=decide_eq_true (by show (1:Int) < (ks.length:Int);omega);rw [hl'];rfl
  rw [this];simp [kJ,h1]
theorem rU {k:Int} {l:List Tr} (h:∀x ∈ l,x.k≠k):fi k l=l:=by
  induction l with
  | nil => rfl
  | cons x l ih =>
    unfold fi at ih ⊢;rw [List.flatMap_cons,if_neg (h x (by simp)),ih fun y hy=>h y (by simp [hy])];rfl
structure TermOk (x:Tr) (n d:Int):Prop where
  wt:eJ x≤2200 * n
  parts:cE x≤2 * n
  deep:eC x≤16 - d
  all:ij x=true
  k:x.k≠0∧x.k≠1
structure PatOk (x:Tr) (n d:Int):Prop where
  wt:eJ x≤2200 * n+2
  parts:cE x≤2 * n+1
  deep:eC x≤16 - d
  all:ij x=true
theorem tu {l:List Tr} {n:Int} (h0:0≤n) (h:∀x ∈ l,eC x≤n):lT (l.map eC)≤n:=oK h0 fun y hy=>by
  obtain ⟨x,hx,rfl⟩:=List.mem_map.1 hy;exact h x hx
theorem mZ {ts:List Tr} {d:Int} (hd:d≤16) (h:∀x ∈ ts,ij x=true∧x.k≠0∧x.k≠1∧eC x≤16 - d):ij (dA ts)=true∧(dA ts).k≠1∧eC (dA ts)≤16 - d∧cE (dA ts)≤1+cR (ts.map cE):=by
  have hid:=rU (k:=0) (l:=ts) fun x hx=>(h x hx).2.1;unfold dA;rw [hid];have many:ts.length≠1→ij (kJ 0 ts)=true∧(kJ 0 ts).k≠1∧eC (kJ 0 ts)≤16 - d∧cE (kJ 0 ts)≤1+cR (ts.map cE):=fun hl=>
    ⟨Aj (fun x hx=>⟨(h x hx).1,(h x hx).2.1,(h x hx).2.2.1⟩) hl,by show (0:Int)≠1;decide,by rw [vE _ _ (.inl rfl)];exact tu (by omega) fun x hx=>(h x hx).2.2.2,by rw [tq];omega⟩
  match ts,h,many with
  | [], h, many => exact many (by decide)
  | [x], h, _ => exact ⟨(h x (by simp)).1, (h x (by simp)).2.2.1, (h x (by simp)).2.2.2, by simp [cR]; omega⟩
  | x :: y :: l, h, many => exact many (by simp)
theorem wG {ts:List Tr} {d:Int} (hd:d≤16) (hne:ts≠ []) (h:∀x ∈ ts,ij x=true∧x.k≠1∧eC x≤16 - d):ij (kU ts)=true∧eC (kU ts)≤16 - d∧(ts.length=1→cE (kU ts)=cR (ts.map cE))∧cE (kU ts)≤1+cR (ts.map cE):=by
  have hid:=rU (k:=1) (l:=ts) fun x hx=>(h x hx).2.1;unfold kU;rw [hid];match ts,hne,h with
  | [x], _, h => exact ⟨(h x (by simp)).1, (h x (by simp)).2.2, fun _ => by simp [cR], by simp [cR]; omega⟩
  | x :: y :: l, _, h =>
    refine ⟨Ak (fun z hz=>⟨(h z hz).1,(h z hz).2.1⟩) (by simp),?_,fun e=>by simp at e,by show cE (kJ 1 _)≤_;rw [tq];omega⟩;show eC (kJ 1 _)≤_;rw [vE _ _ (.inr rfl)];exact tu (by omega) fun z hz=>(h z hz).2.2
theorem Am {cs:List ByteArray} {i:Nat} (h:i < cs.length):cf cs i=nth cs (i:Int):=by unfold cf;rw [if_neg (by omega)]
theorem uy {c:ByteArray} (h:(eF c).2=true) (hp:cY c=true):cY (eF c).1=true:=by
  unfold eF at h ⊢;split at h
  · cases h
  · rename_i h1;rw [if_neg h1];split at h
    · rename_i h2;rw [if_pos h2];decide+kernel
    · rename_i h2;rw [if_neg h2];split at h
      · rename_i h3;rw [if_pos h3];decide+kernel
      · rename_i h3;rw [if_neg h3];split at h
        · rename_i h4;rw [if_pos h4];decide+kernel
        · rename_i h4;rw [if_neg h4];split at h
          · rename_i h5;rw [if_pos h5];decide+kernel
          · rename_i h5;rw [if_neg h5];split at h
            · rename_i h6;rw [if_pos h6];decide+kernel
            · rename_i h6;rw [if_neg h6];split at h
              · cases h
              · rename_i h7;rw [if_neg h7];exact hp
theorem yq {r:Int × Nat × Nat} (h:iq r=true):r.1≤255:=by
  unfold iq at h;simp at h;omega
theorem oW {cs:List ByteArray} {x:Tr} {j:Nat} {mn mx:Int} (h:ij x=true) (hk:x.k=2∨x.k=3∨x.k=4∨x.k=5∨x.k=6) (h0:0≤mn∧mn≤255) (h1:mx= -1∨(mn≤mx∧mx≤255)):ij (jv cs x j mn mx).1=true∧(jv cs x j mn mx).1.k=7∧cE (jv cs x j mn mx).1=1+cE x∧eC (jv cs x j mn mx).1=max 0 (eC x)∧eJ (jv cs x j mn mx).1=1+eJ x:=by
  obtain ⟨a,b,c⟩:=Bb 7 mn mx (dX cs j ⟨#[63]⟩) x;exact ⟨BR h hk h0 h1,rfl,a,by have:=b;rw [if_neg (by decide),Int.add_zero] at this;exact this,c⟩
theorem rV {cs:List ByteArray} {x:Tr} {mn mx:Int} {ok:Bool} {j:Nat} (he:(kI cs x mn mx ok j).2.1=0) (h:ij x=true) (hk:x.k=2∨x.k=3∨x.k=4∨x.k=5∨x.k=6) (h0:0≤mn∧mn≤255) (h1:ok=true→mx≤255) (h2: -1≤mx):ij (kI cs x mn mx ok j).1=true∧(kI cs x mn mx ok j).1.k=7∧cE (kI cs x mn mx ok j).1=1+cE x∧eC (kI cs x mn mx ok j).1=max 0 (eC x)∧eJ (kI cs x mn mx ok j).1=1+eJ x∧j < (kI cs x mn mx ok j).2.2:=by
  have hle:=rO he;unfold kI at he hle ⊢;split at he
  · cases he
  · rename_i g1;rw [if_neg g1];rw [if_neg g1] at hle;split at he
    · cases he
    · rename_i g2;rw [if_neg g2];rw [if_neg g2] at hle;split at he
      · cases he
      · rename_i g3;rw [if_neg g3];have hl:=mm cs x (j+1) mn mx;simp only [ao,ax,ai,ah,not_and,bd] at g3;obtain ⟨a,b,c,d,e⟩:=oW (cs:=cs) (j:=j+1) h hk h0 (mx:=mx) (by
          have:=h1 (by simpa using g1);by_cases hm:mx= -1
          · exact .inl hm
          · exact .inr ⟨g3 hm,this⟩)
        exact ⟨a,b,c,d,e,by omega⟩
theorem wH {cs:List ByteArray} {x:Tr} {i:Nat} {n d:Int} (hd:d≤16) (he:(dk cs x i).2.1=0) (h:TermOk x n d) (hn:1≤n) (hk:x.k=2∨x.k=3∨x.k=4∨x.k=5∨x.k=6):TermOk (dk cs x i).1 (n+((dk cs x i).2.2 - i)) d:=by
  have fin:∀{y:Tr} {p:Nat},ij y=true∧y.k=7∧cE y=1+cE x∧eC y=max 0 (eC x)∧eJ y=1+eJ x→i < p→TermOk y (n+(p - i)) d:=fun {y p} ⟨a,b,c,e,f⟩ hp=>by
    have:=h.wt;have:=h.parts;have:=h.deep;exact ⟨by omega,by omega,by omega,a,by rw [b];decide⟩
  unfold dk at he ⊢;split
  · have hl:=mm cs x (i+1) 0 (-1);exact fin (oW h.all hk (by decide) (.inl rfl)) (by omega)
  · split
    · have hl:=mm cs x (i+1) 1 (-1);exact fin (oW h.all hk (by decide) (.inl rfl)) (by omega)
    · split
      · have hl:=mm cs x (i+1) 0 1;exact fin (oW h.all hk (by decide) (.inr (by decide))) (by omega)
      · split
        · rename_i g1 g2 g3 g4;rw [if_neg g1,if_neg g2,if_neg g3,if_pos g4] at he;have a2:=rN cs (i+1);have a3:=rK cs (i+1);split
          · rename_i g5;rw [if_pos g5] at he;cases he
          · rename_i g5;rw [if_neg g5] at he;have b1:=yq (by simpa using g5);split
            · rename_i g6;rw [if_pos g6] at he;have a4:=rN cs ((bO cs (i+1)).2.2+1);have a5:=rK cs ((bO cs (i+1)).2.2+1);split
              · rename_i g7;rw [if_pos g7] at he;obtain ⟨a,b,c,e,f,g⟩:=rV he h.all hk ⟨by omega,b1⟩ (fun hh=>yq hh) (by omega);exact fin ⟨a,b,c,e,f⟩ (by omega)
              · rename_i g7;rw [if_neg g7] at he;obtain ⟨a,b,c,e,f,g⟩:=rV he h.all hk ⟨by omega,b1⟩ (fun _=>by omega) (by omega);exact fin ⟨a,b,c,e,f⟩ (by omega)
            · rename_i g6;rw [if_neg g6] at he;obtain ⟨a,b,c,e,f,g⟩:=rV he h.all hk ⟨by omega,b1⟩ (fun _=>by omega) (by omega);exact fin ⟨a,b,c,e,f⟩ (by omega)
        · have e1:n+((i:Nat) - (i:Int))=n:=by omega
          rw [e1];exact h
theorem nG {cs:List ByteArray} (h:lA cs) {ng:Bool}:∀(f i:Nat) (rows:List Rw),iu rows→(hD cs ng f i rows).2.1=0→∃rs,(hD cs ng f i rows).1=ly ng Sv.nil (fl rs)∧iu rs∧(rs.length:Int)+4 * i≤(rows.length:Int)+4 * (hD cs ng f i rows).2.2
  | 0, i, rows, _, he => by cases he
  | f + 1, i, rows, ht, he => by
    rw [hD] at he ⊢;split
    · exact ⟨rows,rfl,ht,by simp;omega⟩
    · rename_i g1;rw [if_neg g1] at he;split
      · rename_i g2;rw [if_pos g2] at he;cases he
      · rename_i g2;rw [if_neg g2] at he;have a1:=lB h i;have a2:=a1.2.2.2.2 (by simpa using g2);split
        · rename_i g3;rw [if_pos g3] at he;obtain ⟨rs,b1,b2,b3⟩:=nG h f _ _ (ht.app a1.1) he;refine ⟨rs,b1,b2,?_⟩;rw [bK] at b3;have:=a1.2.2.1;omega
        · rename_i g3;rw [if_neg g3] at he;split
          · rename_i g4;rw [if_pos g4] at he;split
            · rename_i g5;rw [if_pos g5] at he;cases he
            · rename_i g5;rw [if_neg g5] at he;have a3:=lB h ((bl cs i).2.2.2+1);have g6:(bl cs ((bl cs i).2.2.2+1)).2.2.1=true:=by
                rw [aI,aH,aH,aw] at g5;exact g5.1.1
              have a4:=a3.2.2.2.2 g6;obtain ⟨rs,b1,b2,b3⟩:=nG h f _ _ (ht.app (iu.one a1.2.1 a3.2.1)) he;refine ⟨rs,b1,b2,?_⟩;rw [bK] at b3;simp at b3;omega
          · rename_i g4;rw [if_neg g4] at he;obtain ⟨rs,b1,b2,b3⟩:=nG h f _ _ (ht.app (iu.one a1.2.1 a1.2.1)) he;refine ⟨rs,b1,b2,?_⟩;rw [bK] at b3;simp at b3;omega
def qd (x:Tr) (n d:Int):Prop:=TermOk x n d∧(x.k=2∨x.k=3∨x.k=4∨x.k=5∨x.k=6)
theorem jd {k:Int} {c:ByteArray} {n d:Int} (hn:1≤n) (hd:d≤16) (h:(k=2∧cY c=true∧c.size≤256)∨((k=3∨k=8∨k=9∨k=10∨k=11)∧c=⟨#[]⟩)):TermOk (cB k c false 0 0 false) n d:=by
  obtain ⟨a,b,e⟩:=rT k c (h.imp (fun h=>⟨h.1,h.2.1⟩) id);refine ⟨?_,by omega,by omega,a,?_⟩
  · rw [vd];rcases h with ⟨_,_,h⟩ | ⟨_,rfl⟩
    · omega
    · have:((⟨#[]⟩:ByteArray).size:Int)=0:=rfl;omega
  · unfold cB;simp only [];omega
theorem An {cs:List ByteArray} (h:lA cs) {i:Nat} {n d:Int} (hd:d≤16) (he:(ja cs i).2.1=0) (hn:(ja cs i).2.2 - (i:Int)≤n):qd (ja cs i).1 n d:=by
  have a1:=uw he;have a2:=rL cs i (⟨#[94]⟩:ByteArray);unfold ja at he hn a1 ⊢;obtain ⟨rs,b1,b2,b3⟩:=nG h _ _ _ iu.nil he;rw [b1];obtain ⟨c1,c2,c3,c4⟩:=yo (dX cs i ⟨#[94]⟩) (fl rs) (rS rs);have c5:=vD (ux b2);have c6:=wE rs;simp at b3;exact ⟨⟨by omega,by omega,by omega,c1,by show (4:Int)≠0∧(4:Int)≠1;decide⟩,.inr (.inr (.inl rfl))⟩
theorem yr {cs:List ByteArray} (h:lA cs) (hp:BP cs) {i:Nat} {n d:Int} (hi:1≤i) (hd:d≤16) (he:(fM cs i).2.1=0) (hn:1≤n):qd (fM cs i).1 n d:=by
  have a1:=rP he;unfold fM at he ⊢;split
  · rename_i g1;obtain ⟨c1,c2,c3,c4⟩:=yo (!(gD (cf cs i) (eZ (cf cs i)))) (fm (bI (eZ (cf cs i)) 0)) (wF _);have c5:=vD (qc (bI (eZ (cf cs i)) 0));have c6:=qM (bI (eZ (cf cs i)) 0);exact (show qd (ly (!(gD (cf cs i) (eZ (cf cs i)))) Sv.nil (fm (bI (eZ (cf cs i)) 0))) n d from ⟨⟨by omega,by omega,by omega,c1,by show (4:Int)≠0∧(4:Int)≠1;decide⟩,.inr (.inr (.inl rfl))⟩)
  · rename_i g1;rw [if_neg g1] at he;split
    · rename_i g2;rw [if_pos g2] at he;cases he
    · rename_i g2;have hne:=lx (uv (by simpa using g2));have hpr:cY (cf cs i)=true:=by rw [Am hne];exact hp i hi hne
      exact ⟨jd hn hd (.inl ⟨rfl,uy (by simpa using g2) hpr,tp _ (cr h i)⟩),.inl rfl⟩
def yt (cs:List ByteArray) (sub:Int→Nat→Tr × Int × Nat):Prop:=∀(d2:Int) (j:Nat),d2≤16→(sub d2 j).2.1=0→PatOk (sub d2 j).1 ((sub d2 j).2.2 - (j:Int)) d2
theorem yu {sub:Int→Nat→Tr × Int × Nat} {cs:List ByteArray} {d:Int} {i:Nat} (h:lA cs) (hp:BP cs) (hs:qL cs sub) (ho:yt cs sub) (hd:d≤16) (he:(da sub cs d i).2.1=0):qd (da sub cs d i).1 ((da sub cs d i).2.2 - (i:Int)) d:=by
  have grp:∀{k:Int} {x:Tr} {m n:Int},(k=5∨k=6)→PatOk x m (d+1)→0≤m→m+2≤n→qd (eR k ⟨#[]⟩ false 0 0 false Sv.nil [x]) n d:=fun {k x m n} hk hx h0 hmn=>by
    obtain ⟨a,b,c⟩:=Bb k 0 0 false x;have h1:=hx.wt;have h2:=hx.parts;have h3:=hx.deep;have h4:=(sD x).1;rw [if_pos hk] at b;refine ⟨⟨by omega,by omega,by omega,BQ hk hx.all,?_⟩,?_⟩
    · show k≠0∧k≠1;omega
    · show k=2∨k=3∨k=4∨k=5∨k=6;omega
  have hle:=oT hs he;unfold da at he hle ⊢;split
  · exact ⟨jd (by simp;omega) hd (.inr ⟨.inl rfl,rfl⟩),.inr (.inl rfl)⟩
  · rename_i g1;rw [if_neg g1] at he hle;split
    · rename_i g2;rw [if_pos g2] at he hle;split
      · rename_i g3;rw [if_pos g3] at he;cases he
      · rename_i g3;rw [if_neg g3] at he hle;split
        · rename_i g4;rw [if_pos g4] at he hle;split
          · rename_i g5;rw [if_pos g5] at he;cases he
          · rename_i g5;rw [if_neg g5] at he hle;split
            · rename_i g6;rw [if_pos g6] at he;exact absurd he g6
            · rename_i g6;rw [if_neg g6] at he hle;split
              · rename_i g7;rw [if_pos g7] at he;cases he
              · rename_i g7;rw [if_neg g7] at hle;have e6:(sub (d+1) (i+3)).2.1=0:=Classical.byContradiction g6;have a4:=hs (d+1) (i+3) e6;exact grp (.inr rfl) (ho (d+1) (i+3) (by omega) e6) (by omega) (by simp;omega)
        · rename_i g4;rw [if_neg g4] at he hle;split
          · rename_i g6;rw [if_pos g6] at he;exact absurd he g6
          · rename_i g6;rw [if_neg g6] at he hle;split
            · rename_i g7;rw [if_pos g7] at he;cases he
            · rename_i g7;rw [if_neg g7] at hle;have e6:(sub (d+1) (i+1)).2.1=0:=Classical.byContradiction g6;have a4:=hs (d+1) (i+1) e6;exact grp (.inl rfl) (ho (d+1) (i+1) (by omega) e6) (by omega) (by simp;omega)
    · rename_i g2;rw [if_neg g2] at he hle;split
      · rename_i g3;rw [if_pos g3] at he hle;have:=uw he;exact An h hd he (by omega)
      · rename_i g3;rw [if_neg g3] at he hle;split
        · rename_i g4;rw [if_pos g4] at he hle;have:=rP he;exact yr h hp (by omega) hd he (by omega)
        · rename_i g4;rw [if_neg g4] at he hle;split
          · rename_i g5;rw [if_pos g5] at he;cases he
          · rename_i g5;have hpr:cY (cf cs i)=true:=by
              unfold BM at g5;simp only [ba,not_or,aI,aw] at g5;exact g5.2
            exact ⟨jd (by simp;omega) hd (.inl ⟨rfl,hpr,cr h i⟩),.inl rfl⟩
theorem tA {sub:Int→Nat→Tr × Int × Nat} {cs:List ByteArray} {d:Int} {i:Nat} (h:lA cs) (hp:BP cs) (hs:qL cs sub) (ho:yt cs sub) (hd:d≤16) (he:(ec sub cs d i).2.1=0):TermOk (ec sub cs d i).1 ((ec sub cs d i).2.2 - (i:Int)) d:=by
  unfold ec at he ⊢;split
  · exact jd (by simp;omega) hd (.inr ⟨by decide,rfl⟩)
  · rename_i g1;rw [if_neg g1] at he;split
    · exact jd (by simp;omega) hd (.inr ⟨by decide,rfl⟩)
    · rename_i g2;rw [if_neg g2] at he;split
      · exact jd (by simp;omega) hd (.inr ⟨by decide,rfl⟩)
      · rename_i g3;rw [if_neg g3] at he;split
        · exact jd (by simp;omega) hd (.inr ⟨by decide,rfl⟩)
        · rename_i g4;rw [if_neg g4] at he;split
          · rename_i g5;rw [if_pos g5] at he;exact absurd he g5
          · rename_i g5;rw [if_neg g5] at he;have e5:(da sub cs d i).2.1=0:=Classical.byContradiction g5;have a1:=oT hs e5;have a2:=yu h hp hs ho hd e5;have a3:=wH hd he a2.1 (by omega) a2.2;have e:((da sub cs d i).2.2 - (i:Int))+((dk cs (da sub cs d i).1 (da sub cs d i).2.2).2.2 - ((da sub cs d i).2.2:Int))=(dk cs (da sub cs d i).1 (da sub cs d i).2.2).2.2 - (i:Int):=by omega
            rw [e] at a3;exact a3
structure SoFar (alts terms:List Tr) (i0 i:Nat) (d:Int):Prop where
  at':∀x ∈ alts,ij x=true∧x.k≠1∧eC x≤16 - d
  tt:∀x ∈ terms,ij x=true∧x.k≠0∧x.k≠1∧eC x≤16 - d
  le:i0≤i
  parts:cR (alts.map cE)+cR (terms.map cE)+(if alts=[] then 0 else 1)≤2 * ((i:Int) - i0)
  wt:cR (alts.map eJ)+cR (terms.map eJ)≤2200 * ((i:Int) - i0)
theorem SoFar.start (i:Nat) (d:Int):SoFar [] [] i i d:=⟨fun x hx=>(by cases hx),fun x hx=>(by cases hx),bj _,(by simp [cR]),(by simp [cR])⟩
theorem SoFar.term {alts terms:List Tr} {i0 i j:Nat} {d:Int} {x:Tr} (h:SoFar alts terms i0 i d) (hx:TermOk x ((j:Int) - i) d) (hj:i≤j):SoFar alts (terms++ [x]) i0 j d:=by
  refine ⟨h.at',fun y hy=> ?_,by have:=h.le;omega,?_,?_⟩
  · rcases List.mem_append.1 hy with hy | hy
    · exact h.tt y hy
    · simp at hy;subst hy;exact ⟨hx.all,hx.k.1,hx.k.2,hx.deep⟩
  · have:=h.parts;have:=hx.parts;rw [bA,aZ,bF,dL];omega
  · have:=h.wt;have:=hx.wt;rw [bA,aZ,bF,dL];omega
theorem SoFar.alt {alts terms:List Tr} {i0 i:Nat} {d:Int} (h:SoFar alts terms i0 i d) (hd:d≤16):SoFar (alts++ [dA terms]) [] i0 (i+1) d:=by
  obtain ⟨a,b,c,e⟩:=mZ hd h.tt;have hw:=ud terms;refine ⟨fun y hy=> ?_,fun x hx=>(by cases hx),(by have:=h.le;omega),?_,?_⟩
  · rcases List.mem_append.1 hy with hy | hy
    · exact h.at' y hy
    · simp at hy;subst hy;exact ⟨a,b,c⟩
  · have:=h.parts;rw [bA,aZ,bF,dL,if_neg (by simp)];rw [ji];split at this <;> omega
  · have:=h.wt;rw [bA,aZ,bF,dL];rw [ji];omega
theorem SoFar.fin {alts terms:List Tr} {i0 i:Nat} {d:Int} (h:SoFar alts terms i0 i d) (hd:d≤16):PatOk (kU (alts++ [dA terms])) ((i:Int) - i0) d:=by
  obtain ⟨a,b,c,e⟩:=mZ hd h.tt;have hw:=ud terms;have hw2:=xJ (alts++ [dA terms]);have hall:∀x ∈ alts++ [dA terms],ij x=true∧x.k≠1∧eC x≤16 - d:=fun y hy=>by
    rcases List.mem_append.1 hy with hy | hy
    · exact h.at' y hy
    · simp at hy;subst hy;exact ⟨a,b,c⟩
  obtain ⟨f1,f2,f3,f4⟩:=wG hd (by simp) hall;have hp:=h.parts;have hwt:=h.wt;rw [bA,aZ,bF,dL] at f4 hw2;refine ⟨by omega,?_,f2,f1⟩;by_cases hn:alts=[]
  · subst hn;have:=f3 (by simp);rw [fc] at this ⊢
    rw [aZ,bF,gK,ji] at this
    rw [bF,ji,if_pos rfl] at hp;omega
  · rw [if_neg hn] at hp;omega
theorem oX {cs:List ByteArray} (h:lA cs) (hp:BP cs):∀(f:Nat) (d:Int) (i0 i:Nat) (alts terms:List Tr),d≤16→SoFar alts terms i0 i d→(dW cs f d i alts terms).2.1=0→PatOk (dW cs f d i alts terms).1 ((dW cs f d i alts terms).2.2 - (i0:Int)) d
  | 0, d, i0, i, alts, terms, _, _, he => by cases he
  | f + 1, d, i0, i, alts, terms, hd, hso, he => by
    have hs:qL cs fun d j=>dW cs f d j [] []:=fun d j hh=>mX cs f d j [] [] hh;have ho:yt cs fun d j=>dW cs f d j [] []:=fun d j hd hh=>oX h hp f d j j [] [] hd (SoFar.start j d) hh;rw [dW] at he ⊢;split
    · rename_i g1;rw [if_pos g1] at he;split
      · rename_i g2;rw [if_pos g2] at he;exact absurd he g2
      · rename_i g2;rw [if_neg g2] at he;have e2:(ec (fun d j=>dW cs f d j [] []) cs d i).2.1=0:=Classical.byContradiction g2;have a1:=rQ hs e2;have a2:=tA h hp hs ho hd e2;exact oX h hp f d i0 _ _ _ hd (hso.term a2 (by omega)) he
    · rename_i g1;rw [if_neg g1] at he;split
      · rename_i g2;rw [if_pos g2] at he;exact oX h hp f d i0 _ _ _ hd (hso.alt hd) he
      · exact hso.fin hd
end
section
open Go.RowKit
open Srt
set_option maxRecDepth 100000 in
theorem vF (b:Int) (w:World):Calls Try.prog 93 #[.int .u8 b] w (fun e w'=>e= .returned (aB (jt b))∧Ext aV w w'):=by
 refine enter (n:=9) Try.func93 rfl rfl (ar rfl) ?_;intro a0 τ0 ha st0;have e0:=lL ha;refine wp_seq (ew st0 [] ⟨am fun c=>au rfl rfl,av⟩ fun ac ag ae ab aa=> ?_);replace e0:=aa.k1 e0;have e2:=aa.V 0;refine wp_seq (CZ ab [] ⟨aq e0,am fun c=>gl rfl (c.q 0) rfl,bk 1,aC 2 rfl fun c hpc=>aN rfl (c.p e0),aC 2 rfl fun c hpc=>jQ rfl (c.M 3 hpc) rfl,bN 2 4,aK 5,av⟩ fun ac ag ae ab aa=> ?_);have e2:=aa.V 6;refine wp_ret ?_;refine rp ?_;refine cG (fn:=Try.f93) rfl ab.defers e2 ?_;exact ⟨rfl,ab.ext0⟩
set_option maxRecDepth 100000 in
theorem yv (b:Int) (w:World):Calls Try.prog 97 #[.int .u8 b] w (fun e w'=>e= .returned (aB (vz b))∧Ext aV w w'):=by
 refine enter (n:=17) Try.func97 rfl rfl (ar rfl) ?_;intro a0 τ0 ha st0;have e0:=lL ha;refine wp_seq (ew st0 [] ⟨am fun c=>au rfl rfl,av⟩ fun ac ag ae ab aa=> ?_);replace e0:=aa.k1 e0;have e2:=aa.V 0;refine wp_seq (rg [_,_,_,_,_,_,_,_,_,_,_,_,_,_,_] [0,1,3,7,15,31,63,127,255,511,1023,2047,4095,8191,16383] ab [] ⟨aq e0,am fun c=>gl rfl (c.q 0) rfl,bk 1,aC 2 rfl fun c hpc=>aN rfl (c.p e0),aC 2 rfl fun c hpc=>jQ rfl (c.M 3 hpc) rfl,bN 2 4,bk 5,bJ 6 rfl fun c hpc=>aN rfl (c.p e0),bJ 6 rfl fun c hpc=>gl rfl (c.M 7 hpc) rfl,bJ 6 rfl fun c hpc=>aN rfl (c.M 8 hpc),cA 9 true rfl fun c hpc=>aN rfl (c.p e0),cA 9 true rfl fun c hpc=>jQ rfl (c.M 10 hpc) rfl,bJ 6 rfl fun c hpc=>lD rfl (c.M 9 hpc) (fun h=>c.m 11 rfl (And.intro hpc h)),dM 6 12,aK 13,av⟩ fun ac ag ae ab aa=> ?_);have e2:=aa.V 14;refine wp_ret ?_;refine rp ?_;refine cG (fn:=Try.f97) rfl ab.defers e2 ?_;exact ⟨rfl,ab.ext0⟩
set_option maxRecDepth 100000 in
theorem vG (s:ByteArray) (w:World):Calls Try.prog 92 #[(aR s)] w (fun e w'=>e= .returned (.tuple #[aR (eF s).1,aB (eF s).2])∧Ext aV w w'):=by
 refine enter (n:=31) Try.func92 rfl rfl (ar rfl) ?_;intro a0 τ0 ha st0;have e0:=lL ha;refine wp_seq (eE st0 [] ⟨am fun c=>au rfl rfl,am fun c=>au rfl rfl,av⟩ fun ac ag ae ab aa=> ?_);replace e0:=aa.k1 e0;have e2:=aa.V 0;have e3:=aa.V 1;refine wp_seq ?_;refine wp_seq (ew ab [] ⟨aq e0,av⟩ fun ac ag ae ab aa=> ?_);obtain ⟨e0,e2,e3⟩:=aa.k3 e0 e2 e3;have e4:=aa.V 0;refine wp_block ?_;refine wp_seq (eE ab [] ⟨am fun c=>eX rfl (c.p e4) rfl,aK 0,av⟩ fun ac ag ae ab aa=> ?_);obtain ⟨e0,e2,e3,e4⟩:=aa.k4 e0 e2 e3 e4;have e5:=aa.V 1;refine wp_cond_split e5 (fun hc1=> ?_) (fun hc1=> ?_)
 · have hd1:=hc1;skip;refine wp_seq (eE ab [] ⟨am fun c=>au rfl rfl,am fun c=>au rfl rfl,av⟩ fun ac ag ae ab aa=> ?_);obtain ⟨e0,e4⟩:=aa.k2 e0 e4;have e2:=aa.V 0;have e3:=aa.V 1;refine wp_ret ?_;refine rp ?_;refine jU (fn:=Try.f92) rfl ab.defers e2 e3 ?_;exact ⟨congrArg _ (show (Value.tuple #[(aR (⟨#[]⟩:ByteArray)),(aB false)])= .tuple #[aR (eF s).1,aB (eF s).2] from by rw [show eF s=((⟨#[]⟩:ByteArray),false) from (by unfold eF;(repeat (first | rw [if_neg (by first | assumption | (simp only [aI];assumption) | (simp only [aL];assumption))] | rw [if_pos (by assumption)])))]),ab.ext0⟩
 have hd1:=hc1;skip;refine wp_seq (eE ab [] ⟨am fun c=>eX rfl (c.p e4) rfl,aK 0,av⟩ fun ac ag ae ab aa=> ?_);obtain ⟨e0,e2,e3,e4⟩:=aa.k4 e0 e2 e3 e4;have e7:=aa.V 1;refine wp_cond_split e7 (fun hc2=> ?_) (fun hc2=> ?_)
 · have hd2:=hc2;skip;refine wp_seq (eE ab [] ⟨am fun c=>au rfl rfl,am fun c=>au rfl rfl,av⟩ fun ac ag ae ab aa=> ?_);obtain ⟨e0,e4⟩:=aa.k2 e0 e4;have e2:=aa.V 0;have e3:=aa.V 1;refine wp_ret ?_;refine rp ?_;refine jU (fn:=Try.f92) rfl ab.defers e2 e3 ?_;exact ⟨congrArg _ (show (Value.tuple #[(aR (⟨#[10]⟩:ByteArray)),(aB true)])= .tuple #[aR (eF s).1,aB (eF s).2] from by rw [show eF s=((⟨#[10]⟩:ByteArray),true) from (by unfold eF;(repeat (first | rw [if_neg (by first | assumption | (simp only [aI];assumption) | (simp only [aL];assumption))] | rw [if_pos (by assumption)])))]),ab.ext0⟩
 have hd2:=hc2;skip;refine wp_seq (eE ab [] ⟨am fun c=>eX rfl (c.p e4) rfl,aK 0,av⟩ fun ac ag ae ab aa=> ?_);obtain ⟨e0,e2,e3,e4⟩:=aa.k4 e0 e2 e3 e4;have e9:=aa.V 1;refine wp_cond_split e9 (fun hc3=> ?_) (fun hc3=> ?_)
 · have hd3:=hc3;skip;refine wp_seq (eE ab [] ⟨am fun c=>au rfl rfl,am fun c=>au rfl rfl,av⟩ fun ac ag ae ab aa=> ?_);obtain ⟨e0,e4⟩:=aa.k2 e0 e4;have e2:=aa.V 0;have e3:=aa.V 1;refine wp_ret ?_;refine rp ?_;refine jU (fn:=Try.f92) rfl ab.defers e2 e3 ?_;exact ⟨congrArg _ (show (Value.tuple #[(aR (⟨#[13]⟩:ByteArray)),(aB true)])= .tuple #[aR (eF s).1,aB (eF s).2] from by rw [show eF s=((⟨#[13]⟩:ByteArray),true) from (by unfold eF;(repeat (first | rw [if_neg (by first | assumption | (simp only [aI];assumption) | (simp only [aL];assumption))] | rw [if_pos (by assumption)])))]),ab.ext0⟩
 have hd3:=hc3;skip;refine wp_seq (eE ab [] ⟨am fun c=>eX rfl (c.p e4) rfl,aK 0,av⟩ fun ac ag ae ab aa=> ?_);obtain ⟨e0,e2,e3,e4⟩:=aa.k4 e0 e2 e3 e4;have e11:=aa.V 1;refine wp_cond_split e11 (fun hc4=> ?_) (fun hc4=> ?_)
 · have hd4:=hc4;skip;refine wp_seq (eE ab [] ⟨am fun c=>au rfl rfl,am fun c=>au rfl rfl,av⟩ fun ac ag ae ab aa=> ?_);obtain ⟨e0,e4⟩:=aa.k2 e0 e4;have e2:=aa.V 0;have e3:=aa.V 1;refine wp_ret ?_;refine rp ?_;refine jU (fn:=Try.f92) rfl ab.defers e2 e3 ?_;exact ⟨congrArg _ (show (Value.tuple #[(aR (⟨#[9]⟩:ByteArray)),(aB true)])= .tuple #[aR (eF s).1,aB (eF s).2] from by rw [show eF s=((⟨#[9]⟩:ByteArray),true) from (by unfold eF;(repeat (first | rw [if_neg (by first | assumption | (simp only [aI];assumption) | (simp only [aL];assumption))] | rw [if_pos (by assumption)])))]),ab.ext0⟩
 have hd4:=hc4;skip;refine wp_seq (eE ab [] ⟨am fun c=>eX rfl (c.p e4) rfl,aK 0,av⟩ fun ac ag ae ab aa=> ?_);obtain ⟨e0,e2,e3,e4⟩:=aa.k4 e0 e2 e3 e4;have e13:=aa.V 1;refine wp_cond_split e13 (fun hc5=> ?_) (fun hc5=> ?_)
 · have hd5:=hc5;skip;refine wp_seq (eE ab [] ⟨am fun c=>au rfl rfl,am fun c=>au rfl rfl,av⟩ fun ac ag ae ab aa=> ?_);obtain ⟨e0,e4⟩:=aa.k2 e0 e4;have e2:=aa.V 0;have e3:=aa.V 1;refine wp_ret ?_;refine rp ?_;refine jU (fn:=Try.f92) rfl ab.defers e2 e3 ?_;exact ⟨congrArg _ (show (Value.tuple #[(aR (⟨#[12]⟩:ByteArray)),(aB true)])= .tuple #[aR (eF s).1,aB (eF s).2] from by rw [show eF s=((⟨#[12]⟩:ByteArray),true) from (by unfold eF;(repeat (first | rw [if_neg (by first | assumption | (simp only [aI];assumption) | (simp only [aL];assumption))] | rw [if_pos (by assumption)])))]),ab.ext0⟩
 have hd5:=hc5;skip;refine wp_seq (eE ab [] ⟨am fun c=>eX rfl (c.p e4) rfl,aK 0,av⟩ fun ac ag ae ab aa=> ?_);obtain ⟨e0,e2,e3⟩:=aa.k3 e0 e2 e3;have e15:=aa.V 1;refine wp_cond_split e15 (fun hc6=> ?_) (fun hc6=> ?_)
 · have hd6:=hc6;skip;refine wp_seq (eE ab [] ⟨am fun c=>au rfl rfl,am fun c=>au rfl rfl,av⟩ fun ac ag ae ab aa=> ?_);replace e0:=aa.k1 e0;have e2:=aa.V 0;have e3:=aa.V 1;refine wp_ret ?_;refine rp ?_;refine jU (fn:=Try.f92) rfl ab.defers e2 e3 ?_;exact ⟨congrArg _ (show (Value.tuple #[(aR (⟨#[11]⟩:ByteArray)),(aB true)])= .tuple #[aR (eF s).1,aB (eF s).2] from by rw [show eF s=((⟨#[11]⟩:ByteArray),true) from (by unfold eF;(repeat (first | rw [if_neg (by first | assumption | (simp only [aI];assumption) | (simp only [aL];assumption))] | rw [if_pos (by assumption)])))]),ab.ext0⟩
 have hd6:=hc6;skip;refine wp_skip ?_;show _;refine wp_seq ?_;refine wp_seq ?_;refine rg [_,_,_,_,_,_,_,_,_,_,_,_,_] [0,1,3,7,15,31,63,127,255,511,1023,2047,4095] ab [] ⟨aq e0,am fun c=>ie rfl br (c.q 0),am fun c=>cu rfl (c.q 1) rfl,bk 2,aC 3 rfl fun c hpc=>aN rfl (c.p e0),aC 3 rfl fun c hpc=>gX rfl br (c.M 4 hpc) rfl (by have hq0:=bt hpc;omega) (by have hq0:=bt hpc;omega),fE 3 true rfl fun c hpc=>⟨_,_,(bw rfl rfl Try.call97 (c.M 5 hpc)),yv (bI s 0) _⟩,aC 3 rfl fun c hpc=>aN rfl (c.M 6 hpc),cA 7 false rfl fun c hpc=>aN rfl (c.p e0),cA 7 false rfl fun c hpc=>gX rfl br (c.M 8 hpc) rfl (by have hq0:=hpc.2;have hq1:=bt hpc.1;omega) (by have hq0:=hpc.2;have hq1:=bt hpc.1;omega),mQ 7 false rfl fun c hpc=>⟨_,_,(bw rfl rfl Try.call93 (c.M 9 hpc)),vF (bI s 0) _⟩,aC 3 rfl fun c hpc=>vW rfl (c.M 7 hpc) (fun h=>c.m 10 rfl (And.intro hpc h)),bN 3 11,av⟩ fun ac ag ae ab aa=> ?_;obtain ⟨e0,e2,e3⟩:=aa.k3 e0 e2 e3;have e29:=aa.V 12;refine wp_cond_split e29 (fun hc7=> ?_) (fun hc7=> ?_)
 · have hd7:=hc7;try simp only [ao,ba,ah] at hd7
   refine wp_seq (eE ab [] ⟨am fun c=>au rfl rfl,am fun c=>au rfl rfl,av⟩ fun ac ag ae ab aa=> ?_);replace e0:=aa.k1 e0;have e2:=aa.V 0;have e3:=aa.V 1;refine wp_ret ?_;refine rp ?_;refine jU (fn:=Try.f92) rfl ab.defers e2 e3 ?_;exact ⟨congrArg _ (show (Value.tuple #[(aR (⟨#[]⟩:ByteArray)),(aB false)])= .tuple #[aR (eF s).1,aB (eF s).2] from by rw [show eF s=((⟨#[]⟩:ByteArray),false) from (by unfold eF;(repeat (first | rw [if_neg (by first | assumption | (simp only [aI];assumption) | (simp only [aL];assumption))] | rw [if_pos (by assumption)])))]),ab.ext0⟩
 have hd7:=hc7;try simp only [aM,aH,ai] at hd7
 refine wp_skip ?_;refine wp_seq (eN ab [] ⟨aq e0,aK 0,am fun c=>au rfl rfl,av⟩ fun ac ag ae ab aa=> ?_);have e2:=aa.V 1;have e3:=aa.V 2;refine wp_ret ?_;refine rp ?_;refine jU (fn:=Try.f92) rfl ab.defers e2 e3 ?_;exact ⟨congrArg _ (show (Value.tuple #[(aR s),(aB true)])= .tuple #[aR (eF s).1,aB (eF s).2] from by rw [show eF s=(s,true) from (by unfold eF;(repeat (first | rw [if_neg (by first | assumption | (simp only [aI];assumption) | (simp only [aL];assumption))] | rw [if_pos (by assumption)])))]),ab.ext0⟩
set_option maxRecDepth 100000 in
theorem CS (v:Value) (cv:Sv) (cs:List ByteArray) (i:Nat) (w:World) (hm0:w.cell? (cX v)=some cv.v) (hm1:w.cell? ((cX v).add 1)=some (aj (i:Int))) (hS:SlT fy w cv.v cs):Calls Try.prog 45 #[(.pointer (some (cX v)))] w (fun e w'=>e= .returned (aR (cf cs i))∧Ext aV w w'):=by
 refine enter (n:=23) Try.func45 rfl rfl (ar rfl) ?_;intro a0 τ0 ha st0;have e0:=lL ha;have hle:=hS.le;refine wp_seq (ew st0 [] ⟨am fun c=>au rfl rfl,av⟩ fun ac ag ae ab aa=> ?_);replace e0:=aa.k1 e0;have e2:=aa.V 0;refine wp_seq ?_;refine wp_seq (tV [0,1,3,7,0,16,48,112,240,511] ab [] ⟨aq e0,co 0 rfl,bW aU ay 1 rfl,am fun c=>az rfl aD (c.q 2) ((ab.ext.trans c.J.ext).cellAt hm1),aq e0,co 4 rfl,bW aU bY 5 rfl,am fun c=>az rfl cq (c.q 6) ((ab.ext.trans c.J.ext).cellAt hm0),am fun c=>cU rfl aY (c.q 7) hS.sl,am fun c=>gl rfl (c.q 3) (c.q 8),av⟩ fun ac ag ae ab aa=> ?_);obtain ⟨e0,e2⟩:=aa.k2 e0 e2;have e12:=aa.V 9;refine wp_cond_split e12 (fun hc1=> ?_) (fun hc1=> ?_)
 · try simp only [ah] at hc1
   refine wp_seq (ew ab [] ⟨am fun c=>au rfl rfl,av⟩ fun ac ag ae ab aa=> ?_);replace e0:=aa.k1 e0;have e2:=aa.V 0;refine wp_ret ?_;refine rp ?_;refine cG (fn:=Try.f45) rfl ab.defers e2 ?_;exact ⟨congrArg _ (congrArg _ (by unfold cf;first | rw [if_pos (by omega)] | rw [if_neg (by omega)])),ab.ext0⟩
 try simp only [ai,ea] at hc1
 refine wp_skip ?_;refine wp_seq (rj [0,1,3,7,0,16,48,112,255,511,1023] ab [] ⟨aq e0,co 0 rfl,bW aU bY 1 rfl,am fun c=>az rfl cq (c.q 2) ((ab.ext.trans c.J.ext).cellAt hm0),aq e0,co 4 rfl,bW aU ay 5 rfl,am fun c=>az rfl aD (c.q 6) ((ab.ext.trans c.J.ext).cellAt hm1),am fun c=>aW rfl aY bq (c.q 3) hS.sl (c.q 7) (by omega) (by omega),am fun c=>az rfl bQ (c.q 8) ((hS.at (ab.ext.trans c.J.ext)).elem (j:=0) (bD (i:=(i:Int)) (by omega) (by omega)) rfl),aK 9,av⟩ fun ac ag ae ab aa=> ?_);have e2:=aa.V 10;refine wp_ret ?_;refine rp ?_;refine cG (fn:=Try.f45) rfl ab.defers e2 ?_;exact ⟨congrArg _ (congrArg _ (by unfold cf;first | rw [if_pos (by omega)] | rw [if_neg (by omega)])),ab.ext0⟩
theorem lf (v:Value) (cv:Sv) (cs:List ByteArray) (i:Nat) (w:World) (hR:RdR 73 v cv cs i w):Calls Try.prog 45 #[v] w (fun e w'=>e= .returned (.string (cf cs i))∧Ext aV w w'):=by
  have h:=CS v cv cs i w (hR.box.cell (j:=0) rfl) (hR.box.cell (j:=1) rfl) hR.sl;rwa [←hR.box.ptr] at h
set_option maxRecDepth 100000 in
theorem eU (v:Value) (cv:Sv) (cs:List ByteArray) (i:Nat) (s:ByteArray) (w:World) (hR:RdR 73 v cv cs i w) (hL:lA cs) (hi:i≤cs.length+5):Calls Try.prog 48 #[v,(aR s)] w (fun e w'=>e= .returned (aB (dX cs i s))∧Ext (bS v) w w'∧cj 73 [cv.v,aj ((tkN cs i s:Nat):Int)] (bS v) v w'):=by
 refine eH (bS v) (fun g hg=>hR.box.lt g hg) (n:=36) Try.func48 rfl rfl (ar rfl) ?_;intro a0 τ0 ha hτ st0;obtain ⟨e0,e1⟩:=pp ha;have hL1:=hL.1;have r0:cj 73 [cv.v,aj ((i:Nat):Int)] (τ0 0) v w:=by rw [hτ];exact hR.box
 have r9:Fz (eY fy Al cv.v cs) τ0 w:=hR.inz st0;refine wp_seq (ew st0 [jb r0,jz 9 r9] ⟨am fun c=>au rfl rfl,av⟩ fun ac ag ae ab aa=> ?_);obtain ⟨e0,e1⟩:=aa.k2 e0 e1;have e4:=aa.V 0;replace r0:=aa.B 0;replace r9:=aa.z1 9;refine wp_seq ?_;refine wp_seq ?_;refine rg [_,_,_,_,_,_,_,_,_,_,_,_,_,_,_,_,_,_,_,_,_,_,_,_] [0,1,3,7,0,16,48,112,240,511,1023,2047,4095,8191,16383,2047,34815,100351,231423,524287,1048575,2047,4194303,8388607] ab [jb r0,jz 9 r9] ⟨aq e0,co 0 r0.ptr,bW aU ay 1 r0.ptr,eG aD 2 0 1,aq e0,co 4 r0.ptr,bW aU bY 5 r0.ptr,eG cq 6 0 0,am fun c=>cU rfl aY (c.q 7) (r9).1.sl,am fun c=>gl rfl (c.q 3) (c.q 8),bk 9,bJ 10 rfl fun c hpc=>aN rfl (c.p e0),bJ 10 rfl fun c hpc=>cH rfl (c.M 11 hpc) r0.ptr,bJ 10 rfl fun c hpc=>cN rfl aU bY ((c.M 12 hpc).trans r0.ptr),bJ 10 rfl fun c hpc=>az rfl cq (c.M 13 hpc) ((c.B 0).cell (j:=0) rfl),bJ 10 rfl fun c hpc=>aN rfl (c.p e0),bJ 10 rfl fun c hpc=>cH rfl (c.M 15 hpc) r0.ptr,bJ 10 rfl fun c hpc=>cN rfl aU ay ((c.M 16 hpc).trans r0.ptr),bJ 10 rfl fun c hpc=>az rfl aD (c.M 17 hpc) ((c.B 0).cell (j:=1) rfl),bJ 10 rfl fun c hpc=>aW rfl aY bq (c.M 14 hpc) (r9).1.sl (c.M 18 hpc) (by have hq0:=bn hpc;omega) (by have hq0:=bn hpc;omega),bJ 10 rfl fun c hpc=>az rfl bQ (c.M 19 hpc) (((c.iz 9 rfl).1).elem (j:=0) (bD (i:=((i:Nat):Int)) (by have hq0:=bn hpc;omega) (by have hq0:=bn hpc;omega)) rfl),bJ 10 rfl fun c hpc=>aN rfl (c.p e1),bJ 10 rfl fun c hpc=>lm rfl (c.M 20 hpc) (c.M 21 hpc),dM 10 22,av⟩ fun ac ag ae ab aa=> ?_;obtain ⟨e0,e4⟩:=aa.k2 e0 e4;have e28:=aa.V 23;replace r0:=aa.B 0;replace r9:=aa.z1 9;refine wp_cond_split e28 (fun hc1=> ?_) (fun hc1=> ?_)
 · have hd1:=hc1;try simp only [ba,aH,ax,aw,ah,ai,ea] at hd1
   refine wp_seq (ew ab [jb r0,jz 9 r9] ⟨am fun c=>au rfl rfl,av⟩ fun ac ag ae ab aa=> ?_);replace e0:=aa.k1 e0;have e4:=aa.V 0;replace r0:=aa.B 0;replace r9:=aa.z1 9;refine wp_ret ?_;refine rp ?_;refine cG (fn:=Try.f48) rfl ab.defers e4 ?_;have hb_:dX cs i s=false:=by unfold dX;first | (rw [show (decide ((cs.length:Int)≤(i:Int)) || (!(gD (nth cs (i:Int)) s)))=true from by assumption];rfl) | (rw [show (decide ((cs.length:Int)≤(i:Int)) || (!(gD (nth cs (i:Int)) s)))=false from by assumption];rfl)
   rw [hb_,iS hb_];exact ⟨rfl,ab.extIn,r0.foot⟩
 have hd1:=hc1;try simp only [ba,aH,ax,aw,ah,ai,ea] at hd1
 refine wp_skip ?_;refine wp_seq (wW ab [jb r0,jz 9 r9] ⟨aq e0,co 0 r0.ptr,bW aU ay 1 r0.ptr,eG aD 2 0 1,am fun c=>cZ rfl (c.q 3) rfl (by omega),co 0 r0.ptr,bW aU ay 5 r0.ptr,bX (cx:=[cv.v,(aj (((i:Nat):Int)+1))]) ay fun c=>⟨c.bp 0 rfl e0,c.ad (c.q 6) e0 rfl,(c.q 4)⟩,av⟩ fun ac ag ae ab aa=> ?_);obtain ⟨e0,e4⟩:=aa.k2 e0 e4;replace r0:=aa.RB 7 e0;replace r9:=aa.z1 9;replace r0:cj 73 [cv.v,aj ((i+1:Nat):Int)] (ae 0) v ag:=by rw [show ((i+1:Nat):Int)=((i:Nat):Int)+1 from by omega];exact r0
 refine wp_seq (ew ab [jb r0,jz 9 r9] ⟨am fun c=>au rfl rfl,av⟩ fun ac ag ae ab aa=> ?_);replace e0:=aa.k1 e0;have e4:=aa.V 0;replace r0:=aa.B 0;replace r9:=aa.z1 9;refine wp_ret ?_;refine rp ?_;refine cG (fn:=Try.f48) rfl ab.defers e4 ?_;have hb_:dX cs i s=true:=by unfold dX;first | (rw [show (decide ((cs.length:Int)≤(i:Int)) || (!(gD (nth cs (i:Int)) s)))=true from by assumption];rfl) | (rw [show (decide ((cs.length:Int)≤(i:Int)) || (!(gD (nth cs (i:Int)) s)))=false from by assumption];rfl)
 rw [hb_,ia hb_];exact ⟨rfl,ab.extIn,r0.foot⟩
end
section
open Go.RowKit
open Srt
theorem Ao {cs:List ByteArray} {f:Nat} {n:Int} {m i:Nat} (h:((decide ((m:Int) < 3)&&decide (((cf cs i).size:Int)=1))&&jt (bI (cf cs i) 0))=true):lH cs (f+1) n m i=lH cs f (n * 10+(bI (cf cs i) 0 - 48)) (m+1) (i+1):=by rw [lH,if_pos h]
theorem yw {cs:List ByteArray} {f:Nat} {n:Int} {m i:Nat} (h:((decide ((m:Int) < 3)&&decide (((cf cs i).size:Int)=1))&&jt (bI (cf cs i) 0))=false):lH cs (f+1) n m i=(n,m,i):=by rw [lH,if_neg (by rw [h];decide)]
theorem Bc {b:Int} (h:jt b=true):IntKind.u8.wrap (b - 48)=b - 48:=by
  simp only [jt,ao,ah] at h;simp [IntKind.wrap,IntKind.signed,IntKind.bits];omega
theorem Bd {b:Int} (h:0≤b∧b≤255):IntKind.i64.wrap b=b:=IntWalk.i64_in _ (by omega)
set_option maxRecDepth 100000 in
theorem Be (v:Value) (cv:Sv) (cs:List ByteArray) (i:Nat) (w:World) (hR:RdR 73 v cv cs i w) (hL:lA cs) (hi:i≤cs.length+5):Calls Try.prog 79 #[v] w (fun e w'=>e= .returned (.tuple #[aj (bO cs i).1,aB (iq (bO cs i))])∧Ext (bS v) w w'∧cj 73 [cv.v,aj (((bO cs i).2.2:Nat):Int)] (bS v) v w'):=by
 refine eH (bS v) (fun g hg=>hR.box.lt g hg) (n:=44) Try.func79 rfl rfl (ar rfl) ?_;intro a0 τ0 ha hτ st0;have e0:=lL ha;have hL1:=hL.1;have r0:cj 73 [cv.v,aj ((i:Nat):Int)] (τ0 0) v w:=by rw [hτ];exact hR.box
 have r9:Fz (eY fy Al cv.v cs) τ0 w:=hR.inz st0;refine wp_seq (eE st0 [jb r0,jz 9 r9] ⟨am fun c=>au rfl rfl,am fun c=>au rfl rfl,av⟩ fun ac ag ae ab aa=> ?_);replace e0:=aa.k1 e0;have e2:=aa.V 0;have e3:=aa.V 1;replace r0:=aa.B 0;replace r9:=aa.z1 9;refine wp_seq (eE ab [jb r0,jz 9 r9] ⟨am fun c=>au rfl rfl,am fun c=>au rfl rfl,av⟩ fun ac ag ae ab aa=> ?_);obtain ⟨e0,e2,e3⟩:=aa.k3 e0 e2 e3;have e4:=aa.V 0;have e5:=aa.V 1;replace r0:=aa.B 0;replace r9:=aa.z1 9;refine wp_seq ?_;refine wp_block ?_;refine wp_loop (fun a_ w_=>∃(n:Int) (m j f:Nat) (τ:Nat→aQ),(0≤n∧n < 10 ^ m)∧
      (m+f=3)∧
      (i≤j)∧
      (j≤i+m)∧
      (lH cs 4 0 0 i=lH cs (f+1) n m j)∧
      St (fun k=>bS v k∨w.heap.size≤k) w 44 a_ w_ τ∧
      aS a_ 4=(aj n)∧
      aS a_ 5=(aj (m:Int))∧
      aS a_ 0=v∧
      aS a_ 2=(aj 0)∧
      aS a_ 3=(aB false)∧
      cj 73 [cv.v,(aj ((j:Nat):Int))] (τ 0) v w_∧
      Fz (eY fy Al cv.v cs) τ w_) (fun a_ _=>(3 - intOf (aS a_ 5)).toNat) ?_ ?_
 · refine ⟨0,0,i,3,ae,?_,?_,?_,?_,?_,ab,(e4.trans (bE (by omega))),(e5.trans (bE (by omega))),e0,e2,e3,r0,r9⟩
   · decide
   · omega
   · omega
   · omega
   · rfl
 intro a3 w3 hI;obtain ⟨n,m,j,f,τ3,q0,q1,q2,q3,q4,st3,e4,e5,e0,e2,e3,r0,r9⟩:=hI;have hn1000:n < 1000:=jO q0.2 (by show (10:Int) ^ m≤1000;match m,(show m≤3 by omega) with | 0,_=>decide | 1,_=>decide | 2,_=>decide | 3,_=>decide)
 have m5:=e5;refine wp_seq ?_;refine wp_seq ?_;refine rg [_,_,_,_,_,_,_,_,_,_,_,_,_,_] [0,1,3,7,15,31,63,127,255,511,1023,2047,4095,8191] st3 [jb r0,jz 9 r9] ⟨aq e5,am fun c=>dt rfl (c.q 0) rfl,bk 1,aC 2 rfl fun c hpc=>aN rfl (c.p e0),fE 2 true rfl fun c hpc=>⟨_,_,(bw rfl rfl fe (c.M 3 hpc)),lf v cv cs j _ (jm (c.B 0) (c.iz 9 rfl) (fun g_ h_ hz_=>hz_.2 _ h_))⟩,aC 2 rfl fun c hpc=>ie rfl br (c.M 4 hpc),aC 2 rfl fun c hpc=>cu rfl (c.M 5 hpc) rfl,bN 2 6,bk 7,aC 8 rfl fun c hpc=>aN rfl (c.p e0),fE 8 true rfl fun c hpc=>⟨_,_,(bw rfl rfl fe (c.M 9 hpc)),lf v cv cs j _ (jm (c.B 0) (c.iz 9 rfl) (fun g_ h_ hz_=>hz_.2 _ h_))⟩,aC 8 rfl fun c hpc=>gX rfl br (c.M 10 hpc) rfl (by have hq0:=hpc;(try simp only [ao,ah] at hq0);first | omega | (have h_:=fk (cf cs j) 0;omega) | (have h_:=fZ (by omega:((cf cs j).size:Int)=1);omega)) (by have hq0:=hpc;(try simp only [ao,ah] at hq0);first | omega | (have h_:=fk (cf cs j) 0;omega) | (have h_:=fZ (by omega:((cf cs j).size:Int)=1);omega)),fE 8 true rfl fun c hpc=>⟨_,_,(bw rfl rfl Try.call93 (c.M 11 hpc)),vF (bI (cf cs j) 0) _⟩,bN 8 12,av⟩ fun ac ag ae ab aa=> ?_;obtain ⟨e0,e2,e3,e4,e5⟩:=aa.k5 e0 e2 e3 e4 e5;have e19:=aa.V 13;replace r0:=aa.B 0;replace r9:=aa.z1 9;refine wp_cond_split e19 (fun hc1=> ?_) (fun hc1=> ?_)
 · have hd1:=hc1;try simp only [ao,ah] at hd1
   refine wp_skip ?_;refine wp_block ?_;refine wp_seq ?_;have hcond:((decide ((m:Int) < 3)&&decide (((cf cs j).size:Int)=1))&&jt (bI (cf cs j) 0))=true:=by assumption
   have hbr:=fk (cf cs j) 0;have hca:=hcond;simp only [ao,ah] at hca;have hdb:=hca.2;simp only [jt,ao,ah] at hdb;have hwr:IntKind.i64.wrap (IntKind.u8.wrap (bI (cf cs j) 0 - 48))=bI (cf cs j) 0 - 48:=by rw [Bc hca.2,Bd (by omega)]
   have hsz1:=fZ hca.1.2;refine uU [0,1,0,4,12,28,60,127,255] ab [jb r0,jz 9 r9] ⟨aq e4,am fun c=>Ct rfl (c.q 0) rfl (by first | omega | (have h_:=fk (cf cs j) 0;omega) | (have h_:=fZ (by omega:((cf cs j).size:Int)=1);omega)),aq e0,eu fun c=>⟨_,_,(bw rfl rfl fe (c.q 2)),lf v cv cs j _ (jm (c.B 0) (c.iz 9 rfl) (fun g_ h_ hz_=>hz_.2 _ h_))⟩,am fun c=>gX rfl br (c.q 3) rfl (by first | omega | (have h_:=fk (cf cs j) 0;omega) | (have h_:=fZ (by omega:((cf cs j).size:Int)=1);omega)) (by first | omega | (have h_:=fk (cf cs j) 0;omega) | (have h_:=fZ (by omega:((cf cs j).size:Int)=1);omega)),am fun c=>xc rfl (c.q 4) rfl,am fun c=>pb rfl fP es (c.q 5),am fun c=>cZ rfl (c.q 1) (c.q 6) (by first | omega | (have h_:=fk (cf cs j) 0;omega) | (have h_:=fZ (by omega:((cf cs j).size:Int)=1);omega)),aK 7,av⟩ fun ac ag ae ab aa=> ?_;obtain ⟨e0,e2,e3,e5,e19⟩:=aa.k5 e0 e2 e3 e5 e19;have e4:=aa.V 8;replace r0:=aa.B 0;replace r9:=aa.z1 9;have hcb:=hcond;simp only [ao,ah] at hcb;have hdg:=hcb.2;simp only [jt,ao,ah] at hdg;have hsz:=fZ hcb.1.2;replace e4:aS ac 4=aj (n * 10+(bI (cf cs j) 0 - 48)):=by rw [e4,Bc hcb.2,Bd (by omega)]
   refine wp_seq ?_;refine eN ab [jb r0,jz 9 r9] ⟨aq e5,am fun c=>cZ rfl (c.q 0) rfl (by first | omega | (have h_:=fk (cf cs j) 0;omega) | (have h_:=fZ (by omega:((cf cs j).size:Int)=1);omega)),aK 1,av⟩ fun ac ag ae ab aa=> ?_;obtain ⟨e0,e2,e3,e4,e19⟩:=aa.k5 e0 e2 e3 e4 e19;have e5:=aa.V 2;replace r0:=aa.B 0;replace r9:=aa.z1 9;refine wW ab [jb r0,jz 9 r9] ⟨aq e0,co 0 r0.ptr,bW aU ay 1 r0.ptr,eG aD 2 0 1,am fun c=>cZ rfl (c.q 3) rfl (by first | omega | (have h_:=fk (cf cs j) 0;omega) | (have h_:=fZ (by omega:((cf cs j).size:Int)=1);omega)),co 0 r0.ptr,bW aU ay 5 r0.ptr,bX (cx:=[cv.v,(aj (((j:Nat):Int)+1))]) ay fun c=>⟨c.bp 0 rfl e0,c.ad (c.q 6) e0 rfl,(c.q 4)⟩,av⟩ fun ac ag ae ab aa=> ?_;obtain ⟨e0,e2,e3,e4,e5,e19⟩:=aa.k6 e0 e2 e3 e4 e5 e19;replace r0:=aa.RB 7 e0;replace r9:=aa.z1 9;replace r0:cj 73 [cv.v,aj ((j+1:Nat):Int)] (ae 0) v ag:=by rw [show ((j+1:Nat):Int)=((j:Nat):Int)+1 from by omega];exact r0
   show _;refine ⟨⟨n * 10+(bI (cf cs j) 0 - 48),m+1,j+1,f - 1,ae,?_,?_,?_,?_,?_,ab,(e4.trans (bE (by omega))),(e5.trans (bE (by omega))),e0,e2,e3,r0,r9⟩,?_⟩
   · rw [Int.pow_succ];omega
   · omega
   · omega
   · omega
   · obtain ⟨f,rfl⟩:∃f_,f=f_+1:=⟨f - 1,by omega⟩;rw [q4,Ao hcond];rfl
   · simp only [m5,e5,intOf];omega
 have hd1:=hc1;try simp only [aM,ai,bd] at hd1
 refine wp_exit ?_;repeat (with_reducible refine ct ?_)
 refine cw ?_;refine wp_seq ?_;have hcond:((decide ((m:Int) < 3)&&decide (((cf cs j).size:Int)=1))&&jt (bI (cf cs j) 0))=false:=by assumption
 refine uU [0,0,2,6,14,30,62,15,255] ab [jb r0,jz 9 r9] ⟨aq e4,aq e5,am fun c=>jh rfl (c.q 1) rfl,bk 2,aC 3 rfl fun c hpc=>aN rfl (c.p e4),aC 3 rfl fun c hpc=>jQ rfl (c.M 4 hpc) rfl,bN 3 5,aK 0,aK 6,av⟩ fun ac ag ae ab aa=> ?_;replace e0:=aa.k1 e0;have e2:=aa.V 7;have e3:=aa.V 8;replace r0:=aa.B 0;replace r9:=aa.z1 9;refine wp_ret ?_;refine rp ?_;refine jU (fn:=Try.f79) rfl ab.defers e2 e3 ?_;have he_:bO cs i=(n,m,j):=by rw [bO,q4,yw hcond]
 rw [he_];exact ⟨rfl,ab.extIn,r0.foot⟩
end
section
open Go.RowKit
open Srt
theorem Dk {a b:Bool} (h:(a&&b)=true):b=true:=by cases a <;> simp_all
theorem yx {r:Rw} (h:((!cY r.1 || !cY r.2) || !oF r.1 r.2)=true):eh r=false:=by rw [vi] at h;simpa using h
theorem vH {r:Rw} (h:((!cY r.1 || !cY r.2) || !oF r.1 r.2)=false):eh r=true:=by rw [vi] at h;simpa using h
theorem yy {xs:List Rw} {n f:Bool} {s:ByteArray} (h:f=true):wl xs n f s= !(((wZ xs s || wZ xs (eZ s)) || wZ xs (Dd s))==n):=by rw [wl,if_pos h]
theorem yz {xs:List Rw} {n f:Bool} {s:ByteArray} (h:f=false):wl xs n f s= !(wZ xs s==n):=by rw [wl,if_neg (by rw [h];decide)]
theorem oa {n:Int} (h:n=100):fm n=[(⟨#[48]⟩,⟨#[57]⟩)]∧gh n=true:=by subst h;exact ⟨rfl,rfl⟩
theorem ob {n:Int} (h:n=119):fm n=[(⟨#[48]⟩,⟨#[57]⟩),(⟨#[65]⟩,⟨#[90]⟩),(⟨#[95]⟩,⟨#[95]⟩),(⟨#[97]⟩,⟨#[122]⟩)]∧gh n=true:=by subst h;exact ⟨rfl,rfl⟩
theorem od {n:Int} (h:n=115):fm n=[(⟨#[9]⟩,⟨#[13]⟩),(⟨#[32]⟩,⟨#[32]⟩)]∧gh n=true:=by subst h;exact ⟨rfl,rfl⟩
theorem yA {n:Int} (h1:¬n=100) (h2:¬n=119) (h3:¬n=115):fm n=[]∧gh n=false:=by
  unfold fm gh;rw [if_neg h1,if_neg h2,if_neg h3,decide_eq_false h1,decide_eq_false h2,decide_eq_false h3];exact ⟨rfl,rfl⟩
set_option maxRecDepth 100000 in
theorem wI (s:ByteArray) (w:World) (hs:s.size≤1000000000):Calls Try.prog 90 #[(aR s)] w (fun e w'=>e= .returned (aR (eZ s))∧Ext aV w w'):=by
 refine enter (n:=35) Try.func90 rfl rfl (ar rfl) ?_;intro a0 τ0 ha st0;have e0:=lL ha;have hbl:=gY s;have hbd:s.data.toList.length=s.size:=gY s;refine wp_seq (ew st0 [] ⟨am fun c=>au rfl rfl,av⟩ fun ac ag ae ab aa=> ?_);replace e0:=aa.k1 e0;have e2:=aa.V 0;refine wp_seq (rg [_,wa 5 _ 0 6 _,wa 5 _ 0 3 _] [0,1,3] ab [] ⟨aq e0,mR rfl rfl rfl rfl br cM fP (by first | omega | exact (gb _).1 | exact (gb _).2) fun c=>(c.n 0 rfl),de (t0:=6) rfl rfl rfl rfl rfl (.inr rfl) (fun _ _ _ _ c=>⟨c.ry 1 rfl,rfl⟩),av⟩ fun ac ag ae ab aa=> ?_);obtain ⟨b2x3,e3⟩:=gx ac 3;replace e2:=aa.k1 e2;have r0:=aa.ry 2 e3 rfl;refine wp_seq ?_;refine wp_seq (ew ab [jy r0] ⟨am fun c=>au rfl rfl,av⟩ fun ac ag ae ab aa=> ?_);obtain ⟨e2,e3⟩:=aa.k2 e2 e3;have e4:=aa.V 0;replace r0:=aa.iy 0 rfl;refine wp_block ?_;refine wp_loop (fun a_ w_=>∃(k:Nat) (τ:Nat→aQ),(k≤(bs s).length)∧
      St (Nw w) w 35 a_ w_ τ∧
      aS a_ 4=(aj (k:Int))∧
      aS a_ 2=(aR (⟨#[]⟩:ByteArray))∧
      aS a_ 3=b2x3∧
      jD 5 (eP iD (bs s) k) (τ 0) b2x3 w_) (fun a_ _=>(bs s).length - (intOf (aS a_ 4)).toNat) ?_ ?_
 · refine ⟨0,ae,?_,ab,(e4.trans (bE (by omega))),e2,e3,?_⟩
   · omega
   · exact r0.cast (by exact mV _ _)
 intro a4 w4 hI;obtain ⟨k,τ4,q0,st4,e4,e2,e3,r0⟩:=hI;have hml:=nS iD (bs s) k;have m4:=e4;refine wp_seq ?_;refine wp_seq (lS [0,0,2,7] st4 [jy r0] ⟨aq e4,aq e3,am fun c=>cU rfl cM (c.q 1) r0.isSl,am fun c=>dt rfl (c.q 0) (c.q 2),av⟩ fun ac ag ae ab aa=> ?_);obtain ⟨e2,e3,e4⟩:=aa.k3 e2 e3 e4;have e10:=aa.V 3;replace r0:=aa.iy 0 rfl;refine wp_cond_split e10 (fun hc1=> ?_) (fun hc1=> ?_)
 · try simp only [ah] at hc1
   refine wp_skip ?_;refine wp_seq ?_;refine wp_block ?_;refine wp_seq ?_;refine CD [0,0,3,7,15,31,63,63,255,511,1023,2047] ab [jy r0] ⟨aq e3,aq e4,am fun c=>aW rfl cM fv (c.q 0) r0.isSl (c.q 1) (by first | omega | exact (gb _).1 | exact (gb _).2) (by first | omega | exact (gb _).1 | exact (gb _).2),am fun c=>az rfl lh (c.q 2) (((c.iy 0 rfl).1.sl).elem (j:=0) (bD (i:=(k:Int)) (by first | omega | exact (gb _).1 | exact (gb _).2) (by first | omega | exact (gb _).1 | exact (gb _).2)) rfl),am fun c=>gl rfl (c.q 3) rfl,bk 4,aC 5 rfl fun c hpc=>aN rfl (c.p e3),aC 5 rfl fun c hpc=>aN rfl (c.p e4),aC 5 rfl fun c hpc=>aW rfl cM fv (c.M 6 hpc) r0.isSl (c.M 7 hpc) (by have hq0:=bt hpc;first | omega | exact (gb _).1 | exact (gb _).2) (by have hq0:=bt hpc;first | omega | exact (gb _).1 | exact (gb _).2),aC 5 rfl fun c hpc=>az rfl lh (c.M 8 hpc) (((c.iy 0 rfl).1.sl).elem (j:=0) (bD (i:=(k:Int)) (by have hq0:=bt hpc;first | omega | exact (gb _).1 | exact (gb _).2) (by have hq0:=bt hpc;first | omega | exact (gb _).1 | exact (gb _).2)) rfl),aC 5 rfl fun c hpc=>jQ rfl (c.M 9 hpc) rfl,bN 5 10,av⟩ fun ac ag ae ab aa=> ?_;obtain ⟨e2,e3,e4,e10⟩:=aa.k4 e2 e3 e4 e10;have e24:=aa.V 11;replace r0:=aa.iy 0 rfl;refine wp_cond_split e24 (fun hc2=> ?_) (fun hc2=> ?_)
   · have hd2:=hc2;try simp only [ao,ah] at hd2
     refine rg [_,_,_,_,_,_,_,_,wa 5 _ 0 3 _] [0,0,0,0,12,28,60,127,255] ab [jy r0] ⟨aq e3,aq e4,aq e3,aq e4,am fun c=>aW rfl cM fv (c.q 2) r0.isSl (c.q 3) (by first | omega | exact (gb _).1 | exact (gb _).2) (by first | omega | exact (gb _).1 | exact (gb _).2),am fun c=>az rfl lh (c.q 4) (((c.iy 0 rfl).1.sl).elem (j:=0) (bD (i:=(k:Int)) (by first | omega | exact (gb _).1 | exact (gb _).2) (by first | omega | exact (gb _).1 | exact (gb _).2)) rfl),am fun c=>xb rfl (c.q 5) rfl,am fun c=>aW rfl cM fv (c.q 0) r0.isSl (c.q 1) (by first | omega | exact (gb _).1 | exact (gb _).2) (by first | omega | exact (gb _).1 | exact (gb _).2),nO (i:=(k:Int).toNat) (n:=IntKind.u8.wrap (((nth (eP iD (bs s) k) (k:Int)).toNat:Int)+32)) rfl rfl rfl rfl fv (by first | omega | exact (gb _).1 | exact (gb _).2) (by first | omega | exact (gb _).1 | exact (gb _).2) (by first | omega | exact (gb _).1 | exact (gb _).2) fun c=>⟨c.yp 0 rfl e3,c.ad (c.n 7 rfl) e3 rfl,(c.n 6 rfl)⟩,av⟩ fun ac ag ae ab aa=> ?_;obtain ⟨e2,e3,e4,e10,e24⟩:=aa.k5 e2 e3 e4 e10 e24;replace r0:=aa.ry 8 e3 rfl;show _;refine eN ab [jy r0] ⟨aq e4,am fun c=>cZ rfl (c.q 0) rfl (by first | omega | exact (gb _).1 | exact (gb _).2),aK 1,av⟩ fun ac ag ae ab aa=> ?_;obtain ⟨e2,e3,e10,e24⟩:=aa.k4 e2 e3 e10 e24;have e4:=aa.V 2;replace r0:=aa.iy 0 rfl;refine ⟨⟨k+1,ae,?_,ab,(e4.trans (bE (by omega))),e2,e3,?_⟩,?_⟩
     · omega
     · exact r0.cast (by first | exact nv (by omega) (by assumption) | exact mh (by omega) (by assumption))
     · simp only [m4,e4,intOf];omega
   have hd2:=hc2;try simp only [aM,ai,ea] at hd2
   refine wp_skip ?_;show _;refine eN ab [jy r0] ⟨aq e4,am fun c=>cZ rfl (c.q 0) rfl (by first | omega | exact (gb _).1 | exact (gb _).2),aK 1,av⟩ fun ac ag ae ab aa=> ?_;obtain ⟨e2,e3,e10,e24⟩:=aa.k4 e2 e3 e10 e24;have e4:=aa.V 2;replace r0:=aa.iy 0 rfl;refine ⟨⟨k+1,ae,?_,ab,(e4.trans (bE (by omega))),e2,e3,?_⟩,?_⟩
   · omega
   · exact r0.cast (by first | exact nv (by omega) (by assumption) | exact mh (by omega) (by assumption))
   · simp only [m4,e4,intOf];omega
 try simp only [ai,bd] at hc1
 refine wp_exit ?_;repeat (with_reducible refine ct ?_)
 refine cw ?_;refine wp_seq (eN ab [jy r0] ⟨aq e3,am fun c=>nN rfl cM fP br (c.q 0) (c.iy 0 rfl).1.sl,aK 1,av⟩ fun ac ag ae ab aa=> ?_);have e2:=aa.V 2;refine wp_ret ?_;refine rp ?_;refine cG (fn:=Try.f90) rfl ab.defers e2 ?_;exact ⟨congrArg (fun l_=>Ending.returned (aR ⟨List.toArray l_⟩)) (nT (by omega)),ab.ext0⟩
set_option maxRecDepth 100000 in
theorem uz (v:Value) (xs:List (ByteArray × ByteArray)) (w:World) (hS:SlT gC w v xs) (hz:pF xs) (hbig:xs.length≤1000000000):Calls Try.prog 89 #[v] w (fun e w'=>∃v',e= .returned v'∧Ext aV w w'∧mr gC 47 w w' v' (fl xs)):=by
 refine enter (n:=137) Try.func89 rfl rfl (ar rfl) ?_;intro a0 τ0 ha st0;have e0:=lL ha;have hle:=hS.le;refine wp_seq (ew st0 [] ⟨am fun c=>au rfl rfl,av⟩ fun ac ag ae ab aa=> ?_);replace e0:=aa.k1 e0;have e2:=aa.V 0;refine wp_seq (ew ab [] ⟨am fun c=>au rfl rfl,av⟩ fun ac ag ae ab aa=> ?_);obtain ⟨e0,e2⟩:=aa.k2 e0 e2;have e3:=aa.V 0;refine wp_seq ?_;refine wp_seq (ew ab [] ⟨am fun c=>au rfl rfl,av⟩ fun ac ag ae ab aa=> ?_);obtain ⟨e0,e2,e3⟩:=aa.k3 e0 e2 e3;have e4:=aa.V 0;refine wp_block ?_;refine wp_loop (fun a_ w_=>∃(i:Nat) (o:Value) (τ:Nat→aQ),(i≤xs.length)∧
      St (Nw w) w 137 a_ w_ τ∧
      aS a_ 3=o∧
      aS a_ 4=(aj (i:Int))∧
      aS a_ 0=v∧
      aS a_ 2=(.slice none 0 0)∧
      dq gC 47 (dQ qk ((xs.take i).filter eh)) (τ 0) o w_) (fun a_ _=>xs.length - (intOf (aS a_ 4)).toNat) ?_ ?_
 · refine ⟨0,(.slice none 0 0),ae,?_,ab,e3,(e4.trans (bE (by omega))),e0,e2,?_⟩
   · omega
   · exact dq.nil _ _ _ _
 intro a4 w4 hI;obtain ⟨i,o,τ4,q0,st4,e3,e4,e0,e2,r0⟩:=hI;have hil:=nl (lt:=qk) ((xs.take i).filter eh);have hfl:=wn (f:=eh) (xs:=xs) (k:=i);have hzk:=sG hz (k:=i);have m4:=e4;refine wp_seq ?_;refine wp_seq (lS [0,0,2,7] st4 [jo r0] ⟨aq e4,aq e0,am fun c=>cU rfl bh (c.q 1) hS.sl,am fun c=>dt rfl (c.q 0) (c.q 2),av⟩ fun ac ag ae ab aa=> ?_);obtain ⟨e0,e2,e3,e4⟩:=aa.k4 e0 e2 e3 e4;have e13:=aa.V 3;replace r0:=aa.O 0;refine wp_cond_split e13 (fun hc1=> ?_) (fun hc1=> ?_)
 · try simp only [ah] at hc1
   refine wp_skip ?_;refine wp_seq ?_;refine wp_block ?_;refine wp_seq (rg [_,_,_,_,box _ _ 2 5 [(aR (⟨#[]⟩:ByteArray)),(aR (⟨#[]⟩:ByteArray))],_] [0,0,3,7,0,31] ab [jo r0] ⟨aq e0,aq e4,am fun c=>aW rfl bh bR (c.q 0) hS.sl (c.q 1) (by omega) (by omega),am fun c=>dB (vs:=[(aR ((nth xs (i:Int)).1)),(aR ((nth xs (i:Int)).2))]) rfl gT bR (c.q 2) rfl (fun _ _ hj=>(hS.at (ab.ext.trans c.J.ext)).elem (bD (i:=(i:Int)) (by omega) (by omega)) hj),ci rfl rfl rfl rfl cI rfl,fJ (cx:=[(aR ((nth xs (i:Int)).1)),(aR ((nth xs (i:Int)).2))]) (off:=0) rfl bR fun c=>⟨c.rb 4 rfl,(c.rb 4 rfl).ptr,(c.q 3)⟩,av⟩ fun ac ag ae ab aa=> ?_);obtain ⟨b6x5,e5⟩:=gx ac 5;obtain ⟨e0,e2,e3,e4,e13⟩:=aa.k5 e0 e2 e3 e4 e13;replace r0:=aa.O 0;have r2:=aa.rb 5 e5 rfl;refine wp_seq ?_;refine wp_seq ?_;refine rg [_,_,_,_,_,_,_,_,_,_,_,_,_,_,_,_,_] [0,1,3,7,15,31,63,127,255,511,1023,2047,4095,2047,10239,32767,65535] ab [jo r0,jb r2] ⟨cg bP bq e5 r2.ptr,eG bQ 0 2 0,eu fun c=>⟨_,_,(bw rfl rfl Try.call78 (c.q 1)),lY ((nth xs (i:Int)).1) _ (by omega)⟩,am fun c=>dC rfl (c.q 2),bk 3,bJ 4 rfl fun c hpc=>cN rfl bP bq ((c.p e5).trans r2.ptr),bJ 4 rfl fun c hpc=>az rfl bQ (c.M 5 hpc) ((c.B 2).cell (j:=1) rfl),fE 4 false rfl fun c hpc=>⟨_,_,(bw rfl rfl Try.call78 (c.M 6 hpc)),lY ((nth xs (i:Int)).2) _ (by have hq0:=hpc;(try simp only [ax,aw] at hq0);omega)⟩,bJ 4 rfl fun c hpc=>dC rfl (c.M 7 hpc),dM 4 8,bk 9,bJ 10 rfl fun c hpc=>cN rfl bP bq ((c.p e5).trans r2.ptr),bJ 10 rfl fun c hpc=>az rfl bQ (c.M 11 hpc) ((c.B 2).cell (j:=0) rfl),bJ 10 rfl fun c hpc=>cN rfl bP bq ((c.p e5).trans r2.ptr),bJ 10 rfl fun c hpc=>az rfl bQ (c.M 13 hpc) ((c.B 2).cell (j:=1) rfl),bJ 10 rfl fun c hpc=>Bn rfl (c.M 12 hpc) (c.M 14 hpc),dM 10 15,av⟩ fun ac ag ae ab aa=> ?_;obtain ⟨e0,e2,e3,e4,e5,e13⟩:=aa.k6 e0 e2 e3 e4 e5 e13;have e36:=aa.V 16;replace r0:=aa.O 0;replace r2:=aa.B 2;refine wp_cond_split e36 (fun hc2=> ?_) (fun hc2=> ?_)
   · have hd2:=hc2;try simp only [ba,aH,ax,aw] at hd2
     refine wp_exit ?_;repeat (with_reducible refine ct ?_)
     refine cw ?_;refine eN ab [jo r0,jb r2] ⟨aq e4,am fun c=>cZ rfl (c.q 0) rfl (by omega),aK 1,av⟩ fun ac ag ae ab aa=> ?_;obtain ⟨e0,e2,e3,e5,e13,e36⟩:=aa.k6 e0 e2 e3 e5 e13 e36;have e4:=aa.V 2;replace r0:=aa.O 0;replace r2:=aa.B 2;refine ⟨⟨i+1,o,ae,?_,ab,e3,(e4.trans (bE (by omega))),e0,e2,?_⟩,?_⟩
     · omega
     · exact r0.cast (by first | exact sK (by omega) (vH (by assumption)) q0 q1 (by assumption) | (rw [sH (by omega) (yx (by assumption))]))
     · simp only [m4,e4,intOf];omega
   have hd2:=hc2;try simp only [ba,aH,ax,aw] at hd2
   refine wp_skip ?_;refine wp_seq (eN ab [jo r0,jb r2] ⟨aq e3,am fun c=>cU rfl bh (c.q 0) r0.isSl,aK 1,av⟩ fun ac ag ae ab aa=> ?_);obtain ⟨e0,e2,e3,e4,e5,e13,e36⟩:=aa.k7 e0 e2 e3 e4 e5 e13 e36;have e6:=aa.V 2;replace r0:=aa.O 0;replace r2:=aa.B 2;refine wp_seq ?_;refine wp_block ?_;refine wp_loop (fun a_ w_=>∃(k:Nat) (τ:Nat→aQ),(k≤(dQ qk ((xs.take i).filter eh)).length)∧
          (∀q ∈ (dQ qk ((xs.take i).filter eh)).drop k,qk (nth xs (i:Int)) q=true)∧
          St (Nw w) w 137 a_ w_ τ∧
          aS a_ 6=(aj (k:Int))∧
          aS a_ 0=v∧
          aS a_ 2=(.slice none 0 0)∧
          aS a_ 3=o∧
          aS a_ 4=(aj (i:Int))∧
          aS a_ 5=b6x5∧
          aS a_ 13=(aB (decide ((i:Int) < (xs.length:Int))))∧
          aS a_ 36=(aB (((!(cY ((nth xs (i:Int)).1))) || (!(cY ((nth xs (i:Int)).2)))) || (!(oF ((nth xs (i:Int)).1) ((nth xs (i:Int)).2)))))∧
          dq gC 47 (dQ qk ((xs.take i).filter eh)) (τ 0) o w_∧
          cj 47 [(aR ((nth xs (i:Int)).1)),(aR ((nth xs (i:Int)).2))] (τ 2) b6x5 w_) (fun a_ _=>(intOf (aS a_ 6)).toNat) ?_ ?_
   · refine ⟨(dQ qk ((xs.take i).filter eh)).length,ae,?_,?_,ab,(e6.trans (bE (by omega))),e0,e2,e3,e4,e5,e13,e36,r0,r2⟩
     · omega
     · simp
   intro a10 w10 hI;obtain ⟨k,τ10,q0,q1,st10,e6,e0,e2,e3,e4,e5,e13,e36,r0,r2⟩:=hI;have m6:=e6;refine wp_seq ?_;refine wp_seq ?_;refine rg [_,_,_,_,_,_,_,_,_,_,_,_,_,_,_,_,_,_,_,_,_,_,_,_,_,_,_,_,_,_,_,_,_,_,_] [0,1,3,7,15,7,7,71,231,487,999,2047,4095,8191,16383,8191,8191,73727,237567,499711,1023999,2097151,4194303,8388607,16777215,8388607,8388607,75497471,243269631,511705087,1048575999,2147483647,4294967295,8589934591,17179869183] st10 [jo r0,jb r2] ⟨aq e6,am fun c=>jh rfl (c.q 0) rfl,bk 1,aC 2 rfl fun c hpc=>cN rfl bP bq ((c.p e5).trans r2.ptr),aC 2 rfl fun c hpc=>az rfl bQ (c.M 3 hpc) ((c.B 2).cell (j:=0) rfl),aC 2 rfl fun c hpc=>aN rfl (c.p e3),aC 2 rfl fun c hpc=>aN rfl (c.p e6),aC 2 rfl fun c hpc=>kn rfl (c.M 6 hpc) rfl (by have hq0:=bt hpc;omega),aC 2 rfl fun c hpc=>aW rfl bh bR (c.M 5 hpc) r0.isSl (c.M 7 hpc) (by have hq0:=bt hpc;omega) (by have hq0:=bt hpc;omega),aC 2 rfl fun c hpc=>cN rfl bP bq (c.M 8 hpc),aC 2 rfl fun c hpc=>az rfl bQ (c.M 9 hpc) (((c.io 0 rfl).1.sl).elem (j:=0) (bD (i:=(k:Int) - 1) (by have hq0:=bt hpc;omega) (by have hq0:=bt hpc;omega)) rfl),aC 2 rfl fun c hpc=>tS rfl (c.M 4 hpc) (c.M 10 hpc),aC 2 rfl fun c hpc=>aN rfl (c.M 11 hpc),cA 12 false rfl fun c hpc=>cN rfl bP bq ((c.p e5).trans r2.ptr),cA 12 false rfl fun c hpc=>az rfl bQ (c.M 13 hpc) ((c.B 2).cell (j:=0) rfl),cA 12 false rfl fun c hpc=>aN rfl (c.p e3),cA 12 false rfl fun c hpc=>aN rfl (c.p e6),cA 12 false rfl fun c hpc=>kn rfl (c.M 16 hpc) rfl (by have hq0:=hpc.2;have hq1:=bt hpc.1;omega),cA 12 false rfl fun c hpc=>aW rfl bh bR (c.M 15 hpc) r0.isSl (c.M 17 hpc) (by have hq0:=hpc.2;have hq1:=bt hpc.1;omega) (by have hq0:=hpc.2;have hq1:=bt hpc.1;omega),cA 12 false rfl fun c hpc=>cN rfl bP bq (c.M 18 hpc),cA 12 false rfl fun c hpc=>az rfl bQ (c.M 19 hpc) (((c.io 0 rfl).1.sl).elem (j:=0) (bD (i:=(k:Int) - 1) (by have hq0:=hpc.2;have hq1:=bt hpc.1;omega) (by have hq0:=hpc.2;have hq1:=bt hpc.1;omega)) rfl),cA 12 false rfl fun c hpc=>eX rfl (c.M 14 hpc) (c.M 20 hpc),cA 12 false rfl fun c hpc=>aN rfl (c.M 21 hpc),cA 22 true rfl fun c hpc=>cN rfl bP bq ((c.p e5).trans r2.ptr),cA 22 true rfl fun c hpc=>az rfl bQ (c.M 23 hpc) ((c.B 2).cell (j:=1) rfl),cA 22 true rfl fun c hpc=>aN rfl (c.p e3),cA 22 true rfl fun c hpc=>aN rfl (c.p e6),cA 22 true rfl fun c hpc=>kn rfl (c.M 26 hpc) rfl (by have hq0:=hpc.2;have hq1:=hpc.1.2;have hq2:=bt hpc.1.1;omega),cA 22 true rfl fun c hpc=>aW rfl bh bR (c.M 25 hpc) r0.isSl (c.M 27 hpc) (by have hq0:=hpc.2;have hq1:=hpc.1.2;have hq2:=bt hpc.1.1;omega) (by have hq0:=hpc.2;have hq1:=hpc.1.2;have hq2:=bt hpc.1.1;omega),cA 22 true rfl fun c hpc=>cN rfl bP bq (c.M 28 hpc),cA 22 true rfl fun c hpc=>az rfl bQ (c.M 29 hpc) (((c.io 0 rfl).1.sl).elem (j:=1) (bD (i:=(k:Int) - 1) (by have hq0:=hpc.2;have hq1:=hpc.1.2;have hq2:=bt hpc.1.1;omega) (by have hq0:=hpc.2;have hq1:=hpc.1.2;have hq2:=bt hpc.1.1;omega)) rfl),cA 22 true rfl fun c hpc=>tS rfl (c.M 24 hpc) (c.M 30 hpc),cA 12 false rfl fun c hpc=>lD rfl (c.M 22 hpc) (fun h=>c.m 31 rfl (And.intro hpc h)),aC 2 rfl fun c hpc=>vW rfl (c.M 12 hpc) (fun h=>c.m 32 rfl (And.intro hpc h)),bN 2 33,av⟩ fun ac ag ae ab aa=> ?_;obtain ⟨e0,e2,e3,e4,e5,e6,e13,e36⟩:=aa.k8 e0 e2 e3 e4 e5 e6 e13 e36;have e73:=aa.V 34;replace r0:=aa.O 0;replace r2:=aa.B 2;refine wp_cond_split e73 (fun hc3=> ?_) (fun hc3=> ?_)
   · have hd3:=hc3;try simp only [ao,ba,ah] at hd3
     refine wp_skip ?_;refine wp_block ?_;refine eN ab [jo r0,jb r2] ⟨aq e6,am fun c=>kn rfl (c.q 0) rfl (by omega),aK 1,av⟩ fun ac ag ae ab aa=> ?_;obtain ⟨e0,e2,e3,e4,e5,e13,e36,e73⟩:=aa.k8 e0 e2 e3 e4 e5 e13 e36 e73;have e6:=aa.V 2;replace r0:=aa.O 0;replace r2:=aa.B 2;show _;refine ⟨⟨k - 1,ae,?_,?_,ab,(e6.trans (bE (by omega))),e0,e2,e3,e4,e5,e13,e36,r0,r2⟩,?_⟩
     · omega
     · exact we (lt:=qk) (by omega) q0 q1 (Dk (a:=decide ((0:Int) < (k:Int))) (by assumption))
     · simp only [m6,e6,intOf];omega
   have hd3:=hc3;try simp only [aM,aH,ai,bd] at hd3
   refine wp_exit ?_;repeat (with_reducible refine ct ?_)
   refine cw ?_;refine rg [own gC 47 _ 3 76 ([]),_,_,_,own _ _ _ 3 80 _,_,own gC 47 _ 4 82 ([(nth xs (i:Int))]),own _ _ _ 3 83 _,_,_,_,own _ _ _ 3 87 _,own _ _ _ 3 3 _] [0,0,0,6,15,0,32,127,0,0,768,2047,4095] ab [jo r0,jb r2] ⟨kC rfl rfl rfl rfl bh bR,aq e3,aq e6,am fun c=>qn rfl bh bR (c.q 1) r0.isSl (c.q 2) (by omega) (by omega),dS (t0:=76) rfl rfl rfl rfl bh (i:=Try.t47) rfl rfl rfl rfl (by simp only [maxLen];(try simp);omega) (by show _ * 32≤_;(try simp);omega) (fun _ _ _ _ c=>⟨c.ro 0 rfl,rfl,⟨_,(c.n 3 rfl),((c.io 0 rfl).1.sl.sub (lo:=0) (hi:=k) (by omega) (by omega))⟩⟩),am fun c=>eB rfl gT bR ((c.p e5).trans r2.ptr) (c.B 2),cJ (cells:=#[(aR ((nth xs (i:Int)).1)),(aR ((nth xs (i:Int)).2))]) rfl rfl rfl rfl bh bR cI rfl (by decide) (by decide) (fun _ _ _ _ c=>fF (c.n 5 rfl) (by kernel_rfl)) rfl,dS (t0:=80) rfl rfl rfl rfl bh (i:=Try.t47) rfl rfl rfl rfl (by simp only [maxLen];(try simp);omega) (by show _ * 32≤_;(try simp);omega) (fun _ _ _ _ c=>⟨c.ro 4 rfl,rfl,⟨_,rfl,(c.ro 6 rfl).1.sl⟩⟩),aq e3,aq e6,am fun c=>nM rfl bh bR (c.q 8) r0.isSl (c.q 9) (by omega) (by omega),dS (t0:=83) rfl rfl rfl rfl bh (i:=Try.t47) rfl rfl rfl rfl (by simp only [maxLen];(try simp);omega) (by show _ * 32≤_;(try simp);omega) (fun _ _ _ _ c=>⟨c.ro 7 rfl,rfl,⟨_,(c.n 10 rfl),((c.io 0 rfl).1.sl.sub (lo:=k) (hi:=(dQ qk ((xs.take i).filter eh)).length) (by omega) (by omega))⟩⟩),de (t0:=87) rfl rfl rfl rfl rfl (.inr rfl) (fun _ _ _ _ c=>⟨c.ro 11 rfl,rfl⟩),av⟩ fun ac ag ae ab aa=> ?_;obtain ⟨b13x3,e3⟩:=gx ac 3;obtain ⟨b13x82,e82⟩:=gx ac 82;obtain ⟨e0,e2,e4,e5,e6,e13,e36,e73⟩:=aa.k8 e0 e2 e4 e5 e6 e13 e36 e73;replace r0:=aa.O 0;replace r2:=aa.B 2;have r3:=aa.ro 12 e3 rfl;have r4:=aa.ro 6 e82 rfl;show _;refine eN ab [jo r0,jb r2,jo r3,jo r4] ⟨aq e4,am fun c=>cZ rfl (c.q 0) rfl (by omega),aK 1,av⟩ fun ac ag ae ab aa=> ?_;obtain ⟨e0,e2,e3,e5,e6,e13,e36,e73⟩:=aa.k8 e0 e2 e3 e5 e6 e13 e36 e73;have e4:=aa.V 2;replace r0:=aa.O 0;replace r2:=aa.B 2;replace r3:=aa.O 3;replace r4:=aa.O 4;refine ⟨⟨i+1,b13x3,(retag ae [(0,3)]),?_,(ab.retag [(0,3)] (by decide)),e3,(e4.trans (bE (by omega))),e0,e2,?_⟩,?_⟩
   · omega
   · exact r3.cast (by first | exact sK (by omega) (vH (by assumption)) q0 q1 (by assumption) | (rw [sH (by omega) (yx (by assumption))]))
   · simp only [m4,e4,intOf];omega
 try simp only [ai,bd] at hc1
 refine wp_exit ?_;repeat (with_reducible refine ct ?_)
 refine cw ?_;refine wp_seq (ew ab [jo r0] ⟨am fun c=>au rfl rfl,av⟩ fun ac ag ae ab aa=> ?_);obtain ⟨e2,e3⟩:=aa.k2 e2 e3;have e7:=aa.V 0;replace r0:=aa.O 0;replace r0:=r0.cast (show dQ lU (xs.filter eh)=(dQ qk ((xs.take i).filter eh)) from by rw [bL (by omega),BA]);have hil:=lV xs;refine wp_seq ?_;refine wp_seq (ew ab [jo r0] ⟨am fun c=>au rfl rfl,av⟩ fun ac ag ae ab aa=> ?_);obtain ⟨e2,e3,e7⟩:=aa.k3 e2 e3 e7;have e8:=aa.V 0;replace r0:=aa.O 0;refine wp_block ?_;refine wp_loop (fun a_ w_=>∃(m:Nat) (u:Value) (τ:Nat→aQ),(m≤(dQ lU (xs.filter eh)).length)∧
      St (Nw w) w 137 a_ w_ τ∧
      aS a_ 7=u∧
      aS a_ 8=(aj (m:Int))∧
      aS a_ 2=(.slice none 0 0)∧
      aS a_ 3=o∧
      dq gC 47 (fa ((dQ lU (xs.filter eh)).take m)) (τ 1) u w_∧
      dq gC 47 (dQ lU (xs.filter eh)) (τ 0) o w_) (fun a_ _=>(dQ lU (xs.filter eh)).length - (intOf (aS a_ 8)).toNat) ?_ ?_
 · refine ⟨0,(.slice none 0 0),ae,?_,ab,e7,(e8.trans (bE (by omega))),e2,e3,?_,r0⟩
   · omega
   · exact dq.nil _ _ _ _
 intro a17 w17 hI;obtain ⟨m,u,τ17,q0,st17,e7,e8,e2,e3,r1,r0⟩:=hI;have hjl:=ue (xs:=(dQ lU (xs.filter eh))) (k:=m);have m8:=e8;refine wp_seq ?_;refine wp_seq (lS [0,0,2,7] st17 [jo r0,jo r1] ⟨aq e8,aq e3,am fun c=>cU rfl bh (c.q 1) r0.isSl,am fun c=>dt rfl (c.q 0) (c.q 2),av⟩ fun ac ag ae ab aa=> ?_);obtain ⟨e2,e3,e7,e8⟩:=aa.k4 e2 e3 e7 e8;have e91:=aa.V 3;replace r0:=aa.O 0;replace r1:=aa.O 1;refine wp_cond_split e91 (fun hc4=> ?_) (fun hc4=> ?_)
 · try simp only [ah] at hc4
   refine wp_skip ?_;refine wp_seq ?_;refine wp_block ?_;refine wp_seq (eN ab [jo r0,jo r1] ⟨aq e7,am fun c=>cU rfl bh (c.q 0) r1.isSl,aK 1,av⟩ fun ac ag ae ab aa=> ?_);obtain ⟨e2,e3,e7,e8,e91⟩:=aa.k5 e2 e3 e7 e8 e91;have e9:=aa.V 2;replace r0:=aa.O 0;replace r1:=aa.O 1;refine wp_seq ?_;refine rg [_,_,_,_,_,_,_,_,_,_,_,_,_,_,_,_] [0,1,3,7,7,31,63,127,7,7,519,1799,3847,7943,16383,32767] ab [jo r0,jo r1] ⟨aq e9,am fun c=>jh rfl (c.q 0) rfl,bk 1,aC 2 rfl fun c hpc=>aN rfl (c.p e3),aC 2 rfl fun c hpc=>aN rfl (c.p e8),aC 2 rfl fun c hpc=>aW rfl bh bR (c.M 3 hpc) r0.isSl (c.M 4 hpc) (by have hq0:=bt hpc;omega) (by have hq0:=bt hpc;omega),aC 2 rfl fun c hpc=>cN rfl bP bq (c.M 5 hpc),aC 2 rfl fun c hpc=>az rfl bQ (c.M 6 hpc) (((c.io 0 rfl).1.sl).elem (j:=0) (bD (i:=(m:Int)) (by have hq0:=bt hpc;omega) (by have hq0:=bt hpc;omega)) rfl),aC 2 rfl fun c hpc=>aN rfl (c.p e7),aC 2 rfl fun c hpc=>aN rfl (c.p e9),aC 2 rfl fun c hpc=>kn rfl (c.M 9 hpc) rfl (by have hq0:=bt hpc;omega),aC 2 rfl fun c hpc=>aW rfl bh bR (c.M 8 hpc) r1.isSl (c.M 10 hpc) (by have hq0:=bt hpc;omega) (by have hq0:=bt hpc;omega),aC 2 rfl fun c hpc=>cN rfl bP bq (c.M 11 hpc),aC 2 rfl fun c hpc=>az rfl bQ (c.M 12 hpc) (((c.io 1 rfl).1.sl).elem (j:=1) (bD (i:=((fa ((dQ lU (xs.filter eh)).take m)).length:Int) - 1) (by have hq0:=bt hpc;omega) (by have hq0:=bt hpc;omega)) rfl),aC 2 rfl fun c hpc=>pj rfl (c.M 7 hpc) (c.M 13 hpc),bN 2 14,av⟩ fun ac ag ae ab aa=> ?_;obtain ⟨e2,e3,e7,e8,e9,e91⟩:=aa.k6 e2 e3 e7 e8 e9 e91;have e111:=aa.V 15;replace r0:=aa.O 0;replace r1:=aa.O 1;refine wp_cond_split e111 (fun hc5=> ?_) (fun hc5=> ?_)
   · have hd5:=hc5;try simp only [ao,ah] at hd5
     refine rg [_,_,_,_,_,_,_,_,_,_,_,_,_,_,_,_,_,own _ _ _ 1 7 _] [0,0,2,0,0,16,56,120,248,0,0,1536,3584,7680,16376,32767,65535,131071] ab [jo r0,jo r1] ⟨aq e7,aq e9,am fun c=>kn rfl (c.q 1) rfl (by omega),aq e7,aq e9,am fun c=>kn rfl (c.q 4) rfl (by omega),am fun c=>aW rfl bh bR (c.q 3) r1.isSl (c.q 5) (by omega) (by omega),bW bP bq 6 rfl,am fun c=>az rfl bQ (c.q 7) (((c.io 1 rfl).1.sl).elem (j:=1) (bD (i:=((fa ((dQ lU (xs.filter eh)).take m)).length:Int) - 1) (by omega) (by omega)) rfl),aq e3,aq e8,am fun c=>aW rfl bh bR (c.q 9) r0.isSl (c.q 10) (by omega) (by omega),bW bP bq 11 rfl,am fun c=>az rfl bQ (c.q 12) (((c.io 0 rfl).1.sl).elem (j:=1) (bD (i:=(m:Int)) (by omega) (by omega)) rfl),am fun c=>Bo rfl (c.q 8) (c.q 13),am fun c=>aW rfl bh bR (c.q 0) r1.isSl (c.q 2) (by omega) (by omega),bW bP bq 15 rfl,rf (E:=gC) (i:=(((fa ((dQ lU (xs.filter eh)).take m)).length:Int) - 1).toNat) (off:=1) (u:=(aR (oA ((nth (fa ((dQ lU (xs.filter eh)).take m)) (((fa ((dQ lU (xs.filter eh)).take m)).length:Int) - 1)).2) ((nth (dQ lU (xs.filter eh)) (m:Int)).2)))) (x:=nth (fa ((dQ lU (xs.filter eh)).take m)) (((fa ((dQ lU (xs.filter eh)).take m)).length:Int) - 1)) (x':=((nth (fa ((dQ lU (xs.filter eh)).take m)) (((fa ((dQ lU (xs.filter eh)).take m)).length:Int) - 1)).1,oA ((nth (fa ((dQ lU (xs.filter eh)).take m)) (((fa ((dQ lU (xs.filter eh)).take m)).length:Int) - 1)).2) ((nth (dQ lU (xs.filter eh)) (m:Int)).2))) rfl rfl rfl rfl bq (bD (by omega) (by (try simp only [dm]);omega)) (ar rfl) (by simp [Value.cells,Value.oneCell',Sv.v]) rfl (fun _ a_ _ _ c=>⟨c.ip 1 rfl e7,c.ad (c.n 16 rfl) e7 (by rw [add_add];rfl),(c.n 14 rfl)⟩),av⟩ fun ac ag ae ab aa=> ?_;obtain ⟨e2,e3,e7,e8,e9,e91,e111⟩:=aa.k7 e2 e3 e7 e8 e9 e91 e111;replace r0:=aa.O 0;replace r1:=aa.ro 17 e7 rfl;show _;refine eN ab [jo r0,jo r1] ⟨aq e8,am fun c=>cZ rfl (c.q 0) rfl (by omega),aK 1,av⟩ fun ac ag ae ab aa=> ?_;obtain ⟨e2,e3,e7,e9,e91,e111⟩:=aa.k6 e2 e3 e7 e9 e91 e111;have e8:=aa.V 2;replace r0:=aa.O 0;replace r1:=aa.O 1;refine ⟨⟨m+1,u,ae,?_,ab,e7,(e8.trans (bE (by omega))),e2,e3,?_,r0⟩,?_⟩
     · omega
     · exact r1.cast (by first | exact qy (by omega) (nu (by assumption)) | exact pI (by omega) (nu (by assumption)))
     · simp only [m8,e8,intOf];omega
   have hd5:=hc5;try simp only [aM,ai,bd] at hd5
   refine rg [_,_,_,_,_,own gC 47 _ 2 134 ([(nth (dQ lU (xs.filter eh)) (m:Int))]),own _ _ _ 1 135 _,own _ _ _ 1 7 _] [0,0,0,6,14,30,63,127] ab [jo r0,jo r1] ⟨aq e7,aq e3,aq e8,am fun c=>aW rfl bh bR (c.q 1) r0.isSl (c.q 2) (by omega) (by omega),am fun c=>dB (vs:=[(aR ((nth (dQ lU (xs.filter eh)) (m:Int)).1)),(aR ((nth (dQ lU (xs.filter eh)) (m:Int)).2))]) rfl gT bR (c.q 3) rfl (fun _ _ hj=>((c.io 0 rfl).1.sl).elem (bD (i:=(m:Int)) (by omega) (by omega)) hj),cJ (cells:=#[(aR ((nth (dQ lU (xs.filter eh)) (m:Int)).1)),(aR ((nth (dQ lU (xs.filter eh)) (m:Int)).2))]) rfl rfl rfl rfl bh bR cI rfl (by decide) (by decide) (fun _ _ _ _ c=>fF (c.n 4 rfl) (by kernel_rfl)) rfl,dS (t0:=7) rfl rfl rfl rfl bh (i:=Try.t47) rfl rfl rfl rfl (by simp only [maxLen];(try simp);omega) (by show _ * 32≤_;(try simp);omega) (fun _ _ _ _ c=>⟨c.ip 1 rfl e7,c.sm (c.n 0 rfl) e7,⟨_,rfl,(c.ro 5 rfl).1.sl⟩⟩),de (t0:=135) rfl rfl rfl rfl rfl (.inr rfl) (fun _ _ _ _ c=>⟨c.ro 6 rfl,rfl⟩),av⟩ fun ac ag ae ab aa=> ?_;obtain ⟨b23x134,e134⟩:=gx ac 134;obtain ⟨b23x7,e7⟩:=gx ac 7;obtain ⟨e2,e3,e8,e9,e91,e111⟩:=aa.k6 e2 e3 e8 e9 e91 e111;replace r0:=aa.O 0;replace r1:=aa.ro 7 e7 rfl;have r2:=aa.ro 5 e134 rfl;show _;refine eN ab [jo r0,jo r1,jo r2] ⟨aq e8,am fun c=>cZ rfl (c.q 0) rfl (by omega),aK 1,av⟩ fun ac ag ae ab aa=> ?_;obtain ⟨e2,e3,e7,e9,e91,e111⟩:=aa.k6 e2 e3 e7 e9 e91 e111;have e8:=aa.V 2;replace r0:=aa.O 0;replace r1:=aa.O 1;replace r2:=aa.O 2;refine ⟨⟨m+1,b23x7,ae,?_,ab,e7,(e8.trans (bE (by omega))),e2,e3,?_,r0⟩,?_⟩
   · omega
   · exact r1.cast (by first | exact qy (by omega) (nu (by assumption)) | exact pI (by omega) (nu (by assumption)))
   · simp only [m8,e8,intOf];omega
 try simp only [ai,bd] at hc4
 refine wp_exit ?_;repeat (with_reducible refine ct ?_)
 refine cw ?_;refine wp_seq (eE ab [jo r0,jo r1] ⟨aq e7,aK 0,av⟩ fun ac ag ae ab aa=> ?_);have e2:=aa.V 1;replace r1:=aa.O 1;refine wp_ret ?_;refine rp ?_;refine cG (fn:=Try.f89) rfl ab.defers e2 ?_;replace r1:=r1.cast (show fl xs=_ from by rw [fl,bL (l:=(dQ lU (xs.filter eh))) (by omega)]);exact ⟨_,rfl,ab.ext0,r1.1,fun g_ h_=>(ab.bnd _ g_ (r1.2 g_ h_)).1⟩
set_option maxRecDepth 100000 in
theorem BS (v:Value) (xs:List (ByteArray × ByteArray)) (s:ByteArray) (w:World) (hS:SlT gC w v xs):Calls Try.prog 29 #[v,(aR s)] w (fun e w'=>e= .returned (aB (wZ xs s))∧Ext aV w w'):=by
 refine enter (n:=24) Try.func29 rfl rfl (ar rfl) ?_;intro a0 τ0 ha st0;obtain ⟨e0,e1⟩:=pp ha;have hle:=hS.le;refine wp_seq (ew st0 [] ⟨am fun c=>au rfl rfl,av⟩ fun ac ag ae ab aa=> ?_);obtain ⟨e0,e1⟩:=aa.k2 e0 e1;have e4:=aa.V 0;refine wp_seq ?_;refine wp_seq (zp [0,1,0] ab [] ⟨aq e0,am fun c=>cU rfl bh (c.q 0) hS.sl,am fun c=>aN rfl rfl,av⟩ fun ac ag ae ab aa=> ?_);obtain ⟨e1,e4⟩:=aa.k2 e1 e4;have e7:=aa.V 0;have e8:=aa.V 1;have e9:=aa.V 2;refine wp_block ?_;refine wp_loop (fun a_ w_=>∃(k:Nat) (τ:Nat→aQ),(k≤xs.length)∧
      (∀i < k,(oF (nth xs ((i:Nat):Int)).1 s&&oF s (nth xs ((i:Nat):Int)).2)=false)∧
      St (Nw w) w 24 a_ w_ τ∧
      aS a_ 9=(aj (k:Int))∧
      aS a_ 1=(aR s)∧
      aS a_ 7=v∧
      aS a_ 8=(aj (xs.length:Int))) (fun a_ _=>xs.length - (intOf (aS a_ 9)).toNat) ?_ ?_
 · refine ⟨0,ae,?_,?_,ab,(e9.trans (bE (by omega))),e1,e7,e8⟩
   · omega
   · intro i hi;omega
 intro a3 w3 hI;obtain ⟨k,τ3,q0,q1,st3,e9,e1,e7,e8⟩:=hI;have m9:=e9;refine wp_seq (ew st3 [] ⟨am fun c=>dt rfl (c.p e9) (c.p e8),av⟩ fun ac ag ae ab aa=> ?_);obtain ⟨e1,e7,e8,e9⟩:=aa.k4 e1 e7 e8 e9;have e10:=aa.V 0;refine wp_seq ?_;refine wp_cond_split e10 (fun hc1=> ?_) (fun hc1=> ?_)
 · try simp only [ah] at hc1
   refine wp_skip ?_;refine wp_seq ?_;refine wp_block ?_;refine wp_seq (rg [_,_,box _ _ 0 6 [(aR (⟨#[]⟩:ByteArray)),(aR (⟨#[]⟩:ByteArray))],_] [0,1,0,7] ab [] ⟨am fun c=>aW rfl bh bR (c.p e7) hS.sl (c.p e9) (by omega) (by omega),am fun c=>dB (vs:=[(aR ((nth xs (k:Int)).1)),(aR ((nth xs (k:Int)).2))]) rfl gT bR (c.q 0) rfl (fun _ _ hj=>(hS.at (ab.ext.trans c.J.ext)).elem (bD (i:=(k:Int)) (by omega) (by omega)) hj),ci rfl rfl rfl rfl cI rfl,fJ (cx:=[(aR ((nth xs (k:Int)).1)),(aR ((nth xs (k:Int)).2))]) (off:=0) rfl bR fun c=>⟨c.rb 2 rfl,(c.rb 2 rfl).ptr,(c.q 1)⟩,av⟩ fun ac ag ae ab aa=> ?_);obtain ⟨b5x6,e6⟩:=gx ac 6;obtain ⟨e1,e7,e8,e9,e10⟩:=aa.k5 e1 e7 e8 e9 e10;have r0:=aa.rb 3 e6 rfl;refine wp_seq (tV [0,1,0,7,15,31,31,95,255,511] ab [jb r0] ⟨cg bP bq e6 r0.ptr,eG bQ 0 0 0,aq e1,am fun c=>pj rfl (c.q 1) (c.q 2),bk 3,aC 4 rfl fun c hpc=>aN rfl (c.p e1),aC 4 rfl fun c hpc=>cN rfl bP bq ((c.p e6).trans r0.ptr),aC 4 rfl fun c hpc=>az rfl bQ (c.M 6 hpc) ((c.B 0).cell (j:=1) rfl),aC 4 rfl fun c hpc=>pj rfl (c.M 5 hpc) (c.M 7 hpc),bN 4 8,av⟩ fun ac ag ae ab aa=> ?_);obtain ⟨e1,e6,e7,e8,e9,e10⟩:=aa.k6 e1 e6 e7 e8 e9 e10;have e22:=aa.V 9;replace r0:=aa.B 0;refine wp_cond_split e22 (fun hc2=> ?_) (fun hc2=> ?_)
   · have hd2:=hc2;try simp only [ao] at hd2
     refine wp_seq (ew ab [jb r0] ⟨am fun c=>au rfl rfl,av⟩ fun ac ag ae ab aa=> ?_);obtain ⟨e1,e6,e7,e8,e9,e10,e22⟩:=aa.k7 e1 e6 e7 e8 e9 e10 e22;have e4:=aa.V 0;replace r0:=aa.B 0;refine wp_ret ?_;refine rp ?_;refine cG (fn:=Try.f29) rfl ab.defers e4 ?_;exact ⟨congrArg _ (congrArg _ (by exact (zO (k:=k) (by omega) (by assumption)).symm)),ab.ext0⟩
   have hd2:=hc2;try simp only [aM] at hd2
   refine wp_skip ?_;show _;refine eE ab [jb r0] ⟨am fun c=>cZ rfl (c.p e9) rfl (by omega),bk 0,av⟩ fun ac ag ae ab aa=> ?_;obtain ⟨e1,e6,e7,e8,e10,e22⟩:=aa.k6 e1 e6 e7 e8 e10 e22;have e9:=aa.V 1;replace r0:=aa.B 0;refine ⟨⟨k+1,ae,?_,?_,ab,(e9.trans (bE (by omega))),e1,e7,e8⟩,?_⟩
   · omega
   · exact qx (f:=fun i=>(oF (nth xs i).1 s&&oF s (nth xs i).2)) q1 (by assumption)
   · simp only [m9,e9,intOf];omega
 try simp only [ai,bd] at hc1
 refine wp_exit ?_;repeat (with_reducible refine ct ?_)
 refine cw ?_;refine wp_seq (ew ab [] ⟨am fun c=>au rfl rfl,av⟩ fun ac ag ae ab aa=> ?_);have e4:=aa.V 0;refine wp_ret ?_;refine rp ?_;refine cG (fn:=Try.f29) rfl ab.defers e4 ?_;exact ⟨congrArg _ (congrArg _ (by exact (Bz (k:=k) (by omega) q1).symm)),ab.ext0⟩
set_option maxRecDepth 100000 in
theorem qe (n:Int) (w:World):Calls Try.prog 91 #[.int .u8 n] w (fun e w'=>∃v',e= .returned (.tuple #[v',aB (gh n)])∧Ext aV w w'∧mr gC 47 w w' v' (fm n)):=by
 refine enter (n:=21) Try.func91 rfl rfl (ar rfl) ?_;intro a0 τ0 ha st0;have e0:=lL ha;refine wp_seq (eE st0 [] ⟨am fun c=>au rfl rfl,am fun c=>au rfl rfl,av⟩ fun ac ag ae ab aa=> ?_);replace e0:=aa.k1 e0;have e2:=aa.V 0;have e3:=aa.V 1;refine wp_seq ?_;refine wp_seq (ew ab [] ⟨aq e0,av⟩ fun ac ag ae ab aa=> ?_);obtain ⟨e2,e3⟩:=aa.k2 e2 e3;have e4:=aa.V 0;refine wp_block ?_;refine wp_seq (eE ab [] ⟨am fun c=>cu rfl (c.p e4) rfl,aK 0,av⟩ fun ac ag ae ab aa=> ?_);obtain ⟨e2,e3,e4⟩:=aa.k3 e2 e3 e4;have e5:=aa.V 1;refine wp_cond_split e5 (fun hc1=> ?_) (fun hc1=> ?_)
 · try simp only [ah] at hc1
   refine wp_seq (rg [_,own gC 47 _ 0 8 ([((⟨#[48]⟩:ByteArray),(⟨#[57]⟩:ByteArray))]),own _ _ _ 0 2 _,_] [0,1,3,7] ab [] ⟨am fun c=>ol (cells:=#[(aR (⟨#[48]⟩:ByteArray)),(aR (⟨#[57]⟩:ByteArray))]) rfl cI (gO rfl rfl rfl),cJ (cells:=#[(aR (⟨#[48]⟩:ByteArray)),(aR (⟨#[57]⟩:ByteArray))]) rfl rfl rfl rfl bh bR cI rfl (by decide) (by decide) (fun _ _ _ _ c=>fF (c.n 0 rfl) (by kernel_rfl)) rfl,de (t0:=8) rfl rfl rfl rfl rfl (.inr rfl) (fun _ _ _ _ c=>⟨c.ro 1 rfl,rfl⟩),am fun c=>au rfl rfl,av⟩ fun ac ag ae ab aa=> ?_);obtain ⟨b4x2,e2⟩:=gx ac 2;replace e4:=aa.k1 e4;have e3:=aa.V 3;have r0:=aa.ro 2 e2 rfl;refine wp_ret ?_;refine rp ?_;refine jU (fn:=Try.f91) rfl ab.defers e2 e3 ?_;obtain ⟨k1,k2⟩:=(by first | exact oa (by assumption) | exact ob (by assumption) | exact od (by assumption):fm n=[((⟨#[48]⟩:ByteArray),(⟨#[57]⟩:ByteArray))]∧gh n=true);rw [k1,k2];exact ⟨_,rfl,ab.ext0,r0.1,fun g_ h_=>(ab.bnd _ g_ (r0.2 g_ h_)).1⟩
 try simp only [ai] at hc1
 refine wp_seq (eE ab [] ⟨am fun c=>cu rfl (c.p e4) rfl,aK 0,av⟩ fun ac ag ae ab aa=> ?_);obtain ⟨e2,e3,e4⟩:=aa.k3 e2 e3 e4;have e9:=aa.V 1;refine wp_cond_split e9 (fun hc2=> ?_) (fun hc2=> ?_)
 · try simp only [ah] at hc2
   refine wp_seq (rg [_,_,_,_,own gC 47 _ 0 15 ([((⟨#[48]⟩:ByteArray),(⟨#[57]⟩:ByteArray)),((⟨#[65]⟩:ByteArray),(⟨#[90]⟩:ByteArray)),((⟨#[95]⟩:ByteArray),(⟨#[95]⟩:ByteArray)),((⟨#[97]⟩:ByteArray),(⟨#[122]⟩:ByteArray))]),own _ _ _ 0 2 _,_] [0,0,0,0,15,31,63] ab [] ⟨am fun c=>ol (cells:=#[(aR (⟨#[48]⟩:ByteArray)),(aR (⟨#[57]⟩:ByteArray))]) rfl cI (gO rfl rfl rfl),am fun c=>ol (cells:=#[(aR (⟨#[65]⟩:ByteArray)),(aR (⟨#[90]⟩:ByteArray))]) rfl cI (gO rfl rfl rfl),am fun c=>ol (cells:=#[(aR (⟨#[95]⟩:ByteArray)),(aR (⟨#[95]⟩:ByteArray))]) rfl cI (gO rfl rfl rfl),am fun c=>ol (cells:=#[(aR (⟨#[97]⟩:ByteArray)),(aR (⟨#[122]⟩:ByteArray))]) rfl cI (gO rfl rfl rfl),cJ (cells:=#[(aR (⟨#[48]⟩:ByteArray)),(aR (⟨#[57]⟩:ByteArray)),(aR (⟨#[65]⟩:ByteArray)),(aR (⟨#[90]⟩:ByteArray)),(aR (⟨#[95]⟩:ByteArray)),(aR (⟨#[95]⟩:ByteArray)),(aR (⟨#[97]⟩:ByteArray)),(aR (⟨#[122]⟩:ByteArray))]) rfl rfl rfl rfl bh bR cI rfl (by decide) (by decide) (fun _ _ _ _ c=>AU (c.n 0 rfl) (c.n 1 rfl) (c.n 2 rfl) (c.n 3 rfl) (by kernel_rfl)) rfl,de (t0:=15) rfl rfl rfl rfl rfl (.inr rfl) (fun _ _ _ _ c=>⟨c.ro 4 rfl,rfl⟩),am fun c=>au rfl rfl,av⟩ fun ac ag ae ab aa=> ?_);obtain ⟨b6x2,e2⟩:=gx ac 2;replace e4:=aa.k1 e4;have e3:=aa.V 6;have r0:=aa.ro 5 e2 rfl;refine wp_ret ?_;refine rp ?_;refine jU (fn:=Try.f91) rfl ab.defers e2 e3 ?_;obtain ⟨k1,k2⟩:=(by first | exact oa (by assumption) | exact ob (by assumption) | exact od (by assumption):fm n=[((⟨#[48]⟩:ByteArray),(⟨#[57]⟩:ByteArray)),((⟨#[65]⟩:ByteArray),(⟨#[90]⟩:ByteArray)),((⟨#[95]⟩:ByteArray),(⟨#[95]⟩:ByteArray)),((⟨#[97]⟩:ByteArray),(⟨#[122]⟩:ByteArray))]∧gh n=true);rw [k1,k2];exact ⟨_,rfl,ab.ext0,r0.1,fun g_ h_=>(ab.bnd _ g_ (r0.2 g_ h_)).1⟩
 try simp only [ai] at hc2
 refine wp_seq (eE ab [] ⟨am fun c=>cu rfl (c.p e4) rfl,aK 0,av⟩ fun ac ag ae ab aa=> ?_);obtain ⟨e2,e3⟩:=aa.k2 e2 e3;have e16:=aa.V 1;refine wp_cond_split e16 (fun hc3=> ?_) (fun hc3=> ?_)
 · try simp only [ah] at hc3
   refine wp_seq (rg [_,_,own gC 47 _ 0 20 ([((⟨#[9]⟩:ByteArray),(⟨#[13]⟩:ByteArray)),((⟨#[32]⟩:ByteArray),(⟨#[32]⟩:ByteArray))]),own _ _ _ 0 2 _,_] [0,0,3,7,15] ab [] ⟨am fun c=>ol (cells:=#[(aR (⟨#[9]⟩:ByteArray)),(aR (⟨#[13]⟩:ByteArray))]) rfl cI (gO rfl rfl rfl),am fun c=>ol (cells:=#[(aR (⟨#[32]⟩:ByteArray)),(aR (⟨#[32]⟩:ByteArray))]) rfl cI (gO rfl rfl rfl),cJ (cells:=#[(aR (⟨#[9]⟩:ByteArray)),(aR (⟨#[13]⟩:ByteArray)),(aR (⟨#[32]⟩:ByteArray)),(aR (⟨#[32]⟩:ByteArray))]) rfl rfl rfl rfl bh bR cI rfl (by decide) (by decide) (fun _ _ _ _ c=>gO (c.n 0 rfl) (c.n 1 rfl) (by kernel_rfl)) rfl,de (t0:=20) rfl rfl rfl rfl rfl (.inr rfl) (fun _ _ _ _ c=>⟨c.ro 2 rfl,rfl⟩),am fun c=>au rfl rfl,av⟩ fun ac ag ae ab aa=> ?_);obtain ⟨b8x2,e2⟩:=gx ac 2;have e3:=aa.V 4;have r0:=aa.ro 3 e2 rfl;refine wp_ret ?_;refine rp ?_;refine jU (fn:=Try.f91) rfl ab.defers e2 e3 ?_;obtain ⟨k1,k2⟩:=(by first | exact oa (by assumption) | exact ob (by assumption) | exact od (by assumption):fm n=[((⟨#[9]⟩:ByteArray),(⟨#[13]⟩:ByteArray)),((⟨#[32]⟩:ByteArray),(⟨#[32]⟩:ByteArray))]∧gh n=true);rw [k1,k2];exact ⟨_,rfl,ab.ext0,r0.1,fun g_ h_=>(ab.bnd _ g_ (r0.2 g_ h_)).1⟩
 try simp only [ai] at hc3
 refine wp_skip ?_;show _;refine wp_seq (eE ab [] ⟨am fun c=>au rfl rfl,am fun c=>au rfl rfl,av⟩ fun ac ag ae ab aa=> ?_);have e2:=aa.V 0;have e3:=aa.V 1;refine wp_ret ?_;refine rp ?_;refine jU (fn:=Try.f91) rfl ab.defers e2 e3 ?_;obtain ⟨k1,k2⟩:=yA (n:=n) (by assumption) (by assumption) (by assumption);rw [k1,k2];exact ⟨_,rfl,ab.ext0,gQ.nil _ _ _,fun g_ h_=>by simp [Value.ownBlock] at h_⟩
end
section
open Go.RowKit
open Srt
theorem dq.sn {α:Type} {E:Enc α} {ty:Nat} {xs:List α} {T:aQ} {v:Value} {w W:World} (h:dq E ty xs T v w) (hT:∀g,T g→W.heap.size≤g):SlT E w v xs∧(xs≠ []→W.heap.size≤(cX v).block):=⟨h.1.sl,fun hn=>hT _ (h.blk hn)⟩
set_option maxRecDepth 100000 in
theorem yB (v:Value) (cv:Sv) (cs:List ByteArray) (i:Nat) (w:World) (hR:RdR 73 v cv cs i w) (hL:lA cs) (hi:i≤cs.length+5):Calls Try.prog 88 #[v] w (fun e w'=>∃b:Sv,e= .returned (.tuple #[b.v,aR (bl cs i).2.1,aB (bl cs i).2.2.1])∧Ext (bS v) w w'∧cj 73 [cv.v,aj (((bl cs i).2.2.2:Nat):Int)] (bS v) v w'∧SlT gC w' b.v (bl cs i).1∧((bl cs i).1≠ []→w.heap.size≤(cX b.v).block)):=by
 refine eH (bS v) (fun g hg=>hR.box.lt g hg) (n:=62) Try.func88 rfl rfl (ar rfl) ?_;intro a0 τ0 ha hτ st0;have e0:=lL ha;have hL1:=hL.1;have r0:cj 73 [cv.v,aj ((i:Nat):Int)] (τ0 0) v w:=by rw [hτ];exact hR.box
 have r9:Fz (eY fy Al cv.v cs) τ0 w:=hR.inz st0;refine wp_seq (eN st0 [jb r0,jz 9 r9] ⟨am fun c=>au rfl rfl,am fun c=>au rfl rfl,am fun c=>au rfl rfl,av⟩ fun ac ag ae ab aa=> ?_);replace e0:=aa.k1 e0;have e2:=aa.V 0;have e3:=aa.V 1;have e4:=aa.V 2;replace r0:=aa.B 0;replace r9:=aa.z1 9;refine wp_seq (eN ab [jb r0,jz 9 r9] ⟨aq e0,eu fun c=>⟨_,_,(bw rfl rfl fe (c.q 0)),lf v cv cs i _ (jm (c.B 0) (c.iz 9 rfl) (fun g_ h_ hz_=>hz_.2 _ h_))⟩,aK 1,av⟩ fun ac ag ae ab aa=> ?_);obtain ⟨e0,e2,e3,e4⟩:=aa.k4 e0 e2 e3 e4;have e5:=aa.V 2;replace r0:=aa.B 0;replace r9:=aa.z1 9;refine wp_seq ?_;refine wp_seq (CC ab [jb r0,jz 9 r9] ⟨aq e5,am fun c=>eX rfl (c.q 0) rfl,bk 1,bJ 2 rfl fun c hpc=>aN rfl (c.p e5),bJ 2 rfl fun c hpc=>eX rfl (c.M 3 hpc) rfl,dM 2 4,av⟩ fun ac ag ae ab aa=> ?_);obtain ⟨e0,e2,e3,e4,e5⟩:=aa.k5 e0 e2 e3 e4 e5;have e17:=aa.V 5;replace r0:=aa.B 0;replace r9:=aa.z1 9;refine wp_cond_split e17 (fun hc1=> ?_) (fun hc1=> ?_)
 · have hd1:=hc1;try simp only [ba] at hd1
   refine wp_seq (eN ab [jb r0,jz 9 r9] ⟨am fun c=>au rfl rfl,am fun c=>au rfl rfl,am fun c=>au rfl rfl,av⟩ fun ac ag ae ab aa=> ?_);obtain ⟨e0,e5⟩:=aa.k2 e0 e5;have e2:=aa.V 0;have e3:=aa.V 1;have e4:=aa.V 2;replace r0:=aa.B 0;replace r9:=aa.z1 9;refine wp_ret ?_;refine rp ?_;refine rB (fn:=Try.f88) rfl ab.defers e2 e3 e4 ?_;have he_:bl cs i=([],(⟨#[]⟩:ByteArray),false,i):=by unfold bl;(repeat (first | rw [if_neg (by first | assumption | (simp only [aI];assumption) | (simp only [aL];assumption))] | rw [if_pos (by assumption)]));(try rfl)
   rw [he_];exact ⟨Sv.nil,rfl,ab.extIn,r0.foot,SlT.nil _ _,fun h=>absurd rfl h⟩
 have hd1:=hc1;try simp only [aH] at hd1
 refine wp_skip ?_;refine wp_seq ?_;have hlt_:i < cs.length:=by
   have h_:(gD (cf cs i) (⟨#[]⟩:ByteArray) || gD (cf cs i) (⟨#[93]⟩:ByteArray))=false:=by assumption
   rw [aH] at h_;exact lx h_.1
 refine wW ab [jb r0,jz 9 r9] ⟨aq e0,co 0 r0.ptr,bW aU ay 1 r0.ptr,eG aD 2 0 1,am fun c=>cZ rfl (c.q 3) rfl (by omega),co 0 r0.ptr,bW aU ay 5 r0.ptr,bX (cx:=[cv.v,(aj (((i:Nat):Int)+1))]) ay fun c=>⟨c.bp 0 rfl e0,c.ad (c.q 6) e0 rfl,(c.q 4)⟩,av⟩ fun ac ag ae ab aa=> ?_;obtain ⟨e0,e2,e3,e4,e5⟩:=aa.k5 e0 e2 e3 e4 e5;replace r0:=aa.RB 7 e0;replace r9:=aa.z1 9;replace r0:cj 73 [cv.v,aj ((i+1:Nat):Int)] (ae 0) v ag:=by rw [show ((i+1:Nat):Int)=((i:Nat):Int)+1 from by omega];exact r0
 refine wp_seq ?_;refine wp_seq (eE ab [jb r0,jz 9 r9] ⟨aq e5,am fun c=>lm rfl (c.q 0) rfl,av⟩ fun ac ag ae ab aa=> ?_);obtain ⟨e0,e2,e3,e4,e5⟩:=aa.k5 e0 e2 e3 e4 e5;have e26:=aa.V 1;replace r0:=aa.B 0;replace r9:=aa.z1 9;refine wp_cond_split e26 (fun hc2=> ?_) (fun hc2=> ?_)
 · try simp only [ax,aw] at hc2
   refine wp_seq (lS [0,0,3,7] ab [jb r0,jz 9 r9] ⟨aq e5,am fun c=>au rfl rfl,aK 0,am fun c=>au rfl rfl,av⟩ fun ac ag ae ab aa=> ?_);obtain ⟨e0,e5⟩:=aa.k2 e0 e5;have e2:=aa.V 1;have e3:=aa.V 2;have e4:=aa.V 3;replace r0:=aa.B 0;replace r9:=aa.z1 9;refine wp_ret ?_;refine rp ?_;refine rB (fn:=Try.f88) rfl ab.defers e2 e3 e4 ?_;have he_:bl cs i=([],cf cs i,true,i+1):=by unfold bl;(repeat (first | rw [if_neg (by first | assumption | (simp only [aI];assumption) | (simp only [aL];assumption))] | rw [if_pos (by assumption)]));(try rfl)
   rw [he_];exact ⟨Sv.nil,rfl,ab.extIn,r0.foot,SlT.nil _ _,fun h=>absurd rfl h⟩
 try simp only [ax,aw] at hc2
 refine wp_skip ?_;refine wp_seq (eN ab [jb r0,jz 9 r9] ⟨aq e0,eu fun c=>⟨_,_,(bw rfl rfl fe (c.q 0)),lf v cv cs (i+1) _ (jm (c.B 0) (c.iz 9 rfl) (fun g_ h_ hz_=>hz_.2 _ h_))⟩,aK 1,av⟩ fun ac ag ae ab aa=> ?_);obtain ⟨e0,e2,e3,e4⟩:=aa.k4 e0 e2 e3 e4;have e5:=aa.V 2;replace r0:=aa.B 0;replace r9:=aa.z1 9;refine wp_seq ?_;refine wp_seq (eN ab [jb r0,jz 9 r9] ⟨aq e5,am fun c=>ie rfl br (c.q 0),am fun c=>cu rfl (c.q 1) rfl,av⟩ fun ac ag ae ab aa=> ?_);obtain ⟨e0,e2,e3,e4,e5⟩:=aa.k5 e0 e2 e3 e4 e5;have e32:=aa.V 2;replace r0:=aa.B 0;replace r9:=aa.z1 9;refine wp_cond_split e32 (fun hc3=> ?_) (fun hc3=> ?_)
 · try simp only [ah] at hc3
   refine wp_seq (rg [_,_,tup _ _ _ 1 36 _ _,tup _ _ _ 1 33 _ _,own _ _ _ 1 37 _,_,own _ _ _ 1 6 _,_] [0,1,3,7,15,15,31,127] ab [jb r0,jz 9 r9] ⟨aq e5,am fun c=>gX rfl br (c.q 0) rfl (by omega) (by omega),tQ rfl rfl rfl (fun _ a_ _ _ c=>⟨_,_,(bw rfl rfl Try.call91 (c.q 1)),qe (bI (cf cs (i+1)) 0) _⟩),de (t0:=36) rfl rfl rfl rfl rfl (.inl rfl) (fun _ _ _ _ c=>⟨c.rtup 2 rfl rfl (by kernel_rfl),rfl⟩),xh (t0:=33) (k:=(aB (gh (bI (cf cs (i+1)) 0)))) rfl rfl rfl rfl (fun _ _ _ _ c=>c.rtup 3 rfl rfl (by kernel_rfl)),am fun c=>c.part1 3 rfl rfl rfl,de (t0:=37) rfl rfl rfl rfl rfl (.inr rfl) (fun _ _ _ _ c=>⟨c.ro 4 rfl,rfl⟩),aK 5,av⟩ fun ac ag ae ab aa=> ?_);obtain ⟨b10x6,e6⟩:=gx ac 6;obtain ⟨e0,e2,e3,e4,e5⟩:=aa.k5 e0 e2 e3 e4 e5;have e7:=aa.V 7;replace r0:=aa.B 0;have r1:=aa.ro 6 e6 rfl;replace r9:=aa.z1 9;refine wp_seq (ew ab [jb r0,jo r1,jz 9 r9] ⟨aq e7,av⟩ fun ac ag ae ab aa=> ?_);obtain ⟨e0,e2,e3,e4,e5,e6⟩:=aa.k6 e0 e2 e3 e4 e5 e6;have e39:=aa.V 0;replace r0:=aa.B 0;replace r1:=aa.O 1;replace r9:=aa.z1 9;refine wp_cond_split e39 (fun hc4=> ?_) (fun hc4=> ?_)
   · skip;refine wp_seq ?_;have hnm:(decide (((cf cs (i+1)).size:Int)=1)&&gh (bI (cf cs (i+1)) 0))=true:=by rw [ao];exact ⟨decide_eq_true (by assumption),by assumption⟩
     refine wW ab [jb r0,jo r1,jz 9 r9] ⟨aq e0,co 0 r0.ptr,bW aU ay 1 r0.ptr,eG aD 2 0 1,am fun c=>cZ rfl (c.q 3) rfl (by omega),co 0 r0.ptr,bW aU ay 5 r0.ptr,bX (cx:=[cv.v,(aj (((i+1:Nat):Int)+1))]) ay fun c=>⟨c.bp 0 rfl e0,c.ad (c.q 6) e0 rfl,(c.q 4)⟩,av⟩ fun ac ag ae ab aa=> ?_;obtain ⟨e0,e2,e3,e4,e5,e6⟩:=aa.k6 e0 e2 e3 e4 e5 e6;replace r0:=aa.RB 7 e0;replace r1:=aa.O 1;replace r9:=aa.z1 9;replace r0:cj 73 [cv.v,aj ((i+2:Nat):Int)] (ae 0) v ag:=by rw [show ((i+2:Nat):Int)=((i+1:Nat):Int)+1 from by omega];exact r0
     refine wp_seq (xw ab [jb r0,jo r1,jz 9 r9] ⟨aq e6,aK 0,am fun c=>au rfl rfl,am fun c=>au rfl rfl,av⟩ fun ac ag ae ab aa=> ?_);obtain ⟨e0,e5⟩:=aa.k2 e0 e5;have e2:=aa.V 1;have e3:=aa.V 2;have e4:=aa.V 3;replace r0:=aa.B 0;replace r1:=aa.O 1;replace r9:=aa.z1 9;refine wp_ret ?_;refine rp ?_;refine rB (fn:=Try.f88) rfl ab.defers e2 e3 e4 ?_;have he_:bl cs i=(fm (bI (cf cs (i+1)) 0),(⟨#[]⟩:ByteArray),true,i+2):=by unfold bl;(repeat (first | rw [if_neg (by first | assumption | (simp only [aI];assumption) | (simp only [aL];assumption))] | rw [if_pos (by assumption)]));(try rfl)
     rw [he_];obtain ⟨sv_,rfl⟩:=r1.isSl.sv;exact ⟨sv_,rfl,ab.extIn,r0.foot,r1.sn (fun g_ h_=>((ab.bnd _ g_ h_).1.resolve_left (fun hp_=>absurd (ab.disj _ _ g_ h_ (r0.own hp_)) (by decide))))⟩
   skip;refine wp_skip ?_;refine wp_seq ?_;have hnm:(decide (((cf cs (i+1)).size:Int)=1)&&gh (bI (cf cs (i+1)) 0))=false:=by rw [aM];first | (right;assumption) | (left;exact decide_eq_false (by assumption))
   refine tU [0,1,3,7,7,15,63] ab [jb r0,jo r1,jz 9 r9] ⟨aq e5,eu fun c=>⟨_,_,(bw rfl rfl mJ (c.q 0)),vG (cf cs (i+1)) _⟩,bk 1,df 2,df 2,aK 3,aK 4,av⟩ fun ac ag ae ab aa=> ?_;obtain ⟨e0,e2,e3,e4⟩:=aa.k4 e0 e2 e3 e4;have e8:=aa.V 5;have e9:=aa.V 6;replace r0:=aa.B 0;replace r9:=aa.z1 9;refine wp_seq (wW ab [jb r0,jz 9 r9] ⟨aq e0,co 0 r0.ptr,bW aU ay 1 r0.ptr,eG aD 2 0 1,am fun c=>cZ rfl (c.q 3) rfl (by omega),co 0 r0.ptr,bW aU ay 5 r0.ptr,bX (cx:=[cv.v,(aj (((i+1:Nat):Int)+1))]) ay fun c=>⟨c.bp 0 rfl e0,c.ad (c.q 6) e0 rfl,(c.q 4)⟩,av⟩ fun ac ag ae ab aa=> ?_);obtain ⟨e0,e2,e3,e4,e8,e9⟩:=aa.k6 e0 e2 e3 e4 e8 e9;replace r0:=aa.RB 7 e0;replace r9:=aa.z1 9;replace r0:cj 73 [cv.v,aj ((i+2:Nat):Int)] (ae 0) v ag:=by rw [show ((i+2:Nat):Int)=((i+1:Nat):Int)+1 from by omega];exact r0
   refine wp_seq (zB [0,0,0,5,15] ab [jb r0,jz 9 r9] ⟨aq e8,aq e9,am fun c=>au rfl rfl,aK 0,aK 1,av⟩ fun ac ag ae ab aa=> ?_);replace e0:=aa.k1 e0;have e2:=aa.V 2;have e3:=aa.V 3;have e4:=aa.V 4;replace r0:=aa.B 0;replace r9:=aa.z1 9;refine wp_ret ?_;refine rp ?_;refine rB (fn:=Try.f88) rfl ab.defers e2 e3 e4 ?_;have he_:bl cs i=([],(eF (cf cs (i+1))).1,(eF (cf cs (i+1))).2,i+2):=by unfold bl;(repeat (first | rw [if_neg (by first | assumption | (simp only [aI];assumption) | (simp only [aL];assumption))] | rw [if_pos (by assumption)]));(try rfl)
   rw [he_];exact ⟨Sv.nil,rfl,ab.extIn,r0.foot,SlT.nil _ _,fun h=>absurd rfl h⟩
 try simp only [ai] at hc3
 refine wp_skip ?_;refine wp_seq ?_;have hnm:(decide (((cf cs (i+1)).size:Int)=1)&&gh (bI (cf cs (i+1)) 0))=false:=by rw [aM];first | (right;assumption) | (left;exact decide_eq_false (by assumption))
 refine tU [0,1,3,7,7,15,63] ab [jb r0,jz 9 r9] ⟨aq e5,eu fun c=>⟨_,_,(bw rfl rfl mJ (c.q 0)),vG (cf cs (i+1)) _⟩,bk 1,df 2,df 2,aK 3,aK 4,av⟩ fun ac ag ae ab aa=> ?_;obtain ⟨e0,e2,e3,e4⟩:=aa.k4 e0 e2 e3 e4;have e8:=aa.V 5;have e9:=aa.V 6;replace r0:=aa.B 0;replace r9:=aa.z1 9;refine wp_seq (wW ab [jb r0,jz 9 r9] ⟨aq e0,co 0 r0.ptr,bW aU ay 1 r0.ptr,eG aD 2 0 1,am fun c=>cZ rfl (c.q 3) rfl (by omega),co 0 r0.ptr,bW aU ay 5 r0.ptr,bX (cx:=[cv.v,(aj (((i+1:Nat):Int)+1))]) ay fun c=>⟨c.bp 0 rfl e0,c.ad (c.q 6) e0 rfl,(c.q 4)⟩,av⟩ fun ac ag ae ab aa=> ?_);obtain ⟨e0,e2,e3,e4,e8,e9⟩:=aa.k6 e0 e2 e3 e4 e8 e9;replace r0:=aa.RB 7 e0;replace r9:=aa.z1 9;replace r0:cj 73 [cv.v,aj ((i+2:Nat):Int)] (ae 0) v ag:=by rw [show ((i+2:Nat):Int)=((i+1:Nat):Int)+1 from by omega];exact r0
 refine wp_seq (zB [0,0,0,5,15] ab [jb r0,jz 9 r9] ⟨aq e8,aq e9,am fun c=>au rfl rfl,aK 0,aK 1,av⟩ fun ac ag ae ab aa=> ?_);replace e0:=aa.k1 e0;have e2:=aa.V 2;have e3:=aa.V 3;have e4:=aa.V 4;replace r0:=aa.B 0;replace r9:=aa.z1 9;refine wp_ret ?_;refine rp ?_;refine rB (fn:=Try.f88) rfl ab.defers e2 e3 e4 ?_;have he_:bl cs i=([],(eF (cf cs (i+1))).1,(eF (cf cs (i+1))).2,i+2):=by unfold bl;(repeat (first | rw [if_neg (by first | assumption | (simp only [aI];assumption) | (simp only [aL];assumption))] | rw [if_pos (by assumption)]));(try rfl)
 rw [he_];exact ⟨Sv.nil,rfl,ab.extIn,r0.foot,SlT.nil _ _,fun h=>absurd rfl h⟩
end
section
open Go.RowKit
open Srt
theorem qN {c:ByteArray} (h:(c.size:Int)=1):((eZ c).size:Int)=1:=by
  have h1:=gY c;have h2:(eZ c).size=((bs c).map iD).length:=by
    show ((bs c).map iD).toArray.size=_;simp
  rw [h2,en];omega
set_option maxRecDepth 100000 in
theorem BT (v:Value) (cv:Sv) (cs:List ByteArray) (i:Nat) (w:World) (hR:RdR 73 v cv cs i w) (hL:lA cs) (hi:i≤cs.length+5):Calls Try.prog 77 #[v] w (fun e w'=>∃t':Tr,e= .returned (.tuple #[t'.v,aj (fM cs i).2.1])∧Ext (bS v) w w'∧cj 73 [cv.v,aj (((fM cs i).2.2:Nat):Int)] (bS v) v w'∧TrT (Gn aV w) w' t'∧er t'=(fM cs i).1):=by
 refine eH (bS v) (fun g hg=>hR.box.lt g hg) (n:=53) Try.func77 rfl rfl (ar rfl) ?_;intro a0 τ0 ha hτ st0;have e0:=lL ha;have hL1:=hL.1;have r0:cj 73 [cv.v,aj ((i:Nat):Int)] (τ0 0) v w:=by rw [hτ];exact hR.box
 have r9:Fz (eY fy Al cv.v cs) τ0 w:=hR.inz st0;refine wp_seq (rg [box _ _ 1 2 [(aj 0),(aR (⟨#[]⟩:ByteArray)),(aB false),(.slice none 0 0),(aj 0),(aj 0),(aB false),(.slice none 0 0)],_] [0,0] st0 [jb r0,jz 9 r9] ⟨ci rfl rfl rfl rfl aG rfl,am fun c=>au rfl rfl,av⟩ fun ac ag ae ab aa=> ?_);obtain ⟨b1x2,e2⟩:=gx ac 2;replace e0:=aa.k1 e0;have e3:=aa.V 1;replace r0:=aa.B 0;have r1:=aa.rb 0 e2 rfl;replace r9:=aa.z1 9;refine wp_seq (eN ab [jb r0,jb r1,jz 9 r9] ⟨aq e0,eu fun c=>⟨_,_,(bw rfl rfl fe (c.q 0)),lf v cv cs i _ (jm (c.B 0) (c.iz 9 rfl) (fun g_ h_ hz_=>hz_.2 _ h_))⟩,aK 1,av⟩ fun ac ag ae ab aa=> ?_);obtain ⟨e0,e2,e3⟩:=aa.k3 e0 e2 e3;have e4:=aa.V 2;replace r0:=aa.B 0;replace r1:=aa.B 1;replace r9:=aa.z1 9;refine wp_seq ?_;refine eN ab [jb r0,jb r1,jz 9 r9] ⟨aq e4,eu fun c=>⟨_,_,(bw rfl rfl Try.call90 (c.q 0)),wI (cf cs i) _ (by first | omega | (have h_:=qN (by assumption:((cf cs i).size:Int)=1);omega) | (have h_:=cr hL i;omega))⟩,aK 1,av⟩ fun ac ag ae ab aa=> ?_;obtain ⟨e0,e2,e3,e4⟩:=aa.k4 e0 e2 e3 e4;have e5:=aa.V 2;replace r0:=aa.B 0;replace r1:=aa.B 1;replace r9:=aa.z1 9;refine wp_seq ?_;refine wp_seq (eN ab [jb r0,jb r1,jz 9 r9] ⟨aq e4,am fun c=>ie rfl br (c.q 0),am fun c=>cu rfl (c.q 1) rfl,av⟩ fun ac ag ae ab aa=> ?_);obtain ⟨e0,e2,e3,e4,e5⟩:=aa.k5 e0 e2 e3 e4 e5;have e16:=aa.V 2;replace r0:=aa.B 0;replace r1:=aa.B 1;replace r9:=aa.z1 9;refine wp_cond_split e16 (fun hc1=> ?_) (fun hc1=> ?_)
 · try simp only [ah] at hc1
   refine wp_seq ?_;refine bz ?_;refine cO 3 (by kernel_rfl) ?_;refine og [_,_,kF _ 20 (fun b:Sv=> .tuple #[b.v,aB (gh (bI (eZ (cf cs i)) 0))]) (fun _=>True) (fun b:Sv=>eY gC (Gn aV w) b.v (fm (bI (eZ (cf cs i)) 0)))] [0,1,3] ab [jb r0,jb r1,jz 9 r9] ⟨aq e5,am fun c=>gX rfl br (c.q 0) rfl (by first | omega | (have h_:=qN (by assumption:((cf cs i).size:Int)=1);omega) | (have h_:=cr hL i;omega)) (by first | omega | (have h_:=qN (by assumption:((cf cs i).size:Int)=1);omega) | (have h_:=cr hL i;omega)),iP (f:=fun b:Sv=> .tuple #[b.v,aB (gh (bI (eZ (cf cs i)) 0))]) (Ψ:=fun _=>True) (Φ:=fun b:Sv=>eY gC (Gn aV w) b.v (fm (bI (eZ (cf cs i)) 0))) fun {_ a_ _ _} c=>⟨_,_,(bw rfl rfl Try.call91 (c.q 1)),(qe (bI (eZ (cf cs i)) 0) _).mono (fun e w' ⟨v_,he_,hx_,hn_⟩=>by obtain ⟨s_,rfl⟩:=hn_.1.sl.sl.sv;exact ⟨s_,he_,hx_,av,c.sn ab hx_ hn_⟩)⟩,av⟩ fun ac ag ae ab aa=> ?_;obtain ⟨e0,e2,e3,e4,e5⟩:=aa.k5 e0 e2 e3 e4 e5;obtain ⟨rw1_,e20,-,hz5⟩:=aa.zd 2 rfl;have e20:aS ac 20=(.tuple #[rw1_.v,(aB (gh (bI (eZ (cf cs i)) 0)))]):=e20;replace r0:=aa.B 0;replace r1:=aa.B 1;replace r9:=aa.z1 9;have r2:=hz5;refine cP ?_;refine og [_,_,_,_,_] [0,1,3,7,15] ab [jb r0,jb r1,jz 2 r2,jz 9 r9] ⟨aq e20,df 0,df 0,aK 1,aK 2,av⟩ fun ac ag ae ab aa=> ?_;obtain ⟨e0,e2,e3,e4,e5⟩:=aa.k5 e0 e2 e3 e4 e5;have e6:=aa.V 3;have e7:=aa.V 4;replace r0:=aa.B 0;replace r1:=aa.B 1;obtain ⟨r2,r9⟩:=aa.z2 2 9;refine wp_seq (ew ab [jb r0,jb r1,jz 2 r2,jz 9 r9] ⟨aq e7,av⟩ fun ac ag ae ab aa=> ?_);obtain ⟨e0,e2,e3,e4,e5,e6⟩:=aa.k6 e0 e2 e3 e4 e5 e6;have e23:=aa.V 0;replace r0:=aa.B 0;replace r1:=aa.B 1;obtain ⟨r2,r9⟩:=aa.z2 2 9;refine wp_cond_split e23 (fun hc2=> ?_) (fun hc2=> ?_)
   · skip;refine wp_seq ?_;have hnm:(decide (((cf cs i).size:Int)=1)&&gh (bI (eZ (cf cs i)) 0))=true:=by rw [ao];exact ⟨decide_eq_true (by assumption),by assumption⟩
     have hlt_:i < cs.length:=fZ (by assumption:((cf cs i).size:Int)=1)
     refine wW ab [jb r0,jb r1,jz 2 r2,jz 9 r9] ⟨aq e0,co 0 r0.ptr,bW aU ay 1 r0.ptr,eG aD 2 0 1,am fun c=>cZ rfl (c.q 3) rfl (by first | omega | (have h_:=qN (by assumption:((cf cs i).size:Int)=1);omega) | (have h_:=cr hL i;omega)),co 0 r0.ptr,bW aU ay 5 r0.ptr,bX (cx:=[cv.v,(aj (((i:Nat):Int)+1))]) ay fun c=>⟨c.bp 0 rfl e0,c.ad (c.q 6) e0 rfl,(c.q 4)⟩,av⟩ fun ac ag ae ab aa=> ?_;obtain ⟨e0,e2,e3,e4,e5,e6⟩:=aa.k6 e0 e2 e3 e4 e5 e6;replace r0:=aa.RB 7 e0;replace r1:=aa.B 1;obtain ⟨r2,r9⟩:=aa.z2 2 9;replace r0:cj 73 [cv.v,aj ((i+1:Nat):Int)] (ae 0) v ag:=by rw [show ((i+1:Nat):Int)=((i:Nat):Int)+1 from by omega];exact r0
     refine wp_seq (tU [0,0,0,6,15,31,63] ab [jb r0,jb r1,jz 2 r2,jz 9 r9] ⟨aq e6,aq e4,aq e5,am fun c=>lm rfl (c.q 1) (c.q 2),am fun c=>eO (cells:=#[(aj 4),(aR (⟨#[]⟩:ByteArray)),(aB (!(gD (cf cs i) (eZ (cf cs i))))),rw1_.v,(aj 0),(aj 0),(aB false),(.slice none 0 0)]) rfl aG (AT rfl (c.n 0 rfl) (c.n 3 rfl) rfl),bX (cx:=[(aj 4),(aR (⟨#[]⟩:ByteArray)),(aB (!(gD (cf cs i) (eZ (cf cs i))))),rw1_.v,(aj 0),(aj 0),(aB false),(.slice none 0 0)]) (off:=0) ak fun c=>⟨c.bp 1 rfl e2,c.ad ((c.p e2).trans r1.ptr) e2 rfl,(c.q 4)⟩,am fun c=>au rfl rfl,av⟩ fun ac ag ae ab aa=> ?_);obtain ⟨e0,e2,e4⟩:=aa.k3 e0 e2 e4;have e3:=aa.V 6;replace r0:=aa.B 0;replace r1:=aa.RB 5 e2;obtain ⟨r2,r9⟩:=aa.z2 2 9;refine wp_ret ?_;refine rp ?_;refine dU (fn:=Try.f77) rfl ab.defers e2 e3 r1 aE ak rfl ?_;have he_:fM cs i=((ly (!(gD (cf cs i) (eZ (cf cs i)))) Sv.nil (fm (bI (eZ (cf cs i)) 0))),0,i+1):=by unfold fM;(repeat (first | rw [if_neg (by first | assumption | (simp only [aI];assumption) | (simp only [aL];assumption) | (exact fun h_=>h_ (by assumption)) | omega)] | rw [if_pos (by first | assumption | omega)]));(try rfl)
     rw [he_];exact ⟨(ly (!(gD (cf cs i) (eZ (cf cs i)))) rw1_ (fm (bI (eZ (cf cs i)) 0))),rfl,ab.extIn,r0.foot,(Fz.out (CQ r2)),yi _ _ _⟩
   skip;refine wp_skip ?_;refine wp_seq ?_;have hnm:(decide (((cf cs i).size:Int)=1)&&gh (bI (eZ (cf cs i)) 0))=false:=by rw [aM];first | (right;assumption) | (left;exact decide_eq_false (by assumption))
   refine tU [0,1,3,7,7,15,63] ab [jb r0,jb r1,jz 2 r2,jz 9 r9] ⟨aq e4,eu fun c=>⟨_,_,(bw rfl rfl mJ (c.q 0)),vG (cf cs i) _⟩,bk 1,df 2,df 2,aK 3,aK 4,av⟩ fun ac ag ae ab aa=> ?_;obtain ⟨e0,e2,e3⟩:=aa.k3 e0 e2 e3;have e8:=aa.V 5;have e9:=aa.V 6;replace r0:=aa.B 0;replace r1:=aa.B 1;obtain ⟨r2,r9⟩:=aa.z2 2 9;refine wp_seq ?_;refine wp_seq (eE ab [jb r0,jb r1,jz 9 r9] ⟨aq e9,am fun c=>dC rfl (c.q 0),av⟩ fun ac ag ae ab aa=> ?_);obtain ⟨e0,e2,e3,e8⟩:=aa.k4 e0 e2 e3 e8;have e42:=aa.V 1;replace r0:=aa.B 0;replace r1:=aa.B 1;replace r9:=aa.z1 9;refine wp_cond_split e42 (fun hc3=> ?_) (fun hc3=> ?_)
   · try simp only [ax,aw] at hc3
     refine wp_seq (eN ab [jb r0,jb r1,jz 9 r9] ⟨am fun c=>eO (cells:=#[(aj 0),(aR (⟨#[]⟩:ByteArray)),(aB false),(.slice none 0 0),(aj 0),(aj 0),(aB false),(.slice none 0 0)]) rfl aG nf,bX (cx:=[(aj 0),(aR (⟨#[]⟩:ByteArray)),(aB false),(.slice none 0 0),(aj 0),(aj 0),(aB false),(.slice none 0 0)]) (off:=0) ak fun c=>⟨c.bp 1 rfl e2,c.ad ((c.p e2).trans r1.ptr) e2 rfl,(c.q 0)⟩,am fun c=>au rfl rfl,av⟩ fun ac ag ae ab aa=> ?_);obtain ⟨e0,e2,e8⟩:=aa.k3 e0 e2 e8;have e3:=aa.V 2;replace r0:=aa.B 0;replace r1:=aa.RB 1 e2;replace r9:=aa.z1 9;refine wp_ret ?_;refine rp ?_;refine dU (fn:=Try.f77) rfl ab.defers e2 e3 r1 aE ak rfl ?_;have he_:fM cs i=((cB 0 (⟨#[]⟩:ByteArray) false 0 0 false),10,i):=by unfold fM;(repeat (first | rw [if_neg (by first | assumption | (simp only [aI];assumption) | (simp only [aL];assumption) | (exact fun h_=>h_ (by assumption)) | omega)] | rw [if_pos (by first | assumption | omega)]));(try rfl)
     rw [he_];exact ⟨(cB 0 (⟨#[]⟩:ByteArray) false 0 0 false),rfl,ab.extIn,r0.foot,(ey _ _ _ _ _ _ _ _),rfl⟩
   try simp only [ax,aw] at hc3
   refine wp_skip ?_;refine wp_seq ?_;have hlt_:i < cs.length:=by
     cases hz_:gD (cf cs i) (⟨#[]⟩:ByteArray) with
     | false => exact lx hz_
     | true =>
       have hx_:(eF (cf cs i)).2=true:=by assumption
       unfold eF at hx_;rw [if_pos hz_] at hx_;cases hx_
   refine wW ab [jb r0,jb r1,jz 9 r9] ⟨aq e0,co 0 r0.ptr,bW aU ay 1 r0.ptr,eG aD 2 0 1,am fun c=>cZ rfl (c.q 3) rfl (by first | omega | (have h_:=qN (by assumption:((cf cs i).size:Int)=1);omega) | (have h_:=cr hL i;omega)),co 0 r0.ptr,bW aU ay 5 r0.ptr,bX (cx:=[cv.v,(aj (((i:Nat):Int)+1))]) ay fun c=>⟨c.bp 0 rfl e0,c.ad (c.q 6) e0 rfl,(c.q 4)⟩,av⟩ fun ac ag ae ab aa=> ?_;obtain ⟨e0,e2,e3,e8⟩:=aa.k4 e0 e2 e3 e8;replace r0:=aa.RB 7 e0;replace r1:=aa.B 1;replace r9:=aa.z1 9;replace r0:cj 73 [cv.v,aj ((i+1:Nat):Int)] (ae 0) v ag:=by rw [show ((i+1:Nat):Int)=((i:Nat):Int)+1 from by omega];exact r0
   refine wp_seq (xw ab [jb r0,jb r1,jz 9 r9] ⟨aq e8,am fun c=>eO (cells:=#[(aj 2),(aR ((eF (cf cs i)).1)),(aB false),(.slice none 0 0),(aj 0),(aj 0),(aB false),(.slice none 0 0)]) rfl aG (gO rfl (c.n 0 rfl) rfl),bX (cx:=[(aj 2),(aR ((eF (cf cs i)).1)),(aB false),(.slice none 0 0),(aj 0),(aj 0),(aB false),(.slice none 0 0)]) (off:=0) ak fun c=>⟨c.bp 1 rfl e2,c.ad ((c.p e2).trans r1.ptr) e2 rfl,(c.q 1)⟩,am fun c=>au rfl rfl,av⟩ fun ac ag ae ab aa=> ?_);obtain ⟨e0,e2⟩:=aa.k2 e0 e2;have e3:=aa.V 3;replace r0:=aa.B 0;replace r1:=aa.RB 2 e2;replace r9:=aa.z1 9;refine wp_ret ?_;refine rp ?_;refine dU (fn:=Try.f77) rfl ab.defers e2 e3 r1 aE ak rfl ?_;have he_:fM cs i=((cB 2 ((eF (cf cs i)).1) false 0 0 false),0,i+1):=by unfold fM;(repeat (first | rw [if_neg (by first | assumption | (simp only [aI];assumption) | (simp only [aL];assumption) | (exact fun h_=>h_ (by assumption)) | omega)] | rw [if_pos (by first | assumption | omega)]));(try rfl)
   rw [he_];exact ⟨(cB 2 ((eF (cf cs i)).1) false 0 0 false),rfl,ab.extIn,r0.foot,(ey _ _ _ _ _ _ _ _),rfl⟩
 try simp only [ai] at hc1
 refine wp_skip ?_;refine wp_seq ?_;have hnm:(decide (((cf cs i).size:Int)=1)&&gh (bI (eZ (cf cs i)) 0))=false:=by rw [aM];first | (right;assumption) | (left;exact decide_eq_false (by assumption))
 refine tU [0,1,3,7,7,15,63] ab [jb r0,jb r1,jz 9 r9] ⟨aq e4,eu fun c=>⟨_,_,(bw rfl rfl mJ (c.q 0)),vG (cf cs i) _⟩,bk 1,df 2,df 2,aK 3,aK 4,av⟩ fun ac ag ae ab aa=> ?_;obtain ⟨e0,e2,e3⟩:=aa.k3 e0 e2 e3;have e8:=aa.V 5;have e9:=aa.V 6;replace r0:=aa.B 0;replace r1:=aa.B 1;replace r9:=aa.z1 9;refine wp_seq ?_;refine wp_seq (eE ab [jb r0,jb r1,jz 9 r9] ⟨aq e9,am fun c=>dC rfl (c.q 0),av⟩ fun ac ag ae ab aa=> ?_);obtain ⟨e0,e2,e3,e8⟩:=aa.k4 e0 e2 e3 e8;have e42:=aa.V 1;replace r0:=aa.B 0;replace r1:=aa.B 1;replace r9:=aa.z1 9;refine wp_cond_split e42 (fun hc4=> ?_) (fun hc4=> ?_)
 · try simp only [ax,aw] at hc4
   refine wp_seq (eN ab [jb r0,jb r1,jz 9 r9] ⟨am fun c=>eO (cells:=#[(aj 0),(aR (⟨#[]⟩:ByteArray)),(aB false),(.slice none 0 0),(aj 0),(aj 0),(aB false),(.slice none 0 0)]) rfl aG nf,bX (cx:=[(aj 0),(aR (⟨#[]⟩:ByteArray)),(aB false),(.slice none 0 0),(aj 0),(aj 0),(aB false),(.slice none 0 0)]) (off:=0) ak fun c=>⟨c.bp 1 rfl e2,c.ad ((c.p e2).trans r1.ptr) e2 rfl,(c.q 0)⟩,am fun c=>au rfl rfl,av⟩ fun ac ag ae ab aa=> ?_);obtain ⟨e0,e2,e8⟩:=aa.k3 e0 e2 e8;have e3:=aa.V 2;replace r0:=aa.B 0;replace r1:=aa.RB 1 e2;replace r9:=aa.z1 9;refine wp_ret ?_;refine rp ?_;refine dU (fn:=Try.f77) rfl ab.defers e2 e3 r1 aE ak rfl ?_;have he_:fM cs i=((cB 0 (⟨#[]⟩:ByteArray) false 0 0 false),10,i):=by unfold fM;(repeat (first | rw [if_neg (by first | assumption | (simp only [aI];assumption) | (simp only [aL];assumption) | (exact fun h_=>h_ (by assumption)) | omega)] | rw [if_pos (by first | assumption | omega)]));(try rfl)
   rw [he_];exact ⟨(cB 0 (⟨#[]⟩:ByteArray) false 0 0 false),rfl,ab.extIn,r0.foot,(ey _ _ _ _ _ _ _ _),rfl⟩
 try simp only [ax,aw] at hc4
 refine wp_skip ?_;refine wp_seq ?_;have hlt_:i < cs.length:=by
   cases hz_:gD (cf cs i) (⟨#[]⟩:ByteArray) with
   | false => exact lx hz_
   | true =>
     have hx_:(eF (cf cs i)).2=true:=by assumption
     unfold eF at hx_;rw [if_pos hz_] at hx_;cases hx_
 refine wW ab [jb r0,jb r1,jz 9 r9] ⟨aq e0,co 0 r0.ptr,bW aU ay 1 r0.ptr,eG aD 2 0 1,am fun c=>cZ rfl (c.q 3) rfl (by first | omega | (have h_:=qN (by assumption:((cf cs i).size:Int)=1);omega) | (have h_:=cr hL i;omega)),co 0 r0.ptr,bW aU ay 5 r0.ptr,bX (cx:=[cv.v,(aj (((i:Nat):Int)+1))]) ay fun c=>⟨c.bp 0 rfl e0,c.ad (c.q 6) e0 rfl,(c.q 4)⟩,av⟩ fun ac ag ae ab aa=> ?_;obtain ⟨e0,e2,e3,e8⟩:=aa.k4 e0 e2 e3 e8;replace r0:=aa.RB 7 e0;replace r1:=aa.B 1;replace r9:=aa.z1 9;replace r0:cj 73 [cv.v,aj ((i+1:Nat):Int)] (ae 0) v ag:=by rw [show ((i+1:Nat):Int)=((i:Nat):Int)+1 from by omega];exact r0
 refine wp_seq (xw ab [jb r0,jb r1,jz 9 r9] ⟨aq e8,am fun c=>eO (cells:=#[(aj 2),(aR ((eF (cf cs i)).1)),(aB false),(.slice none 0 0),(aj 0),(aj 0),(aB false),(.slice none 0 0)]) rfl aG (gO rfl (c.n 0 rfl) rfl),bX (cx:=[(aj 2),(aR ((eF (cf cs i)).1)),(aB false),(.slice none 0 0),(aj 0),(aj 0),(aB false),(.slice none 0 0)]) (off:=0) ak fun c=>⟨c.bp 1 rfl e2,c.ad ((c.p e2).trans r1.ptr) e2 rfl,(c.q 1)⟩,am fun c=>au rfl rfl,av⟩ fun ac ag ae ab aa=> ?_);obtain ⟨e0,e2⟩:=aa.k2 e0 e2;have e3:=aa.V 3;replace r0:=aa.B 0;replace r1:=aa.RB 2 e2;replace r9:=aa.z1 9;refine wp_ret ?_;refine rp ?_;refine dU (fn:=Try.f77) rfl ab.defers e2 e3 r1 aE ak rfl ?_;have he_:fM cs i=((cB 2 ((eF (cf cs i)).1) false 0 0 false),0,i+1):=by unfold fM;(repeat (first | rw [if_neg (by first | assumption | (simp only [aI];assumption) | (simp only [aL];assumption) | (exact fun h_=>h_ (by assumption)) | omega)] | rw [if_pos (by first | assumption | omega)]));(try rfl)
 rw [he_];exact ⟨(cB 2 ((eF (cf cs i)).1) false 0 0 false),rfl,ab.extIn,r0.foot,(ey _ _ _ _ _ _ _ _),rfl⟩
end
section
open Go.RowKit
open Srt
theorem rW {cs:List ByteArray} {ng:Bool} {f i:Nat} {rows:List Rw} (h1:dX cs i ⟨#[93]⟩=false) (h2:(bl cs i).2.2.1=true) (h3:(0:Int) < ((bl cs i).1.length:Int)):hD cs ng (f+1) i rows=hD cs ng f (bl cs i).2.2.2 (rows++(bl cs i).1):=by
  rw [hD,if_neg (by rw [h1];decide),if_neg (by rw [h2];decide),if_pos h3]
def oy (cs:List ByteArray) (i:Nat):Bool:=(gD (cf cs (bl cs i).2.2.2) ⟨#[45]⟩&&decide (((bl cs i).2.2.2:Int)+1 < (cs.length:Int)))&& !(gD (nth cs (((bl cs i).2.2.2:Int)+1)) ⟨#[93]⟩)
def wJ (cs:List ByteArray) (i:Nat):Bool:=((!(bl cs ((bl cs i).2.2.2+1)).2.2.1) || decide ((0:Int) < ((bl cs ((bl cs i).2.2.2+1)).1.length:Int))) || lK (bl cs ((bl cs i).2.2.2+1)).2.1 (bl cs i).2.1
theorem qf {cs:List ByteArray} {ng:Bool} {f i:Nat} {rows:List Rw} (h1:dX cs i ⟨#[93]⟩=false) (h2:(bl cs i).2.2.1=true) (h3:¬(0:Int) < ((bl cs i).1.length:Int)) (h4:oy cs i=true) (h5:wJ cs i=false):hD cs ng (f+1) i rows=hD cs ng f (bl cs ((bl cs i).2.2.2+1)).2.2.2 (rows++ [((bl cs i).2.1,(bl cs ((bl cs i).2.2.2+1)).2.1)]):=by
  unfold oy at h4;unfold wJ at h5;rw [hD,if_neg (by rw [h1];decide),if_neg (by rw [h2];decide),if_neg h3,if_pos h4,if_neg (by rw [h5];decide)]
theorem qg {cs:List ByteArray} {ng:Bool} {f i:Nat} {rows:List Rw} (h1:dX cs i ⟨#[93]⟩=false) (h2:(bl cs i).2.2.1=true) (h3:¬(0:Int) < ((bl cs i).1.length:Int)) (h4:oy cs i=false):hD cs ng (f+1) i rows=hD cs ng f (bl cs i).2.2.2 (rows++ [((bl cs i).2.1,(bl cs i).2.1)]):=by
  unfold oy at h4;rw [hD,if_neg (by rw [h1];decide),if_neg (by rw [h2];decide),if_neg h3,if_neg (by rw [h4];decide)]
theorem vI {cs:List ByteArray} {ng:Bool} {f i:Nat} {rows:List Rw} (h1:dX cs i ⟨#[93]⟩=false) (h2:(bl cs i).2.2.1=false):hD cs ng (f+1) i rows=(gv,10,(bl cs i).2.2.2):=by
  rw [hD,if_neg (by rw [h1];decide),if_pos h2]
theorem vJ {cs:List ByteArray} {ng:Bool} {f i:Nat} {rows:List Rw} (h1:dX cs i ⟨#[93]⟩=false) (h2:(bl cs i).2.2.1=true) (h3:¬(0:Int) < ((bl cs i).1.length:Int)) (h4:oy cs i=true) (h5:wJ cs i=true):hD cs ng (f+1) i rows=(gv,10,(bl cs ((bl cs i).2.2.2+1)).2.2.2):=by
  unfold oy at h4;unfold wJ at h5;rw [hD,if_neg (by rw [h1];decide),if_neg (by rw [h2];decide),if_neg h3,if_pos h4,if_pos h5]
theorem yC {cs:List ByteArray} {ng:Bool} {f i:Nat} {rows:List Rw} (h1:dX cs i ⟨#[93]⟩=true):hD cs ng (f+1) i rows=(ly ng Sv.nil (fl rows),0,i+1):=by
  rw [hD,if_pos h1]
set_option maxRecDepth 100000 in
set_option maxHeartbeats 4000000 in
theorem Ap (v:Value) (cv:Sv) (cs:List ByteArray) (i:Nat) (w:World) (hR:RdR 73 v cv cs i w) (hL:lA cs) (hi:i≤cs.length+3):Calls Try.prog 76 #[v] w (fun e w'=>∃t':Tr,e= .returned (.tuple #[t'.v,aj (ja cs i).2.1])∧Ext (bS v) w w'∧cj 73 [cv.v,aj (((ja cs i).2.2:Nat):Int)] (bS v) v w'∧TrT (Gn aV w) w' t'∧er t'=(ja cs i).1):=by
 refine eH (bS v) (fun g hg=>hR.box.lt g hg) (n:=101) Try.func76 rfl rfl (ar rfl) ?_;intro a0 τ0 ha hτ st0;have e0:=lL ha;have hL1:=hL.1;have r0:cj 73 [cv.v,aj ((i:Nat):Int)] (τ0 0) v w:=by rw [hτ];exact hR.box
 have r9:Fz (eY fy Al cv.v cs) τ0 w:=hR.inz st0;refine wp_seq (rg [box _ _ 1 2 [(aj 0),(aR (⟨#[]⟩:ByteArray)),(aB false),(.slice none 0 0),(aj 0),(aj 0),(aB false),(.slice none 0 0)],_] [0,0] st0 [jb r0,jz 9 r9] ⟨ci rfl rfl rfl rfl aG rfl,am fun c=>au rfl rfl,av⟩ fun ac ag ae ab aa=> ?_);obtain ⟨b1x2,e2⟩:=gx ac 2;replace e0:=aa.k1 e0;have e3:=aa.V 1;replace r0:=aa.B 0;have r1:=aa.rb 0 e2 rfl;replace r9:=aa.z1 9;refine wp_seq (rg [_,hQ 73 _ 0 11 v [cv.v,(aj ((tkN cs i (⟨#[94]⟩:ByteArray):Nat):Int))] (aB (dX cs i (⟨#[94]⟩:ByteArray))),_,box _ _ 2 4 [(aj 0),(aR (⟨#[]⟩:ByteArray)),(aB false),(.slice none 0 0),(aj 0),(aj 0),(aB false),(.slice none 0 0)],_] [0,1,3,0,15] ab [jb r0,jb r1,jz 9 r9] ⟨aq e0,fW fun {_ a_ _ _} c=>⟨_,_,(ca rfl rfl cW (c.q 0) rfl),fX (c.B 0) (eU v cv cs i (⟨#[94]⟩:ByteArray) _ (jm (c.B 0) (c.iz 9 rfl) (fun g_ h_ hz_=>hz_.2 _ h_)) hL (by omega))⟩,am fun c=>eO (cells:=#[(aj 4),(aR (⟨#[]⟩:ByteArray)),(aB (dX cs i (⟨#[94]⟩:ByteArray))),(.slice none 0 0),(aj 0),(aj 0),(aB false),(.slice none 0 0)]) rfl aG (gO rfl (c.dv 1 rfl) rfl),ci rfl rfl rfl rfl aG rfl,fJ (cx:=[(aj 4),(aR (⟨#[]⟩:ByteArray)),(aB (dX cs i (⟨#[94]⟩:ByteArray))),(.slice none 0 0),(aj 0),(aj 0),(aB false),(.slice none 0 0)]) (off:=0) rfl ak fun c=>⟨c.rb 3 rfl,(c.rb 3 rfl).ptr,(c.q 2)⟩,av⟩ fun ac ag ae ab aa=> ?_);obtain ⟨b2x4,e4⟩:=gx ac 4;obtain ⟨e0,e2,e3⟩:=aa.k3 e0 e2 e3;replace r0:=aa.db 1 rfl;replace r1:=aa.B 1;have r2:=aa.rb 4 e4 rfl;replace r9:=aa.z1 9;refine wp_seq (ew ab [jb r0,jb r1,jb r2,jz 9 r9] ⟨am fun c=>au rfl rfl,av⟩ fun ac ag ae ab aa=> ?_);obtain ⟨e0,e2,e3,e4⟩:=aa.k4 e0 e2 e3 e4;have e5:=aa.V 0;replace r0:=aa.B 0;replace r1:=aa.B 1;replace r2:=aa.B 2;replace r9:=aa.z1 9;refine wp_seq ?_;refine wp_block ?_;refine wp_loop (fun a_ w_=>∃(j f:Nat) (u:Value) (rows:List (ByteArray × ByteArray)) (τ:Nat→aQ),(iu rows)∧
      (rows.length≤4 * (j+1))∧
      (j≤cs.length+4)∧
      (cs.length < f+j+1)∧
      (hD cs (dX cs i (⟨#[94]⟩:ByteArray)) (cs.length+1) (tkN cs i (⟨#[94]⟩:ByteArray)) []=hD cs (dX cs i (⟨#[94]⟩:ByteArray)) (f+1) j rows)∧
      St (fun k=>bS v k∨w.heap.size≤k) w 101 a_ w_ τ∧
      aS a_ 5=u∧
      aS a_ 0=v∧
      aS a_ 2=b1x2∧
      aS a_ 4=b2x4∧
      cj 73 [cv.v,(aj ((j:Nat):Int))] (τ 0) v w_∧
      dq gC 47 rows (τ 6) u w_∧
      cj 32 [(aj 0),(aR (⟨#[]⟩:ByteArray)),(aB false),(.slice none 0 0),(aj 0),(aj 0),(aB false),(.slice none 0 0)] (τ 1) b1x2 w_∧
      cj 32 [(aj 4),(aR (⟨#[]⟩:ByteArray)),(aB (dX cs i (⟨#[94]⟩:ByteArray))),(.slice none 0 0),(aj 0),(aj 0),(aB false),(.slice none 0 0)] (τ 2) b2x4 w_∧
      Fz (eY fy Al cv.v cs) τ w_) (fun a_ w_=>cs.length+10 - xK v w_) ?_ ?_
 · refine ⟨tkN cs i (⟨#[94]⟩:ByteArray),cs.length,(.slice none 0 0),[],ae,?_,?_,?_,?_,?_,ab,e5,e0,e2,e4,r0,?_,r1,r2,r9⟩
   · exact iu.nil
   · simp
   · have h_:=BL cs i (⟨#[94]⟩:ByteArray);omega
   · omega
   · rfl
   · exact dq.nil _ _ _ _
 intro a4 w4 hI;obtain ⟨j,f,u,rows,τ4,q0,q1,q2,q3,q4,st4,e5,e0,e2,e4,r0,r6,r1,r2,r9⟩:=hI;have his:=lB hL j;have hm0:=ky r0;have hsm_:=q0.small;refine wp_seq ?_;refine wp_seq (rg [_,hQ 73 _ 0 14 v [cv.v,(aj ((tkN cs j (⟨#[93]⟩:ByteArray):Nat):Int))] (aB (dX cs j (⟨#[93]⟩:ByteArray))),_] [0,1,3] st4 [jb r0,jb r1,jb r2,jo r6,jz 9 r9] ⟨aq e0,fW fun {_ a_ _ _} c=>⟨_,_,(ca rfl rfl cW (c.q 0) rfl),fX (c.B 0) (eU v cv cs j (⟨#[93]⟩:ByteArray) _ (jm (c.B 0) (c.iz 9 rfl) (fun g_ h_ hz_=>hz_.2 _ h_)) hL (by omega))⟩,am fun c=>dC rfl (c.dv 1 rfl),av⟩ fun ac ag ae ab aa=> ?_);obtain ⟨e0,e2,e4,e5⟩:=aa.k4 e0 e2 e4 e5;have e15:=aa.V 2;replace r0:=aa.db 1 rfl;replace r1:=aa.B 1;replace r2:=aa.B 2;replace r6:=aa.O 6;replace r9:=aa.z1 9;refine wp_cond_split e15 (fun hc1=> ?_) (fun hc1=> ?_)
 · try simp only [ax,aw] at hc1
   have htk1:dX cs j (⟨#[93]⟩:ByteArray)=false:=by simpa using hc1
   rw [iS htk1] at r0;refine wp_skip ?_;refine wp_block ?_;refine wp_seq ?_;refine bz ?_;refine cO 2 (by kernel_rfl) ?_;refine og [_,mu 73 _ 0 18 v (fun b:Sv=> [cv.v,aj (((bl cs j).2.2.2:Nat):Int)]) (fun b:Sv=> .tuple #[b.v,aR (bl cs j).2.1,aB (bl cs j).2.2.1]) (fun _=>True) (fun b:Sv=>eY gC (Gn aV w) b.v (bl cs j).1)] [0,1] ab [jb r0,jb r1,jb r2,jo r6,jz 9 r9] ⟨aq e0,kR (cells:=fun b:Sv=> [cv.v,aj (((bl cs j).2.2.2:Nat):Int)]) (f:=fun b:Sv=> .tuple #[b.v,aR (bl cs j).2.1,aB (bl cs j).2.2.1]) (Ψ:=fun _=>True) (Φ:=fun b:Sv=>eY gC (Gn aV w) b.v (bl cs j).1) fun {_ a_ _ _} c=>⟨_,_,(bw rfl rfl Try.call88 (c.q 0)),(yB v cv cs j _ (jm (c.B 0) (c.iz 9 rfl) (fun g_ h_ hz_=>hz_.2 _ h_)) hL (by omega)).mono (fun e w' ⟨b_,he_,hx_,hb_,hs_⟩=>⟨b_,he_,(c.ib 0 rfl).ext hx_,hb_.back (c.ib 0 rfl),av,c.sns ab hx_.size hs_⟩)⟩,av⟩ fun ac ag ae ab aa=> ?_;obtain ⟨e0,e2,e4,e5,e15⟩:=aa.k5 e0 e2 e4 e5 e15;obtain ⟨rw1_,e18,hro6,-,hz6⟩:=aa.zb 1 rfl;have e18:aS ac 18=(.tuple #[rw1_.v,(aR ((bl cs j).2.1)),(aB ((bl cs j).2.2.1))]):=e18;replace r0:=hro6;replace r1:=aa.B 1;replace r2:=aa.B 2;replace r6:=aa.O 6;replace r9:=aa.z1 9;have r3:=hz6;refine cP ?_;refine og [_,_,_,_,_,_,_] [0,1,3,7,15,31,63] ab [jb r0,jb r1,jb r2,jz 3 r3,jo r6,jz 9 r9] ⟨aq e18,df 0,df 0,df 0,aK 1,aK 2,aK 3,av⟩ fun ac ag ae ab aa=> ?_;obtain ⟨e0,e2,e4,e5,e15⟩:=aa.k5 e0 e2 e4 e5 e15;have e6:=aa.V 4;have e7:=aa.V 5;have e8:=aa.V 6;replace r0:=aa.B 0;replace r1:=aa.B 1;replace r2:=aa.B 2;obtain ⟨r3,r9⟩:=aa.z2 3 9;replace r6:=aa.O 6;refine wp_seq ?_;refine wp_seq (eE ab [jb r0,jb r1,jb r2,jz 3 r3,jo r6,jz 9 r9] ⟨aq e8,am fun c=>dC rfl (c.q 0),av⟩ fun ac ag ae ab aa=> ?_);obtain ⟨e0,e2,e4,e5,e6,e7,e8,e15⟩:=aa.k8 e0 e2 e4 e5 e6 e7 e8 e15;have e23:=aa.V 1;replace r0:=aa.B 0;replace r1:=aa.B 1;replace r2:=aa.B 2;obtain ⟨r3,r9⟩:=aa.z2 3 9;replace r6:=aa.O 6;refine wp_cond_split e23 (fun hc2=> ?_) (fun hc2=> ?_)
   · try simp only [ax,aw] at hc2
     refine wp_seq (eN ab [jb r0,jb r1,jb r2,jz 3 r3,jo r6,jz 9 r9] ⟨am fun c=>eO (cells:=#[(aj 0),(aR (⟨#[]⟩:ByteArray)),(aB false),(.slice none 0 0),(aj 0),(aj 0),(aB false),(.slice none 0 0)]) rfl aG nf,bX (cx:=[(aj 0),(aR (⟨#[]⟩:ByteArray)),(aB false),(.slice none 0 0),(aj 0),(aj 0),(aB false),(.slice none 0 0)]) (off:=0) ak fun c=>⟨c.bp 1 rfl e2,c.ad ((c.p e2).trans r1.ptr) e2 rfl,(c.q 0)⟩,am fun c=>au rfl rfl,av⟩ fun ac ag ae ab aa=> ?_);obtain ⟨e0,e2,e4,e5,e6,e7,e8,e15,e23⟩:=aa.k9 e0 e2 e4 e5 e6 e7 e8 e15 e23;have e3:=aa.V 2;replace r0:=aa.B 0;replace r1:=aa.RB 1 e2;replace r2:=aa.B 2;obtain ⟨r3,r9⟩:=aa.z2 3 9;replace r6:=aa.O 6;refine wp_ret ?_;refine rp ?_;refine dU (fn:=Try.f76) rfl ab.defers e2 e3 r1 aE ak rfl ?_;have he_:ja cs i=((cB 0 (⟨#[]⟩:ByteArray) false 0 0 false),10,(bl cs j).2.2.2):=by unfold ja;rw [q4];first | exact vI (by assumption) (by assumption) | exact vJ (by assumption) (by assumption) (by omega) (by assumption) (by assumption)
     rw [he_];exact ⟨(cB 0 (⟨#[]⟩:ByteArray) false 0 0 false),rfl,ab.extIn,r0.foot,(ey _ _ _ _ _ _ _ _),rfl⟩
   try simp only [ax,aw] at hc2
   refine wp_skip ?_;refine wp_seq ?_;refine wp_seq ?_;have hio:=his.2.2.2.2 (by assumption);refine eN ab [jb r0,jb r1,jb r2,jz 3 r3,jo r6,jz 9 r9] ⟨aq e6,am fun c=>cU rfl bh (c.q 0) (r3).1.sl,am fun c=>jh rfl (c.q 1) rfl,av⟩ fun ac ag ae ab aa=> ?_;obtain ⟨e0,e2,e4,e5,e6,e7,e8,e15,e23⟩:=aa.k9 e0 e2 e4 e5 e6 e7 e8 e15 e23;have e27:=aa.V 2;replace r0:=aa.B 0;replace r1:=aa.B 1;replace r2:=aa.B 2;obtain ⟨r3,r9⟩:=aa.z2 3 9;replace r6:=aa.O 6;refine wp_cond_split e27 (fun hc3=> ?_) (fun hc3=> ?_)
   · try simp only [ah] at hc3
     refine wp_seq ?_;refine rg [_,_,own _ _ _ 6 30 _,own _ _ _ 6 5 _] [0,0,3,7] ab [jb r0,jb r1,jb r2,jz 3 r3,jo r6,jz 9 r9] ⟨aq e5,aq e6,dS (t0:=5) rfl rfl rfl rfl bh (i:=Try.t47) rfl rfl rfl rfl (by simp only [maxLen];(try simp);omega) (by show _ * 32≤_;(try simp);omega) (fun _ _ _ _ c=>⟨c.ip 6 rfl e5,c.sm (c.n 0 rfl) e5,⟨_,(c.n 1 rfl),(c.iz 3 rfl).1⟩⟩),de (t0:=30) rfl rfl rfl rfl rfl (.inr rfl) (fun _ _ _ _ c=>⟨c.ro 2 rfl,rfl⟩),av⟩ fun ac ag ae ab aa=> ?_;obtain ⟨b11x5,e5⟩:=gx ac 5;obtain ⟨e0,e2,e4,e6,e7,e8,e15,e23,e27⟩:=aa.k9 e0 e2 e4 e6 e7 e8 e15 e23 e27;replace r0:=aa.B 0;replace r1:=aa.B 1;replace r2:=aa.B 2;obtain ⟨r3,r9⟩:=aa.z2 3 9;replace r6:=aa.ro 3 e5 rfl;refine wp_exit ?_;repeat (with_reducible refine ct ?_)
     refine cw ?_;have hnx:hD cs (dX cs i (⟨#[94]⟩:ByteArray)) (f+1) j rows=hD cs (dX cs i (⟨#[94]⟩:ByteArray)) f ((bl cs j).2.2.2) (rows++((bl cs j).1)):=by first | exact rW (by assumption) (by assumption) (by omega) | exact qf (by assumption) (by assumption) (by omega) (by assumption) (by assumption) | exact qg (by assumption) (by assumption) (by omega) (by assumption)
     refine ⟨⟨(bl cs j).2.2.2,f - 1,b11x5,rows++((bl cs j).1),ae,?_,?_,?_,?_,?_,ab,e5,e0,e2,e4,r0,?_,r1,r2,r9⟩,?_⟩
     · first | exact q0.app his.1 | exact q0.app (iu.one his.2.1 his2.2.1) | exact q0.app (iu.one his.2.1 his.2.1)
     · (try simp only [bK,bi,bG]);omega
     · omega
     · omega
     · obtain ⟨f,rfl⟩:∃f_,f=f_+1:=⟨f - 1,by omega⟩;rw [q4,hnx];rfl
     · exact r6.cast (by rfl)
     · rw [hm0,ky r0];omega
   try simp only [ai,bd] at hc3
   refine wp_skip ?_;refine wp_seq (rg [_,_,_,box _ _ 4 9 [(aR (⟨#[]⟩:ByteArray)),(aR (⟨#[]⟩:ByteArray))],_] [0,0,3,0,15] ab [jb r0,jb r1,jb r2,jz 3 r3,jo r6,jz 9 r9] ⟨aq e7,aq e7,am fun c=>ol (cells:=#[(aR ((bl cs j).2.1)),(aR ((bl cs j).2.1))]) rfl cI (gO (c.n 0 rfl) (c.n 1 rfl) rfl),ci rfl rfl rfl rfl cI rfl,fJ (cx:=[(aR ((bl cs j).2.1)),(aR ((bl cs j).2.1))]) (off:=0) rfl bR fun c=>⟨c.rb 3 rfl,(c.rb 3 rfl).ptr,(c.q 2)⟩,av⟩ fun ac ag ae ab aa=> ?_);obtain ⟨b12x9,e9⟩:=gx ac 9;obtain ⟨e0,e2,e4,e5,e6,e7,e8,e15,e23,e27⟩:=aa.k10 e0 e2 e4 e5 e6 e7 e8 e15 e23 e27;replace r0:=aa.B 0;replace r1:=aa.B 1;replace r2:=aa.B 2;replace r3:=aa.z1 3;have r4:=aa.rb 4 e9 rfl;replace r6:=aa.O 6;replace r9:=aa.z1 9;refine wp_seq ?_;refine wp_seq ?_;refine rg [_,_,_,_,_,_,_,_,_,_,_,_,_,_,_,_,_,_,_,_,_,_,_,_,_,_,_,_,_,_] [0,1,3,7,15,31,63,127,255,15,527,1551,3599,7695,16383,32767,65535,131071,262143,524287,1048575,131071,2228223,6422527,14811135,31588351,67108863,134217727,268435455,536870911] ab [jb r0,jb r1,jb r2,jz 3 r3,jb r4,jo r6,jz 9 r9] ⟨aq e0,eu fun c=>⟨_,_,(bw rfl rfl fe (c.q 0)),lf v cv cs ((bl cs j).2.2.2) _ (jm (c.B 0) (c.iz 9 rfl) (fun g_ h_ hz_=>hz_.2 _ h_))⟩,am fun c=>eX rfl (c.q 1) rfl,bk 2,aC 3 rfl fun c hpc=>aN rfl (c.p e0),aC 3 rfl fun c hpc=>cH rfl (c.M 4 hpc) r0.ptr,aC 3 rfl fun c hpc=>cN rfl aU ay ((c.M 5 hpc).trans r0.ptr),aC 3 rfl fun c hpc=>az rfl aD (c.M 6 hpc) ((c.B 0).cell (j:=1) rfl),aC 3 rfl fun c hpc=>cZ rfl (c.M 7 hpc) rfl (by have hq0:=hpc;omega),aC 3 rfl fun c hpc=>aN rfl (c.p e0),aC 3 rfl fun c hpc=>cH rfl (c.M 9 hpc) r0.ptr,aC 3 rfl fun c hpc=>cN rfl aU bY ((c.M 10 hpc).trans r0.ptr),aC 3 rfl fun c hpc=>az rfl cq (c.M 11 hpc) ((c.B 0).cell (j:=0) rfl),aC 3 rfl fun c hpc=>cU rfl aY (c.M 12 hpc) (r9).1.sl,aC 3 rfl fun c hpc=>dt rfl (c.M 8 hpc) (c.M 13 hpc),bN 3 14,bk 15,aC 16 rfl fun c hpc=>aN rfl (c.p e0),aC 16 rfl fun c hpc=>cH rfl (c.M 17 hpc) r0.ptr,aC 16 rfl fun c hpc=>cN rfl aU bY ((c.M 18 hpc).trans r0.ptr),aC 16 rfl fun c hpc=>az rfl cq (c.M 19 hpc) ((c.B 0).cell (j:=0) rfl),aC 16 rfl fun c hpc=>aN rfl (c.p e0),aC 16 rfl fun c hpc=>cH rfl (c.M 21 hpc) r0.ptr,aC 16 rfl fun c hpc=>cN rfl aU ay ((c.M 22 hpc).trans r0.ptr),aC 16 rfl fun c hpc=>az rfl aD (c.M 23 hpc) ((c.B 0).cell (j:=1) rfl),aC 16 rfl fun c hpc=>cZ rfl (c.M 24 hpc) rfl (by have hq0:=hpc;(try simp only [ao,ah] at hq0);omega),aC 16 rfl fun c hpc=>aW rfl aY bq (c.M 20 hpc) (r9).1.sl (c.M 25 hpc) (by have hq0:=hpc;(try simp only [ao,ah] at hq0);omega) (by have hq0:=hpc;(try simp only [ao,ah] at hq0);omega),aC 16 rfl fun c hpc=>az rfl bQ (c.M 26 hpc) (((c.iz 9 rfl).1).elem (j:=0) (bD (i:=(((bl cs j).2.2.2:Nat):Int)+1) (by have hq0:=hpc;(try simp only [ao,ah] at hq0);omega) (by have hq0:=hpc;(try simp only [ao,ah] at hq0);omega)) rfl),aC 16 rfl fun c hpc=>lm rfl (c.M 27 hpc) rfl,bN 16 28,av⟩ fun ac ag ae ab aa=> ?_;obtain ⟨e0,e2,e4,e5,e6,e7,e8,e9,e15,e23,e27⟩:=aa.k11 e0 e2 e4 e5 e6 e7 e8 e9 e15 e23 e27;have e63:=aa.V 29;replace r0:=aa.B 0;replace r1:=aa.B 1;replace r2:=aa.B 2;obtain ⟨r3,r9⟩:=aa.z2 3 9;replace r4:=aa.B 4;replace r6:=aa.O 6;refine wp_cond_split e63 (fun hc4=> ?_) (fun hc4=> ?_)
   · have hd4:=hc4;try simp only [ao,aM,ax,aw,ah,ai,bd] at hd4
     refine wp_seq ?_;have hbd:oy cs j=true:=by assumption
     unfold oy at hbd;simp only [ao,ah] at hbd;have hbl:=hbd.1.2;refine wW ab [jb r0,jb r1,jb r2,jz 3 r3,jb r4,jo r6,jz 9 r9] ⟨aq e0,co 0 r0.ptr,bW aU ay 1 r0.ptr,eG aD 2 0 1,am fun c=>cZ rfl (c.q 3) rfl (by omega),co 0 r0.ptr,bW aU ay 5 r0.ptr,bX (cx:=[cv.v,(aj ((((bl cs j).2.2.2:Nat):Int)+1))]) ay fun c=>⟨c.bp 0 rfl e0,c.ad (c.q 6) e0 rfl,(c.q 4)⟩,av⟩ fun ac ag ae ab aa=> ?_;obtain ⟨e0,e2,e4,e5,e6,e7,e8,e9,e15,e23,e27,e63⟩:=aa.k12 e0 e2 e4 e5 e6 e7 e8 e9 e15 e23 e27 e63;replace r0:=aa.RB 7 e0;replace r1:=aa.B 1;replace r2:=aa.B 2;obtain ⟨r3,r9⟩:=aa.z2 3 9;replace r4:=aa.B 4;replace r6:=aa.O 6;replace r0:cj 73 [cv.v,aj (((bl cs j).2.2.2+1:Nat):Int)] (ae 0) v ag:=by rw [show (((bl cs j).2.2.2+1:Nat):Int)=(((bl cs j).2.2.2:Nat):Int)+1 from by omega];exact r0
     refine wp_seq ?_;have his2:=lB hL ((bl cs j).2.2.2+1);refine bz ?_;refine cO 2 (by kernel_rfl) ?_;refine og [_,mu 73 _ 0 73 v (fun b:Sv=> [cv.v,aj (((bl cs ((bl cs j).2.2.2+1)).2.2.2:Nat):Int)]) (fun b:Sv=> .tuple #[b.v,aR (bl cs ((bl cs j).2.2.2+1)).2.1,aB (bl cs ((bl cs j).2.2.2+1)).2.2.1]) (fun _=>True) (fun b:Sv=>eY gC (Gn aV w) b.v (bl cs ((bl cs j).2.2.2+1)).1)] [0,1] ab [jb r0,jb r1,jb r2,jz 3 r3,jb r4,jo r6,jz 9 r9] ⟨aq e0,kR (cells:=fun b:Sv=> [cv.v,aj (((bl cs ((bl cs j).2.2.2+1)).2.2.2:Nat):Int)]) (f:=fun b:Sv=> .tuple #[b.v,aR (bl cs ((bl cs j).2.2.2+1)).2.1,aB (bl cs ((bl cs j).2.2.2+1)).2.2.1]) (Ψ:=fun _=>True) (Φ:=fun b:Sv=>eY gC (Gn aV w) b.v (bl cs ((bl cs j).2.2.2+1)).1) fun {_ a_ _ _} c=>⟨_,_,(bw rfl rfl Try.call88 (c.q 0)),(yB v cv cs ((bl cs j).2.2.2+1) _ (jm (c.B 0) (c.iz 9 rfl) (fun g_ h_ hz_=>hz_.2 _ h_)) hL (by omega)).mono (fun e w' ⟨b_,he_,hx_,hb_,hs_⟩=>⟨b_,he_,(c.ib 0 rfl).ext hx_,hb_.back (c.ib 0 rfl),av,c.sns ab hx_.size hs_⟩)⟩,av⟩ fun ac ag ae ab aa=> ?_;obtain ⟨e0,e2,e4,e5,e6,e7,e8,e9,e15,e23,e27,e63⟩:=aa.k12 e0 e2 e4 e5 e6 e7 e8 e9 e15 e23 e27 e63;obtain ⟨rw2_,e73,hro15,-,hz15⟩:=aa.zb 1 rfl;have e73:aS ac 73=(.tuple #[rw2_.v,(aR ((bl cs ((bl cs j).2.2.2+1)).2.1)),(aB ((bl cs ((bl cs j).2.2.2+1)).2.2.1))]):=e73;replace r0:=hro15;replace r1:=aa.B 1;replace r2:=aa.B 2;obtain ⟨r3,r9⟩:=aa.z2 3 9;replace r4:=aa.B 4;replace r6:=aa.O 6;have r5:=hz15;refine cP ?_;refine og [_,_,_,_,_,_,_] [0,1,3,7,15,31,63] ab [jb r0,jb r1,jb r2,jz 3 r3,jb r4,jz 5 r5,jo r6,jz 9 r9] ⟨aq e73,df 0,df 0,df 0,aK 1,aK 2,aK 3,av⟩ fun ac ag ae ab aa=> ?_;obtain ⟨e0,e2,e4,e5,e9,e15,e23,e27,e63⟩:=aa.k9 e0 e2 e4 e5 e9 e15 e23 e27 e63;have e6:=aa.V 4;have e7:=aa.V 5;have e8:=aa.V 6;replace r0:=aa.B 0;replace r1:=aa.B 1;replace r2:=aa.B 2;obtain ⟨r3,r5,r9⟩:=aa.z3 3 5 9;replace r4:=aa.B 4;replace r6:=aa.O 6;refine wp_seq ?_;refine wp_seq (rg [_,_,_,_,_,_,_,_,_,_,_,_,_] [0,1,3,7,15,31,63,127,255,255,767,2047,4095] ab [jb r0,jb r1,jb r2,jb r4,jz 5 r5,jo r6,jz 9 r9] ⟨aq e8,am fun c=>dC rfl (c.q 0),bk 1,bJ 2 rfl fun c hpc=>aN rfl (c.p e6),bJ 2 rfl fun c hpc=>cU rfl bh (c.M 3 hpc) (r5).1.sl,bJ 2 rfl fun c hpc=>jh rfl (c.M 4 hpc) rfl,dM 2 5,bk 6,bJ 7 rfl fun c hpc=>aN rfl (c.p e7),bJ 7 rfl fun c hpc=>cN rfl bP bq ((c.p e9).trans r4.ptr),bJ 7 rfl fun c hpc=>az rfl bQ (c.M 9 hpc) ((c.B 4).cell (j:=0) rfl),bJ 7 rfl fun c hpc=>tS rfl (c.M 8 hpc) (c.M 10 hpc),dM 7 11,av⟩ fun ac ag ae ab aa=> ?_);obtain ⟨e0,e2,e4,e5,e6,e7,e8,e9,e15,e23,e27,e63⟩:=aa.k12 e0 e2 e4 e5 e6 e7 e8 e9 e15 e23 e27 e63;have e89:=aa.V 12;replace r0:=aa.B 0;replace r1:=aa.B 1;replace r2:=aa.B 2;replace r4:=aa.B 4;obtain ⟨r5,r9⟩:=aa.z2 5 9;replace r6:=aa.O 6;refine wp_cond_split e89 (fun hc5=> ?_) (fun hc5=> ?_)
     · have hd5:=hc5;try simp only [ba,aH,ax,aw,ah,ai,bd] at hd5
       refine wp_seq (eN ab [jb r0,jb r1,jb r2,jb r4,jz 5 r5,jo r6,jz 9 r9] ⟨am fun c=>eO (cells:=#[(aj 0),(aR (⟨#[]⟩:ByteArray)),(aB false),(.slice none 0 0),(aj 0),(aj 0),(aB false),(.slice none 0 0)]) rfl aG nf,bX (cx:=[(aj 0),(aR (⟨#[]⟩:ByteArray)),(aB false),(.slice none 0 0),(aj 0),(aj 0),(aB false),(.slice none 0 0)]) (off:=0) ak fun c=>⟨c.bp 1 rfl e2,c.ad ((c.p e2).trans r1.ptr) e2 rfl,(c.q 0)⟩,am fun c=>au rfl rfl,av⟩ fun ac ag ae ab aa=> ?_);obtain ⟨e0,e2,e4,e5,e6,e7,e8,e9,e15,e23,e27,e63,e89⟩:=aa.k13 e0 e2 e4 e5 e6 e7 e8 e9 e15 e23 e27 e63 e89;have e3:=aa.V 2;replace r0:=aa.B 0;replace r1:=aa.RB 1 e2;replace r2:=aa.B 2;replace r4:=aa.B 4;obtain ⟨r5,r9⟩:=aa.z2 5 9;replace r6:=aa.O 6;refine wp_ret ?_;refine rp ?_;refine dU (fn:=Try.f76) rfl ab.defers e2 e3 r1 aE ak rfl ?_;have he_:ja cs i=((cB 0 (⟨#[]⟩:ByteArray) false 0 0 false),10,(bl cs ((bl cs j).2.2.2+1)).2.2.2):=by unfold ja;rw [q4];first | exact vI (by assumption) (by assumption) | exact vJ (by assumption) (by assumption) (by omega) (by assumption) (by assumption)
       rw [he_];exact ⟨(cB 0 (⟨#[]⟩:ByteArray) false 0 0 false),rfl,ab.extIn,r0.foot,(ey _ _ _ _ _ _ _ _),rfl⟩
     have hd5:=hc5;try simp only [ba,aH,ax,aw,ah,ai,bd] at hd5
     refine wp_skip ?_;have hb2:wJ cs j=false:=by assumption
     unfold wJ at hb2;simp only [aH,aw] at hb2;have hio2:=his2.2.2.2.2 hb2.1.1;refine eN ab [jb r0,jb r1,jb r2,jb r4,jz 5 r5,jo r6,jz 9 r9] ⟨aq e7,cg bP bq e9 r4.ptr,bX (cx:=[(aR ((bl cs j).2.1)),(aR ((bl cs ((bl cs j).2.2.2+1)).2.1))]) bq fun c=>⟨c.bp 4 rfl e9,c.ad (c.q 1) e9 rfl,(c.q 0)⟩,av⟩ fun ac ag ae ab aa=> ?_;obtain ⟨e0,e2,e4,e5,e6,e7,e8,e9,e15,e23,e27,e63,e89⟩:=aa.k13 e0 e2 e4 e5 e6 e7 e8 e9 e15 e23 e27 e63 e89;replace r0:=aa.B 0;replace r1:=aa.B 1;replace r2:=aa.B 2;replace r4:=aa.RB 2 e9;obtain ⟨r5,r9⟩:=aa.z2 5 9;replace r6:=aa.O 6;refine rg [_,_,own gC 47 _ 3 95 ([((bl cs j).2.1,(bl cs ((bl cs j).2.2.2+1)).2.1)]),own _ _ _ 6 96 _,own _ _ _ 6 5 _] [0,0,2,7,15] ab [jb r0,jb r1,jb r2,jb r4,jz 5 r5,jo r6,jz 9 r9] ⟨aq e5,am fun c=>eB rfl gT bR ((c.p e9).trans r4.ptr) (c.B 4),cJ (cells:=#[(aR ((bl cs j).2.1)),(aR ((bl cs ((bl cs j).2.2.2+1)).2.1))]) rfl rfl rfl rfl bh bR cI rfl (by decide) (by decide) (fun _ _ _ _ c=>fF (c.n 1 rfl) (by kernel_rfl)) rfl,dS (t0:=5) rfl rfl rfl rfl bh (i:=Try.t47) rfl rfl rfl rfl (by simp only [maxLen];(try simp);omega) (by show _ * 32≤_;(try simp);omega) (fun _ _ _ _ c=>⟨c.ip 6 rfl e5,c.sm (c.n 0 rfl) e5,⟨_,rfl,(c.ro 2 rfl).1.sl⟩⟩),de (t0:=96) rfl rfl rfl rfl rfl (.inr rfl) (fun _ _ _ _ c=>⟨c.ro 3 rfl,rfl⟩),av⟩ fun ac ag ae ab aa=> ?_;obtain ⟨b20x95,e95⟩:=gx ac 95;obtain ⟨b20x5,e5⟩:=gx ac 5;obtain ⟨e0,e2,e4,e6,e7,e8,e9,e15,e23,e27,e63,e89⟩:=aa.k12 e0 e2 e4 e6 e7 e8 e9 e15 e23 e27 e63 e89;replace r0:=aa.B 0;replace r1:=aa.B 1;replace r2:=aa.B 2;have r3:=aa.ro 2 e95 rfl;replace r4:=aa.B 4;obtain ⟨r5,r9⟩:=aa.z2 5 9;replace r6:=aa.ro 4 e5 rfl;show _;have hnx:hD cs (dX cs i (⟨#[94]⟩:ByteArray)) (f+1) j rows=hD cs (dX cs i (⟨#[94]⟩:ByteArray)) f ((bl cs ((bl cs j).2.2.2+1)).2.2.2) (rows++ [((bl cs j).2.1,(bl cs ((bl cs j).2.2.2+1)).2.1)]):=by first | exact rW (by assumption) (by assumption) (by omega) | exact qf (by assumption) (by assumption) (by omega) (by assumption) (by assumption) | exact qg (by assumption) (by assumption) (by omega) (by assumption)
     refine ⟨⟨(bl cs ((bl cs j).2.2.2+1)).2.2.2,f - 1,b20x5,rows++ [((bl cs j).2.1,(bl cs ((bl cs j).2.2.2+1)).2.1)],ae,?_,?_,?_,?_,?_,ab,e5,e0,e2,e4,r0,?_,r1,r2,r9⟩,?_⟩
     · first | exact q0.app his.1 | exact q0.app (iu.one his.2.1 his2.2.1) | exact q0.app (iu.one his.2.1 his.2.1)
     · (try simp only [bK,bi,bG]);omega
     · omega
     · omega
     · obtain ⟨f,rfl⟩:∃f_,f=f_+1:=⟨f - 1,by omega⟩;rw [q4,hnx];rfl
     · exact r6.cast (by rfl)
     · rw [hm0,ky r0];omega
   have hd5:=hc4;try simp only [ao,aM,ax,aw,ah,ai,bd] at hd5
   refine wp_skip ?_;refine rg [_,_,own gC 47 _ 5 95 ([((bl cs j).2.1,(bl cs j).2.1)]),own _ _ _ 6 96 _,own _ _ _ 6 5 _] [0,0,2,7,15] ab [jb r0,jb r1,jb r2,jz 3 r3,jb r4,jo r6,jz 9 r9] ⟨aq e5,am fun c=>eB rfl gT bR ((c.p e9).trans r4.ptr) (c.B 4),cJ (cells:=#[(aR ((bl cs j).2.1)),(aR ((bl cs j).2.1))]) rfl rfl rfl rfl bh bR cI rfl (by decide) (by decide) (fun _ _ _ _ c=>fF (c.n 1 rfl) (by kernel_rfl)) rfl,dS (t0:=5) rfl rfl rfl rfl bh (i:=Try.t47) rfl rfl rfl rfl (by simp only [maxLen];(try simp);omega) (by show _ * 32≤_;(try simp);omega) (fun _ _ _ _ c=>⟨c.ip 6 rfl e5,c.sm (c.n 0 rfl) e5,⟨_,rfl,(c.ro 2 rfl).1.sl⟩⟩),de (t0:=96) rfl rfl rfl rfl rfl (.inr rfl) (fun _ _ _ _ c=>⟨c.ro 3 rfl,rfl⟩),av⟩ fun ac ag ae ab aa=> ?_;obtain ⟨b21x95,e95⟩:=gx ac 95;obtain ⟨b21x5,e5⟩:=gx ac 5;obtain ⟨e0,e2,e4,e6,e7,e8,e9,e15,e23,e27,e63⟩:=aa.k11 e0 e2 e4 e6 e7 e8 e9 e15 e23 e27 e63;replace r0:=aa.B 0;replace r1:=aa.B 1;replace r2:=aa.B 2;replace r3:=aa.z1 3;replace r4:=aa.B 4;have r5:=aa.ro 2 e95 rfl;replace r6:=aa.ro 4 e5 rfl;replace r9:=aa.z1 9;show _;have hnx:hD cs (dX cs i (⟨#[94]⟩:ByteArray)) (f+1) j rows=hD cs (dX cs i (⟨#[94]⟩:ByteArray)) f ((bl cs j).2.2.2) (rows++ [((bl cs j).2.1,(bl cs j).2.1)]):=by first | exact rW (by assumption) (by assumption) (by omega) | exact qf (by assumption) (by assumption) (by omega) (by assumption) (by assumption) | exact qg (by assumption) (by assumption) (by omega) (by assumption)
   refine ⟨⟨(bl cs j).2.2.2,f - 1,b21x5,rows++ [((bl cs j).2.1,(bl cs j).2.1)],ae,?_,?_,?_,?_,?_,ab,e5,e0,e2,e4,r0,?_,r1,r2,r9⟩,?_⟩
   · first | exact q0.app his.1 | exact q0.app (iu.one his.2.1 his2.2.1) | exact q0.app (iu.one his.2.1 his.2.1)
   · (try simp only [bK,bi,bG]);omega
   · omega
   · omega
   · obtain ⟨f,rfl⟩:∃f_,f=f_+1:=⟨f - 1,by omega⟩;rw [q4,hnx];rfl
   · exact r6.cast (by rfl)
   · rw [hm0,ky r0];omega
 try simp only [ax,aw] at hc1
 have htk5:dX cs j (⟨#[93]⟩:ByteArray)=true:=by simpa using hc1
 have htl5:=fx htk5;rw [ia htk5] at r0;refine wp_exit ?_;repeat (with_reducible refine ct ?_)
 refine cw ?_;refine wp_seq ?_;refine bz ?_;refine cO 2 (by kernel_rfl) ?_;refine og [_,kF _ 98 (fun b:Sv=>b.v) (fun _=>True) (fun b:Sv=>eY gC (Gn aV w) b.v (fl rows))] [0,1] ab [jb r0,jb r1,jb r2,jo r6,jz 9 r9] ⟨aq e5,iP (f:=fun b:Sv=>b.v) (Ψ:=fun _=>True) (Φ:=fun b:Sv=>eY gC (Gn aV w) b.v (fl rows)) fun {_ a_ _ _} c=>⟨_,_,(bw rfl rfl Try.call89 (c.q 0)),(uz u rows _ (c.io 6 rfl).1.sl (by first | assumption | (unfold pF;decide)) (by omega)).mono (fun e w' ⟨v_,he_,hx_,hn_⟩=>by obtain ⟨s_,rfl⟩:=hn_.1.sl.sl.sv;exact ⟨s_,he_,hx_,av,c.sn ab hx_ hn_⟩)⟩,av⟩ fun ac ag ae ab aa=> ?_;obtain ⟨e0,e2,e4⟩:=aa.k3 e0 e2 e4;obtain ⟨rw3_,e98,-,hz22⟩:=aa.zd 1 rfl;have e98:aS ac 98=rw3_.v:=e98;replace r0:=aa.B 0;replace r1:=aa.B 1;replace r2:=aa.B 2;replace r9:=aa.z1 9;have r3:=hz22;refine cP ?_;refine og [_,_] [0,1] ab [jb r0,jb r1,jb r2,jz 3 r3,jz 9 r9] ⟨cg aA eW e4 r2.ptr,bX (cx:=[(aj 4),(aR (⟨#[]⟩:ByteArray)),(aB (dX cs i (⟨#[94]⟩:ByteArray))),rw3_.v,(aj 0),(aj 0),(aB false),(.slice none 0 0)]) eW fun c=>⟨c.bp 2 rfl e4,c.ad (c.q 0) e4 rfl,(c.p e98)⟩,av⟩ fun ac ag ae ab aa=> ?_;obtain ⟨e0,e2,e4⟩:=aa.k3 e0 e2 e4;replace r0:=aa.B 0;replace r1:=aa.B 1;replace r2:=aa.RB 1 e4;obtain ⟨r3,r9⟩:=aa.z2 3 9;refine wp_seq (eN ab [jb r0,jb r1,jb r2,jz 3 r3,jz 9 r9] ⟨am fun c=>eB rfl aE ak ((c.p e4).trans r2.ptr) (c.B 2),bX (cx:=[(aj 4),(aR (⟨#[]⟩:ByteArray)),(aB (dX cs i (⟨#[94]⟩:ByteArray))),rw3_.v,(aj 0),(aj 0),(aB false),(.slice none 0 0)]) (off:=0) ak fun c=>⟨c.bp 1 rfl e2,c.ad ((c.p e2).trans r1.ptr) e2 rfl,(c.q 0)⟩,am fun c=>au rfl rfl,av⟩ fun ac ag ae ab aa=> ?_);obtain ⟨e0,e2⟩:=aa.k2 e0 e2;have e3:=aa.V 2;replace r0:=aa.B 0;replace r1:=aa.RB 1 e2;obtain ⟨r3,r9⟩:=aa.z2 3 9;refine wp_ret ?_;refine rp ?_;refine dU (fn:=Try.f76) rfl ab.defers e2 e3 r1 aE ak rfl ?_;have he_:ja cs i=((ly (dX cs i (⟨#[94]⟩:ByteArray)) Sv.nil (fl rows)),0,j+1):=by unfold ja;rw [q4,yC (by assumption)]
 rw [he_];exact ⟨(ly (dX cs i (⟨#[94]⟩:ByteArray)) rw3_ (fl rows)),rfl,ab.extIn,r0.foot,(Fz.out (CQ r3)),yi _ _ _⟩
end
end B
end Go.Proofs.Ytcfdebjhikahfaa
