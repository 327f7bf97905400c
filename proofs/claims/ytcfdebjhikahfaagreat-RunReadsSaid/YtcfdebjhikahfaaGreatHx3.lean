import Derived.Test.YtcfdebjhikahfaaGreatHx2
set_option linter.unusedSimpArgs false
set_option linter.unusedVariables false
set_option linter.unusedSectionVars false
namespace Go.Proofs.YtcfdebjhikahfaaGreat
namespace B
section
open Go.RowKit
abbrev aU:=@Bool.not_eq_false
abbrev kM:=@Int.le_trans
abbrev kZ:=@Int.lt_of_lt_of_le
abbrev mz:=@Tryz.call129
abbrev my:=@Tryz.call131
abbrev fR:=@Tryz.call58
abbrev ge:=@Tryz.call85
abbrev iO:=@Tryz.isAgg5
abbrev cb:=@Tryz.isAgg60
abbrev eA:=@Tryz.sizeOf5
abbrev ci:=@Tryz.underlying105
abbrev fy:=@Tryz.underlying5
end
section
open Go.RowKit
open Srt
def im (l:List (Int→Int→Int × Bool)) (n d:Int):Int × Bool:=match l with
  | [] => (n, true)
  | g :: l => if (g n d).2 = true then im l (g n d).1 d else ((g n d).1, false)
def dg (t:Tr) (d:Int):Int:=if oG t=true then d - 1 else d
def cY:Tr→Int→Int→Int × Bool:=lE fun t l n d=>if ((decide (n < 1) || decide (dg t d < 0)) || !cB t)=true then (n,false) else im l (n - 1) (dg t d)
theorem nG (t:Tr) (n d:Int):cY t n d=if ((decide (n < 1) || decide (dg t d < 0)) || !cB t)=true then (n,false) else im (t.kids.map cY) (n - 1) (dg t d):=
  congrFun (congrFun (iS (fun t l n d=>if ((decide (n < 1) || decide (dg t d < 0)) || !cB t)=true then (n,false) else im l (n - 1) (dg t d)) t) n) d
theorem nH (t:Tr):∀{n d:Int},0≤n→0≤(cY t n d).1∧(cY t n d).1≤n:=by
  induction t using Tr.ind with
  | h t ih =>
    intro n d hn;have hK:∀ks:List Tr,(∀k ∈ ks,k ∈ t.kids)→∀m d,0≤m→0≤(im (ks.map cY) m d).1∧(im (ks.map cY) m d).1≤m:=by
      intro ks;induction ks with
      | nil => intro _ m d h; exact ⟨h, fi _⟩
      | cons k ks ih2 =>
        intro hm m d h;have h1:=ih k (hm k (by simp)) (n:=m) (d:=d) h;rw [bu,im];split
        · have:=ih2 (fun x hx=>hm x (by simp [hx])) _ d h1.1;omega
        · exact h1
    rw [nG];split
    · exact ⟨hn,fi _⟩
    · rename_i hc;simp only [aO,ai,not_or] at hc;have:=hK t.kids (fun _ h=>h) (n - 1) (dg t d) (by omega);omega
theorem xC {t:Tr} {n d:Int} (h:((decide (n < 1) || decide (dg t d < 0)) || !cB t)=true):cY t n d=(n,false):=by rw [nG,if_pos h]
theorem vd {t:Tr} {n d m:Int} {k:Nat} (h:((decide (n < 1) || decide (dg t d < 0)) || !cB t)=false) (hq:im (t.kids.map cY) (n - 1) (dg t d)=im ((t.kids.drop k).map cY) m (dg t d)) (hk:k < t.kids.length) (hb:(cY (nth t.kids (k:Int)) m (dg t d)).2=false):cY t n d=((cY (nth t.kids (k:Int)) m (dg t d)).1,false):=by
  rw [nG,if_neg (by rw [h];decide),hq,ke hk,bu,im,if_neg (by rw [hb];decide)]
theorem ve {t:Tr} {n d m:Int} {k:Nat} (h:((decide (n < 1) || decide (dg t d < 0)) || !cB t)=false) (hq:im (t.kids.map cY) (n - 1) (dg t d)=im ((t.kids.drop k).map cY) m (dg t d)) (hk:t.kids.length≤k):cY t n d=(m,true):=by
  rw [nG,if_neg (by rw [h];decide),hq,ez hk];rfl
theorem sO {t:Tr} {n d m:Int} {k:Nat} (hq:im (t.kids.map cY) (n - 1) (dg t d)=im ((t.kids.drop k).map cY) m (dg t d)) (hk:k < t.kids.length) (hb:(cY (nth t.kids (k:Int)) m (dg t d)).2=true):im (t.kids.map cY) (n - 1) (dg t d)=im ((t.kids.drop (k+1)).map cY) (cY (nth t.kids (k:Int)) m (dg t d)).1 (dg t d):=by
  rw [hq,ke hk,bu,im,if_pos hb]
set_option maxRecDepth 100000 in
theorem yH (t:Tr) (ih:∀k ∈ t.kids,∀(n d:Int) (w:World),mb w k→fD k≤1000000→0≤n∧n≤1000→0≤d∧d≤1000→Calls Tryz.prog 52 #[k.v,aj n,aj d] w (fun e w'=>e= .returned (.tuple #[aj (cY k n d).1,az (cY k n d).2])∧Ext aY w w')) (n d:Int) (w:World) (hT:mb w t) (hP:fD t≤1000000) (hn:0≤n∧n≤1000) (hd:0≤d∧d≤1000):Calls Tryz.prog 52 #[t.v,aj n,aj d] w (fun e w'=>e= .returned (.tuple #[aj (cY t n d).1,az (cY t n d).2])∧Ext aY w w'):=by
 refine enter (n:=49) Tryz.func52 rfl rfl (av rfl) ?_;intro a0 τ0 ha st0;have e0:aT a0 0=(ta t):=ha 0 _ rfl;have e1:aT a0 1=(aj n):=ha 1 _ rfl;have e2:aT a0 2=(aj d):=ha 2 _ rfl;clear ha;have hle:=hT.kids.le;have hwt:=ef t;have hpk:∀k:Nat,k < t.kids.length→fD (nth t.kids (k:Int))≤1000000:=fun k h_=>by have h1_:=mQ (cP (xs:=t.kids) (i:=(k:Int)) (by omega) (by omega));omega
 refine wp_seq (rg [box _ _ 0 3 (tc t),_,_] [0,0,2] st0 [] ⟨fl (v:=(ta t)) rfl rfl rfl rfl rfl (fun _ _ _ _ c=>(c.p e0)),am fun c=>ar rfl rfl,am fun c=>ar rfl rfl,ax⟩ fun ac ag ae ab aa=> ?_);obtain ⟨b1x3,e3⟩:=gx ac 3;obtain ⟨e1,e2⟩:=aa.k2 e1 e2;have e6:=aa.V 1;have e7:=aa.V 2;have r0:=aa.rb 0 e3 rfl;refine wp_seq ?_;refine wp_seq (eJ ab [jb r0] ⟨cc aq au e3 r0.ptr,dJ aC 0 0 0,dQ fun c=>⟨_,_,(bj rfl rfl Tryz.call56 (c.q 1)),CJ t.k _⟩,ax⟩ fun ac ag ae ab aa=> ?_);obtain ⟨e1,e2,e3,e6,e7⟩:=aa.k5 e1 e2 e3 e6 e7;have e13:=aa.V 2;replace r0:=aa.B 0;refine wp_cond_split e13 (fun hc1=> ?_) (fun hc1=> ?_)
 · have hd1:=hc1;try simp only [aO,ai] at hd1
   refine eJ ab [jb r0] ⟨ao e2,am fun c=>jj rfl (c.q 0) rfl (by omega),aF 1,ax⟩ fun ac ag ae ab aa=> ?_;obtain ⟨e1,e3,e6,e7⟩:=aa.k4 e1 e3 e6 e7;have e2:=aa.V 2;replace r0:=aa.B 0;refine wp_seq ?_;refine wp_seq ?_;have hdp:d - 1=dg t d:=by unfold dg oG;first | (rw [if_pos (by simpa using (by assumption))]) | (rw [if_neg (by simpa using (by assumption))])
   replace e2:aT ac 2=aj (dg t d):=e2.trans (bk hdp);have hdr:dg t d≤1000∧ -1≤dg t d:=by unfold dg;split <;> omega
   refine pD [0,1,3,7,15,31,63,127,255,511,1023] ab [jb r0] ⟨ao e1,am fun c=>dj rfl (c.q 0) rfl,bm 1,bA 2 rfl fun c hpc=>aI rfl (c.p e2),bA 2 rfl fun c hpc=>dj rfl (c.M 3 hpc) rfl,dF 2 4,bm 5,bA 6 rfl fun c hpc=>ea rfl aD ak ((c.p e3).trans r0.ptr) (c.B 0),fq 6 false rfl fun c hpc=>⟨_,_,(bj rfl rfl Tryz.call77 (c.M 7 hpc)),vc t _ (hT.at (ab.ext.trans c.J.ext)) (by have hq0:=hpc;(try simp only [aG,ah,aX] at hq0);omega)⟩,bA 6 rfl fun c hpc=>dS rfl (c.M 8 hpc),dF 6 9,ax⟩ fun ac ag ae ab aa=> ?_;obtain ⟨e1,e2,e3,e6,e7⟩:=aa.k5 e1 e2 e3 e6 e7;have e26:=aa.V 10;replace r0:=aa.B 0;refine wp_cond_split e26 (fun hc2=> ?_) (fun hc2=> ?_)
   · have hd2:=hc2;try simp only [aO,aG,aB,ay,ai,ah,aX] at hd2
     refine wp_seq ?_;have hcd:=hc2;refine eJ ab [jb r0] ⟨ao e1,aF 0,am fun c=>ar rfl rfl,ax⟩ fun ac ag ae ab aa=> ?_;obtain ⟨e1,e2,e3⟩:=aa.k3 e1 e2 e3;have e6:=aa.V 1;have e7:=aa.V 2;replace r0:=aa.B 0;refine wp_ret ?_;refine rp ?_;refine jt (fn:=Tryz.f52) rfl ab.defers e6 e7 ?_;exact ⟨congrArg _ (show (Value.tuple #[(aj n),(az false)])=(.tuple #[aj (cY t n d).1,az (cY t n d).2]) from by rw [xC hcd]),ab.ext0⟩
   have hd2:=hc2;try simp only [aO,aG,aB,ay,ai,ah,aX] at hd2
   refine wp_skip ?_;refine wp_seq ?_;have hcd:((decide (n < 1) || decide (dg t d < 0)) || !cB t)=false:=by assumption
   have hce:=hcd;simp only [aG,ah,aX] at hce;refine eJ ab [jb r0] ⟨ao e1,am fun c=>jj rfl (c.q 0) rfl (by omega),aF 1,ax⟩ fun ac ag ae ab aa=> ?_;obtain ⟨e2,e3,e6,e7⟩:=aa.k4 e2 e3 e6 e7;have e1:=aa.V 2;replace r0:=aa.B 0;refine wp_seq ?_;refine wp_seq (lu [0,1,3,0] ab [jb r0] ⟨cc aq bC e3 r0.ptr,dJ bV 0 0 7,am fun c=>de rfl aJ (c.q 1) (hT.at ab.ext).tl.sl.sl,am fun c=>aI rfl rfl,ax⟩ fun ac ag ae ab aa=> ?_);obtain ⟨e1,e2,e6,e7⟩:=aa.k4 e1 e2 e6 e7;have e31:=aa.V 1;have e32:=aa.V 2;have e33:=aa.V 3;refine wp_block ?_;refine wp_loop (fun a_ w_=>∃(k:Nat) (m:Int) (τ:Nat→aP),(k≤t.kids.length)∧
          (0≤m∧m≤1000)∧
          (im (t.kids.map cY) (n - 1) (dg t d)=im ((t.kids.drop k).map cY) m (dg t d))∧
          St (Nw w) w 49 a_ w_ τ∧
          aT a_ 1=(aj m)∧
          aT a_ 33=(aj (k:Int))∧
          aT a_ 2=(aj (dg t d))∧
          aT a_ 31=t.kv.v∧
          aT a_ 32=(aj (t.kids.length:Int))) (fun a_ _=>t.kids.length - (intOf (aT a_ 33)).toNat) ?_ ?_
   · refine ⟨0,n - 1,ae,?_,?_,?_,ab,(e1.trans (bk (by omega))),(e33.trans (bk (by omega))),e2,e31,e32⟩
     · omega
     · omega
     · rfl
   intro a8 w8 hI;obtain ⟨k,m,τ8,q0,q1,q2,st8,e1,e33,e2,e31,e32⟩:=hI;have hpk0:=hpk k;have m33:=e33;refine wp_seq (ex st8 [] ⟨am fun c=>dj rfl (c.p e33) (c.p e32),ax⟩ fun ac ag ae ab aa=> ?_);obtain ⟨e1,e2,e31,e32,e33⟩:=aa.k5 e1 e2 e31 e32 e33;have e34:=aa.V 0;refine wp_seq ?_;refine wp_cond_split e34 (fun hc3=> ?_) (fun hc3=> ?_)
   · try simp only [ai] at hc3
     refine wp_skip ?_;refine wp_seq ?_;refine wp_block ?_;refine wp_seq (rg [_,_,box _ _ 0 9 [(aj 0),(aR (⟨#[]⟩:ByteArray)),(az false),(.slice none 0 0),(aj 0),(aj 0),(az false),(.slice none 0 0)],_] [0,1,0,7] ab [] ⟨am fun c=>aM rfl aJ ak (c.p e31) (hT.at ab.ext).tl.sl.sl (c.p e33) (by omega) (by omega),am fun c=>cT (vs:=(tc (nth t.kids (k:Int)))) rfl aD ak (c.q 0) rfl (fun _ _ hj=>((hT.at (ab.ext.trans c.J.ext)).tl.sl).elem (bz (i:=(k:Int)) (by omega) (by omega)) hj),ct rfl rfl rfl rfl aN rfl,fU (cx:=(tc (nth t.kids (k:Int)))) (off:=0) rfl ak fun c=>⟨c.rb 2 rfl,(c.rb 2 rfl).ptr,(c.q 1)⟩,ax⟩ fun ac ag ae ab aa=> ?_);obtain ⟨b10x9,e9⟩:=gx ac 9;obtain ⟨e1,e2,e31,e32,e33,e34⟩:=aa.k6 e1 e2 e31 e32 e33 e34;have r0:=aa.rb 3 e9 rfl;refine wp_seq (ex ab [jb r0] ⟨am fun c=>ar rfl rfl,ax⟩ fun ac ag ae ab aa=> ?_);obtain ⟨e1,e2,e9,e31,e32,e33,e34⟩:=aa.k7 e1 e2 e9 e31 e32 e33 e34;have e10:=aa.V 0;replace r0:=aa.B 0;refine wp_seq (qU [0,0,0,7,15,31,31,63,255] ab [jb r0] ⟨am fun c=>ea rfl aD ak ((c.p e9).trans r0.ptr) (c.B 0),ao e1,ao e2,dQ fun c=>⟨_,_,(gv rfl rfl Tryz.call52 (c.q 0) (c.q 1) (c.q 2)),ih _ (cP (by omega) (by omega)) m (dg t d) _ ((hT.at (ab.ext.trans c.J.ext)).tl.el (by omega) (by omega)) (by omega) (by omega) (by omega)⟩,bm 3,cD 4,cD 4,aF 5,aF 6,ax⟩ fun ac ag ae ab aa=> ?_);obtain ⟨e2,e9,e31,e32,e33,e34⟩:=aa.k6 e2 e9 e31 e32 e33 e34;have e1:=aa.V 7;have e10:=aa.V 8;replace r0:=aa.B 0;refine wp_seq (ew ab [jb r0] ⟨ao e10,am fun c=>dS rfl (c.q 0),ax⟩ fun ac ag ae ab aa=> ?_);obtain ⟨e1,e2,e9,e10,e31,e32,e33,e34⟩:=aa.k8 e1 e2 e9 e10 e31 e32 e33 e34;have e45:=aa.V 1;replace r0:=aa.B 0;refine wp_cond_split e45 (fun hc4=> ?_) (fun hc4=> ?_)
     · have hd4:=hc4;try simp only [aB,ay] at hd4
       refine wp_seq ?_;have hbad:(cY (nth t.kids (k:Int)) m (dg t d)).2=false:=by simpa using (by assumption:(!(cY (nth t.kids (k:Int)) m (dg t d)).2)=true)
       refine eJ ab [jb r0] ⟨ao e1,aF 0,am fun c=>ar rfl rfl,ax⟩ fun ac ag ae ab aa=> ?_;obtain ⟨e1,e2,e9,e10,e31,e32,e33,e34,e45⟩:=aa.k9 e1 e2 e9 e10 e31 e32 e33 e34 e45;have e6:=aa.V 1;have e7:=aa.V 2;replace r0:=aa.B 0;refine wp_ret ?_;refine rp ?_;refine jt (fn:=Tryz.f52) rfl ab.defers e6 e7 ?_;exact ⟨congrArg _ (show (Value.tuple #[(aj ((cY (nth t.kids (k:Int)) m (dg t d)).1)),(az false)])=(.tuple #[aj (cY t n d).1,az (cY t n d).2]) from by rw [vd hcd q2 (by omega) hbad]),ab.ext0⟩
     have hd4:=hc4;try simp only [aB,ay] at hd4
     refine wp_skip ?_;show _;have hgood:(cY (nth t.kids (k:Int)) m (dg t d)).2=true:=by simpa using (by assumption:(!(cY (nth t.kids (k:Int)) m (dg t d)).2)=false)
     have hrg:=nH (nth t.kids (k:Int)) (n:=m) (d:=dg t d) (by omega);refine ew ab [jb r0] ⟨am fun c=>cV rfl (c.p e33) rfl (by omega),bm 0,ax⟩ fun ac ag ae ab aa=> ?_;obtain ⟨e1,e2,e9,e10,e31,e32,e34,e45⟩:=aa.k8 e1 e2 e9 e10 e31 e32 e34 e45;have e33:=aa.V 1;replace r0:=aa.B 0;refine ⟨⟨k+1,(cY (nth t.kids (k:Int)) m (dg t d)).1,ae,?_,?_,?_,ab,(e1.trans (bk (by omega))),(e33.trans (bk (by omega))),e2,e31,e32⟩,?_⟩
     · omega
     · omega
     · exact sO q2 (by omega) hgood
     · simp only [m33,e33,intOf];omega
   try simp only [ah,aX] at hc3
   refine wp_exit ?_;repeat (with_reducible refine cq ?_)
   refine cy ?_;refine wp_seq (eJ ab [] ⟨ao e1,aF 0,am fun c=>ar rfl rfl,ax⟩ fun ac ag ae ab aa=> ?_);have e6:=aa.V 1;have e7:=aa.V 2;refine wp_ret ?_;refine rp ?_;refine jt (fn:=Tryz.f52) rfl ab.defers e6 e7 ?_;exact ⟨congrArg _ (show (Value.tuple #[(aj m),(az true)])=(.tuple #[aj (cY t n d).1,az (cY t n d).2]) from by rw [ve hcd q2 (by omega)]),ab.ext0⟩
 have hd4:=hc1;try simp only [aG,ah] at hd4
 refine wp_skip ?_;refine wp_seq ?_;refine wp_seq ?_;have hdp:d=dg t d:=by unfold dg oG;first | (rw [if_pos (by simpa using (by assumption))]) | (rw [if_neg (by simpa using (by assumption))])
 replace e2:aT ac 2=aj (dg t d):=e2.trans (bk hdp);have hdr:dg t d≤1000∧ -1≤dg t d:=by unfold dg;split <;> omega
 refine pD [0,1,3,7,15,31,63,127,255,511,1023] ab [jb r0] ⟨ao e1,am fun c=>dj rfl (c.q 0) rfl,bm 1,bA 2 rfl fun c hpc=>aI rfl (c.p e2),bA 2 rfl fun c hpc=>dj rfl (c.M 3 hpc) rfl,dF 2 4,bm 5,bA 6 rfl fun c hpc=>ea rfl aD ak ((c.p e3).trans r0.ptr) (c.B 0),fq 6 false rfl fun c hpc=>⟨_,_,(bj rfl rfl Tryz.call77 (c.M 7 hpc)),vc t _ (hT.at (ab.ext.trans c.J.ext)) (by have hq0:=hpc;(try simp only [aG,ah,aX] at hq0);omega)⟩,bA 6 rfl fun c hpc=>dS rfl (c.M 8 hpc),dF 6 9,ax⟩ fun ac ag ae ab aa=> ?_;obtain ⟨e1,e2,e3,e6,e7⟩:=aa.k5 e1 e2 e3 e6 e7;have e26:=aa.V 10;replace r0:=aa.B 0;refine wp_cond_split e26 (fun hc5=> ?_) (fun hc5=> ?_)
 · have hd5:=hc5;try simp only [aO,aG,aB,ay,ai,ah,aX] at hd5
   refine wp_seq ?_;have hcd:=hc5;refine eJ ab [jb r0] ⟨ao e1,aF 0,am fun c=>ar rfl rfl,ax⟩ fun ac ag ae ab aa=> ?_;obtain ⟨e1,e2,e3⟩:=aa.k3 e1 e2 e3;have e6:=aa.V 1;have e7:=aa.V 2;replace r0:=aa.B 0;refine wp_ret ?_;refine rp ?_;refine jt (fn:=Tryz.f52) rfl ab.defers e6 e7 ?_;exact ⟨congrArg _ (show (Value.tuple #[(aj n),(az false)])=(.tuple #[aj (cY t n d).1,az (cY t n d).2]) from by rw [xC hcd]),ab.ext0⟩
 have hd5:=hc5;try simp only [aO,aG,aB,ay,ai,ah,aX] at hd5
 refine wp_skip ?_;refine wp_seq ?_;have hcd:((decide (n < 1) || decide (dg t d < 0)) || !cB t)=false:=by assumption
 have hce:=hcd;simp only [aG,ah,aX] at hce;refine eJ ab [jb r0] ⟨ao e1,am fun c=>jj rfl (c.q 0) rfl (by omega),aF 1,ax⟩ fun ac ag ae ab aa=> ?_;obtain ⟨e2,e3,e6,e7⟩:=aa.k4 e2 e3 e6 e7;have e1:=aa.V 2;replace r0:=aa.B 0;refine wp_seq ?_;refine wp_seq (lu [0,1,3,0] ab [jb r0] ⟨cc aq bC e3 r0.ptr,dJ bV 0 0 7,am fun c=>de rfl aJ (c.q 1) (hT.at ab.ext).tl.sl.sl,am fun c=>aI rfl rfl,ax⟩ fun ac ag ae ab aa=> ?_);obtain ⟨e1,e2,e6,e7⟩:=aa.k4 e1 e2 e6 e7;have e31:=aa.V 1;have e32:=aa.V 2;have e33:=aa.V 3;refine wp_block ?_;refine wp_loop (fun a_ w_=>∃(k:Nat) (m:Int) (τ:Nat→aP),(k≤t.kids.length)∧
      (0≤m∧m≤1000)∧
      (im (t.kids.map cY) (n - 1) (dg t d)=im ((t.kids.drop k).map cY) m (dg t d))∧
      St (Nw w) w 49 a_ w_ τ∧
      aT a_ 1=(aj m)∧
      aT a_ 33=(aj (k:Int))∧
      aT a_ 2=(aj (dg t d))∧
      aT a_ 31=t.kv.v∧
      aT a_ 32=(aj (t.kids.length:Int))) (fun a_ _=>t.kids.length - (intOf (aT a_ 33)).toNat) ?_ ?_
 · refine ⟨0,n - 1,ae,?_,?_,?_,ab,(e1.trans (bk (by omega))),(e33.trans (bk (by omega))),e2,e31,e32⟩
   · omega
   · omega
   · rfl
 intro a21 w21 hI;obtain ⟨k,m,τ21,q0,q1,q2,st21,e1,e33,e2,e31,e32⟩:=hI;have hpk0:=hpk k;have m33:=e33;refine wp_seq (ex st21 [] ⟨am fun c=>dj rfl (c.p e33) (c.p e32),ax⟩ fun ac ag ae ab aa=> ?_);obtain ⟨e1,e2,e31,e32,e33⟩:=aa.k5 e1 e2 e31 e32 e33;have e34:=aa.V 0;refine wp_seq ?_;refine wp_cond_split e34 (fun hc6=> ?_) (fun hc6=> ?_)
 · try simp only [ai] at hc6
   refine wp_skip ?_;refine wp_seq ?_;refine wp_block ?_;refine wp_seq (rg [_,_,box _ _ 0 9 [(aj 0),(aR (⟨#[]⟩:ByteArray)),(az false),(.slice none 0 0),(aj 0),(aj 0),(az false),(.slice none 0 0)],_] [0,1,0,7] ab [] ⟨am fun c=>aM rfl aJ ak (c.p e31) (hT.at ab.ext).tl.sl.sl (c.p e33) (by omega) (by omega),am fun c=>cT (vs:=(tc (nth t.kids (k:Int)))) rfl aD ak (c.q 0) rfl (fun _ _ hj=>((hT.at (ab.ext.trans c.J.ext)).tl.sl).elem (bz (i:=(k:Int)) (by omega) (by omega)) hj),ct rfl rfl rfl rfl aN rfl,fU (cx:=(tc (nth t.kids (k:Int)))) (off:=0) rfl ak fun c=>⟨c.rb 2 rfl,(c.rb 2 rfl).ptr,(c.q 1)⟩,ax⟩ fun ac ag ae ab aa=> ?_);obtain ⟨b23x9,e9⟩:=gx ac 9;obtain ⟨e1,e2,e31,e32,e33,e34⟩:=aa.k6 e1 e2 e31 e32 e33 e34;have r0:=aa.rb 3 e9 rfl;refine wp_seq (ex ab [jb r0] ⟨am fun c=>ar rfl rfl,ax⟩ fun ac ag ae ab aa=> ?_);obtain ⟨e1,e2,e9,e31,e32,e33,e34⟩:=aa.k7 e1 e2 e9 e31 e32 e33 e34;have e10:=aa.V 0;replace r0:=aa.B 0;refine wp_seq (qU [0,0,0,7,15,31,31,63,255] ab [jb r0] ⟨am fun c=>ea rfl aD ak ((c.p e9).trans r0.ptr) (c.B 0),ao e1,ao e2,dQ fun c=>⟨_,_,(gv rfl rfl Tryz.call52 (c.q 0) (c.q 1) (c.q 2)),ih _ (cP (by omega) (by omega)) m (dg t d) _ ((hT.at (ab.ext.trans c.J.ext)).tl.el (by omega) (by omega)) (by omega) (by omega) (by omega)⟩,bm 3,cD 4,cD 4,aF 5,aF 6,ax⟩ fun ac ag ae ab aa=> ?_);obtain ⟨e2,e9,e31,e32,e33,e34⟩:=aa.k6 e2 e9 e31 e32 e33 e34;have e1:=aa.V 7;have e10:=aa.V 8;replace r0:=aa.B 0;refine wp_seq (ew ab [jb r0] ⟨ao e10,am fun c=>dS rfl (c.q 0),ax⟩ fun ac ag ae ab aa=> ?_);obtain ⟨e1,e2,e9,e10,e31,e32,e33,e34⟩:=aa.k8 e1 e2 e9 e10 e31 e32 e33 e34;have e45:=aa.V 1;replace r0:=aa.B 0;refine wp_cond_split e45 (fun hc7=> ?_) (fun hc7=> ?_)
   · have hd7:=hc7;try simp only [aB,ay] at hd7
     refine wp_seq ?_;have hbad:(cY (nth t.kids (k:Int)) m (dg t d)).2=false:=by simpa using (by assumption:(!(cY (nth t.kids (k:Int)) m (dg t d)).2)=true)
     refine eJ ab [jb r0] ⟨ao e1,aF 0,am fun c=>ar rfl rfl,ax⟩ fun ac ag ae ab aa=> ?_;obtain ⟨e1,e2,e9,e10,e31,e32,e33,e34,e45⟩:=aa.k9 e1 e2 e9 e10 e31 e32 e33 e34 e45;have e6:=aa.V 1;have e7:=aa.V 2;replace r0:=aa.B 0;refine wp_ret ?_;refine rp ?_;refine jt (fn:=Tryz.f52) rfl ab.defers e6 e7 ?_;exact ⟨congrArg _ (show (Value.tuple #[(aj ((cY (nth t.kids (k:Int)) m (dg t d)).1)),(az false)])=(.tuple #[aj (cY t n d).1,az (cY t n d).2]) from by rw [vd hcd q2 (by omega) hbad]),ab.ext0⟩
   have hd7:=hc7;try simp only [aB,ay] at hd7
   refine wp_skip ?_;show _;have hgood:(cY (nth t.kids (k:Int)) m (dg t d)).2=true:=by simpa using (by assumption:(!(cY (nth t.kids (k:Int)) m (dg t d)).2)=false)
   have hrg:=nH (nth t.kids (k:Int)) (n:=m) (d:=dg t d) (by omega);refine ew ab [jb r0] ⟨am fun c=>cV rfl (c.p e33) rfl (by omega),bm 0,ax⟩ fun ac ag ae ab aa=> ?_;obtain ⟨e1,e2,e9,e10,e31,e32,e34,e45⟩:=aa.k8 e1 e2 e9 e10 e31 e32 e34 e45;have e33:=aa.V 1;replace r0:=aa.B 0;refine ⟨⟨k+1,(cY (nth t.kids (k:Int)) m (dg t d)).1,ae,?_,?_,?_,ab,(e1.trans (bk (by omega))),(e33.trans (bk (by omega))),e2,e31,e32⟩,?_⟩
   · omega
   · omega
   · exact sO q2 (by omega) hgood
   · simp only [m33,e33,intOf];omega
 try simp only [ah,aX] at hc6
 refine wp_exit ?_;repeat (with_reducible refine cq ?_)
 refine cy ?_;refine wp_seq (eJ ab [] ⟨ao e1,aF 0,am fun c=>ar rfl rfl,ax⟩ fun ac ag ae ab aa=> ?_);have e6:=aa.V 1;have e7:=aa.V 2;refine wp_ret ?_;refine rp ?_;refine jt (fn:=Tryz.f52) rfl ab.defers e6 e7 ?_;exact ⟨congrArg _ (show (Value.tuple #[(aj m),(az true)])=(.tuple #[aj (cY t n d).1,az (cY t n d).2]) from by rw [ve hcd q2 (by omega)]),ab.ext0⟩
theorem EL (t:Tr):∀(n d:Int) (w:World),mb w t→fD t≤1000000→0≤n∧n≤1000→0≤d∧d≤1000→Calls Tryz.prog 52 #[t.v,.int .i64 n,.int .i64 d] w (fun e w'=>e= .returned (.tuple #[.int .i64 (cY t n d).1,.bool (cY t n d).2])∧Ext aY w w'):=Tr.ind (P:=fun t=>∀(n d:Int) (w:World),mb w t→fD t≤1000000→0≤n∧n≤1000→0≤d∧d≤1000→Calls Tryz.prog 52 #[t.v,.int .i64 n,.int .i64 d] w (fun e w'=>e= .returned (.tuple #[.int .i64 (cY t n d).1,.bool (cY t n d).2])∧Ext aY w w')) yH t
set_option maxRecDepth 100000 in
theorem Az (t:Tr) (w:World) (hT:mb w t) (hP:fD t≤1000000):Calls Tryz.prog 27 #[(ta t)] w (fun e w'=>e= .returned (az ((cY t 512 16).2))∧Ext aY w w'):=by
 refine enter (n:=11) Tryz.func27 rfl rfl (av rfl) ?_;intro a0 τ0 ha st0;have e0:aT a0 0=(ta t):=ha 0 _ rfl;clear ha;refine wp_seq (rg [box _ _ 0 1 (tc t),_] [0,0] st0 [] ⟨fl (v:=(ta t)) rfl rfl rfl rfl rfl (fun _ _ _ _ c=>(c.p e0)),am fun c=>ar rfl rfl,ax⟩ fun ac ag ae ab aa=> ?_);obtain ⟨b1x1,e1⟩:=gx ac 1;have e2:=aa.V 1;have r0:=aa.rb 0 e1 rfl;refine wp_seq (su [0,1,3,7,7,15,63] ab [jb r0] ⟨am fun c=>ea rfl aD ak ((c.p e1).trans r0.ptr) (c.B 0),dQ fun c=>⟨_,_,(gv rfl rfl Tryz.call52 (c.q 0) rfl rfl),EL t 512 16 _ (hT.at (ab.ext.trans c.J.ext)) (by omega) (by omega) (by omega)⟩,bm 1,cD 2,cD 2,aF 3,aF 4,ax⟩ fun ac ag ae ab aa=> ?_);replace e2:=aa.k1 e2;have e4:=aa.V 6;refine wp_seq (ew ab [] ⟨ao e4,aF 0,ax⟩ fun ac ag ae ab aa=> ?_);have e2:=aa.V 1;refine wp_ret ?_;refine rp ?_;refine cJ (fn:=Tryz.f27) rfl ab.defers e2 ?_;exact ⟨rfl,ab.ext0⟩
end
section
open Go.RowKit
open Srt
def rL (t:Tr):Bool:=(((!decide ((t.kids.length:Int)=1)) || decide (t.mn < 0)) || decide (255 < t.mn)) || ((!decide (t.mx= -1))&&(decide (t.mx < t.mn) || decide (255 < t.mx)))
def AA (t:Tr):Bool:=if rL t=true then false else jH t.ch t.ng t.rows 0 0 false&&(((((decide ((nth t.kids 0).k=2)) || (decide ((nth t.kids 0).k=3))) || (decide ((nth t.kids 0).k=4))) || (decide ((nth t.kids 0).k=5))) || (decide ((nth t.kids 0).k=6)))
def gL:Tr→Bool:=lE fun t l=>l.all (fun b=>b)&&cB t
theorem jn (t:Tr):gL t=(t.kids.all gL&&cB t):=by
  have h:=iS (fun t l=>l.all (fun b=>b)&&cB t) t;rw [List.all_map] at h;exact h
theorem qz {t:Tr} {k:Nat} (h:k < t.kids.length) (hb:(!gL (nth t.kids (k:Int)))=true):false=gL t:=by
  rw [jn];have:t.kids.all gL=false:=by
    rw [List.all_eq_false];exact ⟨nth t.kids (k:Int),cP (by omega) (by omega),by simpa using hb⟩
  rw [this];rfl
theorem eh {t:Tr} {k:Nat} {b:Bool} (h:∀y ∈ t.kids.take k,gL y=true) (hk:t.kids.length≤k) (hb:b=cB t):b=gL t:=by
  rw [bB hk] at h;rw [jn,cW.2 h,hb];rfl
theorem AB {α:Type} [Inhabited α] {f:α→Bool} {xs:List α} {k:Nat} (h:k < xs.length) (hq:∀y ∈ xs.take k,f y=true) (hc:f (nth xs (k:Int))=true):∀y ∈ xs.take (k+1),f y=true:=by
  rw [fc h];intro y hy;rcases List.mem_append.1 hy with hy | hy
  · exact hq y hy
  · simp at hy;rw [hy];exact hc
theorem pL (t:Tr):oo t [0,1]=t.kids.any fun y=>decide (y.k=0) || decide (y.k=1):=by
  unfold oo;congr 1;funext y;simp
theorem pM (t:Tr):oo t [1]=t.kids.any fun y=>decide (y.k=1):=by
  unfold oo;congr 1;funext y;simp
theorem xD {α:Type} [Inhabited α] {f:α→Bool} {xs:List α} {k:Nat} (h:k < xs.length) (hb:f (nth xs (k:Int))=true):xs.any f=true:=List.any_eq_true.2 ⟨_,cP (by omega) (by omega),hb⟩
theorem vf {α:Type} {f:α→Bool} {xs:List α} {k:Nat} (hk:xs.length≤k) (h:∀y ∈ xs.take k,f y=false):xs.any f=false:=by
  rw [bB hk] at h;rw [jO];intro x hx;rw [h x hx];decide
theorem nY {t:Tr} {k:Nat} (h:t.k=0) (hk:k < t.kids.length) (hb:(decide ((nth t.kids (k:Int)).k=0) || decide ((nth t.kids (k:Int)).k=1))=true):false=cB t:=by
  have:=xD (f:=fun y:Tr=>decide (y.k=0) || decide (y.k=1)) hk hb;unfold cB;rw [if_neg (by omega),if_neg (by omega),if_neg (by omega),if_pos h,pL,this];simp
theorem AC {t:Tr} {k:Nat} (h:t.k=0) (hk:t.kids.length≤k) (hb:∀y ∈ t.kids.take k,(decide (y.k=0) || decide (y.k=1))=false):(jH t.ch t.ng t.rows t.mn t.mx t.lz&&(!decide ((t.kids.length:Int)=1)))=cB t:=by
  unfold cB;rw [if_neg (by omega),if_neg (by omega),if_neg (by omega),if_pos h,pL,vf hk hb];simp [ln]
theorem nZ {t:Tr} {k:Nat} (h:t.k=1) (hk:k < t.kids.length) (hb:decide ((nth t.kids (k:Int)).k=1)=true):false=cB t:=by
  have:=xD (f:=fun y:Tr=>decide (y.k=1)) hk hb;unfold cB;rw [if_neg (by omega),if_neg (by omega),if_neg (by omega),if_neg (by omega),if_pos h,pM,this];simp
theorem AD {t:Tr} {k:Nat} (h:t.k=1) (hk:t.kids.length≤k) (hb:∀y ∈ t.kids.take k,decide (y.k=1)=false):(jH t.ch t.ng t.rows t.mn t.mx t.lz&&(decide (2≤(t.kids.length:Int))))=cB t:=by
  unfold cB;rw [if_neg (by omega),if_neg (by omega),if_neg (by omega),if_neg (by omega),if_pos h,pM,vf hk hb];have:decide (2≤(t.kids.length:Int))=decide (1 < (t.kids.length:Int)):=by rw [eV];simp;omega
  rw [this];simp [ln]
theorem FU {t:Tr} (h:t.k=7):AA t=cB t:=by
  unfold cB;rw [if_neg (show ¬t.k=2 by omega),if_neg (show ¬t.k=4 by omega),if_pos h];unfold AA rL oJ;generalize jH t.ch t.ng t.rows 0 0 false=b;generalize (nth t.kids 0).k=k;generalize (t.kids.length:Int)=l;generalize t.mn=x;generalize t.mx=y;rw [eV];cases b
  · simp
  · simp only [fI,aO,aw,ai,aB,ah,Bool.ite_eq_true_distrib,kU,if_false_left];omega
set_option maxRecDepth 100000 in
theorem vg (t:Tr) (w:World) (hT:mb w t) (hP:fD t≤1000000):Calls Tryz.prog 88 #[(ta t)] w (fun e w'=>e= .returned (az (AA t))∧Ext aY w w'):=by
 refine enter (n:=65) Tryz.func88 rfl rfl (av rfl) ?_;intro a0 τ0 ha st0;have e0:aT a0 0=(ta t):=ha 0 _ rfl;clear ha;have hle:=hT.kids.le;have hle2:=hT.rows.le;have hwt:=ef t;have hsm:=rK hP;refine wp_seq (rg [box _ _ 0 1 (tc t),_] [0,0] st0 [] ⟨fl (v:=(ta t)) rfl rfl rfl rfl rfl (fun _ _ _ _ c=>(c.p e0)),am fun c=>ar rfl rfl,ax⟩ fun ac ag ae ab aa=> ?_);obtain ⟨b1x1,e1⟩:=gx ac 1;have e2:=aa.V 1;have r0:=aa.rb 0 e1 rfl;refine wp_seq ?_;refine wp_seq (rg [_,_,_,_,_,_,_,_,_,_,_,_,_,_,_,_,_,_,_,_,_,_,_,_,_,_,_,_,_,_,_] [0,1,3,7,15,31,63,127,255,511,1023,2047,4095,8191,16383,32767,65535,131071,262143,524287,1048575,524287,2621439,8388607,16777215,33554431,67108863,134217727,268435455,536870911,1073741823] ab [jb r0] ⟨cc aq bC e1 r0.ptr,dJ bV 0 0 7,am fun c=>de rfl aJ (c.q 1) (hT.at ab.ext).tl.sl.sl,am fun c=>ka rfl (c.q 2) rfl,bm 3,bA 4 rfl fun c hpc=>cO rfl aq au ((c.p e1).trans r0.ptr),bA 4 rfl fun c hpc=>aA rfl aC (c.M 5 hpc) ((c.B 0).cell (j:=4) rfl),bA 4 rfl fun c hpc=>dj rfl (c.M 6 hpc) rfl,dF 4 7,bm 8,bA 9 rfl fun c hpc=>cO rfl aq au ((c.p e1).trans r0.ptr),bA 9 rfl fun c hpc=>aA rfl aC (c.M 10 hpc) ((c.B 0).cell (j:=4) rfl),bA 9 rfl fun c hpc=>iP rfl (c.M 11 hpc) rfl,dF 9 12,bm 13,bA 14 rfl fun c hpc=>cO rfl aq au ((c.p e1).trans r0.ptr),bA 14 rfl fun c hpc=>aA rfl aC (c.M 15 hpc) ((c.B 0).cell (j:=5) rfl),bA 14 rfl fun c hpc=>ka rfl (c.M 16 hpc) rfl,bA 14 rfl fun c hpc=>aI rfl (c.M 17 hpc),cH 18 true rfl fun c hpc=>cO rfl aq au ((c.p e1).trans r0.ptr),cH 18 true rfl fun c hpc=>aA rfl aC (c.M 19 hpc) ((c.B 0).cell (j:=5) rfl),cH 18 true rfl fun c hpc=>cO rfl aq au ((c.p e1).trans r0.ptr),cH 18 true rfl fun c hpc=>aA rfl aC (c.M 21 hpc) ((c.B 0).cell (j:=4) rfl),cH 18 true rfl fun c hpc=>dj rfl (c.M 20 hpc) (c.M 22 hpc),cH 18 true rfl fun c hpc=>aI rfl (c.M 23 hpc),cH 24 false rfl fun c hpc=>cO rfl aq au ((c.p e1).trans r0.ptr),cH 24 false rfl fun c hpc=>aA rfl aC (c.M 25 hpc) ((c.B 0).cell (j:=5) rfl),cH 24 false rfl fun c hpc=>iP rfl (c.M 26 hpc) rfl,cH 18 true rfl fun c hpc=>pA rfl (c.M 24 hpc) (fun h=>c.m 27 rfl (And.intro hpc h)),bA 14 rfl fun c hpc=>ly rfl (c.M 18 hpc) (fun h=>c.m 28 rfl (And.intro hpc h)),dF 14 29,ax⟩ fun ac ag ae ab aa=> ?_);obtain ⟨e1,e2⟩:=aa.k2 e1 e2;have e34:=aa.V 30;replace r0:=aa.B 0;refine wp_cond_split e34 (fun hc1=> ?_) (fun hc1=> ?_)
 · have hd1:=hc1;try simp only [aw,aL,aO,aG,aB,ay,ai,ah,aX] at hd1
   refine wp_seq (ex ab [jb r0] ⟨am fun c=>ar rfl rfl,ax⟩ fun ac ag ae ab aa=> ?_);replace e1:=aa.k1 e1;have e2:=aa.V 0;replace r0:=aa.B 0;refine wp_ret ?_;refine rp ?_;refine cJ (fn:=Tryz.f88) rfl ab.defers e2 ?_;exact ⟨congrArg _ (congrArg _ (by unfold AA;rw [if_pos (by assumption:rL t=true)])),ab.ext0⟩
 have hd1:=hc1;try simp only [aw,aL,aO,aG,aB,ay,ai,ah,aX] at hd1
 refine wp_skip ?_;refine wp_seq (DT ab [jb r0] ⟨cc aq bC e1 r0.ptr,dJ bV 0 0 7,am fun c=>aM rfl aJ ak (c.q 1) (hT.at ab.ext).tl.sl.sl rfl (by omega) (by omega),br aq au 2 rfl,am fun c=>aA rfl aC (c.q 3) (((hT.at (ab.ext.trans c.J.ext)).tl.sl).elem (j:=0) (bz (i:=0) (by omega) (by omega)) rfl),aF 4,ax⟩ fun ac ag ae ab aa=> ?_);obtain ⟨e1,e2⟩:=aa.k2 e1 e2;have e3:=aa.V 5;replace r0:=aa.B 0;refine wp_seq (ew ab [jb r0] ⟨cc aq au e1 r0.ptr,cj (cx:=[(aj t.k),(aR t.ch),(az t.ng),t.rv.v,(aj 0),(aj t.mx),(az t.lz),t.kv.v]) (v:=(aj 0)) au fun c=>⟨c.bp 0 rfl e1,c.ad (c.q 0) e1 rfl,rfl⟩,ax⟩ fun ac ag ae ab aa=> ?_);obtain ⟨e1,e2,e3⟩:=aa.k3 e1 e2 e3;replace r0:=aa.RB 1 e1;refine wp_seq (ew ab [jb r0] ⟨cc aq au e1 r0.ptr,cj (cx:=[(aj t.k),(aR t.ch),(az t.ng),t.rv.v,(aj 0),(aj 0),(az t.lz),t.kv.v]) (v:=(aj 0)) au fun c=>⟨c.bp 0 rfl e1,c.ad (c.q 0) e1 rfl,rfl⟩,ax⟩ fun ac ag ae ab aa=> ?_);obtain ⟨e1,e2,e3⟩:=aa.k3 e1 e2 e3;replace r0:=aa.RB 1 e1;refine wp_seq (ew ab [jb r0] ⟨cc aq ba e1 r0.ptr,cj (cx:=[(aj t.k),(aR t.ch),(az t.ng),t.rv.v,(aj 0),(aj 0),(az false),t.kv.v]) (v:=(az false)) ba fun c=>⟨c.bp 0 rfl e1,c.ad (c.q 0) e1 rfl,rfl⟩,ax⟩ fun ac ag ae ab aa=> ?_);obtain ⟨e1,e2,e3⟩:=aa.k3 e1 e2 e3;replace r0:=aa.RB 1 e1;refine wp_seq (rg [_,_,_,_,_,_,_,_,_,_,_,_,_,_,_,_,_,_,_,_,_,_,_] [0,1,3,7,15,31,63,127,255,511,1023,2047,4095,8191,16383,32767,65535,131071,262143,524287,1048575,2097151,4194303] ab [jb r0] ⟨am fun c=>ea rfl aD ak ((c.p e1).trans r0.ptr) (c.B 0),dQ fun c=>⟨_,_,(bj rfl rfl ge (c.q 0)),gQ t.k t.ch t.ng t.rv.v t.rows 0 0 false t.kv.v rfl _ (hT.at (ab.ext.trans c.J.ext)).rows⟩,bm 1,aE 2 rfl fun c hpc=>aI rfl (c.p e3),aE 2 rfl fun c hpc=>bW rfl (c.M 3 hpc) rfl,aE 2 rfl fun c hpc=>aI rfl (c.M 4 hpc),cH 5 false rfl fun c hpc=>aI rfl (c.p e3),cH 5 false rfl fun c hpc=>bW rfl (c.M 6 hpc) rfl,aE 2 rfl fun c hpc=>pA rfl (c.M 5 hpc) (fun h=>c.m 7 rfl (And.intro hpc h)),aE 2 rfl fun c hpc=>aI rfl (c.M 8 hpc),cH 9 false rfl fun c hpc=>aI rfl (c.p e3),cH 9 false rfl fun c hpc=>bW rfl (c.M 10 hpc) rfl,aE 2 rfl fun c hpc=>pA rfl (c.M 9 hpc) (fun h=>c.m 11 rfl (And.intro hpc h)),aE 2 rfl fun c hpc=>aI rfl (c.M 12 hpc),cH 13 false rfl fun c hpc=>aI rfl (c.p e3),cH 13 false rfl fun c hpc=>bW rfl (c.M 14 hpc) rfl,aE 2 rfl fun c hpc=>pA rfl (c.M 13 hpc) (fun h=>c.m 15 rfl (And.intro hpc h)),aE 2 rfl fun c hpc=>aI rfl (c.M 16 hpc),cH 17 false rfl fun c hpc=>aI rfl (c.p e3),cH 17 false rfl fun c hpc=>bW rfl (c.M 18 hpc) rfl,aE 2 rfl fun c hpc=>pA rfl (c.M 17 hpc) (fun h=>c.m 19 rfl (And.intro hpc h)),bL 2 20,aF 21,ax⟩ fun ac ag ae ab aa=> ?_);have e2:=aa.V 22;refine wp_ret ?_;refine rp ?_;refine cJ (fn:=Tryz.f88) rfl ab.defers e2 ?_;exact ⟨congrArg _ (congrArg _ (by unfold AA;rw [if_neg (show ¬rL t=true by rw [show rL t=false from by assumption];decide)])),ab.ext0⟩
set_option maxRecDepth 100000 in
theorem vh (t:Tr) (ih:∀k ∈ t.kids,∀(w:World),mb w k→fD k≤1000000→Calls Tryz.prog 68 #[k.v] w (fun e w'=>e= .returned (az (gL k))∧Ext aY w w')) (w:World) (hT:mb w t) (hP:fD t≤1000000):Calls Tryz.prog 68 #[t.v] w (fun e w'=>e= .returned (az (gL t))∧Ext aY w w'):=by
 refine enter (n:=131) Tryz.func68 rfl rfl (av rfl) ?_;intro a0 τ0 ha st0;have e0:aT a0 0=(ta t):=ha 0 _ rfl;clear ha;have hle:=hT.kids.le;have hle2:=hT.rows.le;have hwt:=ef t;have hsm:=rK hP;have hpk:∀k:Nat,k < t.kids.length→fD (nth t.kids (k:Int))≤1000000:=fun k h_=>by have h1_:=mQ (cP (xs:=t.kids) (i:=(k:Int)) (by omega) (by omega));omega
 refine wp_seq (rg [box _ _ 0 1 (tc t),_] [0,0] st0 [] ⟨fl (v:=(ta t)) rfl rfl rfl rfl rfl (fun _ _ _ _ c=>(c.p e0)),am fun c=>ar rfl rfl,ax⟩ fun ac ag ae ab aa=> ?_);obtain ⟨b1x1,e1⟩:=gx ac 1;have e2:=aa.V 1;have r0:=aa.rb 0 e1 rfl;refine wp_seq (yk ab [jb r0] ⟨cc aq bC e1 r0.ptr,dJ bV 0 0 7,am fun c=>de rfl aJ (c.q 1) (hT.at ab.ext).tl.sl.sl,aF 2,ax⟩ fun ac ag ae ab aa=> ?_);obtain ⟨e1,e2⟩:=aa.k2 e1 e2;have e3:=aa.V 3;replace r0:=aa.B 0;refine wp_seq ?_;refine wp_seq (ex ab [jb r0] ⟨am fun c=>ar rfl rfl,ax⟩ fun ac ag ae ab aa=> ?_);obtain ⟨e1,e2,e3⟩:=aa.k3 e1 e2 e3;have e4:=aa.V 0;replace r0:=aa.B 0;refine wp_block ?_;refine wp_loop (fun a_ w_=>∃(k:Nat) (τ:Nat→aP),(k≤t.kids.length)∧
      (∀y ∈ t.kids.take k,gL y=true)∧
      St (Nw w) w 131 a_ w_ τ∧
      aT a_ 4=(aj (k:Int))∧
      aT a_ 1=b1x1∧
      aT a_ 3=(aj (t.kids.length:Int))∧
      ce 25 (tc t) (τ 0) b1x1 w_) (fun a_ _=>t.kids.length - (intOf (aT a_ 4)).toNat) ?_ ?_
 · refine ⟨0,ae,?_,?_,ab,(e4.trans (bk (by omega))),e1,e3,r0⟩
   · omega
   · simp
 intro a4 w4 hI;obtain ⟨k,τ4,q0,q1,st4,e4,e1,e3,r0⟩:=hI;have hpk0:=hpk k;have m4:=e4;refine wp_seq ?_;refine wp_seq (zp [0,0,3] st4 [jb r0] ⟨ao e4,ao e3,am fun c=>dj rfl (c.q 0) (c.q 1),ax⟩ fun ac ag ae ab aa=> ?_);obtain ⟨e1,e3,e4⟩:=aa.k3 e1 e3 e4;have e14:=aa.V 2;replace r0:=aa.B 0;refine wp_cond_split e14 (fun hc1=> ?_) (fun hc1=> ?_)
 · try simp only [ai] at hc1
   refine wp_skip ?_;refine wp_seq ?_;refine wp_block ?_;refine wp_seq (su [0,1,0,7,15,31,63] ab [jb r0] ⟨cc aq bC e1 r0.ptr,dJ bV 0 0 7,ao e4,am fun c=>aM rfl aJ ak (c.q 1) (hT.at ab.ext).tl.sl.sl (c.q 2) (by omega) (by omega),am fun c=>cT (vs:=(tc (nth t.kids (k:Int)))) rfl aD ak (c.q 3) rfl (fun _ _ hj=>((hT.at (ab.ext.trans c.J.ext)).tl.sl).elem (bz (i:=(k:Int)) (by omega) (by omega)) hj),dQ fun c=>⟨_,_,(bj rfl rfl Tryz.call68 (c.q 4)),ih _ (cP (by omega) (by omega)) _ ((hT.at (ab.ext.trans c.J.ext)).tl.el (by omega) (by omega)) (by omega)⟩,am fun c=>dS rfl (c.q 5),ax⟩ fun ac ag ae ab aa=> ?_);obtain ⟨e1,e3,e4,e14⟩:=aa.k4 e1 e3 e4 e14;have e23:=aa.V 6;replace r0:=aa.B 0;refine wp_cond_split e23 (fun hc2=> ?_) (fun hc2=> ?_)
   · have hd2:=hc2;try simp only [aB,ay] at hd2
     refine wp_seq (ex ab [jb r0] ⟨am fun c=>ar rfl rfl,ax⟩ fun ac ag ae ab aa=> ?_);obtain ⟨e1,e3,e4,e14,e23⟩:=aa.k5 e1 e3 e4 e14 e23;have e2:=aa.V 0;replace r0:=aa.B 0;refine wp_ret ?_;refine rp ?_;refine cJ (fn:=Tryz.f68) rfl ab.defers e2 ?_;exact ⟨congrArg _ (congrArg _ (by first | exact qz (k:=k) (by omega) (by assumption) | exact eh (k:=k) q_1 (by omega) (nY (k:=j) (by omega) (by omega) (by assumption)) | exact eh (k:=k) q_1 (by omega) (nZ (k:=j) (by omega) (by omega) (by assumption)) | exact eh (k:=k) q1 (by omega) (by unfold cB;(repeat (first | rw [if_neg (by omega)] | rw [if_pos (by omega)]));(try rfl)))),ab.ext0⟩
   have hd2:=hc2;try simp only [aB,ay] at hd2
   refine wp_skip ?_;show _;refine eJ ab [jb r0] ⟨ao e4,am fun c=>cV rfl (c.q 0) rfl (by omega),aF 1,ax⟩ fun ac ag ae ab aa=> ?_;obtain ⟨e1,e3,e14,e23⟩:=aa.k4 e1 e3 e14 e23;have e4:=aa.V 2;replace r0:=aa.B 0;refine ⟨⟨k+1,ae,?_,?_,ab,(e4.trans (bk (by omega))),e1,e3,r0⟩,?_⟩
   · omega
   · exact AB (by omega) q1 (by simpa using (by assumption:(!gL (nth t.kids (k:Int)))=false))
   · simp only [m4,e4,intOf];omega
 try simp only [ah,aX] at hc1
 refine wp_exit ?_;repeat (with_reducible refine cq ?_)
 refine cy ?_;refine wp_seq ?_;refine wp_seq (ew ab [jb r0] ⟨cc aq au e1 r0.ptr,dJ aC 0 0 0,ax⟩ fun ac ag ae ab aa=> ?_);obtain ⟨e1,e3⟩:=aa.k2 e1 e3;have e25:=aa.V 1;replace r0:=aa.B 0;refine wp_block ?_;refine wp_seq (ew ab [jb r0] ⟨am fun c=>bW rfl (c.p e25) rfl,aF 0,ax⟩ fun ac ag ae ab aa=> ?_);obtain ⟨e1,e3,e25⟩:=aa.k3 e1 e3 e25;have e26:=aa.V 1;replace r0:=aa.B 0;refine wp_cond_split e26 (fun hc3=> ?_) (fun hc3=> ?_)
 · try simp only [ai] at hc3
   refine wp_seq ?_;refine wp_seq ?_;have q_1:=q1;refine ex ab [jb r0] ⟨am fun c=>ar rfl rfl,ax⟩ fun ac ag ae ab aa=> ?_;obtain ⟨e1,e3,e25⟩:=aa.k3 e1 e3 e25;have e5:=aa.V 0;replace r0:=aa.B 0;refine wp_block ?_;refine wp_loop (fun a_ w_=>∃(j:Nat) (τ:Nat→aP),(j≤t.kids.length)∧
          (∀y ∈ t.kids.take j,(decide (y.k=0) || decide (y.k=1))=false)∧
          St (Nw w) w 131 a_ w_ τ∧
          aT a_ 5=(aj (j:Int))∧
          aT a_ 1=b1x1∧
          aT a_ 3=(aj (t.kids.length:Int))∧
          aT a_ 25=(aj t.k)∧
          ce 25 (tc t) (τ 0) b1x1 w_) (fun a_ _=>t.kids.length - (intOf (aT a_ 5)).toNat) ?_ ?_
   · refine ⟨0,ae,?_,?_,ab,(e5.trans (bk (by omega))),e1,e3,e25,r0⟩
     · omega
     · simp
   intro a12 w12 hI;obtain ⟨j,τ12,q0,q1,st12,e5,e1,e3,e25,r0⟩:=hI;have m5:=e5;refine wp_seq ?_;refine wp_seq (zp [0,0,3] st12 [jb r0] ⟨ao e5,ao e3,am fun c=>dj rfl (c.q 0) (c.q 1),ax⟩ fun ac ag ae ab aa=> ?_);obtain ⟨e1,e3,e5,e25⟩:=aa.k4 e1 e3 e5 e25;have e30:=aa.V 2;replace r0:=aa.B 0;refine wp_cond_split e30 (fun hc4=> ?_) (fun hc4=> ?_)
   · try simp only [ai] at hc4
     refine wp_skip ?_;refine wp_seq ?_;refine wp_block ?_;refine wp_seq ?_;refine rg [_,_,_,_,_,_,_,_,_,_,_,_,_,_,_,_] [0,1,0,7,15,31,63,127,255,511,255,2047,4095,8191,16383,32767] ab [jb r0] ⟨cc aq bC e1 r0.ptr,dJ bV 0 0 7,ao e5,am fun c=>aM rfl aJ ak (c.q 1) (hT.at ab.ext).tl.sl.sl (c.q 2) (by omega) (by omega),br aq au 3 rfl,am fun c=>aA rfl aC (c.q 4) (((hT.at (ab.ext.trans c.J.ext)).tl.sl).elem (j:=0) (bz (i:=(j:Int)) (by omega) (by omega)) rfl),am fun c=>bW rfl (c.q 5) rfl,bm 6,bA 7 rfl fun c hpc=>cO rfl aq bC ((c.p e1).trans r0.ptr),bA 7 rfl fun c hpc=>aA rfl bV (c.M 8 hpc) ((c.B 0).cell (j:=7) rfl),bA 7 rfl fun c hpc=>aI rfl (c.p e5),bA 7 rfl fun c hpc=>aM rfl aJ ak (c.M 9 hpc) (hT.at ab.ext).tl.sl.sl (c.M 10 hpc) (by have hq0:=bn hpc;omega) (by have hq0:=bn hpc;omega),bA 7 rfl fun c hpc=>cO rfl aq au (c.M 11 hpc),bA 7 rfl fun c hpc=>aA rfl aC (c.M 12 hpc) (((hT.at (ab.ext.trans c.J.ext)).tl.sl).elem (j:=0) (bz (i:=(j:Int)) (by have hq0:=bn hpc;omega) (by have hq0:=bn hpc;omega)) rfl),bA 7 rfl fun c hpc=>bW rfl (c.M 13 hpc) rfl,dF 7 14,ax⟩ fun ac ag ae ab aa=> ?_;obtain ⟨e1,e3,e5,e25,e30⟩:=aa.k5 e1 e3 e5 e25 e30;have e48:=aa.V 15;replace r0:=aa.B 0;refine wp_cond_split e48 (fun hc5=> ?_) (fun hc5=> ?_)
     · have hd5:=hc5;try simp only [aO,ai] at hd5
       refine wp_seq (ex ab [jb r0] ⟨am fun c=>ar rfl rfl,ax⟩ fun ac ag ae ab aa=> ?_);obtain ⟨e1,e3,e5,e25,e30,e48⟩:=aa.k6 e1 e3 e5 e25 e30 e48;have e2:=aa.V 0;replace r0:=aa.B 0;refine wp_ret ?_;refine rp ?_;refine cJ (fn:=Tryz.f68) rfl ab.defers e2 ?_;exact ⟨congrArg _ (congrArg _ (by first | exact qz (k:=k) (by omega) (by assumption) | exact eh (k:=k) q_1 (by omega) (nY (k:=j) (by omega) (by omega) (by assumption)) | exact eh (k:=k) q_1 (by omega) (nZ (k:=j) (by omega) (by omega) (by assumption)) | exact eh (k:=k) q1 (by omega) (by unfold cB;(repeat (first | rw [if_neg (by omega)] | rw [if_pos (by omega)]));(try rfl)))),ab.ext0⟩
     have hd5:=hc5;try simp only [aG,ah] at hd5
     refine wp_skip ?_;show _;refine eJ ab [jb r0] ⟨ao e5,am fun c=>cV rfl (c.q 0) rfl (by omega),aF 1,ax⟩ fun ac ag ae ab aa=> ?_;obtain ⟨e1,e3,e25,e30,e48⟩:=aa.k5 e1 e3 e25 e30 e48;have e5:=aa.V 2;replace r0:=aa.B 0;refine ⟨⟨j+1,ae,?_,?_,ab,(e5.trans (bk (by omega))),e1,e3,e25,r0⟩,?_⟩
     · omega
     · exact qw (f:=fun y:Tr=>decide (y.k=0) || decide (y.k=1)) (by omega) q1 (by assumption)
     · simp only [m5,e5,intOf];omega
   try simp only [ah,aX] at hc4
   refine wp_exit ?_;repeat (with_reducible refine cq ?_)
   refine cy ?_;refine wp_seq (vM ab [jb r0] ⟨am fun c=>ea rfl aD ak ((c.p e1).trans r0.ptr) (c.B 0),dQ fun c=>⟨_,_,(bj rfl rfl ge (c.q 0)),gQ t.k t.ch t.ng t.rv.v t.rows t.mn t.mx t.lz t.kv.v rfl _ (hT.at (ab.ext.trans c.J.ext)).rows⟩,bm 1,aE 2 rfl fun c hpc=>aI rfl (c.p e3),aE 2 rfl fun c hpc=>ka rfl (c.M 3 hpc) rfl,bL 2 4,aF 5,ax⟩ fun ac ag ae ab aa=> ?_);obtain ⟨e1,e3,e25⟩:=aa.k3 e1 e3 e25;have e2:=aa.V 6;replace r0:=aa.B 0;refine wp_ret ?_;refine rp ?_;refine cJ (fn:=Tryz.f68) rfl ab.defers e2 ?_;exact ⟨congrArg _ (congrArg _ (by exact eh (k:=k) q_1 (by omega) (AC (k:=j) (by omega) (by omega) q1))),ab.ext0⟩
 try simp only [ah] at hc3
 refine wp_seq (ew ab [jb r0] ⟨am fun c=>bW rfl (c.p e25) rfl,aF 0,ax⟩ fun ac ag ae ab aa=> ?_);obtain ⟨e1,e3,e25⟩:=aa.k3 e1 e3 e25;have e55:=aa.V 1;replace r0:=aa.B 0;refine wp_cond_split e55 (fun hc6=> ?_) (fun hc6=> ?_)
 · try simp only [ai] at hc6
   refine wp_seq ?_;refine wp_seq ?_;have q_1:=q1;refine ex ab [jb r0] ⟨am fun c=>ar rfl rfl,ax⟩ fun ac ag ae ab aa=> ?_;obtain ⟨e1,e3,e25⟩:=aa.k3 e1 e3 e25;have e6:=aa.V 0;replace r0:=aa.B 0;refine wp_block ?_;refine wp_loop (fun a_ w_=>∃(j:Nat) (τ:Nat→aP),(j≤t.kids.length)∧
          (∀y ∈ t.kids.take j,decide (y.k=1)=false)∧
          St (Nw w) w 131 a_ w_ τ∧
          aT a_ 6=(aj (j:Int))∧
          aT a_ 1=b1x1∧
          aT a_ 3=(aj (t.kids.length:Int))∧
          aT a_ 25=(aj t.k)∧
          ce 25 (tc t) (τ 0) b1x1 w_) (fun a_ _=>t.kids.length - (intOf (aT a_ 6)).toNat) ?_ ?_
   · refine ⟨0,ae,?_,?_,ab,(e6.trans (bk (by omega))),e1,e3,e25,r0⟩
     · omega
     · simp
   intro a20 w20 hI;obtain ⟨j,τ20,q0,q1,st20,e6,e1,e3,e25,r0⟩:=hI;have m6:=e6;refine wp_seq ?_;refine wp_seq (zp [0,0,3] st20 [jb r0] ⟨ao e6,ao e3,am fun c=>dj rfl (c.q 0) (c.q 1),ax⟩ fun ac ag ae ab aa=> ?_);obtain ⟨e1,e3,e6,e25⟩:=aa.k4 e1 e3 e6 e25;have e59:=aa.V 2;replace r0:=aa.B 0;refine wp_cond_split e59 (fun hc7=> ?_) (fun hc7=> ?_)
   · try simp only [ai] at hc7
     refine wp_skip ?_;refine wp_seq ?_;refine wp_block ?_;refine wp_seq (su [0,1,0,7,15,31,63] ab [jb r0] ⟨cc aq bC e1 r0.ptr,dJ bV 0 0 7,ao e6,am fun c=>aM rfl aJ ak (c.q 1) (hT.at ab.ext).tl.sl.sl (c.q 2) (by omega) (by omega),br aq au 3 rfl,am fun c=>aA rfl aC (c.q 4) (((hT.at (ab.ext.trans c.J.ext)).tl.sl).elem (j:=0) (bz (i:=(j:Int)) (by omega) (by omega)) rfl),am fun c=>bW rfl (c.q 5) rfl,ax⟩ fun ac ag ae ab aa=> ?_);obtain ⟨e1,e3,e6,e25,e59⟩:=aa.k5 e1 e3 e6 e25 e59;have e68:=aa.V 6;replace r0:=aa.B 0;refine wp_cond_split e68 (fun hc8=> ?_) (fun hc8=> ?_)
     · have hd8:=hc8;try simp only [ai] at hd8
       refine wp_seq (ex ab [jb r0] ⟨am fun c=>ar rfl rfl,ax⟩ fun ac ag ae ab aa=> ?_);obtain ⟨e1,e3,e6,e25,e59,e68⟩:=aa.k6 e1 e3 e6 e25 e59 e68;have e2:=aa.V 0;replace r0:=aa.B 0;refine wp_ret ?_;refine rp ?_;refine cJ (fn:=Tryz.f68) rfl ab.defers e2 ?_;exact ⟨congrArg _ (congrArg _ (by first | exact qz (k:=k) (by omega) (by assumption) | exact eh (k:=k) q_1 (by omega) (nY (k:=j) (by omega) (by omega) (by assumption)) | exact eh (k:=k) q_1 (by omega) (nZ (k:=j) (by omega) (by omega) (by assumption)) | exact eh (k:=k) q1 (by omega) (by unfold cB;(repeat (first | rw [if_neg (by omega)] | rw [if_pos (by omega)]));(try rfl)))),ab.ext0⟩
     have hd8:=hc8;try simp only [ah] at hd8
     refine wp_skip ?_;show _;refine eJ ab [jb r0] ⟨ao e6,am fun c=>cV rfl (c.q 0) rfl (by omega),aF 1,ax⟩ fun ac ag ae ab aa=> ?_;obtain ⟨e1,e3,e25,e59,e68⟩:=aa.k5 e1 e3 e25 e59 e68;have e6:=aa.V 2;replace r0:=aa.B 0;refine ⟨⟨j+1,ae,?_,?_,ab,(e6.trans (bk (by omega))),e1,e3,e25,r0⟩,?_⟩
     · omega
     · exact qw (f:=fun y:Tr=>decide (y.k=1)) (by omega) q1 (by assumption)
     · simp only [m6,e6,intOf];omega
   try simp only [ah,aX] at hc7
   refine wp_exit ?_;repeat (with_reducible refine cq ?_)
   refine cy ?_;refine wp_seq (vM ab [jb r0] ⟨am fun c=>ea rfl aD ak ((c.p e1).trans r0.ptr) (c.B 0),dQ fun c=>⟨_,_,(bj rfl rfl ge (c.q 0)),gQ t.k t.ch t.ng t.rv.v t.rows t.mn t.mx t.lz t.kv.v rfl _ (hT.at (ab.ext.trans c.J.ext)).rows⟩,bm 1,aE 2 rfl fun c hpc=>aI rfl (c.p e3),aE 2 rfl fun c hpc=>gH rfl (c.M 3 hpc) rfl,bL 2 4,aF 5,ax⟩ fun ac ag ae ab aa=> ?_);obtain ⟨e1,e3,e25⟩:=aa.k3 e1 e3 e25;have e2:=aa.V 6;replace r0:=aa.B 0;refine wp_ret ?_;refine rp ?_;refine cJ (fn:=Tryz.f68) rfl ab.defers e2 ?_;exact ⟨congrArg _ (congrArg _ (by exact eh (k:=k) q_1 (by omega) (AD (k:=j) (by omega) (by omega) q1))),ab.ext0⟩
 try simp only [ah] at hc6
 refine wp_seq (ew ab [jb r0] ⟨am fun c=>bW rfl (c.p e25) rfl,aF 0,ax⟩ fun ac ag ae ab aa=> ?_);obtain ⟨e1,e3,e25⟩:=aa.k3 e1 e3 e25;have e75:=aa.V 1;replace r0:=aa.B 0;refine wp_cond_split e75 (fun hc9=> ?_) (fun hc9=> ?_)
 · try simp only [ai] at hc9
   refine wp_seq (eJ ab [jb r0] ⟨cc aq bc e1 r0.ptr,dJ bG 0 0 1,aF 1,ax⟩ fun ac ag ae ab aa=> ?_);obtain ⟨e1,e3,e25⟩:=aa.k3 e1 e3 e25;have e7:=aa.V 2;replace r0:=aa.B 0;refine wp_seq (ew ab [jb r0] ⟨cc aq bc e1 r0.ptr,cj (cx:=[(aj t.k),(aR (⟨#[]⟩:ByteArray)),(az t.ng),t.rv.v,(aj t.mn),(aj t.mx),(az t.lz),t.kv.v]) (v:=(aR (⟨#[]⟩:ByteArray))) bc fun c=>⟨c.bp 0 rfl e1,c.ad (c.q 0) e1 rfl,rfl⟩,ax⟩ fun ac ag ae ab aa=> ?_);obtain ⟨e1,e3,e7,e25⟩:=aa.k4 e1 e3 e7 e25;replace r0:=aa.RB 1 e1;refine wp_seq ?_;refine pD [0,1,3,7,15,31,63,127,255,511,1023] ab [jb r0] ⟨am fun c=>ea rfl aD ak ((c.p e1).trans r0.ptr) (c.B 0),dQ fun c=>⟨_,_,(bj rfl rfl ge (c.q 0)),gQ t.k (⟨#[]⟩:ByteArray) t.ng t.rv.v t.rows t.mn t.mx t.lz t.kv.v rfl _ (hT.at (ab.ext.trans c.J.ext)).rows⟩,bm 1,aE 2 rfl fun c hpc=>aI rfl (c.p e3),aE 2 rfl fun c hpc=>bW rfl (c.M 3 hpc) rfl,bL 2 4,bm 5,aE 6 rfl fun c hpc=>aI rfl (c.p e7),fq 6 true rfl fun c hpc=>⟨_,_,(bj rfl rfl kx (c.M 7 hpc)),jI t.ch _ (by have hq0:=hpc;(try simp only [aw,ai] at hq0);omega)⟩,bL 6 8,aF 9,ax⟩ fun ac ag ae ab aa=> ?_;obtain ⟨e1,e3,e25⟩:=aa.k3 e1 e3 e25;have e2:=aa.V 10;replace r0:=aa.B 0;refine wp_ret ?_;refine rp ?_;refine cJ (fn:=Tryz.f68) rfl ab.defers e2 ?_;exact ⟨congrArg _ (congrArg _ (by exact eh (k:=k) q1 (by omega) (by unfold cB;(repeat (first | rw [if_neg (by omega)] | rw [if_pos (by omega)]));(try rfl)))),ab.ext0⟩
 try simp only [ah] at hc9
 refine wp_seq ?_;refine wp_seq (ew ab [jb r0] ⟨am fun c=>bW rfl (c.p e25) rfl,aF 0,ax⟩ fun ac ag ae ab aa=> ?_);obtain ⟨e1,e3,e25⟩:=aa.k3 e1 e3 e25;have e90:=aa.V 1;replace r0:=aa.B 0;refine wp_cond_split e90 (fun hc10=> ?_) (fun hc10=> ?_)
 · have hd10:=hc10;try simp only [ai] at hd10
   refine wp_skip ?_;refine wp_cond_true (e90.trans (congrArg _ hc10)) ?_;refine wp_seq (vM ab [jb r0] ⟨am fun c=>ea rfl aD ak ((c.p e1).trans r0.ptr) (c.B 0),dQ fun c=>⟨_,_,(bj rfl rfl ge (c.q 0)),gQ t.k t.ch t.ng t.rv.v t.rows t.mn t.mx t.lz t.kv.v rfl _ (hT.at (ab.ext.trans c.J.ext)).rows⟩,bm 1,aE 2 rfl fun c hpc=>aI rfl (c.p e3),aE 2 rfl fun c hpc=>bW rfl (c.M 3 hpc) rfl,bL 2 4,aF 5,ax⟩ fun ac ag ae ab aa=> ?_);obtain ⟨e1,e3,e25⟩:=aa.k3 e1 e3 e25;have e2:=aa.V 6;replace r0:=aa.B 0;refine wp_ret ?_;refine rp ?_;refine cJ (fn:=Tryz.f68) rfl ab.defers e2 ?_;exact ⟨congrArg _ (congrArg _ (by exact eh (k:=k) q1 (by omega) (by unfold cB;(repeat (first | rw [if_neg (by omega)] | rw [if_pos (by omega)]));(try rfl)))),ab.ext0⟩
 have hd11:=hc10;try simp only [ah] at hd11
 refine wp_seq (ew ab [jb r0] ⟨am fun c=>bW rfl (c.p e25) rfl,aF 0,ax⟩ fun ac ag ae ab aa=> ?_);obtain ⟨e1,e3,e25⟩:=aa.k3 e1 e3 e25;have e90:=aa.V 1;replace r0:=aa.B 0;refine wp_cond_split e90 (fun hc12=> ?_) (fun hc12=> ?_)
 · have hd12:=hc12;try simp only [ai] at hd12
   refine wp_skip ?_;refine wp_cond_true (e90.trans (congrArg _ hc12)) ?_;refine wp_seq (vM ab [jb r0] ⟨am fun c=>ea rfl aD ak ((c.p e1).trans r0.ptr) (c.B 0),dQ fun c=>⟨_,_,(bj rfl rfl ge (c.q 0)),gQ t.k t.ch t.ng t.rv.v t.rows t.mn t.mx t.lz t.kv.v rfl _ (hT.at (ab.ext.trans c.J.ext)).rows⟩,bm 1,aE 2 rfl fun c hpc=>aI rfl (c.p e3),aE 2 rfl fun c hpc=>bW rfl (c.M 3 hpc) rfl,bL 2 4,aF 5,ax⟩ fun ac ag ae ab aa=> ?_);obtain ⟨e1,e3,e25⟩:=aa.k3 e1 e3 e25;have e2:=aa.V 6;replace r0:=aa.B 0;refine wp_ret ?_;refine rp ?_;refine cJ (fn:=Tryz.f68) rfl ab.defers e2 ?_;exact ⟨congrArg _ (congrArg _ (by exact eh (k:=k) q1 (by omega) (by unfold cB;(repeat (first | rw [if_neg (by omega)] | rw [if_pos (by omega)]));(try rfl)))),ab.ext0⟩
 have hd13:=hc12;try simp only [ah] at hd13
 refine wp_seq (ew ab [jb r0] ⟨am fun c=>bW rfl (c.p e25) rfl,aF 0,ax⟩ fun ac ag ae ab aa=> ?_);obtain ⟨e1,e3,e25⟩:=aa.k3 e1 e3 e25;have e90:=aa.V 1;replace r0:=aa.B 0;refine wp_cond_split e90 (fun hc14=> ?_) (fun hc14=> ?_)
 · have hd14:=hc14;try simp only [ai] at hd14
   refine wp_skip ?_;refine wp_cond_true (e90.trans (congrArg _ hc14)) ?_;refine wp_seq (vM ab [jb r0] ⟨am fun c=>ea rfl aD ak ((c.p e1).trans r0.ptr) (c.B 0),dQ fun c=>⟨_,_,(bj rfl rfl ge (c.q 0)),gQ t.k t.ch t.ng t.rv.v t.rows t.mn t.mx t.lz t.kv.v rfl _ (hT.at (ab.ext.trans c.J.ext)).rows⟩,bm 1,aE 2 rfl fun c hpc=>aI rfl (c.p e3),aE 2 rfl fun c hpc=>bW rfl (c.M 3 hpc) rfl,bL 2 4,aF 5,ax⟩ fun ac ag ae ab aa=> ?_);obtain ⟨e1,e3,e25⟩:=aa.k3 e1 e3 e25;have e2:=aa.V 6;replace r0:=aa.B 0;refine wp_ret ?_;refine rp ?_;refine cJ (fn:=Tryz.f68) rfl ab.defers e2 ?_;exact ⟨congrArg _ (congrArg _ (by exact eh (k:=k) q1 (by omega) (by unfold cB;(repeat (first | rw [if_neg (by omega)] | rw [if_pos (by omega)]));(try rfl)))),ab.ext0⟩
 have hd15:=hc14;try simp only [ah] at hd15
 refine wp_seq (ew ab [jb r0] ⟨am fun c=>bW rfl (c.p e25) rfl,aF 0,ax⟩ fun ac ag ae ab aa=> ?_);obtain ⟨e1,e3,e25⟩:=aa.k3 e1 e3 e25;have e90:=aa.V 1;replace r0:=aa.B 0;refine wp_cond_split e90 (fun hc16=> ?_) (fun hc16=> ?_)
 · have hd16:=hc16;try simp only [ai] at hd16
   refine wp_skip ?_;refine wp_cond_true (e90.trans (congrArg _ hc16)) ?_;refine wp_seq (vM ab [jb r0] ⟨am fun c=>ea rfl aD ak ((c.p e1).trans r0.ptr) (c.B 0),dQ fun c=>⟨_,_,(bj rfl rfl ge (c.q 0)),gQ t.k t.ch t.ng t.rv.v t.rows t.mn t.mx t.lz t.kv.v rfl _ (hT.at (ab.ext.trans c.J.ext)).rows⟩,bm 1,aE 2 rfl fun c hpc=>aI rfl (c.p e3),aE 2 rfl fun c hpc=>bW rfl (c.M 3 hpc) rfl,bL 2 4,aF 5,ax⟩ fun ac ag ae ab aa=> ?_);obtain ⟨e1,e3,e25⟩:=aa.k3 e1 e3 e25;have e2:=aa.V 6;replace r0:=aa.B 0;refine wp_ret ?_;refine rp ?_;refine cJ (fn:=Tryz.f68) rfl ab.defers e2 ?_;exact ⟨congrArg _ (congrArg _ (by exact eh (k:=k) q1 (by omega) (by unfold cB;(repeat (first | rw [if_neg (by omega)] | rw [if_pos (by omega)]));(try rfl)))),ab.ext0⟩
 have hd17:=hc16;try simp only [ah] at hd17
 refine ew ab [jb r0] ⟨am fun c=>bW rfl (c.p e25) rfl,aF 0,ax⟩ fun ac ag ae ab aa=> ?_;obtain ⟨e1,e3,e25⟩:=aa.k3 e1 e3 e25;have e90:=aa.V 1;replace r0:=aa.B 0;refine wp_cond_split e90 (fun hc18=> ?_) (fun hc18=> ?_)
 · have hd18:=hc18;try simp only [ai] at hd18
   refine wp_seq (vM ab [jb r0] ⟨am fun c=>ea rfl aD ak ((c.p e1).trans r0.ptr) (c.B 0),dQ fun c=>⟨_,_,(bj rfl rfl ge (c.q 0)),gQ t.k t.ch t.ng t.rv.v t.rows t.mn t.mx t.lz t.kv.v rfl _ (hT.at (ab.ext.trans c.J.ext)).rows⟩,bm 1,aE 2 rfl fun c hpc=>aI rfl (c.p e3),aE 2 rfl fun c hpc=>bW rfl (c.M 3 hpc) rfl,bL 2 4,aF 5,ax⟩ fun ac ag ae ab aa=> ?_);obtain ⟨e1,e3,e25⟩:=aa.k3 e1 e3 e25;have e2:=aa.V 6;replace r0:=aa.B 0;refine wp_ret ?_;refine rp ?_;refine cJ (fn:=Tryz.f68) rfl ab.defers e2 ?_;exact ⟨congrArg _ (congrArg _ (by exact eh (k:=k) q1 (by omega) (by unfold cB;(repeat (first | rw [if_neg (by omega)] | rw [if_pos (by omega)]));(try rfl)))),ab.ext0⟩
 have hd18:=hc18;try simp only [ah] at hd18
 refine wp_seq (ew ab [jb r0] ⟨am fun c=>bW rfl (c.p e25) rfl,aF 0,ax⟩ fun ac ag ae ab aa=> ?_);obtain ⟨e1,e3,e25⟩:=aa.k3 e1 e3 e25;have e102:=aa.V 1;replace r0:=aa.B 0;refine wp_cond_split e102 (fun hc19=> ?_) (fun hc19=> ?_)
 · try simp only [ai] at hc19
   refine wp_seq (eJ ab [jb r0] ⟨cc aq eW e1 r0.ptr,dJ jP 0 0 3,aF 1,ax⟩ fun ac ag ae ab aa=> ?_);obtain ⟨e1,e3,e25⟩:=aa.k3 e1 e3 e25;have e8:=aa.V 2;replace r0:=aa.B 0;refine wp_seq (ew ab [jb r0] ⟨cc aq eW e1 r0.ptr,cj (cx:=[(aj t.k),(aR t.ch),(az t.ng),(.slice none 0 0),(aj t.mn),(aj t.mx),(az t.lz),t.kv.v]) (v:=(.slice none 0 0)) eW fun c=>⟨c.bp 0 rfl e1,c.ad (c.q 0) e1 rfl,rfl⟩,ax⟩ fun ac ag ae ab aa=> ?_);obtain ⟨e1,e3,e8,e25⟩:=aa.k4 e1 e3 e8 e25;replace r0:=aa.RB 1 e1;refine wp_seq (ew ab [jb r0] ⟨cc aq ba e1 r0.ptr,cj (cx:=[(aj t.k),(aR t.ch),(az false),(.slice none 0 0),(aj t.mn),(aj t.mx),(az t.lz),t.kv.v]) (v:=(az false)) ba fun c=>⟨c.bp 0 rfl e1,c.ad (c.q 0) e1 rfl,rfl⟩,ax⟩ fun ac ag ae ab aa=> ?_);obtain ⟨e1,e3,e8,e25⟩:=aa.k4 e1 e3 e8 e25;replace r0:=aa.RB 1 e1;refine wp_seq ?_;refine pD [0,1,3,7,15,31,63,127,255,511,1023] ab [jb r0] ⟨am fun c=>ea rfl aD ak ((c.p e1).trans r0.ptr) (c.B 0),dQ fun c=>⟨_,_,(bj rfl rfl ge (c.q 0)),gQ t.k t.ch false (.slice none 0 0) [] t.mn t.mx t.lz t.kv.v rfl _ (SlT.nil _ _)⟩,bm 1,aE 2 rfl fun c hpc=>aI rfl (c.p e3),aE 2 rfl fun c hpc=>bW rfl (c.M 3 hpc) rfl,bL 2 4,bm 5,aE 6 rfl fun c hpc=>aI rfl (c.p e8),fq 6 true rfl fun c hpc=>⟨_,_,(bj rfl rfl Tryz.call87 (c.M 7 hpc)),yG t.rv.v t.rows _ (hT.at (ab.ext.trans c.J.ext)).rows (by first | assumption | (unfold pa;decide)) (by have hq0:=hpc;(try simp only [aw,ai] at hq0);omega)⟩,bL 6 8,aF 9,ax⟩ fun ac ag ae ab aa=> ?_;obtain ⟨e1,e3,e25⟩:=aa.k3 e1 e3 e25;have e2:=aa.V 10;replace r0:=aa.B 0;refine wp_ret ?_;refine rp ?_;refine cJ (fn:=Tryz.f68) rfl ab.defers e2 ?_;exact ⟨congrArg _ (congrArg _ (by exact eh (k:=k) q1 (by omega) (by unfold cB;(repeat (first | rw [if_neg (by omega)] | rw [if_pos (by omega)]));(try rfl)))),ab.ext0⟩
 try simp only [ah] at hc19
 refine wp_seq ?_;refine wp_seq (ew ab [jb r0] ⟨am fun c=>bW rfl (c.p e25) rfl,aF 0,ax⟩ fun ac ag ae ab aa=> ?_);obtain ⟨e1,e3,e25⟩:=aa.k3 e1 e3 e25;have e118:=aa.V 1;replace r0:=aa.B 0;refine wp_cond_split e118 (fun hc20=> ?_) (fun hc20=> ?_)
 · have hd20:=hc20;try simp only [ai] at hd20
   refine wp_skip ?_;refine wp_cond_true (e118.trans (congrArg _ hc20)) ?_;refine wp_seq (vM ab [jb r0] ⟨am fun c=>ea rfl aD ak ((c.p e1).trans r0.ptr) (c.B 0),dQ fun c=>⟨_,_,(bj rfl rfl ge (c.q 0)),gQ t.k t.ch t.ng t.rv.v t.rows t.mn t.mx t.lz t.kv.v rfl _ (hT.at (ab.ext.trans c.J.ext)).rows⟩,bm 1,aE 2 rfl fun c hpc=>aI rfl (c.p e3),aE 2 rfl fun c hpc=>bW rfl (c.M 3 hpc) rfl,bL 2 4,aF 5,ax⟩ fun ac ag ae ab aa=> ?_);obtain ⟨e1,e25⟩:=aa.k2 e1 e25;have e2:=aa.V 6;replace r0:=aa.B 0;refine wp_ret ?_;refine rp ?_;refine cJ (fn:=Tryz.f68) rfl ab.defers e2 ?_;exact ⟨congrArg _ (congrArg _ (by exact eh (k:=k) q1 (by omega) (by unfold cB;(repeat (first | rw [if_neg (by omega)] | rw [if_pos (by omega)]));(try rfl)))),ab.ext0⟩
 have hd21:=hc20;try simp only [ah] at hd21
 refine ew ab [jb r0] ⟨am fun c=>bW rfl (c.p e25) rfl,aF 0,ax⟩ fun ac ag ae ab aa=> ?_;obtain ⟨e1,e3,e25⟩:=aa.k3 e1 e3 e25;have e118:=aa.V 1;replace r0:=aa.B 0;refine wp_cond_split e118 (fun hc22=> ?_) (fun hc22=> ?_)
 · have hd22:=hc22;try simp only [ai] at hd22
   refine wp_seq (vM ab [jb r0] ⟨am fun c=>ea rfl aD ak ((c.p e1).trans r0.ptr) (c.B 0),dQ fun c=>⟨_,_,(bj rfl rfl ge (c.q 0)),gQ t.k t.ch t.ng t.rv.v t.rows t.mn t.mx t.lz t.kv.v rfl _ (hT.at (ab.ext.trans c.J.ext)).rows⟩,bm 1,aE 2 rfl fun c hpc=>aI rfl (c.p e3),aE 2 rfl fun c hpc=>bW rfl (c.M 3 hpc) rfl,bL 2 4,aF 5,ax⟩ fun ac ag ae ab aa=> ?_);obtain ⟨e1,e25⟩:=aa.k2 e1 e25;have e2:=aa.V 6;replace r0:=aa.B 0;refine wp_ret ?_;refine rp ?_;refine cJ (fn:=Tryz.f68) rfl ab.defers e2 ?_;exact ⟨congrArg _ (congrArg _ (by exact eh (k:=k) q1 (by omega) (by unfold cB;(repeat (first | rw [if_neg (by omega)] | rw [if_pos (by omega)]));(try rfl)))),ab.ext0⟩
 have hd22:=hc22;try simp only [ah] at hd22
 refine wp_seq (ew ab [jb r0] ⟨am fun c=>bW rfl (c.p e25) rfl,aF 0,ax⟩ fun ac ag ae ab aa=> ?_);replace e1:=aa.k1 e1;have e127:=aa.V 1;replace r0:=aa.B 0;refine wp_cond_split e127 (fun hc23=> ?_) (fun hc23=> ?_)
 · try simp only [ai] at hc23
   refine wp_seq (eJ ab [jb r0] ⟨am fun c=>ea rfl aD ak ((c.p e1).trans r0.ptr) (c.B 0),dQ fun c=>⟨_,_,(bj rfl rfl Tryz.call88 (c.q 0)),vg t _ (hT.at (ab.ext.trans c.J.ext)) (by omega)⟩,aF 1,ax⟩ fun ac ag ae ab aa=> ?_);have e2:=aa.V 2;refine wp_ret ?_;refine rp ?_;refine cJ (fn:=Tryz.f68) rfl ab.defers e2 ?_;exact ⟨congrArg _ (congrArg _ (by exact eh (k:=k) q1 (by omega) (FU (by omega)))),ab.ext0⟩
 try simp only [ah] at hc23
 refine wp_skip ?_;show _;refine wp_seq (ex ab [jb r0] ⟨am fun c=>ar rfl rfl,ax⟩ fun ac ag ae ab aa=> ?_);have e2:=aa.V 0;refine wp_ret ?_;refine rp ?_;refine cJ (fn:=Tryz.f68) rfl ab.defers e2 ?_;exact ⟨congrArg _ (congrArg _ (by first | exact qz (k:=k) (by omega) (by assumption) | exact eh (k:=k) q_1 (by omega) (nY (k:=j) (by omega) (by omega) (by assumption)) | exact eh (k:=k) q_1 (by omega) (nZ (k:=j) (by omega) (by omega) (by assumption)) | exact eh (k:=k) q1 (by omega) (by unfold cB;(repeat (first | rw [if_neg (by omega)] | rw [if_pos (by omega)]));(try rfl)))),ab.ext0⟩
theorem AE (t:Tr):∀(w:World),mb w t→fD t≤1000000→Calls Tryz.prog 68 #[t.v] w (fun e w'=>e= .returned (.bool (gL t))∧Ext aY w w'):=Tr.ind (P:=fun t=>∀(w:World),mb w t→fD t≤1000000→Calls Tryz.prog 68 #[t.v] w (fun e w'=>e= .returned (.bool (gL t))∧Ext aY w w')) vh t
set_option maxRecDepth 100000 in
theorem AF (t:Tr) (w:World) (hT:mb w t) (hP:fD t≤1000000):Calls Tryz.prog 42 #[(ta t)] w (fun e w'=>e= .returned (az ((decide (ck t≤512)&&decide (eD t≤16))&&gL t))∧Ext aY w w'):=by
 refine enter (n:=15) Tryz.func42 rfl rfl (av rfl) ?_;intro a0 τ0 ha st0;have e0:aT a0 0=(ta t):=ha 0 _ rfl;clear ha;have hwt:=ef t;refine wp_seq (rg [box _ _ 0 1 (tc t),_] [0,0] st0 [] ⟨fl (v:=(ta t)) rfl rfl rfl rfl rfl (fun _ _ _ _ c=>(c.p e0)),am fun c=>ar rfl rfl,ax⟩ fun ac ag ae ab aa=> ?_);obtain ⟨b1x1,e1⟩:=gx ac 1;have e2:=aa.V 1;have r0:=aa.rb 0 e1 rfl;refine wp_seq ?_;refine rg [_,_,_,_,_,_,_,_,_,_,_,_,_] [0,1,3,7,15,31,63,127,255,511,1023,2047,4095] ab [jb r0] ⟨am fun c=>ea rfl aD ak ((c.p e1).trans r0.ptr) (c.B 0),dQ fun c=>⟨_,_,(bj rfl rfl Tryz.call66 (c.q 0)),wo t _ (hT.at (ab.ext.trans c.J.ext)) (by omega)⟩,am fun c=>jZ rfl (c.q 1) rfl,bm 2,aE 3 rfl fun c hpc=>ea rfl aD ak ((c.p e1).trans r0.ptr) (c.B 0),fq 3 true rfl fun c hpc=>⟨_,_,(bj rfl rfl Tryz.call67 (c.M 4 hpc)),yF t _ (hT.at (ab.ext.trans c.J.ext)) (by have hq0:=bt hpc;omega)⟩,aE 3 rfl fun c hpc=>jZ rfl (c.M 5 hpc) rfl,bL 3 6,bm 7,aE 8 rfl fun c hpc=>ea rfl aD ak ((c.p e1).trans r0.ptr) (c.B 0),fq 8 true rfl fun c hpc=>⟨_,_,(bj rfl rfl Tryz.call68 (c.M 9 hpc)),AE t _ (hT.at (ab.ext.trans c.J.ext)) (by have hq0:=hpc;(try simp only [aw,ai] at hq0);omega)⟩,bL 8 10,aF 11,ax⟩ fun ac ag ae ab aa=> ?_;have e2:=aa.V 12;refine wp_ret ?_;refine rp ?_;refine cJ (fn:=Tryz.f42) rfl ab.defers e2 ?_;exact ⟨rfl,ab.ext0⟩
end
section
open Srt
theorem yI (t:Tr) (d:Int):(eD t≤d)↔(kH (t.kids.map eD)≤dg t d):=by
  rw [lf];unfold dg;split <;> omega
theorem yJ (t:Tr):∀n d:Int,0≤n→0≤d→(((cY t n d).2=true↔(ck t≤n∧eD t≤d∧gL t=true))∧((cY t n d).2=true→(cY t n d).1=n - ck t)):=by
  induction t using Tr.ind with
  | h t ih =>
    intro n d hn hd;have hK:∀ks:List Tr,(∀k ∈ ks,k ∈ t.kids)→∀m d:Int,0≤m→0≤d→(((im (ks.map cY) m d).2=true↔(di (ks.map ck)≤m∧kH (ks.map eD)≤d∧ks.all gL=true))∧((im (ks.map cY) m d).2=true→(im (ks.map cY) m d).1=m - di (ks.map ck))):=by
      intro ks;induction ks with
      | nil => intro _ m d h h2; simp [im, di, kH]; omega
      | cons k ks ih2 =>
        intro hm m d h h2;obtain ⟨i1,i2⟩:=ih k (hm k (by simp)) m d h h2;have hr:=nH k (n:=m) (d:=d) h;have hs:di ((k::ks).map ck)=ck k+di (ks.map ck):=by
          rw [show k::ks=[k]++ks from rfl,bU,jS];simp [di]
        have hx:∀d:Int,kH ((k::ks).map eD)≤d↔(eD k≤d∧kH (ks.map eD)≤d):=by
          intro d;constructor
          · intro hh;refine ⟨kM (rc (by simp)) hh,qu (kM (nv _) hh) fun x hx=>kM (rc (by simp at hx ⊢;exact .inr hx)) hh⟩
          · rintro ⟨h3,h4⟩
            refine qu (kM (nv _) h4) fun x hx=> ?_;simp at hx;rcases hx with rfl | ⟨q,hq,rfl⟩
            · exact h3
            · exact kM (rc (List.mem_map.2 ⟨q,hq,rfl⟩)) h4
        have hp:0≤di (ks.map ck):=iA fun x hx=>by
          obtain ⟨q,_,rfl⟩:=List.mem_map.1 hx;have:=iT q;omega
        rw [bu,im,hs,hx];split
        · rename_i hf;have hf':=i2 hf;obtain ⟨g1,g2,g3⟩:=i1.1 hf;obtain ⟨j1,j2⟩:=ih2 (fun x hx=>hm x (by simp [hx])) (cY k m d).1 d hr.1 h2;rw [hf'] at j1 j2 ⊢;refine ⟨?_,fun hh=> ?_⟩
          · rw [j1,dM,g3,fI];constructor
            · rintro ⟨a,b,c⟩;exact ⟨by omega,⟨g2,b⟩,c⟩
            · rintro ⟨a,⟨_,b⟩,c⟩;exact ⟨by omega,b,c⟩
          · rw [j2 hh];omega
        · rename_i hf;refine ⟨⟨fun hh=>(by cases hh),fun ⟨a,b,c⟩=> ?_⟩,fun hh=>(by cases hh)⟩;rw [dM,aw] at c;exact absurd (i1.2 ⟨by omega,b.1,c.1⟩) hf
    have hp:0≤di (t.kids.map ck):=iA fun x hx=>by
      obtain ⟨q,_,rfl⟩:=List.mem_map.1 hx;have:=iT q;omega
    have hx0:=nv (t.kids.map eD);rw [nG,jn,gF,yI];split
    · rename_i hc;refine ⟨⟨fun hh=>(by cases hh),fun ⟨a,b,c⟩=> ?_⟩,fun hh=>(by cases hh)⟩;rw [aw] at c;simp [c.2] at hc;omega
    · rename_i hc;simp only [aO,ai,aB,not_or,aX,aU] at hc;obtain ⟨j1,j2⟩:=hK t.kids (fun _ h=>h) (n - 1) (dg t d) (by omega) (by omega);refine ⟨?_,fun hh=> ?_⟩
      · rw [j1,hc.2,Bool.and_true];constructor
        · rintro ⟨a,b,c⟩;exact ⟨by omega,b,c⟩
        · rintro ⟨a,b,c⟩;exact ⟨by omega,b,c⟩
      · rw [j2 hh];omega
def CP (t:Tr):Bool:=(decide (ck t≤512)&&decide (eD t≤16))&&gL t
theorem tV (t:Tr):(cY t 512 16).2=CP t:=by
  rw [eV,(yJ t 512 16 (by omega) (by omega)).1];unfold CP;rw [aw,aw,ai,ai,and_assoc]
theorem wu (t:Tr):cB (er t)=cB t:=by
  have h1:∀f:Int→Bool,(er t).kids.any (fun x=>f x.k)=t.kids.any (fun x=>f x.k):=fun f=>by
    rw [mI,List.any_map];congr 1;funext x;simp [yt]
  have h2:(nth (er t).kids 0).k=(nth t.kids 0).k:=by
    rw [mI];cases hk:t.kids with
    | nil => rfl
    | cons x l =>
      show (nth (List.map er (x::l)) 0).k=x.k;rw [←yt x];rfl
  have h3:(er t).kids.length=t.kids.length:=by rw [mI];simp
  have h4:∀ks,oo (er t) ks=oo t ks:=fun ks=>h1 fun k=>ks.any fun y=>decide (k=y);have h5:ln (er t)=ln t:=by unfold ln;rw [oQ]
  unfold cB;rw [h2,h3,h4,h4,h5];rw [oQ]
theorem vi (t:Tr):cY (er t)=cY t:=oY (fun t l=>by funext n d;rw [wu];unfold dg oG;rw [yt]) t
end
section
open Srt
def cM (cs:List ByteArray) (i:Nat):ByteArray:=if (cs.length:Int)≤(i:Int) then ⟨#[]⟩ else nth cs (i:Int)
def eR (cs:List ByteArray) (i:Nat) (c:ByteArray):Bool:= !(decide ((cs.length:Int)≤(i:Int)) || (!(ix (nth cs (i:Int)) c)))
def tkN (cs:List ByteArray) (i:Nat) (c:ByteArray):Nat:=if eR cs i c=true then i+1 else i
theorem jf {cs:List ByteArray} {i:Nat} {c:ByteArray} (h:eR cs i c=true):tkN cs i c=i+1:=if_pos h
theorem jX {cs:List ByteArray} {i:Nat} {c:ByteArray} (h:eR cs i c=false):tkN cs i c=i:=if_neg (by rw [h];decide)
theorem EM (cs:List ByteArray) (i:Nat) (c:ByteArray):tkN cs i c≤i+1∧i≤tkN cs i c:=by unfold tkN;split <;> omega
theorem gE {cs:List ByteArray} {i:Nat} {c:ByteArray} (h:eR cs i c=true):i < cs.length:=by
  simp [eR] at h;omega
theorem gY {cs:List ByteArray} {i:Nat} (h:((cM cs i).size:Int)=1):i < cs.length:=by
  unfold cM at h;split at h
  · exact absurd h (by decide)
  · omega
theorem mV {cs:List ByteArray} {i:Nat} (h:ix (cM cs i) (⟨#[]⟩:ByteArray)=false):i < cs.length:=by
  unfold cM at h;split at h
  · exact absurd h (by decide+kernel)
  · omega
def tW (n:Int):Bool:=(decide (65≤n)&&decide (n≤90)) || (decide (97≤n)&&decide (n≤122))
def kj (n:Int):Bool:=decide (48≤n)&&decide (n≤57)
def hN:Tr:=dp 0 ⟨#[]⟩ false 0 0 false
def mW (ng:Bool) (rv:Sv) (rows:List Rw):Tr:=⟨4,⟨#[]⟩,ng,rv,rows,0,0,false,Sv.nil,[]⟩
theorem AG (ng:Bool) (rv:Sv) (rows:List Rw):er (mW ng rv rows)=mW ng Sv.nil rows:=by rw [oQ];rfl
theorem FV {G Z:aP} {w:World} {ng:Bool} {rv:Sv} {rows:List Rw} (h:(dI iF G rv.v rows).P Z w):(ia G (mW ng rv rows)).P Z w:=
  .mk h.1 h.2 (SlT.nil _ _) (fun h=>absurd rfl h) (fun k h=>by cases h)
def fF (c:ByteArray):ByteArray × Bool:=
  if ix c ⟨#[]⟩=true then (⟨#[]⟩,false) else if ix c ⟨#[110]⟩=true then (⟨#[10]⟩,true) else if ix c ⟨#[114]⟩=true then (⟨#[13]⟩,true) else if ix c ⟨#[116]⟩=true then (⟨#[9]⟩,true)
  else if ix c ⟨#[102]⟩=true then (⟨#[12]⟩,true) else if ix c ⟨#[118]⟩=true then (⟨#[11]⟩,true)
  else if (decide ((c.size:Int)=1)&&(tW (bZ c 0) || kj (bZ c 0)))=true then (⟨#[]⟩,false) else (c,true)
def nk (cs:List ByteArray):Nat→Int→Nat→Nat→Int × Nat × Nat
  | 0, n, m, i => (n, m, i)
  | f + 1, n, m, i => if ((decide ((m : Int) < 3) && decide (((cM cs i).size : Int) = 1)) && kj (bZ (cM cs i) 0)) = true then nk cs f (n * 10 + (bZ (cM cs i) 0 - 48)) (m + 1) (i + 1) else (n, m, i)
def cn (cs:List ByteArray) (i:Nat):Int × Nat × Nat:=nk cs 4 0 0 i
def jl (r:Int × Nat × Nat):Bool:=decide ((0:Int) < (r.2.1:Int))&&decide (r.1≤255)
theorem qA (cs:List ByteArray):∀(f:Nat) (n:Int) (m i:Nat),i≤(nk cs f n m i).2.2∧((nk cs f n m i).2.2≤cs.length∨(nk cs f n m i).2.2=i)
  | 0, n, m, i => ⟨bq _, .inr rfl⟩
  | f + 1, n, m, i => by
    rw [nk];split
    · rename_i h;simp only [aw,ai] at h;have hlt:=gY h.1.2;have:=qA cs f (n * 10+(bZ (cM cs i) 0 - 48)) (m+1) (i+1);omega
    · exact ⟨bq _,.inr rfl⟩
theorem xE (cs:List ByteArray):∀(f:Nat) (n:Int) (m i:Nat),0≤n→m≤3→n < 10 ^ m→0≤(nk cs f n m i).1∧(nk cs f n m i).1 < 1000
  | 0, n, m, i => fun h0 hm h1 => ⟨h0, kZ h1 (by
      show (10:Int) ^ m≤1000;match m,hm with
      | 0, _ => decide
      | 1, _ => decide
      | 2, _ => decide
      | 3, _ => decide)⟩
  | f + 1, n, m, i => fun h0 hm h1 => by
    rw [nk];split
    · rename_i h;simp only [aw,ai,kj] at h;refine xE cs f _ (m+1) (i+1) (by omega) (by omega) ?_;rw [Int.pow_succ];omega
    · refine ⟨h0,kZ h1 ?_⟩;match m,hm with
      | 0, _ => decide
      | 1, _ => decide
      | 2, _ => decide
      | 3, _ => decide
theorem tX (cs:List ByteArray) (i:Nat):0≤(cn cs i).1∧(cn cs i).1 < 1000:=xE cs 4 0 0 i (by decide) (by decide) (by decide)
def AH (x:Tr) (mn mx:Int) (lz:Bool):Tr:=fV 7 ⟨#[]⟩ false mn mx lz Sv.nil [x]
def kK (cs:List ByteArray) (x:Tr) (j:Nat) (mn mx:Int):Tr × Int × Nat:=(AH x mn mx (eR cs j ⟨#[63]⟩),0,tkN cs j ⟨#[63]⟩)
def lT (cs:List ByteArray) (x:Tr) (mn mx:Int) (ok:Bool) (j:Nat):Tr × Int × Nat:=
  if ok=false then (hN,10,j) else if eR cs j ⟨#[125]⟩=false then (hN,10,j) else if ((!decide (mx= -1))&&decide (mx < mn))=true then (hN,10,j+1) else kK cs x (j+1) mn mx
def dV (cs:List ByteArray) (x:Tr) (i:Nat):Tr × Int × Nat:=
  if eR cs i ⟨#[42]⟩=true then kK cs x (i+1) 0 (-1)
  else if eR cs i ⟨#[43]⟩=true then kK cs x (i+1) 1 (-1)
  else if eR cs i ⟨#[63]⟩=true then kK cs x (i+1) 0 1
  else if eR cs i ⟨#[123]⟩=true then
    if jl (cn cs (i+1))=false then (hN,10,(cn cs (i+1)).2.2)
    else if eR cs (cn cs (i+1)).2.2 ⟨#[44]⟩=true then
      if ix (cM cs ((cn cs (i+1)).2.2+1)) ⟨#[125]⟩=false then lT cs x (cn cs (i+1)).1 (cn cs ((cn cs (i+1)).2.2+1)).1 (jl (cn cs ((cn cs (i+1)).2.2+1))) (cn cs ((cn cs (i+1)).2.2+1)).2.2
      else lT cs x (cn cs (i+1)).1 (-1) true ((cn cs (i+1)).2.2+1)
    else lT cs x (cn cs (i+1)).1 (cn cs (i+1)).1 true (cn cs (i+1)).2.2
  else (x,0,i)
def bI (cs:List ByteArray) (i:Nat):List Rw × ByteArray × Bool × Nat:=
  if (ix (cM cs i) ⟨#[]⟩ || ix (cM cs i) ⟨#[93]⟩)=true then ([],⟨#[]⟩,false,i)
  else if ix (cM cs i) ⟨#[92]⟩=false then ([],cM cs i,true,i+1)
  else if (decide (((cM cs (i+1)).size:Int)=1)&&hD (bZ (cM cs (i+1)) 0))=true then (gA (bZ (cM cs (i+1)) 0),⟨#[]⟩,true,i+2)
  else ([],(fF (cM cs (i+1))).1,(fF (cM cs (i+1))).2,i+2)
def iX (cs:List ByteArray) (ng:Bool):Nat→Nat→List Rw→Tr × Int × Nat
  | 0, i, _ => (hN, 99, i)
  | f + 1, i, rows =>
    if eR cs i ⟨#[93]⟩=true then (mW ng Sv.nil (gy rows),0,i+1)
    else if (bI cs i).2.2.1=false then (hN,10,(bI cs i).2.2.2)
    else if (0:Int) < ((bI cs i).1.length:Int) then iX cs ng f (bI cs i).2.2.2 (rows++(bI cs i).1)
    else if ((ix (cM cs (bI cs i).2.2.2) ⟨#[45]⟩&&decide (((bI cs i).2.2.2:Int)+1 < (cs.length:Int)))&& !(ix (nth cs (((bI cs i).2.2.2:Int)+1)) ⟨#[93]⟩))=true then
      if (((!(bI cs ((bI cs i).2.2.2+1)).2.2.1) || decide ((0:Int) < ((bI cs ((bI cs i).2.2.2+1)).1.length:Int))) || nn (bI cs ((bI cs i).2.2.2+1)).2.1 (bI cs i).2.1)=true then (hN,10,(bI cs ((bI cs i).2.2.2+1)).2.2.2)
      else iX cs ng f (bI cs ((bI cs i).2.2.2+1)).2.2.2 (rows++ [((bI cs i).2.1,(bI cs ((bI cs i).2.2.2+1)).2.1)])
    else iX cs ng f (bI cs i).2.2.2 (rows++ [((bI cs i).2.1,(bI cs i).2.1)])
def kk (cs:List ByteArray) (i:Nat):Tr × Int × Nat:=iX cs (eR cs i ⟨#[94]⟩) (cs.length+1) (tkN cs i ⟨#[94]⟩) []
def gO (cs:List ByteArray) (i:Nat):Tr × Int × Nat:=
  if (decide (((cM cs i).size:Int)=1)&&hD (bZ (fS (cM cs i)) 0))=true then (mW (!(ix (cM cs i) (fS (cM cs i)))) Sv.nil (gA (bZ (fS (cM cs i)) 0)),0,i+1)
  else if (fF (cM cs i)).2=false then (hN,10,i)
  else (dp 2 (fF (cM cs i)).1 false 0 0 false,0,i+1)
def EN (c:ByteArray):Bool:=((((((ix c ⟨#[42]⟩ || ix c ⟨#[43]⟩) || ix c ⟨#[63]⟩) || ix c ⟨#[41]⟩) || ix c ⟨#[123]⟩) || ix c ⟨#[124]⟩) || (!(eb c)))
def dL (sub:Int→Nat→Tr × Int × Nat) (cs:List ByteArray) (d:Int) (i:Nat):Tr × Int × Nat:=
  if eR cs i ⟨#[46]⟩=true then (dp 3 ⟨#[]⟩ false 0 0 false,0,i+1)
  else if eR cs i ⟨#[40]⟩=true then
    if 16≤d then (hN,8,i+1)
    else if eR cs (i+1) ⟨#[63]⟩=true then
      if eR cs (i+2) ⟨#[58]⟩=false then (hN,10,i+2)
      else if (sub (d+1) (i+3)).2.1≠0 then (hN,(sub (d+1) (i+3)).2.1,(sub (d+1) (i+3)).2.2)
      else if eR cs (sub (d+1) (i+3)).2.2 ⟨#[41]⟩=false then (hN,10,(sub (d+1) (i+3)).2.2)
      else (fV 6 ⟨#[]⟩ false 0 0 false Sv.nil [(sub (d+1) (i+3)).1],0,(sub (d+1) (i+3)).2.2+1)
    else if (sub (d+1) (i+1)).2.1≠0 then (hN,(sub (d+1) (i+1)).2.1,(sub (d+1) (i+1)).2.2)
    else if eR cs (sub (d+1) (i+1)).2.2 ⟨#[41]⟩=false then (hN,10,(sub (d+1) (i+1)).2.2)
    else (fV 5 ⟨#[]⟩ false 0 0 false Sv.nil [(sub (d+1) (i+1)).1],0,(sub (d+1) (i+1)).2.2+1)
  else if eR cs i ⟨#[91]⟩=true then kk cs (i+1)
  else if eR cs i ⟨#[92]⟩=true then gO cs (i+1)
  else if EN (cM cs i)=true then (hN,10,i)
  else (dp 2 (cM cs i) false 0 0 false,0,i+1)
def sP (cs:List ByteArray) (i:Nat) (c:ByteArray):Bool:=(ix (cM cs i) ⟨#[92]⟩&&decide ((i:Int)+1 < (cs.length:Int)))&&ix (nth cs ((i:Int)+1)) c
def eZ (sub:Int→Nat→Tr × Int × Nat) (cs:List ByteArray) (d:Int) (i:Nat):Tr × Int × Nat:=
  if eR cs i ⟨#[94]⟩=true then (dp 8 ⟨#[]⟩ false 0 0 false,0,i+1)
  else if eR cs i ⟨#[36]⟩=true then (dp 9 ⟨#[]⟩ false 0 0 false,0,i+1)
  else if sP cs i ⟨#[98]⟩=true then (dp 10 ⟨#[]⟩ false 0 0 false,0,i+2)
  else if sP cs i ⟨#[66]⟩=true then (dp 11 ⟨#[]⟩ false 0 0 false,0,i+2)
  else if (dL sub cs d i).2.1≠0 then (hN,(dL sub cs d i).2.1,(dL sub cs d i).2.2)
  else dV cs (dL sub cs d i).1 (dL sub cs d i).2.2
def vj (cs:List ByteArray) (i:Nat):Bool:=(decide ((i:Int) < (cs.length:Int))&& !(ix (cM cs i) ⟨#[124]⟩))&& !(ix (cM cs i) ⟨#[41]⟩)
def eK (cs:List ByteArray):Nat→Int→Nat→List Tr→List Tr→Tr × Int × Nat
  | 0, _, i, _, _ => (hN, 99, i)
  | f + 1, d, i, alts, terms =>
    if vj cs i=true then
      if (eZ (fun d j=>eK cs f d j [] []) cs d i).2.1≠0 then (hN,(eZ (fun d j=>eK cs f d j [] []) cs d i).2.1,(eZ (fun d j=>eK cs f d j [] []) cs d i).2.2)
      else eK cs f d (eZ (fun d j=>eK cs f d j [] []) cs d i).2.2 alts (terms++ [(eZ (fun d j=>eK cs f d j [] []) cs d i).1])
    else if eR cs i ⟨#[124]⟩=true then eK cs f d (i+1) (alts++ [lg terms]) []
    else (md (alts++ [lg terms]),0,i)
def fk (s:ByteArray):Tr × Int:=
  if 256 < (s.size:Int) then (hN,4)
  else if (eK (cN s) ((cN s).length+1) 0 0 [] []).2.1≠0 then (hN,(eK (cN s) ((cN s).length+1) 0 0 [] []).2.1)
  else if ((eK (cN s) ((cN s).length+1) 0 0 [] []).2.2:Int) < ((cN s).length:Int) then (hN,10)
  else ((eK (cN s) ((cN s).length+1) 0 0 [] []).1,0)
end
section
open Srt
theorem tY (cs:List ByteArray) (i:Nat) (c:ByteArray):i≤tkN cs i c∧(tkN cs i c≤cs.length∨tkN cs i c=i):=by
  unfold tkN;split
  · rename_i h;have:=gE h;omega
  · omega
theorem wv {c:ByteArray} (h:(fF c).2=true):ix c (⟨#[]⟩:ByteArray)=false:=by
  cases hz:ix c (⟨#[]⟩:ByteArray) with
  | false => rfl
  | true =>
    simp only [fF] at h;rw [if_pos hz] at h;cases h
theorem tZ {cs:List ByteArray} {i:Nat} (h:(bI cs i).2.2.1=true):i < (bI cs i).2.2.2∧(bI cs i).2.2.2≤cs.length:=by
  unfold bI at h ⊢;split at h
  · cases h
  · rename_i h0;have hlt:i < cs.length:=by
      rw [aQ,aG] at h0;exact mV h0.1
    rw [if_neg h0];split at h
    · rename_i h1;rw [if_pos h1];simp;omega
    · rename_i h1;rw [if_neg h1];split at h
      · rename_i h2;rw [if_pos h2];rw [aw,ai] at h2;have:=gY h2.1;simp;omega
      · rename_i h2;rw [if_neg h2];have:=mV (wv h);simp;omega
theorem oa (cs:List ByteArray) (x:Tr) (j:Nat) (mn mx:Int):j≤(kK cs x j mn mx).2.2∧((kK cs x j mn mx).2.2≤cs.length∨(kK cs x j mn mx).2.2=j):=tY cs j _
theorem ua (cs:List ByteArray) (i:Nat):i≤(cn cs i).2.2∧((cn cs i).2.2≤cs.length∨(cn cs i).2.2=i):=qA cs 4 0 0 i
theorem ub {cs:List ByteArray} {x:Tr} {mn mx:Int} {ok:Bool} {j:Nat} (h:(lT cs x mn mx ok j).2.1=0):j≤(lT cs x mn mx ok j).2.2∧(lT cs x mn mx ok j).2.2≤cs.length:=by
  unfold lT at h ⊢;split at h
  · cases h
  · rename_i h1;rw [if_neg h1];split at h
    · cases h
    · rename_i h2;rw [if_neg h2];split at h
      · cases h
      · rename_i h3;rw [if_neg h3];have:=gE (by simpa using h2:eR cs j ⟨#[125]⟩=true);have:=oa cs x (j+1) mn mx;omega
theorem AI {cs:List ByteArray} {x:Tr} {i:Nat} (h:(dV cs x i).2.1=0):i≤(dV cs x i).2.2∧((dV cs x i).2.2≤cs.length∨(dV cs x i).2.2=i):=by
  have one:∀c,eR cs i c=true→∀mn mx,i≤(kK cs x (i+1) mn mx).2.2∧((kK cs x (i+1) mn mx).2.2≤cs.length∨(kK cs x (i+1) mn mx).2.2=i):=fun c hc mn mx=>by
    have:=gE hc;have:=oa cs x (i+1) mn mx;omega
  unfold dV at h ⊢;split
  · exact one _ (by assumption) _ _
  · split
    · exact one _ (by assumption) _ _
    · split
      · exact one _ (by assumption) _ _
      · split
        · rename_i h1 h2 h3 h4;rw [if_neg h1,if_neg h2,if_neg h3,if_pos h4] at h;have a1:=gE h4;have a2:=ua cs (i+1);split
          · rename_i h5;rw [if_pos h5] at h;cases h
          · rename_i h5;rw [if_neg h5] at h;split
            · rename_i h6;rw [if_pos h6] at h;have a3:=ua cs ((cn cs (i+1)).2.2+1);split
              · rename_i h7;rw [if_pos h7] at h;have:=ub h;omega
              · rename_i h7;rw [if_neg h7] at h;have:=ub h;omega
            · rename_i h6;rw [if_neg h6] at h;have:=ub h;omega
        · exact ⟨bq _,.inr rfl⟩
theorem qB {cs:List ByteArray} {ng:Bool}:∀(f i:Nat) (rows:List Rw),(iX cs ng f i rows).2.1=0→i < (iX cs ng f i rows).2.2∧(iX cs ng f i rows).2.2≤cs.length
  | 0, i, rows, h => by cases h
  | f + 1, i, rows, h => by
    rw [iX] at h ⊢;split
    · rename_i h1;have:=gE h1;simp;omega
    · rename_i h1;rw [if_neg h1] at h;split
      · rename_i h2;rw [if_pos h2] at h;cases h
      · rename_i h2;rw [if_neg h2] at h;have a1:=tZ (by simpa using h2:(bI cs i).2.2.1=true);split
        · rename_i h3;rw [if_pos h3] at h;have:=qB f _ _ h;omega
        · rename_i h3;rw [if_neg h3] at h;split
          · rename_i h4;rw [if_pos h4] at h;split
            · rename_i h5;rw [if_pos h5] at h;cases h
            · rename_i h5;rw [if_neg h5] at h;have h6:(bI cs ((bI cs i).2.2.2+1)).2.2.1=true:=by
                rw [aQ,aG,aG,ay] at h5;exact h5.1.1
              have a2:=tZ h6;have:=qB f _ _ h;omega
          · rename_i h4;rw [if_neg h4] at h;have:=qB f _ _ h;omega
theorem ww {cs:List ByteArray} {i:Nat} (h:(kk cs i).2.1=0):i < (kk cs i).2.2∧(kk cs i).2.2≤cs.length:=by
  have a1:=qB _ _ _ h;have a2:=tY cs i (⟨#[94]⟩:ByteArray);unfold kk at h ⊢;omega
theorem uc {cs:List ByteArray} {i:Nat} (h:(gO cs i).2.1=0):i < (gO cs i).2.2∧(gO cs i).2.2≤cs.length:=by
  unfold gO at h ⊢;split
  · rename_i h1;rw [aw,ai] at h1;have:=gY h1.1;simp;omega
  · rename_i h1;rw [if_neg h1] at h;split
    · rename_i h2;rw [if_pos h2] at h;cases h
    · rename_i h2;have:=mV (wv (by simpa using h2));simp;omega
def sQ (cs:List ByteArray) (sub:Int→Nat→Tr × Int × Nat):Prop:=∀(d2:Int) (j:Nat),(sub d2 j).2.1=0→j≤(sub d2 j).2.2∧((sub d2 j).2.2≤cs.length∨(sub d2 j).2.2=j)
theorem qC {sub:Int→Nat→Tr × Int × Nat} {cs:List ByteArray} {d:Int} {i:Nat} (hs:sQ cs sub) (h:(dL sub cs d i).2.1=0):i < (dL sub cs d i).2.2∧(dL sub cs d i).2.2≤cs.length:=by
  unfold dL at h ⊢;split
  · rename_i h1;have:=gE h1;simp;omega
  · rename_i h1;rw [if_neg h1] at h;split
    · rename_i h2;rw [if_pos h2] at h;have a2:=gE h2;split
      · rename_i h3;rw [if_pos h3] at h;cases h
      · rename_i h3;rw [if_neg h3] at h;split
        · rename_i h4;rw [if_pos h4] at h;split
          · rename_i h5;rw [if_pos h5] at h;cases h
          · rename_i h5;rw [if_neg h5] at h;split
            · rename_i h6;rw [if_pos h6] at h;exact absurd h h6
            · rename_i h6;rw [if_neg h6] at h;split
              · rename_i h7;rw [if_pos h7] at h;cases h
              · rename_i h7;have a3:=gE (by simpa using h7:eR cs (sub (d+1) (i+3)).2.2 ⟨#[41]⟩=true);have a4:=hs (d+1) (i+3) (Classical.byContradiction h6);simp;omega
        · rename_i h4;rw [if_neg h4] at h;split
          · rename_i h6;rw [if_pos h6] at h;exact absurd h h6
          · rename_i h6;rw [if_neg h6] at h;split
            · rename_i h7;rw [if_pos h7] at h;cases h
            · rename_i h7;have a3:=gE (by simpa using h7:eR cs (sub (d+1) (i+1)).2.2 ⟨#[41]⟩=true);have a4:=hs (d+1) (i+1) (Classical.byContradiction h6);simp;omega
    · rename_i h2;rw [if_neg h2] at h;split
      · rename_i h3;rw [if_pos h3] at h;have:=ww h;omega
      · rename_i h3;rw [if_neg h3] at h;split
        · rename_i h4;rw [if_pos h4] at h;have:=uc h;omega
        · rename_i h4;rw [if_neg h4] at h;split
          · rename_i h5;rw [if_pos h5] at h;cases h
          · rename_i h5;have hne:ix (cM cs i) (⟨#[]⟩:ByteArray)=false:=by
              cases hz:ix (cM cs i) (⟨#[]⟩:ByteArray) with
              | false => rfl
              | true =>
                rw [qr.1 hz] at h5;exact absurd (by decide+kernel) h5
            have:=mV hne;simp;omega
theorem qD {cs:List ByteArray} {i:Nat} {c:ByteArray} (h:sP cs i c=true):i+1 < cs.length:=by
  unfold sP at h;simp only [aw,ai] at h;omega
theorem ud {sub:Int→Nat→Tr × Int × Nat} {cs:List ByteArray} {d:Int} {i:Nat} (hs:sQ cs sub) (h:(eZ sub cs d i).2.1=0):i < (eZ sub cs d i).2.2∧(eZ sub cs d i).2.2≤cs.length:=by
  unfold eZ at h ⊢;split
  · rename_i h1;have:=gE h1;simp;omega
  · rename_i h1;rw [if_neg h1] at h;split
    · rename_i h2;have:=gE h2;simp;omega
    · rename_i h2;rw [if_neg h2] at h;split
      · rename_i h3;have:=qD h3;simp;omega
      · rename_i h3;rw [if_neg h3] at h;split
        · rename_i h4;have:=qD h4;simp;omega
        · rename_i h4;rw [if_neg h4] at h;split
          · rename_i h5;rw [if_pos h5] at h;exact absurd h h5
          · rename_i h5;rw [if_neg h5] at h;have a1:=qC hs (Classical.byContradiction h5);have a2:=AI h;omega
theorem nI (cs:List ByteArray):∀(f:Nat) (d:Int) (i:Nat) (alts terms:List Tr),(eK cs f d i alts terms).2.1=0→i≤(eK cs f d i alts terms).2.2∧((eK cs f d i alts terms).2.2≤cs.length∨(eK cs f d i alts terms).2.2=i)
  | 0, d, i, alts, terms, h => by cases h
  | f + 1, d, i, alts, terms, h => by
    have hs:sQ cs fun d j=>eK cs f d j [] []:=fun d j hh=>nI cs f d j [] [] hh;rw [eK] at h ⊢;split
    · rename_i h1;rw [if_pos h1] at h;split
      · rename_i h2;rw [if_pos h2] at h;exact absurd h h2
      · rename_i h2;rw [if_neg h2] at h;have a1:=ud hs (Classical.byContradiction h2);have:=nI cs f d _ _ _ h;omega
    · rename_i h1;rw [if_neg h1] at h;split
      · rename_i h2;rw [if_pos h2] at h;have a1:=gE h2;have:=nI cs f d _ _ _ h;omega
      · exact ⟨bq _,.inr rfl⟩
end
section
open Srt
def Ea (x y:Int × Int):Bool:=decide (EA x y < 0)
theorem CQ (x y:Int × Int):EA x y=if x.1 < y.1 then -1 else if y.1 < x.1 then 1 else if x.2 < y.2 then -1 else if y.2 < x.2 then 1 else 0:=by
  unfold EA Gl Ez;by_cases h1:x.1 < y.1 <;> by_cases h2:y.1 < x.1 <;> by_cases h3:x.2 < y.2 <;> by_cases h4:y.2 < x.2 <;> simp [h1,h2,h3,h4,List.find?]
theorem ob (x y:Int × Int):Ea x y=true↔x.1 < y.1∨(x.1=y.1∧x.2 < y.2):=by
  unfold Ea;rw [CQ,ai];split
  · constructor <;> intro _ <;> omega
  · split
    · constructor <;> intro _ <;> omega
    · split
      · constructor <;> intro _ <;> omega
      · split
        · constructor <;> intro _ <;> omega
        · constructor <;> intro _ <;> omega
def qE (acc:List (Int × Int)) (p:Int × Int):Bool:=decide (0≤(acc.length:Int) - 1)&&pG (nth acc ((acc.length:Int) - 1)) p
def mo (acc:List (Int × Int)) (p:Int × Int):List (Int × Int):=
  if qE acc p=true then acc.set ((acc.length:Int) - 1).toNat ((nth acc ((acc.length:Int) - 1)).1,max (nth acc ((acc.length:Int) - 1)).2 p.2) else acc++ [p]
def na (xs:List (Int × Int)):List (Int × Int):=xs.foldl mo []
theorem rM (xs:List (Int × Int)) (p:Int × Int):na (xs++ [p])=mo (na xs) p:=by simp [na]
theorem oK {p q:Int × Int}:pG p q=true↔max p.1 q.1≤min p.2 q.2:=by simp [pG]
theorem vk (A:List (Int × Int)) (l:Int × Int):nth (A++ [l]) (((A++ [l]).length:Int) - 1)=l:=
  tD (A:=A) (B:=[]) (by simp)
theorem pk (q:Int × Int):mo [] q=[q]:=by simp [mo,qE]
theorem oq (A:List (Int × Int)) (l q:Int × Int):mo (A++ [l]) q=if pG l q=true then A++ [(l.1,max l.2 q.2)] else A++ [l]++ [q]:=by
  have h1:qE (A++ [l]) q=pG l q:=by
    unfold qE;rw [vk,decide_eq_true (by simp),fI]
  unfold mo;rw [h1,vk];split
  · rw [show (((A++ [l]).length:Int) - 1).toNat=A.length by simp];simp
  · rfl
def xF (xs:List (Int × Int)) (y:Int):Prop:=∃p ∈ xs,2 * p.1≤y∧y≤2 * p.2
def GB (xs:List (Int × Int)):Prop:=(∀p ∈ xs,p.1≤p.2)∧xs.Pairwise fun p q=>p.2 < q.1
theorem km (xs ys:List (Int × Int)) (y:Int):xF (xs++ys) y↔xF xs y∨xF ys y:=by
  simp only [xF,List.mem_append];constructor
  · rintro ⟨p,hp | hp,h⟩
    · exact .inl ⟨p,hp,h⟩
    · exact .inr ⟨p,hp,h⟩
  · rintro (⟨p,hp,h⟩ | ⟨p,hp,h⟩)
    · exact ⟨p,.inl hp,h⟩
    · exact ⟨p,.inr hp,h⟩
theorem ue (p:Int × Int) (y:Int):xF [p] y↔2 * p.1≤y∧y≤2 * p.2:=by simp [xF]
theorem CR {xs ys:List (Int × Int)} (h:∀p,p ∈ xs↔p ∈ ys) (y:Int):xF xs y↔xF ys y:=by
  simp only [xF,h]
theorem rN (ys:List (Int × Int)) (hs:oE Ea ys) (ho:∀p ∈ ys,p.1≤p.2):
    GB (na ys)∧(∀y,xF (na ys) y↔xF ys y)∧∀l ∈ na ys,∃p ∈ ys,l.1=p.1:=by
  induction ys using fv with
  | h0 => exact ⟨⟨fun p hp => by simp [na] at hp, by simp [na]⟩, fun y => Iff.rfl, fun l hl => by simp [na] at hl⟩
  | h1 ys q ih =>
    obtain ⟨hs1,_,hs2⟩:=List.pairwise_append.1 hs;obtain ⟨⟨i1,i2⟩,i3,i4⟩:=ih hs1 (fun p hp=>ho p (by simp [hp]));have hq:=ho q (by simp);have hle:∀l ∈ na ys,l.1≤q.1:=by
      intro l hl;obtain ⟨p,hp,e⟩:=i4 l hl;have:=hs2 p hp q (by simp);rw [←aQ,ob] at this
      omega
    rw [rM];cases hys:na ys with
    | nil =>
      rw [hys] at i3;rw [pk];refine ⟨⟨by simpa using hq,by simp⟩,fun y=> ?_,fun l hl=>⟨q,by simp,by simp at hl;rw [hl]⟩⟩;rw [km,←i3];simp [xF]
    | cons a l0 =>
      obtain ⟨A,l,e⟩:∃A l',a::l0=A++ [l']:=⟨(a::l0).dropLast,(a::l0).getLast (by simp),(List.dropLast_concat_getLast _).symm⟩;rw [hys,e] at i1 i2 i3 i4 hle;rw [e,oq];obtain ⟨j1,_,j2⟩:=List.pairwise_append.1 i2;have hl1:=hle l (by simp);have hl2:=i1 l (by simp);split
      · rename_i ht;rw [oK] at ht;refine ⟨⟨fun p hp=> ?_,List.pairwise_append.2 ⟨j1,by simp,fun p hp r hr=> ?_⟩⟩,fun y=> ?_,fun r hr=> ?_⟩
        · rcases List.mem_append.1 hp with hp | hp
          · exact i1 p (by simp [hp])
          · simp at hp;subst hp;show l.1≤max l.2 q.2;omega
        · simp at hr;subst hr;exact j2 p hp l (by simp)
        · rw [km,km,ue,ue,←i3,km,ue];show _∨(2 * l.1≤y∧y≤2 * max l.2 q.2)↔_;constructor
          · rintro (h | h)
            · exact .inl (.inl h)
            · by_cases hy:y≤2 * l.2
              · exact .inl (.inr ⟨h.1,hy⟩)
              · exact .inr ⟨by omega,by omega⟩
          · rintro ((h | h) | h)
            · exact .inl h
            · exact .inr ⟨h.1,by omega⟩
            · exact .inr ⟨by omega,by omega⟩
        · rcases List.mem_append.1 hr with hr | hr
          · obtain ⟨p,hp,e⟩:=i4 r (by simp [hr]);exact ⟨p,by simp [hp],e⟩
          · simp at hr;subst hr;obtain ⟨p,hp,e⟩:=i4 l (by simp);exact ⟨p,by simp [hp],e⟩
      · rename_i ht;rw [oK] at ht;refine ⟨⟨fun p hp=> ?_,List.pairwise_append.2 ⟨i2,by simp,fun p hp r hr=> ?_⟩⟩,fun y=> ?_,fun r hr=> ?_⟩
        · rcases List.mem_append.1 hp with hp | hp
          · exact i1 p hp
          · simp at hp;subst hp;exact hq
        · simp at hr;subst hr;rcases List.mem_append.1 hp with hp | hp
          · have:=j2 p hp l (by simp);omega
          · simp at hp;subst hp;omega
        · rw [km,km ys,i3]
        · rcases List.mem_append.1 hr with hr | hr
          · obtain ⟨p,hp,e⟩:=i4 r hr;exact ⟨p,by simp [hp],e⟩
          · simp at hr;subst hr;exact ⟨r,by simp,rfl⟩
end
section
open Srt
theorem CS:Swo Ea:=by
  constructor
  · intro x y h;rw [←aQ,ob];rw [ob] at h;omega
  · intro x y z h1 h2;rw [←aQ,ob] at h1 h2 ⊢;omega
section
variable {α β:Type} [Inhabited α] [Inhabited β]
omit [Inhabited α] [Inhabited β] in
theorem rO {lt:α→α→Bool} {lt':β→β→Bool} {f:α→β} {x:α}:∀{ys:List α},(∀y ∈ ys,lt x y=lt' (f x) (f y))→(lQ lt x ys).map f=lQ lt' (f x) (ys.map f)
  | [], _ => rfl
  | y :: ys, h => by
    have h0:=h y (by simp);have ih:=rO (lt:=lt) (lt':=lt') (f:=f) (x:=x) (ys:=ys) fun z hz=>h z (by simp [hz]);simp only [lQ,bu];rw [←h0];split <;> simp [ih]
omit [Inhabited α] [Inhabited β] in
theorem CT {lt:α→α→Bool} {lt':β→β→Bool} {f:α→β} {x:α} {ys:List α} (h:∀y ∈ ys,lt x y=lt' (f x) (f y)):(zq lt x ys).map f=zq lt' (f x) (ys.map f):=by
  unfold zq;rw [List.map_reverse,rO (lt':=lt') (f:=f) (fun y hy=>h y (by simpa using hy)),List.map_reverse]
omit [Inhabited α] [Inhabited β] in
theorem yK {lt:α→α→Bool} {lt':β→β→Bool} {f:α→β} {xs:List α} (h:∀x ∈ xs,∀y ∈ xs,lt x y=lt' (f x) (f y)):(eG lt xs).map f=eG lt' (xs.map f):=by
  induction xs using fv with
  | h0 => rfl
  | h1 xs x ih =>
    rw [ld,bU,bu,bR,ld,←ih fun a ha b hb=>h a (by simp [ha]) b (by simp [hb])];exact CT fun y hy=>h x (by simp) y (by simp [((mK (lt:=lt) xs).mem_iff).1 hy])
end
def In (S:List ByteArray) (p:Rw):Prop:=p.1 ∈ S∧p.2 ∈ S
def f2 (S:List ByteArray) (p:Rw):Int × Int:=(rk S p.1,rk S p.2)
theorem FW {S:List ByteArray} {p q:Rw} (hp:In S p) (hq:In S q):nz p q=Ea (f2 S p) (f2 S q):=by
  rw [eV,xj,ob,qX hp.1 hq.1,qX hp.2 hq.2];constructor
  · rintro (h | ⟨e,h⟩)
    · exact .inl h
    · exact .inr ⟨by simp only [f2];rw [e],h⟩
  · rintro (h | ⟨e,h⟩)
    · exact .inl h
    · exact .inr ⟨Ex hp.1 hq.1 e,h⟩
def Ok (S:List ByteArray) (xs:List Rw):Prop:=∀p ∈ xs,fe p=true∧In S p
theorem AJ {S:List ByteArray} {p:Rw} (h:fe p=true∧In S p):(f2 S p).1≤(f2 S p).2:=by
  have:=h.1;unfold fe at this
  rw [aw] at this
  exact (xd h.2.1 h.2.2).1 this.2
theorem EO {S:List ByteArray} {x y:ByteArray} (hx:x ∈ S) (hy:y ∈ S):rk S (qk x y)=max (rk S x) (rk S y):=(zQ hx hy).2
theorem AK {S:List ByteArray} (ys:List Rw) (hok:Ok S ys) (hs:oE Ea (ys.map (f2 S))):
    (gk ys).map (f2 S)=na (ys.map (f2 S))∧∀l ∈ gk ys,(∃p ∈ ys,l.1=p.1)∧∃p ∈ ys,l.2=p.2:=by
  induction ys using fv with
  | h0 => exact ⟨rfl, fun l hl => by simp [gk] at hl⟩
  | h1 ys q ih =>
    rw [bU,bu,bR] at hs ⊢;obtain ⟨hs1,_,hs2⟩:=List.pairwise_append.1 hs;have hok1:Ok S ys:=fun p hp=>hok p (by simp [hp]);obtain ⟨i1,i2⟩:=ih hok1 hs1;have hsp:=rN (ys.map (f2 S)) hs1 (fun p hp=>by obtain ⟨r,hr,rfl⟩:=List.mem_map.1 hp;exact AJ (hok1 r hr));have hq:=hok q (by simp);have hin:∀l ∈ gk ys,In S l:=fun l hl=>by
      obtain ⟨⟨p,hp,e1⟩,r,hr,e2⟩:=i2 l hl;exact ⟨e1 ▸ (hok1 p hp).2.1,e2 ▸ (hok1 r hr).2.2⟩
    rw [mR,rM,←i1];cases hjt:gk ys using fv with
    | h0 =>
      have e:qf [] q=[q]:=by simp [qf,uN]
      rw [e,bR,pk];exact ⟨rfl,fun l hl=>by simp at hl;subst hl;exact ⟨⟨l,by simp,rfl⟩,l,by simp,rfl⟩⟩
    | h1 A l =>
      rw [hjt] at i1 i2 hin;have hl:=hin l (by simp);have hn:nth (A++ [l]) (((A++ [l]).length:Int) - 1)=l:=tD (A:=A) (B:=[]) (by simp);have hle:(f2 S l).1≤(f2 S q).1:=by
        obtain ⟨⟨p,hp,e⟩,_⟩:=i2 l (by simp);have:=hs2 (f2 S p) (List.mem_map.2 ⟨p,hp,rfl⟩) (f2 S q) (by simp);rw [←aQ,ob] at this
        have e':(f2 S l).1=(f2 S p).1:=by simp only [f2];rw [e]
        omega
      have hll:(f2 S l).1≤(f2 S l).2:=by
        have h3:=hsp.1.1;rw [←i1] at h3;exact h3 (f2 S l) (by simp)
      have hqq:=AJ hq;have hhit:uN (A++ [l]) q=pG (f2 S l) (f2 S q):=by
        unfold uN;rw [hn,decide_eq_true (by simp),fI,eV,xd hq.2.1 hl.2,oK];show (f2 S q).1≤(f2 S l).2↔_;omega
      rw [bU,bu,bR,oq,qf,hhit,hn,show (((A++ [l]).length:Int) - 1).toNat=A.length by simp];split
      · refine ⟨?_,fun r hr=> ?_⟩
        · simp [f2,EO hl.2 hq.2.2]
        · simp at hr;rcases hr with hr | rfl
          · obtain ⟨⟨p,hp,e⟩,p',hp',e'⟩:=i2 r (by simp [hr]);exact ⟨⟨p,by simp [hp],e⟩,p',by simp [hp'],e'⟩
          · obtain ⟨⟨p,hp,e⟩,p',hp',e'⟩:=i2 l (by simp);refine ⟨⟨p,by simp [hp],e⟩,?_⟩;unfold qk;split
            · exact ⟨q,by simp,rfl⟩
            · exact ⟨p',by simp [hp'],e'⟩
      · refine ⟨by simp,fun r hr=> ?_⟩;rcases List.mem_append.1 hr with hr | hr
        · obtain ⟨⟨p,hp,e⟩,p',hp',e'⟩:=i2 r hr;exact ⟨⟨p,by simp [hp],e⟩,p',by simp [hp'],e'⟩
        · simp at hr;subst hr;exact ⟨⟨r,by simp,rfl⟩,r,by simp,rfl⟩
theorem lp {S:List ByteArray} {xs:List Rw} (h:Ok S (xs.filter fe)):
    GB ((gy xs).map (f2 S))∧(∀y,xF ((gy xs).map (f2 S)) y↔xF ((xs.filter fe).map (f2 S)) y)∧∀l ∈ gy xs,(∃p ∈ xs.filter fe,l.1=p.1)∧∃p ∈ xs.filter fe,l.2=p.2:=by
  have hp:=mK (lt:=nz) (xs.filter fe);have hok:Ok S (eG nz (xs.filter fe)):=fun p hm=>h p (hp.mem_iff.1 hm);have hm:=yK (lt:=nz) (lt':=Ea) (f:=f2 S) (xs:=xs.filter fe) fun x hx y hy=>FW (h x hx).2 (h y hy).2;have hs:oE Ea ((eG nz (xs.filter fe)).map (f2 S)):=by rw [hm];exact tC CS _
  obtain ⟨j1,j2⟩:=AK _ hok hs;have j3:=rN _ hs fun p hq=>by obtain ⟨r,hr,rfl⟩:=List.mem_map.1 hq;exact AJ (hok r hr)
  unfold gy;rw [j1];refine ⟨j3.1,fun y=>(j3.2.1 y).trans ?_,fun l hl=> ?_⟩
  · exact CR (fun p=>by rw [hm];exact (mK _).mem_iff) y
  · obtain ⟨⟨p,h1,e1⟩,q,h2,e2⟩:=j2 l hl;exact ⟨⟨p,hp.mem_iff.1 h1,e1⟩,q,hp.mem_iff.1 h2,e2⟩
def EP (xs:List Rw):List ByteArray:=xs.flatMap fun p=> [p.1,p.2]
theorem xG {S:List ByteArray} {xs:List Rw} (h:∀c ∈ EP xs,c ∈ S):Ok S (xs.filter fe):=fun p hp=>by
  obtain ⟨h1,h2⟩:=List.mem_filter.1 hp;exact ⟨h2,h _ (List.mem_flatMap.2 ⟨p,h1,by simp⟩),h _ (List.mem_flatMap.2 ⟨p,h1,by simp⟩)⟩
theorem rP {S:List ByteArray} {xs:List Rw} (h:Ok S (xs.filter fe)):∀l ∈ gy xs,In S l:=fun l hl=>by
  obtain ⟨⟨p,hp,e1⟩,r,hr,e2⟩:=(lp h).2.2 l hl;exact ⟨e1 ▸ (h p hp).2.1,e2 ▸ (h r hr).2.2⟩
theorem rQ {p:Rw}:fe p=true↔(eb p.1=true∧eb p.2=true)∧oC p.1 p.2=true:=by
  unfold fe;rw [aw,aw]
theorem AL {S:List ByteArray} {xs:List Rw} (h:Ok S (xs.filter fe)):Ok S (gy xs):=fun l hl=>by
  have hin:=rP h l hl;obtain ⟨⟨p,hp,e1⟩,r,hr,e2⟩:=(lp h).2.2 l hl;refine ⟨rQ.2 ⟨⟨e1 ▸ (rQ.1 (h p hp).1).1.1,e2 ▸ (rQ.1 (h r hr).1).1.2⟩,?_⟩,hin⟩;exact (xd hin.1 hin.2).2 ((lp h).1.1 (f2 S l) (List.mem_map.2 ⟨l,hl,rfl⟩))
theorem uf (xs:List Rw):lS (gy xs)=true:=by
  have h1:Ok (EP xs) (xs.filter fe):=xG fun _ hc=>hc;refine oH (k:=(gy xs).length) (fun i hi=> ?_) (bq _);have hm:=oZ hi;unfold nA;rw [(AL h1 _ hm).1,kq,fZ];by_cases h0:i=0
  · subst h0;rfl
  · have hi':i - 1 < (gy xs).length:=by omega
    rw [show (i:Int) - 1=((i - 1:Nat):Int) by omega];have hp:=List.pairwise_iff_getElem.1 (lp h1).1.2 (i - 1) i (by simpa using hi') (by simpa using hi) (by omega);rw [lZ,lZ,←qV (bE hi),←qV (bE hi')] at hp;simp only [f2] at hp;have a:=rP h1 _ hm;have b:=rP h1 _ (oZ hi');have:oC (nth (gy xs) (i:Int)).1 (nth (gy xs) ((i - 1:Nat):Int)).2=false:=by
      rw [←aQ,xd a.1 b.2];omega
    rw [this,Bool.and_false]
theorem yL (xs:List Rw):(gy xs).length≤xs.length:=dD (uO _) (nB xs)
theorem sR (n:Int):(gA n).length≤4:=by unfold gA;split <;> (try split) <;> (try split) <;> decide
theorem yM (n:Int):lS (gA n)=true:=by unfold gA;split <;> (try split) <;> (try split) <;> decide+kernel
end
section
open Srt
def mq (cs:List ByteArray):Prop:=cs.length≤256∧∀c ∈ cs,c.size≤256
def Eb (cs:List ByteArray):Prop:=∀i:Nat,1≤i→i < cs.length→eb (nth cs (i:Int))=true
def jm (rows:List Rw):Prop:=∀r ∈ rows,r.1.size≤256∧r.2.size≤256
theorem jm.small {rows:List Rw} (h:jm rows):pa rows:=fun r hr=>⟨dD (h r hr).1 (by decide),dD (h r hr).2 (by decide)⟩
theorem jm.app {xs ys:List Rw} (h:jm xs) (h2:jm ys):jm (xs++ys):=fun r hr=>(List.mem_append.1 hr).elim (h r) (h2 r)
theorem jm.one {a b:ByteArray} (h:a.size≤256) (h2:b.size≤256):jm [(a,b)]:=fun r hr=>by
  simp at hr;subst hr;exact ⟨h,h2⟩
theorem jm.nil:jm []:=fun r hr=>by cases hr
theorem wx {xs:List Rw} (h:jm xs):jm (gy xs):=fun l hl=>by
  obtain ⟨⟨p,hp,e1⟩,r,hr,e2⟩:=(lp (S:=EP xs) (xG fun _ hc=>hc)).2.2 l hl;rw [e1,e2];exact ⟨(h p (List.mem_filter.1 hp).1).1,(h r (List.mem_filter.1 hr).1).2⟩
theorem rR (n:Int):jm (gA n):=by unfold gA;split <;> (try split) <;> (try split) <;> (unfold jm;decide)
theorem xH {rows:List Rw} (h:jm rows):zt rows≤513 * (rows.length:Int):=by
  unfold zt;induction rows using fv with
  | h0 => simp [di]
  | h1 rows r ih =>
    rw [bU,bu,bR,ey,cg];have:=ih fun x hx=>h x (by simp [hx]);have:=h r (by simp);simp;omega
theorem cS {cs:List ByteArray} (h:mq cs) (i:Nat):(cM cs i).size≤256:=by
  unfold cM;split
  · exact dZ _
  · exact h.2 _ (cP (by omega) (by omega))
theorem vl (c:ByteArray) (h:c.size≤256):(fF c).1.size≤256:=by
  unfold fF;repeat (split;exact (by decide))
  exact h
theorem mX {cs:List ByteArray} (h:mq cs) (i:Nat):jm (bI cs i).1∧(bI cs i).2.1.size≤256∧(bI cs i).1.length≤4∧(bI cs i).2.2.2≤i+2∧((bI cs i).2.2.1=true→i < (bI cs i).2.2.2∧(bI cs i).2.2.2≤cs.length):=by
  refine ⟨?_,?_,?_,?_,tZ⟩ <;> unfold bI <;> (repeat' split)
  · exact jm.nil
  · exact jm.nil
  · exact rR _
  · exact jm.nil
  · exact dZ _
  · exact cS h i
  · exact dZ _
  · exact vl _ (cS h _)
  · exact dZ _
  · exact dZ _
  · exact sR _
  · exact dZ _
  · simp
  · simp
  · simp
  · simp
theorem CU (k:Int) (c:ByteArray) (h:(k=2∧eb c=true)∨((k=3∨k=8∨k=9∨k=10∨k=11)∧c=⟨#[]⟩)):gL (dp k c false 0 0 false)=true∧ck (dp k c false 0 0 false)=1∧eD (dp k c false 0 0 false)=0:=by
  refine ⟨?_,?_,?_⟩
  · rw [jn];have:cB (dp k c false 0 0 false)=true:=by
      rcases h with ⟨rfl,h⟩ | ⟨h,rfl⟩
      · simp [cB,dp,jH,ix,h]
      · rcases h with rfl | rfl | rfl | rfl | rfl <;> simp [cB,dp,ln,jH,ix]
    rw [this];rfl
  · rw [gF];rfl
  · rw [lf];have:oG (dp k c false 0 0 false)=false:=by
      unfold oG dp;rcases h with ⟨rfl,h⟩ | ⟨h,rfl⟩
      · rfl
      · rcases h with rfl | rfl | rfl | rfl | rfl <;> rfl
    rw [this];rfl
theorem AM (ng:Bool) (rows:List Rw) (h:lS rows=true):gL (mW ng Sv.nil rows)=true∧ck (mW ng Sv.nil rows)=1∧eD (mW ng Sv.nil rows)=0∧fD (mW ng Sv.nil rows)=1+zt rows:=by
  refine ⟨?_,?_,?_,?_⟩
  · rw [jn];have:cB (mW ng Sv.nil rows)=true:=by simp [cB,mW,jH,ix,h]
    rw [this];rfl
  · rw [gF];rfl
  · rw [lf];rfl
  · rw [lh];have:((⟨#[]⟩:ByteArray).size:Int)=0:=rfl;simp [mW,di,this]
theorem Ec (k:Int) (mn mx:Int) (lz:Bool) (x:Tr):ck (fV k ⟨#[]⟩ false mn mx lz Sv.nil [x])=1+ck x∧eD (fV k ⟨#[]⟩ false mn mx lz Sv.nil [x])=max 0 (eD x)+(if k=5∨k=6 then 1 else 0)∧fD (fV k ⟨#[]⟩ false mn mx lz Sv.nil [x])=1+fD x:=by
  refine ⟨?_,?_,?_⟩
  · rw [gF];simp [fV,di]
  · rw [lf];have:(oG (fV k ⟨#[]⟩ false mn mx lz Sv.nil [x])=true)↔(k=5∨k=6):=by unfold oG fV;simp
    simp only [this];simp [fV,kH]
  · rw [Cy];have:((⟨#[]⟩:ByteArray).size:Int)=0:=rfl;simp [di,this]
theorem EQ {k:Int} {x:Tr} (hk:k=5∨k=6) (h:gL x=true):gL (fV k ⟨#[]⟩ false 0 0 false Sv.nil [x])=true:=by
  rw [jn];have:cB (fV k ⟨#[]⟩ false 0 0 false Sv.nil [x])=true:=by
    rcases hk with rfl | rfl <;> simp [cB,fV,ln,jH,ix]
  rw [this];simp [fV,h]
theorem ER {x:Tr} {mn mx:Int} {lz:Bool} (h:gL x=true) (hk:x.k=2∨x.k=3∨x.k=4∨x.k=5∨x.k=6) (h0:0≤mn∧mn≤255) (h1:mx= -1∨(mn≤mx∧mx≤255)):gL (AH x mn mx lz)=true:=by
  rw [jn];have hn:(nth [x] 0).k=x.k:=rfl;have:cB (AH x mn mx lz)=true:=by
    have hr:oJ x.k=true:=by unfold oJ;rcases hk with h | h | h | h | h <;> simp [h]
    have h5:(decide (mx= -1) || (decide (mn≤mx)&&decide (mx≤255)))=true:=by
      rw [aO,aw,ai,ai,ai];exact h1
    have h6:cB (AH x mn mx lz)=(((((jH ⟨#[]⟩ false [] 0 0 false&&decide (([x].length:Int)=1))&&oJ (nth [x] 0).k)&&decide (0≤mn))&&decide (mn≤255))&&(decide (mx= -1) || (decide (mn≤mx)&&decide (mx≤255)))):=rfl;rw [h6,h5,hn,hr,decide_eq_true h0.1,decide_eq_true h0.2];simp [jH,ix]
  rw [this];simp [AH,fV,h]
theorem vm (k:Int) (ks:List Tr):ck (ni k ks)=1+di (ks.map ck):=gF _
theorem xI (k:Int) (ks:List Tr) (hk:k=0∨k=1):eD (ni k ks)=kH (ks.map eD):=by
  rw [lf];have:oG (ni k ks)=false:=by unfold oG ni;rcases hk with rfl | rfl <;> rfl
  rw [this];simp [ni]
theorem CV {ks:List Tr} (h:∀x ∈ ks,gL x=true∧x.k≠0∧x.k≠1) (hl:ks.length≠1):gL (ni 0 ks)=true:=by
  rw [jn];have h1:ks.all gL=true:=cW.2 fun x hx=>(h x hx).1;have h2:oo (ni 0 ks) [0,1]=false:=by
    rw [pL,jO];intro x hx;have:=h x hx;simp [this.2.1,this.2.2]
  have:cB (ni 0 ks)=true:=by
    unfold cB;rw [show (ni 0 ks).k=0 from rfl,if_neg (by decide),if_neg (by decide),if_neg (by decide),if_pos rfl,h2];have:ln (ni 0 ks)=true:=by unfold ln jH ni;simp [ix]
    have hl':decide (((ni 0 ks).kids.length:Int)=1)=false:=decide_eq_false (by show ¬(ks.length:Int)=1;omega);rw [this,hl'];rfl
  rw [this];simp [ni,h1]
theorem CW {ks:List Tr} (h:∀x ∈ ks,gL x=true∧x.k≠1) (hl:2≤ks.length):gL (ni 1 ks)=true:=by
  rw [jn];have h1:ks.all gL=true:=cW.2 fun x hx=>(h x hx).1;have h2:oo (ni 1 ks) [1]=false:=by
    rw [pM,jO];intro x hx;have:=h x hx;simp [this.2]
  have:cB (ni 1 ks)=true:=by
    unfold cB;rw [show (ni 1 ks).k=1 from rfl,if_neg (by decide),if_neg (by decide),if_neg (by decide),if_neg (by decide),if_pos rfl,h2];have:ln (ni 1 ks)=true:=by unfold ln jH ni;simp [ix]
    rw [this];have hl':decide ((1:Int) < ((ni 1 ks).kids.length:Int))=true:=decide_eq_true (by show (1:Int) < (ks.length:Int);omega);rw [hl'];rfl
  rw [this];simp [ni,h1]
theorem xJ {k:Int} {l:List Tr} (h:∀x ∈ l,x.k≠k):ic k l=l:=by
  induction l with
  | nil => rfl
  | cons x l ih =>
    unfold ic at ih ⊢;rw [List.flatMap_cons,if_neg (h x (by simp)),ih fun y hy=>h y (by simp [hy])];rfl
structure TermOk (x:Tr) (n d:Int):Prop where
  wt:fD x≤2200 * n
  parts:ck x≤2 * n
  deep:eD x≤16 - d
  all:gL x=true
  k:x.k≠0∧x.k≠1
structure PatOk (x:Tr) (n d:Int):Prop where
  wt:fD x≤2200 * n+2
  parts:ck x≤2 * n+1
  deep:eD x≤16 - d
  all:gL x=true
theorem vn {l:List Tr} {n:Int} (h0:0≤n) (h:∀x ∈ l,eD x≤n):kH (l.map eD)≤n:=qu h0 fun y hy=>by
  obtain ⟨x,hx,rfl⟩:=List.mem_map.1 hy;exact h x hx
theorem rS {ts:List Tr} {d:Int} (hd:d≤16) (h:∀x ∈ ts,gL x=true∧x.k≠0∧x.k≠1∧eD x≤16 - d):gL (lg ts)=true∧(lg ts).k≠1∧eD (lg ts)≤16 - d∧ck (lg ts)≤1+di (ts.map ck):=by
  have hid:=xJ (k:=0) (l:=ts) fun x hx=>(h x hx).2.1;unfold lg;rw [hid];have many:ts.length≠1→gL (ni 0 ts)=true∧(ni 0 ts).k≠1∧eD (ni 0 ts)≤16 - d∧ck (ni 0 ts)≤1+di (ts.map ck):=fun hl=>
    ⟨CV (fun x hx=>⟨(h x hx).1,(h x hx).2.1,(h x hx).2.2.1⟩) hl,by show (0:Int)≠1;decide,by rw [xI _ _ (.inl rfl)];exact vn (by omega) fun x hx=>(h x hx).2.2.2,by rw [vm];omega⟩
  match ts,h,many with
  | [], h, many => exact many (by decide)
  | [x], h, _ => exact ⟨(h x (by simp)).1, (h x (by simp)).2.2.1, (h x (by simp)).2.2.2, by simp [di]; omega⟩
  | x :: y :: l, h, many => exact many (by simp)
theorem yN {ts:List Tr} {d:Int} (hd:d≤16) (hne:ts≠ []) (h:∀x ∈ ts,gL x=true∧x.k≠1∧eD x≤16 - d):gL (md ts)=true∧eD (md ts)≤16 - d∧(ts.length=1→ck (md ts)=di (ts.map ck))∧ck (md ts)≤1+di (ts.map ck):=by
  have hid:=xJ (k:=1) (l:=ts) fun x hx=>(h x hx).2.1;unfold md;rw [hid];match ts,hne,h with
  | [x], _, h => exact ⟨(h x (by simp)).1, (h x (by simp)).2.2, fun _ => by simp [di], by simp [di]; omega⟩
  | x :: y :: l, _, h =>
    refine ⟨CW (fun z hz=>⟨(h z hz).1,(h z hz).2.1⟩) (by simp),?_,fun e=>by simp at e,by show ck (ni 1 _)≤_;rw [vm];omega⟩;show eD (ni 1 _)≤_;rw [xI _ _ (.inr rfl)];exact vn (by omega) fun z hz=>(h z hz).2.2
theorem CX {cs:List ByteArray} {i:Nat} (h:i < cs.length):cM cs i=nth cs (i:Int):=by unfold cM;rw [if_neg (by omega)]
theorem wy {c:ByteArray} (h:(fF c).2=true) (hp:eb c=true):eb (fF c).1=true:=by
  unfold fF at h ⊢;split at h
  · cases h
  · rename_i h1;rw [if_neg h1];split at h
    · rename_i h2;rw [if_pos h2];decide+kernel
    · rename_i h2;rw [if_neg h2];split at h
      · rename_i h3;rw [if_pos h3];decide+kernel
      · rename_i h3;rw [if_neg h3];split at h
        · rename_i h4;rw [if_pos h4];decide+kernel
        · rename_i h4;rw [if_neg h4];split at h
          · rename_i h5;rw [if_pos h5];decide+kernel
          · rename_i h5;rw [if_neg h5];split at h
            · rename_i h6;rw [if_pos h6];decide+kernel
            · rename_i h6;rw [if_neg h6];split at h
              · cases h
              · rename_i h7;rw [if_neg h7];exact hp
theorem AN {r:Int × Nat × Nat} (h:jl r=true):r.1≤255:=by
  unfold jl at h;simp at h;omega
theorem qF {cs:List ByteArray} {x:Tr} {j:Nat} {mn mx:Int} (h:gL x=true) (hk:x.k=2∨x.k=3∨x.k=4∨x.k=5∨x.k=6) (h0:0≤mn∧mn≤255) (h1:mx= -1∨(mn≤mx∧mx≤255)):gL (kK cs x j mn mx).1=true∧(kK cs x j mn mx).1.k=7∧ck (kK cs x j mn mx).1=1+ck x∧eD (kK cs x j mn mx).1=max 0 (eD x)∧fD (kK cs x j mn mx).1=1+fD x:=by
  obtain ⟨a,b,c⟩:=Ec 7 mn mx (eR cs j ⟨#[63]⟩) x;exact ⟨ER h hk h0 h1,rfl,a,by have:=b;rw [if_neg (by decide),Int.add_zero] at this;exact this,c⟩
theorem ug {cs:List ByteArray} {x:Tr} {mn mx:Int} {ok:Bool} {j:Nat} (he:(lT cs x mn mx ok j).2.1=0) (h:gL x=true) (hk:x.k=2∨x.k=3∨x.k=4∨x.k=5∨x.k=6) (h0:0≤mn∧mn≤255) (h1:ok=true→mx≤255) (h2: -1≤mx):gL (lT cs x mn mx ok j).1=true∧(lT cs x mn mx ok j).1.k=7∧ck (lT cs x mn mx ok j).1=1+ck x∧eD (lT cs x mn mx ok j).1=max 0 (eD x)∧fD (lT cs x mn mx ok j).1=1+fD x∧j < (lT cs x mn mx ok j).2.2:=by
  have hle:=ub he;unfold lT at he hle ⊢;split at he
  · cases he
  · rename_i g1;rw [if_neg g1];rw [if_neg g1] at hle;split at he
    · cases he
    · rename_i g2;rw [if_neg g2];rw [if_neg g2] at hle;split at he
      · cases he
      · rename_i g3;rw [if_neg g3];have hl:=oa cs x (j+1) mn mx;simp only [aw,aB,ah,ai,not_and,aX] at g3;obtain ⟨a,b,c,d,e⟩:=qF (cs:=cs) (j:=j+1) h hk h0 (mx:=mx) (by
          have:=h1 (by simpa using g1);by_cases hm:mx= -1
          · exact .inl hm
          · exact .inr ⟨g3 hm,this⟩)
        exact ⟨a,b,c,d,e,by omega⟩
theorem yO {cs:List ByteArray} {x:Tr} {i:Nat} {n d:Int} (hd:d≤16) (he:(dV cs x i).2.1=0) (h:TermOk x n d) (hn:1≤n) (hk:x.k=2∨x.k=3∨x.k=4∨x.k=5∨x.k=6):TermOk (dV cs x i).1 (n+((dV cs x i).2.2 - i)) d:=by
  have fin:∀{y:Tr} {p:Nat},gL y=true∧y.k=7∧ck y=1+ck x∧eD y=max 0 (eD x)∧fD y=1+fD x→i < p→TermOk y (n+(p - i)) d:=fun {y p} ⟨a,b,c,e,f⟩ hp=>by
    have:=h.wt;have:=h.parts;have:=h.deep;exact ⟨by omega,by omega,by omega,a,by rw [b];decide⟩
  unfold dV at he ⊢;split
  · have hl:=oa cs x (i+1) 0 (-1);exact fin (qF h.all hk (by decide) (.inl rfl)) (by omega)
  · split
    · have hl:=oa cs x (i+1) 1 (-1);exact fin (qF h.all hk (by decide) (.inl rfl)) (by omega)
    · split
      · have hl:=oa cs x (i+1) 0 1;exact fin (qF h.all hk (by decide) (.inr (by decide))) (by omega)
      · split
        · rename_i g1 g2 g3 g4;rw [if_neg g1,if_neg g2,if_neg g3,if_pos g4] at he;have a2:=ua cs (i+1);have a3:=tX cs (i+1);split
          · rename_i g5;rw [if_pos g5] at he;cases he
          · rename_i g5;rw [if_neg g5] at he;have b1:=AN (by simpa using g5);split
            · rename_i g6;rw [if_pos g6] at he;have a4:=ua cs ((cn cs (i+1)).2.2+1);have a5:=tX cs ((cn cs (i+1)).2.2+1);split
              · rename_i g7;rw [if_pos g7] at he;obtain ⟨a,b,c,e,f,g⟩:=ug he h.all hk ⟨by omega,b1⟩ (fun hh=>AN hh) (by omega);exact fin ⟨a,b,c,e,f⟩ (by omega)
              · rename_i g7;rw [if_neg g7] at he;obtain ⟨a,b,c,e,f,g⟩:=ug he h.all hk ⟨by omega,b1⟩ (fun _=>by omega) (by omega);exact fin ⟨a,b,c,e,f⟩ (by omega)
            · rename_i g6;rw [if_neg g6] at he;obtain ⟨a,b,c,e,f,g⟩:=ug he h.all hk ⟨by omega,b1⟩ (fun _=>by omega) (by omega);exact fin ⟨a,b,c,e,f⟩ (by omega)
        · have e1:n+((i:Nat) - (i:Int))=n:=by omega
          rw [e1];exact h
theorem pm {cs:List ByteArray} (h:mq cs) {ng:Bool}:∀(f i:Nat) (rows:List Rw),jm rows→(iX cs ng f i rows).2.1=0→∃rs,(iX cs ng f i rows).1=mW ng Sv.nil (gy rs)∧jm rs∧(rs.length:Int)+4 * i≤(rows.length:Int)+4 * (iX cs ng f i rows).2.2
  | 0, i, rows, _, he => by cases he
  | f + 1, i, rows, ht, he => by
    rw [iX] at he ⊢;split
    · exact ⟨rows,rfl,ht,by simp;omega⟩
    · rename_i g1;rw [if_neg g1] at he;split
      · rename_i g2;rw [if_pos g2] at he;cases he
      · rename_i g2;rw [if_neg g2] at he;have a1:=mX h i;have a2:=a1.2.2.2.2 (by simpa using g2);split
        · rename_i g3;rw [if_pos g3] at he;obtain ⟨rs,b1,b2,b3⟩:=pm h f _ _ (ht.app a1.1) he;refine ⟨rs,b1,b2,?_⟩;rw [cg] at b3;have:=a1.2.2.1;omega
        · rename_i g3;rw [if_neg g3] at he;split
          · rename_i g4;rw [if_pos g4] at he;split
            · rename_i g5;rw [if_pos g5] at he;cases he
            · rename_i g5;rw [if_neg g5] at he;have a3:=mX h ((bI cs i).2.2.2+1);have g6:(bI cs ((bI cs i).2.2.2+1)).2.2.1=true:=by
                rw [aQ,aG,aG,ay] at g5;exact g5.1.1
              have a4:=a3.2.2.2.2 g6;obtain ⟨rs,b1,b2,b3⟩:=pm h f _ _ (ht.app (jm.one a1.2.1 a3.2.1)) he;refine ⟨rs,b1,b2,?_⟩;rw [cg] at b3;simp at b3;omega
          · rename_i g4;rw [if_neg g4] at he;obtain ⟨rs,b1,b2,b3⟩:=pm h f _ _ (ht.app (jm.one a1.2.1 a1.2.1)) he;refine ⟨rs,b1,b2,?_⟩;rw [cg] at b3;simp at b3;omega
def rT (x:Tr) (n d:Int):Prop:=TermOk x n d∧(x.k=2∨x.k=3∨x.k=4∨x.k=5∨x.k=6)
theorem ko {k:Int} {c:ByteArray} {n d:Int} (hn:1≤n) (hd:d≤16) (h:(k=2∧eb c=true∧c.size≤256)∨((k=3∨k=8∨k=9∨k=10∨k=11)∧c=⟨#[]⟩)):TermOk (dp k c false 0 0 false) n d:=by
  obtain ⟨a,b,e⟩:=CU k c (h.imp (fun h=>⟨h.1,h.2.1⟩) id);refine ⟨?_,by omega,by omega,a,?_⟩
  · rw [xg];rcases h with ⟨_,_,h⟩ | ⟨_,rfl⟩
    · omega
    · have:((⟨#[]⟩:ByteArray).size:Int)=0:=rfl;omega
  · unfold dp;simp only [];omega
theorem CY {cs:List ByteArray} (h:mq cs) {i:Nat} {n d:Int} (hd:d≤16) (he:(kk cs i).2.1=0) (hn:(kk cs i).2.2 - (i:Int)≤n):rT (kk cs i).1 n d:=by
  have a1:=ww he;have a2:=tY cs i (⟨#[94]⟩:ByteArray);unfold kk at he hn a1 ⊢;obtain ⟨rs,b1,b2,b3⟩:=pm h _ _ _ jm.nil he;rw [b1];obtain ⟨c1,c2,c3,c4⟩:=AM (eR cs i ⟨#[94]⟩) (gy rs) (uf rs);have c5:=xH (wx b2);have c6:=yL rs;simp at b3;exact ⟨⟨by omega,by omega,by omega,c1,by show (4:Int)≠0∧(4:Int)≠1;decide⟩,.inr (.inr (.inl rfl))⟩
theorem AO {cs:List ByteArray} (h:mq cs) (hp:Eb cs) {i:Nat} {n d:Int} (hi:1≤i) (hd:d≤16) (he:(gO cs i).2.1=0) (hn:1≤n):rT (gO cs i).1 n d:=by
  have a1:=uc he;unfold gO at he ⊢;split
  · rename_i g1;obtain ⟨c1,c2,c3,c4⟩:=AM (!(ix (cM cs i) (fS (cM cs i)))) (gA (bZ (fS (cM cs i)) 0)) (yM _);have c5:=xH (rR (bZ (fS (cM cs i)) 0));have c6:=sR (bZ (fS (cM cs i)) 0);exact (show rT (mW (!(ix (cM cs i) (fS (cM cs i)))) Sv.nil (gA (bZ (fS (cM cs i)) 0))) n d from ⟨⟨by omega,by omega,by omega,c1,by show (4:Int)≠0∧(4:Int)≠1;decide⟩,.inr (.inr (.inl rfl))⟩)
  · rename_i g1;rw [if_neg g1] at he;split
    · rename_i g2;rw [if_pos g2] at he;cases he
    · rename_i g2;have hne:=mV (wv (by simpa using g2));have hpr:eb (cM cs i)=true:=by rw [CX hne];exact hp i hi hne
      exact ⟨ko hn hd (.inl ⟨rfl,wy (by simpa using g2) hpr,vl _ (cS h i)⟩),.inl rfl⟩
def AP (cs:List ByteArray) (sub:Int→Nat→Tr × Int × Nat):Prop:=∀(d2:Int) (j:Nat),d2≤16→(sub d2 j).2.1=0→PatOk (sub d2 j).1 ((sub d2 j).2.2 - (j:Int)) d2
theorem AQ {sub:Int→Nat→Tr × Int × Nat} {cs:List ByteArray} {d:Int} {i:Nat} (h:mq cs) (hp:Eb cs) (hs:sQ cs sub) (ho:AP cs sub) (hd:d≤16) (he:(dL sub cs d i).2.1=0):rT (dL sub cs d i).1 ((dL sub cs d i).2.2 - (i:Int)) d:=by
  have grp:∀{k:Int} {x:Tr} {m n:Int},(k=5∨k=6)→PatOk x m (d+1)→0≤m→m+2≤n→rT (fV k ⟨#[]⟩ false 0 0 false Sv.nil [x]) n d:=fun {k x m n} hk hx h0 hmn=>by
    obtain ⟨a,b,c⟩:=Ec k 0 0 false x;have h1:=hx.wt;have h2:=hx.parts;have h3:=hx.deep;have h4:=(qc x).1;rw [if_pos hk] at b;refine ⟨⟨by omega,by omega,by omega,EQ hk hx.all,?_⟩,?_⟩
    · show k≠0∧k≠1;omega
    · show k=2∨k=3∨k=4∨k=5∨k=6;omega
  have hle:=qC hs he;unfold dL at he hle ⊢;split
  · exact ⟨ko (by simp;omega) hd (.inr ⟨.inl rfl,rfl⟩),.inr (.inl rfl)⟩
  · rename_i g1;rw [if_neg g1] at he hle;split
    · rename_i g2;rw [if_pos g2] at he hle;split
      · rename_i g3;rw [if_pos g3] at he;cases he
      · rename_i g3;rw [if_neg g3] at he hle;split
        · rename_i g4;rw [if_pos g4] at he hle;split
          · rename_i g5;rw [if_pos g5] at he;cases he
          · rename_i g5;rw [if_neg g5] at he hle;split
            · rename_i g6;rw [if_pos g6] at he;exact absurd he g6
            · rename_i g6;rw [if_neg g6] at he hle;split
              · rename_i g7;rw [if_pos g7] at he;cases he
              · rename_i g7;rw [if_neg g7] at hle;have e6:(sub (d+1) (i+3)).2.1=0:=Classical.byContradiction g6;have a4:=hs (d+1) (i+3) e6;exact grp (.inr rfl) (ho (d+1) (i+3) (by omega) e6) (by omega) (by simp;omega)
        · rename_i g4;rw [if_neg g4] at he hle;split
          · rename_i g6;rw [if_pos g6] at he;exact absurd he g6
          · rename_i g6;rw [if_neg g6] at he hle;split
            · rename_i g7;rw [if_pos g7] at he;cases he
            · rename_i g7;rw [if_neg g7] at hle;have e6:(sub (d+1) (i+1)).2.1=0:=Classical.byContradiction g6;have a4:=hs (d+1) (i+1) e6;exact grp (.inl rfl) (ho (d+1) (i+1) (by omega) e6) (by omega) (by simp;omega)
    · rename_i g2;rw [if_neg g2] at he hle;split
      · rename_i g3;rw [if_pos g3] at he hle;have:=ww he;exact CY h hd he (by omega)
      · rename_i g3;rw [if_neg g3] at he hle;split
        · rename_i g4;rw [if_pos g4] at he hle;have:=uc he;exact AO h hp (by omega) hd he (by omega)
        · rename_i g4;rw [if_neg g4] at he hle;split
          · rename_i g5;rw [if_pos g5] at he;cases he
          · rename_i g5;have hpr:eb (cM cs i)=true:=by
              unfold EN at g5;simp only [aO,not_or,aQ,ay] at g5;exact g5.2
            exact ⟨ko (by simp;omega) hd (.inl ⟨rfl,hpr,cS h i⟩),.inl rfl⟩
theorem vo {sub:Int→Nat→Tr × Int × Nat} {cs:List ByteArray} {d:Int} {i:Nat} (h:mq cs) (hp:Eb cs) (hs:sQ cs sub) (ho:AP cs sub) (hd:d≤16) (he:(eZ sub cs d i).2.1=0):TermOk (eZ sub cs d i).1 ((eZ sub cs d i).2.2 - (i:Int)) d:=by
  unfold eZ at he ⊢;split
  · exact ko (by simp;omega) hd (.inr ⟨by decide,rfl⟩)
  · rename_i g1;rw [if_neg g1] at he;split
    · exact ko (by simp;omega) hd (.inr ⟨by decide,rfl⟩)
    · rename_i g2;rw [if_neg g2] at he;split
      · exact ko (by simp;omega) hd (.inr ⟨by decide,rfl⟩)
      · rename_i g3;rw [if_neg g3] at he;split
        · exact ko (by simp;omega) hd (.inr ⟨by decide,rfl⟩)
        · rename_i g4;rw [if_neg g4] at he;split
          · rename_i g5;rw [if_pos g5] at he;exact absurd he g5
          · rename_i g5;rw [if_neg g5] at he;have e5:(dL sub cs d i).2.1=0:=Classical.byContradiction g5;have a1:=qC hs e5;have a2:=AQ h hp hs ho hd e5;have a3:=yO hd he a2.1 (by omega) a2.2;have e:((dL sub cs d i).2.2 - (i:Int))+((dV cs (dL sub cs d i).1 (dL sub cs d i).2.2).2.2 - ((dL sub cs d i).2.2:Int))=(dV cs (dL sub cs d i).1 (dL sub cs d i).2.2).2.2 - (i:Int):=by omega
            rw [e] at a3;exact a3
structure SoFar (alts terms:List Tr) (i0 i:Nat) (d:Int):Prop where
  at':∀x ∈ alts,gL x=true∧x.k≠1∧eD x≤16 - d
  tt:∀x ∈ terms,gL x=true∧x.k≠0∧x.k≠1∧eD x≤16 - d
  le:i0≤i
  parts:di (alts.map ck)+di (terms.map ck)+(if alts=[] then 0 else 1)≤2 * ((i:Int) - i0)
  wt:di (alts.map fD)+di (terms.map fD)≤2200 * ((i:Int) - i0)
theorem SoFar.start (i:Nat) (d:Int):SoFar [] [] i i d:=⟨fun x hx=>(by cases hx),fun x hx=>(by cases hx),bq _,(by simp [di]),(by simp [di])⟩
theorem SoFar.term {alts terms:List Tr} {i0 i j:Nat} {d:Int} {x:Tr} (h:SoFar alts terms i0 i d) (hx:TermOk x ((j:Int) - i) d) (hj:i≤j):SoFar alts (terms++ [x]) i0 j d:=by
  refine ⟨h.at',fun y hy=> ?_,by have:=h.le;omega,?_,?_⟩
  · rcases List.mem_append.1 hy with hy | hy
    · exact h.tt y hy
    · simp at hy;subst hy;exact ⟨hx.all,hx.k.1,hx.k.2,hx.deep⟩
  · have:=h.parts;have:=hx.parts;rw [bU,bu,bR,ey];omega
  · have:=h.wt;have:=hx.wt;rw [bU,bu,bR,ey];omega
theorem SoFar.alt {alts terms:List Tr} {i0 i:Nat} {d:Int} (h:SoFar alts terms i0 i d) (hd:d≤16):SoFar (alts++ [lg terms]) [] i0 (i+1) d:=by
  obtain ⟨a,b,c,e⟩:=rS hd h.tt;have hw:=we terms;refine ⟨fun y hy=> ?_,fun x hx=>(by cases hx),(by have:=h.le;omega),?_,?_⟩
  · rcases List.mem_append.1 hy with hy | hy
    · exact h.at' y hy
    · simp at hy;subst hy;exact ⟨a,b,c⟩
  · have:=h.parts;rw [bU,bu,bR,ey,if_neg (by simp)];rw [kB];split at this <;> omega
  · have:=h.wt;rw [bU,bu,bR,ey];rw [kB];omega
theorem SoFar.fin {alts terms:List Tr} {i0 i:Nat} {d:Int} (h:SoFar alts terms i0 i d) (hd:d≤16):PatOk (md (alts++ [lg terms])) ((i:Int) - i0) d:=by
  obtain ⟨a,b,c,e⟩:=rS hd h.tt;have hw:=we terms;have hw2:=Aa (alts++ [lg terms]);have hall:∀x ∈ alts++ [lg terms],gL x=true∧x.k≠1∧eD x≤16 - d:=fun y hy=>by
    rcases List.mem_append.1 hy with hy | hy
    · exact h.at' y hy
    · simp at hy;subst hy;exact ⟨a,b,c⟩
  obtain ⟨f1,f2,f3,f4⟩:=yN hd (by simp) hall;have hp:=h.parts;have hwt:=h.wt;rw [bU,bu,bR,ey] at f4 hw2;refine ⟨by omega,?_,f2,f1⟩;by_cases hn:alts=[]
  · subst hn;have:=f3 (by simp);rw [gp] at this ⊢
    rw [bu,bR,jG,kB] at this
    rw [bR,kB,if_pos rfl] at hp;omega
  · rw [if_neg hn] at hp;omega
theorem po {cs:List ByteArray} (h:mq cs) (hp:Eb cs):∀(f:Nat) (d:Int) (i0 i:Nat) (alts terms:List Tr),d≤16→SoFar alts terms i0 i d→(eK cs f d i alts terms).2.1=0→PatOk (eK cs f d i alts terms).1 ((eK cs f d i alts terms).2.2 - (i0:Int)) d
  | 0, d, i0, i, alts, terms, _, _, he => by cases he
  | f + 1, d, i0, i, alts, terms, hd, hso, he => by
    have hs:sQ cs fun d j=>eK cs f d j [] []:=fun d j hh=>nI cs f d j [] [] hh;have ho:AP cs fun d j=>eK cs f d j [] []:=fun d j hd hh=>po h hp f d j j [] [] hd (SoFar.start j d) hh;rw [eK] at he ⊢;split
    · rename_i g1;rw [if_pos g1] at he;split
      · rename_i g2;rw [if_pos g2] at he;exact absurd he g2
      · rename_i g2;rw [if_neg g2] at he;have e2:(eZ (fun d j=>eK cs f d j [] []) cs d i).2.1=0:=Classical.byContradiction g2;have a1:=ud hs e2;have a2:=vo h hp hs ho hd e2;exact po h hp f d i0 _ _ _ hd (hso.term a2 (by omega)) he
    · rename_i g1;rw [if_neg g1] at he;split
      · rename_i g2;rw [if_pos g2] at he;exact po h hp f d i0 _ _ _ hd (hso.alt hd) he
      · exact hso.fin hd
end
section
open Go.RowKit
open Srt
set_option maxRecDepth 100000 in
theorem uh (b:Int) (w:World):Calls Tryz.prog 132 #[.int .u8 b] w (fun e w'=>e= .returned (az (kj b))∧Ext aY w w'):=by
 refine enter (n:=9) Tryz.func132 rfl rfl (av rfl) ?_;intro a0 τ0 ha st0;have e0:=nh ha;refine wp_seq (ex st0 [] ⟨am fun c=>ar rfl rfl,ax⟩ fun ac ag ae ab aa=> ?_);replace e0:=aa.k1 e0;have e2:=aa.V 0;refine wp_seq (vM ab [] ⟨ao e0,am fun c=>gH rfl (c.q 0) rfl,bm 1,aE 2 rfl fun c hpc=>aI rfl (c.p e0),aE 2 rfl fun c hpc=>jZ rfl (c.M 3 hpc) rfl,bL 2 4,aF 5,ax⟩ fun ac ag ae ab aa=> ?_);have e2:=aa.V 6;refine wp_ret ?_;refine rp ?_;refine cJ (fn:=Tryz.f132) rfl ab.defers e2 ?_;exact ⟨rfl,ab.ext0⟩
set_option maxRecDepth 100000 in
theorem vp (b:Int) (w:World):Calls Tryz.prog 144 #[.int .u8 b] w (fun e w'=>e= .returned (az (tW b))∧Ext aY w w'):=by
 refine enter (n:=17) Tryz.func144 rfl rfl (av rfl) ?_;intro a0 τ0 ha st0;have e0:=nh ha;refine wp_seq (ex st0 [] ⟨am fun c=>ar rfl rfl,ax⟩ fun ac ag ae ab aa=> ?_);replace e0:=aa.k1 e0;have e2:=aa.V 0;refine wp_seq (rg [_,_,_,_,_,_,_,_,_,_,_,_,_,_,_] [0,1,3,7,15,31,63,127,255,511,1023,2047,4095,8191,16383] ab [] ⟨ao e0,am fun c=>gH rfl (c.q 0) rfl,bm 1,aE 2 rfl fun c hpc=>aI rfl (c.p e0),aE 2 rfl fun c hpc=>jZ rfl (c.M 3 hpc) rfl,bL 2 4,bm 5,bA 6 rfl fun c hpc=>aI rfl (c.p e0),bA 6 rfl fun c hpc=>gH rfl (c.M 7 hpc) rfl,bA 6 rfl fun c hpc=>aI rfl (c.M 8 hpc),cH 9 true rfl fun c hpc=>aI rfl (c.p e0),cH 9 true rfl fun c hpc=>jZ rfl (c.M 10 hpc) rfl,bA 6 rfl fun c hpc=>ly rfl (c.M 9 hpc) (fun h=>c.m 11 rfl (And.intro hpc h)),dF 6 12,aF 13,ax⟩ fun ac ag ae ab aa=> ?_);have e2:=aa.V 14;refine wp_ret ?_;refine rp ?_;refine cJ (fn:=Tryz.f144) rfl ab.defers e2 ?_;exact ⟨rfl,ab.ext0⟩
set_option maxRecDepth 100000 in
theorem xK (s:ByteArray) (w:World):Calls Tryz.prog 131 #[(aR s)] w (fun e w'=>e= .returned (.tuple #[aR (fF s).1,az (fF s).2])∧Ext aY w w'):=by
 refine enter (n:=31) Tryz.func131 rfl rfl (av rfl) ?_;intro a0 τ0 ha st0;have e0:=nh ha;refine wp_seq (ew st0 [] ⟨am fun c=>ar rfl rfl,am fun c=>ar rfl rfl,ax⟩ fun ac ag ae ab aa=> ?_);replace e0:=aa.k1 e0;have e2:=aa.V 0;have e3:=aa.V 1;refine wp_seq ?_;refine wp_seq (ex ab [] ⟨ao e0,ax⟩ fun ac ag ae ab aa=> ?_);obtain ⟨e0,e2,e3⟩:=aa.k3 e0 e2 e3;have e4:=aa.V 0;refine wp_block ?_;refine wp_seq (ew ab [] ⟨am fun c=>gj rfl (c.p e4) rfl,aF 0,ax⟩ fun ac ag ae ab aa=> ?_);obtain ⟨e0,e2,e3,e4⟩:=aa.k4 e0 e2 e3 e4;have e5:=aa.V 1;refine wp_cond_split e5 (fun hc1=> ?_) (fun hc1=> ?_)
 · have hd1:=hc1;skip;refine wp_seq (ew ab [] ⟨am fun c=>ar rfl rfl,am fun c=>ar rfl rfl,ax⟩ fun ac ag ae ab aa=> ?_);obtain ⟨e0,e4⟩:=aa.k2 e0 e4;have e2:=aa.V 0;have e3:=aa.V 1;refine wp_ret ?_;refine rp ?_;refine jt (fn:=Tryz.f131) rfl ab.defers e2 e3 ?_;exact ⟨congrArg _ (show (Value.tuple #[(aR (⟨#[]⟩:ByteArray)),(az false)])= .tuple #[aR (fF s).1,az (fF s).2] from by rw [show fF s=((⟨#[]⟩:ByteArray),false) from (by unfold fF;(repeat (first | rw [if_neg (by first | assumption | (simp only [aQ];assumption) | (simp only [aU];assumption))] | rw [if_pos (by assumption)])))]),ab.ext0⟩
 have hd1:=hc1;skip;refine wp_seq (ew ab [] ⟨am fun c=>gj rfl (c.p e4) rfl,aF 0,ax⟩ fun ac ag ae ab aa=> ?_);obtain ⟨e0,e2,e3,e4⟩:=aa.k4 e0 e2 e3 e4;have e7:=aa.V 1;refine wp_cond_split e7 (fun hc2=> ?_) (fun hc2=> ?_)
 · have hd2:=hc2;skip;refine wp_seq (ew ab [] ⟨am fun c=>ar rfl rfl,am fun c=>ar rfl rfl,ax⟩ fun ac ag ae ab aa=> ?_);obtain ⟨e0,e4⟩:=aa.k2 e0 e4;have e2:=aa.V 0;have e3:=aa.V 1;refine wp_ret ?_;refine rp ?_;refine jt (fn:=Tryz.f131) rfl ab.defers e2 e3 ?_;exact ⟨congrArg _ (show (Value.tuple #[(aR (⟨#[10]⟩:ByteArray)),(az true)])= .tuple #[aR (fF s).1,az (fF s).2] from by rw [show fF s=((⟨#[10]⟩:ByteArray),true) from (by unfold fF;(repeat (first | rw [if_neg (by first | assumption | (simp only [aQ];assumption) | (simp only [aU];assumption))] | rw [if_pos (by assumption)])))]),ab.ext0⟩
 have hd2:=hc2;skip;refine wp_seq (ew ab [] ⟨am fun c=>gj rfl (c.p e4) rfl,aF 0,ax⟩ fun ac ag ae ab aa=> ?_);obtain ⟨e0,e2,e3,e4⟩:=aa.k4 e0 e2 e3 e4;have e9:=aa.V 1;refine wp_cond_split e9 (fun hc3=> ?_) (fun hc3=> ?_)
 · have hd3:=hc3;skip;refine wp_seq (ew ab [] ⟨am fun c=>ar rfl rfl,am fun c=>ar rfl rfl,ax⟩ fun ac ag ae ab aa=> ?_);obtain ⟨e0,e4⟩:=aa.k2 e0 e4;have e2:=aa.V 0;have e3:=aa.V 1;refine wp_ret ?_;refine rp ?_;refine jt (fn:=Tryz.f131) rfl ab.defers e2 e3 ?_;exact ⟨congrArg _ (show (Value.tuple #[(aR (⟨#[13]⟩:ByteArray)),(az true)])= .tuple #[aR (fF s).1,az (fF s).2] from by rw [show fF s=((⟨#[13]⟩:ByteArray),true) from (by unfold fF;(repeat (first | rw [if_neg (by first | assumption | (simp only [aQ];assumption) | (simp only [aU];assumption))] | rw [if_pos (by assumption)])))]),ab.ext0⟩
 have hd3:=hc3;skip;refine wp_seq (ew ab [] ⟨am fun c=>gj rfl (c.p e4) rfl,aF 0,ax⟩ fun ac ag ae ab aa=> ?_);obtain ⟨e0,e2,e3,e4⟩:=aa.k4 e0 e2 e3 e4;have e11:=aa.V 1;refine wp_cond_split e11 (fun hc4=> ?_) (fun hc4=> ?_)
 · have hd4:=hc4;skip;refine wp_seq (ew ab [] ⟨am fun c=>ar rfl rfl,am fun c=>ar rfl rfl,ax⟩ fun ac ag ae ab aa=> ?_);obtain ⟨e0,e4⟩:=aa.k2 e0 e4;have e2:=aa.V 0;have e3:=aa.V 1;refine wp_ret ?_;refine rp ?_;refine jt (fn:=Tryz.f131) rfl ab.defers e2 e3 ?_;exact ⟨congrArg _ (show (Value.tuple #[(aR (⟨#[9]⟩:ByteArray)),(az true)])= .tuple #[aR (fF s).1,az (fF s).2] from by rw [show fF s=((⟨#[9]⟩:ByteArray),true) from (by unfold fF;(repeat (first | rw [if_neg (by first | assumption | (simp only [aQ];assumption) | (simp only [aU];assumption))] | rw [if_pos (by assumption)])))]),ab.ext0⟩
 have hd4:=hc4;skip;refine wp_seq (ew ab [] ⟨am fun c=>gj rfl (c.p e4) rfl,aF 0,ax⟩ fun ac ag ae ab aa=> ?_);obtain ⟨e0,e2,e3,e4⟩:=aa.k4 e0 e2 e3 e4;have e13:=aa.V 1;refine wp_cond_split e13 (fun hc5=> ?_) (fun hc5=> ?_)
 · have hd5:=hc5;skip;refine wp_seq (ew ab [] ⟨am fun c=>ar rfl rfl,am fun c=>ar rfl rfl,ax⟩ fun ac ag ae ab aa=> ?_);obtain ⟨e0,e4⟩:=aa.k2 e0 e4;have e2:=aa.V 0;have e3:=aa.V 1;refine wp_ret ?_;refine rp ?_;refine jt (fn:=Tryz.f131) rfl ab.defers e2 e3 ?_;exact ⟨congrArg _ (show (Value.tuple #[(aR (⟨#[12]⟩:ByteArray)),(az true)])= .tuple #[aR (fF s).1,az (fF s).2] from by rw [show fF s=((⟨#[12]⟩:ByteArray),true) from (by unfold fF;(repeat (first | rw [if_neg (by first | assumption | (simp only [aQ];assumption) | (simp only [aU];assumption))] | rw [if_pos (by assumption)])))]),ab.ext0⟩
 have hd5:=hc5;skip;refine wp_seq (ew ab [] ⟨am fun c=>gj rfl (c.p e4) rfl,aF 0,ax⟩ fun ac ag ae ab aa=> ?_);obtain ⟨e0,e2,e3⟩:=aa.k3 e0 e2 e3;have e15:=aa.V 1;refine wp_cond_split e15 (fun hc6=> ?_) (fun hc6=> ?_)
 · have hd6:=hc6;skip;refine wp_seq (ew ab [] ⟨am fun c=>ar rfl rfl,am fun c=>ar rfl rfl,ax⟩ fun ac ag ae ab aa=> ?_);replace e0:=aa.k1 e0;have e2:=aa.V 0;have e3:=aa.V 1;refine wp_ret ?_;refine rp ?_;refine jt (fn:=Tryz.f131) rfl ab.defers e2 e3 ?_;exact ⟨congrArg _ (show (Value.tuple #[(aR (⟨#[11]⟩:ByteArray)),(az true)])= .tuple #[aR (fF s).1,az (fF s).2] from by rw [show fF s=((⟨#[11]⟩:ByteArray),true) from (by unfold fF;(repeat (first | rw [if_neg (by first | assumption | (simp only [aQ];assumption) | (simp only [aU];assumption))] | rw [if_pos (by assumption)])))]),ab.ext0⟩
 have hd6:=hc6;skip;refine wp_skip ?_;show _;refine wp_seq ?_;refine wp_seq ?_;refine rg [_,_,_,_,_,_,_,_,_,_,_,_,_] [0,1,3,7,15,31,63,127,255,511,1023,2047,4095] ab [] ⟨ao e0,am fun c=>iu rfl bo (c.q 0),am fun c=>bW rfl (c.q 1) rfl,bm 2,aE 3 rfl fun c hpc=>aI rfl (c.p e0),aE 3 rfl fun c hpc=>gI rfl bo (c.M 4 hpc) rfl (by have hq0:=bt hpc;omega) (by have hq0:=bt hpc;omega),fq 3 true rfl fun c hpc=>⟨_,_,(bj rfl rfl Tryz.call144 (c.M 5 hpc)),vp (bZ s 0) _⟩,aE 3 rfl fun c hpc=>aI rfl (c.M 6 hpc),cH 7 false rfl fun c hpc=>aI rfl (c.p e0),cH 7 false rfl fun c hpc=>gI rfl bo (c.M 8 hpc) rfl (by have hq0:=hpc.2;have hq1:=bt hpc.1;omega) (by have hq0:=hpc.2;have hq1:=bt hpc.1;omega),lO 7 false rfl fun c hpc=>⟨_,_,(bj rfl rfl Tryz.call132 (c.M 9 hpc)),uh (bZ s 0) _⟩,aE 3 rfl fun c hpc=>pA rfl (c.M 7 hpc) (fun h=>c.m 10 rfl (And.intro hpc h)),bL 3 11,ax⟩ fun ac ag ae ab aa=> ?_;obtain ⟨e0,e2,e3⟩:=aa.k3 e0 e2 e3;have e29:=aa.V 12;refine wp_cond_split e29 (fun hc7=> ?_) (fun hc7=> ?_)
 · have hd7:=hc7;try simp only [aw,aO,ai] at hd7
   refine wp_seq (ew ab [] ⟨am fun c=>ar rfl rfl,am fun c=>ar rfl rfl,ax⟩ fun ac ag ae ab aa=> ?_);replace e0:=aa.k1 e0;have e2:=aa.V 0;have e3:=aa.V 1;refine wp_ret ?_;refine rp ?_;refine jt (fn:=Tryz.f131) rfl ab.defers e2 e3 ?_;exact ⟨congrArg _ (show (Value.tuple #[(aR (⟨#[]⟩:ByteArray)),(az false)])= .tuple #[aR (fF s).1,az (fF s).2] from by rw [show fF s=((⟨#[]⟩:ByteArray),false) from (by unfold fF;(repeat (first | rw [if_neg (by first | assumption | (simp only [aQ];assumption) | (simp only [aU];assumption))] | rw [if_pos (by assumption)])))]),ab.ext0⟩
 have hd7:=hc7;try simp only [aL,aG,ah] at hd7
 refine wp_skip ?_;refine wp_seq (eJ ab [] ⟨ao e0,aF 0,am fun c=>ar rfl rfl,ax⟩ fun ac ag ae ab aa=> ?_);have e2:=aa.V 1;have e3:=aa.V 2;refine wp_ret ?_;refine rp ?_;refine jt (fn:=Tryz.f131) rfl ab.defers e2 e3 ?_;exact ⟨congrArg _ (show (Value.tuple #[(aR s),(az true)])= .tuple #[aR (fF s).1,az (fF s).2] from by rw [show fF s=(s,true) from (by unfold fF;(repeat (first | rw [if_neg (by first | assumption | (simp only [aQ];assumption) | (simp only [aU];assumption))] | rw [if_pos (by assumption)])))]),ab.ext0⟩
set_option maxRecDepth 100000 in
theorem FX (v:Value) (cv:Sv) (cs:List ByteArray) (i:Nat) (w:World) (hm0:w.cell? (cU v)=some cv.v) (hm1:w.cell? ((cU v).add 1)=some (aj (i:Int))) (hS:SlT fo w cv.v cs):Calls Tryz.prog 58 #[(.pointer (some (cU v)))] w (fun e w'=>e= .returned (aR (cM cs i))∧Ext aY w w'):=by
 refine enter (n:=23) Tryz.func58 rfl rfl (av rfl) ?_;intro a0 τ0 ha st0;have e0:=nh ha;have hle:=hS.le;refine wp_seq (ex st0 [] ⟨am fun c=>ar rfl rfl,ax⟩ fun ac ag ae ab aa=> ?_);replace e0:=aa.k1 e0;have e2:=aa.V 0;refine wp_seq ?_;refine wp_seq (tB [0,1,3,7,0,16,48,112,240,511] ab [] ⟨ao e0,bK 0 rfl,br aW au 1 rfl,am fun c=>aA rfl aC (c.q 2) ((ab.ext.trans c.J.ext).cellAt hm1),ao e0,bK 4 rfl,br aW bQ 5 rfl,am fun c=>aA rfl cb (c.q 6) ((ab.ext.trans c.J.ext).cellAt hm0),am fun c=>de rfl bi (c.q 7) hS.sl,am fun c=>gH rfl (c.q 3) (c.q 8),ax⟩ fun ac ag ae ab aa=> ?_);obtain ⟨e0,e2⟩:=aa.k2 e0 e2;have e12:=aa.V 9;refine wp_cond_split e12 (fun hc1=> ?_) (fun hc1=> ?_)
 · try simp only [ai] at hc1
   refine wp_seq (ex ab [] ⟨am fun c=>ar rfl rfl,ax⟩ fun ac ag ae ab aa=> ?_);replace e0:=aa.k1 e0;have e2:=aa.V 0;refine wp_ret ?_;refine rp ?_;refine cJ (fn:=Tryz.f58) rfl ab.defers e2 ?_;exact ⟨congrArg _ (congrArg _ (by unfold cM;first | rw [if_pos (by omega)] | rw [if_neg (by omega)])),ab.ext0⟩
 try simp only [ah,ep] at hc1
 refine wp_skip ?_;refine wp_seq (pD [0,1,3,7,0,16,48,112,255,511,1023] ab [] ⟨ao e0,bK 0 rfl,br aW bQ 1 rfl,am fun c=>aA rfl cb (c.q 2) ((ab.ext.trans c.J.ext).cellAt hm0),ao e0,bK 4 rfl,br aW au 5 rfl,am fun c=>aA rfl aC (c.q 6) ((ab.ext.trans c.J.ext).cellAt hm1),am fun c=>aM rfl bi bc (c.q 3) hS.sl (c.q 7) (by omega) (by omega),am fun c=>aA rfl bG (c.q 8) ((hS.at (ab.ext.trans c.J.ext)).elem (j:=0) (bz (i:=(i:Int)) (by omega) (by omega)) rfl),aF 9,ax⟩ fun ac ag ae ab aa=> ?_);have e2:=aa.V 10;refine wp_ret ?_;refine rp ?_;refine cJ (fn:=Tryz.f58) rfl ab.defers e2 ?_;exact ⟨congrArg _ (congrArg _ (by unfold cM;first | rw [if_pos (by omega)] | rw [if_neg (by omega)])),ab.ext0⟩
theorem mr (v:Value) (cv:Sv) (cs:List ByteArray) (i:Nat) (w:World) (hR:RdR 68 v cv cs i w):Calls Tryz.prog 58 #[v] w (fun e w'=>e= .returned (.string (cM cs i))∧Ext aY w w'):=by
  have h:=FX v cv cs i w (hR.box.cell (j:=0) rfl) (hR.box.cell (j:=1) rfl) hR.sl;rwa [←hR.box.ptr] at h
set_option maxRecDepth 100000 in
theorem fW (v:Value) (cv:Sv) (cs:List ByteArray) (i:Nat) (s:ByteArray) (w:World) (hR:RdR 68 v cv cs i w) (hL:mq cs) (hi:i≤cs.length+5):Calls Tryz.prog 61 #[v,(aR s)] w (fun e w'=>e= .returned (az (eR cs i s))∧Ext (bJ v) w w'∧ce 68 [cv.v,aj ((tkN cs i s:Nat):Int)] (bJ v) v w'):=by
 refine es (bJ v) (fun g hg=>hR.box.lt g hg) (n:=36) Tryz.func61 rfl rfl (av rfl) ?_;intro a0 τ0 ha hτ st0;obtain ⟨e0,e1⟩:=qm ha;have hL1:=hL.1;have r0:ce 68 [cv.v,aj ((i:Nat):Int)] (τ0 0) v w:=by rw [hτ];exact hR.box
 have r9:Fz (dI fo Al cv.v cs) τ0 w:=hR.inz st0;refine wp_seq (ex st0 [jb r0,jz 9 r9] ⟨am fun c=>ar rfl rfl,ax⟩ fun ac ag ae ab aa=> ?_);obtain ⟨e0,e1⟩:=aa.k2 e0 e1;have e4:=aa.V 0;replace r0:=aa.B 0;replace r9:=aa.z1 9;refine wp_seq ?_;refine wp_seq ?_;refine rg [_,_,_,_,_,_,_,_,_,_,_,_,_,_,_,_,_,_,_,_,_,_,_,_] [0,1,3,7,0,16,48,112,240,511,1023,2047,4095,8191,16383,2047,34815,100351,231423,524287,1048575,2047,4194303,8388607] ab [jb r0,jz 9 r9] ⟨ao e0,bK 0 r0.ptr,br aW au 1 r0.ptr,dJ aC 2 0 1,ao e0,bK 4 r0.ptr,br aW bQ 5 r0.ptr,dJ cb 6 0 0,am fun c=>de rfl bi (c.q 7) (r9).1.sl,am fun c=>gH rfl (c.q 3) (c.q 8),bm 9,bA 10 rfl fun c hpc=>aI rfl (c.p e0),bA 10 rfl fun c hpc=>cC rfl (c.M 11 hpc) r0.ptr,bA 10 rfl fun c hpc=>cO rfl aW bQ ((c.M 12 hpc).trans r0.ptr),bA 10 rfl fun c hpc=>aA rfl cb (c.M 13 hpc) ((c.B 0).cell (j:=0) rfl),bA 10 rfl fun c hpc=>aI rfl (c.p e0),bA 10 rfl fun c hpc=>cC rfl (c.M 15 hpc) r0.ptr,bA 10 rfl fun c hpc=>cO rfl aW au ((c.M 16 hpc).trans r0.ptr),bA 10 rfl fun c hpc=>aA rfl aC (c.M 17 hpc) ((c.B 0).cell (j:=1) rfl),bA 10 rfl fun c hpc=>aM rfl bi bc (c.M 14 hpc) (r9).1.sl (c.M 18 hpc) (by have hq0:=bn hpc;omega) (by have hq0:=bn hpc;omega),bA 10 rfl fun c hpc=>aA rfl bG (c.M 19 hpc) (((c.iz 9 rfl).1).elem (j:=0) (bz (i:=((i:Nat):Int)) (by have hq0:=bn hpc;omega) (by have hq0:=bn hpc;omega)) rfl),bA 10 rfl fun c hpc=>aI rfl (c.p e1),bA 10 rfl fun c hpc=>lN rfl (c.M 20 hpc) (c.M 21 hpc),dF 10 22,ax⟩ fun ac ag ae ab aa=> ?_;obtain ⟨e0,e4⟩:=aa.k2 e0 e4;have e28:=aa.V 23;replace r0:=aa.B 0;replace r9:=aa.z1 9;refine wp_cond_split e28 (fun hc1=> ?_) (fun hc1=> ?_)
 · have hd1:=hc1;try simp only [aO,aG,aB,ay,ai,ah,ep] at hd1
   refine wp_seq (ex ab [jb r0,jz 9 r9] ⟨am fun c=>ar rfl rfl,ax⟩ fun ac ag ae ab aa=> ?_);replace e0:=aa.k1 e0;have e4:=aa.V 0;replace r0:=aa.B 0;replace r9:=aa.z1 9;refine wp_ret ?_;refine rp ?_;refine cJ (fn:=Tryz.f61) rfl ab.defers e4 ?_;have hb_:eR cs i s=false:=by unfold eR;first | (rw [show (decide ((cs.length:Int)≤(i:Int)) || (!(ix (nth cs (i:Int)) s)))=true from by assumption];rfl) | (rw [show (decide ((cs.length:Int)≤(i:Int)) || (!(ix (nth cs (i:Int)) s)))=false from by assumption];rfl)
   rw [hb_,jX hb_];exact ⟨rfl,ab.extIn,r0.foot⟩
 have hd1:=hc1;try simp only [aO,aG,aB,ay,ai,ah,ep] at hd1
 refine wp_skip ?_;refine wp_seq (vV ab [jb r0,jz 9 r9] ⟨ao e0,bK 0 r0.ptr,br aW au 1 r0.ptr,dJ aC 2 0 1,am fun c=>cV rfl (c.q 3) rfl (by omega),bK 0 r0.ptr,br aW au 5 r0.ptr,cj (cx:=[cv.v,(aj (((i:Nat):Int)+1))]) au fun c=>⟨c.bp 0 rfl e0,c.ad (c.q 6) e0 rfl,(c.q 4)⟩,ax⟩ fun ac ag ae ab aa=> ?_);obtain ⟨e0,e4⟩:=aa.k2 e0 e4;replace r0:=aa.RB 7 e0;replace r9:=aa.z1 9;replace r0:ce 68 [cv.v,aj ((i+1:Nat):Int)] (ae 0) v ag:=by rw [show ((i+1:Nat):Int)=((i:Nat):Int)+1 from by omega];exact r0
 refine wp_seq (ex ab [jb r0,jz 9 r9] ⟨am fun c=>ar rfl rfl,ax⟩ fun ac ag ae ab aa=> ?_);replace e0:=aa.k1 e0;have e4:=aa.V 0;replace r0:=aa.B 0;replace r9:=aa.z1 9;refine wp_ret ?_;refine rp ?_;refine cJ (fn:=Tryz.f61) rfl ab.defers e4 ?_;have hb_:eR cs i s=true:=by unfold eR;first | (rw [show (decide ((cs.length:Int)≤(i:Int)) || (!(ix (nth cs (i:Int)) s)))=true from by assumption];rfl) | (rw [show (decide ((cs.length:Int)≤(i:Int)) || (!(ix (nth cs (i:Int)) s)))=false from by assumption];rfl)
 rw [hb_,jf hb_];exact ⟨rfl,ab.extIn,r0.foot⟩
end
section
open Go.RowKit
open Srt
theorem CZ {cs:List ByteArray} {f:Nat} {n:Int} {m i:Nat} (h:((decide ((m:Int) < 3)&&decide (((cM cs i).size:Int)=1))&&kj (bZ (cM cs i) 0))=true):nk cs (f+1) n m i=nk cs f (n * 10+(bZ (cM cs i) 0 - 48)) (m+1) (i+1):=by rw [nk,if_pos h]
theorem AR {cs:List ByteArray} {f:Nat} {n:Int} {m i:Nat} (h:((decide ((m:Int) < 3)&&decide (((cM cs i).size:Int)=1))&&kj (bZ (cM cs i) 0))=false):nk cs (f+1) n m i=(n,m,i):=by rw [nk,if_neg (by rw [h];decide)]
theorem Ed {b:Int} (h:kj b=true):IntKind.u8.wrap (b - 48)=b - 48:=by
  simp only [kj,aw,ai] at h;simp [IntKind.wrap,IntKind.signed,IntKind.bits];omega
theorem Ee {b:Int} (h:0≤b∧b≤255):IntKind.i64.wrap b=b:=IntWalk.i64_in _ (by omega)
set_option maxRecDepth 100000 in
theorem Ef (v:Value) (cv:Sv) (cs:List ByteArray) (i:Nat) (w:World) (hR:RdR 68 v cv cs i w) (hL:mq cs) (hi:i≤cs.length+5):Calls Tryz.prog 106 #[v] w (fun e w'=>e= .returned (.tuple #[aj (cn cs i).1,az (jl (cn cs i))])∧Ext (bJ v) w w'∧ce 68 [cv.v,aj (((cn cs i).2.2:Nat):Int)] (bJ v) v w'):=by
 refine es (bJ v) (fun g hg=>hR.box.lt g hg) (n:=44) Tryz.func106 rfl rfl (av rfl) ?_;intro a0 τ0 ha hτ st0;have e0:=nh ha;have hL1:=hL.1;have r0:ce 68 [cv.v,aj ((i:Nat):Int)] (τ0 0) v w:=by rw [hτ];exact hR.box
 have r9:Fz (dI fo Al cv.v cs) τ0 w:=hR.inz st0;refine wp_seq (ew st0 [jb r0,jz 9 r9] ⟨am fun c=>ar rfl rfl,am fun c=>ar rfl rfl,ax⟩ fun ac ag ae ab aa=> ?_);replace e0:=aa.k1 e0;have e2:=aa.V 0;have e3:=aa.V 1;replace r0:=aa.B 0;replace r9:=aa.z1 9;refine wp_seq (ew ab [jb r0,jz 9 r9] ⟨am fun c=>ar rfl rfl,am fun c=>ar rfl rfl,ax⟩ fun ac ag ae ab aa=> ?_);obtain ⟨e0,e2,e3⟩:=aa.k3 e0 e2 e3;have e4:=aa.V 0;have e5:=aa.V 1;replace r0:=aa.B 0;replace r9:=aa.z1 9;refine wp_seq ?_;refine wp_block ?_;refine wp_loop (fun a_ w_=>∃(n:Int) (m j f:Nat) (τ:Nat→aP),(0≤n∧n < 10 ^ m)∧
      (m+f=3)∧
      (i≤j)∧
      (j≤i+m)∧
      (nk cs 4 0 0 i=nk cs (f+1) n m j)∧
      St (fun k=>bJ v k∨w.heap.size≤k) w 44 a_ w_ τ∧
      aT a_ 4=(aj n)∧
      aT a_ 5=(aj (m:Int))∧
      aT a_ 0=v∧
      aT a_ 2=(aj 0)∧
      aT a_ 3=(az false)∧
      ce 68 [cv.v,(aj ((j:Nat):Int))] (τ 0) v w_∧
      Fz (dI fo Al cv.v cs) τ w_) (fun a_ _=>(3 - intOf (aT a_ 5)).toNat) ?_ ?_
 · refine ⟨0,0,i,3,ae,?_,?_,?_,?_,?_,ab,(e4.trans (bk (by omega))),(e5.trans (bk (by omega))),e0,e2,e3,r0,r9⟩
   · decide
   · omega
   · omega
   · omega
   · rfl
 intro a3 w3 hI;obtain ⟨n,m,j,f,τ3,q0,q1,q2,q3,q4,st3,e4,e5,e0,e2,e3,r0,r9⟩:=hI;have hn1000:n < 1000:=kZ q0.2 (by show (10:Int) ^ m≤1000;match m,(show m≤3 by omega) with | 0,_=>decide | 1,_=>decide | 2,_=>decide | 3,_=>decide)
 have m5:=e5;refine wp_seq ?_;refine wp_seq ?_;refine rg [_,_,_,_,_,_,_,_,_,_,_,_,_,_] [0,1,3,7,15,31,63,127,255,511,1023,2047,4095,8191] st3 [jb r0,jz 9 r9] ⟨ao e5,am fun c=>dj rfl (c.q 0) rfl,bm 1,aE 2 rfl fun c hpc=>aI rfl (c.p e0),fq 2 true rfl fun c hpc=>⟨_,_,(bj rfl rfl fR (c.M 3 hpc)),mr v cv cs j _ (kE (c.B 0) (c.iz 9 rfl) (fun g_ h_ hz_=>hz_.2 _ h_))⟩,aE 2 rfl fun c hpc=>iu rfl bo (c.M 4 hpc),aE 2 rfl fun c hpc=>bW rfl (c.M 5 hpc) rfl,bL 2 6,bm 7,aE 8 rfl fun c hpc=>aI rfl (c.p e0),fq 8 true rfl fun c hpc=>⟨_,_,(bj rfl rfl fR (c.M 9 hpc)),mr v cv cs j _ (kE (c.B 0) (c.iz 9 rfl) (fun g_ h_ hz_=>hz_.2 _ h_))⟩,aE 8 rfl fun c hpc=>gI rfl bo (c.M 10 hpc) rfl (by have hq0:=hpc;(try simp only [aw,ai] at hq0);first | omega | (have h_:=gw (cM cs j) 0;omega) | (have h_:=gY (by omega:((cM cs j).size:Int)=1);omega)) (by have hq0:=hpc;(try simp only [aw,ai] at hq0);first | omega | (have h_:=gw (cM cs j) 0;omega) | (have h_:=gY (by omega:((cM cs j).size:Int)=1);omega)),fq 8 true rfl fun c hpc=>⟨_,_,(bj rfl rfl Tryz.call132 (c.M 11 hpc)),uh (bZ (cM cs j) 0) _⟩,bL 8 12,ax⟩ fun ac ag ae ab aa=> ?_;obtain ⟨e0,e2,e3,e4,e5⟩:=aa.k5 e0 e2 e3 e4 e5;have e19:=aa.V 13;replace r0:=aa.B 0;replace r9:=aa.z1 9;refine wp_cond_split e19 (fun hc1=> ?_) (fun hc1=> ?_)
 · have hd1:=hc1;try simp only [aw,ai] at hd1
   refine wp_skip ?_;refine wp_block ?_;refine wp_seq ?_;have hcond:((decide ((m:Int) < 3)&&decide (((cM cs j).size:Int)=1))&&kj (bZ (cM cs j) 0))=true:=by assumption
   have hbr:=gw (cM cs j) 0;have hca:=hcond;simp only [aw,ai] at hca;have hdb:=hca.2;simp only [kj,aw,ai] at hdb;have hwr:IntKind.i64.wrap (IntKind.u8.wrap (bZ (cM cs j) 0 - 48))=bZ (cM cs j) 0 - 48:=by rw [Ed hca.2,Ee (by omega)]
   have hsz1:=gY hca.1.2;refine qU [0,1,0,4,12,28,60,127,255] ab [jb r0,jz 9 r9] ⟨ao e4,am fun c=>FB rfl (c.q 0) rfl (by first | omega | (have h_:=gw (cM cs j) 0;omega) | (have h_:=gY (by omega:((cM cs j).size:Int)=1);omega)),ao e0,dQ fun c=>⟨_,_,(bj rfl rfl fR (c.q 2)),mr v cv cs j _ (kE (c.B 0) (c.iz 9 rfl) (fun g_ h_ hz_=>hz_.2 _ h_))⟩,am fun c=>gI rfl bo (c.q 3) rfl (by first | omega | (have h_:=gw (cM cs j) 0;omega) | (have h_:=gY (by omega:((cM cs j).size:Int)=1);omega)) (by first | omega | (have h_:=gw (cM cs j) 0;omega) | (have h_:=gY (by omega:((cM cs j).size:Int)=1);omega)),am fun c=>vP rfl (c.q 4) rfl,am fun c=>qL rfl fy eH (c.q 5),am fun c=>cV rfl (c.q 1) (c.q 6) (by first | omega | (have h_:=gw (cM cs j) 0;omega) | (have h_:=gY (by omega:((cM cs j).size:Int)=1);omega)),aF 7,ax⟩ fun ac ag ae ab aa=> ?_;obtain ⟨e0,e2,e3,e5,e19⟩:=aa.k5 e0 e2 e3 e5 e19;have e4:=aa.V 8;replace r0:=aa.B 0;replace r9:=aa.z1 9;have hcb:=hcond;simp only [aw,ai] at hcb;have hdg:=hcb.2;simp only [kj,aw,ai] at hdg;have hsz:=gY hcb.1.2;replace e4:aT ac 4=aj (n * 10+(bZ (cM cs j) 0 - 48)):=by rw [e4,Ed hcb.2,Ee (by omega)]
   refine wp_seq ?_;refine eJ ab [jb r0,jz 9 r9] ⟨ao e5,am fun c=>cV rfl (c.q 0) rfl (by first | omega | (have h_:=gw (cM cs j) 0;omega) | (have h_:=gY (by omega:((cM cs j).size:Int)=1);omega)),aF 1,ax⟩ fun ac ag ae ab aa=> ?_;obtain ⟨e0,e2,e3,e4,e19⟩:=aa.k5 e0 e2 e3 e4 e19;have e5:=aa.V 2;replace r0:=aa.B 0;replace r9:=aa.z1 9;refine vV ab [jb r0,jz 9 r9] ⟨ao e0,bK 0 r0.ptr,br aW au 1 r0.ptr,dJ aC 2 0 1,am fun c=>cV rfl (c.q 3) rfl (by first | omega | (have h_:=gw (cM cs j) 0;omega) | (have h_:=gY (by omega:((cM cs j).size:Int)=1);omega)),bK 0 r0.ptr,br aW au 5 r0.ptr,cj (cx:=[cv.v,(aj (((j:Nat):Int)+1))]) au fun c=>⟨c.bp 0 rfl e0,c.ad (c.q 6) e0 rfl,(c.q 4)⟩,ax⟩ fun ac ag ae ab aa=> ?_;obtain ⟨e0,e2,e3,e4,e5,e19⟩:=aa.k6 e0 e2 e3 e4 e5 e19;replace r0:=aa.RB 7 e0;replace r9:=aa.z1 9;replace r0:ce 68 [cv.v,aj ((j+1:Nat):Int)] (ae 0) v ag:=by rw [show ((j+1:Nat):Int)=((j:Nat):Int)+1 from by omega];exact r0
   show _;refine ⟨⟨n * 10+(bZ (cM cs j) 0 - 48),m+1,j+1,f - 1,ae,?_,?_,?_,?_,?_,ab,(e4.trans (bk (by omega))),(e5.trans (bk (by omega))),e0,e2,e3,r0,r9⟩,?_⟩
   · rw [Int.pow_succ];omega
   · omega
   · omega
   · omega
   · obtain ⟨f,rfl⟩:∃f_,f=f_+1:=⟨f - 1,by omega⟩;rw [q4,CZ hcond];rfl
   · simp only [m5,e5,intOf];omega
 have hd1:=hc1;try simp only [aL,ah,aX] at hd1
 refine wp_exit ?_;repeat (with_reducible refine cq ?_)
 refine cy ?_;refine wp_seq ?_;have hcond:((decide ((m:Int) < 3)&&decide (((cM cs j).size:Int)=1))&&kj (bZ (cM cs j) 0))=false:=by assumption
 refine qU [0,0,2,6,14,30,62,15,255] ab [jb r0,jz 9 r9] ⟨ao e4,ao e5,am fun c=>iP rfl (c.q 1) rfl,bm 2,aE 3 rfl fun c hpc=>aI rfl (c.p e4),aE 3 rfl fun c hpc=>jZ rfl (c.M 4 hpc) rfl,bL 3 5,aF 0,aF 6,ax⟩ fun ac ag ae ab aa=> ?_;replace e0:=aa.k1 e0;have e2:=aa.V 7;have e3:=aa.V 8;replace r0:=aa.B 0;replace r9:=aa.z1 9;refine wp_ret ?_;refine rp ?_;refine jt (fn:=Tryz.f106) rfl ab.defers e2 e3 ?_;have he_:cn cs i=(n,m,j):=by rw [cn,q4,AR hcond]
 rw [he_];exact ⟨rfl,ab.extIn,r0.foot⟩
end
section
open Go.RowKit
open Srt
theorem Gt {a b:Bool} (h:(a&&b)=true):b=true:=by cases a <;> simp_all
theorem AS {r:Rw} (h:((!eb r.1 || !eb r.2) || !oC r.1 r.2)=true):fe r=false:=by rw [xl] at h;simpa using h
theorem xL {r:Rw} (h:((!eb r.1 || !eb r.2) || !oC r.1 r.2)=false):fe r=true:=by rw [xl] at h;simpa using h
theorem ui {xs:List Rw} {n f:Bool} {s:ByteArray} (h:f=true):sf xs n f s= !(((uw xs s || uw xs (fS s)) || uw xs (DV s))==n):=by rw [sf,if_pos h]
theorem wz {xs:List Rw} {n f:Bool} {s:ByteArray} (h:f=false):sf xs n f s= !(uw xs s==n):=by rw [sf,if_neg (by rw [h];decide)]
theorem AT {xs:List Rw} {n f:Bool} {s:ByteArray} (h:(f&&(uw xs (fS s) || uw xs (DV s)))=true):sf xs n f s= !(true==n):=by
  cases f with
  | false => cases h
  | true =>
    rw [ui rfl];simp only [fI] at h;rw [Bool.or_assoc,h,Bool.or_true]
theorem AU {xs:List Rw} {n f:Bool} {s:ByteArray} (h:(f&&(uw xs (fS s) || uw xs (DV s)))=false):sf xs n f s= !(uw xs s==n):=by
  cases f with
  | false => exact wz rfl
  | true =>
    rw [ui rfl];simp only [fI] at h;rw [Bool.or_assoc,h,lK]
theorem pN {n:Int} (h:n=100):gA n=[(⟨#[48]⟩,⟨#[57]⟩)]∧hD n=true:=by subst h;exact ⟨rfl,rfl⟩
theorem pO {n:Int} (h:n=119):gA n=[(⟨#[48]⟩,⟨#[57]⟩),(⟨#[65]⟩,⟨#[90]⟩),(⟨#[95]⟩,⟨#[95]⟩),(⟨#[97]⟩,⟨#[122]⟩)]∧hD n=true:=by subst h;exact ⟨rfl,rfl⟩
theorem pP {n:Int} (h:n=115):gA n=[(⟨#[9]⟩,⟨#[13]⟩),(⟨#[32]⟩,⟨#[32]⟩)]∧hD n=true:=by subst h;exact ⟨rfl,rfl⟩
theorem AV {n:Int} (h1:¬n=100) (h2:¬n=119) (h3:¬n=115):gA n=[]∧hD n=false:=by
  unfold gA hD;rw [if_neg h1,if_neg h2,if_neg h3,decide_eq_false h1,decide_eq_false h2,decide_eq_false h3];exact ⟨rfl,rfl⟩
set_option maxRecDepth 100000 in
theorem od (s:ByteArray) (w:World) (hs:s.size≤1000000000):Calls Tryz.prog 129 #[(aR s)] w (fun e w'=>e= .returned (aR (fS s))∧Ext aY w w'):=by
 refine enter (n:=35) Tryz.func129 rfl rfl (av rfl) ?_;intro a0 τ0 ha st0;have e0:=nh ha;have hbl:=iG s;have hbd:s.data.toList.length=s.size:=iG s;refine wp_seq (ex st0 [] ⟨am fun c=>ar rfl rfl,ax⟩ fun ac ag ae ab aa=> ?_);replace e0:=aa.k1 e0;have e2:=aa.V 0;refine wp_seq (rg [_,vL 5 _ 0 6 _,vL 5 _ 0 3 _] [0,1,3] ab [] ⟨ao e0,mG rfl rfl rfl rfl bo ci fy (by first | omega | exact (fw _).1 | exact (fw _).2) fun c=>(c.n 0 rfl),dH (t0:=6) rfl rfl rfl rfl rfl (.inr rfl) (fun _ _ _ _ c=>⟨c.ry 1 rfl,rfl⟩),ax⟩ fun ac ag ae ab aa=> ?_);obtain ⟨b2x3,e3⟩:=gx ac 3;replace e2:=aa.k1 e2;have r0:=aa.ry 2 e3 rfl;refine wp_seq ?_;refine wp_seq (ex ab [jy r0] ⟨am fun c=>ar rfl rfl,ax⟩ fun ac ag ae ab aa=> ?_);obtain ⟨e2,e3⟩:=aa.k2 e2 e3;have e4:=aa.V 0;replace r0:=aa.iy 0 rfl;refine wp_block ?_;refine wp_loop (fun a_ w_=>∃(k:Nat) (τ:Nat→aP),(k≤(bs s).length)∧
      St (Nw w) w 35 a_ w_ τ∧
      aT a_ 4=(aj (k:Int))∧
      aT a_ 2=(aR (⟨#[]⟩:ByteArray))∧
      aT a_ 3=b2x3∧
      kG 5 (fG jF (bs s) k) (τ 0) b2x3 w_) (fun a_ _=>(bs s).length - (intOf (aT a_ 4)).toNat) ?_ ?_
 · refine ⟨0,ae,?_,ab,(e4.trans (bk (by omega))),e2,e3,?_⟩
   · omega
   · exact r0.cast (by exact mM _ _)
 intro a4 w4 hI;obtain ⟨k,τ4,q0,st4,e4,e2,e3,r0⟩:=hI;have hml:=nO jF (bs s) k;have m4:=e4;refine wp_seq ?_;refine wp_seq (lu [0,0,2,7] st4 [jy r0] ⟨ao e4,ao e3,am fun c=>de rfl ci (c.q 1) r0.isSl,am fun c=>dj rfl (c.q 0) (c.q 2),ax⟩ fun ac ag ae ab aa=> ?_);obtain ⟨e2,e3,e4⟩:=aa.k3 e2 e3 e4;have e10:=aa.V 3;replace r0:=aa.iy 0 rfl;refine wp_cond_split e10 (fun hc1=> ?_) (fun hc1=> ?_)
 · try simp only [ai] at hc1
   refine wp_skip ?_;refine wp_seq ?_;refine wp_block ?_;refine wp_seq ?_;refine sd [0,0,3,7,15,31,63,63,255,511,1023,2047] ab [jy r0] ⟨ao e3,ao e4,am fun c=>aM rfl ci eA (c.q 0) r0.isSl (c.q 1) (by first | omega | exact (fw _).1 | exact (fw _).2) (by first | omega | exact (fw _).1 | exact (fw _).2),am fun c=>aA rfl iO (c.q 2) (((c.iy 0 rfl).1.sl).elem (j:=0) (bz (i:=(k:Int)) (by first | omega | exact (fw _).1 | exact (fw _).2) (by first | omega | exact (fw _).1 | exact (fw _).2)) rfl),am fun c=>gH rfl (c.q 3) rfl,bm 4,aE 5 rfl fun c hpc=>aI rfl (c.p e3),aE 5 rfl fun c hpc=>aI rfl (c.p e4),aE 5 rfl fun c hpc=>aM rfl ci eA (c.M 6 hpc) r0.isSl (c.M 7 hpc) (by have hq0:=bt hpc;first | omega | exact (fw _).1 | exact (fw _).2) (by have hq0:=bt hpc;first | omega | exact (fw _).1 | exact (fw _).2),aE 5 rfl fun c hpc=>aA rfl iO (c.M 8 hpc) (((c.iy 0 rfl).1.sl).elem (j:=0) (bz (i:=(k:Int)) (by have hq0:=bt hpc;first | omega | exact (fw _).1 | exact (fw _).2) (by have hq0:=bt hpc;first | omega | exact (fw _).1 | exact (fw _).2)) rfl),aE 5 rfl fun c hpc=>jZ rfl (c.M 9 hpc) rfl,bL 5 10,ax⟩ fun ac ag ae ab aa=> ?_;obtain ⟨e2,e3,e4,e10⟩:=aa.k4 e2 e3 e4 e10;have e24:=aa.V 11;replace r0:=aa.iy 0 rfl;refine wp_cond_split e24 (fun hc2=> ?_) (fun hc2=> ?_)
   · have hd2:=hc2;try simp only [aw,ai] at hd2
     refine rg [_,_,_,_,_,_,_,_,vL 5 _ 0 3 _] [0,0,0,0,12,28,60,127,255] ab [jy r0] ⟨ao e3,ao e4,ao e3,ao e4,am fun c=>aM rfl ci eA (c.q 2) r0.isSl (c.q 3) (by first | omega | exact (fw _).1 | exact (fw _).2) (by first | omega | exact (fw _).1 | exact (fw _).2),am fun c=>aA rfl iO (c.q 4) (((c.iy 0 rfl).1.sl).elem (j:=0) (bz (i:=(k:Int)) (by first | omega | exact (fw _).1 | exact (fw _).2) (by first | omega | exact (fw _).1 | exact (fw _).2)) rfl),am fun c=>zv rfl (c.q 5) rfl,am fun c=>aM rfl ci eA (c.q 0) r0.isSl (c.q 1) (by first | omega | exact (fw _).1 | exact (fw _).2) (by first | omega | exact (fw _).1 | exact (fw _).2),nM (i:=(k:Int).toNat) (n:=IntKind.u8.wrap (((nth (fG jF (bs s) k) (k:Int)).toNat:Int)+32)) rfl rfl rfl rfl eA (by first | omega | exact (fw _).1 | exact (fw _).2) (by first | omega | exact (fw _).1 | exact (fw _).2) (by first | omega | exact (fw _).1 | exact (fw _).2) fun c=>⟨c.yp 0 rfl e3,c.ad (c.n 7 rfl) e3 rfl,(c.n 6 rfl)⟩,ax⟩ fun ac ag ae ab aa=> ?_;obtain ⟨e2,e3,e4,e10,e24⟩:=aa.k5 e2 e3 e4 e10 e24;replace r0:=aa.ry 8 e3 rfl;show _;refine eJ ab [jy r0] ⟨ao e4,am fun c=>cV rfl (c.q 0) rfl (by first | omega | exact (fw _).1 | exact (fw _).2),aF 1,ax⟩ fun ac ag ae ab aa=> ?_;obtain ⟨e2,e3,e10,e24⟩:=aa.k4 e2 e3 e10 e24;have e4:=aa.V 2;replace r0:=aa.iy 0 rfl;refine ⟨⟨k+1,ae,?_,ab,(e4.trans (bk (by omega))),e2,e3,?_⟩,?_⟩
     · omega
     · exact r0.cast (by first | exact pd (by omega) (by assumption) | exact nV (by omega) (by assumption))
     · simp only [m4,e4,intOf];omega
   have hd2:=hc2;try simp only [aL,ah,ep] at hd2
   refine wp_skip ?_;show _;refine eJ ab [jy r0] ⟨ao e4,am fun c=>cV rfl (c.q 0) rfl (by first | omega | exact (fw _).1 | exact (fw _).2),aF 1,ax⟩ fun ac ag ae ab aa=> ?_;obtain ⟨e2,e3,e10,e24⟩:=aa.k4 e2 e3 e10 e24;have e4:=aa.V 2;replace r0:=aa.iy 0 rfl;refine ⟨⟨k+1,ae,?_,ab,(e4.trans (bk (by omega))),e2,e3,?_⟩,?_⟩
   · omega
   · exact r0.cast (by first | exact pd (by omega) (by assumption) | exact nV (by omega) (by assumption))
   · simp only [m4,e4,intOf];omega
 try simp only [ah,aX] at hc1
 refine wp_exit ?_;repeat (with_reducible refine cq ?_)
 refine cy ?_;refine wp_seq (eJ ab [jy r0] ⟨ao e3,am fun c=>nL rfl ci fy bo (c.q 0) (c.iy 0 rfl).1.sl,aF 1,ax⟩ fun ac ag ae ab aa=> ?_);have e2:=aa.V 2;refine wp_ret ?_;refine rp ?_;refine cJ (fn:=Tryz.f129) rfl ab.defers e2 ?_;exact ⟨congrArg (fun l_=>Ending.returned (aR ⟨List.toArray l_⟩)) (nQ (by omega)),ab.ext0⟩
set_option maxRecDepth 100000 in
theorem wA (v:Value) (xs:List (ByteArray × ByteArray)) (w:World) (hS:SlT iF w v xs) (hz:pa xs) (hbig:xs.length≤1000000000):Calls Tryz.prog 128 #[v] w (fun e w'=>∃v',e= .returned v'∧Ext aY w w'∧oN iF 89 w w' v' (gy xs)):=by
 refine enter (n:=137) Tryz.func128 rfl rfl (av rfl) ?_;intro a0 τ0 ha st0;have e0:=nh ha;have hle:=hS.le;refine wp_seq (ex st0 [] ⟨am fun c=>ar rfl rfl,ax⟩ fun ac ag ae ab aa=> ?_);replace e0:=aa.k1 e0;have e2:=aa.V 0;refine wp_seq (ex ab [] ⟨am fun c=>ar rfl rfl,ax⟩ fun ac ag ae ab aa=> ?_);obtain ⟨e0,e2⟩:=aa.k2 e0 e2;have e3:=aa.V 0;refine wp_seq ?_;refine wp_seq (ex ab [] ⟨am fun c=>ar rfl rfl,ax⟩ fun ac ag ae ab aa=> ?_);obtain ⟨e0,e2,e3⟩:=aa.k3 e0 e2 e3;have e4:=aa.V 0;refine wp_block ?_;refine wp_loop (fun a_ w_=>∃(i:Nat) (o:Value) (τ:Nat→aP),(i≤xs.length)∧
      St (Nw w) w 137 a_ w_ τ∧
      aT a_ 3=o∧
      aT a_ 4=(aj (i:Int))∧
      aT a_ 0=v∧
      aT a_ 2=(.slice none 0 0)∧
      dX iF 89 (eG sg ((xs.take i).filter fe)) (τ 0) o w_) (fun a_ _=>xs.length - (intOf (aT a_ 4)).toNat) ?_ ?_
 · refine ⟨0,(.slice none 0 0),ae,?_,ab,e3,(e4.trans (bk (by omega))),e0,e2,?_⟩
   · omega
   · exact dX.nil _ _ _ _
 intro a4 w4 hI;obtain ⟨i,o,τ4,q0,st4,e3,e4,e0,e2,r0⟩:=hI;have hil:=oU (lt:=sg) ((xs.take i).filter fe);have hfl:=yx (f:=fe) (xs:=xs) (k:=i);have hzk:=rj hz (k:=i);have m4:=e4;refine wp_seq ?_;refine wp_seq (lu [0,0,2,7] st4 [jo r0] ⟨ao e4,ao e0,am fun c=>de rfl bd (c.q 1) hS.sl,am fun c=>dj rfl (c.q 0) (c.q 2),ax⟩ fun ac ag ae ab aa=> ?_);obtain ⟨e0,e2,e3,e4⟩:=aa.k4 e0 e2 e3 e4;have e13:=aa.V 3;replace r0:=aa.O 0;refine wp_cond_split e13 (fun hc1=> ?_) (fun hc1=> ?_)
 · try simp only [ai] at hc1
   refine wp_skip ?_;refine wp_seq ?_;refine wp_block ?_;refine wp_seq (rg [_,_,_,_,box _ _ 2 5 [(aR (⟨#[]⟩:ByteArray)),(aR (⟨#[]⟩:ByteArray))],_] [0,0,3,7,0,31] ab [jo r0] ⟨ao e0,ao e4,am fun c=>aM rfl bd bT (c.q 0) hS.sl (c.q 1) (by omega) (by omega),am fun c=>cT (vs:=[(aR ((nth xs (i:Int)).1)),(aR ((nth xs (i:Int)).2))]) rfl gU bT (c.q 2) rfl (fun _ _ hj=>(hS.at (ab.ext.trans c.J.ext)).elem (bz (i:=(i:Int)) (by omega) (by omega)) hj),ct rfl rfl rfl rfl cR rfl,fU (cx:=[(aR ((nth xs (i:Int)).1)),(aR ((nth xs (i:Int)).2))]) (off:=0) rfl bT fun c=>⟨c.rb 4 rfl,(c.rb 4 rfl).ptr,(c.q 3)⟩,ax⟩ fun ac ag ae ab aa=> ?_);obtain ⟨b6x5,e5⟩:=gx ac 5;obtain ⟨e0,e2,e3,e4,e13⟩:=aa.k5 e0 e2 e3 e4 e13;replace r0:=aa.O 0;have r2:=aa.rb 5 e5 rfl;refine wp_seq ?_;refine wp_seq ?_;refine rg [_,_,_,_,_,_,_,_,_,_,_,_,_,_,_,_,_] [0,1,3,7,15,31,63,127,255,511,1023,2047,4095,2047,10239,32767,65535] ab [jo r0,jb r2] ⟨cc bH bc e5 r2.ptr,dJ bG 0 2 0,dQ fun c=>⟨_,_,(bj rfl rfl kx (c.q 1)),jI ((nth xs (i:Int)).1) _ (by omega)⟩,am fun c=>dS rfl (c.q 2),bm 3,bA 4 rfl fun c hpc=>cO rfl bH bc ((c.p e5).trans r2.ptr),bA 4 rfl fun c hpc=>aA rfl bG (c.M 5 hpc) ((c.B 2).cell (j:=1) rfl),fq 4 false rfl fun c hpc=>⟨_,_,(bj rfl rfl kx (c.M 6 hpc)),jI ((nth xs (i:Int)).2) _ (by have hq0:=hpc;(try simp only [aB,ay] at hq0);omega)⟩,bA 4 rfl fun c hpc=>dS rfl (c.M 7 hpc),dF 4 8,bm 9,bA 10 rfl fun c hpc=>cO rfl bH bc ((c.p e5).trans r2.ptr),bA 10 rfl fun c hpc=>aA rfl bG (c.M 11 hpc) ((c.B 2).cell (j:=0) rfl),bA 10 rfl fun c hpc=>cO rfl bH bc ((c.p e5).trans r2.ptr),bA 10 rfl fun c hpc=>aA rfl bG (c.M 13 hpc) ((c.B 2).cell (j:=1) rfl),bA 10 rfl fun c hpc=>zC rfl (c.M 12 hpc) (c.M 14 hpc),dF 10 15,ax⟩ fun ac ag ae ab aa=> ?_;obtain ⟨e0,e2,e3,e4,e5,e13⟩:=aa.k6 e0 e2 e3 e4 e5 e13;have e36:=aa.V 16;replace r0:=aa.O 0;replace r2:=aa.B 2;refine wp_cond_split e36 (fun hc2=> ?_) (fun hc2=> ?_)
   · have hd2:=hc2;try simp only [aO,aG,aB,ay] at hd2
     refine wp_exit ?_;repeat (with_reducible refine cq ?_)
     refine cy ?_;refine eJ ab [jo r0,jb r2] ⟨ao e4,am fun c=>cV rfl (c.q 0) rfl (by omega),aF 1,ax⟩ fun ac ag ae ab aa=> ?_;obtain ⟨e0,e2,e3,e5,e13,e36⟩:=aa.k6 e0 e2 e3 e5 e13 e36;have e4:=aa.V 2;replace r0:=aa.O 0;replace r2:=aa.B 2;refine ⟨⟨i+1,o,ae,?_,ab,e3,(e4.trans (bk (by omega))),e0,e2,?_⟩,?_⟩
     · omega
     · exact r0.cast (by first | exact uP (by omega) (xL (by assumption)) q0 q1 (by assumption) | (rw [uM (by omega) (AS (by assumption))]))
     · simp only [m4,e4,intOf];omega
   have hd2:=hc2;try simp only [aO,aG,aB,ay] at hd2
   refine wp_skip ?_;refine wp_seq (eJ ab [jo r0,jb r2] ⟨ao e3,am fun c=>de rfl bd (c.q 0) r0.isSl,aF 1,ax⟩ fun ac ag ae ab aa=> ?_);obtain ⟨e0,e2,e3,e4,e5,e13,e36⟩:=aa.k7 e0 e2 e3 e4 e5 e13 e36;have e6:=aa.V 2;replace r0:=aa.O 0;replace r2:=aa.B 2;refine wp_seq ?_;refine wp_block ?_;refine wp_loop (fun a_ w_=>∃(k:Nat) (τ:Nat→aP),(k≤(eG sg ((xs.take i).filter fe)).length)∧
          (∀q ∈ (eG sg ((xs.take i).filter fe)).drop k,sg (nth xs (i:Int)) q=true)∧
          St (Nw w) w 137 a_ w_ τ∧
          aT a_ 6=(aj (k:Int))∧
          aT a_ 0=v∧
          aT a_ 2=(.slice none 0 0)∧
          aT a_ 3=o∧
          aT a_ 4=(aj (i:Int))∧
          aT a_ 5=b6x5∧
          aT a_ 13=(az (decide ((i:Int) < (xs.length:Int))))∧
          aT a_ 36=(az (((!(eb ((nth xs (i:Int)).1))) || (!(eb ((nth xs (i:Int)).2)))) || (!(oC ((nth xs (i:Int)).1) ((nth xs (i:Int)).2)))))∧
          dX iF 89 (eG sg ((xs.take i).filter fe)) (τ 0) o w_∧
          ce 89 [(aR ((nth xs (i:Int)).1)),(aR ((nth xs (i:Int)).2))] (τ 2) b6x5 w_) (fun a_ _=>(intOf (aT a_ 6)).toNat) ?_ ?_
   · refine ⟨(eG sg ((xs.take i).filter fe)).length,ae,?_,?_,ab,(e6.trans (bk (by omega))),e0,e2,e3,e4,e5,e13,e36,r0,r2⟩
     · omega
     · simp
   intro a10 w10 hI;obtain ⟨k,τ10,q0,q1,st10,e6,e0,e2,e3,e4,e5,e13,e36,r0,r2⟩:=hI;have m6:=e6;refine wp_seq ?_;refine wp_seq ?_;refine rg [_,_,_,_,_,_,_,_,_,_,_,_,_,_,_,_,_,_,_,_,_,_,_,_,_,_,_,_,_,_,_,_,_,_,_] [0,1,3,7,15,7,7,71,231,487,999,2047,4095,8191,16383,8191,8191,73727,237567,499711,1023999,2097151,4194303,8388607,16777215,8388607,8388607,75497471,243269631,511705087,1048575999,2147483647,4294967295,8589934591,17179869183] st10 [jo r0,jb r2] ⟨ao e6,am fun c=>iP rfl (c.q 0) rfl,bm 1,aE 2 rfl fun c hpc=>cO rfl bH bc ((c.p e5).trans r2.ptr),aE 2 rfl fun c hpc=>aA rfl bG (c.M 3 hpc) ((c.B 2).cell (j:=0) rfl),aE 2 rfl fun c hpc=>aI rfl (c.p e3),aE 2 rfl fun c hpc=>aI rfl (c.p e6),aE 2 rfl fun c hpc=>jj rfl (c.M 6 hpc) rfl (by have hq0:=bt hpc;omega),aE 2 rfl fun c hpc=>aM rfl bd bT (c.M 5 hpc) r0.isSl (c.M 7 hpc) (by have hq0:=bt hpc;omega) (by have hq0:=bt hpc;omega),aE 2 rfl fun c hpc=>cO rfl bH bc (c.M 8 hpc),aE 2 rfl fun c hpc=>aA rfl bG (c.M 9 hpc) (((c.io 0 rfl).1.sl).elem (j:=0) (bz (i:=(k:Int) - 1) (by have hq0:=bt hpc;omega) (by have hq0:=bt hpc;omega)) rfl),aE 2 rfl fun c hpc=>vS rfl (c.M 4 hpc) (c.M 10 hpc),aE 2 rfl fun c hpc=>aI rfl (c.M 11 hpc),cH 12 false rfl fun c hpc=>cO rfl bH bc ((c.p e5).trans r2.ptr),cH 12 false rfl fun c hpc=>aA rfl bG (c.M 13 hpc) ((c.B 2).cell (j:=0) rfl),cH 12 false rfl fun c hpc=>aI rfl (c.p e3),cH 12 false rfl fun c hpc=>aI rfl (c.p e6),cH 12 false rfl fun c hpc=>jj rfl (c.M 16 hpc) rfl (by have hq0:=hpc.2;have hq1:=bt hpc.1;omega),cH 12 false rfl fun c hpc=>aM rfl bd bT (c.M 15 hpc) r0.isSl (c.M 17 hpc) (by have hq0:=hpc.2;have hq1:=bt hpc.1;omega) (by have hq0:=hpc.2;have hq1:=bt hpc.1;omega),cH 12 false rfl fun c hpc=>cO rfl bH bc (c.M 18 hpc),cH 12 false rfl fun c hpc=>aA rfl bG (c.M 19 hpc) (((c.io 0 rfl).1.sl).elem (j:=0) (bz (i:=(k:Int) - 1) (by have hq0:=hpc.2;have hq1:=bt hpc.1;omega) (by have hq0:=hpc.2;have hq1:=bt hpc.1;omega)) rfl),cH 12 false rfl fun c hpc=>gj rfl (c.M 14 hpc) (c.M 20 hpc),cH 12 false rfl fun c hpc=>aI rfl (c.M 21 hpc),cH 22 true rfl fun c hpc=>cO rfl bH bc ((c.p e5).trans r2.ptr),cH 22 true rfl fun c hpc=>aA rfl bG (c.M 23 hpc) ((c.B 2).cell (j:=1) rfl),cH 22 true rfl fun c hpc=>aI rfl (c.p e3),cH 22 true rfl fun c hpc=>aI rfl (c.p e6),cH 22 true rfl fun c hpc=>jj rfl (c.M 26 hpc) rfl (by have hq0:=hpc.2;have hq1:=hpc.1.2;have hq2:=bt hpc.1.1;omega),cH 22 true rfl fun c hpc=>aM rfl bd bT (c.M 25 hpc) r0.isSl (c.M 27 hpc) (by have hq0:=hpc.2;have hq1:=hpc.1.2;have hq2:=bt hpc.1.1;omega) (by have hq0:=hpc.2;have hq1:=hpc.1.2;have hq2:=bt hpc.1.1;omega),cH 22 true rfl fun c hpc=>cO rfl bH bc (c.M 28 hpc),cH 22 true rfl fun c hpc=>aA rfl bG (c.M 29 hpc) (((c.io 0 rfl).1.sl).elem (j:=1) (bz (i:=(k:Int) - 1) (by have hq0:=hpc.2;have hq1:=hpc.1.2;have hq2:=bt hpc.1.1;omega) (by have hq0:=hpc.2;have hq1:=hpc.1.2;have hq2:=bt hpc.1.1;omega)) rfl),cH 22 true rfl fun c hpc=>vS rfl (c.M 24 hpc) (c.M 30 hpc),cH 12 false rfl fun c hpc=>ly rfl (c.M 22 hpc) (fun h=>c.m 31 rfl (And.intro hpc h)),aE 2 rfl fun c hpc=>pA rfl (c.M 12 hpc) (fun h=>c.m 32 rfl (And.intro hpc h)),bL 2 33,ax⟩ fun ac ag ae ab aa=> ?_;obtain ⟨e0,e2,e3,e4,e5,e6,e13,e36⟩:=aa.k8 e0 e2 e3 e4 e5 e6 e13 e36;have e73:=aa.V 34;replace r0:=aa.O 0;replace r2:=aa.B 2;refine wp_cond_split e73 (fun hc3=> ?_) (fun hc3=> ?_)
   · have hd3:=hc3;try simp only [aw,aO,ai] at hd3
     refine wp_skip ?_;refine wp_block ?_;refine eJ ab [jo r0,jb r2] ⟨ao e6,am fun c=>jj rfl (c.q 0) rfl (by omega),aF 1,ax⟩ fun ac ag ae ab aa=> ?_;obtain ⟨e0,e2,e3,e4,e5,e13,e36,e73⟩:=aa.k8 e0 e2 e3 e4 e5 e13 e36 e73;have e6:=aa.V 2;replace r0:=aa.O 0;replace r2:=aa.B 2;show _;refine ⟨⟨k - 1,ae,?_,?_,ab,(e6.trans (bk (by omega))),e0,e2,e3,e4,e5,e13,e36,r0,r2⟩,?_⟩
     · omega
     · exact yq (lt:=sg) (by omega) q0 q1 (Gt (a:=decide ((0:Int) < (k:Int))) (by assumption))
     · simp only [m6,e6,intOf];omega
   have hd3:=hc3;try simp only [aL,aG,ah,aX] at hd3
   refine wp_exit ?_;repeat (with_reducible refine cq ?_)
   refine cy ?_;refine rg [own iF 89 _ 3 76 ([]),_,_,_,own _ _ _ 3 80 _,_,own iF 89 _ 4 82 ([(nth xs (i:Int))]),own _ _ _ 3 83 _,_,_,_,own _ _ _ 3 87 _,own _ _ _ 3 3 _] [0,0,0,6,15,0,32,127,0,0,768,2047,4095] ab [jo r0,jb r2] ⟨kt rfl rfl rfl rfl bd bT,ao e3,ao e6,am fun c=>sk rfl bd bT (c.q 1) r0.isSl (c.q 2) (by omega) (by omega),eT (t0:=76) rfl rfl rfl rfl bd (i:=Tryz.t89) rfl rfl rfl rfl (by simp only [maxLen];(try simp);omega) (by show _ * 32≤_;(try simp);omega) (fun _ _ _ _ c=>⟨c.ro 0 rfl,rfl,⟨_,(c.n 3 rfl),((c.io 0 rfl).1.sl.sub (lo:=0) (hi:=k) (by omega) (by omega))⟩⟩),am fun c=>ea rfl gU bT ((c.p e5).trans r2.ptr) (c.B 2),dm (cells:=#[(aR ((nth xs (i:Int)).1)),(aR ((nth xs (i:Int)).2))]) rfl rfl rfl rfl bd bT cR rfl (by decide) (by decide) (fun _ _ _ _ c=>gD (c.n 5 rfl) (by kernel_rfl)) rfl,eT (t0:=80) rfl rfl rfl rfl bd (i:=Tryz.t89) rfl rfl rfl rfl (by simp only [maxLen];(try simp);omega) (by show _ * 32≤_;(try simp);omega) (fun _ _ _ _ c=>⟨c.ro 4 rfl,rfl,⟨_,rfl,(c.ro 6 rfl).1.sl⟩⟩),ao e3,ao e6,am fun c=>pB rfl bd bT (c.q 8) r0.isSl (c.q 9) (by omega) (by omega),eT (t0:=83) rfl rfl rfl rfl bd (i:=Tryz.t89) rfl rfl rfl rfl (by simp only [maxLen];(try simp);omega) (by show _ * 32≤_;(try simp);omega) (fun _ _ _ _ c=>⟨c.ro 7 rfl,rfl,⟨_,(c.n 10 rfl),((c.io 0 rfl).1.sl.sub (lo:=k) (hi:=(eG sg ((xs.take i).filter fe)).length) (by omega) (by omega))⟩⟩),dH (t0:=87) rfl rfl rfl rfl rfl (.inr rfl) (fun _ _ _ _ c=>⟨c.ro 11 rfl,rfl⟩),ax⟩ fun ac ag ae ab aa=> ?_;obtain ⟨b13x3,e3⟩:=gx ac 3;obtain ⟨b13x82,e82⟩:=gx ac 82;obtain ⟨e0,e2,e4,e5,e6,e13,e36,e73⟩:=aa.k8 e0 e2 e4 e5 e6 e13 e36 e73;replace r0:=aa.O 0;replace r2:=aa.B 2;have r3:=aa.ro 12 e3 rfl;have r4:=aa.ro 6 e82 rfl;show _;refine eJ ab [jo r0,jb r2,jo r3,jo r4] ⟨ao e4,am fun c=>cV rfl (c.q 0) rfl (by omega),aF 1,ax⟩ fun ac ag ae ab aa=> ?_;obtain ⟨e0,e2,e3,e5,e6,e13,e36,e73⟩:=aa.k8 e0 e2 e3 e5 e6 e13 e36 e73;have e4:=aa.V 2;replace r0:=aa.O 0;replace r2:=aa.B 2;replace r3:=aa.O 3;replace r4:=aa.O 4;refine ⟨⟨i+1,b13x3,(retag ae [(0,3)]),?_,(ab.retag [(0,3)] (by decide)),e3,(e4.trans (bk (by omega))),e0,e2,?_⟩,?_⟩
   · omega
   · exact r3.cast (by first | exact uP (by omega) (xL (by assumption)) q0 q1 (by assumption) | (rw [uM (by omega) (AS (by assumption))]))
   · simp only [m4,e4,intOf];omega
 try simp only [ah,aX] at hc1
 refine wp_exit ?_;repeat (with_reducible refine cq ?_)
 refine cy ?_;refine wp_seq (ex ab [jo r0] ⟨am fun c=>ar rfl rfl,ax⟩ fun ac ag ae ab aa=> ?_);obtain ⟨e2,e3⟩:=aa.k2 e2 e3;have e7:=aa.V 0;replace r0:=aa.O 0;replace r0:=r0.cast (show eG nz (xs.filter fe)=(eG sg ((xs.take i).filter fe)) from by rw [bB (by omega),ED]);have hil:=nB xs;refine wp_seq ?_;refine wp_seq (ex ab [jo r0] ⟨am fun c=>ar rfl rfl,ax⟩ fun ac ag ae ab aa=> ?_);obtain ⟨e2,e3,e7⟩:=aa.k3 e2 e3 e7;have e8:=aa.V 0;replace r0:=aa.O 0;refine wp_block ?_;refine wp_loop (fun a_ w_=>∃(m:Nat) (u:Value) (τ:Nat→aP),(m≤(eG nz (xs.filter fe)).length)∧
      St (Nw w) w 137 a_ w_ τ∧
      aT a_ 7=u∧
      aT a_ 8=(aj (m:Int))∧
      aT a_ 2=(.slice none 0 0)∧
      aT a_ 3=o∧
      dX iF 89 (gk ((eG nz (xs.filter fe)).take m)) (τ 1) u w_∧
      dX iF 89 (eG nz (xs.filter fe)) (τ 0) o w_) (fun a_ _=>(eG nz (xs.filter fe)).length - (intOf (aT a_ 8)).toNat) ?_ ?_
 · refine ⟨0,(.slice none 0 0),ae,?_,ab,e7,(e8.trans (bk (by omega))),e2,e3,?_,r0⟩
   · omega
   · exact dX.nil _ _ _ _
 intro a17 w17 hI;obtain ⟨m,u,τ17,q0,st17,e7,e8,e2,e3,r1,r0⟩:=hI;have hjl:=wg (xs:=(eG nz (xs.filter fe))) (k:=m);have m8:=e8;refine wp_seq ?_;refine wp_seq (lu [0,0,2,7] st17 [jo r0,jo r1] ⟨ao e8,ao e3,am fun c=>de rfl bd (c.q 1) r0.isSl,am fun c=>dj rfl (c.q 0) (c.q 2),ax⟩ fun ac ag ae ab aa=> ?_);obtain ⟨e2,e3,e7,e8⟩:=aa.k4 e2 e3 e7 e8;have e91:=aa.V 3;replace r0:=aa.O 0;replace r1:=aa.O 1;refine wp_cond_split e91 (fun hc4=> ?_) (fun hc4=> ?_)
 · try simp only [ai] at hc4
   refine wp_skip ?_;refine wp_seq ?_;refine wp_block ?_;refine wp_seq (eJ ab [jo r0,jo r1] ⟨ao e7,am fun c=>de rfl bd (c.q 0) r1.isSl,aF 1,ax⟩ fun ac ag ae ab aa=> ?_);obtain ⟨e2,e3,e7,e8,e91⟩:=aa.k5 e2 e3 e7 e8 e91;have e9:=aa.V 2;replace r0:=aa.O 0;replace r1:=aa.O 1;refine wp_seq ?_;refine rg [_,_,_,_,_,_,_,_,_,_,_,_,_,_,_,_] [0,1,3,7,7,31,63,127,7,7,519,1799,3847,7943,16383,32767] ab [jo r0,jo r1] ⟨ao e9,am fun c=>iP rfl (c.q 0) rfl,bm 1,aE 2 rfl fun c hpc=>aI rfl (c.p e3),aE 2 rfl fun c hpc=>aI rfl (c.p e8),aE 2 rfl fun c hpc=>aM rfl bd bT (c.M 3 hpc) r0.isSl (c.M 4 hpc) (by have hq0:=bt hpc;omega) (by have hq0:=bt hpc;omega),aE 2 rfl fun c hpc=>cO rfl bH bc (c.M 5 hpc),aE 2 rfl fun c hpc=>aA rfl bG (c.M 6 hpc) (((c.io 0 rfl).1.sl).elem (j:=0) (bz (i:=(m:Int)) (by have hq0:=bt hpc;omega) (by have hq0:=bt hpc;omega)) rfl),aE 2 rfl fun c hpc=>aI rfl (c.p e7),aE 2 rfl fun c hpc=>aI rfl (c.p e9),aE 2 rfl fun c hpc=>jj rfl (c.M 9 hpc) rfl (by have hq0:=bt hpc;omega),aE 2 rfl fun c hpc=>aM rfl bd bT (c.M 8 hpc) r1.isSl (c.M 10 hpc) (by have hq0:=bt hpc;omega) (by have hq0:=bt hpc;omega),aE 2 rfl fun c hpc=>cO rfl bH bc (c.M 11 hpc),aE 2 rfl fun c hpc=>aA rfl bG (c.M 12 hpc) (((c.io 1 rfl).1.sl).elem (j:=1) (bz (i:=((gk ((eG nz (xs.filter fe)).take m)).length:Int) - 1) (by have hq0:=bt hpc;omega) (by have hq0:=bt hpc;omega)) rfl),aE 2 rfl fun c hpc=>nu rfl (c.M 7 hpc) (c.M 13 hpc),bL 2 14,ax⟩ fun ac ag ae ab aa=> ?_;obtain ⟨e2,e3,e7,e8,e9,e91⟩:=aa.k6 e2 e3 e7 e8 e9 e91;have e111:=aa.V 15;replace r0:=aa.O 0;replace r1:=aa.O 1;refine wp_cond_split e111 (fun hc5=> ?_) (fun hc5=> ?_)
   · have hd5:=hc5;try simp only [aw,ai] at hd5
     refine rg [_,_,_,_,_,_,_,_,_,_,_,_,_,_,_,_,_,own _ _ _ 1 7 _] [0,0,2,0,0,16,56,120,248,0,0,1536,3584,7680,16376,32767,65535,131071] ab [jo r0,jo r1] ⟨ao e7,ao e9,am fun c=>jj rfl (c.q 1) rfl (by omega),ao e7,ao e9,am fun c=>jj rfl (c.q 4) rfl (by omega),am fun c=>aM rfl bd bT (c.q 3) r1.isSl (c.q 5) (by omega) (by omega),br bH bc 6 rfl,am fun c=>aA rfl bG (c.q 7) (((c.io 1 rfl).1.sl).elem (j:=1) (bz (i:=((gk ((eG nz (xs.filter fe)).take m)).length:Int) - 1) (by omega) (by omega)) rfl),ao e3,ao e8,am fun c=>aM rfl bd bT (c.q 9) r0.isSl (c.q 10) (by omega) (by omega),br bH bc 11 rfl,am fun c=>aA rfl bG (c.q 12) (((c.io 0 rfl).1.sl).elem (j:=1) (bz (i:=(m:Int)) (by omega) (by omega)) rfl),am fun c=>Er rfl (c.q 8) (c.q 13),am fun c=>aM rfl bd bT (c.q 0) r1.isSl (c.q 2) (by omega) (by omega),br bH bc 15 rfl,mF (E:=iF) (i:=(((gk ((eG nz (xs.filter fe)).take m)).length:Int) - 1).toNat) (off:=1) (u:=(aR (qk ((nth (gk ((eG nz (xs.filter fe)).take m)) (((gk ((eG nz (xs.filter fe)).take m)).length:Int) - 1)).2) ((nth (eG nz (xs.filter fe)) (m:Int)).2)))) (x:=nth (gk ((eG nz (xs.filter fe)).take m)) (((gk ((eG nz (xs.filter fe)).take m)).length:Int) - 1)) (x':=((nth (gk ((eG nz (xs.filter fe)).take m)) (((gk ((eG nz (xs.filter fe)).take m)).length:Int) - 1)).1,qk ((nth (gk ((eG nz (xs.filter fe)).take m)) (((gk ((eG nz (xs.filter fe)).take m)).length:Int) - 1)).2) ((nth (eG nz (xs.filter fe)) (m:Int)).2))) rfl rfl rfl rfl bc (bz (by omega) (by (try simp only [dN]);omega)) (av rfl) (by simp [Value.cells,Value.oneCell',Sv.v]) rfl (fun _ a_ _ _ c=>⟨c.ip 1 rfl e7,c.ad (c.n 16 rfl) e7 (by rw [add_add];rfl),(c.n 14 rfl)⟩),ax⟩ fun ac ag ae ab aa=> ?_;obtain ⟨e2,e3,e7,e8,e9,e91,e111⟩:=aa.k7 e2 e3 e7 e8 e9 e91 e111;replace r0:=aa.O 0;replace r1:=aa.ro 17 e7 rfl;show _;refine eJ ab [jo r0,jo r1] ⟨ao e8,am fun c=>cV rfl (c.q 0) rfl (by omega),aF 1,ax⟩ fun ac ag ae ab aa=> ?_;obtain ⟨e2,e3,e7,e9,e91,e111⟩:=aa.k6 e2 e3 e7 e9 e91 e111;have e8:=aa.V 2;replace r0:=aa.O 0;replace r1:=aa.O 1;refine ⟨⟨m+1,u,ae,?_,ab,e7,(e8.trans (bk (by omega))),e2,e3,?_,r0⟩,?_⟩
     · omega
     · exact r1.cast (by first | exact sE (by omega) (pb (by assumption)) | exact rm (by omega) (pb (by assumption)))
     · simp only [m8,e8,intOf];omega
   have hd5:=hc5;try simp only [aL,ah,aX] at hd5
   refine rg [_,_,_,_,_,own iF 89 _ 2 134 ([(nth (eG nz (xs.filter fe)) (m:Int))]),own _ _ _ 1 135 _,own _ _ _ 1 7 _] [0,0,0,6,14,30,63,127] ab [jo r0,jo r1] ⟨ao e7,ao e3,ao e8,am fun c=>aM rfl bd bT (c.q 1) r0.isSl (c.q 2) (by omega) (by omega),am fun c=>cT (vs:=[(aR ((nth (eG nz (xs.filter fe)) (m:Int)).1)),(aR ((nth (eG nz (xs.filter fe)) (m:Int)).2))]) rfl gU bT (c.q 3) rfl (fun _ _ hj=>((c.io 0 rfl).1.sl).elem (bz (i:=(m:Int)) (by omega) (by omega)) hj),dm (cells:=#[(aR ((nth (eG nz (xs.filter fe)) (m:Int)).1)),(aR ((nth (eG nz (xs.filter fe)) (m:Int)).2))]) rfl rfl rfl rfl bd bT cR rfl (by decide) (by decide) (fun _ _ _ _ c=>gD (c.n 4 rfl) (by kernel_rfl)) rfl,eT (t0:=7) rfl rfl rfl rfl bd (i:=Tryz.t89) rfl rfl rfl rfl (by simp only [maxLen];(try simp);omega) (by show _ * 32≤_;(try simp);omega) (fun _ _ _ _ c=>⟨c.ip 1 rfl e7,c.sm (c.n 0 rfl) e7,⟨_,rfl,(c.ro 5 rfl).1.sl⟩⟩),dH (t0:=135) rfl rfl rfl rfl rfl (.inr rfl) (fun _ _ _ _ c=>⟨c.ro 6 rfl,rfl⟩),ax⟩ fun ac ag ae ab aa=> ?_;obtain ⟨b23x134,e134⟩:=gx ac 134;obtain ⟨b23x7,e7⟩:=gx ac 7;obtain ⟨e2,e3,e8,e9,e91,e111⟩:=aa.k6 e2 e3 e8 e9 e91 e111;replace r0:=aa.O 0;replace r1:=aa.ro 7 e7 rfl;have r2:=aa.ro 5 e134 rfl;show _;refine eJ ab [jo r0,jo r1,jo r2] ⟨ao e8,am fun c=>cV rfl (c.q 0) rfl (by omega),aF 1,ax⟩ fun ac ag ae ab aa=> ?_;obtain ⟨e2,e3,e7,e9,e91,e111⟩:=aa.k6 e2 e3 e7 e9 e91 e111;have e8:=aa.V 2;replace r0:=aa.O 0;replace r1:=aa.O 1;replace r2:=aa.O 2;refine ⟨⟨m+1,b23x7,ae,?_,ab,e7,(e8.trans (bk (by omega))),e2,e3,?_,r0⟩,?_⟩
   · omega
   · exact r1.cast (by first | exact sE (by omega) (pb (by assumption)) | exact rm (by omega) (pb (by assumption)))
   · simp only [m8,e8,intOf];omega
 try simp only [ah,aX] at hc4
 refine wp_exit ?_;repeat (with_reducible refine cq ?_)
 refine cy ?_;refine wp_seq (ew ab [jo r0,jo r1] ⟨ao e7,aF 0,ax⟩ fun ac ag ae ab aa=> ?_);have e2:=aa.V 1;replace r1:=aa.O 1;refine wp_ret ?_;refine rp ?_;refine cJ (fn:=Tryz.f128) rfl ab.defers e2 ?_;replace r1:=r1.cast (show gy xs=_ from by rw [gy,bB (l:=(eG nz (xs.filter fe))) (by omega)]);exact ⟨_,rfl,ab.ext0,r1.1,fun g_ h_=>(ab.bnd _ g_ (r1.2 g_ h_)).1⟩
set_option maxRecDepth 100000 in
theorem ES (v:Value) (xs:List (ByteArray × ByteArray)) (s:ByteArray) (w:World) (hS:SlT iF w v xs):Calls Tryz.prog 133 #[v,(aR s)] w (fun e w'=>e= .returned (az (uw xs s))∧Ext aY w w'):=by
 refine enter (n:=24) Tryz.func133 rfl rfl (av rfl) ?_;intro a0 τ0 ha st0;obtain ⟨e0,e1⟩:=qm ha;have hle:=hS.le;refine wp_seq (ex st0 [] ⟨am fun c=>ar rfl rfl,ax⟩ fun ac ag ae ab aa=> ?_);obtain ⟨e0,e1⟩:=aa.k2 e0 e1;have e4:=aa.V 0;refine wp_seq ?_;refine wp_seq (zp [0,1,0] ab [] ⟨ao e0,am fun c=>de rfl bd (c.q 0) hS.sl,am fun c=>aI rfl rfl,ax⟩ fun ac ag ae ab aa=> ?_);obtain ⟨e1,e4⟩:=aa.k2 e1 e4;have e7:=aa.V 0;have e8:=aa.V 1;have e9:=aa.V 2;refine wp_block ?_;refine wp_loop (fun a_ w_=>∃(k:Nat) (τ:Nat→aP),(k≤xs.length)∧
      (∀i < k,(oC (nth xs ((i:Nat):Int)).1 s&&oC s (nth xs ((i:Nat):Int)).2)=false)∧
      St (Nw w) w 24 a_ w_ τ∧
      aT a_ 9=(aj (k:Int))∧
      aT a_ 1=(aR s)∧
      aT a_ 7=v∧
      aT a_ 8=(aj (xs.length:Int))) (fun a_ _=>xs.length - (intOf (aT a_ 9)).toNat) ?_ ?_
 · refine ⟨0,ae,?_,?_,ab,(e9.trans (bk (by omega))),e1,e7,e8⟩
   · omega
   · intro i hi;omega
 intro a3 w3 hI;obtain ⟨k,τ3,q0,q1,st3,e9,e1,e7,e8⟩:=hI;have m9:=e9;refine wp_seq (ex st3 [] ⟨am fun c=>dj rfl (c.p e9) (c.p e8),ax⟩ fun ac ag ae ab aa=> ?_);obtain ⟨e1,e7,e8,e9⟩:=aa.k4 e1 e7 e8 e9;have e10:=aa.V 0;refine wp_seq ?_;refine wp_cond_split e10 (fun hc1=> ?_) (fun hc1=> ?_)
 · try simp only [ai] at hc1
   refine wp_skip ?_;refine wp_seq ?_;refine wp_block ?_;refine wp_seq (rg [_,_,box _ _ 0 6 [(aR (⟨#[]⟩:ByteArray)),(aR (⟨#[]⟩:ByteArray))],_] [0,1,0,7] ab [] ⟨am fun c=>aM rfl bd bT (c.p e7) hS.sl (c.p e9) (by omega) (by omega),am fun c=>cT (vs:=[(aR ((nth xs (k:Int)).1)),(aR ((nth xs (k:Int)).2))]) rfl gU bT (c.q 0) rfl (fun _ _ hj=>(hS.at (ab.ext.trans c.J.ext)).elem (bz (i:=(k:Int)) (by omega) (by omega)) hj),ct rfl rfl rfl rfl cR rfl,fU (cx:=[(aR ((nth xs (k:Int)).1)),(aR ((nth xs (k:Int)).2))]) (off:=0) rfl bT fun c=>⟨c.rb 2 rfl,(c.rb 2 rfl).ptr,(c.q 1)⟩,ax⟩ fun ac ag ae ab aa=> ?_);obtain ⟨b5x6,e6⟩:=gx ac 6;obtain ⟨e1,e7,e8,e9,e10⟩:=aa.k5 e1 e7 e8 e9 e10;have r0:=aa.rb 3 e6 rfl;refine wp_seq (tB [0,1,0,7,15,31,31,95,255,511] ab [jb r0] ⟨cc bH bc e6 r0.ptr,dJ bG 0 0 0,ao e1,am fun c=>nu rfl (c.q 1) (c.q 2),bm 3,aE 4 rfl fun c hpc=>aI rfl (c.p e1),aE 4 rfl fun c hpc=>cO rfl bH bc ((c.p e6).trans r0.ptr),aE 4 rfl fun c hpc=>aA rfl bG (c.M 6 hpc) ((c.B 0).cell (j:=1) rfl),aE 4 rfl fun c hpc=>nu rfl (c.M 5 hpc) (c.M 7 hpc),bL 4 8,ax⟩ fun ac ag ae ab aa=> ?_);obtain ⟨e1,e6,e7,e8,e9,e10⟩:=aa.k6 e1 e6 e7 e8 e9 e10;have e22:=aa.V 9;replace r0:=aa.B 0;refine wp_cond_split e22 (fun hc2=> ?_) (fun hc2=> ?_)
   · have hd2:=hc2;try simp only [aw] at hd2
     refine wp_seq (ex ab [jb r0] ⟨am fun c=>ar rfl rfl,ax⟩ fun ac ag ae ab aa=> ?_);obtain ⟨e1,e6,e7,e8,e9,e10,e22⟩:=aa.k7 e1 e6 e7 e8 e9 e10 e22;have e4:=aa.V 0;replace r0:=aa.B 0;refine wp_ret ?_;refine rp ?_;refine cJ (fn:=Tryz.f133) rfl ab.defers e4 ?_;exact ⟨congrArg _ (congrArg _ (by exact (xk (k:=k) (by omega) (by assumption)).symm)),ab.ext0⟩
   have hd2:=hc2;try simp only [aL] at hd2
   refine wp_skip ?_;show _;refine ew ab [jb r0] ⟨am fun c=>cV rfl (c.p e9) rfl (by omega),bm 0,ax⟩ fun ac ag ae ab aa=> ?_;obtain ⟨e1,e6,e7,e8,e10,e22⟩:=aa.k6 e1 e6 e7 e8 e10 e22;have e9:=aa.V 1;replace r0:=aa.B 0;refine ⟨⟨k+1,ae,?_,?_,ab,(e9.trans (bk (by omega))),e1,e7,e8⟩,?_⟩
   · omega
   · exact nU (f:=fun i=>(oC (nth xs i).1 s&&oC s (nth xs i).2)) q1 (by assumption)
   · simp only [m9,e9,intOf];omega
 try simp only [ah,aX] at hc1
 refine wp_exit ?_;repeat (with_reducible refine cq ?_)
 refine cy ?_;refine wp_seq (ex ab [] ⟨am fun c=>ar rfl rfl,ax⟩ fun ac ag ae ab aa=> ?_);have e4:=aa.V 0;refine wp_ret ?_;refine rp ?_;refine cJ (fn:=Tryz.f133) rfl ab.defers e4 ?_;exact ⟨congrArg _ (congrArg _ (by exact (Ac (k:=k) (by omega) q1).symm)),ab.ext0⟩
set_option maxRecDepth 100000 in
theorem uj (v:Value) (xs:List (ByteArray × ByteArray)) (s:ByteArray) (w:World) (hS:SlT iF w v xs):Calls Tryz.prog 145 #[v,(aR s)] w (fun e w'=>e= .returned (az (uw xs s))∧Ext aY w w'):=by
 refine enter (n:=28) Tryz.func145 rfl rfl (av rfl) ?_;intro a0 τ0 ha st0;obtain ⟨e0,e1⟩:=qm ha;have hle:=hS.le;refine wp_seq (ex st0 [] ⟨am fun c=>ar rfl rfl,ax⟩ fun ac ag ae ab aa=> ?_);obtain ⟨e0,e1⟩:=aa.k2 e0 e1;have e4:=aa.V 0;refine wp_seq ?_;refine wp_seq (ex ab [] ⟨am fun c=>ar rfl rfl,ax⟩ fun ac ag ae ab aa=> ?_);obtain ⟨e0,e1,e4⟩:=aa.k3 e0 e1 e4;have e5:=aa.V 0;refine wp_block ?_;refine wp_loop (fun a_ w_=>∃(k:Nat) (τ:Nat→aP),(k≤xs.length)∧
      (∀i < k,(oC (nth xs ((i:Nat):Int)).1 s&&oC s (nth xs ((i:Nat):Int)).2)=false)∧
      St (Nw w) w 28 a_ w_ τ∧
      aT a_ 5=(aj (k:Int))∧
      aT a_ 0=v∧
      aT a_ 1=(aR s)) (fun a_ _=>xs.length - (intOf (aT a_ 5)).toNat) ?_ ?_
 · refine ⟨0,ae,?_,?_,ab,(e5.trans (bk (by omega))),e0,e1⟩
   · omega
   · intro i hi;omega
 intro a3 w3 hI;obtain ⟨k,τ3,q0,q1,st3,e5,e0,e1⟩:=hI;have m5:=e5;refine wp_seq ?_;refine wp_seq (lu [0,0,2,7] st3 [] ⟨ao e5,ao e0,am fun c=>de rfl bd (c.q 1) hS.sl,am fun c=>dj rfl (c.q 0) (c.q 2),ax⟩ fun ac ag ae ab aa=> ?_);obtain ⟨e0,e1,e5⟩:=aa.k3 e0 e1 e5;have e9:=aa.V 3;refine wp_cond_split e9 (fun hc1=> ?_) (fun hc1=> ?_)
 · try simp only [ai] at hc1
   refine wp_skip ?_;refine wp_seq ?_;refine wp_block ?_;refine wp_seq ?_;refine rg [_,_,_,_,_,_,_,_,_,_,_,_,_,_,_,_] [0,0,3,7,15,0,63,127,255,255,255,1791,3839,7935,16383,32767] ab [] ⟨ao e0,ao e5,am fun c=>aM rfl bd bT (c.q 0) hS.sl (c.q 1) (by omega) (by omega),br bH bc 2 rfl,am fun c=>aA rfl bG (c.q 3) ((hS.at (ab.ext.trans c.J.ext)).elem (j:=0) (bz (i:=(k:Int)) (by omega) (by omega)) rfl),ao e1,am fun c=>nu rfl (c.q 4) (c.q 5),bm 6,aE 7 rfl fun c hpc=>aI rfl (c.p e1),aE 7 rfl fun c hpc=>aI rfl (c.p e0),aE 7 rfl fun c hpc=>aI rfl (c.p e5),aE 7 rfl fun c hpc=>aM rfl bd bT (c.M 9 hpc) hS.sl (c.M 10 hpc) (by have hq0:=hpc;omega) (by have hq0:=hpc;omega),aE 7 rfl fun c hpc=>cO rfl bH bc (c.M 11 hpc),aE 7 rfl fun c hpc=>aA rfl bG (c.M 12 hpc) ((hS.at (ab.ext.trans c.J.ext)).elem (j:=1) (bz (i:=(k:Int)) (by have hq0:=hpc;omega) (by have hq0:=hpc;omega)) rfl),aE 7 rfl fun c hpc=>nu rfl (c.M 8 hpc) (c.M 13 hpc),bL 7 14,ax⟩ fun ac ag ae ab aa=> ?_;obtain ⟨e0,e1,e5,e9⟩:=aa.k4 e0 e1 e5 e9;have e27:=aa.V 15;refine wp_cond_split e27 (fun hc2=> ?_) (fun hc2=> ?_)
   · have hd2:=hc2;try simp only [aw] at hd2
     refine wp_seq (ex ab [] ⟨am fun c=>ar rfl rfl,ax⟩ fun ac ag ae ab aa=> ?_);obtain ⟨e0,e1,e5,e9,e27⟩:=aa.k5 e0 e1 e5 e9 e27;have e4:=aa.V 0;refine wp_ret ?_;refine rp ?_;refine cJ (fn:=Tryz.f145) rfl ab.defers e4 ?_;exact ⟨congrArg _ (congrArg _ (by exact (xk (k:=k) (by omega) (by assumption)).symm)),ab.ext0⟩
   have hd2:=hc2;try simp only [aL] at hd2
   refine wp_skip ?_;show _;refine eJ ab [] ⟨ao e5,am fun c=>cV rfl (c.q 0) rfl (by omega),aF 1,ax⟩ fun ac ag ae ab aa=> ?_;obtain ⟨e0,e1,e9,e27⟩:=aa.k4 e0 e1 e9 e27;have e5:=aa.V 2;refine ⟨⟨k+1,ae,?_,?_,ab,(e5.trans (bk (by omega))),e0,e1⟩,?_⟩
   · omega
   · exact nU (f:=fun i=>(oC (nth xs i).1 s&&oC s (nth xs i).2)) q1 (by assumption)
   · simp only [m5,e5,intOf];omega
 try simp only [ah,aX] at hc1
 refine wp_exit ?_;repeat (with_reducible refine cq ?_)
 refine cy ?_;refine wp_seq (ex ab [] ⟨am fun c=>ar rfl rfl,ax⟩ fun ac ag ae ab aa=> ?_);have e4:=aa.V 0;refine wp_ret ?_;refine rp ?_;refine cJ (fn:=Tryz.f145) rfl ab.defers e4 ?_;exact ⟨congrArg _ (congrArg _ (by exact (Ac (k:=k) (by omega) q1).symm)),ab.ext0⟩
set_option maxRecDepth 100000 in
theorem rU (n:Int) (w:World):Calls Tryz.prog 130 #[.int .u8 n] w (fun e w'=>∃v',e= .returned (.tuple #[v',az (hD n)])∧Ext aY w w'∧oN iF 89 w w' v' (gA n)):=by
 refine enter (n:=21) Tryz.func130 rfl rfl (av rfl) ?_;intro a0 τ0 ha st0;have e0:=nh ha;refine wp_seq (ew st0 [] ⟨am fun c=>ar rfl rfl,am fun c=>ar rfl rfl,ax⟩ fun ac ag ae ab aa=> ?_);replace e0:=aa.k1 e0;have e2:=aa.V 0;have e3:=aa.V 1;refine wp_seq ?_;refine wp_seq (ex ab [] ⟨ao e0,ax⟩ fun ac ag ae ab aa=> ?_);obtain ⟨e2,e3⟩:=aa.k2 e2 e3;have e4:=aa.V 0;refine wp_block ?_;refine wp_seq (ew ab [] ⟨am fun c=>bW rfl (c.p e4) rfl,aF 0,ax⟩ fun ac ag ae ab aa=> ?_);obtain ⟨e2,e3,e4⟩:=aa.k3 e2 e3 e4;have e5:=aa.V 1;refine wp_cond_split e5 (fun hc1=> ?_) (fun hc1=> ?_)
 · try simp only [ai] at hc1
   refine wp_seq (rg [_,own iF 89 _ 0 8 ([((⟨#[48]⟩:ByteArray),(⟨#[57]⟩:ByteArray))]),own _ _ _ 0 2 _,_] [0,1,3,7] ab [] ⟨am fun c=>pZ (cells:=#[(aR (⟨#[48]⟩:ByteArray)),(aR (⟨#[57]⟩:ByteArray))]) rfl cR (hY rfl rfl rfl),dm (cells:=#[(aR (⟨#[48]⟩:ByteArray)),(aR (⟨#[57]⟩:ByteArray))]) rfl rfl rfl rfl bd bT cR rfl (by decide) (by decide) (fun _ _ _ _ c=>gD (c.n 0 rfl) (by kernel_rfl)) rfl,dH (t0:=8) rfl rfl rfl rfl rfl (.inr rfl) (fun _ _ _ _ c=>⟨c.ro 1 rfl,rfl⟩),am fun c=>ar rfl rfl,ax⟩ fun ac ag ae ab aa=> ?_);obtain ⟨b4x2,e2⟩:=gx ac 2;replace e4:=aa.k1 e4;have e3:=aa.V 3;have r0:=aa.ro 2 e2 rfl;refine wp_ret ?_;refine rp ?_;refine jt (fn:=Tryz.f130) rfl ab.defers e2 e3 ?_;obtain ⟨k1,k2⟩:=(by first | exact pN (by assumption) | exact pO (by assumption) | exact pP (by assumption):gA n=[((⟨#[48]⟩:ByteArray),(⟨#[57]⟩:ByteArray))]∧hD n=true);rw [k1,k2];exact ⟨_,rfl,ab.ext0,r0.1,fun g_ h_=>(ab.bnd _ g_ (r0.2 g_ h_)).1⟩
 try simp only [ah] at hc1
 refine wp_seq (ew ab [] ⟨am fun c=>bW rfl (c.p e4) rfl,aF 0,ax⟩ fun ac ag ae ab aa=> ?_);obtain ⟨e2,e3,e4⟩:=aa.k3 e2 e3 e4;have e9:=aa.V 1;refine wp_cond_split e9 (fun hc2=> ?_) (fun hc2=> ?_)
 · try simp only [ai] at hc2
   refine wp_seq (rg [_,_,_,_,own iF 89 _ 0 15 ([((⟨#[48]⟩:ByteArray),(⟨#[57]⟩:ByteArray)),((⟨#[65]⟩:ByteArray),(⟨#[90]⟩:ByteArray)),((⟨#[95]⟩:ByteArray),(⟨#[95]⟩:ByteArray)),((⟨#[97]⟩:ByteArray),(⟨#[122]⟩:ByteArray))]),own _ _ _ 0 2 _,_] [0,0,0,0,15,31,63] ab [] ⟨am fun c=>pZ (cells:=#[(aR (⟨#[48]⟩:ByteArray)),(aR (⟨#[57]⟩:ByteArray))]) rfl cR (hY rfl rfl rfl),am fun c=>pZ (cells:=#[(aR (⟨#[65]⟩:ByteArray)),(aR (⟨#[90]⟩:ByteArray))]) rfl cR (hY rfl rfl rfl),am fun c=>pZ (cells:=#[(aR (⟨#[95]⟩:ByteArray)),(aR (⟨#[95]⟩:ByteArray))]) rfl cR (hY rfl rfl rfl),am fun c=>pZ (cells:=#[(aR (⟨#[97]⟩:ByteArray)),(aR (⟨#[122]⟩:ByteArray))]) rfl cR (hY rfl rfl rfl),dm (cells:=#[(aR (⟨#[48]⟩:ByteArray)),(aR (⟨#[57]⟩:ByteArray)),(aR (⟨#[65]⟩:ByteArray)),(aR (⟨#[90]⟩:ByteArray)),(aR (⟨#[95]⟩:ByteArray)),(aR (⟨#[95]⟩:ByteArray)),(aR (⟨#[97]⟩:ByteArray)),(aR (⟨#[122]⟩:ByteArray))]) rfl rfl rfl rfl bd bT cR rfl (by decide) (by decide) (fun _ _ _ _ c=>wZ (c.n 0 rfl) (c.n 1 rfl) (c.n 2 rfl) (c.n 3 rfl) (by kernel_rfl)) rfl,dH (t0:=15) rfl rfl rfl rfl rfl (.inr rfl) (fun _ _ _ _ c=>⟨c.ro 4 rfl,rfl⟩),am fun c=>ar rfl rfl,ax⟩ fun ac ag ae ab aa=> ?_);obtain ⟨b6x2,e2⟩:=gx ac 2;replace e4:=aa.k1 e4;have e3:=aa.V 6;have r0:=aa.ro 5 e2 rfl;refine wp_ret ?_;refine rp ?_;refine jt (fn:=Tryz.f130) rfl ab.defers e2 e3 ?_;obtain ⟨k1,k2⟩:=(by first | exact pN (by assumption) | exact pO (by assumption) | exact pP (by assumption):gA n=[((⟨#[48]⟩:ByteArray),(⟨#[57]⟩:ByteArray)),((⟨#[65]⟩:ByteArray),(⟨#[90]⟩:ByteArray)),((⟨#[95]⟩:ByteArray),(⟨#[95]⟩:ByteArray)),((⟨#[97]⟩:ByteArray),(⟨#[122]⟩:ByteArray))]∧hD n=true);rw [k1,k2];exact ⟨_,rfl,ab.ext0,r0.1,fun g_ h_=>(ab.bnd _ g_ (r0.2 g_ h_)).1⟩
 try simp only [ah] at hc2
 refine wp_seq (ew ab [] ⟨am fun c=>bW rfl (c.p e4) rfl,aF 0,ax⟩ fun ac ag ae ab aa=> ?_);obtain ⟨e2,e3⟩:=aa.k2 e2 e3;have e16:=aa.V 1;refine wp_cond_split e16 (fun hc3=> ?_) (fun hc3=> ?_)
 · try simp only [ai] at hc3
   refine wp_seq (rg [_,_,own iF 89 _ 0 20 ([((⟨#[9]⟩:ByteArray),(⟨#[13]⟩:ByteArray)),((⟨#[32]⟩:ByteArray),(⟨#[32]⟩:ByteArray))]),own _ _ _ 0 2 _,_] [0,0,3,7,15] ab [] ⟨am fun c=>pZ (cells:=#[(aR (⟨#[9]⟩:ByteArray)),(aR (⟨#[13]⟩:ByteArray))]) rfl cR (hY rfl rfl rfl),am fun c=>pZ (cells:=#[(aR (⟨#[32]⟩:ByteArray)),(aR (⟨#[32]⟩:ByteArray))]) rfl cR (hY rfl rfl rfl),dm (cells:=#[(aR (⟨#[9]⟩:ByteArray)),(aR (⟨#[13]⟩:ByteArray)),(aR (⟨#[32]⟩:ByteArray)),(aR (⟨#[32]⟩:ByteArray))]) rfl rfl rfl rfl bd bT cR rfl (by decide) (by decide) (fun _ _ _ _ c=>hY (c.n 0 rfl) (c.n 1 rfl) (by kernel_rfl)) rfl,dH (t0:=20) rfl rfl rfl rfl rfl (.inr rfl) (fun _ _ _ _ c=>⟨c.ro 2 rfl,rfl⟩),am fun c=>ar rfl rfl,ax⟩ fun ac ag ae ab aa=> ?_);obtain ⟨b8x2,e2⟩:=gx ac 2;have e3:=aa.V 4;have r0:=aa.ro 3 e2 rfl;refine wp_ret ?_;refine rp ?_;refine jt (fn:=Tryz.f130) rfl ab.defers e2 e3 ?_;obtain ⟨k1,k2⟩:=(by first | exact pN (by assumption) | exact pO (by assumption) | exact pP (by assumption):gA n=[((⟨#[9]⟩:ByteArray),(⟨#[13]⟩:ByteArray)),((⟨#[32]⟩:ByteArray),(⟨#[32]⟩:ByteArray))]∧hD n=true);rw [k1,k2];exact ⟨_,rfl,ab.ext0,r0.1,fun g_ h_=>(ab.bnd _ g_ (r0.2 g_ h_)).1⟩
 try simp only [ah] at hc3
 refine wp_skip ?_;show _;refine wp_seq (ew ab [] ⟨am fun c=>ar rfl rfl,am fun c=>ar rfl rfl,ax⟩ fun ac ag ae ab aa=> ?_);have e2:=aa.V 0;have e3:=aa.V 1;refine wp_ret ?_;refine rp ?_;refine jt (fn:=Tryz.f130) rfl ab.defers e2 e3 ?_;obtain ⟨k1,k2⟩:=AV (n:=n) (by assumption) (by assumption) (by assumption);rw [k1,k2];exact ⟨_,rfl,ab.ext0,iQ.nil _ _ _,fun g_ h_=>by simp [Value.ownBlock] at h_⟩
end
section
open Go.RowKit
open Srt
theorem dX.sn {α:Type} {E:Enc α} {ty:Nat} {xs:List α} {T:aP} {v:Value} {w W:World} (h:dX E ty xs T v w) (hT:∀g,T g→W.heap.size≤g):SlT E w v xs∧(xs≠ []→W.heap.size≤(cU v).block):=⟨h.1.sl,fun hn=>hT _ (h.blk hn)⟩
set_option maxRecDepth 100000 in
theorem AW (v:Value) (cv:Sv) (cs:List ByteArray) (i:Nat) (w:World) (hR:RdR 68 v cv cs i w) (hL:mq cs) (hi:i≤cs.length+5):Calls Tryz.prog 127 #[v] w (fun e w'=>∃b:Sv,e= .returned (.tuple #[b.v,aR (bI cs i).2.1,az (bI cs i).2.2.1])∧Ext (bJ v) w w'∧ce 68 [cv.v,aj (((bI cs i).2.2.2:Nat):Int)] (bJ v) v w'∧SlT iF w' b.v (bI cs i).1∧((bI cs i).1≠ []→w.heap.size≤(cU b.v).block)):=by
 refine es (bJ v) (fun g hg=>hR.box.lt g hg) (n:=62) Tryz.func127 rfl rfl (av rfl) ?_;intro a0 τ0 ha hτ st0;have e0:=nh ha;have hL1:=hL.1;have r0:ce 68 [cv.v,aj ((i:Nat):Int)] (τ0 0) v w:=by rw [hτ];exact hR.box
 have r9:Fz (dI fo Al cv.v cs) τ0 w:=hR.inz st0;refine wp_seq (eJ st0 [jb r0,jz 9 r9] ⟨am fun c=>ar rfl rfl,am fun c=>ar rfl rfl,am fun c=>ar rfl rfl,ax⟩ fun ac ag ae ab aa=> ?_);replace e0:=aa.k1 e0;have e2:=aa.V 0;have e3:=aa.V 1;have e4:=aa.V 2;replace r0:=aa.B 0;replace r9:=aa.z1 9;refine wp_seq (eJ ab [jb r0,jz 9 r9] ⟨ao e0,dQ fun c=>⟨_,_,(bj rfl rfl fR (c.q 0)),mr v cv cs i _ (kE (c.B 0) (c.iz 9 rfl) (fun g_ h_ hz_=>hz_.2 _ h_))⟩,aF 1,ax⟩ fun ac ag ae ab aa=> ?_);obtain ⟨e0,e2,e3,e4⟩:=aa.k4 e0 e2 e3 e4;have e5:=aa.V 2;replace r0:=aa.B 0;replace r9:=aa.z1 9;refine wp_seq ?_;refine wp_seq (DT ab [jb r0,jz 9 r9] ⟨ao e5,am fun c=>gj rfl (c.q 0) rfl,bm 1,bA 2 rfl fun c hpc=>aI rfl (c.p e5),bA 2 rfl fun c hpc=>gj rfl (c.M 3 hpc) rfl,dF 2 4,ax⟩ fun ac ag ae ab aa=> ?_);obtain ⟨e0,e2,e3,e4,e5⟩:=aa.k5 e0 e2 e3 e4 e5;have e17:=aa.V 5;replace r0:=aa.B 0;replace r9:=aa.z1 9;refine wp_cond_split e17 (fun hc1=> ?_) (fun hc1=> ?_)
 · have hd1:=hc1;try simp only [aO] at hd1
   refine wp_seq (eJ ab [jb r0,jz 9 r9] ⟨am fun c=>ar rfl rfl,am fun c=>ar rfl rfl,am fun c=>ar rfl rfl,ax⟩ fun ac ag ae ab aa=> ?_);obtain ⟨e0,e5⟩:=aa.k2 e0 e5;have e2:=aa.V 0;have e3:=aa.V 1;have e4:=aa.V 2;replace r0:=aa.B 0;replace r9:=aa.z1 9;refine wp_ret ?_;refine rp ?_;refine jK (fn:=Tryz.f127) rfl ab.defers e2 e3 e4 ?_;have he_:bI cs i=([],(⟨#[]⟩:ByteArray),false,i):=by unfold bI;(repeat (first | rw [if_neg (by first | assumption | (simp only [aQ];assumption) | (simp only [aU];assumption))] | rw [if_pos (by assumption)]));(try rfl)
   rw [he_];exact ⟨Sv.nil,rfl,ab.extIn,r0.foot,SlT.nil _ _,fun h=>absurd rfl h⟩
 have hd1:=hc1;try simp only [aG] at hd1
 refine wp_skip ?_;refine wp_seq ?_;have hlt_:i < cs.length:=by
   have h_:(ix (cM cs i) (⟨#[]⟩:ByteArray) || ix (cM cs i) (⟨#[93]⟩:ByteArray))=false:=by assumption
   rw [aG] at h_;exact mV h_.1
 refine vV ab [jb r0,jz 9 r9] ⟨ao e0,bK 0 r0.ptr,br aW au 1 r0.ptr,dJ aC 2 0 1,am fun c=>cV rfl (c.q 3) rfl (by omega),bK 0 r0.ptr,br aW au 5 r0.ptr,cj (cx:=[cv.v,(aj (((i:Nat):Int)+1))]) au fun c=>⟨c.bp 0 rfl e0,c.ad (c.q 6) e0 rfl,(c.q 4)⟩,ax⟩ fun ac ag ae ab aa=> ?_;obtain ⟨e0,e2,e3,e4,e5⟩:=aa.k5 e0 e2 e3 e4 e5;replace r0:=aa.RB 7 e0;replace r9:=aa.z1 9;replace r0:ce 68 [cv.v,aj ((i+1:Nat):Int)] (ae 0) v ag:=by rw [show ((i+1:Nat):Int)=((i:Nat):Int)+1 from by omega];exact r0
 refine wp_seq ?_;refine wp_seq (ew ab [jb r0,jz 9 r9] ⟨ao e5,am fun c=>lN rfl (c.q 0) rfl,ax⟩ fun ac ag ae ab aa=> ?_);obtain ⟨e0,e2,e3,e4,e5⟩:=aa.k5 e0 e2 e3 e4 e5;have e26:=aa.V 1;replace r0:=aa.B 0;replace r9:=aa.z1 9;refine wp_cond_split e26 (fun hc2=> ?_) (fun hc2=> ?_)
 · try simp only [aB,ay] at hc2
   refine wp_seq (lu [0,0,3,7] ab [jb r0,jz 9 r9] ⟨ao e5,am fun c=>ar rfl rfl,aF 0,am fun c=>ar rfl rfl,ax⟩ fun ac ag ae ab aa=> ?_);obtain ⟨e0,e5⟩:=aa.k2 e0 e5;have e2:=aa.V 1;have e3:=aa.V 2;have e4:=aa.V 3;replace r0:=aa.B 0;replace r9:=aa.z1 9;refine wp_ret ?_;refine rp ?_;refine jK (fn:=Tryz.f127) rfl ab.defers e2 e3 e4 ?_;have he_:bI cs i=([],cM cs i,true,i+1):=by unfold bI;(repeat (first | rw [if_neg (by first | assumption | (simp only [aQ];assumption) | (simp only [aU];assumption))] | rw [if_pos (by assumption)]));(try rfl)
   rw [he_];exact ⟨Sv.nil,rfl,ab.extIn,r0.foot,SlT.nil _ _,fun h=>absurd rfl h⟩
 try simp only [aB,ay] at hc2
 refine wp_skip ?_;refine wp_seq (eJ ab [jb r0,jz 9 r9] ⟨ao e0,dQ fun c=>⟨_,_,(bj rfl rfl fR (c.q 0)),mr v cv cs (i+1) _ (kE (c.B 0) (c.iz 9 rfl) (fun g_ h_ hz_=>hz_.2 _ h_))⟩,aF 1,ax⟩ fun ac ag ae ab aa=> ?_);obtain ⟨e0,e2,e3,e4⟩:=aa.k4 e0 e2 e3 e4;have e5:=aa.V 2;replace r0:=aa.B 0;replace r9:=aa.z1 9;refine wp_seq ?_;refine wp_seq (eJ ab [jb r0,jz 9 r9] ⟨ao e5,am fun c=>iu rfl bo (c.q 0),am fun c=>bW rfl (c.q 1) rfl,ax⟩ fun ac ag ae ab aa=> ?_);obtain ⟨e0,e2,e3,e4,e5⟩:=aa.k5 e0 e2 e3 e4 e5;have e32:=aa.V 2;replace r0:=aa.B 0;replace r9:=aa.z1 9;refine wp_cond_split e32 (fun hc3=> ?_) (fun hc3=> ?_)
 · try simp only [ai] at hc3
   refine wp_seq (rg [_,_,tup _ _ _ 1 36 _ _,tup _ _ _ 1 33 _ _,own _ _ _ 1 37 _,_,own _ _ _ 1 6 _,_] [0,1,3,7,15,15,31,127] ab [jb r0,jz 9 r9] ⟨ao e5,am fun c=>gI rfl bo (c.q 0) rfl (by omega) (by omega),vQ rfl rfl rfl (fun _ a_ _ _ c=>⟨_,_,(bj rfl rfl Tryz.call130 (c.q 1)),rU (bZ (cM cs (i+1)) 0) _⟩),dH (t0:=36) rfl rfl rfl rfl rfl (.inl rfl) (fun _ _ _ _ c=>⟨c.rtup 2 rfl rfl (by kernel_rfl),rfl⟩),zB (t0:=33) (k:=(az (hD (bZ (cM cs (i+1)) 0)))) rfl rfl rfl rfl (fun _ _ _ _ c=>c.rtup 3 rfl rfl (by kernel_rfl)),am fun c=>c.part1 3 rfl rfl rfl,dH (t0:=37) rfl rfl rfl rfl rfl (.inr rfl) (fun _ _ _ _ c=>⟨c.ro 4 rfl,rfl⟩),aF 5,ax⟩ fun ac ag ae ab aa=> ?_);obtain ⟨b10x6,e6⟩:=gx ac 6;obtain ⟨e0,e2,e3,e4,e5⟩:=aa.k5 e0 e2 e3 e4 e5;have e7:=aa.V 7;replace r0:=aa.B 0;have r1:=aa.ro 6 e6 rfl;replace r9:=aa.z1 9;refine wp_seq (ex ab [jb r0,jo r1,jz 9 r9] ⟨ao e7,ax⟩ fun ac ag ae ab aa=> ?_);obtain ⟨e0,e2,e3,e4,e5,e6⟩:=aa.k6 e0 e2 e3 e4 e5 e6;have e39:=aa.V 0;replace r0:=aa.B 0;replace r1:=aa.O 1;replace r9:=aa.z1 9;refine wp_cond_split e39 (fun hc4=> ?_) (fun hc4=> ?_)
   · skip;refine wp_seq ?_;have hnm:(decide (((cM cs (i+1)).size:Int)=1)&&hD (bZ (cM cs (i+1)) 0))=true:=by rw [aw];exact ⟨decide_eq_true (by assumption),by assumption⟩
     refine vV ab [jb r0,jo r1,jz 9 r9] ⟨ao e0,bK 0 r0.ptr,br aW au 1 r0.ptr,dJ aC 2 0 1,am fun c=>cV rfl (c.q 3) rfl (by omega),bK 0 r0.ptr,br aW au 5 r0.ptr,cj (cx:=[cv.v,(aj (((i+1:Nat):Int)+1))]) au fun c=>⟨c.bp 0 rfl e0,c.ad (c.q 6) e0 rfl,(c.q 4)⟩,ax⟩ fun ac ag ae ab aa=> ?_;obtain ⟨e0,e2,e3,e4,e5,e6⟩:=aa.k6 e0 e2 e3 e4 e5 e6;replace r0:=aa.RB 7 e0;replace r1:=aa.O 1;replace r9:=aa.z1 9;replace r0:ce 68 [cv.v,aj ((i+2:Nat):Int)] (ae 0) v ag:=by rw [show ((i+2:Nat):Int)=((i+1:Nat):Int)+1 from by omega];exact r0
     refine wp_seq (yk ab [jb r0,jo r1,jz 9 r9] ⟨ao e6,aF 0,am fun c=>ar rfl rfl,am fun c=>ar rfl rfl,ax⟩ fun ac ag ae ab aa=> ?_);obtain ⟨e0,e5⟩:=aa.k2 e0 e5;have e2:=aa.V 1;have e3:=aa.V 2;have e4:=aa.V 3;replace r0:=aa.B 0;replace r1:=aa.O 1;replace r9:=aa.z1 9;refine wp_ret ?_;refine rp ?_;refine jK (fn:=Tryz.f127) rfl ab.defers e2 e3 e4 ?_;have he_:bI cs i=(gA (bZ (cM cs (i+1)) 0),(⟨#[]⟩:ByteArray),true,i+2):=by unfold bI;(repeat (first | rw [if_neg (by first | assumption | (simp only [aQ];assumption) | (simp only [aU];assumption))] | rw [if_pos (by assumption)]));(try rfl)
     rw [he_];obtain ⟨sv_,rfl⟩:=r1.isSl.sv;exact ⟨sv_,rfl,ab.extIn,r0.foot,r1.sn (fun g_ h_=>((ab.bnd _ g_ h_).1.resolve_left (fun hp_=>absurd (ab.disj _ _ g_ h_ (r0.own hp_)) (by decide))))⟩
   skip;refine wp_skip ?_;refine wp_seq ?_;have hnm:(decide (((cM cs (i+1)).size:Int)=1)&&hD (bZ (cM cs (i+1)) 0))=false:=by rw [aL];first | (right;assumption) | (left;exact decide_eq_false (by assumption))
   refine su [0,1,3,7,7,15,63] ab [jb r0,jo r1,jz 9 r9] ⟨ao e5,dQ fun c=>⟨_,_,(bj rfl rfl my (c.q 0)),xK (cM cs (i+1)) _⟩,bm 1,cD 2,cD 2,aF 3,aF 4,ax⟩ fun ac ag ae ab aa=> ?_;obtain ⟨e0,e2,e3,e4⟩:=aa.k4 e0 e2 e3 e4;have e8:=aa.V 5;have e9:=aa.V 6;replace r0:=aa.B 0;replace r9:=aa.z1 9;refine wp_seq (vV ab [jb r0,jz 9 r9] ⟨ao e0,bK 0 r0.ptr,br aW au 1 r0.ptr,dJ aC 2 0 1,am fun c=>cV rfl (c.q 3) rfl (by omega),bK 0 r0.ptr,br aW au 5 r0.ptr,cj (cx:=[cv.v,(aj (((i+1:Nat):Int)+1))]) au fun c=>⟨c.bp 0 rfl e0,c.ad (c.q 6) e0 rfl,(c.q 4)⟩,ax⟩ fun ac ag ae ab aa=> ?_);obtain ⟨e0,e2,e3,e4,e8,e9⟩:=aa.k6 e0 e2 e3 e4 e8 e9;replace r0:=aa.RB 7 e0;replace r9:=aa.z1 9;replace r0:ce 68 [cv.v,aj ((i+2:Nat):Int)] (ae 0) v ag:=by rw [show ((i+2:Nat):Int)=((i+1:Nat):Int)+1 from by omega];exact r0
   refine wp_seq (yl [0,0,0,5,15] ab [jb r0,jz 9 r9] ⟨ao e8,ao e9,am fun c=>ar rfl rfl,aF 0,aF 1,ax⟩ fun ac ag ae ab aa=> ?_);replace e0:=aa.k1 e0;have e2:=aa.V 2;have e3:=aa.V 3;have e4:=aa.V 4;replace r0:=aa.B 0;replace r9:=aa.z1 9;refine wp_ret ?_;refine rp ?_;refine jK (fn:=Tryz.f127) rfl ab.defers e2 e3 e4 ?_;have he_:bI cs i=([],(fF (cM cs (i+1))).1,(fF (cM cs (i+1))).2,i+2):=by unfold bI;(repeat (first | rw [if_neg (by first | assumption | (simp only [aQ];assumption) | (simp only [aU];assumption))] | rw [if_pos (by assumption)]));(try rfl)
   rw [he_];exact ⟨Sv.nil,rfl,ab.extIn,r0.foot,SlT.nil _ _,fun h=>absurd rfl h⟩
 try simp only [ah] at hc3
 refine wp_skip ?_;refine wp_seq ?_;have hnm:(decide (((cM cs (i+1)).size:Int)=1)&&hD (bZ (cM cs (i+1)) 0))=false:=by rw [aL];first | (right;assumption) | (left;exact decide_eq_false (by assumption))
 refine su [0,1,3,7,7,15,63] ab [jb r0,jz 9 r9] ⟨ao e5,dQ fun c=>⟨_,_,(bj rfl rfl my (c.q 0)),xK (cM cs (i+1)) _⟩,bm 1,cD 2,cD 2,aF 3,aF 4,ax⟩ fun ac ag ae ab aa=> ?_;obtain ⟨e0,e2,e3,e4⟩:=aa.k4 e0 e2 e3 e4;have e8:=aa.V 5;have e9:=aa.V 6;replace r0:=aa.B 0;replace r9:=aa.z1 9;refine wp_seq (vV ab [jb r0,jz 9 r9] ⟨ao e0,bK 0 r0.ptr,br aW au 1 r0.ptr,dJ aC 2 0 1,am fun c=>cV rfl (c.q 3) rfl (by omega),bK 0 r0.ptr,br aW au 5 r0.ptr,cj (cx:=[cv.v,(aj (((i+1:Nat):Int)+1))]) au fun c=>⟨c.bp 0 rfl e0,c.ad (c.q 6) e0 rfl,(c.q 4)⟩,ax⟩ fun ac ag ae ab aa=> ?_);obtain ⟨e0,e2,e3,e4,e8,e9⟩:=aa.k6 e0 e2 e3 e4 e8 e9;replace r0:=aa.RB 7 e0;replace r9:=aa.z1 9;replace r0:ce 68 [cv.v,aj ((i+2:Nat):Int)] (ae 0) v ag:=by rw [show ((i+2:Nat):Int)=((i+1:Nat):Int)+1 from by omega];exact r0
 refine wp_seq (yl [0,0,0,5,15] ab [jb r0,jz 9 r9] ⟨ao e8,ao e9,am fun c=>ar rfl rfl,aF 0,aF 1,ax⟩ fun ac ag ae ab aa=> ?_);replace e0:=aa.k1 e0;have e2:=aa.V 2;have e3:=aa.V 3;have e4:=aa.V 4;replace r0:=aa.B 0;replace r9:=aa.z1 9;refine wp_ret ?_;refine rp ?_;refine jK (fn:=Tryz.f127) rfl ab.defers e2 e3 e4 ?_;have he_:bI cs i=([],(fF (cM cs (i+1))).1,(fF (cM cs (i+1))).2,i+2):=by unfold bI;(repeat (first | rw [if_neg (by first | assumption | (simp only [aQ];assumption) | (simp only [aU];assumption))] | rw [if_pos (by assumption)]));(try rfl)
 rw [he_];exact ⟨Sv.nil,rfl,ab.extIn,r0.foot,SlT.nil _ _,fun h=>absurd rfl h⟩
end
section
open Go.RowKit
open Srt
theorem sS {c:ByteArray} (h:(c.size:Int)=1):((fS c).size:Int)=1:=by
  have h1:=iG c;have h2:(fS c).size=((bs c).map jF).length:=by
    show ((bs c).map jF).toArray.size=_;simp
  rw [h2,fP];omega
set_option maxRecDepth 100000 in
theorem ET (v:Value) (cv:Sv) (cs:List ByteArray) (i:Nat) (w:World) (hR:RdR 68 v cv cs i w) (hL:mq cs) (hi:i≤cs.length+5):Calls Tryz.prog 105 #[v] w (fun e w'=>∃t':Tr,e= .returned (.tuple #[t'.v,aj (gO cs i).2.1])∧Ext (bJ v) w w'∧ce 68 [cv.v,aj (((gO cs i).2.2:Nat):Int)] (bJ v) v w'∧TrT (Gn aY w) w' t'∧er t'=(gO cs i).1):=by
 refine es (bJ v) (fun g hg=>hR.box.lt g hg) (n:=53) Tryz.func105 rfl rfl (av rfl) ?_;intro a0 τ0 ha hτ st0;have e0:=nh ha;have hL1:=hL.1;have r0:ce 68 [cv.v,aj ((i:Nat):Int)] (τ0 0) v w:=by rw [hτ];exact hR.box
 have r9:Fz (dI fo Al cv.v cs) τ0 w:=hR.inz st0;refine wp_seq (rg [box _ _ 1 2 [(aj 0),(aR (⟨#[]⟩:ByteArray)),(az false),(.slice none 0 0),(aj 0),(aj 0),(az false),(.slice none 0 0)],_] [0,0] st0 [jb r0,jz 9 r9] ⟨ct rfl rfl rfl rfl aN rfl,am fun c=>ar rfl rfl,ax⟩ fun ac ag ae ab aa=> ?_);obtain ⟨b1x2,e2⟩:=gx ac 2;replace e0:=aa.k1 e0;have e3:=aa.V 1;replace r0:=aa.B 0;have r1:=aa.rb 0 e2 rfl;replace r9:=aa.z1 9;refine wp_seq (eJ ab [jb r0,jb r1,jz 9 r9] ⟨ao e0,dQ fun c=>⟨_,_,(bj rfl rfl fR (c.q 0)),mr v cv cs i _ (kE (c.B 0) (c.iz 9 rfl) (fun g_ h_ hz_=>hz_.2 _ h_))⟩,aF 1,ax⟩ fun ac ag ae ab aa=> ?_);obtain ⟨e0,e2,e3⟩:=aa.k3 e0 e2 e3;have e4:=aa.V 2;replace r0:=aa.B 0;replace r1:=aa.B 1;replace r9:=aa.z1 9;refine wp_seq ?_;refine eJ ab [jb r0,jb r1,jz 9 r9] ⟨ao e4,dQ fun c=>⟨_,_,(bj rfl rfl mz (c.q 0)),od (cM cs i) _ (by first | omega | (have h_:=sS (by assumption:((cM cs i).size:Int)=1);omega) | (have h_:=cS hL i;omega))⟩,aF 1,ax⟩ fun ac ag ae ab aa=> ?_;obtain ⟨e0,e2,e3,e4⟩:=aa.k4 e0 e2 e3 e4;have e5:=aa.V 2;replace r0:=aa.B 0;replace r1:=aa.B 1;replace r9:=aa.z1 9;refine wp_seq ?_;refine wp_seq (eJ ab [jb r0,jb r1,jz 9 r9] ⟨ao e4,am fun c=>iu rfl bo (c.q 0),am fun c=>bW rfl (c.q 1) rfl,ax⟩ fun ac ag ae ab aa=> ?_);obtain ⟨e0,e2,e3,e4,e5⟩:=aa.k5 e0 e2 e3 e4 e5;have e16:=aa.V 2;replace r0:=aa.B 0;replace r1:=aa.B 1;replace r9:=aa.z1 9;refine wp_cond_split e16 (fun hc1=> ?_) (fun hc1=> ?_)
 · try simp only [ai] at hc1
   refine wp_seq ?_;refine be ?_;refine cF 3 (by kernel_rfl) ?_;refine og [_,_,ls _ 20 (fun b:Sv=> .tuple #[b.v,az (hD (bZ (fS (cM cs i)) 0))]) (fun _=>True) (fun b:Sv=>dI iF (Gn aY w) b.v (gA (bZ (fS (cM cs i)) 0)))] [0,1,3] ab [jb r0,jb r1,jz 9 r9] ⟨ao e5,am fun c=>gI rfl bo (c.q 0) rfl (by first | omega | (have h_:=sS (by assumption:((cM cs i).size:Int)=1);omega) | (have h_:=cS hL i;omega)) (by first | omega | (have h_:=sS (by assumption:((cM cs i).size:Int)=1);omega) | (have h_:=cS hL i;omega)),jD (f:=fun b:Sv=> .tuple #[b.v,az (hD (bZ (fS (cM cs i)) 0))]) (Ψ:=fun _=>True) (Φ:=fun b:Sv=>dI iF (Gn aY w) b.v (gA (bZ (fS (cM cs i)) 0))) fun {_ a_ _ _} c=>⟨_,_,(bj rfl rfl Tryz.call130 (c.q 1)),(rU (bZ (fS (cM cs i)) 0) _).mono (fun e w' ⟨v_,he_,hx_,hn_⟩=>by obtain ⟨s_,rfl⟩:=hn_.1.sl.sl.sv;exact ⟨s_,he_,hx_,ax,c.sn ab hx_ hn_⟩)⟩,ax⟩ fun ac ag ae ab aa=> ?_;obtain ⟨e0,e2,e3,e4,e5⟩:=aa.k5 e0 e2 e3 e4 e5;obtain ⟨rw1_,e20,-,hz5⟩:=aa.zd 2 rfl;have e20:aT ac 20=(.tuple #[rw1_.v,(az (hD (bZ (fS (cM cs i)) 0)))]):=e20;replace r0:=aa.B 0;replace r1:=aa.B 1;replace r9:=aa.z1 9;have r2:=hz5;refine cG ?_;refine og [_,_,_,_,_] [0,1,3,7,15] ab [jb r0,jb r1,jz 2 r2,jz 9 r9] ⟨ao e20,cD 0,cD 0,aF 1,aF 2,ax⟩ fun ac ag ae ab aa=> ?_;obtain ⟨e0,e2,e3,e4,e5⟩:=aa.k5 e0 e2 e3 e4 e5;have e6:=aa.V 3;have e7:=aa.V 4;replace r0:=aa.B 0;replace r1:=aa.B 1;obtain ⟨r2,r9⟩:=aa.z2 2 9;refine wp_seq (ex ab [jb r0,jb r1,jz 2 r2,jz 9 r9] ⟨ao e7,ax⟩ fun ac ag ae ab aa=> ?_);obtain ⟨e0,e2,e3,e4,e5,e6⟩:=aa.k6 e0 e2 e3 e4 e5 e6;have e23:=aa.V 0;replace r0:=aa.B 0;replace r1:=aa.B 1;obtain ⟨r2,r9⟩:=aa.z2 2 9;refine wp_cond_split e23 (fun hc2=> ?_) (fun hc2=> ?_)
   · skip;refine wp_seq ?_;have hnm:(decide (((cM cs i).size:Int)=1)&&hD (bZ (fS (cM cs i)) 0))=true:=by rw [aw];exact ⟨decide_eq_true (by assumption),by assumption⟩
     have hlt_:i < cs.length:=gY (by assumption:((cM cs i).size:Int)=1)
     refine vV ab [jb r0,jb r1,jz 2 r2,jz 9 r9] ⟨ao e0,bK 0 r0.ptr,br aW au 1 r0.ptr,dJ aC 2 0 1,am fun c=>cV rfl (c.q 3) rfl (by first | omega | (have h_:=sS (by assumption:((cM cs i).size:Int)=1);omega) | (have h_:=cS hL i;omega)),bK 0 r0.ptr,br aW au 5 r0.ptr,cj (cx:=[cv.v,(aj (((i:Nat):Int)+1))]) au fun c=>⟨c.bp 0 rfl e0,c.ad (c.q 6) e0 rfl,(c.q 4)⟩,ax⟩ fun ac ag ae ab aa=> ?_;obtain ⟨e0,e2,e3,e4,e5,e6⟩:=aa.k6 e0 e2 e3 e4 e5 e6;replace r0:=aa.RB 7 e0;replace r1:=aa.B 1;obtain ⟨r2,r9⟩:=aa.z2 2 9;replace r0:ce 68 [cv.v,aj ((i+1:Nat):Int)] (ae 0) v ag:=by rw [show ((i+1:Nat):Int)=((i:Nat):Int)+1 from by omega];exact r0
     refine wp_seq (su [0,0,0,6,15,31,63] ab [jb r0,jb r1,jz 2 r2,jz 9 r9] ⟨ao e6,ao e4,ao e5,am fun c=>lN rfl (c.q 1) (c.q 2),am fun c=>fX (cells:=#[(aj 4),(aR (⟨#[]⟩:ByteArray)),(az (!(ix (cM cs i) (fS (cM cs i))))),rw1_.v,(aj 0),(aj 0),(az false),(.slice none 0 0)]) rfl aN (pT rfl (c.n 0 rfl) (c.n 3 rfl) rfl),cj (cx:=[(aj 4),(aR (⟨#[]⟩:ByteArray)),(az (!(ix (cM cs i) (fS (cM cs i))))),rw1_.v,(aj 0),(aj 0),(az false),(.slice none 0 0)]) (off:=0) ak fun c=>⟨c.bp 1 rfl e2,c.ad ((c.p e2).trans r1.ptr) e2 rfl,(c.q 4)⟩,am fun c=>ar rfl rfl,ax⟩ fun ac ag ae ab aa=> ?_);obtain ⟨e0,e2,e4⟩:=aa.k3 e0 e2 e4;have e3:=aa.V 6;replace r0:=aa.B 0;replace r1:=aa.RB 5 e2;obtain ⟨r2,r9⟩:=aa.z2 2 9;refine wp_ret ?_;refine rp ?_;refine eu (fn:=Tryz.f105) rfl ab.defers e2 e3 r1 aD ak rfl ?_;have he_:gO cs i=((mW (!(ix (cM cs i) (fS (cM cs i)))) Sv.nil (gA (bZ (fS (cM cs i)) 0))),0,i+1):=by unfold gO;(repeat (first | rw [if_neg (by first | assumption | (simp only [aQ];assumption) | (simp only [aU];assumption) | (exact fun h_=>h_ (by assumption)) | omega)] | rw [if_pos (by first | assumption | omega)]));(try rfl)
     rw [he_];exact ⟨(mW (!(ix (cM cs i) (fS (cM cs i)))) rw1_ (gA (bZ (fS (cM cs i)) 0))),rfl,ab.extIn,r0.foot,(Fz.out (FV r2)),AG _ _ _⟩
   skip;refine wp_skip ?_;refine wp_seq ?_;have hnm:(decide (((cM cs i).size:Int)=1)&&hD (bZ (fS (cM cs i)) 0))=false:=by rw [aL];first | (right;assumption) | (left;exact decide_eq_false (by assumption))
   refine su [0,1,3,7,7,15,63] ab [jb r0,jb r1,jz 2 r2,jz 9 r9] ⟨ao e4,dQ fun c=>⟨_,_,(bj rfl rfl my (c.q 0)),xK (cM cs i) _⟩,bm 1,cD 2,cD 2,aF 3,aF 4,ax⟩ fun ac ag ae ab aa=> ?_;obtain ⟨e0,e2,e3⟩:=aa.k3 e0 e2 e3;have e8:=aa.V 5;have e9:=aa.V 6;replace r0:=aa.B 0;replace r1:=aa.B 1;obtain ⟨r2,r9⟩:=aa.z2 2 9;refine wp_seq ?_;refine wp_seq (ew ab [jb r0,jb r1,jz 9 r9] ⟨ao e9,am fun c=>dS rfl (c.q 0),ax⟩ fun ac ag ae ab aa=> ?_);obtain ⟨e0,e2,e3,e8⟩:=aa.k4 e0 e2 e3 e8;have e42:=aa.V 1;replace r0:=aa.B 0;replace r1:=aa.B 1;replace r9:=aa.z1 9;refine wp_cond_split e42 (fun hc3=> ?_) (fun hc3=> ?_)
   · try simp only [aB,ay] at hc3
     refine wp_seq (eJ ab [jb r0,jb r1,jz 9 r9] ⟨am fun c=>fX (cells:=#[(aj 0),(aR (⟨#[]⟩:ByteArray)),(az false),(.slice none 0 0),(aj 0),(aj 0),(az false),(.slice none 0 0)]) rfl aN np,cj (cx:=[(aj 0),(aR (⟨#[]⟩:ByteArray)),(az false),(.slice none 0 0),(aj 0),(aj 0),(az false),(.slice none 0 0)]) (off:=0) ak fun c=>⟨c.bp 1 rfl e2,c.ad ((c.p e2).trans r1.ptr) e2 rfl,(c.q 0)⟩,am fun c=>ar rfl rfl,ax⟩ fun ac ag ae ab aa=> ?_);obtain ⟨e0,e2,e8⟩:=aa.k3 e0 e2 e8;have e3:=aa.V 2;replace r0:=aa.B 0;replace r1:=aa.RB 1 e2;replace r9:=aa.z1 9;refine wp_ret ?_;refine rp ?_;refine eu (fn:=Tryz.f105) rfl ab.defers e2 e3 r1 aD ak rfl ?_;have he_:gO cs i=((dp 0 (⟨#[]⟩:ByteArray) false 0 0 false),10,i):=by unfold gO;(repeat (first | rw [if_neg (by first | assumption | (simp only [aQ];assumption) | (simp only [aU];assumption) | (exact fun h_=>h_ (by assumption)) | omega)] | rw [if_pos (by first | assumption | omega)]));(try rfl)
     rw [he_];exact ⟨(dp 0 (⟨#[]⟩:ByteArray) false 0 0 false),rfl,ab.extIn,r0.foot,(fE _ _ _ _ _ _ _ _),rfl⟩
   try simp only [aB,ay] at hc3
   refine wp_skip ?_;refine wp_seq ?_;have hlt_:i < cs.length:=by
     cases hz_:ix (cM cs i) (⟨#[]⟩:ByteArray) with
     | false => exact mV hz_
     | true =>
       have hx_:(fF (cM cs i)).2=true:=by assumption
       unfold fF at hx_;rw [if_pos hz_] at hx_;cases hx_
   refine vV ab [jb r0,jb r1,jz 9 r9] ⟨ao e0,bK 0 r0.ptr,br aW au 1 r0.ptr,dJ aC 2 0 1,am fun c=>cV rfl (c.q 3) rfl (by first | omega | (have h_:=sS (by assumption:((cM cs i).size:Int)=1);omega) | (have h_:=cS hL i;omega)),bK 0 r0.ptr,br aW au 5 r0.ptr,cj (cx:=[cv.v,(aj (((i:Nat):Int)+1))]) au fun c=>⟨c.bp 0 rfl e0,c.ad (c.q 6) e0 rfl,(c.q 4)⟩,ax⟩ fun ac ag ae ab aa=> ?_;obtain ⟨e0,e2,e3,e8⟩:=aa.k4 e0 e2 e3 e8;replace r0:=aa.RB 7 e0;replace r1:=aa.B 1;replace r9:=aa.z1 9;replace r0:ce 68 [cv.v,aj ((i+1:Nat):Int)] (ae 0) v ag:=by rw [show ((i+1:Nat):Int)=((i:Nat):Int)+1 from by omega];exact r0
   refine wp_seq (yk ab [jb r0,jb r1,jz 9 r9] ⟨ao e8,am fun c=>fX (cells:=#[(aj 2),(aR ((fF (cM cs i)).1)),(az false),(.slice none 0 0),(aj 0),(aj 0),(az false),(.slice none 0 0)]) rfl aN (hY rfl (c.n 0 rfl) rfl),cj (cx:=[(aj 2),(aR ((fF (cM cs i)).1)),(az false),(.slice none 0 0),(aj 0),(aj 0),(az false),(.slice none 0 0)]) (off:=0) ak fun c=>⟨c.bp 1 rfl e2,c.ad ((c.p e2).trans r1.ptr) e2 rfl,(c.q 1)⟩,am fun c=>ar rfl rfl,ax⟩ fun ac ag ae ab aa=> ?_);obtain ⟨e0,e2⟩:=aa.k2 e0 e2;have e3:=aa.V 3;replace r0:=aa.B 0;replace r1:=aa.RB 2 e2;replace r9:=aa.z1 9;refine wp_ret ?_;refine rp ?_;refine eu (fn:=Tryz.f105) rfl ab.defers e2 e3 r1 aD ak rfl ?_;have he_:gO cs i=((dp 2 ((fF (cM cs i)).1) false 0 0 false),0,i+1):=by unfold gO;(repeat (first | rw [if_neg (by first | assumption | (simp only [aQ];assumption) | (simp only [aU];assumption) | (exact fun h_=>h_ (by assumption)) | omega)] | rw [if_pos (by first | assumption | omega)]));(try rfl)
   rw [he_];exact ⟨(dp 2 ((fF (cM cs i)).1) false 0 0 false),rfl,ab.extIn,r0.foot,(fE _ _ _ _ _ _ _ _),rfl⟩
 try simp only [ah] at hc1
 refine wp_skip ?_;refine wp_seq ?_;have hnm:(decide (((cM cs i).size:Int)=1)&&hD (bZ (fS (cM cs i)) 0))=false:=by rw [aL];first | (right;assumption) | (left;exact decide_eq_false (by assumption))
 refine su [0,1,3,7,7,15,63] ab [jb r0,jb r1,jz 9 r9] ⟨ao e4,dQ fun c=>⟨_,_,(bj rfl rfl my (c.q 0)),xK (cM cs i) _⟩,bm 1,cD 2,cD 2,aF 3,aF 4,ax⟩ fun ac ag ae ab aa=> ?_;obtain ⟨e0,e2,e3⟩:=aa.k3 e0 e2 e3;have e8:=aa.V 5;have e9:=aa.V 6;replace r0:=aa.B 0;replace r1:=aa.B 1;replace r9:=aa.z1 9;refine wp_seq ?_;refine wp_seq (ew ab [jb r0,jb r1,jz 9 r9] ⟨ao e9,am fun c=>dS rfl (c.q 0),ax⟩ fun ac ag ae ab aa=> ?_);obtain ⟨e0,e2,e3,e8⟩:=aa.k4 e0 e2 e3 e8;have e42:=aa.V 1;replace r0:=aa.B 0;replace r1:=aa.B 1;replace r9:=aa.z1 9;refine wp_cond_split e42 (fun hc4=> ?_) (fun hc4=> ?_)
 · try simp only [aB,ay] at hc4
   refine wp_seq (eJ ab [jb r0,jb r1,jz 9 r9] ⟨am fun c=>fX (cells:=#[(aj 0),(aR (⟨#[]⟩:ByteArray)),(az false),(.slice none 0 0),(aj 0),(aj 0),(az false),(.slice none 0 0)]) rfl aN np,cj (cx:=[(aj 0),(aR (⟨#[]⟩:ByteArray)),(az false),(.slice none 0 0),(aj 0),(aj 0),(az false),(.slice none 0 0)]) (off:=0) ak fun c=>⟨c.bp 1 rfl e2,c.ad ((c.p e2).trans r1.ptr) e2 rfl,(c.q 0)⟩,am fun c=>ar rfl rfl,ax⟩ fun ac ag ae ab aa=> ?_);obtain ⟨e0,e2,e8⟩:=aa.k3 e0 e2 e8;have e3:=aa.V 2;replace r0:=aa.B 0;replace r1:=aa.RB 1 e2;replace r9:=aa.z1 9;refine wp_ret ?_;refine rp ?_;refine eu (fn:=Tryz.f105) rfl ab.defers e2 e3 r1 aD ak rfl ?_;have he_:gO cs i=((dp 0 (⟨#[]⟩:ByteArray) false 0 0 false),10,i):=by unfold gO;(repeat (first | rw [if_neg (by first | assumption | (simp only [aQ];assumption) | (simp only [aU];assumption) | (exact fun h_=>h_ (by assumption)) | omega)] | rw [if_pos (by first | assumption | omega)]));(try rfl)
   rw [he_];exact ⟨(dp 0 (⟨#[]⟩:ByteArray) false 0 0 false),rfl,ab.extIn,r0.foot,(fE _ _ _ _ _ _ _ _),rfl⟩
 try simp only [aB,ay] at hc4
 refine wp_skip ?_;refine wp_seq ?_;have hlt_:i < cs.length:=by
   cases hz_:ix (cM cs i) (⟨#[]⟩:ByteArray) with
   | false => exact mV hz_
   | true =>
     have hx_:(fF (cM cs i)).2=true:=by assumption
     unfold fF at hx_;rw [if_pos hz_] at hx_;cases hx_
 refine vV ab [jb r0,jb r1,jz 9 r9] ⟨ao e0,bK 0 r0.ptr,br aW au 1 r0.ptr,dJ aC 2 0 1,am fun c=>cV rfl (c.q 3) rfl (by first | omega | (have h_:=sS (by assumption:((cM cs i).size:Int)=1);omega) | (have h_:=cS hL i;omega)),bK 0 r0.ptr,br aW au 5 r0.ptr,cj (cx:=[cv.v,(aj (((i:Nat):Int)+1))]) au fun c=>⟨c.bp 0 rfl e0,c.ad (c.q 6) e0 rfl,(c.q 4)⟩,ax⟩ fun ac ag ae ab aa=> ?_;obtain ⟨e0,e2,e3,e8⟩:=aa.k4 e0 e2 e3 e8;replace r0:=aa.RB 7 e0;replace r1:=aa.B 1;replace r9:=aa.z1 9;replace r0:ce 68 [cv.v,aj ((i+1:Nat):Int)] (ae 0) v ag:=by rw [show ((i+1:Nat):Int)=((i:Nat):Int)+1 from by omega];exact r0
 refine wp_seq (yk ab [jb r0,jb r1,jz 9 r9] ⟨ao e8,am fun c=>fX (cells:=#[(aj 2),(aR ((fF (cM cs i)).1)),(az false),(.slice none 0 0),(aj 0),(aj 0),(az false),(.slice none 0 0)]) rfl aN (hY rfl (c.n 0 rfl) rfl),cj (cx:=[(aj 2),(aR ((fF (cM cs i)).1)),(az false),(.slice none 0 0),(aj 0),(aj 0),(az false),(.slice none 0 0)]) (off:=0) ak fun c=>⟨c.bp 1 rfl e2,c.ad ((c.p e2).trans r1.ptr) e2 rfl,(c.q 1)⟩,am fun c=>ar rfl rfl,ax⟩ fun ac ag ae ab aa=> ?_);obtain ⟨e0,e2⟩:=aa.k2 e0 e2;have e3:=aa.V 3;replace r0:=aa.B 0;replace r1:=aa.RB 2 e2;replace r9:=aa.z1 9;refine wp_ret ?_;refine rp ?_;refine eu (fn:=Tryz.f105) rfl ab.defers e2 e3 r1 aD ak rfl ?_;have he_:gO cs i=((dp 2 ((fF (cM cs i)).1) false 0 0 false),0,i+1):=by unfold gO;(repeat (first | rw [if_neg (by first | assumption | (simp only [aQ];assumption) | (simp only [aU];assumption) | (exact fun h_=>h_ (by assumption)) | omega)] | rw [if_pos (by first | assumption | omega)]));(try rfl)
 rw [he_];exact ⟨(dp 2 ((fF (cM cs i)).1) false 0 0 false),rfl,ab.extIn,r0.foot,(fE _ _ _ _ _ _ _ _),rfl⟩
end
end B
end Go.Proofs.YtcfdebjhikahfaaGreat
