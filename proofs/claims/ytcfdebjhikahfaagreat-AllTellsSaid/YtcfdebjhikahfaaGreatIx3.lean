import Derived.Test.YtcfdebjhikahfaaGreatIx2
set_option linter.unusedSimpArgs false
set_option linter.unusedVariables false
set_option linter.unusedSectionVars false
namespace Go.Proofs.YtcfdebjhikahfaaGreat
namespace B
section
open Go.RowKit
abbrev aT:=@Bool.not_eq_false
abbrev kP:=@Int.le_trans
abbrev ld:=@Int.lt_of_lt_of_le
abbrev mz:=@Tryz.call129
abbrev my:=@Tryz.call131
abbrev fN:=@Tryz.call58
abbrev ge:=@Tryz.call85
abbrev iQ:=@Tryz.isAgg5
abbrev cc:=@Tryz.isAgg60
abbrev ey:=@Tryz.sizeOf5
abbrev cf:=@Tryz.underlying105
abbrev gC:=@Tryz.underlying3
abbrev fw:=@Tryz.underlying5
end
section
open Go.RowKit
open Srt
def iq (l:List (Int→Int→Int × Bool)) (n d:Int):Int × Bool:=match l with
  | [] => (n, true)
  | g :: l => if (g n d).2 = true then iq l (g n d).1 d else ((g n d).1, false)
def cY (t:Tr) (d:Int):Int:=if oH t=true then d - 1 else d
def cW:Tr→Int→Int→Int × Bool:=lF fun t l n d=>if ((decide (n < 1) || decide (cY t d < 0)) || !cq t)=true then (n,false) else iq l (n - 1) (cY t d)
theorem nE (t:Tr) (n d:Int):cW t n d=if ((decide (n < 1) || decide (cY t d < 0)) || !cq t)=true then (n,false) else iq (t.kids.map cW) (n - 1) (cY t d):=
  congrFun (congrFun (iV (fun t l n d=>if ((decide (n < 1) || decide (cY t d < 0)) || !cq t)=true then (n,false) else iq l (n - 1) (cY t d)) t) n) d
theorem nF (t:Tr):∀{n d:Int},0≤n→0≤(cW t n d).1∧(cW t n d).1≤n:=by
  induction t using Tr.ind with
  | h t ih =>
    intro n d hn;have hK:∀ks:List Tr,(∀k ∈ ks,k ∈ t.kids)→∀m d,0≤m→0≤(iq (ks.map cW) m d).1∧(iq (ks.map cW) m d).1≤m:=by
      intro ks;induction ks with
      | nil => intro _ m d h; exact ⟨h, fe _⟩
      | cons k ks ih2 =>
        intro hm m d h;have h1:=ih k (hm k (by simp)) (n:=m) (d:=d) h;rw [bw,iq];split
        · have:=ih2 (fun x hx=>hm x (by simp [hx])) _ d h1.1;omega
        · exact h1
    rw [nE];split
    · exact ⟨hn,fe _⟩
    · rename_i hc;simp only [aO,ai,not_or] at hc;have:=hK t.kids (fun _ h=>h) (n - 1) (cY t d) (by omega);omega
theorem xE {t:Tr} {n d:Int} (h:((decide (n < 1) || decide (cY t d < 0)) || !cq t)=true):cW t n d=(n,false):=by rw [nE,if_pos h]
theorem vd {t:Tr} {n d m:Int} {k:Nat} (h:((decide (n < 1) || decide (cY t d < 0)) || !cq t)=false) (hq:iq (t.kids.map cW) (n - 1) (cY t d)=iq ((t.kids.drop k).map cW) m (cY t d)) (hk:k < t.kids.length) (hb:(cW (nth t.kids (k:Int)) m (cY t d)).2=false):cW t n d=((cW (nth t.kids (k:Int)) m (cY t d)).1,false):=by
  rw [nE,if_neg (by rw [h];decide),hq,kh hk,bw,iq,if_neg (by rw [hb];decide)]
theorem ve {t:Tr} {n d m:Int} {k:Nat} (h:((decide (n < 1) || decide (cY t d < 0)) || !cq t)=false) (hq:iq (t.kids.map cW) (n - 1) (cY t d)=iq ((t.kids.drop k).map cW) m (cY t d)) (hk:t.kids.length≤k):cW t n d=(m,true):=by
  rw [nE,if_neg (by rw [h];decide),hq,ex hk];rfl
theorem sO {t:Tr} {n d m:Int} {k:Nat} (hq:iq (t.kids.map cW) (n - 1) (cY t d)=iq ((t.kids.drop k).map cW) m (cY t d)) (hk:k < t.kids.length) (hb:(cW (nth t.kids (k:Int)) m (cY t d)).2=true):iq (t.kids.map cW) (n - 1) (cY t d)=iq ((t.kids.drop (k+1)).map cW) (cW (nth t.kids (k:Int)) m (cY t d)).1 (cY t d):=by
  rw [hq,kh hk,bw,iq,if_pos hb]
set_option maxRecDepth 100000 in
theorem yC (t:Tr) (ih:∀k ∈ t.kids,∀(n d:Int) (w:World),mc w k→fC k≤1000000→0≤n∧n≤1000→0≤d∧d≤1000→Calls Tryz.prog 52 #[k.v,aj n,aj d] w (fun e w'=>e= .returned (.tuple #[aj (cW k n d).1,aA (cW k n d).2])∧Ext aY w w')) (n d:Int) (w:World) (hT:mc w t) (hP:fC t≤1000000) (hn:0≤n∧n≤1000) (hd:0≤d∧d≤1000):Calls Tryz.prog 52 #[t.v,aj n,aj d] w (fun e w'=>e= .returned (.tuple #[aj (cW t n d).1,aA (cW t n d).2])∧Ext aY w w'):=by
 refine enter (n:=49) Tryz.func52 rfl rfl (aw rfl) ?_;intro a0 τ0 ha st0;have e0:aU a0 0=(ta t):=ha 0 _ rfl;have e1:aU a0 1=(aj n):=ha 1 _ rfl;have e2:aU a0 2=(aj d):=ha 2 _ rfl;clear ha;have hle:=hT.kids.le;have hwt:=ew t;have hpk:∀k:Nat,k < t.kids.length→fC (nth t.kids (k:Int))≤1000000:=fun k h_=>by have h1_:=mQ (cG (xs:=t.kids) (i:=(k:Int)) (by omega) (by omega));omega
 refine wp_seq (rg [box _ _ 0 3 (tc t),_,_] [0,0,2] st0 [] ⟨fP (v:=(ta t)) rfl rfl rfl rfl rfl (fun _ _ _ _ c=>(c.p e0)),am fun c=>au rfl rfl,am fun c=>au rfl rfl,ax⟩ fun ac ag ae ab aa=> ?_);obtain ⟨b1x3,e3⟩:=gx ac 3;obtain ⟨e1,e2⟩:=aa.k2 e1 e2;have e6:=aa.V 1;have e7:=aa.V 2;have r0:=aa.rb 0 e3 rfl;refine wp_seq ?_;refine wp_seq (eI ab [jb r0] ⟨cb aq ar e3 r0.ptr,dq aC 0 0 0,dR fun c=>⟨_,_,(bj rfl rfl Tryz.call56 (c.q 1)),CC t.k _⟩,ax⟩ fun ac ag ae ab aa=> ?_);obtain ⟨e1,e2,e3,e6,e7⟩:=aa.k5 e1 e2 e3 e6 e7;have e13:=aa.V 2;replace r0:=aa.B 0;refine wp_cond_split e13 (fun hc1=> ?_) (fun hc1=> ?_)
 · have hd1:=hc1;try simp only [aO,ai] at hd1
   refine eI ab [jb r0] ⟨ao e2,am fun c=>jp rfl (c.q 0) rfl (by omega),aG 1,ax⟩ fun ac ag ae ab aa=> ?_;obtain ⟨e1,e3,e6,e7⟩:=aa.k4 e1 e3 e6 e7;have e2:=aa.V 2;replace r0:=aa.B 0;refine wp_seq ?_;refine wp_seq ?_;have hdp:d - 1=cY t d:=by unfold cY oH;first | (rw [if_pos (by simpa using (by assumption))]) | (rw [if_neg (by simpa using (by assumption))])
   replace e2:aU ac 2=aj (cY t d):=e2.trans (bh hdp);have hdr:cY t d≤1000∧ -1≤cY t d:=by unfold cY;split <;> omega
   refine qk [0,1,3,7,15,31,63,127,255,511,1023] ab [jb r0] ⟨ao e1,am fun c=>df rfl (c.q 0) rfl,bq 1,bu 2 rfl fun c hpc=>aJ rfl (c.p e2),bu 2 rfl fun c hpc=>df rfl (c.M 3 hpc) rfl,dw 2 4,bq 5,bu 6 rfl fun c hpc=>eA rfl aD ak ((c.p e3).trans r0.ptr) (c.B 0),fx 6 false rfl fun c hpc=>⟨_,_,(bj rfl rfl Tryz.call77 (c.M 7 hpc)),vc t _ (hT.at (ab.ext.trans c.J.ext)) (by have hq0:=hpc;(try simp only [aF,ah,aX] at hq0);omega)⟩,bu 6 rfl fun c hpc=>dP rfl (c.M 8 hpc),dw 6 9,ax⟩ fun ac ag ae ab aa=> ?_;obtain ⟨e1,e2,e3,e6,e7⟩:=aa.k5 e1 e2 e3 e6 e7;have e26:=aa.V 10;replace r0:=aa.B 0;refine wp_cond_split e26 (fun hc2=> ?_) (fun hc2=> ?_)
   · have hd2:=hc2;try simp only [aO,aF,aB,az,ai,ah,aX] at hd2
     refine wp_seq ?_;have hcd:=hc2;refine eI ab [jb r0] ⟨ao e1,aG 0,am fun c=>au rfl rfl,ax⟩ fun ac ag ae ab aa=> ?_;obtain ⟨e1,e2,e3⟩:=aa.k3 e1 e2 e3;have e6:=aa.V 1;have e7:=aa.V 2;replace r0:=aa.B 0;refine wp_ret ?_;refine rp ?_;refine jB (fn:=Tryz.f52) rfl ab.defers e6 e7 ?_;exact ⟨congrArg _ (show (Value.tuple #[(aj n),(aA false)])=(.tuple #[aj (cW t n d).1,aA (cW t n d).2]) from by rw [xE hcd]),ab.ext0⟩
   have hd2:=hc2;try simp only [aO,aF,aB,az,ai,ah,aX] at hd2
   refine wp_skip ?_;refine wp_seq ?_;have hcd:((decide (n < 1) || decide (cY t d < 0)) || !cq t)=false:=by assumption
   have hce:=hcd;simp only [aF,ah,aX] at hce;refine eI ab [jb r0] ⟨ao e1,am fun c=>jp rfl (c.q 0) rfl (by omega),aG 1,ax⟩ fun ac ag ae ab aa=> ?_;obtain ⟨e2,e3,e6,e7⟩:=aa.k4 e2 e3 e6 e7;have e1:=aa.V 2;replace r0:=aa.B 0;refine wp_seq ?_;refine wp_seq (lE [0,1,3,0] ab [jb r0] ⟨cb aq bC e3 r0.ptr,dq bU 0 0 7,am fun c=>cQ rfl aI (c.q 1) (hT.at ab.ext).tl.sl.sl,am fun c=>aJ rfl rfl,ax⟩ fun ac ag ae ab aa=> ?_);obtain ⟨e1,e2,e6,e7⟩:=aa.k4 e1 e2 e6 e7;have e31:=aa.V 1;have e32:=aa.V 2;have e33:=aa.V 3;refine wp_block ?_;refine wp_loop (fun a_ w_=>∃(k:Nat) (m:Int) (τ:Nat→aQ),(k≤t.kids.length)∧
          (0≤m∧m≤1000)∧
          (iq (t.kids.map cW) (n - 1) (cY t d)=iq ((t.kids.drop k).map cW) m (cY t d))∧
          St (Nw w) w 49 a_ w_ τ∧
          aU a_ 1=(aj m)∧
          aU a_ 33=(aj (k:Int))∧
          aU a_ 2=(aj (cY t d))∧
          aU a_ 31=t.kv.v∧
          aU a_ 32=(aj (t.kids.length:Int))) (fun a_ _=>t.kids.length - (intOf (aU a_ 33)).toNat) ?_ ?_
   · refine ⟨0,n - 1,ae,?_,?_,?_,ab,(e1.trans (bh (by omega))),(e33.trans (bh (by omega))),e2,e31,e32⟩
     · omega
     · omega
     · rfl
   intro a8 w8 hI;obtain ⟨k,m,τ8,q0,q1,q2,st8,e1,e33,e2,e31,e32⟩:=hI;have hpk0:=hpk k;have m33:=e33;refine wp_seq (en st8 [] ⟨am fun c=>df rfl (c.p e33) (c.p e32),ax⟩ fun ac ag ae ab aa=> ?_);obtain ⟨e1,e2,e31,e32,e33⟩:=aa.k5 e1 e2 e31 e32 e33;have e34:=aa.V 0;refine wp_seq ?_;refine wp_cond_split e34 (fun hc3=> ?_) (fun hc3=> ?_)
   · try simp only [ai] at hc3
     refine wp_skip ?_;refine wp_seq ?_;refine wp_block ?_;refine wp_seq (rg [_,_,box _ _ 0 9 [(aj 0),(aS (⟨#[]⟩:ByteArray)),(aA false),(.slice none 0 0),(aj 0),(aj 0),(aA false),(.slice none 0 0)],_] [0,1,0,7] ab [] ⟨am fun c=>aK rfl aI ak (c.p e31) (hT.at ab.ext).tl.sl.sl (c.p e33) (by omega) (by omega),am fun c=>cM (vs:=(tc (nth t.kids (k:Int)))) rfl aD ak (c.q 0) rfl (fun _ _ hj=>((hT.at (ab.ext.trans c.J.ext)).tl.sl).elem (bo (i:=(k:Int)) (by omega) (by omega)) hj),cK rfl rfl rfl rfl aN rfl,gH (cx:=(tc (nth t.kids (k:Int)))) (off:=0) rfl ak fun c=>⟨c.rb 2 rfl,(c.rb 2 rfl).ptr,(c.q 1)⟩,ax⟩ fun ac ag ae ab aa=> ?_);obtain ⟨b10x9,e9⟩:=gx ac 9;obtain ⟨e1,e2,e31,e32,e33,e34⟩:=aa.k6 e1 e2 e31 e32 e33 e34;have r0:=aa.rb 3 e9 rfl;refine wp_seq (en ab [jb r0] ⟨am fun c=>au rfl rfl,ax⟩ fun ac ag ae ab aa=> ?_);obtain ⟨e1,e2,e9,e31,e32,e33,e34⟩:=aa.k7 e1 e2 e9 e31 e32 e33 e34;have e10:=aa.V 0;replace r0:=aa.B 0;refine wp_seq (qQ [0,0,0,7,15,31,31,63,255] ab [jb r0] ⟨am fun c=>eA rfl aD ak ((c.p e9).trans r0.ptr) (c.B 0),ao e1,ao e2,dR fun c=>⟨_,_,(ix rfl rfl Tryz.call52 (c.q 0) (c.q 1) (c.q 2)),ih _ (cG (by omega) (by omega)) m (cY t d) _ ((hT.at (ab.ext.trans c.J.ext)).tl.el (by omega) (by omega)) (by omega) (by omega) (by omega)⟩,bq 3,cT 4,cT 4,aG 5,aG 6,ax⟩ fun ac ag ae ab aa=> ?_);obtain ⟨e2,e9,e31,e32,e33,e34⟩:=aa.k6 e2 e9 e31 e32 e33 e34;have e1:=aa.V 7;have e10:=aa.V 8;replace r0:=aa.B 0;refine wp_seq (es ab [jb r0] ⟨ao e10,am fun c=>dP rfl (c.q 0),ax⟩ fun ac ag ae ab aa=> ?_);obtain ⟨e1,e2,e9,e10,e31,e32,e33,e34⟩:=aa.k8 e1 e2 e9 e10 e31 e32 e33 e34;have e45:=aa.V 1;replace r0:=aa.B 0;refine wp_cond_split e45 (fun hc4=> ?_) (fun hc4=> ?_)
     · have hd4:=hc4;try simp only [aB,az] at hd4
       refine wp_seq ?_;have hbad:(cW (nth t.kids (k:Int)) m (cY t d)).2=false:=by simpa using (by assumption:(!(cW (nth t.kids (k:Int)) m (cY t d)).2)=true)
       refine eI ab [jb r0] ⟨ao e1,aG 0,am fun c=>au rfl rfl,ax⟩ fun ac ag ae ab aa=> ?_;obtain ⟨e1,e2,e9,e10,e31,e32,e33,e34,e45⟩:=aa.k9 e1 e2 e9 e10 e31 e32 e33 e34 e45;have e6:=aa.V 1;have e7:=aa.V 2;replace r0:=aa.B 0;refine wp_ret ?_;refine rp ?_;refine jB (fn:=Tryz.f52) rfl ab.defers e6 e7 ?_;exact ⟨congrArg _ (show (Value.tuple #[(aj ((cW (nth t.kids (k:Int)) m (cY t d)).1)),(aA false)])=(.tuple #[aj (cW t n d).1,aA (cW t n d).2]) from by rw [vd hcd q2 (by omega) hbad]),ab.ext0⟩
     have hd4:=hc4;try simp only [aB,az] at hd4
     refine wp_skip ?_;show _;have hgood:(cW (nth t.kids (k:Int)) m (cY t d)).2=true:=by simpa using (by assumption:(!(cW (nth t.kids (k:Int)) m (cY t d)).2)=false)
     have hrg:=nF (nth t.kids (k:Int)) (n:=m) (d:=cY t d) (by omega);refine es ab [jb r0] ⟨am fun c=>cP rfl (c.p e33) rfl (by omega),bq 0,ax⟩ fun ac ag ae ab aa=> ?_;obtain ⟨e1,e2,e9,e10,e31,e32,e34,e45⟩:=aa.k8 e1 e2 e9 e10 e31 e32 e34 e45;have e33:=aa.V 1;replace r0:=aa.B 0;refine ⟨⟨k+1,(cW (nth t.kids (k:Int)) m (cY t d)).1,ae,?_,?_,?_,ab,(e1.trans (bh (by omega))),(e33.trans (bh (by omega))),e2,e31,e32⟩,?_⟩
     · omega
     · omega
     · exact sO q2 (by omega) hgood
     · simp only [m33,e33,intOf];omega
   try simp only [ah,aX] at hc3
   refine wp_exit ?_;repeat (with_reducible refine ce ?_)
   refine ci ?_;refine wp_seq (eI ab [] ⟨ao e1,aG 0,am fun c=>au rfl rfl,ax⟩ fun ac ag ae ab aa=> ?_);have e6:=aa.V 1;have e7:=aa.V 2;refine wp_ret ?_;refine rp ?_;refine jB (fn:=Tryz.f52) rfl ab.defers e6 e7 ?_;exact ⟨congrArg _ (show (Value.tuple #[(aj m),(aA true)])=(.tuple #[aj (cW t n d).1,aA (cW t n d).2]) from by rw [ve hcd q2 (by omega)]),ab.ext0⟩
 have hd4:=hc1;try simp only [aF,ah] at hd4
 refine wp_skip ?_;refine wp_seq ?_;refine wp_seq ?_;have hdp:d=cY t d:=by unfold cY oH;first | (rw [if_pos (by simpa using (by assumption))]) | (rw [if_neg (by simpa using (by assumption))])
 replace e2:aU ac 2=aj (cY t d):=e2.trans (bh hdp);have hdr:cY t d≤1000∧ -1≤cY t d:=by unfold cY;split <;> omega
 refine qk [0,1,3,7,15,31,63,127,255,511,1023] ab [jb r0] ⟨ao e1,am fun c=>df rfl (c.q 0) rfl,bq 1,bu 2 rfl fun c hpc=>aJ rfl (c.p e2),bu 2 rfl fun c hpc=>df rfl (c.M 3 hpc) rfl,dw 2 4,bq 5,bu 6 rfl fun c hpc=>eA rfl aD ak ((c.p e3).trans r0.ptr) (c.B 0),fx 6 false rfl fun c hpc=>⟨_,_,(bj rfl rfl Tryz.call77 (c.M 7 hpc)),vc t _ (hT.at (ab.ext.trans c.J.ext)) (by have hq0:=hpc;(try simp only [aF,ah,aX] at hq0);omega)⟩,bu 6 rfl fun c hpc=>dP rfl (c.M 8 hpc),dw 6 9,ax⟩ fun ac ag ae ab aa=> ?_;obtain ⟨e1,e2,e3,e6,e7⟩:=aa.k5 e1 e2 e3 e6 e7;have e26:=aa.V 10;replace r0:=aa.B 0;refine wp_cond_split e26 (fun hc5=> ?_) (fun hc5=> ?_)
 · have hd5:=hc5;try simp only [aO,aF,aB,az,ai,ah,aX] at hd5
   refine wp_seq ?_;have hcd:=hc5;refine eI ab [jb r0] ⟨ao e1,aG 0,am fun c=>au rfl rfl,ax⟩ fun ac ag ae ab aa=> ?_;obtain ⟨e1,e2,e3⟩:=aa.k3 e1 e2 e3;have e6:=aa.V 1;have e7:=aa.V 2;replace r0:=aa.B 0;refine wp_ret ?_;refine rp ?_;refine jB (fn:=Tryz.f52) rfl ab.defers e6 e7 ?_;exact ⟨congrArg _ (show (Value.tuple #[(aj n),(aA false)])=(.tuple #[aj (cW t n d).1,aA (cW t n d).2]) from by rw [xE hcd]),ab.ext0⟩
 have hd5:=hc5;try simp only [aO,aF,aB,az,ai,ah,aX] at hd5
 refine wp_skip ?_;refine wp_seq ?_;have hcd:((decide (n < 1) || decide (cY t d < 0)) || !cq t)=false:=by assumption
 have hce:=hcd;simp only [aF,ah,aX] at hce;refine eI ab [jb r0] ⟨ao e1,am fun c=>jp rfl (c.q 0) rfl (by omega),aG 1,ax⟩ fun ac ag ae ab aa=> ?_;obtain ⟨e2,e3,e6,e7⟩:=aa.k4 e2 e3 e6 e7;have e1:=aa.V 2;replace r0:=aa.B 0;refine wp_seq ?_;refine wp_seq (lE [0,1,3,0] ab [jb r0] ⟨cb aq bC e3 r0.ptr,dq bU 0 0 7,am fun c=>cQ rfl aI (c.q 1) (hT.at ab.ext).tl.sl.sl,am fun c=>aJ rfl rfl,ax⟩ fun ac ag ae ab aa=> ?_);obtain ⟨e1,e2,e6,e7⟩:=aa.k4 e1 e2 e6 e7;have e31:=aa.V 1;have e32:=aa.V 2;have e33:=aa.V 3;refine wp_block ?_;refine wp_loop (fun a_ w_=>∃(k:Nat) (m:Int) (τ:Nat→aQ),(k≤t.kids.length)∧
      (0≤m∧m≤1000)∧
      (iq (t.kids.map cW) (n - 1) (cY t d)=iq ((t.kids.drop k).map cW) m (cY t d))∧
      St (Nw w) w 49 a_ w_ τ∧
      aU a_ 1=(aj m)∧
      aU a_ 33=(aj (k:Int))∧
      aU a_ 2=(aj (cY t d))∧
      aU a_ 31=t.kv.v∧
      aU a_ 32=(aj (t.kids.length:Int))) (fun a_ _=>t.kids.length - (intOf (aU a_ 33)).toNat) ?_ ?_
 · refine ⟨0,n - 1,ae,?_,?_,?_,ab,(e1.trans (bh (by omega))),(e33.trans (bh (by omega))),e2,e31,e32⟩
   · omega
   · omega
   · rfl
 intro a21 w21 hI;obtain ⟨k,m,τ21,q0,q1,q2,st21,e1,e33,e2,e31,e32⟩:=hI;have hpk0:=hpk k;have m33:=e33;refine wp_seq (en st21 [] ⟨am fun c=>df rfl (c.p e33) (c.p e32),ax⟩ fun ac ag ae ab aa=> ?_);obtain ⟨e1,e2,e31,e32,e33⟩:=aa.k5 e1 e2 e31 e32 e33;have e34:=aa.V 0;refine wp_seq ?_;refine wp_cond_split e34 (fun hc6=> ?_) (fun hc6=> ?_)
 · try simp only [ai] at hc6
   refine wp_skip ?_;refine wp_seq ?_;refine wp_block ?_;refine wp_seq (rg [_,_,box _ _ 0 9 [(aj 0),(aS (⟨#[]⟩:ByteArray)),(aA false),(.slice none 0 0),(aj 0),(aj 0),(aA false),(.slice none 0 0)],_] [0,1,0,7] ab [] ⟨am fun c=>aK rfl aI ak (c.p e31) (hT.at ab.ext).tl.sl.sl (c.p e33) (by omega) (by omega),am fun c=>cM (vs:=(tc (nth t.kids (k:Int)))) rfl aD ak (c.q 0) rfl (fun _ _ hj=>((hT.at (ab.ext.trans c.J.ext)).tl.sl).elem (bo (i:=(k:Int)) (by omega) (by omega)) hj),cK rfl rfl rfl rfl aN rfl,gH (cx:=(tc (nth t.kids (k:Int)))) (off:=0) rfl ak fun c=>⟨c.rb 2 rfl,(c.rb 2 rfl).ptr,(c.q 1)⟩,ax⟩ fun ac ag ae ab aa=> ?_);obtain ⟨b23x9,e9⟩:=gx ac 9;obtain ⟨e1,e2,e31,e32,e33,e34⟩:=aa.k6 e1 e2 e31 e32 e33 e34;have r0:=aa.rb 3 e9 rfl;refine wp_seq (en ab [jb r0] ⟨am fun c=>au rfl rfl,ax⟩ fun ac ag ae ab aa=> ?_);obtain ⟨e1,e2,e9,e31,e32,e33,e34⟩:=aa.k7 e1 e2 e9 e31 e32 e33 e34;have e10:=aa.V 0;replace r0:=aa.B 0;refine wp_seq (qQ [0,0,0,7,15,31,31,63,255] ab [jb r0] ⟨am fun c=>eA rfl aD ak ((c.p e9).trans r0.ptr) (c.B 0),ao e1,ao e2,dR fun c=>⟨_,_,(ix rfl rfl Tryz.call52 (c.q 0) (c.q 1) (c.q 2)),ih _ (cG (by omega) (by omega)) m (cY t d) _ ((hT.at (ab.ext.trans c.J.ext)).tl.el (by omega) (by omega)) (by omega) (by omega) (by omega)⟩,bq 3,cT 4,cT 4,aG 5,aG 6,ax⟩ fun ac ag ae ab aa=> ?_);obtain ⟨e2,e9,e31,e32,e33,e34⟩:=aa.k6 e2 e9 e31 e32 e33 e34;have e1:=aa.V 7;have e10:=aa.V 8;replace r0:=aa.B 0;refine wp_seq (es ab [jb r0] ⟨ao e10,am fun c=>dP rfl (c.q 0),ax⟩ fun ac ag ae ab aa=> ?_);obtain ⟨e1,e2,e9,e10,e31,e32,e33,e34⟩:=aa.k8 e1 e2 e9 e10 e31 e32 e33 e34;have e45:=aa.V 1;replace r0:=aa.B 0;refine wp_cond_split e45 (fun hc7=> ?_) (fun hc7=> ?_)
   · have hd7:=hc7;try simp only [aB,az] at hd7
     refine wp_seq ?_;have hbad:(cW (nth t.kids (k:Int)) m (cY t d)).2=false:=by simpa using (by assumption:(!(cW (nth t.kids (k:Int)) m (cY t d)).2)=true)
     refine eI ab [jb r0] ⟨ao e1,aG 0,am fun c=>au rfl rfl,ax⟩ fun ac ag ae ab aa=> ?_;obtain ⟨e1,e2,e9,e10,e31,e32,e33,e34,e45⟩:=aa.k9 e1 e2 e9 e10 e31 e32 e33 e34 e45;have e6:=aa.V 1;have e7:=aa.V 2;replace r0:=aa.B 0;refine wp_ret ?_;refine rp ?_;refine jB (fn:=Tryz.f52) rfl ab.defers e6 e7 ?_;exact ⟨congrArg _ (show (Value.tuple #[(aj ((cW (nth t.kids (k:Int)) m (cY t d)).1)),(aA false)])=(.tuple #[aj (cW t n d).1,aA (cW t n d).2]) from by rw [vd hcd q2 (by omega) hbad]),ab.ext0⟩
   have hd7:=hc7;try simp only [aB,az] at hd7
   refine wp_skip ?_;show _;have hgood:(cW (nth t.kids (k:Int)) m (cY t d)).2=true:=by simpa using (by assumption:(!(cW (nth t.kids (k:Int)) m (cY t d)).2)=false)
   have hrg:=nF (nth t.kids (k:Int)) (n:=m) (d:=cY t d) (by omega);refine es ab [jb r0] ⟨am fun c=>cP rfl (c.p e33) rfl (by omega),bq 0,ax⟩ fun ac ag ae ab aa=> ?_;obtain ⟨e1,e2,e9,e10,e31,e32,e34,e45⟩:=aa.k8 e1 e2 e9 e10 e31 e32 e34 e45;have e33:=aa.V 1;replace r0:=aa.B 0;refine ⟨⟨k+1,(cW (nth t.kids (k:Int)) m (cY t d)).1,ae,?_,?_,?_,ab,(e1.trans (bh (by omega))),(e33.trans (bh (by omega))),e2,e31,e32⟩,?_⟩
   · omega
   · omega
   · exact sO q2 (by omega) hgood
   · simp only [m33,e33,intOf];omega
 try simp only [ah,aX] at hc6
 refine wp_exit ?_;repeat (with_reducible refine ce ?_)
 refine ci ?_;refine wp_seq (eI ab [] ⟨ao e1,aG 0,am fun c=>au rfl rfl,ax⟩ fun ac ag ae ab aa=> ?_);have e6:=aa.V 1;have e7:=aa.V 2;refine wp_ret ?_;refine rp ?_;refine jB (fn:=Tryz.f52) rfl ab.defers e6 e7 ?_;exact ⟨congrArg _ (show (Value.tuple #[(aj m),(aA true)])=(.tuple #[aj (cW t n d).1,aA (cW t n d).2]) from by rw [ve hcd q2 (by omega)]),ab.ext0⟩
theorem EH (t:Tr):∀(n d:Int) (w:World),mc w t→fC t≤1000000→0≤n∧n≤1000→0≤d∧d≤1000→Calls Tryz.prog 52 #[t.v,.int .i64 n,.int .i64 d] w (fun e w'=>e= .returned (.tuple #[.int .i64 (cW t n d).1,.bool (cW t n d).2])∧Ext aY w w'):=Tr.ind (P:=fun t=>∀(n d:Int) (w:World),mc w t→fC t≤1000000→0≤n∧n≤1000→0≤d∧d≤1000→Calls Tryz.prog 52 #[t.v,.int .i64 n,.int .i64 d] w (fun e w'=>e= .returned (.tuple #[.int .i64 (cW t n d).1,.bool (cW t n d).2])∧Ext aY w w')) yC t
set_option maxRecDepth 100000 in
theorem DW (t:Tr) (w:World) (hT:mc w t) (hP:fC t≤1000000):Calls Tryz.prog 27 #[(ta t)] w (fun e w'=>e= .returned (aA ((cW t 512 16).2))∧Ext aY w w'):=by
 refine enter (n:=11) Tryz.func27 rfl rfl (aw rfl) ?_;intro a0 τ0 ha st0;have e0:aU a0 0=(ta t):=ha 0 _ rfl;clear ha;refine wp_seq (rg [box _ _ 0 1 (tc t),_] [0,0] st0 [] ⟨fP (v:=(ta t)) rfl rfl rfl rfl rfl (fun _ _ _ _ c=>(c.p e0)),am fun c=>au rfl rfl,ax⟩ fun ac ag ae ab aa=> ?_);obtain ⟨b1x1,e1⟩:=gx ac 1;have e2:=aa.V 1;have r0:=aa.rb 0 e1 rfl;refine wp_seq (sc [0,1,3,7,7,15,63] ab [jb r0] ⟨am fun c=>eA rfl aD ak ((c.p e1).trans r0.ptr) (c.B 0),dR fun c=>⟨_,_,(ix rfl rfl Tryz.call52 (c.q 0) rfl rfl),EH t 512 16 _ (hT.at (ab.ext.trans c.J.ext)) (by omega) (by omega) (by omega)⟩,bq 1,cT 2,cT 2,aG 3,aG 4,ax⟩ fun ac ag ae ab aa=> ?_);replace e2:=aa.k1 e2;have e4:=aa.V 6;refine wp_seq (es ab [] ⟨ao e4,aG 0,ax⟩ fun ac ag ae ab aa=> ?_);have e2:=aa.V 1;refine wp_ret ?_;refine rp ?_;refine cC (fn:=Tryz.f27) rfl ab.defers e2 ?_;exact ⟨rfl,ab.ext0⟩
end
section
open Go.RowKit
open Srt
def rG (t:Tr):Bool:=(((!decide ((t.kids.length:Int)=1)) || decide (t.mn < 0)) || decide (255 < t.mn)) || ((!decide (t.mx= -1))&&(decide (t.mx < t.mn) || decide (255 < t.mx)))
def Ax (t:Tr):Bool:=if rG t=true then false else jL t.ch t.ng t.rows 0 0 false&&(((((decide ((nth t.kids 0).k=2)) || (decide ((nth t.kids 0).k=3))) || (decide ((nth t.kids 0).k=4))) || (decide ((nth t.kids 0).k=5))) || (decide ((nth t.kids 0).k=6)))
def gL:Tr→Bool:=lF fun t l=>l.all (fun b=>b)&&cq t
theorem jv (t:Tr):gL t=(t.kids.all gL&&cq t):=by
  have h:=iV (fun t l=>l.all (fun b=>b)&&cq t) t;rw [List.all_map] at h;exact h
theorem qz {t:Tr} {k:Nat} (h:k < t.kids.length) (hb:(!gL (nth t.kids (k:Int)))=true):false=gL t:=by
  rw [jv];have:t.kids.all gL=false:=by
    rw [List.all_eq_false];exact ⟨nth t.kids (k:Int),cG (by omega) (by omega),by simpa using hb⟩
  rw [this];rfl
theorem dX {t:Tr} {k:Nat} {b:Bool} (h:∀y ∈ t.kids.take k,gL y=true) (hk:t.kids.length≤k) (hb:b=cq t):b=gL t:=by
  rw [bB hk] at h;rw [jv,cR.2 h,hb];rfl
theorem Ay {α:Type} [Inhabited α] {f:α→Bool} {xs:List α} {k:Nat} (h:k < xs.length) (hq:∀y ∈ xs.take k,f y=true) (hc:f (nth xs (k:Int))=true):∀y ∈ xs.take (k+1),f y=true:=by
  rw [eZ h];intro y hy;rcases List.mem_append.1 hy with hy | hy
  · exact hq y hy
  · simp at hy;rw [hy];exact hc
theorem pL (t:Tr):oq t [0,1]=t.kids.any fun y=>decide (y.k=0) || decide (y.k=1):=by
  unfold oq;congr 1;funext y;simp
theorem pM (t:Tr):oq t [1]=t.kids.any fun y=>decide (y.k=1):=by
  unfold oq;congr 1;funext y;simp
theorem xF {α:Type} [Inhabited α] {f:α→Bool} {xs:List α} {k:Nat} (h:k < xs.length) (hb:f (nth xs (k:Int))=true):xs.any f=true:=List.any_eq_true.2 ⟨_,cG (by omega) (by omega),hb⟩
theorem vf {α:Type} {f:α→Bool} {xs:List α} {k:Nat} (hk:xs.length≤k) (h:∀y ∈ xs.take k,f y=false):xs.any f=false:=by
  rw [bB hk] at h;rw [jR];intro x hx;rw [h x hx];decide
theorem nX {t:Tr} {k:Nat} (h:t.k=0) (hk:k < t.kids.length) (hb:(decide ((nth t.kids (k:Int)).k=0) || decide ((nth t.kids (k:Int)).k=1))=true):false=cq t:=by
  have:=xF (f:=fun y:Tr=>decide (y.k=0) || decide (y.k=1)) hk hb;unfold cq;rw [if_neg (by omega),if_neg (by omega),if_neg (by omega),if_pos h,pL,this];simp
theorem Az {t:Tr} {k:Nat} (h:t.k=0) (hk:t.kids.length≤k) (hb:∀y ∈ t.kids.take k,(decide (y.k=0) || decide (y.k=1))=false):(jL t.ch t.ng t.rows t.mn t.mx t.lz&&(!decide ((t.kids.length:Int)=1)))=cq t:=by
  unfold cq;rw [if_neg (by omega),if_neg (by omega),if_neg (by omega),if_pos h,pL,vf hk hb];simp [lr]
theorem nY {t:Tr} {k:Nat} (h:t.k=1) (hk:k < t.kids.length) (hb:decide ((nth t.kids (k:Int)).k=1)=true):false=cq t:=by
  have:=xF (f:=fun y:Tr=>decide (y.k=1)) hk hb;unfold cq;rw [if_neg (by omega),if_neg (by omega),if_neg (by omega),if_neg (by omega),if_pos h,pM,this];simp
theorem AA {t:Tr} {k:Nat} (h:t.k=1) (hk:t.kids.length≤k) (hb:∀y ∈ t.kids.take k,decide (y.k=1)=false):(jL t.ch t.ng t.rows t.mn t.mx t.lz&&(decide (2≤(t.kids.length:Int))))=cq t:=by
  unfold cq;rw [if_neg (by omega),if_neg (by omega),if_neg (by omega),if_neg (by omega),if_pos h,pM,vf hk hb];have:decide (2≤(t.kids.length:Int))=decide (1 < (t.kids.length:Int)):=by rw [eT];simp;omega
  rw [this];simp [lr]
theorem FN {t:Tr} (h:t.k=7):Ax t=cq t:=by
  unfold cq;rw [if_neg (show ¬t.k=2 by omega),if_neg (show ¬t.k=4 by omega),if_pos h];unfold Ax rG oK;generalize jL t.ch t.ng t.rows 0 0 false=b;generalize (nth t.kids 0).k=k;generalize (t.kids.length:Int)=l;generalize t.mn=x;generalize t.mx=y;rw [eT];cases b
  · simp
  · simp only [fE,aO,av,ai,aB,ah,Bool.ite_eq_true_distrib,kX,if_false_left];omega
set_option maxRecDepth 100000 in
theorem vg (t:Tr) (w:World) (hT:mc w t) (hP:fC t≤1000000):Calls Tryz.prog 88 #[(ta t)] w (fun e w'=>e= .returned (aA (Ax t))∧Ext aY w w'):=by
 refine enter (n:=65) Tryz.func88 rfl rfl (aw rfl) ?_;intro a0 τ0 ha st0;have e0:aU a0 0=(ta t):=ha 0 _ rfl;clear ha;have hle:=hT.kids.le;have hle2:=hT.rows.le;have hwt:=ew t;have hsm:=rF hP;refine wp_seq (rg [box _ _ 0 1 (tc t),_] [0,0] st0 [] ⟨fP (v:=(ta t)) rfl rfl rfl rfl rfl (fun _ _ _ _ c=>(c.p e0)),am fun c=>au rfl rfl,ax⟩ fun ac ag ae ab aa=> ?_);obtain ⟨b1x1,e1⟩:=gx ac 1;have e2:=aa.V 1;have r0:=aa.rb 0 e1 rfl;refine wp_seq ?_;refine wp_seq (rg [_,_,_,_,_,_,_,_,_,_,_,_,_,_,_,_,_,_,_,_,_,_,_,_,_,_,_,_,_,_,_] [0,1,3,7,15,31,63,127,255,511,1023,2047,4095,8191,16383,32767,65535,131071,262143,524287,1048575,524287,2621439,8388607,16777215,33554431,67108863,134217727,268435455,536870911,1073741823] ab [jb r0] ⟨cb aq bC e1 r0.ptr,dq bU 0 0 7,am fun c=>cQ rfl aI (c.q 1) (hT.at ab.ext).tl.sl.sl,am fun c=>jn rfl (c.q 2) rfl,bq 3,bu 4 rfl fun c hpc=>cF rfl aq ar ((c.p e1).trans r0.ptr),bu 4 rfl fun c hpc=>ay rfl aC (c.M 5 hpc) ((c.B 0).cell (j:=4) rfl),bu 4 rfl fun c hpc=>df rfl (c.M 6 hpc) rfl,dw 4 7,bq 8,bu 9 rfl fun c hpc=>cF rfl aq ar ((c.p e1).trans r0.ptr),bu 9 rfl fun c hpc=>ay rfl aC (c.M 10 hpc) ((c.B 0).cell (j:=4) rfl),bu 9 rfl fun c hpc=>iR rfl (c.M 11 hpc) rfl,dw 9 12,bq 13,bu 14 rfl fun c hpc=>cF rfl aq ar ((c.p e1).trans r0.ptr),bu 14 rfl fun c hpc=>ay rfl aC (c.M 15 hpc) ((c.B 0).cell (j:=5) rfl),bu 14 rfl fun c hpc=>jn rfl (c.M 16 hpc) rfl,bu 14 rfl fun c hpc=>aJ rfl (c.M 17 hpc),cB 18 true rfl fun c hpc=>cF rfl aq ar ((c.p e1).trans r0.ptr),cB 18 true rfl fun c hpc=>ay rfl aC (c.M 19 hpc) ((c.B 0).cell (j:=5) rfl),cB 18 true rfl fun c hpc=>cF rfl aq ar ((c.p e1).trans r0.ptr),cB 18 true rfl fun c hpc=>ay rfl aC (c.M 21 hpc) ((c.B 0).cell (j:=4) rfl),cB 18 true rfl fun c hpc=>df rfl (c.M 20 hpc) (c.M 22 hpc),cB 18 true rfl fun c hpc=>aJ rfl (c.M 23 hpc),cB 24 false rfl fun c hpc=>cF rfl aq ar ((c.p e1).trans r0.ptr),cB 24 false rfl fun c hpc=>ay rfl aC (c.M 25 hpc) ((c.B 0).cell (j:=5) rfl),cB 24 false rfl fun c hpc=>iR rfl (c.M 26 hpc) rfl,cB 18 true rfl fun c hpc=>oO rfl (c.M 24 hpc) (fun h=>c.m 27 rfl (And.intro hpc h)),bu 14 rfl fun c hpc=>ly rfl (c.M 18 hpc) (fun h=>c.m 28 rfl (And.intro hpc h)),dw 14 29,ax⟩ fun ac ag ae ab aa=> ?_);obtain ⟨e1,e2⟩:=aa.k2 e1 e2;have e34:=aa.V 30;replace r0:=aa.B 0;refine wp_cond_split e34 (fun hc1=> ?_) (fun hc1=> ?_)
 · have hd1:=hc1;try simp only [av,aM,aO,aF,aB,az,ai,ah,aX] at hd1
   refine wp_seq (en ab [jb r0] ⟨am fun c=>au rfl rfl,ax⟩ fun ac ag ae ab aa=> ?_);replace e1:=aa.k1 e1;have e2:=aa.V 0;replace r0:=aa.B 0;refine wp_ret ?_;refine rp ?_;refine cC (fn:=Tryz.f88) rfl ab.defers e2 ?_;exact ⟨congrArg _ (congrArg _ (by unfold Ax;rw [if_pos (by assumption:rG t=true)])),ab.ext0⟩
 have hd1:=hc1;try simp only [av,aM,aO,aF,aB,az,ai,ah,aX] at hd1
 refine wp_skip ?_;refine wp_seq (DP ab [jb r0] ⟨cb aq bC e1 r0.ptr,dq bU 0 0 7,am fun c=>aK rfl aI ak (c.q 1) (hT.at ab.ext).tl.sl.sl rfl (by omega) (by omega),br aq ar 2 rfl,am fun c=>ay rfl aC (c.q 3) (((hT.at (ab.ext.trans c.J.ext)).tl.sl).elem (j:=0) (bo (i:=0) (by omega) (by omega)) rfl),aG 4,ax⟩ fun ac ag ae ab aa=> ?_);obtain ⟨e1,e2⟩:=aa.k2 e1 e2;have e3:=aa.V 5;replace r0:=aa.B 0;refine wp_seq (es ab [jb r0] ⟨cb aq ar e1 r0.ptr,ct (cx:=[(aj t.k),(aS t.ch),(aA t.ng),t.rv.v,(aj 0),(aj t.mx),(aA t.lz),t.kv.v]) (v:=(aj 0)) ar fun c=>⟨c.bp 0 rfl e1,c.ad (c.q 0) e1 rfl,rfl⟩,ax⟩ fun ac ag ae ab aa=> ?_);obtain ⟨e1,e2,e3⟩:=aa.k3 e1 e2 e3;replace r0:=aa.RB 1 e1;refine wp_seq (es ab [jb r0] ⟨cb aq ar e1 r0.ptr,ct (cx:=[(aj t.k),(aS t.ch),(aA t.ng),t.rv.v,(aj 0),(aj 0),(aA t.lz),t.kv.v]) (v:=(aj 0)) ar fun c=>⟨c.bp 0 rfl e1,c.ad (c.q 0) e1 rfl,rfl⟩,ax⟩ fun ac ag ae ab aa=> ?_);obtain ⟨e1,e2,e3⟩:=aa.k3 e1 e2 e3;replace r0:=aa.RB 1 e1;refine wp_seq (es ab [jb r0] ⟨cb aq bc e1 r0.ptr,ct (cx:=[(aj t.k),(aS t.ch),(aA t.ng),t.rv.v,(aj 0),(aj 0),(aA false),t.kv.v]) (v:=(aA false)) bc fun c=>⟨c.bp 0 rfl e1,c.ad (c.q 0) e1 rfl,rfl⟩,ax⟩ fun ac ag ae ab aa=> ?_);obtain ⟨e1,e2,e3⟩:=aa.k3 e1 e2 e3;replace r0:=aa.RB 1 e1;refine wp_seq (rg [_,_,_,_,_,_,_,_,_,_,_,_,_,_,_,_,_,_,_,_,_,_,_] [0,1,3,7,15,31,63,127,255,511,1023,2047,4095,8191,16383,32767,65535,131071,262143,524287,1048575,2097151,4194303] ab [jb r0] ⟨am fun c=>eA rfl aD ak ((c.p e1).trans r0.ptr) (c.B 0),dR fun c=>⟨_,_,(bj rfl rfl ge (c.q 0)),gQ t.k t.ch t.ng t.rv.v t.rows 0 0 false t.kv.v rfl _ (hT.at (ab.ext.trans c.J.ext)).rows⟩,bq 1,aE 2 rfl fun c hpc=>aJ rfl (c.p e3),aE 2 rfl fun c hpc=>bV rfl (c.M 3 hpc) rfl,aE 2 rfl fun c hpc=>aJ rfl (c.M 4 hpc),cB 5 false rfl fun c hpc=>aJ rfl (c.p e3),cB 5 false rfl fun c hpc=>bV rfl (c.M 6 hpc) rfl,aE 2 rfl fun c hpc=>oO rfl (c.M 5 hpc) (fun h=>c.m 7 rfl (And.intro hpc h)),aE 2 rfl fun c hpc=>aJ rfl (c.M 8 hpc),cB 9 false rfl fun c hpc=>aJ rfl (c.p e3),cB 9 false rfl fun c hpc=>bV rfl (c.M 10 hpc) rfl,aE 2 rfl fun c hpc=>oO rfl (c.M 9 hpc) (fun h=>c.m 11 rfl (And.intro hpc h)),aE 2 rfl fun c hpc=>aJ rfl (c.M 12 hpc),cB 13 false rfl fun c hpc=>aJ rfl (c.p e3),cB 13 false rfl fun c hpc=>bV rfl (c.M 14 hpc) rfl,aE 2 rfl fun c hpc=>oO rfl (c.M 13 hpc) (fun h=>c.m 15 rfl (And.intro hpc h)),aE 2 rfl fun c hpc=>aJ rfl (c.M 16 hpc),cB 17 false rfl fun c hpc=>aJ rfl (c.p e3),cB 17 false rfl fun c hpc=>bV rfl (c.M 18 hpc) rfl,aE 2 rfl fun c hpc=>oO rfl (c.M 17 hpc) (fun h=>c.m 19 rfl (And.intro hpc h)),bN 2 20,aG 21,ax⟩ fun ac ag ae ab aa=> ?_);have e2:=aa.V 22;refine wp_ret ?_;refine rp ?_;refine cC (fn:=Tryz.f88) rfl ab.defers e2 ?_;exact ⟨congrArg _ (congrArg _ (by unfold Ax;rw [if_neg (show ¬rG t=true by rw [show rG t=false from by assumption];decide)])),ab.ext0⟩
set_option maxRecDepth 100000 in
theorem vh (t:Tr) (ih:∀k ∈ t.kids,∀(w:World),mc w k→fC k≤1000000→Calls Tryz.prog 68 #[k.v] w (fun e w'=>e= .returned (aA (gL k))∧Ext aY w w')) (w:World) (hT:mc w t) (hP:fC t≤1000000):Calls Tryz.prog 68 #[t.v] w (fun e w'=>e= .returned (aA (gL t))∧Ext aY w w'):=by
 refine enter (n:=131) Tryz.func68 rfl rfl (aw rfl) ?_;intro a0 τ0 ha st0;have e0:aU a0 0=(ta t):=ha 0 _ rfl;clear ha;have hle:=hT.kids.le;have hle2:=hT.rows.le;have hwt:=ew t;have hsm:=rF hP;have hpk:∀k:Nat,k < t.kids.length→fC (nth t.kids (k:Int))≤1000000:=fun k h_=>by have h1_:=mQ (cG (xs:=t.kids) (i:=(k:Int)) (by omega) (by omega));omega
 refine wp_seq (rg [box _ _ 0 1 (tc t),_] [0,0] st0 [] ⟨fP (v:=(ta t)) rfl rfl rfl rfl rfl (fun _ _ _ _ c=>(c.p e0)),am fun c=>au rfl rfl,ax⟩ fun ac ag ae ab aa=> ?_);obtain ⟨b1x1,e1⟩:=gx ac 1;have e2:=aa.V 1;have r0:=aa.rb 0 e1 rfl;refine wp_seq (zj ab [jb r0] ⟨cb aq bC e1 r0.ptr,dq bU 0 0 7,am fun c=>cQ rfl aI (c.q 1) (hT.at ab.ext).tl.sl.sl,aG 2,ax⟩ fun ac ag ae ab aa=> ?_);obtain ⟨e1,e2⟩:=aa.k2 e1 e2;have e3:=aa.V 3;replace r0:=aa.B 0;refine wp_seq ?_;refine wp_seq (en ab [jb r0] ⟨am fun c=>au rfl rfl,ax⟩ fun ac ag ae ab aa=> ?_);obtain ⟨e1,e2,e3⟩:=aa.k3 e1 e2 e3;have e4:=aa.V 0;replace r0:=aa.B 0;refine wp_block ?_;refine wp_loop (fun a_ w_=>∃(k:Nat) (τ:Nat→aQ),(k≤t.kids.length)∧
      (∀y ∈ t.kids.take k,gL y=true)∧
      St (Nw w) w 131 a_ w_ τ∧
      aU a_ 4=(aj (k:Int))∧
      aU a_ 1=b1x1∧
      aU a_ 3=(aj (t.kids.length:Int))∧
      cd 25 (tc t) (τ 0) b1x1 w_) (fun a_ _=>t.kids.length - (intOf (aU a_ 4)).toNat) ?_ ?_
 · refine ⟨0,ae,?_,?_,ab,(e4.trans (bh (by omega))),e1,e3,r0⟩
   · omega
   · simp
 intro a4 w4 hI;obtain ⟨k,τ4,q0,q1,st4,e4,e1,e3,r0⟩:=hI;have hpk0:=hpk k;have m4:=e4;refine wp_seq ?_;refine wp_seq (zi [0,0,3] st4 [jb r0] ⟨ao e4,ao e3,am fun c=>df rfl (c.q 0) (c.q 1),ax⟩ fun ac ag ae ab aa=> ?_);obtain ⟨e1,e3,e4⟩:=aa.k3 e1 e3 e4;have e14:=aa.V 2;replace r0:=aa.B 0;refine wp_cond_split e14 (fun hc1=> ?_) (fun hc1=> ?_)
 · try simp only [ai] at hc1
   refine wp_skip ?_;refine wp_seq ?_;refine wp_block ?_;refine wp_seq (sc [0,1,0,7,15,31,63] ab [jb r0] ⟨cb aq bC e1 r0.ptr,dq bU 0 0 7,ao e4,am fun c=>aK rfl aI ak (c.q 1) (hT.at ab.ext).tl.sl.sl (c.q 2) (by omega) (by omega),am fun c=>cM (vs:=(tc (nth t.kids (k:Int)))) rfl aD ak (c.q 3) rfl (fun _ _ hj=>((hT.at (ab.ext.trans c.J.ext)).tl.sl).elem (bo (i:=(k:Int)) (by omega) (by omega)) hj),dR fun c=>⟨_,_,(bj rfl rfl Tryz.call68 (c.q 4)),ih _ (cG (by omega) (by omega)) _ ((hT.at (ab.ext.trans c.J.ext)).tl.el (by omega) (by omega)) (by omega)⟩,am fun c=>dP rfl (c.q 5),ax⟩ fun ac ag ae ab aa=> ?_);obtain ⟨e1,e3,e4,e14⟩:=aa.k4 e1 e3 e4 e14;have e23:=aa.V 6;replace r0:=aa.B 0;refine wp_cond_split e23 (fun hc2=> ?_) (fun hc2=> ?_)
   · have hd2:=hc2;try simp only [aB,az] at hd2
     refine wp_seq (en ab [jb r0] ⟨am fun c=>au rfl rfl,ax⟩ fun ac ag ae ab aa=> ?_);obtain ⟨e1,e3,e4,e14,e23⟩:=aa.k5 e1 e3 e4 e14 e23;have e2:=aa.V 0;replace r0:=aa.B 0;refine wp_ret ?_;refine rp ?_;refine cC (fn:=Tryz.f68) rfl ab.defers e2 ?_;exact ⟨congrArg _ (congrArg _ (by first | exact qz (k:=k) (by omega) (by assumption) | exact dX (k:=k) q_1 (by omega) (nX (k:=j) (by omega) (by omega) (by assumption)) | exact dX (k:=k) q_1 (by omega) (nY (k:=j) (by omega) (by omega) (by assumption)) | exact dX (k:=k) q1 (by omega) (by unfold cq;(repeat (first | rw [if_neg (by omega)] | rw [if_pos (by omega)]));(try rfl)))),ab.ext0⟩
   have hd2:=hc2;try simp only [aB,az] at hd2
   refine wp_skip ?_;show _;refine eI ab [jb r0] ⟨ao e4,am fun c=>cP rfl (c.q 0) rfl (by omega),aG 1,ax⟩ fun ac ag ae ab aa=> ?_;obtain ⟨e1,e3,e14,e23⟩:=aa.k4 e1 e3 e14 e23;have e4:=aa.V 2;replace r0:=aa.B 0;refine ⟨⟨k+1,ae,?_,?_,ab,(e4.trans (bh (by omega))),e1,e3,r0⟩,?_⟩
   · omega
   · exact Ay (by omega) q1 (by simpa using (by assumption:(!gL (nth t.kids (k:Int)))=false))
   · simp only [m4,e4,intOf];omega
 try simp only [ah,aX] at hc1
 refine wp_exit ?_;repeat (with_reducible refine ce ?_)
 refine ci ?_;refine wp_seq ?_;refine wp_seq (es ab [jb r0] ⟨cb aq ar e1 r0.ptr,dq aC 0 0 0,ax⟩ fun ac ag ae ab aa=> ?_);obtain ⟨e1,e3⟩:=aa.k2 e1 e3;have e25:=aa.V 1;replace r0:=aa.B 0;refine wp_block ?_;refine wp_seq (es ab [jb r0] ⟨am fun c=>bV rfl (c.p e25) rfl,aG 0,ax⟩ fun ac ag ae ab aa=> ?_);obtain ⟨e1,e3,e25⟩:=aa.k3 e1 e3 e25;have e26:=aa.V 1;replace r0:=aa.B 0;refine wp_cond_split e26 (fun hc3=> ?_) (fun hc3=> ?_)
 · try simp only [ai] at hc3
   refine wp_seq ?_;refine wp_seq ?_;have q_1:=q1;refine en ab [jb r0] ⟨am fun c=>au rfl rfl,ax⟩ fun ac ag ae ab aa=> ?_;obtain ⟨e1,e3,e25⟩:=aa.k3 e1 e3 e25;have e5:=aa.V 0;replace r0:=aa.B 0;refine wp_block ?_;refine wp_loop (fun a_ w_=>∃(j:Nat) (τ:Nat→aQ),(j≤t.kids.length)∧
          (∀y ∈ t.kids.take j,(decide (y.k=0) || decide (y.k=1))=false)∧
          St (Nw w) w 131 a_ w_ τ∧
          aU a_ 5=(aj (j:Int))∧
          aU a_ 1=b1x1∧
          aU a_ 3=(aj (t.kids.length:Int))∧
          aU a_ 25=(aj t.k)∧
          cd 25 (tc t) (τ 0) b1x1 w_) (fun a_ _=>t.kids.length - (intOf (aU a_ 5)).toNat) ?_ ?_
   · refine ⟨0,ae,?_,?_,ab,(e5.trans (bh (by omega))),e1,e3,e25,r0⟩
     · omega
     · simp
   intro a12 w12 hI;obtain ⟨j,τ12,q0,q1,st12,e5,e1,e3,e25,r0⟩:=hI;have m5:=e5;refine wp_seq ?_;refine wp_seq (zi [0,0,3] st12 [jb r0] ⟨ao e5,ao e3,am fun c=>df rfl (c.q 0) (c.q 1),ax⟩ fun ac ag ae ab aa=> ?_);obtain ⟨e1,e3,e5,e25⟩:=aa.k4 e1 e3 e5 e25;have e30:=aa.V 2;replace r0:=aa.B 0;refine wp_cond_split e30 (fun hc4=> ?_) (fun hc4=> ?_)
   · try simp only [ai] at hc4
     refine wp_skip ?_;refine wp_seq ?_;refine wp_block ?_;refine wp_seq ?_;refine rg [_,_,_,_,_,_,_,_,_,_,_,_,_,_,_,_] [0,1,0,7,15,31,63,127,255,511,255,2047,4095,8191,16383,32767] ab [jb r0] ⟨cb aq bC e1 r0.ptr,dq bU 0 0 7,ao e5,am fun c=>aK rfl aI ak (c.q 1) (hT.at ab.ext).tl.sl.sl (c.q 2) (by omega) (by omega),br aq ar 3 rfl,am fun c=>ay rfl aC (c.q 4) (((hT.at (ab.ext.trans c.J.ext)).tl.sl).elem (j:=0) (bo (i:=(j:Int)) (by omega) (by omega)) rfl),am fun c=>bV rfl (c.q 5) rfl,bq 6,bu 7 rfl fun c hpc=>cF rfl aq bC ((c.p e1).trans r0.ptr),bu 7 rfl fun c hpc=>ay rfl bU (c.M 8 hpc) ((c.B 0).cell (j:=7) rfl),bu 7 rfl fun c hpc=>aJ rfl (c.p e5),bu 7 rfl fun c hpc=>aK rfl aI ak (c.M 9 hpc) (hT.at ab.ext).tl.sl.sl (c.M 10 hpc) (by have hq0:=bn hpc;omega) (by have hq0:=bn hpc;omega),bu 7 rfl fun c hpc=>cF rfl aq ar (c.M 11 hpc),bu 7 rfl fun c hpc=>ay rfl aC (c.M 12 hpc) (((hT.at (ab.ext.trans c.J.ext)).tl.sl).elem (j:=0) (bo (i:=(j:Int)) (by have hq0:=bn hpc;omega) (by have hq0:=bn hpc;omega)) rfl),bu 7 rfl fun c hpc=>bV rfl (c.M 13 hpc) rfl,dw 7 14,ax⟩ fun ac ag ae ab aa=> ?_;obtain ⟨e1,e3,e5,e25,e30⟩:=aa.k5 e1 e3 e5 e25 e30;have e48:=aa.V 15;replace r0:=aa.B 0;refine wp_cond_split e48 (fun hc5=> ?_) (fun hc5=> ?_)
     · have hd5:=hc5;try simp only [aO,ai] at hd5
       refine wp_seq (en ab [jb r0] ⟨am fun c=>au rfl rfl,ax⟩ fun ac ag ae ab aa=> ?_);obtain ⟨e1,e3,e5,e25,e30,e48⟩:=aa.k6 e1 e3 e5 e25 e30 e48;have e2:=aa.V 0;replace r0:=aa.B 0;refine wp_ret ?_;refine rp ?_;refine cC (fn:=Tryz.f68) rfl ab.defers e2 ?_;exact ⟨congrArg _ (congrArg _ (by first | exact qz (k:=k) (by omega) (by assumption) | exact dX (k:=k) q_1 (by omega) (nX (k:=j) (by omega) (by omega) (by assumption)) | exact dX (k:=k) q_1 (by omega) (nY (k:=j) (by omega) (by omega) (by assumption)) | exact dX (k:=k) q1 (by omega) (by unfold cq;(repeat (first | rw [if_neg (by omega)] | rw [if_pos (by omega)]));(try rfl)))),ab.ext0⟩
     have hd5:=hc5;try simp only [aF,ah] at hd5
     refine wp_skip ?_;show _;refine eI ab [jb r0] ⟨ao e5,am fun c=>cP rfl (c.q 0) rfl (by omega),aG 1,ax⟩ fun ac ag ae ab aa=> ?_;obtain ⟨e1,e3,e25,e30,e48⟩:=aa.k5 e1 e3 e25 e30 e48;have e5:=aa.V 2;replace r0:=aa.B 0;refine ⟨⟨j+1,ae,?_,?_,ab,(e5.trans (bh (by omega))),e1,e3,e25,r0⟩,?_⟩
     · omega
     · exact qw (f:=fun y:Tr=>decide (y.k=0) || decide (y.k=1)) (by omega) q1 (by assumption)
     · simp only [m5,e5,intOf];omega
   try simp only [ah,aX] at hc4
   refine wp_exit ?_;repeat (with_reducible refine ce ?_)
   refine ci ?_;refine wp_seq (vN ab [jb r0] ⟨am fun c=>eA rfl aD ak ((c.p e1).trans r0.ptr) (c.B 0),dR fun c=>⟨_,_,(bj rfl rfl ge (c.q 0)),gQ t.k t.ch t.ng t.rv.v t.rows t.mn t.mx t.lz t.kv.v rfl _ (hT.at (ab.ext.trans c.J.ext)).rows⟩,bq 1,aE 2 rfl fun c hpc=>aJ rfl (c.p e3),aE 2 rfl fun c hpc=>jn rfl (c.M 3 hpc) rfl,bN 2 4,aG 5,ax⟩ fun ac ag ae ab aa=> ?_);obtain ⟨e1,e3,e25⟩:=aa.k3 e1 e3 e25;have e2:=aa.V 6;replace r0:=aa.B 0;refine wp_ret ?_;refine rp ?_;refine cC (fn:=Tryz.f68) rfl ab.defers e2 ?_;exact ⟨congrArg _ (congrArg _ (by exact dX (k:=k) q_1 (by omega) (Az (k:=j) (by omega) (by omega) q1))),ab.ext0⟩
 try simp only [ah] at hc3
 refine wp_seq (es ab [jb r0] ⟨am fun c=>bV rfl (c.p e25) rfl,aG 0,ax⟩ fun ac ag ae ab aa=> ?_);obtain ⟨e1,e3,e25⟩:=aa.k3 e1 e3 e25;have e55:=aa.V 1;replace r0:=aa.B 0;refine wp_cond_split e55 (fun hc6=> ?_) (fun hc6=> ?_)
 · try simp only [ai] at hc6
   refine wp_seq ?_;refine wp_seq ?_;have q_1:=q1;refine en ab [jb r0] ⟨am fun c=>au rfl rfl,ax⟩ fun ac ag ae ab aa=> ?_;obtain ⟨e1,e3,e25⟩:=aa.k3 e1 e3 e25;have e6:=aa.V 0;replace r0:=aa.B 0;refine wp_block ?_;refine wp_loop (fun a_ w_=>∃(j:Nat) (τ:Nat→aQ),(j≤t.kids.length)∧
          (∀y ∈ t.kids.take j,decide (y.k=1)=false)∧
          St (Nw w) w 131 a_ w_ τ∧
          aU a_ 6=(aj (j:Int))∧
          aU a_ 1=b1x1∧
          aU a_ 3=(aj (t.kids.length:Int))∧
          aU a_ 25=(aj t.k)∧
          cd 25 (tc t) (τ 0) b1x1 w_) (fun a_ _=>t.kids.length - (intOf (aU a_ 6)).toNat) ?_ ?_
   · refine ⟨0,ae,?_,?_,ab,(e6.trans (bh (by omega))),e1,e3,e25,r0⟩
     · omega
     · simp
   intro a20 w20 hI;obtain ⟨j,τ20,q0,q1,st20,e6,e1,e3,e25,r0⟩:=hI;have m6:=e6;refine wp_seq ?_;refine wp_seq (zi [0,0,3] st20 [jb r0] ⟨ao e6,ao e3,am fun c=>df rfl (c.q 0) (c.q 1),ax⟩ fun ac ag ae ab aa=> ?_);obtain ⟨e1,e3,e6,e25⟩:=aa.k4 e1 e3 e6 e25;have e59:=aa.V 2;replace r0:=aa.B 0;refine wp_cond_split e59 (fun hc7=> ?_) (fun hc7=> ?_)
   · try simp only [ai] at hc7
     refine wp_skip ?_;refine wp_seq ?_;refine wp_block ?_;refine wp_seq (sc [0,1,0,7,15,31,63] ab [jb r0] ⟨cb aq bC e1 r0.ptr,dq bU 0 0 7,ao e6,am fun c=>aK rfl aI ak (c.q 1) (hT.at ab.ext).tl.sl.sl (c.q 2) (by omega) (by omega),br aq ar 3 rfl,am fun c=>ay rfl aC (c.q 4) (((hT.at (ab.ext.trans c.J.ext)).tl.sl).elem (j:=0) (bo (i:=(j:Int)) (by omega) (by omega)) rfl),am fun c=>bV rfl (c.q 5) rfl,ax⟩ fun ac ag ae ab aa=> ?_);obtain ⟨e1,e3,e6,e25,e59⟩:=aa.k5 e1 e3 e6 e25 e59;have e68:=aa.V 6;replace r0:=aa.B 0;refine wp_cond_split e68 (fun hc8=> ?_) (fun hc8=> ?_)
     · have hd8:=hc8;try simp only [ai] at hd8
       refine wp_seq (en ab [jb r0] ⟨am fun c=>au rfl rfl,ax⟩ fun ac ag ae ab aa=> ?_);obtain ⟨e1,e3,e6,e25,e59,e68⟩:=aa.k6 e1 e3 e6 e25 e59 e68;have e2:=aa.V 0;replace r0:=aa.B 0;refine wp_ret ?_;refine rp ?_;refine cC (fn:=Tryz.f68) rfl ab.defers e2 ?_;exact ⟨congrArg _ (congrArg _ (by first | exact qz (k:=k) (by omega) (by assumption) | exact dX (k:=k) q_1 (by omega) (nX (k:=j) (by omega) (by omega) (by assumption)) | exact dX (k:=k) q_1 (by omega) (nY (k:=j) (by omega) (by omega) (by assumption)) | exact dX (k:=k) q1 (by omega) (by unfold cq;(repeat (first | rw [if_neg (by omega)] | rw [if_pos (by omega)]));(try rfl)))),ab.ext0⟩
     have hd8:=hc8;try simp only [ah] at hd8
     refine wp_skip ?_;show _;refine eI ab [jb r0] ⟨ao e6,am fun c=>cP rfl (c.q 0) rfl (by omega),aG 1,ax⟩ fun ac ag ae ab aa=> ?_;obtain ⟨e1,e3,e25,e59,e68⟩:=aa.k5 e1 e3 e25 e59 e68;have e6:=aa.V 2;replace r0:=aa.B 0;refine ⟨⟨j+1,ae,?_,?_,ab,(e6.trans (bh (by omega))),e1,e3,e25,r0⟩,?_⟩
     · omega
     · exact qw (f:=fun y:Tr=>decide (y.k=1)) (by omega) q1 (by assumption)
     · simp only [m6,e6,intOf];omega
   try simp only [ah,aX] at hc7
   refine wp_exit ?_;repeat (with_reducible refine ce ?_)
   refine ci ?_;refine wp_seq (vN ab [jb r0] ⟨am fun c=>eA rfl aD ak ((c.p e1).trans r0.ptr) (c.B 0),dR fun c=>⟨_,_,(bj rfl rfl ge (c.q 0)),gQ t.k t.ch t.ng t.rv.v t.rows t.mn t.mx t.lz t.kv.v rfl _ (hT.at (ab.ext.trans c.J.ext)).rows⟩,bq 1,aE 2 rfl fun c hpc=>aJ rfl (c.p e3),aE 2 rfl fun c hpc=>gF rfl (c.M 3 hpc) rfl,bN 2 4,aG 5,ax⟩ fun ac ag ae ab aa=> ?_);obtain ⟨e1,e3,e25⟩:=aa.k3 e1 e3 e25;have e2:=aa.V 6;replace r0:=aa.B 0;refine wp_ret ?_;refine rp ?_;refine cC (fn:=Tryz.f68) rfl ab.defers e2 ?_;exact ⟨congrArg _ (congrArg _ (by exact dX (k:=k) q_1 (by omega) (AA (k:=j) (by omega) (by omega) q1))),ab.ext0⟩
 try simp only [ah] at hc6
 refine wp_seq (es ab [jb r0] ⟨am fun c=>bV rfl (c.p e25) rfl,aG 0,ax⟩ fun ac ag ae ab aa=> ?_);obtain ⟨e1,e3,e25⟩:=aa.k3 e1 e3 e25;have e75:=aa.V 1;replace r0:=aa.B 0;refine wp_cond_split e75 (fun hc9=> ?_) (fun hc9=> ?_)
 · try simp only [ai] at hc9
   refine wp_seq (eI ab [jb r0] ⟨cb aq aZ e1 r0.ptr,dq bG 0 0 1,aG 1,ax⟩ fun ac ag ae ab aa=> ?_);obtain ⟨e1,e3,e25⟩:=aa.k3 e1 e3 e25;have e7:=aa.V 2;replace r0:=aa.B 0;refine wp_seq (es ab [jb r0] ⟨cb aq aZ e1 r0.ptr,ct (cx:=[(aj t.k),(aS (⟨#[]⟩:ByteArray)),(aA t.ng),t.rv.v,(aj t.mn),(aj t.mx),(aA t.lz),t.kv.v]) (v:=(aS (⟨#[]⟩:ByteArray))) aZ fun c=>⟨c.bp 0 rfl e1,c.ad (c.q 0) e1 rfl,rfl⟩,ax⟩ fun ac ag ae ab aa=> ?_);obtain ⟨e1,e3,e7,e25⟩:=aa.k4 e1 e3 e7 e25;replace r0:=aa.RB 1 e1;refine wp_seq ?_;refine qk [0,1,3,7,15,31,63,127,255,511,1023] ab [jb r0] ⟨am fun c=>eA rfl aD ak ((c.p e1).trans r0.ptr) (c.B 0),dR fun c=>⟨_,_,(bj rfl rfl ge (c.q 0)),gQ t.k (⟨#[]⟩:ByteArray) t.ng t.rv.v t.rows t.mn t.mx t.lz t.kv.v rfl _ (hT.at (ab.ext.trans c.J.ext)).rows⟩,bq 1,aE 2 rfl fun c hpc=>aJ rfl (c.p e3),aE 2 rfl fun c hpc=>bV rfl (c.M 3 hpc) rfl,bN 2 4,bq 5,aE 6 rfl fun c hpc=>aJ rfl (c.p e7),fx 6 true rfl fun c hpc=>⟨_,_,(bj rfl rfl kA (c.M 7 hpc)),jM t.ch _ (by have hq0:=hpc;(try simp only [av,ai] at hq0);omega)⟩,bN 6 8,aG 9,ax⟩ fun ac ag ae ab aa=> ?_;obtain ⟨e1,e3,e25⟩:=aa.k3 e1 e3 e25;have e2:=aa.V 10;replace r0:=aa.B 0;refine wp_ret ?_;refine rp ?_;refine cC (fn:=Tryz.f68) rfl ab.defers e2 ?_;exact ⟨congrArg _ (congrArg _ (by exact dX (k:=k) q1 (by omega) (by unfold cq;(repeat (first | rw [if_neg (by omega)] | rw [if_pos (by omega)]));(try rfl)))),ab.ext0⟩
 try simp only [ah] at hc9
 refine wp_seq ?_;refine wp_seq (es ab [jb r0] ⟨am fun c=>bV rfl (c.p e25) rfl,aG 0,ax⟩ fun ac ag ae ab aa=> ?_);obtain ⟨e1,e3,e25⟩:=aa.k3 e1 e3 e25;have e90:=aa.V 1;replace r0:=aa.B 0;refine wp_cond_split e90 (fun hc10=> ?_) (fun hc10=> ?_)
 · have hd10:=hc10;try simp only [ai] at hd10
   refine wp_skip ?_;refine wp_cond_true (e90.trans (congrArg _ hc10)) ?_;refine wp_seq (vN ab [jb r0] ⟨am fun c=>eA rfl aD ak ((c.p e1).trans r0.ptr) (c.B 0),dR fun c=>⟨_,_,(bj rfl rfl ge (c.q 0)),gQ t.k t.ch t.ng t.rv.v t.rows t.mn t.mx t.lz t.kv.v rfl _ (hT.at (ab.ext.trans c.J.ext)).rows⟩,bq 1,aE 2 rfl fun c hpc=>aJ rfl (c.p e3),aE 2 rfl fun c hpc=>bV rfl (c.M 3 hpc) rfl,bN 2 4,aG 5,ax⟩ fun ac ag ae ab aa=> ?_);obtain ⟨e1,e3,e25⟩:=aa.k3 e1 e3 e25;have e2:=aa.V 6;replace r0:=aa.B 0;refine wp_ret ?_;refine rp ?_;refine cC (fn:=Tryz.f68) rfl ab.defers e2 ?_;exact ⟨congrArg _ (congrArg _ (by exact dX (k:=k) q1 (by omega) (by unfold cq;(repeat (first | rw [if_neg (by omega)] | rw [if_pos (by omega)]));(try rfl)))),ab.ext0⟩
 have hd11:=hc10;try simp only [ah] at hd11
 refine wp_seq (es ab [jb r0] ⟨am fun c=>bV rfl (c.p e25) rfl,aG 0,ax⟩ fun ac ag ae ab aa=> ?_);obtain ⟨e1,e3,e25⟩:=aa.k3 e1 e3 e25;have e90:=aa.V 1;replace r0:=aa.B 0;refine wp_cond_split e90 (fun hc12=> ?_) (fun hc12=> ?_)
 · have hd12:=hc12;try simp only [ai] at hd12
   refine wp_skip ?_;refine wp_cond_true (e90.trans (congrArg _ hc12)) ?_;refine wp_seq (vN ab [jb r0] ⟨am fun c=>eA rfl aD ak ((c.p e1).trans r0.ptr) (c.B 0),dR fun c=>⟨_,_,(bj rfl rfl ge (c.q 0)),gQ t.k t.ch t.ng t.rv.v t.rows t.mn t.mx t.lz t.kv.v rfl _ (hT.at (ab.ext.trans c.J.ext)).rows⟩,bq 1,aE 2 rfl fun c hpc=>aJ rfl (c.p e3),aE 2 rfl fun c hpc=>bV rfl (c.M 3 hpc) rfl,bN 2 4,aG 5,ax⟩ fun ac ag ae ab aa=> ?_);obtain ⟨e1,e3,e25⟩:=aa.k3 e1 e3 e25;have e2:=aa.V 6;replace r0:=aa.B 0;refine wp_ret ?_;refine rp ?_;refine cC (fn:=Tryz.f68) rfl ab.defers e2 ?_;exact ⟨congrArg _ (congrArg _ (by exact dX (k:=k) q1 (by omega) (by unfold cq;(repeat (first | rw [if_neg (by omega)] | rw [if_pos (by omega)]));(try rfl)))),ab.ext0⟩
 have hd13:=hc12;try simp only [ah] at hd13
 refine wp_seq (es ab [jb r0] ⟨am fun c=>bV rfl (c.p e25) rfl,aG 0,ax⟩ fun ac ag ae ab aa=> ?_);obtain ⟨e1,e3,e25⟩:=aa.k3 e1 e3 e25;have e90:=aa.V 1;replace r0:=aa.B 0;refine wp_cond_split e90 (fun hc14=> ?_) (fun hc14=> ?_)
 · have hd14:=hc14;try simp only [ai] at hd14
   refine wp_skip ?_;refine wp_cond_true (e90.trans (congrArg _ hc14)) ?_;refine wp_seq (vN ab [jb r0] ⟨am fun c=>eA rfl aD ak ((c.p e1).trans r0.ptr) (c.B 0),dR fun c=>⟨_,_,(bj rfl rfl ge (c.q 0)),gQ t.k t.ch t.ng t.rv.v t.rows t.mn t.mx t.lz t.kv.v rfl _ (hT.at (ab.ext.trans c.J.ext)).rows⟩,bq 1,aE 2 rfl fun c hpc=>aJ rfl (c.p e3),aE 2 rfl fun c hpc=>bV rfl (c.M 3 hpc) rfl,bN 2 4,aG 5,ax⟩ fun ac ag ae ab aa=> ?_);obtain ⟨e1,e3,e25⟩:=aa.k3 e1 e3 e25;have e2:=aa.V 6;replace r0:=aa.B 0;refine wp_ret ?_;refine rp ?_;refine cC (fn:=Tryz.f68) rfl ab.defers e2 ?_;exact ⟨congrArg _ (congrArg _ (by exact dX (k:=k) q1 (by omega) (by unfold cq;(repeat (first | rw [if_neg (by omega)] | rw [if_pos (by omega)]));(try rfl)))),ab.ext0⟩
 have hd15:=hc14;try simp only [ah] at hd15
 refine wp_seq (es ab [jb r0] ⟨am fun c=>bV rfl (c.p e25) rfl,aG 0,ax⟩ fun ac ag ae ab aa=> ?_);obtain ⟨e1,e3,e25⟩:=aa.k3 e1 e3 e25;have e90:=aa.V 1;replace r0:=aa.B 0;refine wp_cond_split e90 (fun hc16=> ?_) (fun hc16=> ?_)
 · have hd16:=hc16;try simp only [ai] at hd16
   refine wp_skip ?_;refine wp_cond_true (e90.trans (congrArg _ hc16)) ?_;refine wp_seq (vN ab [jb r0] ⟨am fun c=>eA rfl aD ak ((c.p e1).trans r0.ptr) (c.B 0),dR fun c=>⟨_,_,(bj rfl rfl ge (c.q 0)),gQ t.k t.ch t.ng t.rv.v t.rows t.mn t.mx t.lz t.kv.v rfl _ (hT.at (ab.ext.trans c.J.ext)).rows⟩,bq 1,aE 2 rfl fun c hpc=>aJ rfl (c.p e3),aE 2 rfl fun c hpc=>bV rfl (c.M 3 hpc) rfl,bN 2 4,aG 5,ax⟩ fun ac ag ae ab aa=> ?_);obtain ⟨e1,e3,e25⟩:=aa.k3 e1 e3 e25;have e2:=aa.V 6;replace r0:=aa.B 0;refine wp_ret ?_;refine rp ?_;refine cC (fn:=Tryz.f68) rfl ab.defers e2 ?_;exact ⟨congrArg _ (congrArg _ (by exact dX (k:=k) q1 (by omega) (by unfold cq;(repeat (first | rw [if_neg (by omega)] | rw [if_pos (by omega)]));(try rfl)))),ab.ext0⟩
 have hd17:=hc16;try simp only [ah] at hd17
 refine es ab [jb r0] ⟨am fun c=>bV rfl (c.p e25) rfl,aG 0,ax⟩ fun ac ag ae ab aa=> ?_;obtain ⟨e1,e3,e25⟩:=aa.k3 e1 e3 e25;have e90:=aa.V 1;replace r0:=aa.B 0;refine wp_cond_split e90 (fun hc18=> ?_) (fun hc18=> ?_)
 · have hd18:=hc18;try simp only [ai] at hd18
   refine wp_seq (vN ab [jb r0] ⟨am fun c=>eA rfl aD ak ((c.p e1).trans r0.ptr) (c.B 0),dR fun c=>⟨_,_,(bj rfl rfl ge (c.q 0)),gQ t.k t.ch t.ng t.rv.v t.rows t.mn t.mx t.lz t.kv.v rfl _ (hT.at (ab.ext.trans c.J.ext)).rows⟩,bq 1,aE 2 rfl fun c hpc=>aJ rfl (c.p e3),aE 2 rfl fun c hpc=>bV rfl (c.M 3 hpc) rfl,bN 2 4,aG 5,ax⟩ fun ac ag ae ab aa=> ?_);obtain ⟨e1,e3,e25⟩:=aa.k3 e1 e3 e25;have e2:=aa.V 6;replace r0:=aa.B 0;refine wp_ret ?_;refine rp ?_;refine cC (fn:=Tryz.f68) rfl ab.defers e2 ?_;exact ⟨congrArg _ (congrArg _ (by exact dX (k:=k) q1 (by omega) (by unfold cq;(repeat (first | rw [if_neg (by omega)] | rw [if_pos (by omega)]));(try rfl)))),ab.ext0⟩
 have hd18:=hc18;try simp only [ah] at hd18
 refine wp_seq (es ab [jb r0] ⟨am fun c=>bV rfl (c.p e25) rfl,aG 0,ax⟩ fun ac ag ae ab aa=> ?_);obtain ⟨e1,e3,e25⟩:=aa.k3 e1 e3 e25;have e102:=aa.V 1;replace r0:=aa.B 0;refine wp_cond_split e102 (fun hc19=> ?_) (fun hc19=> ?_)
 · try simp only [ai] at hc19
   refine wp_seq (eI ab [jb r0] ⟨cb aq eU e1 r0.ptr,dq jS 0 0 3,aG 1,ax⟩ fun ac ag ae ab aa=> ?_);obtain ⟨e1,e3,e25⟩:=aa.k3 e1 e3 e25;have e8:=aa.V 2;replace r0:=aa.B 0;refine wp_seq (es ab [jb r0] ⟨cb aq eU e1 r0.ptr,ct (cx:=[(aj t.k),(aS t.ch),(aA t.ng),(.slice none 0 0),(aj t.mn),(aj t.mx),(aA t.lz),t.kv.v]) (v:=(.slice none 0 0)) eU fun c=>⟨c.bp 0 rfl e1,c.ad (c.q 0) e1 rfl,rfl⟩,ax⟩ fun ac ag ae ab aa=> ?_);obtain ⟨e1,e3,e8,e25⟩:=aa.k4 e1 e3 e8 e25;replace r0:=aa.RB 1 e1;refine wp_seq (es ab [jb r0] ⟨cb aq bc e1 r0.ptr,ct (cx:=[(aj t.k),(aS t.ch),(aA false),(.slice none 0 0),(aj t.mn),(aj t.mx),(aA t.lz),t.kv.v]) (v:=(aA false)) bc fun c=>⟨c.bp 0 rfl e1,c.ad (c.q 0) e1 rfl,rfl⟩,ax⟩ fun ac ag ae ab aa=> ?_);obtain ⟨e1,e3,e8,e25⟩:=aa.k4 e1 e3 e8 e25;replace r0:=aa.RB 1 e1;refine wp_seq ?_;refine qk [0,1,3,7,15,31,63,127,255,511,1023] ab [jb r0] ⟨am fun c=>eA rfl aD ak ((c.p e1).trans r0.ptr) (c.B 0),dR fun c=>⟨_,_,(bj rfl rfl ge (c.q 0)),gQ t.k t.ch false (.slice none 0 0) [] t.mn t.mx t.lz t.kv.v rfl _ (SlT.nil _ _)⟩,bq 1,aE 2 rfl fun c hpc=>aJ rfl (c.p e3),aE 2 rfl fun c hpc=>bV rfl (c.M 3 hpc) rfl,bN 2 4,bq 5,aE 6 rfl fun c hpc=>aJ rfl (c.p e8),fx 6 true rfl fun c hpc=>⟨_,_,(bj rfl rfl Tryz.call87 (c.M 7 hpc)),yB t.rv.v t.rows _ (hT.at (ab.ext.trans c.J.ext)).rows (by first | assumption | (unfold pb;decide)) (by have hq0:=hpc;(try simp only [av,ai] at hq0);omega)⟩,bN 6 8,aG 9,ax⟩ fun ac ag ae ab aa=> ?_;obtain ⟨e1,e3,e25⟩:=aa.k3 e1 e3 e25;have e2:=aa.V 10;replace r0:=aa.B 0;refine wp_ret ?_;refine rp ?_;refine cC (fn:=Tryz.f68) rfl ab.defers e2 ?_;exact ⟨congrArg _ (congrArg _ (by exact dX (k:=k) q1 (by omega) (by unfold cq;(repeat (first | rw [if_neg (by omega)] | rw [if_pos (by omega)]));(try rfl)))),ab.ext0⟩
 try simp only [ah] at hc19
 refine wp_seq ?_;refine wp_seq (es ab [jb r0] ⟨am fun c=>bV rfl (c.p e25) rfl,aG 0,ax⟩ fun ac ag ae ab aa=> ?_);obtain ⟨e1,e3,e25⟩:=aa.k3 e1 e3 e25;have e118:=aa.V 1;replace r0:=aa.B 0;refine wp_cond_split e118 (fun hc20=> ?_) (fun hc20=> ?_)
 · have hd20:=hc20;try simp only [ai] at hd20
   refine wp_skip ?_;refine wp_cond_true (e118.trans (congrArg _ hc20)) ?_;refine wp_seq (vN ab [jb r0] ⟨am fun c=>eA rfl aD ak ((c.p e1).trans r0.ptr) (c.B 0),dR fun c=>⟨_,_,(bj rfl rfl ge (c.q 0)),gQ t.k t.ch t.ng t.rv.v t.rows t.mn t.mx t.lz t.kv.v rfl _ (hT.at (ab.ext.trans c.J.ext)).rows⟩,bq 1,aE 2 rfl fun c hpc=>aJ rfl (c.p e3),aE 2 rfl fun c hpc=>bV rfl (c.M 3 hpc) rfl,bN 2 4,aG 5,ax⟩ fun ac ag ae ab aa=> ?_);obtain ⟨e1,e25⟩:=aa.k2 e1 e25;have e2:=aa.V 6;replace r0:=aa.B 0;refine wp_ret ?_;refine rp ?_;refine cC (fn:=Tryz.f68) rfl ab.defers e2 ?_;exact ⟨congrArg _ (congrArg _ (by exact dX (k:=k) q1 (by omega) (by unfold cq;(repeat (first | rw [if_neg (by omega)] | rw [if_pos (by omega)]));(try rfl)))),ab.ext0⟩
 have hd21:=hc20;try simp only [ah] at hd21
 refine es ab [jb r0] ⟨am fun c=>bV rfl (c.p e25) rfl,aG 0,ax⟩ fun ac ag ae ab aa=> ?_;obtain ⟨e1,e3,e25⟩:=aa.k3 e1 e3 e25;have e118:=aa.V 1;replace r0:=aa.B 0;refine wp_cond_split e118 (fun hc22=> ?_) (fun hc22=> ?_)
 · have hd22:=hc22;try simp only [ai] at hd22
   refine wp_seq (vN ab [jb r0] ⟨am fun c=>eA rfl aD ak ((c.p e1).trans r0.ptr) (c.B 0),dR fun c=>⟨_,_,(bj rfl rfl ge (c.q 0)),gQ t.k t.ch t.ng t.rv.v t.rows t.mn t.mx t.lz t.kv.v rfl _ (hT.at (ab.ext.trans c.J.ext)).rows⟩,bq 1,aE 2 rfl fun c hpc=>aJ rfl (c.p e3),aE 2 rfl fun c hpc=>bV rfl (c.M 3 hpc) rfl,bN 2 4,aG 5,ax⟩ fun ac ag ae ab aa=> ?_);obtain ⟨e1,e25⟩:=aa.k2 e1 e25;have e2:=aa.V 6;replace r0:=aa.B 0;refine wp_ret ?_;refine rp ?_;refine cC (fn:=Tryz.f68) rfl ab.defers e2 ?_;exact ⟨congrArg _ (congrArg _ (by exact dX (k:=k) q1 (by omega) (by unfold cq;(repeat (first | rw [if_neg (by omega)] | rw [if_pos (by omega)]));(try rfl)))),ab.ext0⟩
 have hd22:=hc22;try simp only [ah] at hd22
 refine wp_seq (es ab [jb r0] ⟨am fun c=>bV rfl (c.p e25) rfl,aG 0,ax⟩ fun ac ag ae ab aa=> ?_);replace e1:=aa.k1 e1;have e127:=aa.V 1;replace r0:=aa.B 0;refine wp_cond_split e127 (fun hc23=> ?_) (fun hc23=> ?_)
 · try simp only [ai] at hc23
   refine wp_seq (eI ab [jb r0] ⟨am fun c=>eA rfl aD ak ((c.p e1).trans r0.ptr) (c.B 0),dR fun c=>⟨_,_,(bj rfl rfl Tryz.call88 (c.q 0)),vg t _ (hT.at (ab.ext.trans c.J.ext)) (by omega)⟩,aG 1,ax⟩ fun ac ag ae ab aa=> ?_);have e2:=aa.V 2;refine wp_ret ?_;refine rp ?_;refine cC (fn:=Tryz.f68) rfl ab.defers e2 ?_;exact ⟨congrArg _ (congrArg _ (by exact dX (k:=k) q1 (by omega) (FN (by omega)))),ab.ext0⟩
 try simp only [ah] at hc23
 refine wp_skip ?_;show _;refine wp_seq (en ab [jb r0] ⟨am fun c=>au rfl rfl,ax⟩ fun ac ag ae ab aa=> ?_);have e2:=aa.V 0;refine wp_ret ?_;refine rp ?_;refine cC (fn:=Tryz.f68) rfl ab.defers e2 ?_;exact ⟨congrArg _ (congrArg _ (by first | exact qz (k:=k) (by omega) (by assumption) | exact dX (k:=k) q_1 (by omega) (nX (k:=j) (by omega) (by omega) (by assumption)) | exact dX (k:=k) q_1 (by omega) (nY (k:=j) (by omega) (by omega) (by assumption)) | exact dX (k:=k) q1 (by omega) (by unfold cq;(repeat (first | rw [if_neg (by omega)] | rw [if_pos (by omega)]));(try rfl)))),ab.ext0⟩
theorem AB (t:Tr):∀(w:World),mc w t→fC t≤1000000→Calls Tryz.prog 68 #[t.v] w (fun e w'=>e= .returned (.bool (gL t))∧Ext aY w w'):=Tr.ind (P:=fun t=>∀(w:World),mc w t→fC t≤1000000→Calls Tryz.prog 68 #[t.v] w (fun e w'=>e= .returned (.bool (gL t))∧Ext aY w w')) vh t
set_option maxRecDepth 100000 in
theorem AC (t:Tr) (w:World) (hT:mc w t) (hP:fC t≤1000000):Calls Tryz.prog 42 #[(ta t)] w (fun e w'=>e= .returned (aA ((decide (cg t≤512)&&decide (eC t≤16))&&gL t))∧Ext aY w w'):=by
 refine enter (n:=15) Tryz.func42 rfl rfl (aw rfl) ?_;intro a0 τ0 ha st0;have e0:aU a0 0=(ta t):=ha 0 _ rfl;clear ha;have hwt:=ew t;refine wp_seq (rg [box _ _ 0 1 (tc t),_] [0,0] st0 [] ⟨fP (v:=(ta t)) rfl rfl rfl rfl rfl (fun _ _ _ _ c=>(c.p e0)),am fun c=>au rfl rfl,ax⟩ fun ac ag ae ab aa=> ?_);obtain ⟨b1x1,e1⟩:=gx ac 1;have e2:=aa.V 1;have r0:=aa.rb 0 e1 rfl;refine wp_seq ?_;refine rg [_,_,_,_,_,_,_,_,_,_,_,_,_] [0,1,3,7,15,31,63,127,255,511,1023,2047,4095] ab [jb r0] ⟨am fun c=>eA rfl aD ak ((c.p e1).trans r0.ptr) (c.B 0),dR fun c=>⟨_,_,(bj rfl rfl Tryz.call66 (c.q 0)),wr t _ (hT.at (ab.ext.trans c.J.ext)) (by omega)⟩,am fun c=>ke rfl (c.q 1) rfl,bq 2,aE 3 rfl fun c hpc=>eA rfl aD ak ((c.p e1).trans r0.ptr) (c.B 0),fx 3 true rfl fun c hpc=>⟨_,_,(bj rfl rfl Tryz.call67 (c.M 4 hpc)),yA t _ (hT.at (ab.ext.trans c.J.ext)) (by have hq0:=bt hpc;omega)⟩,aE 3 rfl fun c hpc=>ke rfl (c.M 5 hpc) rfl,bN 3 6,bq 7,aE 8 rfl fun c hpc=>eA rfl aD ak ((c.p e1).trans r0.ptr) (c.B 0),fx 8 true rfl fun c hpc=>⟨_,_,(bj rfl rfl Tryz.call68 (c.M 9 hpc)),AB t _ (hT.at (ab.ext.trans c.J.ext)) (by have hq0:=hpc;(try simp only [av,ai] at hq0);omega)⟩,bN 8 10,aG 11,ax⟩ fun ac ag ae ab aa=> ?_;have e2:=aa.V 12;refine wp_ret ?_;refine rp ?_;refine cC (fn:=Tryz.f42) rfl ab.defers e2 ?_;exact ⟨rfl,ab.ext0⟩
end
section
open Srt
theorem yD (t:Tr) (d:Int):(eC t≤d)↔(kK (t.kids.map eC)≤cY t d):=by
  rw [li];unfold cY;split <;> omega
theorem yE (t:Tr):∀n d:Int,0≤n→0≤d→(((cW t n d).2=true↔(cg t≤n∧eC t≤d∧gL t=true))∧((cW t n d).2=true→(cW t n d).1=n - cg t)):=by
  induction t using Tr.ind with
  | h t ih =>
    intro n d hn hd;have hK:∀ks:List Tr,(∀k ∈ ks,k ∈ t.kids)→∀m d:Int,0≤m→0≤d→(((iq (ks.map cW) m d).2=true↔(de (ks.map cg)≤m∧kK (ks.map eC)≤d∧ks.all gL=true))∧((iq (ks.map cW) m d).2=true→(iq (ks.map cW) m d).1=m - de (ks.map cg))):=by
      intro ks;induction ks with
      | nil => intro _ m d h h2; simp [iq, de, kK]; omega
      | cons k ks ih2 =>
        intro hm m d h h2;obtain ⟨i1,i2⟩:=ih k (hm k (by simp)) m d h h2;have hr:=nF k (n:=m) (d:=d) h;have hs:de ((k::ks).map cg)=cg k+de (ks.map cg):=by
          rw [show k::ks=[k]++ks from rfl,bT,jX];simp [de]
        have hx:∀d:Int,kK ((k::ks).map eC)≤d↔(eC k≤d∧kK (ks.map eC)≤d):=by
          intro d;constructor
          · intro hh;refine ⟨kP (qX (by simp)) hh,qu (kP (nr _) hh) fun x hx=>kP (qX (by simp at hx ⊢;exact .inr hx)) hh⟩
          · rintro ⟨h3,h4⟩
            refine qu (kP (nr _) h4) fun x hx=> ?_;simp at hx;rcases hx with rfl | ⟨q,hq,rfl⟩
            · exact h3
            · exact kP (qX (List.mem_map.2 ⟨q,hq,rfl⟩)) h4
        have hp:0≤de (ks.map cg):=iB fun x hx=>by
          obtain ⟨q,_,rfl⟩:=List.mem_map.1 hx;have:=iW q;omega
        rw [bw,iq,hs,hx];split
        · rename_i hf;have hf':=i2 hf;obtain ⟨g1,g2,g3⟩:=i1.1 hf;obtain ⟨j1,j2⟩:=ih2 (fun x hx=>hm x (by simp [hx])) (cW k m d).1 d hr.1 h2;rw [hf'] at j1 j2 ⊢;refine ⟨?_,fun hh=> ?_⟩
          · rw [j1,dK,g3,fE];constructor
            · rintro ⟨a,b,c⟩;exact ⟨by omega,⟨g2,b⟩,c⟩
            · rintro ⟨a,⟨_,b⟩,c⟩;exact ⟨by omega,b,c⟩
          · rw [j2 hh];omega
        · rename_i hf;refine ⟨⟨fun hh=>(by cases hh),fun ⟨a,b,c⟩=> ?_⟩,fun hh=>(by cases hh)⟩;rw [dK,av] at c;exact absurd (i1.2 ⟨by omega,b.1,c.1⟩) hf
    have hp:0≤de (t.kids.map cg):=iB fun x hx=>by
      obtain ⟨q,_,rfl⟩:=List.mem_map.1 hx;have:=iW q;omega
    have hx0:=nr (t.kids.map eC);rw [nE,jv,gD,yD];split
    · rename_i hc;refine ⟨⟨fun hh=>(by cases hh),fun ⟨a,b,c⟩=> ?_⟩,fun hh=>(by cases hh)⟩;rw [av] at c;simp [c.2] at hc;omega
    · rename_i hc;simp only [aO,ai,aB,not_or,aX,aT] at hc;obtain ⟨j1,j2⟩:=hK t.kids (fun _ h=>h) (n - 1) (cY t d) (by omega) (by omega);refine ⟨?_,fun hh=> ?_⟩
      · rw [j1,hc.2,Bool.and_true];constructor
        · rintro ⟨a,b,c⟩;exact ⟨by omega,b,c⟩
        · rintro ⟨a,b,c⟩;exact ⟨by omega,b,c⟩
      · rw [j2 hh];omega
def CH (t:Tr):Bool:=(decide (cg t≤512)&&decide (eC t≤16))&&gL t
theorem tS (t:Tr):(cW t 512 16).2=CH t:=by
  rw [eT,(yE t 512 16 (by omega) (by omega)).1];unfold CH;rw [av,av,ai,ai,and_assoc]
theorem ww (t:Tr):cq (er t)=cq t:=by
  have h1:∀f:Int→Bool,(er t).kids.any (fun x=>f x.k)=t.kids.any (fun x=>f x.k):=fun f=>by
    rw [mI,List.any_map];congr 1;funext x;simp [ym]
  have h2:(nth (er t).kids 0).k=(nth t.kids 0).k:=by
    rw [mI];cases hk:t.kids with
    | nil => rfl
    | cons x l =>
      show (nth (List.map er (x::l)) 0).k=x.k;rw [←ym x];rfl
  have h3:(er t).kids.length=t.kids.length:=by rw [mI];simp
  have h4:∀ks,oq (er t) ks=oq t ks:=fun ks=>h1 fun k=>ks.any fun y=>decide (k=y);have h5:lr (er t)=lr t:=by unfold lr;rw [oS]
  unfold cq;rw [h2,h3,h4,h4,h5];rw [oS]
theorem vi (t:Tr):cW (er t)=cW t:=oZ (fun t l=>by funext n d;rw [ww];unfold cY oH;rw [ym]) t
end
section
open Srt
def cE (cs:List ByteArray) (i:Nat):ByteArray:=if (cs.length:Int)≤(i:Int) then ⟨#[]⟩ else nth cs (i:Int)
def eQ (cs:List ByteArray) (i:Nat) (c:ByteArray):Bool:= !(decide ((cs.length:Int)≤(i:Int)) || (!(iA (nth cs (i:Int)) c)))
def tkN (cs:List ByteArray) (i:Nat) (c:ByteArray):Nat:=if eQ cs i c=true then i+1 else i
theorem jj {cs:List ByteArray} {i:Nat} {c:ByteArray} (h:eQ cs i c=true):tkN cs i c=i+1:=if_pos h
theorem kb {cs:List ByteArray} {i:Nat} {c:ByteArray} (h:eQ cs i c=false):tkN cs i c=i:=if_neg (by rw [h];decide)
theorem EI (cs:List ByteArray) (i:Nat) (c:ByteArray):tkN cs i c≤i+1∧i≤tkN cs i c:=by unfold tkN;split <;> omega
theorem gB {cs:List ByteArray} {i:Nat} {c:ByteArray} (h:eQ cs i c=true):i < cs.length:=by
  simp [eQ] at h;omega
theorem gZ {cs:List ByteArray} {i:Nat} (h:((cE cs i).size:Int)=1):i < cs.length:=by
  unfold cE at h;split at h
  · exact absurd h (by decide)
  · omega
theorem mU {cs:List ByteArray} {i:Nat} (h:iA (cE cs i) (⟨#[]⟩:ByteArray)=false):i < cs.length:=by
  unfold cE at h;split at h
  · exact absurd h (by decide+kernel)
  · omega
def tT (n:Int):Bool:=(decide (65≤n)&&decide (n≤90)) || (decide (97≤n)&&decide (n≤122))
def ko (n:Int):Bool:=decide (48≤n)&&decide (n≤57)
def hQ:Tr:=di 0 ⟨#[]⟩ false 0 0 false
def mV (ng:Bool) (rv:Sv) (rows:List Rw):Tr:=⟨4,⟨#[]⟩,ng,rv,rows,0,0,false,Sv.nil,[]⟩
theorem AD (ng:Bool) (rv:Sv) (rows:List Rw):er (mV ng rv rows)=mV ng Sv.nil rows:=by rw [oS];rfl
theorem FO {G Z:aQ} {w:World} {ng:Bool} {rv:Sv} {rows:List Rw} (h:(dE iG G rv.v rows).P Z w):(ii G (mV ng rv rows)).P Z w:=
  .mk h.1 h.2 (SlT.nil _ _) (fun h=>absurd rfl h) (fun k h=>by cases h)
def fA (c:ByteArray):ByteArray × Bool:=
  if iA c ⟨#[]⟩=true then (⟨#[]⟩,false) else if iA c ⟨#[110]⟩=true then (⟨#[10]⟩,true) else if iA c ⟨#[114]⟩=true then (⟨#[13]⟩,true) else if iA c ⟨#[116]⟩=true then (⟨#[9]⟩,true)
  else if iA c ⟨#[102]⟩=true then (⟨#[12]⟩,true) else if iA c ⟨#[118]⟩=true then (⟨#[11]⟩,true)
  else if (decide ((c.size:Int)=1)&&(tT (ca c 0) || ko (ca c 0)))=true then (⟨#[]⟩,false) else (c,true)
def ni (cs:List ByteArray):Nat→Int→Nat→Nat→Int × Nat × Nat
  | 0, n, m, i => (n, m, i)
  | f + 1, n, m, i => if ((decide ((m : Int) < 3) && decide (((cE cs i).size : Int) = 1)) && ko (ca (cE cs i) 0)) = true then ni cs f (n * 10 + (ca (cE cs i) 0 - 48)) (m + 1) (i + 1) else (n, m, i)
def cj (cs:List ByteArray) (i:Nat):Int × Nat × Nat:=ni cs 4 0 0 i
def jt (r:Int × Nat × Nat):Bool:=decide ((0:Int) < (r.2.1:Int))&&decide (r.1≤255)
theorem qA (cs:List ByteArray):∀(f:Nat) (n:Int) (m i:Nat),i≤(ni cs f n m i).2.2∧((ni cs f n m i).2.2≤cs.length∨(ni cs f n m i).2.2=i)
  | 0, n, m, i => ⟨bk _, .inr rfl⟩
  | f + 1, n, m, i => by
    rw [ni];split
    · rename_i h;simp only [av,ai] at h;have hlt:=gZ h.1.2;have:=qA cs f (n * 10+(ca (cE cs i) 0 - 48)) (m+1) (i+1);omega
    · exact ⟨bk _,.inr rfl⟩
theorem xG (cs:List ByteArray):∀(f:Nat) (n:Int) (m i:Nat),0≤n→m≤3→n < 10 ^ m→0≤(ni cs f n m i).1∧(ni cs f n m i).1 < 1000
  | 0, n, m, i => fun h0 hm h1 => ⟨h0, ld h1 (by
      show (10:Int) ^ m≤1000;match m,hm with
      | 0, _ => decide
      | 1, _ => decide
      | 2, _ => decide
      | 3, _ => decide)⟩
  | f + 1, n, m, i => fun h0 hm h1 => by
    rw [ni];split
    · rename_i h;simp only [av,ai,ko] at h;refine xG cs f _ (m+1) (i+1) (by omega) (by omega) ?_;rw [Int.pow_succ];omega
    · refine ⟨h0,ld h1 ?_⟩;match m,hm with
      | 0, _ => decide
      | 1, _ => decide
      | 2, _ => decide
      | 3, _ => decide
theorem tU (cs:List ByteArray) (i:Nat):0≤(cj cs i).1∧(cj cs i).1 < 1000:=xG cs 4 0 0 i (by decide) (by decide) (by decide)
def AE (x:Tr) (mn mx:Int) (lz:Bool):Tr:=fS 7 ⟨#[]⟩ false mn mx lz Sv.nil [x]
def kN (cs:List ByteArray) (x:Tr) (j:Nat) (mn mx:Int):Tr × Int × Nat:=(AE x mn mx (eQ cs j ⟨#[63]⟩),0,tkN cs j ⟨#[63]⟩)
def lU (cs:List ByteArray) (x:Tr) (mn mx:Int) (ok:Bool) (j:Nat):Tr × Int × Nat:=
  if ok=false then (hQ,10,j) else if eQ cs j ⟨#[125]⟩=false then (hQ,10,j) else if ((!decide (mx= -1))&&decide (mx < mn))=true then (hQ,10,j+1) else kN cs x (j+1) mn mx
def dN (cs:List ByteArray) (x:Tr) (i:Nat):Tr × Int × Nat:=
  if eQ cs i ⟨#[42]⟩=true then kN cs x (i+1) 0 (-1)
  else if eQ cs i ⟨#[43]⟩=true then kN cs x (i+1) 1 (-1)
  else if eQ cs i ⟨#[63]⟩=true then kN cs x (i+1) 0 1
  else if eQ cs i ⟨#[123]⟩=true then
    if jt (cj cs (i+1))=false then (hQ,10,(cj cs (i+1)).2.2)
    else if eQ cs (cj cs (i+1)).2.2 ⟨#[44]⟩=true then
      if iA (cE cs ((cj cs (i+1)).2.2+1)) ⟨#[125]⟩=false then lU cs x (cj cs (i+1)).1 (cj cs ((cj cs (i+1)).2.2+1)).1 (jt (cj cs ((cj cs (i+1)).2.2+1))) (cj cs ((cj cs (i+1)).2.2+1)).2.2
      else lU cs x (cj cs (i+1)).1 (-1) true ((cj cs (i+1)).2.2+1)
    else lU cs x (cj cs (i+1)).1 (cj cs (i+1)).1 true (cj cs (i+1)).2.2
  else (x,0,i)
def bI (cs:List ByteArray) (i:Nat):List Rw × ByteArray × Bool × Nat:=
  if (iA (cE cs i) ⟨#[]⟩ || iA (cE cs i) ⟨#[93]⟩)=true then ([],⟨#[]⟩,false,i)
  else if iA (cE cs i) ⟨#[92]⟩=false then ([],cE cs i,true,i+1)
  else if (decide (((cE cs (i+1)).size:Int)=1)&&hH (ca (cE cs (i+1)) 0))=true then (gv (ca (cE cs (i+1)) 0),⟨#[]⟩,true,i+2)
  else ([],(fA (cE cs (i+1))).1,(fA (cE cs (i+1))).2,i+2)
def iZ (cs:List ByteArray) (ng:Bool):Nat→Nat→List Rw→Tr × Int × Nat
  | 0, i, _ => (hQ, 99, i)
  | f + 1, i, rows =>
    if eQ cs i ⟨#[93]⟩=true then (mV ng Sv.nil (gu rows),0,i+1)
    else if (bI cs i).2.2.1=false then (hQ,10,(bI cs i).2.2.2)
    else if (0:Int) < ((bI cs i).1.length:Int) then iZ cs ng f (bI cs i).2.2.2 (rows++(bI cs i).1)
    else if ((iA (cE cs (bI cs i).2.2.2) ⟨#[45]⟩&&decide (((bI cs i).2.2.2:Int)+1 < (cs.length:Int)))&& !(iA (nth cs (((bI cs i).2.2.2:Int)+1)) ⟨#[93]⟩))=true then
      if (((!(bI cs ((bI cs i).2.2.2+1)).2.2.1) || decide ((0:Int) < ((bI cs ((bI cs i).2.2.2+1)).1.length:Int))) || nk (bI cs ((bI cs i).2.2.2+1)).2.1 (bI cs i).2.1)=true then (hQ,10,(bI cs ((bI cs i).2.2.2+1)).2.2.2)
      else iZ cs ng f (bI cs ((bI cs i).2.2.2+1)).2.2.2 (rows++ [((bI cs i).2.1,(bI cs ((bI cs i).2.2.2+1)).2.1)])
    else iZ cs ng f (bI cs i).2.2.2 (rows++ [((bI cs i).2.1,(bI cs i).2.1)])
def kp (cs:List ByteArray) (i:Nat):Tr × Int × Nat:=iZ cs (eQ cs i ⟨#[94]⟩) (cs.length+1) (tkN cs i ⟨#[94]⟩) []
def gO (cs:List ByteArray) (i:Nat):Tr × Int × Nat:=
  if (decide (((cE cs i).size:Int)=1)&&hH (ca (fO (cE cs i)) 0))=true then (mV (!(iA (cE cs i) (fO (cE cs i)))) Sv.nil (gv (ca (fO (cE cs i)) 0)),0,i+1)
  else if (fA (cE cs i)).2=false then (hQ,10,i)
  else (di 2 (fA (cE cs i)).1 false 0 0 false,0,i+1)
def EJ (c:ByteArray):Bool:=((((((iA c ⟨#[42]⟩ || iA c ⟨#[43]⟩) || iA c ⟨#[63]⟩) || iA c ⟨#[41]⟩) || iA c ⟨#[123]⟩) || iA c ⟨#[124]⟩) || (!(dS c)))
def dG (sub:Int→Nat→Tr × Int × Nat) (cs:List ByteArray) (d:Int) (i:Nat):Tr × Int × Nat:=
  if eQ cs i ⟨#[46]⟩=true then (di 3 ⟨#[]⟩ false 0 0 false,0,i+1)
  else if eQ cs i ⟨#[40]⟩=true then
    if 16≤d then (hQ,8,i+1)
    else if eQ cs (i+1) ⟨#[63]⟩=true then
      if eQ cs (i+2) ⟨#[58]⟩=false then (hQ,10,i+2)
      else if (sub (d+1) (i+3)).2.1≠0 then (hQ,(sub (d+1) (i+3)).2.1,(sub (d+1) (i+3)).2.2)
      else if eQ cs (sub (d+1) (i+3)).2.2 ⟨#[41]⟩=false then (hQ,10,(sub (d+1) (i+3)).2.2)
      else (fS 6 ⟨#[]⟩ false 0 0 false Sv.nil [(sub (d+1) (i+3)).1],0,(sub (d+1) (i+3)).2.2+1)
    else if (sub (d+1) (i+1)).2.1≠0 then (hQ,(sub (d+1) (i+1)).2.1,(sub (d+1) (i+1)).2.2)
    else if eQ cs (sub (d+1) (i+1)).2.2 ⟨#[41]⟩=false then (hQ,10,(sub (d+1) (i+1)).2.2)
    else (fS 5 ⟨#[]⟩ false 0 0 false Sv.nil [(sub (d+1) (i+1)).1],0,(sub (d+1) (i+1)).2.2+1)
  else if eQ cs i ⟨#[91]⟩=true then kp cs (i+1)
  else if eQ cs i ⟨#[92]⟩=true then gO cs (i+1)
  else if EJ (cE cs i)=true then (hQ,10,i)
  else (di 2 (cE cs i) false 0 0 false,0,i+1)
def sP (cs:List ByteArray) (i:Nat) (c:ByteArray):Bool:=(iA (cE cs i) ⟨#[92]⟩&&decide ((i:Int)+1 < (cs.length:Int)))&&iA (nth cs ((i:Int)+1)) c
def eX (sub:Int→Nat→Tr × Int × Nat) (cs:List ByteArray) (d:Int) (i:Nat):Tr × Int × Nat:=
  if eQ cs i ⟨#[94]⟩=true then (di 8 ⟨#[]⟩ false 0 0 false,0,i+1)
  else if eQ cs i ⟨#[36]⟩=true then (di 9 ⟨#[]⟩ false 0 0 false,0,i+1)
  else if sP cs i ⟨#[98]⟩=true then (di 10 ⟨#[]⟩ false 0 0 false,0,i+2)
  else if sP cs i ⟨#[66]⟩=true then (di 11 ⟨#[]⟩ false 0 0 false,0,i+2)
  else if (dG sub cs d i).2.1≠0 then (hQ,(dG sub cs d i).2.1,(dG sub cs d i).2.2)
  else dN cs (dG sub cs d i).1 (dG sub cs d i).2.2
def vj (cs:List ByteArray) (i:Nat):Bool:=(decide ((i:Int) < (cs.length:Int))&& !(iA (cE cs i) ⟨#[124]⟩))&& !(iA (cE cs i) ⟨#[41]⟩)
def eJ (cs:List ByteArray):Nat→Int→Nat→List Tr→List Tr→Tr × Int × Nat
  | 0, _, i, _, _ => (hQ, 99, i)
  | f + 1, d, i, alts, terms =>
    if vj cs i=true then
      if (eX (fun d j=>eJ cs f d j [] []) cs d i).2.1≠0 then (hQ,(eX (fun d j=>eJ cs f d j [] []) cs d i).2.1,(eX (fun d j=>eJ cs f d j [] []) cs d i).2.2)
      else eJ cs f d (eX (fun d j=>eJ cs f d j [] []) cs d i).2.2 alts (terms++ [(eX (fun d j=>eJ cs f d j [] []) cs d i).1])
    else if eQ cs i ⟨#[124]⟩=true then eJ cs f d (i+1) (alts++ [lj terms]) []
    else (me (alts++ [lj terms]),0,i)
def fh (s:ByteArray):Tr × Int:=
  if 256 < (s.size:Int) then (hQ,4)
  else if (eJ (cL s) ((cL s).length+1) 0 0 [] []).2.1≠0 then (hQ,(eJ (cL s) ((cL s).length+1) 0 0 [] []).2.1)
  else if ((eJ (cL s) ((cL s).length+1) 0 0 [] []).2.2:Int) < ((cL s).length:Int) then (hQ,10)
  else ((eJ (cL s) ((cL s).length+1) 0 0 [] []).1,0)
end
section
open Srt
theorem tV (cs:List ByteArray) (i:Nat) (c:ByteArray):i≤tkN cs i c∧(tkN cs i c≤cs.length∨tkN cs i c=i):=by
  unfold tkN;split
  · rename_i h;have:=gB h;omega
  · omega
theorem wx {c:ByteArray} (h:(fA c).2=true):iA c (⟨#[]⟩:ByteArray)=false:=by
  cases hz:iA c (⟨#[]⟩:ByteArray) with
  | false => rfl
  | true =>
    simp only [fA] at h;rw [if_pos hz] at h;cases h
theorem tW {cs:List ByteArray} {i:Nat} (h:(bI cs i).2.2.1=true):i < (bI cs i).2.2.2∧(bI cs i).2.2.2≤cs.length:=by
  unfold bI at h ⊢;split at h
  · cases h
  · rename_i h0;have hlt:i < cs.length:=by
      rw [aP,aF] at h0;exact mU h0.1
    rw [if_neg h0];split at h
    · rename_i h1;rw [if_pos h1];simp;omega
    · rename_i h1;rw [if_neg h1];split at h
      · rename_i h2;rw [if_pos h2];rw [av,ai] at h2;have:=gZ h2.1;simp;omega
      · rename_i h2;rw [if_neg h2];have:=mU (wx h);simp;omega
theorem nZ (cs:List ByteArray) (x:Tr) (j:Nat) (mn mx:Int):j≤(kN cs x j mn mx).2.2∧((kN cs x j mn mx).2.2≤cs.length∨(kN cs x j mn mx).2.2=j):=tV cs j _
theorem tX (cs:List ByteArray) (i:Nat):i≤(cj cs i).2.2∧((cj cs i).2.2≤cs.length∨(cj cs i).2.2=i):=qA cs 4 0 0 i
theorem tY {cs:List ByteArray} {x:Tr} {mn mx:Int} {ok:Bool} {j:Nat} (h:(lU cs x mn mx ok j).2.1=0):j≤(lU cs x mn mx ok j).2.2∧(lU cs x mn mx ok j).2.2≤cs.length:=by
  unfold lU at h ⊢;split at h
  · cases h
  · rename_i h1;rw [if_neg h1];split at h
    · cases h
    · rename_i h2;rw [if_neg h2];split at h
      · cases h
      · rename_i h3;rw [if_neg h3];have:=gB (by simpa using h2:eQ cs j ⟨#[125]⟩=true);have:=nZ cs x (j+1) mn mx;omega
theorem AF {cs:List ByteArray} {x:Tr} {i:Nat} (h:(dN cs x i).2.1=0):i≤(dN cs x i).2.2∧((dN cs x i).2.2≤cs.length∨(dN cs x i).2.2=i):=by
  have one:∀c,eQ cs i c=true→∀mn mx,i≤(kN cs x (i+1) mn mx).2.2∧((kN cs x (i+1) mn mx).2.2≤cs.length∨(kN cs x (i+1) mn mx).2.2=i):=fun c hc mn mx=>by
    have:=gB hc;have:=nZ cs x (i+1) mn mx;omega
  unfold dN at h ⊢;split
  · exact one _ (by assumption) _ _
  · split
    · exact one _ (by assumption) _ _
    · split
      · exact one _ (by assumption) _ _
      · split
        · rename_i h1 h2 h3 h4;rw [if_neg h1,if_neg h2,if_neg h3,if_pos h4] at h;have a1:=gB h4;have a2:=tX cs (i+1);split
          · rename_i h5;rw [if_pos h5] at h;cases h
          · rename_i h5;rw [if_neg h5] at h;split
            · rename_i h6;rw [if_pos h6] at h;have a3:=tX cs ((cj cs (i+1)).2.2+1);split
              · rename_i h7;rw [if_pos h7] at h;have:=tY h;omega
              · rename_i h7;rw [if_neg h7] at h;have:=tY h;omega
            · rename_i h6;rw [if_neg h6] at h;have:=tY h;omega
        · exact ⟨bk _,.inr rfl⟩
theorem qB {cs:List ByteArray} {ng:Bool}:∀(f i:Nat) (rows:List Rw),(iZ cs ng f i rows).2.1=0→i < (iZ cs ng f i rows).2.2∧(iZ cs ng f i rows).2.2≤cs.length
  | 0, i, rows, h => by cases h
  | f + 1, i, rows, h => by
    rw [iZ] at h ⊢;split
    · rename_i h1;have:=gB h1;simp;omega
    · rename_i h1;rw [if_neg h1] at h;split
      · rename_i h2;rw [if_pos h2] at h;cases h
      · rename_i h2;rw [if_neg h2] at h;have a1:=tW (by simpa using h2:(bI cs i).2.2.1=true);split
        · rename_i h3;rw [if_pos h3] at h;have:=qB f _ _ h;omega
        · rename_i h3;rw [if_neg h3] at h;split
          · rename_i h4;rw [if_pos h4] at h;split
            · rename_i h5;rw [if_pos h5] at h;cases h
            · rename_i h5;rw [if_neg h5] at h;have h6:(bI cs ((bI cs i).2.2.2+1)).2.2.1=true:=by
                rw [aP,aF,aF,az] at h5;exact h5.1.1
              have a2:=tW h6;have:=qB f _ _ h;omega
          · rename_i h4;rw [if_neg h4] at h;have:=qB f _ _ h;omega
theorem wy {cs:List ByteArray} {i:Nat} (h:(kp cs i).2.1=0):i < (kp cs i).2.2∧(kp cs i).2.2≤cs.length:=by
  have a1:=qB _ _ _ h;have a2:=tV cs i (⟨#[94]⟩:ByteArray);unfold kp at h ⊢;omega
theorem tZ {cs:List ByteArray} {i:Nat} (h:(gO cs i).2.1=0):i < (gO cs i).2.2∧(gO cs i).2.2≤cs.length:=by
  unfold gO at h ⊢;split
  · rename_i h1;rw [av,ai] at h1;have:=gZ h1.1;simp;omega
  · rename_i h1;rw [if_neg h1] at h;split
    · rename_i h2;rw [if_pos h2] at h;cases h
    · rename_i h2;have:=mU (wx (by simpa using h2));simp;omega
def sQ (cs:List ByteArray) (sub:Int→Nat→Tr × Int × Nat):Prop:=∀(d2:Int) (j:Nat),(sub d2 j).2.1=0→j≤(sub d2 j).2.2∧((sub d2 j).2.2≤cs.length∨(sub d2 j).2.2=j)
theorem qC {sub:Int→Nat→Tr × Int × Nat} {cs:List ByteArray} {d:Int} {i:Nat} (hs:sQ cs sub) (h:(dG sub cs d i).2.1=0):i < (dG sub cs d i).2.2∧(dG sub cs d i).2.2≤cs.length:=by
  unfold dG at h ⊢;split
  · rename_i h1;have:=gB h1;simp;omega
  · rename_i h1;rw [if_neg h1] at h;split
    · rename_i h2;rw [if_pos h2] at h;have a2:=gB h2;split
      · rename_i h3;rw [if_pos h3] at h;cases h
      · rename_i h3;rw [if_neg h3] at h;split
        · rename_i h4;rw [if_pos h4] at h;split
          · rename_i h5;rw [if_pos h5] at h;cases h
          · rename_i h5;rw [if_neg h5] at h;split
            · rename_i h6;rw [if_pos h6] at h;exact absurd h h6
            · rename_i h6;rw [if_neg h6] at h;split
              · rename_i h7;rw [if_pos h7] at h;cases h
              · rename_i h7;have a3:=gB (by simpa using h7:eQ cs (sub (d+1) (i+3)).2.2 ⟨#[41]⟩=true);have a4:=hs (d+1) (i+3) (Classical.byContradiction h6);simp;omega
        · rename_i h4;rw [if_neg h4] at h;split
          · rename_i h6;rw [if_pos h6] at h;exact absurd h h6
          · rename_i h6;rw [if_neg h6] at h;split
            · rename_i h7;rw [if_pos h7] at h;cases h
            · rename_i h7;have a3:=gB (by simpa using h7:eQ cs (sub (d+1) (i+1)).2.2 ⟨#[41]⟩=true);have a4:=hs (d+1) (i+1) (Classical.byContradiction h6);simp;omega
    · rename_i h2;rw [if_neg h2] at h;split
      · rename_i h3;rw [if_pos h3] at h;have:=wy h;omega
      · rename_i h3;rw [if_neg h3] at h;split
        · rename_i h4;rw [if_pos h4] at h;have:=tZ h;omega
        · rename_i h4;rw [if_neg h4] at h;split
          · rename_i h5;rw [if_pos h5] at h;cases h
          · rename_i h5;have hne:iA (cE cs i) (⟨#[]⟩:ByteArray)=false:=by
              cases hz:iA (cE cs i) (⟨#[]⟩:ByteArray) with
              | false => rfl
              | true =>
                rw [qq.1 hz] at h5;exact absurd (by decide+kernel) h5
            have:=mU hne;simp;omega
theorem qD {cs:List ByteArray} {i:Nat} {c:ByteArray} (h:sP cs i c=true):i+1 < cs.length:=by
  unfold sP at h;simp only [av,ai] at h;omega
theorem ua {sub:Int→Nat→Tr × Int × Nat} {cs:List ByteArray} {d:Int} {i:Nat} (hs:sQ cs sub) (h:(eX sub cs d i).2.1=0):i < (eX sub cs d i).2.2∧(eX sub cs d i).2.2≤cs.length:=by
  unfold eX at h ⊢;split
  · rename_i h1;have:=gB h1;simp;omega
  · rename_i h1;rw [if_neg h1] at h;split
    · rename_i h2;have:=gB h2;simp;omega
    · rename_i h2;rw [if_neg h2] at h;split
      · rename_i h3;have:=qD h3;simp;omega
      · rename_i h3;rw [if_neg h3] at h;split
        · rename_i h4;have:=qD h4;simp;omega
        · rename_i h4;rw [if_neg h4] at h;split
          · rename_i h5;rw [if_pos h5] at h;exact absurd h h5
          · rename_i h5;rw [if_neg h5] at h;have a1:=qC hs (Classical.byContradiction h5);have a2:=AF h;omega
theorem nG (cs:List ByteArray):∀(f:Nat) (d:Int) (i:Nat) (alts terms:List Tr),(eJ cs f d i alts terms).2.1=0→i≤(eJ cs f d i alts terms).2.2∧((eJ cs f d i alts terms).2.2≤cs.length∨(eJ cs f d i alts terms).2.2=i)
  | 0, d, i, alts, terms, h => by cases h
  | f + 1, d, i, alts, terms, h => by
    have hs:sQ cs fun d j=>eJ cs f d j [] []:=fun d j hh=>nG cs f d j [] [] hh;rw [eJ] at h ⊢;split
    · rename_i h1;rw [if_pos h1] at h;split
      · rename_i h2;rw [if_pos h2] at h;exact absurd h h2
      · rename_i h2;rw [if_neg h2] at h;have a1:=ua hs (Classical.byContradiction h2);have:=nG cs f d _ _ _ h;omega
    · rename_i h1;rw [if_neg h1] at h;split
      · rename_i h2;rw [if_pos h2] at h;have a1:=gB h2;have:=nG cs f d _ _ _ h;omega
      · exact ⟨bk _,.inr rfl⟩
end
section
open Srt
def DX (x y:Int × Int):Bool:=decide (Ew x y < 0)
theorem CI (x y:Int × Int):Ew x y=if x.1 < y.1 then -1 else if y.1 < x.1 then 1 else if x.2 < y.2 then -1 else if y.2 < x.2 then 1 else 0:=by
  unfold Ew Gd Ev;by_cases h1:x.1 < y.1 <;> by_cases h2:y.1 < x.1 <;> by_cases h3:x.2 < y.2 <;> by_cases h4:y.2 < x.2 <;> simp [h1,h2,h3,h4,List.find?]
theorem oa (x y:Int × Int):DX x y=true↔x.1 < y.1∨(x.1=y.1∧x.2 < y.2):=by
  unfold DX;rw [CI,ai];split
  · constructor <;> intro _ <;> omega
  · split
    · constructor <;> intro _ <;> omega
    · split
      · constructor <;> intro _ <;> omega
      · split
        · constructor <;> intro _ <;> omega
        · constructor <;> intro _ <;> omega
def qE (acc:List (Int × Int)) (p:Int × Int):Bool:=decide (0≤(acc.length:Int) - 1)&&pG (nth acc ((acc.length:Int) - 1)) p
def mq (acc:List (Int × Int)) (p:Int × Int):List (Int × Int):=
  if qE acc p=true then acc.set ((acc.length:Int) - 1).toNat ((nth acc ((acc.length:Int) - 1)).1,max (nth acc ((acc.length:Int) - 1)).2 p.2) else acc++ [p]
def mZ (xs:List (Int × Int)):List (Int × Int):=xs.foldl mq []
theorem rH (xs:List (Int × Int)) (p:Int × Int):mZ (xs++ [p])=mq (mZ xs) p:=by simp [mZ]
theorem oL {p q:Int × Int}:pG p q=true↔max p.1 q.1≤min p.2 q.2:=by simp [pG]
theorem vk (A:List (Int × Int)) (l:Int × Int):nth (A++ [l]) (((A++ [l]).length:Int) - 1)=l:=
  tA (A:=A) (B:=[]) (by simp)
theorem pm (q:Int × Int):mq [] q=[q]:=by simp [mq,qE]
theorem ot (A:List (Int × Int)) (l q:Int × Int):mq (A++ [l]) q=if pG l q=true then A++ [(l.1,max l.2 q.2)] else A++ [l]++ [q]:=by
  have h1:qE (A++ [l]) q=pG l q:=by
    unfold qE;rw [vk,decide_eq_true (by simp),fE]
  unfold mq;rw [h1,vk];split
  · rw [show (((A++ [l]).length:Int) - 1).toNat=A.length by simp];simp
  · rfl
def xH (xs:List (Int × Int)) (y:Int):Prop:=∃p ∈ xs,2 * p.1≤y∧y≤2 * p.2
def Gs (xs:List (Int × Int)):Prop:=(∀p ∈ xs,p.1≤p.2)∧xs.Pairwise fun p q=>p.2 < q.1
theorem kq (xs ys:List (Int × Int)) (y:Int):xH (xs++ys) y↔xH xs y∨xH ys y:=by
  simp only [xH,List.mem_append];constructor
  · rintro ⟨p,hp | hp,h⟩
    · exact .inl ⟨p,hp,h⟩
    · exact .inr ⟨p,hp,h⟩
  · rintro (⟨p,hp,h⟩ | ⟨p,hp,h⟩)
    · exact ⟨p,.inl hp,h⟩
    · exact ⟨p,.inr hp,h⟩
theorem ub (p:Int × Int) (y:Int):xH [p] y↔2 * p.1≤y∧y≤2 * p.2:=by simp [xH]
theorem CJ {xs ys:List (Int × Int)} (h:∀p,p ∈ xs↔p ∈ ys) (y:Int):xH xs y↔xH ys y:=by
  simp only [xH,h]
theorem rI (ys:List (Int × Int)) (hs:oF DX ys) (ho:∀p ∈ ys,p.1≤p.2):
    Gs (mZ ys)∧(∀y,xH (mZ ys) y↔xH ys y)∧∀l ∈ mZ ys,∃p ∈ ys,l.1=p.1:=by
  induction ys using fj with
  | h0 => exact ⟨⟨fun p hp => by simp [mZ] at hp, by simp [mZ]⟩, fun y => Iff.rfl, fun l hl => by simp [mZ] at hl⟩
  | h1 ys q ih =>
    obtain ⟨hs1,_,hs2⟩:=List.pairwise_append.1 hs;obtain ⟨⟨i1,i2⟩,i3,i4⟩:=ih hs1 (fun p hp=>ho p (by simp [hp]));have hq:=ho q (by simp);have hle:∀l ∈ mZ ys,l.1≤q.1:=by
      intro l hl;obtain ⟨p,hp,e⟩:=i4 l hl;have:=hs2 p hp q (by simp);rw [←aP,oa] at this
      omega
    rw [rH];cases hys:mZ ys with
    | nil =>
      rw [hys] at i3;rw [pm];refine ⟨⟨by simpa using hq,by simp⟩,fun y=> ?_,fun l hl=>⟨q,by simp,by simp at hl;rw [hl]⟩⟩;rw [kq,←i3];simp [xH]
    | cons a l0 =>
      obtain ⟨A,l,e⟩:∃A l',a::l0=A++ [l']:=⟨(a::l0).dropLast,(a::l0).getLast (by simp),(List.dropLast_concat_getLast _).symm⟩;rw [hys,e] at i1 i2 i3 i4 hle;rw [e,ot];obtain ⟨j1,_,j2⟩:=List.pairwise_append.1 i2;have hl1:=hle l (by simp);have hl2:=i1 l (by simp);split
      · rename_i ht;rw [oL] at ht;refine ⟨⟨fun p hp=> ?_,List.pairwise_append.2 ⟨j1,by simp,fun p hp r hr=> ?_⟩⟩,fun y=> ?_,fun r hr=> ?_⟩
        · rcases List.mem_append.1 hp with hp | hp
          · exact i1 p (by simp [hp])
          · simp at hp;subst hp;show l.1≤max l.2 q.2;omega
        · simp at hr;subst hr;exact j2 p hp l (by simp)
        · rw [kq,kq,ub,ub,←i3,kq,ub];show _∨(2 * l.1≤y∧y≤2 * max l.2 q.2)↔_;constructor
          · rintro (h | h)
            · exact .inl (.inl h)
            · by_cases hy:y≤2 * l.2
              · exact .inl (.inr ⟨h.1,hy⟩)
              · exact .inr ⟨by omega,by omega⟩
          · rintro ((h | h) | h)
            · exact .inl h
            · exact .inr ⟨h.1,by omega⟩
            · exact .inr ⟨by omega,by omega⟩
        · rcases List.mem_append.1 hr with hr | hr
          · obtain ⟨p,hp,e⟩:=i4 r (by simp [hr]);exact ⟨p,by simp [hp],e⟩
          · simp at hr;subst hr;obtain ⟨p,hp,e⟩:=i4 l (by simp);exact ⟨p,by simp [hp],e⟩
      · rename_i ht;rw [oL] at ht;refine ⟨⟨fun p hp=> ?_,List.pairwise_append.2 ⟨i2,by simp,fun p hp r hr=> ?_⟩⟩,fun y=> ?_,fun r hr=> ?_⟩
        · rcases List.mem_append.1 hp with hp | hp
          · exact i1 p hp
          · simp at hp;subst hp;exact hq
        · simp at hr;subst hr;rcases List.mem_append.1 hp with hp | hp
          · have:=j2 p hp l (by simp);omega
          · simp at hp;subst hp;omega
        · rw [kq,kq ys,i3]
        · rcases List.mem_append.1 hr with hr | hr
          · obtain ⟨p,hp,e⟩:=i4 r hr;exact ⟨p,by simp [hp],e⟩
          · simp at hr;subst hr;exact ⟨r,by simp,rfl⟩
end
section
open Srt
theorem CK:Swo DX:=by
  constructor
  · intro x y h;rw [←aP,oa];rw [oa] at h;omega
  · intro x y z h1 h2;rw [←aP,oa] at h1 h2 ⊢;omega
section
variable {α β:Type} [Inhabited α] [Inhabited β]
omit [Inhabited α] [Inhabited β] in
theorem rJ {lt:α→α→Bool} {lt':β→β→Bool} {f:α→β} {x:α}:∀{ys:List α},(∀y ∈ ys,lt x y=lt' (f x) (f y))→(lR lt x ys).map f=lR lt' (f x) (ys.map f)
  | [], _ => rfl
  | y :: ys, h => by
    have h0:=h y (by simp);have ih:=rJ (lt:=lt) (lt':=lt') (f:=f) (x:=x) (ys:=ys) fun z hz=>h z (by simp [hz]);simp only [lR,bw];rw [←h0];split <;> simp [ih]
omit [Inhabited α] [Inhabited β] in
theorem CL {lt:α→α→Bool} {lt':β→β→Bool} {f:α→β} {x:α} {ys:List α} (h:∀y ∈ ys,lt x y=lt' (f x) (f y)):(zm lt x ys).map f=zm lt' (f x) (ys.map f):=by
  unfold zm;rw [List.map_reverse,rJ (lt':=lt') (f:=f) (fun y hy=>h y (by simpa using hy)),List.map_reverse]
omit [Inhabited α] [Inhabited β] in
theorem yF {lt:α→α→Bool} {lt':β→β→Bool} {f:α→β} {xs:List α} (h:∀x ∈ xs,∀y ∈ xs,lt x y=lt' (f x) (f y)):(eF lt xs).map f=eF lt' (xs.map f):=by
  induction xs using fj with
  | h0 => rfl
  | h1 xs x ih =>
    rw [lh,bT,bw,bP,lh,←ih fun a ha b hb=>h a (by simp [ha]) b (by simp [hb])];exact CL fun y hy=>h x (by simp) y (by simp [((mK (lt:=lt) xs).mem_iff).1 hy])
end
def In (S:List ByteArray) (p:Rw):Prop:=p.1 ∈ S∧p.2 ∈ S
def f2 (S:List ByteArray) (p:Rw):Int × Int:=(rk S p.1,rk S p.2)
theorem FP {S:List ByteArray} {p q:Rw} (hp:In S p) (hq:In S q):nu p q=DX (f2 S p) (f2 S q):=by
  rw [eT,xk,oa,qT hp.1 hq.1,qT hp.2 hq.2];constructor
  · rintro (h | ⟨e,h⟩)
    · exact .inl h
    · exact .inr ⟨by simp only [f2];rw [e],h⟩
  · rintro (h | ⟨e,h⟩)
    · exact .inl h
    · exact .inr ⟨Et hp.1 hq.1 e,h⟩
def Ok (S:List ByteArray) (xs:List Rw):Prop:=∀p ∈ xs,fa p=true∧In S p
theorem AG {S:List ByteArray} {p:Rw} (h:fa p=true∧In S p):(f2 S p).1≤(f2 S p).2:=by
  have:=h.1;unfold fa at this
  rw [av] at this
  exact (xe h.2.1 h.2.2).1 this.2
theorem EK {S:List ByteArray} {x y:ByteArray} (hx:x ∈ S) (hy:y ∈ S):rk S (qj x y)=max (rk S x) (rk S y):=(zO hx hy).2
theorem AH {S:List ByteArray} (ys:List Rw) (hok:Ok S ys) (hs:oF DX (ys.map (f2 S))):
    (gj ys).map (f2 S)=mZ (ys.map (f2 S))∧∀l ∈ gj ys,(∃p ∈ ys,l.1=p.1)∧∃p ∈ ys,l.2=p.2:=by
  induction ys using fj with
  | h0 => exact ⟨rfl, fun l hl => by simp [gj] at hl⟩
  | h1 ys q ih =>
    rw [bT,bw,bP] at hs ⊢;obtain ⟨hs1,_,hs2⟩:=List.pairwise_append.1 hs;have hok1:Ok S ys:=fun p hp=>hok p (by simp [hp]);obtain ⟨i1,i2⟩:=ih hok1 hs1;have hsp:=rI (ys.map (f2 S)) hs1 (fun p hp=>by obtain ⟨r,hr,rfl⟩:=List.mem_map.1 hp;exact AG (hok1 r hr));have hq:=hok q (by simp);have hin:∀l ∈ gj ys,In S l:=fun l hl=>by
      obtain ⟨⟨p,hp,e1⟩,r,hr,e2⟩:=i2 l hl;exact ⟨e1 ▸ (hok1 p hp).2.1,e2 ▸ (hok1 r hr).2.2⟩
    rw [mR,rH,←i1];cases hjt:gj ys using fj with
    | h0 =>
      have e:qe [] q=[q]:=by simp [qe,uN]
      rw [e,bP,pm];exact ⟨rfl,fun l hl=>by simp at hl;subst hl;exact ⟨⟨l,by simp,rfl⟩,l,by simp,rfl⟩⟩
    | h1 A l =>
      rw [hjt] at i1 i2 hin;have hl:=hin l (by simp);have hn:nth (A++ [l]) (((A++ [l]).length:Int) - 1)=l:=tA (A:=A) (B:=[]) (by simp);have hle:(f2 S l).1≤(f2 S q).1:=by
        obtain ⟨⟨p,hp,e⟩,_⟩:=i2 l (by simp);have:=hs2 (f2 S p) (List.mem_map.2 ⟨p,hp,rfl⟩) (f2 S q) (by simp);rw [←aP,oa] at this
        have e':(f2 S l).1=(f2 S p).1:=by simp only [f2];rw [e]
        omega
      have hll:(f2 S l).1≤(f2 S l).2:=by
        have h3:=hsp.1.1;rw [←i1] at h3;exact h3 (f2 S l) (by simp)
      have hqq:=AG hq;have hhit:uN (A++ [l]) q=pG (f2 S l) (f2 S q):=by
        unfold uN;rw [hn,decide_eq_true (by simp),fE,eT,xe hq.2.1 hl.2,oL];show (f2 S q).1≤(f2 S l).2↔_;omega
      rw [bT,bw,bP,ot,qe,hhit,hn,show (((A++ [l]).length:Int) - 1).toNat=A.length by simp];split
      · refine ⟨?_,fun r hr=> ?_⟩
        · simp [f2,EK hl.2 hq.2.2]
        · simp at hr;rcases hr with hr | rfl
          · obtain ⟨⟨p,hp,e⟩,p',hp',e'⟩:=i2 r (by simp [hr]);exact ⟨⟨p,by simp [hp],e⟩,p',by simp [hp'],e'⟩
          · obtain ⟨⟨p,hp,e⟩,p',hp',e'⟩:=i2 l (by simp);refine ⟨⟨p,by simp [hp],e⟩,?_⟩;unfold qj;split
            · exact ⟨q,by simp,rfl⟩
            · exact ⟨p',by simp [hp'],e'⟩
      · refine ⟨by simp,fun r hr=> ?_⟩;rcases List.mem_append.1 hr with hr | hr
        · obtain ⟨⟨p,hp,e⟩,p',hp',e'⟩:=i2 r hr;exact ⟨⟨p,by simp [hp],e⟩,p',by simp [hp'],e'⟩
        · simp at hr;subst hr;exact ⟨⟨r,by simp,rfl⟩,r,by simp,rfl⟩
theorem ls {S:List ByteArray} {xs:List Rw} (h:Ok S (xs.filter fa)):
    Gs ((gu xs).map (f2 S))∧(∀y,xH ((gu xs).map (f2 S)) y↔xH ((xs.filter fa).map (f2 S)) y)∧∀l ∈ gu xs,(∃p ∈ xs.filter fa,l.1=p.1)∧∃p ∈ xs.filter fa,l.2=p.2:=by
  have hp:=mK (lt:=nu) (xs.filter fa);have hok:Ok S (eF nu (xs.filter fa)):=fun p hm=>h p (hp.mem_iff.1 hm);have hm:=yF (lt:=nu) (lt':=DX) (f:=f2 S) (xs:=xs.filter fa) fun x hx y hy=>FP (h x hx).2 (h y hy).2;have hs:oF DX ((eF nu (xs.filter fa)).map (f2 S)):=by rw [hm];exact tu CK _
  obtain ⟨j1,j2⟩:=AH _ hok hs;have j3:=rI _ hs fun p hq=>by obtain ⟨r,hr,rfl⟩:=List.mem_map.1 hq;exact AG (hok r hr)
  unfold gu;rw [j1];refine ⟨j3.1,fun y=>(j3.2.1 y).trans ?_,fun l hl=> ?_⟩
  · exact CJ (fun p=>by rw [hm];exact (mK _).mem_iff) y
  · obtain ⟨⟨p,h1,e1⟩,q,h2,e2⟩:=j2 l hl;exact ⟨⟨p,hp.mem_iff.1 h1,e1⟩,q,hp.mem_iff.1 h2,e2⟩
def EL (xs:List Rw):List ByteArray:=xs.flatMap fun p=> [p.1,p.2]
theorem xI {S:List ByteArray} {xs:List Rw} (h:∀c ∈ EL xs,c ∈ S):Ok S (xs.filter fa):=fun p hp=>by
  obtain ⟨h1,h2⟩:=List.mem_filter.1 hp;exact ⟨h2,h _ (List.mem_flatMap.2 ⟨p,h1,by simp⟩),h _ (List.mem_flatMap.2 ⟨p,h1,by simp⟩)⟩
theorem rK {S:List ByteArray} {xs:List Rw} (h:Ok S (xs.filter fa)):∀l ∈ gu xs,In S l:=fun l hl=>by
  obtain ⟨⟨p,hp,e1⟩,r,hr,e2⟩:=(ls h).2.2 l hl;exact ⟨e1 ▸ (h p hp).2.1,e2 ▸ (h r hr).2.2⟩
theorem rL {p:Rw}:fa p=true↔(dS p.1=true∧dS p.2=true)∧oD p.1 p.2=true:=by
  unfold fa;rw [av,av]
theorem AI {S:List ByteArray} {xs:List Rw} (h:Ok S (xs.filter fa)):Ok S (gu xs):=fun l hl=>by
  have hin:=rK h l hl;obtain ⟨⟨p,hp,e1⟩,r,hr,e2⟩:=(ls h).2.2 l hl;refine ⟨rL.2 ⟨⟨e1 ▸ (rL.1 (h p hp).1).1.1,e2 ▸ (rL.1 (h r hr).1).1.2⟩,?_⟩,hin⟩;exact (xe hin.1 hin.2).2 ((ls h).1.1 (f2 S l) (List.mem_map.2 ⟨l,hl,rfl⟩))
theorem uc (xs:List Rw):lT (gu xs)=true:=by
  have h1:Ok (EL xs) (xs.filter fa):=xI fun _ hc=>hc;refine oI (k:=(gu xs).length) (fun i hi=> ?_) (bk _);have hm:=pa hi;unfold nv;rw [(AI h1 _ hm).1,ku,fY];by_cases h0:i=0
  · subst h0;rfl
  · have hi':i - 1 < (gu xs).length:=by omega
    rw [show (i:Int) - 1=((i - 1:Nat):Int) by omega];have hp:=List.pairwise_iff_getElem.1 (ls h1).1.2 (i - 1) i (by simpa using hi') (by simpa using hi) (by omega);rw [ma,ma,←qR (bD hi),←qR (bD hi')] at hp;simp only [f2] at hp;have a:=rK h1 _ hm;have b:=rK h1 _ (pa hi');have:oD (nth (gu xs) (i:Int)).1 (nth (gu xs) ((i - 1:Nat):Int)).2=false:=by
      rw [←aP,xe a.1 b.2];omega
    rw [this,Bool.and_false]
theorem yG (xs:List Rw):(gu xs).length≤xs.length:=dA (uO _) (nw xs)
theorem sR (n:Int):(gv n).length≤4:=by unfold gv;split <;> (try split) <;> (try split) <;> decide
theorem yH (n:Int):lT (gv n)=true:=by unfold gv;split <;> (try split) <;> (try split) <;> decide+kernel
end
section
open Srt
def mr (cs:List ByteArray):Prop:=cs.length≤256∧∀c ∈ cs,c.size≤256
def DY (cs:List ByteArray):Prop:=∀i:Nat,1≤i→i < cs.length→dS (nth cs (i:Int))=true
def ju (rows:List Rw):Prop:=∀r ∈ rows,r.1.size≤256∧r.2.size≤256
theorem ju.small {rows:List Rw} (h:ju rows):pb rows:=fun r hr=>⟨dA (h r hr).1 (by decide),dA (h r hr).2 (by decide)⟩
theorem ju.app {xs ys:List Rw} (h:ju xs) (h2:ju ys):ju (xs++ys):=fun r hr=>(List.mem_append.1 hr).elim (h r) (h2 r)
theorem ju.one {a b:ByteArray} (h:a.size≤256) (h2:b.size≤256):ju [(a,b)]:=fun r hr=>by
  simp at hr;subst hr;exact ⟨h,h2⟩
theorem ju.nil:ju []:=fun r hr=>by cases hr
theorem wz {xs:List Rw} (h:ju xs):ju (gu xs):=fun l hl=>by
  obtain ⟨⟨p,hp,e1⟩,r,hr,e2⟩:=(ls (S:=EL xs) (xI fun _ hc=>hc)).2.2 l hl;rw [e1,e2];exact ⟨(h p (List.mem_filter.1 hp).1).1,(h r (List.mem_filter.1 hr).1).2⟩
theorem rM (n:Int):ju (gv n):=by unfold gv;split <;> (try split) <;> (try split) <;> (unfold ju;decide)
theorem xJ {rows:List Rw} (h:ju rows):zn rows≤513 * (rows.length:Int):=by
  unfold zn;induction rows using fj with
  | h0 => simp [de]
  | h1 rows r ih =>
    rw [bT,bw,bP,eu,bY];have:=ih fun x hx=>h x (by simp [hx]);have:=h r (by simp);simp;omega
theorem cO {cs:List ByteArray} (h:mr cs) (i:Nat):(cE cs i).size≤256:=by
  unfold cE;split
  · exact dJ _
  · exact h.2 _ (cG (by omega) (by omega))
theorem vl (c:ByteArray) (h:c.size≤256):(fA c).1.size≤256:=by
  unfold fA;repeat (split;exact (by decide))
  exact h
theorem mW {cs:List ByteArray} (h:mr cs) (i:Nat):ju (bI cs i).1∧(bI cs i).2.1.size≤256∧(bI cs i).1.length≤4∧(bI cs i).2.2.2≤i+2∧((bI cs i).2.2.1=true→i < (bI cs i).2.2.2∧(bI cs i).2.2.2≤cs.length):=by
  refine ⟨?_,?_,?_,?_,tW⟩ <;> unfold bI <;> (repeat' split)
  · exact ju.nil
  · exact ju.nil
  · exact rM _
  · exact ju.nil
  · exact dJ _
  · exact cO h i
  · exact dJ _
  · exact vl _ (cO h _)
  · exact dJ _
  · exact dJ _
  · exact sR _
  · exact dJ _
  · simp
  · simp
  · simp
  · simp
theorem CM (k:Int) (c:ByteArray) (h:(k=2∧dS c=true)∨((k=3∨k=8∨k=9∨k=10∨k=11)∧c=⟨#[]⟩)):gL (di k c false 0 0 false)=true∧cg (di k c false 0 0 false)=1∧eC (di k c false 0 0 false)=0:=by
  refine ⟨?_,?_,?_⟩
  · rw [jv];have:cq (di k c false 0 0 false)=true:=by
      rcases h with ⟨rfl,h⟩ | ⟨h,rfl⟩
      · simp [cq,di,jL,iA,h]
      · rcases h with rfl | rfl | rfl | rfl | rfl <;> simp [cq,di,lr,jL,iA]
    rw [this];rfl
  · rw [gD];rfl
  · rw [li];have:oH (di k c false 0 0 false)=false:=by
      unfold oH di;rcases h with ⟨rfl,h⟩ | ⟨h,rfl⟩
      · rfl
      · rcases h with rfl | rfl | rfl | rfl | rfl <;> rfl
    rw [this];rfl
theorem AJ (ng:Bool) (rows:List Rw) (h:lT rows=true):gL (mV ng Sv.nil rows)=true∧cg (mV ng Sv.nil rows)=1∧eC (mV ng Sv.nil rows)=0∧fC (mV ng Sv.nil rows)=1+zn rows:=by
  refine ⟨?_,?_,?_,?_⟩
  · rw [jv];have:cq (mV ng Sv.nil rows)=true:=by simp [cq,mV,jL,iA,h]
    rw [this];rfl
  · rw [gD];rfl
  · rw [li];rfl
  · rw [lk];have:((⟨#[]⟩:ByteArray).size:Int)=0:=rfl;simp [mV,de,this]
theorem DZ (k:Int) (mn mx:Int) (lz:Bool) (x:Tr):cg (fS k ⟨#[]⟩ false mn mx lz Sv.nil [x])=1+cg x∧eC (fS k ⟨#[]⟩ false mn mx lz Sv.nil [x])=max 0 (eC x)+(if k=5∨k=6 then 1 else 0)∧fC (fS k ⟨#[]⟩ false mn mx lz Sv.nil [x])=1+fC x:=by
  refine ⟨?_,?_,?_⟩
  · rw [gD];simp [fS,de]
  · rw [li];have:(oH (fS k ⟨#[]⟩ false mn mx lz Sv.nil [x])=true)↔(k=5∨k=6):=by unfold oH fS;simp
    simp only [this];simp [fS,kK]
  · rw [Cq];have:((⟨#[]⟩:ByteArray).size:Int)=0:=rfl;simp [de,this]
theorem EM {k:Int} {x:Tr} (hk:k=5∨k=6) (h:gL x=true):gL (fS k ⟨#[]⟩ false 0 0 false Sv.nil [x])=true:=by
  rw [jv];have:cq (fS k ⟨#[]⟩ false 0 0 false Sv.nil [x])=true:=by
    rcases hk with rfl | rfl <;> simp [cq,fS,lr,jL,iA]
  rw [this];simp [fS,h]
theorem EN {x:Tr} {mn mx:Int} {lz:Bool} (h:gL x=true) (hk:x.k=2∨x.k=3∨x.k=4∨x.k=5∨x.k=6) (h0:0≤mn∧mn≤255) (h1:mx= -1∨(mn≤mx∧mx≤255)):gL (AE x mn mx lz)=true:=by
  rw [jv];have hn:(nth [x] 0).k=x.k:=rfl;have:cq (AE x mn mx lz)=true:=by
    have hr:oK x.k=true:=by unfold oK;rcases hk with h | h | h | h | h <;> simp [h]
    have h5:(decide (mx= -1) || (decide (mn≤mx)&&decide (mx≤255)))=true:=by
      rw [aO,av,ai,ai,ai];exact h1
    have h6:cq (AE x mn mx lz)=(((((jL ⟨#[]⟩ false [] 0 0 false&&decide (([x].length:Int)=1))&&oK (nth [x] 0).k)&&decide (0≤mn))&&decide (mn≤255))&&(decide (mx= -1) || (decide (mn≤mx)&&decide (mx≤255)))):=rfl;rw [h6,h5,hn,hr,decide_eq_true h0.1,decide_eq_true h0.2];simp [jL,iA]
  rw [this];simp [AE,fS,h]
theorem vm (k:Int) (ks:List Tr):cg (nh k ks)=1+de (ks.map cg):=gD _
theorem xK (k:Int) (ks:List Tr) (hk:k=0∨k=1):eC (nh k ks)=kK (ks.map eC):=by
  rw [li];have:oH (nh k ks)=false:=by unfold oH nh;rcases hk with rfl | rfl <;> rfl
  rw [this];simp [nh]
theorem CN {ks:List Tr} (h:∀x ∈ ks,gL x=true∧x.k≠0∧x.k≠1) (hl:ks.length≠1):gL (nh 0 ks)=true:=by
  rw [jv];have h1:ks.all gL=true:=cR.2 fun x hx=>(h x hx).1;have h2:oq (nh 0 ks) [0,1]=false:=by
    rw [pL,jR];intro x hx;have:=h x hx;simp [this.2.1,this.2.2]
  have:cq (nh 0 ks)=true:=by
    unfold cq;rw [show (nh 0 ks).k=0 from rfl,if_neg (by decide),if_neg (by decide),if_neg (by decide),if_pos rfl,h2];have:lr (nh 0 ks)=true:=by unfold lr jL nh;simp [iA]
    have hl':decide (((nh 0 ks).kids.length:Int)=1)=false:=decide_eq_false (by show ¬(ks.length:Int)=1;omega);rw [this,hl'];rfl
  rw [this];simp [nh,h1]
theorem CO {ks:List Tr} (h:∀x ∈ ks,gL x=true∧x.k≠1) (hl:2≤ks.length):gL (nh 1 ks)=true:=by
  rw [jv];have h1:ks.all gL=true:=cR.2 fun x hx=>(h x hx).1;have h2:oq (nh 1 ks) [1]=false:=by
    rw [pM,jR];intro x hx;have:=h x hx;simp [this.2]
  have:cq (nh 1 ks)=true:=by
    unfold cq;rw [show (nh 1 ks).k=1 from rfl,if_neg (by decide),if_neg (by decide),if_neg (by decide),if_neg (by decide),if_pos rfl,h2];have:lr (nh 1 ks)=true:=by unfold lr jL nh;simp [iA]
    rw [this];have hl':decide ((1:Int) < ((nh 1 ks).kids.length:Int))=true:=decide_eq_true (by show (1:Int) < (ks.length:Int);omega);rw [hl'];rfl
  rw [this];simp [nh,h1]
theorem xL {k:Int} {l:List Tr} (h:∀x ∈ l,x.k≠k):ic k l=l:=by
  induction l with
  | nil => rfl
  | cons x l ih =>
    unfold ic at ih ⊢;rw [List.flatMap_cons,if_neg (h x (by simp)),ih fun y hy=>h y (by simp [hy])];rfl
structure TermOk (x:Tr) (n d:Int):Prop where
  wt:fC x≤2200 * n
  parts:cg x≤2 * n
  deep:eC x≤16 - d
  all:gL x=true
  k:x.k≠0∧x.k≠1
structure PatOk (x:Tr) (n d:Int):Prop where
  wt:fC x≤2200 * n+2
  parts:cg x≤2 * n+1
  deep:eC x≤16 - d
  all:gL x=true
theorem vn {l:List Tr} {n:Int} (h0:0≤n) (h:∀x ∈ l,eC x≤n):kK (l.map eC)≤n:=qu h0 fun y hy=>by
  obtain ⟨x,hx,rfl⟩:=List.mem_map.1 hy;exact h x hx
theorem rN {ts:List Tr} {d:Int} (hd:d≤16) (h:∀x ∈ ts,gL x=true∧x.k≠0∧x.k≠1∧eC x≤16 - d):gL (lj ts)=true∧(lj ts).k≠1∧eC (lj ts)≤16 - d∧cg (lj ts)≤1+de (ts.map cg):=by
  have hid:=xL (k:=0) (l:=ts) fun x hx=>(h x hx).2.1;unfold lj;rw [hid];have many:ts.length≠1→gL (nh 0 ts)=true∧(nh 0 ts).k≠1∧eC (nh 0 ts)≤16 - d∧cg (nh 0 ts)≤1+de (ts.map cg):=fun hl=>
    ⟨CN (fun x hx=>⟨(h x hx).1,(h x hx).2.1,(h x hx).2.2.1⟩) hl,by show (0:Int)≠1;decide,by rw [xK _ _ (.inl rfl)];exact vn (by omega) fun x hx=>(h x hx).2.2.2,by rw [vm];omega⟩
  match ts,h,many with
  | [], h, many => exact many (by decide)
  | [x], h, _ => exact ⟨(h x (by simp)).1, (h x (by simp)).2.2.1, (h x (by simp)).2.2.2, by simp [de]; omega⟩
  | x :: y :: l, h, many => exact many (by simp)
theorem yI {ts:List Tr} {d:Int} (hd:d≤16) (hne:ts≠ []) (h:∀x ∈ ts,gL x=true∧x.k≠1∧eC x≤16 - d):gL (me ts)=true∧eC (me ts)≤16 - d∧(ts.length=1→cg (me ts)=de (ts.map cg))∧cg (me ts)≤1+de (ts.map cg):=by
  have hid:=xL (k:=1) (l:=ts) fun x hx=>(h x hx).2.1;unfold me;rw [hid];match ts,hne,h with
  | [x], _, h => exact ⟨(h x (by simp)).1, (h x (by simp)).2.2, fun _ => by simp [de], by simp [de]; omega⟩
  | x :: y :: l, _, h =>
    refine ⟨CO (fun z hz=>⟨(h z hz).1,(h z hz).2.1⟩) (by simp),?_,fun e=>by simp at e,by show cg (nh 1 _)≤_;rw [vm];omega⟩;show eC (nh 1 _)≤_;rw [xK _ _ (.inr rfl)];exact vn (by omega) fun z hz=>(h z hz).2.2
theorem CP {cs:List ByteArray} {i:Nat} (h:i < cs.length):cE cs i=nth cs (i:Int):=by unfold cE;rw [if_neg (by omega)]
theorem wA {c:ByteArray} (h:(fA c).2=true) (hp:dS c=true):dS (fA c).1=true:=by
  unfold fA at h ⊢;split at h
  · cases h
  · rename_i h1;rw [if_neg h1];split at h
    · rename_i h2;rw [if_pos h2];decide+kernel
    · rename_i h2;rw [if_neg h2];split at h
      · rename_i h3;rw [if_pos h3];decide+kernel
      · rename_i h3;rw [if_neg h3];split at h
        · rename_i h4;rw [if_pos h4];decide+kernel
        · rename_i h4;rw [if_neg h4];split at h
          · rename_i h5;rw [if_pos h5];decide+kernel
          · rename_i h5;rw [if_neg h5];split at h
            · rename_i h6;rw [if_pos h6];decide+kernel
            · rename_i h6;rw [if_neg h6];split at h
              · cases h
              · rename_i h7;rw [if_neg h7];exact hp
theorem AK {r:Int × Nat × Nat} (h:jt r=true):r.1≤255:=by
  unfold jt at h;simp at h;omega
theorem qF {cs:List ByteArray} {x:Tr} {j:Nat} {mn mx:Int} (h:gL x=true) (hk:x.k=2∨x.k=3∨x.k=4∨x.k=5∨x.k=6) (h0:0≤mn∧mn≤255) (h1:mx= -1∨(mn≤mx∧mx≤255)):gL (kN cs x j mn mx).1=true∧(kN cs x j mn mx).1.k=7∧cg (kN cs x j mn mx).1=1+cg x∧eC (kN cs x j mn mx).1=max 0 (eC x)∧fC (kN cs x j mn mx).1=1+fC x:=by
  obtain ⟨a,b,c⟩:=DZ 7 mn mx (eQ cs j ⟨#[63]⟩) x;exact ⟨EN h hk h0 h1,rfl,a,by have:=b;rw [if_neg (by decide),Int.add_zero] at this;exact this,c⟩
theorem ud {cs:List ByteArray} {x:Tr} {mn mx:Int} {ok:Bool} {j:Nat} (he:(lU cs x mn mx ok j).2.1=0) (h:gL x=true) (hk:x.k=2∨x.k=3∨x.k=4∨x.k=5∨x.k=6) (h0:0≤mn∧mn≤255) (h1:ok=true→mx≤255) (h2: -1≤mx):gL (lU cs x mn mx ok j).1=true∧(lU cs x mn mx ok j).1.k=7∧cg (lU cs x mn mx ok j).1=1+cg x∧eC (lU cs x mn mx ok j).1=max 0 (eC x)∧fC (lU cs x mn mx ok j).1=1+fC x∧j < (lU cs x mn mx ok j).2.2:=by
  have hle:=tY he;unfold lU at he hle ⊢;split at he
  · cases he
  · rename_i g1;rw [if_neg g1];rw [if_neg g1] at hle;split at he
    · cases he
    · rename_i g2;rw [if_neg g2];rw [if_neg g2] at hle;split at he
      · cases he
      · rename_i g3;rw [if_neg g3];have hl:=nZ cs x (j+1) mn mx;simp only [av,aB,ah,ai,not_and,aX] at g3;obtain ⟨a,b,c,d,e⟩:=qF (cs:=cs) (j:=j+1) h hk h0 (mx:=mx) (by
          have:=h1 (by simpa using g1);by_cases hm:mx= -1
          · exact .inl hm
          · exact .inr ⟨g3 hm,this⟩)
        exact ⟨a,b,c,d,e,by omega⟩
theorem yJ {cs:List ByteArray} {x:Tr} {i:Nat} {n d:Int} (hd:d≤16) (he:(dN cs x i).2.1=0) (h:TermOk x n d) (hn:1≤n) (hk:x.k=2∨x.k=3∨x.k=4∨x.k=5∨x.k=6):TermOk (dN cs x i).1 (n+((dN cs x i).2.2 - i)) d:=by
  have fin:∀{y:Tr} {p:Nat},gL y=true∧y.k=7∧cg y=1+cg x∧eC y=max 0 (eC x)∧fC y=1+fC x→i < p→TermOk y (n+(p - i)) d:=fun {y p} ⟨a,b,c,e,f⟩ hp=>by
    have:=h.wt;have:=h.parts;have:=h.deep;exact ⟨by omega,by omega,by omega,a,by rw [b];decide⟩
  unfold dN at he ⊢;split
  · have hl:=nZ cs x (i+1) 0 (-1);exact fin (qF h.all hk (by decide) (.inl rfl)) (by omega)
  · split
    · have hl:=nZ cs x (i+1) 1 (-1);exact fin (qF h.all hk (by decide) (.inl rfl)) (by omega)
    · split
      · have hl:=nZ cs x (i+1) 0 1;exact fin (qF h.all hk (by decide) (.inr (by decide))) (by omega)
      · split
        · rename_i g1 g2 g3 g4;rw [if_neg g1,if_neg g2,if_neg g3,if_pos g4] at he;have a2:=tX cs (i+1);have a3:=tU cs (i+1);split
          · rename_i g5;rw [if_pos g5] at he;cases he
          · rename_i g5;rw [if_neg g5] at he;have b1:=AK (by simpa using g5);split
            · rename_i g6;rw [if_pos g6] at he;have a4:=tX cs ((cj cs (i+1)).2.2+1);have a5:=tU cs ((cj cs (i+1)).2.2+1);split
              · rename_i g7;rw [if_pos g7] at he;obtain ⟨a,b,c,e,f,g⟩:=ud he h.all hk ⟨by omega,b1⟩ (fun hh=>AK hh) (by omega);exact fin ⟨a,b,c,e,f⟩ (by omega)
              · rename_i g7;rw [if_neg g7] at he;obtain ⟨a,b,c,e,f,g⟩:=ud he h.all hk ⟨by omega,b1⟩ (fun _=>by omega) (by omega);exact fin ⟨a,b,c,e,f⟩ (by omega)
            · rename_i g6;rw [if_neg g6] at he;obtain ⟨a,b,c,e,f,g⟩:=ud he h.all hk ⟨by omega,b1⟩ (fun _=>by omega) (by omega);exact fin ⟨a,b,c,e,f⟩ (by omega)
        · have e1:n+((i:Nat) - (i:Int))=n:=by omega
          rw [e1];exact h
theorem po {cs:List ByteArray} (h:mr cs) {ng:Bool}:∀(f i:Nat) (rows:List Rw),ju rows→(iZ cs ng f i rows).2.1=0→∃rs,(iZ cs ng f i rows).1=mV ng Sv.nil (gu rs)∧ju rs∧(rs.length:Int)+4 * i≤(rows.length:Int)+4 * (iZ cs ng f i rows).2.2
  | 0, i, rows, _, he => by cases he
  | f + 1, i, rows, ht, he => by
    rw [iZ] at he ⊢;split
    · exact ⟨rows,rfl,ht,by simp;omega⟩
    · rename_i g1;rw [if_neg g1] at he;split
      · rename_i g2;rw [if_pos g2] at he;cases he
      · rename_i g2;rw [if_neg g2] at he;have a1:=mW h i;have a2:=a1.2.2.2.2 (by simpa using g2);split
        · rename_i g3;rw [if_pos g3] at he;obtain ⟨rs,b1,b2,b3⟩:=po h f _ _ (ht.app a1.1) he;refine ⟨rs,b1,b2,?_⟩;rw [bY] at b3;have:=a1.2.2.1;omega
        · rename_i g3;rw [if_neg g3] at he;split
          · rename_i g4;rw [if_pos g4] at he;split
            · rename_i g5;rw [if_pos g5] at he;cases he
            · rename_i g5;rw [if_neg g5] at he;have a3:=mW h ((bI cs i).2.2.2+1);have g6:(bI cs ((bI cs i).2.2.2+1)).2.2.1=true:=by
                rw [aP,aF,aF,az] at g5;exact g5.1.1
              have a4:=a3.2.2.2.2 g6;obtain ⟨rs,b1,b2,b3⟩:=po h f _ _ (ht.app (ju.one a1.2.1 a3.2.1)) he;refine ⟨rs,b1,b2,?_⟩;rw [bY] at b3;simp at b3;omega
          · rename_i g4;rw [if_neg g4] at he;obtain ⟨rs,b1,b2,b3⟩:=po h f _ _ (ht.app (ju.one a1.2.1 a1.2.1)) he;refine ⟨rs,b1,b2,?_⟩;rw [bY] at b3;simp at b3;omega
def rO (x:Tr) (n d:Int):Prop:=TermOk x n d∧(x.k=2∨x.k=3∨x.k=4∨x.k=5∨x.k=6)
theorem kr {k:Int} {c:ByteArray} {n d:Int} (hn:1≤n) (hd:d≤16) (h:(k=2∧dS c=true∧c.size≤256)∨((k=3∨k=8∨k=9∨k=10∨k=11)∧c=⟨#[]⟩)):TermOk (di k c false 0 0 false) n d:=by
  obtain ⟨a,b,e⟩:=CM k c (h.imp (fun h=>⟨h.1,h.2.1⟩) id);refine ⟨?_,by omega,by omega,a,?_⟩
  · rw [xh];rcases h with ⟨_,_,h⟩ | ⟨_,rfl⟩
    · omega
    · have:((⟨#[]⟩:ByteArray).size:Int)=0:=rfl;omega
  · unfold di;simp only [];omega
theorem CQ {cs:List ByteArray} (h:mr cs) {i:Nat} {n d:Int} (hd:d≤16) (he:(kp cs i).2.1=0) (hn:(kp cs i).2.2 - (i:Int)≤n):rO (kp cs i).1 n d:=by
  have a1:=wy he;have a2:=tV cs i (⟨#[94]⟩:ByteArray);unfold kp at he hn a1 ⊢;obtain ⟨rs,b1,b2,b3⟩:=po h _ _ _ ju.nil he;rw [b1];obtain ⟨c1,c2,c3,c4⟩:=AJ (eQ cs i ⟨#[94]⟩) (gu rs) (uc rs);have c5:=xJ (wz b2);have c6:=yG rs;simp at b3;exact ⟨⟨by omega,by omega,by omega,c1,by show (4:Int)≠0∧(4:Int)≠1;decide⟩,.inr (.inr (.inl rfl))⟩
theorem AL {cs:List ByteArray} (h:mr cs) (hp:DY cs) {i:Nat} {n d:Int} (hi:1≤i) (hd:d≤16) (he:(gO cs i).2.1=0) (hn:1≤n):rO (gO cs i).1 n d:=by
  have a1:=tZ he;unfold gO at he ⊢;split
  · rename_i g1;obtain ⟨c1,c2,c3,c4⟩:=AJ (!(iA (cE cs i) (fO (cE cs i)))) (gv (ca (fO (cE cs i)) 0)) (yH _);have c5:=xJ (rM (ca (fO (cE cs i)) 0));have c6:=sR (ca (fO (cE cs i)) 0);exact (show rO (mV (!(iA (cE cs i) (fO (cE cs i)))) Sv.nil (gv (ca (fO (cE cs i)) 0))) n d from ⟨⟨by omega,by omega,by omega,c1,by show (4:Int)≠0∧(4:Int)≠1;decide⟩,.inr (.inr (.inl rfl))⟩)
  · rename_i g1;rw [if_neg g1] at he;split
    · rename_i g2;rw [if_pos g2] at he;cases he
    · rename_i g2;have hne:=mU (wx (by simpa using g2));have hpr:dS (cE cs i)=true:=by rw [CP hne];exact hp i hi hne
      exact ⟨kr hn hd (.inl ⟨rfl,wA (by simpa using g2) hpr,vl _ (cO h i)⟩),.inl rfl⟩
def AM (cs:List ByteArray) (sub:Int→Nat→Tr × Int × Nat):Prop:=∀(d2:Int) (j:Nat),d2≤16→(sub d2 j).2.1=0→PatOk (sub d2 j).1 ((sub d2 j).2.2 - (j:Int)) d2
theorem AN {sub:Int→Nat→Tr × Int × Nat} {cs:List ByteArray} {d:Int} {i:Nat} (h:mr cs) (hp:DY cs) (hs:sQ cs sub) (ho:AM cs sub) (hd:d≤16) (he:(dG sub cs d i).2.1=0):rO (dG sub cs d i).1 ((dG sub cs d i).2.2 - (i:Int)) d:=by
  have grp:∀{k:Int} {x:Tr} {m n:Int},(k=5∨k=6)→PatOk x m (d+1)→0≤m→m+2≤n→rO (fS k ⟨#[]⟩ false 0 0 false Sv.nil [x]) n d:=fun {k x m n} hk hx h0 hmn=>by
    obtain ⟨a,b,c⟩:=DZ k 0 0 false x;have h1:=hx.wt;have h2:=hx.parts;have h3:=hx.deep;have h4:=(qb x).1;rw [if_pos hk] at b;refine ⟨⟨by omega,by omega,by omega,EM hk hx.all,?_⟩,?_⟩
    · show k≠0∧k≠1;omega
    · show k=2∨k=3∨k=4∨k=5∨k=6;omega
  have hle:=qC hs he;unfold dG at he hle ⊢;split
  · exact ⟨kr (by simp;omega) hd (.inr ⟨.inl rfl,rfl⟩),.inr (.inl rfl)⟩
  · rename_i g1;rw [if_neg g1] at he hle;split
    · rename_i g2;rw [if_pos g2] at he hle;split
      · rename_i g3;rw [if_pos g3] at he;cases he
      · rename_i g3;rw [if_neg g3] at he hle;split
        · rename_i g4;rw [if_pos g4] at he hle;split
          · rename_i g5;rw [if_pos g5] at he;cases he
          · rename_i g5;rw [if_neg g5] at he hle;split
            · rename_i g6;rw [if_pos g6] at he;exact absurd he g6
            · rename_i g6;rw [if_neg g6] at he hle;split
              · rename_i g7;rw [if_pos g7] at he;cases he
              · rename_i g7;rw [if_neg g7] at hle;have e6:(sub (d+1) (i+3)).2.1=0:=Classical.byContradiction g6;have a4:=hs (d+1) (i+3) e6;exact grp (.inr rfl) (ho (d+1) (i+3) (by omega) e6) (by omega) (by simp;omega)
        · rename_i g4;rw [if_neg g4] at he hle;split
          · rename_i g6;rw [if_pos g6] at he;exact absurd he g6
          · rename_i g6;rw [if_neg g6] at he hle;split
            · rename_i g7;rw [if_pos g7] at he;cases he
            · rename_i g7;rw [if_neg g7] at hle;have e6:(sub (d+1) (i+1)).2.1=0:=Classical.byContradiction g6;have a4:=hs (d+1) (i+1) e6;exact grp (.inl rfl) (ho (d+1) (i+1) (by omega) e6) (by omega) (by simp;omega)
    · rename_i g2;rw [if_neg g2] at he hle;split
      · rename_i g3;rw [if_pos g3] at he hle;have:=wy he;exact CQ h hd he (by omega)
      · rename_i g3;rw [if_neg g3] at he hle;split
        · rename_i g4;rw [if_pos g4] at he hle;have:=tZ he;exact AL h hp (by omega) hd he (by omega)
        · rename_i g4;rw [if_neg g4] at he hle;split
          · rename_i g5;rw [if_pos g5] at he;cases he
          · rename_i g5;have hpr:dS (cE cs i)=true:=by
              unfold EJ at g5;simp only [aO,not_or,aP,az] at g5;exact g5.2
            exact ⟨kr (by simp;omega) hd (.inl ⟨rfl,hpr,cO h i⟩),.inl rfl⟩
theorem vo {sub:Int→Nat→Tr × Int × Nat} {cs:List ByteArray} {d:Int} {i:Nat} (h:mr cs) (hp:DY cs) (hs:sQ cs sub) (ho:AM cs sub) (hd:d≤16) (he:(eX sub cs d i).2.1=0):TermOk (eX sub cs d i).1 ((eX sub cs d i).2.2 - (i:Int)) d:=by
  unfold eX at he ⊢;split
  · exact kr (by simp;omega) hd (.inr ⟨by decide,rfl⟩)
  · rename_i g1;rw [if_neg g1] at he;split
    · exact kr (by simp;omega) hd (.inr ⟨by decide,rfl⟩)
    · rename_i g2;rw [if_neg g2] at he;split
      · exact kr (by simp;omega) hd (.inr ⟨by decide,rfl⟩)
      · rename_i g3;rw [if_neg g3] at he;split
        · exact kr (by simp;omega) hd (.inr ⟨by decide,rfl⟩)
        · rename_i g4;rw [if_neg g4] at he;split
          · rename_i g5;rw [if_pos g5] at he;exact absurd he g5
          · rename_i g5;rw [if_neg g5] at he;have e5:(dG sub cs d i).2.1=0:=Classical.byContradiction g5;have a1:=qC hs e5;have a2:=AN h hp hs ho hd e5;have a3:=yJ hd he a2.1 (by omega) a2.2;have e:((dG sub cs d i).2.2 - (i:Int))+((dN cs (dG sub cs d i).1 (dG sub cs d i).2.2).2.2 - ((dG sub cs d i).2.2:Int))=(dN cs (dG sub cs d i).1 (dG sub cs d i).2.2).2.2 - (i:Int):=by omega
            rw [e] at a3;exact a3
structure SoFar (alts terms:List Tr) (i0 i:Nat) (d:Int):Prop where
  at':∀x ∈ alts,gL x=true∧x.k≠1∧eC x≤16 - d
  tt:∀x ∈ terms,gL x=true∧x.k≠0∧x.k≠1∧eC x≤16 - d
  le:i0≤i
  parts:de (alts.map cg)+de (terms.map cg)+(if alts=[] then 0 else 1)≤2 * ((i:Int) - i0)
  wt:de (alts.map fC)+de (terms.map fC)≤2200 * ((i:Int) - i0)
theorem SoFar.start (i:Nat) (d:Int):SoFar [] [] i i d:=⟨fun x hx=>(by cases hx),fun x hx=>(by cases hx),bk _,(by simp [de]),(by simp [de])⟩
theorem SoFar.term {alts terms:List Tr} {i0 i j:Nat} {d:Int} {x:Tr} (h:SoFar alts terms i0 i d) (hx:TermOk x ((j:Int) - i) d) (hj:i≤j):SoFar alts (terms++ [x]) i0 j d:=by
  refine ⟨h.at',fun y hy=> ?_,by have:=h.le;omega,?_,?_⟩
  · rcases List.mem_append.1 hy with hy | hy
    · exact h.tt y hy
    · simp at hy;subst hy;exact ⟨hx.all,hx.k.1,hx.k.2,hx.deep⟩
  · have:=h.parts;have:=hx.parts;rw [bT,bw,bP,eu];omega
  · have:=h.wt;have:=hx.wt;rw [bT,bw,bP,eu];omega
theorem SoFar.alt {alts terms:List Tr} {i0 i:Nat} {d:Int} (h:SoFar alts terms i0 i d) (hd:d≤16):SoFar (alts++ [lj terms]) [] i0 (i+1) d:=by
  obtain ⟨a,b,c,e⟩:=rN hd h.tt;have hw:=wh terms;refine ⟨fun y hy=> ?_,fun x hx=>(by cases hx),(by have:=h.le;omega),?_,?_⟩
  · rcases List.mem_append.1 hy with hy | hy
    · exact h.at' y hy
    · simp at hy;subst hy;exact ⟨a,b,c⟩
  · have:=h.parts;rw [bT,bw,bP,eu,if_neg (by simp)];rw [kF];split at this <;> omega
  · have:=h.wt;rw [bT,bw,bP,eu];rw [kF];omega
theorem SoFar.fin {alts terms:List Tr} {i0 i:Nat} {d:Int} (h:SoFar alts terms i0 i d) (hd:d≤16):PatOk (me (alts++ [lj terms])) ((i:Int) - i0) d:=by
  obtain ⟨a,b,c,e⟩:=rN hd h.tt;have hw:=wh terms;have hw2:=zY (alts++ [lj terms]);have hall:∀x ∈ alts++ [lj terms],gL x=true∧x.k≠1∧eC x≤16 - d:=fun y hy=>by
    rcases List.mem_append.1 hy with hy | hy
    · exact h.at' y hy
    · simp at hy;subst hy;exact ⟨a,b,c⟩
  obtain ⟨f1,f2,f3,f4⟩:=yI hd (by simp) hall;have hp:=h.parts;have hwt:=h.wt;rw [bT,bw,bP,eu] at f4 hw2;refine ⟨by omega,?_,f2,f1⟩;by_cases hn:alts=[]
  · subst hn;have:=f3 (by simp);rw [gn] at this ⊢
    rw [bw,bP,jK,kF] at this
    rw [bP,kF,if_pos rfl] at hp;omega
  · rw [if_neg hn] at hp;omega
theorem pp {cs:List ByteArray} (h:mr cs) (hp:DY cs):∀(f:Nat) (d:Int) (i0 i:Nat) (alts terms:List Tr),d≤16→SoFar alts terms i0 i d→(eJ cs f d i alts terms).2.1=0→PatOk (eJ cs f d i alts terms).1 ((eJ cs f d i alts terms).2.2 - (i0:Int)) d
  | 0, d, i0, i, alts, terms, _, _, he => by cases he
  | f + 1, d, i0, i, alts, terms, hd, hso, he => by
    have hs:sQ cs fun d j=>eJ cs f d j [] []:=fun d j hh=>nG cs f d j [] [] hh;have ho:AM cs fun d j=>eJ cs f d j [] []:=fun d j hd hh=>pp h hp f d j j [] [] hd (SoFar.start j d) hh;rw [eJ] at he ⊢;split
    · rename_i g1;rw [if_pos g1] at he;split
      · rename_i g2;rw [if_pos g2] at he;exact absurd he g2
      · rename_i g2;rw [if_neg g2] at he;have e2:(eX (fun d j=>eJ cs f d j [] []) cs d i).2.1=0:=Classical.byContradiction g2;have a1:=ua hs e2;have a2:=vo h hp hs ho hd e2;exact pp h hp f d i0 _ _ _ hd (hso.term a2 (by omega)) he
    · rename_i g1;rw [if_neg g1] at he;split
      · rename_i g2;rw [if_pos g2] at he;exact pp h hp f d i0 _ _ _ hd (hso.alt hd) he
      · exact hso.fin hd
end
section
open Go.RowKit
open Srt
set_option maxRecDepth 100000 in
theorem ue (b:Int) (w:World):Calls Tryz.prog 132 #[.int .u8 b] w (fun e w'=>e= .returned (aA (ko b))∧Ext aY w w'):=by
 refine enter (n:=9) Tryz.func132 rfl rfl (aw rfl) ?_;intro a0 τ0 ha st0;have e0:=nf ha;refine wp_seq (en st0 [] ⟨am fun c=>au rfl rfl,ax⟩ fun ac ag ae ab aa=> ?_);replace e0:=aa.k1 e0;have e2:=aa.V 0;refine wp_seq (vN ab [] ⟨ao e0,am fun c=>gF rfl (c.q 0) rfl,bq 1,aE 2 rfl fun c hpc=>aJ rfl (c.p e0),aE 2 rfl fun c hpc=>ke rfl (c.M 3 hpc) rfl,bN 2 4,aG 5,ax⟩ fun ac ag ae ab aa=> ?_);have e2:=aa.V 6;refine wp_ret ?_;refine rp ?_;refine cC (fn:=Tryz.f132) rfl ab.defers e2 ?_;exact ⟨rfl,ab.ext0⟩
set_option maxRecDepth 100000 in
theorem vp (b:Int) (w:World):Calls Tryz.prog 144 #[.int .u8 b] w (fun e w'=>e= .returned (aA (tT b))∧Ext aY w w'):=by
 refine enter (n:=17) Tryz.func144 rfl rfl (aw rfl) ?_;intro a0 τ0 ha st0;have e0:=nf ha;refine wp_seq (en st0 [] ⟨am fun c=>au rfl rfl,ax⟩ fun ac ag ae ab aa=> ?_);replace e0:=aa.k1 e0;have e2:=aa.V 0;refine wp_seq (rg [_,_,_,_,_,_,_,_,_,_,_,_,_,_,_] [0,1,3,7,15,31,63,127,255,511,1023,2047,4095,8191,16383] ab [] ⟨ao e0,am fun c=>gF rfl (c.q 0) rfl,bq 1,aE 2 rfl fun c hpc=>aJ rfl (c.p e0),aE 2 rfl fun c hpc=>ke rfl (c.M 3 hpc) rfl,bN 2 4,bq 5,bu 6 rfl fun c hpc=>aJ rfl (c.p e0),bu 6 rfl fun c hpc=>gF rfl (c.M 7 hpc) rfl,bu 6 rfl fun c hpc=>aJ rfl (c.M 8 hpc),cB 9 true rfl fun c hpc=>aJ rfl (c.p e0),cB 9 true rfl fun c hpc=>ke rfl (c.M 10 hpc) rfl,bu 6 rfl fun c hpc=>ly rfl (c.M 9 hpc) (fun h=>c.m 11 rfl (And.intro hpc h)),dw 6 12,aG 13,ax⟩ fun ac ag ae ab aa=> ?_);have e2:=aa.V 14;refine wp_ret ?_;refine rp ?_;refine cC (fn:=Tryz.f144) rfl ab.defers e2 ?_;exact ⟨rfl,ab.ext0⟩
set_option maxRecDepth 100000 in
theorem xM (s:ByteArray) (w:World):Calls Tryz.prog 131 #[(aS s)] w (fun e w'=>e= .returned (.tuple #[aS (fA s).1,aA (fA s).2])∧Ext aY w w'):=by
 refine enter (n:=31) Tryz.func131 rfl rfl (aw rfl) ?_;intro a0 τ0 ha st0;have e0:=nf ha;refine wp_seq (es st0 [] ⟨am fun c=>au rfl rfl,am fun c=>au rfl rfl,ax⟩ fun ac ag ae ab aa=> ?_);replace e0:=aa.k1 e0;have e2:=aa.V 0;have e3:=aa.V 1;refine wp_seq ?_;refine wp_seq (en ab [] ⟨ao e0,ax⟩ fun ac ag ae ab aa=> ?_);obtain ⟨e0,e2,e3⟩:=aa.k3 e0 e2 e3;have e4:=aa.V 0;refine wp_block ?_;refine wp_seq (es ab [] ⟨am fun c=>gh rfl (c.p e4) rfl,aG 0,ax⟩ fun ac ag ae ab aa=> ?_);obtain ⟨e0,e2,e3,e4⟩:=aa.k4 e0 e2 e3 e4;have e5:=aa.V 1;refine wp_cond_split e5 (fun hc1=> ?_) (fun hc1=> ?_)
 · have hd1:=hc1;skip;refine wp_seq (es ab [] ⟨am fun c=>au rfl rfl,am fun c=>au rfl rfl,ax⟩ fun ac ag ae ab aa=> ?_);obtain ⟨e0,e4⟩:=aa.k2 e0 e4;have e2:=aa.V 0;have e3:=aa.V 1;refine wp_ret ?_;refine rp ?_;refine jB (fn:=Tryz.f131) rfl ab.defers e2 e3 ?_;exact ⟨congrArg _ (show (Value.tuple #[(aS (⟨#[]⟩:ByteArray)),(aA false)])= .tuple #[aS (fA s).1,aA (fA s).2] from by rw [show fA s=((⟨#[]⟩:ByteArray),false) from (by unfold fA;(repeat (first | rw [if_neg (by first | assumption | (simp only [aP];assumption) | (simp only [aT];assumption))] | rw [if_pos (by assumption)])))]),ab.ext0⟩
 have hd1:=hc1;skip;refine wp_seq (es ab [] ⟨am fun c=>gh rfl (c.p e4) rfl,aG 0,ax⟩ fun ac ag ae ab aa=> ?_);obtain ⟨e0,e2,e3,e4⟩:=aa.k4 e0 e2 e3 e4;have e7:=aa.V 1;refine wp_cond_split e7 (fun hc2=> ?_) (fun hc2=> ?_)
 · have hd2:=hc2;skip;refine wp_seq (es ab [] ⟨am fun c=>au rfl rfl,am fun c=>au rfl rfl,ax⟩ fun ac ag ae ab aa=> ?_);obtain ⟨e0,e4⟩:=aa.k2 e0 e4;have e2:=aa.V 0;have e3:=aa.V 1;refine wp_ret ?_;refine rp ?_;refine jB (fn:=Tryz.f131) rfl ab.defers e2 e3 ?_;exact ⟨congrArg _ (show (Value.tuple #[(aS (⟨#[10]⟩:ByteArray)),(aA true)])= .tuple #[aS (fA s).1,aA (fA s).2] from by rw [show fA s=((⟨#[10]⟩:ByteArray),true) from (by unfold fA;(repeat (first | rw [if_neg (by first | assumption | (simp only [aP];assumption) | (simp only [aT];assumption))] | rw [if_pos (by assumption)])))]),ab.ext0⟩
 have hd2:=hc2;skip;refine wp_seq (es ab [] ⟨am fun c=>gh rfl (c.p e4) rfl,aG 0,ax⟩ fun ac ag ae ab aa=> ?_);obtain ⟨e0,e2,e3,e4⟩:=aa.k4 e0 e2 e3 e4;have e9:=aa.V 1;refine wp_cond_split e9 (fun hc3=> ?_) (fun hc3=> ?_)
 · have hd3:=hc3;skip;refine wp_seq (es ab [] ⟨am fun c=>au rfl rfl,am fun c=>au rfl rfl,ax⟩ fun ac ag ae ab aa=> ?_);obtain ⟨e0,e4⟩:=aa.k2 e0 e4;have e2:=aa.V 0;have e3:=aa.V 1;refine wp_ret ?_;refine rp ?_;refine jB (fn:=Tryz.f131) rfl ab.defers e2 e3 ?_;exact ⟨congrArg _ (show (Value.tuple #[(aS (⟨#[13]⟩:ByteArray)),(aA true)])= .tuple #[aS (fA s).1,aA (fA s).2] from by rw [show fA s=((⟨#[13]⟩:ByteArray),true) from (by unfold fA;(repeat (first | rw [if_neg (by first | assumption | (simp only [aP];assumption) | (simp only [aT];assumption))] | rw [if_pos (by assumption)])))]),ab.ext0⟩
 have hd3:=hc3;skip;refine wp_seq (es ab [] ⟨am fun c=>gh rfl (c.p e4) rfl,aG 0,ax⟩ fun ac ag ae ab aa=> ?_);obtain ⟨e0,e2,e3,e4⟩:=aa.k4 e0 e2 e3 e4;have e11:=aa.V 1;refine wp_cond_split e11 (fun hc4=> ?_) (fun hc4=> ?_)
 · have hd4:=hc4;skip;refine wp_seq (es ab [] ⟨am fun c=>au rfl rfl,am fun c=>au rfl rfl,ax⟩ fun ac ag ae ab aa=> ?_);obtain ⟨e0,e4⟩:=aa.k2 e0 e4;have e2:=aa.V 0;have e3:=aa.V 1;refine wp_ret ?_;refine rp ?_;refine jB (fn:=Tryz.f131) rfl ab.defers e2 e3 ?_;exact ⟨congrArg _ (show (Value.tuple #[(aS (⟨#[9]⟩:ByteArray)),(aA true)])= .tuple #[aS (fA s).1,aA (fA s).2] from by rw [show fA s=((⟨#[9]⟩:ByteArray),true) from (by unfold fA;(repeat (first | rw [if_neg (by first | assumption | (simp only [aP];assumption) | (simp only [aT];assumption))] | rw [if_pos (by assumption)])))]),ab.ext0⟩
 have hd4:=hc4;skip;refine wp_seq (es ab [] ⟨am fun c=>gh rfl (c.p e4) rfl,aG 0,ax⟩ fun ac ag ae ab aa=> ?_);obtain ⟨e0,e2,e3,e4⟩:=aa.k4 e0 e2 e3 e4;have e13:=aa.V 1;refine wp_cond_split e13 (fun hc5=> ?_) (fun hc5=> ?_)
 · have hd5:=hc5;skip;refine wp_seq (es ab [] ⟨am fun c=>au rfl rfl,am fun c=>au rfl rfl,ax⟩ fun ac ag ae ab aa=> ?_);obtain ⟨e0,e4⟩:=aa.k2 e0 e4;have e2:=aa.V 0;have e3:=aa.V 1;refine wp_ret ?_;refine rp ?_;refine jB (fn:=Tryz.f131) rfl ab.defers e2 e3 ?_;exact ⟨congrArg _ (show (Value.tuple #[(aS (⟨#[12]⟩:ByteArray)),(aA true)])= .tuple #[aS (fA s).1,aA (fA s).2] from by rw [show fA s=((⟨#[12]⟩:ByteArray),true) from (by unfold fA;(repeat (first | rw [if_neg (by first | assumption | (simp only [aP];assumption) | (simp only [aT];assumption))] | rw [if_pos (by assumption)])))]),ab.ext0⟩
 have hd5:=hc5;skip;refine wp_seq (es ab [] ⟨am fun c=>gh rfl (c.p e4) rfl,aG 0,ax⟩ fun ac ag ae ab aa=> ?_);obtain ⟨e0,e2,e3⟩:=aa.k3 e0 e2 e3;have e15:=aa.V 1;refine wp_cond_split e15 (fun hc6=> ?_) (fun hc6=> ?_)
 · have hd6:=hc6;skip;refine wp_seq (es ab [] ⟨am fun c=>au rfl rfl,am fun c=>au rfl rfl,ax⟩ fun ac ag ae ab aa=> ?_);replace e0:=aa.k1 e0;have e2:=aa.V 0;have e3:=aa.V 1;refine wp_ret ?_;refine rp ?_;refine jB (fn:=Tryz.f131) rfl ab.defers e2 e3 ?_;exact ⟨congrArg _ (show (Value.tuple #[(aS (⟨#[11]⟩:ByteArray)),(aA true)])= .tuple #[aS (fA s).1,aA (fA s).2] from by rw [show fA s=((⟨#[11]⟩:ByteArray),true) from (by unfold fA;(repeat (first | rw [if_neg (by first | assumption | (simp only [aP];assumption) | (simp only [aT];assumption))] | rw [if_pos (by assumption)])))]),ab.ext0⟩
 have hd6:=hc6;skip;refine wp_skip ?_;show _;refine wp_seq ?_;refine wp_seq ?_;refine rg [_,_,_,_,_,_,_,_,_,_,_,_,_] [0,1,3,7,15,31,63,127,255,511,1023,2047,4095] ab [] ⟨ao e0,am fun c=>iF rfl bm (c.q 0),am fun c=>bV rfl (c.q 1) rfl,bq 2,aE 3 rfl fun c hpc=>aJ rfl (c.p e0),aE 3 rfl fun c hpc=>gG rfl bm (c.M 4 hpc) rfl (by have hq0:=bt hpc;omega) (by have hq0:=bt hpc;omega),fx 3 true rfl fun c hpc=>⟨_,_,(bj rfl rfl Tryz.call144 (c.M 5 hpc)),vp (ca s 0) _⟩,aE 3 rfl fun c hpc=>aJ rfl (c.M 6 hpc),cB 7 false rfl fun c hpc=>aJ rfl (c.p e0),cB 7 false rfl fun c hpc=>gG rfl bm (c.M 8 hpc) rfl (by have hq0:=hpc.2;have hq1:=bt hpc.1;omega) (by have hq0:=hpc.2;have hq1:=bt hpc.1;omega),lP 7 false rfl fun c hpc=>⟨_,_,(bj rfl rfl Tryz.call132 (c.M 9 hpc)),ue (ca s 0) _⟩,aE 3 rfl fun c hpc=>oO rfl (c.M 7 hpc) (fun h=>c.m 10 rfl (And.intro hpc h)),bN 3 11,ax⟩ fun ac ag ae ab aa=> ?_;obtain ⟨e0,e2,e3⟩:=aa.k3 e0 e2 e3;have e29:=aa.V 12;refine wp_cond_split e29 (fun hc7=> ?_) (fun hc7=> ?_)
 · have hd7:=hc7;try simp only [av,aO,ai] at hd7
   refine wp_seq (es ab [] ⟨am fun c=>au rfl rfl,am fun c=>au rfl rfl,ax⟩ fun ac ag ae ab aa=> ?_);replace e0:=aa.k1 e0;have e2:=aa.V 0;have e3:=aa.V 1;refine wp_ret ?_;refine rp ?_;refine jB (fn:=Tryz.f131) rfl ab.defers e2 e3 ?_;exact ⟨congrArg _ (show (Value.tuple #[(aS (⟨#[]⟩:ByteArray)),(aA false)])= .tuple #[aS (fA s).1,aA (fA s).2] from by rw [show fA s=((⟨#[]⟩:ByteArray),false) from (by unfold fA;(repeat (first | rw [if_neg (by first | assumption | (simp only [aP];assumption) | (simp only [aT];assumption))] | rw [if_pos (by assumption)])))]),ab.ext0⟩
 have hd7:=hc7;try simp only [aM,aF,ah] at hd7
 refine wp_skip ?_;refine wp_seq (eI ab [] ⟨ao e0,aG 0,am fun c=>au rfl rfl,ax⟩ fun ac ag ae ab aa=> ?_);have e2:=aa.V 1;have e3:=aa.V 2;refine wp_ret ?_;refine rp ?_;refine jB (fn:=Tryz.f131) rfl ab.defers e2 e3 ?_;exact ⟨congrArg _ (show (Value.tuple #[(aS s),(aA true)])= .tuple #[aS (fA s).1,aA (fA s).2] from by rw [show fA s=(s,true) from (by unfold fA;(repeat (first | rw [if_neg (by first | assumption | (simp only [aP];assumption) | (simp only [aT];assumption))] | rw [if_pos (by assumption)])))]),ab.ext0⟩
set_option maxRecDepth 100000 in
theorem FQ (v:Value) (cv:Sv) (cs:List ByteArray) (i:Nat) (w:World) (hm0:w.cell? (dh v)=some cv.v) (hm1:w.cell? ((dh v).add 1)=some (aj (i:Int))) (hS:SlT fi w cv.v cs):Calls Tryz.prog 58 #[(.pointer (some (dh v)))] w (fun e w'=>e= .returned (aS (cE cs i))∧Ext aY w w'):=by
 refine enter (n:=23) Tryz.func58 rfl rfl (aw rfl) ?_;intro a0 τ0 ha st0;have e0:=nf ha;have hle:=hS.le;refine wp_seq (en st0 [] ⟨am fun c=>au rfl rfl,ax⟩ fun ac ag ae ab aa=> ?_);replace e0:=aa.k1 e0;have e2:=aa.V 0;refine wp_seq ?_;refine wp_seq (uE [0,1,3,7,0,16,48,112,240,511] ab [] ⟨ao e0,bK 0 rfl,br aW ar 1 rfl,am fun c=>ay rfl aC (c.q 2) ((ab.ext.trans c.J.ext).cellAt hm1),ao e0,bK 4 rfl,br aW bM 5 rfl,am fun c=>ay rfl cc (c.q 6) ((ab.ext.trans c.J.ext).cellAt hm0),am fun c=>cQ rfl bd (c.q 7) hS.sl,am fun c=>gF rfl (c.q 3) (c.q 8),ax⟩ fun ac ag ae ab aa=> ?_);obtain ⟨e0,e2⟩:=aa.k2 e0 e2;have e12:=aa.V 9;refine wp_cond_split e12 (fun hc1=> ?_) (fun hc1=> ?_)
 · try simp only [ai] at hc1
   refine wp_seq (en ab [] ⟨am fun c=>au rfl rfl,ax⟩ fun ac ag ae ab aa=> ?_);replace e0:=aa.k1 e0;have e2:=aa.V 0;refine wp_ret ?_;refine rp ?_;refine cC (fn:=Tryz.f58) rfl ab.defers e2 ?_;exact ⟨congrArg _ (congrArg _ (by unfold cE;first | rw [if_pos (by omega)] | rw [if_neg (by omega)])),ab.ext0⟩
 try simp only [ah,ef] at hc1
 refine wp_skip ?_;refine wp_seq (qk [0,1,3,7,0,16,48,112,255,511,1023] ab [] ⟨ao e0,bK 0 rfl,br aW bM 1 rfl,am fun c=>ay rfl cc (c.q 2) ((ab.ext.trans c.J.ext).cellAt hm0),ao e0,bK 4 rfl,br aW ar 5 rfl,am fun c=>ay rfl aC (c.q 6) ((ab.ext.trans c.J.ext).cellAt hm1),am fun c=>aK rfl bd aZ (c.q 3) hS.sl (c.q 7) (by omega) (by omega),am fun c=>ay rfl bG (c.q 8) ((hS.at (ab.ext.trans c.J.ext)).elem (j:=0) (bo (i:=(i:Int)) (by omega) (by omega)) rfl),aG 9,ax⟩ fun ac ag ae ab aa=> ?_);have e2:=aa.V 10;refine wp_ret ?_;refine rp ?_;refine cC (fn:=Tryz.f58) rfl ab.defers e2 ?_;exact ⟨congrArg _ (congrArg _ (by unfold cE;first | rw [if_pos (by omega)] | rw [if_neg (by omega)])),ab.ext0⟩
theorem mt (v:Value) (cv:Sv) (cs:List ByteArray) (i:Nat) (w:World) (hR:RdR 68 v cv cs i w):Calls Tryz.prog 58 #[v] w (fun e w'=>e= .returned (.string (cE cs i))∧Ext aY w w'):=by
  have h:=FQ v cv cs i w (hR.box.cell (j:=0) rfl) (hR.box.cell (j:=1) rfl) hR.sl;rwa [←hR.box.ptr] at h
set_option maxRecDepth 100000 in
theorem fU (v:Value) (cv:Sv) (cs:List ByteArray) (i:Nat) (s:ByteArray) (w:World) (hR:RdR 68 v cv cs i w) (hL:mr cs) (hi:i≤cs.length+5):Calls Tryz.prog 61 #[v,(aS s)] w (fun e w'=>e= .returned (aA (eQ cs i s))∧Ext (bF v) w w'∧cd 68 [cv.v,aj ((tkN cs i s:Nat):Int)] (bF v) v w'):=by
 refine ek (bF v) (fun g hg=>hR.box.lt g hg) (n:=36) Tryz.func61 rfl rfl (aw rfl) ?_;intro a0 τ0 ha hτ st0;obtain ⟨e0,e1⟩:=qr ha;have hL1:=hL.1;have r0:cd 68 [cv.v,aj ((i:Nat):Int)] (τ0 0) v w:=by rw [hτ];exact hR.box
 have r9:Fz (dE fi Al cv.v cs) τ0 w:=hR.inz st0;refine wp_seq (en st0 [jb r0,jz 9 r9] ⟨am fun c=>au rfl rfl,ax⟩ fun ac ag ae ab aa=> ?_);obtain ⟨e0,e1⟩:=aa.k2 e0 e1;have e4:=aa.V 0;replace r0:=aa.B 0;replace r9:=aa.z1 9;refine wp_seq ?_;refine wp_seq ?_;refine rg [_,_,_,_,_,_,_,_,_,_,_,_,_,_,_,_,_,_,_,_,_,_,_,_] [0,1,3,7,0,16,48,112,240,511,1023,2047,4095,8191,16383,2047,34815,100351,231423,524287,1048575,2047,4194303,8388607] ab [jb r0,jz 9 r9] ⟨ao e0,bK 0 r0.ptr,br aW ar 1 r0.ptr,dq aC 2 0 1,ao e0,bK 4 r0.ptr,br aW bM 5 r0.ptr,dq cc 6 0 0,am fun c=>cQ rfl bd (c.q 7) (r9).1.sl,am fun c=>gF rfl (c.q 3) (c.q 8),bq 9,bu 10 rfl fun c hpc=>aJ rfl (c.p e0),bu 10 rfl fun c hpc=>cr rfl (c.M 11 hpc) r0.ptr,bu 10 rfl fun c hpc=>cF rfl aW bM ((c.M 12 hpc).trans r0.ptr),bu 10 rfl fun c hpc=>ay rfl cc (c.M 13 hpc) ((c.B 0).cell (j:=0) rfl),bu 10 rfl fun c hpc=>aJ rfl (c.p e0),bu 10 rfl fun c hpc=>cr rfl (c.M 15 hpc) r0.ptr,bu 10 rfl fun c hpc=>cF rfl aW ar ((c.M 16 hpc).trans r0.ptr),bu 10 rfl fun c hpc=>ay rfl aC (c.M 17 hpc) ((c.B 0).cell (j:=1) rfl),bu 10 rfl fun c hpc=>aK rfl bd aZ (c.M 14 hpc) (r9).1.sl (c.M 18 hpc) (by have hq0:=bn hpc;omega) (by have hq0:=bn hpc;omega),bu 10 rfl fun c hpc=>ay rfl bG (c.M 19 hpc) (((c.iz 9 rfl).1).elem (j:=0) (bo (i:=((i:Nat):Int)) (by have hq0:=bn hpc;omega) (by have hq0:=bn hpc;omega)) rfl),bu 10 rfl fun c hpc=>aJ rfl (c.p e1),bu 10 rfl fun c hpc=>lO rfl (c.M 20 hpc) (c.M 21 hpc),dw 10 22,ax⟩ fun ac ag ae ab aa=> ?_;obtain ⟨e0,e4⟩:=aa.k2 e0 e4;have e28:=aa.V 23;replace r0:=aa.B 0;replace r9:=aa.z1 9;refine wp_cond_split e28 (fun hc1=> ?_) (fun hc1=> ?_)
 · have hd1:=hc1;try simp only [aO,aF,aB,az,ai,ah,ef] at hd1
   refine wp_seq (en ab [jb r0,jz 9 r9] ⟨am fun c=>au rfl rfl,ax⟩ fun ac ag ae ab aa=> ?_);replace e0:=aa.k1 e0;have e4:=aa.V 0;replace r0:=aa.B 0;replace r9:=aa.z1 9;refine wp_ret ?_;refine rp ?_;refine cC (fn:=Tryz.f61) rfl ab.defers e4 ?_;have hb_:eQ cs i s=false:=by unfold eQ;first | (rw [show (decide ((cs.length:Int)≤(i:Int)) || (!(iA (nth cs (i:Int)) s)))=true from by assumption];rfl) | (rw [show (decide ((cs.length:Int)≤(i:Int)) || (!(iA (nth cs (i:Int)) s)))=false from by assumption];rfl)
   rw [hb_,kb hb_];exact ⟨rfl,ab.extIn,r0.foot⟩
 have hd1:=hc1;try simp only [aO,aF,aB,az,ai,ah,ef] at hd1
 refine wp_skip ?_;refine wp_seq (vX ab [jb r0,jz 9 r9] ⟨ao e0,bK 0 r0.ptr,br aW ar 1 r0.ptr,dq aC 2 0 1,am fun c=>cP rfl (c.q 3) rfl (by omega),bK 0 r0.ptr,br aW ar 5 r0.ptr,ct (cx:=[cv.v,(aj (((i:Nat):Int)+1))]) ar fun c=>⟨c.bp 0 rfl e0,c.ad (c.q 6) e0 rfl,(c.q 4)⟩,ax⟩ fun ac ag ae ab aa=> ?_);obtain ⟨e0,e4⟩:=aa.k2 e0 e4;replace r0:=aa.RB 7 e0;replace r9:=aa.z1 9;replace r0:cd 68 [cv.v,aj ((i+1:Nat):Int)] (ae 0) v ag:=by rw [show ((i+1:Nat):Int)=((i:Nat):Int)+1 from by omega];exact r0
 refine wp_seq (en ab [jb r0,jz 9 r9] ⟨am fun c=>au rfl rfl,ax⟩ fun ac ag ae ab aa=> ?_);replace e0:=aa.k1 e0;have e4:=aa.V 0;replace r0:=aa.B 0;replace r9:=aa.z1 9;refine wp_ret ?_;refine rp ?_;refine cC (fn:=Tryz.f61) rfl ab.defers e4 ?_;have hb_:eQ cs i s=true:=by unfold eQ;first | (rw [show (decide ((cs.length:Int)≤(i:Int)) || (!(iA (nth cs (i:Int)) s)))=true from by assumption];rfl) | (rw [show (decide ((cs.length:Int)≤(i:Int)) || (!(iA (nth cs (i:Int)) s)))=false from by assumption];rfl)
 rw [hb_,jj hb_];exact ⟨rfl,ab.extIn,r0.foot⟩
end
section
open Go.RowKit
open Srt
theorem CR {cs:List ByteArray} {f:Nat} {n:Int} {m i:Nat} (h:((decide ((m:Int) < 3)&&decide (((cE cs i).size:Int)=1))&&ko (ca (cE cs i) 0))=true):ni cs (f+1) n m i=ni cs f (n * 10+(ca (cE cs i) 0 - 48)) (m+1) (i+1):=by rw [ni,if_pos h]
theorem AO {cs:List ByteArray} {f:Nat} {n:Int} {m i:Nat} (h:((decide ((m:Int) < 3)&&decide (((cE cs i).size:Int)=1))&&ko (ca (cE cs i) 0))=false):ni cs (f+1) n m i=(n,m,i):=by rw [ni,if_neg (by rw [h];decide)]
theorem Ea {b:Int} (h:ko b=true):IntKind.u8.wrap (b - 48)=b - 48:=by
  simp only [ko,av,ai] at h;simp [IntKind.wrap,IntKind.signed,IntKind.bits];omega
theorem Eb {b:Int} (h:0≤b∧b≤255):IntKind.i64.wrap b=b:=IntWalk.i64_in _ (by omega)
set_option maxRecDepth 100000 in
theorem Ec (v:Value) (cv:Sv) (cs:List ByteArray) (i:Nat) (w:World) (hR:RdR 68 v cv cs i w) (hL:mr cs) (hi:i≤cs.length+5):Calls Tryz.prog 106 #[v] w (fun e w'=>e= .returned (.tuple #[aj (cj cs i).1,aA (jt (cj cs i))])∧Ext (bF v) w w'∧cd 68 [cv.v,aj (((cj cs i).2.2:Nat):Int)] (bF v) v w'):=by
 refine ek (bF v) (fun g hg=>hR.box.lt g hg) (n:=44) Tryz.func106 rfl rfl (aw rfl) ?_;intro a0 τ0 ha hτ st0;have e0:=nf ha;have hL1:=hL.1;have r0:cd 68 [cv.v,aj ((i:Nat):Int)] (τ0 0) v w:=by rw [hτ];exact hR.box
 have r9:Fz (dE fi Al cv.v cs) τ0 w:=hR.inz st0;refine wp_seq (es st0 [jb r0,jz 9 r9] ⟨am fun c=>au rfl rfl,am fun c=>au rfl rfl,ax⟩ fun ac ag ae ab aa=> ?_);replace e0:=aa.k1 e0;have e2:=aa.V 0;have e3:=aa.V 1;replace r0:=aa.B 0;replace r9:=aa.z1 9;refine wp_seq (es ab [jb r0,jz 9 r9] ⟨am fun c=>au rfl rfl,am fun c=>au rfl rfl,ax⟩ fun ac ag ae ab aa=> ?_);obtain ⟨e0,e2,e3⟩:=aa.k3 e0 e2 e3;have e4:=aa.V 0;have e5:=aa.V 1;replace r0:=aa.B 0;replace r9:=aa.z1 9;refine wp_seq ?_;refine wp_block ?_;refine wp_loop (fun a_ w_=>∃(n:Int) (m j f:Nat) (τ:Nat→aQ),(0≤n∧n < 10 ^ m)∧
      (m+f=3)∧
      (i≤j)∧
      (j≤i+m)∧
      (ni cs 4 0 0 i=ni cs (f+1) n m j)∧
      St (fun k=>bF v k∨w.heap.size≤k) w 44 a_ w_ τ∧
      aU a_ 4=(aj n)∧
      aU a_ 5=(aj (m:Int))∧
      aU a_ 0=v∧
      aU a_ 2=(aj 0)∧
      aU a_ 3=(aA false)∧
      cd 68 [cv.v,(aj ((j:Nat):Int))] (τ 0) v w_∧
      Fz (dE fi Al cv.v cs) τ w_) (fun a_ _=>(3 - intOf (aU a_ 5)).toNat) ?_ ?_
 · refine ⟨0,0,i,3,ae,?_,?_,?_,?_,?_,ab,(e4.trans (bh (by omega))),(e5.trans (bh (by omega))),e0,e2,e3,r0,r9⟩
   · decide
   · omega
   · omega
   · omega
   · rfl
 intro a3 w3 hI;obtain ⟨n,m,j,f,τ3,q0,q1,q2,q3,q4,st3,e4,e5,e0,e2,e3,r0,r9⟩:=hI;have hn1000:n < 1000:=ld q0.2 (by show (10:Int) ^ m≤1000;match m,(show m≤3 by omega) with | 0,_=>decide | 1,_=>decide | 2,_=>decide | 3,_=>decide)
 have m5:=e5;refine wp_seq ?_;refine wp_seq ?_;refine rg [_,_,_,_,_,_,_,_,_,_,_,_,_,_] [0,1,3,7,15,31,63,127,255,511,1023,2047,4095,8191] st3 [jb r0,jz 9 r9] ⟨ao e5,am fun c=>df rfl (c.q 0) rfl,bq 1,aE 2 rfl fun c hpc=>aJ rfl (c.p e0),fx 2 true rfl fun c hpc=>⟨_,_,(bj rfl rfl fN (c.M 3 hpc)),mt v cv cs j _ (kH (c.B 0) (c.iz 9 rfl) (fun g_ h_ hz_=>hz_.2 _ h_))⟩,aE 2 rfl fun c hpc=>iF rfl bm (c.M 4 hpc),aE 2 rfl fun c hpc=>bV rfl (c.M 5 hpc) rfl,bN 2 6,bq 7,aE 8 rfl fun c hpc=>aJ rfl (c.p e0),fx 8 true rfl fun c hpc=>⟨_,_,(bj rfl rfl fN (c.M 9 hpc)),mt v cv cs j _ (kH (c.B 0) (c.iz 9 rfl) (fun g_ h_ hz_=>hz_.2 _ h_))⟩,aE 8 rfl fun c hpc=>gG rfl bm (c.M 10 hpc) rfl (by have hq0:=hpc;(try simp only [av,ai] at hq0);first | omega | (have h_:=gr (cE cs j) 0;omega) | (have h_:=gZ (by omega:((cE cs j).size:Int)=1);omega)) (by have hq0:=hpc;(try simp only [av,ai] at hq0);first | omega | (have h_:=gr (cE cs j) 0;omega) | (have h_:=gZ (by omega:((cE cs j).size:Int)=1);omega)),fx 8 true rfl fun c hpc=>⟨_,_,(bj rfl rfl Tryz.call132 (c.M 11 hpc)),ue (ca (cE cs j) 0) _⟩,bN 8 12,ax⟩ fun ac ag ae ab aa=> ?_;obtain ⟨e0,e2,e3,e4,e5⟩:=aa.k5 e0 e2 e3 e4 e5;have e19:=aa.V 13;replace r0:=aa.B 0;replace r9:=aa.z1 9;refine wp_cond_split e19 (fun hc1=> ?_) (fun hc1=> ?_)
 · have hd1:=hc1;try simp only [av,ai] at hd1
   refine wp_skip ?_;refine wp_block ?_;refine wp_seq ?_;have hcond:((decide ((m:Int) < 3)&&decide (((cE cs j).size:Int)=1))&&ko (ca (cE cs j) 0))=true:=by assumption
   have hbr:=gr (cE cs j) 0;have hca:=hcond;simp only [av,ai] at hca;have hdb:=hca.2;simp only [ko,av,ai] at hdb;have hwr:IntKind.i64.wrap (IntKind.u8.wrap (ca (cE cs j) 0 - 48))=ca (cE cs j) 0 - 48:=by rw [Ea hca.2,Eb (by omega)]
   have hsz1:=gZ hca.1.2;refine qQ [0,1,0,4,12,28,60,127,255] ab [jb r0,jz 9 r9] ⟨ao e4,am fun c=>Fu rfl (c.q 0) rfl (by first | omega | (have h_:=gr (cE cs j) 0;omega) | (have h_:=gZ (by omega:((cE cs j).size:Int)=1);omega)),ao e0,dR fun c=>⟨_,_,(bj rfl rfl fN (c.q 2)),mt v cv cs j _ (kH (c.B 0) (c.iz 9 rfl) (fun g_ h_ hz_=>hz_.2 _ h_))⟩,am fun c=>gG rfl bm (c.q 3) rfl (by first | omega | (have h_:=gr (cE cs j) 0;omega) | (have h_:=gZ (by omega:((cE cs j).size:Int)=1);omega)) (by first | omega | (have h_:=gr (cE cs j) 0;omega) | (have h_:=gZ (by omega:((cE cs j).size:Int)=1);omega)),am fun c=>vQ rfl (c.q 4) rfl,am fun c=>zt rfl fw gC (c.q 5),am fun c=>cP rfl (c.q 1) (c.q 6) (by first | omega | (have h_:=gr (cE cs j) 0;omega) | (have h_:=gZ (by omega:((cE cs j).size:Int)=1);omega)),aG 7,ax⟩ fun ac ag ae ab aa=> ?_;obtain ⟨e0,e2,e3,e5,e19⟩:=aa.k5 e0 e2 e3 e5 e19;have e4:=aa.V 8;replace r0:=aa.B 0;replace r9:=aa.z1 9;have hcb:=hcond;simp only [av,ai] at hcb;have hdg:=hcb.2;simp only [ko,av,ai] at hdg;have hsz:=gZ hcb.1.2;replace e4:aU ac 4=aj (n * 10+(ca (cE cs j) 0 - 48)):=by rw [e4,Ea hcb.2,Eb (by omega)]
   refine wp_seq ?_;refine eI ab [jb r0,jz 9 r9] ⟨ao e5,am fun c=>cP rfl (c.q 0) rfl (by first | omega | (have h_:=gr (cE cs j) 0;omega) | (have h_:=gZ (by omega:((cE cs j).size:Int)=1);omega)),aG 1,ax⟩ fun ac ag ae ab aa=> ?_;obtain ⟨e0,e2,e3,e4,e19⟩:=aa.k5 e0 e2 e3 e4 e19;have e5:=aa.V 2;replace r0:=aa.B 0;replace r9:=aa.z1 9;refine vX ab [jb r0,jz 9 r9] ⟨ao e0,bK 0 r0.ptr,br aW ar 1 r0.ptr,dq aC 2 0 1,am fun c=>cP rfl (c.q 3) rfl (by first | omega | (have h_:=gr (cE cs j) 0;omega) | (have h_:=gZ (by omega:((cE cs j).size:Int)=1);omega)),bK 0 r0.ptr,br aW ar 5 r0.ptr,ct (cx:=[cv.v,(aj (((j:Nat):Int)+1))]) ar fun c=>⟨c.bp 0 rfl e0,c.ad (c.q 6) e0 rfl,(c.q 4)⟩,ax⟩ fun ac ag ae ab aa=> ?_;obtain ⟨e0,e2,e3,e4,e5,e19⟩:=aa.k6 e0 e2 e3 e4 e5 e19;replace r0:=aa.RB 7 e0;replace r9:=aa.z1 9;replace r0:cd 68 [cv.v,aj ((j+1:Nat):Int)] (ae 0) v ag:=by rw [show ((j+1:Nat):Int)=((j:Nat):Int)+1 from by omega];exact r0
   show _;refine ⟨⟨n * 10+(ca (cE cs j) 0 - 48),m+1,j+1,f - 1,ae,?_,?_,?_,?_,?_,ab,(e4.trans (bh (by omega))),(e5.trans (bh (by omega))),e0,e2,e3,r0,r9⟩,?_⟩
   · rw [Int.pow_succ];omega
   · omega
   · omega
   · omega
   · obtain ⟨f,rfl⟩:∃f_,f=f_+1:=⟨f - 1,by omega⟩;rw [q4,CR hcond];rfl
   · simp only [m5,e5,intOf];omega
 have hd1:=hc1;try simp only [aM,ah,aX] at hd1
 refine wp_exit ?_;repeat (with_reducible refine ce ?_)
 refine ci ?_;refine wp_seq ?_;have hcond:((decide ((m:Int) < 3)&&decide (((cE cs j).size:Int)=1))&&ko (ca (cE cs j) 0))=false:=by assumption
 refine qQ [0,0,2,6,14,30,62,15,255] ab [jb r0,jz 9 r9] ⟨ao e4,ao e5,am fun c=>iR rfl (c.q 1) rfl,bq 2,aE 3 rfl fun c hpc=>aJ rfl (c.p e4),aE 3 rfl fun c hpc=>ke rfl (c.M 4 hpc) rfl,bN 3 5,aG 0,aG 6,ax⟩ fun ac ag ae ab aa=> ?_;replace e0:=aa.k1 e0;have e2:=aa.V 7;have e3:=aa.V 8;replace r0:=aa.B 0;replace r9:=aa.z1 9;refine wp_ret ?_;refine rp ?_;refine jB (fn:=Tryz.f106) rfl ab.defers e2 e3 ?_;have he_:cj cs i=(n,m,j):=by rw [cj,q4,AO hcond]
 rw [he_];exact ⟨rfl,ab.extIn,r0.foot⟩
end
section
open Go.RowKit
open Srt
theorem Gk {a b:Bool} (h:(a&&b)=true):b=true:=by cases a <;> simp_all
theorem AP {r:Rw} (h:((!dS r.1 || !dS r.2) || !oD r.1 r.2)=true):fa r=false:=by rw [xm] at h;simpa using h
theorem xN {r:Rw} (h:((!dS r.1 || !dS r.2) || !oD r.1 r.2)=false):fa r=true:=by rw [xm] at h;simpa using h
theorem uf {xs:List Rw} {n f:Bool} {s:ByteArray} (h:f=true):se xs n f s= !(((ur xs s || ur xs (fO s)) || ur xs (DS s))==n):=by rw [se,if_pos h]
theorem wB {xs:List Rw} {n f:Bool} {s:ByteArray} (h:f=false):se xs n f s= !(ur xs s==n):=by rw [se,if_neg (by rw [h];decide)]
theorem AQ {xs:List Rw} {n f:Bool} {s:ByteArray} (h:(f&&(ur xs (fO s) || ur xs (DS s)))=true):se xs n f s= !(true==n):=by
  cases f with
  | false => cases h
  | true =>
    rw [uf rfl];simp only [fE] at h;rw [Bool.or_assoc,h,Bool.or_true]
theorem AR {xs:List Rw} {n f:Bool} {s:ByteArray} (h:(f&&(ur xs (fO s) || ur xs (DS s)))=false):se xs n f s= !(ur xs s==n):=by
  cases f with
  | false => exact wB rfl
  | true =>
    rw [uf rfl];simp only [fE] at h;rw [Bool.or_assoc,h,lL]
theorem pN {n:Int} (h:n=100):gv n=[(⟨#[48]⟩,⟨#[57]⟩)]∧hH n=true:=by subst h;exact ⟨rfl,rfl⟩
theorem pO {n:Int} (h:n=119):gv n=[(⟨#[48]⟩,⟨#[57]⟩),(⟨#[65]⟩,⟨#[90]⟩),(⟨#[95]⟩,⟨#[95]⟩),(⟨#[97]⟩,⟨#[122]⟩)]∧hH n=true:=by subst h;exact ⟨rfl,rfl⟩
theorem pP {n:Int} (h:n=115):gv n=[(⟨#[9]⟩,⟨#[13]⟩),(⟨#[32]⟩,⟨#[32]⟩)]∧hH n=true:=by subst h;exact ⟨rfl,rfl⟩
theorem AS {n:Int} (h1:¬n=100) (h2:¬n=119) (h3:¬n=115):gv n=[]∧hH n=false:=by
  unfold gv hH;rw [if_neg h1,if_neg h2,if_neg h3,decide_eq_false h1,decide_eq_false h2,decide_eq_false h3];exact ⟨rfl,rfl⟩
set_option maxRecDepth 100000 in
theorem ob (s:ByteArray) (w:World) (hs:s.size≤1000000000):Calls Tryz.prog 129 #[(aS s)] w (fun e w'=>e= .returned (aS (fO s))∧Ext aY w w'):=by
 refine enter (n:=35) Tryz.func129 rfl rfl (aw rfl) ?_;intro a0 τ0 ha st0;have e0:=nf ha;have hbl:=iH s;have hbd:s.data.toList.length=s.size:=iH s;refine wp_seq (en st0 [] ⟨am fun c=>au rfl rfl,ax⟩ fun ac ag ae ab aa=> ?_);replace e0:=aa.k1 e0;have e2:=aa.V 0;refine wp_seq (rg [_,vM 5 _ 0 6 _,vM 5 _ 0 3 _] [0,1,3] ab [] ⟨ao e0,mF rfl rfl rfl rfl bm cf fw (by first | omega | exact (fq _).1 | exact (fq _).2) fun c=>(c.n 0 rfl),dx (t0:=6) rfl rfl rfl rfl rfl (.inr rfl) (fun _ _ _ _ c=>⟨c.ry 1 rfl,rfl⟩),ax⟩ fun ac ag ae ab aa=> ?_);obtain ⟨b2x3,e3⟩:=gx ac 3;replace e2:=aa.k1 e2;have r0:=aa.ry 2 e3 rfl;refine wp_seq ?_;refine wp_seq (en ab [jy r0] ⟨am fun c=>au rfl rfl,ax⟩ fun ac ag ae ab aa=> ?_);obtain ⟨e2,e3⟩:=aa.k2 e2 e3;have e4:=aa.V 0;replace r0:=aa.iy 0 rfl;refine wp_block ?_;refine wp_loop (fun a_ w_=>∃(k:Nat) (τ:Nat→aQ),(k≤(bs s).length)∧
      St (Nw w) w 35 a_ w_ τ∧
      aU a_ 4=(aj (k:Int))∧
      aU a_ 2=(aS (⟨#[]⟩:ByteArray))∧
      aU a_ 3=b2x3∧
      kJ 5 (fB jJ (bs s) k) (τ 0) b2x3 w_) (fun a_ _=>(bs s).length - (intOf (aU a_ 4)).toNat) ?_ ?_
 · refine ⟨0,ae,?_,ab,(e4.trans (bh (by omega))),e2,e3,?_⟩
   · omega
   · exact r0.cast (by exact mM _ _)
 intro a4 w4 hI;obtain ⟨k,τ4,q0,st4,e4,e2,e3,r0⟩:=hI;have hml:=nN jJ (bs s) k;have m4:=e4;refine wp_seq ?_;refine wp_seq (lE [0,0,2,7] st4 [jy r0] ⟨ao e4,ao e3,am fun c=>cQ rfl cf (c.q 1) r0.isSl,am fun c=>df rfl (c.q 0) (c.q 2),ax⟩ fun ac ag ae ab aa=> ?_);obtain ⟨e2,e3,e4⟩:=aa.k3 e2 e3 e4;have e10:=aa.V 3;replace r0:=aa.iy 0 rfl;refine wp_cond_split e10 (fun hc1=> ?_) (fun hc1=> ?_)
 · try simp only [ai] at hc1
   refine wp_skip ?_;refine wp_seq ?_;refine wp_block ?_;refine wp_seq ?_;refine uF [0,0,3,7,15,31,63,63,255,511,1023,2047] ab [jy r0] ⟨ao e3,ao e4,am fun c=>aK rfl cf ey (c.q 0) r0.isSl (c.q 1) (by first | omega | exact (fq _).1 | exact (fq _).2) (by first | omega | exact (fq _).1 | exact (fq _).2),am fun c=>ay rfl iQ (c.q 2) (((c.iy 0 rfl).1.sl).elem (j:=0) (bo (i:=(k:Int)) (by first | omega | exact (fq _).1 | exact (fq _).2) (by first | omega | exact (fq _).1 | exact (fq _).2)) rfl),am fun c=>gF rfl (c.q 3) rfl,bq 4,aE 5 rfl fun c hpc=>aJ rfl (c.p e3),aE 5 rfl fun c hpc=>aJ rfl (c.p e4),aE 5 rfl fun c hpc=>aK rfl cf ey (c.M 6 hpc) r0.isSl (c.M 7 hpc) (by have hq0:=bt hpc;first | omega | exact (fq _).1 | exact (fq _).2) (by have hq0:=bt hpc;first | omega | exact (fq _).1 | exact (fq _).2),aE 5 rfl fun c hpc=>ay rfl iQ (c.M 8 hpc) (((c.iy 0 rfl).1.sl).elem (j:=0) (bo (i:=(k:Int)) (by have hq0:=bt hpc;first | omega | exact (fq _).1 | exact (fq _).2) (by have hq0:=bt hpc;first | omega | exact (fq _).1 | exact (fq _).2)) rfl),aE 5 rfl fun c hpc=>ke rfl (c.M 9 hpc) rfl,bN 5 10,ax⟩ fun ac ag ae ab aa=> ?_;obtain ⟨e2,e3,e4,e10⟩:=aa.k4 e2 e3 e4 e10;have e24:=aa.V 11;replace r0:=aa.iy 0 rfl;refine wp_cond_split e24 (fun hc2=> ?_) (fun hc2=> ?_)
   · have hd2:=hc2;try simp only [av,ai] at hd2
     refine rg [_,_,_,_,_,_,_,_,vM 5 _ 0 3 _] [0,0,0,0,12,28,60,127,255] ab [jy r0] ⟨ao e3,ao e4,ao e3,ao e4,am fun c=>aK rfl cf ey (c.q 2) r0.isSl (c.q 3) (by first | omega | exact (fq _).1 | exact (fq _).2) (by first | omega | exact (fq _).1 | exact (fq _).2),am fun c=>ay rfl iQ (c.q 4) (((c.iy 0 rfl).1.sl).elem (j:=0) (bo (i:=(k:Int)) (by first | omega | exact (fq _).1 | exact (fq _).2) (by first | omega | exact (fq _).1 | exact (fq _).2)) rfl),am fun c=>zq rfl (c.q 5) rfl,am fun c=>aK rfl cf ey (c.q 0) r0.isSl (c.q 1) (by first | omega | exact (fq _).1 | exact (fq _).2) (by first | omega | exact (fq _).1 | exact (fq _).2),nL (i:=(k:Int).toNat) (n:=IntKind.u8.wrap (((nth (fB jJ (bs s) k) (k:Int)).toNat:Int)+32)) rfl rfl rfl rfl ey (by first | omega | exact (fq _).1 | exact (fq _).2) (by first | omega | exact (fq _).1 | exact (fq _).2) (by first | omega | exact (fq _).1 | exact (fq _).2) fun c=>⟨c.yp 0 rfl e3,c.ad (c.n 7 rfl) e3 rfl,(c.n 6 rfl)⟩,ax⟩ fun ac ag ae ab aa=> ?_;obtain ⟨e2,e3,e4,e10,e24⟩:=aa.k5 e2 e3 e4 e10 e24;replace r0:=aa.ry 8 e3 rfl;show _;refine eI ab [jy r0] ⟨ao e4,am fun c=>cP rfl (c.q 0) rfl (by first | omega | exact (fq _).1 | exact (fq _).2),aG 1,ax⟩ fun ac ag ae ab aa=> ?_;obtain ⟨e2,e3,e10,e24⟩:=aa.k4 e2 e3 e10 e24;have e4:=aa.V 2;replace r0:=aa.iy 0 rfl;refine ⟨⟨k+1,ae,?_,ab,(e4.trans (bh (by omega))),e2,e3,?_⟩,?_⟩
     · omega
     · exact r0.cast (by first | exact pe (by omega) (by assumption) | exact nU (by omega) (by assumption))
     · simp only [m4,e4,intOf];omega
   have hd2:=hc2;try simp only [aM,ah,ef] at hd2
   refine wp_skip ?_;show _;refine eI ab [jy r0] ⟨ao e4,am fun c=>cP rfl (c.q 0) rfl (by first | omega | exact (fq _).1 | exact (fq _).2),aG 1,ax⟩ fun ac ag ae ab aa=> ?_;obtain ⟨e2,e3,e10,e24⟩:=aa.k4 e2 e3 e10 e24;have e4:=aa.V 2;replace r0:=aa.iy 0 rfl;refine ⟨⟨k+1,ae,?_,ab,(e4.trans (bh (by omega))),e2,e3,?_⟩,?_⟩
   · omega
   · exact r0.cast (by first | exact pe (by omega) (by assumption) | exact nU (by omega) (by assumption))
   · simp only [m4,e4,intOf];omega
 try simp only [ah,aX] at hc1
 refine wp_exit ?_;repeat (with_reducible refine ce ?_)
 refine ci ?_;refine wp_seq (eI ab [jy r0] ⟨ao e3,am fun c=>nK rfl cf fw bm (c.q 0) (c.iy 0 rfl).1.sl,aG 1,ax⟩ fun ac ag ae ab aa=> ?_);have e2:=aa.V 2;refine wp_ret ?_;refine rp ?_;refine cC (fn:=Tryz.f129) rfl ab.defers e2 ?_;exact ⟨congrArg (fun l_=>Ending.returned (aS ⟨List.toArray l_⟩)) (nP (by omega)),ab.ext0⟩
set_option maxRecDepth 100000 in
theorem wC (v:Value) (xs:List (ByteArray × ByteArray)) (w:World) (hS:SlT iG w v xs) (hz:pb xs) (hbig:xs.length≤1000000000):Calls Tryz.prog 128 #[v] w (fun e w'=>∃v',e= .returned v'∧Ext aY w w'∧oP iG 89 w w' v' (gu xs)):=by
 refine enter (n:=137) Tryz.func128 rfl rfl (aw rfl) ?_;intro a0 τ0 ha st0;have e0:=nf ha;have hle:=hS.le;refine wp_seq (en st0 [] ⟨am fun c=>au rfl rfl,ax⟩ fun ac ag ae ab aa=> ?_);replace e0:=aa.k1 e0;have e2:=aa.V 0;refine wp_seq (en ab [] ⟨am fun c=>au rfl rfl,ax⟩ fun ac ag ae ab aa=> ?_);obtain ⟨e0,e2⟩:=aa.k2 e0 e2;have e3:=aa.V 0;refine wp_seq ?_;refine wp_seq (en ab [] ⟨am fun c=>au rfl rfl,ax⟩ fun ac ag ae ab aa=> ?_);obtain ⟨e0,e2,e3⟩:=aa.k3 e0 e2 e3;have e4:=aa.V 0;refine wp_block ?_;refine wp_loop (fun a_ w_=>∃(i:Nat) (o:Value) (τ:Nat→aQ),(i≤xs.length)∧
      St (Nw w) w 137 a_ w_ τ∧
      aU a_ 3=o∧
      aU a_ 4=(aj (i:Int))∧
      aU a_ 0=v∧
      aU a_ 2=(.slice none 0 0)∧
      dM iG 89 (eF sf ((xs.take i).filter fa)) (τ 0) o w_) (fun a_ _=>xs.length - (intOf (aU a_ 4)).toNat) ?_ ?_
 · refine ⟨0,(.slice none 0 0),ae,?_,ab,e3,(e4.trans (bh (by omega))),e0,e2,?_⟩
   · omega
   · exact dM.nil _ _ _ _
 intro a4 w4 hI;obtain ⟨i,o,τ4,q0,st4,e3,e4,e0,e2,r0⟩:=hI;have hil:=oV (lt:=sf) ((xs.take i).filter fa);have hfl:=yr (f:=fa) (xs:=xs) (k:=i);have hzk:=re hz (k:=i);have m4:=e4;refine wp_seq ?_;refine wp_seq (lE [0,0,2,7] st4 [jo r0] ⟨ao e4,ao e0,am fun c=>cQ rfl ba (c.q 1) hS.sl,am fun c=>df rfl (c.q 0) (c.q 2),ax⟩ fun ac ag ae ab aa=> ?_);obtain ⟨e0,e2,e3,e4⟩:=aa.k4 e0 e2 e3 e4;have e13:=aa.V 3;replace r0:=aa.O 0;refine wp_cond_split e13 (fun hc1=> ?_) (fun hc1=> ?_)
 · try simp only [ai] at hc1
   refine wp_skip ?_;refine wp_seq ?_;refine wp_block ?_;refine wp_seq (rg [_,_,_,_,box _ _ 2 5 [(aS (⟨#[]⟩:ByteArray)),(aS (⟨#[]⟩:ByteArray))],_] [0,0,3,7,0,31] ab [jo r0] ⟨ao e0,ao e4,am fun c=>aK rfl ba bR (c.q 0) hS.sl (c.q 1) (by omega) (by omega),am fun c=>cM (vs:=[(aS ((nth xs (i:Int)).1)),(aS ((nth xs (i:Int)).2))]) rfl gV bR (c.q 2) rfl (fun _ _ hj=>(hS.at (ab.ext.trans c.J.ext)).elem (bo (i:=(i:Int)) (by omega) (by omega)) hj),cK rfl rfl rfl rfl cN rfl,gH (cx:=[(aS ((nth xs (i:Int)).1)),(aS ((nth xs (i:Int)).2))]) (off:=0) rfl bR fun c=>⟨c.rb 4 rfl,(c.rb 4 rfl).ptr,(c.q 3)⟩,ax⟩ fun ac ag ae ab aa=> ?_);obtain ⟨b6x5,e5⟩:=gx ac 5;obtain ⟨e0,e2,e3,e4,e13⟩:=aa.k5 e0 e2 e3 e4 e13;replace r0:=aa.O 0;have r2:=aa.rb 5 e5 rfl;refine wp_seq ?_;refine wp_seq ?_;refine rg [_,_,_,_,_,_,_,_,_,_,_,_,_,_,_,_,_] [0,1,3,7,15,31,63,127,255,511,1023,2047,4095,2047,10239,32767,65535] ab [jo r0,jb r2] ⟨cb bH aZ e5 r2.ptr,dq bG 0 2 0,dR fun c=>⟨_,_,(bj rfl rfl kA (c.q 1)),jM ((nth xs (i:Int)).1) _ (by omega)⟩,am fun c=>dP rfl (c.q 2),bq 3,bu 4 rfl fun c hpc=>cF rfl bH aZ ((c.p e5).trans r2.ptr),bu 4 rfl fun c hpc=>ay rfl bG (c.M 5 hpc) ((c.B 2).cell (j:=1) rfl),fx 4 false rfl fun c hpc=>⟨_,_,(bj rfl rfl kA (c.M 6 hpc)),jM ((nth xs (i:Int)).2) _ (by have hq0:=hpc;(try simp only [aB,az] at hq0);omega)⟩,bu 4 rfl fun c hpc=>dP rfl (c.M 7 hpc),dw 4 8,bq 9,bu 10 rfl fun c hpc=>cF rfl bH aZ ((c.p e5).trans r2.ptr),bu 10 rfl fun c hpc=>ay rfl bG (c.M 11 hpc) ((c.B 2).cell (j:=0) rfl),bu 10 rfl fun c hpc=>cF rfl bH aZ ((c.p e5).trans r2.ptr),bu 10 rfl fun c hpc=>ay rfl bG (c.M 13 hpc) ((c.B 2).cell (j:=1) rfl),bu 10 rfl fun c hpc=>zz rfl (c.M 12 hpc) (c.M 14 hpc),dw 10 15,ax⟩ fun ac ag ae ab aa=> ?_;obtain ⟨e0,e2,e3,e4,e5,e13⟩:=aa.k6 e0 e2 e3 e4 e5 e13;have e36:=aa.V 16;replace r0:=aa.O 0;replace r2:=aa.B 2;refine wp_cond_split e36 (fun hc2=> ?_) (fun hc2=> ?_)
   · have hd2:=hc2;try simp only [aO,aF,aB,az] at hd2
     refine wp_exit ?_;repeat (with_reducible refine ce ?_)
     refine ci ?_;refine eI ab [jo r0,jb r2] ⟨ao e4,am fun c=>cP rfl (c.q 0) rfl (by omega),aG 1,ax⟩ fun ac ag ae ab aa=> ?_;obtain ⟨e0,e2,e3,e5,e13,e36⟩:=aa.k6 e0 e2 e3 e5 e13 e36;have e4:=aa.V 2;replace r0:=aa.O 0;replace r2:=aa.B 2;refine ⟨⟨i+1,o,ae,?_,ab,e3,(e4.trans (bh (by omega))),e0,e2,?_⟩,?_⟩
     · omega
     · exact r0.cast (by first | exact uP (by omega) (xN (by assumption)) q0 q1 (by assumption) | (rw [uM (by omega) (AP (by assumption))]))
     · simp only [m4,e4,intOf];omega
   have hd2:=hc2;try simp only [aO,aF,aB,az] at hd2
   refine wp_skip ?_;refine wp_seq (eI ab [jo r0,jb r2] ⟨ao e3,am fun c=>cQ rfl ba (c.q 0) r0.isSl,aG 1,ax⟩ fun ac ag ae ab aa=> ?_);obtain ⟨e0,e2,e3,e4,e5,e13,e36⟩:=aa.k7 e0 e2 e3 e4 e5 e13 e36;have e6:=aa.V 2;replace r0:=aa.O 0;replace r2:=aa.B 2;refine wp_seq ?_;refine wp_block ?_;refine wp_loop (fun a_ w_=>∃(k:Nat) (τ:Nat→aQ),(k≤(eF sf ((xs.take i).filter fa)).length)∧
          (∀q ∈ (eF sf ((xs.take i).filter fa)).drop k,sf (nth xs (i:Int)) q=true)∧
          St (Nw w) w 137 a_ w_ τ∧
          aU a_ 6=(aj (k:Int))∧
          aU a_ 0=v∧
          aU a_ 2=(.slice none 0 0)∧
          aU a_ 3=o∧
          aU a_ 4=(aj (i:Int))∧
          aU a_ 5=b6x5∧
          aU a_ 13=(aA (decide ((i:Int) < (xs.length:Int))))∧
          aU a_ 36=(aA (((!(dS ((nth xs (i:Int)).1))) || (!(dS ((nth xs (i:Int)).2)))) || (!(oD ((nth xs (i:Int)).1) ((nth xs (i:Int)).2)))))∧
          dM iG 89 (eF sf ((xs.take i).filter fa)) (τ 0) o w_∧
          cd 89 [(aS ((nth xs (i:Int)).1)),(aS ((nth xs (i:Int)).2))] (τ 2) b6x5 w_) (fun a_ _=>(intOf (aU a_ 6)).toNat) ?_ ?_
   · refine ⟨(eF sf ((xs.take i).filter fa)).length,ae,?_,?_,ab,(e6.trans (bh (by omega))),e0,e2,e3,e4,e5,e13,e36,r0,r2⟩
     · omega
     · simp
   intro a10 w10 hI;obtain ⟨k,τ10,q0,q1,st10,e6,e0,e2,e3,e4,e5,e13,e36,r0,r2⟩:=hI;have m6:=e6;refine wp_seq ?_;refine wp_seq ?_;refine rg [_,_,_,_,_,_,_,_,_,_,_,_,_,_,_,_,_,_,_,_,_,_,_,_,_,_,_,_,_,_,_,_,_,_,_] [0,1,3,7,15,7,7,71,231,487,999,2047,4095,8191,16383,8191,8191,73727,237567,499711,1023999,2097151,4194303,8388607,16777215,8388607,8388607,75497471,243269631,511705087,1048575999,2147483647,4294967295,8589934591,17179869183] st10 [jo r0,jb r2] ⟨ao e6,am fun c=>iR rfl (c.q 0) rfl,bq 1,aE 2 rfl fun c hpc=>cF rfl bH aZ ((c.p e5).trans r2.ptr),aE 2 rfl fun c hpc=>ay rfl bG (c.M 3 hpc) ((c.B 2).cell (j:=0) rfl),aE 2 rfl fun c hpc=>aJ rfl (c.p e3),aE 2 rfl fun c hpc=>aJ rfl (c.p e6),aE 2 rfl fun c hpc=>jp rfl (c.M 6 hpc) rfl (by have hq0:=bt hpc;omega),aE 2 rfl fun c hpc=>aK rfl ba bR (c.M 5 hpc) r0.isSl (c.M 7 hpc) (by have hq0:=bt hpc;omega) (by have hq0:=bt hpc;omega),aE 2 rfl fun c hpc=>cF rfl bH aZ (c.M 8 hpc),aE 2 rfl fun c hpc=>ay rfl bG (c.M 9 hpc) (((c.io 0 rfl).1.sl).elem (j:=0) (bo (i:=(k:Int) - 1) (by have hq0:=bt hpc;omega) (by have hq0:=bt hpc;omega)) rfl),aE 2 rfl fun c hpc=>vU rfl (c.M 4 hpc) (c.M 10 hpc),aE 2 rfl fun c hpc=>aJ rfl (c.M 11 hpc),cB 12 false rfl fun c hpc=>cF rfl bH aZ ((c.p e5).trans r2.ptr),cB 12 false rfl fun c hpc=>ay rfl bG (c.M 13 hpc) ((c.B 2).cell (j:=0) rfl),cB 12 false rfl fun c hpc=>aJ rfl (c.p e3),cB 12 false rfl fun c hpc=>aJ rfl (c.p e6),cB 12 false rfl fun c hpc=>jp rfl (c.M 16 hpc) rfl (by have hq0:=hpc.2;have hq1:=bt hpc.1;omega),cB 12 false rfl fun c hpc=>aK rfl ba bR (c.M 15 hpc) r0.isSl (c.M 17 hpc) (by have hq0:=hpc.2;have hq1:=bt hpc.1;omega) (by have hq0:=hpc.2;have hq1:=bt hpc.1;omega),cB 12 false rfl fun c hpc=>cF rfl bH aZ (c.M 18 hpc),cB 12 false rfl fun c hpc=>ay rfl bG (c.M 19 hpc) (((c.io 0 rfl).1.sl).elem (j:=0) (bo (i:=(k:Int) - 1) (by have hq0:=hpc.2;have hq1:=bt hpc.1;omega) (by have hq0:=hpc.2;have hq1:=bt hpc.1;omega)) rfl),cB 12 false rfl fun c hpc=>gh rfl (c.M 14 hpc) (c.M 20 hpc),cB 12 false rfl fun c hpc=>aJ rfl (c.M 21 hpc),cB 22 true rfl fun c hpc=>cF rfl bH aZ ((c.p e5).trans r2.ptr),cB 22 true rfl fun c hpc=>ay rfl bG (c.M 23 hpc) ((c.B 2).cell (j:=1) rfl),cB 22 true rfl fun c hpc=>aJ rfl (c.p e3),cB 22 true rfl fun c hpc=>aJ rfl (c.p e6),cB 22 true rfl fun c hpc=>jp rfl (c.M 26 hpc) rfl (by have hq0:=hpc.2;have hq1:=hpc.1.2;have hq2:=bt hpc.1.1;omega),cB 22 true rfl fun c hpc=>aK rfl ba bR (c.M 25 hpc) r0.isSl (c.M 27 hpc) (by have hq0:=hpc.2;have hq1:=hpc.1.2;have hq2:=bt hpc.1.1;omega) (by have hq0:=hpc.2;have hq1:=hpc.1.2;have hq2:=bt hpc.1.1;omega),cB 22 true rfl fun c hpc=>cF rfl bH aZ (c.M 28 hpc),cB 22 true rfl fun c hpc=>ay rfl bG (c.M 29 hpc) (((c.io 0 rfl).1.sl).elem (j:=1) (bo (i:=(k:Int) - 1) (by have hq0:=hpc.2;have hq1:=hpc.1.2;have hq2:=bt hpc.1.1;omega) (by have hq0:=hpc.2;have hq1:=hpc.1.2;have hq2:=bt hpc.1.1;omega)) rfl),cB 22 true rfl fun c hpc=>vU rfl (c.M 24 hpc) (c.M 30 hpc),cB 12 false rfl fun c hpc=>ly rfl (c.M 22 hpc) (fun h=>c.m 31 rfl (And.intro hpc h)),aE 2 rfl fun c hpc=>oO rfl (c.M 12 hpc) (fun h=>c.m 32 rfl (And.intro hpc h)),bN 2 33,ax⟩ fun ac ag ae ab aa=> ?_;obtain ⟨e0,e2,e3,e4,e5,e6,e13,e36⟩:=aa.k8 e0 e2 e3 e4 e5 e6 e13 e36;have e73:=aa.V 34;replace r0:=aa.O 0;replace r2:=aa.B 2;refine wp_cond_split e73 (fun hc3=> ?_) (fun hc3=> ?_)
   · have hd3:=hc3;try simp only [av,aO,ai] at hd3
     refine wp_skip ?_;refine wp_block ?_;refine eI ab [jo r0,jb r2] ⟨ao e6,am fun c=>jp rfl (c.q 0) rfl (by omega),aG 1,ax⟩ fun ac ag ae ab aa=> ?_;obtain ⟨e0,e2,e3,e4,e5,e13,e36,e73⟩:=aa.k8 e0 e2 e3 e4 e5 e13 e36 e73;have e6:=aa.V 2;replace r0:=aa.O 0;replace r2:=aa.B 2;show _;refine ⟨⟨k - 1,ae,?_,?_,ab,(e6.trans (bh (by omega))),e0,e2,e3,e4,e5,e13,e36,r0,r2⟩,?_⟩
     · omega
     · exact yk (lt:=sf) (by omega) q0 q1 (Gk (a:=decide ((0:Int) < (k:Int))) (by assumption))
     · simp only [m6,e6,intOf];omega
   have hd3:=hc3;try simp only [aM,aF,ah,aX] at hd3
   refine wp_exit ?_;repeat (with_reducible refine ce ?_)
   refine ci ?_;refine rg [own iG 89 _ 3 76 ([]),_,_,_,own _ _ _ 3 80 _,_,own iG 89 _ 4 82 ([(nth xs (i:Int))]),own _ _ _ 3 83 _,_,_,_,own _ _ _ 3 87 _,own _ _ _ 3 3 _] [0,0,0,6,15,0,32,127,0,0,768,2047,4095] ab [jo r0,jb r2] ⟨kx rfl rfl rfl rfl ba bR,ao e3,ao e6,am fun c=>sj rfl ba bR (c.q 1) r0.isSl (c.q 2) (by omega) (by omega),eH (t0:=76) rfl rfl rfl rfl ba (i:=Tryz.t89) rfl rfl rfl rfl (by simp only [maxLen];(try simp);omega) (by show _ * 32≤_;(try simp);omega) (fun _ _ _ _ c=>⟨c.ro 0 rfl,rfl,⟨_,(c.n 3 rfl),((c.io 0 rfl).1.sl.sub (lo:=0) (hi:=k) (by omega) (by omega))⟩⟩),am fun c=>eA rfl gV bR ((c.p e5).trans r2.ptr) (c.B 2),cX (cells:=#[(aS ((nth xs (i:Int)).1)),(aS ((nth xs (i:Int)).2))]) rfl rfl rfl rfl ba bR cN rfl (by decide) (by decide) (fun _ _ _ _ c=>gq (c.n 5 rfl) (by kernel_rfl)) rfl,eH (t0:=80) rfl rfl rfl rfl ba (i:=Tryz.t89) rfl rfl rfl rfl (by simp only [maxLen];(try simp);omega) (by show _ * 32≤_;(try simp);omega) (fun _ _ _ _ c=>⟨c.ro 4 rfl,rfl,⟨_,rfl,(c.ro 6 rfl).1.sl⟩⟩),ao e3,ao e6,am fun c=>pC rfl ba bR (c.q 8) r0.isSl (c.q 9) (by omega) (by omega),eH (t0:=83) rfl rfl rfl rfl ba (i:=Tryz.t89) rfl rfl rfl rfl (by simp only [maxLen];(try simp);omega) (by show _ * 32≤_;(try simp);omega) (fun _ _ _ _ c=>⟨c.ro 7 rfl,rfl,⟨_,(c.n 10 rfl),((c.io 0 rfl).1.sl.sub (lo:=k) (hi:=(eF sf ((xs.take i).filter fa)).length) (by omega) (by omega))⟩⟩),dx (t0:=87) rfl rfl rfl rfl rfl (.inr rfl) (fun _ _ _ _ c=>⟨c.ro 11 rfl,rfl⟩),ax⟩ fun ac ag ae ab aa=> ?_;obtain ⟨b13x3,e3⟩:=gx ac 3;obtain ⟨b13x82,e82⟩:=gx ac 82;obtain ⟨e0,e2,e4,e5,e6,e13,e36,e73⟩:=aa.k8 e0 e2 e4 e5 e6 e13 e36 e73;replace r0:=aa.O 0;replace r2:=aa.B 2;have r3:=aa.ro 12 e3 rfl;have r4:=aa.ro 6 e82 rfl;show _;refine eI ab [jo r0,jb r2,jo r3,jo r4] ⟨ao e4,am fun c=>cP rfl (c.q 0) rfl (by omega),aG 1,ax⟩ fun ac ag ae ab aa=> ?_;obtain ⟨e0,e2,e3,e5,e6,e13,e36,e73⟩:=aa.k8 e0 e2 e3 e5 e6 e13 e36 e73;have e4:=aa.V 2;replace r0:=aa.O 0;replace r2:=aa.B 2;replace r3:=aa.O 3;replace r4:=aa.O 4;refine ⟨⟨i+1,b13x3,(retag ae [(0,3)]),?_,(ab.retag [(0,3)] (by decide)),e3,(e4.trans (bh (by omega))),e0,e2,?_⟩,?_⟩
   · omega
   · exact r3.cast (by first | exact uP (by omega) (xN (by assumption)) q0 q1 (by assumption) | (rw [uM (by omega) (AP (by assumption))]))
   · simp only [m4,e4,intOf];omega
 try simp only [ah,aX] at hc1
 refine wp_exit ?_;repeat (with_reducible refine ce ?_)
 refine ci ?_;refine wp_seq (en ab [jo r0] ⟨am fun c=>au rfl rfl,ax⟩ fun ac ag ae ab aa=> ?_);obtain ⟨e2,e3⟩:=aa.k2 e2 e3;have e7:=aa.V 0;replace r0:=aa.O 0;replace r0:=r0.cast (show eF nu (xs.filter fa)=(eF sf ((xs.take i).filter fa)) from by rw [bB (by omega),Ez]);have hil:=nw xs;refine wp_seq ?_;refine wp_seq (en ab [jo r0] ⟨am fun c=>au rfl rfl,ax⟩ fun ac ag ae ab aa=> ?_);obtain ⟨e2,e3,e7⟩:=aa.k3 e2 e3 e7;have e8:=aa.V 0;replace r0:=aa.O 0;refine wp_block ?_;refine wp_loop (fun a_ w_=>∃(m:Nat) (u:Value) (τ:Nat→aQ),(m≤(eF nu (xs.filter fa)).length)∧
      St (Nw w) w 137 a_ w_ τ∧
      aU a_ 7=u∧
      aU a_ 8=(aj (m:Int))∧
      aU a_ 2=(.slice none 0 0)∧
      aU a_ 3=o∧
      dM iG 89 (gj ((eF nu (xs.filter fa)).take m)) (τ 1) u w_∧
      dM iG 89 (eF nu (xs.filter fa)) (τ 0) o w_) (fun a_ _=>(eF nu (xs.filter fa)).length - (intOf (aU a_ 8)).toNat) ?_ ?_
 · refine ⟨0,(.slice none 0 0),ae,?_,ab,e7,(e8.trans (bh (by omega))),e2,e3,?_,r0⟩
   · omega
   · exact dM.nil _ _ _ _
 intro a17 w17 hI;obtain ⟨m,u,τ17,q0,st17,e7,e8,e2,e3,r1,r0⟩:=hI;have hjl:=wi (xs:=(eF nu (xs.filter fa))) (k:=m);have m8:=e8;refine wp_seq ?_;refine wp_seq (lE [0,0,2,7] st17 [jo r0,jo r1] ⟨ao e8,ao e3,am fun c=>cQ rfl ba (c.q 1) r0.isSl,am fun c=>df rfl (c.q 0) (c.q 2),ax⟩ fun ac ag ae ab aa=> ?_);obtain ⟨e2,e3,e7,e8⟩:=aa.k4 e2 e3 e7 e8;have e91:=aa.V 3;replace r0:=aa.O 0;replace r1:=aa.O 1;refine wp_cond_split e91 (fun hc4=> ?_) (fun hc4=> ?_)
 · try simp only [ai] at hc4
   refine wp_skip ?_;refine wp_seq ?_;refine wp_block ?_;refine wp_seq (eI ab [jo r0,jo r1] ⟨ao e7,am fun c=>cQ rfl ba (c.q 0) r1.isSl,aG 1,ax⟩ fun ac ag ae ab aa=> ?_);obtain ⟨e2,e3,e7,e8,e91⟩:=aa.k5 e2 e3 e7 e8 e91;have e9:=aa.V 2;replace r0:=aa.O 0;replace r1:=aa.O 1;refine wp_seq ?_;refine rg [_,_,_,_,_,_,_,_,_,_,_,_,_,_,_,_] [0,1,3,7,7,31,63,127,7,7,519,1799,3847,7943,16383,32767] ab [jo r0,jo r1] ⟨ao e9,am fun c=>iR rfl (c.q 0) rfl,bq 1,aE 2 rfl fun c hpc=>aJ rfl (c.p e3),aE 2 rfl fun c hpc=>aJ rfl (c.p e8),aE 2 rfl fun c hpc=>aK rfl ba bR (c.M 3 hpc) r0.isSl (c.M 4 hpc) (by have hq0:=bt hpc;omega) (by have hq0:=bt hpc;omega),aE 2 rfl fun c hpc=>cF rfl bH aZ (c.M 5 hpc),aE 2 rfl fun c hpc=>ay rfl bG (c.M 6 hpc) (((c.io 0 rfl).1.sl).elem (j:=0) (bo (i:=(m:Int)) (by have hq0:=bt hpc;omega) (by have hq0:=bt hpc;omega)) rfl),aE 2 rfl fun c hpc=>aJ rfl (c.p e7),aE 2 rfl fun c hpc=>aJ rfl (c.p e9),aE 2 rfl fun c hpc=>jp rfl (c.M 9 hpc) rfl (by have hq0:=bt hpc;omega),aE 2 rfl fun c hpc=>aK rfl ba bR (c.M 8 hpc) r1.isSl (c.M 10 hpc) (by have hq0:=bt hpc;omega) (by have hq0:=bt hpc;omega),aE 2 rfl fun c hpc=>cF rfl bH aZ (c.M 11 hpc),aE 2 rfl fun c hpc=>ay rfl bG (c.M 12 hpc) (((c.io 1 rfl).1.sl).elem (j:=1) (bo (i:=((gj ((eF nu (xs.filter fa)).take m)).length:Int) - 1) (by have hq0:=bt hpc;omega) (by have hq0:=bt hpc;omega)) rfl),aE 2 rfl fun c hpc=>nq rfl (c.M 7 hpc) (c.M 13 hpc),bN 2 14,ax⟩ fun ac ag ae ab aa=> ?_;obtain ⟨e2,e3,e7,e8,e9,e91⟩:=aa.k6 e2 e3 e7 e8 e9 e91;have e111:=aa.V 15;replace r0:=aa.O 0;replace r1:=aa.O 1;refine wp_cond_split e111 (fun hc5=> ?_) (fun hc5=> ?_)
   · have hd5:=hc5;try simp only [av,ai] at hd5
     refine rg [_,_,_,_,_,_,_,_,_,_,_,_,_,_,_,_,_,own _ _ _ 1 7 _] [0,0,2,0,0,16,56,120,248,0,0,1536,3584,7680,16376,32767,65535,131071] ab [jo r0,jo r1] ⟨ao e7,ao e9,am fun c=>jp rfl (c.q 1) rfl (by omega),ao e7,ao e9,am fun c=>jp rfl (c.q 4) rfl (by omega),am fun c=>aK rfl ba bR (c.q 3) r1.isSl (c.q 5) (by omega) (by omega),br bH aZ 6 rfl,am fun c=>ay rfl bG (c.q 7) (((c.io 1 rfl).1.sl).elem (j:=1) (bo (i:=((gj ((eF nu (xs.filter fa)).take m)).length:Int) - 1) (by omega) (by omega)) rfl),ao e3,ao e8,am fun c=>aK rfl ba bR (c.q 9) r0.isSl (c.q 10) (by omega) (by omega),br bH aZ 11 rfl,am fun c=>ay rfl bG (c.q 12) (((c.io 0 rfl).1.sl).elem (j:=1) (bo (i:=(m:Int)) (by omega) (by omega)) rfl),am fun c=>Em rfl (c.q 8) (c.q 13),am fun c=>aK rfl ba bR (c.q 0) r1.isSl (c.q 2) (by omega) (by omega),br bH aZ 15 rfl,mE (E:=iG) (i:=(((gj ((eF nu (xs.filter fa)).take m)).length:Int) - 1).toNat) (off:=1) (u:=(aS (qj ((nth (gj ((eF nu (xs.filter fa)).take m)) (((gj ((eF nu (xs.filter fa)).take m)).length:Int) - 1)).2) ((nth (eF nu (xs.filter fa)) (m:Int)).2)))) (x:=nth (gj ((eF nu (xs.filter fa)).take m)) (((gj ((eF nu (xs.filter fa)).take m)).length:Int) - 1)) (x':=((nth (gj ((eF nu (xs.filter fa)).take m)) (((gj ((eF nu (xs.filter fa)).take m)).length:Int) - 1)).1,qj ((nth (gj ((eF nu (xs.filter fa)).take m)) (((gj ((eF nu (xs.filter fa)).take m)).length:Int) - 1)).2) ((nth (eF nu (xs.filter fa)) (m:Int)).2))) rfl rfl rfl rfl aZ (bo (by omega) (by (try simp only [dH]);omega)) (aw rfl) (by simp [Value.cells,Value.oneCell',Sv.v]) rfl (fun _ a_ _ _ c=>⟨c.ip 1 rfl e7,c.ad (c.n 16 rfl) e7 (by rw [add_add];rfl),(c.n 14 rfl)⟩),ax⟩ fun ac ag ae ab aa=> ?_;obtain ⟨e2,e3,e7,e8,e9,e91,e111⟩:=aa.k7 e2 e3 e7 e8 e9 e91 e111;replace r0:=aa.O 0;replace r1:=aa.ro 17 e7 rfl;show _;refine eI ab [jo r0,jo r1] ⟨ao e8,am fun c=>cP rfl (c.q 0) rfl (by omega),aG 1,ax⟩ fun ac ag ae ab aa=> ?_;obtain ⟨e2,e3,e7,e9,e91,e111⟩:=aa.k6 e2 e3 e7 e9 e91 e111;have e8:=aa.V 2;replace r0:=aa.O 0;replace r1:=aa.O 1;refine ⟨⟨m+1,u,ae,?_,ab,e7,(e8.trans (bh (by omega))),e2,e3,?_,r0⟩,?_⟩
     · omega
     · exact r1.cast (by first | exact sE (by omega) (pd (by assumption)) | exact rh (by omega) (pd (by assumption)))
     · simp only [m8,e8,intOf];omega
   have hd5:=hc5;try simp only [aM,ah,aX] at hd5
   refine rg [_,_,_,_,_,own iG 89 _ 2 134 ([(nth (eF nu (xs.filter fa)) (m:Int))]),own _ _ _ 1 135 _,own _ _ _ 1 7 _] [0,0,0,6,14,30,63,127] ab [jo r0,jo r1] ⟨ao e7,ao e3,ao e8,am fun c=>aK rfl ba bR (c.q 1) r0.isSl (c.q 2) (by omega) (by omega),am fun c=>cM (vs:=[(aS ((nth (eF nu (xs.filter fa)) (m:Int)).1)),(aS ((nth (eF nu (xs.filter fa)) (m:Int)).2))]) rfl gV bR (c.q 3) rfl (fun _ _ hj=>((c.io 0 rfl).1.sl).elem (bo (i:=(m:Int)) (by omega) (by omega)) hj),cX (cells:=#[(aS ((nth (eF nu (xs.filter fa)) (m:Int)).1)),(aS ((nth (eF nu (xs.filter fa)) (m:Int)).2))]) rfl rfl rfl rfl ba bR cN rfl (by decide) (by decide) (fun _ _ _ _ c=>gq (c.n 4 rfl) (by kernel_rfl)) rfl,eH (t0:=7) rfl rfl rfl rfl ba (i:=Tryz.t89) rfl rfl rfl rfl (by simp only [maxLen];(try simp);omega) (by show _ * 32≤_;(try simp);omega) (fun _ _ _ _ c=>⟨c.ip 1 rfl e7,c.sm (c.n 0 rfl) e7,⟨_,rfl,(c.ro 5 rfl).1.sl⟩⟩),dx (t0:=135) rfl rfl rfl rfl rfl (.inr rfl) (fun _ _ _ _ c=>⟨c.ro 6 rfl,rfl⟩),ax⟩ fun ac ag ae ab aa=> ?_;obtain ⟨b23x134,e134⟩:=gx ac 134;obtain ⟨b23x7,e7⟩:=gx ac 7;obtain ⟨e2,e3,e8,e9,e91,e111⟩:=aa.k6 e2 e3 e8 e9 e91 e111;replace r0:=aa.O 0;replace r1:=aa.ro 7 e7 rfl;have r2:=aa.ro 5 e134 rfl;show _;refine eI ab [jo r0,jo r1,jo r2] ⟨ao e8,am fun c=>cP rfl (c.q 0) rfl (by omega),aG 1,ax⟩ fun ac ag ae ab aa=> ?_;obtain ⟨e2,e3,e7,e9,e91,e111⟩:=aa.k6 e2 e3 e7 e9 e91 e111;have e8:=aa.V 2;replace r0:=aa.O 0;replace r1:=aa.O 1;replace r2:=aa.O 2;refine ⟨⟨m+1,b23x7,ae,?_,ab,e7,(e8.trans (bh (by omega))),e2,e3,?_,r0⟩,?_⟩
   · omega
   · exact r1.cast (by first | exact sE (by omega) (pd (by assumption)) | exact rh (by omega) (pd (by assumption)))
   · simp only [m8,e8,intOf];omega
 try simp only [ah,aX] at hc4
 refine wp_exit ?_;repeat (with_reducible refine ce ?_)
 refine ci ?_;refine wp_seq (es ab [jo r0,jo r1] ⟨ao e7,aG 0,ax⟩ fun ac ag ae ab aa=> ?_);have e2:=aa.V 1;replace r1:=aa.O 1;refine wp_ret ?_;refine rp ?_;refine cC (fn:=Tryz.f128) rfl ab.defers e2 ?_;replace r1:=r1.cast (show gu xs=_ from by rw [gu,bB (l:=(eF nu (xs.filter fa))) (by omega)]);exact ⟨_,rfl,ab.ext0,r1.1,fun g_ h_=>(ab.bnd _ g_ (r1.2 g_ h_)).1⟩
set_option maxRecDepth 100000 in
theorem EO (v:Value) (xs:List (ByteArray × ByteArray)) (s:ByteArray) (w:World) (hS:SlT iG w v xs):Calls Tryz.prog 133 #[v,(aS s)] w (fun e w'=>e= .returned (aA (ur xs s))∧Ext aY w w'):=by
 refine enter (n:=24) Tryz.func133 rfl rfl (aw rfl) ?_;intro a0 τ0 ha st0;obtain ⟨e0,e1⟩:=qr ha;have hle:=hS.le;refine wp_seq (en st0 [] ⟨am fun c=>au rfl rfl,ax⟩ fun ac ag ae ab aa=> ?_);obtain ⟨e0,e1⟩:=aa.k2 e0 e1;have e4:=aa.V 0;refine wp_seq ?_;refine wp_seq (zi [0,1,0] ab [] ⟨ao e0,am fun c=>cQ rfl ba (c.q 0) hS.sl,am fun c=>aJ rfl rfl,ax⟩ fun ac ag ae ab aa=> ?_);obtain ⟨e1,e4⟩:=aa.k2 e1 e4;have e7:=aa.V 0;have e8:=aa.V 1;have e9:=aa.V 2;refine wp_block ?_;refine wp_loop (fun a_ w_=>∃(k:Nat) (τ:Nat→aQ),(k≤xs.length)∧
      (∀i < k,(oD (nth xs ((i:Nat):Int)).1 s&&oD s (nth xs ((i:Nat):Int)).2)=false)∧
      St (Nw w) w 24 a_ w_ τ∧
      aU a_ 9=(aj (k:Int))∧
      aU a_ 1=(aS s)∧
      aU a_ 7=v∧
      aU a_ 8=(aj (xs.length:Int))) (fun a_ _=>xs.length - (intOf (aU a_ 9)).toNat) ?_ ?_
 · refine ⟨0,ae,?_,?_,ab,(e9.trans (bh (by omega))),e1,e7,e8⟩
   · omega
   · intro i hi;omega
 intro a3 w3 hI;obtain ⟨k,τ3,q0,q1,st3,e9,e1,e7,e8⟩:=hI;have m9:=e9;refine wp_seq (en st3 [] ⟨am fun c=>df rfl (c.p e9) (c.p e8),ax⟩ fun ac ag ae ab aa=> ?_);obtain ⟨e1,e7,e8,e9⟩:=aa.k4 e1 e7 e8 e9;have e10:=aa.V 0;refine wp_seq ?_;refine wp_cond_split e10 (fun hc1=> ?_) (fun hc1=> ?_)
 · try simp only [ai] at hc1
   refine wp_skip ?_;refine wp_seq ?_;refine wp_block ?_;refine wp_seq (rg [_,_,box _ _ 0 6 [(aS (⟨#[]⟩:ByteArray)),(aS (⟨#[]⟩:ByteArray))],_] [0,1,0,7] ab [] ⟨am fun c=>aK rfl ba bR (c.p e7) hS.sl (c.p e9) (by omega) (by omega),am fun c=>cM (vs:=[(aS ((nth xs (k:Int)).1)),(aS ((nth xs (k:Int)).2))]) rfl gV bR (c.q 0) rfl (fun _ _ hj=>(hS.at (ab.ext.trans c.J.ext)).elem (bo (i:=(k:Int)) (by omega) (by omega)) hj),cK rfl rfl rfl rfl cN rfl,gH (cx:=[(aS ((nth xs (k:Int)).1)),(aS ((nth xs (k:Int)).2))]) (off:=0) rfl bR fun c=>⟨c.rb 2 rfl,(c.rb 2 rfl).ptr,(c.q 1)⟩,ax⟩ fun ac ag ae ab aa=> ?_);obtain ⟨b5x6,e6⟩:=gx ac 6;obtain ⟨e1,e7,e8,e9,e10⟩:=aa.k5 e1 e7 e8 e9 e10;have r0:=aa.rb 3 e6 rfl;refine wp_seq (uE [0,1,0,7,15,31,31,95,255,511] ab [jb r0] ⟨cb bH aZ e6 r0.ptr,dq bG 0 0 0,ao e1,am fun c=>nq rfl (c.q 1) (c.q 2),bq 3,aE 4 rfl fun c hpc=>aJ rfl (c.p e1),aE 4 rfl fun c hpc=>cF rfl bH aZ ((c.p e6).trans r0.ptr),aE 4 rfl fun c hpc=>ay rfl bG (c.M 6 hpc) ((c.B 0).cell (j:=1) rfl),aE 4 rfl fun c hpc=>nq rfl (c.M 5 hpc) (c.M 7 hpc),bN 4 8,ax⟩ fun ac ag ae ab aa=> ?_);obtain ⟨e1,e6,e7,e8,e9,e10⟩:=aa.k6 e1 e6 e7 e8 e9 e10;have e22:=aa.V 9;replace r0:=aa.B 0;refine wp_cond_split e22 (fun hc2=> ?_) (fun hc2=> ?_)
   · have hd2:=hc2;try simp only [av] at hd2
     refine wp_seq (en ab [jb r0] ⟨am fun c=>au rfl rfl,ax⟩ fun ac ag ae ab aa=> ?_);obtain ⟨e1,e6,e7,e8,e9,e10,e22⟩:=aa.k7 e1 e6 e7 e8 e9 e10 e22;have e4:=aa.V 0;replace r0:=aa.B 0;refine wp_ret ?_;refine rp ?_;refine cC (fn:=Tryz.f133) rfl ab.defers e4 ?_;exact ⟨congrArg _ (congrArg _ (by exact (xl (k:=k) (by omega) (by assumption)).symm)),ab.ext0⟩
   have hd2:=hc2;try simp only [aM] at hd2
   refine wp_skip ?_;show _;refine es ab [jb r0] ⟨am fun c=>cP rfl (c.p e9) rfl (by omega),bq 0,ax⟩ fun ac ag ae ab aa=> ?_;obtain ⟨e1,e6,e7,e8,e10,e22⟩:=aa.k6 e1 e6 e7 e8 e10 e22;have e9:=aa.V 1;replace r0:=aa.B 0;refine ⟨⟨k+1,ae,?_,?_,ab,(e9.trans (bh (by omega))),e1,e7,e8⟩,?_⟩
   · omega
   · exact nT (f:=fun i=>(oD (nth xs i).1 s&&oD s (nth xs i).2)) q1 (by assumption)
   · simp only [m9,e9,intOf];omega
 try simp only [ah,aX] at hc1
 refine wp_exit ?_;repeat (with_reducible refine ce ?_)
 refine ci ?_;refine wp_seq (en ab [] ⟨am fun c=>au rfl rfl,ax⟩ fun ac ag ae ab aa=> ?_);have e4:=aa.V 0;refine wp_ret ?_;refine rp ?_;refine cC (fn:=Tryz.f133) rfl ab.defers e4 ?_;exact ⟨congrArg _ (congrArg _ (by exact (Aa (k:=k) (by omega) q1).symm)),ab.ext0⟩
set_option maxRecDepth 100000 in
theorem ug (v:Value) (xs:List (ByteArray × ByteArray)) (s:ByteArray) (w:World) (hS:SlT iG w v xs):Calls Tryz.prog 145 #[v,(aS s)] w (fun e w'=>e= .returned (aA (ur xs s))∧Ext aY w w'):=by
 refine enter (n:=28) Tryz.func145 rfl rfl (aw rfl) ?_;intro a0 τ0 ha st0;obtain ⟨e0,e1⟩:=qr ha;have hle:=hS.le;refine wp_seq (en st0 [] ⟨am fun c=>au rfl rfl,ax⟩ fun ac ag ae ab aa=> ?_);obtain ⟨e0,e1⟩:=aa.k2 e0 e1;have e4:=aa.V 0;refine wp_seq ?_;refine wp_seq (en ab [] ⟨am fun c=>au rfl rfl,ax⟩ fun ac ag ae ab aa=> ?_);obtain ⟨e0,e1,e4⟩:=aa.k3 e0 e1 e4;have e5:=aa.V 0;refine wp_block ?_;refine wp_loop (fun a_ w_=>∃(k:Nat) (τ:Nat→aQ),(k≤xs.length)∧
      (∀i < k,(oD (nth xs ((i:Nat):Int)).1 s&&oD s (nth xs ((i:Nat):Int)).2)=false)∧
      St (Nw w) w 28 a_ w_ τ∧
      aU a_ 5=(aj (k:Int))∧
      aU a_ 0=v∧
      aU a_ 1=(aS s)) (fun a_ _=>xs.length - (intOf (aU a_ 5)).toNat) ?_ ?_
 · refine ⟨0,ae,?_,?_,ab,(e5.trans (bh (by omega))),e0,e1⟩
   · omega
   · intro i hi;omega
 intro a3 w3 hI;obtain ⟨k,τ3,q0,q1,st3,e5,e0,e1⟩:=hI;have m5:=e5;refine wp_seq ?_;refine wp_seq (lE [0,0,2,7] st3 [] ⟨ao e5,ao e0,am fun c=>cQ rfl ba (c.q 1) hS.sl,am fun c=>df rfl (c.q 0) (c.q 2),ax⟩ fun ac ag ae ab aa=> ?_);obtain ⟨e0,e1,e5⟩:=aa.k3 e0 e1 e5;have e9:=aa.V 3;refine wp_cond_split e9 (fun hc1=> ?_) (fun hc1=> ?_)
 · try simp only [ai] at hc1
   refine wp_skip ?_;refine wp_seq ?_;refine wp_block ?_;refine wp_seq ?_;refine rg [_,_,_,_,_,_,_,_,_,_,_,_,_,_,_,_] [0,0,3,7,15,0,63,127,255,255,255,1791,3839,7935,16383,32767] ab [] ⟨ao e0,ao e5,am fun c=>aK rfl ba bR (c.q 0) hS.sl (c.q 1) (by omega) (by omega),br bH aZ 2 rfl,am fun c=>ay rfl bG (c.q 3) ((hS.at (ab.ext.trans c.J.ext)).elem (j:=0) (bo (i:=(k:Int)) (by omega) (by omega)) rfl),ao e1,am fun c=>nq rfl (c.q 4) (c.q 5),bq 6,aE 7 rfl fun c hpc=>aJ rfl (c.p e1),aE 7 rfl fun c hpc=>aJ rfl (c.p e0),aE 7 rfl fun c hpc=>aJ rfl (c.p e5),aE 7 rfl fun c hpc=>aK rfl ba bR (c.M 9 hpc) hS.sl (c.M 10 hpc) (by have hq0:=hpc;omega) (by have hq0:=hpc;omega),aE 7 rfl fun c hpc=>cF rfl bH aZ (c.M 11 hpc),aE 7 rfl fun c hpc=>ay rfl bG (c.M 12 hpc) ((hS.at (ab.ext.trans c.J.ext)).elem (j:=1) (bo (i:=(k:Int)) (by have hq0:=hpc;omega) (by have hq0:=hpc;omega)) rfl),aE 7 rfl fun c hpc=>nq rfl (c.M 8 hpc) (c.M 13 hpc),bN 7 14,ax⟩ fun ac ag ae ab aa=> ?_;obtain ⟨e0,e1,e5,e9⟩:=aa.k4 e0 e1 e5 e9;have e27:=aa.V 15;refine wp_cond_split e27 (fun hc2=> ?_) (fun hc2=> ?_)
   · have hd2:=hc2;try simp only [av] at hd2
     refine wp_seq (en ab [] ⟨am fun c=>au rfl rfl,ax⟩ fun ac ag ae ab aa=> ?_);obtain ⟨e0,e1,e5,e9,e27⟩:=aa.k5 e0 e1 e5 e9 e27;have e4:=aa.V 0;refine wp_ret ?_;refine rp ?_;refine cC (fn:=Tryz.f145) rfl ab.defers e4 ?_;exact ⟨congrArg _ (congrArg _ (by exact (xl (k:=k) (by omega) (by assumption)).symm)),ab.ext0⟩
   have hd2:=hc2;try simp only [aM] at hd2
   refine wp_skip ?_;show _;refine eI ab [] ⟨ao e5,am fun c=>cP rfl (c.q 0) rfl (by omega),aG 1,ax⟩ fun ac ag ae ab aa=> ?_;obtain ⟨e0,e1,e9,e27⟩:=aa.k4 e0 e1 e9 e27;have e5:=aa.V 2;refine ⟨⟨k+1,ae,?_,?_,ab,(e5.trans (bh (by omega))),e0,e1⟩,?_⟩
   · omega
   · exact nT (f:=fun i=>(oD (nth xs i).1 s&&oD s (nth xs i).2)) q1 (by assumption)
   · simp only [m5,e5,intOf];omega
 try simp only [ah,aX] at hc1
 refine wp_exit ?_;repeat (with_reducible refine ce ?_)
 refine ci ?_;refine wp_seq (en ab [] ⟨am fun c=>au rfl rfl,ax⟩ fun ac ag ae ab aa=> ?_);have e4:=aa.V 0;refine wp_ret ?_;refine rp ?_;refine cC (fn:=Tryz.f145) rfl ab.defers e4 ?_;exact ⟨congrArg _ (congrArg _ (by exact (Aa (k:=k) (by omega) q1).symm)),ab.ext0⟩
set_option maxRecDepth 100000 in
theorem rP (n:Int) (w:World):Calls Tryz.prog 130 #[.int .u8 n] w (fun e w'=>∃v',e= .returned (.tuple #[v',aA (hH n)])∧Ext aY w w'∧oP iG 89 w w' v' (gv n)):=by
 refine enter (n:=21) Tryz.func130 rfl rfl (aw rfl) ?_;intro a0 τ0 ha st0;have e0:=nf ha;refine wp_seq (es st0 [] ⟨am fun c=>au rfl rfl,am fun c=>au rfl rfl,ax⟩ fun ac ag ae ab aa=> ?_);replace e0:=aa.k1 e0;have e2:=aa.V 0;have e3:=aa.V 1;refine wp_seq ?_;refine wp_seq (en ab [] ⟨ao e0,ax⟩ fun ac ag ae ab aa=> ?_);obtain ⟨e2,e3⟩:=aa.k2 e2 e3;have e4:=aa.V 0;refine wp_block ?_;refine wp_seq (es ab [] ⟨am fun c=>bV rfl (c.p e4) rfl,aG 0,ax⟩ fun ac ag ae ab aa=> ?_);obtain ⟨e2,e3,e4⟩:=aa.k3 e2 e3 e4;have e5:=aa.V 1;refine wp_cond_split e5 (fun hc1=> ?_) (fun hc1=> ?_)
 · try simp only [ai] at hc1
   refine wp_seq (rg [_,own iG 89 _ 0 8 ([((⟨#[48]⟩:ByteArray),(⟨#[57]⟩:ByteArray))]),own _ _ _ 0 2 _,_] [0,1,3,7] ab [] ⟨am fun c=>pY (cells:=#[(aS (⟨#[48]⟩:ByteArray)),(aS (⟨#[57]⟩:ByteArray))]) rfl cN (ia rfl rfl rfl),cX (cells:=#[(aS (⟨#[48]⟩:ByteArray)),(aS (⟨#[57]⟩:ByteArray))]) rfl rfl rfl rfl ba bR cN rfl (by decide) (by decide) (fun _ _ _ _ c=>gq (c.n 0 rfl) (by kernel_rfl)) rfl,dx (t0:=8) rfl rfl rfl rfl rfl (.inr rfl) (fun _ _ _ _ c=>⟨c.ro 1 rfl,rfl⟩),am fun c=>au rfl rfl,ax⟩ fun ac ag ae ab aa=> ?_);obtain ⟨b4x2,e2⟩:=gx ac 2;replace e4:=aa.k1 e4;have e3:=aa.V 3;have r0:=aa.ro 2 e2 rfl;refine wp_ret ?_;refine rp ?_;refine jB (fn:=Tryz.f130) rfl ab.defers e2 e3 ?_;obtain ⟨k1,k2⟩:=(by first | exact pN (by assumption) | exact pO (by assumption) | exact pP (by assumption):gv n=[((⟨#[48]⟩:ByteArray),(⟨#[57]⟩:ByteArray))]∧hH n=true);rw [k1,k2];exact ⟨_,rfl,ab.ext0,r0.1,fun g_ h_=>(ab.bnd _ g_ (r0.2 g_ h_)).1⟩
 try simp only [ah] at hc1
 refine wp_seq (es ab [] ⟨am fun c=>bV rfl (c.p e4) rfl,aG 0,ax⟩ fun ac ag ae ab aa=> ?_);obtain ⟨e2,e3,e4⟩:=aa.k3 e2 e3 e4;have e9:=aa.V 1;refine wp_cond_split e9 (fun hc2=> ?_) (fun hc2=> ?_)
 · try simp only [ai] at hc2
   refine wp_seq (rg [_,_,_,_,own iG 89 _ 0 15 ([((⟨#[48]⟩:ByteArray),(⟨#[57]⟩:ByteArray)),((⟨#[65]⟩:ByteArray),(⟨#[90]⟩:ByteArray)),((⟨#[95]⟩:ByteArray),(⟨#[95]⟩:ByteArray)),((⟨#[97]⟩:ByteArray),(⟨#[122]⟩:ByteArray))]),own _ _ _ 0 2 _,_] [0,0,0,0,15,31,63] ab [] ⟨am fun c=>pY (cells:=#[(aS (⟨#[48]⟩:ByteArray)),(aS (⟨#[57]⟩:ByteArray))]) rfl cN (ia rfl rfl rfl),am fun c=>pY (cells:=#[(aS (⟨#[65]⟩:ByteArray)),(aS (⟨#[90]⟩:ByteArray))]) rfl cN (ia rfl rfl rfl),am fun c=>pY (cells:=#[(aS (⟨#[95]⟩:ByteArray)),(aS (⟨#[95]⟩:ByteArray))]) rfl cN (ia rfl rfl rfl),am fun c=>pY (cells:=#[(aS (⟨#[97]⟩:ByteArray)),(aS (⟨#[122]⟩:ByteArray))]) rfl cN (ia rfl rfl rfl),cX (cells:=#[(aS (⟨#[48]⟩:ByteArray)),(aS (⟨#[57]⟩:ByteArray)),(aS (⟨#[65]⟩:ByteArray)),(aS (⟨#[90]⟩:ByteArray)),(aS (⟨#[95]⟩:ByteArray)),(aS (⟨#[95]⟩:ByteArray)),(aS (⟨#[97]⟩:ByteArray)),(aS (⟨#[122]⟩:ByteArray))]) rfl rfl rfl rfl ba bR cN rfl (by decide) (by decide) (fun _ _ _ _ c=>xa (c.n 0 rfl) (c.n 1 rfl) (c.n 2 rfl) (c.n 3 rfl) (by kernel_rfl)) rfl,dx (t0:=15) rfl rfl rfl rfl rfl (.inr rfl) (fun _ _ _ _ c=>⟨c.ro 4 rfl,rfl⟩),am fun c=>au rfl rfl,ax⟩ fun ac ag ae ab aa=> ?_);obtain ⟨b6x2,e2⟩:=gx ac 2;replace e4:=aa.k1 e4;have e3:=aa.V 6;have r0:=aa.ro 5 e2 rfl;refine wp_ret ?_;refine rp ?_;refine jB (fn:=Tryz.f130) rfl ab.defers e2 e3 ?_;obtain ⟨k1,k2⟩:=(by first | exact pN (by assumption) | exact pO (by assumption) | exact pP (by assumption):gv n=[((⟨#[48]⟩:ByteArray),(⟨#[57]⟩:ByteArray)),((⟨#[65]⟩:ByteArray),(⟨#[90]⟩:ByteArray)),((⟨#[95]⟩:ByteArray),(⟨#[95]⟩:ByteArray)),((⟨#[97]⟩:ByteArray),(⟨#[122]⟩:ByteArray))]∧hH n=true);rw [k1,k2];exact ⟨_,rfl,ab.ext0,r0.1,fun g_ h_=>(ab.bnd _ g_ (r0.2 g_ h_)).1⟩
 try simp only [ah] at hc2
 refine wp_seq (es ab [] ⟨am fun c=>bV rfl (c.p e4) rfl,aG 0,ax⟩ fun ac ag ae ab aa=> ?_);obtain ⟨e2,e3⟩:=aa.k2 e2 e3;have e16:=aa.V 1;refine wp_cond_split e16 (fun hc3=> ?_) (fun hc3=> ?_)
 · try simp only [ai] at hc3
   refine wp_seq (rg [_,_,own iG 89 _ 0 20 ([((⟨#[9]⟩:ByteArray),(⟨#[13]⟩:ByteArray)),((⟨#[32]⟩:ByteArray),(⟨#[32]⟩:ByteArray))]),own _ _ _ 0 2 _,_] [0,0,3,7,15] ab [] ⟨am fun c=>pY (cells:=#[(aS (⟨#[9]⟩:ByteArray)),(aS (⟨#[13]⟩:ByteArray))]) rfl cN (ia rfl rfl rfl),am fun c=>pY (cells:=#[(aS (⟨#[32]⟩:ByteArray)),(aS (⟨#[32]⟩:ByteArray))]) rfl cN (ia rfl rfl rfl),cX (cells:=#[(aS (⟨#[9]⟩:ByteArray)),(aS (⟨#[13]⟩:ByteArray)),(aS (⟨#[32]⟩:ByteArray)),(aS (⟨#[32]⟩:ByteArray))]) rfl rfl rfl rfl ba bR cN rfl (by decide) (by decide) (fun _ _ _ _ c=>ia (c.n 0 rfl) (c.n 1 rfl) (by kernel_rfl)) rfl,dx (t0:=20) rfl rfl rfl rfl rfl (.inr rfl) (fun _ _ _ _ c=>⟨c.ro 2 rfl,rfl⟩),am fun c=>au rfl rfl,ax⟩ fun ac ag ae ab aa=> ?_);obtain ⟨b8x2,e2⟩:=gx ac 2;have e3:=aa.V 4;have r0:=aa.ro 3 e2 rfl;refine wp_ret ?_;refine rp ?_;refine jB (fn:=Tryz.f130) rfl ab.defers e2 e3 ?_;obtain ⟨k1,k2⟩:=(by first | exact pN (by assumption) | exact pO (by assumption) | exact pP (by assumption):gv n=[((⟨#[9]⟩:ByteArray),(⟨#[13]⟩:ByteArray)),((⟨#[32]⟩:ByteArray),(⟨#[32]⟩:ByteArray))]∧hH n=true);rw [k1,k2];exact ⟨_,rfl,ab.ext0,r0.1,fun g_ h_=>(ab.bnd _ g_ (r0.2 g_ h_)).1⟩
 try simp only [ah] at hc3
 refine wp_skip ?_;show _;refine wp_seq (es ab [] ⟨am fun c=>au rfl rfl,am fun c=>au rfl rfl,ax⟩ fun ac ag ae ab aa=> ?_);have e2:=aa.V 0;have e3:=aa.V 1;refine wp_ret ?_;refine rp ?_;refine jB (fn:=Tryz.f130) rfl ab.defers e2 e3 ?_;obtain ⟨k1,k2⟩:=AS (n:=n) (by assumption) (by assumption) (by assumption);rw [k1,k2];exact ⟨_,rfl,ab.ext0,iS.nil _ _ _,fun g_ h_=>by simp [Value.ownBlock] at h_⟩
end
section
open Go.RowKit
open Srt
theorem dM.sn {α:Type} {E:Enc α} {ty:Nat} {xs:List α} {T:aQ} {v:Value} {w W:World} (h:dM E ty xs T v w) (hT:∀g,T g→W.heap.size≤g):SlT E w v xs∧(xs≠ []→W.heap.size≤(dh v).block):=⟨h.1.sl,fun hn=>hT _ (h.blk hn)⟩
set_option maxRecDepth 100000 in
theorem AT (v:Value) (cv:Sv) (cs:List ByteArray) (i:Nat) (w:World) (hR:RdR 68 v cv cs i w) (hL:mr cs) (hi:i≤cs.length+5):Calls Tryz.prog 127 #[v] w (fun e w'=>∃b:Sv,e= .returned (.tuple #[b.v,aS (bI cs i).2.1,aA (bI cs i).2.2.1])∧Ext (bF v) w w'∧cd 68 [cv.v,aj (((bI cs i).2.2.2:Nat):Int)] (bF v) v w'∧SlT iG w' b.v (bI cs i).1∧((bI cs i).1≠ []→w.heap.size≤(dh b.v).block)):=by
 refine ek (bF v) (fun g hg=>hR.box.lt g hg) (n:=62) Tryz.func127 rfl rfl (aw rfl) ?_;intro a0 τ0 ha hτ st0;have e0:=nf ha;have hL1:=hL.1;have r0:cd 68 [cv.v,aj ((i:Nat):Int)] (τ0 0) v w:=by rw [hτ];exact hR.box
 have r9:Fz (dE fi Al cv.v cs) τ0 w:=hR.inz st0;refine wp_seq (eI st0 [jb r0,jz 9 r9] ⟨am fun c=>au rfl rfl,am fun c=>au rfl rfl,am fun c=>au rfl rfl,ax⟩ fun ac ag ae ab aa=> ?_);replace e0:=aa.k1 e0;have e2:=aa.V 0;have e3:=aa.V 1;have e4:=aa.V 2;replace r0:=aa.B 0;replace r9:=aa.z1 9;refine wp_seq (eI ab [jb r0,jz 9 r9] ⟨ao e0,dR fun c=>⟨_,_,(bj rfl rfl fN (c.q 0)),mt v cv cs i _ (kH (c.B 0) (c.iz 9 rfl) (fun g_ h_ hz_=>hz_.2 _ h_))⟩,aG 1,ax⟩ fun ac ag ae ab aa=> ?_);obtain ⟨e0,e2,e3,e4⟩:=aa.k4 e0 e2 e3 e4;have e5:=aa.V 2;replace r0:=aa.B 0;replace r9:=aa.z1 9;refine wp_seq ?_;refine wp_seq (DP ab [jb r0,jz 9 r9] ⟨ao e5,am fun c=>gh rfl (c.q 0) rfl,bq 1,bu 2 rfl fun c hpc=>aJ rfl (c.p e5),bu 2 rfl fun c hpc=>gh rfl (c.M 3 hpc) rfl,dw 2 4,ax⟩ fun ac ag ae ab aa=> ?_);obtain ⟨e0,e2,e3,e4,e5⟩:=aa.k5 e0 e2 e3 e4 e5;have e17:=aa.V 5;replace r0:=aa.B 0;replace r9:=aa.z1 9;refine wp_cond_split e17 (fun hc1=> ?_) (fun hc1=> ?_)
 · have hd1:=hc1;try simp only [aO] at hd1
   refine wp_seq (eI ab [jb r0,jz 9 r9] ⟨am fun c=>au rfl rfl,am fun c=>au rfl rfl,am fun c=>au rfl rfl,ax⟩ fun ac ag ae ab aa=> ?_);obtain ⟨e0,e5⟩:=aa.k2 e0 e5;have e2:=aa.V 0;have e3:=aa.V 1;have e4:=aa.V 2;replace r0:=aa.B 0;replace r9:=aa.z1 9;refine wp_ret ?_;refine rp ?_;refine jf (fn:=Tryz.f127) rfl ab.defers e2 e3 e4 ?_;have he_:bI cs i=([],(⟨#[]⟩:ByteArray),false,i):=by unfold bI;(repeat (first | rw [if_neg (by first | assumption | (simp only [aP];assumption) | (simp only [aT];assumption))] | rw [if_pos (by assumption)]));(try rfl)
   rw [he_];exact ⟨Sv.nil,rfl,ab.extIn,r0.foot,SlT.nil _ _,fun h=>absurd rfl h⟩
 have hd1:=hc1;try simp only [aF] at hd1
 refine wp_skip ?_;refine wp_seq ?_;have hlt_:i < cs.length:=by
   have h_:(iA (cE cs i) (⟨#[]⟩:ByteArray) || iA (cE cs i) (⟨#[93]⟩:ByteArray))=false:=by assumption
   rw [aF] at h_;exact mU h_.1
 refine vX ab [jb r0,jz 9 r9] ⟨ao e0,bK 0 r0.ptr,br aW ar 1 r0.ptr,dq aC 2 0 1,am fun c=>cP rfl (c.q 3) rfl (by omega),bK 0 r0.ptr,br aW ar 5 r0.ptr,ct (cx:=[cv.v,(aj (((i:Nat):Int)+1))]) ar fun c=>⟨c.bp 0 rfl e0,c.ad (c.q 6) e0 rfl,(c.q 4)⟩,ax⟩ fun ac ag ae ab aa=> ?_;obtain ⟨e0,e2,e3,e4,e5⟩:=aa.k5 e0 e2 e3 e4 e5;replace r0:=aa.RB 7 e0;replace r9:=aa.z1 9;replace r0:cd 68 [cv.v,aj ((i+1:Nat):Int)] (ae 0) v ag:=by rw [show ((i+1:Nat):Int)=((i:Nat):Int)+1 from by omega];exact r0
 refine wp_seq ?_;refine wp_seq (es ab [jb r0,jz 9 r9] ⟨ao e5,am fun c=>lO rfl (c.q 0) rfl,ax⟩ fun ac ag ae ab aa=> ?_);obtain ⟨e0,e2,e3,e4,e5⟩:=aa.k5 e0 e2 e3 e4 e5;have e26:=aa.V 1;replace r0:=aa.B 0;replace r9:=aa.z1 9;refine wp_cond_split e26 (fun hc2=> ?_) (fun hc2=> ?_)
 · try simp only [aB,az] at hc2
   refine wp_seq (lE [0,0,3,7] ab [jb r0,jz 9 r9] ⟨ao e5,am fun c=>au rfl rfl,aG 0,am fun c=>au rfl rfl,ax⟩ fun ac ag ae ab aa=> ?_);obtain ⟨e0,e5⟩:=aa.k2 e0 e5;have e2:=aa.V 1;have e3:=aa.V 2;have e4:=aa.V 3;replace r0:=aa.B 0;replace r9:=aa.z1 9;refine wp_ret ?_;refine rp ?_;refine jf (fn:=Tryz.f127) rfl ab.defers e2 e3 e4 ?_;have he_:bI cs i=([],cE cs i,true,i+1):=by unfold bI;(repeat (first | rw [if_neg (by first | assumption | (simp only [aP];assumption) | (simp only [aT];assumption))] | rw [if_pos (by assumption)]));(try rfl)
   rw [he_];exact ⟨Sv.nil,rfl,ab.extIn,r0.foot,SlT.nil _ _,fun h=>absurd rfl h⟩
 try simp only [aB,az] at hc2
 refine wp_skip ?_;refine wp_seq (eI ab [jb r0,jz 9 r9] ⟨ao e0,dR fun c=>⟨_,_,(bj rfl rfl fN (c.q 0)),mt v cv cs (i+1) _ (kH (c.B 0) (c.iz 9 rfl) (fun g_ h_ hz_=>hz_.2 _ h_))⟩,aG 1,ax⟩ fun ac ag ae ab aa=> ?_);obtain ⟨e0,e2,e3,e4⟩:=aa.k4 e0 e2 e3 e4;have e5:=aa.V 2;replace r0:=aa.B 0;replace r9:=aa.z1 9;refine wp_seq ?_;refine wp_seq (eI ab [jb r0,jz 9 r9] ⟨ao e5,am fun c=>iF rfl bm (c.q 0),am fun c=>bV rfl (c.q 1) rfl,ax⟩ fun ac ag ae ab aa=> ?_);obtain ⟨e0,e2,e3,e4,e5⟩:=aa.k5 e0 e2 e3 e4 e5;have e32:=aa.V 2;replace r0:=aa.B 0;replace r9:=aa.z1 9;refine wp_cond_split e32 (fun hc3=> ?_) (fun hc3=> ?_)
 · try simp only [ai] at hc3
   refine wp_seq (rg [_,_,tup _ _ _ 1 36 _ _,tup _ _ _ 1 33 _ _,own _ _ _ 1 37 _,_,own _ _ _ 1 6 _,_] [0,1,3,7,15,15,31,127] ab [jb r0,jz 9 r9] ⟨ao e5,am fun c=>gG rfl bm (c.q 0) rfl (by omega) (by omega),vT rfl rfl rfl (fun _ a_ _ _ c=>⟨_,_,(bj rfl rfl Tryz.call130 (c.q 1)),rP (ca (cE cs (i+1)) 0) _⟩),dx (t0:=36) rfl rfl rfl rfl rfl (.inl rfl) (fun _ _ _ _ c=>⟨c.rtup 2 rfl rfl (by kernel_rfl),rfl⟩),zy (t0:=33) (k:=(aA (hH (ca (cE cs (i+1)) 0)))) rfl rfl rfl rfl (fun _ _ _ _ c=>c.rtup 3 rfl rfl (by kernel_rfl)),am fun c=>c.part1 3 rfl rfl rfl,dx (t0:=37) rfl rfl rfl rfl rfl (.inr rfl) (fun _ _ _ _ c=>⟨c.ro 4 rfl,rfl⟩),aG 5,ax⟩ fun ac ag ae ab aa=> ?_);obtain ⟨b10x6,e6⟩:=gx ac 6;obtain ⟨e0,e2,e3,e4,e5⟩:=aa.k5 e0 e2 e3 e4 e5;have e7:=aa.V 7;replace r0:=aa.B 0;have r1:=aa.ro 6 e6 rfl;replace r9:=aa.z1 9;refine wp_seq (en ab [jb r0,jo r1,jz 9 r9] ⟨ao e7,ax⟩ fun ac ag ae ab aa=> ?_);obtain ⟨e0,e2,e3,e4,e5,e6⟩:=aa.k6 e0 e2 e3 e4 e5 e6;have e39:=aa.V 0;replace r0:=aa.B 0;replace r1:=aa.O 1;replace r9:=aa.z1 9;refine wp_cond_split e39 (fun hc4=> ?_) (fun hc4=> ?_)
   · skip;refine wp_seq ?_;have hnm:(decide (((cE cs (i+1)).size:Int)=1)&&hH (ca (cE cs (i+1)) 0))=true:=by rw [av];exact ⟨decide_eq_true (by assumption),by assumption⟩
     refine vX ab [jb r0,jo r1,jz 9 r9] ⟨ao e0,bK 0 r0.ptr,br aW ar 1 r0.ptr,dq aC 2 0 1,am fun c=>cP rfl (c.q 3) rfl (by omega),bK 0 r0.ptr,br aW ar 5 r0.ptr,ct (cx:=[cv.v,(aj (((i+1:Nat):Int)+1))]) ar fun c=>⟨c.bp 0 rfl e0,c.ad (c.q 6) e0 rfl,(c.q 4)⟩,ax⟩ fun ac ag ae ab aa=> ?_;obtain ⟨e0,e2,e3,e4,e5,e6⟩:=aa.k6 e0 e2 e3 e4 e5 e6;replace r0:=aa.RB 7 e0;replace r1:=aa.O 1;replace r9:=aa.z1 9;replace r0:cd 68 [cv.v,aj ((i+2:Nat):Int)] (ae 0) v ag:=by rw [show ((i+2:Nat):Int)=((i+1:Nat):Int)+1 from by omega];exact r0
     refine wp_seq (zj ab [jb r0,jo r1,jz 9 r9] ⟨ao e6,aG 0,am fun c=>au rfl rfl,am fun c=>au rfl rfl,ax⟩ fun ac ag ae ab aa=> ?_);obtain ⟨e0,e5⟩:=aa.k2 e0 e5;have e2:=aa.V 1;have e3:=aa.V 2;have e4:=aa.V 3;replace r0:=aa.B 0;replace r1:=aa.O 1;replace r9:=aa.z1 9;refine wp_ret ?_;refine rp ?_;refine jf (fn:=Tryz.f127) rfl ab.defers e2 e3 e4 ?_;have he_:bI cs i=(gv (ca (cE cs (i+1)) 0),(⟨#[]⟩:ByteArray),true,i+2):=by unfold bI;(repeat (first | rw [if_neg (by first | assumption | (simp only [aP];assumption) | (simp only [aT];assumption))] | rw [if_pos (by assumption)]));(try rfl)
     rw [he_];obtain ⟨sv_,rfl⟩:=r1.isSl.sv;exact ⟨sv_,rfl,ab.extIn,r0.foot,r1.sn (fun g_ h_=>((ab.bnd _ g_ h_).1.resolve_left (fun hp_=>absurd (ab.disj _ _ g_ h_ (r0.own hp_)) (by decide))))⟩
   skip;refine wp_skip ?_;refine wp_seq ?_;have hnm:(decide (((cE cs (i+1)).size:Int)=1)&&hH (ca (cE cs (i+1)) 0))=false:=by rw [aM];first | (right;assumption) | (left;exact decide_eq_false (by assumption))
   refine sc [0,1,3,7,7,15,63] ab [jb r0,jo r1,jz 9 r9] ⟨ao e5,dR fun c=>⟨_,_,(bj rfl rfl my (c.q 0)),xM (cE cs (i+1)) _⟩,bq 1,cT 2,cT 2,aG 3,aG 4,ax⟩ fun ac ag ae ab aa=> ?_;obtain ⟨e0,e2,e3,e4⟩:=aa.k4 e0 e2 e3 e4;have e8:=aa.V 5;have e9:=aa.V 6;replace r0:=aa.B 0;replace r9:=aa.z1 9;refine wp_seq (vX ab [jb r0,jz 9 r9] ⟨ao e0,bK 0 r0.ptr,br aW ar 1 r0.ptr,dq aC 2 0 1,am fun c=>cP rfl (c.q 3) rfl (by omega),bK 0 r0.ptr,br aW ar 5 r0.ptr,ct (cx:=[cv.v,(aj (((i+1:Nat):Int)+1))]) ar fun c=>⟨c.bp 0 rfl e0,c.ad (c.q 6) e0 rfl,(c.q 4)⟩,ax⟩ fun ac ag ae ab aa=> ?_);obtain ⟨e0,e2,e3,e4,e8,e9⟩:=aa.k6 e0 e2 e3 e4 e8 e9;replace r0:=aa.RB 7 e0;replace r9:=aa.z1 9;replace r0:cd 68 [cv.v,aj ((i+2:Nat):Int)] (ae 0) v ag:=by rw [show ((i+2:Nat):Int)=((i+1:Nat):Int)+1 from by omega];exact r0
   refine wp_seq (yg [0,0,0,5,15] ab [jb r0,jz 9 r9] ⟨ao e8,ao e9,am fun c=>au rfl rfl,aG 0,aG 1,ax⟩ fun ac ag ae ab aa=> ?_);replace e0:=aa.k1 e0;have e2:=aa.V 2;have e3:=aa.V 3;have e4:=aa.V 4;replace r0:=aa.B 0;replace r9:=aa.z1 9;refine wp_ret ?_;refine rp ?_;refine jf (fn:=Tryz.f127) rfl ab.defers e2 e3 e4 ?_;have he_:bI cs i=([],(fA (cE cs (i+1))).1,(fA (cE cs (i+1))).2,i+2):=by unfold bI;(repeat (first | rw [if_neg (by first | assumption | (simp only [aP];assumption) | (simp only [aT];assumption))] | rw [if_pos (by assumption)]));(try rfl)
   rw [he_];exact ⟨Sv.nil,rfl,ab.extIn,r0.foot,SlT.nil _ _,fun h=>absurd rfl h⟩
 try simp only [ah] at hc3
 refine wp_skip ?_;refine wp_seq ?_;have hnm:(decide (((cE cs (i+1)).size:Int)=1)&&hH (ca (cE cs (i+1)) 0))=false:=by rw [aM];first | (right;assumption) | (left;exact decide_eq_false (by assumption))
 refine sc [0,1,3,7,7,15,63] ab [jb r0,jz 9 r9] ⟨ao e5,dR fun c=>⟨_,_,(bj rfl rfl my (c.q 0)),xM (cE cs (i+1)) _⟩,bq 1,cT 2,cT 2,aG 3,aG 4,ax⟩ fun ac ag ae ab aa=> ?_;obtain ⟨e0,e2,e3,e4⟩:=aa.k4 e0 e2 e3 e4;have e8:=aa.V 5;have e9:=aa.V 6;replace r0:=aa.B 0;replace r9:=aa.z1 9;refine wp_seq (vX ab [jb r0,jz 9 r9] ⟨ao e0,bK 0 r0.ptr,br aW ar 1 r0.ptr,dq aC 2 0 1,am fun c=>cP rfl (c.q 3) rfl (by omega),bK 0 r0.ptr,br aW ar 5 r0.ptr,ct (cx:=[cv.v,(aj (((i+1:Nat):Int)+1))]) ar fun c=>⟨c.bp 0 rfl e0,c.ad (c.q 6) e0 rfl,(c.q 4)⟩,ax⟩ fun ac ag ae ab aa=> ?_);obtain ⟨e0,e2,e3,e4,e8,e9⟩:=aa.k6 e0 e2 e3 e4 e8 e9;replace r0:=aa.RB 7 e0;replace r9:=aa.z1 9;replace r0:cd 68 [cv.v,aj ((i+2:Nat):Int)] (ae 0) v ag:=by rw [show ((i+2:Nat):Int)=((i+1:Nat):Int)+1 from by omega];exact r0
 refine wp_seq (yg [0,0,0,5,15] ab [jb r0,jz 9 r9] ⟨ao e8,ao e9,am fun c=>au rfl rfl,aG 0,aG 1,ax⟩ fun ac ag ae ab aa=> ?_);replace e0:=aa.k1 e0;have e2:=aa.V 2;have e3:=aa.V 3;have e4:=aa.V 4;replace r0:=aa.B 0;replace r9:=aa.z1 9;refine wp_ret ?_;refine rp ?_;refine jf (fn:=Tryz.f127) rfl ab.defers e2 e3 e4 ?_;have he_:bI cs i=([],(fA (cE cs (i+1))).1,(fA (cE cs (i+1))).2,i+2):=by unfold bI;(repeat (first | rw [if_neg (by first | assumption | (simp only [aP];assumption) | (simp only [aT];assumption))] | rw [if_pos (by assumption)]));(try rfl)
 rw [he_];exact ⟨Sv.nil,rfl,ab.extIn,r0.foot,SlT.nil _ _,fun h=>absurd rfl h⟩
end
section
open Go.RowKit
open Srt
theorem sS {c:ByteArray} (h:(c.size:Int)=1):((fO c).size:Int)=1:=by
  have h1:=iH c;have h2:(fO c).size=((bs c).map jJ).length:=by
    show ((bs c).map jJ).toArray.size=_;simp
  rw [h2,fL];omega
set_option maxRecDepth 100000 in
theorem EP (v:Value) (cv:Sv) (cs:List ByteArray) (i:Nat) (w:World) (hR:RdR 68 v cv cs i w) (hL:mr cs) (hi:i≤cs.length+5):Calls Tryz.prog 105 #[v] w (fun e w'=>∃t':Tr,e= .returned (.tuple #[t'.v,aj (gO cs i).2.1])∧Ext (bF v) w w'∧cd 68 [cv.v,aj (((gO cs i).2.2:Nat):Int)] (bF v) v w'∧TrT (Gn aY w) w' t'∧er t'=(gO cs i).1):=by
 refine ek (bF v) (fun g hg=>hR.box.lt g hg) (n:=53) Tryz.func105 rfl rfl (aw rfl) ?_;intro a0 τ0 ha hτ st0;have e0:=nf ha;have hL1:=hL.1;have r0:cd 68 [cv.v,aj ((i:Nat):Int)] (τ0 0) v w:=by rw [hτ];exact hR.box
 have r9:Fz (dE fi Al cv.v cs) τ0 w:=hR.inz st0;refine wp_seq (rg [box _ _ 1 2 [(aj 0),(aS (⟨#[]⟩:ByteArray)),(aA false),(.slice none 0 0),(aj 0),(aj 0),(aA false),(.slice none 0 0)],_] [0,0] st0 [jb r0,jz 9 r9] ⟨cK rfl rfl rfl rfl aN rfl,am fun c=>au rfl rfl,ax⟩ fun ac ag ae ab aa=> ?_);obtain ⟨b1x2,e2⟩:=gx ac 2;replace e0:=aa.k1 e0;have e3:=aa.V 1;replace r0:=aa.B 0;have r1:=aa.rb 0 e2 rfl;replace r9:=aa.z1 9;refine wp_seq (eI ab [jb r0,jb r1,jz 9 r9] ⟨ao e0,dR fun c=>⟨_,_,(bj rfl rfl fN (c.q 0)),mt v cv cs i _ (kH (c.B 0) (c.iz 9 rfl) (fun g_ h_ hz_=>hz_.2 _ h_))⟩,aG 1,ax⟩ fun ac ag ae ab aa=> ?_);obtain ⟨e0,e2,e3⟩:=aa.k3 e0 e2 e3;have e4:=aa.V 2;replace r0:=aa.B 0;replace r1:=aa.B 1;replace r9:=aa.z1 9;refine wp_seq ?_;refine eI ab [jb r0,jb r1,jz 9 r9] ⟨ao e4,dR fun c=>⟨_,_,(bj rfl rfl mz (c.q 0)),ob (cE cs i) _ (by first | omega | (have h_:=sS (by assumption:((cE cs i).size:Int)=1);omega) | (have h_:=cO hL i;omega))⟩,aG 1,ax⟩ fun ac ag ae ab aa=> ?_;obtain ⟨e0,e2,e3,e4⟩:=aa.k4 e0 e2 e3 e4;have e5:=aa.V 2;replace r0:=aa.B 0;replace r1:=aa.B 1;replace r9:=aa.z1 9;refine wp_seq ?_;refine wp_seq (eI ab [jb r0,jb r1,jz 9 r9] ⟨ao e4,am fun c=>iF rfl bm (c.q 0),am fun c=>bV rfl (c.q 1) rfl,ax⟩ fun ac ag ae ab aa=> ?_);obtain ⟨e0,e2,e3,e4,e5⟩:=aa.k5 e0 e2 e3 e4 e5;have e16:=aa.V 2;replace r0:=aa.B 0;replace r1:=aa.B 1;replace r9:=aa.z1 9;refine wp_cond_split e16 (fun hc1=> ?_) (fun hc1=> ?_)
 · try simp only [ai] at hc1
   refine wp_seq ?_;refine bA ?_;refine cH 3 (by kernel_rfl) ?_;refine og [_,_,mG _ 20 (fun b:Sv=> .tuple #[b.v,aA (hH (ca (fO (cE cs i)) 0))]) (fun _=>True) (fun b:Sv=>dE iG (Gn aY w) b.v (gv (ca (fO (cE cs i)) 0)))] [0,1,3] ab [jb r0,jb r1,jz 9 r9] ⟨ao e5,am fun c=>gG rfl bm (c.q 0) rfl (by first | omega | (have h_:=sS (by assumption:((cE cs i).size:Int)=1);omega) | (have h_:=cO hL i;omega)) (by first | omega | (have h_:=sS (by assumption:((cE cs i).size:Int)=1);omega) | (have h_:=cO hL i;omega)),kE (f:=fun b:Sv=> .tuple #[b.v,aA (hH (ca (fO (cE cs i)) 0))]) (Ψ:=fun _=>True) (Φ:=fun b:Sv=>dE iG (Gn aY w) b.v (gv (ca (fO (cE cs i)) 0))) fun {_ a_ _ _} c=>⟨_,_,(bj rfl rfl Tryz.call130 (c.q 1)),(rP (ca (fO (cE cs i)) 0) _).mono (fun e w' ⟨v_,he_,hx_,hn_⟩=>by obtain ⟨s_,rfl⟩:=hn_.1.sl.sl.sv;exact ⟨s_,he_,hx_,ax,c.sn ab hx_ hn_⟩)⟩,ax⟩ fun ac ag ae ab aa=> ?_;obtain ⟨e0,e2,e3,e4,e5⟩:=aa.k5 e0 e2 e3 e4 e5;obtain ⟨rw1_,e20,-,hz5⟩:=aa.zd 2 rfl;have e20:aU ac 20=(.tuple #[rw1_.v,(aA (hH (ca (fO (cE cs i)) 0)))]):=e20;replace r0:=aa.B 0;replace r1:=aa.B 1;replace r9:=aa.z1 9;have r2:=hz5;refine cI ?_;refine og [_,_,_,_,_] [0,1,3,7,15] ab [jb r0,jb r1,jz 2 r2,jz 9 r9] ⟨ao e20,cT 0,cT 0,aG 1,aG 2,ax⟩ fun ac ag ae ab aa=> ?_;obtain ⟨e0,e2,e3,e4,e5⟩:=aa.k5 e0 e2 e3 e4 e5;have e6:=aa.V 3;have e7:=aa.V 4;replace r0:=aa.B 0;replace r1:=aa.B 1;obtain ⟨r2,r9⟩:=aa.z2 2 9;refine wp_seq (en ab [jb r0,jb r1,jz 2 r2,jz 9 r9] ⟨ao e7,ax⟩ fun ac ag ae ab aa=> ?_);obtain ⟨e0,e2,e3,e4,e5,e6⟩:=aa.k6 e0 e2 e3 e4 e5 e6;have e23:=aa.V 0;replace r0:=aa.B 0;replace r1:=aa.B 1;obtain ⟨r2,r9⟩:=aa.z2 2 9;refine wp_cond_split e23 (fun hc2=> ?_) (fun hc2=> ?_)
   · skip;refine wp_seq ?_;have hnm:(decide (((cE cs i).size:Int)=1)&&hH (ca (fO (cE cs i)) 0))=true:=by rw [av];exact ⟨decide_eq_true (by assumption),by assumption⟩
     have hlt_:i < cs.length:=gZ (by assumption:((cE cs i).size:Int)=1)
     refine vX ab [jb r0,jb r1,jz 2 r2,jz 9 r9] ⟨ao e0,bK 0 r0.ptr,br aW ar 1 r0.ptr,dq aC 2 0 1,am fun c=>cP rfl (c.q 3) rfl (by first | omega | (have h_:=sS (by assumption:((cE cs i).size:Int)=1);omega) | (have h_:=cO hL i;omega)),bK 0 r0.ptr,br aW ar 5 r0.ptr,ct (cx:=[cv.v,(aj (((i:Nat):Int)+1))]) ar fun c=>⟨c.bp 0 rfl e0,c.ad (c.q 6) e0 rfl,(c.q 4)⟩,ax⟩ fun ac ag ae ab aa=> ?_;obtain ⟨e0,e2,e3,e4,e5,e6⟩:=aa.k6 e0 e2 e3 e4 e5 e6;replace r0:=aa.RB 7 e0;replace r1:=aa.B 1;obtain ⟨r2,r9⟩:=aa.z2 2 9;replace r0:cd 68 [cv.v,aj ((i+1:Nat):Int)] (ae 0) v ag:=by rw [show ((i+1:Nat):Int)=((i:Nat):Int)+1 from by omega];exact r0
     refine wp_seq (sc [0,0,0,6,15,31,63] ab [jb r0,jb r1,jz 2 r2,jz 9 r9] ⟨ao e6,ao e4,ao e5,am fun c=>lO rfl (c.q 1) (c.q 2),am fun c=>fW (cells:=#[(aj 4),(aS (⟨#[]⟩:ByteArray)),(aA (!(iA (cE cs i) (fO (cE cs i))))),rw1_.v,(aj 0),(aj 0),(aA false),(.slice none 0 0)]) rfl aN (pU rfl (c.n 0 rfl) (c.n 3 rfl) rfl),ct (cx:=[(aj 4),(aS (⟨#[]⟩:ByteArray)),(aA (!(iA (cE cs i) (fO (cE cs i))))),rw1_.v,(aj 0),(aj 0),(aA false),(.slice none 0 0)]) (off:=0) ak fun c=>⟨c.bp 1 rfl e2,c.ad ((c.p e2).trans r1.ptr) e2 rfl,(c.q 4)⟩,am fun c=>au rfl rfl,ax⟩ fun ac ag ae ab aa=> ?_);obtain ⟨e0,e2,e4⟩:=aa.k3 e0 e2 e4;have e3:=aa.V 6;replace r0:=aa.B 0;replace r1:=aa.RB 5 e2;obtain ⟨r2,r9⟩:=aa.z2 2 9;refine wp_ret ?_;refine rp ?_;refine em (fn:=Tryz.f105) rfl ab.defers e2 e3 r1 aD ak rfl ?_;have he_:gO cs i=((mV (!(iA (cE cs i) (fO (cE cs i)))) Sv.nil (gv (ca (fO (cE cs i)) 0))),0,i+1):=by unfold gO;(repeat (first | rw [if_neg (by first | assumption | (simp only [aP];assumption) | (simp only [aT];assumption) | (exact fun h_=>h_ (by assumption)) | omega)] | rw [if_pos (by first | assumption | omega)]));(try rfl)
     rw [he_];exact ⟨(mV (!(iA (cE cs i) (fO (cE cs i)))) rw1_ (gv (ca (fO (cE cs i)) 0))),rfl,ab.extIn,r0.foot,(Fz.out (FO r2)),AD _ _ _⟩
   skip;refine wp_skip ?_;refine wp_seq ?_;have hnm:(decide (((cE cs i).size:Int)=1)&&hH (ca (fO (cE cs i)) 0))=false:=by rw [aM];first | (right;assumption) | (left;exact decide_eq_false (by assumption))
   refine sc [0,1,3,7,7,15,63] ab [jb r0,jb r1,jz 2 r2,jz 9 r9] ⟨ao e4,dR fun c=>⟨_,_,(bj rfl rfl my (c.q 0)),xM (cE cs i) _⟩,bq 1,cT 2,cT 2,aG 3,aG 4,ax⟩ fun ac ag ae ab aa=> ?_;obtain ⟨e0,e2,e3⟩:=aa.k3 e0 e2 e3;have e8:=aa.V 5;have e9:=aa.V 6;replace r0:=aa.B 0;replace r1:=aa.B 1;obtain ⟨r2,r9⟩:=aa.z2 2 9;refine wp_seq ?_;refine wp_seq (es ab [jb r0,jb r1,jz 9 r9] ⟨ao e9,am fun c=>dP rfl (c.q 0),ax⟩ fun ac ag ae ab aa=> ?_);obtain ⟨e0,e2,e3,e8⟩:=aa.k4 e0 e2 e3 e8;have e42:=aa.V 1;replace r0:=aa.B 0;replace r1:=aa.B 1;replace r9:=aa.z1 9;refine wp_cond_split e42 (fun hc3=> ?_) (fun hc3=> ?_)
   · try simp only [aB,az] at hc3
     refine wp_seq (eI ab [jb r0,jb r1,jz 9 r9] ⟨am fun c=>fW (cells:=#[(aj 0),(aS (⟨#[]⟩:ByteArray)),(aA false),(.slice none 0 0),(aj 0),(aj 0),(aA false),(.slice none 0 0)]) rfl aN pA,ct (cx:=[(aj 0),(aS (⟨#[]⟩:ByteArray)),(aA false),(.slice none 0 0),(aj 0),(aj 0),(aA false),(.slice none 0 0)]) (off:=0) ak fun c=>⟨c.bp 1 rfl e2,c.ad ((c.p e2).trans r1.ptr) e2 rfl,(c.q 0)⟩,am fun c=>au rfl rfl,ax⟩ fun ac ag ae ab aa=> ?_);obtain ⟨e0,e2,e8⟩:=aa.k3 e0 e2 e8;have e3:=aa.V 2;replace r0:=aa.B 0;replace r1:=aa.RB 1 e2;replace r9:=aa.z1 9;refine wp_ret ?_;refine rp ?_;refine em (fn:=Tryz.f105) rfl ab.defers e2 e3 r1 aD ak rfl ?_;have he_:gO cs i=((di 0 (⟨#[]⟩:ByteArray) false 0 0 false),10,i):=by unfold gO;(repeat (first | rw [if_neg (by first | assumption | (simp only [aP];assumption) | (simp only [aT];assumption) | (exact fun h_=>h_ (by assumption)) | omega)] | rw [if_pos (by first | assumption | omega)]));(try rfl)
     rw [he_];exact ⟨(di 0 (⟨#[]⟩:ByteArray) false 0 0 false),rfl,ab.extIn,r0.foot,(fy _ _ _ _ _ _ _ _),rfl⟩
   try simp only [aB,az] at hc3
   refine wp_skip ?_;refine wp_seq ?_;have hlt_:i < cs.length:=by
     cases hz_:iA (cE cs i) (⟨#[]⟩:ByteArray) with
     | false => exact mU hz_
     | true =>
       have hx_:(fA (cE cs i)).2=true:=by assumption
       unfold fA at hx_;rw [if_pos hz_] at hx_;cases hx_
   refine vX ab [jb r0,jb r1,jz 9 r9] ⟨ao e0,bK 0 r0.ptr,br aW ar 1 r0.ptr,dq aC 2 0 1,am fun c=>cP rfl (c.q 3) rfl (by first | omega | (have h_:=sS (by assumption:((cE cs i).size:Int)=1);omega) | (have h_:=cO hL i;omega)),bK 0 r0.ptr,br aW ar 5 r0.ptr,ct (cx:=[cv.v,(aj (((i:Nat):Int)+1))]) ar fun c=>⟨c.bp 0 rfl e0,c.ad (c.q 6) e0 rfl,(c.q 4)⟩,ax⟩ fun ac ag ae ab aa=> ?_;obtain ⟨e0,e2,e3,e8⟩:=aa.k4 e0 e2 e3 e8;replace r0:=aa.RB 7 e0;replace r1:=aa.B 1;replace r9:=aa.z1 9;replace r0:cd 68 [cv.v,aj ((i+1:Nat):Int)] (ae 0) v ag:=by rw [show ((i+1:Nat):Int)=((i:Nat):Int)+1 from by omega];exact r0
   refine wp_seq (zj ab [jb r0,jb r1,jz 9 r9] ⟨ao e8,am fun c=>fW (cells:=#[(aj 2),(aS ((fA (cE cs i)).1)),(aA false),(.slice none 0 0),(aj 0),(aj 0),(aA false),(.slice none 0 0)]) rfl aN (ia rfl (c.n 0 rfl) rfl),ct (cx:=[(aj 2),(aS ((fA (cE cs i)).1)),(aA false),(.slice none 0 0),(aj 0),(aj 0),(aA false),(.slice none 0 0)]) (off:=0) ak fun c=>⟨c.bp 1 rfl e2,c.ad ((c.p e2).trans r1.ptr) e2 rfl,(c.q 1)⟩,am fun c=>au rfl rfl,ax⟩ fun ac ag ae ab aa=> ?_);obtain ⟨e0,e2⟩:=aa.k2 e0 e2;have e3:=aa.V 3;replace r0:=aa.B 0;replace r1:=aa.RB 2 e2;replace r9:=aa.z1 9;refine wp_ret ?_;refine rp ?_;refine em (fn:=Tryz.f105) rfl ab.defers e2 e3 r1 aD ak rfl ?_;have he_:gO cs i=((di 2 ((fA (cE cs i)).1) false 0 0 false),0,i+1):=by unfold gO;(repeat (first | rw [if_neg (by first | assumption | (simp only [aP];assumption) | (simp only [aT];assumption) | (exact fun h_=>h_ (by assumption)) | omega)] | rw [if_pos (by first | assumption | omega)]));(try rfl)
   rw [he_];exact ⟨(di 2 ((fA (cE cs i)).1) false 0 0 false),rfl,ab.extIn,r0.foot,(fy _ _ _ _ _ _ _ _),rfl⟩
 try simp only [ah] at hc1
 refine wp_skip ?_;refine wp_seq ?_;have hnm:(decide (((cE cs i).size:Int)=1)&&hH (ca (fO (cE cs i)) 0))=false:=by rw [aM];first | (right;assumption) | (left;exact decide_eq_false (by assumption))
 refine sc [0,1,3,7,7,15,63] ab [jb r0,jb r1,jz 9 r9] ⟨ao e4,dR fun c=>⟨_,_,(bj rfl rfl my (c.q 0)),xM (cE cs i) _⟩,bq 1,cT 2,cT 2,aG 3,aG 4,ax⟩ fun ac ag ae ab aa=> ?_;obtain ⟨e0,e2,e3⟩:=aa.k3 e0 e2 e3;have e8:=aa.V 5;have e9:=aa.V 6;replace r0:=aa.B 0;replace r1:=aa.B 1;replace r9:=aa.z1 9;refine wp_seq ?_;refine wp_seq (es ab [jb r0,jb r1,jz 9 r9] ⟨ao e9,am fun c=>dP rfl (c.q 0),ax⟩ fun ac ag ae ab aa=> ?_);obtain ⟨e0,e2,e3,e8⟩:=aa.k4 e0 e2 e3 e8;have e42:=aa.V 1;replace r0:=aa.B 0;replace r1:=aa.B 1;replace r9:=aa.z1 9;refine wp_cond_split e42 (fun hc4=> ?_) (fun hc4=> ?_)
 · try simp only [aB,az] at hc4
   refine wp_seq (eI ab [jb r0,jb r1,jz 9 r9] ⟨am fun c=>fW (cells:=#[(aj 0),(aS (⟨#[]⟩:ByteArray)),(aA false),(.slice none 0 0),(aj 0),(aj 0),(aA false),(.slice none 0 0)]) rfl aN pA,ct (cx:=[(aj 0),(aS (⟨#[]⟩:ByteArray)),(aA false),(.slice none 0 0),(aj 0),(aj 0),(aA false),(.slice none 0 0)]) (off:=0) ak fun c=>⟨c.bp 1 rfl e2,c.ad ((c.p e2).trans r1.ptr) e2 rfl,(c.q 0)⟩,am fun c=>au rfl rfl,ax⟩ fun ac ag ae ab aa=> ?_);obtain ⟨e0,e2,e8⟩:=aa.k3 e0 e2 e8;have e3:=aa.V 2;replace r0:=aa.B 0;replace r1:=aa.RB 1 e2;replace r9:=aa.z1 9;refine wp_ret ?_;refine rp ?_;refine em (fn:=Tryz.f105) rfl ab.defers e2 e3 r1 aD ak rfl ?_;have he_:gO cs i=((di 0 (⟨#[]⟩:ByteArray) false 0 0 false),10,i):=by unfold gO;(repeat (first | rw [if_neg (by first | assumption | (simp only [aP];assumption) | (simp only [aT];assumption) | (exact fun h_=>h_ (by assumption)) | omega)] | rw [if_pos (by first | assumption | omega)]));(try rfl)
   rw [he_];exact ⟨(di 0 (⟨#[]⟩:ByteArray) false 0 0 false),rfl,ab.extIn,r0.foot,(fy _ _ _ _ _ _ _ _),rfl⟩
 try simp only [aB,az] at hc4
 refine wp_skip ?_;refine wp_seq ?_;have hlt_:i < cs.length:=by
   cases hz_:iA (cE cs i) (⟨#[]⟩:ByteArray) with
   | false => exact mU hz_
   | true =>
     have hx_:(fA (cE cs i)).2=true:=by assumption
     unfold fA at hx_;rw [if_pos hz_] at hx_;cases hx_
 refine vX ab [jb r0,jb r1,jz 9 r9] ⟨ao e0,bK 0 r0.ptr,br aW ar 1 r0.ptr,dq aC 2 0 1,am fun c=>cP rfl (c.q 3) rfl (by first | omega | (have h_:=sS (by assumption:((cE cs i).size:Int)=1);omega) | (have h_:=cO hL i;omega)),bK 0 r0.ptr,br aW ar 5 r0.ptr,ct (cx:=[cv.v,(aj (((i:Nat):Int)+1))]) ar fun c=>⟨c.bp 0 rfl e0,c.ad (c.q 6) e0 rfl,(c.q 4)⟩,ax⟩ fun ac ag ae ab aa=> ?_;obtain ⟨e0,e2,e3,e8⟩:=aa.k4 e0 e2 e3 e8;replace r0:=aa.RB 7 e0;replace r1:=aa.B 1;replace r9:=aa.z1 9;replace r0:cd 68 [cv.v,aj ((i+1:Nat):Int)] (ae 0) v ag:=by rw [show ((i+1:Nat):Int)=((i:Nat):Int)+1 from by omega];exact r0
 refine wp_seq (zj ab [jb r0,jb r1,jz 9 r9] ⟨ao e8,am fun c=>fW (cells:=#[(aj 2),(aS ((fA (cE cs i)).1)),(aA false),(.slice none 0 0),(aj 0),(aj 0),(aA false),(.slice none 0 0)]) rfl aN (ia rfl (c.n 0 rfl) rfl),ct (cx:=[(aj 2),(aS ((fA (cE cs i)).1)),(aA false),(.slice none 0 0),(aj 0),(aj 0),(aA false),(.slice none 0 0)]) (off:=0) ak fun c=>⟨c.bp 1 rfl e2,c.ad ((c.p e2).trans r1.ptr) e2 rfl,(c.q 1)⟩,am fun c=>au rfl rfl,ax⟩ fun ac ag ae ab aa=> ?_);obtain ⟨e0,e2⟩:=aa.k2 e0 e2;have e3:=aa.V 3;replace r0:=aa.B 0;replace r1:=aa.RB 2 e2;replace r9:=aa.z1 9;refine wp_ret ?_;refine rp ?_;refine em (fn:=Tryz.f105) rfl ab.defers e2 e3 r1 aD ak rfl ?_;have he_:gO cs i=((di 2 ((fA (cE cs i)).1) false 0 0 false),0,i+1):=by unfold gO;(repeat (first | rw [if_neg (by first | assumption | (simp only [aP];assumption) | (simp only [aT];assumption) | (exact fun h_=>h_ (by assumption)) | omega)] | rw [if_pos (by first | assumption | omega)]));(try rfl)
 rw [he_];exact ⟨(di 2 ((fA (cE cs i)).1) false 0 0 false),rfl,ab.extIn,r0.foot,(fy _ _ _ _ _ _ _ _),rfl⟩
end
end B
end Go.Proofs.YtcfdebjhikahfaaGreat
