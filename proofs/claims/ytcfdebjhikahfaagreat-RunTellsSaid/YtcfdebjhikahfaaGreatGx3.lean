import Derived.Test.YtcfdebjhikahfaaGreatGx2
set_option linter.unusedSimpArgs false
set_option linter.unusedVariables false
set_option linter.unusedSectionVars false
namespace Go.Proofs.YtcfdebjhikahfaaGreat
namespace B
section
open Go.RowKit
abbrev aU:=@Bool.not_eq_false
abbrev kT:=@Int.le_trans
abbrev lj:=@Int.lt_of_lt_of_le
abbrev mD:=@Tryz.call131
abbrev fT:=@Tryz.call58
abbrev gk:=@Tryz.call85
abbrev gj:=@Tryz.call99
abbrev iY:=@Tryz.isAgg5
abbrev cc:=@Tryz.isAgg60
abbrev eE:=@Tryz.sizeOf5
abbrev cj:=@Tryz.underlying105
abbrev fB:=@Tryz.underlying5
abbrev gv:=@Tryz.zeroValue3
end
section
open Go.RowKit
open Srt
theorem xT (v u:Value) (ts:List Tr) (ks:List Int) (w:World) (hS:SlT ox w v ts) (hU:SlT gl w u ks):Calls Tryz.prog 102 #[v,u] w (fun e w'=>e= .returned (.bool (ts.any fun x=>ks.any fun y=>decide (x.k=y)))∧Ext bc w w'):=by
  obtain ⟨s,rfl⟩:=hU.sl.sv;exact Fp v s ts ks w hS hU
theorem rS {t:Tr} (h:fy t≤1000000):pk t.rows:=fun r hr=>by
  have h1:=CU hr;have h2:=kO t;have h3:0≤cZ (t.kids.map fy):=iJ fun x hx=>by
    obtain ⟨k,hk,rfl⟩:=List.mem_map.1 hx;have:=lL k;omega
  omega
def oz (t:Tr) (ks:List Int):Bool:=(t.kids).any fun x_=>ks.any fun y_=>decide (x_.k=y_)
def ly (t:Tr):Bool:=jP t.ch t.ng t.rows t.mn t.mx t.lz
def cC (t:Tr):Bool:=
  if t.k=2 then (jP (⟨#[]⟩:ByteArray) t.ng t.rows t.mn t.mx t.lz&&decide ((t.kids.length:Int)=0))&&ef t.ch
  else if t.k=4 then (jP t.ch false [] t.mn t.mx t.lz&&decide ((t.kids.length:Int)=0))&&lZ t.rows
  else if t.k=7 then ((((jP t.ch t.ng t.rows 0 0 false&&decide ((t.kids.length:Int)=1))&&oP (nth t.kids 0).k)&&decide (0≤t.mn))&&decide (t.mn≤255))&&(decide (t.mx= -1) || (decide (t.mn≤t.mx)&&decide (t.mx≤255)))
  else if t.k=0 then (ly t&& !decide ((t.kids.length:Int)=1))&& !oz t [0,1]
  else if t.k=1 then (ly t&&decide (1 < (t.kids.length:Int)))&& !oz t [1]
  else if t.k=5∨t.k=6 then ly t&&decide ((t.kids.length:Int)=1)
  else if t.k=3∨t.k=8∨t.k=9∨t.k=10∨t.k=11 then ly t&&decide ((t.kids.length:Int)=0)
  else false
set_option maxRecDepth 100000 in
theorem vy (t:Tr) (w:World) (hT:kW w t) (hP:fy t≤1000000):Calls Tryz.prog 77 #[(ta t)] w (fun e w'=>e= .returned (aA (cC t))∧Ext bc w w'):=by
 refine enter (n:=149) Tryz.func77 rfl rfl (av rfl) ?_;intro a0 τ0 ha st0;have e0:aT a0 0=(ta t):=ha 0 _ rfl;clear ha;have hle:=hT.kids.le;have hle2:=hT.rows.le;have hwt:=ek t;have hsm:=rS hP;refine wp_seq (rg [box _ _ 0 1 (tc t),_] [0,0] st0 [] ⟨fh (v:=(ta t)) rfl rfl rfl rfl rfl (fun _ _ _ _ c=>(c.p e0)),am fun c=>ar rfl rfl,ax⟩ fun ac ag ae ab aa=> ?_);obtain ⟨b1x1,e1⟩:=gx ac 1;have e2:=aa.V 1;have r0:=aa.rb 0 e1 rfl;refine wp_seq ?_;refine wp_seq (eC ab [jb r0] ⟨bZ aq au e1 r0.ptr,dq aC 0 0 0,ax⟩ fun ac ag ae ab aa=> ?_);obtain ⟨e1,e2⟩:=aa.k2 e1 e2;have e8:=aa.V 1;replace r0:=aa.B 0;refine wp_block ?_;refine wp_seq (eC ab [jb r0] ⟨am fun c=>bW rfl (c.p e8) rfl,aF 0,ax⟩ fun ac ag ae ab aa=> ?_);obtain ⟨e1,e2,e8⟩:=aa.k3 e1 e2 e8;have e9:=aa.V 1;replace r0:=aa.B 0;refine wp_cond_split e9 (fun hc1=> ?_) (fun hc1=> ?_)
 · try simp only [ai] at hc1
   refine wp_seq (eM ab [jb r0] ⟨bZ aq aZ e1 r0.ptr,dq bD 0 0 1,aF 1,ax⟩ fun ac ag ae ab aa=> ?_);obtain ⟨e1,e2,e8⟩:=aa.k3 e1 e2 e8;have e3:=aa.V 2;replace r0:=aa.B 0;refine wp_seq (eC ab [jb r0] ⟨bZ aq aZ e1 r0.ptr,ck (cx:=[(aj t.k),(aR (⟨#[]⟩:ByteArray)),(aA t.ng),t.rv.v,(aj t.mn),(aj t.mx),(aA t.lz),t.kv.v]) (v:=(aR (⟨#[]⟩:ByteArray))) aZ fun c=>⟨c.bp 0 rfl e1,c.ad (c.q 0) e1 rfl,rfl⟩,ax⟩ fun ac ag ae ab aa=> ?_);obtain ⟨e1,e2,e3,e8⟩:=aa.k4 e1 e2 e3 e8;replace r0:=aa.RB 1 e1;refine wp_seq ?_;refine rg [_,_,_,_,_,_,_,_,_,_,_,_,_] [0,1,3,7,15,31,63,127,255,511,1023,2047,4095] ab [jb r0] ⟨am fun c=>ec rfl aD ak ((c.p e1).trans r0.ptr) (c.B 0),dU fun c=>⟨_,_,(bq rfl rfl gj (c.q 0)),kP t.k (⟨#[]⟩:ByteArray) t.ng t.rv.v t.rows t.mn t.mx t.lz t.kv.v rfl _ (hT.at (ab.ext.trans c.J.ext)).rows⟩,bm 1,aE 2 rfl fun c hpc=>cN rfl aq bC ((c.p e1).trans r0.ptr),aE 2 rfl fun c hpc=>ay rfl bS (c.M 3 hpc) ((c.B 0).cell (j:=7) rfl),aE 2 rfl fun c hpc=>cX rfl aI (c.M 4 hpc) (hT.at ab.ext).tl.sl.sl,aE 2 rfl fun c hpc=>bW rfl (c.M 5 hpc) rfl,bK 2 6,bm 7,aE 8 rfl fun c hpc=>aJ rfl (c.p e3),fv 8 true rfl fun c hpc=>⟨_,_,(bq rfl rfl Tryz.call29 (c.M 9 hpc)),rP t.ch _ (by have hq0:=hpc;(try simp only [aw,ai] at hq0);omega)⟩,bK 8 10,aF 11,ax⟩ fun ac ag ae ab aa=> ?_;obtain ⟨e1,e8⟩:=aa.k2 e1 e8;have e2:=aa.V 12;replace r0:=aa.B 0;refine wp_ret ?_;refine rp ?_;refine cH (fn:=Tryz.f77) rfl ab.defers e2 ?_;exact ⟨congrArg _ (congrArg _ (by unfold cC;(repeat (first | rw [if_neg (by omega)] | rw [if_pos (by omega)]));(try rfl))),ab.ext0⟩
 try simp only [ah] at hc1
 refine wp_seq (eC ab [jb r0] ⟨am fun c=>bW rfl (c.p e8) rfl,aF 0,ax⟩ fun ac ag ae ab aa=> ?_);obtain ⟨e1,e2,e8⟩:=aa.k3 e1 e2 e8;have e26:=aa.V 1;replace r0:=aa.B 0;refine wp_cond_split e26 (fun hc2=> ?_) (fun hc2=> ?_)
 · try simp only [ai] at hc2
   refine wp_seq (eM ab [jb r0] ⟨bZ aq dQ e1 r0.ptr,dq fN 0 0 3,aF 1,ax⟩ fun ac ag ae ab aa=> ?_);obtain ⟨e1,e2,e8⟩:=aa.k3 e1 e2 e8;have e4:=aa.V 2;replace r0:=aa.B 0;refine wp_seq ?_;refine bk ?_;refine cI 3 (by kernel_rfl) ?_;refine og [_,_,_] [0,1,3] ab [jb r0] ⟨bZ aq dQ e1 r0.ptr,ck (cx:=[(aj t.k),(aR t.ch),(aA t.ng),(.slice none 0 0),(aj t.mn),(aj t.mx),(aA t.lz),t.kv.v]) (v:=(.slice none 0 0)) dQ fun c=>⟨c.bp 0 rfl e1,c.ad (c.q 0) e1 rfl,rfl⟩,bZ aq bh e1 r0.ptr,ax⟩ fun ac ag ae ab aa=> ?_;obtain ⟨e1,e2,e4,e8⟩:=aa.k4 e1 e2 e4 e8;have e31:=aa.V 2;replace r0:=aa.RB 1 e1;refine cJ ?_;refine og [_] [0] ab [jb r0] ⟨ck (cx:=[(aj t.k),(aR t.ch),(aA false),(.slice none 0 0),(aj t.mn),(aj t.mx),(aA t.lz),t.kv.v]) (v:=(aA false)) bh fun c=>⟨c.bp 0 rfl e1,c.ad (c.p e31) e1 rfl,rfl⟩,ax⟩ fun ac ag ae ab aa=> ?_;obtain ⟨e1,e2,e4,e8⟩:=aa.k4 e1 e2 e4 e8;replace r0:=aa.RB 0 e1;refine wp_seq ?_;refine rg [_,_,_,_,_,_,_,_,_,_,_,_,_] [0,1,3,7,15,31,63,127,255,511,1023,2047,4095] ab [jb r0] ⟨am fun c=>ec rfl aD ak ((c.p e1).trans r0.ptr) (c.B 0),dU fun c=>⟨_,_,(bq rfl rfl gj (c.q 0)),kP t.k t.ch false (.slice none 0 0) [] t.mn t.mx t.lz t.kv.v rfl _ (SlT.nil _ _)⟩,bm 1,aE 2 rfl fun c hpc=>cN rfl aq bC ((c.p e1).trans r0.ptr),aE 2 rfl fun c hpc=>ay rfl bS (c.M 3 hpc) ((c.B 0).cell (j:=7) rfl),aE 2 rfl fun c hpc=>cX rfl aI (c.M 4 hpc) (hT.at ab.ext).tl.sl.sl,aE 2 rfl fun c hpc=>bW rfl (c.M 5 hpc) rfl,bK 2 6,bm 7,aE 8 rfl fun c hpc=>aJ rfl (c.p e4),fv 8 true rfl fun c hpc=>⟨_,_,(bq rfl rfl Tryz.call100 (c.M 9 hpc)),Fn t.rv.v t.rows _ (hT.at (ab.ext.trans c.J.ext)).rows (by first | assumption | (unfold pk;decide)) (by have hq0:=hpc;(try simp only [aw,ai] at hq0);omega)⟩,bK 8 10,aF 11,ax⟩ fun ac ag ae ab aa=> ?_;obtain ⟨e1,e8⟩:=aa.k2 e1 e8;have e2:=aa.V 12;replace r0:=aa.B 0;refine wp_ret ?_;refine rp ?_;refine cH (fn:=Tryz.f77) rfl ab.defers e2 ?_;exact ⟨congrArg _ (congrArg _ (by unfold cC;(repeat (first | rw [if_neg (by omega)] | rw [if_pos (by omega)]));(try rfl))),ab.ext0⟩
 try simp only [ah] at hc2
 refine wp_seq (eC ab [jb r0] ⟨am fun c=>bW rfl (c.p e8) rfl,aF 0,ax⟩ fun ac ag ae ab aa=> ?_);obtain ⟨e1,e2,e8⟩:=aa.k3 e1 e2 e8;have e44:=aa.V 1;replace r0:=aa.B 0;refine wp_cond_split e44 (fun hc3=> ?_) (fun hc3=> ?_)
 · try simp only [ai] at hc3
   refine wp_seq (CK [0,1,0,4,3,31] ab [jb r0] ⟨bZ aq au e1 r0.ptr,dq aC 0 0 4,bZ aq au e1 r0.ptr,dq aC 2 0 5,aF 1,aF 3,ax⟩ fun ac ag ae ab aa=> ?_);obtain ⟨e1,e2,e8⟩:=aa.k3 e1 e2 e8;have e5:=aa.V 4;have e6:=aa.V 5;replace r0:=aa.B 0;refine wp_seq ?_;refine bk ?_;refine cI 3 (by kernel_rfl) ?_;refine og [_,_,_] [0,1,3] ab [jb r0] ⟨bZ aq au e1 r0.ptr,ck (cx:=[(aj t.k),(aR t.ch),(aA t.ng),t.rv.v,(aj 0),(aj t.mx),(aA t.lz),t.kv.v]) (v:=(aj 0)) au fun c=>⟨c.bp 0 rfl e1,c.ad (c.q 0) e1 rfl,rfl⟩,bZ aq au e1 r0.ptr,ax⟩ fun ac ag ae ab aa=> ?_;obtain ⟨e1,e2,e5,e6,e8⟩:=aa.k5 e1 e2 e5 e6 e8;have e51:=aa.V 2;replace r0:=aa.RB 1 e1;refine cJ ?_;refine cI 2 (by kernel_rfl) ?_;refine og [_,_] [0,1] ab [jb r0] ⟨ck (cx:=[(aj t.k),(aR t.ch),(aA t.ng),t.rv.v,(aj 0),(aj 0),(aA t.lz),t.kv.v]) (v:=(aj 0)) au fun c=>⟨c.bp 0 rfl e1,c.ad (c.p e51) e1 rfl,rfl⟩,bZ aq bh e1 r0.ptr,ax⟩ fun ac ag ae ab aa=> ?_;obtain ⟨e1,e2,e5,e6,e8⟩:=aa.k5 e1 e2 e5 e6 e8;have e52:=aa.V 1;replace r0:=aa.RB 0 e1;refine cJ ?_;refine og [_] [0] ab [jb r0] ⟨ck (cx:=[(aj t.k),(aR t.ch),(aA t.ng),t.rv.v,(aj 0),(aj 0),(aA false),t.kv.v]) (v:=(aA false)) bh fun c=>⟨c.bp 0 rfl e1,c.ad (c.p e52) e1 rfl,rfl⟩,ax⟩ fun ac ag ae ab aa=> ?_;obtain ⟨e1,e2,e5,e6,e8⟩:=aa.k5 e1 e2 e5 e6 e8;replace r0:=aa.RB 0 e1;refine wp_seq ?_;refine rg [_,_,_,_,_,_,_,_,_,_,_,_,_,_,_,_,_,_,_,_,_,_,_,_,_,_,_,_,_,_,_,_,_,_,_,_,_,_] [0,1,3,7,15,31,63,127,255,511,1023,2047,4095,8191,16383,32767,65535,131071,262143,524287,1048575,2097151,4194303,8388607,16777215,33554431,67108863,134217727,268435455,268435455,1073741823,2147483647,4294967295,8589934591,17179869183,34359738367,68719476735,137438953471] ab [jb r0] ⟨am fun c=>ec rfl aD ak ((c.p e1).trans r0.ptr) (c.B 0),dU fun c=>⟨_,_,(bq rfl rfl gj (c.q 0)),kP t.k t.ch t.ng t.rv.v t.rows 0 0 false t.kv.v rfl _ (hT.at (ab.ext.trans c.J.ext)).rows⟩,bm 1,aE 2 rfl fun c hpc=>cN rfl aq bC ((c.p e1).trans r0.ptr),aE 2 rfl fun c hpc=>ay rfl bS (c.M 3 hpc) ((c.B 0).cell (j:=7) rfl),aE 2 rfl fun c hpc=>cX rfl aI (c.M 4 hpc) (hT.at ab.ext).tl.sl.sl,aE 2 rfl fun c hpc=>bW rfl (c.M 5 hpc) rfl,bK 2 6,bm 7,aE 8 rfl fun c hpc=>cN rfl aq bC ((c.p e1).trans r0.ptr),aE 8 rfl fun c hpc=>ay rfl bS (c.M 9 hpc) ((c.B 0).cell (j:=7) rfl),aE 8 rfl fun c hpc=>aK rfl aI ak (c.M 10 hpc) (hT.at ab.ext).tl.sl.sl rfl (by have hq0:=hpc;(try simp only [aw,ai] at hq0);omega) (by have hq0:=hpc;(try simp only [aw,ai] at hq0);omega),aE 8 rfl fun c hpc=>cN rfl aq au (c.M 11 hpc),aE 8 rfl fun c hpc=>ay rfl aC (c.M 12 hpc) (((hT.at (ab.ext.trans c.J.ext)).tl.sl).elem (j:=0) (bu (i:=0) (by have hq0:=hpc;(try simp only [aw,ai] at hq0);omega) (by have hq0:=hpc;(try simp only [aw,ai] at hq0);omega)) rfl),fv 8 true rfl fun c hpc=>⟨_,_,(bq rfl rfl Tryz.call101 (c.M 13 hpc)),wM ((nth t.kids 0).k) _⟩,bK 8 14,bm 15,aE 16 rfl fun c hpc=>aJ rfl (c.p e5),aE 16 rfl fun c hpc=>fW rfl (c.M 17 hpc) rfl,bK 16 18,bm 19,aE 20 rfl fun c hpc=>aJ rfl (c.p e5),aE 20 rfl fun c hpc=>ki rfl (c.M 21 hpc) rfl,bK 20 22,bm 23,aE 24 rfl fun c hpc=>aJ rfl (c.p e6),aE 24 rfl fun c hpc=>bW rfl (c.M 25 hpc) rfl,aE 24 rfl fun c hpc=>aJ rfl (c.M 26 hpc),cF 27 false rfl fun c hpc=>aJ rfl (c.p e6),cF 27 false rfl fun c hpc=>aJ rfl (c.p e5),cF 27 false rfl fun c hpc=>fW rfl (c.M 28 hpc) (c.M 29 hpc),cF 27 false rfl fun c hpc=>aJ rfl (c.M 30 hpc),cF 31 true rfl fun c hpc=>aJ rfl (c.p e6),cF 31 true rfl fun c hpc=>ki rfl (c.M 32 hpc) rfl,cF 27 false rfl fun c hpc=>lG rfl (c.M 31 hpc) (fun h=>c.m 33 rfl (And.intro hpc h)),aE 24 rfl fun c hpc=>pF rfl (c.M 27 hpc) (fun h=>c.m 34 rfl (And.intro hpc h)),bK 24 35,aF 36,ax⟩ fun ac ag ae ab aa=> ?_;obtain ⟨e1,e8⟩:=aa.k2 e1 e8;have e2:=aa.V 37;replace r0:=aa.B 0;refine wp_ret ?_;refine rp ?_;refine cH (fn:=Tryz.f77) rfl ab.defers e2 ?_;exact ⟨congrArg _ (congrArg _ (by unfold cC;(repeat (first | rw [if_neg (by omega)] | rw [if_pos (by omega)]));(try rfl))),ab.ext0⟩
 try simp only [ah] at hc3
 refine wp_seq (eC ab [jb r0] ⟨am fun c=>bW rfl (c.p e8) rfl,aF 0,ax⟩ fun ac ag ae ab aa=> ?_);obtain ⟨e1,e2,e8⟩:=aa.k3 e1 e2 e8;have e90:=aa.V 1;replace r0:=aa.B 0;refine wp_cond_split e90 (fun hc4=> ?_) (fun hc4=> ?_)
 · try simp only [ai] at hc4
   refine wp_seq (rg [_,_,_,_,_,_,_,_,_,_,_,gown (((jP t.ch t.ng t.rows t.mn t.mx t.lz)&&(!decide ((t.kids.length:Int)=1)))=true) gl 3 (Nw w) 1 103 ([0,1]),_,_,_,_] [0,1,3,7,15,31,63,127,255,511,1023,511,4095,8191,16383,32767] ab [jb r0] ⟨am fun c=>ec rfl aD ak ((c.p e1).trans r0.ptr) (c.B 0),dU fun c=>⟨_,_,(bq rfl rfl gj (c.q 0)),kP t.k t.ch t.ng t.rv.v t.rows t.mn t.mx t.lz t.kv.v rfl _ (hT.at (ab.ext.trans c.J.ext)).rows⟩,bm 1,aE 2 rfl fun c hpc=>cN rfl aq bC ((c.p e1).trans r0.ptr),aE 2 rfl fun c hpc=>ay rfl bS (c.M 3 hpc) ((c.B 0).cell (j:=7) rfl),aE 2 rfl fun c hpc=>cX rfl aI (c.M 4 hpc) (hT.at ab.ext).tl.sl.sl,aE 2 rfl fun c hpc=>kF rfl (c.M 5 hpc) rfl,bK 2 6,bm 7,aE 8 rfl fun c hpc=>cN rfl aq bC ((c.p e1).trans r0.ptr),aE 8 rfl fun c hpc=>ay rfl bS (c.M 9 hpc) ((c.B 0).cell (j:=7) rfl),tI (gi:=8) (tg:=100) rfl rfl rfl rfl rfl rfl Iff.rfl (fun hpc=>dp (cells:=#[(aj 0),(aj 1)]) rfl rfl rfl rfl cb au gv rfl (by decide) (by decide) (fun _ _ _ _ c=>im rfl rfl (by kernel_rfl)) rfl),fv 8 true rfl fun c hpc=>⟨_,_,(co rfl rfl Tryz.call102 (c.M 10 hpc) (qR _ 103)),xT t.kv.v _ t.kids [0,1] _ (hT.at (ab.ext.trans c.J.ext)).tl.sl (c.rg 11 rfl hpc).1.sl⟩,aE 8 rfl fun c hpc=>dY rfl (c.M 12 hpc),bK 8 13,aF 14,ax⟩ fun ac ag ae ab aa=> ?_);obtain ⟨e1,e8⟩:=aa.k2 e1 e8;have e2:=aa.V 15;replace r0:=aa.B 0;refine wp_ret ?_;refine rp ?_;refine cH (fn:=Tryz.f77) rfl ab.defers e2 ?_;exact ⟨congrArg _ (congrArg _ (by unfold cC;(repeat (first | rw [if_neg (by omega)] | rw [if_pos (by omega)]));(try rfl))),ab.ext0⟩
 try simp only [ah] at hc4
 refine wp_seq (eC ab [jb r0] ⟨am fun c=>bW rfl (c.p e8) rfl,aF 0,ax⟩ fun ac ag ae ab aa=> ?_);obtain ⟨e1,e2,e8⟩:=aa.k3 e1 e2 e8;have e107:=aa.V 1;replace r0:=aa.B 0;refine wp_cond_split e107 (fun hc5=> ?_) (fun hc5=> ?_)
 · try simp only [ai] at hc5
   refine wp_seq (rg [_,_,_,_,_,_,_,_,_,_,_,gown (((jP t.ch t.ng t.rows t.mn t.mx t.lz)&&(decide (1 < (t.kids.length:Int))))=true) gl 3 (Nw w) 1 120 ([1]),_,_,_,_] [0,1,3,7,15,31,63,127,255,511,1023,511,4095,8191,16383,32767] ab [jb r0] ⟨am fun c=>ec rfl aD ak ((c.p e1).trans r0.ptr) (c.B 0),dU fun c=>⟨_,_,(bq rfl rfl gj (c.q 0)),kP t.k t.ch t.ng t.rv.v t.rows t.mn t.mx t.lz t.kv.v rfl _ (hT.at (ab.ext.trans c.J.ext)).rows⟩,bm 1,aE 2 rfl fun c hpc=>cN rfl aq bC ((c.p e1).trans r0.ptr),aE 2 rfl fun c hpc=>ay rfl bS (c.M 3 hpc) ((c.B 0).cell (j:=7) rfl),aE 2 rfl fun c hpc=>cX rfl aI (c.M 4 hpc) (hT.at ab.ext).tl.sl.sl,aE 2 rfl fun c hpc=>jp rfl (c.M 5 hpc) rfl,bK 2 6,bm 7,aE 8 rfl fun c hpc=>cN rfl aq bC ((c.p e1).trans r0.ptr),aE 8 rfl fun c hpc=>ay rfl bS (c.M 9 hpc) ((c.B 0).cell (j:=7) rfl),tI (gi:=8) (tg:=117) rfl rfl rfl rfl rfl rfl Iff.rfl (fun hpc=>dp (cells:=#[(aj 1)]) rfl rfl rfl rfl cb au gv rfl (by decide) (by decide) (fun _ _ _ _ c=>gH rfl (by kernel_rfl)) rfl),fv 8 true rfl fun c hpc=>⟨_,_,(co rfl rfl Tryz.call102 (c.M 10 hpc) (qR _ 120)),xT t.kv.v _ t.kids [1] _ (hT.at (ab.ext.trans c.J.ext)).tl.sl (c.rg 11 rfl hpc).1.sl⟩,aE 8 rfl fun c hpc=>dY rfl (c.M 12 hpc),bK 8 13,aF 14,ax⟩ fun ac ag ae ab aa=> ?_);obtain ⟨e1,e8⟩:=aa.k2 e1 e8;have e2:=aa.V 15;replace r0:=aa.B 0;refine wp_ret ?_;refine rp ?_;refine cH (fn:=Tryz.f77) rfl ab.defers e2 ?_;exact ⟨congrArg _ (congrArg _ (by unfold cC;(repeat (first | rw [if_neg (by omega)] | rw [if_pos (by omega)]));(try rfl))),ab.ext0⟩
 try simp only [ah] at hc5
 refine wp_seq ?_;refine wp_seq (eC ab [jb r0] ⟨am fun c=>bW rfl (c.p e8) rfl,aF 0,ax⟩ fun ac ag ae ab aa=> ?_);obtain ⟨e1,e2,e8⟩:=aa.k3 e1 e2 e8;have e124:=aa.V 1;replace r0:=aa.B 0;refine wp_cond_split e124 (fun hc6=> ?_) (fun hc6=> ?_)
 · have hd6:=hc6;try simp only [ai] at hd6
   refine wp_skip ?_;refine wp_cond_true (e124.trans (congrArg _ hc6)) ?_;refine wp_seq (qy [0,1,3,7,15,31,63,127,255] ab [jb r0] ⟨am fun c=>ec rfl aD ak ((c.p e1).trans r0.ptr) (c.B 0),dU fun c=>⟨_,_,(bq rfl rfl gj (c.q 0)),kP t.k t.ch t.ng t.rv.v t.rows t.mn t.mx t.lz t.kv.v rfl _ (hT.at (ab.ext.trans c.J.ext)).rows⟩,bm 1,aE 2 rfl fun c hpc=>cN rfl aq bC ((c.p e1).trans r0.ptr),aE 2 rfl fun c hpc=>ay rfl bS (c.M 3 hpc) ((c.B 0).cell (j:=7) rfl),aE 2 rfl fun c hpc=>cX rfl aI (c.M 4 hpc) (hT.at ab.ext).tl.sl.sl,aE 2 rfl fun c hpc=>bW rfl (c.M 5 hpc) rfl,bK 2 6,aF 7,ax⟩ fun ac ag ae ab aa=> ?_);obtain ⟨e1,e8⟩:=aa.k2 e1 e8;have e2:=aa.V 8;replace r0:=aa.B 0;refine wp_ret ?_;refine rp ?_;refine cH (fn:=Tryz.f77) rfl ab.defers e2 ?_;exact ⟨congrArg _ (congrArg _ (by unfold cC;(repeat (first | rw [if_neg (by omega)] | rw [if_pos (by omega)]));(try rfl))),ab.ext0⟩
 have hd7:=hc6;try simp only [ah] at hd7
 refine eC ab [jb r0] ⟨am fun c=>bW rfl (c.p e8) rfl,aF 0,ax⟩ fun ac ag ae ab aa=> ?_;obtain ⟨e1,e2,e8⟩:=aa.k3 e1 e2 e8;have e124:=aa.V 1;replace r0:=aa.B 0;refine wp_cond_split e124 (fun hc8=> ?_) (fun hc8=> ?_)
 · have hd8:=hc8;try simp only [ai] at hd8
   refine wp_seq (qy [0,1,3,7,15,31,63,127,255] ab [jb r0] ⟨am fun c=>ec rfl aD ak ((c.p e1).trans r0.ptr) (c.B 0),dU fun c=>⟨_,_,(bq rfl rfl gj (c.q 0)),kP t.k t.ch t.ng t.rv.v t.rows t.mn t.mx t.lz t.kv.v rfl _ (hT.at (ab.ext.trans c.J.ext)).rows⟩,bm 1,aE 2 rfl fun c hpc=>cN rfl aq bC ((c.p e1).trans r0.ptr),aE 2 rfl fun c hpc=>ay rfl bS (c.M 3 hpc) ((c.B 0).cell (j:=7) rfl),aE 2 rfl fun c hpc=>cX rfl aI (c.M 4 hpc) (hT.at ab.ext).tl.sl.sl,aE 2 rfl fun c hpc=>bW rfl (c.M 5 hpc) rfl,bK 2 6,aF 7,ax⟩ fun ac ag ae ab aa=> ?_);obtain ⟨e1,e8⟩:=aa.k2 e1 e8;have e2:=aa.V 8;replace r0:=aa.B 0;refine wp_ret ?_;refine rp ?_;refine cH (fn:=Tryz.f77) rfl ab.defers e2 ?_;exact ⟨congrArg _ (congrArg _ (by unfold cC;(repeat (first | rw [if_neg (by omega)] | rw [if_pos (by omega)]));(try rfl))),ab.ext0⟩
 have hd8:=hc8;try simp only [ah] at hd8
 refine wp_seq ?_;refine wp_seq (eC ab [jb r0] ⟨am fun c=>bW rfl (c.p e8) rfl,aF 0,ax⟩ fun ac ag ae ab aa=> ?_);obtain ⟨e1,e2,e8⟩:=aa.k3 e1 e2 e8;have e135:=aa.V 1;replace r0:=aa.B 0;refine wp_cond_split e135 (fun hc9=> ?_) (fun hc9=> ?_)
 · have hd9:=hc9;try simp only [ai] at hd9
   refine wp_skip ?_;refine wp_cond_true (e135.trans (congrArg _ hc9)) ?_;refine wp_seq (qy [0,1,3,7,15,31,63,127,255] ab [jb r0] ⟨am fun c=>ec rfl aD ak ((c.p e1).trans r0.ptr) (c.B 0),dU fun c=>⟨_,_,(bq rfl rfl gj (c.q 0)),kP t.k t.ch t.ng t.rv.v t.rows t.mn t.mx t.lz t.kv.v rfl _ (hT.at (ab.ext.trans c.J.ext)).rows⟩,bm 1,aE 2 rfl fun c hpc=>cN rfl aq bC ((c.p e1).trans r0.ptr),aE 2 rfl fun c hpc=>ay rfl bS (c.M 3 hpc) ((c.B 0).cell (j:=7) rfl),aE 2 rfl fun c hpc=>cX rfl aI (c.M 4 hpc) (hT.at ab.ext).tl.sl.sl,aE 2 rfl fun c hpc=>bW rfl (c.M 5 hpc) rfl,bK 2 6,aF 7,ax⟩ fun ac ag ae ab aa=> ?_);have e2:=aa.V 8;refine wp_ret ?_;refine rp ?_;refine cH (fn:=Tryz.f77) rfl ab.defers e2 ?_;exact ⟨congrArg _ (congrArg _ (by unfold cC;(repeat (first | rw [if_neg (by omega)] | rw [if_pos (by omega)]));(try rfl))),ab.ext0⟩
 have hd10:=hc9;try simp only [ah] at hd10
 refine wp_seq (eC ab [jb r0] ⟨am fun c=>bW rfl (c.p e8) rfl,aF 0,ax⟩ fun ac ag ae ab aa=> ?_);obtain ⟨e1,e2,e8⟩:=aa.k3 e1 e2 e8;have e135:=aa.V 1;replace r0:=aa.B 0;refine wp_cond_split e135 (fun hc11=> ?_) (fun hc11=> ?_)
 · have hd11:=hc11;try simp only [ai] at hd11
   refine wp_skip ?_;refine wp_cond_true (e135.trans (congrArg _ hc11)) ?_;refine wp_seq (qy [0,1,3,7,15,31,63,127,255] ab [jb r0] ⟨am fun c=>ec rfl aD ak ((c.p e1).trans r0.ptr) (c.B 0),dU fun c=>⟨_,_,(bq rfl rfl gj (c.q 0)),kP t.k t.ch t.ng t.rv.v t.rows t.mn t.mx t.lz t.kv.v rfl _ (hT.at (ab.ext.trans c.J.ext)).rows⟩,bm 1,aE 2 rfl fun c hpc=>cN rfl aq bC ((c.p e1).trans r0.ptr),aE 2 rfl fun c hpc=>ay rfl bS (c.M 3 hpc) ((c.B 0).cell (j:=7) rfl),aE 2 rfl fun c hpc=>cX rfl aI (c.M 4 hpc) (hT.at ab.ext).tl.sl.sl,aE 2 rfl fun c hpc=>bW rfl (c.M 5 hpc) rfl,bK 2 6,aF 7,ax⟩ fun ac ag ae ab aa=> ?_);have e2:=aa.V 8;refine wp_ret ?_;refine rp ?_;refine cH (fn:=Tryz.f77) rfl ab.defers e2 ?_;exact ⟨congrArg _ (congrArg _ (by unfold cC;(repeat (first | rw [if_neg (by omega)] | rw [if_pos (by omega)]));(try rfl))),ab.ext0⟩
 have hd12:=hc11;try simp only [ah] at hd12
 refine wp_seq (eC ab [jb r0] ⟨am fun c=>bW rfl (c.p e8) rfl,aF 0,ax⟩ fun ac ag ae ab aa=> ?_);obtain ⟨e1,e2,e8⟩:=aa.k3 e1 e2 e8;have e135:=aa.V 1;replace r0:=aa.B 0;refine wp_cond_split e135 (fun hc13=> ?_) (fun hc13=> ?_)
 · have hd13:=hc13;try simp only [ai] at hd13
   refine wp_skip ?_;refine wp_cond_true (e135.trans (congrArg _ hc13)) ?_;refine wp_seq (qy [0,1,3,7,15,31,63,127,255] ab [jb r0] ⟨am fun c=>ec rfl aD ak ((c.p e1).trans r0.ptr) (c.B 0),dU fun c=>⟨_,_,(bq rfl rfl gj (c.q 0)),kP t.k t.ch t.ng t.rv.v t.rows t.mn t.mx t.lz t.kv.v rfl _ (hT.at (ab.ext.trans c.J.ext)).rows⟩,bm 1,aE 2 rfl fun c hpc=>cN rfl aq bC ((c.p e1).trans r0.ptr),aE 2 rfl fun c hpc=>ay rfl bS (c.M 3 hpc) ((c.B 0).cell (j:=7) rfl),aE 2 rfl fun c hpc=>cX rfl aI (c.M 4 hpc) (hT.at ab.ext).tl.sl.sl,aE 2 rfl fun c hpc=>bW rfl (c.M 5 hpc) rfl,bK 2 6,aF 7,ax⟩ fun ac ag ae ab aa=> ?_);have e2:=aa.V 8;refine wp_ret ?_;refine rp ?_;refine cH (fn:=Tryz.f77) rfl ab.defers e2 ?_;exact ⟨congrArg _ (congrArg _ (by unfold cC;(repeat (first | rw [if_neg (by omega)] | rw [if_pos (by omega)]));(try rfl))),ab.ext0⟩
 have hd14:=hc13;try simp only [ah] at hd14
 refine wp_seq (eC ab [jb r0] ⟨am fun c=>bW rfl (c.p e8) rfl,aF 0,ax⟩ fun ac ag ae ab aa=> ?_);obtain ⟨e1,e2,e8⟩:=aa.k3 e1 e2 e8;have e135:=aa.V 1;replace r0:=aa.B 0;refine wp_cond_split e135 (fun hc15=> ?_) (fun hc15=> ?_)
 · have hd15:=hc15;try simp only [ai] at hd15
   refine wp_skip ?_;refine wp_cond_true (e135.trans (congrArg _ hc15)) ?_;refine wp_seq (qy [0,1,3,7,15,31,63,127,255] ab [jb r0] ⟨am fun c=>ec rfl aD ak ((c.p e1).trans r0.ptr) (c.B 0),dU fun c=>⟨_,_,(bq rfl rfl gj (c.q 0)),kP t.k t.ch t.ng t.rv.v t.rows t.mn t.mx t.lz t.kv.v rfl _ (hT.at (ab.ext.trans c.J.ext)).rows⟩,bm 1,aE 2 rfl fun c hpc=>cN rfl aq bC ((c.p e1).trans r0.ptr),aE 2 rfl fun c hpc=>ay rfl bS (c.M 3 hpc) ((c.B 0).cell (j:=7) rfl),aE 2 rfl fun c hpc=>cX rfl aI (c.M 4 hpc) (hT.at ab.ext).tl.sl.sl,aE 2 rfl fun c hpc=>bW rfl (c.M 5 hpc) rfl,bK 2 6,aF 7,ax⟩ fun ac ag ae ab aa=> ?_);have e2:=aa.V 8;refine wp_ret ?_;refine rp ?_;refine cH (fn:=Tryz.f77) rfl ab.defers e2 ?_;exact ⟨congrArg _ (congrArg _ (by unfold cC;(repeat (first | rw [if_neg (by omega)] | rw [if_pos (by omega)]));(try rfl))),ab.ext0⟩
 have hd16:=hc15;try simp only [ah] at hd16
 refine eC ab [jb r0] ⟨am fun c=>bW rfl (c.p e8) rfl,aF 0,ax⟩ fun ac ag ae ab aa=> ?_;obtain ⟨e1,e2⟩:=aa.k2 e1 e2;have e135:=aa.V 1;replace r0:=aa.B 0;refine wp_cond_split e135 (fun hc17=> ?_) (fun hc17=> ?_)
 · have hd17:=hc17;try simp only [ai] at hd17
   refine wp_seq (qy [0,1,3,7,15,31,63,127,255] ab [jb r0] ⟨am fun c=>ec rfl aD ak ((c.p e1).trans r0.ptr) (c.B 0),dU fun c=>⟨_,_,(bq rfl rfl gj (c.q 0)),kP t.k t.ch t.ng t.rv.v t.rows t.mn t.mx t.lz t.kv.v rfl _ (hT.at (ab.ext.trans c.J.ext)).rows⟩,bm 1,aE 2 rfl fun c hpc=>cN rfl aq bC ((c.p e1).trans r0.ptr),aE 2 rfl fun c hpc=>ay rfl bS (c.M 3 hpc) ((c.B 0).cell (j:=7) rfl),aE 2 rfl fun c hpc=>cX rfl aI (c.M 4 hpc) (hT.at ab.ext).tl.sl.sl,aE 2 rfl fun c hpc=>bW rfl (c.M 5 hpc) rfl,bK 2 6,aF 7,ax⟩ fun ac ag ae ab aa=> ?_);have e2:=aa.V 8;refine wp_ret ?_;refine rp ?_;refine cH (fn:=Tryz.f77) rfl ab.defers e2 ?_;exact ⟨congrArg _ (congrArg _ (by unfold cC;(repeat (first | rw [if_neg (by omega)] | rw [if_pos (by omega)]));(try rfl))),ab.ext0⟩
 have hd17:=hc17;try simp only [ah] at hd17
 refine wp_skip ?_;show _;refine wp_seq (eB ab [jb r0] ⟨am fun c=>ar rfl rfl,ax⟩ fun ac ag ae ab aa=> ?_);have e2:=aa.V 0;refine wp_ret ?_;refine rp ?_;refine cH (fn:=Tryz.f77) rfl ab.defers e2 ?_;exact ⟨congrArg _ (congrArg _ (by unfold cC;(repeat (first | rw [if_neg (by omega)] | rw [if_pos (by omega)]));(try rfl))),ab.ext0⟩
end
section
open Go.RowKit
open Srt
def iD (l:List (Int→Int→Int × Bool)) (n d:Int):Int × Bool:=match l with
  | [] => (n, true)
  | g :: l => if (g n d).2 = true then iD l (g n d).1 d else ((g n d).1, false)
def dj (t:Tr) (d:Int):Int:=if oM t=true then d - 1 else d
def de:Tr→Int→Int→Int × Bool:=ln fun t l n d=>if ((decide (n < 1) || decide (dj t d < 0)) || !cC t)=true then (n,false) else iD l (n - 1) (dj t d)
theorem nM (t:Tr) (n d:Int):de t n d=if ((decide (n < 1) || decide (dj t d < 0)) || !cC t)=true then (n,false) else iD (t.kids.map de) (n - 1) (dj t d):=
  congrFun (congrFun (iK (fun t l n d=>if ((decide (n < 1) || decide (dj t d < 0)) || !cC t)=true then (n,false) else iD l (n - 1) (dj t d)) t) n) d
theorem nN (t:Tr):∀{n d:Int},0≤n→0≤(de t n d).1∧(de t n d).1≤n:=by
  induction t using Tr.ind with
  | h t ih =>
    intro n d hn;have hK:∀ks:List Tr,(∀k ∈ ks,k ∈ t.kids)→∀m d,0≤m→0≤(iD (ks.map de) m d).1∧(iD (ks.map de) m d).1≤m:=by
      intro ks;induction ks with
      | nil => intro _ m d h; exact ⟨h, eY _⟩
      | cons k ks ih2 =>
        intro hm m d h;have h1:=ih k (hm k (by simp)) (n:=m) (d:=d) h;rw [bz,iD];split
        · have:=ih2 (fun x hx=>hm x (by simp [hx])) _ d h1.1;omega
        · exact h1
    rw [nM];split
    · exact ⟨hn,eY _⟩
    · rename_i hc;simp only [aN,ai,not_or] at hc;have:=hK t.kids (fun _ h=>h) (n - 1) (dj t d) (by omega);omega
theorem xU {t:Tr} {n d:Int} (h:((decide (n < 1) || decide (dj t d < 0)) || !cC t)=true):de t n d=(n,false):=by rw [nM,if_pos h]
theorem vz {t:Tr} {n d m:Int} {k:Nat} (h:((decide (n < 1) || decide (dj t d < 0)) || !cC t)=false) (hq:iD (t.kids.map de) (n - 1) (dj t d)=iD ((t.kids.drop k).map de) m (dj t d)) (hk:k < t.kids.length) (hb:(de (nth t.kids (k:Int)) m (dj t d)).2=false):de t n d=((de (nth t.kids (k:Int)) m (dj t d)).1,false):=by
  rw [nM,if_neg (by rw [h];decide),hq,iN hk,bz,iD,if_neg (by rw [hb];decide)]
theorem vA {t:Tr} {n d m:Int} {k:Nat} (h:((decide (n < 1) || decide (dj t d < 0)) || !cC t)=false) (hq:iD (t.kids.map de) (n - 1) (dj t d)=iD ((t.kids.drop k).map de) m (dj t d)) (hk:t.kids.length≤k):de t n d=(m,true):=by
  rw [nM,if_neg (by rw [h];decide),hq,dV hk];rfl
theorem sW {t:Tr} {n d m:Int} {k:Nat} (hq:iD (t.kids.map de) (n - 1) (dj t d)=iD ((t.kids.drop k).map de) m (dj t d)) (hk:k < t.kids.length) (hb:(de (nth t.kids (k:Int)) m (dj t d)).2=true):iD (t.kids.map de) (n - 1) (dj t d)=iD ((t.kids.drop (k+1)).map de) (de (nth t.kids (k:Int)) m (dj t d)).1 (dj t d):=by
  rw [hq,iN hk,bz,iD,if_pos hb]
set_option maxRecDepth 100000 in
theorem zh (t:Tr) (ih:∀k ∈ t.kids,∀(n d:Int) (w:World),kW w k→fy k≤1000000→0≤n∧n≤1000→0≤d∧d≤1000→Calls Tryz.prog 52 #[k.v,aj n,aj d] w (fun e w'=>e= .returned (.tuple #[aj (de k n d).1,aA (de k n d).2])∧Ext bc w w')) (n d:Int) (w:World) (hT:kW w t) (hP:fy t≤1000000) (hn:0≤n∧n≤1000) (hd:0≤d∧d≤1000):Calls Tryz.prog 52 #[t.v,aj n,aj d] w (fun e w'=>e= .returned (.tuple #[aj (de t n d).1,aA (de t n d).2])∧Ext bc w w'):=by
 refine enter (n:=49) Tryz.func52 rfl rfl (av rfl) ?_;intro a0 τ0 ha st0;have e0:aT a0 0=(ta t):=ha 0 _ rfl;have e1:aT a0 1=(aj n):=ha 1 _ rfl;have e2:aT a0 2=(aj d):=ha 2 _ rfl;clear ha;have hle:=hT.kids.le;have hwt:=ek t;have hpk:∀k:Nat,k < t.kids.length→fy (nth t.kids (k:Int))≤1000000:=fun k h_=>by have h1_:=mV (cP (xs:=t.kids) (i:=(k:Int)) (by omega) (by omega));omega
 refine wp_seq (rg [box _ _ 0 3 (tc t),_,_] [0,0,2] st0 [] ⟨fh (v:=(ta t)) rfl rfl rfl rfl rfl (fun _ _ _ _ c=>(c.p e0)),am fun c=>ar rfl rfl,am fun c=>ar rfl rfl,ax⟩ fun ac ag ae ab aa=> ?_);obtain ⟨b1x3,e3⟩:=gx ac 3;obtain ⟨e1,e2⟩:=aa.k2 e1 e2;have e6:=aa.V 1;have e7:=aa.V 2;have r0:=aa.rb 0 e3 rfl;refine wp_seq ?_;refine wp_seq (eM ab [jb r0] ⟨bZ aq au e3 r0.ptr,dq aC 0 0 0,dU fun c=>⟨_,_,(bq rfl rfl Tryz.call56 (c.q 1)),Dj t.k _⟩,ax⟩ fun ac ag ae ab aa=> ?_);obtain ⟨e1,e2,e3,e6,e7⟩:=aa.k5 e1 e2 e3 e6 e7;have e13:=aa.V 2;replace r0:=aa.B 0;refine wp_cond_split e13 (fun hc1=> ?_) (fun hc1=> ?_)
 · have hd1:=hc1;try simp only [aN,ai] at hd1
   refine eM ab [jb r0] ⟨ao e2,am fun c=>iA rfl (c.q 0) rfl (by omega),aF 1,ax⟩ fun ac ag ae ab aa=> ?_;obtain ⟨e1,e3,e6,e7⟩:=aa.k4 e1 e3 e6 e7;have e2:=aa.V 2;replace r0:=aa.B 0;refine wp_seq ?_;refine wp_seq ?_;have hdp:d - 1=dj t d:=by unfold dj oM;first | (rw [if_pos (by simpa using (by assumption))]) | (rw [if_neg (by simpa using (by assumption))])
   replace e2:aT ac 2=aj (dj t d):=e2.trans (bd hdp);have hdr:dj t d≤1000∧ -1≤dj t d:=by unfold dj;split <;> omega
   refine pI [0,1,3,7,15,31,63,127,255,511,1023] ab [jb r0] ⟨ao e1,am fun c=>dh rfl (c.q 0) rfl,bm 1,bo 2 rfl fun c hpc=>aJ rfl (c.p e2),bo 2 rfl fun c hpc=>dh rfl (c.M 3 hpc) rfl,dD 2 4,bm 5,bo 6 rfl fun c hpc=>ec rfl aD ak ((c.p e3).trans r0.ptr) (c.B 0),fv 6 false rfl fun c hpc=>⟨_,_,(bq rfl rfl Tryz.call77 (c.M 7 hpc)),vy t _ (hT.at (ab.ext.trans c.J.ext)) (by have hq0:=hpc;(try simp only [aG,ah,aX] at hq0);omega)⟩,bo 6 rfl fun c hpc=>dY rfl (c.M 8 hpc),dD 6 9,ax⟩ fun ac ag ae ab aa=> ?_;obtain ⟨e1,e2,e3,e6,e7⟩:=aa.k5 e1 e2 e3 e6 e7;have e26:=aa.V 10;replace r0:=aa.B 0;refine wp_cond_split e26 (fun hc2=> ?_) (fun hc2=> ?_)
   · have hd2:=hc2;try simp only [aN,aG,aB,az,ai,ah,aX] at hd2
     refine wp_seq ?_;have hcd:=hc2;refine eM ab [jb r0] ⟨ao e1,aF 0,am fun c=>ar rfl rfl,ax⟩ fun ac ag ae ab aa=> ?_;obtain ⟨e1,e2,e3⟩:=aa.k3 e1 e2 e3;have e6:=aa.V 1;have e7:=aa.V 2;replace r0:=aa.B 0;refine wp_ret ?_;refine rp ?_;refine jE (fn:=Tryz.f52) rfl ab.defers e6 e7 ?_;exact ⟨congrArg _ (show (Value.tuple #[(aj n),(aA false)])=(.tuple #[aj (de t n d).1,aA (de t n d).2]) from by rw [xU hcd]),ab.ext0⟩
   have hd2:=hc2;try simp only [aN,aG,aB,az,ai,ah,aX] at hd2
   refine wp_skip ?_;refine wp_seq ?_;have hcd:((decide (n < 1) || decide (dj t d < 0)) || !cC t)=false:=by assumption
   have hce:=hcd;simp only [aG,ah,aX] at hce;refine eM ab [jb r0] ⟨ao e1,am fun c=>iA rfl (c.q 0) rfl (by omega),aF 1,ax⟩ fun ac ag ae ab aa=> ?_;obtain ⟨e2,e3,e6,e7⟩:=aa.k4 e2 e3 e6 e7;have e1:=aa.V 2;replace r0:=aa.B 0;refine wp_seq ?_;refine wp_seq (lD [0,1,3,0] ab [jb r0] ⟨bZ aq bC e3 r0.ptr,dq bS 0 0 7,am fun c=>cX rfl aI (c.q 1) (hT.at ab.ext).tl.sl.sl,am fun c=>aJ rfl rfl,ax⟩ fun ac ag ae ab aa=> ?_);obtain ⟨e1,e2,e6,e7⟩:=aa.k4 e1 e2 e6 e7;have e31:=aa.V 1;have e32:=aa.V 2;have e33:=aa.V 3;refine wp_block ?_;refine wp_loop (fun a_ w_=>∃(k:Nat) (m:Int) (τ:Nat→aP),(k≤t.kids.length)∧
          (0≤m∧m≤1000)∧
          (iD (t.kids.map de) (n - 1) (dj t d)=iD ((t.kids.drop k).map de) m (dj t d))∧
          St (Nw w) w 49 a_ w_ τ∧
          aT a_ 1=(aj m)∧
          aT a_ 33=(aj (k:Int))∧
          aT a_ 2=(aj (dj t d))∧
          aT a_ 31=t.kv.v∧
          aT a_ 32=(aj (t.kids.length:Int))) (fun a_ _=>t.kids.length - (intOf (aT a_ 33)).toNat) ?_ ?_
   · refine ⟨0,n - 1,ae,?_,?_,?_,ab,(e1.trans (bd (by omega))),(e33.trans (bd (by omega))),e2,e31,e32⟩
     · omega
     · omega
     · rfl
   intro a8 w8 hI;obtain ⟨k,m,τ8,q0,q1,q2,st8,e1,e33,e2,e31,e32⟩:=hI;have hpk0:=hpk k;have m33:=e33;refine wp_seq (eB st8 [] ⟨am fun c=>dh rfl (c.p e33) (c.p e32),ax⟩ fun ac ag ae ab aa=> ?_);obtain ⟨e1,e2,e31,e32,e33⟩:=aa.k5 e1 e2 e31 e32 e33;have e34:=aa.V 0;refine wp_seq ?_;refine wp_cond_split e34 (fun hc3=> ?_) (fun hc3=> ?_)
   · try simp only [ai] at hc3
     refine wp_skip ?_;refine wp_seq ?_;refine wp_block ?_;refine wp_seq (rg [_,_,box _ _ 0 9 [(aj 0),(aR (⟨#[]⟩:ByteArray)),(aA false),(.slice none 0 0),(aj 0),(aj 0),(aA false),(.slice none 0 0)],_] [0,1,0,7] ab [] ⟨am fun c=>aK rfl aI ak (c.p e31) (hT.at ab.ext).tl.sl.sl (c.p e33) (by omega) (by omega),am fun c=>cT (vs:=(tc (nth t.kids (k:Int)))) rfl aD ak (c.q 0) rfl (fun _ _ hj=>((hT.at (ab.ext.trans c.J.ext)).tl.sl).elem (bu (i:=(k:Int)) (by omega) (by omega)) hj),cB rfl rfl rfl rfl aO rfl,fZ (cx:=(tc (nth t.kids (k:Int)))) (off:=0) rfl ak fun c=>⟨c.rb 2 rfl,(c.rb 2 rfl).ptr,(c.q 1)⟩,ax⟩ fun ac ag ae ab aa=> ?_);obtain ⟨b10x9,e9⟩:=gx ac 9;obtain ⟨e1,e2,e31,e32,e33,e34⟩:=aa.k6 e1 e2 e31 e32 e33 e34;have r0:=aa.rb 3 e9 rfl;refine wp_seq (eB ab [jb r0] ⟨am fun c=>ar rfl rfl,ax⟩ fun ac ag ae ab aa=> ?_);obtain ⟨e1,e2,e9,e31,e32,e33,e34⟩:=aa.k7 e1 e2 e9 e31 e32 e33 e34;have e10:=aa.V 0;replace r0:=aa.B 0;refine wp_seq (qy [0,0,0,7,15,31,31,63,255] ab [jb r0] ⟨am fun c=>ec rfl aD ak ((c.p e9).trans r0.ptr) (c.B 0),ao e1,ao e2,dU fun c=>⟨_,_,(gB rfl rfl Tryz.call52 (c.q 0) (c.q 1) (c.q 2)),ih _ (cP (by omega) (by omega)) m (dj t d) _ ((hT.at (ab.ext.trans c.J.ext)).tl.el (by omega) (by omega)) (by omega) (by omega) (by omega)⟩,bm 3,cG 4,cG 4,aF 5,aF 6,ax⟩ fun ac ag ae ab aa=> ?_);obtain ⟨e2,e9,e31,e32,e33,e34⟩:=aa.k6 e2 e9 e31 e32 e33 e34;have e1:=aa.V 7;have e10:=aa.V 8;replace r0:=aa.B 0;refine wp_seq (eC ab [jb r0] ⟨ao e10,am fun c=>dY rfl (c.q 0),ax⟩ fun ac ag ae ab aa=> ?_);obtain ⟨e1,e2,e9,e10,e31,e32,e33,e34⟩:=aa.k8 e1 e2 e9 e10 e31 e32 e33 e34;have e45:=aa.V 1;replace r0:=aa.B 0;refine wp_cond_split e45 (fun hc4=> ?_) (fun hc4=> ?_)
     · have hd4:=hc4;try simp only [aB,az] at hd4
       refine wp_seq ?_;have hbad:(de (nth t.kids (k:Int)) m (dj t d)).2=false:=by simpa using (by assumption:(!(de (nth t.kids (k:Int)) m (dj t d)).2)=true)
       refine eM ab [jb r0] ⟨ao e1,aF 0,am fun c=>ar rfl rfl,ax⟩ fun ac ag ae ab aa=> ?_;obtain ⟨e1,e2,e9,e10,e31,e32,e33,e34,e45⟩:=aa.k9 e1 e2 e9 e10 e31 e32 e33 e34 e45;have e6:=aa.V 1;have e7:=aa.V 2;replace r0:=aa.B 0;refine wp_ret ?_;refine rp ?_;refine jE (fn:=Tryz.f52) rfl ab.defers e6 e7 ?_;exact ⟨congrArg _ (show (Value.tuple #[(aj ((de (nth t.kids (k:Int)) m (dj t d)).1)),(aA false)])=(.tuple #[aj (de t n d).1,aA (de t n d).2]) from by rw [vz hcd q2 (by omega) hbad]),ab.ext0⟩
     have hd4:=hc4;try simp only [aB,az] at hd4
     refine wp_skip ?_;show _;have hgood:(de (nth t.kids (k:Int)) m (dj t d)).2=true:=by simpa using (by assumption:(!(de (nth t.kids (k:Int)) m (dj t d)).2)=false)
     have hrg:=nN (nth t.kids (k:Int)) (n:=m) (d:=dj t d) (by omega);refine eC ab [jb r0] ⟨am fun c=>cV rfl (c.p e33) rfl (by omega),bm 0,ax⟩ fun ac ag ae ab aa=> ?_;obtain ⟨e1,e2,e9,e10,e31,e32,e34,e45⟩:=aa.k8 e1 e2 e9 e10 e31 e32 e34 e45;have e33:=aa.V 1;replace r0:=aa.B 0;refine ⟨⟨k+1,(de (nth t.kids (k:Int)) m (dj t d)).1,ae,?_,?_,?_,ab,(e1.trans (bd (by omega))),(e33.trans (bd (by omega))),e2,e31,e32⟩,?_⟩
     · omega
     · omega
     · exact sW q2 (by omega) hgood
     · simp only [m33,e33,intOf];omega
   try simp only [ah,aX] at hc3
   refine wp_exit ?_;repeat (with_reducible refine cn ?_)
   refine cr ?_;refine wp_seq (eM ab [] ⟨ao e1,aF 0,am fun c=>ar rfl rfl,ax⟩ fun ac ag ae ab aa=> ?_);have e6:=aa.V 1;have e7:=aa.V 2;refine wp_ret ?_;refine rp ?_;refine jE (fn:=Tryz.f52) rfl ab.defers e6 e7 ?_;exact ⟨congrArg _ (show (Value.tuple #[(aj m),(aA true)])=(.tuple #[aj (de t n d).1,aA (de t n d).2]) from by rw [vA hcd q2 (by omega)]),ab.ext0⟩
 have hd4:=hc1;try simp only [aG,ah] at hd4
 refine wp_skip ?_;refine wp_seq ?_;refine wp_seq ?_;have hdp:d=dj t d:=by unfold dj oM;first | (rw [if_pos (by simpa using (by assumption))]) | (rw [if_neg (by simpa using (by assumption))])
 replace e2:aT ac 2=aj (dj t d):=e2.trans (bd hdp);have hdr:dj t d≤1000∧ -1≤dj t d:=by unfold dj;split <;> omega
 refine pI [0,1,3,7,15,31,63,127,255,511,1023] ab [jb r0] ⟨ao e1,am fun c=>dh rfl (c.q 0) rfl,bm 1,bo 2 rfl fun c hpc=>aJ rfl (c.p e2),bo 2 rfl fun c hpc=>dh rfl (c.M 3 hpc) rfl,dD 2 4,bm 5,bo 6 rfl fun c hpc=>ec rfl aD ak ((c.p e3).trans r0.ptr) (c.B 0),fv 6 false rfl fun c hpc=>⟨_,_,(bq rfl rfl Tryz.call77 (c.M 7 hpc)),vy t _ (hT.at (ab.ext.trans c.J.ext)) (by have hq0:=hpc;(try simp only [aG,ah,aX] at hq0);omega)⟩,bo 6 rfl fun c hpc=>dY rfl (c.M 8 hpc),dD 6 9,ax⟩ fun ac ag ae ab aa=> ?_;obtain ⟨e1,e2,e3,e6,e7⟩:=aa.k5 e1 e2 e3 e6 e7;have e26:=aa.V 10;replace r0:=aa.B 0;refine wp_cond_split e26 (fun hc5=> ?_) (fun hc5=> ?_)
 · have hd5:=hc5;try simp only [aN,aG,aB,az,ai,ah,aX] at hd5
   refine wp_seq ?_;have hcd:=hc5;refine eM ab [jb r0] ⟨ao e1,aF 0,am fun c=>ar rfl rfl,ax⟩ fun ac ag ae ab aa=> ?_;obtain ⟨e1,e2,e3⟩:=aa.k3 e1 e2 e3;have e6:=aa.V 1;have e7:=aa.V 2;replace r0:=aa.B 0;refine wp_ret ?_;refine rp ?_;refine jE (fn:=Tryz.f52) rfl ab.defers e6 e7 ?_;exact ⟨congrArg _ (show (Value.tuple #[(aj n),(aA false)])=(.tuple #[aj (de t n d).1,aA (de t n d).2]) from by rw [xU hcd]),ab.ext0⟩
 have hd5:=hc5;try simp only [aN,aG,aB,az,ai,ah,aX] at hd5
 refine wp_skip ?_;refine wp_seq ?_;have hcd:((decide (n < 1) || decide (dj t d < 0)) || !cC t)=false:=by assumption
 have hce:=hcd;simp only [aG,ah,aX] at hce;refine eM ab [jb r0] ⟨ao e1,am fun c=>iA rfl (c.q 0) rfl (by omega),aF 1,ax⟩ fun ac ag ae ab aa=> ?_;obtain ⟨e2,e3,e6,e7⟩:=aa.k4 e2 e3 e6 e7;have e1:=aa.V 2;replace r0:=aa.B 0;refine wp_seq ?_;refine wp_seq (lD [0,1,3,0] ab [jb r0] ⟨bZ aq bC e3 r0.ptr,dq bS 0 0 7,am fun c=>cX rfl aI (c.q 1) (hT.at ab.ext).tl.sl.sl,am fun c=>aJ rfl rfl,ax⟩ fun ac ag ae ab aa=> ?_);obtain ⟨e1,e2,e6,e7⟩:=aa.k4 e1 e2 e6 e7;have e31:=aa.V 1;have e32:=aa.V 2;have e33:=aa.V 3;refine wp_block ?_;refine wp_loop (fun a_ w_=>∃(k:Nat) (m:Int) (τ:Nat→aP),(k≤t.kids.length)∧
      (0≤m∧m≤1000)∧
      (iD (t.kids.map de) (n - 1) (dj t d)=iD ((t.kids.drop k).map de) m (dj t d))∧
      St (Nw w) w 49 a_ w_ τ∧
      aT a_ 1=(aj m)∧
      aT a_ 33=(aj (k:Int))∧
      aT a_ 2=(aj (dj t d))∧
      aT a_ 31=t.kv.v∧
      aT a_ 32=(aj (t.kids.length:Int))) (fun a_ _=>t.kids.length - (intOf (aT a_ 33)).toNat) ?_ ?_
 · refine ⟨0,n - 1,ae,?_,?_,?_,ab,(e1.trans (bd (by omega))),(e33.trans (bd (by omega))),e2,e31,e32⟩
   · omega
   · omega
   · rfl
 intro a21 w21 hI;obtain ⟨k,m,τ21,q0,q1,q2,st21,e1,e33,e2,e31,e32⟩:=hI;have hpk0:=hpk k;have m33:=e33;refine wp_seq (eB st21 [] ⟨am fun c=>dh rfl (c.p e33) (c.p e32),ax⟩ fun ac ag ae ab aa=> ?_);obtain ⟨e1,e2,e31,e32,e33⟩:=aa.k5 e1 e2 e31 e32 e33;have e34:=aa.V 0;refine wp_seq ?_;refine wp_cond_split e34 (fun hc6=> ?_) (fun hc6=> ?_)
 · try simp only [ai] at hc6
   refine wp_skip ?_;refine wp_seq ?_;refine wp_block ?_;refine wp_seq (rg [_,_,box _ _ 0 9 [(aj 0),(aR (⟨#[]⟩:ByteArray)),(aA false),(.slice none 0 0),(aj 0),(aj 0),(aA false),(.slice none 0 0)],_] [0,1,0,7] ab [] ⟨am fun c=>aK rfl aI ak (c.p e31) (hT.at ab.ext).tl.sl.sl (c.p e33) (by omega) (by omega),am fun c=>cT (vs:=(tc (nth t.kids (k:Int)))) rfl aD ak (c.q 0) rfl (fun _ _ hj=>((hT.at (ab.ext.trans c.J.ext)).tl.sl).elem (bu (i:=(k:Int)) (by omega) (by omega)) hj),cB rfl rfl rfl rfl aO rfl,fZ (cx:=(tc (nth t.kids (k:Int)))) (off:=0) rfl ak fun c=>⟨c.rb 2 rfl,(c.rb 2 rfl).ptr,(c.q 1)⟩,ax⟩ fun ac ag ae ab aa=> ?_);obtain ⟨b23x9,e9⟩:=gx ac 9;obtain ⟨e1,e2,e31,e32,e33,e34⟩:=aa.k6 e1 e2 e31 e32 e33 e34;have r0:=aa.rb 3 e9 rfl;refine wp_seq (eB ab [jb r0] ⟨am fun c=>ar rfl rfl,ax⟩ fun ac ag ae ab aa=> ?_);obtain ⟨e1,e2,e9,e31,e32,e33,e34⟩:=aa.k7 e1 e2 e9 e31 e32 e33 e34;have e10:=aa.V 0;replace r0:=aa.B 0;refine wp_seq (qy [0,0,0,7,15,31,31,63,255] ab [jb r0] ⟨am fun c=>ec rfl aD ak ((c.p e9).trans r0.ptr) (c.B 0),ao e1,ao e2,dU fun c=>⟨_,_,(gB rfl rfl Tryz.call52 (c.q 0) (c.q 1) (c.q 2)),ih _ (cP (by omega) (by omega)) m (dj t d) _ ((hT.at (ab.ext.trans c.J.ext)).tl.el (by omega) (by omega)) (by omega) (by omega) (by omega)⟩,bm 3,cG 4,cG 4,aF 5,aF 6,ax⟩ fun ac ag ae ab aa=> ?_);obtain ⟨e2,e9,e31,e32,e33,e34⟩:=aa.k6 e2 e9 e31 e32 e33 e34;have e1:=aa.V 7;have e10:=aa.V 8;replace r0:=aa.B 0;refine wp_seq (eC ab [jb r0] ⟨ao e10,am fun c=>dY rfl (c.q 0),ax⟩ fun ac ag ae ab aa=> ?_);obtain ⟨e1,e2,e9,e10,e31,e32,e33,e34⟩:=aa.k8 e1 e2 e9 e10 e31 e32 e33 e34;have e45:=aa.V 1;replace r0:=aa.B 0;refine wp_cond_split e45 (fun hc7=> ?_) (fun hc7=> ?_)
   · have hd7:=hc7;try simp only [aB,az] at hd7
     refine wp_seq ?_;have hbad:(de (nth t.kids (k:Int)) m (dj t d)).2=false:=by simpa using (by assumption:(!(de (nth t.kids (k:Int)) m (dj t d)).2)=true)
     refine eM ab [jb r0] ⟨ao e1,aF 0,am fun c=>ar rfl rfl,ax⟩ fun ac ag ae ab aa=> ?_;obtain ⟨e1,e2,e9,e10,e31,e32,e33,e34,e45⟩:=aa.k9 e1 e2 e9 e10 e31 e32 e33 e34 e45;have e6:=aa.V 1;have e7:=aa.V 2;replace r0:=aa.B 0;refine wp_ret ?_;refine rp ?_;refine jE (fn:=Tryz.f52) rfl ab.defers e6 e7 ?_;exact ⟨congrArg _ (show (Value.tuple #[(aj ((de (nth t.kids (k:Int)) m (dj t d)).1)),(aA false)])=(.tuple #[aj (de t n d).1,aA (de t n d).2]) from by rw [vz hcd q2 (by omega) hbad]),ab.ext0⟩
   have hd7:=hc7;try simp only [aB,az] at hd7
   refine wp_skip ?_;show _;have hgood:(de (nth t.kids (k:Int)) m (dj t d)).2=true:=by simpa using (by assumption:(!(de (nth t.kids (k:Int)) m (dj t d)).2)=false)
   have hrg:=nN (nth t.kids (k:Int)) (n:=m) (d:=dj t d) (by omega);refine eC ab [jb r0] ⟨am fun c=>cV rfl (c.p e33) rfl (by omega),bm 0,ax⟩ fun ac ag ae ab aa=> ?_;obtain ⟨e1,e2,e9,e10,e31,e32,e34,e45⟩:=aa.k8 e1 e2 e9 e10 e31 e32 e34 e45;have e33:=aa.V 1;replace r0:=aa.B 0;refine ⟨⟨k+1,(de (nth t.kids (k:Int)) m (dj t d)).1,ae,?_,?_,?_,ab,(e1.trans (bd (by omega))),(e33.trans (bd (by omega))),e2,e31,e32⟩,?_⟩
   · omega
   · omega
   · exact sW q2 (by omega) hgood
   · simp only [m33,e33,intOf];omega
 try simp only [ah,aX] at hc6
 refine wp_exit ?_;repeat (with_reducible refine cn ?_)
 refine cr ?_;refine wp_seq (eM ab [] ⟨ao e1,aF 0,am fun c=>ar rfl rfl,ax⟩ fun ac ag ae ab aa=> ?_);have e6:=aa.V 1;have e7:=aa.V 2;refine wp_ret ?_;refine rp ?_;refine jE (fn:=Tryz.f52) rfl ab.defers e6 e7 ?_;exact ⟨congrArg _ (show (Value.tuple #[(aj m),(aA true)])=(.tuple #[aj (de t n d).1,aA (de t n d).2]) from by rw [vA hcd q2 (by omega)]),ab.ext0⟩
theorem Fq (t:Tr):∀(n d:Int) (w:World),kW w t→fy t≤1000000→0≤n∧n≤1000→0≤d∧d≤1000→Calls Tryz.prog 52 #[t.v,.int .i64 n,.int .i64 d] w (fun e w'=>e= .returned (.tuple #[.int .i64 (de t n d).1,.bool (de t n d).2])∧Ext bc w w'):=Tr.ind (P:=fun t=>∀(n d:Int) (w:World),kW w t→fy t≤1000000→0≤n∧n≤1000→0≤d∧d≤1000→Calls Tryz.prog 52 #[t.v,.int .i64 n,.int .i64 d] w (fun e w'=>e= .returned (.tuple #[.int .i64 (de t n d).1,.bool (de t n d).2])∧Ext bc w w')) zh t
set_option maxRecDepth 100000 in
theorem AW (t:Tr) (w:World) (hT:kW w t) (hP:fy t≤1000000):Calls Tryz.prog 27 #[(ta t)] w (fun e w'=>e= .returned (aA ((de t 512 16).2))∧Ext bc w w'):=by
 refine enter (n:=11) Tryz.func27 rfl rfl (av rfl) ?_;intro a0 τ0 ha st0;have e0:aT a0 0=(ta t):=ha 0 _ rfl;clear ha;refine wp_seq (rg [box _ _ 0 1 (tc t),_] [0,0] st0 [] ⟨fh (v:=(ta t)) rfl rfl rfl rfl rfl (fun _ _ _ _ c=>(c.p e0)),am fun c=>ar rfl rfl,ax⟩ fun ac ag ae ab aa=> ?_);obtain ⟨b1x1,e1⟩:=gx ac 1;have e2:=aa.V 1;have r0:=aa.rb 0 e1 rfl;refine wp_seq (so [0,1,3,7,7,15,63] ab [jb r0] ⟨am fun c=>ec rfl aD ak ((c.p e1).trans r0.ptr) (c.B 0),dU fun c=>⟨_,_,(gB rfl rfl Tryz.call52 (c.q 0) rfl rfl),Fq t 512 16 _ (hT.at (ab.ext.trans c.J.ext)) (by omega) (by omega) (by omega)⟩,bm 1,cG 2,cG 2,aF 3,aF 4,ax⟩ fun ac ag ae ab aa=> ?_);replace e2:=aa.k1 e2;have e4:=aa.V 6;refine wp_seq (eC ab [] ⟨ao e4,aF 0,ax⟩ fun ac ag ae ab aa=> ?_);have e2:=aa.V 1;refine wp_ret ?_;refine rp ?_;refine cH (fn:=Tryz.f27) rfl ab.defers e2 ?_;exact ⟨rfl,ab.ext0⟩
end
section
open Go.RowKit
open Srt
def rT (t:Tr):Bool:=(((!decide ((t.kids.length:Int)=1)) || decide (t.mn < 0)) || decide (255 < t.mn)) || ((!decide (t.mx= -1))&&(decide (t.mx < t.mn) || decide (255 < t.mx)))
def AX (t:Tr):Bool:=if rT t=true then false else jP t.ch t.ng t.rows 0 0 false&&(((((decide ((nth t.kids 0).k=2)) || (decide ((nth t.kids 0).k=3))) || (decide ((nth t.kids 0).k=4))) || (decide ((nth t.kids 0).k=5))) || (decide ((nth t.kids 0).k=6)))
def gP:Tr→Bool:=ln fun t l=>l.all (fun b=>b)&&cC t
theorem jA (t:Tr):gP t=(t.kids.all gP&&cC t):=by
  have h:=iK (fun t l=>l.all (fun b=>b)&&cC t) t;rw [List.all_map] at h;exact h
theorem qG {t:Tr} {k:Nat} (h:k < t.kids.length) (hb:(!gP (nth t.kids (k:Int)))=true):false=gP t:=by
  rw [jA];have:t.kids.all gP=false:=by
    rw [List.all_eq_false];exact ⟨nth t.kids (k:Int),cP (by omega) (by omega),by simpa using hb⟩
  rw [this];rfl
theorem em {t:Tr} {k:Nat} {b:Bool} (h:∀y ∈ t.kids.take k,gP y=true) (hk:t.kids.length≤k) (hb:b=cC t):b=gP t:=by
  rw [bF hk] at h;rw [jA,cY.2 h,hb];rfl
theorem AY {α:Type} [Inhabited α] {f:α→Bool} {xs:List α} {k:Nat} (h:k < xs.length) (hq:∀y ∈ xs.take k,f y=true) (hc:f (nth xs (k:Int))=true):∀y ∈ xs.take (k+1),f y=true:=by
  rw [fi h];intro y hy;rcases List.mem_append.1 hy with hy | hy
  · exact hq y hy
  · simp at hy;rw [hy];exact hc
theorem pQ (t:Tr):oz t [0,1]=t.kids.any fun y=>decide (y.k=0) || decide (y.k=1):=by
  unfold oz;congr 1;funext y;simp
theorem pR (t:Tr):oz t [1]=t.kids.any fun y=>decide (y.k=1):=by
  unfold oz;congr 1;funext y;simp
theorem xV {α:Type} [Inhabited α] {f:α→Bool} {xs:List α} {k:Nat} (h:k < xs.length) (hb:f (nth xs (k:Int))=true):xs.any f=true:=List.any_eq_true.2 ⟨_,cP (by omega) (by omega),hb⟩
theorem vB {α:Type} {f:α→Bool} {xs:List α} {k:Nat} (hk:xs.length≤k) (h:∀y ∈ xs.take k,f y=false):xs.any f=false:=by
  rw [bF hk] at h;rw [jW];intro x hx;rw [h x hx];decide
theorem oe {t:Tr} {k:Nat} (h:t.k=0) (hk:k < t.kids.length) (hb:(decide ((nth t.kids (k:Int)).k=0) || decide ((nth t.kids (k:Int)).k=1))=true):false=cC t:=by
  have:=xV (f:=fun y:Tr=>decide (y.k=0) || decide (y.k=1)) hk hb;unfold cC;rw [if_neg (by omega),if_neg (by omega),if_neg (by omega),if_pos h,pQ,this];simp
theorem AZ {t:Tr} {k:Nat} (h:t.k=0) (hk:t.kids.length≤k) (hb:∀y ∈ t.kids.take k,(decide (y.k=0) || decide (y.k=1))=false):(jP t.ch t.ng t.rows t.mn t.mx t.lz&&(!decide ((t.kids.length:Int)=1)))=cC t:=by
  unfold cC;rw [if_neg (by omega),if_neg (by omega),if_neg (by omega),if_pos h,pQ,vB hk hb];simp [ly]
theorem oh {t:Tr} {k:Nat} (h:t.k=1) (hk:k < t.kids.length) (hb:decide ((nth t.kids (k:Int)).k=1)=true):false=cC t:=by
  have:=xV (f:=fun y:Tr=>decide (y.k=1)) hk hb;unfold cC;rw [if_neg (by omega),if_neg (by omega),if_neg (by omega),if_neg (by omega),if_pos h,pR,this];simp
theorem Ba {t:Tr} {k:Nat} (h:t.k=1) (hk:t.kids.length≤k) (hb:∀y ∈ t.kids.take k,decide (y.k=1)=false):(jP t.ch t.ng t.rows t.mn t.mx t.lz&&(decide (2≤(t.kids.length:Int))))=cC t:=by
  unfold cC;rw [if_neg (by omega),if_neg (by omega),if_neg (by omega),if_neg (by omega),if_pos h,pR,vB hk hb];have:decide (2≤(t.kids.length:Int))=decide (1 < (t.kids.length:Int)):=by rw [eZ];simp;omega
  rw [this];simp [ly]
theorem GC {t:Tr} (h:t.k=7):AX t=cC t:=by
  unfold cC;rw [if_neg (show ¬t.k=2 by omega),if_neg (show ¬t.k=4 by omega),if_pos h];unfold AX rT oP;generalize jP t.ch t.ng t.rows 0 0 false=b;generalize (nth t.kids 0).k=k;generalize (t.kids.length:Int)=l;generalize t.mn=x;generalize t.mx=y;rw [eZ];cases b
  · simp
  · simp only [fJ,aN,aw,ai,aB,ah,Bool.ite_eq_true_distrib,ld,if_false_left];omega
set_option maxRecDepth 100000 in
theorem vC (t:Tr) (w:World) (hT:kW w t) (hP:fy t≤1000000):Calls Tryz.prog 88 #[(ta t)] w (fun e w'=>e= .returned (aA (AX t))∧Ext bc w w'):=by
 refine enter (n:=65) Tryz.func88 rfl rfl (av rfl) ?_;intro a0 τ0 ha st0;have e0:aT a0 0=(ta t):=ha 0 _ rfl;clear ha;have hle:=hT.kids.le;have hle2:=hT.rows.le;have hwt:=ek t;have hsm:=rS hP;refine wp_seq (rg [box _ _ 0 1 (tc t),_] [0,0] st0 [] ⟨fh (v:=(ta t)) rfl rfl rfl rfl rfl (fun _ _ _ _ c=>(c.p e0)),am fun c=>ar rfl rfl,ax⟩ fun ac ag ae ab aa=> ?_);obtain ⟨b1x1,e1⟩:=gx ac 1;have e2:=aa.V 1;have r0:=aa.rb 0 e1 rfl;refine wp_seq ?_;refine wp_seq (rg [_,_,_,_,_,_,_,_,_,_,_,_,_,_,_,_,_,_,_,_,_,_,_,_,_,_,_,_,_,_,_] [0,1,3,7,15,31,63,127,255,511,1023,2047,4095,8191,16383,32767,65535,131071,262143,524287,1048575,524287,2621439,8388607,16777215,33554431,67108863,134217727,268435455,536870911,1073741823] ab [jb r0] ⟨bZ aq bC e1 r0.ptr,dq bS 0 0 7,am fun c=>cX rfl aI (c.q 1) (hT.at ab.ext).tl.sl.sl,am fun c=>kF rfl (c.q 2) rfl,bm 3,bo 4 rfl fun c hpc=>cN rfl aq au ((c.p e1).trans r0.ptr),bo 4 rfl fun c hpc=>ay rfl aC (c.M 5 hpc) ((c.B 0).cell (j:=4) rfl),bo 4 rfl fun c hpc=>dh rfl (c.M 6 hpc) rfl,dD 4 7,bm 8,bo 9 rfl fun c hpc=>cN rfl aq au ((c.p e1).trans r0.ptr),bo 9 rfl fun c hpc=>ay rfl aC (c.M 10 hpc) ((c.B 0).cell (j:=4) rfl),bo 9 rfl fun c hpc=>jp rfl (c.M 11 hpc) rfl,dD 9 12,bm 13,bo 14 rfl fun c hpc=>cN rfl aq au ((c.p e1).trans r0.ptr),bo 14 rfl fun c hpc=>ay rfl aC (c.M 15 hpc) ((c.B 0).cell (j:=5) rfl),bo 14 rfl fun c hpc=>kF rfl (c.M 16 hpc) rfl,bo 14 rfl fun c hpc=>aJ rfl (c.M 17 hpc),cF 18 true rfl fun c hpc=>cN rfl aq au ((c.p e1).trans r0.ptr),cF 18 true rfl fun c hpc=>ay rfl aC (c.M 19 hpc) ((c.B 0).cell (j:=5) rfl),cF 18 true rfl fun c hpc=>cN rfl aq au ((c.p e1).trans r0.ptr),cF 18 true rfl fun c hpc=>ay rfl aC (c.M 21 hpc) ((c.B 0).cell (j:=4) rfl),cF 18 true rfl fun c hpc=>dh rfl (c.M 20 hpc) (c.M 22 hpc),cF 18 true rfl fun c hpc=>aJ rfl (c.M 23 hpc),cF 24 false rfl fun c hpc=>cN rfl aq au ((c.p e1).trans r0.ptr),cF 24 false rfl fun c hpc=>ay rfl aC (c.M 25 hpc) ((c.B 0).cell (j:=5) rfl),cF 24 false rfl fun c hpc=>jp rfl (c.M 26 hpc) rfl,cF 18 true rfl fun c hpc=>pF rfl (c.M 24 hpc) (fun h=>c.m 27 rfl (And.intro hpc h)),bo 14 rfl fun c hpc=>lG rfl (c.M 18 hpc) (fun h=>c.m 28 rfl (And.intro hpc h)),dD 14 29,ax⟩ fun ac ag ae ab aa=> ?_);obtain ⟨e1,e2⟩:=aa.k2 e1 e2;have e34:=aa.V 30;replace r0:=aa.B 0;refine wp_cond_split e34 (fun hc1=> ?_) (fun hc1=> ?_)
 · have hd1:=hc1;try simp only [aw,aL,aN,aG,aB,az,ai,ah,aX] at hd1
   refine wp_seq (eB ab [jb r0] ⟨am fun c=>ar rfl rfl,ax⟩ fun ac ag ae ab aa=> ?_);replace e1:=aa.k1 e1;have e2:=aa.V 0;replace r0:=aa.B 0;refine wp_ret ?_;refine rp ?_;refine cH (fn:=Tryz.f88) rfl ab.defers e2 ?_;exact ⟨congrArg _ (congrArg _ (by unfold AX;rw [if_pos (by assumption:rT t=true)])),ab.ext0⟩
 have hd1:=hc1;try simp only [aw,aL,aN,aG,aB,az,ai,ah,aX] at hd1
 refine wp_skip ?_;refine wp_seq (Ex ab [jb r0] ⟨bZ aq bC e1 r0.ptr,dq bS 0 0 7,am fun c=>aK rfl aI ak (c.q 1) (hT.at ab.ext).tl.sl.sl rfl (by omega) (by omega),bw aq au 2 rfl,am fun c=>ay rfl aC (c.q 3) (((hT.at (ab.ext.trans c.J.ext)).tl.sl).elem (j:=0) (bu (i:=0) (by omega) (by omega)) rfl),aF 4,ax⟩ fun ac ag ae ab aa=> ?_);obtain ⟨e1,e2⟩:=aa.k2 e1 e2;have e3:=aa.V 5;replace r0:=aa.B 0;refine wp_seq (eC ab [jb r0] ⟨bZ aq au e1 r0.ptr,ck (cx:=[(aj t.k),(aR t.ch),(aA t.ng),t.rv.v,(aj 0),(aj t.mx),(aA t.lz),t.kv.v]) (v:=(aj 0)) au fun c=>⟨c.bp 0 rfl e1,c.ad (c.q 0) e1 rfl,rfl⟩,ax⟩ fun ac ag ae ab aa=> ?_);obtain ⟨e1,e2,e3⟩:=aa.k3 e1 e2 e3;replace r0:=aa.RB 1 e1;refine wp_seq (eC ab [jb r0] ⟨bZ aq au e1 r0.ptr,ck (cx:=[(aj t.k),(aR t.ch),(aA t.ng),t.rv.v,(aj 0),(aj 0),(aA t.lz),t.kv.v]) (v:=(aj 0)) au fun c=>⟨c.bp 0 rfl e1,c.ad (c.q 0) e1 rfl,rfl⟩,ax⟩ fun ac ag ae ab aa=> ?_);obtain ⟨e1,e2,e3⟩:=aa.k3 e1 e2 e3;replace r0:=aa.RB 1 e1;refine wp_seq (eC ab [jb r0] ⟨bZ aq bh e1 r0.ptr,ck (cx:=[(aj t.k),(aR t.ch),(aA t.ng),t.rv.v,(aj 0),(aj 0),(aA false),t.kv.v]) (v:=(aA false)) bh fun c=>⟨c.bp 0 rfl e1,c.ad (c.q 0) e1 rfl,rfl⟩,ax⟩ fun ac ag ae ab aa=> ?_);obtain ⟨e1,e2,e3⟩:=aa.k3 e1 e2 e3;replace r0:=aa.RB 1 e1;refine wp_seq (rg [_,_,_,_,_,_,_,_,_,_,_,_,_,_,_,_,_,_,_,_,_,_,_] [0,1,3,7,15,31,63,127,255,511,1023,2047,4095,8191,16383,32767,65535,131071,262143,524287,1048575,2097151,4194303] ab [jb r0] ⟨am fun c=>ec rfl aD ak ((c.p e1).trans r0.ptr) (c.B 0),dU fun c=>⟨_,_,(bq rfl rfl gk (c.q 0)),gU t.k t.ch t.ng t.rv.v t.rows 0 0 false t.kv.v rfl _ (hT.at (ab.ext.trans c.J.ext)).rows⟩,bm 1,aE 2 rfl fun c hpc=>aJ rfl (c.p e3),aE 2 rfl fun c hpc=>bW rfl (c.M 3 hpc) rfl,aE 2 rfl fun c hpc=>aJ rfl (c.M 4 hpc),cF 5 false rfl fun c hpc=>aJ rfl (c.p e3),cF 5 false rfl fun c hpc=>bW rfl (c.M 6 hpc) rfl,aE 2 rfl fun c hpc=>pF rfl (c.M 5 hpc) (fun h=>c.m 7 rfl (And.intro hpc h)),aE 2 rfl fun c hpc=>aJ rfl (c.M 8 hpc),cF 9 false rfl fun c hpc=>aJ rfl (c.p e3),cF 9 false rfl fun c hpc=>bW rfl (c.M 10 hpc) rfl,aE 2 rfl fun c hpc=>pF rfl (c.M 9 hpc) (fun h=>c.m 11 rfl (And.intro hpc h)),aE 2 rfl fun c hpc=>aJ rfl (c.M 12 hpc),cF 13 false rfl fun c hpc=>aJ rfl (c.p e3),cF 13 false rfl fun c hpc=>bW rfl (c.M 14 hpc) rfl,aE 2 rfl fun c hpc=>pF rfl (c.M 13 hpc) (fun h=>c.m 15 rfl (And.intro hpc h)),aE 2 rfl fun c hpc=>aJ rfl (c.M 16 hpc),cF 17 false rfl fun c hpc=>aJ rfl (c.p e3),cF 17 false rfl fun c hpc=>bW rfl (c.M 18 hpc) rfl,aE 2 rfl fun c hpc=>pF rfl (c.M 17 hpc) (fun h=>c.m 19 rfl (And.intro hpc h)),bK 2 20,aF 21,ax⟩ fun ac ag ae ab aa=> ?_);have e2:=aa.V 22;refine wp_ret ?_;refine rp ?_;refine cH (fn:=Tryz.f88) rfl ab.defers e2 ?_;exact ⟨congrArg _ (congrArg _ (by unfold AX;rw [if_neg (show ¬rT t=true by rw [show rT t=false from by assumption];decide)])),ab.ext0⟩
set_option maxRecDepth 100000 in
theorem vD (t:Tr) (ih:∀k ∈ t.kids,∀(w:World),kW w k→fy k≤1000000→Calls Tryz.prog 68 #[k.v] w (fun e w'=>e= .returned (aA (gP k))∧Ext bc w w')) (w:World) (hT:kW w t) (hP:fy t≤1000000):Calls Tryz.prog 68 #[t.v] w (fun e w'=>e= .returned (aA (gP t))∧Ext bc w w'):=by
 refine enter (n:=131) Tryz.func68 rfl rfl (av rfl) ?_;intro a0 τ0 ha st0;have e0:aT a0 0=(ta t):=ha 0 _ rfl;clear ha;have hle:=hT.kids.le;have hle2:=hT.rows.le;have hwt:=ek t;have hsm:=rS hP;have hpk:∀k:Nat,k < t.kids.length→fy (nth t.kids (k:Int))≤1000000:=fun k h_=>by have h1_:=mV (cP (xs:=t.kids) (i:=(k:Int)) (by omega) (by omega));omega
 refine wp_seq (rg [box _ _ 0 1 (tc t),_] [0,0] st0 [] ⟨fh (v:=(ta t)) rfl rfl rfl rfl rfl (fun _ _ _ _ c=>(c.p e0)),am fun c=>ar rfl rfl,ax⟩ fun ac ag ae ab aa=> ?_);obtain ⟨b1x1,e1⟩:=gx ac 1;have e2:=aa.V 1;have r0:=aa.rb 0 e1 rfl;refine wp_seq (yF ab [jb r0] ⟨bZ aq bC e1 r0.ptr,dq bS 0 0 7,am fun c=>cX rfl aI (c.q 1) (hT.at ab.ext).tl.sl.sl,aF 2,ax⟩ fun ac ag ae ab aa=> ?_);obtain ⟨e1,e2⟩:=aa.k2 e1 e2;have e3:=aa.V 3;replace r0:=aa.B 0;refine wp_seq ?_;refine wp_seq (eB ab [jb r0] ⟨am fun c=>ar rfl rfl,ax⟩ fun ac ag ae ab aa=> ?_);obtain ⟨e1,e2,e3⟩:=aa.k3 e1 e2 e3;have e4:=aa.V 0;replace r0:=aa.B 0;refine wp_block ?_;refine wp_loop (fun a_ w_=>∃(k:Nat) (τ:Nat→aP),(k≤t.kids.length)∧
      (∀y ∈ t.kids.take k,gP y=true)∧
      St (Nw w) w 131 a_ w_ τ∧
      aT a_ 4=(aj (k:Int))∧
      aT a_ 1=b1x1∧
      aT a_ 3=(aj (t.kids.length:Int))∧
      cd 25 (tc t) (τ 0) b1x1 w_) (fun a_ _=>t.kids.length - (intOf (aT a_ 4)).toNat) ?_ ?_
 · refine ⟨0,ae,?_,?_,ab,(e4.trans (bd (by omega))),e1,e3,r0⟩
   · omega
   · simp
 intro a4 w4 hI;obtain ⟨k,τ4,q0,q1,st4,e4,e1,e3,r0⟩:=hI;have hpk0:=hpk k;have m4:=e4;refine wp_seq ?_;refine wp_seq (zO [0,0,3] st4 [jb r0] ⟨ao e4,ao e3,am fun c=>dh rfl (c.q 0) (c.q 1),ax⟩ fun ac ag ae ab aa=> ?_);obtain ⟨e1,e3,e4⟩:=aa.k3 e1 e3 e4;have e14:=aa.V 2;replace r0:=aa.B 0;refine wp_cond_split e14 (fun hc1=> ?_) (fun hc1=> ?_)
 · try simp only [ai] at hc1
   refine wp_skip ?_;refine wp_seq ?_;refine wp_block ?_;refine wp_seq (so [0,1,0,7,15,31,63] ab [jb r0] ⟨bZ aq bC e1 r0.ptr,dq bS 0 0 7,ao e4,am fun c=>aK rfl aI ak (c.q 1) (hT.at ab.ext).tl.sl.sl (c.q 2) (by omega) (by omega),am fun c=>cT (vs:=(tc (nth t.kids (k:Int)))) rfl aD ak (c.q 3) rfl (fun _ _ hj=>((hT.at (ab.ext.trans c.J.ext)).tl.sl).elem (bu (i:=(k:Int)) (by omega) (by omega)) hj),dU fun c=>⟨_,_,(bq rfl rfl Tryz.call68 (c.q 4)),ih _ (cP (by omega) (by omega)) _ ((hT.at (ab.ext.trans c.J.ext)).tl.el (by omega) (by omega)) (by omega)⟩,am fun c=>dY rfl (c.q 5),ax⟩ fun ac ag ae ab aa=> ?_);obtain ⟨e1,e3,e4,e14⟩:=aa.k4 e1 e3 e4 e14;have e23:=aa.V 6;replace r0:=aa.B 0;refine wp_cond_split e23 (fun hc2=> ?_) (fun hc2=> ?_)
   · have hd2:=hc2;try simp only [aB,az] at hd2
     refine wp_seq (eB ab [jb r0] ⟨am fun c=>ar rfl rfl,ax⟩ fun ac ag ae ab aa=> ?_);obtain ⟨e1,e3,e4,e14,e23⟩:=aa.k5 e1 e3 e4 e14 e23;have e2:=aa.V 0;replace r0:=aa.B 0;refine wp_ret ?_;refine rp ?_;refine cH (fn:=Tryz.f68) rfl ab.defers e2 ?_;exact ⟨congrArg _ (congrArg _ (by first | exact qG (k:=k) (by omega) (by assumption) | exact em (k:=k) q_1 (by omega) (oe (k:=j) (by omega) (by omega) (by assumption)) | exact em (k:=k) q_1 (by omega) (oh (k:=j) (by omega) (by omega) (by assumption)) | exact em (k:=k) q1 (by omega) (by unfold cC;(repeat (first | rw [if_neg (by omega)] | rw [if_pos (by omega)]));(try rfl)))),ab.ext0⟩
   have hd2:=hc2;try simp only [aB,az] at hd2
   refine wp_skip ?_;show _;refine eM ab [jb r0] ⟨ao e4,am fun c=>cV rfl (c.q 0) rfl (by omega),aF 1,ax⟩ fun ac ag ae ab aa=> ?_;obtain ⟨e1,e3,e14,e23⟩:=aa.k4 e1 e3 e14 e23;have e4:=aa.V 2;replace r0:=aa.B 0;refine ⟨⟨k+1,ae,?_,?_,ab,(e4.trans (bd (by omega))),e1,e3,r0⟩,?_⟩
   · omega
   · exact AY (by omega) q1 (by simpa using (by assumption:(!gP (nth t.kids (k:Int)))=false))
   · simp only [m4,e4,intOf];omega
 try simp only [ah,aX] at hc1
 refine wp_exit ?_;repeat (with_reducible refine cn ?_)
 refine cr ?_;refine wp_seq ?_;refine wp_seq (eC ab [jb r0] ⟨bZ aq au e1 r0.ptr,dq aC 0 0 0,ax⟩ fun ac ag ae ab aa=> ?_);obtain ⟨e1,e3⟩:=aa.k2 e1 e3;have e25:=aa.V 1;replace r0:=aa.B 0;refine wp_block ?_;refine wp_seq (eC ab [jb r0] ⟨am fun c=>bW rfl (c.p e25) rfl,aF 0,ax⟩ fun ac ag ae ab aa=> ?_);obtain ⟨e1,e3,e25⟩:=aa.k3 e1 e3 e25;have e26:=aa.V 1;replace r0:=aa.B 0;refine wp_cond_split e26 (fun hc3=> ?_) (fun hc3=> ?_)
 · try simp only [ai] at hc3
   refine wp_seq ?_;refine wp_seq ?_;have q_1:=q1;refine eB ab [jb r0] ⟨am fun c=>ar rfl rfl,ax⟩ fun ac ag ae ab aa=> ?_;obtain ⟨e1,e3,e25⟩:=aa.k3 e1 e3 e25;have e5:=aa.V 0;replace r0:=aa.B 0;refine wp_block ?_;refine wp_loop (fun a_ w_=>∃(j:Nat) (τ:Nat→aP),(j≤t.kids.length)∧
          (∀y ∈ t.kids.take j,(decide (y.k=0) || decide (y.k=1))=false)∧
          St (Nw w) w 131 a_ w_ τ∧
          aT a_ 5=(aj (j:Int))∧
          aT a_ 1=b1x1∧
          aT a_ 3=(aj (t.kids.length:Int))∧
          aT a_ 25=(aj t.k)∧
          cd 25 (tc t) (τ 0) b1x1 w_) (fun a_ _=>t.kids.length - (intOf (aT a_ 5)).toNat) ?_ ?_
   · refine ⟨0,ae,?_,?_,ab,(e5.trans (bd (by omega))),e1,e3,e25,r0⟩
     · omega
     · simp
   intro a12 w12 hI;obtain ⟨j,τ12,q0,q1,st12,e5,e1,e3,e25,r0⟩:=hI;have m5:=e5;refine wp_seq ?_;refine wp_seq (zO [0,0,3] st12 [jb r0] ⟨ao e5,ao e3,am fun c=>dh rfl (c.q 0) (c.q 1),ax⟩ fun ac ag ae ab aa=> ?_);obtain ⟨e1,e3,e5,e25⟩:=aa.k4 e1 e3 e5 e25;have e30:=aa.V 2;replace r0:=aa.B 0;refine wp_cond_split e30 (fun hc4=> ?_) (fun hc4=> ?_)
   · try simp only [ai] at hc4
     refine wp_skip ?_;refine wp_seq ?_;refine wp_block ?_;refine wp_seq ?_;refine rg [_,_,_,_,_,_,_,_,_,_,_,_,_,_,_,_] [0,1,0,7,15,31,63,127,255,511,255,2047,4095,8191,16383,32767] ab [jb r0] ⟨bZ aq bC e1 r0.ptr,dq bS 0 0 7,ao e5,am fun c=>aK rfl aI ak (c.q 1) (hT.at ab.ext).tl.sl.sl (c.q 2) (by omega) (by omega),bw aq au 3 rfl,am fun c=>ay rfl aC (c.q 4) (((hT.at (ab.ext.trans c.J.ext)).tl.sl).elem (j:=0) (bu (i:=(j:Int)) (by omega) (by omega)) rfl),am fun c=>bW rfl (c.q 5) rfl,bm 6,bo 7 rfl fun c hpc=>cN rfl aq bC ((c.p e1).trans r0.ptr),bo 7 rfl fun c hpc=>ay rfl bS (c.M 8 hpc) ((c.B 0).cell (j:=7) rfl),bo 7 rfl fun c hpc=>aJ rfl (c.p e5),bo 7 rfl fun c hpc=>aK rfl aI ak (c.M 9 hpc) (hT.at ab.ext).tl.sl.sl (c.M 10 hpc) (by have hq0:=bn hpc;omega) (by have hq0:=bn hpc;omega),bo 7 rfl fun c hpc=>cN rfl aq au (c.M 11 hpc),bo 7 rfl fun c hpc=>ay rfl aC (c.M 12 hpc) (((hT.at (ab.ext.trans c.J.ext)).tl.sl).elem (j:=0) (bu (i:=(j:Int)) (by have hq0:=bn hpc;omega) (by have hq0:=bn hpc;omega)) rfl),bo 7 rfl fun c hpc=>bW rfl (c.M 13 hpc) rfl,dD 7 14,ax⟩ fun ac ag ae ab aa=> ?_;obtain ⟨e1,e3,e5,e25,e30⟩:=aa.k5 e1 e3 e5 e25 e30;have e48:=aa.V 15;replace r0:=aa.B 0;refine wp_cond_split e48 (fun hc5=> ?_) (fun hc5=> ?_)
     · have hd5:=hc5;try simp only [aN,ai] at hd5
       refine wp_seq (eB ab [jb r0] ⟨am fun c=>ar rfl rfl,ax⟩ fun ac ag ae ab aa=> ?_);obtain ⟨e1,e3,e5,e25,e30,e48⟩:=aa.k6 e1 e3 e5 e25 e30 e48;have e2:=aa.V 0;replace r0:=aa.B 0;refine wp_ret ?_;refine rp ?_;refine cH (fn:=Tryz.f68) rfl ab.defers e2 ?_;exact ⟨congrArg _ (congrArg _ (by first | exact qG (k:=k) (by omega) (by assumption) | exact em (k:=k) q_1 (by omega) (oe (k:=j) (by omega) (by omega) (by assumption)) | exact em (k:=k) q_1 (by omega) (oh (k:=j) (by omega) (by omega) (by assumption)) | exact em (k:=k) q1 (by omega) (by unfold cC;(repeat (first | rw [if_neg (by omega)] | rw [if_pos (by omega)]));(try rfl)))),ab.ext0⟩
     have hd5:=hc5;try simp only [aG,ah] at hd5
     refine wp_skip ?_;show _;refine eM ab [jb r0] ⟨ao e5,am fun c=>cV rfl (c.q 0) rfl (by omega),aF 1,ax⟩ fun ac ag ae ab aa=> ?_;obtain ⟨e1,e3,e25,e30,e48⟩:=aa.k5 e1 e3 e25 e30 e48;have e5:=aa.V 2;replace r0:=aa.B 0;refine ⟨⟨j+1,ae,?_,?_,ab,(e5.trans (bd (by omega))),e1,e3,e25,r0⟩,?_⟩
     · omega
     · exact qD (f:=fun y:Tr=>decide (y.k=0) || decide (y.k=1)) (by omega) q1 (by assumption)
     · simp only [m5,e5,intOf];omega
   try simp only [ah,aX] at hc4
   refine wp_exit ?_;repeat (with_reducible refine cn ?_)
   refine cr ?_;refine wp_seq (wh ab [jb r0] ⟨am fun c=>ec rfl aD ak ((c.p e1).trans r0.ptr) (c.B 0),dU fun c=>⟨_,_,(bq rfl rfl gk (c.q 0)),gU t.k t.ch t.ng t.rv.v t.rows t.mn t.mx t.lz t.kv.v rfl _ (hT.at (ab.ext.trans c.J.ext)).rows⟩,bm 1,aE 2 rfl fun c hpc=>aJ rfl (c.p e3),aE 2 rfl fun c hpc=>kF rfl (c.M 3 hpc) rfl,bK 2 4,aF 5,ax⟩ fun ac ag ae ab aa=> ?_);obtain ⟨e1,e3,e25⟩:=aa.k3 e1 e3 e25;have e2:=aa.V 6;replace r0:=aa.B 0;refine wp_ret ?_;refine rp ?_;refine cH (fn:=Tryz.f68) rfl ab.defers e2 ?_;exact ⟨congrArg _ (congrArg _ (by exact em (k:=k) q_1 (by omega) (AZ (k:=j) (by omega) (by omega) q1))),ab.ext0⟩
 try simp only [ah] at hc3
 refine wp_seq (eC ab [jb r0] ⟨am fun c=>bW rfl (c.p e25) rfl,aF 0,ax⟩ fun ac ag ae ab aa=> ?_);obtain ⟨e1,e3,e25⟩:=aa.k3 e1 e3 e25;have e55:=aa.V 1;replace r0:=aa.B 0;refine wp_cond_split e55 (fun hc6=> ?_) (fun hc6=> ?_)
 · try simp only [ai] at hc6
   refine wp_seq ?_;refine wp_seq ?_;have q_1:=q1;refine eB ab [jb r0] ⟨am fun c=>ar rfl rfl,ax⟩ fun ac ag ae ab aa=> ?_;obtain ⟨e1,e3,e25⟩:=aa.k3 e1 e3 e25;have e6:=aa.V 0;replace r0:=aa.B 0;refine wp_block ?_;refine wp_loop (fun a_ w_=>∃(j:Nat) (τ:Nat→aP),(j≤t.kids.length)∧
          (∀y ∈ t.kids.take j,decide (y.k=1)=false)∧
          St (Nw w) w 131 a_ w_ τ∧
          aT a_ 6=(aj (j:Int))∧
          aT a_ 1=b1x1∧
          aT a_ 3=(aj (t.kids.length:Int))∧
          aT a_ 25=(aj t.k)∧
          cd 25 (tc t) (τ 0) b1x1 w_) (fun a_ _=>t.kids.length - (intOf (aT a_ 6)).toNat) ?_ ?_
   · refine ⟨0,ae,?_,?_,ab,(e6.trans (bd (by omega))),e1,e3,e25,r0⟩
     · omega
     · simp
   intro a20 w20 hI;obtain ⟨j,τ20,q0,q1,st20,e6,e1,e3,e25,r0⟩:=hI;have m6:=e6;refine wp_seq ?_;refine wp_seq (zO [0,0,3] st20 [jb r0] ⟨ao e6,ao e3,am fun c=>dh rfl (c.q 0) (c.q 1),ax⟩ fun ac ag ae ab aa=> ?_);obtain ⟨e1,e3,e6,e25⟩:=aa.k4 e1 e3 e6 e25;have e59:=aa.V 2;replace r0:=aa.B 0;refine wp_cond_split e59 (fun hc7=> ?_) (fun hc7=> ?_)
   · try simp only [ai] at hc7
     refine wp_skip ?_;refine wp_seq ?_;refine wp_block ?_;refine wp_seq (so [0,1,0,7,15,31,63] ab [jb r0] ⟨bZ aq bC e1 r0.ptr,dq bS 0 0 7,ao e6,am fun c=>aK rfl aI ak (c.q 1) (hT.at ab.ext).tl.sl.sl (c.q 2) (by omega) (by omega),bw aq au 3 rfl,am fun c=>ay rfl aC (c.q 4) (((hT.at (ab.ext.trans c.J.ext)).tl.sl).elem (j:=0) (bu (i:=(j:Int)) (by omega) (by omega)) rfl),am fun c=>bW rfl (c.q 5) rfl,ax⟩ fun ac ag ae ab aa=> ?_);obtain ⟨e1,e3,e6,e25,e59⟩:=aa.k5 e1 e3 e6 e25 e59;have e68:=aa.V 6;replace r0:=aa.B 0;refine wp_cond_split e68 (fun hc8=> ?_) (fun hc8=> ?_)
     · have hd8:=hc8;try simp only [ai] at hd8
       refine wp_seq (eB ab [jb r0] ⟨am fun c=>ar rfl rfl,ax⟩ fun ac ag ae ab aa=> ?_);obtain ⟨e1,e3,e6,e25,e59,e68⟩:=aa.k6 e1 e3 e6 e25 e59 e68;have e2:=aa.V 0;replace r0:=aa.B 0;refine wp_ret ?_;refine rp ?_;refine cH (fn:=Tryz.f68) rfl ab.defers e2 ?_;exact ⟨congrArg _ (congrArg _ (by first | exact qG (k:=k) (by omega) (by assumption) | exact em (k:=k) q_1 (by omega) (oe (k:=j) (by omega) (by omega) (by assumption)) | exact em (k:=k) q_1 (by omega) (oh (k:=j) (by omega) (by omega) (by assumption)) | exact em (k:=k) q1 (by omega) (by unfold cC;(repeat (first | rw [if_neg (by omega)] | rw [if_pos (by omega)]));(try rfl)))),ab.ext0⟩
     have hd8:=hc8;try simp only [ah] at hd8
     refine wp_skip ?_;show _;refine eM ab [jb r0] ⟨ao e6,am fun c=>cV rfl (c.q 0) rfl (by omega),aF 1,ax⟩ fun ac ag ae ab aa=> ?_;obtain ⟨e1,e3,e25,e59,e68⟩:=aa.k5 e1 e3 e25 e59 e68;have e6:=aa.V 2;replace r0:=aa.B 0;refine ⟨⟨j+1,ae,?_,?_,ab,(e6.trans (bd (by omega))),e1,e3,e25,r0⟩,?_⟩
     · omega
     · exact qD (f:=fun y:Tr=>decide (y.k=1)) (by omega) q1 (by assumption)
     · simp only [m6,e6,intOf];omega
   try simp only [ah,aX] at hc7
   refine wp_exit ?_;repeat (with_reducible refine cn ?_)
   refine cr ?_;refine wp_seq (wh ab [jb r0] ⟨am fun c=>ec rfl aD ak ((c.p e1).trans r0.ptr) (c.B 0),dU fun c=>⟨_,_,(bq rfl rfl gk (c.q 0)),gU t.k t.ch t.ng t.rv.v t.rows t.mn t.mx t.lz t.kv.v rfl _ (hT.at (ab.ext.trans c.J.ext)).rows⟩,bm 1,aE 2 rfl fun c hpc=>aJ rfl (c.p e3),aE 2 rfl fun c hpc=>fW rfl (c.M 3 hpc) rfl,bK 2 4,aF 5,ax⟩ fun ac ag ae ab aa=> ?_);obtain ⟨e1,e3,e25⟩:=aa.k3 e1 e3 e25;have e2:=aa.V 6;replace r0:=aa.B 0;refine wp_ret ?_;refine rp ?_;refine cH (fn:=Tryz.f68) rfl ab.defers e2 ?_;exact ⟨congrArg _ (congrArg _ (by exact em (k:=k) q_1 (by omega) (Ba (k:=j) (by omega) (by omega) q1))),ab.ext0⟩
 try simp only [ah] at hc6
 refine wp_seq (eC ab [jb r0] ⟨am fun c=>bW rfl (c.p e25) rfl,aF 0,ax⟩ fun ac ag ae ab aa=> ?_);obtain ⟨e1,e3,e25⟩:=aa.k3 e1 e3 e25;have e75:=aa.V 1;replace r0:=aa.B 0;refine wp_cond_split e75 (fun hc9=> ?_) (fun hc9=> ?_)
 · try simp only [ai] at hc9
   refine wp_seq (eM ab [jb r0] ⟨bZ aq aZ e1 r0.ptr,dq bD 0 0 1,aF 1,ax⟩ fun ac ag ae ab aa=> ?_);obtain ⟨e1,e3,e25⟩:=aa.k3 e1 e3 e25;have e7:=aa.V 2;replace r0:=aa.B 0;refine wp_seq (eC ab [jb r0] ⟨bZ aq aZ e1 r0.ptr,ck (cx:=[(aj t.k),(aR (⟨#[]⟩:ByteArray)),(aA t.ng),t.rv.v,(aj t.mn),(aj t.mx),(aA t.lz),t.kv.v]) (v:=(aR (⟨#[]⟩:ByteArray))) aZ fun c=>⟨c.bp 0 rfl e1,c.ad (c.q 0) e1 rfl,rfl⟩,ax⟩ fun ac ag ae ab aa=> ?_);obtain ⟨e1,e3,e7,e25⟩:=aa.k4 e1 e3 e7 e25;replace r0:=aa.RB 1 e1;refine wp_seq ?_;refine pI [0,1,3,7,15,31,63,127,255,511,1023] ab [jb r0] ⟨am fun c=>ec rfl aD ak ((c.p e1).trans r0.ptr) (c.B 0),dU fun c=>⟨_,_,(bq rfl rfl gk (c.q 0)),gU t.k (⟨#[]⟩:ByteArray) t.ng t.rv.v t.rows t.mn t.mx t.lz t.kv.v rfl _ (hT.at (ab.ext.trans c.J.ext)).rows⟩,bm 1,aE 2 rfl fun c hpc=>aJ rfl (c.p e3),aE 2 rfl fun c hpc=>bW rfl (c.M 3 hpc) rfl,bK 2 4,bm 5,aE 6 rfl fun c hpc=>aJ rfl (c.p e7),fv 6 true rfl fun c hpc=>⟨_,_,(bq rfl rfl kC (c.M 7 hpc)),jQ t.ch _ (by have hq0:=hpc;(try simp only [aw,ai] at hq0);omega)⟩,bK 6 8,aF 9,ax⟩ fun ac ag ae ab aa=> ?_;obtain ⟨e1,e3,e25⟩:=aa.k3 e1 e3 e25;have e2:=aa.V 10;replace r0:=aa.B 0;refine wp_ret ?_;refine rp ?_;refine cH (fn:=Tryz.f68) rfl ab.defers e2 ?_;exact ⟨congrArg _ (congrArg _ (by exact em (k:=k) q1 (by omega) (by unfold cC;(repeat (first | rw [if_neg (by omega)] | rw [if_pos (by omega)]));(try rfl)))),ab.ext0⟩
 try simp only [ah] at hc9
 refine wp_seq ?_;refine wp_seq (eC ab [jb r0] ⟨am fun c=>bW rfl (c.p e25) rfl,aF 0,ax⟩ fun ac ag ae ab aa=> ?_);obtain ⟨e1,e3,e25⟩:=aa.k3 e1 e3 e25;have e90:=aa.V 1;replace r0:=aa.B 0;refine wp_cond_split e90 (fun hc10=> ?_) (fun hc10=> ?_)
 · have hd10:=hc10;try simp only [ai] at hd10
   refine wp_skip ?_;refine wp_cond_true (e90.trans (congrArg _ hc10)) ?_;refine wp_seq (wh ab [jb r0] ⟨am fun c=>ec rfl aD ak ((c.p e1).trans r0.ptr) (c.B 0),dU fun c=>⟨_,_,(bq rfl rfl gk (c.q 0)),gU t.k t.ch t.ng t.rv.v t.rows t.mn t.mx t.lz t.kv.v rfl _ (hT.at (ab.ext.trans c.J.ext)).rows⟩,bm 1,aE 2 rfl fun c hpc=>aJ rfl (c.p e3),aE 2 rfl fun c hpc=>bW rfl (c.M 3 hpc) rfl,bK 2 4,aF 5,ax⟩ fun ac ag ae ab aa=> ?_);obtain ⟨e1,e3,e25⟩:=aa.k3 e1 e3 e25;have e2:=aa.V 6;replace r0:=aa.B 0;refine wp_ret ?_;refine rp ?_;refine cH (fn:=Tryz.f68) rfl ab.defers e2 ?_;exact ⟨congrArg _ (congrArg _ (by exact em (k:=k) q1 (by omega) (by unfold cC;(repeat (first | rw [if_neg (by omega)] | rw [if_pos (by omega)]));(try rfl)))),ab.ext0⟩
 have hd11:=hc10;try simp only [ah] at hd11
 refine wp_seq (eC ab [jb r0] ⟨am fun c=>bW rfl (c.p e25) rfl,aF 0,ax⟩ fun ac ag ae ab aa=> ?_);obtain ⟨e1,e3,e25⟩:=aa.k3 e1 e3 e25;have e90:=aa.V 1;replace r0:=aa.B 0;refine wp_cond_split e90 (fun hc12=> ?_) (fun hc12=> ?_)
 · have hd12:=hc12;try simp only [ai] at hd12
   refine wp_skip ?_;refine wp_cond_true (e90.trans (congrArg _ hc12)) ?_;refine wp_seq (wh ab [jb r0] ⟨am fun c=>ec rfl aD ak ((c.p e1).trans r0.ptr) (c.B 0),dU fun c=>⟨_,_,(bq rfl rfl gk (c.q 0)),gU t.k t.ch t.ng t.rv.v t.rows t.mn t.mx t.lz t.kv.v rfl _ (hT.at (ab.ext.trans c.J.ext)).rows⟩,bm 1,aE 2 rfl fun c hpc=>aJ rfl (c.p e3),aE 2 rfl fun c hpc=>bW rfl (c.M 3 hpc) rfl,bK 2 4,aF 5,ax⟩ fun ac ag ae ab aa=> ?_);obtain ⟨e1,e3,e25⟩:=aa.k3 e1 e3 e25;have e2:=aa.V 6;replace r0:=aa.B 0;refine wp_ret ?_;refine rp ?_;refine cH (fn:=Tryz.f68) rfl ab.defers e2 ?_;exact ⟨congrArg _ (congrArg _ (by exact em (k:=k) q1 (by omega) (by unfold cC;(repeat (first | rw [if_neg (by omega)] | rw [if_pos (by omega)]));(try rfl)))),ab.ext0⟩
 have hd13:=hc12;try simp only [ah] at hd13
 refine wp_seq (eC ab [jb r0] ⟨am fun c=>bW rfl (c.p e25) rfl,aF 0,ax⟩ fun ac ag ae ab aa=> ?_);obtain ⟨e1,e3,e25⟩:=aa.k3 e1 e3 e25;have e90:=aa.V 1;replace r0:=aa.B 0;refine wp_cond_split e90 (fun hc14=> ?_) (fun hc14=> ?_)
 · have hd14:=hc14;try simp only [ai] at hd14
   refine wp_skip ?_;refine wp_cond_true (e90.trans (congrArg _ hc14)) ?_;refine wp_seq (wh ab [jb r0] ⟨am fun c=>ec rfl aD ak ((c.p e1).trans r0.ptr) (c.B 0),dU fun c=>⟨_,_,(bq rfl rfl gk (c.q 0)),gU t.k t.ch t.ng t.rv.v t.rows t.mn t.mx t.lz t.kv.v rfl _ (hT.at (ab.ext.trans c.J.ext)).rows⟩,bm 1,aE 2 rfl fun c hpc=>aJ rfl (c.p e3),aE 2 rfl fun c hpc=>bW rfl (c.M 3 hpc) rfl,bK 2 4,aF 5,ax⟩ fun ac ag ae ab aa=> ?_);obtain ⟨e1,e3,e25⟩:=aa.k3 e1 e3 e25;have e2:=aa.V 6;replace r0:=aa.B 0;refine wp_ret ?_;refine rp ?_;refine cH (fn:=Tryz.f68) rfl ab.defers e2 ?_;exact ⟨congrArg _ (congrArg _ (by exact em (k:=k) q1 (by omega) (by unfold cC;(repeat (first | rw [if_neg (by omega)] | rw [if_pos (by omega)]));(try rfl)))),ab.ext0⟩
 have hd15:=hc14;try simp only [ah] at hd15
 refine wp_seq (eC ab [jb r0] ⟨am fun c=>bW rfl (c.p e25) rfl,aF 0,ax⟩ fun ac ag ae ab aa=> ?_);obtain ⟨e1,e3,e25⟩:=aa.k3 e1 e3 e25;have e90:=aa.V 1;replace r0:=aa.B 0;refine wp_cond_split e90 (fun hc16=> ?_) (fun hc16=> ?_)
 · have hd16:=hc16;try simp only [ai] at hd16
   refine wp_skip ?_;refine wp_cond_true (e90.trans (congrArg _ hc16)) ?_;refine wp_seq (wh ab [jb r0] ⟨am fun c=>ec rfl aD ak ((c.p e1).trans r0.ptr) (c.B 0),dU fun c=>⟨_,_,(bq rfl rfl gk (c.q 0)),gU t.k t.ch t.ng t.rv.v t.rows t.mn t.mx t.lz t.kv.v rfl _ (hT.at (ab.ext.trans c.J.ext)).rows⟩,bm 1,aE 2 rfl fun c hpc=>aJ rfl (c.p e3),aE 2 rfl fun c hpc=>bW rfl (c.M 3 hpc) rfl,bK 2 4,aF 5,ax⟩ fun ac ag ae ab aa=> ?_);obtain ⟨e1,e3,e25⟩:=aa.k3 e1 e3 e25;have e2:=aa.V 6;replace r0:=aa.B 0;refine wp_ret ?_;refine rp ?_;refine cH (fn:=Tryz.f68) rfl ab.defers e2 ?_;exact ⟨congrArg _ (congrArg _ (by exact em (k:=k) q1 (by omega) (by unfold cC;(repeat (first | rw [if_neg (by omega)] | rw [if_pos (by omega)]));(try rfl)))),ab.ext0⟩
 have hd17:=hc16;try simp only [ah] at hd17
 refine eC ab [jb r0] ⟨am fun c=>bW rfl (c.p e25) rfl,aF 0,ax⟩ fun ac ag ae ab aa=> ?_;obtain ⟨e1,e3,e25⟩:=aa.k3 e1 e3 e25;have e90:=aa.V 1;replace r0:=aa.B 0;refine wp_cond_split e90 (fun hc18=> ?_) (fun hc18=> ?_)
 · have hd18:=hc18;try simp only [ai] at hd18
   refine wp_seq (wh ab [jb r0] ⟨am fun c=>ec rfl aD ak ((c.p e1).trans r0.ptr) (c.B 0),dU fun c=>⟨_,_,(bq rfl rfl gk (c.q 0)),gU t.k t.ch t.ng t.rv.v t.rows t.mn t.mx t.lz t.kv.v rfl _ (hT.at (ab.ext.trans c.J.ext)).rows⟩,bm 1,aE 2 rfl fun c hpc=>aJ rfl (c.p e3),aE 2 rfl fun c hpc=>bW rfl (c.M 3 hpc) rfl,bK 2 4,aF 5,ax⟩ fun ac ag ae ab aa=> ?_);obtain ⟨e1,e3,e25⟩:=aa.k3 e1 e3 e25;have e2:=aa.V 6;replace r0:=aa.B 0;refine wp_ret ?_;refine rp ?_;refine cH (fn:=Tryz.f68) rfl ab.defers e2 ?_;exact ⟨congrArg _ (congrArg _ (by exact em (k:=k) q1 (by omega) (by unfold cC;(repeat (first | rw [if_neg (by omega)] | rw [if_pos (by omega)]));(try rfl)))),ab.ext0⟩
 have hd18:=hc18;try simp only [ah] at hd18
 refine wp_seq (eC ab [jb r0] ⟨am fun c=>bW rfl (c.p e25) rfl,aF 0,ax⟩ fun ac ag ae ab aa=> ?_);obtain ⟨e1,e3,e25⟩:=aa.k3 e1 e3 e25;have e102:=aa.V 1;replace r0:=aa.B 0;refine wp_cond_split e102 (fun hc19=> ?_) (fun hc19=> ?_)
 · try simp only [ai] at hc19
   refine wp_seq (eM ab [jb r0] ⟨bZ aq dQ e1 r0.ptr,dq fN 0 0 3,aF 1,ax⟩ fun ac ag ae ab aa=> ?_);obtain ⟨e1,e3,e25⟩:=aa.k3 e1 e3 e25;have e8:=aa.V 2;replace r0:=aa.B 0;refine wp_seq (eC ab [jb r0] ⟨bZ aq dQ e1 r0.ptr,ck (cx:=[(aj t.k),(aR t.ch),(aA t.ng),(.slice none 0 0),(aj t.mn),(aj t.mx),(aA t.lz),t.kv.v]) (v:=(.slice none 0 0)) dQ fun c=>⟨c.bp 0 rfl e1,c.ad (c.q 0) e1 rfl,rfl⟩,ax⟩ fun ac ag ae ab aa=> ?_);obtain ⟨e1,e3,e8,e25⟩:=aa.k4 e1 e3 e8 e25;replace r0:=aa.RB 1 e1;refine wp_seq (eC ab [jb r0] ⟨bZ aq bh e1 r0.ptr,ck (cx:=[(aj t.k),(aR t.ch),(aA false),(.slice none 0 0),(aj t.mn),(aj t.mx),(aA t.lz),t.kv.v]) (v:=(aA false)) bh fun c=>⟨c.bp 0 rfl e1,c.ad (c.q 0) e1 rfl,rfl⟩,ax⟩ fun ac ag ae ab aa=> ?_);obtain ⟨e1,e3,e8,e25⟩:=aa.k4 e1 e3 e8 e25;replace r0:=aa.RB 1 e1;refine wp_seq ?_;refine pI [0,1,3,7,15,31,63,127,255,511,1023] ab [jb r0] ⟨am fun c=>ec rfl aD ak ((c.p e1).trans r0.ptr) (c.B 0),dU fun c=>⟨_,_,(bq rfl rfl gk (c.q 0)),gU t.k t.ch false (.slice none 0 0) [] t.mn t.mx t.lz t.kv.v rfl _ (SlT.nil _ _)⟩,bm 1,aE 2 rfl fun c hpc=>aJ rfl (c.p e3),aE 2 rfl fun c hpc=>bW rfl (c.M 3 hpc) rfl,bK 2 4,bm 5,aE 6 rfl fun c hpc=>aJ rfl (c.p e8),fv 6 true rfl fun c hpc=>⟨_,_,(bq rfl rfl Tryz.call87 (c.M 7 hpc)),zg t.rv.v t.rows _ (hT.at (ab.ext.trans c.J.ext)).rows (by first | assumption | (unfold pk;decide)) (by have hq0:=hpc;(try simp only [aw,ai] at hq0);omega)⟩,bK 6 8,aF 9,ax⟩ fun ac ag ae ab aa=> ?_;obtain ⟨e1,e3,e25⟩:=aa.k3 e1 e3 e25;have e2:=aa.V 10;replace r0:=aa.B 0;refine wp_ret ?_;refine rp ?_;refine cH (fn:=Tryz.f68) rfl ab.defers e2 ?_;exact ⟨congrArg _ (congrArg _ (by exact em (k:=k) q1 (by omega) (by unfold cC;(repeat (first | rw [if_neg (by omega)] | rw [if_pos (by omega)]));(try rfl)))),ab.ext0⟩
 try simp only [ah] at hc19
 refine wp_seq ?_;refine wp_seq (eC ab [jb r0] ⟨am fun c=>bW rfl (c.p e25) rfl,aF 0,ax⟩ fun ac ag ae ab aa=> ?_);obtain ⟨e1,e3,e25⟩:=aa.k3 e1 e3 e25;have e118:=aa.V 1;replace r0:=aa.B 0;refine wp_cond_split e118 (fun hc20=> ?_) (fun hc20=> ?_)
 · have hd20:=hc20;try simp only [ai] at hd20
   refine wp_skip ?_;refine wp_cond_true (e118.trans (congrArg _ hc20)) ?_;refine wp_seq (wh ab [jb r0] ⟨am fun c=>ec rfl aD ak ((c.p e1).trans r0.ptr) (c.B 0),dU fun c=>⟨_,_,(bq rfl rfl gk (c.q 0)),gU t.k t.ch t.ng t.rv.v t.rows t.mn t.mx t.lz t.kv.v rfl _ (hT.at (ab.ext.trans c.J.ext)).rows⟩,bm 1,aE 2 rfl fun c hpc=>aJ rfl (c.p e3),aE 2 rfl fun c hpc=>bW rfl (c.M 3 hpc) rfl,bK 2 4,aF 5,ax⟩ fun ac ag ae ab aa=> ?_);obtain ⟨e1,e25⟩:=aa.k2 e1 e25;have e2:=aa.V 6;replace r0:=aa.B 0;refine wp_ret ?_;refine rp ?_;refine cH (fn:=Tryz.f68) rfl ab.defers e2 ?_;exact ⟨congrArg _ (congrArg _ (by exact em (k:=k) q1 (by omega) (by unfold cC;(repeat (first | rw [if_neg (by omega)] | rw [if_pos (by omega)]));(try rfl)))),ab.ext0⟩
 have hd21:=hc20;try simp only [ah] at hd21
 refine eC ab [jb r0] ⟨am fun c=>bW rfl (c.p e25) rfl,aF 0,ax⟩ fun ac ag ae ab aa=> ?_;obtain ⟨e1,e3,e25⟩:=aa.k3 e1 e3 e25;have e118:=aa.V 1;replace r0:=aa.B 0;refine wp_cond_split e118 (fun hc22=> ?_) (fun hc22=> ?_)
 · have hd22:=hc22;try simp only [ai] at hd22
   refine wp_seq (wh ab [jb r0] ⟨am fun c=>ec rfl aD ak ((c.p e1).trans r0.ptr) (c.B 0),dU fun c=>⟨_,_,(bq rfl rfl gk (c.q 0)),gU t.k t.ch t.ng t.rv.v t.rows t.mn t.mx t.lz t.kv.v rfl _ (hT.at (ab.ext.trans c.J.ext)).rows⟩,bm 1,aE 2 rfl fun c hpc=>aJ rfl (c.p e3),aE 2 rfl fun c hpc=>bW rfl (c.M 3 hpc) rfl,bK 2 4,aF 5,ax⟩ fun ac ag ae ab aa=> ?_);obtain ⟨e1,e25⟩:=aa.k2 e1 e25;have e2:=aa.V 6;replace r0:=aa.B 0;refine wp_ret ?_;refine rp ?_;refine cH (fn:=Tryz.f68) rfl ab.defers e2 ?_;exact ⟨congrArg _ (congrArg _ (by exact em (k:=k) q1 (by omega) (by unfold cC;(repeat (first | rw [if_neg (by omega)] | rw [if_pos (by omega)]));(try rfl)))),ab.ext0⟩
 have hd22:=hc22;try simp only [ah] at hd22
 refine wp_seq (eC ab [jb r0] ⟨am fun c=>bW rfl (c.p e25) rfl,aF 0,ax⟩ fun ac ag ae ab aa=> ?_);replace e1:=aa.k1 e1;have e127:=aa.V 1;replace r0:=aa.B 0;refine wp_cond_split e127 (fun hc23=> ?_) (fun hc23=> ?_)
 · try simp only [ai] at hc23
   refine wp_seq (eM ab [jb r0] ⟨am fun c=>ec rfl aD ak ((c.p e1).trans r0.ptr) (c.B 0),dU fun c=>⟨_,_,(bq rfl rfl Tryz.call88 (c.q 0)),vC t _ (hT.at (ab.ext.trans c.J.ext)) (by omega)⟩,aF 1,ax⟩ fun ac ag ae ab aa=> ?_);have e2:=aa.V 2;refine wp_ret ?_;refine rp ?_;refine cH (fn:=Tryz.f68) rfl ab.defers e2 ?_;exact ⟨congrArg _ (congrArg _ (by exact em (k:=k) q1 (by omega) (GC (by omega)))),ab.ext0⟩
 try simp only [ah] at hc23
 refine wp_skip ?_;show _;refine wp_seq (eB ab [jb r0] ⟨am fun c=>ar rfl rfl,ax⟩ fun ac ag ae ab aa=> ?_);have e2:=aa.V 0;refine wp_ret ?_;refine rp ?_;refine cH (fn:=Tryz.f68) rfl ab.defers e2 ?_;exact ⟨congrArg _ (congrArg _ (by first | exact qG (k:=k) (by omega) (by assumption) | exact em (k:=k) q_1 (by omega) (oe (k:=j) (by omega) (by omega) (by assumption)) | exact em (k:=k) q_1 (by omega) (oh (k:=j) (by omega) (by omega) (by assumption)) | exact em (k:=k) q1 (by omega) (by unfold cC;(repeat (first | rw [if_neg (by omega)] | rw [if_pos (by omega)]));(try rfl)))),ab.ext0⟩
theorem Bb (t:Tr):∀(w:World),kW w t→fy t≤1000000→Calls Tryz.prog 68 #[t.v] w (fun e w'=>e= .returned (.bool (gP t))∧Ext bc w w'):=Tr.ind (P:=fun t=>∀(w:World),kW w t→fy t≤1000000→Calls Tryz.prog 68 #[t.v] w (fun e w'=>e= .returned (.bool (gP t))∧Ext bc w w')) vD t
set_option maxRecDepth 100000 in
theorem Bc (t:Tr) (w:World) (hT:kW w t) (hP:fy t≤1000000):Calls Tryz.prog 42 #[(ta t)] w (fun e w'=>e= .returned (aA ((decide (cm t≤512)&&decide (eH t≤16))&&gP t))∧Ext bc w w'):=by
 refine enter (n:=15) Tryz.func42 rfl rfl (av rfl) ?_;intro a0 τ0 ha st0;have e0:aT a0 0=(ta t):=ha 0 _ rfl;clear ha;have hwt:=ek t;refine wp_seq (rg [box _ _ 0 1 (tc t),_] [0,0] st0 [] ⟨fh (v:=(ta t)) rfl rfl rfl rfl rfl (fun _ _ _ _ c=>(c.p e0)),am fun c=>ar rfl rfl,ax⟩ fun ac ag ae ab aa=> ?_);obtain ⟨b1x1,e1⟩:=gx ac 1;have e2:=aa.V 1;have r0:=aa.rb 0 e1 rfl;refine wp_seq ?_;refine rg [_,_,_,_,_,_,_,_,_,_,_,_,_] [0,1,3,7,15,31,63,127,255,511,1023,2047,4095] ab [jb r0] ⟨am fun c=>ec rfl aD ak ((c.p e1).trans r0.ptr) (c.B 0),dU fun c=>⟨_,_,(bq rfl rfl Tryz.call66 (c.q 0)),wK t _ (hT.at (ab.ext.trans c.J.ext)) (by omega)⟩,am fun c=>ki rfl (c.q 1) rfl,bm 2,aE 3 rfl fun c hpc=>ec rfl aD ak ((c.p e1).trans r0.ptr) (c.B 0),fv 3 true rfl fun c hpc=>⟨_,_,(bq rfl rfl Tryz.call67 (c.M 4 hpc)),zf t _ (hT.at (ab.ext.trans c.J.ext)) (by have hq0:=bt hpc;omega)⟩,aE 3 rfl fun c hpc=>ki rfl (c.M 5 hpc) rfl,bK 3 6,bm 7,aE 8 rfl fun c hpc=>ec rfl aD ak ((c.p e1).trans r0.ptr) (c.B 0),fv 8 true rfl fun c hpc=>⟨_,_,(bq rfl rfl Tryz.call68 (c.M 9 hpc)),Bb t _ (hT.at (ab.ext.trans c.J.ext)) (by have hq0:=hpc;(try simp only [aw,ai] at hq0);omega)⟩,bK 8 10,aF 11,ax⟩ fun ac ag ae ab aa=> ?_;have e2:=aa.V 12;refine wp_ret ?_;refine rp ?_;refine cH (fn:=Tryz.f42) rfl ab.defers e2 ?_;exact ⟨rfl,ab.ext0⟩
end
section
open Srt
theorem zi (t:Tr) (d:Int):(eH t≤d)↔(kN (t.kids.map eH)≤dj t d):=by
  rw [lp];unfold dj;split <;> omega
theorem zj (t:Tr):∀n d:Int,0≤n→0≤d→(((de t n d).2=true↔(cm t≤n∧eH t≤d∧gP t=true))∧((de t n d).2=true→(de t n d).1=n - cm t)):=by
  induction t using Tr.ind with
  | h t ih =>
    intro n d hn hd;have hK:∀ks:List Tr,(∀k ∈ ks,k ∈ t.kids)→∀m d:Int,0≤m→0≤d→(((iD (ks.map de) m d).2=true↔(cZ (ks.map cm)≤m∧kN (ks.map eH)≤d∧ks.all gP=true))∧((iD (ks.map de) m d).2=true→(iD (ks.map de) m d).1=m - cZ (ks.map cm))):=by
      intro ks;induction ks with
      | nil => intro _ m d h h2; simp [iD, cZ, kN]; omega
      | cons k ks ih2 =>
        intro hm m d h h2;obtain ⟨i1,i2⟩:=ih k (hm k (by simp)) m d h h2;have hr:=nN k (n:=m) (d:=d) h;have hs:cZ ((k::ks).map cm)=cm k+cZ (ks.map cm):=by
          rw [show k::ks=[k]++ks from rfl,bT,jc];simp [cZ]
        have hx:∀d:Int,kN ((k::ks).map eH)≤d↔(eH k≤d∧kN (ks.map eH)≤d):=by
          intro d;constructor
          · intro hh;refine ⟨kT (rm (by simp)) hh,qB (kT (nC _) hh) fun x hx=>kT (rm (by simp at hx ⊢;exact .inr hx)) hh⟩
          · rintro ⟨h3,h4⟩
            refine qB (kT (nC _) h4) fun x hx=> ?_;simp at hx;rcases hx with rfl | ⟨q,hq,rfl⟩
            · exact h3
            · exact kT (rm (List.mem_map.2 ⟨q,hq,rfl⟩)) h4
        have hp:0≤cZ (ks.map cm):=iJ fun x hx=>by
          obtain ⟨q,_,rfl⟩:=List.mem_map.1 hx;have:=jd q;omega
        rw [bz,iD,hs,hx];split
        · rename_i hf;have hf':=i2 hf;obtain ⟨g1,g2,g3⟩:=i1.1 hf;obtain ⟨j1,j2⟩:=ih2 (fun x hx=>hm x (by simp [hx])) (de k m d).1 d hr.1 h2;rw [hf'] at j1 j2 ⊢;refine ⟨?_,fun hh=> ?_⟩
          · rw [j1,dP,g3,fJ];constructor
            · rintro ⟨a,b,c⟩;exact ⟨by omega,⟨g2,b⟩,c⟩
            · rintro ⟨a,⟨_,b⟩,c⟩;exact ⟨by omega,b,c⟩
          · rw [j2 hh];omega
        · rename_i hf;refine ⟨⟨fun hh=>(by cases hh),fun ⟨a,b,c⟩=> ?_⟩,fun hh=>(by cases hh)⟩;rw [dP,aw] at c;exact absurd (i1.2 ⟨by omega,b.1,c.1⟩) hf
    have hp:0≤cZ (t.kids.map cm):=iJ fun x hx=>by
      obtain ⟨q,_,rfl⟩:=List.mem_map.1 hx;have:=jd q;omega
    have hx0:=nC (t.kids.map eH);rw [nM,jA,gJ,zi];split
    · rename_i hc;refine ⟨⟨fun hh=>(by cases hh),fun ⟨a,b,c⟩=> ?_⟩,fun hh=>(by cases hh)⟩;rw [aw] at c;simp [c.2] at hc;omega
    · rename_i hc;simp only [aN,ai,aB,not_or,aX,aU] at hc;obtain ⟨j1,j2⟩:=hK t.kids (fun _ h=>h) (n - 1) (dj t d) (by omega) (by omega);refine ⟨?_,fun hh=> ?_⟩
      · rw [j1,hc.2,Bool.and_true];constructor
        · rintro ⟨a,b,c⟩;exact ⟨by omega,b,c⟩
        · rintro ⟨a,b,c⟩;exact ⟨by omega,b,c⟩
      · rw [j2 hh];omega
def Dq (t:Tr):Bool:=(decide (cm t≤512)&&decide (eH t≤16))&&gP t
theorem ul (t:Tr):(de t 512 16).2=Dq t:=by
  rw [eZ,(zj t 512 16 (by omega) (by omega)).1];unfold Dq;rw [aw,aw,ai,ai,and_assoc]
theorem wO (t:Tr):cC (er t)=cC t:=by
  have h1:∀f:Int→Bool,(er t).kids.any (fun x=>f x.k)=t.kids.any (fun x=>f x.k):=fun f=>by
    rw [mN,List.any_map];congr 1;funext x;simp [yN]
  have h2:(nth (er t).kids 0).k=(nth t.kids 0).k:=by
    rw [mN];cases hk:t.kids with
    | nil => rfl
    | cons x l =>
      show (nth (List.map er (x::l)) 0).k=x.k;rw [←yN x];rfl
  have h3:(er t).kids.length=t.kids.length:=by rw [mN];simp
  have h4:∀ks,oz (er t) ks=oz t ks:=fun ks=>h1 fun k=>ks.any fun y=>decide (k=y);have h5:ly (er t)=ly t:=by unfold ly;rw [oW]
  unfold cC;rw [h2,h3,h4,h4,h5];rw [oW]
theorem Dr {n m:Int} {rs:List (ByteArray × ByteArray)} (h:ic n rs=some m):m=n - vh rs:=by
  induction rs generalizing n with
  | nil => simp [ic] at h; subst h; simp [vh, cZ]
  | cons r rs ih =>
    rw [ic] at h;split at h
    · cases h
    · have:=ih h;have hs:vh (r::rs)=1+(r.1.size:Int)+(r.2.size:Int)+vh rs:=by
        unfold vh;rw [show r::rs=[r]++rs from rfl,bT,jc];simp [cZ]
      omega
theorem GD (t:Tr):∀n:Int,0≤uO t n→fy t≤n:=by
  have key:∀t:Tr,∀n:Int,0≤uO t n→uO t n=n - fy t:=by
    intro t;induction t using Tr.ind with
    | h t ih =>
      have hK:∀ks:List Tr,(∀k ∈ ks,k ∈ t.kids)→∀m:Int,0≤wj ks m→wj ks m=m - cZ (ks.map fy):=by
        intro ks;induction ks with
        | nil => intro _ m _; simp [wj, GV, cZ]
        | cons k ks ih2 =>
          intro hm m h;have hs:cZ ((k::ks).map fy)=fy k+cZ (ks.map fy):=by
            rw [show k::ks=[k]++ks from rfl,bT,jc];simp [cZ]
          rw [pi] at h ⊢;by_cases hm0:m < 0
          · rw [if_pos hm0,tS hm0] at h;omega
          · rw [if_neg hm0] at h ⊢;have h1:=ih2 (fun x hx=>hm x (by simp [hx])) _ h;have h2:0≤uO k m:=by
              apply aX.1;intro hneg;rw [tS hneg] at h;omega
            have h3:=ih k (hm k (by simp)) m h2;omega
      intro n h;rw [rn] at h ⊢;rw [kO];split at h
      · omega
      · rename_i hc;rw [if_neg hc];split at h
        · omega
        · rename_i m hm;have h1:=Dr hm;have h2:=hK t.kids (fun _ h=>h) m h;omega
  intro n h;have:=key t n h;omega
theorem vE (t:Tr):de (er t)=de t:=pe (fun t l=>by funext n d;rw [wO];unfold dj oM;rw [yN]) t
end
section
open Srt
def cO (cs:List ByteArray) (i:Nat):ByteArray:=if (cs.length:Int)≤(i:Int) then ⟨#[]⟩ else nth cs (i:Int)
def eU (cs:List ByteArray) (i:Nat) (c:ByteArray):Bool:= !(decide ((cs.length:Int)≤(i:Int)) || (!(iI (nth cs (i:Int)) c)))
def tkN (cs:List ByteArray) (i:Nat) (c:ByteArray):Nat:=if eU cs i c=true then i+1 else i
theorem jq {cs:List ByteArray} {i:Nat} {c:ByteArray} (h:eU cs i c=true):tkN cs i c=i+1:=if_pos h
theorem kg {cs:List ByteArray} {i:Nat} {c:ByteArray} (h:eU cs i c=false):tkN cs i c=i:=if_neg (by rw [h];decide)
theorem Fs (cs:List ByteArray) (i:Nat) (c:ByteArray):tkN cs i c≤i+1∧i≤tkN cs i c:=by unfold tkN;split <;> omega
theorem gI {cs:List ByteArray} {i:Nat} {c:ByteArray} (h:eU cs i c=true):i < cs.length:=by
  simp [eU] at h;omega
theorem hQ {cs:List ByteArray} {i:Nat} (h:((cO cs i).size:Int)=1):i < cs.length:=by
  unfold cO at h;split at h
  · exact absurd h (by decide)
  · omega
theorem na {cs:List ByteArray} {i:Nat} (h:iI (cO cs i) (⟨#[]⟩:ByteArray)=false):i < cs.length:=by
  unfold cO at h;split at h
  · exact absurd h (by decide+kernel)
  · omega
def um (n:Int):Bool:=(decide (65≤n)&&decide (n≤90)) || (decide (97≤n)&&decide (n≤122))
def kq (n:Int):Bool:=decide (48≤n)&&decide (n≤57)
def iE:Tr:=dt 0 ⟨#[]⟩ false 0 0 false
def nc (ng:Bool) (rv:Sv) (rows:List Rw):Tr:=⟨4,⟨#[]⟩,ng,rv,rows,0,0,false,Sv.nil,[]⟩
theorem Bd (ng:Bool) (rv:Sv) (rows:List Rw):er (nc ng rv rows)=nc ng Sv.nil rows:=by rw [oW];rfl
theorem GE {G Z:aP} {w:World} {ng:Bool} {rv:Sv} {rows:List Rw} (h:(dL ik G rv.v rows).P Z w):(iv G (nc ng rv rows)).P Z w:=
  .mk h.1 h.2 (SlT.nil _ _) (fun h=>absurd rfl h) (fun k h=>by cases h)
def fG (c:ByteArray):ByteArray × Bool:=
  if iI c ⟨#[]⟩=true then (⟨#[]⟩,false) else if iI c ⟨#[110]⟩=true then (⟨#[10]⟩,true) else if iI c ⟨#[114]⟩=true then (⟨#[13]⟩,true) else if iI c ⟨#[116]⟩=true then (⟨#[9]⟩,true)
  else if iI c ⟨#[102]⟩=true then (⟨#[12]⟩,true) else if iI c ⟨#[118]⟩=true then (⟨#[11]⟩,true)
  else if (decide ((c.size:Int)=1)&&(um (ca c 0) || kq (ca c 0)))=true then (⟨#[]⟩,false) else (c,true)
def nr (cs:List ByteArray):Nat→Int→Nat→Nat→Int × Nat × Nat
  | 0, n, m, i => (n, m, i)
  | f + 1, n, m, i => if ((decide ((m : Int) < 3) && decide (((cO cs i).size : Int) = 1)) && kq (ca (cO cs i) 0)) = true then nr cs f (n * 10 + (ca (cO cs i) 0 - 48)) (m + 1) (i + 1) else (n, m, i)
def cq (cs:List ByteArray) (i:Nat):Int × Nat × Nat:=nr cs 4 0 0 i
def jw (r:Int × Nat × Nat):Bool:=decide ((0:Int) < (r.2.1:Int))&&decide (r.1≤255)
theorem qH (cs:List ByteArray):∀(f:Nat) (n:Int) (m i:Nat),i≤(nr cs f n m i).2.2∧((nr cs f n m i).2.2≤cs.length∨(nr cs f n m i).2.2=i)
  | 0, n, m, i => ⟨br _, .inr rfl⟩
  | f + 1, n, m, i => by
    rw [nr];split
    · rename_i h;simp only [aw,ai] at h;have hlt:=hQ h.1.2;have:=qH cs f (n * 10+(ca (cO cs i) 0 - 48)) (m+1) (i+1);omega
    · exact ⟨br _,.inr rfl⟩
theorem xW (cs:List ByteArray):∀(f:Nat) (n:Int) (m i:Nat),0≤n→m≤3→n < 10 ^ m→0≤(nr cs f n m i).1∧(nr cs f n m i).1 < 1000
  | 0, n, m, i => fun h0 hm h1 => ⟨h0, lj h1 (by
      show (10:Int) ^ m≤1000;match m,hm with
      | 0, _ => decide
      | 1, _ => decide
      | 2, _ => decide
      | 3, _ => decide)⟩
  | f + 1, n, m, i => fun h0 hm h1 => by
    rw [nr];split
    · rename_i h;simp only [aw,ai,kq] at h;refine xW cs f _ (m+1) (i+1) (by omega) (by omega) ?_;rw [Int.pow_succ];omega
    · refine ⟨h0,lj h1 ?_⟩;match m,hm with
      | 0, _ => decide
      | 1, _ => decide
      | 2, _ => decide
      | 3, _ => decide
theorem uo (cs:List ByteArray) (i:Nat):0≤(cq cs i).1∧(cq cs i).1 < 1000:=xW cs 4 0 0 i (by decide) (by decide) (by decide)
def Be (x:Tr) (mn mx:Int) (lz:Bool):Tr:=fX 7 ⟨#[]⟩ false mn mx lz Sv.nil [x]
def kR (cs:List ByteArray) (x:Tr) (j:Nat) (mn mx:Int):Tr × Int × Nat:=(Be x mn mx (eU cs j ⟨#[63]⟩),0,tkN cs j ⟨#[63]⟩)
def ma (cs:List ByteArray) (x:Tr) (mn mx:Int) (ok:Bool) (j:Nat):Tr × Int × Nat:=
  if ok=false then (iE,10,j) else if eU cs j ⟨#[125]⟩=false then (iE,10,j) else if ((!decide (mx= -1))&&decide (mx < mn))=true then (iE,10,j+1) else kR cs x (j+1) mn mx
def dZ (cs:List ByteArray) (x:Tr) (i:Nat):Tr × Int × Nat:=
  if eU cs i ⟨#[42]⟩=true then kR cs x (i+1) 0 (-1)
  else if eU cs i ⟨#[43]⟩=true then kR cs x (i+1) 1 (-1)
  else if eU cs i ⟨#[63]⟩=true then kR cs x (i+1) 0 1
  else if eU cs i ⟨#[123]⟩=true then
    if jw (cq cs (i+1))=false then (iE,10,(cq cs (i+1)).2.2)
    else if eU cs (cq cs (i+1)).2.2 ⟨#[44]⟩=true then
      if iI (cO cs ((cq cs (i+1)).2.2+1)) ⟨#[125]⟩=false then ma cs x (cq cs (i+1)).1 (cq cs ((cq cs (i+1)).2.2+1)).1 (jw (cq cs ((cq cs (i+1)).2.2+1))) (cq cs ((cq cs (i+1)).2.2+1)).2.2
      else ma cs x (cq cs (i+1)).1 (-1) true ((cq cs (i+1)).2.2+1)
    else ma cs x (cq cs (i+1)).1 (cq cs (i+1)).1 true (cq cs (i+1)).2.2
  else (x,0,i)
def bI (cs:List ByteArray) (i:Nat):List Rw × ByteArray × Bool × Nat:=
  if (iI (cO cs i) ⟨#[]⟩ || iI (cO cs i) ⟨#[93]⟩)=true then ([],⟨#[]⟩,false,i)
  else if iI (cO cs i) ⟨#[92]⟩=false then ([],cO cs i,true,i+1)
  else if (decide (((cO cs (i+1)).size:Int)=1)&&ie (ca (cO cs (i+1)) 0))=true then (gE (ca (cO cs (i+1)) 0),⟨#[]⟩,true,i+2)
  else ([],(fG (cO cs (i+1))).1,(fG (cO cs (i+1))).2,i+2)
def jh (cs:List ByteArray) (ng:Bool):Nat→Nat→List Rw→Tr × Int × Nat
  | 0, i, _ => (iE, 99, i)
  | f + 1, i, rows =>
    if eU cs i ⟨#[93]⟩=true then (nc ng Sv.nil (gD rows),0,i+1)
    else if (bI cs i).2.2.1=false then (iE,10,(bI cs i).2.2.2)
    else if (0:Int) < ((bI cs i).1.length:Int) then jh cs ng f (bI cs i).2.2.2 (rows++(bI cs i).1)
    else if ((iI (cO cs (bI cs i).2.2.2) ⟨#[45]⟩&&decide (((bI cs i).2.2.2:Int)+1 < (cs.length:Int)))&& !(iI (nth cs (((bI cs i).2.2.2:Int)+1)) ⟨#[93]⟩))=true then
      if (((!(bI cs ((bI cs i).2.2.2+1)).2.2.1) || decide ((0:Int) < ((bI cs ((bI cs i).2.2.2+1)).1.length:Int))) || nu (bI cs ((bI cs i).2.2.2+1)).2.1 (bI cs i).2.1)=true then (iE,10,(bI cs ((bI cs i).2.2.2+1)).2.2.2)
      else jh cs ng f (bI cs ((bI cs i).2.2.2+1)).2.2.2 (rows++ [((bI cs i).2.1,(bI cs ((bI cs i).2.2.2+1)).2.1)])
    else jh cs ng f (bI cs i).2.2.2 (rows++ [((bI cs i).2.1,(bI cs i).2.1)])
def kr (cs:List ByteArray) (i:Nat):Tr × Int × Nat:=jh cs (eU cs i ⟨#[94]⟩) (cs.length+1) (tkN cs i ⟨#[94]⟩) []
def gS (cs:List ByteArray) (i:Nat):Tr × Int × Nat:=
  if (decide (((cO cs i).size:Int)=1)&&ie (ca (fU (cO cs i)) 0))=true then (nc (!(iI (cO cs i) (fU (cO cs i)))) Sv.nil (gE (ca (fU (cO cs i)) 0)),0,i+1)
  else if (fG (cO cs i)).2=false then (iE,10,i)
  else (dt 2 (fG (cO cs i)).1 false 0 0 false,0,i+1)
def Ft (c:ByteArray):Bool:=((((((iI c ⟨#[42]⟩ || iI c ⟨#[43]⟩) || iI c ⟨#[63]⟩) || iI c ⟨#[41]⟩) || iI c ⟨#[123]⟩) || iI c ⟨#[124]⟩) || (!(ef c)))
def dO (sub:Int→Nat→Tr × Int × Nat) (cs:List ByteArray) (d:Int) (i:Nat):Tr × Int × Nat:=
  if eU cs i ⟨#[46]⟩=true then (dt 3 ⟨#[]⟩ false 0 0 false,0,i+1)
  else if eU cs i ⟨#[40]⟩=true then
    if 16≤d then (iE,8,i+1)
    else if eU cs (i+1) ⟨#[63]⟩=true then
      if eU cs (i+2) ⟨#[58]⟩=false then (iE,10,i+2)
      else if (sub (d+1) (i+3)).2.1≠0 then (iE,(sub (d+1) (i+3)).2.1,(sub (d+1) (i+3)).2.2)
      else if eU cs (sub (d+1) (i+3)).2.2 ⟨#[41]⟩=false then (iE,10,(sub (d+1) (i+3)).2.2)
      else (fX 6 ⟨#[]⟩ false 0 0 false Sv.nil [(sub (d+1) (i+3)).1],0,(sub (d+1) (i+3)).2.2+1)
    else if (sub (d+1) (i+1)).2.1≠0 then (iE,(sub (d+1) (i+1)).2.1,(sub (d+1) (i+1)).2.2)
    else if eU cs (sub (d+1) (i+1)).2.2 ⟨#[41]⟩=false then (iE,10,(sub (d+1) (i+1)).2.2)
    else (fX 5 ⟨#[]⟩ false 0 0 false Sv.nil [(sub (d+1) (i+1)).1],0,(sub (d+1) (i+1)).2.2+1)
  else if eU cs i ⟨#[91]⟩=true then kr cs (i+1)
  else if eU cs i ⟨#[92]⟩=true then gS cs (i+1)
  else if Ft (cO cs i)=true then (iE,10,i)
  else (dt 2 (cO cs i) false 0 0 false,0,i+1)
def sX (cs:List ByteArray) (i:Nat) (c:ByteArray):Bool:=(iI (cO cs i) ⟨#[92]⟩&&decide ((i:Int)+1 < (cs.length:Int)))&&iI (nth cs ((i:Int)+1)) c
def fc (sub:Int→Nat→Tr × Int × Nat) (cs:List ByteArray) (d:Int) (i:Nat):Tr × Int × Nat:=
  if eU cs i ⟨#[94]⟩=true then (dt 8 ⟨#[]⟩ false 0 0 false,0,i+1)
  else if eU cs i ⟨#[36]⟩=true then (dt 9 ⟨#[]⟩ false 0 0 false,0,i+1)
  else if sX cs i ⟨#[98]⟩=true then (dt 10 ⟨#[]⟩ false 0 0 false,0,i+2)
  else if sX cs i ⟨#[66]⟩=true then (dt 11 ⟨#[]⟩ false 0 0 false,0,i+2)
  else if (dO sub cs d i).2.1≠0 then (iE,(dO sub cs d i).2.1,(dO sub cs d i).2.2)
  else dZ cs (dO sub cs d i).1 (dO sub cs d i).2.2
def vF (cs:List ByteArray) (i:Nat):Bool:=(decide ((i:Int) < (cs.length:Int))&& !(iI (cO cs i) ⟨#[124]⟩))&& !(iI (cO cs i) ⟨#[41]⟩)
def eN (cs:List ByteArray):Nat→Int→Nat→List Tr→List Tr→Tr × Int × Nat
  | 0, _, i, _, _ => (iE, 99, i)
  | f + 1, d, i, alts, terms =>
    if vF cs i=true then
      if (fc (fun d j=>eN cs f d j [] []) cs d i).2.1≠0 then (iE,(fc (fun d j=>eN cs f d j [] []) cs d i).2.1,(fc (fun d j=>eN cs f d j [] []) cs d i).2.2)
      else eN cs f d (fc (fun d j=>eN cs f d j [] []) cs d i).2.2 alts (terms++ [(fc (fun d j=>eN cs f d j [] []) cs d i).1])
    else if eU cs i ⟨#[124]⟩=true then eN cs f d (i+1) (alts++ [lq terms]) []
    else (mj (alts++ [lq terms]),0,i)
def gN (s:ByteArray):Tr × Int:=
  if 256 < (s.size:Int) then (iE,4)
  else if (eN (cQ s) ((cQ s).length+1) 0 0 [] []).2.1≠0 then (iE,(eN (cQ s) ((cQ s).length+1) 0 0 [] []).2.1)
  else if ((eN (cQ s) ((cQ s).length+1) 0 0 [] []).2.2:Int) < ((cQ s).length:Int) then (iE,10)
  else ((eN (cQ s) ((cQ s).length+1) 0 0 [] []).1,0)
end
section
open Srt
theorem uq (cs:List ByteArray) (i:Nat) (c:ByteArray):i≤tkN cs i c∧(tkN cs i c≤cs.length∨tkN cs i c=i):=by
  unfold tkN;split
  · rename_i h;have:=gI h;omega
  · omega
theorem wP {c:ByteArray} (h:(fG c).2=true):iI c (⟨#[]⟩:ByteArray)=false:=by
  cases hz:iI c (⟨#[]⟩:ByteArray) with
  | false => rfl
  | true =>
    simp only [fG] at h;rw [if_pos hz] at h;cases h
theorem ut {cs:List ByteArray} {i:Nat} (h:(bI cs i).2.2.1=true):i < (bI cs i).2.2.2∧(bI cs i).2.2.2≤cs.length:=by
  unfold bI at h ⊢;split at h
  · cases h
  · rename_i h0;have hlt:i < cs.length:=by
      rw [aQ,aG] at h0;exact na h0.1
    rw [if_neg h0];split at h
    · rename_i h1;rw [if_pos h1];simp;omega
    · rename_i h1;rw [if_neg h1];split at h
      · rename_i h2;rw [if_pos h2];rw [aw,ai] at h2;have:=hQ h2.1;simp;omega
      · rename_i h2;rw [if_neg h2];have:=na (wP h);simp;omega
theorem oi (cs:List ByteArray) (x:Tr) (j:Nat) (mn mx:Int):j≤(kR cs x j mn mx).2.2∧((kR cs x j mn mx).2.2≤cs.length∨(kR cs x j mn mx).2.2=j):=uq cs j _
theorem uu (cs:List ByteArray) (i:Nat):i≤(cq cs i).2.2∧((cq cs i).2.2≤cs.length∨(cq cs i).2.2=i):=qH cs 4 0 0 i
theorem uv {cs:List ByteArray} {x:Tr} {mn mx:Int} {ok:Bool} {j:Nat} (h:(ma cs x mn mx ok j).2.1=0):j≤(ma cs x mn mx ok j).2.2∧(ma cs x mn mx ok j).2.2≤cs.length:=by
  unfold ma at h ⊢;split at h
  · cases h
  · rename_i h1;rw [if_neg h1];split at h
    · cases h
    · rename_i h2;rw [if_neg h2];split at h
      · cases h
      · rename_i h3;rw [if_neg h3];have:=gI (by simpa using h2:eU cs j ⟨#[125]⟩=true);have:=oi cs x (j+1) mn mx;omega
theorem Bf {cs:List ByteArray} {x:Tr} {i:Nat} (h:(dZ cs x i).2.1=0):i≤(dZ cs x i).2.2∧((dZ cs x i).2.2≤cs.length∨(dZ cs x i).2.2=i):=by
  have one:∀c,eU cs i c=true→∀mn mx,i≤(kR cs x (i+1) mn mx).2.2∧((kR cs x (i+1) mn mx).2.2≤cs.length∨(kR cs x (i+1) mn mx).2.2=i):=fun c hc mn mx=>by
    have:=gI hc;have:=oi cs x (i+1) mn mx;omega
  unfold dZ at h ⊢;split
  · exact one _ (by assumption) _ _
  · split
    · exact one _ (by assumption) _ _
    · split
      · exact one _ (by assumption) _ _
      · split
        · rename_i h1 h2 h3 h4;rw [if_neg h1,if_neg h2,if_neg h3,if_pos h4] at h;have a1:=gI h4;have a2:=uu cs (i+1);split
          · rename_i h5;rw [if_pos h5] at h;cases h
          · rename_i h5;rw [if_neg h5] at h;split
            · rename_i h6;rw [if_pos h6] at h;have a3:=uu cs ((cq cs (i+1)).2.2+1);split
              · rename_i h7;rw [if_pos h7] at h;have:=uv h;omega
              · rename_i h7;rw [if_neg h7] at h;have:=uv h;omega
            · rename_i h6;rw [if_neg h6] at h;have:=uv h;omega
        · exact ⟨br _,.inr rfl⟩
theorem qI {cs:List ByteArray} {ng:Bool}:∀(f i:Nat) (rows:List Rw),(jh cs ng f i rows).2.1=0→i < (jh cs ng f i rows).2.2∧(jh cs ng f i rows).2.2≤cs.length
  | 0, i, rows, h => by cases h
  | f + 1, i, rows, h => by
    rw [jh] at h ⊢;split
    · rename_i h1;have:=gI h1;simp;omega
    · rename_i h1;rw [if_neg h1] at h;split
      · rename_i h2;rw [if_pos h2] at h;cases h
      · rename_i h2;rw [if_neg h2] at h;have a1:=ut (by simpa using h2:(bI cs i).2.2.1=true);split
        · rename_i h3;rw [if_pos h3] at h;have:=qI f _ _ h;omega
        · rename_i h3;rw [if_neg h3] at h;split
          · rename_i h4;rw [if_pos h4] at h;split
            · rename_i h5;rw [if_pos h5] at h;cases h
            · rename_i h5;rw [if_neg h5] at h;have h6:(bI cs ((bI cs i).2.2.2+1)).2.2.1=true:=by
                rw [aQ,aG,aG,az] at h5;exact h5.1.1
              have a2:=ut h6;have:=qI f _ _ h;omega
          · rename_i h4;rw [if_neg h4] at h;have:=qI f _ _ h;omega
theorem wQ {cs:List ByteArray} {i:Nat} (h:(kr cs i).2.1=0):i < (kr cs i).2.2∧(kr cs i).2.2≤cs.length:=by
  have a1:=qI _ _ _ h;have a2:=uq cs i (⟨#[94]⟩:ByteArray);unfold kr at h ⊢;omega
theorem uw {cs:List ByteArray} {i:Nat} (h:(gS cs i).2.1=0):i < (gS cs i).2.2∧(gS cs i).2.2≤cs.length:=by
  unfold gS at h ⊢;split
  · rename_i h1;rw [aw,ai] at h1;have:=hQ h1.1;simp;omega
  · rename_i h1;rw [if_neg h1] at h;split
    · rename_i h2;rw [if_pos h2] at h;cases h
    · rename_i h2;have:=na (wP (by simpa using h2));simp;omega
def sY (cs:List ByteArray) (sub:Int→Nat→Tr × Int × Nat):Prop:=∀(d2:Int) (j:Nat),(sub d2 j).2.1=0→j≤(sub d2 j).2.2∧((sub d2 j).2.2≤cs.length∨(sub d2 j).2.2=j)
theorem qJ {sub:Int→Nat→Tr × Int × Nat} {cs:List ByteArray} {d:Int} {i:Nat} (hs:sY cs sub) (h:(dO sub cs d i).2.1=0):i < (dO sub cs d i).2.2∧(dO sub cs d i).2.2≤cs.length:=by
  unfold dO at h ⊢;split
  · rename_i h1;have:=gI h1;simp;omega
  · rename_i h1;rw [if_neg h1] at h;split
    · rename_i h2;rw [if_pos h2] at h;have a2:=gI h2;split
      · rename_i h3;rw [if_pos h3] at h;cases h
      · rename_i h3;rw [if_neg h3] at h;split
        · rename_i h4;rw [if_pos h4] at h;split
          · rename_i h5;rw [if_pos h5] at h;cases h
          · rename_i h5;rw [if_neg h5] at h;split
            · rename_i h6;rw [if_pos h6] at h;exact absurd h h6
            · rename_i h6;rw [if_neg h6] at h;split
              · rename_i h7;rw [if_pos h7] at h;cases h
              · rename_i h7;have a3:=gI (by simpa using h7:eU cs (sub (d+1) (i+3)).2.2 ⟨#[41]⟩=true);have a4:=hs (d+1) (i+3) (Classical.byContradiction h6);simp;omega
        · rename_i h4;rw [if_neg h4] at h;split
          · rename_i h6;rw [if_pos h6] at h;exact absurd h h6
          · rename_i h6;rw [if_neg h6] at h;split
            · rename_i h7;rw [if_pos h7] at h;cases h
            · rename_i h7;have a3:=gI (by simpa using h7:eU cs (sub (d+1) (i+1)).2.2 ⟨#[41]⟩=true);have a4:=hs (d+1) (i+1) (Classical.byContradiction h6);simp;omega
    · rename_i h2;rw [if_neg h2] at h;split
      · rename_i h3;rw [if_pos h3] at h;have:=wQ h;omega
      · rename_i h3;rw [if_neg h3] at h;split
        · rename_i h4;rw [if_pos h4] at h;have:=uw h;omega
        · rename_i h4;rw [if_neg h4] at h;split
          · rename_i h5;rw [if_pos h5] at h;cases h
          · rename_i h5;have hne:iI (cO cs i) (⟨#[]⟩:ByteArray)=false:=by
              cases hz:iI (cO cs i) (⟨#[]⟩:ByteArray) with
              | false => rfl
              | true =>
                rw [qx.1 hz] at h5;exact absurd (by decide+kernel) h5
            have:=na hne;simp;omega
theorem qK {cs:List ByteArray} {i:Nat} {c:ByteArray} (h:sX cs i c=true):i+1 < cs.length:=by
  unfold sX at h;simp only [aw,ai] at h;omega
theorem ux {sub:Int→Nat→Tr × Int × Nat} {cs:List ByteArray} {d:Int} {i:Nat} (hs:sY cs sub) (h:(fc sub cs d i).2.1=0):i < (fc sub cs d i).2.2∧(fc sub cs d i).2.2≤cs.length:=by
  unfold fc at h ⊢;split
  · rename_i h1;have:=gI h1;simp;omega
  · rename_i h1;rw [if_neg h1] at h;split
    · rename_i h2;have:=gI h2;simp;omega
    · rename_i h2;rw [if_neg h2] at h;split
      · rename_i h3;have:=qK h3;simp;omega
      · rename_i h3;rw [if_neg h3] at h;split
        · rename_i h4;have:=qK h4;simp;omega
        · rename_i h4;rw [if_neg h4] at h;split
          · rename_i h5;rw [if_pos h5] at h;exact absurd h h5
          · rename_i h5;rw [if_neg h5] at h;have a1:=qJ hs (Classical.byContradiction h5);have a2:=Bf h;omega
theorem oQ (cs:List ByteArray):∀(f:Nat) (d:Int) (i:Nat) (alts terms:List Tr),(eN cs f d i alts terms).2.1=0→i≤(eN cs f d i alts terms).2.2∧((eN cs f d i alts terms).2.2≤cs.length∨(eN cs f d i alts terms).2.2=i)
  | 0, d, i, alts, terms, h => by cases h
  | f + 1, d, i, alts, terms, h => by
    have hs:sY cs fun d j=>eN cs f d j [] []:=fun d j hh=>oQ cs f d j [] [] hh;rw [eN] at h ⊢;split
    · rename_i h1;rw [if_pos h1] at h;split
      · rename_i h2;rw [if_pos h2] at h;exact absurd h h2
      · rename_i h2;rw [if_neg h2] at h;have a1:=ux hs (Classical.byContradiction h2);have:=oQ cs f d _ _ _ h;omega
    · rename_i h1;rw [if_neg h1] at h;split
      · rename_i h2;rw [if_pos h2] at h;have a1:=gI h2;have:=oQ cs f d _ _ _ h;omega
      · exact ⟨br _,.inr rfl⟩
end
section
open Srt
def EF (x y:Int × Int):Bool:=decide (Fe x y < 0)
theorem Ds (x y:Int × Int):Fe x y=if x.1 < y.1 then -1 else if y.1 < x.1 then 1 else if x.2 < y.2 then -1 else if y.2 < x.2 then 1 else 0:=by
  unfold Fe GU Fd;by_cases h1:x.1 < y.1 <;> by_cases h2:y.1 < x.1 <;> by_cases h3:x.2 < y.2 <;> by_cases h4:y.2 < x.2 <;> simp [h1,h2,h3,h4,List.find?]
theorem oj (x y:Int × Int):EF x y=true↔x.1 < y.1∨(x.1=y.1∧x.2 < y.2):=by
  unfold EF;rw [Ds,ai];split
  · constructor <;> intro _ <;> omega
  · split
    · constructor <;> intro _ <;> omega
    · split
      · constructor <;> intro _ <;> omega
      · split
        · constructor <;> intro _ <;> omega
        · constructor <;> intro _ <;> omega
def qL (acc:List (Int × Int)) (p:Int × Int):Bool:=decide (0≤(acc.length:Int) - 1)&&pL (nth acc ((acc.length:Int) - 1)) p
def my (acc:List (Int × Int)) (p:Int × Int):List (Int × Int):=
  if qL acc p=true then acc.set ((acc.length:Int) - 1).toNat ((nth acc ((acc.length:Int) - 1)).1,max (nth acc ((acc.length:Int) - 1)).2 p.2) else acc++ [p]
def nk (xs:List (Int × Int)):List (Int × Int):=xs.foldl my []
theorem rU (xs:List (Int × Int)) (p:Int × Int):nk (xs++ [p])=my (nk xs) p:=by simp [nk]
theorem oR {p q:Int × Int}:pL p q=true↔max p.1 q.1≤min p.2 q.2:=by simp [pL]
theorem vG (A:List (Int × Int)) (l:Int × Int):nth (A++ [l]) (((A++ [l]).length:Int) - 1)=l:=
  tM (A:=A) (B:=[]) (by simp)
theorem pu (q:Int × Int):my [] q=[q]:=by simp [my,qL]
theorem oA (A:List (Int × Int)) (l q:Int × Int):my (A++ [l]) q=if pL l q=true then A++ [(l.1,max l.2 q.2)] else A++ [l]++ [q]:=by
  have h1:qL (A++ [l]) q=pL l q:=by
    unfold qL;rw [vG,decide_eq_true (by simp),fJ]
  unfold my;rw [h1,vG];split
  · rw [show (((A++ [l]).length:Int) - 1).toNat=A.length by simp];simp
  · rfl
def xX (xs:List (Int × Int)) (y:Int):Prop:=∃p ∈ xs,2 * p.1≤y∧y≤2 * p.2
def Hj (xs:List (Int × Int)):Prop:=(∀p ∈ xs,p.1≤p.2)∧xs.Pairwise fun p q=>p.2 < q.1
theorem kt (xs ys:List (Int × Int)) (y:Int):xX (xs++ys) y↔xX xs y∨xX ys y:=by
  simp only [xX,List.mem_append];constructor
  · rintro ⟨p,hp | hp,h⟩
    · exact .inl ⟨p,hp,h⟩
    · exact .inr ⟨p,hp,h⟩
  · rintro (⟨p,hp,h⟩ | ⟨p,hp,h⟩)
    · exact ⟨p,.inl hp,h⟩
    · exact ⟨p,.inr hp,h⟩
theorem uy (p:Int × Int) (y:Int):xX [p] y↔2 * p.1≤y∧y≤2 * p.2:=by simp [xX]
theorem Dt {xs ys:List (Int × Int)} (h:∀p,p ∈ xs↔p ∈ ys) (y:Int):xX xs y↔xX ys y:=by
  simp only [xX,h]
theorem rV (ys:List (Int × Int)) (hs:oK EF ys) (ho:∀p ∈ ys,p.1≤p.2):
    Hj (nk ys)∧(∀y,xX (nk ys) y↔xX ys y)∧∀l ∈ nk ys,∃p ∈ ys,l.1=p.1:=by
  induction ys using fw with
  | h0 => exact ⟨⟨fun p hp => by simp [nk] at hp, by simp [nk]⟩, fun y => Iff.rfl, fun l hl => by simp [nk] at hl⟩
  | h1 ys q ih =>
    obtain ⟨hs1,_,hs2⟩:=List.pairwise_append.1 hs;obtain ⟨⟨i1,i2⟩,i3,i4⟩:=ih hs1 (fun p hp=>ho p (by simp [hp]));have hq:=ho q (by simp);have hle:∀l ∈ nk ys,l.1≤q.1:=by
      intro l hl;obtain ⟨p,hp,e⟩:=i4 l hl;have:=hs2 p hp q (by simp);rw [←aQ,oj] at this
      omega
    rw [rU];cases hys:nk ys with
    | nil =>
      rw [hys] at i3;rw [pu];refine ⟨⟨by simpa using hq,by simp⟩,fun y=> ?_,fun l hl=>⟨q,by simp,by simp at hl;rw [hl]⟩⟩;rw [kt,←i3];simp [xX]
    | cons a l0 =>
      obtain ⟨A,l,e⟩:∃A l',a::l0=A++ [l']:=⟨(a::l0).dropLast,(a::l0).getLast (by simp),(List.dropLast_concat_getLast _).symm⟩;rw [hys,e] at i1 i2 i3 i4 hle;rw [e,oA];obtain ⟨j1,_,j2⟩:=List.pairwise_append.1 i2;have hl1:=hle l (by simp);have hl2:=i1 l (by simp);split
      · rename_i ht;rw [oR] at ht;refine ⟨⟨fun p hp=> ?_,List.pairwise_append.2 ⟨j1,by simp,fun p hp r hr=> ?_⟩⟩,fun y=> ?_,fun r hr=> ?_⟩
        · rcases List.mem_append.1 hp with hp | hp
          · exact i1 p (by simp [hp])
          · simp at hp;subst hp;show l.1≤max l.2 q.2;omega
        · simp at hr;subst hr;exact j2 p hp l (by simp)
        · rw [kt,kt,uy,uy,←i3,kt,uy];show _∨(2 * l.1≤y∧y≤2 * max l.2 q.2)↔_;constructor
          · rintro (h | h)
            · exact .inl (.inl h)
            · by_cases hy:y≤2 * l.2
              · exact .inl (.inr ⟨h.1,hy⟩)
              · exact .inr ⟨by omega,by omega⟩
          · rintro ((h | h) | h)
            · exact .inl h
            · exact .inr ⟨h.1,by omega⟩
            · exact .inr ⟨by omega,by omega⟩
        · rcases List.mem_append.1 hr with hr | hr
          · obtain ⟨p,hp,e⟩:=i4 r (by simp [hr]);exact ⟨p,by simp [hp],e⟩
          · simp at hr;subst hr;obtain ⟨p,hp,e⟩:=i4 l (by simp);exact ⟨p,by simp [hp],e⟩
      · rename_i ht;rw [oR] at ht;refine ⟨⟨fun p hp=> ?_,List.pairwise_append.2 ⟨i2,by simp,fun p hp r hr=> ?_⟩⟩,fun y=> ?_,fun r hr=> ?_⟩
        · rcases List.mem_append.1 hp with hp | hp
          · exact i1 p hp
          · simp at hp;subst hp;exact hq
        · simp at hr;subst hr;rcases List.mem_append.1 hp with hp | hp
          · have:=j2 p hp l (by simp);omega
          · simp at hp;subst hp;omega
        · rw [kt,kt ys,i3]
        · rcases List.mem_append.1 hr with hr | hr
          · obtain ⟨p,hp,e⟩:=i4 r hr;exact ⟨p,by simp [hp],e⟩
          · simp at hr;subst hr;exact ⟨r,by simp,rfl⟩
end
section
open Srt
theorem Du:Swo EF:=by
  constructor
  · intro x y h;rw [←aQ,oj];rw [oj] at h;omega
  · intro x y z h1 h2;rw [←aQ,oj] at h1 h2 ⊢;omega
section
variable {α β:Type} [Inhabited α] [Inhabited β]
omit [Inhabited α] [Inhabited β] in
theorem rW {lt:α→α→Bool} {lt':β→β→Bool} {f:α→β} {x:α}:∀{ys:List α},(∀y ∈ ys,lt x y=lt' (f x) (f y))→(lX lt x ys).map f=lX lt' (f x) (ys.map f)
  | [], _ => rfl
  | y :: ys, h => by
    have h0:=h y (by simp);have ih:=rW (lt:=lt) (lt':=lt') (f:=f) (x:=x) (ys:=ys) fun z hz=>h z (by simp [hz]);simp only [lX,bz];rw [←h0];split <;> simp [ih]
omit [Inhabited α] [Inhabited β] in
theorem Dv {lt:α→α→Bool} {lt':β→β→Bool} {f:α→β} {x:α} {ys:List α} (h:∀y ∈ ys,lt x y=lt' (f x) (f y)):(zP lt x ys).map f=zP lt' (f x) (ys.map f):=by
  unfold zP;rw [List.map_reverse,rW (lt':=lt') (f:=f) (fun y hy=>h y (by simpa using hy)),List.map_reverse]
omit [Inhabited α] [Inhabited β] in
theorem zk {lt:α→α→Bool} {lt':β→β→Bool} {f:α→β} {xs:List α} (h:∀x ∈ xs,∀y ∈ xs,lt x y=lt' (f x) (f y)):(eK lt xs).map f=eK lt' (xs.map f):=by
  induction xs using fw with
  | h0 => rfl
  | h1 xs x ih =>
    rw [lm,bT,bz,bU,lm,←ih fun a ha b hb=>h a (by simp [ha]) b (by simp [hb])];exact Dv fun y hy=>h x (by simp) y (by simp [((mP (lt:=lt) xs).mem_iff).1 hy])
end
def In (S:List ByteArray) (p:Rw):Prop:=p.1 ∈ S∧p.2 ∈ S
def f2 (S:List ByteArray) (p:Rw):Int × Int:=(rk S p.1,rk S p.2)
theorem GF {S:List ByteArray} {p q:Rw} (hp:In S p) (hq:In S q):nF p q=EF (f2 S p) (f2 S q):=by
  rw [eZ,xE,oj,rh hp.1 hq.1,rh hp.2 hq.2];constructor
  · rintro (h | ⟨e,h⟩)
    · exact .inl h
    · exact .inr ⟨by simp only [f2];rw [e],h⟩
  · rintro (h | ⟨e,h⟩)
    · exact .inl h
    · exact .inr ⟨Fb hp.1 hq.1 e,h⟩
def Ok (S:List ByteArray) (xs:List Rw):Prop:=∀p ∈ xs,fj p=true∧In S p
theorem Bg {S:List ByteArray} {p:Rw} (h:fj p=true∧In S p):(f2 S p).1≤(f2 S p).2:=by
  have:=h.1;unfold fj at this
  rw [aw] at this
  exact (xA h.2.1 h.2.2).1 this.2
theorem Fu {S:List ByteArray} {x y:ByteArray} (hx:x ∈ S) (hy:y ∈ S):rk S (qp x y)=max (rk S x) (rk S y):=(Am hx hy).2
theorem Bh {S:List ByteArray} (ys:List Rw) (hok:Ok S ys) (hs:oK EF (ys.map (f2 S))):
    (go ys).map (f2 S)=nk (ys.map (f2 S))∧∀l ∈ go ys,(∃p ∈ ys,l.1=p.1)∧∃p ∈ ys,l.2=p.2:=by
  induction ys using fw with
  | h0 => exact ⟨rfl, fun l hl => by simp [go] at hl⟩
  | h1 ys q ih =>
    rw [bT,bz,bU] at hs ⊢;obtain ⟨hs1,_,hs2⟩:=List.pairwise_append.1 hs;have hok1:Ok S ys:=fun p hp=>hok p (by simp [hp]);obtain ⟨i1,i2⟩:=ih hok1 hs1;have hsp:=rV (ys.map (f2 S)) hs1 (fun p hp=>by obtain ⟨r,hr,rfl⟩:=List.mem_map.1 hp;exact Bg (hok1 r hr));have hq:=hok q (by simp);have hin:∀l ∈ go ys,In S l:=fun l hl=>by
      obtain ⟨⟨p,hp,e1⟩,r,hr,e2⟩:=i2 l hl;exact ⟨e1 ▸ (hok1 p hp).2.1,e2 ▸ (hok1 r hr).2.2⟩
    rw [mW,rU,←i1];cases hjt:go ys using fw with
    | h0 =>
      have e:qk [] q=[q]:=by simp [qk,vj]
      rw [e,bU,pu];exact ⟨rfl,fun l hl=>by simp at hl;subst hl;exact ⟨⟨l,by simp,rfl⟩,l,by simp,rfl⟩⟩
    | h1 A l =>
      rw [hjt] at i1 i2 hin;have hl:=hin l (by simp);have hn:nth (A++ [l]) (((A++ [l]).length:Int) - 1)=l:=tM (A:=A) (B:=[]) (by simp);have hle:(f2 S l).1≤(f2 S q).1:=by
        obtain ⟨⟨p,hp,e⟩,_⟩:=i2 l (by simp);have:=hs2 (f2 S p) (List.mem_map.2 ⟨p,hp,rfl⟩) (f2 S q) (by simp);rw [←aQ,oj] at this
        have e':(f2 S l).1=(f2 S p).1:=by simp only [f2];rw [e]
        omega
      have hll:(f2 S l).1≤(f2 S l).2:=by
        have h3:=hsp.1.1;rw [←i1] at h3;exact h3 (f2 S l) (by simp)
      have hqq:=Bg hq;have hhit:vj (A++ [l]) q=pL (f2 S l) (f2 S q):=by
        unfold vj;rw [hn,decide_eq_true (by simp),fJ,eZ,xA hq.2.1 hl.2,oR];show (f2 S q).1≤(f2 S l).2↔_;omega
      rw [bT,bz,bU,oA,qk,hhit,hn,show (((A++ [l]).length:Int) - 1).toNat=A.length by simp];split
      · refine ⟨?_,fun r hr=> ?_⟩
        · simp [f2,Fu hl.2 hq.2.2]
        · simp at hr;rcases hr with hr | rfl
          · obtain ⟨⟨p,hp,e⟩,p',hp',e'⟩:=i2 r (by simp [hr]);exact ⟨⟨p,by simp [hp],e⟩,p',by simp [hp'],e'⟩
          · obtain ⟨⟨p,hp,e⟩,p',hp',e'⟩:=i2 l (by simp);refine ⟨⟨p,by simp [hp],e⟩,?_⟩;unfold qp;split
            · exact ⟨q,by simp,rfl⟩
            · exact ⟨p',by simp [hp'],e'⟩
      · refine ⟨by simp,fun r hr=> ?_⟩;rcases List.mem_append.1 hr with hr | hr
        · obtain ⟨⟨p,hp,e⟩,p',hp',e'⟩:=i2 r hr;exact ⟨⟨p,by simp [hp],e⟩,p',by simp [hp'],e'⟩
        · simp at hr;subst hr;exact ⟨⟨r,by simp,rfl⟩,r,by simp,rfl⟩
theorem lA {S:List ByteArray} {xs:List Rw} (h:Ok S (xs.filter fj)):
    Hj ((gD xs).map (f2 S))∧(∀y,xX ((gD xs).map (f2 S)) y↔xX ((xs.filter fj).map (f2 S)) y)∧∀l ∈ gD xs,(∃p ∈ xs.filter fj,l.1=p.1)∧∃p ∈ xs.filter fj,l.2=p.2:=by
  have hp:=mP (lt:=nF) (xs.filter fj);have hok:Ok S (eK nF (xs.filter fj)):=fun p hm=>h p (hp.mem_iff.1 hm);have hm:=zk (lt:=nF) (lt':=EF) (f:=f2 S) (xs:=xs.filter fj) fun x hx y hy=>GF (h x hx).2 (h y hy).2;have hs:oK EF ((eK nF (xs.filter fj)).map (f2 S)):=by rw [hm];exact tL Du _
  obtain ⟨j1,j2⟩:=Bh _ hok hs;have j3:=rV _ hs fun p hq=>by obtain ⟨r,hr,rfl⟩:=List.mem_map.1 hq;exact Bg (hok r hr)
  unfold gD;rw [j1];refine ⟨j3.1,fun y=>(j3.2.1 y).trans ?_,fun l hl=> ?_⟩
  · exact Dt (fun p=>by rw [hm];exact (mP _).mem_iff) y
  · obtain ⟨⟨p,h1,e1⟩,q,h2,e2⟩:=j2 l hl;exact ⟨⟨p,hp.mem_iff.1 h1,e1⟩,q,hp.mem_iff.1 h2,e2⟩
def Fv (xs:List Rw):List ByteArray:=xs.flatMap fun p=> [p.1,p.2]
theorem xY {S:List ByteArray} {xs:List Rw} (h:∀c ∈ Fv xs,c ∈ S):Ok S (xs.filter fj):=fun p hp=>by
  obtain ⟨h1,h2⟩:=List.mem_filter.1 hp;exact ⟨h2,h _ (List.mem_flatMap.2 ⟨p,h1,by simp⟩),h _ (List.mem_flatMap.2 ⟨p,h1,by simp⟩)⟩
theorem rX {S:List ByteArray} {xs:List Rw} (h:Ok S (xs.filter fj)):∀l ∈ gD xs,In S l:=fun l hl=>by
  obtain ⟨⟨p,hp,e1⟩,r,hr,e2⟩:=(lA h).2.2 l hl;exact ⟨e1 ▸ (h p hp).2.1,e2 ▸ (h r hr).2.2⟩
theorem rY {p:Rw}:fj p=true↔(ef p.1=true∧ef p.2=true)∧oI p.1 p.2=true:=by
  unfold fj;rw [aw,aw]
theorem Bi {S:List ByteArray} {xs:List Rw} (h:Ok S (xs.filter fj)):Ok S (gD xs):=fun l hl=>by
  have hin:=rX h l hl;obtain ⟨⟨p,hp,e1⟩,r,hr,e2⟩:=(lA h).2.2 l hl;refine ⟨rY.2 ⟨⟨e1 ▸ (rY.1 (h p hp).1).1.1,e2 ▸ (rY.1 (h r hr).1).1.2⟩,?_⟩,hin⟩;exact (xA hin.1 hin.2).2 ((lA h).1.1 (f2 S l) (List.mem_map.2 ⟨l,hl,rfl⟩))
theorem uz (xs:List Rw):lZ (gD xs)=true:=by
  have h1:Ok (Fv xs) (xs.filter fj):=xY fun _ hc=>hc;refine oN (k:=(gD xs).length) (fun i hi=> ?_) (br _);have hm:=pj hi;unfold nG;rw [(Bi h1 _ hm).1,kx,gd];by_cases h0:i=0
  · subst h0;rfl
  · have hi':i - 1 < (gD xs).length:=by omega
    rw [show (i:Int) - 1=((i - 1:Nat):Int) by omega];have hp:=List.pairwise_iff_getElem.1 (lA h1).1.2 (i - 1) i (by simpa using hi') (by simpa using hi) (by omega);rw [mg,mg,←re (bE hi),←re (bE hi')] at hp;simp only [f2] at hp;have a:=rX h1 _ hm;have b:=rX h1 _ (pj hi');have:oI (nth (gD xs) (i:Int)).1 (nth (gD xs) ((i - 1:Nat):Int)).2=false:=by
      rw [←aQ,xA a.1 b.2];omega
    rw [this,Bool.and_false]
theorem zm (xs:List Rw):(gD xs).length≤xs.length:=dH (vk _) (nH xs)
theorem sZ (n:Int):(gE n).length≤4:=by unfold gE;split <;> (try split) <;> (try split) <;> decide
theorem zn (n:Int):lZ (gE n)=true:=by unfold gE;split <;> (try split) <;> (try split) <;> decide+kernel
end
section
open Srt
def nd (cs:List ByteArray):Prop:=cs.length≤256∧∀c ∈ cs,c.size≤256
def Fw (cs:List ByteArray):Prop:=∀i:Nat,1≤i→i < cs.length→ef (nth cs (i:Int))=true
def jx (rows:List Rw):Prop:=∀r ∈ rows,r.1.size≤256∧r.2.size≤256
theorem jx.small {rows:List Rw} (h:jx rows):pk rows:=fun r hr=>⟨dH (h r hr).1 (by decide),dH (h r hr).2 (by decide)⟩
theorem jx.app {xs ys:List Rw} (h:jx xs) (h2:jx ys):jx (xs++ys):=fun r hr=>(List.mem_append.1 hr).elim (h r) (h2 r)
theorem jx.one {a b:ByteArray} (h:a.size≤256) (h2:b.size≤256):jx [(a,b)]:=fun r hr=>by
  simp at hr;subst hr;exact ⟨h,h2⟩
theorem jx.nil:jx []:=fun r hr=>by cases hr
theorem wR {xs:List Rw} (h:jx xs):jx (gD xs):=fun l hl=>by
  obtain ⟨⟨p,hp,e1⟩,r,hr,e2⟩:=(lA (S:=Fv xs) (xY fun _ hc=>hc)).2.2 l hl;rw [e1,e2];exact ⟨(h p (List.mem_filter.1 hp).1).1,(h r (List.mem_filter.1 hr).1).2⟩
theorem rZ (n:Int):jx (gE n):=by unfold gE;split <;> (try split) <;> (try split) <;> (unfold jx;decide)
theorem xZ {rows:List Rw} (h:jx rows):vh rows≤513 * (rows.length:Int):=by
  unfold vh;induction rows using fw with
  | h0 => simp [cZ]
  | h1 rows r ih =>
    rw [bT,bz,bU,eD,ci];have:=ih fun x hx=>h x (by simp [hx]);have:=h r (by simp);simp;omega
theorem cU {cs:List ByteArray} (h:nd cs) (i:Nat):(cO cs i).size≤256:=by
  unfold cO;split
  · exact ee _
  · exact h.2 _ (cP (by omega) (by omega))
theorem vH (c:ByteArray) (h:c.size≤256):(fG c).1.size≤256:=by
  unfold fG;repeat (split;exact (by decide))
  exact h
theorem nf {cs:List ByteArray} (h:nd cs) (i:Nat):jx (bI cs i).1∧(bI cs i).2.1.size≤256∧(bI cs i).1.length≤4∧(bI cs i).2.2.2≤i+2∧((bI cs i).2.2.1=true→i < (bI cs i).2.2.2∧(bI cs i).2.2.2≤cs.length):=by
  refine ⟨?_,?_,?_,?_,ut⟩ <;> unfold bI <;> (repeat' split)
  · exact jx.nil
  · exact jx.nil
  · exact rZ _
  · exact jx.nil
  · exact ee _
  · exact cU h i
  · exact ee _
  · exact vH _ (cU h _)
  · exact ee _
  · exact ee _
  · exact sZ _
  · exact ee _
  · simp
  · simp
  · simp
  · simp
theorem Dw (k:Int) (c:ByteArray) (h:(k=2∧ef c=true)∨((k=3∨k=8∨k=9∨k=10∨k=11)∧c=⟨#[]⟩)):gP (dt k c false 0 0 false)=true∧cm (dt k c false 0 0 false)=1∧eH (dt k c false 0 0 false)=0:=by
  refine ⟨?_,?_,?_⟩
  · rw [jA];have:cC (dt k c false 0 0 false)=true:=by
      rcases h with ⟨rfl,h⟩ | ⟨h,rfl⟩
      · simp [cC,dt,jP,iI,h]
      · rcases h with rfl | rfl | rfl | rfl | rfl <;> simp [cC,dt,ly,jP,iI]
    rw [this];rfl
  · rw [gJ];rfl
  · rw [lp];have:oM (dt k c false 0 0 false)=false:=by
      unfold oM dt;rcases h with ⟨rfl,h⟩ | ⟨h,rfl⟩
      · rfl
      · rcases h with rfl | rfl | rfl | rfl | rfl <;> rfl
    rw [this];rfl
theorem Bj (ng:Bool) (rows:List Rw) (h:lZ rows=true):gP (nc ng Sv.nil rows)=true∧cm (nc ng Sv.nil rows)=1∧eH (nc ng Sv.nil rows)=0∧fy (nc ng Sv.nil rows)=1+vh rows:=by
  refine ⟨?_,?_,?_,?_⟩
  · rw [jA];have:cC (nc ng Sv.nil rows)=true:=by simp [cC,nc,jP,iI,h]
    rw [this];rfl
  · rw [gJ];rfl
  · rw [lp];rfl
  · rw [kO];have:((⟨#[]⟩:ByteArray).size:Int)=0:=rfl;simp [nc,cZ,this]
theorem EG (k:Int) (mn mx:Int) (lz:Bool) (x:Tr):cm (fX k ⟨#[]⟩ false mn mx lz Sv.nil [x])=1+cm x∧eH (fX k ⟨#[]⟩ false mn mx lz Sv.nil [x])=max 0 (eH x)+(if k=5∨k=6 then 1 else 0)∧fy (fX k ⟨#[]⟩ false mn mx lz Sv.nil [x])=1+fy x:=by
  refine ⟨?_,?_,?_⟩
  · rw [gJ];simp [fX,cZ]
  · rw [lp];have:(oM (fX k ⟨#[]⟩ false mn mx lz Sv.nil [x])=true)↔(k=5∨k=6):=by unfold oM fX;simp
    simp only [this];simp [fX,kN]
  · rw [CY];have:((⟨#[]⟩:ByteArray).size:Int)=0:=rfl;simp [cZ,this]
theorem Fx {k:Int} {x:Tr} (hk:k=5∨k=6) (h:gP x=true):gP (fX k ⟨#[]⟩ false 0 0 false Sv.nil [x])=true:=by
  rw [jA];have:cC (fX k ⟨#[]⟩ false 0 0 false Sv.nil [x])=true:=by
    rcases hk with rfl | rfl <;> simp [cC,fX,ly,jP,iI]
  rw [this];simp [fX,h]
theorem Fy {x:Tr} {mn mx:Int} {lz:Bool} (h:gP x=true) (hk:x.k=2∨x.k=3∨x.k=4∨x.k=5∨x.k=6) (h0:0≤mn∧mn≤255) (h1:mx= -1∨(mn≤mx∧mx≤255)):gP (Be x mn mx lz)=true:=by
  rw [jA];have hn:(nth [x] 0).k=x.k:=rfl;have:cC (Be x mn mx lz)=true:=by
    have hr:oP x.k=true:=by unfold oP;rcases hk with h | h | h | h | h <;> simp [h]
    have h5:(decide (mx= -1) || (decide (mn≤mx)&&decide (mx≤255)))=true:=by
      rw [aN,aw,ai,ai,ai];exact h1
    have h6:cC (Be x mn mx lz)=(((((jP ⟨#[]⟩ false [] 0 0 false&&decide (([x].length:Int)=1))&&oP (nth [x] 0).k)&&decide (0≤mn))&&decide (mn≤255))&&(decide (mx= -1) || (decide (mn≤mx)&&decide (mx≤255)))):=rfl;rw [h6,h5,hn,hr,decide_eq_true h0.1,decide_eq_true h0.2];simp [jP,iI]
  rw [this];simp [Be,fX,h]
theorem vI (k:Int) (ks:List Tr):cm (nq k ks)=1+cZ (ks.map cm):=gJ _
theorem ya (k:Int) (ks:List Tr) (hk:k=0∨k=1):eH (nq k ks)=kN (ks.map eH):=by
  rw [lp];have:oM (nq k ks)=false:=by unfold oM nq;rcases hk with rfl | rfl <;> rfl
  rw [this];simp [nq]
theorem Dx {ks:List Tr} (h:∀x ∈ ks,gP x=true∧x.k≠0∧x.k≠1) (hl:ks.length≠1):gP (nq 0 ks)=true:=by
  rw [jA];have h1:ks.all gP=true:=cY.2 fun x hx=>(h x hx).1;have h2:oz (nq 0 ks) [0,1]=false:=by
    rw [pQ,jW];intro x hx;have:=h x hx;simp [this.2.1,this.2.2]
  have:cC (nq 0 ks)=true:=by
    unfold cC;rw [show (nq 0 ks).k=0 from rfl,if_neg (by decide),if_neg (by decide),if_neg (by decide),if_pos rfl,h2];have:ly (nq 0 ks)=true:=by unfold ly jP nq;simp [iI]
    have hl':decide (((nq 0 ks).kids.length:Int)=1)=false:=decide_eq_false (by show ¬(ks.length:Int)=1;omega);rw [this,hl'];rfl
  rw [this];simp [nq,h1]
theorem Dy {ks:List Tr} (h:∀x ∈ ks,gP x=true∧x.k≠1) (hl:2≤ks.length):gP (nq 1 ks)=true:=by
  rw [jA];have h1:ks.all gP=true:=cY.2 fun x hx=>(h x hx).1;have h2:oz (nq 1 ks) [1]=false:=by
    rw [pR,jW];intro x hx;have:=h x hx;simp [this.2]
  have:cC (nq 1 ks)=true:=by
    unfold cC;rw [show (nq 1 ks).k=1 from rfl,if_neg (by decide),if_neg (by decide),if_neg (by decide),if_neg (by decide),if_pos rfl,h2];have:ly (nq 1 ks)=true:=by unfold ly jP nq;simp [iI]
    rw [this];have hl':decide ((1:Int) < ((nq 1 ks).kids.length:Int))=true:=decide_eq_true (by show (1:Int) < (ks.length:Int);omega);rw [hl'];rfl
  rw [this];simp [nq,h1]
theorem yb {k:Int} {l:List Tr} (h:∀x ∈ l,x.k≠k):iq k l=l:=by
  induction l with
  | nil => rfl
  | cons x l ih =>
    unfold iq at ih ⊢;rw [List.flatMap_cons,if_neg (h x (by simp)),ih fun y hy=>h y (by simp [hy])];rfl
structure TermOk (x:Tr) (n d:Int):Prop where
  wt:fy x≤2200 * n
  parts:cm x≤2 * n
  deep:eH x≤16 - d
  all:gP x=true
  k:x.k≠0∧x.k≠1
structure PatOk (x:Tr) (n d:Int):Prop where
  wt:fy x≤2200 * n+2
  parts:cm x≤2 * n+1
  deep:eH x≤16 - d
  all:gP x=true
theorem vJ {l:List Tr} {n:Int} (h0:0≤n) (h:∀x ∈ l,eH x≤n):kN (l.map eH)≤n:=qB h0 fun y hy=>by
  obtain ⟨x,hx,rfl⟩:=List.mem_map.1 hy;exact h x hx
theorem sc {ts:List Tr} {d:Int} (hd:d≤16) (h:∀x ∈ ts,gP x=true∧x.k≠0∧x.k≠1∧eH x≤16 - d):gP (lq ts)=true∧(lq ts).k≠1∧eH (lq ts)≤16 - d∧cm (lq ts)≤1+cZ (ts.map cm):=by
  have hid:=yb (k:=0) (l:=ts) fun x hx=>(h x hx).2.1;unfold lq;rw [hid];have many:ts.length≠1→gP (nq 0 ts)=true∧(nq 0 ts).k≠1∧eH (nq 0 ts)≤16 - d∧cm (nq 0 ts)≤1+cZ (ts.map cm):=fun hl=>
    ⟨Dx (fun x hx=>⟨(h x hx).1,(h x hx).2.1,(h x hx).2.2.1⟩) hl,by show (0:Int)≠1;decide,by rw [ya _ _ (.inl rfl)];exact vJ (by omega) fun x hx=>(h x hx).2.2.2,by rw [vI];omega⟩
  match ts,h,many with
  | [], h, many => exact many (by decide)
  | [x], h, _ => exact ⟨(h x (by simp)).1, (h x (by simp)).2.2.1, (h x (by simp)).2.2.2, by simp [cZ]; omega⟩
  | x :: y :: l, h, many => exact many (by simp)
theorem zp {ts:List Tr} {d:Int} (hd:d≤16) (hne:ts≠ []) (h:∀x ∈ ts,gP x=true∧x.k≠1∧eH x≤16 - d):gP (mj ts)=true∧eH (mj ts)≤16 - d∧(ts.length=1→cm (mj ts)=cZ (ts.map cm))∧cm (mj ts)≤1+cZ (ts.map cm):=by
  have hid:=yb (k:=1) (l:=ts) fun x hx=>(h x hx).2.1;unfold mj;rw [hid];match ts,hne,h with
  | [x], _, h => exact ⟨(h x (by simp)).1, (h x (by simp)).2.2, fun _ => by simp [cZ], by simp [cZ]; omega⟩
  | x :: y :: l, _, h =>
    refine ⟨Dy (fun z hz=>⟨(h z hz).1,(h z hz).2.1⟩) (by simp),?_,fun e=>by simp at e,by show cm (nq 1 _)≤_;rw [vI];omega⟩;show eH (nq 1 _)≤_;rw [ya _ _ (.inr rfl)];exact vJ (by omega) fun z hz=>(h z hz).2.2
theorem Dz {cs:List ByteArray} {i:Nat} (h:i < cs.length):cO cs i=nth cs (i:Int):=by unfold cO;rw [if_neg (by omega)]
theorem wS {c:ByteArray} (h:(fG c).2=true) (hp:ef c=true):ef (fG c).1=true:=by
  unfold fG at h ⊢;split at h
  · cases h
  · rename_i h1;rw [if_neg h1];split at h
    · rename_i h2;rw [if_pos h2];decide+kernel
    · rename_i h2;rw [if_neg h2];split at h
      · rename_i h3;rw [if_pos h3];decide+kernel
      · rename_i h3;rw [if_neg h3];split at h
        · rename_i h4;rw [if_pos h4];decide+kernel
        · rename_i h4;rw [if_neg h4];split at h
          · rename_i h5;rw [if_pos h5];decide+kernel
          · rename_i h5;rw [if_neg h5];split at h
            · rename_i h6;rw [if_pos h6];decide+kernel
            · rename_i h6;rw [if_neg h6];split at h
              · cases h
              · rename_i h7;rw [if_neg h7];exact hp
theorem Bk {r:Int × Nat × Nat} (h:jw r=true):r.1≤255:=by
  unfold jw at h;simp at h;omega
theorem qM {cs:List ByteArray} {x:Tr} {j:Nat} {mn mx:Int} (h:gP x=true) (hk:x.k=2∨x.k=3∨x.k=4∨x.k=5∨x.k=6) (h0:0≤mn∧mn≤255) (h1:mx= -1∨(mn≤mx∧mx≤255)):gP (kR cs x j mn mx).1=true∧(kR cs x j mn mx).1.k=7∧cm (kR cs x j mn mx).1=1+cm x∧eH (kR cs x j mn mx).1=max 0 (eH x)∧fy (kR cs x j mn mx).1=1+fy x:=by
  obtain ⟨a,b,c⟩:=EG 7 mn mx (eU cs j ⟨#[63]⟩) x;exact ⟨Fy h hk h0 h1,rfl,a,by have:=b;rw [if_neg (by decide),Int.add_zero] at this;exact this,c⟩
theorem uA {cs:List ByteArray} {x:Tr} {mn mx:Int} {ok:Bool} {j:Nat} (he:(ma cs x mn mx ok j).2.1=0) (h:gP x=true) (hk:x.k=2∨x.k=3∨x.k=4∨x.k=5∨x.k=6) (h0:0≤mn∧mn≤255) (h1:ok=true→mx≤255) (h2: -1≤mx):gP (ma cs x mn mx ok j).1=true∧(ma cs x mn mx ok j).1.k=7∧cm (ma cs x mn mx ok j).1=1+cm x∧eH (ma cs x mn mx ok j).1=max 0 (eH x)∧fy (ma cs x mn mx ok j).1=1+fy x∧j < (ma cs x mn mx ok j).2.2:=by
  have hle:=uv he;unfold ma at he hle ⊢;split at he
  · cases he
  · rename_i g1;rw [if_neg g1];rw [if_neg g1] at hle;split at he
    · cases he
    · rename_i g2;rw [if_neg g2];rw [if_neg g2] at hle;split at he
      · cases he
      · rename_i g3;rw [if_neg g3];have hl:=oi cs x (j+1) mn mx;simp only [aw,aB,ah,ai,not_and,aX] at g3;obtain ⟨a,b,c,d,e⟩:=qM (cs:=cs) (j:=j+1) h hk h0 (mx:=mx) (by
          have:=h1 (by simpa using g1);by_cases hm:mx= -1
          · exact .inl hm
          · exact .inr ⟨g3 hm,this⟩)
        exact ⟨a,b,c,d,e,by omega⟩
theorem zq {cs:List ByteArray} {x:Tr} {i:Nat} {n d:Int} (hd:d≤16) (he:(dZ cs x i).2.1=0) (h:TermOk x n d) (hn:1≤n) (hk:x.k=2∨x.k=3∨x.k=4∨x.k=5∨x.k=6):TermOk (dZ cs x i).1 (n+((dZ cs x i).2.2 - i)) d:=by
  have fin:∀{y:Tr} {p:Nat},gP y=true∧y.k=7∧cm y=1+cm x∧eH y=max 0 (eH x)∧fy y=1+fy x→i < p→TermOk y (n+(p - i)) d:=fun {y p} ⟨a,b,c,e,f⟩ hp=>by
    have:=h.wt;have:=h.parts;have:=h.deep;exact ⟨by omega,by omega,by omega,a,by rw [b];decide⟩
  unfold dZ at he ⊢;split
  · have hl:=oi cs x (i+1) 0 (-1);exact fin (qM h.all hk (by decide) (.inl rfl)) (by omega)
  · split
    · have hl:=oi cs x (i+1) 1 (-1);exact fin (qM h.all hk (by decide) (.inl rfl)) (by omega)
    · split
      · have hl:=oi cs x (i+1) 0 1;exact fin (qM h.all hk (by decide) (.inr (by decide))) (by omega)
      · split
        · rename_i g1 g2 g3 g4;rw [if_neg g1,if_neg g2,if_neg g3,if_pos g4] at he;have a2:=uu cs (i+1);have a3:=uo cs (i+1);split
          · rename_i g5;rw [if_pos g5] at he;cases he
          · rename_i g5;rw [if_neg g5] at he;have b1:=Bk (by simpa using g5);split
            · rename_i g6;rw [if_pos g6] at he;have a4:=uu cs ((cq cs (i+1)).2.2+1);have a5:=uo cs ((cq cs (i+1)).2.2+1);split
              · rename_i g7;rw [if_pos g7] at he;obtain ⟨a,b,c,e,f,g⟩:=uA he h.all hk ⟨by omega,b1⟩ (fun hh=>Bk hh) (by omega);exact fin ⟨a,b,c,e,f⟩ (by omega)
              · rename_i g7;rw [if_neg g7] at he;obtain ⟨a,b,c,e,f,g⟩:=uA he h.all hk ⟨by omega,b1⟩ (fun _=>by omega) (by omega);exact fin ⟨a,b,c,e,f⟩ (by omega)
            · rename_i g6;rw [if_neg g6] at he;obtain ⟨a,b,c,e,f,g⟩:=uA he h.all hk ⟨by omega,b1⟩ (fun _=>by omega) (by omega);exact fin ⟨a,b,c,e,f⟩ (by omega)
        · have e1:n+((i:Nat) - (i:Int))=n:=by omega
          rw [e1];exact h
theorem pw {cs:List ByteArray} (h:nd cs) {ng:Bool}:∀(f i:Nat) (rows:List Rw),jx rows→(jh cs ng f i rows).2.1=0→∃rs,(jh cs ng f i rows).1=nc ng Sv.nil (gD rs)∧jx rs∧(rs.length:Int)+4 * i≤(rows.length:Int)+4 * (jh cs ng f i rows).2.2
  | 0, i, rows, _, he => by cases he
  | f + 1, i, rows, ht, he => by
    rw [jh] at he ⊢;split
    · exact ⟨rows,rfl,ht,by simp;omega⟩
    · rename_i g1;rw [if_neg g1] at he;split
      · rename_i g2;rw [if_pos g2] at he;cases he
      · rename_i g2;rw [if_neg g2] at he;have a1:=nf h i;have a2:=a1.2.2.2.2 (by simpa using g2);split
        · rename_i g3;rw [if_pos g3] at he;obtain ⟨rs,b1,b2,b3⟩:=pw h f _ _ (ht.app a1.1) he;refine ⟨rs,b1,b2,?_⟩;rw [ci] at b3;have:=a1.2.2.1;omega
        · rename_i g3;rw [if_neg g3] at he;split
          · rename_i g4;rw [if_pos g4] at he;split
            · rename_i g5;rw [if_pos g5] at he;cases he
            · rename_i g5;rw [if_neg g5] at he;have a3:=nf h ((bI cs i).2.2.2+1);have g6:(bI cs ((bI cs i).2.2.2+1)).2.2.1=true:=by
                rw [aQ,aG,aG,az] at g5;exact g5.1.1
              have a4:=a3.2.2.2.2 g6;obtain ⟨rs,b1,b2,b3⟩:=pw h f _ _ (ht.app (jx.one a1.2.1 a3.2.1)) he;refine ⟨rs,b1,b2,?_⟩;rw [ci] at b3;simp at b3;omega
          · rename_i g4;rw [if_neg g4] at he;obtain ⟨rs,b1,b2,b3⟩:=pw h f _ _ (ht.app (jx.one a1.2.1 a1.2.1)) he;refine ⟨rs,b1,b2,?_⟩;rw [ci] at b3;simp at b3;omega
def sd (x:Tr) (n d:Int):Prop:=TermOk x n d∧(x.k=2∨x.k=3∨x.k=4∨x.k=5∨x.k=6)
theorem ku {k:Int} {c:ByteArray} {n d:Int} (hn:1≤n) (hd:d≤16) (h:(k=2∧ef c=true∧c.size≤256)∨((k=3∨k=8∨k=9∨k=10∨k=11)∧c=⟨#[]⟩)):TermOk (dt k c false 0 0 false) n d:=by
  obtain ⟨a,b,e⟩:=Dw k c (h.imp (fun h=>⟨h.1,h.2.1⟩) id);refine ⟨?_,by omega,by omega,a,?_⟩
  · rw [CX];rcases h with ⟨_,_,h⟩ | ⟨_,rfl⟩
    · omega
    · have:((⟨#[]⟩:ByteArray).size:Int)=0:=rfl;omega
  · unfold dt;simp only [];omega
theorem DA {cs:List ByteArray} (h:nd cs) {i:Nat} {n d:Int} (hd:d≤16) (he:(kr cs i).2.1=0) (hn:(kr cs i).2.2 - (i:Int)≤n):sd (kr cs i).1 n d:=by
  have a1:=wQ he;have a2:=uq cs i (⟨#[94]⟩:ByteArray);unfold kr at he hn a1 ⊢;obtain ⟨rs,b1,b2,b3⟩:=pw h _ _ _ jx.nil he;rw [b1];obtain ⟨c1,c2,c3,c4⟩:=Bj (eU cs i ⟨#[94]⟩) (gD rs) (uz rs);have c5:=xZ (wR b2);have c6:=zm rs;simp at b3;exact ⟨⟨by omega,by omega,by omega,c1,by show (4:Int)≠0∧(4:Int)≠1;decide⟩,.inr (.inr (.inl rfl))⟩
theorem Bl {cs:List ByteArray} (h:nd cs) (hp:Fw cs) {i:Nat} {n d:Int} (hi:1≤i) (hd:d≤16) (he:(gS cs i).2.1=0) (hn:1≤n):sd (gS cs i).1 n d:=by
  have a1:=uw he;unfold gS at he ⊢;split
  · rename_i g1;obtain ⟨c1,c2,c3,c4⟩:=Bj (!(iI (cO cs i) (fU (cO cs i)))) (gE (ca (fU (cO cs i)) 0)) (zn _);have c5:=xZ (rZ (ca (fU (cO cs i)) 0));have c6:=sZ (ca (fU (cO cs i)) 0);exact (show sd (nc (!(iI (cO cs i) (fU (cO cs i)))) Sv.nil (gE (ca (fU (cO cs i)) 0))) n d from ⟨⟨by omega,by omega,by omega,c1,by show (4:Int)≠0∧(4:Int)≠1;decide⟩,.inr (.inr (.inl rfl))⟩)
  · rename_i g1;rw [if_neg g1] at he;split
    · rename_i g2;rw [if_pos g2] at he;cases he
    · rename_i g2;have hne:=na (wP (by simpa using g2));have hpr:ef (cO cs i)=true:=by rw [Dz hne];exact hp i hi hne
      exact ⟨ku hn hd (.inl ⟨rfl,wS (by simpa using g2) hpr,vH _ (cU h i)⟩),.inl rfl⟩
def Bm (cs:List ByteArray) (sub:Int→Nat→Tr × Int × Nat):Prop:=∀(d2:Int) (j:Nat),d2≤16→(sub d2 j).2.1=0→PatOk (sub d2 j).1 ((sub d2 j).2.2 - (j:Int)) d2
theorem Bn {sub:Int→Nat→Tr × Int × Nat} {cs:List ByteArray} {d:Int} {i:Nat} (h:nd cs) (hp:Fw cs) (hs:sY cs sub) (ho:Bm cs sub) (hd:d≤16) (he:(dO sub cs d i).2.1=0):sd (dO sub cs d i).1 ((dO sub cs d i).2.2 - (i:Int)) d:=by
  have grp:∀{k:Int} {x:Tr} {m n:Int},(k=5∨k=6)→PatOk x m (d+1)→0≤m→m+2≤n→sd (fX k ⟨#[]⟩ false 0 0 false Sv.nil [x]) n d:=fun {k x m n} hk hx h0 hmn=>by
    obtain ⟨a,b,c⟩:=EG k 0 0 false x;have h1:=hx.wt;have h2:=hx.parts;have h3:=hx.deep;have h4:=(qh x).1;rw [if_pos hk] at b;refine ⟨⟨by omega,by omega,by omega,Fx hk hx.all,?_⟩,?_⟩
    · show k≠0∧k≠1;omega
    · show k=2∨k=3∨k=4∨k=5∨k=6;omega
  have hle:=qJ hs he;unfold dO at he hle ⊢;split
  · exact ⟨ku (by simp;omega) hd (.inr ⟨.inl rfl,rfl⟩),.inr (.inl rfl)⟩
  · rename_i g1;rw [if_neg g1] at he hle;split
    · rename_i g2;rw [if_pos g2] at he hle;split
      · rename_i g3;rw [if_pos g3] at he;cases he
      · rename_i g3;rw [if_neg g3] at he hle;split
        · rename_i g4;rw [if_pos g4] at he hle;split
          · rename_i g5;rw [if_pos g5] at he;cases he
          · rename_i g5;rw [if_neg g5] at he hle;split
            · rename_i g6;rw [if_pos g6] at he;exact absurd he g6
            · rename_i g6;rw [if_neg g6] at he hle;split
              · rename_i g7;rw [if_pos g7] at he;cases he
              · rename_i g7;rw [if_neg g7] at hle;have e6:(sub (d+1) (i+3)).2.1=0:=Classical.byContradiction g6;have a4:=hs (d+1) (i+3) e6;exact grp (.inr rfl) (ho (d+1) (i+3) (by omega) e6) (by omega) (by simp;omega)
        · rename_i g4;rw [if_neg g4] at he hle;split
          · rename_i g6;rw [if_pos g6] at he;exact absurd he g6
          · rename_i g6;rw [if_neg g6] at he hle;split
            · rename_i g7;rw [if_pos g7] at he;cases he
            · rename_i g7;rw [if_neg g7] at hle;have e6:(sub (d+1) (i+1)).2.1=0:=Classical.byContradiction g6;have a4:=hs (d+1) (i+1) e6;exact grp (.inl rfl) (ho (d+1) (i+1) (by omega) e6) (by omega) (by simp;omega)
    · rename_i g2;rw [if_neg g2] at he hle;split
      · rename_i g3;rw [if_pos g3] at he hle;have:=wQ he;exact DA h hd he (by omega)
      · rename_i g3;rw [if_neg g3] at he hle;split
        · rename_i g4;rw [if_pos g4] at he hle;have:=uw he;exact Bl h hp (by omega) hd he (by omega)
        · rename_i g4;rw [if_neg g4] at he hle;split
          · rename_i g5;rw [if_pos g5] at he;cases he
          · rename_i g5;have hpr:ef (cO cs i)=true:=by
              unfold Ft at g5;simp only [aN,not_or,aQ,az] at g5;exact g5.2
            exact ⟨ku (by simp;omega) hd (.inl ⟨rfl,hpr,cU h i⟩),.inl rfl⟩
theorem vK {sub:Int→Nat→Tr × Int × Nat} {cs:List ByteArray} {d:Int} {i:Nat} (h:nd cs) (hp:Fw cs) (hs:sY cs sub) (ho:Bm cs sub) (hd:d≤16) (he:(fc sub cs d i).2.1=0):TermOk (fc sub cs d i).1 ((fc sub cs d i).2.2 - (i:Int)) d:=by
  unfold fc at he ⊢;split
  · exact ku (by simp;omega) hd (.inr ⟨by decide,rfl⟩)
  · rename_i g1;rw [if_neg g1] at he;split
    · exact ku (by simp;omega) hd (.inr ⟨by decide,rfl⟩)
    · rename_i g2;rw [if_neg g2] at he;split
      · exact ku (by simp;omega) hd (.inr ⟨by decide,rfl⟩)
      · rename_i g3;rw [if_neg g3] at he;split
        · exact ku (by simp;omega) hd (.inr ⟨by decide,rfl⟩)
        · rename_i g4;rw [if_neg g4] at he;split
          · rename_i g5;rw [if_pos g5] at he;exact absurd he g5
          · rename_i g5;rw [if_neg g5] at he;have e5:(dO sub cs d i).2.1=0:=Classical.byContradiction g5;have a1:=qJ hs e5;have a2:=Bn h hp hs ho hd e5;have a3:=zq hd he a2.1 (by omega) a2.2;have e:((dO sub cs d i).2.2 - (i:Int))+((dZ cs (dO sub cs d i).1 (dO sub cs d i).2.2).2.2 - ((dO sub cs d i).2.2:Int))=(dZ cs (dO sub cs d i).1 (dO sub cs d i).2.2).2.2 - (i:Int):=by omega
            rw [e] at a3;exact a3
structure SoFar (alts terms:List Tr) (i0 i:Nat) (d:Int):Prop where
  at':∀x ∈ alts,gP x=true∧x.k≠1∧eH x≤16 - d
  tt:∀x ∈ terms,gP x=true∧x.k≠0∧x.k≠1∧eH x≤16 - d
  le:i0≤i
  parts:cZ (alts.map cm)+cZ (terms.map cm)+(if alts=[] then 0 else 1)≤2 * ((i:Int) - i0)
  wt:cZ (alts.map fy)+cZ (terms.map fy)≤2200 * ((i:Int) - i0)
theorem SoFar.start (i:Nat) (d:Int):SoFar [] [] i i d:=⟨fun x hx=>(by cases hx),fun x hx=>(by cases hx),br _,(by simp [cZ]),(by simp [cZ])⟩
theorem SoFar.term {alts terms:List Tr} {i0 i j:Nat} {d:Int} {x:Tr} (h:SoFar alts terms i0 i d) (hx:TermOk x ((j:Int) - i) d) (hj:i≤j):SoFar alts (terms++ [x]) i0 j d:=by
  refine ⟨h.at',fun y hy=> ?_,by have:=h.le;omega,?_,?_⟩
  · rcases List.mem_append.1 hy with hy | hy
    · exact h.tt y hy
    · simp at hy;subst hy;exact ⟨hx.all,hx.k.1,hx.k.2,hx.deep⟩
  · have:=h.parts;have:=hx.parts;rw [bT,bz,bU,eD];omega
  · have:=h.wt;have:=hx.wt;rw [bT,bz,bU,eD];omega
theorem SoFar.alt {alts terms:List Tr} {i0 i:Nat} {d:Int} (h:SoFar alts terms i0 i d) (hd:d≤16):SoFar (alts++ [lq terms]) [] i0 (i+1) d:=by
  obtain ⟨a,b,c,e⟩:=sc hd h.tt;have hw:=wB terms;refine ⟨fun y hy=> ?_,fun x hx=>(by cases hx),(by have:=h.le;omega),?_,?_⟩
  · rcases List.mem_append.1 hy with hy | hy
    · exact h.at' y hy
    · simp at hy;subst hy;exact ⟨a,b,c⟩
  · have:=h.parts;rw [bT,bz,bU,eD,if_neg (by simp)];rw [kH];split at this <;> omega
  · have:=h.wt;rw [bT,bz,bU,eD];rw [kH];omega
theorem SoFar.fin {alts terms:List Tr} {i0 i:Nat} {d:Int} (h:SoFar alts terms i0 i d) (hd:d≤16):PatOk (mj (alts++ [lq terms])) ((i:Int) - i0) d:=by
  obtain ⟨a,b,c,e⟩:=sc hd h.tt;have hw:=wB terms;have hw2:=Ay (alts++ [lq terms]);have hall:∀x ∈ alts++ [lq terms],gP x=true∧x.k≠1∧eH x≤16 - d:=fun y hy=>by
    rcases List.mem_append.1 hy with hy | hy
    · exact h.at' y hy
    · simp at hy;subst hy;exact ⟨a,b,c⟩
  obtain ⟨f1,f2,f3,f4⟩:=zp hd (by simp) hall;have hp:=h.parts;have hwt:=h.wt;rw [bT,bz,bU,eD] at f4 hw2;refine ⟨by omega,?_,f2,f1⟩;by_cases hn:alts=[]
  · subst hn;have:=f3 (by simp);rw [gu] at this ⊢
    rw [bz,bU,jO,kH] at this
    rw [bU,kH,if_pos rfl] at hp;omega
  · rw [if_neg hn] at hp;omega
theorem qN {cs:List ByteArray} (h:nd cs) (hp:Fw cs):∀(f:Nat) (d:Int) (i0 i:Nat) (alts terms:List Tr),d≤16→SoFar alts terms i0 i d→(eN cs f d i alts terms).2.1=0→PatOk (eN cs f d i alts terms).1 ((eN cs f d i alts terms).2.2 - (i0:Int)) d
  | 0, d, i0, i, alts, terms, _, _, he => by cases he
  | f + 1, d, i0, i, alts, terms, hd, hso, he => by
    have hs:sY cs fun d j=>eN cs f d j [] []:=fun d j hh=>oQ cs f d j [] [] hh;have ho:Bm cs fun d j=>eN cs f d j [] []:=fun d j hd hh=>qN h hp f d j j [] [] hd (SoFar.start j d) hh;rw [eN] at he ⊢;split
    · rename_i g1;rw [if_pos g1] at he;split
      · rename_i g2;rw [if_pos g2] at he;exact absurd he g2
      · rename_i g2;rw [if_neg g2] at he;have e2:(fc (fun d j=>eN cs f d j [] []) cs d i).2.1=0:=Classical.byContradiction g2;have a1:=ux hs e2;have a2:=vK h hp hs ho hd e2;exact qN h hp f d i0 _ _ _ hd (hso.term a2 (by omega)) he
    · rename_i g1;rw [if_neg g1] at he;split
      · rename_i g2;rw [if_pos g2] at he;exact qN h hp f d i0 _ _ _ hd (hso.alt hd) he
      · exact hso.fin hd
end
section
open Go.RowKit
open Srt
set_option maxRecDepth 100000 in
theorem uB (b:Int) (w:World):Calls Tryz.prog 132 #[.int .u8 b] w (fun e w'=>e= .returned (aA (kq b))∧Ext bc w w'):=by
 refine enter (n:=9) Tryz.func132 rfl rfl (av rfl) ?_;intro a0 τ0 ha st0;have e0:=np ha;refine wp_seq (eB st0 [] ⟨am fun c=>ar rfl rfl,ax⟩ fun ac ag ae ab aa=> ?_);replace e0:=aa.k1 e0;have e2:=aa.V 0;refine wp_seq (wh ab [] ⟨ao e0,am fun c=>fW rfl (c.q 0) rfl,bm 1,aE 2 rfl fun c hpc=>aJ rfl (c.p e0),aE 2 rfl fun c hpc=>ki rfl (c.M 3 hpc) rfl,bK 2 4,aF 5,ax⟩ fun ac ag ae ab aa=> ?_);have e2:=aa.V 6;refine wp_ret ?_;refine rp ?_;refine cH (fn:=Tryz.f132) rfl ab.defers e2 ?_;exact ⟨rfl,ab.ext0⟩
set_option maxRecDepth 100000 in
theorem vL (b:Int) (w:World):Calls Tryz.prog 144 #[.int .u8 b] w (fun e w'=>e= .returned (aA (um b))∧Ext bc w w'):=by
 refine enter (n:=17) Tryz.func144 rfl rfl (av rfl) ?_;intro a0 τ0 ha st0;have e0:=np ha;refine wp_seq (eB st0 [] ⟨am fun c=>ar rfl rfl,ax⟩ fun ac ag ae ab aa=> ?_);replace e0:=aa.k1 e0;have e2:=aa.V 0;refine wp_seq (rg [_,_,_,_,_,_,_,_,_,_,_,_,_,_,_] [0,1,3,7,15,31,63,127,255,511,1023,2047,4095,8191,16383] ab [] ⟨ao e0,am fun c=>fW rfl (c.q 0) rfl,bm 1,aE 2 rfl fun c hpc=>aJ rfl (c.p e0),aE 2 rfl fun c hpc=>ki rfl (c.M 3 hpc) rfl,bK 2 4,bm 5,bo 6 rfl fun c hpc=>aJ rfl (c.p e0),bo 6 rfl fun c hpc=>fW rfl (c.M 7 hpc) rfl,bo 6 rfl fun c hpc=>aJ rfl (c.M 8 hpc),cF 9 true rfl fun c hpc=>aJ rfl (c.p e0),cF 9 true rfl fun c hpc=>ki rfl (c.M 10 hpc) rfl,bo 6 rfl fun c hpc=>lG rfl (c.M 9 hpc) (fun h=>c.m 11 rfl (And.intro hpc h)),dD 6 12,aF 13,ax⟩ fun ac ag ae ab aa=> ?_);have e2:=aa.V 14;refine wp_ret ?_;refine rp ?_;refine cH (fn:=Tryz.f144) rfl ab.defers e2 ?_;exact ⟨rfl,ab.ext0⟩
set_option maxRecDepth 100000 in
theorem yc (s:ByteArray) (w:World):Calls Tryz.prog 131 #[(aR s)] w (fun e w'=>e= .returned (.tuple #[aR (fG s).1,aA (fG s).2])∧Ext bc w w'):=by
 refine enter (n:=31) Tryz.func131 rfl rfl (av rfl) ?_;intro a0 τ0 ha st0;have e0:=np ha;refine wp_seq (eC st0 [] ⟨am fun c=>ar rfl rfl,am fun c=>ar rfl rfl,ax⟩ fun ac ag ae ab aa=> ?_);replace e0:=aa.k1 e0;have e2:=aa.V 0;have e3:=aa.V 1;refine wp_seq ?_;refine wp_seq (eB ab [] ⟨ao e0,ax⟩ fun ac ag ae ab aa=> ?_);obtain ⟨e0,e2,e3⟩:=aa.k3 e0 e2 e3;have e4:=aa.V 0;refine wp_block ?_;refine wp_seq (eC ab [] ⟨am fun c=>gn rfl (c.p e4) rfl,aF 0,ax⟩ fun ac ag ae ab aa=> ?_);obtain ⟨e0,e2,e3,e4⟩:=aa.k4 e0 e2 e3 e4;have e5:=aa.V 1;refine wp_cond_split e5 (fun hc1=> ?_) (fun hc1=> ?_)
 · have hd1:=hc1;skip;refine wp_seq (eC ab [] ⟨am fun c=>ar rfl rfl,am fun c=>ar rfl rfl,ax⟩ fun ac ag ae ab aa=> ?_);obtain ⟨e0,e4⟩:=aa.k2 e0 e4;have e2:=aa.V 0;have e3:=aa.V 1;refine wp_ret ?_;refine rp ?_;refine jE (fn:=Tryz.f131) rfl ab.defers e2 e3 ?_;exact ⟨congrArg _ (show (Value.tuple #[(aR (⟨#[]⟩:ByteArray)),(aA false)])= .tuple #[aR (fG s).1,aA (fG s).2] from by rw [show fG s=((⟨#[]⟩:ByteArray),false) from (by unfold fG;(repeat (first | rw [if_neg (by first | assumption | (simp only [aQ];assumption) | (simp only [aU];assumption))] | rw [if_pos (by assumption)])))]),ab.ext0⟩
 have hd1:=hc1;skip;refine wp_seq (eC ab [] ⟨am fun c=>gn rfl (c.p e4) rfl,aF 0,ax⟩ fun ac ag ae ab aa=> ?_);obtain ⟨e0,e2,e3,e4⟩:=aa.k4 e0 e2 e3 e4;have e7:=aa.V 1;refine wp_cond_split e7 (fun hc2=> ?_) (fun hc2=> ?_)
 · have hd2:=hc2;skip;refine wp_seq (eC ab [] ⟨am fun c=>ar rfl rfl,am fun c=>ar rfl rfl,ax⟩ fun ac ag ae ab aa=> ?_);obtain ⟨e0,e4⟩:=aa.k2 e0 e4;have e2:=aa.V 0;have e3:=aa.V 1;refine wp_ret ?_;refine rp ?_;refine jE (fn:=Tryz.f131) rfl ab.defers e2 e3 ?_;exact ⟨congrArg _ (show (Value.tuple #[(aR (⟨#[10]⟩:ByteArray)),(aA true)])= .tuple #[aR (fG s).1,aA (fG s).2] from by rw [show fG s=((⟨#[10]⟩:ByteArray),true) from (by unfold fG;(repeat (first | rw [if_neg (by first | assumption | (simp only [aQ];assumption) | (simp only [aU];assumption))] | rw [if_pos (by assumption)])))]),ab.ext0⟩
 have hd2:=hc2;skip;refine wp_seq (eC ab [] ⟨am fun c=>gn rfl (c.p e4) rfl,aF 0,ax⟩ fun ac ag ae ab aa=> ?_);obtain ⟨e0,e2,e3,e4⟩:=aa.k4 e0 e2 e3 e4;have e9:=aa.V 1;refine wp_cond_split e9 (fun hc3=> ?_) (fun hc3=> ?_)
 · have hd3:=hc3;skip;refine wp_seq (eC ab [] ⟨am fun c=>ar rfl rfl,am fun c=>ar rfl rfl,ax⟩ fun ac ag ae ab aa=> ?_);obtain ⟨e0,e4⟩:=aa.k2 e0 e4;have e2:=aa.V 0;have e3:=aa.V 1;refine wp_ret ?_;refine rp ?_;refine jE (fn:=Tryz.f131) rfl ab.defers e2 e3 ?_;exact ⟨congrArg _ (show (Value.tuple #[(aR (⟨#[13]⟩:ByteArray)),(aA true)])= .tuple #[aR (fG s).1,aA (fG s).2] from by rw [show fG s=((⟨#[13]⟩:ByteArray),true) from (by unfold fG;(repeat (first | rw [if_neg (by first | assumption | (simp only [aQ];assumption) | (simp only [aU];assumption))] | rw [if_pos (by assumption)])))]),ab.ext0⟩
 have hd3:=hc3;skip;refine wp_seq (eC ab [] ⟨am fun c=>gn rfl (c.p e4) rfl,aF 0,ax⟩ fun ac ag ae ab aa=> ?_);obtain ⟨e0,e2,e3,e4⟩:=aa.k4 e0 e2 e3 e4;have e11:=aa.V 1;refine wp_cond_split e11 (fun hc4=> ?_) (fun hc4=> ?_)
 · have hd4:=hc4;skip;refine wp_seq (eC ab [] ⟨am fun c=>ar rfl rfl,am fun c=>ar rfl rfl,ax⟩ fun ac ag ae ab aa=> ?_);obtain ⟨e0,e4⟩:=aa.k2 e0 e4;have e2:=aa.V 0;have e3:=aa.V 1;refine wp_ret ?_;refine rp ?_;refine jE (fn:=Tryz.f131) rfl ab.defers e2 e3 ?_;exact ⟨congrArg _ (show (Value.tuple #[(aR (⟨#[9]⟩:ByteArray)),(aA true)])= .tuple #[aR (fG s).1,aA (fG s).2] from by rw [show fG s=((⟨#[9]⟩:ByteArray),true) from (by unfold fG;(repeat (first | rw [if_neg (by first | assumption | (simp only [aQ];assumption) | (simp only [aU];assumption))] | rw [if_pos (by assumption)])))]),ab.ext0⟩
 have hd4:=hc4;skip;refine wp_seq (eC ab [] ⟨am fun c=>gn rfl (c.p e4) rfl,aF 0,ax⟩ fun ac ag ae ab aa=> ?_);obtain ⟨e0,e2,e3,e4⟩:=aa.k4 e0 e2 e3 e4;have e13:=aa.V 1;refine wp_cond_split e13 (fun hc5=> ?_) (fun hc5=> ?_)
 · have hd5:=hc5;skip;refine wp_seq (eC ab [] ⟨am fun c=>ar rfl rfl,am fun c=>ar rfl rfl,ax⟩ fun ac ag ae ab aa=> ?_);obtain ⟨e0,e4⟩:=aa.k2 e0 e4;have e2:=aa.V 0;have e3:=aa.V 1;refine wp_ret ?_;refine rp ?_;refine jE (fn:=Tryz.f131) rfl ab.defers e2 e3 ?_;exact ⟨congrArg _ (show (Value.tuple #[(aR (⟨#[12]⟩:ByteArray)),(aA true)])= .tuple #[aR (fG s).1,aA (fG s).2] from by rw [show fG s=((⟨#[12]⟩:ByteArray),true) from (by unfold fG;(repeat (first | rw [if_neg (by first | assumption | (simp only [aQ];assumption) | (simp only [aU];assumption))] | rw [if_pos (by assumption)])))]),ab.ext0⟩
 have hd5:=hc5;skip;refine wp_seq (eC ab [] ⟨am fun c=>gn rfl (c.p e4) rfl,aF 0,ax⟩ fun ac ag ae ab aa=> ?_);obtain ⟨e0,e2,e3⟩:=aa.k3 e0 e2 e3;have e15:=aa.V 1;refine wp_cond_split e15 (fun hc6=> ?_) (fun hc6=> ?_)
 · have hd6:=hc6;skip;refine wp_seq (eC ab [] ⟨am fun c=>ar rfl rfl,am fun c=>ar rfl rfl,ax⟩ fun ac ag ae ab aa=> ?_);replace e0:=aa.k1 e0;have e2:=aa.V 0;have e3:=aa.V 1;refine wp_ret ?_;refine rp ?_;refine jE (fn:=Tryz.f131) rfl ab.defers e2 e3 ?_;exact ⟨congrArg _ (show (Value.tuple #[(aR (⟨#[11]⟩:ByteArray)),(aA true)])= .tuple #[aR (fG s).1,aA (fG s).2] from by rw [show fG s=((⟨#[11]⟩:ByteArray),true) from (by unfold fG;(repeat (first | rw [if_neg (by first | assumption | (simp only [aQ];assumption) | (simp only [aU];assumption))] | rw [if_pos (by assumption)])))]),ab.ext0⟩
 have hd6:=hc6;skip;refine wp_skip ?_;show _;refine wp_seq ?_;refine wp_seq ?_;refine rg [_,_,_,_,_,_,_,_,_,_,_,_,_] [0,1,3,7,15,31,63,127,255,511,1023,2047,4095] ab [] ⟨ao e0,am fun c=>gA rfl ba (c.q 0),am fun c=>bW rfl (c.q 1) rfl,bm 2,aE 3 rfl fun c hpc=>aJ rfl (c.p e0),aE 3 rfl fun c hpc=>gL rfl ba (c.M 4 hpc) rfl (by have hq0:=bt hpc;omega) (by have hq0:=bt hpc;omega),fv 3 true rfl fun c hpc=>⟨_,_,(bq rfl rfl Tryz.call144 (c.M 5 hpc)),vL (ca s 0) _⟩,aE 3 rfl fun c hpc=>aJ rfl (c.M 6 hpc),cF 7 false rfl fun c hpc=>aJ rfl (c.p e0),cF 7 false rfl fun c hpc=>gL rfl ba (c.M 8 hpc) rfl (by have hq0:=hpc.2;have hq1:=bt hpc.1;omega) (by have hq0:=hpc.2;have hq1:=bt hpc.1;omega),lU 7 false rfl fun c hpc=>⟨_,_,(bq rfl rfl Tryz.call132 (c.M 9 hpc)),uB (ca s 0) _⟩,aE 3 rfl fun c hpc=>pF rfl (c.M 7 hpc) (fun h=>c.m 10 rfl (And.intro hpc h)),bK 3 11,ax⟩ fun ac ag ae ab aa=> ?_;obtain ⟨e0,e2,e3⟩:=aa.k3 e0 e2 e3;have e29:=aa.V 12;refine wp_cond_split e29 (fun hc7=> ?_) (fun hc7=> ?_)
 · have hd7:=hc7;try simp only [aw,aN,ai] at hd7
   refine wp_seq (eC ab [] ⟨am fun c=>ar rfl rfl,am fun c=>ar rfl rfl,ax⟩ fun ac ag ae ab aa=> ?_);replace e0:=aa.k1 e0;have e2:=aa.V 0;have e3:=aa.V 1;refine wp_ret ?_;refine rp ?_;refine jE (fn:=Tryz.f131) rfl ab.defers e2 e3 ?_;exact ⟨congrArg _ (show (Value.tuple #[(aR (⟨#[]⟩:ByteArray)),(aA false)])= .tuple #[aR (fG s).1,aA (fG s).2] from by rw [show fG s=((⟨#[]⟩:ByteArray),false) from (by unfold fG;(repeat (first | rw [if_neg (by first | assumption | (simp only [aQ];assumption) | (simp only [aU];assumption))] | rw [if_pos (by assumption)])))]),ab.ext0⟩
 have hd7:=hc7;try simp only [aL,aG,ah] at hd7
 refine wp_skip ?_;refine wp_seq (eM ab [] ⟨ao e0,aF 0,am fun c=>ar rfl rfl,ax⟩ fun ac ag ae ab aa=> ?_);have e2:=aa.V 1;have e3:=aa.V 2;refine wp_ret ?_;refine rp ?_;refine jE (fn:=Tryz.f131) rfl ab.defers e2 e3 ?_;exact ⟨congrArg _ (show (Value.tuple #[(aR s),(aA true)])= .tuple #[aR (fG s).1,aA (fG s).2] from by rw [show fG s=(s,true) from (by unfold fG;(repeat (first | rw [if_neg (by first | assumption | (simp only [aQ];assumption) | (simp only [aU];assumption))] | rw [if_pos (by assumption)])))]),ab.ext0⟩
set_option maxRecDepth 100000 in
theorem GG (v:Value) (cv:Sv) (cs:List ByteArray) (i:Nat) (w:World) (hm0:w.cell? (cW v)=some cv.v) (hm1:w.cell? ((cW v).add 1)=some (aj (i:Int))) (hS:SlT fq w cv.v cs):Calls Tryz.prog 58 #[(.pointer (some (cW v)))] w (fun e w'=>e= .returned (aR (cO cs i))∧Ext bc w w'):=by
 refine enter (n:=23) Tryz.func58 rfl rfl (av rfl) ?_;intro a0 τ0 ha st0;have e0:=np ha;have hle:=hS.le;refine wp_seq (eB st0 [] ⟨am fun c=>ar rfl rfl,ax⟩ fun ac ag ae ab aa=> ?_);replace e0:=aa.k1 e0;have e2:=aa.V 0;refine wp_seq ?_;refine wp_seq (tJ [0,1,3,7,0,16,48,112,240,511] ab [] ⟨ao e0,bL 0 rfl,bw aY au 1 rfl,am fun c=>ay rfl aC (c.q 2) ((ab.ext.trans c.J.ext).cellAt hm1),ao e0,bL 4 rfl,bw aY bR 5 rfl,am fun c=>ay rfl cc (c.q 6) ((ab.ext.trans c.J.ext).cellAt hm0),am fun c=>cX rfl bj (c.q 7) hS.sl,am fun c=>fW rfl (c.q 3) (c.q 8),ax⟩ fun ac ag ae ab aa=> ?_);obtain ⟨e0,e2⟩:=aa.k2 e0 e2;have e12:=aa.V 9;refine wp_cond_split e12 (fun hc1=> ?_) (fun hc1=> ?_)
 · try simp only [ai] at hc1
   refine wp_seq (eB ab [] ⟨am fun c=>ar rfl rfl,ax⟩ fun ac ag ae ab aa=> ?_);replace e0:=aa.k1 e0;have e2:=aa.V 0;refine wp_ret ?_;refine rp ?_;refine cH (fn:=Tryz.f58) rfl ab.defers e2 ?_;exact ⟨congrArg _ (congrArg _ (by unfold cO;first | rw [if_pos (by omega)] | rw [if_neg (by omega)])),ab.ext0⟩
 try simp only [ah,dF] at hc1
 refine wp_skip ?_;refine wp_seq (pI [0,1,3,7,0,16,48,112,255,511,1023] ab [] ⟨ao e0,bL 0 rfl,bw aY bR 1 rfl,am fun c=>ay rfl cc (c.q 2) ((ab.ext.trans c.J.ext).cellAt hm0),ao e0,bL 4 rfl,bw aY au 5 rfl,am fun c=>ay rfl aC (c.q 6) ((ab.ext.trans c.J.ext).cellAt hm1),am fun c=>aK rfl bj aZ (c.q 3) hS.sl (c.q 7) (by omega) (by omega),am fun c=>ay rfl bD (c.q 8) ((hS.at (ab.ext.trans c.J.ext)).elem (j:=0) (bu (i:=(i:Int)) (by omega) (by omega)) rfl),aF 9,ax⟩ fun ac ag ae ab aa=> ?_);have e2:=aa.V 10;refine wp_ret ?_;refine rp ?_;refine cH (fn:=Tryz.f58) rfl ab.defers e2 ?_;exact ⟨congrArg _ (congrArg _ (by unfold cO;first | rw [if_pos (by omega)] | rw [if_neg (by omega)])),ab.ext0⟩
theorem mz (v:Value) (cv:Sv) (cs:List ByteArray) (i:Nat) (w:World) (hR:RdR 68 v cv cs i w):Calls Tryz.prog 58 #[v] w (fun e w'=>e= .returned (.string (cO cs i))∧Ext bc w w'):=by
  have h:=GG v cv cs i w (hR.box.cell (j:=0) rfl) (hR.box.cell (j:=1) rfl) hR.sl;rwa [←hR.box.ptr] at h
set_option maxRecDepth 100000 in
theorem fY (v:Value) (cv:Sv) (cs:List ByteArray) (i:Nat) (s:ByteArray) (w:World) (hR:RdR 68 v cv cs i w) (hL:nd cs) (hi:i≤cs.length+5):Calls Tryz.prog 61 #[v,(aR s)] w (fun e w'=>e= .returned (aA (eU cs i s))∧Ext (bJ v) w w'∧cd 68 [cv.v,aj ((tkN cs i s:Nat):Int)] (bJ v) v w'):=by
 refine ez (bJ v) (fun g hg=>hR.box.lt g hg) (n:=36) Tryz.func61 rfl rfl (av rfl) ?_;intro a0 τ0 ha hτ st0;obtain ⟨e0,e1⟩:=qr ha;have hL1:=hL.1;have r0:cd 68 [cv.v,aj ((i:Nat):Int)] (τ0 0) v w:=by rw [hτ];exact hR.box
 have r9:Fz (dL fq Al cv.v cs) τ0 w:=hR.inz st0;refine wp_seq (eB st0 [jb r0,jz 9 r9] ⟨am fun c=>ar rfl rfl,ax⟩ fun ac ag ae ab aa=> ?_);obtain ⟨e0,e1⟩:=aa.k2 e0 e1;have e4:=aa.V 0;replace r0:=aa.B 0;replace r9:=aa.z1 9;refine wp_seq ?_;refine wp_seq ?_;refine rg [_,_,_,_,_,_,_,_,_,_,_,_,_,_,_,_,_,_,_,_,_,_,_,_] [0,1,3,7,0,16,48,112,240,511,1023,2047,4095,8191,16383,2047,34815,100351,231423,524287,1048575,2047,4194303,8388607] ab [jb r0,jz 9 r9] ⟨ao e0,bL 0 r0.ptr,bw aY au 1 r0.ptr,dq aC 2 0 1,ao e0,bL 4 r0.ptr,bw aY bR 5 r0.ptr,dq cc 6 0 0,am fun c=>cX rfl bj (c.q 7) (r9).1.sl,am fun c=>fW rfl (c.q 3) (c.q 8),bm 9,bo 10 rfl fun c hpc=>aJ rfl (c.p e0),bo 10 rfl fun c hpc=>cD rfl (c.M 11 hpc) r0.ptr,bo 10 rfl fun c hpc=>cN rfl aY bR ((c.M 12 hpc).trans r0.ptr),bo 10 rfl fun c hpc=>ay rfl cc (c.M 13 hpc) ((c.B 0).cell (j:=0) rfl),bo 10 rfl fun c hpc=>aJ rfl (c.p e0),bo 10 rfl fun c hpc=>cD rfl (c.M 15 hpc) r0.ptr,bo 10 rfl fun c hpc=>cN rfl aY au ((c.M 16 hpc).trans r0.ptr),bo 10 rfl fun c hpc=>ay rfl aC (c.M 17 hpc) ((c.B 0).cell (j:=1) rfl),bo 10 rfl fun c hpc=>aK rfl bj aZ (c.M 14 hpc) (r9).1.sl (c.M 18 hpc) (by have hq0:=bn hpc;omega) (by have hq0:=bn hpc;omega),bo 10 rfl fun c hpc=>ay rfl bD (c.M 19 hpc) (((c.iz 9 rfl).1).elem (j:=0) (bu (i:=((i:Nat):Int)) (by have hq0:=bn hpc;omega) (by have hq0:=bn hpc;omega)) rfl),bo 10 rfl fun c hpc=>aJ rfl (c.p e1),bo 10 rfl fun c hpc=>lT rfl (c.M 20 hpc) (c.M 21 hpc),dD 10 22,ax⟩ fun ac ag ae ab aa=> ?_;obtain ⟨e0,e4⟩:=aa.k2 e0 e4;have e28:=aa.V 23;replace r0:=aa.B 0;replace r9:=aa.z1 9;refine wp_cond_split e28 (fun hc1=> ?_) (fun hc1=> ?_)
 · have hd1:=hc1;try simp only [aN,aG,aB,az,ai,ah,dF] at hd1
   refine wp_seq (eB ab [jb r0,jz 9 r9] ⟨am fun c=>ar rfl rfl,ax⟩ fun ac ag ae ab aa=> ?_);replace e0:=aa.k1 e0;have e4:=aa.V 0;replace r0:=aa.B 0;replace r9:=aa.z1 9;refine wp_ret ?_;refine rp ?_;refine cH (fn:=Tryz.f61) rfl ab.defers e4 ?_;have hb_:eU cs i s=false:=by unfold eU;first | (rw [show (decide ((cs.length:Int)≤(i:Int)) || (!(iI (nth cs (i:Int)) s)))=true from by assumption];rfl) | (rw [show (decide ((cs.length:Int)≤(i:Int)) || (!(iI (nth cs (i:Int)) s)))=false from by assumption];rfl)
   rw [hb_,kg hb_];exact ⟨rfl,ab.extIn,r0.foot⟩
 have hd1:=hc1;try simp only [aN,aG,aB,az,ai,ah,dF] at hd1
 refine wp_skip ?_;refine wp_seq (wi ab [jb r0,jz 9 r9] ⟨ao e0,bL 0 r0.ptr,bw aY au 1 r0.ptr,dq aC 2 0 1,am fun c=>cV rfl (c.q 3) rfl (by omega),bL 0 r0.ptr,bw aY au 5 r0.ptr,ck (cx:=[cv.v,(aj (((i:Nat):Int)+1))]) au fun c=>⟨c.bp 0 rfl e0,c.ad (c.q 6) e0 rfl,(c.q 4)⟩,ax⟩ fun ac ag ae ab aa=> ?_);obtain ⟨e0,e4⟩:=aa.k2 e0 e4;replace r0:=aa.RB 7 e0;replace r9:=aa.z1 9;replace r0:cd 68 [cv.v,aj ((i+1:Nat):Int)] (ae 0) v ag:=by rw [show ((i+1:Nat):Int)=((i:Nat):Int)+1 from by omega];exact r0
 refine wp_seq (eB ab [jb r0,jz 9 r9] ⟨am fun c=>ar rfl rfl,ax⟩ fun ac ag ae ab aa=> ?_);replace e0:=aa.k1 e0;have e4:=aa.V 0;replace r0:=aa.B 0;replace r9:=aa.z1 9;refine wp_ret ?_;refine rp ?_;refine cH (fn:=Tryz.f61) rfl ab.defers e4 ?_;have hb_:eU cs i s=true:=by unfold eU;first | (rw [show (decide ((cs.length:Int)≤(i:Int)) || (!(iI (nth cs (i:Int)) s)))=true from by assumption];rfl) | (rw [show (decide ((cs.length:Int)≤(i:Int)) || (!(iI (nth cs (i:Int)) s)))=false from by assumption];rfl)
 rw [hb_,jq hb_];exact ⟨rfl,ab.extIn,r0.foot⟩
end
section
open Go.RowKit
open Srt
theorem DB {cs:List ByteArray} {f:Nat} {n:Int} {m i:Nat} (h:((decide ((m:Int) < 3)&&decide (((cO cs i).size:Int)=1))&&kq (ca (cO cs i) 0))=true):nr cs (f+1) n m i=nr cs f (n * 10+(ca (cO cs i) 0 - 48)) (m+1) (i+1):=by rw [nr,if_pos h]
theorem Bo {cs:List ByteArray} {f:Nat} {n:Int} {m i:Nat} (h:((decide ((m:Int) < 3)&&decide (((cO cs i).size:Int)=1))&&kq (ca (cO cs i) 0))=false):nr cs (f+1) n m i=(n,m,i):=by rw [nr,if_neg (by rw [h];decide)]
theorem EH {b:Int} (h:kq b=true):IntKind.u8.wrap (b - 48)=b - 48:=by
  simp only [kq,aw,ai] at h;simp [IntKind.wrap,IntKind.signed,IntKind.bits];omega
theorem EI {b:Int} (h:0≤b∧b≤255):IntKind.i64.wrap b=b:=IntWalk.i64_in _ (by omega)
set_option maxRecDepth 100000 in
theorem EJ (v:Value) (cv:Sv) (cs:List ByteArray) (i:Nat) (w:World) (hR:RdR 68 v cv cs i w) (hL:nd cs) (hi:i≤cs.length+5):Calls Tryz.prog 106 #[v] w (fun e w'=>e= .returned (.tuple #[aj (cq cs i).1,aA (jw (cq cs i))])∧Ext (bJ v) w w'∧cd 68 [cv.v,aj (((cq cs i).2.2:Nat):Int)] (bJ v) v w'):=by
 refine ez (bJ v) (fun g hg=>hR.box.lt g hg) (n:=44) Tryz.func106 rfl rfl (av rfl) ?_;intro a0 τ0 ha hτ st0;have e0:=np ha;have hL1:=hL.1;have r0:cd 68 [cv.v,aj ((i:Nat):Int)] (τ0 0) v w:=by rw [hτ];exact hR.box
 have r9:Fz (dL fq Al cv.v cs) τ0 w:=hR.inz st0;refine wp_seq (eC st0 [jb r0,jz 9 r9] ⟨am fun c=>ar rfl rfl,am fun c=>ar rfl rfl,ax⟩ fun ac ag ae ab aa=> ?_);replace e0:=aa.k1 e0;have e2:=aa.V 0;have e3:=aa.V 1;replace r0:=aa.B 0;replace r9:=aa.z1 9;refine wp_seq (eC ab [jb r0,jz 9 r9] ⟨am fun c=>ar rfl rfl,am fun c=>ar rfl rfl,ax⟩ fun ac ag ae ab aa=> ?_);obtain ⟨e0,e2,e3⟩:=aa.k3 e0 e2 e3;have e4:=aa.V 0;have e5:=aa.V 1;replace r0:=aa.B 0;replace r9:=aa.z1 9;refine wp_seq ?_;refine wp_block ?_;refine wp_loop (fun a_ w_=>∃(n:Int) (m j f:Nat) (τ:Nat→aP),(0≤n∧n < 10 ^ m)∧
      (m+f=3)∧
      (i≤j)∧
      (j≤i+m)∧
      (nr cs 4 0 0 i=nr cs (f+1) n m j)∧
      St (fun k=>bJ v k∨w.heap.size≤k) w 44 a_ w_ τ∧
      aT a_ 4=(aj n)∧
      aT a_ 5=(aj (m:Int))∧
      aT a_ 0=v∧
      aT a_ 2=(aj 0)∧
      aT a_ 3=(aA false)∧
      cd 68 [cv.v,(aj ((j:Nat):Int))] (τ 0) v w_∧
      Fz (dL fq Al cv.v cs) τ w_) (fun a_ _=>(3 - intOf (aT a_ 5)).toNat) ?_ ?_
 · refine ⟨0,0,i,3,ae,?_,?_,?_,?_,?_,ab,(e4.trans (bd (by omega))),(e5.trans (bd (by omega))),e0,e2,e3,r0,r9⟩
   · decide
   · omega
   · omega
   · omega
   · rfl
 intro a3 w3 hI;obtain ⟨n,m,j,f,τ3,q0,q1,q2,q3,q4,st3,e4,e5,e0,e2,e3,r0,r9⟩:=hI;have hn1000:n < 1000:=lj q0.2 (by show (10:Int) ^ m≤1000;match m,(show m≤3 by omega) with | 0,_=>decide | 1,_=>decide | 2,_=>decide | 3,_=>decide)
 have m5:=e5;refine wp_seq ?_;refine wp_seq ?_;refine rg [_,_,_,_,_,_,_,_,_,_,_,_,_,_] [0,1,3,7,15,31,63,127,255,511,1023,2047,4095,8191] st3 [jb r0,jz 9 r9] ⟨ao e5,am fun c=>dh rfl (c.q 0) rfl,bm 1,aE 2 rfl fun c hpc=>aJ rfl (c.p e0),fv 2 true rfl fun c hpc=>⟨_,_,(bq rfl rfl fT (c.M 3 hpc)),mz v cv cs j _ (kK (c.B 0) (c.iz 9 rfl) (fun g_ h_ hz_=>hz_.2 _ h_))⟩,aE 2 rfl fun c hpc=>gA rfl ba (c.M 4 hpc),aE 2 rfl fun c hpc=>bW rfl (c.M 5 hpc) rfl,bK 2 6,bm 7,aE 8 rfl fun c hpc=>aJ rfl (c.p e0),fv 8 true rfl fun c hpc=>⟨_,_,(bq rfl rfl fT (c.M 9 hpc)),mz v cv cs j _ (kK (c.B 0) (c.iz 9 rfl) (fun g_ h_ hz_=>hz_.2 _ h_))⟩,aE 8 rfl fun c hpc=>gL rfl ba (c.M 10 hpc) rfl (by have hq0:=hpc;(try simp only [aw,ai] at hq0);first | omega | (have h_:=gC (cO cs j) 0;omega) | (have h_:=hQ (by omega:((cO cs j).size:Int)=1);omega)) (by have hq0:=hpc;(try simp only [aw,ai] at hq0);first | omega | (have h_:=gC (cO cs j) 0;omega) | (have h_:=hQ (by omega:((cO cs j).size:Int)=1);omega)),fv 8 true rfl fun c hpc=>⟨_,_,(bq rfl rfl Tryz.call132 (c.M 11 hpc)),uB (ca (cO cs j) 0) _⟩,bK 8 12,ax⟩ fun ac ag ae ab aa=> ?_;obtain ⟨e0,e2,e3,e4,e5⟩:=aa.k5 e0 e2 e3 e4 e5;have e19:=aa.V 13;replace r0:=aa.B 0;replace r9:=aa.z1 9;refine wp_cond_split e19 (fun hc1=> ?_) (fun hc1=> ?_)
 · have hd1:=hc1;try simp only [aw,ai] at hd1
   refine wp_skip ?_;refine wp_block ?_;refine wp_seq ?_;have hcond:((decide ((m:Int) < 3)&&decide (((cO cs j).size:Int)=1))&&kq (ca (cO cs j) 0))=true:=by assumption
   have hbr:=gC (cO cs j) 0;have hca:=hcond;simp only [aw,ai] at hca;have hdb:=hca.2;simp only [kq,aw,ai] at hdb;have hwr:IntKind.i64.wrap (IntKind.u8.wrap (ca (cO cs j) 0 - 48))=ca (cO cs j) 0 - 48:=by rw [EH hca.2,EI (by omega)]
   have hsz1:=hQ hca.1.2;refine qy [0,1,0,4,12,28,60,127,255] ab [jb r0,jz 9 r9] ⟨ao e4,am fun c=>Gg rfl (c.q 0) rfl (by first | omega | (have h_:=gC (cO cs j) 0;omega) | (have h_:=hQ (by omega:((cO cs j).size:Int)=1);omega)),ao e0,dU fun c=>⟨_,_,(bq rfl rfl fT (c.q 2)),mz v cv cs j _ (kK (c.B 0) (c.iz 9 rfl) (fun g_ h_ hz_=>hz_.2 _ h_))⟩,am fun c=>gL rfl ba (c.q 3) rfl (by first | omega | (have h_:=gC (cO cs j) 0;omega) | (have h_:=hQ (by omega:((cO cs j).size:Int)=1);omega)) (by first | omega | (have h_:=gC (cO cs j) 0;omega) | (have h_:=hQ (by omega:((cO cs j).size:Int)=1);omega)),am fun c=>wm rfl (c.q 4) rfl,am fun c=>qT rfl fB ew (c.q 5),am fun c=>cV rfl (c.q 1) (c.q 6) (by first | omega | (have h_:=gC (cO cs j) 0;omega) | (have h_:=hQ (by omega:((cO cs j).size:Int)=1);omega)),aF 7,ax⟩ fun ac ag ae ab aa=> ?_;obtain ⟨e0,e2,e3,e5,e19⟩:=aa.k5 e0 e2 e3 e5 e19;have e4:=aa.V 8;replace r0:=aa.B 0;replace r9:=aa.z1 9;have hcb:=hcond;simp only [aw,ai] at hcb;have hdg:=hcb.2;simp only [kq,aw,ai] at hdg;have hsz:=hQ hcb.1.2;replace e4:aT ac 4=aj (n * 10+(ca (cO cs j) 0 - 48)):=by rw [e4,EH hcb.2,EI (by omega)]
   refine wp_seq ?_;refine eM ab [jb r0,jz 9 r9] ⟨ao e5,am fun c=>cV rfl (c.q 0) rfl (by first | omega | (have h_:=gC (cO cs j) 0;omega) | (have h_:=hQ (by omega:((cO cs j).size:Int)=1);omega)),aF 1,ax⟩ fun ac ag ae ab aa=> ?_;obtain ⟨e0,e2,e3,e4,e19⟩:=aa.k5 e0 e2 e3 e4 e19;have e5:=aa.V 2;replace r0:=aa.B 0;replace r9:=aa.z1 9;refine wi ab [jb r0,jz 9 r9] ⟨ao e0,bL 0 r0.ptr,bw aY au 1 r0.ptr,dq aC 2 0 1,am fun c=>cV rfl (c.q 3) rfl (by first | omega | (have h_:=gC (cO cs j) 0;omega) | (have h_:=hQ (by omega:((cO cs j).size:Int)=1);omega)),bL 0 r0.ptr,bw aY au 5 r0.ptr,ck (cx:=[cv.v,(aj (((j:Nat):Int)+1))]) au fun c=>⟨c.bp 0 rfl e0,c.ad (c.q 6) e0 rfl,(c.q 4)⟩,ax⟩ fun ac ag ae ab aa=> ?_;obtain ⟨e0,e2,e3,e4,e5,e19⟩:=aa.k6 e0 e2 e3 e4 e5 e19;replace r0:=aa.RB 7 e0;replace r9:=aa.z1 9;replace r0:cd 68 [cv.v,aj ((j+1:Nat):Int)] (ae 0) v ag:=by rw [show ((j+1:Nat):Int)=((j:Nat):Int)+1 from by omega];exact r0
   show _;refine ⟨⟨n * 10+(ca (cO cs j) 0 - 48),m+1,j+1,f - 1,ae,?_,?_,?_,?_,?_,ab,(e4.trans (bd (by omega))),(e5.trans (bd (by omega))),e0,e2,e3,r0,r9⟩,?_⟩
   · rw [Int.pow_succ];omega
   · omega
   · omega
   · omega
   · obtain ⟨f,rfl⟩:∃f_,f=f_+1:=⟨f - 1,by omega⟩;rw [q4,DB hcond];rfl
   · simp only [m5,e5,intOf];omega
 have hd1:=hc1;try simp only [aL,ah,aX] at hd1
 refine wp_exit ?_;repeat (with_reducible refine cn ?_)
 refine cr ?_;refine wp_seq ?_;have hcond:((decide ((m:Int) < 3)&&decide (((cO cs j).size:Int)=1))&&kq (ca (cO cs j) 0))=false:=by assumption
 refine qy [0,0,2,6,14,30,62,15,255] ab [jb r0,jz 9 r9] ⟨ao e4,ao e5,am fun c=>jp rfl (c.q 1) rfl,bm 2,aE 3 rfl fun c hpc=>aJ rfl (c.p e4),aE 3 rfl fun c hpc=>ki rfl (c.M 4 hpc) rfl,bK 3 5,aF 0,aF 6,ax⟩ fun ac ag ae ab aa=> ?_;replace e0:=aa.k1 e0;have e2:=aa.V 7;have e3:=aa.V 8;replace r0:=aa.B 0;replace r9:=aa.z1 9;refine wp_ret ?_;refine rp ?_;refine jE (fn:=Tryz.f106) rfl ab.defers e2 e3 ?_;have he_:cq cs i=(n,m,j):=by rw [cq,q4,Bo hcond]
 rw [he_];exact ⟨rfl,ab.extIn,r0.foot⟩
end
section
open Go.RowKit
open Srt
theorem Hc {a b:Bool} (h:(a&&b)=true):b=true:=by cases a <;> simp_all
theorem Bp {r:Rw} (h:((!ef r.1 || !ef r.2) || !oI r.1 r.2)=true):fj r=false:=by rw [xG] at h;simpa using h
theorem yd {r:Rw} (h:((!ef r.1 || !ef r.2) || !oI r.1 r.2)=false):fj r=true:=by rw [xG] at h;simpa using h
theorem uC {xs:List Rw} {n f:Bool} {s:ByteArray} (h:f=true):sr xs n f s= !(((uP xs s || uP xs (fU s)) || uP xs (Ez s))==n):=by rw [sr,if_pos h]
theorem wT {xs:List Rw} {n f:Bool} {s:ByteArray} (h:f=false):sr xs n f s= !(uP xs s==n):=by rw [sr,if_neg (by rw [h];decide)]
theorem Bq {xs:List Rw} {n f:Bool} {s:ByteArray} (h:(f&&(uP xs (fU s) || uP xs (Ez s)))=true):sr xs n f s= !(true==n):=by
  cases f with
  | false => cases h
  | true =>
    rw [uC rfl];simp only [fJ] at h;rw [Bool.or_assoc,h,Bool.or_true]
theorem Br {xs:List Rw} {n f:Bool} {s:ByteArray} (h:(f&&(uP xs (fU s) || uP xs (Ez s)))=false):sr xs n f s= !(uP xs s==n):=by
  cases f with
  | false => exact wT rfl
  | true =>
    rw [uC rfl];simp only [fJ] at h;rw [Bool.or_assoc,h,lQ]
theorem pS {n:Int} (h:n=100):gE n=[(⟨#[48]⟩,⟨#[57]⟩)]∧ie n=true:=by subst h;exact ⟨rfl,rfl⟩
theorem pT {n:Int} (h:n=119):gE n=[(⟨#[48]⟩,⟨#[57]⟩),(⟨#[65]⟩,⟨#[90]⟩),(⟨#[95]⟩,⟨#[95]⟩),(⟨#[97]⟩,⟨#[122]⟩)]∧ie n=true:=by subst h;exact ⟨rfl,rfl⟩
theorem pU {n:Int} (h:n=115):gE n=[(⟨#[9]⟩,⟨#[13]⟩),(⟨#[32]⟩,⟨#[32]⟩)]∧ie n=true:=by subst h;exact ⟨rfl,rfl⟩
theorem Bs {n:Int} (h1:¬n=100) (h2:¬n=119) (h3:¬n=115):gE n=[]∧ie n=false:=by
  unfold gE ie;rw [if_neg h1,if_neg h2,if_neg h3,decide_eq_false h1,decide_eq_false h2,decide_eq_false h3];exact ⟨rfl,rfl⟩
set_option maxRecDepth 100000 in
theorem ol (s:ByteArray) (w:World) (hs:s.size≤1000000000):Calls Tryz.prog 129 #[(aR s)] w (fun e w'=>e= .returned (aR (fU s))∧Ext bc w w'):=by
 refine enter (n:=35) Tryz.func129 rfl rfl (av rfl) ?_;intro a0 τ0 ha st0;have e0:=np ha;have hbl:=iQ s;have hbd:s.data.toList.length=s.size:=iQ s;refine wp_seq (eB st0 [] ⟨am fun c=>ar rfl rfl,ax⟩ fun ac ag ae ab aa=> ?_);replace e0:=aa.k1 e0;have e2:=aa.V 0;refine wp_seq (rg [_,wg 5 _ 0 6 _,wg 5 _ 0 3 _] [0,1,3] ab [] ⟨ao e0,mL rfl rfl rfl rfl ba cj fB (by first | omega | exact (fx _).1 | exact (fx _).2) fun c=>(c.n 0 rfl),dK (t0:=6) rfl rfl rfl rfl rfl (.inr rfl) (fun _ _ _ _ c=>⟨c.ry 1 rfl,rfl⟩),ax⟩ fun ac ag ae ab aa=> ?_);obtain ⟨b2x3,e3⟩:=gx ac 3;replace e2:=aa.k1 e2;have r0:=aa.ry 2 e3 rfl;refine wp_seq ?_;refine wp_seq (eB ab [jy r0] ⟨am fun c=>ar rfl rfl,ax⟩ fun ac ag ae ab aa=> ?_);obtain ⟨e2,e3⟩:=aa.k2 e2 e3;have e4:=aa.V 0;replace r0:=aa.iy 0 rfl;refine wp_block ?_;refine wp_loop (fun a_ w_=>∃(k:Nat) (τ:Nat→aP),(k≤(bs s).length)∧
      St (Nw w) w 35 a_ w_ τ∧
      aT a_ 4=(aj (k:Int))∧
      aT a_ 2=(aR (⟨#[]⟩:ByteArray))∧
      aT a_ 3=b2x3∧
      kM 5 (fH jN (bs s) k) (τ 0) b2x3 w_) (fun a_ _=>(bs s).length - (intOf (aT a_ 4)).toNat) ?_ ?_
 · refine ⟨0,ae,?_,ab,(e4.trans (bd (by omega))),e2,e3,?_⟩
   · omega
   · exact r0.cast (by exact mR _ _)
 intro a4 w4 hI;obtain ⟨k,τ4,q0,st4,e4,e2,e3,r0⟩:=hI;have hml:=nT jN (bs s) k;have m4:=e4;refine wp_seq ?_;refine wp_seq (lD [0,0,2,7] st4 [jy r0] ⟨ao e4,ao e3,am fun c=>cX rfl cj (c.q 1) r0.isSl,am fun c=>dh rfl (c.q 0) (c.q 2),ax⟩ fun ac ag ae ab aa=> ?_);obtain ⟨e2,e3,e4⟩:=aa.k3 e2 e3 e4;have e10:=aa.V 3;replace r0:=aa.iy 0 rfl;refine wp_cond_split e10 (fun hc1=> ?_) (fun hc1=> ?_)
 · try simp only [ai] at hc1
   refine wp_skip ?_;refine wp_seq ?_;refine wp_block ?_;refine wp_seq ?_;refine tK [0,0,3,7,15,31,63,63,255,511,1023,2047] ab [jy r0] ⟨ao e3,ao e4,am fun c=>aK rfl cj eE (c.q 0) r0.isSl (c.q 1) (by first | omega | exact (fx _).1 | exact (fx _).2) (by first | omega | exact (fx _).1 | exact (fx _).2),am fun c=>ay rfl iY (c.q 2) (((c.iy 0 rfl).1.sl).elem (j:=0) (bu (i:=(k:Int)) (by first | omega | exact (fx _).1 | exact (fx _).2) (by first | omega | exact (fx _).1 | exact (fx _).2)) rfl),am fun c=>fW rfl (c.q 3) rfl,bm 4,aE 5 rfl fun c hpc=>aJ rfl (c.p e3),aE 5 rfl fun c hpc=>aJ rfl (c.p e4),aE 5 rfl fun c hpc=>aK rfl cj eE (c.M 6 hpc) r0.isSl (c.M 7 hpc) (by have hq0:=bt hpc;first | omega | exact (fx _).1 | exact (fx _).2) (by have hq0:=bt hpc;first | omega | exact (fx _).1 | exact (fx _).2),aE 5 rfl fun c hpc=>ay rfl iY (c.M 8 hpc) (((c.iy 0 rfl).1.sl).elem (j:=0) (bu (i:=(k:Int)) (by have hq0:=bt hpc;first | omega | exact (fx _).1 | exact (fx _).2) (by have hq0:=bt hpc;first | omega | exact (fx _).1 | exact (fx _).2)) rfl),aE 5 rfl fun c hpc=>ki rfl (c.M 9 hpc) rfl,bK 5 10,ax⟩ fun ac ag ae ab aa=> ?_;obtain ⟨e2,e3,e4,e10⟩:=aa.k4 e2 e3 e4 e10;have e24:=aa.V 11;replace r0:=aa.iy 0 rfl;refine wp_cond_split e24 (fun hc2=> ?_) (fun hc2=> ?_)
   · have hd2:=hc2;try simp only [aw,ai] at hd2
     refine rg [_,_,_,_,_,_,_,_,wg 5 _ 0 3 _] [0,0,0,0,12,28,60,127,255] ab [jy r0] ⟨ao e3,ao e4,ao e3,ao e4,am fun c=>aK rfl cj eE (c.q 2) r0.isSl (c.q 3) (by first | omega | exact (fx _).1 | exact (fx _).2) (by first | omega | exact (fx _).1 | exact (fx _).2),am fun c=>ay rfl iY (c.q 4) (((c.iy 0 rfl).1.sl).elem (j:=0) (bu (i:=(k:Int)) (by first | omega | exact (fx _).1 | exact (fx _).2) (by first | omega | exact (fx _).1 | exact (fx _).2)) rfl),am fun c=>zR rfl (c.q 5) rfl,am fun c=>aK rfl cj eE (c.q 0) r0.isSl (c.q 1) (by first | omega | exact (fx _).1 | exact (fx _).2) (by first | omega | exact (fx _).1 | exact (fx _).2),nR (i:=(k:Int).toNat) (n:=IntKind.u8.wrap (((nth (fH jN (bs s) k) (k:Int)).toNat:Int)+32)) rfl rfl rfl rfl eE (by first | omega | exact (fx _).1 | exact (fx _).2) (by first | omega | exact (fx _).1 | exact (fx _).2) (by first | omega | exact (fx _).1 | exact (fx _).2) fun c=>⟨c.yp 0 rfl e3,c.ad (c.n 7 rfl) e3 rfl,(c.n 6 rfl)⟩,ax⟩ fun ac ag ae ab aa=> ?_;obtain ⟨e2,e3,e4,e10,e24⟩:=aa.k5 e2 e3 e4 e10 e24;replace r0:=aa.ry 8 e3 rfl;show _;refine eM ab [jy r0] ⟨ao e4,am fun c=>cV rfl (c.q 0) rfl (by first | omega | exact (fx _).1 | exact (fx _).2),aF 1,ax⟩ fun ac ag ae ab aa=> ?_;obtain ⟨e2,e3,e10,e24⟩:=aa.k4 e2 e3 e10 e24;have e4:=aa.V 2;replace r0:=aa.iy 0 rfl;refine ⟨⟨k+1,ae,?_,ab,(e4.trans (bd (by omega))),e2,e3,?_⟩,?_⟩
     · omega
     · exact r0.cast (by first | exact po (by omega) (by assumption) | exact oa (by omega) (by assumption))
     · simp only [m4,e4,intOf];omega
   have hd2:=hc2;try simp only [aL,ah,dF] at hd2
   refine wp_skip ?_;show _;refine eM ab [jy r0] ⟨ao e4,am fun c=>cV rfl (c.q 0) rfl (by first | omega | exact (fx _).1 | exact (fx _).2),aF 1,ax⟩ fun ac ag ae ab aa=> ?_;obtain ⟨e2,e3,e10,e24⟩:=aa.k4 e2 e3 e10 e24;have e4:=aa.V 2;replace r0:=aa.iy 0 rfl;refine ⟨⟨k+1,ae,?_,ab,(e4.trans (bd (by omega))),e2,e3,?_⟩,?_⟩
   · omega
   · exact r0.cast (by first | exact po (by omega) (by assumption) | exact oa (by omega) (by assumption))
   · simp only [m4,e4,intOf];omega
 try simp only [ah,aX] at hc1
 refine wp_exit ?_;repeat (with_reducible refine cn ?_)
 refine cr ?_;refine wp_seq (eM ab [jy r0] ⟨ao e3,am fun c=>nQ rfl cj fB ba (c.q 0) (c.iy 0 rfl).1.sl,aF 1,ax⟩ fun ac ag ae ab aa=> ?_);have e2:=aa.V 2;refine wp_ret ?_;refine rp ?_;refine cH (fn:=Tryz.f129) rfl ab.defers e2 ?_;exact ⟨congrArg (fun l_=>Ending.returned (aR ⟨List.toArray l_⟩)) (nV (by omega)),ab.ext0⟩
set_option maxRecDepth 100000 in
theorem wU (v:Value) (xs:List (ByteArray × ByteArray)) (w:World) (hS:SlT ik w v xs) (hz:pk xs) (hbig:xs.length≤1000000000):Calls Tryz.prog 128 #[v] w (fun e w'=>∃v',e= .returned v'∧Ext bc w w'∧oT ik 89 w w' v' (gD xs)):=by
 refine enter (n:=137) Tryz.func128 rfl rfl (av rfl) ?_;intro a0 τ0 ha st0;have e0:=np ha;have hle:=hS.le;refine wp_seq (eB st0 [] ⟨am fun c=>ar rfl rfl,ax⟩ fun ac ag ae ab aa=> ?_);replace e0:=aa.k1 e0;have e2:=aa.V 0;refine wp_seq (eB ab [] ⟨am fun c=>ar rfl rfl,ax⟩ fun ac ag ae ab aa=> ?_);obtain ⟨e0,e2⟩:=aa.k2 e0 e2;have e3:=aa.V 0;refine wp_seq ?_;refine wp_seq (eB ab [] ⟨am fun c=>ar rfl rfl,ax⟩ fun ac ag ae ab aa=> ?_);obtain ⟨e0,e2,e3⟩:=aa.k3 e0 e2 e3;have e4:=aa.V 0;refine wp_block ?_;refine wp_loop (fun a_ w_=>∃(i:Nat) (o:Value) (τ:Nat→aP),(i≤xs.length)∧
      St (Nw w) w 137 a_ w_ τ∧
      aT a_ 3=o∧
      aT a_ 4=(aj (i:Int))∧
      aT a_ 0=v∧
      aT a_ 2=(.slice none 0 0)∧
      eb ik 89 (eK ss ((xs.take i).filter fj)) (τ 0) o w_) (fun a_ _=>xs.length - (intOf (aT a_ 4)).toNat) ?_ ?_
 · refine ⟨0,(.slice none 0 0),ae,?_,ab,e3,(e4.trans (bd (by omega))),e0,e2,?_⟩
   · omega
   · exact eb.nil _ _ _ _
 intro a4 w4 hI;obtain ⟨i,o,τ4,q0,st4,e3,e4,e0,e2,r0⟩:=hI;have hil:=pa (lt:=ss) ((xs.take i).filter fj);have hfl:=yT (f:=fj) (xs:=xs) (k:=i);have hzk:=rA hz (k:=i);have m4:=e4;refine wp_seq ?_;refine wp_seq (lD [0,0,2,7] st4 [jo r0] ⟨ao e4,ao e0,am fun c=>cX rfl aV (c.q 1) hS.sl,am fun c=>dh rfl (c.q 0) (c.q 2),ax⟩ fun ac ag ae ab aa=> ?_);obtain ⟨e0,e2,e3,e4⟩:=aa.k4 e0 e2 e3 e4;have e13:=aa.V 3;replace r0:=aa.O 0;refine wp_cond_split e13 (fun hc1=> ?_) (fun hc1=> ?_)
 · try simp only [ai] at hc1
   refine wp_skip ?_;refine wp_seq ?_;refine wp_block ?_;refine wp_seq (rg [_,_,_,_,box _ _ 2 5 [(aR (⟨#[]⟩:ByteArray)),(aR (⟨#[]⟩:ByteArray))],_] [0,0,3,7,0,31] ab [jo r0] ⟨ao e0,ao e4,am fun c=>aK rfl aV bM (c.q 0) hS.sl (c.q 1) (by omega) (by omega),am fun c=>cT (vs:=[(aR ((nth xs (i:Int)).1)),(aR ((nth xs (i:Int)).2))]) rfl gY bM (c.q 2) rfl (fun _ _ hj=>(hS.at (ab.ext.trans c.J.ext)).elem (bu (i:=(i:Int)) (by omega) (by omega)) hj),cB rfl rfl rfl rfl cS rfl,fZ (cx:=[(aR ((nth xs (i:Int)).1)),(aR ((nth xs (i:Int)).2))]) (off:=0) rfl bM fun c=>⟨c.rb 4 rfl,(c.rb 4 rfl).ptr,(c.q 3)⟩,ax⟩ fun ac ag ae ab aa=> ?_);obtain ⟨b6x5,e5⟩:=gx ac 5;obtain ⟨e0,e2,e3,e4,e13⟩:=aa.k5 e0 e2 e3 e4 e13;replace r0:=aa.O 0;have r2:=aa.rb 5 e5 rfl;refine wp_seq ?_;refine wp_seq ?_;refine rg [_,_,_,_,_,_,_,_,_,_,_,_,_,_,_,_,_] [0,1,3,7,15,31,63,127,255,511,1023,2047,4095,2047,10239,32767,65535] ab [jo r0,jb r2] ⟨bZ bB aZ e5 r2.ptr,dq bD 0 2 0,dU fun c=>⟨_,_,(bq rfl rfl kC (c.q 1)),jQ ((nth xs (i:Int)).1) _ (by omega)⟩,am fun c=>dY rfl (c.q 2),bm 3,bo 4 rfl fun c hpc=>cN rfl bB aZ ((c.p e5).trans r2.ptr),bo 4 rfl fun c hpc=>ay rfl bD (c.M 5 hpc) ((c.B 2).cell (j:=1) rfl),fv 4 false rfl fun c hpc=>⟨_,_,(bq rfl rfl kC (c.M 6 hpc)),jQ ((nth xs (i:Int)).2) _ (by have hq0:=hpc;(try simp only [aB,az] at hq0);omega)⟩,bo 4 rfl fun c hpc=>dY rfl (c.M 7 hpc),dD 4 8,bm 9,bo 10 rfl fun c hpc=>cN rfl bB aZ ((c.p e5).trans r2.ptr),bo 10 rfl fun c hpc=>ay rfl bD (c.M 11 hpc) ((c.B 2).cell (j:=0) rfl),bo 10 rfl fun c hpc=>cN rfl bB aZ ((c.p e5).trans r2.ptr),bo 10 rfl fun c hpc=>ay rfl bD (c.M 13 hpc) ((c.B 2).cell (j:=1) rfl),bo 10 rfl fun c hpc=>zY rfl (c.M 12 hpc) (c.M 14 hpc),dD 10 15,ax⟩ fun ac ag ae ab aa=> ?_;obtain ⟨e0,e2,e3,e4,e5,e13⟩:=aa.k6 e0 e2 e3 e4 e5 e13;have e36:=aa.V 16;replace r0:=aa.O 0;replace r2:=aa.B 2;refine wp_cond_split e36 (fun hc2=> ?_) (fun hc2=> ?_)
   · have hd2:=hc2;try simp only [aN,aG,aB,az] at hd2
     refine wp_exit ?_;repeat (with_reducible refine cn ?_)
     refine cr ?_;refine eM ab [jo r0,jb r2] ⟨ao e4,am fun c=>cV rfl (c.q 0) rfl (by omega),aF 1,ax⟩ fun ac ag ae ab aa=> ?_;obtain ⟨e0,e2,e3,e5,e13,e36⟩:=aa.k6 e0 e2 e3 e5 e13 e36;have e4:=aa.V 2;replace r0:=aa.O 0;replace r2:=aa.B 2;refine ⟨⟨i+1,o,ae,?_,ab,e3,(e4.trans (bd (by omega))),e0,e2,?_⟩,?_⟩
     · omega
     · exact r0.cast (by first | exact vl (by omega) (yd (by assumption)) q0 q1 (by assumption) | (rw [vi (by omega) (Bp (by assumption))]))
     · simp only [m4,e4,intOf];omega
   have hd2:=hc2;try simp only [aN,aG,aB,az] at hd2
   refine wp_skip ?_;refine wp_seq (eM ab [jo r0,jb r2] ⟨ao e3,am fun c=>cX rfl aV (c.q 0) r0.isSl,aF 1,ax⟩ fun ac ag ae ab aa=> ?_);obtain ⟨e0,e2,e3,e4,e5,e13,e36⟩:=aa.k7 e0 e2 e3 e4 e5 e13 e36;have e6:=aa.V 2;replace r0:=aa.O 0;replace r2:=aa.B 2;refine wp_seq ?_;refine wp_block ?_;refine wp_loop (fun a_ w_=>∃(k:Nat) (τ:Nat→aP),(k≤(eK ss ((xs.take i).filter fj)).length)∧
          (∀q ∈ (eK ss ((xs.take i).filter fj)).drop k,ss (nth xs (i:Int)) q=true)∧
          St (Nw w) w 137 a_ w_ τ∧
          aT a_ 6=(aj (k:Int))∧
          aT a_ 0=v∧
          aT a_ 2=(.slice none 0 0)∧
          aT a_ 3=o∧
          aT a_ 4=(aj (i:Int))∧
          aT a_ 5=b6x5∧
          aT a_ 13=(aA (decide ((i:Int) < (xs.length:Int))))∧
          aT a_ 36=(aA (((!(ef ((nth xs (i:Int)).1))) || (!(ef ((nth xs (i:Int)).2)))) || (!(oI ((nth xs (i:Int)).1) ((nth xs (i:Int)).2)))))∧
          eb ik 89 (eK ss ((xs.take i).filter fj)) (τ 0) o w_∧
          cd 89 [(aR ((nth xs (i:Int)).1)),(aR ((nth xs (i:Int)).2))] (τ 2) b6x5 w_) (fun a_ _=>(intOf (aT a_ 6)).toNat) ?_ ?_
   · refine ⟨(eK ss ((xs.take i).filter fj)).length,ae,?_,?_,ab,(e6.trans (bd (by omega))),e0,e2,e3,e4,e5,e13,e36,r0,r2⟩
     · omega
     · simp
   intro a10 w10 hI;obtain ⟨k,τ10,q0,q1,st10,e6,e0,e2,e3,e4,e5,e13,e36,r0,r2⟩:=hI;have m6:=e6;refine wp_seq ?_;refine wp_seq ?_;refine rg [_,_,_,_,_,_,_,_,_,_,_,_,_,_,_,_,_,_,_,_,_,_,_,_,_,_,_,_,_,_,_,_,_,_,_] [0,1,3,7,15,7,7,71,231,487,999,2047,4095,8191,16383,8191,8191,73727,237567,499711,1023999,2097151,4194303,8388607,16777215,8388607,8388607,75497471,243269631,511705087,1048575999,2147483647,4294967295,8589934591,17179869183] st10 [jo r0,jb r2] ⟨ao e6,am fun c=>jp rfl (c.q 0) rfl,bm 1,aE 2 rfl fun c hpc=>cN rfl bB aZ ((c.p e5).trans r2.ptr),aE 2 rfl fun c hpc=>ay rfl bD (c.M 3 hpc) ((c.B 2).cell (j:=0) rfl),aE 2 rfl fun c hpc=>aJ rfl (c.p e3),aE 2 rfl fun c hpc=>aJ rfl (c.p e6),aE 2 rfl fun c hpc=>iA rfl (c.M 6 hpc) rfl (by have hq0:=bt hpc;omega),aE 2 rfl fun c hpc=>aK rfl aV bM (c.M 5 hpc) r0.isSl (c.M 7 hpc) (by have hq0:=bt hpc;omega) (by have hq0:=bt hpc;omega),aE 2 rfl fun c hpc=>cN rfl bB aZ (c.M 8 hpc),aE 2 rfl fun c hpc=>ay rfl bD (c.M 9 hpc) (((c.io 0 rfl).1.sl).elem (j:=0) (bu (i:=(k:Int) - 1) (by have hq0:=bt hpc;omega) (by have hq0:=bt hpc;omega)) rfl),aE 2 rfl fun c hpc=>wo rfl (c.M 4 hpc) (c.M 10 hpc),aE 2 rfl fun c hpc=>aJ rfl (c.M 11 hpc),cF 12 false rfl fun c hpc=>cN rfl bB aZ ((c.p e5).trans r2.ptr),cF 12 false rfl fun c hpc=>ay rfl bD (c.M 13 hpc) ((c.B 2).cell (j:=0) rfl),cF 12 false rfl fun c hpc=>aJ rfl (c.p e3),cF 12 false rfl fun c hpc=>aJ rfl (c.p e6),cF 12 false rfl fun c hpc=>iA rfl (c.M 16 hpc) rfl (by have hq0:=hpc.2;have hq1:=bt hpc.1;omega),cF 12 false rfl fun c hpc=>aK rfl aV bM (c.M 15 hpc) r0.isSl (c.M 17 hpc) (by have hq0:=hpc.2;have hq1:=bt hpc.1;omega) (by have hq0:=hpc.2;have hq1:=bt hpc.1;omega),cF 12 false rfl fun c hpc=>cN rfl bB aZ (c.M 18 hpc),cF 12 false rfl fun c hpc=>ay rfl bD (c.M 19 hpc) (((c.io 0 rfl).1.sl).elem (j:=0) (bu (i:=(k:Int) - 1) (by have hq0:=hpc.2;have hq1:=bt hpc.1;omega) (by have hq0:=hpc.2;have hq1:=bt hpc.1;omega)) rfl),cF 12 false rfl fun c hpc=>gn rfl (c.M 14 hpc) (c.M 20 hpc),cF 12 false rfl fun c hpc=>aJ rfl (c.M 21 hpc),cF 22 true rfl fun c hpc=>cN rfl bB aZ ((c.p e5).trans r2.ptr),cF 22 true rfl fun c hpc=>ay rfl bD (c.M 23 hpc) ((c.B 2).cell (j:=1) rfl),cF 22 true rfl fun c hpc=>aJ rfl (c.p e3),cF 22 true rfl fun c hpc=>aJ rfl (c.p e6),cF 22 true rfl fun c hpc=>iA rfl (c.M 26 hpc) rfl (by have hq0:=hpc.2;have hq1:=hpc.1.2;have hq2:=bt hpc.1.1;omega),cF 22 true rfl fun c hpc=>aK rfl aV bM (c.M 25 hpc) r0.isSl (c.M 27 hpc) (by have hq0:=hpc.2;have hq1:=hpc.1.2;have hq2:=bt hpc.1.1;omega) (by have hq0:=hpc.2;have hq1:=hpc.1.2;have hq2:=bt hpc.1.1;omega),cF 22 true rfl fun c hpc=>cN rfl bB aZ (c.M 28 hpc),cF 22 true rfl fun c hpc=>ay rfl bD (c.M 29 hpc) (((c.io 0 rfl).1.sl).elem (j:=1) (bu (i:=(k:Int) - 1) (by have hq0:=hpc.2;have hq1:=hpc.1.2;have hq2:=bt hpc.1.1;omega) (by have hq0:=hpc.2;have hq1:=hpc.1.2;have hq2:=bt hpc.1.1;omega)) rfl),cF 22 true rfl fun c hpc=>wo rfl (c.M 24 hpc) (c.M 30 hpc),cF 12 false rfl fun c hpc=>lG rfl (c.M 22 hpc) (fun h=>c.m 31 rfl (And.intro hpc h)),aE 2 rfl fun c hpc=>pF rfl (c.M 12 hpc) (fun h=>c.m 32 rfl (And.intro hpc h)),bK 2 33,ax⟩ fun ac ag ae ab aa=> ?_;obtain ⟨e0,e2,e3,e4,e5,e6,e13,e36⟩:=aa.k8 e0 e2 e3 e4 e5 e6 e13 e36;have e73:=aa.V 34;replace r0:=aa.O 0;replace r2:=aa.B 2;refine wp_cond_split e73 (fun hc3=> ?_) (fun hc3=> ?_)
   · have hd3:=hc3;try simp only [aw,aN,ai] at hd3
     refine wp_skip ?_;refine wp_block ?_;refine eM ab [jo r0,jb r2] ⟨ao e6,am fun c=>iA rfl (c.q 0) rfl (by omega),aF 1,ax⟩ fun ac ag ae ab aa=> ?_;obtain ⟨e0,e2,e3,e4,e5,e13,e36,e73⟩:=aa.k8 e0 e2 e3 e4 e5 e13 e36 e73;have e6:=aa.V 2;replace r0:=aa.O 0;replace r2:=aa.B 2;show _;refine ⟨⟨k - 1,ae,?_,?_,ab,(e6.trans (bd (by omega))),e0,e2,e3,e4,e5,e13,e36,r0,r2⟩,?_⟩
     · omega
     · exact yL (lt:=ss) (by omega) q0 q1 (Hc (a:=decide ((0:Int) < (k:Int))) (by assumption))
     · simp only [m6,e6,intOf];omega
   have hd3:=hc3;try simp only [aL,aG,ah,aX] at hd3
   refine wp_exit ?_;repeat (with_reducible refine cn ?_)
   refine cr ?_;refine rg [own ik 89 _ 3 76 ([]),_,_,_,own _ _ _ 3 80 _,_,own ik 89 _ 4 82 ([(nth xs (i:Int))]),own _ _ _ 3 83 _,_,_,_,own _ _ _ 3 87 _,own _ _ _ 3 3 _] [0,0,0,6,15,0,32,127,0,0,768,2047,4095] ab [jo r0,jb r2] ⟨kz rfl rfl rfl rfl aV bM,ao e3,ao e6,am fun c=>sy rfl aV bM (c.q 1) r0.isSl (c.q 2) (by omega) (by omega),eW (t0:=76) rfl rfl rfl rfl aV (i:=Tryz.t89) rfl rfl rfl rfl (by simp only [maxLen];(try simp);omega) (by show _ * 32≤_;(try simp);omega) (fun _ _ _ _ c=>⟨c.ro 0 rfl,rfl,⟨_,(c.n 3 rfl),((c.io 0 rfl).1.sl.sub (lo:=0) (hi:=k) (by omega) (by omega))⟩⟩),am fun c=>ec rfl gY bM ((c.p e5).trans r2.ptr) (c.B 2),dp (cells:=#[(aR ((nth xs (i:Int)).1)),(aR ((nth xs (i:Int)).2))]) rfl rfl rfl rfl aV bM cS rfl (by decide) (by decide) (fun _ _ _ _ c=>gH (c.n 5 rfl) (by kernel_rfl)) rfl,eW (t0:=80) rfl rfl rfl rfl aV (i:=Tryz.t89) rfl rfl rfl rfl (by simp only [maxLen];(try simp);omega) (by show _ * 32≤_;(try simp);omega) (fun _ _ _ _ c=>⟨c.ro 4 rfl,rfl,⟨_,rfl,(c.ro 6 rfl).1.sl⟩⟩),ao e3,ao e6,am fun c=>pG rfl aV bM (c.q 8) r0.isSl (c.q 9) (by omega) (by omega),eW (t0:=83) rfl rfl rfl rfl aV (i:=Tryz.t89) rfl rfl rfl rfl (by simp only [maxLen];(try simp);omega) (by show _ * 32≤_;(try simp);omega) (fun _ _ _ _ c=>⟨c.ro 7 rfl,rfl,⟨_,(c.n 10 rfl),((c.io 0 rfl).1.sl.sub (lo:=k) (hi:=(eK ss ((xs.take i).filter fj)).length) (by omega) (by omega))⟩⟩),dK (t0:=87) rfl rfl rfl rfl rfl (.inr rfl) (fun _ _ _ _ c=>⟨c.ro 11 rfl,rfl⟩),ax⟩ fun ac ag ae ab aa=> ?_;obtain ⟨b13x3,e3⟩:=gx ac 3;obtain ⟨b13x82,e82⟩:=gx ac 82;obtain ⟨e0,e2,e4,e5,e6,e13,e36,e73⟩:=aa.k8 e0 e2 e4 e5 e6 e13 e36 e73;replace r0:=aa.O 0;replace r2:=aa.B 2;have r3:=aa.ro 12 e3 rfl;have r4:=aa.ro 6 e82 rfl;show _;refine eM ab [jo r0,jb r2,jo r3,jo r4] ⟨ao e4,am fun c=>cV rfl (c.q 0) rfl (by omega),aF 1,ax⟩ fun ac ag ae ab aa=> ?_;obtain ⟨e0,e2,e3,e5,e6,e13,e36,e73⟩:=aa.k8 e0 e2 e3 e5 e6 e13 e36 e73;have e4:=aa.V 2;replace r0:=aa.O 0;replace r2:=aa.B 2;replace r3:=aa.O 3;replace r4:=aa.O 4;refine ⟨⟨i+1,b13x3,(retag ae [(0,3)]),?_,(ab.retag [(0,3)] (by decide)),e3,(e4.trans (bd (by omega))),e0,e2,?_⟩,?_⟩
   · omega
   · exact r3.cast (by first | exact vl (by omega) (yd (by assumption)) q0 q1 (by assumption) | (rw [vi (by omega) (Bp (by assumption))]))
   · simp only [m4,e4,intOf];omega
 try simp only [ah,aX] at hc1
 refine wp_exit ?_;repeat (with_reducible refine cn ?_)
 refine cr ?_;refine wp_seq (eB ab [jo r0] ⟨am fun c=>ar rfl rfl,ax⟩ fun ac ag ae ab aa=> ?_);obtain ⟨e2,e3⟩:=aa.k2 e2 e3;have e7:=aa.V 0;replace r0:=aa.O 0;replace r0:=r0.cast (show eK nF (xs.filter fj)=(eK ss ((xs.take i).filter fj)) from by rw [bF (by omega),Fh]);have hil:=nH xs;refine wp_seq ?_;refine wp_seq (eB ab [jo r0] ⟨am fun c=>ar rfl rfl,ax⟩ fun ac ag ae ab aa=> ?_);obtain ⟨e2,e3,e7⟩:=aa.k3 e2 e3 e7;have e8:=aa.V 0;replace r0:=aa.O 0;refine wp_block ?_;refine wp_loop (fun a_ w_=>∃(m:Nat) (u:Value) (τ:Nat→aP),(m≤(eK nF (xs.filter fj)).length)∧
      St (Nw w) w 137 a_ w_ τ∧
      aT a_ 7=u∧
      aT a_ 8=(aj (m:Int))∧
      aT a_ 2=(.slice none 0 0)∧
      aT a_ 3=o∧
      eb ik 89 (go ((eK nF (xs.filter fj)).take m)) (τ 1) u w_∧
      eb ik 89 (eK nF (xs.filter fj)) (τ 0) o w_) (fun a_ _=>(eK nF (xs.filter fj)).length - (intOf (aT a_ 8)).toNat) ?_ ?_
 · refine ⟨0,(.slice none 0 0),ae,?_,ab,e7,(e8.trans (bd (by omega))),e2,e3,?_,r0⟩
   · omega
   · exact eb.nil _ _ _ _
 intro a17 w17 hI;obtain ⟨m,u,τ17,q0,st17,e7,e8,e2,e3,r1,r0⟩:=hI;have hjl:=wC (xs:=(eK nF (xs.filter fj))) (k:=m);have m8:=e8;refine wp_seq ?_;refine wp_seq (lD [0,0,2,7] st17 [jo r0,jo r1] ⟨ao e8,ao e3,am fun c=>cX rfl aV (c.q 1) r0.isSl,am fun c=>dh rfl (c.q 0) (c.q 2),ax⟩ fun ac ag ae ab aa=> ?_);obtain ⟨e2,e3,e7,e8⟩:=aa.k4 e2 e3 e7 e8;have e91:=aa.V 3;replace r0:=aa.O 0;replace r1:=aa.O 1;refine wp_cond_split e91 (fun hc4=> ?_) (fun hc4=> ?_)
 · try simp only [ai] at hc4
   refine wp_skip ?_;refine wp_seq ?_;refine wp_block ?_;refine wp_seq (eM ab [jo r0,jo r1] ⟨ao e7,am fun c=>cX rfl aV (c.q 0) r1.isSl,aF 1,ax⟩ fun ac ag ae ab aa=> ?_);obtain ⟨e2,e3,e7,e8,e91⟩:=aa.k5 e2 e3 e7 e8 e91;have e9:=aa.V 2;replace r0:=aa.O 0;replace r1:=aa.O 1;refine wp_seq ?_;refine rg [_,_,_,_,_,_,_,_,_,_,_,_,_,_,_,_] [0,1,3,7,7,31,63,127,7,7,519,1799,3847,7943,16383,32767] ab [jo r0,jo r1] ⟨ao e9,am fun c=>jp rfl (c.q 0) rfl,bm 1,aE 2 rfl fun c hpc=>aJ rfl (c.p e3),aE 2 rfl fun c hpc=>aJ rfl (c.p e8),aE 2 rfl fun c hpc=>aK rfl aV bM (c.M 3 hpc) r0.isSl (c.M 4 hpc) (by have hq0:=bt hpc;omega) (by have hq0:=bt hpc;omega),aE 2 rfl fun c hpc=>cN rfl bB aZ (c.M 5 hpc),aE 2 rfl fun c hpc=>ay rfl bD (c.M 6 hpc) (((c.io 0 rfl).1.sl).elem (j:=0) (bu (i:=(m:Int)) (by have hq0:=bt hpc;omega) (by have hq0:=bt hpc;omega)) rfl),aE 2 rfl fun c hpc=>aJ rfl (c.p e7),aE 2 rfl fun c hpc=>aJ rfl (c.p e9),aE 2 rfl fun c hpc=>iA rfl (c.M 9 hpc) rfl (by have hq0:=bt hpc;omega),aE 2 rfl fun c hpc=>aK rfl aV bM (c.M 8 hpc) r1.isSl (c.M 10 hpc) (by have hq0:=bt hpc;omega) (by have hq0:=bt hpc;omega),aE 2 rfl fun c hpc=>cN rfl bB aZ (c.M 11 hpc),aE 2 rfl fun c hpc=>ay rfl bD (c.M 12 hpc) (((c.io 1 rfl).1.sl).elem (j:=1) (bu (i:=((go ((eK nF (xs.filter fj)).take m)).length:Int) - 1) (by have hq0:=bt hpc;omega) (by have hq0:=bt hpc;omega)) rfl),aE 2 rfl fun c hpc=>nB rfl (c.M 7 hpc) (c.M 13 hpc),bK 2 14,ax⟩ fun ac ag ae ab aa=> ?_;obtain ⟨e2,e3,e7,e8,e9,e91⟩:=aa.k6 e2 e3 e7 e8 e9 e91;have e111:=aa.V 15;replace r0:=aa.O 0;replace r1:=aa.O 1;refine wp_cond_split e111 (fun hc5=> ?_) (fun hc5=> ?_)
   · have hd5:=hc5;try simp only [aw,ai] at hd5
     refine rg [_,_,_,_,_,_,_,_,_,_,_,_,_,_,_,_,_,own _ _ _ 1 7 _] [0,0,2,0,0,16,56,120,248,0,0,1536,3584,7680,16376,32767,65535,131071] ab [jo r0,jo r1] ⟨ao e7,ao e9,am fun c=>iA rfl (c.q 1) rfl (by omega),ao e7,ao e9,am fun c=>iA rfl (c.q 4) rfl (by omega),am fun c=>aK rfl aV bM (c.q 3) r1.isSl (c.q 5) (by omega) (by omega),bw bB aZ 6 rfl,am fun c=>ay rfl bD (c.q 7) (((c.io 1 rfl).1.sl).elem (j:=1) (bu (i:=((go ((eK nF (xs.filter fj)).take m)).length:Int) - 1) (by omega) (by omega)) rfl),ao e3,ao e8,am fun c=>aK rfl aV bM (c.q 9) r0.isSl (c.q 10) (by omega) (by omega),bw bB aZ 11 rfl,am fun c=>ay rfl bD (c.q 12) (((c.io 0 rfl).1.sl).elem (j:=1) (bu (i:=(m:Int)) (by omega) (by omega)) rfl),am fun c=>EU rfl (c.q 8) (c.q 13),am fun c=>aK rfl aV bM (c.q 0) r1.isSl (c.q 2) (by omega) (by omega),bw bB aZ 15 rfl,mK (E:=ik) (i:=(((go ((eK nF (xs.filter fj)).take m)).length:Int) - 1).toNat) (off:=1) (u:=(aR (qp ((nth (go ((eK nF (xs.filter fj)).take m)) (((go ((eK nF (xs.filter fj)).take m)).length:Int) - 1)).2) ((nth (eK nF (xs.filter fj)) (m:Int)).2)))) (x:=nth (go ((eK nF (xs.filter fj)).take m)) (((go ((eK nF (xs.filter fj)).take m)).length:Int) - 1)) (x':=((nth (go ((eK nF (xs.filter fj)).take m)) (((go ((eK nF (xs.filter fj)).take m)).length:Int) - 1)).1,qp ((nth (go ((eK nF (xs.filter fj)).take m)) (((go ((eK nF (xs.filter fj)).take m)).length:Int) - 1)).2) ((nth (eK nF (xs.filter fj)) (m:Int)).2))) rfl rfl rfl rfl aZ (bu (by omega) (by (try simp only [dR]);omega)) (av rfl) (by simp [Value.cells,Value.oneCell',Sv.v]) rfl (fun _ a_ _ _ c=>⟨c.ip 1 rfl e7,c.ad (c.n 16 rfl) e7 (by rw [add_add];rfl),(c.n 14 rfl)⟩),ax⟩ fun ac ag ae ab aa=> ?_;obtain ⟨e2,e3,e7,e8,e9,e91,e111⟩:=aa.k7 e2 e3 e7 e8 e9 e91 e111;replace r0:=aa.O 0;replace r1:=aa.ro 17 e7 rfl;show _;refine eM ab [jo r0,jo r1] ⟨ao e8,am fun c=>cV rfl (c.q 0) rfl (by omega),aF 1,ax⟩ fun ac ag ae ab aa=> ?_;obtain ⟨e2,e3,e7,e9,e91,e111⟩:=aa.k6 e2 e3 e7 e9 e91 e111;have e8:=aa.V 2;replace r0:=aa.O 0;replace r1:=aa.O 1;refine ⟨⟨m+1,u,ae,?_,ab,e7,(e8.trans (bd (by omega))),e2,e3,?_,r0⟩,?_⟩
     · omega
     · exact r1.cast (by first | exact sL (by omega) (pm (by assumption)) | exact rC (by omega) (pm (by assumption)))
     · simp only [m8,e8,intOf];omega
   have hd5:=hc5;try simp only [aL,ah,aX] at hd5
   refine rg [_,_,_,_,_,own ik 89 _ 2 134 ([(nth (eK nF (xs.filter fj)) (m:Int))]),own _ _ _ 1 135 _,own _ _ _ 1 7 _] [0,0,0,6,14,30,63,127] ab [jo r0,jo r1] ⟨ao e7,ao e3,ao e8,am fun c=>aK rfl aV bM (c.q 1) r0.isSl (c.q 2) (by omega) (by omega),am fun c=>cT (vs:=[(aR ((nth (eK nF (xs.filter fj)) (m:Int)).1)),(aR ((nth (eK nF (xs.filter fj)) (m:Int)).2))]) rfl gY bM (c.q 3) rfl (fun _ _ hj=>((c.io 0 rfl).1.sl).elem (bu (i:=(m:Int)) (by omega) (by omega)) hj),dp (cells:=#[(aR ((nth (eK nF (xs.filter fj)) (m:Int)).1)),(aR ((nth (eK nF (xs.filter fj)) (m:Int)).2))]) rfl rfl rfl rfl aV bM cS rfl (by decide) (by decide) (fun _ _ _ _ c=>gH (c.n 4 rfl) (by kernel_rfl)) rfl,eW (t0:=7) rfl rfl rfl rfl aV (i:=Tryz.t89) rfl rfl rfl rfl (by simp only [maxLen];(try simp);omega) (by show _ * 32≤_;(try simp);omega) (fun _ _ _ _ c=>⟨c.ip 1 rfl e7,c.sm (c.n 0 rfl) e7,⟨_,rfl,(c.ro 5 rfl).1.sl⟩⟩),dK (t0:=135) rfl rfl rfl rfl rfl (.inr rfl) (fun _ _ _ _ c=>⟨c.ro 6 rfl,rfl⟩),ax⟩ fun ac ag ae ab aa=> ?_;obtain ⟨b23x134,e134⟩:=gx ac 134;obtain ⟨b23x7,e7⟩:=gx ac 7;obtain ⟨e2,e3,e8,e9,e91,e111⟩:=aa.k6 e2 e3 e8 e9 e91 e111;replace r0:=aa.O 0;replace r1:=aa.ro 7 e7 rfl;have r2:=aa.ro 5 e134 rfl;show _;refine eM ab [jo r0,jo r1,jo r2] ⟨ao e8,am fun c=>cV rfl (c.q 0) rfl (by omega),aF 1,ax⟩ fun ac ag ae ab aa=> ?_;obtain ⟨e2,e3,e7,e9,e91,e111⟩:=aa.k6 e2 e3 e7 e9 e91 e111;have e8:=aa.V 2;replace r0:=aa.O 0;replace r1:=aa.O 1;replace r2:=aa.O 2;refine ⟨⟨m+1,b23x7,ae,?_,ab,e7,(e8.trans (bd (by omega))),e2,e3,?_,r0⟩,?_⟩
   · omega
   · exact r1.cast (by first | exact sL (by omega) (pm (by assumption)) | exact rC (by omega) (pm (by assumption)))
   · simp only [m8,e8,intOf];omega
 try simp only [ah,aX] at hc4
 refine wp_exit ?_;repeat (with_reducible refine cn ?_)
 refine cr ?_;refine wp_seq (eC ab [jo r0,jo r1] ⟨ao e7,aF 0,ax⟩ fun ac ag ae ab aa=> ?_);have e2:=aa.V 1;replace r1:=aa.O 1;refine wp_ret ?_;refine rp ?_;refine cH (fn:=Tryz.f128) rfl ab.defers e2 ?_;replace r1:=r1.cast (show gD xs=_ from by rw [gD,bF (l:=(eK nF (xs.filter fj))) (by omega)]);exact ⟨_,rfl,ab.ext0,r1.1,fun g_ h_=>(ab.bnd _ g_ (r1.2 g_ h_)).1⟩
set_option maxRecDepth 100000 in
theorem FA (v:Value) (xs:List (ByteArray × ByteArray)) (s:ByteArray) (w:World) (hS:SlT ik w v xs):Calls Tryz.prog 133 #[v,(aR s)] w (fun e w'=>e= .returned (aA (uP xs s))∧Ext bc w w'):=by
 refine enter (n:=24) Tryz.func133 rfl rfl (av rfl) ?_;intro a0 τ0 ha st0;obtain ⟨e0,e1⟩:=qr ha;have hle:=hS.le;refine wp_seq (eB st0 [] ⟨am fun c=>ar rfl rfl,ax⟩ fun ac ag ae ab aa=> ?_);obtain ⟨e0,e1⟩:=aa.k2 e0 e1;have e4:=aa.V 0;refine wp_seq ?_;refine wp_seq (zO [0,1,0] ab [] ⟨ao e0,am fun c=>cX rfl aV (c.q 0) hS.sl,am fun c=>aJ rfl rfl,ax⟩ fun ac ag ae ab aa=> ?_);obtain ⟨e1,e4⟩:=aa.k2 e1 e4;have e7:=aa.V 0;have e8:=aa.V 1;have e9:=aa.V 2;refine wp_block ?_;refine wp_loop (fun a_ w_=>∃(k:Nat) (τ:Nat→aP),(k≤xs.length)∧
      (∀i < k,(oI (nth xs ((i:Nat):Int)).1 s&&oI s (nth xs ((i:Nat):Int)).2)=false)∧
      St (Nw w) w 24 a_ w_ τ∧
      aT a_ 9=(aj (k:Int))∧
      aT a_ 1=(aR s)∧
      aT a_ 7=v∧
      aT a_ 8=(aj (xs.length:Int))) (fun a_ _=>xs.length - (intOf (aT a_ 9)).toNat) ?_ ?_
 · refine ⟨0,ae,?_,?_,ab,(e9.trans (bd (by omega))),e1,e7,e8⟩
   · omega
   · intro i hi;omega
 intro a3 w3 hI;obtain ⟨k,τ3,q0,q1,st3,e9,e1,e7,e8⟩:=hI;have m9:=e9;refine wp_seq (eB st3 [] ⟨am fun c=>dh rfl (c.p e9) (c.p e8),ax⟩ fun ac ag ae ab aa=> ?_);obtain ⟨e1,e7,e8,e9⟩:=aa.k4 e1 e7 e8 e9;have e10:=aa.V 0;refine wp_seq ?_;refine wp_cond_split e10 (fun hc1=> ?_) (fun hc1=> ?_)
 · try simp only [ai] at hc1
   refine wp_skip ?_;refine wp_seq ?_;refine wp_block ?_;refine wp_seq (rg [_,_,box _ _ 0 6 [(aR (⟨#[]⟩:ByteArray)),(aR (⟨#[]⟩:ByteArray))],_] [0,1,0,7] ab [] ⟨am fun c=>aK rfl aV bM (c.p e7) hS.sl (c.p e9) (by omega) (by omega),am fun c=>cT (vs:=[(aR ((nth xs (k:Int)).1)),(aR ((nth xs (k:Int)).2))]) rfl gY bM (c.q 0) rfl (fun _ _ hj=>(hS.at (ab.ext.trans c.J.ext)).elem (bu (i:=(k:Int)) (by omega) (by omega)) hj),cB rfl rfl rfl rfl cS rfl,fZ (cx:=[(aR ((nth xs (k:Int)).1)),(aR ((nth xs (k:Int)).2))]) (off:=0) rfl bM fun c=>⟨c.rb 2 rfl,(c.rb 2 rfl).ptr,(c.q 1)⟩,ax⟩ fun ac ag ae ab aa=> ?_);obtain ⟨b5x6,e6⟩:=gx ac 6;obtain ⟨e1,e7,e8,e9,e10⟩:=aa.k5 e1 e7 e8 e9 e10;have r0:=aa.rb 3 e6 rfl;refine wp_seq (tJ [0,1,0,7,15,31,31,95,255,511] ab [jb r0] ⟨bZ bB aZ e6 r0.ptr,dq bD 0 0 0,ao e1,am fun c=>nB rfl (c.q 1) (c.q 2),bm 3,aE 4 rfl fun c hpc=>aJ rfl (c.p e1),aE 4 rfl fun c hpc=>cN rfl bB aZ ((c.p e6).trans r0.ptr),aE 4 rfl fun c hpc=>ay rfl bD (c.M 6 hpc) ((c.B 0).cell (j:=1) rfl),aE 4 rfl fun c hpc=>nB rfl (c.M 5 hpc) (c.M 7 hpc),bK 4 8,ax⟩ fun ac ag ae ab aa=> ?_);obtain ⟨e1,e6,e7,e8,e9,e10⟩:=aa.k6 e1 e6 e7 e8 e9 e10;have e22:=aa.V 9;replace r0:=aa.B 0;refine wp_cond_split e22 (fun hc2=> ?_) (fun hc2=> ?_)
   · have hd2:=hc2;try simp only [aw] at hd2
     refine wp_seq (eB ab [jb r0] ⟨am fun c=>ar rfl rfl,ax⟩ fun ac ag ae ab aa=> ?_);obtain ⟨e1,e6,e7,e8,e9,e10,e22⟩:=aa.k7 e1 e6 e7 e8 e9 e10 e22;have e4:=aa.V 0;replace r0:=aa.B 0;refine wp_ret ?_;refine rp ?_;refine cH (fn:=Tryz.f133) rfl ab.defers e4 ?_;exact ⟨congrArg _ (congrArg _ (by exact (xF (k:=k) (by omega) (by assumption)).symm)),ab.ext0⟩
   have hd2:=hc2;try simp only [aL] at hd2
   refine wp_skip ?_;show _;refine eC ab [jb r0] ⟨am fun c=>cV rfl (c.p e9) rfl (by omega),bm 0,ax⟩ fun ac ag ae ab aa=> ?_;obtain ⟨e1,e6,e7,e8,e10,e22⟩:=aa.k6 e1 e6 e7 e8 e10 e22;have e9:=aa.V 1;replace r0:=aa.B 0;refine ⟨⟨k+1,ae,?_,?_,ab,(e9.trans (bd (by omega))),e1,e7,e8⟩,?_⟩
   · omega
   · exact nZ (f:=fun i=>(oI (nth xs i).1 s&&oI s (nth xs i).2)) q1 (by assumption)
   · simp only [m9,e9,intOf];omega
 try simp only [ah,aX] at hc1
 refine wp_exit ?_;repeat (with_reducible refine cn ?_)
 refine cr ?_;refine wp_seq (eB ab [] ⟨am fun c=>ar rfl rfl,ax⟩ fun ac ag ae ab aa=> ?_);have e4:=aa.V 0;refine wp_ret ?_;refine rp ?_;refine cH (fn:=Tryz.f133) rfl ab.defers e4 ?_;exact ⟨congrArg _ (congrArg _ (by exact (AA (k:=k) (by omega) q1).symm)),ab.ext0⟩
set_option maxRecDepth 100000 in
theorem uD (v:Value) (xs:List (ByteArray × ByteArray)) (s:ByteArray) (w:World) (hS:SlT ik w v xs):Calls Tryz.prog 145 #[v,(aR s)] w (fun e w'=>e= .returned (aA (uP xs s))∧Ext bc w w'):=by
 refine enter (n:=28) Tryz.func145 rfl rfl (av rfl) ?_;intro a0 τ0 ha st0;obtain ⟨e0,e1⟩:=qr ha;have hle:=hS.le;refine wp_seq (eB st0 [] ⟨am fun c=>ar rfl rfl,ax⟩ fun ac ag ae ab aa=> ?_);obtain ⟨e0,e1⟩:=aa.k2 e0 e1;have e4:=aa.V 0;refine wp_seq ?_;refine wp_seq (eB ab [] ⟨am fun c=>ar rfl rfl,ax⟩ fun ac ag ae ab aa=> ?_);obtain ⟨e0,e1,e4⟩:=aa.k3 e0 e1 e4;have e5:=aa.V 0;refine wp_block ?_;refine wp_loop (fun a_ w_=>∃(k:Nat) (τ:Nat→aP),(k≤xs.length)∧
      (∀i < k,(oI (nth xs ((i:Nat):Int)).1 s&&oI s (nth xs ((i:Nat):Int)).2)=false)∧
      St (Nw w) w 28 a_ w_ τ∧
      aT a_ 5=(aj (k:Int))∧
      aT a_ 0=v∧
      aT a_ 1=(aR s)) (fun a_ _=>xs.length - (intOf (aT a_ 5)).toNat) ?_ ?_
 · refine ⟨0,ae,?_,?_,ab,(e5.trans (bd (by omega))),e0,e1⟩
   · omega
   · intro i hi;omega
 intro a3 w3 hI;obtain ⟨k,τ3,q0,q1,st3,e5,e0,e1⟩:=hI;have m5:=e5;refine wp_seq ?_;refine wp_seq (lD [0,0,2,7] st3 [] ⟨ao e5,ao e0,am fun c=>cX rfl aV (c.q 1) hS.sl,am fun c=>dh rfl (c.q 0) (c.q 2),ax⟩ fun ac ag ae ab aa=> ?_);obtain ⟨e0,e1,e5⟩:=aa.k3 e0 e1 e5;have e9:=aa.V 3;refine wp_cond_split e9 (fun hc1=> ?_) (fun hc1=> ?_)
 · try simp only [ai] at hc1
   refine wp_skip ?_;refine wp_seq ?_;refine wp_block ?_;refine wp_seq ?_;refine rg [_,_,_,_,_,_,_,_,_,_,_,_,_,_,_,_] [0,0,3,7,15,0,63,127,255,255,255,1791,3839,7935,16383,32767] ab [] ⟨ao e0,ao e5,am fun c=>aK rfl aV bM (c.q 0) hS.sl (c.q 1) (by omega) (by omega),bw bB aZ 2 rfl,am fun c=>ay rfl bD (c.q 3) ((hS.at (ab.ext.trans c.J.ext)).elem (j:=0) (bu (i:=(k:Int)) (by omega) (by omega)) rfl),ao e1,am fun c=>nB rfl (c.q 4) (c.q 5),bm 6,aE 7 rfl fun c hpc=>aJ rfl (c.p e1),aE 7 rfl fun c hpc=>aJ rfl (c.p e0),aE 7 rfl fun c hpc=>aJ rfl (c.p e5),aE 7 rfl fun c hpc=>aK rfl aV bM (c.M 9 hpc) hS.sl (c.M 10 hpc) (by have hq0:=hpc;omega) (by have hq0:=hpc;omega),aE 7 rfl fun c hpc=>cN rfl bB aZ (c.M 11 hpc),aE 7 rfl fun c hpc=>ay rfl bD (c.M 12 hpc) ((hS.at (ab.ext.trans c.J.ext)).elem (j:=1) (bu (i:=(k:Int)) (by have hq0:=hpc;omega) (by have hq0:=hpc;omega)) rfl),aE 7 rfl fun c hpc=>nB rfl (c.M 8 hpc) (c.M 13 hpc),bK 7 14,ax⟩ fun ac ag ae ab aa=> ?_;obtain ⟨e0,e1,e5,e9⟩:=aa.k4 e0 e1 e5 e9;have e27:=aa.V 15;refine wp_cond_split e27 (fun hc2=> ?_) (fun hc2=> ?_)
   · have hd2:=hc2;try simp only [aw] at hd2
     refine wp_seq (eB ab [] ⟨am fun c=>ar rfl rfl,ax⟩ fun ac ag ae ab aa=> ?_);obtain ⟨e0,e1,e5,e9,e27⟩:=aa.k5 e0 e1 e5 e9 e27;have e4:=aa.V 0;refine wp_ret ?_;refine rp ?_;refine cH (fn:=Tryz.f145) rfl ab.defers e4 ?_;exact ⟨congrArg _ (congrArg _ (by exact (xF (k:=k) (by omega) (by assumption)).symm)),ab.ext0⟩
   have hd2:=hc2;try simp only [aL] at hd2
   refine wp_skip ?_;show _;refine eM ab [] ⟨ao e5,am fun c=>cV rfl (c.q 0) rfl (by omega),aF 1,ax⟩ fun ac ag ae ab aa=> ?_;obtain ⟨e0,e1,e9,e27⟩:=aa.k4 e0 e1 e9 e27;have e5:=aa.V 2;refine ⟨⟨k+1,ae,?_,?_,ab,(e5.trans (bd (by omega))),e0,e1⟩,?_⟩
   · omega
   · exact nZ (f:=fun i=>(oI (nth xs i).1 s&&oI s (nth xs i).2)) q1 (by assumption)
   · simp only [m5,e5,intOf];omega
 try simp only [ah,aX] at hc1
 refine wp_exit ?_;repeat (with_reducible refine cn ?_)
 refine cr ?_;refine wp_seq (eB ab [] ⟨am fun c=>ar rfl rfl,ax⟩ fun ac ag ae ab aa=> ?_);have e4:=aa.V 0;refine wp_ret ?_;refine rp ?_;refine cH (fn:=Tryz.f145) rfl ab.defers e4 ?_;exact ⟨congrArg _ (congrArg _ (by exact (AA (k:=k) (by omega) q1).symm)),ab.ext0⟩
set_option maxRecDepth 100000 in
theorem se (n:Int) (w:World):Calls Tryz.prog 130 #[.int .u8 n] w (fun e w'=>∃v',e= .returned (.tuple #[v',aA (ie n)])∧Ext bc w w'∧oT ik 89 w w' v' (gE n)):=by
 refine enter (n:=21) Tryz.func130 rfl rfl (av rfl) ?_;intro a0 τ0 ha st0;have e0:=np ha;refine wp_seq (eC st0 [] ⟨am fun c=>ar rfl rfl,am fun c=>ar rfl rfl,ax⟩ fun ac ag ae ab aa=> ?_);replace e0:=aa.k1 e0;have e2:=aa.V 0;have e3:=aa.V 1;refine wp_seq ?_;refine wp_seq (eB ab [] ⟨ao e0,ax⟩ fun ac ag ae ab aa=> ?_);obtain ⟨e2,e3⟩:=aa.k2 e2 e3;have e4:=aa.V 0;refine wp_block ?_;refine wp_seq (eC ab [] ⟨am fun c=>bW rfl (c.p e4) rfl,aF 0,ax⟩ fun ac ag ae ab aa=> ?_);obtain ⟨e2,e3,e4⟩:=aa.k3 e2 e3 e4;have e5:=aa.V 1;refine wp_cond_split e5 (fun hc1=> ?_) (fun hc1=> ?_)
 · try simp only [ai] at hc1
   refine wp_seq (rg [_,own ik 89 _ 0 8 ([((⟨#[48]⟩:ByteArray),(⟨#[57]⟩:ByteArray))]),own _ _ _ 0 2 _,_] [0,1,3,7] ab [] ⟨am fun c=>qe (cells:=#[(aR (⟨#[48]⟩:ByteArray)),(aR (⟨#[57]⟩:ByteArray))]) rfl cS (im rfl rfl rfl),dp (cells:=#[(aR (⟨#[48]⟩:ByteArray)),(aR (⟨#[57]⟩:ByteArray))]) rfl rfl rfl rfl aV bM cS rfl (by decide) (by decide) (fun _ _ _ _ c=>gH (c.n 0 rfl) (by kernel_rfl)) rfl,dK (t0:=8) rfl rfl rfl rfl rfl (.inr rfl) (fun _ _ _ _ c=>⟨c.ro 1 rfl,rfl⟩),am fun c=>ar rfl rfl,ax⟩ fun ac ag ae ab aa=> ?_);obtain ⟨b4x2,e2⟩:=gx ac 2;replace e4:=aa.k1 e4;have e3:=aa.V 3;have r0:=aa.ro 2 e2 rfl;refine wp_ret ?_;refine rp ?_;refine jE (fn:=Tryz.f130) rfl ab.defers e2 e3 ?_;obtain ⟨k1,k2⟩:=(by first | exact pS (by assumption) | exact pT (by assumption) | exact pU (by assumption):gE n=[((⟨#[48]⟩:ByteArray),(⟨#[57]⟩:ByteArray))]∧ie n=true);rw [k1,k2];exact ⟨_,rfl,ab.ext0,r0.1,fun g_ h_=>(ab.bnd _ g_ (r0.2 g_ h_)).1⟩
 try simp only [ah] at hc1
 refine wp_seq (eC ab [] ⟨am fun c=>bW rfl (c.p e4) rfl,aF 0,ax⟩ fun ac ag ae ab aa=> ?_);obtain ⟨e2,e3,e4⟩:=aa.k3 e2 e3 e4;have e9:=aa.V 1;refine wp_cond_split e9 (fun hc2=> ?_) (fun hc2=> ?_)
 · try simp only [ai] at hc2
   refine wp_seq (rg [_,_,_,_,own ik 89 _ 0 15 ([((⟨#[48]⟩:ByteArray),(⟨#[57]⟩:ByteArray)),((⟨#[65]⟩:ByteArray),(⟨#[90]⟩:ByteArray)),((⟨#[95]⟩:ByteArray),(⟨#[95]⟩:ByteArray)),((⟨#[97]⟩:ByteArray),(⟨#[122]⟩:ByteArray))]),own _ _ _ 0 2 _,_] [0,0,0,0,15,31,63] ab [] ⟨am fun c=>qe (cells:=#[(aR (⟨#[48]⟩:ByteArray)),(aR (⟨#[57]⟩:ByteArray))]) rfl cS (im rfl rfl rfl),am fun c=>qe (cells:=#[(aR (⟨#[65]⟩:ByteArray)),(aR (⟨#[90]⟩:ByteArray))]) rfl cS (im rfl rfl rfl),am fun c=>qe (cells:=#[(aR (⟨#[95]⟩:ByteArray)),(aR (⟨#[95]⟩:ByteArray))]) rfl cS (im rfl rfl rfl),am fun c=>qe (cells:=#[(aR (⟨#[97]⟩:ByteArray)),(aR (⟨#[122]⟩:ByteArray))]) rfl cS (im rfl rfl rfl),dp (cells:=#[(aR (⟨#[48]⟩:ByteArray)),(aR (⟨#[57]⟩:ByteArray)),(aR (⟨#[65]⟩:ByteArray)),(aR (⟨#[90]⟩:ByteArray)),(aR (⟨#[95]⟩:ByteArray)),(aR (⟨#[95]⟩:ByteArray)),(aR (⟨#[97]⟩:ByteArray)),(aR (⟨#[122]⟩:ByteArray))]) rfl rfl rfl rfl aV bM cS rfl (by decide) (by decide) (fun _ _ _ _ c=>xv (c.n 0 rfl) (c.n 1 rfl) (c.n 2 rfl) (c.n 3 rfl) (by kernel_rfl)) rfl,dK (t0:=15) rfl rfl rfl rfl rfl (.inr rfl) (fun _ _ _ _ c=>⟨c.ro 4 rfl,rfl⟩),am fun c=>ar rfl rfl,ax⟩ fun ac ag ae ab aa=> ?_);obtain ⟨b6x2,e2⟩:=gx ac 2;replace e4:=aa.k1 e4;have e3:=aa.V 6;have r0:=aa.ro 5 e2 rfl;refine wp_ret ?_;refine rp ?_;refine jE (fn:=Tryz.f130) rfl ab.defers e2 e3 ?_;obtain ⟨k1,k2⟩:=(by first | exact pS (by assumption) | exact pT (by assumption) | exact pU (by assumption):gE n=[((⟨#[48]⟩:ByteArray),(⟨#[57]⟩:ByteArray)),((⟨#[65]⟩:ByteArray),(⟨#[90]⟩:ByteArray)),((⟨#[95]⟩:ByteArray),(⟨#[95]⟩:ByteArray)),((⟨#[97]⟩:ByteArray),(⟨#[122]⟩:ByteArray))]∧ie n=true);rw [k1,k2];exact ⟨_,rfl,ab.ext0,r0.1,fun g_ h_=>(ab.bnd _ g_ (r0.2 g_ h_)).1⟩
 try simp only [ah] at hc2
 refine wp_seq (eC ab [] ⟨am fun c=>bW rfl (c.p e4) rfl,aF 0,ax⟩ fun ac ag ae ab aa=> ?_);obtain ⟨e2,e3⟩:=aa.k2 e2 e3;have e16:=aa.V 1;refine wp_cond_split e16 (fun hc3=> ?_) (fun hc3=> ?_)
 · try simp only [ai] at hc3
   refine wp_seq (rg [_,_,own ik 89 _ 0 20 ([((⟨#[9]⟩:ByteArray),(⟨#[13]⟩:ByteArray)),((⟨#[32]⟩:ByteArray),(⟨#[32]⟩:ByteArray))]),own _ _ _ 0 2 _,_] [0,0,3,7,15] ab [] ⟨am fun c=>qe (cells:=#[(aR (⟨#[9]⟩:ByteArray)),(aR (⟨#[13]⟩:ByteArray))]) rfl cS (im rfl rfl rfl),am fun c=>qe (cells:=#[(aR (⟨#[32]⟩:ByteArray)),(aR (⟨#[32]⟩:ByteArray))]) rfl cS (im rfl rfl rfl),dp (cells:=#[(aR (⟨#[9]⟩:ByteArray)),(aR (⟨#[13]⟩:ByteArray)),(aR (⟨#[32]⟩:ByteArray)),(aR (⟨#[32]⟩:ByteArray))]) rfl rfl rfl rfl aV bM cS rfl (by decide) (by decide) (fun _ _ _ _ c=>im (c.n 0 rfl) (c.n 1 rfl) (by kernel_rfl)) rfl,dK (t0:=20) rfl rfl rfl rfl rfl (.inr rfl) (fun _ _ _ _ c=>⟨c.ro 2 rfl,rfl⟩),am fun c=>ar rfl rfl,ax⟩ fun ac ag ae ab aa=> ?_);obtain ⟨b8x2,e2⟩:=gx ac 2;have e3:=aa.V 4;have r0:=aa.ro 3 e2 rfl;refine wp_ret ?_;refine rp ?_;refine jE (fn:=Tryz.f130) rfl ab.defers e2 e3 ?_;obtain ⟨k1,k2⟩:=(by first | exact pS (by assumption) | exact pT (by assumption) | exact pU (by assumption):gE n=[((⟨#[9]⟩:ByteArray),(⟨#[13]⟩:ByteArray)),((⟨#[32]⟩:ByteArray),(⟨#[32]⟩:ByteArray))]∧ie n=true);rw [k1,k2];exact ⟨_,rfl,ab.ext0,r0.1,fun g_ h_=>(ab.bnd _ g_ (r0.2 g_ h_)).1⟩
 try simp only [ah] at hc3
 refine wp_skip ?_;show _;refine wp_seq (eC ab [] ⟨am fun c=>ar rfl rfl,am fun c=>ar rfl rfl,ax⟩ fun ac ag ae ab aa=> ?_);have e2:=aa.V 0;have e3:=aa.V 1;refine wp_ret ?_;refine rp ?_;refine jE (fn:=Tryz.f130) rfl ab.defers e2 e3 ?_;obtain ⟨k1,k2⟩:=Bs (n:=n) (by assumption) (by assumption) (by assumption);rw [k1,k2];exact ⟨_,rfl,ab.ext0,iZ.nil _ _ _,fun g_ h_=>by simp [Value.ownBlock] at h_⟩
end
section
open Go.RowKit
open Srt
theorem eb.sn {α:Type} {E:Enc α} {ty:Nat} {xs:List α} {T:aP} {v:Value} {w W:World} (h:eb E ty xs T v w) (hT:∀g,T g→W.heap.size≤g):SlT E w v xs∧(xs≠ []→W.heap.size≤(cW v).block):=⟨h.1.sl,fun hn=>hT _ (h.blk hn)⟩
set_option maxRecDepth 100000 in
theorem Bt (v:Value) (cv:Sv) (cs:List ByteArray) (i:Nat) (w:World) (hR:RdR 68 v cv cs i w) (hL:nd cs) (hi:i≤cs.length+5):Calls Tryz.prog 127 #[v] w (fun e w'=>∃b:Sv,e= .returned (.tuple #[b.v,aR (bI cs i).2.1,aA (bI cs i).2.2.1])∧Ext (bJ v) w w'∧cd 68 [cv.v,aj (((bI cs i).2.2.2:Nat):Int)] (bJ v) v w'∧SlT ik w' b.v (bI cs i).1∧((bI cs i).1≠ []→w.heap.size≤(cW b.v).block)):=by
 refine ez (bJ v) (fun g hg=>hR.box.lt g hg) (n:=62) Tryz.func127 rfl rfl (av rfl) ?_;intro a0 τ0 ha hτ st0;have e0:=np ha;have hL1:=hL.1;have r0:cd 68 [cv.v,aj ((i:Nat):Int)] (τ0 0) v w:=by rw [hτ];exact hR.box
 have r9:Fz (dL fq Al cv.v cs) τ0 w:=hR.inz st0;refine wp_seq (eM st0 [jb r0,jz 9 r9] ⟨am fun c=>ar rfl rfl,am fun c=>ar rfl rfl,am fun c=>ar rfl rfl,ax⟩ fun ac ag ae ab aa=> ?_);replace e0:=aa.k1 e0;have e2:=aa.V 0;have e3:=aa.V 1;have e4:=aa.V 2;replace r0:=aa.B 0;replace r9:=aa.z1 9;refine wp_seq (eM ab [jb r0,jz 9 r9] ⟨ao e0,dU fun c=>⟨_,_,(bq rfl rfl fT (c.q 0)),mz v cv cs i _ (kK (c.B 0) (c.iz 9 rfl) (fun g_ h_ hz_=>hz_.2 _ h_))⟩,aF 1,ax⟩ fun ac ag ae ab aa=> ?_);obtain ⟨e0,e2,e3,e4⟩:=aa.k4 e0 e2 e3 e4;have e5:=aa.V 2;replace r0:=aa.B 0;replace r9:=aa.z1 9;refine wp_seq ?_;refine wp_seq (Ex ab [jb r0,jz 9 r9] ⟨ao e5,am fun c=>gn rfl (c.q 0) rfl,bm 1,bo 2 rfl fun c hpc=>aJ rfl (c.p e5),bo 2 rfl fun c hpc=>gn rfl (c.M 3 hpc) rfl,dD 2 4,ax⟩ fun ac ag ae ab aa=> ?_);obtain ⟨e0,e2,e3,e4,e5⟩:=aa.k5 e0 e2 e3 e4 e5;have e17:=aa.V 5;replace r0:=aa.B 0;replace r9:=aa.z1 9;refine wp_cond_split e17 (fun hc1=> ?_) (fun hc1=> ?_)
 · have hd1:=hc1;try simp only [aN] at hd1
   refine wp_seq (eM ab [jb r0,jz 9 r9] ⟨am fun c=>ar rfl rfl,am fun c=>ar rfl rfl,am fun c=>ar rfl rfl,ax⟩ fun ac ag ae ab aa=> ?_);obtain ⟨e0,e5⟩:=aa.k2 e0 e5;have e2:=aa.V 0;have e3:=aa.V 1;have e4:=aa.V 2;replace r0:=aa.B 0;replace r9:=aa.z1 9;refine wp_ret ?_;refine rp ?_;refine jS (fn:=Tryz.f127) rfl ab.defers e2 e3 e4 ?_;have he_:bI cs i=([],(⟨#[]⟩:ByteArray),false,i):=by unfold bI;(repeat (first | rw [if_neg (by first | assumption | (simp only [aQ];assumption) | (simp only [aU];assumption))] | rw [if_pos (by assumption)]));(try rfl)
   rw [he_];exact ⟨Sv.nil,rfl,ab.extIn,r0.foot,SlT.nil _ _,fun h=>absurd rfl h⟩
 have hd1:=hc1;try simp only [aG] at hd1
 refine wp_skip ?_;refine wp_seq ?_;have hlt_:i < cs.length:=by
   have h_:(iI (cO cs i) (⟨#[]⟩:ByteArray) || iI (cO cs i) (⟨#[93]⟩:ByteArray))=false:=by assumption
   rw [aG] at h_;exact na h_.1
 refine wi ab [jb r0,jz 9 r9] ⟨ao e0,bL 0 r0.ptr,bw aY au 1 r0.ptr,dq aC 2 0 1,am fun c=>cV rfl (c.q 3) rfl (by omega),bL 0 r0.ptr,bw aY au 5 r0.ptr,ck (cx:=[cv.v,(aj (((i:Nat):Int)+1))]) au fun c=>⟨c.bp 0 rfl e0,c.ad (c.q 6) e0 rfl,(c.q 4)⟩,ax⟩ fun ac ag ae ab aa=> ?_;obtain ⟨e0,e2,e3,e4,e5⟩:=aa.k5 e0 e2 e3 e4 e5;replace r0:=aa.RB 7 e0;replace r9:=aa.z1 9;replace r0:cd 68 [cv.v,aj ((i+1:Nat):Int)] (ae 0) v ag:=by rw [show ((i+1:Nat):Int)=((i:Nat):Int)+1 from by omega];exact r0
 refine wp_seq ?_;refine wp_seq (eC ab [jb r0,jz 9 r9] ⟨ao e5,am fun c=>lT rfl (c.q 0) rfl,ax⟩ fun ac ag ae ab aa=> ?_);obtain ⟨e0,e2,e3,e4,e5⟩:=aa.k5 e0 e2 e3 e4 e5;have e26:=aa.V 1;replace r0:=aa.B 0;replace r9:=aa.z1 9;refine wp_cond_split e26 (fun hc2=> ?_) (fun hc2=> ?_)
 · try simp only [aB,az] at hc2
   refine wp_seq (lD [0,0,3,7] ab [jb r0,jz 9 r9] ⟨ao e5,am fun c=>ar rfl rfl,aF 0,am fun c=>ar rfl rfl,ax⟩ fun ac ag ae ab aa=> ?_);obtain ⟨e0,e5⟩:=aa.k2 e0 e5;have e2:=aa.V 1;have e3:=aa.V 2;have e4:=aa.V 3;replace r0:=aa.B 0;replace r9:=aa.z1 9;refine wp_ret ?_;refine rp ?_;refine jS (fn:=Tryz.f127) rfl ab.defers e2 e3 e4 ?_;have he_:bI cs i=([],cO cs i,true,i+1):=by unfold bI;(repeat (first | rw [if_neg (by first | assumption | (simp only [aQ];assumption) | (simp only [aU];assumption))] | rw [if_pos (by assumption)]));(try rfl)
   rw [he_];exact ⟨Sv.nil,rfl,ab.extIn,r0.foot,SlT.nil _ _,fun h=>absurd rfl h⟩
 try simp only [aB,az] at hc2
 refine wp_skip ?_;refine wp_seq (eM ab [jb r0,jz 9 r9] ⟨ao e0,dU fun c=>⟨_,_,(bq rfl rfl fT (c.q 0)),mz v cv cs (i+1) _ (kK (c.B 0) (c.iz 9 rfl) (fun g_ h_ hz_=>hz_.2 _ h_))⟩,aF 1,ax⟩ fun ac ag ae ab aa=> ?_);obtain ⟨e0,e2,e3,e4⟩:=aa.k4 e0 e2 e3 e4;have e5:=aa.V 2;replace r0:=aa.B 0;replace r9:=aa.z1 9;refine wp_seq ?_;refine wp_seq (eM ab [jb r0,jz 9 r9] ⟨ao e5,am fun c=>gA rfl ba (c.q 0),am fun c=>bW rfl (c.q 1) rfl,ax⟩ fun ac ag ae ab aa=> ?_);obtain ⟨e0,e2,e3,e4,e5⟩:=aa.k5 e0 e2 e3 e4 e5;have e32:=aa.V 2;replace r0:=aa.B 0;replace r9:=aa.z1 9;refine wp_cond_split e32 (fun hc3=> ?_) (fun hc3=> ?_)
 · try simp only [ai] at hc3
   refine wp_seq (rg [_,_,tup _ _ _ 1 36 _ _,tup _ _ _ 1 33 _ _,own _ _ _ 1 37 _,_,own _ _ _ 1 6 _,_] [0,1,3,7,15,15,31,127] ab [jb r0,jz 9 r9] ⟨ao e5,am fun c=>gL rfl ba (c.q 0) rfl (by omega) (by omega),wn rfl rfl rfl (fun _ a_ _ _ c=>⟨_,_,(bq rfl rfl Tryz.call130 (c.q 1)),se (ca (cO cs (i+1)) 0) _⟩),dK (t0:=36) rfl rfl rfl rfl rfl (.inl rfl) (fun _ _ _ _ c=>⟨c.rtup 2 rfl rfl (by kernel_rfl),rfl⟩),zX (t0:=33) (k:=(aA (ie (ca (cO cs (i+1)) 0)))) rfl rfl rfl rfl (fun _ _ _ _ c=>c.rtup 3 rfl rfl (by kernel_rfl)),am fun c=>c.part1 3 rfl rfl rfl,dK (t0:=37) rfl rfl rfl rfl rfl (.inr rfl) (fun _ _ _ _ c=>⟨c.ro 4 rfl,rfl⟩),aF 5,ax⟩ fun ac ag ae ab aa=> ?_);obtain ⟨b10x6,e6⟩:=gx ac 6;obtain ⟨e0,e2,e3,e4,e5⟩:=aa.k5 e0 e2 e3 e4 e5;have e7:=aa.V 7;replace r0:=aa.B 0;have r1:=aa.ro 6 e6 rfl;replace r9:=aa.z1 9;refine wp_seq (eB ab [jb r0,jo r1,jz 9 r9] ⟨ao e7,ax⟩ fun ac ag ae ab aa=> ?_);obtain ⟨e0,e2,e3,e4,e5,e6⟩:=aa.k6 e0 e2 e3 e4 e5 e6;have e39:=aa.V 0;replace r0:=aa.B 0;replace r1:=aa.O 1;replace r9:=aa.z1 9;refine wp_cond_split e39 (fun hc4=> ?_) (fun hc4=> ?_)
   · skip;refine wp_seq ?_;have hnm:(decide (((cO cs (i+1)).size:Int)=1)&&ie (ca (cO cs (i+1)) 0))=true:=by rw [aw];exact ⟨decide_eq_true (by assumption),by assumption⟩
     refine wi ab [jb r0,jo r1,jz 9 r9] ⟨ao e0,bL 0 r0.ptr,bw aY au 1 r0.ptr,dq aC 2 0 1,am fun c=>cV rfl (c.q 3) rfl (by omega),bL 0 r0.ptr,bw aY au 5 r0.ptr,ck (cx:=[cv.v,(aj (((i+1:Nat):Int)+1))]) au fun c=>⟨c.bp 0 rfl e0,c.ad (c.q 6) e0 rfl,(c.q 4)⟩,ax⟩ fun ac ag ae ab aa=> ?_;obtain ⟨e0,e2,e3,e4,e5,e6⟩:=aa.k6 e0 e2 e3 e4 e5 e6;replace r0:=aa.RB 7 e0;replace r1:=aa.O 1;replace r9:=aa.z1 9;replace r0:cd 68 [cv.v,aj ((i+2:Nat):Int)] (ae 0) v ag:=by rw [show ((i+2:Nat):Int)=((i+1:Nat):Int)+1 from by omega];exact r0
     refine wp_seq (yF ab [jb r0,jo r1,jz 9 r9] ⟨ao e6,aF 0,am fun c=>ar rfl rfl,am fun c=>ar rfl rfl,ax⟩ fun ac ag ae ab aa=> ?_);obtain ⟨e0,e5⟩:=aa.k2 e0 e5;have e2:=aa.V 1;have e3:=aa.V 2;have e4:=aa.V 3;replace r0:=aa.B 0;replace r1:=aa.O 1;replace r9:=aa.z1 9;refine wp_ret ?_;refine rp ?_;refine jS (fn:=Tryz.f127) rfl ab.defers e2 e3 e4 ?_;have he_:bI cs i=(gE (ca (cO cs (i+1)) 0),(⟨#[]⟩:ByteArray),true,i+2):=by unfold bI;(repeat (first | rw [if_neg (by first | assumption | (simp only [aQ];assumption) | (simp only [aU];assumption))] | rw [if_pos (by assumption)]));(try rfl)
     rw [he_];obtain ⟨sv_,rfl⟩:=r1.isSl.sv;exact ⟨sv_,rfl,ab.extIn,r0.foot,r1.sn (fun g_ h_=>((ab.bnd _ g_ h_).1.resolve_left (fun hp_=>absurd (ab.disj _ _ g_ h_ (r0.own hp_)) (by decide))))⟩
   skip;refine wp_skip ?_;refine wp_seq ?_;have hnm:(decide (((cO cs (i+1)).size:Int)=1)&&ie (ca (cO cs (i+1)) 0))=false:=by rw [aL];first | (right;assumption) | (left;exact decide_eq_false (by assumption))
   refine so [0,1,3,7,7,15,63] ab [jb r0,jo r1,jz 9 r9] ⟨ao e5,dU fun c=>⟨_,_,(bq rfl rfl mD (c.q 0)),yc (cO cs (i+1)) _⟩,bm 1,cG 2,cG 2,aF 3,aF 4,ax⟩ fun ac ag ae ab aa=> ?_;obtain ⟨e0,e2,e3,e4⟩:=aa.k4 e0 e2 e3 e4;have e8:=aa.V 5;have e9:=aa.V 6;replace r0:=aa.B 0;replace r9:=aa.z1 9;refine wp_seq (wi ab [jb r0,jz 9 r9] ⟨ao e0,bL 0 r0.ptr,bw aY au 1 r0.ptr,dq aC 2 0 1,am fun c=>cV rfl (c.q 3) rfl (by omega),bL 0 r0.ptr,bw aY au 5 r0.ptr,ck (cx:=[cv.v,(aj (((i+1:Nat):Int)+1))]) au fun c=>⟨c.bp 0 rfl e0,c.ad (c.q 6) e0 rfl,(c.q 4)⟩,ax⟩ fun ac ag ae ab aa=> ?_);obtain ⟨e0,e2,e3,e4,e8,e9⟩:=aa.k6 e0 e2 e3 e4 e8 e9;replace r0:=aa.RB 7 e0;replace r9:=aa.z1 9;replace r0:cd 68 [cv.v,aj ((i+2:Nat):Int)] (ae 0) v ag:=by rw [show ((i+2:Nat):Int)=((i+1:Nat):Int)+1 from by omega];exact r0
   refine wp_seq (xy [0,0,0,5,15] ab [jb r0,jz 9 r9] ⟨ao e8,ao e9,am fun c=>ar rfl rfl,aF 0,aF 1,ax⟩ fun ac ag ae ab aa=> ?_);replace e0:=aa.k1 e0;have e2:=aa.V 2;have e3:=aa.V 3;have e4:=aa.V 4;replace r0:=aa.B 0;replace r9:=aa.z1 9;refine wp_ret ?_;refine rp ?_;refine jS (fn:=Tryz.f127) rfl ab.defers e2 e3 e4 ?_;have he_:bI cs i=([],(fG (cO cs (i+1))).1,(fG (cO cs (i+1))).2,i+2):=by unfold bI;(repeat (first | rw [if_neg (by first | assumption | (simp only [aQ];assumption) | (simp only [aU];assumption))] | rw [if_pos (by assumption)]));(try rfl)
   rw [he_];exact ⟨Sv.nil,rfl,ab.extIn,r0.foot,SlT.nil _ _,fun h=>absurd rfl h⟩
 try simp only [ah] at hc3
 refine wp_skip ?_;refine wp_seq ?_;have hnm:(decide (((cO cs (i+1)).size:Int)=1)&&ie (ca (cO cs (i+1)) 0))=false:=by rw [aL];first | (right;assumption) | (left;exact decide_eq_false (by assumption))
 refine so [0,1,3,7,7,15,63] ab [jb r0,jz 9 r9] ⟨ao e5,dU fun c=>⟨_,_,(bq rfl rfl mD (c.q 0)),yc (cO cs (i+1)) _⟩,bm 1,cG 2,cG 2,aF 3,aF 4,ax⟩ fun ac ag ae ab aa=> ?_;obtain ⟨e0,e2,e3,e4⟩:=aa.k4 e0 e2 e3 e4;have e8:=aa.V 5;have e9:=aa.V 6;replace r0:=aa.B 0;replace r9:=aa.z1 9;refine wp_seq (wi ab [jb r0,jz 9 r9] ⟨ao e0,bL 0 r0.ptr,bw aY au 1 r0.ptr,dq aC 2 0 1,am fun c=>cV rfl (c.q 3) rfl (by omega),bL 0 r0.ptr,bw aY au 5 r0.ptr,ck (cx:=[cv.v,(aj (((i+1:Nat):Int)+1))]) au fun c=>⟨c.bp 0 rfl e0,c.ad (c.q 6) e0 rfl,(c.q 4)⟩,ax⟩ fun ac ag ae ab aa=> ?_);obtain ⟨e0,e2,e3,e4,e8,e9⟩:=aa.k6 e0 e2 e3 e4 e8 e9;replace r0:=aa.RB 7 e0;replace r9:=aa.z1 9;replace r0:cd 68 [cv.v,aj ((i+2:Nat):Int)] (ae 0) v ag:=by rw [show ((i+2:Nat):Int)=((i+1:Nat):Int)+1 from by omega];exact r0
 refine wp_seq (xy [0,0,0,5,15] ab [jb r0,jz 9 r9] ⟨ao e8,ao e9,am fun c=>ar rfl rfl,aF 0,aF 1,ax⟩ fun ac ag ae ab aa=> ?_);replace e0:=aa.k1 e0;have e2:=aa.V 2;have e3:=aa.V 3;have e4:=aa.V 4;replace r0:=aa.B 0;replace r9:=aa.z1 9;refine wp_ret ?_;refine rp ?_;refine jS (fn:=Tryz.f127) rfl ab.defers e2 e3 e4 ?_;have he_:bI cs i=([],(fG (cO cs (i+1))).1,(fG (cO cs (i+1))).2,i+2):=by unfold bI;(repeat (first | rw [if_neg (by first | assumption | (simp only [aQ];assumption) | (simp only [aU];assumption))] | rw [if_pos (by assumption)]));(try rfl)
 rw [he_];exact ⟨Sv.nil,rfl,ab.extIn,r0.foot,SlT.nil _ _,fun h=>absurd rfl h⟩
end
end B
end Go.Proofs.YtcfdebjhikahfaaGreat
