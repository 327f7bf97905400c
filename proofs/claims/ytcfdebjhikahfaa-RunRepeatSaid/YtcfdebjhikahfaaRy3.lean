import Derived.Test.YtcfdebjhikahfaaRy2
set_option linter.unusedSimpArgs false
set_option linter.unusedVariables false
set_option linter.unusedSectionVars false
namespace Go.Proofs.Ytcfdebjhikahfaa
section
open Go.RowKit
abbrev aV:=@Bool.not_eq_false
abbrev kC:=@Int.le_trans
abbrev kT:=@Int.lt_of_lt_of_le
abbrev fW:=@Try.call45
abbrev dC:=@Try.call48
abbrev gv:=@Try.call80
abbrev oe:=@Try.call92
abbrev cJ:=@Try.isAgg26
abbrev mt:=@Try.isAgg5
abbrev gn:=@Try.sizeOf5
abbrev gG:=@Try.underlying5
abbrev df:=@Try.underlying64
abbrev hN:=@Try.zeroValue3
end
namespace B
section
open Go.RowKit
open Srt
theorem xA (v u:Value) (ts:List Tr) (ks:List Int) (w:World) (hS:SlT nd w v ts) (hU:SlT jE w u ks):Calls Try.prog 83 #[v,u] w (fun e w'=>e= .returned (.bool (ts.any fun x=>ks.any fun y=>decide (x.k=y)))∧Ext bk w w'):=by
  obtain ⟨s,rfl⟩:=hU.sl.sv;exact Ej v s ts ks w hS hU
theorem AC {t:Tr} (h:fR t≤1000000):oZ t.rows:=fun r hr=>by
  have h1:=Cd hr;have h2:=lj t;have h3:0≤dD (t.kids.map fR):=iC fun x hx=>by
    obtain ⟨k,hk,rfl⟩:=List.mem_map.1 hx;have:=lF k;omega
  omega
def ob (t:Tr) (ks:List Int):Bool:=(t.kids).any fun x_=>ks.any fun y_=>decide (x_.k=y_)
def mm (t:Tr):Bool:=lr t.ch t.ng t.rows t.mn t.mx t.lz
def dB (t:Tr):Bool:=
  if t.k=2 then (lr (⟨#[]⟩:ByteArray) t.ng t.rows t.mn t.mx t.lz&&decide ((t.kids.length:Int)=0))&&ei t.ch
  else if t.k=4 then (lr t.ch false [] t.mn t.mx t.lz&&decide ((t.kids.length:Int)=0))&&mM t.rows
  else if t.k=7 then ((((lr t.ch t.ng t.rows 0 0 false&&decide ((t.kids.length:Int)=1))&&pN (nth t.kids 0).k)&&decide (0≤t.mn))&&decide (t.mn≤255))&&(decide (t.mx= -1) || (decide (t.mn≤t.mx)&&decide (t.mx≤255)))
  else if t.k=0 then (mm t&& !decide ((t.kids.length:Int)=1))&& !ob t [0,1]
  else if t.k=1 then (mm t&&decide (1 < (t.kids.length:Int)))&& !ob t [1]
  else if t.k=5∨t.k=6 then mm t&&decide ((t.kids.length:Int)=1)
  else if t.k=3∨t.k=8∨t.k=9∨t.k=10∨t.k=11 then mm t&&decide ((t.kids.length:Int)=0)
  else false
set_option maxRecDepth 100000 in
theorem vn (t:Tr) (w:World) (hT:sy w t) (hP:fR t≤1000000):Calls Try.prog 67 #[(ta t)] w (fun e w'=>e= .returned (aD (dB t))∧Ext bk w w'):=by
 refine enter (n:=149) Try.func67 rfl rfl (ar rfl) ?_;intro a0 τ0 ha st0;have e0:aU a0 0=(ta t):=ha 0 _ rfl;clear ha;have hle:=hT.kids.le;have hle2:=hT.rows.le;have hwt:=iY t;have hsm:=AC hP;refine wp_seq (rg [box _ _ 0 1 (tc t),_] [0,0] st0 [] ⟨jh (v:=(ta t)) rfl rfl rfl rfl rfl (fun _ _ _ _ c=>(c.p e0)),ao fun c=>aw rfl rfl,au⟩ fun ac ag ae ab aa=> ?_);obtain ⟨b1x1,e1⟩:=gx ac 1;have e2:=aa.V 1;have r0:=aa.rb 0 e1 rfl;refine wp_seq ?_;refine wp_seq (eL ab [jb r0] ⟨cy aC ax e1 r0.ptr,fk aF 0 0 0,au⟩ fun ac ag ae ab aa=> ?_);obtain ⟨e1,e2⟩:=aa.k2 e1 e2;have e8:=aa.V 1;replace r0:=aa.B 0;refine wp_block ?_;refine wp_seq (eL ab [jb r0] ⟨ao fun c=>cF rfl (c.p e8) rfl,aI 0,au⟩ fun ac ag ae ab aa=> ?_);obtain ⟨e1,e2,e8⟩:=aa.k3 e1 e2 e8;have e9:=aa.V 1;replace r0:=aa.B 0;refine wp_cond_split e9 (fun hc1=> ?_) (fun hc1=> ?_)
 · try simp only [ah] at hc1
   refine wp_seq (fa ab [jb r0] ⟨cy aC bu e1 r0.ptr,fk bP 0 0 1,aI 1,au⟩ fun ac ag ae ab aa=> ?_);obtain ⟨e1,e2,e8⟩:=aa.k3 e1 e2 e8;have e3:=aa.V 2;replace r0:=aa.B 0;refine wp_seq (eL ab [jb r0] ⟨cy aC bu e1 r0.ptr,cu (cx:=[(aj t.k),(aR (⟨#[]⟩:ByteArray)),(aD t.ng),t.rv.v,(aj t.mn),(aj t.mx),(aD t.lz),t.kv.v]) (v:=(aR (⟨#[]⟩:ByteArray))) bu fun c=>⟨c.bp 0 rfl e1,c.ad (c.q 0) e1 rfl,rfl⟩,au⟩ fun ac ag ae ab aa=> ?_);obtain ⟨e1,e2,e3,e8⟩:=aa.k4 e1 e2 e3 e8;replace r0:=aa.RB 1 e1;refine wp_seq ?_;refine rg [_,_,_,_,_,_,_,_,_,_,_,_,_] [0,1,3,7,15,31,63,127,255,511,1023,2047,4095] ab [jb r0] ⟨ao fun c=>fm rfl aJ aq ((c.p e1).trans r0.ptr) (c.B 0),ey fun c=>⟨_,_,(bI rfl rfl gv (c.q 0)),kx t.k (⟨#[]⟩:ByteArray) t.ng t.rv.v t.rows t.mn t.mx t.lz t.kv.v rfl _ (hT.at (ab.ext.trans c.J.ext)).rows⟩,bm 1,ay 2 rfl fun c hpc=>cM rfl aC cT ((c.p e1).trans r0.ptr),ay 2 rfl fun c hpc=>aB rfl dV (c.M 3 hpc) ((c.B 0).cell (j:=7) rfl),ay 2 rfl fun c hpc=>dh rfl bl (c.M 4 hpc) (hT.at ab.ext).tl.sl.sl,ay 2 rfl fun c hpc=>cF rfl (c.M 5 hpc) rfl,bC 2 6,bm 7,ay 8 rfl fun c hpc=>aM rfl (c.p e3),fK 8 true rfl fun c hpc=>⟨_,_,(bI rfl rfl Try.call5 (c.M 9 hpc)),rJ t.ch _ (by have hq0:=hpc;(try simp only [am,ah] at hq0);omega)⟩,bC 8 10,aI 11,au⟩ fun ac ag ae ab aa=> ?_;obtain ⟨e1,e8⟩:=aa.k2 e1 e8;have e2:=aa.V 12;replace r0:=aa.B 0;refine wp_ret ?_;refine rp ?_;refine cO (fn:=Try.f67) rfl ab.defers e2 ?_;exact ⟨congrArg _ (congrArg _ (by unfold dB;(repeat (first | rw [if_neg (by omega)] | rw [if_pos (by omega)]));(try rfl))),ab.ext0⟩
 try simp only [ai] at hc1
 refine wp_seq (eL ab [jb r0] ⟨ao fun c=>cF rfl (c.p e8) rfl,aI 0,au⟩ fun ac ag ae ab aa=> ?_);obtain ⟨e1,e2,e8⟩:=aa.k3 e1 e2 e8;have e26:=aa.V 1;replace r0:=aa.B 0;refine wp_cond_split e26 (fun hc2=> ?_) (fun hc2=> ?_)
 · try simp only [ah] at hc2
   refine wp_seq (fa ab [jb r0] ⟨cy aC gj e1 r0.ptr,fk lA 0 0 3,aI 1,au⟩ fun ac ag ae ab aa=> ?_);obtain ⟨e1,e2,e8⟩:=aa.k3 e1 e2 e8;have e4:=aa.V 2;replace r0:=aa.B 0;refine wp_seq ?_;refine bL ?_;refine dy 3 (by kernel_rfl) ?_;refine og [_,_,_] [0,1,3] ab [jb r0] ⟨cy aC gj e1 r0.ptr,cu (cx:=[(aj t.k),(aR t.ch),(aD t.ng),(.slice none 0 0),(aj t.mn),(aj t.mx),(aD t.lz),t.kv.v]) (v:=(.slice none 0 0)) gj fun c=>⟨c.bp 0 rfl e1,c.ad (c.q 0) e1 rfl,rfl⟩,cy aC bK e1 r0.ptr,au⟩ fun ac ag ae ab aa=> ?_;obtain ⟨e1,e2,e4,e8⟩:=aa.k4 e1 e2 e4 e8;have e31:=aa.V 2;replace r0:=aa.RB 1 e1;refine dA ?_;refine og [_] [0] ab [jb r0] ⟨cu (cx:=[(aj t.k),(aR t.ch),(aD false),(.slice none 0 0),(aj t.mn),(aj t.mx),(aD t.lz),t.kv.v]) (v:=(aD false)) bK fun c=>⟨c.bp 0 rfl e1,c.ad (c.p e31) e1 rfl,rfl⟩,au⟩ fun ac ag ae ab aa=> ?_;obtain ⟨e1,e2,e4,e8⟩:=aa.k4 e1 e2 e4 e8;replace r0:=aa.RB 0 e1;refine wp_seq ?_;refine rg [_,_,_,_,_,_,_,_,_,_,_,_,_] [0,1,3,7,15,31,63,127,255,511,1023,2047,4095] ab [jb r0] ⟨ao fun c=>fm rfl aJ aq ((c.p e1).trans r0.ptr) (c.B 0),ey fun c=>⟨_,_,(bI rfl rfl gv (c.q 0)),kx t.k t.ch false (.slice none 0 0) [] t.mn t.mx t.lz t.kv.v rfl _ (SlT.nil _ _)⟩,bm 1,ay 2 rfl fun c hpc=>cM rfl aC cT ((c.p e1).trans r0.ptr),ay 2 rfl fun c hpc=>aB rfl dV (c.M 3 hpc) ((c.B 0).cell (j:=7) rfl),ay 2 rfl fun c hpc=>dh rfl bl (c.M 4 hpc) (hT.at ab.ext).tl.sl.sl,ay 2 rfl fun c hpc=>cF rfl (c.M 5 hpc) rfl,bC 2 6,bm 7,ay 8 rfl fun c hpc=>aM rfl (c.p e4),fK 8 true rfl fun c hpc=>⟨_,_,(bI rfl rfl Try.call81 (c.M 9 hpc)),Eh t.rv.v t.rows _ (hT.at (ab.ext.trans c.J.ext)).rows (by first | assumption | (unfold oZ;decide)) (by have hq0:=hpc;(try simp only [am,ah] at hq0);omega)⟩,bC 8 10,aI 11,au⟩ fun ac ag ae ab aa=> ?_;obtain ⟨e1,e8⟩:=aa.k2 e1 e8;have e2:=aa.V 12;replace r0:=aa.B 0;refine wp_ret ?_;refine rp ?_;refine cO (fn:=Try.f67) rfl ab.defers e2 ?_;exact ⟨congrArg _ (congrArg _ (by unfold dB;(repeat (first | rw [if_neg (by omega)] | rw [if_pos (by omega)]));(try rfl))),ab.ext0⟩
 try simp only [ai] at hc2
 refine wp_seq (eL ab [jb r0] ⟨ao fun c=>cF rfl (c.p e8) rfl,aI 0,au⟩ fun ac ag ae ab aa=> ?_);obtain ⟨e1,e2,e8⟩:=aa.k3 e1 e2 e8;have e44:=aa.V 1;replace r0:=aa.B 0;refine wp_cond_split e44 (fun hc3=> ?_) (fun hc3=> ?_)
 · try simp only [ah] at hc3
   refine wp_seq (DR [0,1,0,4,3,31] ab [jb r0] ⟨cy aC ax e1 r0.ptr,fk aF 0 0 4,cy aC ax e1 r0.ptr,fk aF 2 0 5,aI 1,aI 3,au⟩ fun ac ag ae ab aa=> ?_);obtain ⟨e1,e2,e8⟩:=aa.k3 e1 e2 e8;have e5:=aa.V 4;have e6:=aa.V 5;replace r0:=aa.B 0;refine wp_seq ?_;refine bL ?_;refine dy 3 (by kernel_rfl) ?_;refine og [_,_,_] [0,1,3] ab [jb r0] ⟨cy aC ax e1 r0.ptr,cu (cx:=[(aj t.k),(aR t.ch),(aD t.ng),t.rv.v,(aj 0),(aj t.mx),(aD t.lz),t.kv.v]) (v:=(aj 0)) ax fun c=>⟨c.bp 0 rfl e1,c.ad (c.q 0) e1 rfl,rfl⟩,cy aC ax e1 r0.ptr,au⟩ fun ac ag ae ab aa=> ?_;obtain ⟨e1,e2,e5,e6,e8⟩:=aa.k5 e1 e2 e5 e6 e8;have e51:=aa.V 2;replace r0:=aa.RB 1 e1;refine dA ?_;refine dy 2 (by kernel_rfl) ?_;refine og [_,_] [0,1] ab [jb r0] ⟨cu (cx:=[(aj t.k),(aR t.ch),(aD t.ng),t.rv.v,(aj 0),(aj 0),(aD t.lz),t.kv.v]) (v:=(aj 0)) ax fun c=>⟨c.bp 0 rfl e1,c.ad (c.p e51) e1 rfl,rfl⟩,cy aC bK e1 r0.ptr,au⟩ fun ac ag ae ab aa=> ?_;obtain ⟨e1,e2,e5,e6,e8⟩:=aa.k5 e1 e2 e5 e6 e8;have e52:=aa.V 1;replace r0:=aa.RB 0 e1;refine dA ?_;refine og [_] [0] ab [jb r0] ⟨cu (cx:=[(aj t.k),(aR t.ch),(aD t.ng),t.rv.v,(aj 0),(aj 0),(aD false),t.kv.v]) (v:=(aD false)) bK fun c=>⟨c.bp 0 rfl e1,c.ad (c.p e52) e1 rfl,rfl⟩,au⟩ fun ac ag ae ab aa=> ?_;obtain ⟨e1,e2,e5,e6,e8⟩:=aa.k5 e1 e2 e5 e6 e8;replace r0:=aa.RB 0 e1;refine wp_seq ?_;refine rg [_,_,_,_,_,_,_,_,_,_,_,_,_,_,_,_,_,_,_,_,_,_,_,_,_,_,_,_,_,_,_,_,_,_,_,_,_,_] [0,1,3,7,15,31,63,127,255,511,1023,2047,4095,8191,16383,32767,65535,131071,262143,524287,1048575,2097151,4194303,8388607,16777215,33554431,67108863,134217727,268435455,268435455,1073741823,2147483647,4294967295,8589934591,17179869183,34359738367,68719476735,137438953471] ab [jb r0] ⟨ao fun c=>fm rfl aJ aq ((c.p e1).trans r0.ptr) (c.B 0),ey fun c=>⟨_,_,(bI rfl rfl gv (c.q 0)),kx t.k t.ch t.ng t.rv.v t.rows 0 0 false t.kv.v rfl _ (hT.at (ab.ext.trans c.J.ext)).rows⟩,bm 1,ay 2 rfl fun c hpc=>cM rfl aC cT ((c.p e1).trans r0.ptr),ay 2 rfl fun c hpc=>aB rfl dV (c.M 3 hpc) ((c.B 0).cell (j:=7) rfl),ay 2 rfl fun c hpc=>dh rfl bl (c.M 4 hpc) (hT.at ab.ext).tl.sl.sl,ay 2 rfl fun c hpc=>cF rfl (c.M 5 hpc) rfl,bC 2 6,bm 7,ay 8 rfl fun c hpc=>cM rfl aC cT ((c.p e1).trans r0.ptr),ay 8 rfl fun c hpc=>aB rfl dV (c.M 9 hpc) ((c.B 0).cell (j:=7) rfl),ay 8 rfl fun c hpc=>aL rfl bl aq (c.M 10 hpc) (hT.at ab.ext).tl.sl.sl rfl (by have hq0:=hpc;(try simp only [am,ah] at hq0);omega) (by have hq0:=hpc;(try simp only [am,ah] at hq0);omega),ay 8 rfl fun c hpc=>cM rfl aC ax (c.M 11 hpc),ay 8 rfl fun c hpc=>aB rfl aF (c.M 12 hpc) (((hT.at (ab.ext.trans c.J.ext)).tl.sl).elem (j:=0) (bh (i:=0) (by have hq0:=hpc;(try simp only [am,ah] at hq0);omega) (by have hq0:=hpc;(try simp only [am,ah] at hq0);omega)) rfl),fK 8 true rfl fun c hpc=>⟨_,_,(bI rfl rfl Try.call82 (c.M 13 hpc)),ws ((nth t.kids 0).k) _⟩,bC 8 14,bm 15,ay 16 rfl fun c hpc=>aM rfl (c.p e5),ay 16 rfl fun c hpc=>gZ rfl (c.M 17 hpc) rfl,bC 16 18,bm 19,ay 20 rfl fun c hpc=>aM rfl (c.p e5),ay 20 rfl fun c hpc=>kA rfl (c.M 21 hpc) rfl,bC 20 22,bm 23,ay 24 rfl fun c hpc=>aM rfl (c.p e6),ay 24 rfl fun c hpc=>cF rfl (c.M 25 hpc) rfl,ay 24 rfl fun c hpc=>aM rfl (c.M 26 hpc),dj 27 false rfl fun c hpc=>aM rfl (c.p e6),dj 27 false rfl fun c hpc=>aM rfl (c.p e5),dj 27 false rfl fun c hpc=>gZ rfl (c.M 28 hpc) (c.M 29 hpc),dj 27 false rfl fun c hpc=>aM rfl (c.M 30 hpc),dj 31 true rfl fun c hpc=>aM rfl (c.p e6),dj 31 true rfl fun c hpc=>kA rfl (c.M 32 hpc) rfl,dj 27 false rfl fun c hpc=>nl rfl (c.M 31 hpc) (fun h=>c.m 33 rfl (And.intro hpc h)),ay 24 rfl fun c hpc=>vM rfl (c.M 27 hpc) (fun h=>c.m 34 rfl (And.intro hpc h)),bC 24 35,aI 36,au⟩ fun ac ag ae ab aa=> ?_;obtain ⟨e1,e8⟩:=aa.k2 e1 e8;have e2:=aa.V 37;replace r0:=aa.B 0;refine wp_ret ?_;refine rp ?_;refine cO (fn:=Try.f67) rfl ab.defers e2 ?_;exact ⟨congrArg _ (congrArg _ (by unfold dB;(repeat (first | rw [if_neg (by omega)] | rw [if_pos (by omega)]));(try rfl))),ab.ext0⟩
 try simp only [ai] at hc3
 refine wp_seq (eL ab [jb r0] ⟨ao fun c=>cF rfl (c.p e8) rfl,aI 0,au⟩ fun ac ag ae ab aa=> ?_);obtain ⟨e1,e2,e8⟩:=aa.k3 e1 e2 e8;have e90:=aa.V 1;replace r0:=aa.B 0;refine wp_cond_split e90 (fun hc4=> ?_) (fun hc4=> ?_)
 · try simp only [ah] at hc4
   refine wp_seq (rg [_,_,_,_,_,_,_,_,_,_,_,gown (((lr t.ch t.ng t.rows t.mn t.mx t.lz)&&(!decide ((t.kids.length:Int)=1)))=true) jE 3 (Nw w) 1 103 ([0,1]),_,_,_,_] [0,1,3,7,15,31,63,127,255,511,1023,511,4095,8191,16383,32767] ab [jb r0] ⟨ao fun c=>fm rfl aJ aq ((c.p e1).trans r0.ptr) (c.B 0),ey fun c=>⟨_,_,(bI rfl rfl gv (c.q 0)),kx t.k t.ch t.ng t.rv.v t.rows t.mn t.mx t.lz t.kv.v rfl _ (hT.at (ab.ext.trans c.J.ext)).rows⟩,bm 1,ay 2 rfl fun c hpc=>cM rfl aC cT ((c.p e1).trans r0.ptr),ay 2 rfl fun c hpc=>aB rfl dV (c.M 3 hpc) ((c.B 0).cell (j:=7) rfl),ay 2 rfl fun c hpc=>dh rfl bl (c.M 4 hpc) (hT.at ab.ext).tl.sl.sl,ay 2 rfl fun c hpc=>ki rfl (c.M 5 hpc) rfl,bC 2 6,bm 7,ay 8 rfl fun c hpc=>cM rfl aC cT ((c.p e1).trans r0.ptr),ay 8 rfl fun c hpc=>aB rfl dV (c.M 9 hpc) ((c.B 0).cell (j:=7) rfl),tB (gi:=8) (tg:=100) rfl rfl rfl rfl rfl rfl Iff.rfl (fun hpc=>cQ (cells:=#[(aj 0),(aj 1)]) rfl rfl rfl rfl bG ax hN rfl (by decide) (by decide) (fun _ _ _ _ c=>iJ rfl rfl (by kernel_rfl)) rfl),fK 8 true rfl fun c hpc=>⟨_,_,(bT rfl rfl Try.call83 (c.M 10 hpc) (oH _ 103)),xA t.kv.v _ t.kids [0,1] _ (hT.at (ab.ext.trans c.J.ext)).tl.sl (c.rg 11 rfl hpc).1.sl⟩,ay 8 rfl fun c hpc=>dW rfl (c.M 12 hpc),bC 8 13,aI 14,au⟩ fun ac ag ae ab aa=> ?_);obtain ⟨e1,e8⟩:=aa.k2 e1 e8;have e2:=aa.V 15;replace r0:=aa.B 0;refine wp_ret ?_;refine rp ?_;refine cO (fn:=Try.f67) rfl ab.defers e2 ?_;exact ⟨congrArg _ (congrArg _ (by unfold dB;(repeat (first | rw [if_neg (by omega)] | rw [if_pos (by omega)]));(try rfl))),ab.ext0⟩
 try simp only [ai] at hc4
 refine wp_seq (eL ab [jb r0] ⟨ao fun c=>cF rfl (c.p e8) rfl,aI 0,au⟩ fun ac ag ae ab aa=> ?_);obtain ⟨e1,e2,e8⟩:=aa.k3 e1 e2 e8;have e107:=aa.V 1;replace r0:=aa.B 0;refine wp_cond_split e107 (fun hc5=> ?_) (fun hc5=> ?_)
 · try simp only [ah] at hc5
   refine wp_seq (rg [_,_,_,_,_,_,_,_,_,_,_,gown (((lr t.ch t.ng t.rows t.mn t.mx t.lz)&&(decide (1 < (t.kids.length:Int))))=true) jE 3 (Nw w) 1 120 ([1]),_,_,_,_] [0,1,3,7,15,31,63,127,255,511,1023,511,4095,8191,16383,32767] ab [jb r0] ⟨ao fun c=>fm rfl aJ aq ((c.p e1).trans r0.ptr) (c.B 0),ey fun c=>⟨_,_,(bI rfl rfl gv (c.q 0)),kx t.k t.ch t.ng t.rv.v t.rows t.mn t.mx t.lz t.kv.v rfl _ (hT.at (ab.ext.trans c.J.ext)).rows⟩,bm 1,ay 2 rfl fun c hpc=>cM rfl aC cT ((c.p e1).trans r0.ptr),ay 2 rfl fun c hpc=>aB rfl dV (c.M 3 hpc) ((c.B 0).cell (j:=7) rfl),ay 2 rfl fun c hpc=>dh rfl bl (c.M 4 hpc) (hT.at ab.ext).tl.sl.sl,ay 2 rfl fun c hpc=>jm rfl (c.M 5 hpc) rfl,bC 2 6,bm 7,ay 8 rfl fun c hpc=>cM rfl aC cT ((c.p e1).trans r0.ptr),ay 8 rfl fun c hpc=>aB rfl dV (c.M 9 hpc) ((c.B 0).cell (j:=7) rfl),tB (gi:=8) (tg:=117) rfl rfl rfl rfl rfl rfl Iff.rfl (fun hpc=>cQ (cells:=#[(aj 1)]) rfl rfl rfl rfl bG ax hN rfl (by decide) (by decide) (fun _ _ _ _ c=>gb rfl (by kernel_rfl)) rfl),fK 8 true rfl fun c hpc=>⟨_,_,(bT rfl rfl Try.call83 (c.M 10 hpc) (oH _ 120)),xA t.kv.v _ t.kids [1] _ (hT.at (ab.ext.trans c.J.ext)).tl.sl (c.rg 11 rfl hpc).1.sl⟩,ay 8 rfl fun c hpc=>dW rfl (c.M 12 hpc),bC 8 13,aI 14,au⟩ fun ac ag ae ab aa=> ?_);obtain ⟨e1,e8⟩:=aa.k2 e1 e8;have e2:=aa.V 15;replace r0:=aa.B 0;refine wp_ret ?_;refine rp ?_;refine cO (fn:=Try.f67) rfl ab.defers e2 ?_;exact ⟨congrArg _ (congrArg _ (by unfold dB;(repeat (first | rw [if_neg (by omega)] | rw [if_pos (by omega)]));(try rfl))),ab.ext0⟩
 try simp only [ai] at hc5
 refine wp_seq ?_;refine wp_seq (eL ab [jb r0] ⟨ao fun c=>cF rfl (c.p e8) rfl,aI 0,au⟩ fun ac ag ae ab aa=> ?_);obtain ⟨e1,e2,e8⟩:=aa.k3 e1 e2 e8;have e124:=aa.V 1;replace r0:=aa.B 0;refine wp_cond_split e124 (fun hc6=> ?_) (fun hc6=> ?_)
 · have hd6:=hc6;try simp only [ah] at hd6
   refine wp_skip ?_;refine wp_cond_true (e124.trans (congrArg _ hc6)) ?_;refine wp_seq (wU [0,1,3,7,15,31,63,127,255] ab [jb r0] ⟨ao fun c=>fm rfl aJ aq ((c.p e1).trans r0.ptr) (c.B 0),ey fun c=>⟨_,_,(bI rfl rfl gv (c.q 0)),kx t.k t.ch t.ng t.rv.v t.rows t.mn t.mx t.lz t.kv.v rfl _ (hT.at (ab.ext.trans c.J.ext)).rows⟩,bm 1,ay 2 rfl fun c hpc=>cM rfl aC cT ((c.p e1).trans r0.ptr),ay 2 rfl fun c hpc=>aB rfl dV (c.M 3 hpc) ((c.B 0).cell (j:=7) rfl),ay 2 rfl fun c hpc=>dh rfl bl (c.M 4 hpc) (hT.at ab.ext).tl.sl.sl,ay 2 rfl fun c hpc=>cF rfl (c.M 5 hpc) rfl,bC 2 6,aI 7,au⟩ fun ac ag ae ab aa=> ?_);obtain ⟨e1,e8⟩:=aa.k2 e1 e8;have e2:=aa.V 8;replace r0:=aa.B 0;refine wp_ret ?_;refine rp ?_;refine cO (fn:=Try.f67) rfl ab.defers e2 ?_;exact ⟨congrArg _ (congrArg _ (by unfold dB;(repeat (first | rw [if_neg (by omega)] | rw [if_pos (by omega)]));(try rfl))),ab.ext0⟩
 have hd7:=hc6;try simp only [ai] at hd7
 refine eL ab [jb r0] ⟨ao fun c=>cF rfl (c.p e8) rfl,aI 0,au⟩ fun ac ag ae ab aa=> ?_;obtain ⟨e1,e2,e8⟩:=aa.k3 e1 e2 e8;have e124:=aa.V 1;replace r0:=aa.B 0;refine wp_cond_split e124 (fun hc8=> ?_) (fun hc8=> ?_)
 · have hd8:=hc8;try simp only [ah] at hd8
   refine wp_seq (wU [0,1,3,7,15,31,63,127,255] ab [jb r0] ⟨ao fun c=>fm rfl aJ aq ((c.p e1).trans r0.ptr) (c.B 0),ey fun c=>⟨_,_,(bI rfl rfl gv (c.q 0)),kx t.k t.ch t.ng t.rv.v t.rows t.mn t.mx t.lz t.kv.v rfl _ (hT.at (ab.ext.trans c.J.ext)).rows⟩,bm 1,ay 2 rfl fun c hpc=>cM rfl aC cT ((c.p e1).trans r0.ptr),ay 2 rfl fun c hpc=>aB rfl dV (c.M 3 hpc) ((c.B 0).cell (j:=7) rfl),ay 2 rfl fun c hpc=>dh rfl bl (c.M 4 hpc) (hT.at ab.ext).tl.sl.sl,ay 2 rfl fun c hpc=>cF rfl (c.M 5 hpc) rfl,bC 2 6,aI 7,au⟩ fun ac ag ae ab aa=> ?_);obtain ⟨e1,e8⟩:=aa.k2 e1 e8;have e2:=aa.V 8;replace r0:=aa.B 0;refine wp_ret ?_;refine rp ?_;refine cO (fn:=Try.f67) rfl ab.defers e2 ?_;exact ⟨congrArg _ (congrArg _ (by unfold dB;(repeat (first | rw [if_neg (by omega)] | rw [if_pos (by omega)]));(try rfl))),ab.ext0⟩
 have hd8:=hc8;try simp only [ai] at hd8
 refine wp_seq ?_;refine wp_seq (eL ab [jb r0] ⟨ao fun c=>cF rfl (c.p e8) rfl,aI 0,au⟩ fun ac ag ae ab aa=> ?_);obtain ⟨e1,e2,e8⟩:=aa.k3 e1 e2 e8;have e135:=aa.V 1;replace r0:=aa.B 0;refine wp_cond_split e135 (fun hc9=> ?_) (fun hc9=> ?_)
 · have hd9:=hc9;try simp only [ah] at hd9
   refine wp_skip ?_;refine wp_cond_true (e135.trans (congrArg _ hc9)) ?_;refine wp_seq (wU [0,1,3,7,15,31,63,127,255] ab [jb r0] ⟨ao fun c=>fm rfl aJ aq ((c.p e1).trans r0.ptr) (c.B 0),ey fun c=>⟨_,_,(bI rfl rfl gv (c.q 0)),kx t.k t.ch t.ng t.rv.v t.rows t.mn t.mx t.lz t.kv.v rfl _ (hT.at (ab.ext.trans c.J.ext)).rows⟩,bm 1,ay 2 rfl fun c hpc=>cM rfl aC cT ((c.p e1).trans r0.ptr),ay 2 rfl fun c hpc=>aB rfl dV (c.M 3 hpc) ((c.B 0).cell (j:=7) rfl),ay 2 rfl fun c hpc=>dh rfl bl (c.M 4 hpc) (hT.at ab.ext).tl.sl.sl,ay 2 rfl fun c hpc=>cF rfl (c.M 5 hpc) rfl,bC 2 6,aI 7,au⟩ fun ac ag ae ab aa=> ?_);have e2:=aa.V 8;refine wp_ret ?_;refine rp ?_;refine cO (fn:=Try.f67) rfl ab.defers e2 ?_;exact ⟨congrArg _ (congrArg _ (by unfold dB;(repeat (first | rw [if_neg (by omega)] | rw [if_pos (by omega)]));(try rfl))),ab.ext0⟩
 have hd10:=hc9;try simp only [ai] at hd10
 refine wp_seq (eL ab [jb r0] ⟨ao fun c=>cF rfl (c.p e8) rfl,aI 0,au⟩ fun ac ag ae ab aa=> ?_);obtain ⟨e1,e2,e8⟩:=aa.k3 e1 e2 e8;have e135:=aa.V 1;replace r0:=aa.B 0;refine wp_cond_split e135 (fun hc11=> ?_) (fun hc11=> ?_)
 · have hd11:=hc11;try simp only [ah] at hd11
   refine wp_skip ?_;refine wp_cond_true (e135.trans (congrArg _ hc11)) ?_;refine wp_seq (wU [0,1,3,7,15,31,63,127,255] ab [jb r0] ⟨ao fun c=>fm rfl aJ aq ((c.p e1).trans r0.ptr) (c.B 0),ey fun c=>⟨_,_,(bI rfl rfl gv (c.q 0)),kx t.k t.ch t.ng t.rv.v t.rows t.mn t.mx t.lz t.kv.v rfl _ (hT.at (ab.ext.trans c.J.ext)).rows⟩,bm 1,ay 2 rfl fun c hpc=>cM rfl aC cT ((c.p e1).trans r0.ptr),ay 2 rfl fun c hpc=>aB rfl dV (c.M 3 hpc) ((c.B 0).cell (j:=7) rfl),ay 2 rfl fun c hpc=>dh rfl bl (c.M 4 hpc) (hT.at ab.ext).tl.sl.sl,ay 2 rfl fun c hpc=>cF rfl (c.M 5 hpc) rfl,bC 2 6,aI 7,au⟩ fun ac ag ae ab aa=> ?_);have e2:=aa.V 8;refine wp_ret ?_;refine rp ?_;refine cO (fn:=Try.f67) rfl ab.defers e2 ?_;exact ⟨congrArg _ (congrArg _ (by unfold dB;(repeat (first | rw [if_neg (by omega)] | rw [if_pos (by omega)]));(try rfl))),ab.ext0⟩
 have hd12:=hc11;try simp only [ai] at hd12
 refine wp_seq (eL ab [jb r0] ⟨ao fun c=>cF rfl (c.p e8) rfl,aI 0,au⟩ fun ac ag ae ab aa=> ?_);obtain ⟨e1,e2,e8⟩:=aa.k3 e1 e2 e8;have e135:=aa.V 1;replace r0:=aa.B 0;refine wp_cond_split e135 (fun hc13=> ?_) (fun hc13=> ?_)
 · have hd13:=hc13;try simp only [ah] at hd13
   refine wp_skip ?_;refine wp_cond_true (e135.trans (congrArg _ hc13)) ?_;refine wp_seq (wU [0,1,3,7,15,31,63,127,255] ab [jb r0] ⟨ao fun c=>fm rfl aJ aq ((c.p e1).trans r0.ptr) (c.B 0),ey fun c=>⟨_,_,(bI rfl rfl gv (c.q 0)),kx t.k t.ch t.ng t.rv.v t.rows t.mn t.mx t.lz t.kv.v rfl _ (hT.at (ab.ext.trans c.J.ext)).rows⟩,bm 1,ay 2 rfl fun c hpc=>cM rfl aC cT ((c.p e1).trans r0.ptr),ay 2 rfl fun c hpc=>aB rfl dV (c.M 3 hpc) ((c.B 0).cell (j:=7) rfl),ay 2 rfl fun c hpc=>dh rfl bl (c.M 4 hpc) (hT.at ab.ext).tl.sl.sl,ay 2 rfl fun c hpc=>cF rfl (c.M 5 hpc) rfl,bC 2 6,aI 7,au⟩ fun ac ag ae ab aa=> ?_);have e2:=aa.V 8;refine wp_ret ?_;refine rp ?_;refine cO (fn:=Try.f67) rfl ab.defers e2 ?_;exact ⟨congrArg _ (congrArg _ (by unfold dB;(repeat (first | rw [if_neg (by omega)] | rw [if_pos (by omega)]));(try rfl))),ab.ext0⟩
 have hd14:=hc13;try simp only [ai] at hd14
 refine wp_seq (eL ab [jb r0] ⟨ao fun c=>cF rfl (c.p e8) rfl,aI 0,au⟩ fun ac ag ae ab aa=> ?_);obtain ⟨e1,e2,e8⟩:=aa.k3 e1 e2 e8;have e135:=aa.V 1;replace r0:=aa.B 0;refine wp_cond_split e135 (fun hc15=> ?_) (fun hc15=> ?_)
 · have hd15:=hc15;try simp only [ah] at hd15
   refine wp_skip ?_;refine wp_cond_true (e135.trans (congrArg _ hc15)) ?_;refine wp_seq (wU [0,1,3,7,15,31,63,127,255] ab [jb r0] ⟨ao fun c=>fm rfl aJ aq ((c.p e1).trans r0.ptr) (c.B 0),ey fun c=>⟨_,_,(bI rfl rfl gv (c.q 0)),kx t.k t.ch t.ng t.rv.v t.rows t.mn t.mx t.lz t.kv.v rfl _ (hT.at (ab.ext.trans c.J.ext)).rows⟩,bm 1,ay 2 rfl fun c hpc=>cM rfl aC cT ((c.p e1).trans r0.ptr),ay 2 rfl fun c hpc=>aB rfl dV (c.M 3 hpc) ((c.B 0).cell (j:=7) rfl),ay 2 rfl fun c hpc=>dh rfl bl (c.M 4 hpc) (hT.at ab.ext).tl.sl.sl,ay 2 rfl fun c hpc=>cF rfl (c.M 5 hpc) rfl,bC 2 6,aI 7,au⟩ fun ac ag ae ab aa=> ?_);have e2:=aa.V 8;refine wp_ret ?_;refine rp ?_;refine cO (fn:=Try.f67) rfl ab.defers e2 ?_;exact ⟨congrArg _ (congrArg _ (by unfold dB;(repeat (first | rw [if_neg (by omega)] | rw [if_pos (by omega)]));(try rfl))),ab.ext0⟩
 have hd16:=hc15;try simp only [ai] at hd16
 refine eL ab [jb r0] ⟨ao fun c=>cF rfl (c.p e8) rfl,aI 0,au⟩ fun ac ag ae ab aa=> ?_;obtain ⟨e1,e2⟩:=aa.k2 e1 e2;have e135:=aa.V 1;replace r0:=aa.B 0;refine wp_cond_split e135 (fun hc17=> ?_) (fun hc17=> ?_)
 · have hd17:=hc17;try simp only [ah] at hd17
   refine wp_seq (wU [0,1,3,7,15,31,63,127,255] ab [jb r0] ⟨ao fun c=>fm rfl aJ aq ((c.p e1).trans r0.ptr) (c.B 0),ey fun c=>⟨_,_,(bI rfl rfl gv (c.q 0)),kx t.k t.ch t.ng t.rv.v t.rows t.mn t.mx t.lz t.kv.v rfl _ (hT.at (ab.ext.trans c.J.ext)).rows⟩,bm 1,ay 2 rfl fun c hpc=>cM rfl aC cT ((c.p e1).trans r0.ptr),ay 2 rfl fun c hpc=>aB rfl dV (c.M 3 hpc) ((c.B 0).cell (j:=7) rfl),ay 2 rfl fun c hpc=>dh rfl bl (c.M 4 hpc) (hT.at ab.ext).tl.sl.sl,ay 2 rfl fun c hpc=>cF rfl (c.M 5 hpc) rfl,bC 2 6,aI 7,au⟩ fun ac ag ae ab aa=> ?_);have e2:=aa.V 8;refine wp_ret ?_;refine rp ?_;refine cO (fn:=Try.f67) rfl ab.defers e2 ?_;exact ⟨congrArg _ (congrArg _ (by unfold dB;(repeat (first | rw [if_neg (by omega)] | rw [if_pos (by omega)]));(try rfl))),ab.ext0⟩
 have hd17:=hc17;try simp only [ai] at hd17
 refine wp_skip ?_;show _;refine wp_seq (eM ab [jb r0] ⟨ao fun c=>aw rfl rfl,au⟩ fun ac ag ae ab aa=> ?_);have e2:=aa.V 0;refine wp_ret ?_;refine rp ?_;refine cO (fn:=Try.f67) rfl ab.defers e2 ?_;exact ⟨congrArg _ (congrArg _ (by unfold dB;(repeat (first | rw [if_neg (by omega)] | rw [if_pos (by omega)]));(try rfl))),ab.ext0⟩
end
section
open Go.RowKit
open Srt
def ii (l:List (Int→Int→Int × Bool)) (n d:Int):Int × Bool:=match l with
  | [] => (n, true)
  | g :: l => if (g n d).2 = true then ii l (g n d).1 d else ((g n d).1, false)
def cS (t:Tr) (d:Int):Int:=if qm t=true then d - 1 else d
def cX:Tr→Int→Int→Int × Bool:=lE fun t l n d=>if ((decide (n < 1) || decide (cS t d < 0)) || !dB t)=true then (n,false) else ii l (n - 1) (cS t d)
theorem nv (t:Tr) (n d:Int):cX t n d=if ((decide (n < 1) || decide (cS t d < 0)) || !dB t)=true then (n,false) else ii (t.kids.map cX) (n - 1) (cS t d):=
  congrFun (congrFun (iQ (fun t l n d=>if ((decide (n < 1) || decide (cS t d < 0)) || !dB t)=true then (n,false) else ii l (n - 1) (cS t d)) t) n) d
theorem nw (t:Tr):∀{n d:Int},0≤n→0≤(cX t n d).1∧(cX t n d).1≤n:=by
  induction t using Tr.ind with
  | h t ih =>
    intro n d hn;have hK:∀ks:List Tr,(∀k ∈ ks,k ∈ t.kids)→∀m d,0≤m→0≤(ii (ks.map cX) m d).1∧(ii (ks.map cX) m d).1≤m:=by
      intro ks;induction ks with
      | nil => intro _ m d h; exact ⟨h, eW _⟩
      | cons k ks ih2 =>
        intro hm m d h;have h1:=ih k (hm k (by simp)) (n:=m) (d:=d) h;rw [bo,ii];split
        · have:=ih2 (fun x hx=>hm x (by simp [hx])) _ d h1.1;omega
        · exact h1
    rw [nv];split
    · exact ⟨hn,eW _⟩
    · rename_i hc;simp only [be,ah,not_or] at hc;have:=hK t.kids (fun _ h=>h) (n - 1) (cS t d) (by omega);omega
theorem xB {t:Tr} {n d:Int} (h:((decide (n < 1) || decide (cS t d < 0)) || !dB t)=true):cX t n d=(n,false):=by rw [nv,if_pos h]
theorem vo {t:Tr} {n d m:Int} {k:Nat} (h:((decide (n < 1) || decide (cS t d < 0)) || !dB t)=false) (hq:ii (t.kids.map cX) (n - 1) (cS t d)=ii ((t.kids.drop k).map cX) m (cS t d)) (hk:k < t.kids.length) (hb:(cX (nth t.kids (k:Int)) m (cS t d)).2=false):cX t n d=((cX (nth t.kids (k:Int)) m (cS t d)).1,false):=by
  rw [nv,if_neg (by rw [h];decide),hq,fT hk,bo,ii,if_neg (by rw [hb];decide)]
theorem vp {t:Tr} {n d m:Int} {k:Nat} (h:((decide (n < 1) || decide (cS t d < 0)) || !dB t)=false) (hq:ii (t.kids.map cX) (n - 1) (cS t d)=ii ((t.kids.drop k).map cX) m (cS t d)) (hk:t.kids.length≤k):cX t n d=(m,true):=by
  rw [nv,if_neg (by rw [h];decide),hq,dI hk];rfl
theorem sW {t:Tr} {n d m:Int} {k:Nat} (hq:ii (t.kids.map cX) (n - 1) (cS t d)=ii ((t.kids.drop k).map cX) m (cS t d)) (hk:k < t.kids.length) (hb:(cX (nth t.kids (k:Int)) m (cS t d)).2=true):ii (t.kids.map cX) (n - 1) (cS t d)=ii ((t.kids.drop (k+1)).map cX) (cX (nth t.kids (k:Int)) m (cS t d)).1 (cS t d):=by
  rw [hq,fT hk,bo,ii,if_pos hb]
set_option maxRecDepth 100000 in
theorem yG (t:Tr) (ih:∀k ∈ t.kids,∀(n d:Int) (w:World),sy w k→fR k≤1000000→0≤n∧n≤1000→0≤d∧d≤1000→Calls Try.prog 50 #[k.v,aj n,aj d] w (fun e w'=>e= .returned (.tuple #[aj (cX k n d).1,aD (cX k n d).2])∧Ext bk w w')) (n d:Int) (w:World) (hT:sy w t) (hP:fR t≤1000000) (hn:0≤n∧n≤1000) (hd:0≤d∧d≤1000):Calls Try.prog 50 #[t.v,aj n,aj d] w (fun e w'=>e= .returned (.tuple #[aj (cX t n d).1,aD (cX t n d).2])∧Ext bk w w'):=by
 refine enter (n:=49) Try.func50 rfl rfl (ar rfl) ?_;intro a0 τ0 ha st0;have e0:aU a0 0=(ta t):=ha 0 _ rfl;have e1:aU a0 1=(aj n):=ha 1 _ rfl;have e2:aU a0 2=(aj d):=ha 2 _ rfl;clear ha;have hle:=hT.kids.le;have hwt:=iY t;have hpk:∀k:Nat,k < t.kids.length→fR (nth t.kids (k:Int))≤1000000:=fun k h_=>by have h1_:=tO (aW (xs:=t.kids) (i:=(k:Int)) (by omega) (by omega));omega
 refine wp_seq (rg [box _ _ 0 3 (tc t),_,_] [0,0,2] st0 [] ⟨jh (v:=(ta t)) rfl rfl rfl rfl rfl (fun _ _ _ _ c=>(c.p e0)),ao fun c=>aw rfl rfl,ao fun c=>aw rfl rfl,au⟩ fun ac ag ae ab aa=> ?_);obtain ⟨b1x3,e3⟩:=gx ac 3;obtain ⟨e1,e2⟩:=aa.k2 e1 e2;have e6:=aa.V 1;have e7:=aa.V 2;have r0:=aa.rb 0 e3 rfl;refine wp_seq ?_;refine wp_seq (fa ab [jb r0] ⟨cy aC ax e3 r0.ptr,fk aF 0 0 0,ey fun c=>⟨_,_,(bI rfl rfl Try.call66 (c.q 1)),Cu t.k _⟩,au⟩ fun ac ag ae ab aa=> ?_);obtain ⟨e1,e2,e3,e6,e7⟩:=aa.k5 e1 e2 e3 e6 e7;have e13:=aa.V 2;replace r0:=aa.B 0;refine wp_cond_split e13 (fun hc1=> ?_) (fun hc1=> ?_)
 · have hd1:=hc1;try simp only [be,ah] at hd1
   refine fa ab [jb r0] ⟨ak e2,ao fun c=>fv rfl (c.q 0) rfl (by omega),aI 1,au⟩ fun ac ag ae ab aa=> ?_;obtain ⟨e1,e3,e6,e7⟩:=aa.k4 e1 e3 e6 e7;have e2:=aa.V 2;replace r0:=aa.B 0;refine wp_seq ?_;refine wp_seq ?_;have hdp:d - 1=cS t d:=by unfold cS qm;first | (rw [if_pos (by simpa using (by assumption))]) | (rw [if_neg (by simpa using (by assumption))])
   replace e2:aU ac 2=aj (cS t d):=e2.trans (aZ hdp);have hdr:cS t d≤1000∧ -1≤cS t d:=by unfold cS;split <;> omega
   refine tG [0,1,3,7,15,31,63,127,255,511,1023] ab [jb r0] ⟨ak e1,ao fun c=>ci rfl (c.q 0) rfl,bm 1,bR 2 rfl fun c hpc=>aM rfl (c.p e2),bR 2 rfl fun c hpc=>ci rfl (c.M 3 hpc) rfl,eB 2 4,bm 5,bR 6 rfl fun c hpc=>fm rfl aJ aq ((c.p e3).trans r0.ptr) (c.B 0),fK 6 false rfl fun c hpc=>⟨_,_,(bI rfl rfl Try.call67 (c.M 7 hpc)),vn t _ (hT.at (ab.ext.trans c.J.ext)) (by have hq0:=hpc;(try simp only [aS,ai,aP] at hq0);omega)⟩,bR 6 rfl fun c hpc=>dW rfl (c.M 8 hpc),eB 6 9,au⟩ fun ac ag ae ab aa=> ?_;obtain ⟨e1,e2,e3,e6,e7⟩:=aa.k5 e1 e2 e3 e6 e7;have e26:=aa.V 10;replace r0:=aa.B 0;refine wp_cond_split e26 (fun hc2=> ?_) (fun hc2=> ?_)
   · have hd2:=hc2;try simp only [be,aS,aA,av,ah,ai,aP] at hd2
     refine wp_seq ?_;have hcd:=hc2;refine fa ab [jb r0] ⟨ak e1,aI 0,ao fun c=>aw rfl rfl,au⟩ fun ac ag ae ab aa=> ?_;obtain ⟨e1,e2,e3⟩:=aa.k3 e1 e2 e3;have e6:=aa.V 1;have e7:=aa.V 2;replace r0:=aa.B 0;refine wp_ret ?_;refine rp ?_;refine la (fn:=Try.f50) rfl ab.defers e6 e7 ?_;exact ⟨congrArg _ (show (Value.tuple #[(aj n),(aD false)])=(.tuple #[aj (cX t n d).1,aD (cX t n d).2]) from by rw [xB hcd]),ab.ext0⟩
   have hd2:=hc2;try simp only [be,aS,aA,av,ah,ai,aP] at hd2
   refine wp_skip ?_;refine wp_seq ?_;have hcd:((decide (n < 1) || decide (cS t d < 0)) || !dB t)=false:=by assumption
   have hce:=hcd;simp only [aS,ai,aP] at hce;refine fa ab [jb r0] ⟨ak e1,ao fun c=>fv rfl (c.q 0) rfl (by omega),aI 1,au⟩ fun ac ag ae ab aa=> ?_;obtain ⟨e2,e3,e6,e7⟩:=aa.k4 e2 e3 e6 e7;have e1:=aa.V 2;replace r0:=aa.B 0;refine wp_seq ?_;refine wp_seq (lc [0,1,3,0] ab [jb r0] ⟨cy aC cT e3 r0.ptr,fk dV 0 0 7,ao fun c=>dh rfl bl (c.q 1) (hT.at ab.ext).tl.sl.sl,ao fun c=>aM rfl rfl,au⟩ fun ac ag ae ab aa=> ?_);obtain ⟨e1,e2,e6,e7⟩:=aa.k4 e1 e2 e6 e7;have e31:=aa.V 1;have e32:=aa.V 2;have e33:=aa.V 3;refine wp_block ?_;refine wp_loop (fun a_ w_=>∃(k:Nat) (m:Int) (τ:Nat→aX),(k≤t.kids.length)∧
          (0≤m∧m≤1000)∧
          (ii (t.kids.map cX) (n - 1) (cS t d)=ii ((t.kids.drop k).map cX) m (cS t d))∧
          St (Nw w) w 49 a_ w_ τ∧
          aU a_ 1=(aj m)∧
          aU a_ 33=(aj (k:Int))∧
          aU a_ 2=(aj (cS t d))∧
          aU a_ 31=t.kv.v∧
          aU a_ 32=(aj (t.kids.length:Int))) (fun a_ _=>t.kids.length - (intOf (aU a_ 33)).toNat) ?_ ?_
   · refine ⟨0,n - 1,ae,?_,?_,?_,ab,(e1.trans (aZ (by omega))),(e33.trans (aZ (by omega))),e2,e31,e32⟩
     · omega
     · omega
     · rfl
   intro a8 w8 hI;obtain ⟨k,m,τ8,q0,q1,q2,st8,e1,e33,e2,e31,e32⟩:=hI;have hpk0:=hpk k;have m33:=e33;refine wp_seq (eM st8 [] ⟨ao fun c=>ci rfl (c.p e33) (c.p e32),au⟩ fun ac ag ae ab aa=> ?_);obtain ⟨e1,e2,e31,e32,e33⟩:=aa.k5 e1 e2 e31 e32 e33;have e34:=aa.V 0;refine wp_seq ?_;refine wp_cond_split e34 (fun hc3=> ?_) (fun hc3=> ?_)
   · try simp only [ah] at hc3
     refine wp_skip ?_;refine wp_seq ?_;refine wp_block ?_;refine wp_seq (rg [_,_,box _ _ 0 9 [(aj 0),(aR (⟨#[]⟩:ByteArray)),(aD false),(.slice none 0 0),(aj 0),(aj 0),(aD false),(.slice none 0 0)],_] [0,1,0,7] ab [] ⟨ao fun c=>aL rfl bl aq (c.p e31) (hT.at ab.ext).tl.sl.sl (c.p e33) (by omega) (by omega),ao fun c=>cN (vs:=(tc (nth t.kids (k:Int)))) rfl aJ aq (c.q 0) rfl (fun _ _ hj=>((hT.at (ab.ext.trans c.J.ext)).tl.sl).elem (bh (i:=(k:Int)) (by omega) (by omega)) hj),cC rfl rfl rfl rfl aO rfl,gp (cx:=(tc (nth t.kids (k:Int)))) (off:=0) rfl aq fun c=>⟨c.rb 2 rfl,(c.rb 2 rfl).ptr,(c.q 1)⟩,au⟩ fun ac ag ae ab aa=> ?_);obtain ⟨b10x9,e9⟩:=gx ac 9;obtain ⟨e1,e2,e31,e32,e33,e34⟩:=aa.k6 e1 e2 e31 e32 e33 e34;have r0:=aa.rb 3 e9 rfl;refine wp_seq (eM ab [jb r0] ⟨ao fun c=>aw rfl rfl,au⟩ fun ac ag ae ab aa=> ?_);obtain ⟨e1,e2,e9,e31,e32,e33,e34⟩:=aa.k7 e1 e2 e9 e31 e32 e33 e34;have e10:=aa.V 0;replace r0:=aa.B 0;refine wp_seq (wU [0,0,0,7,15,31,31,63,255] ab [jb r0] ⟨ao fun c=>fm rfl aJ aq ((c.p e9).trans r0.ptr) (c.B 0),ak e1,ak e2,ey fun c=>⟨_,_,(jt rfl rfl Try.call50 (c.q 0) (c.q 1) (c.q 2)),ih _ (aW (by omega) (by omega)) m (cS t d) _ ((hT.at (ab.ext.trans c.J.ext)).tl.el (by omega) (by omega)) (by omega) (by omega) (by omega)⟩,bm 3,dP 4,dP 4,aI 5,aI 6,au⟩ fun ac ag ae ab aa=> ?_);obtain ⟨e2,e9,e31,e32,e33,e34⟩:=aa.k6 e2 e9 e31 e32 e33 e34;have e1:=aa.V 7;have e10:=aa.V 8;replace r0:=aa.B 0;refine wp_seq (eL ab [jb r0] ⟨ak e10,ao fun c=>dW rfl (c.q 0),au⟩ fun ac ag ae ab aa=> ?_);obtain ⟨e1,e2,e9,e10,e31,e32,e33,e34⟩:=aa.k8 e1 e2 e9 e10 e31 e32 e33 e34;have e45:=aa.V 1;replace r0:=aa.B 0;refine wp_cond_split e45 (fun hc4=> ?_) (fun hc4=> ?_)
     · have hd4:=hc4;try simp only [aA,av] at hd4
       refine wp_seq ?_;have hbad:(cX (nth t.kids (k:Int)) m (cS t d)).2=false:=by simpa using (by assumption:(!(cX (nth t.kids (k:Int)) m (cS t d)).2)=true)
       refine fa ab [jb r0] ⟨ak e1,aI 0,ao fun c=>aw rfl rfl,au⟩ fun ac ag ae ab aa=> ?_;obtain ⟨e1,e2,e9,e10,e31,e32,e33,e34,e45⟩:=aa.k9 e1 e2 e9 e10 e31 e32 e33 e34 e45;have e6:=aa.V 1;have e7:=aa.V 2;replace r0:=aa.B 0;refine wp_ret ?_;refine rp ?_;refine la (fn:=Try.f50) rfl ab.defers e6 e7 ?_;exact ⟨congrArg _ (show (Value.tuple #[(aj ((cX (nth t.kids (k:Int)) m (cS t d)).1)),(aD false)])=(.tuple #[aj (cX t n d).1,aD (cX t n d).2]) from by rw [vo hcd q2 (by omega) hbad]),ab.ext0⟩
     have hd4:=hc4;try simp only [aA,av] at hd4
     refine wp_skip ?_;show _;have hgood:(cX (nth t.kids (k:Int)) m (cS t d)).2=true:=by simpa using (by assumption:(!(cX (nth t.kids (k:Int)) m (cS t d)).2)=false)
     have hrg:=nw (nth t.kids (k:Int)) (n:=m) (d:=cS t d) (by omega);refine eL ab [jb r0] ⟨ao fun c=>cp rfl (c.p e33) rfl (by omega),bm 0,au⟩ fun ac ag ae ab aa=> ?_;obtain ⟨e1,e2,e9,e10,e31,e32,e34,e45⟩:=aa.k8 e1 e2 e9 e10 e31 e32 e34 e45;have e33:=aa.V 1;replace r0:=aa.B 0;refine ⟨⟨k+1,(cX (nth t.kids (k:Int)) m (cS t d)).1,ae,?_,?_,?_,ab,(e1.trans (aZ (by omega))),(e33.trans (aZ (by omega))),e2,e31,e32⟩,?_⟩
     · omega
     · omega
     · exact sW q2 (by omega) hgood
     · simp only [m33,e33,intOf];omega
   try simp only [ai,aP] at hc3
   refine wp_exit ?_;repeat (with_reducible refine bU ?_)
   refine bY ?_;refine wp_seq (fa ab [] ⟨ak e1,aI 0,ao fun c=>aw rfl rfl,au⟩ fun ac ag ae ab aa=> ?_);have e6:=aa.V 1;have e7:=aa.V 2;refine wp_ret ?_;refine rp ?_;refine la (fn:=Try.f50) rfl ab.defers e6 e7 ?_;exact ⟨congrArg _ (show (Value.tuple #[(aj m),(aD true)])=(.tuple #[aj (cX t n d).1,aD (cX t n d).2]) from by rw [vp hcd q2 (by omega)]),ab.ext0⟩
 have hd4:=hc1;try simp only [aS,ai] at hd4
 refine wp_skip ?_;refine wp_seq ?_;refine wp_seq ?_;have hdp:d=cS t d:=by unfold cS qm;first | (rw [if_pos (by simpa using (by assumption))]) | (rw [if_neg (by simpa using (by assumption))])
 replace e2:aU ac 2=aj (cS t d):=e2.trans (aZ hdp);have hdr:cS t d≤1000∧ -1≤cS t d:=by unfold cS;split <;> omega
 refine tG [0,1,3,7,15,31,63,127,255,511,1023] ab [jb r0] ⟨ak e1,ao fun c=>ci rfl (c.q 0) rfl,bm 1,bR 2 rfl fun c hpc=>aM rfl (c.p e2),bR 2 rfl fun c hpc=>ci rfl (c.M 3 hpc) rfl,eB 2 4,bm 5,bR 6 rfl fun c hpc=>fm rfl aJ aq ((c.p e3).trans r0.ptr) (c.B 0),fK 6 false rfl fun c hpc=>⟨_,_,(bI rfl rfl Try.call67 (c.M 7 hpc)),vn t _ (hT.at (ab.ext.trans c.J.ext)) (by have hq0:=hpc;(try simp only [aS,ai,aP] at hq0);omega)⟩,bR 6 rfl fun c hpc=>dW rfl (c.M 8 hpc),eB 6 9,au⟩ fun ac ag ae ab aa=> ?_;obtain ⟨e1,e2,e3,e6,e7⟩:=aa.k5 e1 e2 e3 e6 e7;have e26:=aa.V 10;replace r0:=aa.B 0;refine wp_cond_split e26 (fun hc5=> ?_) (fun hc5=> ?_)
 · have hd5:=hc5;try simp only [be,aS,aA,av,ah,ai,aP] at hd5
   refine wp_seq ?_;have hcd:=hc5;refine fa ab [jb r0] ⟨ak e1,aI 0,ao fun c=>aw rfl rfl,au⟩ fun ac ag ae ab aa=> ?_;obtain ⟨e1,e2,e3⟩:=aa.k3 e1 e2 e3;have e6:=aa.V 1;have e7:=aa.V 2;replace r0:=aa.B 0;refine wp_ret ?_;refine rp ?_;refine la (fn:=Try.f50) rfl ab.defers e6 e7 ?_;exact ⟨congrArg _ (show (Value.tuple #[(aj n),(aD false)])=(.tuple #[aj (cX t n d).1,aD (cX t n d).2]) from by rw [xB hcd]),ab.ext0⟩
 have hd5:=hc5;try simp only [be,aS,aA,av,ah,ai,aP] at hd5
 refine wp_skip ?_;refine wp_seq ?_;have hcd:((decide (n < 1) || decide (cS t d < 0)) || !dB t)=false:=by assumption
 have hce:=hcd;simp only [aS,ai,aP] at hce;refine fa ab [jb r0] ⟨ak e1,ao fun c=>fv rfl (c.q 0) rfl (by omega),aI 1,au⟩ fun ac ag ae ab aa=> ?_;obtain ⟨e2,e3,e6,e7⟩:=aa.k4 e2 e3 e6 e7;have e1:=aa.V 2;replace r0:=aa.B 0;refine wp_seq ?_;refine wp_seq (lc [0,1,3,0] ab [jb r0] ⟨cy aC cT e3 r0.ptr,fk dV 0 0 7,ao fun c=>dh rfl bl (c.q 1) (hT.at ab.ext).tl.sl.sl,ao fun c=>aM rfl rfl,au⟩ fun ac ag ae ab aa=> ?_);obtain ⟨e1,e2,e6,e7⟩:=aa.k4 e1 e2 e6 e7;have e31:=aa.V 1;have e32:=aa.V 2;have e33:=aa.V 3;refine wp_block ?_;refine wp_loop (fun a_ w_=>∃(k:Nat) (m:Int) (τ:Nat→aX),(k≤t.kids.length)∧
      (0≤m∧m≤1000)∧
      (ii (t.kids.map cX) (n - 1) (cS t d)=ii ((t.kids.drop k).map cX) m (cS t d))∧
      St (Nw w) w 49 a_ w_ τ∧
      aU a_ 1=(aj m)∧
      aU a_ 33=(aj (k:Int))∧
      aU a_ 2=(aj (cS t d))∧
      aU a_ 31=t.kv.v∧
      aU a_ 32=(aj (t.kids.length:Int))) (fun a_ _=>t.kids.length - (intOf (aU a_ 33)).toNat) ?_ ?_
 · refine ⟨0,n - 1,ae,?_,?_,?_,ab,(e1.trans (aZ (by omega))),(e33.trans (aZ (by omega))),e2,e31,e32⟩
   · omega
   · omega
   · rfl
 intro a21 w21 hI;obtain ⟨k,m,τ21,q0,q1,q2,st21,e1,e33,e2,e31,e32⟩:=hI;have hpk0:=hpk k;have m33:=e33;refine wp_seq (eM st21 [] ⟨ao fun c=>ci rfl (c.p e33) (c.p e32),au⟩ fun ac ag ae ab aa=> ?_);obtain ⟨e1,e2,e31,e32,e33⟩:=aa.k5 e1 e2 e31 e32 e33;have e34:=aa.V 0;refine wp_seq ?_;refine wp_cond_split e34 (fun hc6=> ?_) (fun hc6=> ?_)
 · try simp only [ah] at hc6
   refine wp_skip ?_;refine wp_seq ?_;refine wp_block ?_;refine wp_seq (rg [_,_,box _ _ 0 9 [(aj 0),(aR (⟨#[]⟩:ByteArray)),(aD false),(.slice none 0 0),(aj 0),(aj 0),(aD false),(.slice none 0 0)],_] [0,1,0,7] ab [] ⟨ao fun c=>aL rfl bl aq (c.p e31) (hT.at ab.ext).tl.sl.sl (c.p e33) (by omega) (by omega),ao fun c=>cN (vs:=(tc (nth t.kids (k:Int)))) rfl aJ aq (c.q 0) rfl (fun _ _ hj=>((hT.at (ab.ext.trans c.J.ext)).tl.sl).elem (bh (i:=(k:Int)) (by omega) (by omega)) hj),cC rfl rfl rfl rfl aO rfl,gp (cx:=(tc (nth t.kids (k:Int)))) (off:=0) rfl aq fun c=>⟨c.rb 2 rfl,(c.rb 2 rfl).ptr,(c.q 1)⟩,au⟩ fun ac ag ae ab aa=> ?_);obtain ⟨b23x9,e9⟩:=gx ac 9;obtain ⟨e1,e2,e31,e32,e33,e34⟩:=aa.k6 e1 e2 e31 e32 e33 e34;have r0:=aa.rb 3 e9 rfl;refine wp_seq (eM ab [jb r0] ⟨ao fun c=>aw rfl rfl,au⟩ fun ac ag ae ab aa=> ?_);obtain ⟨e1,e2,e9,e31,e32,e33,e34⟩:=aa.k7 e1 e2 e9 e31 e32 e33 e34;have e10:=aa.V 0;replace r0:=aa.B 0;refine wp_seq (wU [0,0,0,7,15,31,31,63,255] ab [jb r0] ⟨ao fun c=>fm rfl aJ aq ((c.p e9).trans r0.ptr) (c.B 0),ak e1,ak e2,ey fun c=>⟨_,_,(jt rfl rfl Try.call50 (c.q 0) (c.q 1) (c.q 2)),ih _ (aW (by omega) (by omega)) m (cS t d) _ ((hT.at (ab.ext.trans c.J.ext)).tl.el (by omega) (by omega)) (by omega) (by omega) (by omega)⟩,bm 3,dP 4,dP 4,aI 5,aI 6,au⟩ fun ac ag ae ab aa=> ?_);obtain ⟨e2,e9,e31,e32,e33,e34⟩:=aa.k6 e2 e9 e31 e32 e33 e34;have e1:=aa.V 7;have e10:=aa.V 8;replace r0:=aa.B 0;refine wp_seq (eL ab [jb r0] ⟨ak e10,ao fun c=>dW rfl (c.q 0),au⟩ fun ac ag ae ab aa=> ?_);obtain ⟨e1,e2,e9,e10,e31,e32,e33,e34⟩:=aa.k8 e1 e2 e9 e10 e31 e32 e33 e34;have e45:=aa.V 1;replace r0:=aa.B 0;refine wp_cond_split e45 (fun hc7=> ?_) (fun hc7=> ?_)
   · have hd7:=hc7;try simp only [aA,av] at hd7
     refine wp_seq ?_;have hbad:(cX (nth t.kids (k:Int)) m (cS t d)).2=false:=by simpa using (by assumption:(!(cX (nth t.kids (k:Int)) m (cS t d)).2)=true)
     refine fa ab [jb r0] ⟨ak e1,aI 0,ao fun c=>aw rfl rfl,au⟩ fun ac ag ae ab aa=> ?_;obtain ⟨e1,e2,e9,e10,e31,e32,e33,e34,e45⟩:=aa.k9 e1 e2 e9 e10 e31 e32 e33 e34 e45;have e6:=aa.V 1;have e7:=aa.V 2;replace r0:=aa.B 0;refine wp_ret ?_;refine rp ?_;refine la (fn:=Try.f50) rfl ab.defers e6 e7 ?_;exact ⟨congrArg _ (show (Value.tuple #[(aj ((cX (nth t.kids (k:Int)) m (cS t d)).1)),(aD false)])=(.tuple #[aj (cX t n d).1,aD (cX t n d).2]) from by rw [vo hcd q2 (by omega) hbad]),ab.ext0⟩
   have hd7:=hc7;try simp only [aA,av] at hd7
   refine wp_skip ?_;show _;have hgood:(cX (nth t.kids (k:Int)) m (cS t d)).2=true:=by simpa using (by assumption:(!(cX (nth t.kids (k:Int)) m (cS t d)).2)=false)
   have hrg:=nw (nth t.kids (k:Int)) (n:=m) (d:=cS t d) (by omega);refine eL ab [jb r0] ⟨ao fun c=>cp rfl (c.p e33) rfl (by omega),bm 0,au⟩ fun ac ag ae ab aa=> ?_;obtain ⟨e1,e2,e9,e10,e31,e32,e34,e45⟩:=aa.k8 e1 e2 e9 e10 e31 e32 e34 e45;have e33:=aa.V 1;replace r0:=aa.B 0;refine ⟨⟨k+1,(cX (nth t.kids (k:Int)) m (cS t d)).1,ae,?_,?_,?_,ab,(e1.trans (aZ (by omega))),(e33.trans (aZ (by omega))),e2,e31,e32⟩,?_⟩
   · omega
   · omega
   · exact sW q2 (by omega) hgood
   · simp only [m33,e33,intOf];omega
 try simp only [ai,aP] at hc6
 refine wp_exit ?_;repeat (with_reducible refine bU ?_)
 refine bY ?_;refine wp_seq (fa ab [] ⟨ak e1,aI 0,ao fun c=>aw rfl rfl,au⟩ fun ac ag ae ab aa=> ?_);have e6:=aa.V 1;have e7:=aa.V 2;refine wp_ret ?_;refine rp ?_;refine la (fn:=Try.f50) rfl ab.defers e6 e7 ?_;exact ⟨congrArg _ (show (Value.tuple #[(aj m),(aD true)])=(.tuple #[aj (cX t n d).1,aD (cX t n d).2]) from by rw [vp hcd q2 (by omega)]),ab.ext0⟩
theorem Ek (t:Tr):∀(n d:Int) (w:World),sy w t→fR t≤1000000→0≤n∧n≤1000→0≤d∧d≤1000→Calls Try.prog 50 #[t.v,.int .i64 n,.int .i64 d] w (fun e w'=>e= .returned (.tuple #[.int .i64 (cX t n d).1,.bool (cX t n d).2])∧Ext bk w w'):=Tr.ind (P:=fun t=>∀(n d:Int) (w:World),sy w t→fR t≤1000000→0≤n∧n≤1000→0≤d∧d≤1000→Calls Try.prog 50 #[t.v,.int .i64 n,.int .i64 d] w (fun e w'=>e= .returned (.tuple #[.int .i64 (cX t n d).1,.bool (cX t n d).2])∧Ext bk w w')) yG t
set_option maxRecDepth 100000 in
theorem DA (t:Tr) (w:World) (hT:sy w t) (hP:fR t≤1000000):Calls Try.prog 34 #[(ta t)] w (fun e w'=>e= .returned (aD ((cX t 512 16).2))∧Ext bk w w'):=by
 refine enter (n:=11) Try.func34 rfl rfl (ar rfl) ?_;intro a0 τ0 ha st0;have e0:aU a0 0=(ta t):=ha 0 _ rfl;clear ha;refine wp_seq (rg [box _ _ 0 1 (tc t),_] [0,0] st0 [] ⟨jh (v:=(ta t)) rfl rfl rfl rfl rfl (fun _ _ _ _ c=>(c.p e0)),ao fun c=>aw rfl rfl,au⟩ fun ac ag ae ab aa=> ?_);obtain ⟨b1x1,e1⟩:=gx ac 1;have e2:=aa.V 1;have r0:=aa.rb 0 e1 rfl;refine wp_seq (tF [0,1,3,7,7,15,63] ab [jb r0] ⟨ao fun c=>fm rfl aJ aq ((c.p e1).trans r0.ptr) (c.B 0),ey fun c=>⟨_,_,(jt rfl rfl Try.call50 (c.q 0) rfl rfl),Ek t 512 16 _ (hT.at (ab.ext.trans c.J.ext)) (by omega) (by omega) (by omega)⟩,bm 1,dP 2,dP 2,aI 3,aI 4,au⟩ fun ac ag ae ab aa=> ?_);replace e2:=aa.k1 e2;have e4:=aa.V 6;refine wp_seq (eL ab [] ⟨ak e4,aI 0,au⟩ fun ac ag ae ab aa=> ?_);have e2:=aa.V 1;refine wp_ret ?_;refine rp ?_;refine cO (fn:=Try.f34) rfl ab.defers e2 ?_;exact ⟨rfl,ab.ext0⟩
end
section
open Go.RowKit
open Srt
def jk:Tr→Bool:=lE fun t l=>l.all (fun b=>b)&&dB t
theorem lI (t:Tr):jk t=(t.kids.all jk&&dB t):=by
  have h:=iQ (fun t l=>l.all (fun b=>b)&&dB t) t;rw [List.all_map] at h;exact h
theorem yH (t:Tr):ob t [0,1]=t.kids.any fun y=>decide (y.k=0) || decide (y.k=1):=by
  unfold ob;congr 1;funext y;simp
theorem yI (t:Tr):ob t [1]=t.kids.any fun y=>decide (y.k=1):=by
  unfold ob;congr 1;funext y;simp
end
section
open Srt
theorem yJ (t:Tr) (d:Int):(fx t≤d)↔(nq (t.kids.map fx)≤cS t d):=by
  rw [md];unfold cS;split <;> omega
theorem yK (t:Tr):∀n d:Int,0≤n→0≤d→(((cX t n d).2=true↔(cW t≤n∧fx t≤d∧jk t=true))∧((cX t n d).2=true→(cX t n d).1=n - cW t)):=by
  induction t using Tr.ind with
  | h t ih =>
    intro n d hn hd;have hK:∀ks:List Tr,(∀k ∈ ks,k ∈ t.kids)→∀m d:Int,0≤m→0≤d→(((ii (ks.map cX) m d).2=true↔(dD (ks.map cW)≤m∧nq (ks.map fx)≤d∧ks.all jk=true))∧((ii (ks.map cX) m d).2=true→(ii (ks.map cX) m d).1=m - dD (ks.map cW))):=by
      intro ks;induction ks with
      | nil => intro _ m d h h2; simp [ii, dD, nq]; omega
      | cons k ks ih2 =>
        intro hm m d h h2;obtain ⟨i1,i2⟩:=ih k (hm k (by simp)) m d h h2;have hr:=nw k (n:=m) (d:=d) h;have hs:dD ((k::ks).map cW)=cW k+dD (ks.map cW):=by
          rw [show k::ks=[k]++ks from rfl,bM,jQ];simp [dD]
        have hx:∀d:Int,nq ((k::ks).map fx)≤d↔(fx k≤d∧nq (ks.map fx)≤d):=by
          intro d;constructor
          · intro hh;refine ⟨kC (rf (by simp)) hh,qr (kC (oW _) hh) fun x hx=>kC (rf (by simp at hx ⊢;exact .inr hx)) hh⟩
          · rintro ⟨h3,h4⟩
            refine qr (kC (oW _) h4) fun x hx=> ?_;simp at hx;rcases hx with rfl | ⟨q,hq,rfl⟩
            · exact h3
            · exact kC (rf (List.mem_map.2 ⟨q,hq,rfl⟩)) h4
        have hp:0≤dD (ks.map cW):=iC fun x hx=>by
          obtain ⟨q,_,rfl⟩:=List.mem_map.1 hx;have:=lh q;omega
        rw [bo,ii,hs,hx];split
        · rename_i hf;have hf':=i2 hf;obtain ⟨g1,g2,g3⟩:=i1.1 hf;obtain ⟨j1,j2⟩:=ih2 (fun x hx=>hm x (by simp [hx])) (cX k m d).1 d hr.1 h2;rw [hf'] at j1 j2 ⊢;refine ⟨?_,fun hh=> ?_⟩
          · rw [j1,dK,g3,gW];constructor
            · rintro ⟨a,b,c⟩;exact ⟨by omega,⟨g2,b⟩,c⟩
            · rintro ⟨a,⟨_,b⟩,c⟩;exact ⟨by omega,b,c⟩
          · rw [j2 hh];omega
        · rename_i hf;refine ⟨⟨fun hh=>(by cases hh),fun ⟨a,b,c⟩=> ?_⟩,fun hh=>(by cases hh)⟩;rw [dK,am] at c;exact absurd (i1.2 ⟨by omega,b.1,c.1⟩) hf
    have hp:0≤dD (t.kids.map cW):=iC fun x hx=>by
      obtain ⟨q,_,rfl⟩:=List.mem_map.1 hx;have:=lh q;omega
    have hx0:=oW (t.kids.map fx);rw [nv,lI,iF,yJ];split
    · rename_i hc;refine ⟨⟨fun hh=>(by cases hh),fun ⟨a,b,c⟩=> ?_⟩,fun hh=>(by cases hh)⟩;rw [am] at c;simp [c.2] at hc;omega
    · rename_i hc;simp only [be,ah,aA,not_or,aP,aV] at hc;obtain ⟨j1,j2⟩:=hK t.kids (fun _ h=>h) (n - 1) (cS t d) (by omega) (by omega);refine ⟨?_,fun hh=> ?_⟩
      · rw [j1,hc.2,Bool.and_true];constructor
        · rintro ⟨a,b,c⟩;exact ⟨by omega,b,c⟩
        · rintro ⟨a,b,c⟩;exact ⟨by omega,b,c⟩
      · rw [j2 hh];omega
def AD (t:Tr):Bool:=(decide (cW t≤512)&&decide (fx t≤16))&&jk t
theorem xC (t:Tr):(cX t 512 16).2=AD t:=by
  rw [fV,(yK t 512 16 (by omega) (by omega)).1];unfold AD;rw [am,am,ah,ah,and_assoc]
theorem wv (t:Tr):dB (er t)=dB t:=by
  have h1:∀f:Int→Bool,(er t).kids.any (fun x=>f x.k)=t.kids.any (fun x=>f x.k):=fun f=>by
    rw [mD,List.any_map];congr 1;funext x;simp [yu]
  have h2:(nth (er t).kids 0).k=(nth t.kids 0).k:=by
    rw [mD];cases hk:t.kids with
    | nil => rfl
    | cons x l =>
      show (nth (List.map er (x::l)) 0).k=x.k;rw [←yu x];rfl
  have h3:(er t).kids.length=t.kids.length:=by rw [mD];simp
  have h4:∀ks,ob (er t) ks=ob t ks:=fun ks=>h1 fun k=>ks.any fun y=>decide (k=y);have h5:mm (er t)=mm t:=by unfold mm;rw [oN]
  unfold dB;rw [h2,h3,h4,h4,h5];rw [oN]
theorem rM (t:Tr):cX (er t)=cX t:=oV (fun t l=>by funext n d;rw [wv];unfold cS qm;rw [yu]) t
end
section
open Srt
def ct (cs:List ByteArray) (i:Nat):ByteArray:=if (cs.length:Int)≤(i:Int) then ⟨#[]⟩ else nth cs (i:Int)
def eE (cs:List ByteArray) (i:Nat) (c:ByteArray):Bool:= !(decide ((cs.length:Int)≤(i:Int)) || (!(iH (nth cs (i:Int)) c)))
def tkN (cs:List ByteArray) (i:Nat) (c:ByteArray):Nat:=if eE cs i c=true then i+1 else i
theorem jf {cs:List ByteArray} {i:Nat} {c:ByteArray} (h:eE cs i c=true):tkN cs i c=i+1:=if_pos h
theorem jR {cs:List ByteArray} {i:Nat} {c:ByteArray} (h:eE cs i c=false):tkN cs i c=i:=if_neg (by rw [h];decide)
theorem El (cs:List ByteArray) (i:Nat) (c:ByteArray):tkN cs i c≤i+1∧i≤tkN cs i c:=by unfold tkN;split <;> omega
theorem gq {cs:List ByteArray} {i:Nat} {c:ByteArray} (h:eE cs i c=true):i < cs.length:=by
  simp [eE] at h;omega
theorem gT {cs:List ByteArray} {i:Nat} (h:((ct cs i).size:Int)=1):i < cs.length:=by
  unfold ct at h;split at h
  · exact absurd h (by decide)
  · omega
theorem mQ {cs:List ByteArray} {i:Nat} (h:iH (ct cs i) (⟨#[]⟩:ByteArray)=false):i < cs.length:=by
  unfold ct at h;split at h
  · exact absurd h (by decide+kernel)
  · omega
def xD (n:Int):Bool:=(decide (65≤n)&&decide (n≤90)) || (decide (97≤n)&&decide (n≤122))
def ky (n:Int):Bool:=decide (48≤n)&&decide (n≤57)
def ij:Tr:=cZ 0 ⟨#[]⟩ false 0 0 false
def dw (ng:Bool) (rv:Sv) (rows:List Rw):Tr:=⟨4,⟨#[]⟩,ng,rv,rows,0,0,false,Sv.nil,[]⟩
theorem tZ (ng:Bool) (rv:Sv) (rows:List Rw):er (dw ng rv rows)=dw ng Sv.nil rows:=by rw [oN];rfl
theorem CB {G Z:aX} {w:World} {ng:Bool} {rv:Sv} {rows:List Rw} (h:(fL dQ G rv.v rows).P Z w):(kw G (dw ng rv rows)).P Z w:=
  .mk h.1 h.2 (SlT.nil _ _) (fun h=>absurd rfl h) (fun k h=>by cases h)
def fq (c:ByteArray):ByteArray × Bool:=
  if iH c ⟨#[]⟩=true then (⟨#[]⟩,false) else if iH c ⟨#[110]⟩=true then (⟨#[10]⟩,true) else if iH c ⟨#[114]⟩=true then (⟨#[13]⟩,true) else if iH c ⟨#[116]⟩=true then (⟨#[9]⟩,true)
  else if iH c ⟨#[102]⟩=true then (⟨#[12]⟩,true) else if iH c ⟨#[118]⟩=true then (⟨#[11]⟩,true)
  else if (decide ((c.size:Int)=1)&&(xD (bS c 0) || ky (bS c 0)))=true then (⟨#[]⟩,false) else (c,true)
def na (cs:List ByteArray):Nat→Int→Nat→Nat→Int × Nat × Nat
  | 0, n, m, i => (n, m, i)
  | f + 1, n, m, i => if ((decide ((m : Int) < 3) && decide (((ct cs i).size : Int) = 1)) && ky (bS (ct cs i) 0)) = true then na cs f (n * 10 + (bS (ct cs i) 0 - 48)) (m + 1) (i + 1) else (n, m, i)
def bX (cs:List ByteArray) (i:Nat):Int × Nat × Nat:=na cs 4 0 0 i
def js (r:Int × Nat × Nat):Bool:=decide ((0:Int) < (r.2.1:Int))&&decide (r.1≤255)
theorem qy (cs:List ByteArray):∀(f:Nat) (n:Int) (m i:Nat),i≤(na cs f n m i).2.2∧((na cs f n m i).2.2≤cs.length∨(na cs f n m i).2.2=i)
  | 0, n, m, i => ⟨bd _, .inr rfl⟩
  | f + 1, n, m, i => by
    rw [na];split
    · rename_i h;simp only [am,ah] at h;have hlt:=gT h.1.2;have:=qy cs f (n * 10+(bS (ct cs i) 0 - 48)) (m+1) (i+1);omega
    · exact ⟨bd _,.inr rfl⟩
theorem xE (cs:List ByteArray):∀(f:Nat) (n:Int) (m i:Nat),0≤n→m≤3→n < 10 ^ m→0≤(na cs f n m i).1∧(na cs f n m i).1 < 1000
  | 0, n, m, i => fun h0 hm h1 => ⟨h0, kT h1 (by
      show (10:Int) ^ m≤1000;match m,hm with
      | 0, _ => decide
      | 1, _ => decide
      | 2, _ => decide
      | 3, _ => decide)⟩
  | f + 1, n, m, i => fun h0 hm h1 => by
    rw [na];split
    · rename_i h;simp only [am,ah,ky] at h;refine xE cs f _ (m+1) (i+1) (by omega) (by omega) ?_;rw [Int.pow_succ];omega
    · refine ⟨h0,kT h1 ?_⟩;match m,hm with
      | 0, _ => decide
      | 1, _ => decide
      | 2, _ => decide
      | 3, _ => decide
theorem ua (cs:List ByteArray) (i:Nat):0≤(bX cs i).1∧(bX cs i).1 < 1000:=xE cs 4 0 0 i (by decide) (by decide) (by decide)
def AE (x:Tr) (mn mx:Int) (lz:Bool):Tr:=bV 7 ⟨#[]⟩ false mn mx lz Sv.nil [x]
def kB (cs:List ByteArray) (x:Tr) (j:Nat) (mn mx:Int):Tr × Int × Nat:=(AE x mn mx (eE cs j ⟨#[63]⟩),0,tkN cs j ⟨#[63]⟩)
def lP (cs:List ByteArray) (x:Tr) (mn mx:Int) (ok:Bool) (j:Nat):Tr × Int × Nat:=
  if ok=false then (ij,10,j) else if eE cs j ⟨#[125]⟩=false then (ij,10,j) else if ((!decide (mx= -1))&&decide (mx < mn))=true then (ij,10,j+1) else kB cs x (j+1) mn mx
def dM (cs:List ByteArray) (x:Tr) (i:Nat):Tr × Int × Nat:=
  if eE cs i ⟨#[42]⟩=true then kB cs x (i+1) 0 (-1)
  else if eE cs i ⟨#[43]⟩=true then kB cs x (i+1) 1 (-1)
  else if eE cs i ⟨#[63]⟩=true then kB cs x (i+1) 0 1
  else if eE cs i ⟨#[123]⟩=true then
    if js (bX cs (i+1))=false then (ij,10,(bX cs (i+1)).2.2)
    else if eE cs (bX cs (i+1)).2.2 ⟨#[44]⟩=true then
      if iH (ct cs ((bX cs (i+1)).2.2+1)) ⟨#[125]⟩=false then lP cs x (bX cs (i+1)).1 (bX cs ((bX cs (i+1)).2.2+1)).1 (js (bX cs ((bX cs (i+1)).2.2+1))) (bX cs ((bX cs (i+1)).2.2+1)).2.2
      else lP cs x (bX cs (i+1)).1 (-1) true ((bX cs (i+1)).2.2+1)
    else lP cs x (bX cs (i+1)).1 (bX cs (i+1)).1 true (bX cs (i+1)).2.2
  else (x,0,i)
def bB (cs:List ByteArray) (i:Nat):List Rw × ByteArray × Bool × Nat:=
  if (iH (ct cs i) ⟨#[]⟩ || iH (ct cs i) ⟨#[93]⟩)=true then ([],⟨#[]⟩,false,i)
  else if iH (ct cs i) ⟨#[92]⟩=false then ([],ct cs i,true,i+1)
  else if (decide (((ct cs (i+1)).size:Int)=1)&&gY (bS (ct cs (i+1)) 0))=true then (gl (bS (ct cs (i+1)) 0),⟨#[]⟩,true,i+2)
  else ([],(fq (ct cs (i+1))).1,(fq (ct cs (i+1))).2,i+2)
def iS (cs:List ByteArray) (ng:Bool):Nat→Nat→List Rw→Tr × Int × Nat
  | 0, i, _ => (ij, 99, i)
  | f + 1, i, rows =>
    if eE cs i ⟨#[93]⟩=true then (dw ng Sv.nil (br rows),0,i+1)
    else if (bB cs i).2.2.1=false then (ij,10,(bB cs i).2.2.2)
    else if (0:Int) < ((bB cs i).1.length:Int) then iS cs ng f (bB cs i).2.2.2 (rows++(bB cs i).1)
    else if ((iH (ct cs (bB cs i).2.2.2) ⟨#[45]⟩&&decide (((bB cs i).2.2.2:Int)+1 < (cs.length:Int)))&& !(iH (nth cs (((bB cs i).2.2.2:Int)+1)) ⟨#[93]⟩))=true then
      if (((!(bB cs ((bB cs i).2.2.2+1)).2.2.1) || decide ((0:Int) < ((bB cs ((bB cs i).2.2.2+1)).1.length:Int))) || lQ (bB cs ((bB cs i).2.2.2+1)).2.1 (bB cs i).2.1)=true then (ij,10,(bB cs ((bB cs i).2.2.2+1)).2.2.2)
      else iS cs ng f (bB cs ((bB cs i).2.2.2+1)).2.2.2 (rows++ [((bB cs i).2.1,(bB cs ((bB cs i).2.2.2+1)).2.1)])
    else iS cs ng f (bB cs i).2.2.2 (rows++ [((bB cs i).2.1,(bB cs i).2.1)])
def jZ (cs:List ByteArray) (i:Nat):Tr × Int × Nat:=iS cs (eE cs i ⟨#[94]⟩) (cs.length+1) (tkN cs i ⟨#[94]⟩) []
def gF (cs:List ByteArray) (i:Nat):Tr × Int × Nat:=
  if (decide (((ct cs i).size:Int)=1)&&gY (bS (ge (ct cs i)) 0))=true then (dw (!(iH (ct cs i) (ge (ct cs i)))) Sv.nil (gl (bS (ge (ct cs i)) 0)),0,i+1)
  else if (fq (ct cs i)).2=false then (ij,10,i)
  else (cZ 2 (fq (ct cs i)).1 false 0 0 false,0,i+1)
def Em (c:ByteArray):Bool:=((((((iH c ⟨#[42]⟩ || iH c ⟨#[43]⟩) || iH c ⟨#[63]⟩) || iH c ⟨#[41]⟩) || iH c ⟨#[123]⟩) || iH c ⟨#[124]⟩) || (!(ei c)))
def dG (sub:Int→Nat→Tr × Int × Nat) (cs:List ByteArray) (d:Int) (i:Nat):Tr × Int × Nat:=
  if eE cs i ⟨#[46]⟩=true then (cZ 3 ⟨#[]⟩ false 0 0 false,0,i+1)
  else if eE cs i ⟨#[40]⟩=true then
    if 16≤d then (ij,8,i+1)
    else if eE cs (i+1) ⟨#[63]⟩=true then
      if eE cs (i+2) ⟨#[58]⟩=false then (ij,10,i+2)
      else if (sub (d+1) (i+3)).2.1≠0 then (ij,(sub (d+1) (i+3)).2.1,(sub (d+1) (i+3)).2.2)
      else if eE cs (sub (d+1) (i+3)).2.2 ⟨#[41]⟩=false then (ij,10,(sub (d+1) (i+3)).2.2)
      else (bV 6 ⟨#[]⟩ false 0 0 false Sv.nil [(sub (d+1) (i+3)).1],0,(sub (d+1) (i+3)).2.2+1)
    else if (sub (d+1) (i+1)).2.1≠0 then (ij,(sub (d+1) (i+1)).2.1,(sub (d+1) (i+1)).2.2)
    else if eE cs (sub (d+1) (i+1)).2.2 ⟨#[41]⟩=false then (ij,10,(sub (d+1) (i+1)).2.2)
    else (bV 5 ⟨#[]⟩ false 0 0 false Sv.nil [(sub (d+1) (i+1)).1],0,(sub (d+1) (i+1)).2.2+1)
  else if eE cs i ⟨#[91]⟩=true then jZ cs (i+1)
  else if eE cs i ⟨#[92]⟩=true then gF cs (i+1)
  else if Em (ct cs i)=true then (ij,10,i)
  else (cZ 2 (ct cs i) false 0 0 false,0,i+1)
def sX (cs:List ByteArray) (i:Nat) (c:ByteArray):Bool:=(iH (ct cs i) ⟨#[92]⟩&&decide ((i:Int)+1 < (cs.length:Int)))&&iH (nth cs ((i:Int)+1)) c
def eN (sub:Int→Nat→Tr × Int × Nat) (cs:List ByteArray) (d:Int) (i:Nat):Tr × Int × Nat:=
  if eE cs i ⟨#[94]⟩=true then (cZ 8 ⟨#[]⟩ false 0 0 false,0,i+1)
  else if eE cs i ⟨#[36]⟩=true then (cZ 9 ⟨#[]⟩ false 0 0 false,0,i+1)
  else if sX cs i ⟨#[98]⟩=true then (cZ 10 ⟨#[]⟩ false 0 0 false,0,i+2)
  else if sX cs i ⟨#[66]⟩=true then (cZ 11 ⟨#[]⟩ false 0 0 false,0,i+2)
  else if (dG sub cs d i).2.1≠0 then (ij,(dG sub cs d i).2.1,(dG sub cs d i).2.2)
  else dM cs (dG sub cs d i).1 (dG sub cs d i).2.2
def vq (cs:List ByteArray) (i:Nat):Bool:=(decide ((i:Int) < (cs.length:Int))&& !(iH (ct cs i) ⟨#[124]⟩))&& !(iH (ct cs i) ⟨#[41]⟩)
def eC (cs:List ByteArray):Nat→Int→Nat→List Tr→List Tr→Tr × Int × Nat
  | 0, _, i, _, _ => (ij, 99, i)
  | f + 1, d, i, alts, terms =>
    if vq cs i=true then
      if (eN (fun d j=>eC cs f d j [] []) cs d i).2.1≠0 then (ij,(eN (fun d j=>eC cs f d j [] []) cs d i).2.1,(eN (fun d j=>eC cs f d j [] []) cs d i).2.2)
      else eC cs f d (eN (fun d j=>eC cs f d j [] []) cs d i).2.2 alts (terms++ [(eN (fun d j=>eC cs f d j [] []) cs d i).1])
    else if eE cs i ⟨#[124]⟩=true then eC cs f d (i+1) (alts++ [li terms]) []
    else (me (alts++ [li terms]),0,i)
def gB (s:ByteArray):Tr × Int:=
  if 256 < (s.size:Int) then (ij,4)
  else if (eC (bW s) ((bW s).length+1) 0 0 [] []).2.1≠0 then (ij,(eC (bW s) ((bW s).length+1) 0 0 [] []).2.1)
  else if ((eC (bW s) ((bW s).length+1) 0 0 [] []).2.2:Int) < ((bW s).length:Int) then (ij,10)
  else ((eC (bW s) ((bW s).length+1) 0 0 [] []).1,0)
end
section
open Srt
theorem ub (cs:List ByteArray) (i:Nat) (c:ByteArray):i≤tkN cs i c∧(tkN cs i c≤cs.length∨tkN cs i c=i):=by
  unfold tkN;split
  · rename_i h;have:=gq h;omega
  · omega
theorem ww {c:ByteArray} (h:(fq c).2=true):iH c (⟨#[]⟩:ByteArray)=false:=by
  cases hz:iH c (⟨#[]⟩:ByteArray) with
  | false => rfl
  | true =>
    simp only [fq] at h;rw [if_pos hz] at h;cases h
theorem uc {cs:List ByteArray} {i:Nat} (h:(bB cs i).2.2.1=true):i < (bB cs i).2.2.2∧(bB cs i).2.2.2≤cs.length:=by
  unfold bB at h ⊢;split at h
  · cases h
  · rename_i h0;have hlt:i < cs.length:=by
      rw [aQ,aS] at h0;exact mQ h0.1
    rw [if_neg h0];split at h
    · rename_i h1;rw [if_pos h1];simp;omega
    · rename_i h1;rw [if_neg h1];split at h
      · rename_i h2;rw [if_pos h2];rw [am,ah] at h2;have:=gT h2.1;simp;omega
      · rename_i h2;rw [if_neg h2];have:=mQ (ww h);simp;omega
theorem nN (cs:List ByteArray) (x:Tr) (j:Nat) (mn mx:Int):j≤(kB cs x j mn mx).2.2∧((kB cs x j mn mx).2.2≤cs.length∨(kB cs x j mn mx).2.2=j):=ub cs j _
theorem ud (cs:List ByteArray) (i:Nat):i≤(bX cs i).2.2∧((bX cs i).2.2≤cs.length∨(bX cs i).2.2=i):=qy cs 4 0 0 i
theorem ue {cs:List ByteArray} {x:Tr} {mn mx:Int} {ok:Bool} {j:Nat} (h:(lP cs x mn mx ok j).2.1=0):j≤(lP cs x mn mx ok j).2.2∧(lP cs x mn mx ok j).2.2≤cs.length:=by
  unfold lP at h ⊢;split at h
  · cases h
  · rename_i h1;rw [if_neg h1];split at h
    · cases h
    · rename_i h2;rw [if_neg h2];split at h
      · cases h
      · rename_i h3;rw [if_neg h3];have:=gq (by simpa using h2:eE cs j ⟨#[125]⟩=true);have:=nN cs x (j+1) mn mx;omega
theorem AF {cs:List ByteArray} {x:Tr} {i:Nat} (h:(dM cs x i).2.1=0):i≤(dM cs x i).2.2∧((dM cs x i).2.2≤cs.length∨(dM cs x i).2.2=i):=by
  have one:∀c,eE cs i c=true→∀mn mx,i≤(kB cs x (i+1) mn mx).2.2∧((kB cs x (i+1) mn mx).2.2≤cs.length∨(kB cs x (i+1) mn mx).2.2=i):=fun c hc mn mx=>by
    have:=gq hc;have:=nN cs x (i+1) mn mx;omega
  unfold dM at h ⊢;split
  · exact one _ (by assumption) _ _
  · split
    · exact one _ (by assumption) _ _
    · split
      · exact one _ (by assumption) _ _
      · split
        · rename_i h1 h2 h3 h4;rw [if_neg h1,if_neg h2,if_neg h3,if_pos h4] at h;have a1:=gq h4;have a2:=ud cs (i+1);split
          · rename_i h5;rw [if_pos h5] at h;cases h
          · rename_i h5;rw [if_neg h5] at h;split
            · rename_i h6;rw [if_pos h6] at h;have a3:=ud cs ((bX cs (i+1)).2.2+1);split
              · rename_i h7;rw [if_pos h7] at h;have:=ue h;omega
              · rename_i h7;rw [if_neg h7] at h;have:=ue h;omega
            · rename_i h6;rw [if_neg h6] at h;have:=ue h;omega
        · exact ⟨bd _,.inr rfl⟩
theorem qz {cs:List ByteArray} {ng:Bool}:∀(f i:Nat) (rows:List Rw),(iS cs ng f i rows).2.1=0→i < (iS cs ng f i rows).2.2∧(iS cs ng f i rows).2.2≤cs.length
  | 0, i, rows, h => by cases h
  | f + 1, i, rows, h => by
    rw [iS] at h ⊢;split
    · rename_i h1;have:=gq h1;simp;omega
    · rename_i h1;rw [if_neg h1] at h;split
      · rename_i h2;rw [if_pos h2] at h;cases h
      · rename_i h2;rw [if_neg h2] at h;have a1:=uc (by simpa using h2:(bB cs i).2.2.1=true);split
        · rename_i h3;rw [if_pos h3] at h;have:=qz f _ _ h;omega
        · rename_i h3;rw [if_neg h3] at h;split
          · rename_i h4;rw [if_pos h4] at h;split
            · rename_i h5;rw [if_pos h5] at h;cases h
            · rename_i h5;rw [if_neg h5] at h;have h6:(bB cs ((bB cs i).2.2.2+1)).2.2.1=true:=by
                rw [aQ,aS,aS,av] at h5;exact h5.1.1
              have a2:=uc h6;have:=qz f _ _ h;omega
          · rename_i h4;rw [if_neg h4] at h;have:=qz f _ _ h;omega
theorem wx {cs:List ByteArray} {i:Nat} (h:(jZ cs i).2.1=0):i < (jZ cs i).2.2∧(jZ cs i).2.2≤cs.length:=by
  have a1:=qz _ _ _ h;have a2:=ub cs i (⟨#[94]⟩:ByteArray);unfold jZ at h ⊢;omega
theorem uf {cs:List ByteArray} {i:Nat} (h:(gF cs i).2.1=0):i < (gF cs i).2.2∧(gF cs i).2.2≤cs.length:=by
  unfold gF at h ⊢;split
  · rename_i h1;rw [am,ah] at h1;have:=gT h1.1;simp;omega
  · rename_i h1;rw [if_neg h1] at h;split
    · rename_i h2;rw [if_pos h2] at h;cases h
    · rename_i h2;have:=mQ (ww (by simpa using h2));simp;omega
def sY (cs:List ByteArray) (sub:Int→Nat→Tr × Int × Nat):Prop:=∀(d2:Int) (j:Nat),(sub d2 j).2.1=0→j≤(sub d2 j).2.2∧((sub d2 j).2.2≤cs.length∨(sub d2 j).2.2=j)
theorem qA {sub:Int→Nat→Tr × Int × Nat} {cs:List ByteArray} {d:Int} {i:Nat} (hs:sY cs sub) (h:(dG sub cs d i).2.1=0):i < (dG sub cs d i).2.2∧(dG sub cs d i).2.2≤cs.length:=by
  unfold dG at h ⊢;split
  · rename_i h1;have:=gq h1;simp;omega
  · rename_i h1;rw [if_neg h1] at h;split
    · rename_i h2;rw [if_pos h2] at h;have a2:=gq h2;split
      · rename_i h3;rw [if_pos h3] at h;cases h
      · rename_i h3;rw [if_neg h3] at h;split
        · rename_i h4;rw [if_pos h4] at h;split
          · rename_i h5;rw [if_pos h5] at h;cases h
          · rename_i h5;rw [if_neg h5] at h;split
            · rename_i h6;rw [if_pos h6] at h;exact absurd h h6
            · rename_i h6;rw [if_neg h6] at h;split
              · rename_i h7;rw [if_pos h7] at h;cases h
              · rename_i h7;have a3:=gq (by simpa using h7:eE cs (sub (d+1) (i+3)).2.2 ⟨#[41]⟩=true);have a4:=hs (d+1) (i+3) (Classical.byContradiction h6);simp;omega
        · rename_i h4;rw [if_neg h4] at h;split
          · rename_i h6;rw [if_pos h6] at h;exact absurd h h6
          · rename_i h6;rw [if_neg h6] at h;split
            · rename_i h7;rw [if_pos h7] at h;cases h
            · rename_i h7;have a3:=gq (by simpa using h7:eE cs (sub (d+1) (i+1)).2.2 ⟨#[41]⟩=true);have a4:=hs (d+1) (i+1) (Classical.byContradiction h6);simp;omega
    · rename_i h2;rw [if_neg h2] at h;split
      · rename_i h3;rw [if_pos h3] at h;have:=wx h;omega
      · rename_i h3;rw [if_neg h3] at h;split
        · rename_i h4;rw [if_pos h4] at h;have:=uf h;omega
        · rename_i h4;rw [if_neg h4] at h;split
          · rename_i h5;rw [if_pos h5] at h;cases h
          · rename_i h5;have hne:iH (ct cs i) (⟨#[]⟩:ByteArray)=false:=by
              cases hz:iH (ct cs i) (⟨#[]⟩:ByteArray) with
              | false => rfl
              | true =>
                rw [oJ.1 hz] at h5;exact absurd (by decide+kernel) h5
            have:=mQ hne;simp;omega
theorem qB {cs:List ByteArray} {i:Nat} {c:ByteArray} (h:sX cs i c=true):i+1 < cs.length:=by
  unfold sX at h;simp only [am,ah] at h;omega
theorem ug {sub:Int→Nat→Tr × Int × Nat} {cs:List ByteArray} {d:Int} {i:Nat} (hs:sY cs sub) (h:(eN sub cs d i).2.1=0):i < (eN sub cs d i).2.2∧(eN sub cs d i).2.2≤cs.length:=by
  unfold eN at h ⊢;split
  · rename_i h1;have:=gq h1;simp;omega
  · rename_i h1;rw [if_neg h1] at h;split
    · rename_i h2;have:=gq h2;simp;omega
    · rename_i h2;rw [if_neg h2] at h;split
      · rename_i h3;have:=qB h3;simp;omega
      · rename_i h3;rw [if_neg h3] at h;split
        · rename_i h4;have:=qB h4;simp;omega
        · rename_i h4;rw [if_neg h4] at h;split
          · rename_i h5;rw [if_pos h5] at h;exact absurd h h5
          · rename_i h5;rw [if_neg h5] at h;have a1:=qA hs (Classical.byContradiction h5);have a2:=AF h;omega
theorem oD (cs:List ByteArray):∀(f:Nat) (d:Int) (i:Nat) (alts terms:List Tr),(eC cs f d i alts terms).2.1=0→i≤(eC cs f d i alts terms).2.2∧((eC cs f d i alts terms).2.2≤cs.length∨(eC cs f d i alts terms).2.2=i)
  | 0, d, i, alts, terms, h => by cases h
  | f + 1, d, i, alts, terms, h => by
    have hs:sY cs fun d j=>eC cs f d j [] []:=fun d j hh=>oD cs f d j [] [] hh;rw [eC] at h ⊢;split
    · rename_i h1;rw [if_pos h1] at h;split
      · rename_i h2;rw [if_pos h2] at h;exact absurd h h2
      · rename_i h2;rw [if_neg h2] at h;have a1:=ug hs (Classical.byContradiction h2);have:=oD cs f d _ _ _ h;omega
    · rename_i h1;rw [if_neg h1] at h;split
      · rename_i h2;rw [if_pos h2] at h;have a1:=gq h2;have:=oD cs f d _ _ _ h;omega
      · exact ⟨bd _,.inr rfl⟩
end
section
open Srt
def DB (x y:Int × Int):Bool:=decide (DX x y < 0)
theorem CC (x y:Int × Int):DX x y=if x.1 < y.1 then -1 else if y.1 < x.1 then 1 else if x.2 < y.2 then -1 else if y.2 < x.2 then 1 else 0:=by
  unfold DX BZ DW;by_cases h1:x.1 < y.1 <;> by_cases h2:y.1 < x.1 <;> by_cases h3:x.2 < y.2 <;> by_cases h4:y.2 < x.2 <;> simp [h1,h2,h3,h4,List.find?]
theorem nO (x y:Int × Int):DB x y=true↔x.1 < y.1∨(x.1=y.1∧x.2 < y.2):=by
  unfold DB;rw [CC,ah];split
  · constructor <;> intro _ <;> omega
  · split
    · constructor <;> intro _ <;> omega
    · split
      · constructor <;> intro _ <;> omega
      · split
        · constructor <;> intro _ <;> omega
        · constructor <;> intro _ <;> omega
def qC (acc:List (Int × Int)) (p:Int × Int):Bool:=decide (0≤(acc.length:Int) - 1)&&pH (nth acc ((acc.length:Int) - 1)) p
def mo (acc:List (Int × Int)) (p:Int × Int):List (Int × Int):=
  if qC acc p=true then acc.set ((acc.length:Int) - 1).toNat ((nth acc ((acc.length:Int) - 1)).1,max (nth acc ((acc.length:Int) - 1)).2 p.2) else acc++ [p]
def mX (xs:List (Int × Int)):List (Int × Int):=xs.foldl mo []
theorem rN (xs:List (Int × Int)) (p:Int × Int):mX (xs++ [p])=mo (mX xs) p:=by simp [mX]
theorem oE {p q:Int × Int}:pH p q=true↔max p.1 q.1≤min p.2 q.2:=by simp [pH]
theorem vr (A:List (Int × Int)) (l:Int × Int):nth (A++ [l]) (((A++ [l]).length:Int) - 1)=l:=
  kG (A:=A) (B:=[]) (by simp)
theorem pp (q:Int × Int):mo [] q=[q]:=by simp [mo,qC]
theorem od (A:List (Int × Int)) (l q:Int × Int):mo (A++ [l]) q=if pH l q=true then A++ [(l.1,max l.2 q.2)] else A++ [l]++ [q]:=by
  have h1:qC (A++ [l]) q=pH l q:=by
    unfold qC;rw [vr,decide_eq_true (by simp),gW]
  unfold mo;rw [h1,vr];split
  · rw [show (((A++ [l]).length:Int) - 1).toNat=A.length by simp];simp
  · rfl
def xF (xs:List (Int × Int)) (y:Int):Prop:=∃p ∈ xs,2 * p.1≤y∧y≤2 * p.2
def FD (xs:List (Int × Int)):Prop:=(∀p ∈ xs,p.1≤p.2)∧xs.Pairwise fun p q=>p.2 < q.1
theorem ka (xs ys:List (Int × Int)) (y:Int):xF (xs++ys) y↔xF xs y∨xF ys y:=by
  simp only [xF,List.mem_append];constructor
  · rintro ⟨p,hp | hp,h⟩
    · exact .inl ⟨p,hp,h⟩
    · exact .inr ⟨p,hp,h⟩
  · rintro (⟨p,hp,h⟩ | ⟨p,hp,h⟩)
    · exact ⟨p,.inl hp,h⟩
    · exact ⟨p,.inr hp,h⟩
theorem uh (p:Int × Int) (y:Int):xF [p] y↔2 * p.1≤y∧y≤2 * p.2:=by simp [xF]
theorem CD {xs ys:List (Int × Int)} (h:∀p,p ∈ xs↔p ∈ ys) (y:Int):xF xs y↔xF ys y:=by
  simp only [xF,h]
theorem rO (ys:List (Int × Int)) (hs:fb DB ys) (ho:∀p ∈ ys,p.1≤p.2):
    FD (mX ys)∧(∀y,xF (mX ys) y↔xF ys y)∧∀l ∈ mX ys,∃p ∈ ys,l.1=p.1:=by
  induction ys using eQ with
  | h0 => exact ⟨⟨fun p hp => by simp [mX] at hp, by simp [mX]⟩, fun y => Iff.rfl, fun l hl => by simp [mX] at hl⟩
  | h1 ys q ih =>
    obtain ⟨hs1,_,hs2⟩:=List.pairwise_append.1 hs;obtain ⟨⟨i1,i2⟩,i3,i4⟩:=ih hs1 (fun p hp=>ho p (by simp [hp]));have hq:=ho q (by simp);have hle:∀l ∈ mX ys,l.1≤q.1:=by
      intro l hl;obtain ⟨p,hp,e⟩:=i4 l hl;have:=hs2 p hp q (by simp);rw [←aQ,nO] at this
      omega
    rw [rN];cases hys:mX ys with
    | nil =>
      rw [hys] at i3;rw [pp];refine ⟨⟨by simpa using hq,by simp⟩,fun y=> ?_,fun l hl=>⟨q,by simp,by simp at hl;rw [hl]⟩⟩;rw [ka,←i3];simp [xF]
    | cons a l0 =>
      obtain ⟨A,l,e⟩:∃A l',a::l0=A++ [l']:=⟨(a::l0).dropLast,(a::l0).getLast (by simp),(iw _).symm⟩;rw [hys,e] at i1 i2 i3 i4 hle;rw [e,od];obtain ⟨j1,_,j2⟩:=List.pairwise_append.1 i2;have hl1:=hle l (by simp);have hl2:=i1 l (by simp);split
      · rename_i ht;rw [oE] at ht;refine ⟨⟨fun p hp=> ?_,List.pairwise_append.2 ⟨j1,by simp,fun p hp r hr=> ?_⟩⟩,fun y=> ?_,fun r hr=> ?_⟩
        · rcases List.mem_append.1 hp with hp | hp
          · exact i1 p (by simp [hp])
          · simp at hp;subst hp;show l.1≤max l.2 q.2;omega
        · simp at hr;subst hr;exact j2 p hp l (by simp)
        · rw [ka,ka,uh,uh,←i3,ka,uh];show _∨(2 * l.1≤y∧y≤2 * max l.2 q.2)↔_;constructor
          · rintro (h | h)
            · exact .inl (.inl h)
            · by_cases hy:y≤2 * l.2
              · exact .inl (.inr ⟨h.1,hy⟩)
              · exact .inr ⟨by omega,by omega⟩
          · rintro ((h | h) | h)
            · exact .inl h
            · exact .inr ⟨h.1,by omega⟩
            · exact .inr ⟨by omega,by omega⟩
        · rcases List.mem_append.1 hr with hr | hr
          · obtain ⟨p,hp,e⟩:=i4 r (by simp [hr]);exact ⟨p,by simp [hp],e⟩
          · simp at hr;subst hr;obtain ⟨p,hp,e⟩:=i4 l (by simp);exact ⟨p,by simp [hp],e⟩
      · rename_i ht;rw [oE] at ht;refine ⟨⟨fun p hp=> ?_,List.pairwise_append.2 ⟨i2,by simp,fun p hp r hr=> ?_⟩⟩,fun y=> ?_,fun r hr=> ?_⟩
        · rcases List.mem_append.1 hp with hp | hp
          · exact i1 p hp
          · simp at hp;subst hp;exact hq
        · simp at hr;subst hr;rcases List.mem_append.1 hp with hp | hp
          · have:=j2 p hp l (by simp);omega
          · simp at hp;subst hp;omega
        · rw [ka,ka ys,i3]
        · rcases List.mem_append.1 hr with hr | hr
          · obtain ⟨p,hp,e⟩:=i4 r hr;exact ⟨p,by simp [hp],e⟩
          · simp at hr;subst hr;exact ⟨r,by simp,rfl⟩
end
section
open Srt
theorem CE:Swo DB:=by
  constructor
  · intro x y h;rw [←aQ,nO];rw [nO] at h;omega
  · intro x y z h1 h2;rw [←aQ,nO] at h1 h2 ⊢;omega
section
variable {α β:Type} [Inhabited α] [Inhabited β]
omit [Inhabited α] [Inhabited β] in
theorem rP {lt:α→α→Bool} {lt':β→β→Bool} {f:α→β} {x:α}:∀{ys:List α},(∀y ∈ ys,lt x y=lt' (f x) (f y))→(lN lt x ys).map f=lN lt' (f x) (ys.map f)
  | [], _ => rfl
  | y :: ys, h => by
    have h0:=h y (by simp);have ih:=rP (lt:=lt) (lt':=lt') (f:=f) (x:=x) (ys:=ys) fun z hz=>h z (by simp [hz]);simp only [lN,bo];rw [←h0];split <;> simp [ih]
omit [Inhabited α] [Inhabited β] in
theorem CF {lt:α→α→Bool} {lt':β→β→Bool} {f:α→β} {x:α} {ys:List α} (h:∀y ∈ ys,lt x y=lt' (f x) (f y)):(vT lt x ys).map f=vT lt' (f x) (ys.map f):=by
  unfold vT;rw [List.map_reverse,rP (lt':=lt') (f:=f) (fun y hy=>h y (by simpa using hy)),List.map_reverse]
omit [Inhabited α] [Inhabited β] in
theorem yL {lt:α→α→Bool} {lt':β→β→Bool} {f:α→β} {xs:List α} (h:∀x ∈ xs,∀y ∈ xs,lt x y=lt' (f x) (f y)):(cr lt xs).map f=cr lt' (xs.map f):=by
  induction xs using eQ with
  | h0 => rfl
  | h1 xs x ih =>
    rw [iP,bM,bo,bJ,iP,←ih fun a ha b hb=>h a (by simp [ha]) b (by simp [hb])];exact CF fun y hy=>h x (by simp) y (by simp [((mE (lt:=lt) xs).mem_iff).1 hy])
end
def In (S:List ByteArray) (p:Rw):Prop:=p.1 ∈ S∧p.2 ∈ S
def f2 (S:List ByteArray) (p:Rw):Int × Int:=(rk S p.1,rk S p.2)
theorem Ff {S:List ByteArray} {p q:Rw} (hp:In S p) (hq:In S q):ex p q=DB (f2 S p) (f2 S q):=by
  rw [fV,pa,nO,rc hp.1 hq.1,rc hp.2 hq.2];constructor
  · rintro (h | ⟨e,h⟩)
    · exact .inl h
    · exact .inr ⟨by simp only [f2];rw [e],h⟩
  · rintro (h | ⟨e,h⟩)
    · exact .inl h
    · exact .inr ⟨DU hp.1 hq.1 e,h⟩
def Ok (S:List ByteArray) (xs:List Rw):Prop:=∀p ∈ xs,dJ p=true∧In S p
theorem AG {S:List ByteArray} {p:Rw} (h:dJ p=true∧In S p):(f2 S p).1≤(f2 S p).2:=by
  have:=h.1;unfold dJ at this
  rw [am] at this
  exact (xc h.2.1 h.2.2).1 this.2
theorem En {S:List ByteArray} {x y:ByteArray} (hx:x ∈ S) (hy:y ∈ S):rk S (oM x y)=max (rk S x) (rk S y):=(zT hx hy).2
theorem AH {S:List ByteArray} (ys:List Rw) (hok:Ok S ys) (hs:fb DB (ys.map (f2 S))):
    (eK ys).map (f2 S)=mX (ys.map (f2 S))∧∀l ∈ eK ys,(∃p ∈ ys,l.1=p.1)∧∃p ∈ ys,l.2=p.2:=by
  induction ys using eQ with
  | h0 => exact ⟨rfl, fun l hl => by simp [eK] at hl⟩
  | h1 ys q ih =>
    rw [bM,bo,bJ] at hs ⊢;obtain ⟨hs1,_,hs2⟩:=List.pairwise_append.1 hs;have hok1:Ok S ys:=fun p hp=>hok p (by simp [hp]);obtain ⟨i1,i2⟩:=ih hok1 hs1;have hsp:=rO (ys.map (f2 S)) hs1 (fun p hp=>by obtain ⟨r,hr,rfl⟩:=List.mem_map.1 hp;exact AG (hok1 r hr));have hq:=hok q (by simp);have hin:∀l ∈ eK ys,In S l:=fun l hl=>by
      obtain ⟨⟨p,hp,e1⟩,r,hr,e2⟩:=i2 l hl;exact ⟨e1 ▸ (hok1 p hp).2.1,e2 ▸ (hok1 r hr).2.2⟩
    rw [mN,rN,←i1];cases hjt:eK ys using eQ with
    | h0 =>
      have e:qg [] q=[q]:=by simp [qg,uU]
      rw [e,bJ,pp];exact ⟨rfl,fun l hl=>by simp at hl;subst hl;exact ⟨⟨l,by simp,rfl⟩,l,by simp,rfl⟩⟩
    | h1 A l =>
      rw [hjt] at i1 i2 hin;have hl:=hin l (by simp);have hn:nth (A++ [l]) (((A++ [l]).length:Int) - 1)=l:=kG (A:=A) (B:=[]) (by simp);have hle:(f2 S l).1≤(f2 S q).1:=by
        obtain ⟨⟨p,hp,e⟩,_⟩:=i2 l (by simp);have:=hs2 (f2 S p) (List.mem_map.2 ⟨p,hp,rfl⟩) (f2 S q) (by simp);rw [←aQ,nO] at this
        have e':(f2 S l).1=(f2 S p).1:=by simp only [f2];rw [e]
        omega
      have hll:(f2 S l).1≤(f2 S l).2:=by
        have h3:=hsp.1.1;rw [←i1] at h3;exact h3 (f2 S l) (by simp)
      have hqq:=AG hq;have hhit:uU (A++ [l]) q=pH (f2 S l) (f2 S q):=by
        unfold uU;rw [hn,decide_eq_true (by simp),gW,fV,xc hq.2.1 hl.2,oE];show (f2 S q).1≤(f2 S l).2↔_;omega
      rw [bM,bo,bJ,od,qg,hhit,hn,show (((A++ [l]).length:Int) - 1).toNat=A.length by simp];split
      · refine ⟨?_,fun r hr=> ?_⟩
        · simp [f2,En hl.2 hq.2.2]
        · simp at hr;rcases hr with hr | rfl
          · obtain ⟨⟨p,hp,e⟩,p',hp',e'⟩:=i2 r (by simp [hr]);exact ⟨⟨p,by simp [hp],e⟩,p',by simp [hp'],e'⟩
          · obtain ⟨⟨p,hp,e⟩,p',hp',e'⟩:=i2 l (by simp);refine ⟨⟨p,by simp [hp],e⟩,?_⟩;unfold oM;split
            · exact ⟨q,by simp,rfl⟩
            · exact ⟨p',by simp [hp'],e'⟩
      · refine ⟨by simp,fun r hr=> ?_⟩;rcases List.mem_append.1 hr with hr | hr
        · obtain ⟨⟨p,hp,e⟩,p',hp',e'⟩:=i2 r hr;exact ⟨⟨p,by simp [hp],e⟩,p',by simp [hp'],e'⟩
        · simp at hr;subst hr;exact ⟨⟨r,by simp,rfl⟩,r,by simp,rfl⟩
theorem lu {S:List ByteArray} {xs:List Rw} (h:Ok S (xs.filter dJ)):
    FD ((br xs).map (f2 S))∧(∀y,xF ((br xs).map (f2 S)) y↔xF ((xs.filter dJ).map (f2 S)) y)∧∀l ∈ br xs,(∃p ∈ xs.filter dJ,l.1=p.1)∧∃p ∈ xs.filter dJ,l.2=p.2:=by
  have hp:=mE (lt:=ex) (xs.filter dJ);have hok:Ok S (cr ex (xs.filter dJ)):=fun p hm=>h p (hp.mem_iff.1 hm);have hm:=yL (lt:=ex) (lt':=DB) (f:=f2 S) (xs:=xs.filter dJ) fun x hx y hy=>Ff (h x hx).2 (h y hy).2;have hs:fb DB ((cr ex (xs.filter dJ)).map (f2 S)):=by rw [hm];exact jP CE _
  obtain ⟨j1,j2⟩:=AH _ hok hs;have j3:=rO _ hs fun p hq=>by obtain ⟨r,hr,rfl⟩:=List.mem_map.1 hq;exact AG (hok r hr)
  unfold br;rw [j1];refine ⟨j3.1,fun y=>(j3.2.1 y).trans ?_,fun l hl=> ?_⟩
  · exact CD (fun p=>by rw [hm];exact (mE _).mem_iff) y
  · obtain ⟨⟨p,h1,e1⟩,q,h2,e2⟩:=j2 l hl;exact ⟨⟨p,hp.mem_iff.1 h1,e1⟩,q,hp.mem_iff.1 h2,e2⟩
def Eo (xs:List Rw):List ByteArray:=xs.flatMap fun p=> [p.1,p.2]
theorem xG {S:List ByteArray} {xs:List Rw} (h:∀c ∈ Eo xs,c ∈ S):Ok S (xs.filter dJ):=fun p hp=>by
  obtain ⟨h1,h2⟩:=List.mem_filter.1 hp;exact ⟨h2,h _ (List.mem_flatMap.2 ⟨p,h1,by simp⟩),h _ (List.mem_flatMap.2 ⟨p,h1,by simp⟩)⟩
theorem rQ {S:List ByteArray} {xs:List Rw} (h:Ok S (xs.filter dJ)):∀l ∈ br xs,In S l:=fun l hl=>by
  obtain ⟨⟨p,hp,e1⟩,r,hr,e2⟩:=(lu h).2.2 l hl;exact ⟨e1 ▸ (h p hp).2.1,e2 ▸ (h r hr).2.2⟩
theorem rR {p:Rw}:dJ p=true↔(ei p.1=true∧ei p.2=true)∧pY p.1 p.2=true:=by
  unfold dJ;rw [am,am]
theorem AI {S:List ByteArray} {xs:List Rw} (h:Ok S (xs.filter dJ)):Ok S (br xs):=fun l hl=>by
  have hin:=rQ h l hl;obtain ⟨⟨p,hp,e1⟩,r,hr,e2⟩:=(lu h).2.2 l hl;refine ⟨rR.2 ⟨⟨e1 ▸ (rR.1 (h p hp).1).1.1,e2 ▸ (rR.1 (h r hr).1).1.2⟩,?_⟩,hin⟩;exact (xc hin.1 hin.2).2 ((lu h).1.1 (f2 S l) (List.mem_map.2 ⟨l,hl,rfl⟩))
theorem mR (xs:List Rw):mM (br xs)=true:=by
  have h1:Ok (Eo xs) (xs.filter dJ):=xG fun _ hc=>hc;refine rn (k:=(br xs).length) (fun i hi=> ?_) (bd _);have hm:=oY hi;unfold rm;rw [(AI h1 _ hm).1,kc,gV];by_cases h0:i=0
  · subst h0;rfl
  · have hi':i - 1 < (br xs).length:=by omega
    rw [show (i:Int) - 1=((i - 1:Nat):Int) by omega];have hp:=List.pairwise_iff_getElem.1 (lu h1).1.2 (i - 1) i (by simpa using hi') (by simpa using hi) (by omega);rw [lW,lW,←lg (bw hi),←lg (bw hi')] at hp;simp only [f2] at hp;have a:=rQ h1 _ hm;have b:=rQ h1 _ (oY hi');have:pY (nth (br xs) (i:Int)).1 (nth (br xs) ((i - 1:Nat):Int)).2=false:=by
      rw [←aQ,xc a.1 b.2];omega
    rw [this,Bool.and_false]
theorem sZ (xs:List Rw):(br xs).length≤xs.length:=aE (uV _) (lk xs)
theorem te (n:Int):(gl n).length≤4:=by unfold gl;split <;> (try split) <;> (try split) <;> decide
theorem yM (n:Int):mM (gl n)=true:=by unfold gl;split <;> (try split) <;> (try split) <;> decide+kernel
end
section
open Srt
def mS (cs:List ByteArray):Prop:=cs.length≤256∧∀c ∈ cs,c.size≤256
def Ep (cs:List ByteArray):Prop:=∀i:Nat,1≤i→i < cs.length→ei (nth cs (i:Int))=true
def iK (rows:List Rw):Prop:=∀r ∈ rows,r.1.size≤256∧r.2.size≤256
theorem iK.small {rows:List Rw} (h:iK rows):oZ rows:=fun r hr=>⟨aE (h r hr).1 (by decide),aE (h r hr).2 (by decide)⟩
theorem iK.app {xs ys:List Rw} (h:iK xs) (h2:iK ys):iK (xs++ys):=fun r hr=>(List.mem_append.1 hr).elim (h r) (h2 r)
theorem iK.one {a b:ByteArray} (h:a.size≤256) (h2:b.size≤256):iK [(a,b)]:=fun r hr=>by
  simp at hr;subst hr;exact ⟨h,h2⟩
theorem iK.nil:iK []:=fun r hr=>by cases hr
theorem rS {xs:List Rw} (h:iK xs):iK (br xs):=fun l hl=>by
  obtain ⟨⟨p,hp,e1⟩,r,hr,e2⟩:=(lu (S:=Eo xs) (xG fun _ hc=>hc)).2.2 l hl;rw [e1,e2];exact ⟨(h p (List.mem_filter.1 hp).1).1,(h r (List.mem_filter.1 hr).1).2⟩
theorem rT (n:Int):iK (gl n):=by unfold gl;split <;> (try split) <;> (try split) <;> (unfold iK;decide)
theorem ui {rows:List Rw} (h:iK rows):za rows≤513 * (rows.length:Int):=by
  unfold za;induction rows using eQ with
  | h0 => simp [dD]
  | h1 rows r ih =>
    rw [bM,bo,bJ,em,bN];have:=ih fun x hx=>h x (by simp [hx]);have:=h r (by simp);simp;omega
theorem cL {cs:List ByteArray} (h:mS cs) (i:Nat):(ct cs i).size≤256:=by
  unfold ct;split
  · exact dY _
  · exact h.2 _ (aW (by omega) (by omega))
theorem vt (c:ByteArray) (h:c.size≤256):(fq c).1.size≤256:=by
  unfold fq;repeat (split;exact (by decide))
  exact h
theorem mT {cs:List ByteArray} (h:mS cs) (i:Nat):iK (bB cs i).1∧(bB cs i).2.1.size≤256∧(bB cs i).1.length≤4∧(bB cs i).2.2.2≤i+2∧((bB cs i).2.2.1=true→i < (bB cs i).2.2.2∧(bB cs i).2.2.2≤cs.length):=by
  refine ⟨?_,?_,?_,?_,uc⟩ <;> unfold bB <;> (repeat' split)
  · exact iK.nil
  · exact iK.nil
  · exact rT _
  · exact iK.nil
  · exact dY _
  · exact cL h i
  · exact dY _
  · exact vt _ (cL h _)
  · exact dY _
  · exact dY _
  · exact te _
  · exact dY _
  · simp
  · simp
  · simp
  · simp
theorem CG (k:Int) (c:ByteArray) (h:(k=2∧ei c=true)∨((k=3∨k=8∨k=9∨k=10∨k=11)∧c=⟨#[]⟩)):jk (cZ k c false 0 0 false)=true∧cW (cZ k c false 0 0 false)=1∧fx (cZ k c false 0 0 false)=0:=by
  refine ⟨?_,?_,?_⟩
  · rw [lI];have:dB (cZ k c false 0 0 false)=true:=by
      rcases h with ⟨rfl,h⟩ | ⟨h,rfl⟩
      · simp [dB,cZ,lr,iH,h]
      · rcases h with rfl | rfl | rfl | rfl | rfl <;> simp [dB,cZ,mm,lr,iH]
    rw [this];rfl
  · rw [iF];rfl
  · rw [md];have:qm (cZ k c false 0 0 false)=false:=by
      unfold qm cZ;rcases h with ⟨rfl,h⟩ | ⟨h,rfl⟩
      · rfl
      · rcases h with rfl | rfl | rfl | rfl | rfl <;> rfl
    rw [this];rfl
theorem uj (ng:Bool) (rows:List Rw) (h:mM rows=true):jk (dw ng Sv.nil rows)=true∧cW (dw ng Sv.nil rows)=1∧fx (dw ng Sv.nil rows)=0∧fR (dw ng Sv.nil rows)=1+za rows:=by
  refine ⟨?_,?_,?_,?_⟩
  · rw [lI];have:dB (dw ng Sv.nil rows)=true:=by simp [dB,dw,lr,iH,h]
    rw [this];rfl
  · rw [iF];rfl
  · rw [md];rfl
  · rw [lj];have:((⟨#[]⟩:ByteArray).size:Int)=0:=rfl;simp [dw,dD,this]
theorem xH (k:Int) (mn mx:Int) (lz:Bool) (x:Tr):cW (bV k ⟨#[]⟩ false mn mx lz Sv.nil [x])=1+cW x∧fx (bV k ⟨#[]⟩ false mn mx lz Sv.nil [x])=max 0 (fx x)+(if k=5∨k=6 then 1 else 0)∧fR (bV k ⟨#[]⟩ false mn mx lz Sv.nil [x])=1+fR x:=by
  refine ⟨?_,?_,?_⟩
  · rw [iF];simp [bV,dD]
  · rw [md];have:(qm (bV k ⟨#[]⟩ false mn mx lz Sv.nil [x])=true)↔(k=5∨k=6):=by unfold qm bV;simp
    simp only [this];simp [bV,nq]
  · rw [Ch];have:((⟨#[]⟩:ByteArray).size:Int)=0:=rfl;simp [dD,this]
theorem Er {k:Int} {x:Tr} (hk:k=5∨k=6) (h:jk x=true):jk (bV k ⟨#[]⟩ false 0 0 false Sv.nil [x])=true:=by
  rw [lI];have:dB (bV k ⟨#[]⟩ false 0 0 false Sv.nil [x])=true:=by
    rcases hk with rfl | rfl <;> simp [dB,bV,mm,lr,iH]
  rw [this];simp [bV,h]
theorem AJ {x:Tr} {mn mx:Int} {lz:Bool} (h:jk x=true) (hk:x.k=2∨x.k=3∨x.k=4∨x.k=5∨x.k=6) (h0:0≤mn∧mn≤255) (h1:mx= -1∨(mn≤mx∧mx≤255)):jk (AE x mn mx lz)=true:=by
  rw [lI];have hn:(nth [x] 0).k=x.k:=rfl;have:dB (AE x mn mx lz)=true:=by
    have hr:pN x.k=true:=by unfold pN;rcases hk with h | h | h | h | h <;> simp [h]
    have h5:(decide (mx= -1) || (decide (mn≤mx)&&decide (mx≤255)))=true:=by
      rw [be,am,ah,ah,ah];exact h1
    have h6:dB (AE x mn mx lz)=(((((lr ⟨#[]⟩ false [] 0 0 false&&decide (([x].length:Int)=1))&&pN (nth [x] 0).k)&&decide (0≤mn))&&decide (mn≤255))&&(decide (mx= -1) || (decide (mn≤mx)&&decide (mx≤255)))):=rfl;rw [h6,h5,hn,hr,decide_eq_true h0.1,decide_eq_true h0.2];simp [lr,iH]
  rw [this];simp [AE,bV,h]
theorem vu (k:Int) (ks:List Tr):cW (mZ k ks)=1+dD (ks.map cW):=iF _
theorem xI (k:Int) (ks:List Tr) (hk:k=0∨k=1):fx (mZ k ks)=nq (ks.map fx):=by
  rw [md];have:qm (mZ k ks)=false:=by unfold qm mZ;rcases hk with rfl | rfl <;> rfl
  rw [this];simp [mZ]
theorem CH {ks:List Tr} (h:∀x ∈ ks,jk x=true∧x.k≠0∧x.k≠1) (hl:ks.length≠1):jk (mZ 0 ks)=true:=by
  rw [lI];have h1:ks.all jk=true:=da.2 fun x hx=>(h x hx).1;have h2:ob (mZ 0 ks) [0,1]=false:=by
    rw [yH,ly];intro x hx;have:=h x hx;simp [this.2.1,this.2.2]
  have:dB (mZ 0 ks)=true:=by
    unfold dB;rw [show (mZ 0 ks).k=0 from rfl,if_neg (by decide),if_neg (by decide),if_neg (by decide),if_pos rfl,h2];have:mm (mZ 0 ks)=true:=by unfold mm lr mZ;simp [iH]
    have hl':decide (((mZ 0 ks).kids.length:Int)=1)=false:=decide_eq_false (by show ¬(ks.length:Int)=1;omega);rw [this,hl'];rfl
  rw [this];simp [mZ,h1]
theorem CI {ks:List Tr} (h:∀x ∈ ks,jk x=true∧x.k≠1) (hl:2≤ks.length):jk (mZ 1 ks)=true:=by
  rw [lI];have h1:ks.all jk=true:=da.2 fun x hx=>(h x hx).1;have h2:ob (mZ 1 ks) [1]=false:=by
    rw [yI,ly];intro x hx;have:=h x hx;simp [this.2]
  have:dB (mZ 1 ks)=true:=by
    unfold dB;rw [show (mZ 1 ks).k=1 from rfl,if_neg (by decide),if_neg (by decide),if_neg (by decide),if_neg (by decide),if_pos rfl,h2];have:mm (mZ 1 ks)=true:=by unfold mm lr mZ;simp [iH]
    rw [this];have hl':decide ((1:Int) < ((mZ 1 ks).kids.length:Int))=true:=decide_eq_true (by show (1:Int) < (ks.length:Int);omega);rw [hl'];rfl
  rw [this];simp [mZ,h1]
theorem xJ {k:Int} {l:List Tr} (h:∀x ∈ l,x.k≠k):hO k l=l:=by
  induction l with
  | nil => rfl
  | cons x l ih =>
    unfold hO at ih ⊢;rw [List.flatMap_cons,if_neg (h x (by simp)),ih fun y hy=>h y (by simp [hy])];rfl
structure TermOk (x:Tr) (n d:Int):Prop where
  wt:fR x≤2200 * n
  parts:cW x≤2 * n
  deep:fx x≤16 - d
  all:jk x=true
  k:x.k≠0∧x.k≠1
structure PatOk (x:Tr) (n d:Int):Prop where
  wt:fR x≤2200 * n+2
  parts:cW x≤2 * n+1
  deep:fx x≤16 - d
  all:jk x=true
theorem vv {l:List Tr} {n:Int} (h0:0≤n) (h:∀x ∈ l,fx x≤n):nq (l.map fx)≤n:=qr h0 fun y hy=>by
  obtain ⟨x,hx,rfl⟩:=List.mem_map.1 hy;exact h x hx
theorem rU {ts:List Tr} {d:Int} (hd:d≤16) (h:∀x ∈ ts,jk x=true∧x.k≠0∧x.k≠1∧fx x≤16 - d):jk (li ts)=true∧(li ts).k≠1∧fx (li ts)≤16 - d∧cW (li ts)≤1+dD (ts.map cW):=by
  have hid:=xJ (k:=0) (l:=ts) fun x hx=>(h x hx).2.1;unfold li;rw [hid];have many:ts.length≠1→jk (mZ 0 ts)=true∧(mZ 0 ts).k≠1∧fx (mZ 0 ts)≤16 - d∧cW (mZ 0 ts)≤1+dD (ts.map cW):=fun hl=>
    ⟨CH (fun x hx=>⟨(h x hx).1,(h x hx).2.1,(h x hx).2.2.1⟩) hl,by show (0:Int)≠1;decide,by rw [xI _ _ (.inl rfl)];exact vv (by omega) fun x hx=>(h x hx).2.2.2,by rw [vu];omega⟩
  match ts,h,many with
  | [], h, many => exact many (by decide)
  | [x], h, _ => exact ⟨(h x (by simp)).1, (h x (by simp)).2.2.1, (h x (by simp)).2.2.2, by simp [dD]; omega⟩
  | x :: y :: l, h, many => exact many (by simp)
theorem yN {ts:List Tr} {d:Int} (hd:d≤16) (hne:ts≠ []) (h:∀x ∈ ts,jk x=true∧x.k≠1∧fx x≤16 - d):jk (me ts)=true∧fx (me ts)≤16 - d∧(ts.length=1→cW (me ts)=dD (ts.map cW))∧cW (me ts)≤1+dD (ts.map cW):=by
  have hid:=xJ (k:=1) (l:=ts) fun x hx=>(h x hx).2.1;unfold me;rw [hid];match ts,hne,h with
  | [x], _, h => exact ⟨(h x (by simp)).1, (h x (by simp)).2.2, fun _ => by simp [dD], by simp [dD]; omega⟩
  | x :: y :: l, _, h =>
    refine ⟨CI (fun z hz=>⟨(h z hz).1,(h z hz).2.1⟩) (by simp),?_,fun e=>by simp at e,by show cW (mZ 1 _)≤_;rw [vu];omega⟩;show fx (mZ 1 _)≤_;rw [xI _ _ (.inr rfl)];exact vv (by omega) fun z hz=>(h z hz).2.2
theorem CJ {cs:List ByteArray} {i:Nat} (h:i < cs.length):ct cs i=nth cs (i:Int):=by unfold ct;rw [if_neg (by omega)]
theorem wy {c:ByteArray} (h:(fq c).2=true) (hp:ei c=true):ei (fq c).1=true:=by
  unfold fq at h ⊢;split at h
  · cases h
  · rename_i h1;rw [if_neg h1];split at h
    · rename_i h2;rw [if_pos h2];decide+kernel
    · rename_i h2;rw [if_neg h2];split at h
      · rename_i h3;rw [if_pos h3];decide+kernel
      · rename_i h3;rw [if_neg h3];split at h
        · rename_i h4;rw [if_pos h4];decide+kernel
        · rename_i h4;rw [if_neg h4];split at h
          · rename_i h5;rw [if_pos h5];decide+kernel
          · rename_i h5;rw [if_neg h5];split at h
            · rename_i h6;rw [if_pos h6];decide+kernel
            · rename_i h6;rw [if_neg h6];split at h
              · cases h
              · rename_i h7;rw [if_neg h7];exact hp
theorem AK {r:Int × Nat × Nat} (h:js r=true):r.1≤255:=by
  unfold js at h;simp at h;omega
theorem qD {cs:List ByteArray} {x:Tr} {j:Nat} {mn mx:Int} (h:jk x=true) (hk:x.k=2∨x.k=3∨x.k=4∨x.k=5∨x.k=6) (h0:0≤mn∧mn≤255) (h1:mx= -1∨(mn≤mx∧mx≤255)):jk (kB cs x j mn mx).1=true∧(kB cs x j mn mx).1.k=7∧cW (kB cs x j mn mx).1=1+cW x∧fx (kB cs x j mn mx).1=max 0 (fx x)∧fR (kB cs x j mn mx).1=1+fR x:=by
  obtain ⟨a,b,c⟩:=xH 7 mn mx (eE cs j ⟨#[63]⟩) x;exact ⟨AJ h hk h0 h1,rfl,a,by have:=b;rw [if_neg (by decide),Int.add_zero] at this;exact this,c⟩
theorem uk {cs:List ByteArray} {x:Tr} {mn mx:Int} {ok:Bool} {j:Nat} (he:(lP cs x mn mx ok j).2.1=0) (h:jk x=true) (hk:x.k=2∨x.k=3∨x.k=4∨x.k=5∨x.k=6) (h0:0≤mn∧mn≤255) (h1:ok=true→mx≤255) (h2: -1≤mx):jk (lP cs x mn mx ok j).1=true∧(lP cs x mn mx ok j).1.k=7∧cW (lP cs x mn mx ok j).1=1+cW x∧fx (lP cs x mn mx ok j).1=max 0 (fx x)∧fR (lP cs x mn mx ok j).1=1+fR x∧j < (lP cs x mn mx ok j).2.2:=by
  have hle:=ue he;unfold lP at he hle ⊢;split at he
  · cases he
  · rename_i g1;rw [if_neg g1];rw [if_neg g1] at hle;split at he
    · cases he
    · rename_i g2;rw [if_neg g2];rw [if_neg g2] at hle;split at he
      · cases he
      · rename_i g3;rw [if_neg g3];have hl:=nN cs x (j+1) mn mx;simp only [am,aA,ai,ah,not_and,aP] at g3;obtain ⟨a,b,c,d,e⟩:=qD (cs:=cs) (j:=j+1) h hk h0 (mx:=mx) (by
          have:=h1 (by simpa using g1);by_cases hm:mx= -1
          · exact .inl hm
          · exact .inr ⟨g3 hm,this⟩)
        exact ⟨a,b,c,d,e,by omega⟩
theorem yO {cs:List ByteArray} {x:Tr} {i:Nat} {n d:Int} (hd:d≤16) (he:(dM cs x i).2.1=0) (h:TermOk x n d) (hn:1≤n) (hk:x.k=2∨x.k=3∨x.k=4∨x.k=5∨x.k=6):TermOk (dM cs x i).1 (n+((dM cs x i).2.2 - i)) d:=by
  have fin:∀{y:Tr} {p:Nat},jk y=true∧y.k=7∧cW y=1+cW x∧fx y=max 0 (fx x)∧fR y=1+fR x→i < p→TermOk y (n+(p - i)) d:=fun {y p} ⟨a,b,c,e,f⟩ hp=>by
    have:=h.wt;have:=h.parts;have:=h.deep;exact ⟨by omega,by omega,by omega,a,by rw [b];decide⟩
  unfold dM at he ⊢;split
  · have hl:=nN cs x (i+1) 0 (-1);exact fin (qD h.all hk (by decide) (.inl rfl)) (by omega)
  · split
    · have hl:=nN cs x (i+1) 1 (-1);exact fin (qD h.all hk (by decide) (.inl rfl)) (by omega)
    · split
      · have hl:=nN cs x (i+1) 0 1;exact fin (qD h.all hk (by decide) (.inr (by decide))) (by omega)
      · split
        · rename_i g1 g2 g3 g4;rw [if_neg g1,if_neg g2,if_neg g3,if_pos g4] at he;have a2:=ud cs (i+1);have a3:=ua cs (i+1);split
          · rename_i g5;rw [if_pos g5] at he;cases he
          · rename_i g5;rw [if_neg g5] at he;have b1:=AK (by simpa using g5);split
            · rename_i g6;rw [if_pos g6] at he;have a4:=ud cs ((bX cs (i+1)).2.2+1);have a5:=ua cs ((bX cs (i+1)).2.2+1);split
              · rename_i g7;rw [if_pos g7] at he;obtain ⟨a,b,c,e,f,g⟩:=uk he h.all hk ⟨by omega,b1⟩ (fun hh=>AK hh) (by omega);exact fin ⟨a,b,c,e,f⟩ (by omega)
              · rename_i g7;rw [if_neg g7] at he;obtain ⟨a,b,c,e,f,g⟩:=uk he h.all hk ⟨by omega,b1⟩ (fun _=>by omega) (by omega);exact fin ⟨a,b,c,e,f⟩ (by omega)
            · rename_i g6;rw [if_neg g6] at he;obtain ⟨a,b,c,e,f,g⟩:=uk he h.all hk ⟨by omega,b1⟩ (fun _=>by omega) (by omega);exact fin ⟨a,b,c,e,f⟩ (by omega)
        · have e1:n+((i:Nat) - (i:Int))=n:=by omega
          rw [e1];exact h
theorem pq {cs:List ByteArray} (h:mS cs) {ng:Bool}:∀(f i:Nat) (rows:List Rw),iK rows→(iS cs ng f i rows).2.1=0→∃rs,(iS cs ng f i rows).1=dw ng Sv.nil (br rs)∧iK rs∧(rs.length:Int)+4 * i≤(rows.length:Int)+4 * (iS cs ng f i rows).2.2
  | 0, i, rows, _, he => by cases he
  | f + 1, i, rows, ht, he => by
    rw [iS] at he ⊢;split
    · exact ⟨rows,rfl,ht,by simp;omega⟩
    · rename_i g1;rw [if_neg g1] at he;split
      · rename_i g2;rw [if_pos g2] at he;cases he
      · rename_i g2;rw [if_neg g2] at he;have a1:=mT h i;have a2:=a1.2.2.2.2 (by simpa using g2);split
        · rename_i g3;rw [if_pos g3] at he;obtain ⟨rs,b1,b2,b3⟩:=pq h f _ _ (ht.app a1.1) he;refine ⟨rs,b1,b2,?_⟩;rw [bN] at b3;have:=a1.2.2.1;omega
        · rename_i g3;rw [if_neg g3] at he;split
          · rename_i g4;rw [if_pos g4] at he;split
            · rename_i g5;rw [if_pos g5] at he;cases he
            · rename_i g5;rw [if_neg g5] at he;have a3:=mT h ((bB cs i).2.2.2+1);have g6:(bB cs ((bB cs i).2.2.2+1)).2.2.1=true:=by
                rw [aQ,aS,aS,av] at g5;exact g5.1.1
              have a4:=a3.2.2.2.2 g6;obtain ⟨rs,b1,b2,b3⟩:=pq h f _ _ (ht.app (iK.one a1.2.1 a3.2.1)) he;refine ⟨rs,b1,b2,?_⟩;rw [bN] at b3;simp at b3;omega
          · rename_i g4;rw [if_neg g4] at he;obtain ⟨rs,b1,b2,b3⟩:=pq h f _ _ (ht.app (iK.one a1.2.1 a1.2.1)) he;refine ⟨rs,b1,b2,?_⟩;rw [bN] at b3;simp at b3;omega
def rV (x:Tr) (n d:Int):Prop:=TermOk x n d∧(x.k=2∨x.k=3∨x.k=4∨x.k=5∨x.k=6)
theorem kb {k:Int} {c:ByteArray} {n d:Int} (hn:1≤n) (hd:d≤16) (h:(k=2∧ei c=true∧c.size≤256)∨((k=3∨k=8∨k=9∨k=10∨k=11)∧c=⟨#[]⟩)):TermOk (cZ k c false 0 0 false) n d:=by
  obtain ⟨a,b,e⟩:=CG k c (h.imp (fun h=>⟨h.1,h.2.1⟩) id);refine ⟨?_,by omega,by omega,a,?_⟩
  · rw [Cg];rcases h with ⟨_,_,h⟩ | ⟨_,rfl⟩
    · omega
    · have:((⟨#[]⟩:ByteArray).size:Int)=0:=rfl;omega
  · unfold cZ;simp only [];omega
theorem CK {cs:List ByteArray} (h:mS cs) {i:Nat} {n d:Int} (hd:d≤16) (he:(jZ cs i).2.1=0) (hn:(jZ cs i).2.2 - (i:Int)≤n):rV (jZ cs i).1 n d:=by
  have a1:=wx he;have a2:=ub cs i (⟨#[94]⟩:ByteArray);unfold jZ at he hn a1 ⊢;obtain ⟨rs,b1,b2,b3⟩:=pq h _ _ _ iK.nil he;rw [b1];obtain ⟨c1,c2,c3,c4⟩:=uj (eE cs i ⟨#[94]⟩) (br rs) (mR rs);have c5:=ui (rS b2);have c6:=sZ rs;simp at b3;exact ⟨⟨by omega,by omega,by omega,c1,by show (4:Int)≠0∧(4:Int)≠1;decide⟩,.inr (.inr (.inl rfl))⟩
theorem AL {cs:List ByteArray} (h:mS cs) (hp:Ep cs) {i:Nat} {n d:Int} (hi:1≤i) (hd:d≤16) (he:(gF cs i).2.1=0) (hn:1≤n):rV (gF cs i).1 n d:=by
  have a1:=uf he;unfold gF at he ⊢;split
  · rename_i g1;obtain ⟨c1,c2,c3,c4⟩:=uj (!(iH (ct cs i) (ge (ct cs i)))) (gl (bS (ge (ct cs i)) 0)) (yM _);have c5:=ui (rT (bS (ge (ct cs i)) 0));have c6:=te (bS (ge (ct cs i)) 0);exact (show rV (dw (!(iH (ct cs i) (ge (ct cs i)))) Sv.nil (gl (bS (ge (ct cs i)) 0))) n d from ⟨⟨by omega,by omega,by omega,c1,by show (4:Int)≠0∧(4:Int)≠1;decide⟩,.inr (.inr (.inl rfl))⟩)
  · rename_i g1;rw [if_neg g1] at he;split
    · rename_i g2;rw [if_pos g2] at he;cases he
    · rename_i g2;have hne:=mQ (ww (by simpa using g2));have hpr:ei (ct cs i)=true:=by rw [CJ hne];exact hp i hi hne
      exact ⟨kb hn hd (.inl ⟨rfl,wy (by simpa using g2) hpr,vt _ (cL h i)⟩),.inl rfl⟩
def AM (cs:List ByteArray) (sub:Int→Nat→Tr × Int × Nat):Prop:=∀(d2:Int) (j:Nat),d2≤16→(sub d2 j).2.1=0→PatOk (sub d2 j).1 ((sub d2 j).2.2 - (j:Int)) d2
theorem AN {sub:Int→Nat→Tr × Int × Nat} {cs:List ByteArray} {d:Int} {i:Nat} (h:mS cs) (hp:Ep cs) (hs:sY cs sub) (ho:AM cs sub) (hd:d≤16) (he:(dG sub cs d i).2.1=0):rV (dG sub cs d i).1 ((dG sub cs d i).2.2 - (i:Int)) d:=by
  have grp:∀{k:Int} {x:Tr} {m n:Int},(k=5∨k=6)→PatOk x m (d+1)→0≤m→m+2≤n→rV (bV k ⟨#[]⟩ false 0 0 false Sv.nil [x]) n d:=fun {k x m n} hk hx h0 hmn=>by
    obtain ⟨a,b,c⟩:=xH k 0 0 false x;have h1:=hx.wt;have h2:=hx.parts;have h3:=hx.deep;have h4:=(uR x).1;rw [if_pos hk] at b;refine ⟨⟨by omega,by omega,by omega,Er hk hx.all,?_⟩,?_⟩
    · show k≠0∧k≠1;omega
    · show k=2∨k=3∨k=4∨k=5∨k=6;omega
  have hle:=qA hs he;unfold dG at he hle ⊢;split
  · exact ⟨kb (by simp;omega) hd (.inr ⟨.inl rfl,rfl⟩),.inr (.inl rfl)⟩
  · rename_i g1;rw [if_neg g1] at he hle;split
    · rename_i g2;rw [if_pos g2] at he hle;split
      · rename_i g3;rw [if_pos g3] at he;cases he
      · rename_i g3;rw [if_neg g3] at he hle;split
        · rename_i g4;rw [if_pos g4] at he hle;split
          · rename_i g5;rw [if_pos g5] at he;cases he
          · rename_i g5;rw [if_neg g5] at he hle;split
            · rename_i g6;rw [if_pos g6] at he;exact absurd he g6
            · rename_i g6;rw [if_neg g6] at he hle;split
              · rename_i g7;rw [if_pos g7] at he;cases he
              · rename_i g7;rw [if_neg g7] at hle;have e6:(sub (d+1) (i+3)).2.1=0:=Classical.byContradiction g6;have a4:=hs (d+1) (i+3) e6;exact grp (.inr rfl) (ho (d+1) (i+3) (by omega) e6) (by omega) (by simp;omega)
        · rename_i g4;rw [if_neg g4] at he hle;split
          · rename_i g6;rw [if_pos g6] at he;exact absurd he g6
          · rename_i g6;rw [if_neg g6] at he hle;split
            · rename_i g7;rw [if_pos g7] at he;cases he
            · rename_i g7;rw [if_neg g7] at hle;have e6:(sub (d+1) (i+1)).2.1=0:=Classical.byContradiction g6;have a4:=hs (d+1) (i+1) e6;exact grp (.inl rfl) (ho (d+1) (i+1) (by omega) e6) (by omega) (by simp;omega)
    · rename_i g2;rw [if_neg g2] at he hle;split
      · rename_i g3;rw [if_pos g3] at he hle;have:=wx he;exact CK h hd he (by omega)
      · rename_i g3;rw [if_neg g3] at he hle;split
        · rename_i g4;rw [if_pos g4] at he hle;have:=uf he;exact AL h hp (by omega) hd he (by omega)
        · rename_i g4;rw [if_neg g4] at he hle;split
          · rename_i g5;rw [if_pos g5] at he;cases he
          · rename_i g5;have hpr:ei (ct cs i)=true:=by
              unfold Em at g5;simp only [be,not_or,aQ,av] at g5;exact g5.2
            exact ⟨kb (by simp;omega) hd (.inl ⟨rfl,hpr,cL h i⟩),.inl rfl⟩
theorem vw {sub:Int→Nat→Tr × Int × Nat} {cs:List ByteArray} {d:Int} {i:Nat} (h:mS cs) (hp:Ep cs) (hs:sY cs sub) (ho:AM cs sub) (hd:d≤16) (he:(eN sub cs d i).2.1=0):TermOk (eN sub cs d i).1 ((eN sub cs d i).2.2 - (i:Int)) d:=by
  unfold eN at he ⊢;split
  · exact kb (by simp;omega) hd (.inr ⟨by decide,rfl⟩)
  · rename_i g1;rw [if_neg g1] at he;split
    · exact kb (by simp;omega) hd (.inr ⟨by decide,rfl⟩)
    · rename_i g2;rw [if_neg g2] at he;split
      · exact kb (by simp;omega) hd (.inr ⟨by decide,rfl⟩)
      · rename_i g3;rw [if_neg g3] at he;split
        · exact kb (by simp;omega) hd (.inr ⟨by decide,rfl⟩)
        · rename_i g4;rw [if_neg g4] at he;split
          · rename_i g5;rw [if_pos g5] at he;exact absurd he g5
          · rename_i g5;rw [if_neg g5] at he;have e5:(dG sub cs d i).2.1=0:=Classical.byContradiction g5;have a1:=qA hs e5;have a2:=AN h hp hs ho hd e5;have a3:=yO hd he a2.1 (by omega) a2.2;have e:((dG sub cs d i).2.2 - (i:Int))+((dM cs (dG sub cs d i).1 (dG sub cs d i).2.2).2.2 - ((dG sub cs d i).2.2:Int))=(dM cs (dG sub cs d i).1 (dG sub cs d i).2.2).2.2 - (i:Int):=by omega
            rw [e] at a3;exact a3
structure SoFar (alts terms:List Tr) (i0 i:Nat) (d:Int):Prop where
  at':∀x ∈ alts,jk x=true∧x.k≠1∧fx x≤16 - d
  tt:∀x ∈ terms,jk x=true∧x.k≠0∧x.k≠1∧fx x≤16 - d
  le:i0≤i
  parts:dD (alts.map cW)+dD (terms.map cW)+(if alts=[] then 0 else 1)≤2 * ((i:Int) - i0)
  wt:dD (alts.map fR)+dD (terms.map fR)≤2200 * ((i:Int) - i0)
theorem SoFar.start (i:Nat) (d:Int):SoFar [] [] i i d:=⟨fun x hx=>(by cases hx),fun x hx=>(by cases hx),bd _,(by simp [dD]),(by simp [dD])⟩
theorem SoFar.term {alts terms:List Tr} {i0 i j:Nat} {d:Int} {x:Tr} (h:SoFar alts terms i0 i d) (hx:TermOk x ((j:Int) - i) d) (hj:i≤j):SoFar alts (terms++ [x]) i0 j d:=by
  refine ⟨h.at',fun y hy=> ?_,by have:=h.le;omega,?_,?_⟩
  · rcases List.mem_append.1 hy with hy | hy
    · exact h.tt y hy
    · simp at hy;subst hy;exact ⟨hx.all,hx.k.1,hx.k.2,hx.deep⟩
  · have:=h.parts;have:=hx.parts;rw [bM,bo,bJ,em];omega
  · have:=h.wt;have:=hx.wt;rw [bM,bo,bJ,em];omega
theorem SoFar.alt {alts terms:List Tr} {i0 i:Nat} {d:Int} (h:SoFar alts terms i0 i d) (hd:d≤16):SoFar (alts++ [li terms]) [] i0 (i+1) d:=by
  obtain ⟨a,b,c,e⟩:=rU hd h.tt;have hw:=wc terms;refine ⟨fun y hy=> ?_,fun x hx=>(by cases hx),(by have:=h.le;omega),?_,?_⟩
  · rcases List.mem_append.1 hy with hy | hy
    · exact h.at' y hy
    · simp at hy;subst hy;exact ⟨a,b,c⟩
  · have:=h.parts;rw [bM,bo,bJ,em,if_neg (by simp)];rw [km];split at this <;> omega
  · have:=h.wt;rw [bM,bo,bJ,em];rw [km];omega
theorem SoFar.fin {alts terms:List Tr} {i0 i:Nat} {d:Int} (h:SoFar alts terms i0 i d) (hd:d≤16):PatOk (me (alts++ [li terms])) ((i:Int) - i0) d:=by
  obtain ⟨a,b,c,e⟩:=rU hd h.tt;have hw:=wc terms;have hw2:=Ae (alts++ [li terms]);have hall:∀x ∈ alts++ [li terms],jk x=true∧x.k≠1∧fx x≤16 - d:=fun y hy=>by
    rcases List.mem_append.1 hy with hy | hy
    · exact h.at' y hy
    · simp at hy;subst hy;exact ⟨a,b,c⟩
  obtain ⟨f1,f2,f3,f4⟩:=yN hd (by simp) hall;have hp:=h.parts;have hwt:=h.wt;rw [bM,bo,bJ,em] at f4 hw2;refine ⟨by omega,?_,f2,f1⟩;by_cases hn:alts=[]
  · subst hn;have:=f3 (by simp);rw [es] at this ⊢
    rw [bo,bJ,jD,km] at this
    rw [bJ,km,if_pos rfl] at hp;omega
  · rw [if_neg hn] at hp;omega
theorem qE {cs:List ByteArray} (h:mS cs) (hp:Ep cs):∀(f:Nat) (d:Int) (i0 i:Nat) (alts terms:List Tr),d≤16→SoFar alts terms i0 i d→(eC cs f d i alts terms).2.1=0→PatOk (eC cs f d i alts terms).1 ((eC cs f d i alts terms).2.2 - (i0:Int)) d
  | 0, d, i0, i, alts, terms, _, _, he => by cases he
  | f + 1, d, i0, i, alts, terms, hd, hso, he => by
    have hs:sY cs fun d j=>eC cs f d j [] []:=fun d j hh=>oD cs f d j [] [] hh;have ho:AM cs fun d j=>eC cs f d j [] []:=fun d j hd hh=>qE h hp f d j j [] [] hd (SoFar.start j d) hh;rw [eC] at he ⊢;split
    · rename_i g1;rw [if_pos g1] at he;split
      · rename_i g2;rw [if_pos g2] at he;exact absurd he g2
      · rename_i g2;rw [if_neg g2] at he;have e2:(eN (fun d j=>eC cs f d j [] []) cs d i).2.1=0:=Classical.byContradiction g2;have a1:=ug hs e2;have a2:=vw h hp hs ho hd e2;exact qE h hp f d i0 _ _ _ hd (hso.term a2 (by omega)) he
    · rename_i g1;rw [if_neg g1] at he;split
      · rename_i g2;rw [if_pos g2] at he;exact qE h hp f d i0 _ _ _ hd (hso.alt hd) he
      · exact hso.fin hd
end
section
open Go.RowKit
open Srt
set_option maxRecDepth 100000 in
theorem xK (b:Int) (w:World):Calls Try.prog 93 #[.int .u8 b] w (fun e w'=>e= .returned (aD (ky b))∧Ext bk w w'):=by
 refine enter (n:=9) Try.func93 rfl rfl (ar rfl) ?_;intro a0 τ0 ha st0;have e0:=nf ha;refine wp_seq (eM st0 [] ⟨ao fun c=>aw rfl rfl,au⟩ fun ac ag ae ab aa=> ?_);replace e0:=aa.k1 e0;have e2:=aa.V 0;refine wp_seq (Fn ab [] ⟨ak e0,ao fun c=>gZ rfl (c.q 0) rfl,bm 1,ay 2 rfl fun c hpc=>aM rfl (c.p e0),ay 2 rfl fun c hpc=>kA rfl (c.M 3 hpc) rfl,bC 2 4,aI 5,au⟩ fun ac ag ae ab aa=> ?_);have e2:=aa.V 6;refine wp_ret ?_;refine rp ?_;refine cO (fn:=Try.f93) rfl ab.defers e2 ?_;exact ⟨rfl,ab.ext0⟩
set_option maxRecDepth 100000 in
theorem AO (b:Int) (w:World):Calls Try.prog 97 #[.int .u8 b] w (fun e w'=>e= .returned (aD (xD b))∧Ext bk w w'):=by
 refine enter (n:=17) Try.func97 rfl rfl (ar rfl) ?_;intro a0 τ0 ha st0;have e0:=nf ha;refine wp_seq (eM st0 [] ⟨ao fun c=>aw rfl rfl,au⟩ fun ac ag ae ab aa=> ?_);replace e0:=aa.k1 e0;have e2:=aa.V 0;refine wp_seq (rg [_,_,_,_,_,_,_,_,_,_,_,_,_,_,_] [0,1,3,7,15,31,63,127,255,511,1023,2047,4095,8191,16383] ab [] ⟨ak e0,ao fun c=>gZ rfl (c.q 0) rfl,bm 1,ay 2 rfl fun c hpc=>aM rfl (c.p e0),ay 2 rfl fun c hpc=>kA rfl (c.M 3 hpc) rfl,bC 2 4,bm 5,bR 6 rfl fun c hpc=>aM rfl (c.p e0),bR 6 rfl fun c hpc=>gZ rfl (c.M 7 hpc) rfl,bR 6 rfl fun c hpc=>aM rfl (c.M 8 hpc),dj 9 true rfl fun c hpc=>aM rfl (c.p e0),dj 9 true rfl fun c hpc=>kA rfl (c.M 10 hpc) rfl,bR 6 rfl fun c hpc=>nl rfl (c.M 9 hpc) (fun h=>c.m 11 rfl (And.intro hpc h)),eB 6 12,aI 13,au⟩ fun ac ag ae ab aa=> ?_);have e2:=aa.V 14;refine wp_ret ?_;refine rp ?_;refine cO (fn:=Try.f97) rfl ab.defers e2 ?_;exact ⟨rfl,ab.ext0⟩
set_option maxRecDepth 100000 in
theorem xL (s:ByteArray) (w:World):Calls Try.prog 92 #[(aR s)] w (fun e w'=>e= .returned (.tuple #[aR (fq s).1,aD (fq s).2])∧Ext bk w w'):=by
 refine enter (n:=31) Try.func92 rfl rfl (ar rfl) ?_;intro a0 τ0 ha st0;have e0:=nf ha;refine wp_seq (eL st0 [] ⟨ao fun c=>aw rfl rfl,ao fun c=>aw rfl rfl,au⟩ fun ac ag ae ab aa=> ?_);replace e0:=aa.k1 e0;have e2:=aa.V 0;have e3:=aa.V 1;refine wp_seq ?_;refine wp_seq (eM ab [] ⟨ak e0,au⟩ fun ac ag ae ab aa=> ?_);obtain ⟨e0,e2,e3⟩:=aa.k3 e0 e2 e3;have e4:=aa.V 0;refine wp_block ?_;refine wp_seq (eL ab [] ⟨ao fun c=>gy rfl (c.p e4) rfl,aI 0,au⟩ fun ac ag ae ab aa=> ?_);obtain ⟨e0,e2,e3,e4⟩:=aa.k4 e0 e2 e3 e4;have e5:=aa.V 1;refine wp_cond_split e5 (fun hc1=> ?_) (fun hc1=> ?_)
 · have hd1:=hc1;skip;refine wp_seq (eL ab [] ⟨ao fun c=>aw rfl rfl,ao fun c=>aw rfl rfl,au⟩ fun ac ag ae ab aa=> ?_);obtain ⟨e0,e4⟩:=aa.k2 e0 e4;have e2:=aa.V 0;have e3:=aa.V 1;refine wp_ret ?_;refine rp ?_;refine la (fn:=Try.f92) rfl ab.defers e2 e3 ?_;exact ⟨congrArg _ (show (Value.tuple #[(aR (⟨#[]⟩:ByteArray)),(aD false)])= .tuple #[aR (fq s).1,aD (fq s).2] from by rw [show fq s=((⟨#[]⟩:ByteArray),false) from (by unfold fq;(repeat (first | rw [if_neg (by first | assumption | (simp only [aQ];assumption) | (simp only [aV];assumption))] | rw [if_pos (by assumption)])))]),ab.ext0⟩
 have hd1:=hc1;skip;refine wp_seq (eL ab [] ⟨ao fun c=>gy rfl (c.p e4) rfl,aI 0,au⟩ fun ac ag ae ab aa=> ?_);obtain ⟨e0,e2,e3,e4⟩:=aa.k4 e0 e2 e3 e4;have e7:=aa.V 1;refine wp_cond_split e7 (fun hc2=> ?_) (fun hc2=> ?_)
 · have hd2:=hc2;skip;refine wp_seq (eL ab [] ⟨ao fun c=>aw rfl rfl,ao fun c=>aw rfl rfl,au⟩ fun ac ag ae ab aa=> ?_);obtain ⟨e0,e4⟩:=aa.k2 e0 e4;have e2:=aa.V 0;have e3:=aa.V 1;refine wp_ret ?_;refine rp ?_;refine la (fn:=Try.f92) rfl ab.defers e2 e3 ?_;exact ⟨congrArg _ (show (Value.tuple #[(aR (⟨#[10]⟩:ByteArray)),(aD true)])= .tuple #[aR (fq s).1,aD (fq s).2] from by rw [show fq s=((⟨#[10]⟩:ByteArray),true) from (by unfold fq;(repeat (first | rw [if_neg (by first | assumption | (simp only [aQ];assumption) | (simp only [aV];assumption))] | rw [if_pos (by assumption)])))]),ab.ext0⟩
 have hd2:=hc2;skip;refine wp_seq (eL ab [] ⟨ao fun c=>gy rfl (c.p e4) rfl,aI 0,au⟩ fun ac ag ae ab aa=> ?_);obtain ⟨e0,e2,e3,e4⟩:=aa.k4 e0 e2 e3 e4;have e9:=aa.V 1;refine wp_cond_split e9 (fun hc3=> ?_) (fun hc3=> ?_)
 · have hd3:=hc3;skip;refine wp_seq (eL ab [] ⟨ao fun c=>aw rfl rfl,ao fun c=>aw rfl rfl,au⟩ fun ac ag ae ab aa=> ?_);obtain ⟨e0,e4⟩:=aa.k2 e0 e4;have e2:=aa.V 0;have e3:=aa.V 1;refine wp_ret ?_;refine rp ?_;refine la (fn:=Try.f92) rfl ab.defers e2 e3 ?_;exact ⟨congrArg _ (show (Value.tuple #[(aR (⟨#[13]⟩:ByteArray)),(aD true)])= .tuple #[aR (fq s).1,aD (fq s).2] from by rw [show fq s=((⟨#[13]⟩:ByteArray),true) from (by unfold fq;(repeat (first | rw [if_neg (by first | assumption | (simp only [aQ];assumption) | (simp only [aV];assumption))] | rw [if_pos (by assumption)])))]),ab.ext0⟩
 have hd3:=hc3;skip;refine wp_seq (eL ab [] ⟨ao fun c=>gy rfl (c.p e4) rfl,aI 0,au⟩ fun ac ag ae ab aa=> ?_);obtain ⟨e0,e2,e3,e4⟩:=aa.k4 e0 e2 e3 e4;have e11:=aa.V 1;refine wp_cond_split e11 (fun hc4=> ?_) (fun hc4=> ?_)
 · have hd4:=hc4;skip;refine wp_seq (eL ab [] ⟨ao fun c=>aw rfl rfl,ao fun c=>aw rfl rfl,au⟩ fun ac ag ae ab aa=> ?_);obtain ⟨e0,e4⟩:=aa.k2 e0 e4;have e2:=aa.V 0;have e3:=aa.V 1;refine wp_ret ?_;refine rp ?_;refine la (fn:=Try.f92) rfl ab.defers e2 e3 ?_;exact ⟨congrArg _ (show (Value.tuple #[(aR (⟨#[9]⟩:ByteArray)),(aD true)])= .tuple #[aR (fq s).1,aD (fq s).2] from by rw [show fq s=((⟨#[9]⟩:ByteArray),true) from (by unfold fq;(repeat (first | rw [if_neg (by first | assumption | (simp only [aQ];assumption) | (simp only [aV];assumption))] | rw [if_pos (by assumption)])))]),ab.ext0⟩
 have hd4:=hc4;skip;refine wp_seq (eL ab [] ⟨ao fun c=>gy rfl (c.p e4) rfl,aI 0,au⟩ fun ac ag ae ab aa=> ?_);obtain ⟨e0,e2,e3,e4⟩:=aa.k4 e0 e2 e3 e4;have e13:=aa.V 1;refine wp_cond_split e13 (fun hc5=> ?_) (fun hc5=> ?_)
 · have hd5:=hc5;skip;refine wp_seq (eL ab [] ⟨ao fun c=>aw rfl rfl,ao fun c=>aw rfl rfl,au⟩ fun ac ag ae ab aa=> ?_);obtain ⟨e0,e4⟩:=aa.k2 e0 e4;have e2:=aa.V 0;have e3:=aa.V 1;refine wp_ret ?_;refine rp ?_;refine la (fn:=Try.f92) rfl ab.defers e2 e3 ?_;exact ⟨congrArg _ (show (Value.tuple #[(aR (⟨#[12]⟩:ByteArray)),(aD true)])= .tuple #[aR (fq s).1,aD (fq s).2] from by rw [show fq s=((⟨#[12]⟩:ByteArray),true) from (by unfold fq;(repeat (first | rw [if_neg (by first | assumption | (simp only [aQ];assumption) | (simp only [aV];assumption))] | rw [if_pos (by assumption)])))]),ab.ext0⟩
 have hd5:=hc5;skip;refine wp_seq (eL ab [] ⟨ao fun c=>gy rfl (c.p e4) rfl,aI 0,au⟩ fun ac ag ae ab aa=> ?_);obtain ⟨e0,e2,e3⟩:=aa.k3 e0 e2 e3;have e15:=aa.V 1;refine wp_cond_split e15 (fun hc6=> ?_) (fun hc6=> ?_)
 · have hd6:=hc6;skip;refine wp_seq (eL ab [] ⟨ao fun c=>aw rfl rfl,ao fun c=>aw rfl rfl,au⟩ fun ac ag ae ab aa=> ?_);replace e0:=aa.k1 e0;have e2:=aa.V 0;have e3:=aa.V 1;refine wp_ret ?_;refine rp ?_;refine la (fn:=Try.f92) rfl ab.defers e2 e3 ?_;exact ⟨congrArg _ (show (Value.tuple #[(aR (⟨#[11]⟩:ByteArray)),(aD true)])= .tuple #[aR (fq s).1,aD (fq s).2] from by rw [show fq s=((⟨#[11]⟩:ByteArray),true) from (by unfold fq;(repeat (first | rw [if_neg (by first | assumption | (simp only [aQ];assumption) | (simp only [aV];assumption))] | rw [if_pos (by assumption)])))]),ab.ext0⟩
 have hd6:=hc6;skip;refine wp_skip ?_;show _;refine wp_seq ?_;refine wp_seq ?_;refine rg [_,_,_,_,_,_,_,_,_,_,_,_,_] [0,1,3,7,15,31,63,127,255,511,1023,2047,4095] ab [] ⟨ak e0,ao fun c=>jM rfl bH (c.q 0),ao fun c=>cF rfl (c.q 1) rfl,bm 2,ay 3 rfl fun c hpc=>aM rfl (c.p e0),ay 3 rfl fun c hpc=>iO rfl bH (c.M 4 hpc) rfl (by have hq0:=bt hpc;omega) (by have hq0:=bt hpc;omega),fK 3 true rfl fun c hpc=>⟨_,_,(bI rfl rfl Try.call97 (c.M 5 hpc)),AO (bS s 0) _⟩,ay 3 rfl fun c hpc=>aM rfl (c.M 6 hpc),dj 7 false rfl fun c hpc=>aM rfl (c.p e0),dj 7 false rfl fun c hpc=>iO rfl bH (c.M 8 hpc) rfl (by have hq0:=hpc.2;have hq1:=bt hpc.1;omega) (by have hq0:=hpc.2;have hq1:=bt hpc.1;omega),qO 7 false rfl fun c hpc=>⟨_,_,(bI rfl rfl Try.call93 (c.M 9 hpc)),xK (bS s 0) _⟩,ay 3 rfl fun c hpc=>vM rfl (c.M 7 hpc) (fun h=>c.m 10 rfl (And.intro hpc h)),bC 3 11,au⟩ fun ac ag ae ab aa=> ?_;obtain ⟨e0,e2,e3⟩:=aa.k3 e0 e2 e3;have e29:=aa.V 12;refine wp_cond_split e29 (fun hc7=> ?_) (fun hc7=> ?_)
 · have hd7:=hc7;try simp only [am,be,ah] at hd7
   refine wp_seq (eL ab [] ⟨ao fun c=>aw rfl rfl,ao fun c=>aw rfl rfl,au⟩ fun ac ag ae ab aa=> ?_);replace e0:=aa.k1 e0;have e2:=aa.V 0;have e3:=aa.V 1;refine wp_ret ?_;refine rp ?_;refine la (fn:=Try.f92) rfl ab.defers e2 e3 ?_;exact ⟨congrArg _ (show (Value.tuple #[(aR (⟨#[]⟩:ByteArray)),(aD false)])= .tuple #[aR (fq s).1,aD (fq s).2] from by rw [show fq s=((⟨#[]⟩:ByteArray),false) from (by unfold fq;(repeat (first | rw [if_neg (by first | assumption | (simp only [aQ];assumption) | (simp only [aV];assumption))] | rw [if_pos (by assumption)])))]),ab.ext0⟩
 have hd7:=hc7;try simp only [aG,aS,ai] at hd7
 refine wp_skip ?_;refine wp_seq (fa ab [] ⟨ak e0,aI 0,ao fun c=>aw rfl rfl,au⟩ fun ac ag ae ab aa=> ?_);have e2:=aa.V 1;have e3:=aa.V 2;refine wp_ret ?_;refine rp ?_;refine la (fn:=Try.f92) rfl ab.defers e2 e3 ?_;exact ⟨congrArg _ (show (Value.tuple #[(aR s),(aD true)])= .tuple #[aR (fq s).1,aD (fq s).2] from by rw [show fq s=(s,true) from (by unfold fq;(repeat (first | rw [if_neg (by first | assumption | (simp only [aQ];assumption) | (simp only [aV];assumption))] | rw [if_pos (by assumption)])))]),ab.ext0⟩
set_option maxRecDepth 100000 in
theorem Fg (v:Value) (cv:Sv) (cs:List ByteArray) (i:Nat) (w:World) (hm0:w.cell? (dF v)=some cv.v) (hm1:w.cell? ((dF v).add 1)=some (aj (i:Int))) (hS:SlT gN w cv.v cs):Calls Try.prog 45 #[(.pointer (some (dF v)))] w (fun e w'=>e= .returned (aR (ct cs i))∧Ext bk w w'):=by
 refine enter (n:=23) Try.func45 rfl rfl (ar rfl) ?_;intro a0 τ0 ha st0;have e0:=nf ha;have hle:=hS.le;refine wp_seq (eM st0 [] ⟨ao fun c=>aw rfl rfl,au⟩ fun ac ag ae ab aa=> ?_);replace e0:=aa.k1 e0;have e2:=aa.V 0;refine wp_seq ?_;refine wp_seq (vQ [0,1,3,7,0,16,48,112,240,511] ab [] ⟨ak e0,cK 0 rfl,cf ba ax 1 rfl,ao fun c=>aB rfl aF (c.q 2) ((ab.ext.trans c.J.ext).cellAt hm1),ak e0,cK 4 rfl,cf ba cj 5 rfl,ao fun c=>aB rfl cJ (c.q 6) ((ab.ext.trans c.J.ext).cellAt hm0),ao fun c=>dh rfl bq (c.q 7) hS.sl,ao fun c=>gZ rfl (c.q 3) (c.q 8),au⟩ fun ac ag ae ab aa=> ?_);obtain ⟨e0,e2⟩:=aa.k2 e0 e2;have e12:=aa.V 9;refine wp_cond_split e12 (fun hc1=> ?_) (fun hc1=> ?_)
 · try simp only [ah] at hc1
   refine wp_seq (eM ab [] ⟨ao fun c=>aw rfl rfl,au⟩ fun ac ag ae ab aa=> ?_);replace e0:=aa.k1 e0;have e2:=aa.V 0;refine wp_ret ?_;refine rp ?_;refine cO (fn:=Try.f45) rfl ab.defers e2 ?_;exact ⟨congrArg _ (congrArg _ (by unfold ct;first | rw [if_pos (by omega)] | rw [if_neg (by omega)])),ab.ext0⟩
 try simp only [ai,ep] at hc1
 refine wp_skip ?_;refine wp_seq (tG [0,1,3,7,0,16,48,112,255,511,1023] ab [] ⟨ak e0,cK 0 rfl,cf ba cj 1 rfl,ao fun c=>aB rfl cJ (c.q 2) ((ab.ext.trans c.J.ext).cellAt hm0),ak e0,cK 4 rfl,cf ba ax 5 rfl,ao fun c=>aB rfl aF (c.q 6) ((ab.ext.trans c.J.ext).cellAt hm1),ao fun c=>aL rfl bq bu (c.q 3) hS.sl (c.q 7) (by omega) (by omega),ao fun c=>aB rfl bP (c.q 8) ((hS.at (ab.ext.trans c.J.ext)).elem (j:=0) (bh (i:=(i:Int)) (by omega) (by omega)) rfl),aI 9,au⟩ fun ac ag ae ab aa=> ?_);have e2:=aa.V 10;refine wp_ret ?_;refine rp ?_;refine cO (fn:=Try.f45) rfl ab.defers e2 ?_;exact ⟨congrArg _ (congrArg _ (by unfold ct;first | rw [if_pos (by omega)] | rw [if_neg (by omega)])),ab.ext0⟩
theorem mq (v:Value) (cv:Sv) (cs:List ByteArray) (i:Nat) (w:World) (hR:RdR 73 v cv cs i w):Calls Try.prog 45 #[v] w (fun e w'=>e= .returned (.string (ct cs i))∧Ext bk w w'):=by
  have h:=Fg v cv cs i w (hR.box.cell (j:=0) rfl) (hR.box.cell (j:=1) rfl) hR.sl;rwa [←hR.box.ptr] at h
set_option maxRecDepth 100000 in
theorem fJ (v:Value) (cv:Sv) (cs:List ByteArray) (i:Nat) (s:ByteArray) (w:World) (hR:RdR 73 v cv cs i w) (hL:mS cs) (hi:i≤cs.length+5):Calls Try.prog 48 #[v,(aR s)] w (fun e w'=>e= .returned (aD (eE cs i s))∧Ext (bZ v) w w'∧cE 73 [cv.v,aj ((tkN cs i s:Nat):Int)] (bZ v) v w'):=by
 refine eD (bZ v) (fun g hg=>hR.box.lt g hg) (n:=36) Try.func48 rfl rfl (ar rfl) ?_;intro a0 τ0 ha hτ st0;obtain ⟨e0,e1⟩:=qp ha;have hL1:=hL.1;have r0:cE 73 [cv.v,aj ((i:Nat):Int)] (τ0 0) v w:=by rw [hτ];exact hR.box
 have r9:Fz (fL gN Al cv.v cs) τ0 w:=hR.inz st0;refine wp_seq (eM st0 [jb r0,jz 9 r9] ⟨ao fun c=>aw rfl rfl,au⟩ fun ac ag ae ab aa=> ?_);obtain ⟨e0,e1⟩:=aa.k2 e0 e1;have e4:=aa.V 0;replace r0:=aa.B 0;replace r9:=aa.z1 9;refine wp_seq ?_;refine wp_seq ?_;refine rg [_,_,_,_,_,_,_,_,_,_,_,_,_,_,_,_,_,_,_,_,_,_,_,_] [0,1,3,7,0,16,48,112,240,511,1023,2047,4095,8191,16383,2047,34815,100351,231423,524287,1048575,2047,4194303,8388607] ab [jb r0,jz 9 r9] ⟨ak e0,cK 0 r0.ptr,cf ba ax 1 r0.ptr,fk aF 2 0 1,ak e0,cK 4 r0.ptr,cf ba cj 5 r0.ptr,fk cJ 6 0 0,ao fun c=>dh rfl bq (c.q 7) (r9).1.sl,ao fun c=>gZ rfl (c.q 3) (c.q 8),bm 9,bR 10 rfl fun c hpc=>aM rfl (c.p e0),bR 10 rfl fun c hpc=>cU rfl (c.M 11 hpc) r0.ptr,bR 10 rfl fun c hpc=>cM rfl ba cj ((c.M 12 hpc).trans r0.ptr),bR 10 rfl fun c hpc=>aB rfl cJ (c.M 13 hpc) ((c.B 0).cell (j:=0) rfl),bR 10 rfl fun c hpc=>aM rfl (c.p e0),bR 10 rfl fun c hpc=>cU rfl (c.M 15 hpc) r0.ptr,bR 10 rfl fun c hpc=>cM rfl ba ax ((c.M 16 hpc).trans r0.ptr),bR 10 rfl fun c hpc=>aB rfl aF (c.M 17 hpc) ((c.B 0).cell (j:=1) rfl),bR 10 rfl fun c hpc=>aL rfl bq bu (c.M 14 hpc) (r9).1.sl (c.M 18 hpc) (by have hq0:=bn hpc;omega) (by have hq0:=bn hpc;omega),bR 10 rfl fun c hpc=>aB rfl bP (c.M 19 hpc) (((c.iz 9 rfl).1).elem (j:=0) (bh (i:=((i:Nat):Int)) (by have hq0:=bn hpc;omega) (by have hq0:=bn hpc;omega)) rfl),bR 10 rfl fun c hpc=>aM rfl (c.p e1),bR 10 rfl fun c hpc=>lL rfl (c.M 20 hpc) (c.M 21 hpc),eB 10 22,au⟩ fun ac ag ae ab aa=> ?_;obtain ⟨e0,e4⟩:=aa.k2 e0 e4;have e28:=aa.V 23;replace r0:=aa.B 0;replace r9:=aa.z1 9;refine wp_cond_split e28 (fun hc1=> ?_) (fun hc1=> ?_)
 · have hd1:=hc1;try simp only [be,aS,aA,av,ah,ai,ep] at hd1
   refine wp_seq (eM ab [jb r0,jz 9 r9] ⟨ao fun c=>aw rfl rfl,au⟩ fun ac ag ae ab aa=> ?_);replace e0:=aa.k1 e0;have e4:=aa.V 0;replace r0:=aa.B 0;replace r9:=aa.z1 9;refine wp_ret ?_;refine rp ?_;refine cO (fn:=Try.f48) rfl ab.defers e4 ?_;have hb_:eE cs i s=false:=by unfold eE;first | (rw [show (decide ((cs.length:Int)≤(i:Int)) || (!(iH (nth cs (i:Int)) s)))=true from by assumption];rfl) | (rw [show (decide ((cs.length:Int)≤(i:Int)) || (!(iH (nth cs (i:Int)) s)))=false from by assumption];rfl)
   rw [hb_,jR hb_];exact ⟨rfl,ab.extIn,r0.foot⟩
 have hd1:=hc1;try simp only [be,aS,aA,av,ah,ai,ep] at hd1
 refine wp_skip ?_;refine wp_seq (yg ab [jb r0,jz 9 r9] ⟨ak e0,cK 0 r0.ptr,cf ba ax 1 r0.ptr,fk aF 2 0 1,ao fun c=>cp rfl (c.q 3) rfl (by omega),cK 0 r0.ptr,cf ba ax 5 r0.ptr,cu (cx:=[cv.v,(aj (((i:Nat):Int)+1))]) ax fun c=>⟨c.bp 0 rfl e0,c.ad (c.q 6) e0 rfl,(c.q 4)⟩,au⟩ fun ac ag ae ab aa=> ?_);obtain ⟨e0,e4⟩:=aa.k2 e0 e4;replace r0:=aa.RB 7 e0;replace r9:=aa.z1 9;replace r0:cE 73 [cv.v,aj ((i+1:Nat):Int)] (ae 0) v ag:=by rw [show ((i+1:Nat):Int)=((i:Nat):Int)+1 from by omega];exact r0
 refine wp_seq (eM ab [jb r0,jz 9 r9] ⟨ao fun c=>aw rfl rfl,au⟩ fun ac ag ae ab aa=> ?_);replace e0:=aa.k1 e0;have e4:=aa.V 0;replace r0:=aa.B 0;replace r9:=aa.z1 9;refine wp_ret ?_;refine rp ?_;refine cO (fn:=Try.f48) rfl ab.defers e4 ?_;have hb_:eE cs i s=true:=by unfold eE;first | (rw [show (decide ((cs.length:Int)≤(i:Int)) || (!(iH (nth cs (i:Int)) s)))=true from by assumption];rfl) | (rw [show (decide ((cs.length:Int)≤(i:Int)) || (!(iH (nth cs (i:Int)) s)))=false from by assumption];rfl)
 rw [hb_,jf hb_];exact ⟨rfl,ab.extIn,r0.foot⟩
end
section
open Go.RowKit
open Srt
theorem CL {cs:List ByteArray} {f:Nat} {n:Int} {m i:Nat} (h:((decide ((m:Int) < 3)&&decide (((ct cs i).size:Int)=1))&&ky (bS (ct cs i) 0))=true):na cs (f+1) n m i=na cs f (n * 10+(bS (ct cs i) 0 - 48)) (m+1) (i+1):=by rw [na,if_pos h]
theorem AP {cs:List ByteArray} {f:Nat} {n:Int} {m i:Nat} (h:((decide ((m:Int) < 3)&&decide (((ct cs i).size:Int)=1))&&ky (bS (ct cs i) 0))=false):na cs (f+1) n m i=(n,m,i):=by rw [na,if_neg (by rw [h];decide)]
theorem DC {b:Int} (h:ky b=true):IntKind.u8.wrap (b - 48)=b - 48:=by
  simp only [ky,am,ah] at h;simp [IntKind.wrap,IntKind.signed,IntKind.bits];omega
theorem DD {b:Int} (h:0≤b∧b≤255):IntKind.i64.wrap b=b:=IntWalk.i64_in _ (by omega)
set_option maxRecDepth 100000 in
theorem DE (v:Value) (cv:Sv) (cs:List ByteArray) (i:Nat) (w:World) (hR:RdR 73 v cv cs i w) (hL:mS cs) (hi:i≤cs.length+5):Calls Try.prog 79 #[v] w (fun e w'=>e= .returned (.tuple #[aj (bX cs i).1,aD (js (bX cs i))])∧Ext (bZ v) w w'∧cE 73 [cv.v,aj (((bX cs i).2.2:Nat):Int)] (bZ v) v w'):=by
 refine eD (bZ v) (fun g hg=>hR.box.lt g hg) (n:=44) Try.func79 rfl rfl (ar rfl) ?_;intro a0 τ0 ha hτ st0;have e0:=nf ha;have hL1:=hL.1;have r0:cE 73 [cv.v,aj ((i:Nat):Int)] (τ0 0) v w:=by rw [hτ];exact hR.box
 have r9:Fz (fL gN Al cv.v cs) τ0 w:=hR.inz st0;refine wp_seq (eL st0 [jb r0,jz 9 r9] ⟨ao fun c=>aw rfl rfl,ao fun c=>aw rfl rfl,au⟩ fun ac ag ae ab aa=> ?_);replace e0:=aa.k1 e0;have e2:=aa.V 0;have e3:=aa.V 1;replace r0:=aa.B 0;replace r9:=aa.z1 9;refine wp_seq (eL ab [jb r0,jz 9 r9] ⟨ao fun c=>aw rfl rfl,ao fun c=>aw rfl rfl,au⟩ fun ac ag ae ab aa=> ?_);obtain ⟨e0,e2,e3⟩:=aa.k3 e0 e2 e3;have e4:=aa.V 0;have e5:=aa.V 1;replace r0:=aa.B 0;replace r9:=aa.z1 9;refine wp_seq ?_;refine wp_block ?_;refine wp_loop (fun a_ w_=>∃(n:Int) (m j f:Nat) (τ:Nat→aX),(0≤n∧n < 10 ^ m)∧
      (m+f=3)∧
      (i≤j)∧
      (j≤i+m)∧
      (na cs 4 0 0 i=na cs (f+1) n m j)∧
      St (fun k=>bZ v k∨w.heap.size≤k) w 44 a_ w_ τ∧
      aU a_ 4=(aj n)∧
      aU a_ 5=(aj (m:Int))∧
      aU a_ 0=v∧
      aU a_ 2=(aj 0)∧
      aU a_ 3=(aD false)∧
      cE 73 [cv.v,(aj ((j:Nat):Int))] (τ 0) v w_∧
      Fz (fL gN Al cv.v cs) τ w_) (fun a_ _=>(3 - intOf (aU a_ 5)).toNat) ?_ ?_
 · refine ⟨0,0,i,3,ae,?_,?_,?_,?_,?_,ab,(e4.trans (aZ (by omega))),(e5.trans (aZ (by omega))),e0,e2,e3,r0,r9⟩
   · decide
   · omega
   · omega
   · omega
   · rfl
 intro a3 w3 hI;obtain ⟨n,m,j,f,τ3,q0,q1,q2,q3,q4,st3,e4,e5,e0,e2,e3,r0,r9⟩:=hI;have hn1000:n < 1000:=kT q0.2 (by show (10:Int) ^ m≤1000;match m,(show m≤3 by omega) with | 0,_=>decide | 1,_=>decide | 2,_=>decide | 3,_=>decide)
 have m5:=e5;refine wp_seq ?_;refine wp_seq ?_;refine rg [_,_,_,_,_,_,_,_,_,_,_,_,_,_] [0,1,3,7,15,31,63,127,255,511,1023,2047,4095,8191] st3 [jb r0,jz 9 r9] ⟨ak e5,ao fun c=>ci rfl (c.q 0) rfl,bm 1,ay 2 rfl fun c hpc=>aM rfl (c.p e0),fK 2 true rfl fun c hpc=>⟨_,_,(bI rfl rfl fW (c.M 3 hpc)),mq v cv cs j _ (kq (c.B 0) (c.iz 9 rfl) (fun g_ h_ hz_=>hz_.2 _ h_))⟩,ay 2 rfl fun c hpc=>jM rfl bH (c.M 4 hpc),ay 2 rfl fun c hpc=>cF rfl (c.M 5 hpc) rfl,bC 2 6,bm 7,ay 8 rfl fun c hpc=>aM rfl (c.p e0),fK 8 true rfl fun c hpc=>⟨_,_,(bI rfl rfl fW (c.M 9 hpc)),mq v cv cs j _ (kq (c.B 0) (c.iz 9 rfl) (fun g_ h_ hz_=>hz_.2 _ h_))⟩,ay 8 rfl fun c hpc=>iO rfl bH (c.M 10 hpc) rfl (by have hq0:=hpc;(try simp only [am,ah] at hq0);first | omega | (have h_:=gk (ct cs j) 0;omega) | (have h_:=gT (by omega:((ct cs j).size:Int)=1);omega)) (by have hq0:=hpc;(try simp only [am,ah] at hq0);first | omega | (have h_:=gk (ct cs j) 0;omega) | (have h_:=gT (by omega:((ct cs j).size:Int)=1);omega)),fK 8 true rfl fun c hpc=>⟨_,_,(bI rfl rfl Try.call93 (c.M 11 hpc)),xK (bS (ct cs j) 0) _⟩,bC 8 12,au⟩ fun ac ag ae ab aa=> ?_;obtain ⟨e0,e2,e3,e4,e5⟩:=aa.k5 e0 e2 e3 e4 e5;have e19:=aa.V 13;replace r0:=aa.B 0;replace r9:=aa.z1 9;refine wp_cond_split e19 (fun hc1=> ?_) (fun hc1=> ?_)
 · have hd1:=hc1;try simp only [am,ah] at hd1
   refine wp_skip ?_;refine wp_block ?_;refine wp_seq ?_;have hcond:((decide ((m:Int) < 3)&&decide (((ct cs j).size:Int)=1))&&ky (bS (ct cs j) 0))=true:=by assumption
   have hbr:=gk (ct cs j) 0;have hca:=hcond;simp only [am,ah] at hca;have hdb:=hca.2;simp only [ky,am,ah] at hdb;have hwr:IntKind.i64.wrap (IntKind.u8.wrap (bS (ct cs j) 0 - 48))=bS (ct cs j) 0 - 48:=by rw [DC hca.2,DD (by omega)]
   have hsz1:=gT hca.1.2;refine wU [0,1,0,4,12,28,60,127,255] ab [jb r0,jz 9 r9] ⟨ak e4,ao fun c=>uw rfl (c.q 0) rfl (by first | omega | (have h_:=gk (ct cs j) 0;omega) | (have h_:=gT (by omega:((ct cs j).size:Int)=1);omega)),ak e0,ey fun c=>⟨_,_,(bI rfl rfl fW (c.q 2)),mq v cv cs j _ (kq (c.B 0) (c.iz 9 rfl) (fun g_ h_ hz_=>hz_.2 _ h_))⟩,ao fun c=>iO rfl bH (c.q 3) rfl (by first | omega | (have h_:=gk (ct cs j) 0;omega) | (have h_:=gT (by omega:((ct cs j).size:Int)=1);omega)) (by first | omega | (have h_:=gk (ct cs j) 0;omega) | (have h_:=gT (by omega:((ct cs j).size:Int)=1);omega)),ao fun c=>zi rfl (c.q 4) rfl,ao fun c=>qH rfl gG cB (c.q 5),ao fun c=>cp rfl (c.q 1) (c.q 6) (by first | omega | (have h_:=gk (ct cs j) 0;omega) | (have h_:=gT (by omega:((ct cs j).size:Int)=1);omega)),aI 7,au⟩ fun ac ag ae ab aa=> ?_;obtain ⟨e0,e2,e3,e5,e19⟩:=aa.k5 e0 e2 e3 e5 e19;have e4:=aa.V 8;replace r0:=aa.B 0;replace r9:=aa.z1 9;have hcb:=hcond;simp only [am,ah] at hcb;have hdg:=hcb.2;simp only [ky,am,ah] at hdg;have hsz:=gT hcb.1.2;replace e4:aU ac 4=aj (n * 10+(bS (ct cs j) 0 - 48)):=by rw [e4,DC hcb.2,DD (by omega)]
   refine wp_seq ?_;refine fa ab [jb r0,jz 9 r9] ⟨ak e5,ao fun c=>cp rfl (c.q 0) rfl (by first | omega | (have h_:=gk (ct cs j) 0;omega) | (have h_:=gT (by omega:((ct cs j).size:Int)=1);omega)),aI 1,au⟩ fun ac ag ae ab aa=> ?_;obtain ⟨e0,e2,e3,e4,e19⟩:=aa.k5 e0 e2 e3 e4 e19;have e5:=aa.V 2;replace r0:=aa.B 0;replace r9:=aa.z1 9;refine yg ab [jb r0,jz 9 r9] ⟨ak e0,cK 0 r0.ptr,cf ba ax 1 r0.ptr,fk aF 2 0 1,ao fun c=>cp rfl (c.q 3) rfl (by first | omega | (have h_:=gk (ct cs j) 0;omega) | (have h_:=gT (by omega:((ct cs j).size:Int)=1);omega)),cK 0 r0.ptr,cf ba ax 5 r0.ptr,cu (cx:=[cv.v,(aj (((j:Nat):Int)+1))]) ax fun c=>⟨c.bp 0 rfl e0,c.ad (c.q 6) e0 rfl,(c.q 4)⟩,au⟩ fun ac ag ae ab aa=> ?_;obtain ⟨e0,e2,e3,e4,e5,e19⟩:=aa.k6 e0 e2 e3 e4 e5 e19;replace r0:=aa.RB 7 e0;replace r9:=aa.z1 9;replace r0:cE 73 [cv.v,aj ((j+1:Nat):Int)] (ae 0) v ag:=by rw [show ((j+1:Nat):Int)=((j:Nat):Int)+1 from by omega];exact r0
   show _;refine ⟨⟨n * 10+(bS (ct cs j) 0 - 48),m+1,j+1,f - 1,ae,?_,?_,?_,?_,?_,ab,(e4.trans (aZ (by omega))),(e5.trans (aZ (by omega))),e0,e2,e3,r0,r9⟩,?_⟩
   · rw [Int.pow_succ];omega
   · omega
   · omega
   · omega
   · obtain ⟨f,rfl⟩:∃f_,f=f_+1:=⟨f - 1,by omega⟩;rw [q4,CL hcond];rfl
   · simp only [m5,e5,intOf];omega
 have hd1:=hc1;try simp only [aG,ai,aP] at hd1
 refine wp_exit ?_;repeat (with_reducible refine bU ?_)
 refine bY ?_;refine wp_seq ?_;have hcond:((decide ((m:Int) < 3)&&decide (((ct cs j).size:Int)=1))&&ky (bS (ct cs j) 0))=false:=by assumption
 refine wU [0,0,2,6,14,30,62,15,255] ab [jb r0,jz 9 r9] ⟨ak e4,ak e5,ao fun c=>jm rfl (c.q 1) rfl,bm 2,ay 3 rfl fun c hpc=>aM rfl (c.p e4),ay 3 rfl fun c hpc=>kA rfl (c.M 4 hpc) rfl,bC 3 5,aI 0,aI 6,au⟩ fun ac ag ae ab aa=> ?_;replace e0:=aa.k1 e0;have e2:=aa.V 7;have e3:=aa.V 8;replace r0:=aa.B 0;replace r9:=aa.z1 9;refine wp_ret ?_;refine rp ?_;refine la (fn:=Try.f79) rfl ab.defers e2 e3 ?_;have he_:bX cs i=(n,m,j):=by rw [bX,q4,AP hcond]
 rw [he_];exact ⟨rfl,ab.extIn,r0.foot⟩
end
section
open Go.RowKit
open Srt
theorem Fy {a b:Bool} (h:(a&&b)=true):b=true:=by cases a <;> simp_all
theorem AQ {r:Rw} (h:((!ei r.1 || !ei r.2) || !pY r.1 r.2)=true):dJ r=false:=by rw [xj] at h;simpa using h
theorem xM {r:Rw} (h:((!ei r.1 || !ei r.2) || !pY r.1 r.2)=false):dJ r=true:=by rw [xj] at h;simpa using h
theorem AR {xs:List Rw} {n f:Bool} {s:ByteArray} (h:f=true):sq xs n f s= !(((zf xs s || zf xs (ge s)) || zf xs (Fq s))==n):=by rw [sq,if_pos h]
theorem AS {xs:List Rw} {n f:Bool} {s:ByteArray} (h:f=false):sq xs n f s= !(zf xs s==n):=by rw [sq,if_neg (by rw [h];decide)]
theorem pO {n:Int} (h:n=100):gl n=[(⟨#[48]⟩,⟨#[57]⟩)]∧gY n=true:=by subst h;exact ⟨rfl,rfl⟩
theorem pP {n:Int} (h:n=119):gl n=[(⟨#[48]⟩,⟨#[57]⟩),(⟨#[65]⟩,⟨#[90]⟩),(⟨#[95]⟩,⟨#[95]⟩),(⟨#[97]⟩,⟨#[122]⟩)]∧gY n=true:=by subst h;exact ⟨rfl,rfl⟩
theorem pQ {n:Int} (h:n=115):gl n=[(⟨#[9]⟩,⟨#[13]⟩),(⟨#[32]⟩,⟨#[32]⟩)]∧gY n=true:=by subst h;exact ⟨rfl,rfl⟩
theorem AT {n:Int} (h1:¬n=100) (h2:¬n=119) (h3:¬n=115):gl n=[]∧gY n=false:=by
  unfold gl gY;rw [if_neg h1,if_neg h2,if_neg h3,decide_eq_false h1,decide_eq_false h2,decide_eq_false h3];exact ⟨rfl,rfl⟩
set_option maxRecDepth 100000 in
theorem yP (s:ByteArray) (w:World) (hs:s.size≤1000000000):Calls Try.prog 90 #[(aR s)] w (fun e w'=>e= .returned (aR (ge s))∧Ext bk w w'):=by
 refine enter (n:=35) Try.func90 rfl rfl (ar rfl) ?_;intro a0 τ0 ha st0;have e0:=nf ha;have hbl:=ji s;have hbd:s.data.toList.length=s.size:=ji s;refine wp_seq (eM st0 [] ⟨ao fun c=>aw rfl rfl,au⟩ fun ac ag ae ab aa=> ?_);replace e0:=aa.k1 e0;have e2:=aa.V 0;refine wp_seq (rg [_,yf 5 _ 0 6 _,yf 5 _ 0 3 _] [0,1,3] ab [] ⟨ak e0,oq rfl rfl rfl rfl bH df gG (by first | omega | exact (gU _).1 | exact (gU _).2) fun c=>(c.n 0 rfl),dO (t0:=6) rfl rfl rfl rfl rfl (.inr rfl) (fun _ _ _ _ c=>⟨c.ry 1 rfl,rfl⟩),au⟩ fun ac ag ae ab aa=> ?_);obtain ⟨b2x3,e3⟩:=gx ac 3;replace e2:=aa.k1 e2;have r0:=aa.ry 2 e3 rfl;refine wp_seq ?_;refine wp_seq (eM ab [jy r0] ⟨ao fun c=>aw rfl rfl,au⟩ fun ac ag ae ab aa=> ?_);obtain ⟨e2,e3⟩:=aa.k2 e2 e3;have e4:=aa.V 0;replace r0:=aa.iy 0 rfl;refine wp_block ?_;refine wp_loop (fun a_ w_=>∃(k:Nat) (τ:Nat→aX),(k≤(bs s).length)∧
      St (Nw w) w 35 a_ w_ τ∧
      aU a_ 4=(aj (k:Int))∧
      aU a_ 2=(aR (⟨#[]⟩:ByteArray))∧
      aU a_ 3=b2x3∧
      kF 5 (fF jC (bs s) k) (τ 0) b2x3 w_) (fun a_ _=>(bs s).length - (intOf (aU a_ 4)).toNat) ?_ ?_
 · refine ⟨0,ae,?_,ab,(e4.trans (aZ (by omega))),e2,e3,?_⟩
   · omega
   · exact r0.cast (by exact oz _ _)
 intro a4 w4 hI;obtain ⟨k,τ4,q0,st4,e4,e2,e3,r0⟩:=hI;have hml:=pF jC (bs s) k;have m4:=e4;refine wp_seq ?_;refine wp_seq (lc [0,0,2,7] st4 [jy r0] ⟨ak e4,ak e3,ao fun c=>dh rfl df (c.q 1) r0.isSl,ao fun c=>ci rfl (c.q 0) (c.q 2),au⟩ fun ac ag ae ab aa=> ?_);obtain ⟨e2,e3,e4⟩:=aa.k3 e2 e3 e4;have e10:=aa.V 3;replace r0:=aa.iy 0 rfl;refine wp_cond_split e10 (fun hc1=> ?_) (fun hc1=> ?_)
 · try simp only [ah] at hc1
   refine wp_skip ?_;refine wp_seq ?_;refine wp_block ?_;refine wp_seq ?_;refine BP [0,0,3,7,15,31,63,63,255,511,1023,2047] ab [jy r0] ⟨ak e3,ak e4,ao fun c=>aL rfl df gn (c.q 0) r0.isSl (c.q 1) (by first | omega | exact (gU _).1 | exact (gU _).2) (by first | omega | exact (gU _).1 | exact (gU _).2),ao fun c=>aB rfl mt (c.q 2) (((c.iy 0 rfl).1.sl).elem (j:=0) (bh (i:=(k:Int)) (by first | omega | exact (gU _).1 | exact (gU _).2) (by first | omega | exact (gU _).1 | exact (gU _).2)) rfl),ao fun c=>gZ rfl (c.q 3) rfl,bm 4,ay 5 rfl fun c hpc=>aM rfl (c.p e3),ay 5 rfl fun c hpc=>aM rfl (c.p e4),ay 5 rfl fun c hpc=>aL rfl df gn (c.M 6 hpc) r0.isSl (c.M 7 hpc) (by have hq0:=bt hpc;first | omega | exact (gU _).1 | exact (gU _).2) (by have hq0:=bt hpc;first | omega | exact (gU _).1 | exact (gU _).2),ay 5 rfl fun c hpc=>aB rfl mt (c.M 8 hpc) (((c.iy 0 rfl).1.sl).elem (j:=0) (bh (i:=(k:Int)) (by have hq0:=bt hpc;first | omega | exact (gU _).1 | exact (gU _).2) (by have hq0:=bt hpc;first | omega | exact (gU _).1 | exact (gU _).2)) rfl),ay 5 rfl fun c hpc=>kA rfl (c.M 9 hpc) rfl,bC 5 10,au⟩ fun ac ag ae ab aa=> ?_;obtain ⟨e2,e3,e4,e10⟩:=aa.k4 e2 e3 e4 e10;have e24:=aa.V 11;replace r0:=aa.iy 0 rfl;refine wp_cond_split e24 (fun hc2=> ?_) (fun hc2=> ?_)
   · have hd2:=hc2;try simp only [am,ah] at hd2
     refine rg [_,_,_,_,_,_,_,_,yf 5 _ 0 3 _] [0,0,0,0,12,28,60,127,255] ab [jy r0] ⟨ak e3,ak e4,ak e3,ak e4,ao fun c=>aL rfl df gn (c.q 2) r0.isSl (c.q 3) (by first | omega | exact (gU _).1 | exact (gU _).2) (by first | omega | exact (gU _).1 | exact (gU _).2),ao fun c=>aB rfl mt (c.q 4) (((c.iy 0 rfl).1.sl).elem (j:=0) (bh (i:=(k:Int)) (by first | omega | exact (gU _).1 | exact (gU _).2) (by first | omega | exact (gU _).1 | exact (gU _).2)) rfl),ao fun c=>zh rfl (c.q 5) rfl,ao fun c=>aL rfl df gn (c.q 0) r0.isSl (c.q 1) (by first | omega | exact (gU _).1 | exact (gU _).2) (by first | omega | exact (gU _).1 | exact (gU _).2),pA (i:=(k:Int).toNat) (n:=IntKind.u8.wrap (((nth (fF jC (bs s) k) (k:Int)).toNat:Int)+32)) rfl rfl rfl rfl gn (by first | omega | exact (gU _).1 | exact (gU _).2) (by first | omega | exact (gU _).1 | exact (gU _).2) (by first | omega | exact (gU _).1 | exact (gU _).2) fun c=>⟨c.yp 0 rfl e3,c.ad (c.n 7 rfl) e3 rfl,(c.n 6 rfl)⟩,au⟩ fun ac ag ae ab aa=> ?_;obtain ⟨e2,e3,e4,e10,e24⟩:=aa.k5 e2 e3 e4 e10 e24;replace r0:=aa.ry 8 e3 rfl;show _;refine fa ab [jy r0] ⟨ak e4,ao fun c=>cp rfl (c.q 0) rfl (by first | omega | exact (gU _).1 | exact (gU _).2),aI 1,au⟩ fun ac ag ae ab aa=> ?_;obtain ⟨e2,e3,e10,e24⟩:=aa.k4 e2 e3 e10 e24;have e4:=aa.V 2;replace r0:=aa.iy 0 rfl;refine ⟨⟨k+1,ae,?_,ab,(e4.trans (aZ (by omega))),e2,e3,?_⟩,?_⟩
     · omega
     · exact r0.cast (by first | exact pe (by omega) (by assumption) | exact nJ (by omega) (by assumption))
     · simp only [m4,e4,intOf];omega
   have hd2:=hc2;try simp only [aG,ai,ep] at hd2
   refine wp_skip ?_;show _;refine fa ab [jy r0] ⟨ak e4,ao fun c=>cp rfl (c.q 0) rfl (by first | omega | exact (gU _).1 | exact (gU _).2),aI 1,au⟩ fun ac ag ae ab aa=> ?_;obtain ⟨e2,e3,e10,e24⟩:=aa.k4 e2 e3 e10 e24;have e4:=aa.V 2;replace r0:=aa.iy 0 rfl;refine ⟨⟨k+1,ae,?_,ab,(e4.trans (aZ (by omega))),e2,e3,?_⟩,?_⟩
   · omega
   · exact r0.cast (by first | exact pe (by omega) (by assumption) | exact nJ (by omega) (by assumption))
   · simp only [m4,e4,intOf];omega
 try simp only [ai,aP] at hc1
 refine wp_exit ?_;repeat (with_reducible refine bU ?_)
 refine bY ?_;refine wp_seq (fa ab [jy r0] ⟨ak e3,ao fun c=>py rfl df gG bH (c.q 0) (c.iy 0 rfl).1.sl,aI 1,au⟩ fun ac ag ae ab aa=> ?_);have e2:=aa.V 2;refine wp_ret ?_;refine rp ?_;refine cO (fn:=Try.f90) rfl ab.defers e2 ?_;exact ⟨congrArg (fun l_=>Ending.returned (aR ⟨List.toArray l_⟩)) (pG (by omega)),ab.ext0⟩
set_option maxRecDepth 100000 in
theorem wz (v:Value) (xs:List (ByteArray × ByteArray)) (w:World) (hS:SlT dQ w v xs) (hz:oZ xs) (hbig:xs.length≤1000000000):Calls Try.prog 89 #[v] w (fun e w'=>∃v',e= .returned v'∧Ext bk w w'∧oI dQ 47 w w' v' (br xs)):=by
 refine enter (n:=137) Try.func89 rfl rfl (ar rfl) ?_;intro a0 τ0 ha st0;have e0:=nf ha;have hle:=hS.le;refine wp_seq (eM st0 [] ⟨ao fun c=>aw rfl rfl,au⟩ fun ac ag ae ab aa=> ?_);replace e0:=aa.k1 e0;have e2:=aa.V 0;refine wp_seq (eM ab [] ⟨ao fun c=>aw rfl rfl,au⟩ fun ac ag ae ab aa=> ?_);obtain ⟨e0,e2⟩:=aa.k2 e0 e2;have e3:=aa.V 0;refine wp_seq ?_;refine wp_seq (eM ab [] ⟨ao fun c=>aw rfl rfl,au⟩ fun ac ag ae ab aa=> ?_);obtain ⟨e0,e2,e3⟩:=aa.k3 e0 e2 e3;have e4:=aa.V 0;refine wp_block ?_;refine wp_loop (fun a_ w_=>∃(i:Nat) (o:Value) (τ:Nat→aX),(i≤xs.length)∧
      St (Nw w) w 137 a_ w_ τ∧
      aU a_ 3=o∧
      aU a_ 4=(aj (i:Int))∧
      aU a_ 0=v∧
      aU a_ 2=(.slice none 0 0)∧
      dg dQ 47 (cr sr ((xs.take i).filter dJ)) (τ 0) o w_) (fun a_ _=>xs.length - (intOf (aU a_ 4)).toNat) ?_ ?_
 · refine ⟨0,(.slice none 0 0),ae,?_,ab,e3,(e4.trans (aZ (by omega))),e0,e2,?_⟩
   · omega
   · exact dg.nil _ _ _ _
 intro a4 w4 hI;obtain ⟨i,o,τ4,q0,st4,e3,e4,e0,e2,r0⟩:=hI;have hil:=fg (lt:=sr) ((xs.take i).filter dJ);have hfl:=sK (f:=dJ) (xs:=xs) (k:=i);have hzk:=rl hz (k:=i);have m4:=e4;refine wp_seq ?_;refine wp_seq (lc [0,0,2,7] st4 [jo r0] ⟨ak e4,ak e0,ao fun c=>dh rfl aH (c.q 1) hS.sl,ao fun c=>ci rfl (c.q 0) (c.q 2),au⟩ fun ac ag ae ab aa=> ?_);obtain ⟨e0,e2,e3,e4⟩:=aa.k4 e0 e2 e3 e4;have e13:=aa.V 3;replace r0:=aa.O 0;refine wp_cond_split e13 (fun hc1=> ?_) (fun hc1=> ?_)
 · try simp only [ah] at hc1
   refine wp_skip ?_;refine wp_seq ?_;refine wp_block ?_;refine wp_seq (rg [_,_,_,_,box _ _ 2 5 [(aR (⟨#[]⟩:ByteArray)),(aR (⟨#[]⟩:ByteArray))],_] [0,0,3,7,0,31] ab [jo r0] ⟨ak e0,ak e4,ao fun c=>aL rfl aH aK (c.q 0) hS.sl (c.q 1) (by omega) (by omega),ao fun c=>cN (vs:=[(aR ((nth xs (i:Int)).1)),(aR ((nth xs (i:Int)).2))]) rfl cI aK (c.q 2) rfl (fun _ _ hj=>(hS.at (ab.ext.trans c.J.ext)).elem (bh (i:=(i:Int)) (by omega) (by omega)) hj),cC rfl rfl rfl rfl cm rfl,gp (cx:=[(aR ((nth xs (i:Int)).1)),(aR ((nth xs (i:Int)).2))]) (off:=0) rfl aK fun c=>⟨c.rb 4 rfl,(c.rb 4 rfl).ptr,(c.q 3)⟩,au⟩ fun ac ag ae ab aa=> ?_);obtain ⟨b6x5,e5⟩:=gx ac 5;obtain ⟨e0,e2,e3,e4,e13⟩:=aa.k5 e0 e2 e3 e4 e13;replace r0:=aa.O 0;have r2:=aa.rb 5 e5 rfl;refine wp_seq ?_;refine wp_seq ?_;refine rg [_,_,_,_,_,_,_,_,_,_,_,_,_,_,_,_,_] [0,1,3,7,15,31,63,127,255,511,1023,2047,4095,2047,10239,32767,65535] ab [jo r0,jb r2] ⟨cy bE bu e5 r2.ptr,fk bP 0 2 0,ey fun c=>⟨_,_,(bI rfl rfl Try.call78 (c.q 1)),nu ((nth xs (i:Int)).1) _ (by omega)⟩,ao fun c=>dW rfl (c.q 2),bm 3,bR 4 rfl fun c hpc=>cM rfl bE bu ((c.p e5).trans r2.ptr),bR 4 rfl fun c hpc=>aB rfl bP (c.M 5 hpc) ((c.B 2).cell (j:=1) rfl),fK 4 false rfl fun c hpc=>⟨_,_,(bI rfl rfl Try.call78 (c.M 6 hpc)),nu ((nth xs (i:Int)).2) _ (by have hq0:=hpc;(try simp only [aA,av] at hq0);omega)⟩,bR 4 rfl fun c hpc=>dW rfl (c.M 7 hpc),eB 4 8,bm 9,bR 10 rfl fun c hpc=>cM rfl bE bu ((c.p e5).trans r2.ptr),bR 10 rfl fun c hpc=>aB rfl bP (c.M 11 hpc) ((c.B 2).cell (j:=0) rfl),bR 10 rfl fun c hpc=>cM rfl bE bu ((c.p e5).trans r2.ptr),bR 10 rfl fun c hpc=>aB rfl bP (c.M 13 hpc) ((c.B 2).cell (j:=1) rfl),bR 10 rfl fun c hpc=>zu rfl (c.M 12 hpc) (c.M 14 hpc),eB 10 15,au⟩ fun ac ag ae ab aa=> ?_;obtain ⟨e0,e2,e3,e4,e5,e13⟩:=aa.k6 e0 e2 e3 e4 e5 e13;have e36:=aa.V 16;replace r0:=aa.O 0;replace r2:=aa.B 2;refine wp_cond_split e36 (fun hc2=> ?_) (fun hc2=> ?_)
   · have hd2:=hc2;try simp only [be,aS,aA,av] at hd2
     refine wp_exit ?_;repeat (with_reducible refine bU ?_)
     refine bY ?_;refine fa ab [jo r0,jb r2] ⟨ak e4,ao fun c=>cp rfl (c.q 0) rfl (by omega),aI 1,au⟩ fun ac ag ae ab aa=> ?_;obtain ⟨e0,e2,e3,e5,e13,e36⟩:=aa.k6 e0 e2 e3 e5 e13 e36;have e4:=aa.V 2;replace r0:=aa.O 0;replace r2:=aa.B 2;refine ⟨⟨i+1,o,ae,?_,ab,e3,(e4.trans (aZ (by omega))),e0,e2,?_⟩,?_⟩
     · omega
     · exact r0.cast (by first | exact uW (by omega) (xM (by assumption)) q0 q1 (by assumption) | (rw [pb (by omega) (AQ (by assumption))]))
     · simp only [m4,e4,intOf];omega
   have hd2:=hc2;try simp only [be,aS,aA,av] at hd2
   refine wp_skip ?_;refine wp_seq (fa ab [jo r0,jb r2] ⟨ak e3,ao fun c=>dh rfl aH (c.q 0) r0.isSl,aI 1,au⟩ fun ac ag ae ab aa=> ?_);obtain ⟨e0,e2,e3,e4,e5,e13,e36⟩:=aa.k7 e0 e2 e3 e4 e5 e13 e36;have e6:=aa.V 2;replace r0:=aa.O 0;replace r2:=aa.B 2;refine wp_seq ?_;refine wp_block ?_;refine wp_loop (fun a_ w_=>∃(k:Nat) (τ:Nat→aX),(k≤(cr sr ((xs.take i).filter dJ)).length)∧
          (∀q ∈ (cr sr ((xs.take i).filter dJ)).drop k,sr (nth xs (i:Int)) q=true)∧
          St (Nw w) w 137 a_ w_ τ∧
          aU a_ 6=(aj (k:Int))∧
          aU a_ 0=v∧
          aU a_ 2=(.slice none 0 0)∧
          aU a_ 3=o∧
          aU a_ 4=(aj (i:Int))∧
          aU a_ 5=b6x5∧
          aU a_ 13=(aD (decide ((i:Int) < (xs.length:Int))))∧
          aU a_ 36=(aD (((!(ei ((nth xs (i:Int)).1))) || (!(ei ((nth xs (i:Int)).2)))) || (!(pY ((nth xs (i:Int)).1) ((nth xs (i:Int)).2)))))∧
          dg dQ 47 (cr sr ((xs.take i).filter dJ)) (τ 0) o w_∧
          cE 47 [(aR ((nth xs (i:Int)).1)),(aR ((nth xs (i:Int)).2))] (τ 2) b6x5 w_) (fun a_ _=>(intOf (aU a_ 6)).toNat) ?_ ?_
   · refine ⟨(cr sr ((xs.take i).filter dJ)).length,ae,?_,?_,ab,(e6.trans (aZ (by omega))),e0,e2,e3,e4,e5,e13,e36,r0,r2⟩
     · omega
     · simp
   intro a10 w10 hI;obtain ⟨k,τ10,q0,q1,st10,e6,e0,e2,e3,e4,e5,e13,e36,r0,r2⟩:=hI;have m6:=e6;refine wp_seq ?_;refine wp_seq ?_;refine rg [_,_,_,_,_,_,_,_,_,_,_,_,_,_,_,_,_,_,_,_,_,_,_,_,_,_,_,_,_,_,_,_,_,_,_] [0,1,3,7,15,7,7,71,231,487,999,2047,4095,8191,16383,8191,8191,73727,237567,499711,1023999,2097151,4194303,8388607,16777215,8388607,8388607,75497471,243269631,511705087,1048575999,2147483647,4294967295,8589934591,17179869183] st10 [jo r0,jb r2] ⟨ak e6,ao fun c=>jm rfl (c.q 0) rfl,bm 1,ay 2 rfl fun c hpc=>cM rfl bE bu ((c.p e5).trans r2.ptr),ay 2 rfl fun c hpc=>aB rfl bP (c.M 3 hpc) ((c.B 2).cell (j:=0) rfl),ay 2 rfl fun c hpc=>aM rfl (c.p e3),ay 2 rfl fun c hpc=>aM rfl (c.p e6),ay 2 rfl fun c hpc=>fv rfl (c.M 6 hpc) rfl (by have hq0:=bt hpc;omega),ay 2 rfl fun c hpc=>aL rfl aH aK (c.M 5 hpc) r0.isSl (c.M 7 hpc) (by have hq0:=bt hpc;omega) (by have hq0:=bt hpc;omega),ay 2 rfl fun c hpc=>cM rfl bE bu (c.M 8 hpc),ay 2 rfl fun c hpc=>aB rfl bP (c.M 9 hpc) (((c.io 0 rfl).1.sl).elem (j:=0) (bh (i:=(k:Int) - 1) (by have hq0:=bt hpc;omega) (by have hq0:=bt hpc;omega)) rfl),ay 2 rfl fun c hpc=>tC rfl (c.M 4 hpc) (c.M 10 hpc),ay 2 rfl fun c hpc=>aM rfl (c.M 11 hpc),dj 12 false rfl fun c hpc=>cM rfl bE bu ((c.p e5).trans r2.ptr),dj 12 false rfl fun c hpc=>aB rfl bP (c.M 13 hpc) ((c.B 2).cell (j:=0) rfl),dj 12 false rfl fun c hpc=>aM rfl (c.p e3),dj 12 false rfl fun c hpc=>aM rfl (c.p e6),dj 12 false rfl fun c hpc=>fv rfl (c.M 16 hpc) rfl (by have hq0:=hpc.2;have hq1:=bt hpc.1;omega),dj 12 false rfl fun c hpc=>aL rfl aH aK (c.M 15 hpc) r0.isSl (c.M 17 hpc) (by have hq0:=hpc.2;have hq1:=bt hpc.1;omega) (by have hq0:=hpc.2;have hq1:=bt hpc.1;omega),dj 12 false rfl fun c hpc=>cM rfl bE bu (c.M 18 hpc),dj 12 false rfl fun c hpc=>aB rfl bP (c.M 19 hpc) (((c.io 0 rfl).1.sl).elem (j:=0) (bh (i:=(k:Int) - 1) (by have hq0:=hpc.2;have hq1:=bt hpc.1;omega) (by have hq0:=hpc.2;have hq1:=bt hpc.1;omega)) rfl),dj 12 false rfl fun c hpc=>gy rfl (c.M 14 hpc) (c.M 20 hpc),dj 12 false rfl fun c hpc=>aM rfl (c.M 21 hpc),dj 22 true rfl fun c hpc=>cM rfl bE bu ((c.p e5).trans r2.ptr),dj 22 true rfl fun c hpc=>aB rfl bP (c.M 23 hpc) ((c.B 2).cell (j:=1) rfl),dj 22 true rfl fun c hpc=>aM rfl (c.p e3),dj 22 true rfl fun c hpc=>aM rfl (c.p e6),dj 22 true rfl fun c hpc=>fv rfl (c.M 26 hpc) rfl (by have hq0:=hpc.2;have hq1:=hpc.1.2;have hq2:=bt hpc.1.1;omega),dj 22 true rfl fun c hpc=>aL rfl aH aK (c.M 25 hpc) r0.isSl (c.M 27 hpc) (by have hq0:=hpc.2;have hq1:=hpc.1.2;have hq2:=bt hpc.1.1;omega) (by have hq0:=hpc.2;have hq1:=hpc.1.2;have hq2:=bt hpc.1.1;omega),dj 22 true rfl fun c hpc=>cM rfl bE bu (c.M 28 hpc),dj 22 true rfl fun c hpc=>aB rfl bP (c.M 29 hpc) (((c.io 0 rfl).1.sl).elem (j:=1) (bh (i:=(k:Int) - 1) (by have hq0:=hpc.2;have hq1:=hpc.1.2;have hq2:=bt hpc.1.1;omega) (by have hq0:=hpc.2;have hq1:=hpc.1.2;have hq2:=bt hpc.1.1;omega)) rfl),dj 22 true rfl fun c hpc=>tC rfl (c.M 24 hpc) (c.M 30 hpc),dj 12 false rfl fun c hpc=>nl rfl (c.M 22 hpc) (fun h=>c.m 31 rfl (And.intro hpc h)),ay 2 rfl fun c hpc=>vM rfl (c.M 12 hpc) (fun h=>c.m 32 rfl (And.intro hpc h)),bC 2 33,au⟩ fun ac ag ae ab aa=> ?_;obtain ⟨e0,e2,e3,e4,e5,e6,e13,e36⟩:=aa.k8 e0 e2 e3 e4 e5 e6 e13 e36;have e73:=aa.V 34;replace r0:=aa.O 0;replace r2:=aa.B 2;refine wp_cond_split e73 (fun hc3=> ?_) (fun hc3=> ?_)
   · have hd3:=hc3;try simp only [am,be,ah] at hd3
     refine wp_skip ?_;refine wp_block ?_;refine fa ab [jo r0,jb r2] ⟨ak e6,ao fun c=>fv rfl (c.q 0) rfl (by omega),aI 1,au⟩ fun ac ag ae ab aa=> ?_;obtain ⟨e0,e2,e3,e4,e5,e13,e36,e73⟩:=aa.k8 e0 e2 e3 e4 e5 e13 e36 e73;have e6:=aa.V 2;replace r0:=aa.O 0;replace r2:=aa.B 2;show _;refine ⟨⟨k - 1,ae,?_,?_,ab,(e6.trans (aZ (by omega))),e0,e2,e3,e4,e5,e13,e36,r0,r2⟩,?_⟩
     · omega
     · exact yr (lt:=sr) (by omega) q0 q1 (Fy (a:=decide ((0:Int) < (k:Int))) (by assumption))
     · simp only [m6,e6,intOf];omega
   have hd3:=hc3;try simp only [aG,aS,ai,aP] at hd3
   refine wp_exit ?_;repeat (with_reducible refine bU ?_)
   refine bY ?_;refine rg [own dQ 47 _ 3 76 ([]),_,_,_,own _ _ _ 3 80 _,_,own dQ 47 _ 4 82 ([(nth xs (i:Int))]),own _ _ _ 3 83 _,_,_,_,own _ _ _ 3 87 _,own _ _ _ 3 3 _] [0,0,0,6,15,0,32,127,0,0,768,2047,4095] ab [jo r0,jb r2] ⟨nT rfl rfl rfl rfl aH aK,ak e3,ak e6,ao fun c=>sw rfl aH aK (c.q 1) r0.isSl (c.q 2) (by omega) (by omega),eO (t0:=76) rfl rfl rfl rfl aH (i:=Try.t47) rfl rfl rfl rfl (by simp only [maxLen];(try simp);omega) (by show _ * 32≤_;(try simp);omega) (fun _ _ _ _ c=>⟨c.ro 0 rfl,rfl,⟨_,(c.n 3 rfl),((c.io 0 rfl).1.sl.sub (lo:=0) (hi:=k) (by omega) (by omega))⟩⟩),ao fun c=>fm rfl cI aK ((c.p e5).trans r2.ptr) (c.B 2),cQ (cells:=#[(aR ((nth xs (i:Int)).1)),(aR ((nth xs (i:Int)).2))]) rfl rfl rfl rfl aH aK cm rfl (by decide) (by decide) (fun _ _ _ _ c=>gb (c.n 5 rfl) (by kernel_rfl)) rfl,eO (t0:=80) rfl rfl rfl rfl aH (i:=Try.t47) rfl rfl rfl rfl (by simp only [maxLen];(try simp);omega) (by show _ * 32≤_;(try simp);omega) (fun _ _ _ _ c=>⟨c.ro 4 rfl,rfl,⟨_,rfl,(c.ro 6 rfl).1.sl⟩⟩),ak e3,ak e6,ao fun c=>pu rfl aH aK (c.q 8) r0.isSl (c.q 9) (by omega) (by omega),eO (t0:=83) rfl rfl rfl rfl aH (i:=Try.t47) rfl rfl rfl rfl (by simp only [maxLen];(try simp);omega) (by show _ * 32≤_;(try simp);omega) (fun _ _ _ _ c=>⟨c.ro 7 rfl,rfl,⟨_,(c.n 10 rfl),((c.io 0 rfl).1.sl.sub (lo:=k) (hi:=(cr sr ((xs.take i).filter dJ)).length) (by omega) (by omega))⟩⟩),dO (t0:=87) rfl rfl rfl rfl rfl (.inr rfl) (fun _ _ _ _ c=>⟨c.ro 11 rfl,rfl⟩),au⟩ fun ac ag ae ab aa=> ?_;obtain ⟨b13x3,e3⟩:=gx ac 3;obtain ⟨b13x82,e82⟩:=gx ac 82;obtain ⟨e0,e2,e4,e5,e6,e13,e36,e73⟩:=aa.k8 e0 e2 e4 e5 e6 e13 e36 e73;replace r0:=aa.O 0;replace r2:=aa.B 2;have r3:=aa.ro 12 e3 rfl;have r4:=aa.ro 6 e82 rfl;show _;refine fa ab [jo r0,jb r2,jo r3,jo r4] ⟨ak e4,ao fun c=>cp rfl (c.q 0) rfl (by omega),aI 1,au⟩ fun ac ag ae ab aa=> ?_;obtain ⟨e0,e2,e3,e5,e6,e13,e36,e73⟩:=aa.k8 e0 e2 e3 e5 e6 e13 e36 e73;have e4:=aa.V 2;replace r0:=aa.O 0;replace r2:=aa.B 2;replace r3:=aa.O 3;replace r4:=aa.O 4;refine ⟨⟨i+1,b13x3,(retag ae [(0,3)]),?_,(ab.retag [(0,3)] (by decide)),e3,(e4.trans (aZ (by omega))),e0,e2,?_⟩,?_⟩
   · omega
   · exact r3.cast (by first | exact uW (by omega) (xM (by assumption)) q0 q1 (by assumption) | (rw [pb (by omega) (AQ (by assumption))]))
   · simp only [m4,e4,intOf];omega
 try simp only [ai,aP] at hc1
 refine wp_exit ?_;repeat (with_reducible refine bU ?_)
 refine bY ?_;refine wp_seq (eM ab [jo r0] ⟨ao fun c=>aw rfl rfl,au⟩ fun ac ag ae ab aa=> ?_);obtain ⟨e2,e3⟩:=aa.k2 e2 e3;have e7:=aa.V 0;replace r0:=aa.O 0;replace r0:=r0.cast (show cr ex (xs.filter dJ)=(cr sr ((xs.take i).filter dJ)) from by rw [bz (by omega),Eb]);have hil:=lk xs;refine wp_seq ?_;refine wp_seq (eM ab [jo r0] ⟨ao fun c=>aw rfl rfl,au⟩ fun ac ag ae ab aa=> ?_);obtain ⟨e2,e3,e7⟩:=aa.k3 e2 e3 e7;have e8:=aa.V 0;replace r0:=aa.O 0;refine wp_block ?_;refine wp_loop (fun a_ w_=>∃(m:Nat) (u:Value) (τ:Nat→aX),(m≤(cr ex (xs.filter dJ)).length)∧
      St (Nw w) w 137 a_ w_ τ∧
      aU a_ 7=u∧
      aU a_ 8=(aj (m:Int))∧
      aU a_ 2=(.slice none 0 0)∧
      aU a_ 3=o∧
      dg dQ 47 (eK ((cr ex (xs.filter dJ)).take m)) (τ 1) u w_∧
      dg dQ 47 (cr ex (xs.filter dJ)) (τ 0) o w_) (fun a_ _=>(cr ex (xs.filter dJ)).length - (intOf (aU a_ 8)).toNat) ?_ ?_
 · refine ⟨0,(.slice none 0 0),ae,?_,ab,e7,(e8.trans (aZ (by omega))),e2,e3,?_,r0⟩
   · omega
   · exact dg.nil _ _ _ _
 intro a17 w17 hI;obtain ⟨m,u,τ17,q0,st17,e7,e8,e2,e3,r1,r0⟩:=hI;have hjl:=ru (xs:=(cr ex (xs.filter dJ))) (k:=m);have m8:=e8;refine wp_seq ?_;refine wp_seq (lc [0,0,2,7] st17 [jo r0,jo r1] ⟨ak e8,ak e3,ao fun c=>dh rfl aH (c.q 1) r0.isSl,ao fun c=>ci rfl (c.q 0) (c.q 2),au⟩ fun ac ag ae ab aa=> ?_);obtain ⟨e2,e3,e7,e8⟩:=aa.k4 e2 e3 e7 e8;have e91:=aa.V 3;replace r0:=aa.O 0;replace r1:=aa.O 1;refine wp_cond_split e91 (fun hc4=> ?_) (fun hc4=> ?_)
 · try simp only [ah] at hc4
   refine wp_skip ?_;refine wp_seq ?_;refine wp_block ?_;refine wp_seq (fa ab [jo r0,jo r1] ⟨ak e7,ao fun c=>dh rfl aH (c.q 0) r1.isSl,aI 1,au⟩ fun ac ag ae ab aa=> ?_);obtain ⟨e2,e3,e7,e8,e91⟩:=aa.k5 e2 e3 e7 e8 e91;have e9:=aa.V 2;replace r0:=aa.O 0;replace r1:=aa.O 1;refine wp_seq ?_;refine rg [_,_,_,_,_,_,_,_,_,_,_,_,_,_,_,_] [0,1,3,7,7,31,63,127,7,7,519,1799,3847,7943,16383,32767] ab [jo r0,jo r1] ⟨ak e9,ao fun c=>jm rfl (c.q 0) rfl,bm 1,ay 2 rfl fun c hpc=>aM rfl (c.p e3),ay 2 rfl fun c hpc=>aM rfl (c.p e8),ay 2 rfl fun c hpc=>aL rfl aH aK (c.M 3 hpc) r0.isSl (c.M 4 hpc) (by have hq0:=bt hpc;omega) (by have hq0:=bt hpc;omega),ay 2 rfl fun c hpc=>cM rfl bE bu (c.M 5 hpc),ay 2 rfl fun c hpc=>aB rfl bP (c.M 6 hpc) (((c.io 0 rfl).1.sl).elem (j:=0) (bh (i:=(m:Int)) (by have hq0:=bt hpc;omega) (by have hq0:=bt hpc;omega)) rfl),ay 2 rfl fun c hpc=>aM rfl (c.p e7),ay 2 rfl fun c hpc=>aM rfl (c.p e9),ay 2 rfl fun c hpc=>fv rfl (c.M 9 hpc) rfl (by have hq0:=bt hpc;omega),ay 2 rfl fun c hpc=>aL rfl aH aK (c.M 8 hpc) r1.isSl (c.M 10 hpc) (by have hq0:=bt hpc;omega) (by have hq0:=bt hpc;omega),ay 2 rfl fun c hpc=>cM rfl bE bu (c.M 11 hpc),ay 2 rfl fun c hpc=>aB rfl bP (c.M 12 hpc) (((c.io 1 rfl).1.sl).elem (j:=1) (bh (i:=((eK ((cr ex (xs.filter dJ)).take m)).length:Int) - 1) (by have hq0:=bt hpc;omega) (by have hq0:=bt hpc;omega)) rfl),ay 2 rfl fun c hpc=>pw rfl (c.M 7 hpc) (c.M 13 hpc),bC 2 14,au⟩ fun ac ag ae ab aa=> ?_;obtain ⟨e2,e3,e7,e8,e9,e91⟩:=aa.k6 e2 e3 e7 e8 e9 e91;have e111:=aa.V 15;replace r0:=aa.O 0;replace r1:=aa.O 1;refine wp_cond_split e111 (fun hc5=> ?_) (fun hc5=> ?_)
   · have hd5:=hc5;try simp only [am,ah] at hd5
     refine rg [_,_,_,_,_,_,_,_,_,_,_,_,_,_,_,_,_,own _ _ _ 1 7 _] [0,0,2,0,0,16,56,120,248,0,0,1536,3584,7680,16376,32767,65535,131071] ab [jo r0,jo r1] ⟨ak e7,ak e9,ao fun c=>fv rfl (c.q 1) rfl (by omega),ak e7,ak e9,ao fun c=>fv rfl (c.q 4) rfl (by omega),ao fun c=>aL rfl aH aK (c.q 3) r1.isSl (c.q 5) (by omega) (by omega),cf bE bu 6 rfl,ao fun c=>aB rfl bP (c.q 7) (((c.io 1 rfl).1.sl).elem (j:=1) (bh (i:=((eK ((cr ex (xs.filter dJ)).take m)).length:Int) - 1) (by omega) (by omega)) rfl),ak e3,ak e8,ao fun c=>aL rfl aH aK (c.q 9) r0.isSl (c.q 10) (by omega) (by omega),cf bE bu 11 rfl,ao fun c=>aB rfl bP (c.q 12) (((c.io 0 rfl).1.sl).elem (j:=1) (bh (i:=(m:Int)) (by omega) (by omega)) rfl),ao fun c=>zz rfl (c.q 8) (c.q 13),ao fun c=>aL rfl aH aK (c.q 0) r1.isSl (c.q 2) (by omega) (by omega),cf bE bu 15 rfl,fN (E:=dQ) (i:=(((eK ((cr ex (xs.filter dJ)).take m)).length:Int) - 1).toNat) (off:=1) (u:=(aR (oM ((nth (eK ((cr ex (xs.filter dJ)).take m)) (((eK ((cr ex (xs.filter dJ)).take m)).length:Int) - 1)).2) ((nth (cr ex (xs.filter dJ)) (m:Int)).2)))) (x:=nth (eK ((cr ex (xs.filter dJ)).take m)) (((eK ((cr ex (xs.filter dJ)).take m)).length:Int) - 1)) (x':=((nth (eK ((cr ex (xs.filter dJ)).take m)) (((eK ((cr ex (xs.filter dJ)).take m)).length:Int) - 1)).1,oM ((nth (eK ((cr ex (xs.filter dJ)).take m)) (((eK ((cr ex (xs.filter dJ)).take m)).length:Int) - 1)).2) ((nth (cr ex (xs.filter dJ)) (m:Int)).2))) rfl rfl rfl rfl bu (bh (by omega) (by (try simp only [cq]);omega)) (ar rfl) (by simp [Value.cells,Value.oneCell',Sv.v]) rfl (fun _ a_ _ _ c=>⟨c.ip 1 rfl e7,c.ad (c.n 16 rfl) e7 (by rw [add_add];rfl),(c.n 14 rfl)⟩),au⟩ fun ac ag ae ab aa=> ?_;obtain ⟨e2,e3,e7,e8,e9,e91,e111⟩:=aa.k7 e2 e3 e7 e8 e9 e91 e111;replace r0:=aa.O 0;replace r1:=aa.ro 17 e7 rfl;show _;refine fa ab [jo r0,jo r1] ⟨ak e8,ao fun c=>cp rfl (c.q 0) rfl (by omega),aI 1,au⟩ fun ac ag ae ab aa=> ?_;obtain ⟨e2,e3,e7,e9,e91,e111⟩:=aa.k6 e2 e3 e7 e9 e91 e111;have e8:=aa.V 2;replace r0:=aa.O 0;replace r1:=aa.O 1;refine ⟨⟨m+1,u,ae,?_,ab,e7,(e8.trans (aZ (by omega))),e2,e3,?_,r0⟩,?_⟩
     · omega
     · exact r1.cast (by first | exact nI (by omega) (pd (by assumption)) | exact mO (by omega) (pd (by assumption)))
     · simp only [m8,e8,intOf];omega
   have hd5:=hc5;try simp only [aG,ai,aP] at hd5
   refine rg [_,_,_,_,_,own dQ 47 _ 2 134 ([(nth (cr ex (xs.filter dJ)) (m:Int))]),own _ _ _ 1 135 _,own _ _ _ 1 7 _] [0,0,0,6,14,30,63,127] ab [jo r0,jo r1] ⟨ak e7,ak e3,ak e8,ao fun c=>aL rfl aH aK (c.q 1) r0.isSl (c.q 2) (by omega) (by omega),ao fun c=>cN (vs:=[(aR ((nth (cr ex (xs.filter dJ)) (m:Int)).1)),(aR ((nth (cr ex (xs.filter dJ)) (m:Int)).2))]) rfl cI aK (c.q 3) rfl (fun _ _ hj=>((c.io 0 rfl).1.sl).elem (bh (i:=(m:Int)) (by omega) (by omega)) hj),cQ (cells:=#[(aR ((nth (cr ex (xs.filter dJ)) (m:Int)).1)),(aR ((nth (cr ex (xs.filter dJ)) (m:Int)).2))]) rfl rfl rfl rfl aH aK cm rfl (by decide) (by decide) (fun _ _ _ _ c=>gb (c.n 4 rfl) (by kernel_rfl)) rfl,eO (t0:=7) rfl rfl rfl rfl aH (i:=Try.t47) rfl rfl rfl rfl (by simp only [maxLen];(try simp);omega) (by show _ * 32≤_;(try simp);omega) (fun _ _ _ _ c=>⟨c.ip 1 rfl e7,c.sm (c.n 0 rfl) e7,⟨_,rfl,(c.ro 5 rfl).1.sl⟩⟩),dO (t0:=135) rfl rfl rfl rfl rfl (.inr rfl) (fun _ _ _ _ c=>⟨c.ro 6 rfl,rfl⟩),au⟩ fun ac ag ae ab aa=> ?_;obtain ⟨b23x134,e134⟩:=gx ac 134;obtain ⟨b23x7,e7⟩:=gx ac 7;obtain ⟨e2,e3,e8,e9,e91,e111⟩:=aa.k6 e2 e3 e8 e9 e91 e111;replace r0:=aa.O 0;replace r1:=aa.ro 7 e7 rfl;have r2:=aa.ro 5 e134 rfl;show _;refine fa ab [jo r0,jo r1,jo r2] ⟨ak e8,ao fun c=>cp rfl (c.q 0) rfl (by omega),aI 1,au⟩ fun ac ag ae ab aa=> ?_;obtain ⟨e2,e3,e7,e9,e91,e111⟩:=aa.k6 e2 e3 e7 e9 e91 e111;have e8:=aa.V 2;replace r0:=aa.O 0;replace r1:=aa.O 1;replace r2:=aa.O 2;refine ⟨⟨m+1,b23x7,ae,?_,ab,e7,(e8.trans (aZ (by omega))),e2,e3,?_,r0⟩,?_⟩
   · omega
   · exact r1.cast (by first | exact nI (by omega) (pd (by assumption)) | exact mO (by omega) (pd (by assumption)))
   · simp only [m8,e8,intOf];omega
 try simp only [ai,aP] at hc4
 refine wp_exit ?_;repeat (with_reducible refine bU ?_)
 refine bY ?_;refine wp_seq (eL ab [jo r0,jo r1] ⟨ak e7,aI 0,au⟩ fun ac ag ae ab aa=> ?_);have e2:=aa.V 1;replace r1:=aa.O 1;refine wp_ret ?_;refine rp ?_;refine cO (fn:=Try.f89) rfl ab.defers e2 ?_;replace r1:=r1.cast (show br xs=_ from by rw [br,bz (l:=(cr ex (xs.filter dJ))) (by omega)]);exact ⟨_,rfl,ab.ext0,r1.1,fun g_ h_=>(ab.bnd _ g_ (r1.2 g_ h_)).1⟩
set_option maxRecDepth 100000 in
theorem Es (v:Value) (xs:List (ByteArray × ByteArray)) (s:ByteArray) (w:World) (hS:SlT dQ w v xs):Calls Try.prog 29 #[v,(aR s)] w (fun e w'=>e= .returned (aD (zf xs s))∧Ext bk w w'):=by
 refine enter (n:=24) Try.func29 rfl rfl (ar rfl) ?_;intro a0 τ0 ha st0;obtain ⟨e0,e1⟩:=qp ha;have hle:=hS.le;refine wp_seq (eM st0 [] ⟨ao fun c=>aw rfl rfl,au⟩ fun ac ag ae ab aa=> ?_);obtain ⟨e0,e1⟩:=aa.k2 e0 e1;have e4:=aa.V 0;refine wp_seq ?_;refine wp_seq (nX [0,1,0] ab [] ⟨ak e0,ao fun c=>dh rfl aH (c.q 0) hS.sl,ao fun c=>aM rfl rfl,au⟩ fun ac ag ae ab aa=> ?_);obtain ⟨e1,e4⟩:=aa.k2 e1 e4;have e7:=aa.V 0;have e8:=aa.V 1;have e9:=aa.V 2;refine wp_block ?_;refine wp_loop (fun a_ w_=>∃(k:Nat) (τ:Nat→aX),(k≤xs.length)∧
      (∀i < k,(pY (nth xs ((i:Nat):Int)).1 s&&pY s (nth xs ((i:Nat):Int)).2)=false)∧
      St (Nw w) w 24 a_ w_ τ∧
      aU a_ 9=(aj (k:Int))∧
      aU a_ 1=(aR s)∧
      aU a_ 7=v∧
      aU a_ 8=(aj (xs.length:Int))) (fun a_ _=>xs.length - (intOf (aU a_ 9)).toNat) ?_ ?_
 · refine ⟨0,ae,?_,?_,ab,(e9.trans (aZ (by omega))),e1,e7,e8⟩
   · omega
   · intro i hi;omega
 intro a3 w3 hI;obtain ⟨k,τ3,q0,q1,st3,e9,e1,e7,e8⟩:=hI;have m9:=e9;refine wp_seq (eM st3 [] ⟨ao fun c=>ci rfl (c.p e9) (c.p e8),au⟩ fun ac ag ae ab aa=> ?_);obtain ⟨e1,e7,e8,e9⟩:=aa.k4 e1 e7 e8 e9;have e10:=aa.V 0;refine wp_seq ?_;refine wp_cond_split e10 (fun hc1=> ?_) (fun hc1=> ?_)
 · try simp only [ah] at hc1
   refine wp_skip ?_;refine wp_seq ?_;refine wp_block ?_;refine wp_seq (rg [_,_,box _ _ 0 6 [(aR (⟨#[]⟩:ByteArray)),(aR (⟨#[]⟩:ByteArray))],_] [0,1,0,7] ab [] ⟨ao fun c=>aL rfl aH aK (c.p e7) hS.sl (c.p e9) (by omega) (by omega),ao fun c=>cN (vs:=[(aR ((nth xs (k:Int)).1)),(aR ((nth xs (k:Int)).2))]) rfl cI aK (c.q 0) rfl (fun _ _ hj=>(hS.at (ab.ext.trans c.J.ext)).elem (bh (i:=(k:Int)) (by omega) (by omega)) hj),cC rfl rfl rfl rfl cm rfl,gp (cx:=[(aR ((nth xs (k:Int)).1)),(aR ((nth xs (k:Int)).2))]) (off:=0) rfl aK fun c=>⟨c.rb 2 rfl,(c.rb 2 rfl).ptr,(c.q 1)⟩,au⟩ fun ac ag ae ab aa=> ?_);obtain ⟨b5x6,e6⟩:=gx ac 6;obtain ⟨e1,e7,e8,e9,e10⟩:=aa.k5 e1 e7 e8 e9 e10;have r0:=aa.rb 3 e6 rfl;refine wp_seq (vQ [0,1,0,7,15,31,31,95,255,511] ab [jb r0] ⟨cy bE bu e6 r0.ptr,fk bP 0 0 0,ak e1,ao fun c=>pw rfl (c.q 1) (c.q 2),bm 3,ay 4 rfl fun c hpc=>aM rfl (c.p e1),ay 4 rfl fun c hpc=>cM rfl bE bu ((c.p e6).trans r0.ptr),ay 4 rfl fun c hpc=>aB rfl bP (c.M 6 hpc) ((c.B 0).cell (j:=1) rfl),ay 4 rfl fun c hpc=>pw rfl (c.M 5 hpc) (c.M 7 hpc),bC 4 8,au⟩ fun ac ag ae ab aa=> ?_);obtain ⟨e1,e6,e7,e8,e9,e10⟩:=aa.k6 e1 e6 e7 e8 e9 e10;have e22:=aa.V 9;replace r0:=aa.B 0;refine wp_cond_split e22 (fun hc2=> ?_) (fun hc2=> ?_)
   · have hd2:=hc2;try simp only [am] at hd2
     refine wp_seq (eM ab [jb r0] ⟨ao fun c=>aw rfl rfl,au⟩ fun ac ag ae ab aa=> ?_);obtain ⟨e1,e6,e7,e8,e9,e10,e22⟩:=aa.k7 e1 e6 e7 e8 e9 e10 e22;have e4:=aa.V 0;replace r0:=aa.B 0;refine wp_ret ?_;refine rp ?_;refine cO (fn:=Try.f29) rfl ab.defers e4 ?_;exact ⟨congrArg _ (congrArg _ (by exact (Cl (k:=k) (by omega) (by assumption)).symm)),ab.ext0⟩
   have hd2:=hc2;try simp only [aG] at hd2
   refine wp_skip ?_;show _;refine eL ab [jb r0] ⟨ao fun c=>cp rfl (c.p e9) rfl (by omega),bm 0,au⟩ fun ac ag ae ab aa=> ?_;obtain ⟨e1,e6,e7,e8,e10,e22⟩:=aa.k6 e1 e6 e7 e8 e10 e22;have e9:=aa.V 1;replace r0:=aa.B 0;refine ⟨⟨k+1,ae,?_,?_,ab,(e9.trans (aZ (by omega))),e1,e7,e8⟩,?_⟩
   · omega
   · exact sJ (f:=fun i=>(pY (nth xs i).1 s&&pY s (nth xs i).2)) q1 (by assumption)
   · simp only [m9,e9,intOf];omega
 try simp only [ai,aP] at hc1
 refine wp_exit ?_;repeat (with_reducible refine bU ?_)
 refine bY ?_;refine wp_seq (eM ab [] ⟨ao fun c=>aw rfl rfl,au⟩ fun ac ag ae ab aa=> ?_);have e4:=aa.V 0;refine wp_ret ?_;refine rp ?_;refine cO (fn:=Try.f29) rfl ab.defers e4 ?_;exact ⟨congrArg _ (congrArg _ (by exact (Ea (k:=k) (by omega) q1).symm)),ab.ext0⟩
set_option maxRecDepth 100000 in
theorem rW (n:Int) (w:World):Calls Try.prog 91 #[.int .u8 n] w (fun e w'=>∃v',e= .returned (.tuple #[v',aD (gY n)])∧Ext bk w w'∧oI dQ 47 w w' v' (gl n)):=by
 refine enter (n:=21) Try.func91 rfl rfl (ar rfl) ?_;intro a0 τ0 ha st0;have e0:=nf ha;refine wp_seq (eL st0 [] ⟨ao fun c=>aw rfl rfl,ao fun c=>aw rfl rfl,au⟩ fun ac ag ae ab aa=> ?_);replace e0:=aa.k1 e0;have e2:=aa.V 0;have e3:=aa.V 1;refine wp_seq ?_;refine wp_seq (eM ab [] ⟨ak e0,au⟩ fun ac ag ae ab aa=> ?_);obtain ⟨e2,e3⟩:=aa.k2 e2 e3;have e4:=aa.V 0;refine wp_block ?_;refine wp_seq (eL ab [] ⟨ao fun c=>cF rfl (c.p e4) rfl,aI 0,au⟩ fun ac ag ae ab aa=> ?_);obtain ⟨e2,e3,e4⟩:=aa.k3 e2 e3 e4;have e5:=aa.V 1;refine wp_cond_split e5 (fun hc1=> ?_) (fun hc1=> ?_)
 · try simp only [ah] at hc1
   refine wp_seq (rg [_,own dQ 47 _ 0 8 ([((⟨#[48]⟩:ByteArray),(⟨#[57]⟩:ByteArray))]),own _ _ _ 0 2 _,_] [0,1,3,7] ab [] ⟨ao fun c=>oO (cells:=#[(aR (⟨#[48]⟩:ByteArray)),(aR (⟨#[57]⟩:ByteArray))]) rfl cm (iJ rfl rfl rfl),cQ (cells:=#[(aR (⟨#[48]⟩:ByteArray)),(aR (⟨#[57]⟩:ByteArray))]) rfl rfl rfl rfl aH aK cm rfl (by decide) (by decide) (fun _ _ _ _ c=>gb (c.n 0 rfl) (by kernel_rfl)) rfl,dO (t0:=8) rfl rfl rfl rfl rfl (.inr rfl) (fun _ _ _ _ c=>⟨c.ro 1 rfl,rfl⟩),ao fun c=>aw rfl rfl,au⟩ fun ac ag ae ab aa=> ?_);obtain ⟨b4x2,e2⟩:=gx ac 2;replace e4:=aa.k1 e4;have e3:=aa.V 3;have r0:=aa.ro 2 e2 rfl;refine wp_ret ?_;refine rp ?_;refine la (fn:=Try.f91) rfl ab.defers e2 e3 ?_;obtain ⟨k1,k2⟩:=(by first | exact pO (by assumption) | exact pP (by assumption) | exact pQ (by assumption):gl n=[((⟨#[48]⟩:ByteArray),(⟨#[57]⟩:ByteArray))]∧gY n=true);rw [k1,k2];exact ⟨_,rfl,ab.ext0,r0.1,fun g_ h_=>(ab.bnd _ g_ (r0.2 g_ h_)).1⟩
 try simp only [ai] at hc1
 refine wp_seq (eL ab [] ⟨ao fun c=>cF rfl (c.p e4) rfl,aI 0,au⟩ fun ac ag ae ab aa=> ?_);obtain ⟨e2,e3,e4⟩:=aa.k3 e2 e3 e4;have e9:=aa.V 1;refine wp_cond_split e9 (fun hc2=> ?_) (fun hc2=> ?_)
 · try simp only [ah] at hc2
   refine wp_seq (rg [_,_,_,_,own dQ 47 _ 0 15 ([((⟨#[48]⟩:ByteArray),(⟨#[57]⟩:ByteArray)),((⟨#[65]⟩:ByteArray),(⟨#[90]⟩:ByteArray)),((⟨#[95]⟩:ByteArray),(⟨#[95]⟩:ByteArray)),((⟨#[97]⟩:ByteArray),(⟨#[122]⟩:ByteArray))]),own _ _ _ 0 2 _,_] [0,0,0,0,15,31,63] ab [] ⟨ao fun c=>oO (cells:=#[(aR (⟨#[48]⟩:ByteArray)),(aR (⟨#[57]⟩:ByteArray))]) rfl cm (iJ rfl rfl rfl),ao fun c=>oO (cells:=#[(aR (⟨#[65]⟩:ByteArray)),(aR (⟨#[90]⟩:ByteArray))]) rfl cm (iJ rfl rfl rfl),ao fun c=>oO (cells:=#[(aR (⟨#[95]⟩:ByteArray)),(aR (⟨#[95]⟩:ByteArray))]) rfl cm (iJ rfl rfl rfl),ao fun c=>oO (cells:=#[(aR (⟨#[97]⟩:ByteArray)),(aR (⟨#[122]⟩:ByteArray))]) rfl cm (iJ rfl rfl rfl),cQ (cells:=#[(aR (⟨#[48]⟩:ByteArray)),(aR (⟨#[57]⟩:ByteArray)),(aR (⟨#[65]⟩:ByteArray)),(aR (⟨#[90]⟩:ByteArray)),(aR (⟨#[95]⟩:ByteArray)),(aR (⟨#[95]⟩:ByteArray)),(aR (⟨#[97]⟩:ByteArray)),(aR (⟨#[122]⟩:ByteArray))]) rfl rfl rfl rfl aH aK cm rfl (by decide) (by decide) (fun _ _ _ _ c=>Dr (c.n 0 rfl) (c.n 1 rfl) (c.n 2 rfl) (c.n 3 rfl) (by kernel_rfl)) rfl,dO (t0:=15) rfl rfl rfl rfl rfl (.inr rfl) (fun _ _ _ _ c=>⟨c.ro 4 rfl,rfl⟩),ao fun c=>aw rfl rfl,au⟩ fun ac ag ae ab aa=> ?_);obtain ⟨b6x2,e2⟩:=gx ac 2;replace e4:=aa.k1 e4;have e3:=aa.V 6;have r0:=aa.ro 5 e2 rfl;refine wp_ret ?_;refine rp ?_;refine la (fn:=Try.f91) rfl ab.defers e2 e3 ?_;obtain ⟨k1,k2⟩:=(by first | exact pO (by assumption) | exact pP (by assumption) | exact pQ (by assumption):gl n=[((⟨#[48]⟩:ByteArray),(⟨#[57]⟩:ByteArray)),((⟨#[65]⟩:ByteArray),(⟨#[90]⟩:ByteArray)),((⟨#[95]⟩:ByteArray),(⟨#[95]⟩:ByteArray)),((⟨#[97]⟩:ByteArray),(⟨#[122]⟩:ByteArray))]∧gY n=true);rw [k1,k2];exact ⟨_,rfl,ab.ext0,r0.1,fun g_ h_=>(ab.bnd _ g_ (r0.2 g_ h_)).1⟩
 try simp only [ai] at hc2
 refine wp_seq (eL ab [] ⟨ao fun c=>cF rfl (c.p e4) rfl,aI 0,au⟩ fun ac ag ae ab aa=> ?_);obtain ⟨e2,e3⟩:=aa.k2 e2 e3;have e16:=aa.V 1;refine wp_cond_split e16 (fun hc3=> ?_) (fun hc3=> ?_)
 · try simp only [ah] at hc3
   refine wp_seq (rg [_,_,own dQ 47 _ 0 20 ([((⟨#[9]⟩:ByteArray),(⟨#[13]⟩:ByteArray)),((⟨#[32]⟩:ByteArray),(⟨#[32]⟩:ByteArray))]),own _ _ _ 0 2 _,_] [0,0,3,7,15] ab [] ⟨ao fun c=>oO (cells:=#[(aR (⟨#[9]⟩:ByteArray)),(aR (⟨#[13]⟩:ByteArray))]) rfl cm (iJ rfl rfl rfl),ao fun c=>oO (cells:=#[(aR (⟨#[32]⟩:ByteArray)),(aR (⟨#[32]⟩:ByteArray))]) rfl cm (iJ rfl rfl rfl),cQ (cells:=#[(aR (⟨#[9]⟩:ByteArray)),(aR (⟨#[13]⟩:ByteArray)),(aR (⟨#[32]⟩:ByteArray)),(aR (⟨#[32]⟩:ByteArray))]) rfl rfl rfl rfl aH aK cm rfl (by decide) (by decide) (fun _ _ _ _ c=>iJ (c.n 0 rfl) (c.n 1 rfl) (by kernel_rfl)) rfl,dO (t0:=20) rfl rfl rfl rfl rfl (.inr rfl) (fun _ _ _ _ c=>⟨c.ro 2 rfl,rfl⟩),ao fun c=>aw rfl rfl,au⟩ fun ac ag ae ab aa=> ?_);obtain ⟨b8x2,e2⟩:=gx ac 2;have e3:=aa.V 4;have r0:=aa.ro 3 e2 rfl;refine wp_ret ?_;refine rp ?_;refine la (fn:=Try.f91) rfl ab.defers e2 e3 ?_;obtain ⟨k1,k2⟩:=(by first | exact pO (by assumption) | exact pP (by assumption) | exact pQ (by assumption):gl n=[((⟨#[9]⟩:ByteArray),(⟨#[13]⟩:ByteArray)),((⟨#[32]⟩:ByteArray),(⟨#[32]⟩:ByteArray))]∧gY n=true);rw [k1,k2];exact ⟨_,rfl,ab.ext0,r0.1,fun g_ h_=>(ab.bnd _ g_ (r0.2 g_ h_)).1⟩
 try simp only [ai] at hc3
 refine wp_skip ?_;show _;refine wp_seq (eL ab [] ⟨ao fun c=>aw rfl rfl,ao fun c=>aw rfl rfl,au⟩ fun ac ag ae ab aa=> ?_);have e2:=aa.V 0;have e3:=aa.V 1;refine wp_ret ?_;refine rp ?_;refine la (fn:=Try.f91) rfl ab.defers e2 e3 ?_;obtain ⟨k1,k2⟩:=AT (n:=n) (by assumption) (by assumption) (by assumption);rw [k1,k2];exact ⟨_,rfl,ab.ext0,fI.nil _ _ _,fun g_ h_=>by simp [Value.ownBlock] at h_⟩
end
section
open Go.RowKit
open Srt
theorem dg.sn {α:Type} {E:Enc α} {ty:Nat} {xs:List α} {T:aX} {v:Value} {w W:World} (h:dg E ty xs T v w) (hT:∀g,T g→W.heap.size≤g):SlT E w v xs∧(xs≠ []→W.heap.size≤(dF v).block):=⟨h.1.sl,fun hn=>hT _ (h.blk hn)⟩
set_option maxRecDepth 100000 in
theorem AU (v:Value) (cv:Sv) (cs:List ByteArray) (i:Nat) (w:World) (hR:RdR 73 v cv cs i w) (hL:mS cs) (hi:i≤cs.length+5):Calls Try.prog 88 #[v] w (fun e w'=>∃b:Sv,e= .returned (.tuple #[b.v,aR (bB cs i).2.1,aD (bB cs i).2.2.1])∧Ext (bZ v) w w'∧cE 73 [cv.v,aj (((bB cs i).2.2.2:Nat):Int)] (bZ v) v w'∧SlT dQ w' b.v (bB cs i).1∧((bB cs i).1≠ []→w.heap.size≤(dF b.v).block)):=by
 refine eD (bZ v) (fun g hg=>hR.box.lt g hg) (n:=62) Try.func88 rfl rfl (ar rfl) ?_;intro a0 τ0 ha hτ st0;have e0:=nf ha;have hL1:=hL.1;have r0:cE 73 [cv.v,aj ((i:Nat):Int)] (τ0 0) v w:=by rw [hτ];exact hR.box
 have r9:Fz (fL gN Al cv.v cs) τ0 w:=hR.inz st0;refine wp_seq (fa st0 [jb r0,jz 9 r9] ⟨ao fun c=>aw rfl rfl,ao fun c=>aw rfl rfl,ao fun c=>aw rfl rfl,au⟩ fun ac ag ae ab aa=> ?_);replace e0:=aa.k1 e0;have e2:=aa.V 0;have e3:=aa.V 1;have e4:=aa.V 2;replace r0:=aa.B 0;replace r9:=aa.z1 9;refine wp_seq (fa ab [jb r0,jz 9 r9] ⟨ak e0,ey fun c=>⟨_,_,(bI rfl rfl fW (c.q 0)),mq v cv cs i _ (kq (c.B 0) (c.iz 9 rfl) (fun g_ h_ hz_=>hz_.2 _ h_))⟩,aI 1,au⟩ fun ac ag ae ab aa=> ?_);obtain ⟨e0,e2,e3,e4⟩:=aa.k4 e0 e2 e3 e4;have e5:=aa.V 2;replace r0:=aa.B 0;replace r9:=aa.z1 9;refine wp_seq ?_;refine wp_seq (EW ab [jb r0,jz 9 r9] ⟨ak e5,ao fun c=>gy rfl (c.q 0) rfl,bm 1,bR 2 rfl fun c hpc=>aM rfl (c.p e5),bR 2 rfl fun c hpc=>gy rfl (c.M 3 hpc) rfl,eB 2 4,au⟩ fun ac ag ae ab aa=> ?_);obtain ⟨e0,e2,e3,e4,e5⟩:=aa.k5 e0 e2 e3 e4 e5;have e17:=aa.V 5;replace r0:=aa.B 0;replace r9:=aa.z1 9;refine wp_cond_split e17 (fun hc1=> ?_) (fun hc1=> ?_)
 · have hd1:=hc1;try simp only [be] at hd1
   refine wp_seq (fa ab [jb r0,jz 9 r9] ⟨ao fun c=>aw rfl rfl,ao fun c=>aw rfl rfl,ao fun c=>aw rfl rfl,au⟩ fun ac ag ae ab aa=> ?_);obtain ⟨e0,e5⟩:=aa.k2 e0 e5;have e2:=aa.V 0;have e3:=aa.V 1;have e4:=aa.V 2;replace r0:=aa.B 0;replace r9:=aa.z1 9;refine wp_ret ?_;refine rp ?_;refine tS (fn:=Try.f88) rfl ab.defers e2 e3 e4 ?_;have he_:bB cs i=([],(⟨#[]⟩:ByteArray),false,i):=by unfold bB;(repeat (first | rw [if_neg (by first | assumption | (simp only [aQ];assumption) | (simp only [aV];assumption))] | rw [if_pos (by assumption)]));(try rfl)
   rw [he_];exact ⟨Sv.nil,rfl,ab.extIn,r0.foot,SlT.nil _ _,fun h=>absurd rfl h⟩
 have hd1:=hc1;try simp only [aS] at hd1
 refine wp_skip ?_;refine wp_seq ?_;have hlt_:i < cs.length:=by
   have h_:(iH (ct cs i) (⟨#[]⟩:ByteArray) || iH (ct cs i) (⟨#[93]⟩:ByteArray))=false:=by assumption
   rw [aS] at h_;exact mQ h_.1
 refine yg ab [jb r0,jz 9 r9] ⟨ak e0,cK 0 r0.ptr,cf ba ax 1 r0.ptr,fk aF 2 0 1,ao fun c=>cp rfl (c.q 3) rfl (by omega),cK 0 r0.ptr,cf ba ax 5 r0.ptr,cu (cx:=[cv.v,(aj (((i:Nat):Int)+1))]) ax fun c=>⟨c.bp 0 rfl e0,c.ad (c.q 6) e0 rfl,(c.q 4)⟩,au⟩ fun ac ag ae ab aa=> ?_;obtain ⟨e0,e2,e3,e4,e5⟩:=aa.k5 e0 e2 e3 e4 e5;replace r0:=aa.RB 7 e0;replace r9:=aa.z1 9;replace r0:cE 73 [cv.v,aj ((i+1:Nat):Int)] (ae 0) v ag:=by rw [show ((i+1:Nat):Int)=((i:Nat):Int)+1 from by omega];exact r0
 refine wp_seq ?_;refine wp_seq (eL ab [jb r0,jz 9 r9] ⟨ak e5,ao fun c=>lL rfl (c.q 0) rfl,au⟩ fun ac ag ae ab aa=> ?_);obtain ⟨e0,e2,e3,e4,e5⟩:=aa.k5 e0 e2 e3 e4 e5;have e26:=aa.V 1;replace r0:=aa.B 0;replace r9:=aa.z1 9;refine wp_cond_split e26 (fun hc2=> ?_) (fun hc2=> ?_)
 · try simp only [aA,av] at hc2
   refine wp_seq (lc [0,0,3,7] ab [jb r0,jz 9 r9] ⟨ak e5,ao fun c=>aw rfl rfl,aI 0,ao fun c=>aw rfl rfl,au⟩ fun ac ag ae ab aa=> ?_);obtain ⟨e0,e5⟩:=aa.k2 e0 e5;have e2:=aa.V 1;have e3:=aa.V 2;have e4:=aa.V 3;replace r0:=aa.B 0;replace r9:=aa.z1 9;refine wp_ret ?_;refine rp ?_;refine tS (fn:=Try.f88) rfl ab.defers e2 e3 e4 ?_;have he_:bB cs i=([],ct cs i,true,i+1):=by unfold bB;(repeat (first | rw [if_neg (by first | assumption | (simp only [aQ];assumption) | (simp only [aV];assumption))] | rw [if_pos (by assumption)]));(try rfl)
   rw [he_];exact ⟨Sv.nil,rfl,ab.extIn,r0.foot,SlT.nil _ _,fun h=>absurd rfl h⟩
 try simp only [aA,av] at hc2
 refine wp_skip ?_;refine wp_seq (fa ab [jb r0,jz 9 r9] ⟨ak e0,ey fun c=>⟨_,_,(bI rfl rfl fW (c.q 0)),mq v cv cs (i+1) _ (kq (c.B 0) (c.iz 9 rfl) (fun g_ h_ hz_=>hz_.2 _ h_))⟩,aI 1,au⟩ fun ac ag ae ab aa=> ?_);obtain ⟨e0,e2,e3,e4⟩:=aa.k4 e0 e2 e3 e4;have e5:=aa.V 2;replace r0:=aa.B 0;replace r9:=aa.z1 9;refine wp_seq ?_;refine wp_seq (fa ab [jb r0,jz 9 r9] ⟨ak e5,ao fun c=>jM rfl bH (c.q 0),ao fun c=>cF rfl (c.q 1) rfl,au⟩ fun ac ag ae ab aa=> ?_);obtain ⟨e0,e2,e3,e4,e5⟩:=aa.k5 e0 e2 e3 e4 e5;have e32:=aa.V 2;replace r0:=aa.B 0;replace r9:=aa.z1 9;refine wp_cond_split e32 (fun hc3=> ?_) (fun hc3=> ?_)
 · try simp only [ah] at hc3
   refine wp_seq (rg [_,_,tup _ _ _ 1 36 _ _,tup _ _ _ 1 33 _ _,own _ _ _ 1 37 _,_,own _ _ _ 1 6 _,_] [0,1,3,7,15,15,31,127] ab [jb r0,jz 9 r9] ⟨ak e5,ao fun c=>iO rfl bH (c.q 0) rfl (by omega) (by omega),vO rfl rfl rfl (fun _ a_ _ _ c=>⟨_,_,(bI rfl rfl Try.call91 (c.q 1)),rW (bS (ct cs (i+1)) 0) _⟩),dO (t0:=36) rfl rfl rfl rfl rfl (.inl rfl) (fun _ _ _ _ c=>⟨c.rtup 2 rfl rfl (by kernel_rfl),rfl⟩),zt (t0:=33) (k:=(aD (gY (bS (ct cs (i+1)) 0)))) rfl rfl rfl rfl (fun _ _ _ _ c=>c.rtup 3 rfl rfl (by kernel_rfl)),ao fun c=>c.part1 3 rfl rfl rfl,dO (t0:=37) rfl rfl rfl rfl rfl (.inr rfl) (fun _ _ _ _ c=>⟨c.ro 4 rfl,rfl⟩),aI 5,au⟩ fun ac ag ae ab aa=> ?_);obtain ⟨b10x6,e6⟩:=gx ac 6;obtain ⟨e0,e2,e3,e4,e5⟩:=aa.k5 e0 e2 e3 e4 e5;have e7:=aa.V 7;replace r0:=aa.B 0;have r1:=aa.ro 6 e6 rfl;replace r9:=aa.z1 9;refine wp_seq (eM ab [jb r0,jo r1,jz 9 r9] ⟨ak e7,au⟩ fun ac ag ae ab aa=> ?_);obtain ⟨e0,e2,e3,e4,e5,e6⟩:=aa.k6 e0 e2 e3 e4 e5 e6;have e39:=aa.V 0;replace r0:=aa.B 0;replace r1:=aa.O 1;replace r9:=aa.z1 9;refine wp_cond_split e39 (fun hc4=> ?_) (fun hc4=> ?_)
   · skip;refine wp_seq ?_;have hnm:(decide (((ct cs (i+1)).size:Int)=1)&&gY (bS (ct cs (i+1)) 0))=true:=by rw [am];exact ⟨decide_eq_true (by assumption),by assumption⟩
     refine yg ab [jb r0,jo r1,jz 9 r9] ⟨ak e0,cK 0 r0.ptr,cf ba ax 1 r0.ptr,fk aF 2 0 1,ao fun c=>cp rfl (c.q 3) rfl (by omega),cK 0 r0.ptr,cf ba ax 5 r0.ptr,cu (cx:=[cv.v,(aj (((i+1:Nat):Int)+1))]) ax fun c=>⟨c.bp 0 rfl e0,c.ad (c.q 6) e0 rfl,(c.q 4)⟩,au⟩ fun ac ag ae ab aa=> ?_;obtain ⟨e0,e2,e3,e4,e5,e6⟩:=aa.k6 e0 e2 e3 e4 e5 e6;replace r0:=aa.RB 7 e0;replace r1:=aa.O 1;replace r9:=aa.z1 9;replace r0:cE 73 [cv.v,aj ((i+2:Nat):Int)] (ae 0) v ag:=by rw [show ((i+2:Nat):Int)=((i+1:Nat):Int)+1 from by omega];exact r0
     refine wp_seq (BF ab [jb r0,jo r1,jz 9 r9] ⟨ak e6,aI 0,ao fun c=>aw rfl rfl,ao fun c=>aw rfl rfl,au⟩ fun ac ag ae ab aa=> ?_);obtain ⟨e0,e5⟩:=aa.k2 e0 e5;have e2:=aa.V 1;have e3:=aa.V 2;have e4:=aa.V 3;replace r0:=aa.B 0;replace r1:=aa.O 1;replace r9:=aa.z1 9;refine wp_ret ?_;refine rp ?_;refine tS (fn:=Try.f88) rfl ab.defers e2 e3 e4 ?_;have he_:bB cs i=(gl (bS (ct cs (i+1)) 0),(⟨#[]⟩:ByteArray),true,i+2):=by unfold bB;(repeat (first | rw [if_neg (by first | assumption | (simp only [aQ];assumption) | (simp only [aV];assumption))] | rw [if_pos (by assumption)]));(try rfl)
     rw [he_];obtain ⟨sv_,rfl⟩:=r1.isSl.sv;exact ⟨sv_,rfl,ab.extIn,r0.foot,r1.sn (fun g_ h_=>((ab.bnd _ g_ h_).1.resolve_left (fun hp_=>absurd (ab.disj _ _ g_ h_ (r0.own hp_)) (by decide))))⟩
   skip;refine wp_skip ?_;refine wp_seq ?_;have hnm:(decide (((ct cs (i+1)).size:Int)=1)&&gY (bS (ct cs (i+1)) 0))=false:=by rw [aG];first | (right;assumption) | (left;exact decide_eq_false (by assumption))
   refine tF [0,1,3,7,7,15,63] ab [jb r0,jo r1,jz 9 r9] ⟨ak e5,ey fun c=>⟨_,_,(bI rfl rfl oe (c.q 0)),xL (ct cs (i+1)) _⟩,bm 1,dP 2,dP 2,aI 3,aI 4,au⟩ fun ac ag ae ab aa=> ?_;obtain ⟨e0,e2,e3,e4⟩:=aa.k4 e0 e2 e3 e4;have e8:=aa.V 5;have e9:=aa.V 6;replace r0:=aa.B 0;replace r9:=aa.z1 9;refine wp_seq (yg ab [jb r0,jz 9 r9] ⟨ak e0,cK 0 r0.ptr,cf ba ax 1 r0.ptr,fk aF 2 0 1,ao fun c=>cp rfl (c.q 3) rfl (by omega),cK 0 r0.ptr,cf ba ax 5 r0.ptr,cu (cx:=[cv.v,(aj (((i+1:Nat):Int)+1))]) ax fun c=>⟨c.bp 0 rfl e0,c.ad (c.q 6) e0 rfl,(c.q 4)⟩,au⟩ fun ac ag ae ab aa=> ?_);obtain ⟨e0,e2,e3,e4,e8,e9⟩:=aa.k6 e0 e2 e3 e4 e8 e9;replace r0:=aa.RB 7 e0;replace r9:=aa.z1 9;replace r0:cE 73 [cv.v,aj ((i+2:Nat):Int)] (ae 0) v ag:=by rw [show ((i+2:Nat):Int)=((i+1:Nat):Int)+1 from by omega];exact r0
   refine wp_seq (zF [0,0,0,5,15] ab [jb r0,jz 9 r9] ⟨ak e8,ak e9,ao fun c=>aw rfl rfl,aI 0,aI 1,au⟩ fun ac ag ae ab aa=> ?_);replace e0:=aa.k1 e0;have e2:=aa.V 2;have e3:=aa.V 3;have e4:=aa.V 4;replace r0:=aa.B 0;replace r9:=aa.z1 9;refine wp_ret ?_;refine rp ?_;refine tS (fn:=Try.f88) rfl ab.defers e2 e3 e4 ?_;have he_:bB cs i=([],(fq (ct cs (i+1))).1,(fq (ct cs (i+1))).2,i+2):=by unfold bB;(repeat (first | rw [if_neg (by first | assumption | (simp only [aQ];assumption) | (simp only [aV];assumption))] | rw [if_pos (by assumption)]));(try rfl)
   rw [he_];exact ⟨Sv.nil,rfl,ab.extIn,r0.foot,SlT.nil _ _,fun h=>absurd rfl h⟩
 try simp only [ai] at hc3
 refine wp_skip ?_;refine wp_seq ?_;have hnm:(decide (((ct cs (i+1)).size:Int)=1)&&gY (bS (ct cs (i+1)) 0))=false:=by rw [aG];first | (right;assumption) | (left;exact decide_eq_false (by assumption))
 refine tF [0,1,3,7,7,15,63] ab [jb r0,jz 9 r9] ⟨ak e5,ey fun c=>⟨_,_,(bI rfl rfl oe (c.q 0)),xL (ct cs (i+1)) _⟩,bm 1,dP 2,dP 2,aI 3,aI 4,au⟩ fun ac ag ae ab aa=> ?_;obtain ⟨e0,e2,e3,e4⟩:=aa.k4 e0 e2 e3 e4;have e8:=aa.V 5;have e9:=aa.V 6;replace r0:=aa.B 0;replace r9:=aa.z1 9;refine wp_seq (yg ab [jb r0,jz 9 r9] ⟨ak e0,cK 0 r0.ptr,cf ba ax 1 r0.ptr,fk aF 2 0 1,ao fun c=>cp rfl (c.q 3) rfl (by omega),cK 0 r0.ptr,cf ba ax 5 r0.ptr,cu (cx:=[cv.v,(aj (((i+1:Nat):Int)+1))]) ax fun c=>⟨c.bp 0 rfl e0,c.ad (c.q 6) e0 rfl,(c.q 4)⟩,au⟩ fun ac ag ae ab aa=> ?_);obtain ⟨e0,e2,e3,e4,e8,e9⟩:=aa.k6 e0 e2 e3 e4 e8 e9;replace r0:=aa.RB 7 e0;replace r9:=aa.z1 9;replace r0:cE 73 [cv.v,aj ((i+2:Nat):Int)] (ae 0) v ag:=by rw [show ((i+2:Nat):Int)=((i+1:Nat):Int)+1 from by omega];exact r0
 refine wp_seq (zF [0,0,0,5,15] ab [jb r0,jz 9 r9] ⟨ak e8,ak e9,ao fun c=>aw rfl rfl,aI 0,aI 1,au⟩ fun ac ag ae ab aa=> ?_);replace e0:=aa.k1 e0;have e2:=aa.V 2;have e3:=aa.V 3;have e4:=aa.V 4;replace r0:=aa.B 0;replace r9:=aa.z1 9;refine wp_ret ?_;refine rp ?_;refine tS (fn:=Try.f88) rfl ab.defers e2 e3 e4 ?_;have he_:bB cs i=([],(fq (ct cs (i+1))).1,(fq (ct cs (i+1))).2,i+2):=by unfold bB;(repeat (first | rw [if_neg (by first | assumption | (simp only [aQ];assumption) | (simp only [aV];assumption))] | rw [if_pos (by assumption)]));(try rfl)
 rw [he_];exact ⟨Sv.nil,rfl,ab.extIn,r0.foot,SlT.nil _ _,fun h=>absurd rfl h⟩
end
section
open Go.RowKit
open Srt
theorem tf {c:ByteArray} (h:(c.size:Int)=1):((ge c).size:Int)=1:=by
  have h1:=ji c;have h2:(ge c).size=((bs c).map jC).length:=by
    show ((bs c).map jC).toArray.size=_;simp
  rw [h2,fC];omega
set_option maxRecDepth 100000 in
theorem Et (v:Value) (cv:Sv) (cs:List ByteArray) (i:Nat) (w:World) (hR:RdR 73 v cv cs i w) (hL:mS cs) (hi:i≤cs.length+5):Calls Try.prog 77 #[v] w (fun e w'=>∃t':Tr,e= .returned (.tuple #[t'.v,aj (gF cs i).2.1])∧Ext (bZ v) w w'∧cE 73 [cv.v,aj (((gF cs i).2.2:Nat):Int)] (bZ v) v w'∧TrT (Gn bk w) w' t'∧er t'=(gF cs i).1):=by
 refine eD (bZ v) (fun g hg=>hR.box.lt g hg) (n:=53) Try.func77 rfl rfl (ar rfl) ?_;intro a0 τ0 ha hτ st0;have e0:=nf ha;have hL1:=hL.1;have r0:cE 73 [cv.v,aj ((i:Nat):Int)] (τ0 0) v w:=by rw [hτ];exact hR.box
 have r9:Fz (fL gN Al cv.v cs) τ0 w:=hR.inz st0;refine wp_seq (rg [box _ _ 1 2 [(aj 0),(aR (⟨#[]⟩:ByteArray)),(aD false),(.slice none 0 0),(aj 0),(aj 0),(aD false),(.slice none 0 0)],_] [0,0] st0 [jb r0,jz 9 r9] ⟨cC rfl rfl rfl rfl aO rfl,ao fun c=>aw rfl rfl,au⟩ fun ac ag ae ab aa=> ?_);obtain ⟨b1x2,e2⟩:=gx ac 2;replace e0:=aa.k1 e0;have e3:=aa.V 1;replace r0:=aa.B 0;have r1:=aa.rb 0 e2 rfl;replace r9:=aa.z1 9;refine wp_seq (fa ab [jb r0,jb r1,jz 9 r9] ⟨ak e0,ey fun c=>⟨_,_,(bI rfl rfl fW (c.q 0)),mq v cv cs i _ (kq (c.B 0) (c.iz 9 rfl) (fun g_ h_ hz_=>hz_.2 _ h_))⟩,aI 1,au⟩ fun ac ag ae ab aa=> ?_);obtain ⟨e0,e2,e3⟩:=aa.k3 e0 e2 e3;have e4:=aa.V 2;replace r0:=aa.B 0;replace r1:=aa.B 1;replace r9:=aa.z1 9;refine wp_seq ?_;refine fa ab [jb r0,jb r1,jz 9 r9] ⟨ak e4,ey fun c=>⟨_,_,(bI rfl rfl Try.call90 (c.q 0)),yP (ct cs i) _ (by first | omega | (have h_:=tf (by assumption:((ct cs i).size:Int)=1);omega) | (have h_:=cL hL i;omega))⟩,aI 1,au⟩ fun ac ag ae ab aa=> ?_;obtain ⟨e0,e2,e3,e4⟩:=aa.k4 e0 e2 e3 e4;have e5:=aa.V 2;replace r0:=aa.B 0;replace r1:=aa.B 1;replace r9:=aa.z1 9;refine wp_seq ?_;refine wp_seq (fa ab [jb r0,jb r1,jz 9 r9] ⟨ak e4,ao fun c=>jM rfl bH (c.q 0),ao fun c=>cF rfl (c.q 1) rfl,au⟩ fun ac ag ae ab aa=> ?_);obtain ⟨e0,e2,e3,e4,e5⟩:=aa.k5 e0 e2 e3 e4 e5;have e16:=aa.V 2;replace r0:=aa.B 0;replace r1:=aa.B 1;replace r9:=aa.z1 9;refine wp_cond_split e16 (fun hc1=> ?_) (fun hc1=> ?_)
 · try simp only [ah] at hc1
   refine wp_seq ?_;refine bL ?_;refine dy 3 (by kernel_rfl) ?_;refine og [_,_,mB _ 20 (fun b:Sv=> .tuple #[b.v,aD (gY (bS (ge (ct cs i)) 0))]) (fun _=>True) (fun b:Sv=>fL dQ (Gn bk w) b.v (gl (bS (ge (ct cs i)) 0)))] [0,1,3] ab [jb r0,jb r1,jz 9 r9] ⟨ak e5,ao fun c=>iO rfl bH (c.q 0) rfl (by first | omega | (have h_:=tf (by assumption:((ct cs i).size:Int)=1);omega) | (have h_:=cL hL i;omega)) (by first | omega | (have h_:=tf (by assumption:((ct cs i).size:Int)=1);omega) | (have h_:=cL hL i;omega)),kj (f:=fun b:Sv=> .tuple #[b.v,aD (gY (bS (ge (ct cs i)) 0))]) (Ψ:=fun _=>True) (Φ:=fun b:Sv=>fL dQ (Gn bk w) b.v (gl (bS (ge (ct cs i)) 0))) fun {_ a_ _ _} c=>⟨_,_,(bI rfl rfl Try.call91 (c.q 1)),(rW (bS (ge (ct cs i)) 0) _).mono (fun e w' ⟨v_,he_,hx_,hn_⟩=>by obtain ⟨s_,rfl⟩:=hn_.1.sl.sl.sv;exact ⟨s_,he_,hx_,au,c.sn ab hx_ hn_⟩)⟩,au⟩ fun ac ag ae ab aa=> ?_;obtain ⟨e0,e2,e3,e4,e5⟩:=aa.k5 e0 e2 e3 e4 e5;obtain ⟨rw1_,e20,-,hz5⟩:=aa.zd 2 rfl;have e20:aU ac 20=(.tuple #[rw1_.v,(aD (gY (bS (ge (ct cs i)) 0)))]):=e20;replace r0:=aa.B 0;replace r1:=aa.B 1;replace r9:=aa.z1 9;have r2:=hz5;refine dA ?_;refine og [_,_,_,_,_] [0,1,3,7,15] ab [jb r0,jb r1,jz 2 r2,jz 9 r9] ⟨ak e20,dP 0,dP 0,aI 1,aI 2,au⟩ fun ac ag ae ab aa=> ?_;obtain ⟨e0,e2,e3,e4,e5⟩:=aa.k5 e0 e2 e3 e4 e5;have e6:=aa.V 3;have e7:=aa.V 4;replace r0:=aa.B 0;replace r1:=aa.B 1;obtain ⟨r2,r9⟩:=aa.z2 2 9;refine wp_seq (eM ab [jb r0,jb r1,jz 2 r2,jz 9 r9] ⟨ak e7,au⟩ fun ac ag ae ab aa=> ?_);obtain ⟨e0,e2,e3,e4,e5,e6⟩:=aa.k6 e0 e2 e3 e4 e5 e6;have e23:=aa.V 0;replace r0:=aa.B 0;replace r1:=aa.B 1;obtain ⟨r2,r9⟩:=aa.z2 2 9;refine wp_cond_split e23 (fun hc2=> ?_) (fun hc2=> ?_)
   · skip;refine wp_seq ?_;have hnm:(decide (((ct cs i).size:Int)=1)&&gY (bS (ge (ct cs i)) 0))=true:=by rw [am];exact ⟨decide_eq_true (by assumption),by assumption⟩
     have hlt_:i < cs.length:=gT (by assumption:((ct cs i).size:Int)=1)
     refine yg ab [jb r0,jb r1,jz 2 r2,jz 9 r9] ⟨ak e0,cK 0 r0.ptr,cf ba ax 1 r0.ptr,fk aF 2 0 1,ao fun c=>cp rfl (c.q 3) rfl (by first | omega | (have h_:=tf (by assumption:((ct cs i).size:Int)=1);omega) | (have h_:=cL hL i;omega)),cK 0 r0.ptr,cf ba ax 5 r0.ptr,cu (cx:=[cv.v,(aj (((i:Nat):Int)+1))]) ax fun c=>⟨c.bp 0 rfl e0,c.ad (c.q 6) e0 rfl,(c.q 4)⟩,au⟩ fun ac ag ae ab aa=> ?_;obtain ⟨e0,e2,e3,e4,e5,e6⟩:=aa.k6 e0 e2 e3 e4 e5 e6;replace r0:=aa.RB 7 e0;replace r1:=aa.B 1;obtain ⟨r2,r9⟩:=aa.z2 2 9;replace r0:cE 73 [cv.v,aj ((i+1:Nat):Int)] (ae 0) v ag:=by rw [show ((i+1:Nat):Int)=((i:Nat):Int)+1 from by omega];exact r0
     refine wp_seq (tF [0,0,0,6,15,31,63] ab [jb r0,jb r1,jz 2 r2,jz 9 r9] ⟨ak e6,ak e4,ak e5,ao fun c=>lL rfl (c.q 1) (c.q 2),ao fun c=>fy (cells:=#[(aj 4),(aR (⟨#[]⟩:ByteArray)),(aD (!(iH (ct cs i) (ge (ct cs i))))),rw1_.v,(aj 0),(aj 0),(aD false),(.slice none 0 0)]) rfl aO (zx rfl (c.n 0 rfl) (c.n 3 rfl) rfl),cu (cx:=[(aj 4),(aR (⟨#[]⟩:ByteArray)),(aD (!(iH (ct cs i) (ge (ct cs i))))),rw1_.v,(aj 0),(aj 0),(aD false),(.slice none 0 0)]) (off:=0) aq fun c=>⟨c.bp 1 rfl e2,c.ad ((c.p e2).trans r1.ptr) e2 rfl,(c.q 4)⟩,ao fun c=>aw rfl rfl,au⟩ fun ac ag ae ab aa=> ?_);obtain ⟨e0,e2,e4⟩:=aa.k3 e0 e2 e4;have e3:=aa.V 6;replace r0:=aa.B 0;replace r1:=aa.RB 5 e2;obtain ⟨r2,r9⟩:=aa.z2 2 9;refine wp_ret ?_;refine rp ?_;refine ez (fn:=Try.f77) rfl ab.defers e2 e3 r1 aJ aq rfl ?_;have he_:gF cs i=((dw (!(iH (ct cs i) (ge (ct cs i)))) Sv.nil (gl (bS (ge (ct cs i)) 0))),0,i+1):=by unfold gF;(repeat (first | rw [if_neg (by first | assumption | (simp only [aQ];assumption) | (simp only [aV];assumption) | (exact fun h_=>h_ (by assumption)) | omega)] | rw [if_pos (by first | assumption | omega)]));(try rfl)
     rw [he_];exact ⟨(dw (!(iH (ct cs i) (ge (ct cs i)))) rw1_ (gl (bS (ge (ct cs i)) 0))),rfl,ab.extIn,r0.foot,(Fz.out (CB r2)),tZ _ _ _⟩
   skip;refine wp_skip ?_;refine wp_seq ?_;have hnm:(decide (((ct cs i).size:Int)=1)&&gY (bS (ge (ct cs i)) 0))=false:=by rw [aG];first | (right;assumption) | (left;exact decide_eq_false (by assumption))
   refine tF [0,1,3,7,7,15,63] ab [jb r0,jb r1,jz 2 r2,jz 9 r9] ⟨ak e4,ey fun c=>⟨_,_,(bI rfl rfl oe (c.q 0)),xL (ct cs i) _⟩,bm 1,dP 2,dP 2,aI 3,aI 4,au⟩ fun ac ag ae ab aa=> ?_;obtain ⟨e0,e2,e3⟩:=aa.k3 e0 e2 e3;have e8:=aa.V 5;have e9:=aa.V 6;replace r0:=aa.B 0;replace r1:=aa.B 1;obtain ⟨r2,r9⟩:=aa.z2 2 9;refine wp_seq ?_;refine wp_seq (eL ab [jb r0,jb r1,jz 9 r9] ⟨ak e9,ao fun c=>dW rfl (c.q 0),au⟩ fun ac ag ae ab aa=> ?_);obtain ⟨e0,e2,e3,e8⟩:=aa.k4 e0 e2 e3 e8;have e42:=aa.V 1;replace r0:=aa.B 0;replace r1:=aa.B 1;replace r9:=aa.z1 9;refine wp_cond_split e42 (fun hc3=> ?_) (fun hc3=> ?_)
   · try simp only [aA,av] at hc3
     refine wp_seq (fa ab [jb r0,jb r1,jz 9 r9] ⟨ao fun c=>fy (cells:=#[(aj 0),(aR (⟨#[]⟩:ByteArray)),(aD false),(.slice none 0 0),(aj 0),(aj 0),(aD false),(.slice none 0 0)]) rfl aO qd,cu (cx:=[(aj 0),(aR (⟨#[]⟩:ByteArray)),(aD false),(.slice none 0 0),(aj 0),(aj 0),(aD false),(.slice none 0 0)]) (off:=0) aq fun c=>⟨c.bp 1 rfl e2,c.ad ((c.p e2).trans r1.ptr) e2 rfl,(c.q 0)⟩,ao fun c=>aw rfl rfl,au⟩ fun ac ag ae ab aa=> ?_);obtain ⟨e0,e2,e8⟩:=aa.k3 e0 e2 e8;have e3:=aa.V 2;replace r0:=aa.B 0;replace r1:=aa.RB 1 e2;replace r9:=aa.z1 9;refine wp_ret ?_;refine rp ?_;refine ez (fn:=Try.f77) rfl ab.defers e2 e3 r1 aJ aq rfl ?_;have he_:gF cs i=((cZ 0 (⟨#[]⟩:ByteArray) false 0 0 false),10,i):=by unfold gF;(repeat (first | rw [if_neg (by first | assumption | (simp only [aQ];assumption) | (simp only [aV];assumption) | (exact fun h_=>h_ (by assumption)) | omega)] | rw [if_pos (by first | assumption | omega)]));(try rfl)
     rw [he_];exact ⟨(cZ 0 (⟨#[]⟩:ByteArray) false 0 0 false),rfl,ab.extIn,r0.foot,(fo _ _ _ _ _ _ _ _),rfl⟩
   try simp only [aA,av] at hc3
   refine wp_skip ?_;refine wp_seq ?_;have hlt_:i < cs.length:=by
     cases hz_:iH (ct cs i) (⟨#[]⟩:ByteArray) with
     | false => exact mQ hz_
     | true =>
       have hx_:(fq (ct cs i)).2=true:=by assumption
       unfold fq at hx_;rw [if_pos hz_] at hx_;cases hx_
   refine yg ab [jb r0,jb r1,jz 9 r9] ⟨ak e0,cK 0 r0.ptr,cf ba ax 1 r0.ptr,fk aF 2 0 1,ao fun c=>cp rfl (c.q 3) rfl (by first | omega | (have h_:=tf (by assumption:((ct cs i).size:Int)=1);omega) | (have h_:=cL hL i;omega)),cK 0 r0.ptr,cf ba ax 5 r0.ptr,cu (cx:=[cv.v,(aj (((i:Nat):Int)+1))]) ax fun c=>⟨c.bp 0 rfl e0,c.ad (c.q 6) e0 rfl,(c.q 4)⟩,au⟩ fun ac ag ae ab aa=> ?_;obtain ⟨e0,e2,e3,e8⟩:=aa.k4 e0 e2 e3 e8;replace r0:=aa.RB 7 e0;replace r1:=aa.B 1;replace r9:=aa.z1 9;replace r0:cE 73 [cv.v,aj ((i+1:Nat):Int)] (ae 0) v ag:=by rw [show ((i+1:Nat):Int)=((i:Nat):Int)+1 from by omega];exact r0
   refine wp_seq (BF ab [jb r0,jb r1,jz 9 r9] ⟨ak e8,ao fun c=>fy (cells:=#[(aj 2),(aR ((fq (ct cs i)).1)),(aD false),(.slice none 0 0),(aj 0),(aj 0),(aD false),(.slice none 0 0)]) rfl aO (iJ rfl (c.n 0 rfl) rfl),cu (cx:=[(aj 2),(aR ((fq (ct cs i)).1)),(aD false),(.slice none 0 0),(aj 0),(aj 0),(aD false),(.slice none 0 0)]) (off:=0) aq fun c=>⟨c.bp 1 rfl e2,c.ad ((c.p e2).trans r1.ptr) e2 rfl,(c.q 1)⟩,ao fun c=>aw rfl rfl,au⟩ fun ac ag ae ab aa=> ?_);obtain ⟨e0,e2⟩:=aa.k2 e0 e2;have e3:=aa.V 3;replace r0:=aa.B 0;replace r1:=aa.RB 2 e2;replace r9:=aa.z1 9;refine wp_ret ?_;refine rp ?_;refine ez (fn:=Try.f77) rfl ab.defers e2 e3 r1 aJ aq rfl ?_;have he_:gF cs i=((cZ 2 ((fq (ct cs i)).1) false 0 0 false),0,i+1):=by unfold gF;(repeat (first | rw [if_neg (by first | assumption | (simp only [aQ];assumption) | (simp only [aV];assumption) | (exact fun h_=>h_ (by assumption)) | omega)] | rw [if_pos (by first | assumption | omega)]));(try rfl)
   rw [he_];exact ⟨(cZ 2 ((fq (ct cs i)).1) false 0 0 false),rfl,ab.extIn,r0.foot,(fo _ _ _ _ _ _ _ _),rfl⟩
 try simp only [ai] at hc1
 refine wp_skip ?_;refine wp_seq ?_;have hnm:(decide (((ct cs i).size:Int)=1)&&gY (bS (ge (ct cs i)) 0))=false:=by rw [aG];first | (right;assumption) | (left;exact decide_eq_false (by assumption))
 refine tF [0,1,3,7,7,15,63] ab [jb r0,jb r1,jz 9 r9] ⟨ak e4,ey fun c=>⟨_,_,(bI rfl rfl oe (c.q 0)),xL (ct cs i) _⟩,bm 1,dP 2,dP 2,aI 3,aI 4,au⟩ fun ac ag ae ab aa=> ?_;obtain ⟨e0,e2,e3⟩:=aa.k3 e0 e2 e3;have e8:=aa.V 5;have e9:=aa.V 6;replace r0:=aa.B 0;replace r1:=aa.B 1;replace r9:=aa.z1 9;refine wp_seq ?_;refine wp_seq (eL ab [jb r0,jb r1,jz 9 r9] ⟨ak e9,ao fun c=>dW rfl (c.q 0),au⟩ fun ac ag ae ab aa=> ?_);obtain ⟨e0,e2,e3,e8⟩:=aa.k4 e0 e2 e3 e8;have e42:=aa.V 1;replace r0:=aa.B 0;replace r1:=aa.B 1;replace r9:=aa.z1 9;refine wp_cond_split e42 (fun hc4=> ?_) (fun hc4=> ?_)
 · try simp only [aA,av] at hc4
   refine wp_seq (fa ab [jb r0,jb r1,jz 9 r9] ⟨ao fun c=>fy (cells:=#[(aj 0),(aR (⟨#[]⟩:ByteArray)),(aD false),(.slice none 0 0),(aj 0),(aj 0),(aD false),(.slice none 0 0)]) rfl aO qd,cu (cx:=[(aj 0),(aR (⟨#[]⟩:ByteArray)),(aD false),(.slice none 0 0),(aj 0),(aj 0),(aD false),(.slice none 0 0)]) (off:=0) aq fun c=>⟨c.bp 1 rfl e2,c.ad ((c.p e2).trans r1.ptr) e2 rfl,(c.q 0)⟩,ao fun c=>aw rfl rfl,au⟩ fun ac ag ae ab aa=> ?_);obtain ⟨e0,e2,e8⟩:=aa.k3 e0 e2 e8;have e3:=aa.V 2;replace r0:=aa.B 0;replace r1:=aa.RB 1 e2;replace r9:=aa.z1 9;refine wp_ret ?_;refine rp ?_;refine ez (fn:=Try.f77) rfl ab.defers e2 e3 r1 aJ aq rfl ?_;have he_:gF cs i=((cZ 0 (⟨#[]⟩:ByteArray) false 0 0 false),10,i):=by unfold gF;(repeat (first | rw [if_neg (by first | assumption | (simp only [aQ];assumption) | (simp only [aV];assumption) | (exact fun h_=>h_ (by assumption)) | omega)] | rw [if_pos (by first | assumption | omega)]));(try rfl)
   rw [he_];exact ⟨(cZ 0 (⟨#[]⟩:ByteArray) false 0 0 false),rfl,ab.extIn,r0.foot,(fo _ _ _ _ _ _ _ _),rfl⟩
 try simp only [aA,av] at hc4
 refine wp_skip ?_;refine wp_seq ?_;have hlt_:i < cs.length:=by
   cases hz_:iH (ct cs i) (⟨#[]⟩:ByteArray) with
   | false => exact mQ hz_
   | true =>
     have hx_:(fq (ct cs i)).2=true:=by assumption
     unfold fq at hx_;rw [if_pos hz_] at hx_;cases hx_
 refine yg ab [jb r0,jb r1,jz 9 r9] ⟨ak e0,cK 0 r0.ptr,cf ba ax 1 r0.ptr,fk aF 2 0 1,ao fun c=>cp rfl (c.q 3) rfl (by first | omega | (have h_:=tf (by assumption:((ct cs i).size:Int)=1);omega) | (have h_:=cL hL i;omega)),cK 0 r0.ptr,cf ba ax 5 r0.ptr,cu (cx:=[cv.v,(aj (((i:Nat):Int)+1))]) ax fun c=>⟨c.bp 0 rfl e0,c.ad (c.q 6) e0 rfl,(c.q 4)⟩,au⟩ fun ac ag ae ab aa=> ?_;obtain ⟨e0,e2,e3,e8⟩:=aa.k4 e0 e2 e3 e8;replace r0:=aa.RB 7 e0;replace r1:=aa.B 1;replace r9:=aa.z1 9;replace r0:cE 73 [cv.v,aj ((i+1:Nat):Int)] (ae 0) v ag:=by rw [show ((i+1:Nat):Int)=((i:Nat):Int)+1 from by omega];exact r0
 refine wp_seq (BF ab [jb r0,jb r1,jz 9 r9] ⟨ak e8,ao fun c=>fy (cells:=#[(aj 2),(aR ((fq (ct cs i)).1)),(aD false),(.slice none 0 0),(aj 0),(aj 0),(aD false),(.slice none 0 0)]) rfl aO (iJ rfl (c.n 0 rfl) rfl),cu (cx:=[(aj 2),(aR ((fq (ct cs i)).1)),(aD false),(.slice none 0 0),(aj 0),(aj 0),(aD false),(.slice none 0 0)]) (off:=0) aq fun c=>⟨c.bp 1 rfl e2,c.ad ((c.p e2).trans r1.ptr) e2 rfl,(c.q 1)⟩,ao fun c=>aw rfl rfl,au⟩ fun ac ag ae ab aa=> ?_);obtain ⟨e0,e2⟩:=aa.k2 e0 e2;have e3:=aa.V 3;replace r0:=aa.B 0;replace r1:=aa.RB 2 e2;replace r9:=aa.z1 9;refine wp_ret ?_;refine rp ?_;refine ez (fn:=Try.f77) rfl ab.defers e2 e3 r1 aJ aq rfl ?_;have he_:gF cs i=((cZ 2 ((fq (ct cs i)).1) false 0 0 false),0,i+1):=by unfold gF;(repeat (first | rw [if_neg (by first | assumption | (simp only [aQ];assumption) | (simp only [aV];assumption) | (exact fun h_=>h_ (by assumption)) | omega)] | rw [if_pos (by first | assumption | omega)]));(try rfl)
 rw [he_];exact ⟨(cZ 2 ((fq (ct cs i)).1) false 0 0 false),rfl,ab.extIn,r0.foot,(fo _ _ _ _ _ _ _ _),rfl⟩
end
section
open Go.RowKit
open Srt
theorem ul {cs:List ByteArray} {ng:Bool} {f i:Nat} {rows:List Rw} (h1:eE cs i ⟨#[93]⟩=false) (h2:(bB cs i).2.2.1=true) (h3:(0:Int) < ((bB cs i).1.length:Int)):iS cs ng (f+1) i rows=iS cs ng f (bB cs i).2.2.2 (rows++(bB cs i).1):=by
  rw [iS,if_neg (by rw [h1];decide),if_neg (by rw [h2];decide),if_pos h3]
def qj (cs:List ByteArray) (i:Nat):Bool:=(iH (ct cs (bB cs i).2.2.2) ⟨#[45]⟩&&decide (((bB cs i).2.2.2:Int)+1 < (cs.length:Int)))&& !(iH (nth cs (((bB cs i).2.2.2:Int)+1)) ⟨#[93]⟩)
def yQ (cs:List ByteArray) (i:Nat):Bool:=((!(bB cs ((bB cs i).2.2.2+1)).2.2.1) || decide ((0:Int) < ((bB cs ((bB cs i).2.2.2+1)).1.length:Int))) || lQ (bB cs ((bB cs i).2.2.2+1)).2.1 (bB cs i).2.1
theorem rX {cs:List ByteArray} {ng:Bool} {f i:Nat} {rows:List Rw} (h1:eE cs i ⟨#[93]⟩=false) (h2:(bB cs i).2.2.1=true) (h3:¬(0:Int) < ((bB cs i).1.length:Int)) (h4:qj cs i=true) (h5:yQ cs i=false):iS cs ng (f+1) i rows=iS cs ng f (bB cs ((bB cs i).2.2.2+1)).2.2.2 (rows++ [((bB cs i).2.1,(bB cs ((bB cs i).2.2.2+1)).2.1)]):=by
  unfold qj at h4;unfold yQ at h5;rw [iS,if_neg (by rw [h1];decide),if_neg (by rw [h2];decide),if_neg h3,if_pos h4,if_neg (by rw [h5];decide)]
theorem rY {cs:List ByteArray} {ng:Bool} {f i:Nat} {rows:List Rw} (h1:eE cs i ⟨#[93]⟩=false) (h2:(bB cs i).2.2.1=true) (h3:¬(0:Int) < ((bB cs i).1.length:Int)) (h4:qj cs i=false):iS cs ng (f+1) i rows=iS cs ng f (bB cs i).2.2.2 (rows++ [((bB cs i).2.1,(bB cs i).2.1)]):=by
  unfold qj at h4;rw [iS,if_neg (by rw [h1];decide),if_neg (by rw [h2];decide),if_neg h3,if_neg (by rw [h4];decide)]
theorem xN {cs:List ByteArray} {ng:Bool} {f i:Nat} {rows:List Rw} (h1:eE cs i ⟨#[93]⟩=false) (h2:(bB cs i).2.2.1=false):iS cs ng (f+1) i rows=(ij,10,(bB cs i).2.2.2):=by
  rw [iS,if_neg (by rw [h1];decide),if_pos h2]
theorem xO {cs:List ByteArray} {ng:Bool} {f i:Nat} {rows:List Rw} (h1:eE cs i ⟨#[93]⟩=false) (h2:(bB cs i).2.2.1=true) (h3:¬(0:Int) < ((bB cs i).1.length:Int)) (h4:qj cs i=true) (h5:yQ cs i=true):iS cs ng (f+1) i rows=(ij,10,(bB cs ((bB cs i).2.2.2+1)).2.2.2):=by
  unfold qj at h4;unfold yQ at h5;rw [iS,if_neg (by rw [h1];decide),if_neg (by rw [h2];decide),if_neg h3,if_pos h4,if_pos h5]
theorem AV {cs:List ByteArray} {ng:Bool} {f i:Nat} {rows:List Rw} (h1:eE cs i ⟨#[93]⟩=true):iS cs ng (f+1) i rows=(dw ng Sv.nil (br rows),0,i+1):=by
  rw [iS,if_pos h1]
set_option maxRecDepth 100000 in
set_option maxHeartbeats 4000000 in
theorem CM (v:Value) (cv:Sv) (cs:List ByteArray) (i:Nat) (w:World) (hR:RdR 73 v cv cs i w) (hL:mS cs) (hi:i≤cs.length+3):Calls Try.prog 76 #[v] w (fun e w'=>∃t':Tr,e= .returned (.tuple #[t'.v,aj (jZ cs i).2.1])∧Ext (bZ v) w w'∧cE 73 [cv.v,aj (((jZ cs i).2.2:Nat):Int)] (bZ v) v w'∧TrT (Gn bk w) w' t'∧er t'=(jZ cs i).1):=by
 refine eD (bZ v) (fun g hg=>hR.box.lt g hg) (n:=101) Try.func76 rfl rfl (ar rfl) ?_;intro a0 τ0 ha hτ st0;have e0:=nf ha;have hL1:=hL.1;have r0:cE 73 [cv.v,aj ((i:Nat):Int)] (τ0 0) v w:=by rw [hτ];exact hR.box
 have r9:Fz (fL gN Al cv.v cs) τ0 w:=hR.inz st0;refine wp_seq (rg [box _ _ 1 2 [(aj 0),(aR (⟨#[]⟩:ByteArray)),(aD false),(.slice none 0 0),(aj 0),(aj 0),(aD false),(.slice none 0 0)],_] [0,0] st0 [jb r0,jz 9 r9] ⟨cC rfl rfl rfl rfl aO rfl,ao fun c=>aw rfl rfl,au⟩ fun ac ag ae ab aa=> ?_);obtain ⟨b1x2,e2⟩:=gx ac 2;replace e0:=aa.k1 e0;have e3:=aa.V 1;replace r0:=aa.B 0;have r1:=aa.rb 0 e2 rfl;replace r9:=aa.z1 9;refine wp_seq (rg [_,iZ 73 _ 0 11 v [cv.v,(aj ((tkN cs i (⟨#[94]⟩:ByteArray):Nat):Int))] (aD (eE cs i (⟨#[94]⟩:ByteArray))),_,box _ _ 2 4 [(aj 0),(aR (⟨#[]⟩:ByteArray)),(aD false),(.slice none 0 0),(aj 0),(aj 0),(aD false),(.slice none 0 0)],_] [0,1,3,0,15] ab [jb r0,jb r1,jz 9 r9] ⟨ak e0,gQ fun {_ a_ _ _} c=>⟨_,_,(bT rfl rfl dC (c.q 0) rfl),gR (c.B 0) (fJ v cv cs i (⟨#[94]⟩:ByteArray) _ (kq (c.B 0) (c.iz 9 rfl) (fun g_ h_ hz_=>hz_.2 _ h_)) hL (by omega))⟩,ao fun c=>fy (cells:=#[(aj 4),(aR (⟨#[]⟩:ByteArray)),(aD (eE cs i (⟨#[94]⟩:ByteArray))),(.slice none 0 0),(aj 0),(aj 0),(aD false),(.slice none 0 0)]) rfl aO (iJ rfl (c.dv 1 rfl) rfl),cC rfl rfl rfl rfl aO rfl,gp (cx:=[(aj 4),(aR (⟨#[]⟩:ByteArray)),(aD (eE cs i (⟨#[94]⟩:ByteArray))),(.slice none 0 0),(aj 0),(aj 0),(aD false),(.slice none 0 0)]) (off:=0) rfl aq fun c=>⟨c.rb 3 rfl,(c.rb 3 rfl).ptr,(c.q 2)⟩,au⟩ fun ac ag ae ab aa=> ?_);obtain ⟨b2x4,e4⟩:=gx ac 4;obtain ⟨e0,e2,e3⟩:=aa.k3 e0 e2 e3;replace r0:=aa.db 1 rfl;replace r1:=aa.B 1;have r2:=aa.rb 4 e4 rfl;replace r9:=aa.z1 9;refine wp_seq (eM ab [jb r0,jb r1,jb r2,jz 9 r9] ⟨ao fun c=>aw rfl rfl,au⟩ fun ac ag ae ab aa=> ?_);obtain ⟨e0,e2,e3,e4⟩:=aa.k4 e0 e2 e3 e4;have e5:=aa.V 0;replace r0:=aa.B 0;replace r1:=aa.B 1;replace r2:=aa.B 2;replace r9:=aa.z1 9;refine wp_seq ?_;refine wp_block ?_;refine wp_loop (fun a_ w_=>∃(j f:Nat) (u:Value) (rows:List (ByteArray × ByteArray)) (τ:Nat→aX),(iK rows)∧
      (rows.length≤4 * (j+1))∧
      (j≤cs.length+4)∧
      (cs.length < f+j+1)∧
      (iS cs (eE cs i (⟨#[94]⟩:ByteArray)) (cs.length+1) (tkN cs i (⟨#[94]⟩:ByteArray)) []=iS cs (eE cs i (⟨#[94]⟩:ByteArray)) (f+1) j rows)∧
      St (fun k=>bZ v k∨w.heap.size≤k) w 101 a_ w_ τ∧
      aU a_ 5=u∧
      aU a_ 0=v∧
      aU a_ 2=b1x2∧
      aU a_ 4=b2x4∧
      cE 73 [cv.v,(aj ((j:Nat):Int))] (τ 0) v w_∧
      dg dQ 47 rows (τ 6) u w_∧
      cE 32 [(aj 0),(aR (⟨#[]⟩:ByteArray)),(aD false),(.slice none 0 0),(aj 0),(aj 0),(aD false),(.slice none 0 0)] (τ 1) b1x2 w_∧
      cE 32 [(aj 4),(aR (⟨#[]⟩:ByteArray)),(aD (eE cs i (⟨#[94]⟩:ByteArray))),(.slice none 0 0),(aj 0),(aj 0),(aD false),(.slice none 0 0)] (τ 2) b2x4 w_∧
      Fz (fL gN Al cv.v cs) τ w_) (fun a_ w_=>cs.length+10 - Af v w_) ?_ ?_
 · refine ⟨tkN cs i (⟨#[94]⟩:ByteArray),cs.length,(.slice none 0 0),[],ae,?_,?_,?_,?_,?_,ab,e5,e0,e2,e4,r0,?_,r1,r2,r9⟩
   · exact iK.nil
   · simp
   · have h_:=El cs i (⟨#[94]⟩:ByteArray);omega
   · omega
   · rfl
   · exact dg.nil _ _ _ _
 intro a4 w4 hI;obtain ⟨j,f,u,rows,τ4,q0,q1,q2,q3,q4,st4,e5,e0,e2,e4,r0,r6,r1,r2,r9⟩:=hI;have his:=mT hL j;have hm0:=lG r0;have hsm_:=q0.small;refine wp_seq ?_;refine wp_seq (rg [_,iZ 73 _ 0 14 v [cv.v,(aj ((tkN cs j (⟨#[93]⟩:ByteArray):Nat):Int))] (aD (eE cs j (⟨#[93]⟩:ByteArray))),_] [0,1,3] st4 [jb r0,jb r1,jb r2,jo r6,jz 9 r9] ⟨ak e0,gQ fun {_ a_ _ _} c=>⟨_,_,(bT rfl rfl dC (c.q 0) rfl),gR (c.B 0) (fJ v cv cs j (⟨#[93]⟩:ByteArray) _ (kq (c.B 0) (c.iz 9 rfl) (fun g_ h_ hz_=>hz_.2 _ h_)) hL (by omega))⟩,ao fun c=>dW rfl (c.dv 1 rfl),au⟩ fun ac ag ae ab aa=> ?_);obtain ⟨e0,e2,e4,e5⟩:=aa.k4 e0 e2 e4 e5;have e15:=aa.V 2;replace r0:=aa.db 1 rfl;replace r1:=aa.B 1;replace r2:=aa.B 2;replace r6:=aa.O 6;replace r9:=aa.z1 9;refine wp_cond_split e15 (fun hc1=> ?_) (fun hc1=> ?_)
 · try simp only [aA,av] at hc1
   have htk1:eE cs j (⟨#[93]⟩:ByteArray)=false:=by simpa using hc1
   rw [jR htk1] at r0;refine wp_skip ?_;refine wp_block ?_;refine wp_seq ?_;refine bL ?_;refine dy 2 (by kernel_rfl) ?_;refine og [_,nR 73 _ 0 18 v (fun b:Sv=> [cv.v,aj (((bB cs j).2.2.2:Nat):Int)]) (fun b:Sv=> .tuple #[b.v,aR (bB cs j).2.1,aD (bB cs j).2.2.1]) (fun _=>True) (fun b:Sv=>fL dQ (Gn bk w) b.v (bB cs j).1)] [0,1] ab [jb r0,jb r1,jb r2,jo r6,jz 9 r9] ⟨ak e0,lY (cells:=fun b:Sv=> [cv.v,aj (((bB cs j).2.2.2:Nat):Int)]) (f:=fun b:Sv=> .tuple #[b.v,aR (bB cs j).2.1,aD (bB cs j).2.2.1]) (Ψ:=fun _=>True) (Φ:=fun b:Sv=>fL dQ (Gn bk w) b.v (bB cs j).1) fun {_ a_ _ _} c=>⟨_,_,(bI rfl rfl Try.call88 (c.q 0)),(AU v cv cs j _ (kq (c.B 0) (c.iz 9 rfl) (fun g_ h_ hz_=>hz_.2 _ h_)) hL (by omega)).mono (fun e w' ⟨b_,he_,hx_,hb_,hs_⟩=>⟨b_,he_,(c.ib 0 rfl).ext hx_,hb_.back (c.ib 0 rfl),au,c.sns ab hx_.size hs_⟩)⟩,au⟩ fun ac ag ae ab aa=> ?_;obtain ⟨e0,e2,e4,e5,e15⟩:=aa.k5 e0 e2 e4 e5 e15;obtain ⟨rw1_,e18,hro6,-,hz6⟩:=aa.zb 1 rfl;have e18:aU ac 18=(.tuple #[rw1_.v,(aR ((bB cs j).2.1)),(aD ((bB cs j).2.2.1))]):=e18;replace r0:=hro6;replace r1:=aa.B 1;replace r2:=aa.B 2;replace r6:=aa.O 6;replace r9:=aa.z1 9;have r3:=hz6;refine dA ?_;refine og [_,_,_,_,_,_,_] [0,1,3,7,15,31,63] ab [jb r0,jb r1,jb r2,jz 3 r3,jo r6,jz 9 r9] ⟨ak e18,dP 0,dP 0,dP 0,aI 1,aI 2,aI 3,au⟩ fun ac ag ae ab aa=> ?_;obtain ⟨e0,e2,e4,e5,e15⟩:=aa.k5 e0 e2 e4 e5 e15;have e6:=aa.V 4;have e7:=aa.V 5;have e8:=aa.V 6;replace r0:=aa.B 0;replace r1:=aa.B 1;replace r2:=aa.B 2;obtain ⟨r3,r9⟩:=aa.z2 3 9;replace r6:=aa.O 6;refine wp_seq ?_;refine wp_seq (eL ab [jb r0,jb r1,jb r2,jz 3 r3,jo r6,jz 9 r9] ⟨ak e8,ao fun c=>dW rfl (c.q 0),au⟩ fun ac ag ae ab aa=> ?_);obtain ⟨e0,e2,e4,e5,e6,e7,e8,e15⟩:=aa.k8 e0 e2 e4 e5 e6 e7 e8 e15;have e23:=aa.V 1;replace r0:=aa.B 0;replace r1:=aa.B 1;replace r2:=aa.B 2;obtain ⟨r3,r9⟩:=aa.z2 3 9;replace r6:=aa.O 6;refine wp_cond_split e23 (fun hc2=> ?_) (fun hc2=> ?_)
   · try simp only [aA,av] at hc2
     refine wp_seq (fa ab [jb r0,jb r1,jb r2,jz 3 r3,jo r6,jz 9 r9] ⟨ao fun c=>fy (cells:=#[(aj 0),(aR (⟨#[]⟩:ByteArray)),(aD false),(.slice none 0 0),(aj 0),(aj 0),(aD false),(.slice none 0 0)]) rfl aO qd,cu (cx:=[(aj 0),(aR (⟨#[]⟩:ByteArray)),(aD false),(.slice none 0 0),(aj 0),(aj 0),(aD false),(.slice none 0 0)]) (off:=0) aq fun c=>⟨c.bp 1 rfl e2,c.ad ((c.p e2).trans r1.ptr) e2 rfl,(c.q 0)⟩,ao fun c=>aw rfl rfl,au⟩ fun ac ag ae ab aa=> ?_);obtain ⟨e0,e2,e4,e5,e6,e7,e8,e15,e23⟩:=aa.k9 e0 e2 e4 e5 e6 e7 e8 e15 e23;have e3:=aa.V 2;replace r0:=aa.B 0;replace r1:=aa.RB 1 e2;replace r2:=aa.B 2;obtain ⟨r3,r9⟩:=aa.z2 3 9;replace r6:=aa.O 6;refine wp_ret ?_;refine rp ?_;refine ez (fn:=Try.f76) rfl ab.defers e2 e3 r1 aJ aq rfl ?_;have he_:jZ cs i=((cZ 0 (⟨#[]⟩:ByteArray) false 0 0 false),10,(bB cs j).2.2.2):=by unfold jZ;rw [q4];first | exact xN (by assumption) (by assumption) | exact xO (by assumption) (by assumption) (by omega) (by assumption) (by assumption)
     rw [he_];exact ⟨(cZ 0 (⟨#[]⟩:ByteArray) false 0 0 false),rfl,ab.extIn,r0.foot,(fo _ _ _ _ _ _ _ _),rfl⟩
   try simp only [aA,av] at hc2
   refine wp_skip ?_;refine wp_seq ?_;refine wp_seq ?_;have hio:=his.2.2.2.2 (by assumption);refine fa ab [jb r0,jb r1,jb r2,jz 3 r3,jo r6,jz 9 r9] ⟨ak e6,ao fun c=>dh rfl aH (c.q 0) (r3).1.sl,ao fun c=>jm rfl (c.q 1) rfl,au⟩ fun ac ag ae ab aa=> ?_;obtain ⟨e0,e2,e4,e5,e6,e7,e8,e15,e23⟩:=aa.k9 e0 e2 e4 e5 e6 e7 e8 e15 e23;have e27:=aa.V 2;replace r0:=aa.B 0;replace r1:=aa.B 1;replace r2:=aa.B 2;obtain ⟨r3,r9⟩:=aa.z2 3 9;replace r6:=aa.O 6;refine wp_cond_split e27 (fun hc3=> ?_) (fun hc3=> ?_)
   · try simp only [ah] at hc3
     refine wp_seq ?_;refine rg [_,_,own _ _ _ 6 30 _,own _ _ _ 6 5 _] [0,0,3,7] ab [jb r0,jb r1,jb r2,jz 3 r3,jo r6,jz 9 r9] ⟨ak e5,ak e6,eO (t0:=5) rfl rfl rfl rfl aH (i:=Try.t47) rfl rfl rfl rfl (by simp only [maxLen];(try simp);omega) (by show _ * 32≤_;(try simp);omega) (fun _ _ _ _ c=>⟨c.ip 6 rfl e5,c.sm (c.n 0 rfl) e5,⟨_,(c.n 1 rfl),(c.iz 3 rfl).1⟩⟩),dO (t0:=30) rfl rfl rfl rfl rfl (.inr rfl) (fun _ _ _ _ c=>⟨c.ro 2 rfl,rfl⟩),au⟩ fun ac ag ae ab aa=> ?_;obtain ⟨b11x5,e5⟩:=gx ac 5;obtain ⟨e0,e2,e4,e6,e7,e8,e15,e23,e27⟩:=aa.k9 e0 e2 e4 e6 e7 e8 e15 e23 e27;replace r0:=aa.B 0;replace r1:=aa.B 1;replace r2:=aa.B 2;obtain ⟨r3,r9⟩:=aa.z2 3 9;replace r6:=aa.ro 3 e5 rfl;refine wp_exit ?_;repeat (with_reducible refine bU ?_)
     refine bY ?_;have hnx:iS cs (eE cs i (⟨#[94]⟩:ByteArray)) (f+1) j rows=iS cs (eE cs i (⟨#[94]⟩:ByteArray)) f ((bB cs j).2.2.2) (rows++((bB cs j).1)):=by first | exact ul (by assumption) (by assumption) (by omega) | exact rX (by assumption) (by assumption) (by omega) (by assumption) (by assumption) | exact rY (by assumption) (by assumption) (by omega) (by assumption)
     refine ⟨⟨(bB cs j).2.2.2,f - 1,b11x5,rows++((bB cs j).1),ae,?_,?_,?_,?_,?_,ab,e5,e0,e2,e4,r0,?_,r1,r2,r9⟩,?_⟩
     · first | exact q0.app his.1 | exact q0.app (iK.one his.2.1 his2.2.1) | exact q0.app (iK.one his.2.1 his.2.1)
     · (try simp only [bN,bD,bO]);omega
     · omega
     · omega
     · obtain ⟨f,rfl⟩:∃f_,f=f_+1:=⟨f - 1,by omega⟩;rw [q4,hnx];rfl
     · exact r6.cast (by rfl)
     · rw [hm0,lG r0];omega
   try simp only [ai,aP] at hc3
   refine wp_skip ?_;refine wp_seq (rg [_,_,_,box _ _ 4 9 [(aR (⟨#[]⟩:ByteArray)),(aR (⟨#[]⟩:ByteArray))],_] [0,0,3,0,15] ab [jb r0,jb r1,jb r2,jz 3 r3,jo r6,jz 9 r9] ⟨ak e7,ak e7,ao fun c=>oO (cells:=#[(aR ((bB cs j).2.1)),(aR ((bB cs j).2.1))]) rfl cm (iJ (c.n 0 rfl) (c.n 1 rfl) rfl),cC rfl rfl rfl rfl cm rfl,gp (cx:=[(aR ((bB cs j).2.1)),(aR ((bB cs j).2.1))]) (off:=0) rfl aK fun c=>⟨c.rb 3 rfl,(c.rb 3 rfl).ptr,(c.q 2)⟩,au⟩ fun ac ag ae ab aa=> ?_);obtain ⟨b12x9,e9⟩:=gx ac 9;obtain ⟨e0,e2,e4,e5,e6,e7,e8,e15,e23,e27⟩:=aa.k10 e0 e2 e4 e5 e6 e7 e8 e15 e23 e27;replace r0:=aa.B 0;replace r1:=aa.B 1;replace r2:=aa.B 2;replace r3:=aa.z1 3;have r4:=aa.rb 4 e9 rfl;replace r6:=aa.O 6;replace r9:=aa.z1 9;refine wp_seq ?_;refine wp_seq ?_;refine rg [_,_,_,_,_,_,_,_,_,_,_,_,_,_,_,_,_,_,_,_,_,_,_,_,_,_,_,_,_,_] [0,1,3,7,15,31,63,127,255,15,527,1551,3599,7695,16383,32767,65535,131071,262143,524287,1048575,131071,2228223,6422527,14811135,31588351,67108863,134217727,268435455,536870911] ab [jb r0,jb r1,jb r2,jz 3 r3,jb r4,jo r6,jz 9 r9] ⟨ak e0,ey fun c=>⟨_,_,(bI rfl rfl fW (c.q 0)),mq v cv cs ((bB cs j).2.2.2) _ (kq (c.B 0) (c.iz 9 rfl) (fun g_ h_ hz_=>hz_.2 _ h_))⟩,ao fun c=>gy rfl (c.q 1) rfl,bm 2,ay 3 rfl fun c hpc=>aM rfl (c.p e0),ay 3 rfl fun c hpc=>cU rfl (c.M 4 hpc) r0.ptr,ay 3 rfl fun c hpc=>cM rfl ba ax ((c.M 5 hpc).trans r0.ptr),ay 3 rfl fun c hpc=>aB rfl aF (c.M 6 hpc) ((c.B 0).cell (j:=1) rfl),ay 3 rfl fun c hpc=>cp rfl (c.M 7 hpc) rfl (by have hq0:=hpc;omega),ay 3 rfl fun c hpc=>aM rfl (c.p e0),ay 3 rfl fun c hpc=>cU rfl (c.M 9 hpc) r0.ptr,ay 3 rfl fun c hpc=>cM rfl ba cj ((c.M 10 hpc).trans r0.ptr),ay 3 rfl fun c hpc=>aB rfl cJ (c.M 11 hpc) ((c.B 0).cell (j:=0) rfl),ay 3 rfl fun c hpc=>dh rfl bq (c.M 12 hpc) (r9).1.sl,ay 3 rfl fun c hpc=>ci rfl (c.M 8 hpc) (c.M 13 hpc),bC 3 14,bm 15,ay 16 rfl fun c hpc=>aM rfl (c.p e0),ay 16 rfl fun c hpc=>cU rfl (c.M 17 hpc) r0.ptr,ay 16 rfl fun c hpc=>cM rfl ba cj ((c.M 18 hpc).trans r0.ptr),ay 16 rfl fun c hpc=>aB rfl cJ (c.M 19 hpc) ((c.B 0).cell (j:=0) rfl),ay 16 rfl fun c hpc=>aM rfl (c.p e0),ay 16 rfl fun c hpc=>cU rfl (c.M 21 hpc) r0.ptr,ay 16 rfl fun c hpc=>cM rfl ba ax ((c.M 22 hpc).trans r0.ptr),ay 16 rfl fun c hpc=>aB rfl aF (c.M 23 hpc) ((c.B 0).cell (j:=1) rfl),ay 16 rfl fun c hpc=>cp rfl (c.M 24 hpc) rfl (by have hq0:=hpc;(try simp only [am,ah] at hq0);omega),ay 16 rfl fun c hpc=>aL rfl bq bu (c.M 20 hpc) (r9).1.sl (c.M 25 hpc) (by have hq0:=hpc;(try simp only [am,ah] at hq0);omega) (by have hq0:=hpc;(try simp only [am,ah] at hq0);omega),ay 16 rfl fun c hpc=>aB rfl bP (c.M 26 hpc) (((c.iz 9 rfl).1).elem (j:=0) (bh (i:=(((bB cs j).2.2.2:Nat):Int)+1) (by have hq0:=hpc;(try simp only [am,ah] at hq0);omega) (by have hq0:=hpc;(try simp only [am,ah] at hq0);omega)) rfl),ay 16 rfl fun c hpc=>lL rfl (c.M 27 hpc) rfl,bC 16 28,au⟩ fun ac ag ae ab aa=> ?_;obtain ⟨e0,e2,e4,e5,e6,e7,e8,e9,e15,e23,e27⟩:=aa.k11 e0 e2 e4 e5 e6 e7 e8 e9 e15 e23 e27;have e63:=aa.V 29;replace r0:=aa.B 0;replace r1:=aa.B 1;replace r2:=aa.B 2;obtain ⟨r3,r9⟩:=aa.z2 3 9;replace r4:=aa.B 4;replace r6:=aa.O 6;refine wp_cond_split e63 (fun hc4=> ?_) (fun hc4=> ?_)
   · have hd4:=hc4;try simp only [am,aG,aA,av,ah,ai,aP] at hd4
     refine wp_seq ?_;have hbd:qj cs j=true:=by assumption
     unfold qj at hbd;simp only [am,ah] at hbd;have hbl:=hbd.1.2;refine yg ab [jb r0,jb r1,jb r2,jz 3 r3,jb r4,jo r6,jz 9 r9] ⟨ak e0,cK 0 r0.ptr,cf ba ax 1 r0.ptr,fk aF 2 0 1,ao fun c=>cp rfl (c.q 3) rfl (by omega),cK 0 r0.ptr,cf ba ax 5 r0.ptr,cu (cx:=[cv.v,(aj ((((bB cs j).2.2.2:Nat):Int)+1))]) ax fun c=>⟨c.bp 0 rfl e0,c.ad (c.q 6) e0 rfl,(c.q 4)⟩,au⟩ fun ac ag ae ab aa=> ?_;obtain ⟨e0,e2,e4,e5,e6,e7,e8,e9,e15,e23,e27,e63⟩:=aa.k12 e0 e2 e4 e5 e6 e7 e8 e9 e15 e23 e27 e63;replace r0:=aa.RB 7 e0;replace r1:=aa.B 1;replace r2:=aa.B 2;obtain ⟨r3,r9⟩:=aa.z2 3 9;replace r4:=aa.B 4;replace r6:=aa.O 6;replace r0:cE 73 [cv.v,aj (((bB cs j).2.2.2+1:Nat):Int)] (ae 0) v ag:=by rw [show (((bB cs j).2.2.2+1:Nat):Int)=(((bB cs j).2.2.2:Nat):Int)+1 from by omega];exact r0
     refine wp_seq ?_;have his2:=mT hL ((bB cs j).2.2.2+1);refine bL ?_;refine dy 2 (by kernel_rfl) ?_;refine og [_,nR 73 _ 0 73 v (fun b:Sv=> [cv.v,aj (((bB cs ((bB cs j).2.2.2+1)).2.2.2:Nat):Int)]) (fun b:Sv=> .tuple #[b.v,aR (bB cs ((bB cs j).2.2.2+1)).2.1,aD (bB cs ((bB cs j).2.2.2+1)).2.2.1]) (fun _=>True) (fun b:Sv=>fL dQ (Gn bk w) b.v (bB cs ((bB cs j).2.2.2+1)).1)] [0,1] ab [jb r0,jb r1,jb r2,jz 3 r3,jb r4,jo r6,jz 9 r9] ⟨ak e0,lY (cells:=fun b:Sv=> [cv.v,aj (((bB cs ((bB cs j).2.2.2+1)).2.2.2:Nat):Int)]) (f:=fun b:Sv=> .tuple #[b.v,aR (bB cs ((bB cs j).2.2.2+1)).2.1,aD (bB cs ((bB cs j).2.2.2+1)).2.2.1]) (Ψ:=fun _=>True) (Φ:=fun b:Sv=>fL dQ (Gn bk w) b.v (bB cs ((bB cs j).2.2.2+1)).1) fun {_ a_ _ _} c=>⟨_,_,(bI rfl rfl Try.call88 (c.q 0)),(AU v cv cs ((bB cs j).2.2.2+1) _ (kq (c.B 0) (c.iz 9 rfl) (fun g_ h_ hz_=>hz_.2 _ h_)) hL (by omega)).mono (fun e w' ⟨b_,he_,hx_,hb_,hs_⟩=>⟨b_,he_,(c.ib 0 rfl).ext hx_,hb_.back (c.ib 0 rfl),au,c.sns ab hx_.size hs_⟩)⟩,au⟩ fun ac ag ae ab aa=> ?_;obtain ⟨e0,e2,e4,e5,e6,e7,e8,e9,e15,e23,e27,e63⟩:=aa.k12 e0 e2 e4 e5 e6 e7 e8 e9 e15 e23 e27 e63;obtain ⟨rw2_,e73,hro15,-,hz15⟩:=aa.zb 1 rfl;have e73:aU ac 73=(.tuple #[rw2_.v,(aR ((bB cs ((bB cs j).2.2.2+1)).2.1)),(aD ((bB cs ((bB cs j).2.2.2+1)).2.2.1))]):=e73;replace r0:=hro15;replace r1:=aa.B 1;replace r2:=aa.B 2;obtain ⟨r3,r9⟩:=aa.z2 3 9;replace r4:=aa.B 4;replace r6:=aa.O 6;have r5:=hz15;refine dA ?_;refine og [_,_,_,_,_,_,_] [0,1,3,7,15,31,63] ab [jb r0,jb r1,jb r2,jz 3 r3,jb r4,jz 5 r5,jo r6,jz 9 r9] ⟨ak e73,dP 0,dP 0,dP 0,aI 1,aI 2,aI 3,au⟩ fun ac ag ae ab aa=> ?_;obtain ⟨e0,e2,e4,e5,e9,e15,e23,e27,e63⟩:=aa.k9 e0 e2 e4 e5 e9 e15 e23 e27 e63;have e6:=aa.V 4;have e7:=aa.V 5;have e8:=aa.V 6;replace r0:=aa.B 0;replace r1:=aa.B 1;replace r2:=aa.B 2;obtain ⟨r3,r5,r9⟩:=aa.z3 3 5 9;replace r4:=aa.B 4;replace r6:=aa.O 6;refine wp_seq ?_;refine wp_seq (rg [_,_,_,_,_,_,_,_,_,_,_,_,_] [0,1,3,7,15,31,63,127,255,255,767,2047,4095] ab [jb r0,jb r1,jb r2,jb r4,jz 5 r5,jo r6,jz 9 r9] ⟨ak e8,ao fun c=>dW rfl (c.q 0),bm 1,bR 2 rfl fun c hpc=>aM rfl (c.p e6),bR 2 rfl fun c hpc=>dh rfl aH (c.M 3 hpc) (r5).1.sl,bR 2 rfl fun c hpc=>jm rfl (c.M 4 hpc) rfl,eB 2 5,bm 6,bR 7 rfl fun c hpc=>aM rfl (c.p e7),bR 7 rfl fun c hpc=>cM rfl bE bu ((c.p e9).trans r4.ptr),bR 7 rfl fun c hpc=>aB rfl bP (c.M 9 hpc) ((c.B 4).cell (j:=0) rfl),bR 7 rfl fun c hpc=>tC rfl (c.M 8 hpc) (c.M 10 hpc),eB 7 11,au⟩ fun ac ag ae ab aa=> ?_);obtain ⟨e0,e2,e4,e5,e6,e7,e8,e9,e15,e23,e27,e63⟩:=aa.k12 e0 e2 e4 e5 e6 e7 e8 e9 e15 e23 e27 e63;have e89:=aa.V 12;replace r0:=aa.B 0;replace r1:=aa.B 1;replace r2:=aa.B 2;replace r4:=aa.B 4;obtain ⟨r5,r9⟩:=aa.z2 5 9;replace r6:=aa.O 6;refine wp_cond_split e89 (fun hc5=> ?_) (fun hc5=> ?_)
     · have hd5:=hc5;try simp only [be,aS,aA,av,ah,ai,aP] at hd5
       refine wp_seq (fa ab [jb r0,jb r1,jb r2,jb r4,jz 5 r5,jo r6,jz 9 r9] ⟨ao fun c=>fy (cells:=#[(aj 0),(aR (⟨#[]⟩:ByteArray)),(aD false),(.slice none 0 0),(aj 0),(aj 0),(aD false),(.slice none 0 0)]) rfl aO qd,cu (cx:=[(aj 0),(aR (⟨#[]⟩:ByteArray)),(aD false),(.slice none 0 0),(aj 0),(aj 0),(aD false),(.slice none 0 0)]) (off:=0) aq fun c=>⟨c.bp 1 rfl e2,c.ad ((c.p e2).trans r1.ptr) e2 rfl,(c.q 0)⟩,ao fun c=>aw rfl rfl,au⟩ fun ac ag ae ab aa=> ?_);obtain ⟨e0,e2,e4,e5,e6,e7,e8,e9,e15,e23,e27,e63,e89⟩:=aa.k13 e0 e2 e4 e5 e6 e7 e8 e9 e15 e23 e27 e63 e89;have e3:=aa.V 2;replace r0:=aa.B 0;replace r1:=aa.RB 1 e2;replace r2:=aa.B 2;replace r4:=aa.B 4;obtain ⟨r5,r9⟩:=aa.z2 5 9;replace r6:=aa.O 6;refine wp_ret ?_;refine rp ?_;refine ez (fn:=Try.f76) rfl ab.defers e2 e3 r1 aJ aq rfl ?_;have he_:jZ cs i=((cZ 0 (⟨#[]⟩:ByteArray) false 0 0 false),10,(bB cs ((bB cs j).2.2.2+1)).2.2.2):=by unfold jZ;rw [q4];first | exact xN (by assumption) (by assumption) | exact xO (by assumption) (by assumption) (by omega) (by assumption) (by assumption)
       rw [he_];exact ⟨(cZ 0 (⟨#[]⟩:ByteArray) false 0 0 false),rfl,ab.extIn,r0.foot,(fo _ _ _ _ _ _ _ _),rfl⟩
     have hd5:=hc5;try simp only [be,aS,aA,av,ah,ai,aP] at hd5
     refine wp_skip ?_;have hb2:yQ cs j=false:=by assumption
     unfold yQ at hb2;simp only [aS,av] at hb2;have hio2:=his2.2.2.2.2 hb2.1.1;refine fa ab [jb r0,jb r1,jb r2,jb r4,jz 5 r5,jo r6,jz 9 r9] ⟨ak e7,cy bE bu e9 r4.ptr,cu (cx:=[(aR ((bB cs j).2.1)),(aR ((bB cs ((bB cs j).2.2.2+1)).2.1))]) bu fun c=>⟨c.bp 4 rfl e9,c.ad (c.q 1) e9 rfl,(c.q 0)⟩,au⟩ fun ac ag ae ab aa=> ?_;obtain ⟨e0,e2,e4,e5,e6,e7,e8,e9,e15,e23,e27,e63,e89⟩:=aa.k13 e0 e2 e4 e5 e6 e7 e8 e9 e15 e23 e27 e63 e89;replace r0:=aa.B 0;replace r1:=aa.B 1;replace r2:=aa.B 2;replace r4:=aa.RB 2 e9;obtain ⟨r5,r9⟩:=aa.z2 5 9;replace r6:=aa.O 6;refine rg [_,_,own dQ 47 _ 3 95 ([((bB cs j).2.1,(bB cs ((bB cs j).2.2.2+1)).2.1)]),own _ _ _ 6 96 _,own _ _ _ 6 5 _] [0,0,2,7,15] ab [jb r0,jb r1,jb r2,jb r4,jz 5 r5,jo r6,jz 9 r9] ⟨ak e5,ao fun c=>fm rfl cI aK ((c.p e9).trans r4.ptr) (c.B 4),cQ (cells:=#[(aR ((bB cs j).2.1)),(aR ((bB cs ((bB cs j).2.2.2+1)).2.1))]) rfl rfl rfl rfl aH aK cm rfl (by decide) (by decide) (fun _ _ _ _ c=>gb (c.n 1 rfl) (by kernel_rfl)) rfl,eO (t0:=5) rfl rfl rfl rfl aH (i:=Try.t47) rfl rfl rfl rfl (by simp only [maxLen];(try simp);omega) (by show _ * 32≤_;(try simp);omega) (fun _ _ _ _ c=>⟨c.ip 6 rfl e5,c.sm (c.n 0 rfl) e5,⟨_,rfl,(c.ro 2 rfl).1.sl⟩⟩),dO (t0:=96) rfl rfl rfl rfl rfl (.inr rfl) (fun _ _ _ _ c=>⟨c.ro 3 rfl,rfl⟩),au⟩ fun ac ag ae ab aa=> ?_;obtain ⟨b20x95,e95⟩:=gx ac 95;obtain ⟨b20x5,e5⟩:=gx ac 5;obtain ⟨e0,e2,e4,e6,e7,e8,e9,e15,e23,e27,e63,e89⟩:=aa.k12 e0 e2 e4 e6 e7 e8 e9 e15 e23 e27 e63 e89;replace r0:=aa.B 0;replace r1:=aa.B 1;replace r2:=aa.B 2;have r3:=aa.ro 2 e95 rfl;replace r4:=aa.B 4;obtain ⟨r5,r9⟩:=aa.z2 5 9;replace r6:=aa.ro 4 e5 rfl;show _;have hnx:iS cs (eE cs i (⟨#[94]⟩:ByteArray)) (f+1) j rows=iS cs (eE cs i (⟨#[94]⟩:ByteArray)) f ((bB cs ((bB cs j).2.2.2+1)).2.2.2) (rows++ [((bB cs j).2.1,(bB cs ((bB cs j).2.2.2+1)).2.1)]):=by first | exact ul (by assumption) (by assumption) (by omega) | exact rX (by assumption) (by assumption) (by omega) (by assumption) (by assumption) | exact rY (by assumption) (by assumption) (by omega) (by assumption)
     refine ⟨⟨(bB cs ((bB cs j).2.2.2+1)).2.2.2,f - 1,b20x5,rows++ [((bB cs j).2.1,(bB cs ((bB cs j).2.2.2+1)).2.1)],ae,?_,?_,?_,?_,?_,ab,e5,e0,e2,e4,r0,?_,r1,r2,r9⟩,?_⟩
     · first | exact q0.app his.1 | exact q0.app (iK.one his.2.1 his2.2.1) | exact q0.app (iK.one his.2.1 his.2.1)
     · (try simp only [bN,bD,bO]);omega
     · omega
     · omega
     · obtain ⟨f,rfl⟩:∃f_,f=f_+1:=⟨f - 1,by omega⟩;rw [q4,hnx];rfl
     · exact r6.cast (by rfl)
     · rw [hm0,lG r0];omega
   have hd5:=hc4;try simp only [am,aG,aA,av,ah,ai,aP] at hd5
   refine wp_skip ?_;refine rg [_,_,own dQ 47 _ 5 95 ([((bB cs j).2.1,(bB cs j).2.1)]),own _ _ _ 6 96 _,own _ _ _ 6 5 _] [0,0,2,7,15] ab [jb r0,jb r1,jb r2,jz 3 r3,jb r4,jo r6,jz 9 r9] ⟨ak e5,ao fun c=>fm rfl cI aK ((c.p e9).trans r4.ptr) (c.B 4),cQ (cells:=#[(aR ((bB cs j).2.1)),(aR ((bB cs j).2.1))]) rfl rfl rfl rfl aH aK cm rfl (by decide) (by decide) (fun _ _ _ _ c=>gb (c.n 1 rfl) (by kernel_rfl)) rfl,eO (t0:=5) rfl rfl rfl rfl aH (i:=Try.t47) rfl rfl rfl rfl (by simp only [maxLen];(try simp);omega) (by show _ * 32≤_;(try simp);omega) (fun _ _ _ _ c=>⟨c.ip 6 rfl e5,c.sm (c.n 0 rfl) e5,⟨_,rfl,(c.ro 2 rfl).1.sl⟩⟩),dO (t0:=96) rfl rfl rfl rfl rfl (.inr rfl) (fun _ _ _ _ c=>⟨c.ro 3 rfl,rfl⟩),au⟩ fun ac ag ae ab aa=> ?_;obtain ⟨b21x95,e95⟩:=gx ac 95;obtain ⟨b21x5,e5⟩:=gx ac 5;obtain ⟨e0,e2,e4,e6,e7,e8,e9,e15,e23,e27,e63⟩:=aa.k11 e0 e2 e4 e6 e7 e8 e9 e15 e23 e27 e63;replace r0:=aa.B 0;replace r1:=aa.B 1;replace r2:=aa.B 2;replace r3:=aa.z1 3;replace r4:=aa.B 4;have r5:=aa.ro 2 e95 rfl;replace r6:=aa.ro 4 e5 rfl;replace r9:=aa.z1 9;show _;have hnx:iS cs (eE cs i (⟨#[94]⟩:ByteArray)) (f+1) j rows=iS cs (eE cs i (⟨#[94]⟩:ByteArray)) f ((bB cs j).2.2.2) (rows++ [((bB cs j).2.1,(bB cs j).2.1)]):=by first | exact ul (by assumption) (by assumption) (by omega) | exact rX (by assumption) (by assumption) (by omega) (by assumption) (by assumption) | exact rY (by assumption) (by assumption) (by omega) (by assumption)
   refine ⟨⟨(bB cs j).2.2.2,f - 1,b21x5,rows++ [((bB cs j).2.1,(bB cs j).2.1)],ae,?_,?_,?_,?_,?_,ab,e5,e0,e2,e4,r0,?_,r1,r2,r9⟩,?_⟩
   · first | exact q0.app his.1 | exact q0.app (iK.one his.2.1 his2.2.1) | exact q0.app (iK.one his.2.1 his.2.1)
   · (try simp only [bN,bD,bO]);omega
   · omega
   · omega
   · obtain ⟨f,rfl⟩:∃f_,f=f_+1:=⟨f - 1,by omega⟩;rw [q4,hnx];rfl
   · exact r6.cast (by rfl)
   · rw [hm0,lG r0];omega
 try simp only [aA,av] at hc1
 have htk5:eE cs j (⟨#[93]⟩:ByteArray)=true:=by simpa using hc1
 have htl5:=gq htk5;rw [jf htk5] at r0;refine wp_exit ?_;repeat (with_reducible refine bU ?_)
 refine bY ?_;refine wp_seq ?_;refine bL ?_;refine dy 2 (by kernel_rfl) ?_;refine og [_,mB _ 98 (fun b:Sv=>b.v) (fun _=>True) (fun b:Sv=>fL dQ (Gn bk w) b.v (br rows))] [0,1] ab [jb r0,jb r1,jb r2,jo r6,jz 9 r9] ⟨ak e5,kj (f:=fun b:Sv=>b.v) (Ψ:=fun _=>True) (Φ:=fun b:Sv=>fL dQ (Gn bk w) b.v (br rows)) fun {_ a_ _ _} c=>⟨_,_,(bI rfl rfl Try.call89 (c.q 0)),(wz u rows _ (c.io 6 rfl).1.sl (by first | assumption | (unfold oZ;decide)) (by omega)).mono (fun e w' ⟨v_,he_,hx_,hn_⟩=>by obtain ⟨s_,rfl⟩:=hn_.1.sl.sl.sv;exact ⟨s_,he_,hx_,au,c.sn ab hx_ hn_⟩)⟩,au⟩ fun ac ag ae ab aa=> ?_;obtain ⟨e0,e2,e4⟩:=aa.k3 e0 e2 e4;obtain ⟨rw3_,e98,-,hz22⟩:=aa.zd 1 rfl;have e98:aU ac 98=rw3_.v:=e98;replace r0:=aa.B 0;replace r1:=aa.B 1;replace r2:=aa.B 2;replace r9:=aa.z1 9;have r3:=hz22;refine dA ?_;refine og [_,_] [0,1] ab [jb r0,jb r1,jb r2,jz 3 r3,jz 9 r9] ⟨cy aC gj e4 r2.ptr,cu (cx:=[(aj 4),(aR (⟨#[]⟩:ByteArray)),(aD (eE cs i (⟨#[94]⟩:ByteArray))),rw3_.v,(aj 0),(aj 0),(aD false),(.slice none 0 0)]) gj fun c=>⟨c.bp 2 rfl e4,c.ad (c.q 0) e4 rfl,(c.p e98)⟩,au⟩ fun ac ag ae ab aa=> ?_;obtain ⟨e0,e2,e4⟩:=aa.k3 e0 e2 e4;replace r0:=aa.B 0;replace r1:=aa.B 1;replace r2:=aa.RB 1 e4;obtain ⟨r3,r9⟩:=aa.z2 3 9;refine wp_seq (fa ab [jb r0,jb r1,jb r2,jz 3 r3,jz 9 r9] ⟨ao fun c=>fm rfl aJ aq ((c.p e4).trans r2.ptr) (c.B 2),cu (cx:=[(aj 4),(aR (⟨#[]⟩:ByteArray)),(aD (eE cs i (⟨#[94]⟩:ByteArray))),rw3_.v,(aj 0),(aj 0),(aD false),(.slice none 0 0)]) (off:=0) aq fun c=>⟨c.bp 1 rfl e2,c.ad ((c.p e2).trans r1.ptr) e2 rfl,(c.q 0)⟩,ao fun c=>aw rfl rfl,au⟩ fun ac ag ae ab aa=> ?_);obtain ⟨e0,e2⟩:=aa.k2 e0 e2;have e3:=aa.V 2;replace r0:=aa.B 0;replace r1:=aa.RB 1 e2;obtain ⟨r3,r9⟩:=aa.z2 3 9;refine wp_ret ?_;refine rp ?_;refine ez (fn:=Try.f76) rfl ab.defers e2 e3 r1 aJ aq rfl ?_;have he_:jZ cs i=((dw (eE cs i (⟨#[94]⟩:ByteArray)) Sv.nil (br rows)),0,j+1):=by unfold jZ;rw [q4,AV (by assumption)]
 rw [he_];exact ⟨(dw (eE cs i (⟨#[94]⟩:ByteArray)) rw3_ (br rows)),rfl,ab.extIn,r0.foot,(Fz.out (CB r3)),tZ _ _ _⟩
end
end B
end Go.Proofs.Ytcfdebjhikahfaa
