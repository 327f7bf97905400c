import Derived.Test.YtcfdebjhikahfaaGreatZx2
set_option linter.unusedSimpArgs false
set_option linter.unusedVariables false
set_option linter.unusedSectionVars false
namespace Go.Proofs.YtcfdebjhikahfaaGreat
section
open Go.RowKit
abbrev dU:=@Bool.not_eq_false
abbrev nA:=@Int.le_trans
abbrev nV:=@Int.lt_of_lt_of_le
abbrev pu:=@List.getElem_map
abbrev oF:=@Tryz.call58
abbrev gn:=@Tryz.call61
abbrev iS:=@Tryz.call99
abbrev dw:=@Tryz.isAgg60
abbrev ig:=@Tryz.isAgg62
end
namespace B
section
open Go.RowKit
open Srt
set_option maxRecDepth 100000 in
theorem FF (F:bj) (kind:Int) (v:Value) (xs:List Tr) (w:World) (hS:SlT lY w v xs) (hF:∀t ∈ xs,TrT F w t) (hP:dH (xs.map fc)≤1000000):Calls Tryz.prog 81 #[(aj kind),v] w (fun e w'=>∃v' ts,e= .returned v'∧Ext aW w w'∧su lY 25 w w' v' ts∧(∀t ∈ ts,TrT (fun g=>(Gn F w) g∧v'.ownBlock≠some g) w' t)∧ts.map er=iI kind (xs.map er)):=by
 refine enter (n:=35) Tryz.func81 rfl rfl (aw rfl) ?_;intro a0 τ0 ha st0;obtain ⟨e0,e1⟩:=qG ha;have hle:=hS.le;have r9:Fz (oA (Gn F w) xs) τ0 w:=TrT.inzs hF st0;refine wp_seq (eK st0 [jz 9 r9] ⟨aq fun c=>ax rfl rfl,av⟩ fun ac ag ae ab aa=> ?_);obtain ⟨e0,e1⟩:=aa.k2 e0 e1;have e4:=aa.V 0;replace r9:=aa.z1 9;refine wp_seq (eK ab [jz 9 r9] ⟨aq fun c=>ax rfl rfl,av⟩ fun ac ag ae ab aa=> ?_);obtain ⟨e0,e1,e4⟩:=aa.k3 e0 e1 e4;have e5:=aa.V 0;replace r9:=aa.z1 9;refine wp_seq ?_;refine wp_seq (eK ab [jz 9 r9] ⟨aq fun c=>ax rfl rfl,av⟩ fun ac ag ae ab aa=> ?_);obtain ⟨e0,e1,e4,e5⟩:=aa.k4 e0 e1 e4 e5;have e6:=aa.V 0;replace r9:=aa.z1 9;refine wp_block ?_;refine wp_loop (fun a_ w_=>∃(k:Nat) (u:Value) (ts:List Tr) (τ:Nat→bj),(k≤xs.length)∧
      (ts.map er=iI kind ((xs.take k).map er))∧
      St (Nw w) w 35 a_ w_ τ∧
      be a_ 5=u∧
      be a_ 6=(aj (k:Int))∧
      be a_ 0=(aj kind)∧
      be a_ 1=v∧
      be a_ 4=(.slice none 0 0)∧
      ep lY 25 ts (τ 5) u w_∧
      Fz (oA (Gn F w) ts) τ w_∧
      Fz (oA (Gn F w) xs) τ w_) (fun a_ _=>xs.length - (intOf (be a_ 6)).toNat) ?_ ?_
 · refine ⟨0,(.slice none 0 0),[],ae,?_,?_,ab,e5,(e6.trans (bB (by omega))),e0,e1,e4,?_,?_,r9⟩
   · omega
   · simp [iI]
   · exact ep.nil _ _ _ _
   · exact Fz.tn _ _ _
 intro a4 w4 hI;obtain ⟨k,u,ts,τ4,q0,q1,st4,e5,e6,e0,e1,e4,r5,r6,r9⟩:=hI;have hw:=IZ (xs:=xs) (k:=k);have hrm:=wq q1;have hew:=(fG (nth xs (k:Int))).1;have m6:=e6;refine wp_seq ?_;refine wp_seq (lr [0,0,2,7] st4 [jo r5,jz 6 r6,jz 9 r9] ⟨ao e6,ao e1,aq fun c=>dk rfl aU (c.q 1) ((⟨hS,fun t_ h_=>(hF t_ h_).s⟩:TlS w v xs).at st4.ext).sl.sl,aq fun c=>cW rfl (c.q 0) (c.q 2),av⟩ fun ac ag ae ab aa=> ?_);obtain ⟨e0,e1,e4,e5,e6⟩:=aa.k5 e0 e1 e4 e5 e6;have e10:=aa.V 3;replace r5:=aa.O 5;obtain ⟨r6,r9⟩:=aa.z2 6 9;refine wp_cond_split e10 (fun hc1=> ?_) (fun hc1=> ?_)
 · try simp only [ai] at hc1
   refine wp_skip ?_;refine wp_seq ?_;refine wp_block ?_;refine wp_seq (ue [0,0,3,7,15,0,63] ab [jo r5,jz 6 r6,jz 9 r9] ⟨ao e1,ao e6,aq fun c=>aX rfl aU ak (c.q 0) ((⟨hS,fun t_ h_=>(hF t_ h_).s⟩:TlS w v xs).at ab.ext).sl.sl (c.q 1) (by omega) (by omega),bS aJ aA 2 rfl,aq fun c=>aI rfl aN (c.q 3) ((((⟨hS,fun t_ h_=>(hF t_ h_).s⟩:TlS w v xs).at (ab.ext.trans c.J.ext)).sl).elem (j:=0) (bF (i:=(k:Int)) (by omega) (by omega)) rfl),ao e0,aq fun c=>cY rfl (c.q 4) (c.q 5),av⟩ fun ac ag ae ab aa=> ?_);obtain ⟨e0,e1,e4,e5,e6,e10⟩:=aa.k6 e0 e1 e4 e5 e6 e10;have e19:=aa.V 6;replace r5:=aa.O 5;obtain ⟨r6,r9⟩:=aa.z2 6 9;refine wp_cond_split e19 (fun hc2=> ?_) (fun hc2=> ?_)
   · try simp only [ai] at hc2
     refine rg [_,_,_,_,_,_,own _ _ _ 5 26 _,own _ _ _ 5 5 _] [0,0,0,6,14,30,63,127] ab [jo r5,jz 6 r6,jz 9 r9] ⟨ao e5,ao e1,ao e6,aq fun c=>aX rfl aU ak (c.q 1) ((⟨hS,fun t_ h_=>(hF t_ h_).s⟩:TlS w v xs).at ab.ext).sl.sl (c.q 2) (by omega) (by omega),bS aJ cR 3 rfl,aq fun c=>aI rfl dG (c.q 4) ((((⟨hS,fun t_ h_=>(hF t_ h_).s⟩:TlS w v xs).at (ab.ext.trans c.J.ext)).sl).elem (j:=7) (bF (i:=(k:Int)) (by omega) (by omega)) rfl),fF (t0:=5) rfl rfl rfl rfl aU (i:=Tryz.t25) rfl rfl rfl rfl (by simp only [maxLen];(try simp);omega) (by show _ * 104≤_;(try simp);omega) (fun _ _ _ _ c=>⟨c.ip 5 rfl e5,c.sm (c.n 0 rfl) e5,⟨_,(c.n 5 rfl),(((⟨hS,fun t_ h_=>(hF t_ h_).s⟩:TlS w v xs).at (ab.ext.trans c.J.ext)).el (by omega) (by omega)).tl.sl⟩⟩),eP (t0:=26) rfl rfl rfl rfl rfl (.inr rfl) (fun _ _ _ _ c=>⟨c.ro 6 rfl,rfl⟩),av⟩ fun ac ag ae ab aa=> ?_;obtain ⟨b7x5,e5⟩:=gx ac 5;obtain ⟨e0,e1,e4,e6,e10,e19⟩:=aa.k6 e0 e1 e4 e6 e10 e19;replace r5:=aa.ro 7 e5 rfl;obtain ⟨r6,r9⟩:=aa.z2 6 9;show _;refine fX ab [jo r5,jz 6 r6,jz 9 r9] ⟨ao e6,aq fun c=>cN rfl (c.q 0) rfl (by omega),aK 1,av⟩ fun ac ag ae ab aa=> ?_;obtain ⟨e0,e1,e4,e5,e10,e19⟩:=aa.k6 e0 e1 e4 e5 e10 e19;have e6:=aa.V 2;replace r5:=aa.O 5;obtain ⟨r6,r9⟩:=aa.z2 6 9;refine ⟨⟨k+1,b7x5,ts++((nth xs (k:Int)).kids),ae,?_,?_,ab,e5,(e6.trans (bB (by omega))),e0,e1,e4,?_,?_,r9⟩,?_⟩
     · omega
     · first | exact sX (by omega) q1 rfl (by assumption) rfl | exact rH (by omega) q1 rfl (by assumption)
     · exact r5.cast (by rfl)
     · exact Fz.app r6 (r9.e (by omega) (by omega)).kl
     · simp only [m6,e6,intOf];omega
   try simp only [ah] at hc2
   refine rg [_,_,_,_,_,own lY 25 _ 0 32 ([(nth xs (k:Int))]),own _ _ _ 5 33 _,own _ _ _ 5 5 _] [0,0,0,6,14,30,63,127] ab [jo r5,jz 6 r6,jz 9 r9] ⟨ao e5,ao e1,ao e6,aq fun c=>aX rfl aU ak (c.q 1) ((⟨hS,fun t_ h_=>(hF t_ h_).s⟩:TlS w v xs).at ab.ext).sl.sl (c.q 2) (by omega) (by omega),aq fun c=>cq (vs:=(tc (nth xs (k:Int)))) rfl az ak (c.q 3) rfl (fun _ _ hj=>(((⟨hS,fun t_ h_=>(hF t_ h_).s⟩:TlS w v xs).at (ab.ext.trans c.J.ext)).sl).elem (bF (i:=(k:Int)) (by omega) (by omega)) hj),dt (cells:=#[(aj ((nth xs (k:Int)).k)),(bc ((nth xs (k:Int)).ch)),(aE ((nth xs (k:Int)).ng)),(nth xs (k:Int)).rv.v,(aj ((nth xs (k:Int)).mn)),(aj ((nth xs (k:Int)).mx)),(aE ((nth xs (k:Int)).lz)),(nth xs (k:Int)).kv.v]) rfl rfl rfl rfl aU ak aD rfl (by decide) (by decide) (fun _ _ _ _ c=>gB (c.n 4 rfl) (by kernel_rfl)) rfl,fF (t0:=5) rfl rfl rfl rfl aU (i:=Tryz.t25) rfl rfl rfl rfl (by simp only [maxLen];(try simp);omega) (by show _ * 104≤_;(try simp);omega) (fun _ _ _ _ c=>⟨c.ip 5 rfl e5,c.sm (c.n 0 rfl) e5,⟨_,rfl,(c.ro 5 rfl).1.sl⟩⟩),eP (t0:=33) rfl rfl rfl rfl rfl (.inr rfl) (fun _ _ _ _ c=>⟨c.ro 6 rfl,rfl⟩),av⟩ fun ac ag ae ab aa=> ?_;obtain ⟨b9x32,e32⟩:=gx ac 32;obtain ⟨b9x5,e5⟩:=gx ac 5;obtain ⟨e0,e1,e4,e6,e10,e19⟩:=aa.k6 e0 e1 e4 e6 e10 e19;have r0:=aa.ro 5 e32 rfl;replace r5:=aa.ro 7 e5 rfl;obtain ⟨r6,r9⟩:=aa.z2 6 9;show _;refine fX ab [jo r0,jo r5,jz 6 r6,jz 9 r9] ⟨ao e6,aq fun c=>cN rfl (c.q 0) rfl (by omega),aK 1,av⟩ fun ac ag ae ab aa=> ?_;obtain ⟨e0,e1,e4,e5,e10,e19⟩:=aa.k6 e0 e1 e4 e5 e10 e19;have e6:=aa.V 2;replace r0:=aa.O 0;replace r5:=aa.O 5;obtain ⟨r6,r9⟩:=aa.z2 6 9;refine ⟨⟨k+1,b9x5,ts++ [(nth xs (k:Int))],ae,?_,?_,ab,e5,(e6.trans (bB (by omega))),e0,e1,e4,?_,?_,r9⟩,?_⟩
   · omega
   · first | exact sX (by omega) q1 rfl (by assumption) rfl | exact rH (by omega) q1 rfl (by assumption)
   · exact r5.cast (by rfl)
   · exact Fz.snoc r6 (r9.e (by omega) (by omega))
   · simp only [m6,e6,intOf];omega
 try simp only [ah,aV] at hc1
 refine wp_exit ?_;repeat (with_reducible refine cy ?_)
 refine cC ?_;refine wp_seq (eA ab [jo r5,jz 6 r6,jz 9 r9] ⟨ao e5,aK 0,av⟩ fun ac ag ae ab aa=> ?_);have e4:=aa.V 1;replace r5:=aa.O 5;obtain ⟨r6,r9⟩:=aa.z2 6 9;refine wp_ret ?_;refine rp ?_;refine cO (fn:=Tryz.f81) rfl ab.defers e4 ?_;rw [bw (by omega)] at q1;exact ⟨_,ts,rfl,ab.ext0,⟨r5.1,fun g_ h_=>(ab.bnd _ g_ (r5.2 g_ h_)).1⟩,r6.outo (i:=5) r5.2,q1⟩
set_option maxRecDepth 100000 in
theorem FG (F:bj) (v:Value) (xs:List Tr) (w:World) (hS:SlT lY w v xs) (hF:∀t ∈ xs,TrT F w t) (hP:dH (xs.map fc)≤1000000):Calls Tryz.prog 60 #[v] w (fun e w'=>∃t':Tr,e= .returned t'.v∧Ext aW w w'∧TrT (Gn F w) w' t'∧er t'=jQ (xs.map er)):=by
 refine enter (n:=14) Tryz.func60 rfl rfl (aw rfl) ?_;intro a0 τ0 ha st0;have e0:=oz ha;have hle:=hS.le;have r9:Fz (oA (Gn F w) xs) τ0 w:=TrT.inzs hF st0;refine wp_seq (rg [box _ _ 0 2 [(aj 0),(bc (⟨#[]⟩:ByteArray)),(aE false),(.slice none 0 0),(aj 0),(aj 0),(aE false),(.slice none 0 0)]] [0] st0 [jz 9 r9] ⟨bO rfl rfl rfl rfl aD rfl,av⟩ fun ac ag ae ab aa=> ?_);obtain ⟨b1x2,e2⟩:=gx ac 2;replace e0:=aa.k1 e0;have r0:=aa.rb 0 e2 rfl;replace r9:=aa.z1 9;refine wp_seq ?_;refine aY ?_;refine bV 2 (by kernel_rfl) ?_;refine og [_,DE lY 25 _ 1 5 (fun b:List Tr=>b) (fun b:List Tr=>b.map er=iI 0 (xs.map er)) (fun b:List Tr=>oA (Gn F w) b)] [0,1] ab [jb r0,jz 9 r9] ⟨ao e0,Cv (xs:=fun b:List Tr=>b) (Ψ:=fun b:List Tr=>b.map er=iI 0 (xs.map er)) (Φ:=fun b:List Tr=>oA (Gn F w) b) fun {_ a_ _ _} c=>⟨_,_,(ck rfl rfl Tryz.call81 rfl (c.q 0)),(FF _ 0 v xs _ (zl (c.iz 9 rfl) ((⟨hS,fun t_ h_=>(hF t_ h_).s⟩:TlS w v xs).at (ab.ext.trans c.J.ext)).sl).sl (c.iz 9 rfl) (by omega)).mono (fun e w' ⟨v_,ts_,he_,hx_,ho_,ht_,hq_⟩=>⟨v_,ts_,he_,hx_,ho_,hq_,c.tzo (tag:=1) ab hx_ ho_ ht_⟩)⟩,av⟩ fun ac ag ae ab aa=> ?_;obtain ⟨b2x5,e5⟩:=gx ac 5;replace e2:=aa.k1 e2;obtain ⟨ts1_,hro2,hqts1_,hz2⟩:=aa.zo 1 e5 rfl;replace r0:=aa.B 0;have r1:=hro2;replace r9:=aa.z1 9;have r2:=hz2;refine bW ?_;refine og [_] [0] ab [jb r0,jo r1,jz 2 r2,jz 9 r9] ⟨oQ e5,av⟩ fun ac ag ae ab aa=> ?_;replace e2:=aa.k1 e2;have e3:=aa.V 0;replace r0:=aa.B 0;replace r1:=aa.O 1;obtain ⟨r2,r9⟩:=aa.z2 2 9;obtain ⟨kv0,rfl⟩:=r1.isSl.sv;refine wp_seq ?_;refine wp_seq (fX ab [jb r0,jo r1,jz 2 r2,jz 9 r9] ⟨ao e3,aq fun c=>dk rfl aU (c.q 0) r1.isSl,aq fun c=>cY rfl (c.q 1) rfl,av⟩ fun ac ag ae ab aa=> ?_);obtain ⟨e2,e3⟩:=aa.k2 e2 e3;have e8:=aa.V 2;replace r0:=aa.B 0;replace r1:=aa.O 1;obtain ⟨r2,r9⟩:=aa.z2 2 9;refine wp_cond_split e8 (fun hc1=> ?_) (fun hc1=> ?_)
 · try simp only [ai] at hc1
   refine wp_seq (xi ab [jb r0,jo r1,jz 2 r2,jz 9 r9] ⟨ao e3,aq fun c=>aX rfl aU ak (c.q 0) r1.isSl rfl (by omega) (by omega),aq fun c=>cq (vs:=(tc (nth ts1_ 0))) rfl az ak (c.q 1) rfl (fun _ _ hj=>((c.io 1 rfl).1.sl).elem (bF (i:=0) (by omega) (by omega)) hj),cp (cx:=(tc (nth ts1_ 0))) (off:=0) ak fun c=>⟨c.bp 0 rfl e2,c.ad ((c.p e2).trans r0.ptr) e2 rfl,(c.q 2)⟩,av⟩ fun ac ag ae ab aa=> ?_);obtain ⟨e2,e3⟩:=aa.k2 e2 e3;replace r0:=aa.RB 3 e2;replace r1:=aa.O 1;obtain ⟨r2,r9⟩:=aa.z2 2 9;refine wp_ret ?_;refine rp ?_;refine py (fn:=Tryz.f60) rfl ab.defers e2 r0 az ak rfl ?_;exact ⟨_,rfl,ab.ext0,(r2.e (by omega) (by omega)).out,CR hqts1_ (by omega)⟩
 try simp only [ah] at hc1
 refine wp_skip ?_;refine wp_seq (fX ab [jb r0,jo r1,jz 2 r2,jz 9 r9] ⟨ao e3,aq fun c=>eW (cells:=#[(aj 0),(bc (⟨#[]⟩:ByteArray)),(aE false),(.slice none 0 0),(aj 0),(aj 0),(aE false),kv0.v]) rfl aD (iT rfl (c.n 0 rfl) rfl),cp (cx:=[(aj 0),(bc (⟨#[]⟩:ByteArray)),(aE false),(.slice none 0 0),(aj 0),(aj 0),(aE false),kv0.v]) (off:=0) ak fun c=>⟨c.bp 0 rfl e2,c.ad ((c.p e2).trans r0.ptr) e2 rfl,(c.q 1)⟩,av⟩ fun ac ag ae ab aa=> ?_);replace e2:=aa.k1 e2;replace r0:=aa.RB 2 e2;replace r1:=aa.O 1;obtain ⟨r2,r9⟩:=aa.z2 2 9;refine wp_ret ?_;refine rp ?_;refine py (fn:=Tryz.f60) rfl ab.defers e2 r0 az ak rfl ?_;exact ⟨⟨0,⟨#[]⟩,false,Sv.nil,[],0,0,false,kv0,ts1_⟩,rfl,ab.ext0,yx r1 (fun g h=> .inr (ab.bnd _ _ h).1) r2.outs,by rw [CT];exact Aj hqts1_ (by omega)⟩
set_option maxRecDepth 100000 in
theorem FH (F:bj) (v:Value) (xs:List Tr) (w:World) (hS:SlT lY w v xs) (hF:∀t ∈ xs,TrT F w t) (hP:dH (xs.map fc)≤1000000):Calls Tryz.prog 62 #[v] w (fun e w'=>∃t':Tr,e= .returned t'.v∧Ext aW w w'∧TrT (Gn F w) w' t'∧er t'=lP (xs.map er)):=by
 refine enter (n:=18) Tryz.func62 rfl rfl (aw rfl) ?_;intro a0 τ0 ha st0;have e0:=oz ha;have hle:=hS.le;have r9:Fz (oA (Gn F w) xs) τ0 w:=TrT.inzs hF st0;refine wp_seq (rg [box _ _ 0 2 [(aj 0),(bc (⟨#[]⟩:ByteArray)),(aE false),(.slice none 0 0),(aj 0),(aj 0),(aE false),(.slice none 0 0)]] [0] st0 [jz 9 r9] ⟨bO rfl rfl rfl rfl aD rfl,av⟩ fun ac ag ae ab aa=> ?_);obtain ⟨b1x2,e2⟩:=gx ac 2;replace e0:=aa.k1 e0;have r0:=aa.rb 0 e2 rfl;replace r9:=aa.z1 9;refine wp_seq ?_;refine aY ?_;refine bV 2 (by kernel_rfl) ?_;refine og [_,DE lY 25 _ 1 5 (fun b:List Tr=>b) (fun b:List Tr=>b.map er=iI 1 (xs.map er)) (fun b:List Tr=>oA (Gn F w) b)] [0,1] ab [jb r0,jz 9 r9] ⟨ao e0,Cv (xs:=fun b:List Tr=>b) (Ψ:=fun b:List Tr=>b.map er=iI 1 (xs.map er)) (Φ:=fun b:List Tr=>oA (Gn F w) b) fun {_ a_ _ _} c=>⟨_,_,(ck rfl rfl Tryz.call81 rfl (c.q 0)),(FF _ 1 v xs _ (zl (c.iz 9 rfl) ((⟨hS,fun t_ h_=>(hF t_ h_).s⟩:TlS w v xs).at (ab.ext.trans c.J.ext)).sl).sl (c.iz 9 rfl) (by omega)).mono (fun e w' ⟨v_,ts_,he_,hx_,ho_,ht_,hq_⟩=>⟨v_,ts_,he_,hx_,ho_,hq_,c.tzo (tag:=1) ab hx_ ho_ ht_⟩)⟩,av⟩ fun ac ag ae ab aa=> ?_;obtain ⟨b2x5,e5⟩:=gx ac 5;replace e2:=aa.k1 e2;obtain ⟨ts1_,hro2,hqts1_,hz2⟩:=aa.zo 1 e5 rfl;replace r0:=aa.B 0;have r1:=hro2;replace r9:=aa.z1 9;have r2:=hz2;refine bW ?_;refine og [_] [0] ab [jb r0,jo r1,jz 2 r2,jz 9 r9] ⟨oQ e5,av⟩ fun ac ag ae ab aa=> ?_;replace e2:=aa.k1 e2;have e3:=aa.V 0;replace r0:=aa.B 0;replace r1:=aa.O 1;obtain ⟨r2,r9⟩:=aa.z2 2 9;obtain ⟨kv0,rfl⟩:=r1.isSl.sv;refine wp_seq ?_;refine wp_seq (fX ab [jb r0,jo r1,jz 2 r2,jz 9 r9] ⟨ao e3,aq fun c=>dk rfl aU (c.q 0) r1.isSl,aq fun c=>cY rfl (c.q 1) rfl,av⟩ fun ac ag ae ab aa=> ?_);obtain ⟨e2,e3⟩:=aa.k2 e2 e3;have e8:=aa.V 2;replace r0:=aa.B 0;replace r1:=aa.O 1;obtain ⟨r2,r9⟩:=aa.z2 2 9;refine wp_cond_split e8 (fun hc1=> ?_) (fun hc1=> ?_)
 · try simp only [ai] at hc1
   refine wp_seq (eA ab [jb r0,jo r1,jz 2 r2,jz 9 r9] ⟨aq fun c=>eW (cells:=#[(aj 0),(bc (⟨#[]⟩:ByteArray)),(aE false),(.slice none 0 0),(aj 0),(aj 0),(aE false),(.slice none 0 0)]) rfl aD (gB rfl rfl),cp (cx:=[(aj 0),(bc (⟨#[]⟩:ByteArray)),(aE false),(.slice none 0 0),(aj 0),(aj 0),(aE false),(.slice none 0 0)]) (off:=0) ak fun c=>⟨c.bp 0 rfl e2,c.ad ((c.p e2).trans r0.ptr) e2 rfl,(c.q 0)⟩,av⟩ fun ac ag ae ab aa=> ?_);obtain ⟨e2,e3⟩:=aa.k2 e2 e3;replace r0:=aa.RB 1 e2;replace r1:=aa.O 1;obtain ⟨r2,r9⟩:=aa.z2 2 9;refine wp_ret ?_;refine rp ?_;refine py (fn:=Tryz.f62) rfl ab.defers e2 r0 az ak rfl ?_;exact ⟨lE 0 [],rfl,ab.ext0,eQ _ _ _ _ _ _ _ _,Ak hqts1_ (by omega)⟩
 try simp only [ah] at hc1
 refine wp_skip ?_;refine wp_seq ?_;refine wp_seq (fX ab [jb r0,jo r1,jz 2 r2,jz 9 r9] ⟨ao e3,aq fun c=>dk rfl aU (c.q 0) r1.isSl,aq fun c=>cY rfl (c.q 1) rfl,av⟩ fun ac ag ae ab aa=> ?_);obtain ⟨e2,e3⟩:=aa.k2 e2 e3;have e12:=aa.V 2;replace r0:=aa.B 0;replace r1:=aa.O 1;obtain ⟨r2,r9⟩:=aa.z2 2 9;refine wp_cond_split e12 (fun hc2=> ?_) (fun hc2=> ?_)
 · try simp only [ai] at hc2
   refine wp_seq (xi ab [jb r0,jo r1,jz 2 r2,jz 9 r9] ⟨ao e3,aq fun c=>aX rfl aU ak (c.q 0) r1.isSl rfl (by omega) (by omega),aq fun c=>cq (vs:=(tc (nth ts1_ 0))) rfl az ak (c.q 1) rfl (fun _ _ hj=>((c.io 1 rfl).1.sl).elem (bF (i:=0) (by omega) (by omega)) hj),cp (cx:=(tc (nth ts1_ 0))) (off:=0) ak fun c=>⟨c.bp 0 rfl e2,c.ad ((c.p e2).trans r0.ptr) e2 rfl,(c.q 2)⟩,av⟩ fun ac ag ae ab aa=> ?_);obtain ⟨e2,e3⟩:=aa.k2 e2 e3;replace r0:=aa.RB 3 e2;replace r1:=aa.O 1;obtain ⟨r2,r9⟩:=aa.z2 2 9;refine wp_ret ?_;refine rp ?_;refine py (fn:=Tryz.f62) rfl ab.defers e2 r0 az ak rfl ?_;exact ⟨_,rfl,ab.ext0,(r2.e (by omega) (by omega)).out,CS hqts1_ (by omega)⟩
 try simp only [ah] at hc2
 refine wp_skip ?_;refine wp_seq (fX ab [jb r0,jo r1,jz 2 r2,jz 9 r9] ⟨ao e3,aq fun c=>eW (cells:=#[(aj 1),(bc (⟨#[]⟩:ByteArray)),(aE false),(.slice none 0 0),(aj 0),(aj 0),(aE false),kv0.v]) rfl aD (iT rfl (c.n 0 rfl) rfl),cp (cx:=[(aj 1),(bc (⟨#[]⟩:ByteArray)),(aE false),(.slice none 0 0),(aj 0),(aj 0),(aE false),kv0.v]) (off:=0) ak fun c=>⟨c.bp 0 rfl e2,c.ad ((c.p e2).trans r0.ptr) e2 rfl,(c.q 1)⟩,av⟩ fun ac ag ae ab aa=> ?_);replace e2:=aa.k1 e2;replace r0:=aa.RB 2 e2;replace r1:=aa.O 1;obtain ⟨r2,r9⟩:=aa.z2 2 9;refine wp_ret ?_;refine rp ?_;refine py (fn:=Tryz.f62) rfl ab.defers e2 r0 az ak rfl ?_;exact ⟨⟨1,⟨#[]⟩,false,Sv.nil,[],0,0,false,kv0,ts1_⟩,rfl,ab.ext0,yx r1 (fun g h=> .inr (ab.bnd _ _ h).1) r2.outs,by rw [CT];exact Am hqts1_ (by omega) (by omega)⟩
end
section
open Go.RowKit
open Srt
set_option maxRecDepth 100000 in
theorem HF (t:Tr) (p:Addr) (v:Value) (ks:List Int) (w:World) (hc:w.cell? p=some v) (hS:SlT lM w v ks):Calls Tryz.prog 125 #[(ta t),(.pointer (some p))] w (fun e w'=>e= .returned (aE (ks.any fun y=>decide (t.k=y)))∧Ext aW w w'):=by
 refine enter (n:=8) Tryz.func125 rfl rfl (aw rfl) ?_;intro a0 τ0 ha st0;have e0:be a0 0=(ta t):=ha 0 _ rfl;have e1:be a0 1=(.pointer (some p)):=ha 1 _ rfl;clear ha;refine wp_seq (rg [box _ _ 0 2 (tc t),_] [0,0] st0 [] ⟨hH (v:=(ta t)) rfl rfl rfl rfl rfl (fun _ _ _ _ c=>(c.p e0)),aq fun c=>ax rfl rfl,av⟩ fun ac ag ae ab aa=> ?_);obtain ⟨b1x2,e2⟩:=gx ac 2;replace e1:=aa.k1 e1;have e3:=aa.V 1;have r0:=aa.rb 0 e2 rfl;refine wp_seq (vO [0,0,2,7,15] ab [jb r0] ⟨aq fun c=>aI rfl ig (c.p e1) ((ab.ext.trans c.J.ext).cellAt hc),cK aJ aA e2 r0.ptr,fE aN 1 0 0,eE fun c=>⟨_,_,(ck rfl rfl Tryz.call126 (c.q 0) (c.q 2)),Fx v ks t.k _ (hS.at (ab.ext.trans c.J.ext))⟩,aK 3,av⟩ fun ac ag ae ab aa=> ?_);have e3:=aa.V 4;refine wp_ret ?_;refine rp ?_;refine cO (fn:=Tryz.f125) rfl ab.defers e3 ?_;exact ⟨rfl,ab.ext0⟩
set_option maxRecDepth 100000 in
theorem JB (v cap:Value) (ts:List Tr) (q:Tr→Bool) (w:World) (hf:∀t ∈ ts,∀w2:World,Ext aW w w2→Calls Tryz.prog 125 #[t.v,cap] w2 (fun e w3=>e= .returned (aE (q t))∧Ext aW w2 w3)) (hS:SlT lY w v ts):Calls Tryz.prog 142 #[v,(.func (.func 125) #[] #[cap])] w (fun e w'=>e= .returned (aj (IX q ts))∧Ext aW w w'):=by
 refine enter (n:=19) Tryz.func142 rfl rfl (aw rfl) ?_;intro a0 τ0 ha st0;obtain ⟨e0,e1⟩:=qG ha;have hle:=hS.le;refine wp_seq (eK st0 [] ⟨aq fun c=>ax rfl rfl,av⟩ fun ac ag ae ab aa=> ?_);obtain ⟨e0,e1⟩:=aa.k2 e0 e1;have e4:=aa.V 0;refine wp_seq ?_;refine wp_seq (sf [0,1,0] ab [] ⟨ao e0,aq fun c=>dk rfl aU (c.q 0) hS.sl,aq fun c=>aS rfl rfl,av⟩ fun a2 w2 τ2 st2 f2=> ?_);obtain ⟨e0,e1,e4⟩:=f2.k3 e0 e1 e4;have e7:=f2.V 1;have e8:=f2.V 2;refine wp_block ?_;refine wp_loop (fun a_ w_=>∃(k:Nat) (τ:Nat→bj),(k≤ts.length)∧
      (∀y ∈ ts.take k,q y=false)∧
      St (Nw w) w 19 a_ w_ τ∧
      be a_ 8=(aj (k:Int))∧
      be a_ 0=v∧
      be a_ 1=(.func (.func 125) #[] #[cap])∧
      be a_ 7=(aj (ts.length:Int))) (fun a_ _=>ts.length - (intOf (be a_ 8)).toNat) ?_ ?_
 · refine ⟨0,τ2,?_,?_,st2,(e8.trans (bB (by omega))),e0,e1,e7⟩
   · omega
   · simp
 intro a3 w3 hI;obtain ⟨k,τ3,q0,q1,st3,e8,e0,e1,e7⟩:=hI;have m8:=e8;refine wp_seq (eK st3 [] ⟨aq fun c=>cW rfl (c.p e8) (c.p e7),av⟩ fun ac ag ae ab aa=> ?_);obtain ⟨e0,e1,e7,e8⟩:=aa.k4 e0 e1 e7 e8;have e9:=aa.V 0;refine wp_seq ?_;refine wp_cond_split e9 (fun hc1=> ?_) (fun hc1=> ?_)
 · try simp only [ai] at hc1
   refine wp_skip ?_;refine wp_seq ?_;refine wp_block ?_;refine wp_seq (eA ab [] ⟨ao e8,aK 0,av⟩ fun ac ag ae ab aa=> ?_);obtain ⟨e0,e1,e7,e8,e9⟩:=aa.k5 e0 e1 e7 e8 e9;have e5:=aa.V 1;refine wp_seq (Hm [0,0,0,6,14,31] ab [] ⟨ao e1,ao e0,ao e5,aq fun c=>aX rfl aU ak (c.q 1) hS.sl (c.q 2) (by omega) (by omega),aq fun c=>cq (vs:=(tc (nth ts (k:Int)))) rfl az ak (c.q 3) rfl (fun _ _ hj=>(hS.at (ab.ext.trans c.J.ext)).elem (bF (i:=(k:Int)) (by omega) (by omega)) hj),eE fun c=>⟨_,_,(Fb rfl (c.q 0) Tryz.call125 (c.q 4)),hf _ (bN (by omega) (by omega)) _ (ab.ext.trans c.J.ext).fresh⟩,av⟩ fun ac ag ae ab aa=> ?_);obtain ⟨e0,e1,e5,e7,e8,e9⟩:=aa.k6 e0 e1 e5 e7 e8 e9;have e16:=aa.V 5;refine wp_cond_split e16 (fun hc2=> ?_) (fun hc2=> ?_)
   · have hd2:=hc2;skip;refine wp_seq (eA ab [] ⟨ao e5,aK 0,av⟩ fun ac ag ae ab aa=> ?_);obtain ⟨e0,e1,e5,e7,e8,e9,e16⟩:=aa.k7 e0 e1 e5 e7 e8 e9 e16;have e4:=aa.V 1;refine wp_ret ?_;refine rp ?_;refine cO (fn:=Tryz.f142) rfl ab.defers e4 ?_;exact ⟨congrArg _ (bB (by first | exact (yw (f:=q) (by omega) q1 (by assumption)).symm | exact (vn (f:=q) (k:=k) (by omega) q1).symm)),ab.ext0⟩
   have hd2:=hc2;skip;refine wp_skip ?_;show _;refine eA ab [] ⟨aq fun c=>cN rfl (c.p e8) rfl (by omega),bD 0,av⟩ fun ac ag ae ab aa=> ?_;obtain ⟨e0,e1,e5,e7,e9,e16⟩:=aa.k6 e0 e1 e5 e7 e9 e16;have e8:=aa.V 1;refine ⟨⟨k+1,ae,?_,?_,ab,(e8.trans (bB (by omega))),e0,e1,e7⟩,?_⟩
   · omega
   · exact CM (f:=q) (by omega) q1 (by assumption)
   · simp only [m8,e8,intOf];omega
 try simp only [ah,aV] at hc1
 refine wp_exit ?_;repeat (with_reducible refine cy ?_)
 refine cC ?_;refine wp_seq (eK ab [] ⟨aq fun c=>ax rfl rfl,av⟩ fun ac ag ae ab aa=> ?_);have e4:=aa.V 0;refine wp_ret ?_;refine rp ?_;refine cO (fn:=Tryz.f142) rfl ab.defers e4 ?_;exact ⟨congrArg _ (bB (by first | exact (yw (f:=q) (by omega) q1 (by assumption)).symm | exact (vn (f:=q) (k:=k) (by omega) q1).symm)),ab.ext0⟩
set_option maxRecDepth 100000 in
theorem HG (v cap:Value) (ts:List Tr) (q:Tr→Bool) (w:World) (hf:∀t ∈ ts,∀w2:World,Ext aW w w2→Calls Tryz.prog 125 #[t.v,cap] w2 (fun e w3=>e= .returned (aE (q t))∧Ext aW w2 w3)) (hS:SlT lY w v ts):Calls Tryz.prog 124 #[v,(.func (.func 125) #[] #[cap])] w (fun e w'=>e= .returned (aE (ts.any q))∧Ext aW w w'):=by
 refine enter (n:=9) Tryz.func124 rfl rfl (aw rfl) ?_;intro a0 τ0 ha st0;obtain ⟨e0,e1⟩:=qG ha;have hle:=hS.le;refine wp_seq (eK st0 [] ⟨aq fun c=>ax rfl rfl,av⟩ fun ac ag ae ab aa=> ?_);obtain ⟨e0,e1⟩:=aa.k2 e0 e1;have e4:=aa.V 0;refine wp_seq (vO [0,0,3,7,15] ab [] ⟨ao e0,ao e1,eE fun c=>⟨_,_,(ck rfl rfl Tryz.call142 (c.q 0) (c.q 1)),JB v cap ts q _ (fun t_ h_ w2_ he_=>hf t_ h_ w2_ ((ab.ext.trans c.J.ext).fresh.trans he_)) (hS.at (ab.ext.trans c.J.ext))⟩,aq fun c=>iC rfl (c.q 2) rfl,aK 3,av⟩ fun a2 w2 τ2 st2 f2=> ?_);have e4:=f2.V 4;refine wp_ret ?_;refine rp ?_;refine cO (fn:=Tryz.f124) rfl st2.defers e4 ?_;exact ⟨congrArg _ (congrArg _ (Fv _ _)),st2.ext0⟩
set_option maxRecDepth 100000 in
theorem JC (v:Value) (u:Sv) (ts:List Tr) (ks:List Int) (w:World) (hS:SlT lY w v ts) (hU:SlT lM w u.v ks):Calls Tryz.prog 102 #[v,u.v] w (fun e w'=>e= .returned (aE (ts.any fun x=>ks.any fun y=>decide (x.k=y)))∧Ext aW w w'):=by
 refine enter (n:=8) Tryz.func102 rfl rfl (aw rfl) ?_;intro a0 τ0 ha st0;obtain ⟨e0,e1⟩:=qG ha;have hle:=hS.le;refine wp_seq (rg [box _ _ 0 3 [u.v],_] [0,0] st0 [] ⟨hH (v:=u.v) rfl rfl rfl rfl rfl (fun _ _ _ _ c=>(c.p e1)),aq fun c=>ax rfl rfl,av⟩ fun ac ag ae ab aa=> ?_);obtain ⟨b1x3,e3⟩:=gx ac 3;replace e0:=aa.k1 e0;have e4:=aa.V 1;have r0:=aa.rb 0 e3 rfl;refine wp_seq ?_;refine lr [0,0,3,7] ab [jb r0] ⟨ao e0,aq fun c=>uM rfl (c.p e3),eE fun c=>⟨_,_,(ck rfl rfl Tryz.call124 (c.q 0) (c.q 1)),HG v b1x3 ts (fun x_=>(ks).any fun y_=>decide (x_.k=y_)) _ (fun t_ _ w2_ he_=>by rw [(c.ib 0 rfl).ptr];exact HF t_ _ u.v ks w2_ (he_.cell_some ((c.ib 0 rfl).cell (j:=0) rfl) (fun h=>h)) ((hU.at (ab.ext.trans c.J.ext)).keep he_ (fun _ h=>h))) (hS.at (ab.ext.trans c.J.ext))⟩,aK 2,av⟩ fun ac ag ae ab aa=> ?_;have e4:=aa.V 3;refine wp_ret ?_;refine rp ?_;refine cO (fn:=Tryz.f102) rfl ab.defers e4 ?_;exact ⟨rfl,ab.ext0⟩
end
section
open Go.RowKit
open Srt
theorem CV (v u:Value) (ts:List Tr) (ks:List Int) (w:World) (hS:SlT lY w v ts) (hU:SlT lM w u ks):Calls Tryz.prog 102 #[v,u] w (fun e w'=>e= .returned (.bool (ts.any fun x=>ks.any fun y=>decide (x.k=y)))∧Ext aW w w'):=by
  obtain ⟨s,rfl⟩:=hU.sl.sv;exact JC v s ts ks w hS hU
theorem FI {t:Tr} (h:fc t≤1000000):wd t.rows:=fun r hr=>by
  have h1:=HC hr;have h2:=ns t;have h3:0≤dH (t.kids.map fc):=kM fun x hx=>by
    obtain ⟨k,hk,rfl⟩:=List.mem_map.1 hx;have:=nF k;omega
  omega
def sg (t:Tr) (ks:List Int):Bool:=(t.kids).any fun x_=>ks.any fun y_=>decide (x_.k=y_)
def pH (t:Tr):Bool:=oj t.ch t.ng t.rows t.mn t.mx t.lz
def dZ (t:Tr):Bool:=
  if t.k=2 then (oj (⟨#[]⟩:ByteArray) t.ng t.rows t.mn t.mx t.lz&&decide ((t.kids.length:Int)=0))&&fY t.ch
  else if t.k=4 then (oj t.ch false [] t.mn t.mx t.lz&&decide ((t.kids.length:Int)=0))&&pb t.rows
  else if t.k=7 then ((((oj t.ch t.ng t.rows 0 0 false&&decide ((t.kids.length:Int)=1))&&qg (nth t.kids 0).k)&&decide (0≤t.mn))&&decide (t.mn≤255))&&(decide (t.mx= -1) || (decide (t.mn≤t.mx)&&decide (t.mx≤255)))
  else if t.k=0 then (pH t&& !decide ((t.kids.length:Int)=1))&& !sg t [0,1]
  else if t.k=1 then (pH t&&decide (1 < (t.kids.length:Int)))&& !sg t [1]
  else if t.k=5∨t.k=6 then pH t&&decide ((t.kids.length:Int)=1)
  else if t.k=3∨t.k=8∨t.k=9∨t.k=10∨t.k=11 then pH t&&decide ((t.kids.length:Int)=0)
  else false
set_option maxRecDepth 100000 in
theorem Ap (t:Tr) (w:World) (hT:oO w t) (hP:fc t≤1000000):Calls Tryz.prog 77 #[(ta t)] w (fun e w'=>e= .returned (aE (dZ t))∧Ext aW w w'):=by
 refine enter (n:=149) Tryz.func77 rfl rfl (aw rfl) ?_;intro a0 τ0 ha st0;have e0:be a0 0=(ta t):=ha 0 _ rfl;clear ha;have hle:=hT.kids.le;have hle2:=hT.rows.le;have hwt:=fG t;have hsm:=FI hP;refine wp_seq (rg [box _ _ 0 1 (tc t),_] [0,0] st0 [] ⟨hH (v:=(ta t)) rfl rfl rfl rfl rfl (fun _ _ _ _ c=>(c.p e0)),aq fun c=>ax rfl rfl,av⟩ fun ac ag ae ab aa=> ?_);obtain ⟨b1x1,e1⟩:=gx ac 1;have e2:=aa.V 1;have r0:=aa.rb 0 e1 rfl;refine wp_seq ?_;refine wp_seq (eA ab [jb r0] ⟨cK aJ aA e1 r0.ptr,fE aN 0 0 0,av⟩ fun ac ag ae ab aa=> ?_);obtain ⟨e1,e2⟩:=aa.k2 e1 e2;have e8:=aa.V 1;replace r0:=aa.B 0;refine wp_block ?_;refine wp_seq (eA ab [jb r0] ⟨aq fun c=>cY rfl (c.p e8) rfl,aK 0,av⟩ fun ac ag ae ab aa=> ?_);obtain ⟨e1,e2,e8⟩:=aa.k3 e1 e2 e8;have e9:=aa.V 1;replace r0:=aa.B 0;refine wp_cond_split e9 (fun hc1=> ?_) (fun hc1=> ?_)
 · try simp only [ai] at hc1
   refine wp_seq (fX ab [jb r0] ⟨cK aJ cf e1 r0.ptr,fE cJ 0 0 1,aK 1,av⟩ fun ac ag ae ab aa=> ?_);obtain ⟨e1,e2,e8⟩:=aa.k3 e1 e2 e8;have e3:=aa.V 2;replace r0:=aa.B 0;refine wp_seq (eA ab [jb r0] ⟨cK aJ cf e1 r0.ptr,cp (cx:=[(aj t.k),(bc (⟨#[]⟩:ByteArray)),(aE t.ng),t.rv.v,(aj t.mn),(aj t.mx),(aE t.lz),t.kv.v]) (v:=(bc (⟨#[]⟩:ByteArray))) cf fun c=>⟨c.bp 0 rfl e1,c.ad (c.q 0) e1 rfl,rfl⟩,av⟩ fun ac ag ae ab aa=> ?_);obtain ⟨e1,e2,e3,e8⟩:=aa.k4 e1 e2 e3 e8;replace r0:=aa.RB 1 e1;refine wp_seq ?_;refine rg [_,_,_,_,_,_,_,_,_,_,_,_,_] [0,1,3,7,15,31,63,127,255,511,1023,2047,4095] ab [jb r0] ⟨aq fun c=>dY rfl az ak ((c.p e1).trans r0.ptr) (c.B 0),eE fun c=>⟨_,_,(bK rfl rfl iS (c.q 0)),nr t.k (⟨#[]⟩:ByteArray) t.ng t.rv.v t.rows t.mn t.mx t.lz t.kv.v rfl _ (hT.at (ab.ext.trans c.J.ext)).rows⟩,bD 1,aL 2 rfl fun c hpc=>dh rfl aJ cR ((c.p e1).trans r0.ptr),aL 2 rfl fun c hpc=>aI rfl dG (c.M 3 hpc) ((c.B 0).cell (j:=7) rfl),aL 2 rfl fun c hpc=>dk rfl aU (c.M 4 hpc) (hT.at ab.ext).tl.sl.sl,aL 2 rfl fun c hpc=>cY rfl (c.M 5 hpc) rfl,bZ 2 6,bD 7,aL 8 rfl fun c hpc=>aS rfl (c.p e3),fC 8 true rfl fun c hpc=>⟨_,_,(bK rfl rfl oE (c.M 9 hpc)),qZ t.ch _ (by have hq0:=hpc;(try simp only [au,ai] at hq0);omega)⟩,bZ 8 10,aK 11,av⟩ fun ac ag ae ab aa=> ?_;obtain ⟨e1,e8⟩:=aa.k2 e1 e8;have e2:=aa.V 12;replace r0:=aa.B 0;refine wp_ret ?_;refine rp ?_;refine cO (fn:=Tryz.f77) rfl ab.defers e2 ?_;exact ⟨congrArg _ (congrArg _ (by unfold dZ;(repeat (first | rw [if_neg (by omega)] | rw [if_pos (by omega)]));(try rfl))),ab.ext0⟩
 try simp only [ah] at hc1
 refine wp_seq (eA ab [jb r0] ⟨aq fun c=>cY rfl (c.p e8) rfl,aK 0,av⟩ fun ac ag ae ab aa=> ?_);obtain ⟨e1,e2,e8⟩:=aa.k3 e1 e2 e8;have e26:=aa.V 1;replace r0:=aa.B 0;refine wp_cond_split e26 (fun hc2=> ?_) (fun hc2=> ?_)
 · try simp only [ai] at hc2
   refine wp_seq (fX ab [jb r0] ⟨cK aJ fl e1 r0.ptr,fE jk 0 0 3,aK 1,av⟩ fun ac ag ae ab aa=> ?_);obtain ⟨e1,e2,e8⟩:=aa.k3 e1 e2 e8;have e4:=aa.V 2;replace r0:=aa.B 0;refine wp_seq ?_;refine aY ?_;refine bV 3 (by kernel_rfl) ?_;refine og [_,_,_] [0,1,3] ab [jb r0] ⟨cK aJ fl e1 r0.ptr,cp (cx:=[(aj t.k),(bc t.ch),(aE t.ng),(.slice none 0 0),(aj t.mn),(aj t.mx),(aE t.lz),t.kv.v]) (v:=(.slice none 0 0)) fl fun c=>⟨c.bp 0 rfl e1,c.ad (c.q 0) e1 rfl,rfl⟩,cK aJ cj e1 r0.ptr,av⟩ fun ac ag ae ab aa=> ?_;obtain ⟨e1,e2,e4,e8⟩:=aa.k4 e1 e2 e4 e8;have e31:=aa.V 2;replace r0:=aa.RB 1 e1;refine bW ?_;refine og [_] [0] ab [jb r0] ⟨cp (cx:=[(aj t.k),(bc t.ch),(aE false),(.slice none 0 0),(aj t.mn),(aj t.mx),(aE t.lz),t.kv.v]) (v:=(aE false)) cj fun c=>⟨c.bp 0 rfl e1,c.ad (c.p e31) e1 rfl,rfl⟩,av⟩ fun ac ag ae ab aa=> ?_;obtain ⟨e1,e2,e4,e8⟩:=aa.k4 e1 e2 e4 e8;replace r0:=aa.RB 0 e1;refine wp_seq ?_;refine rg [_,_,_,_,_,_,_,_,_,_,_,_,_] [0,1,3,7,15,31,63,127,255,511,1023,2047,4095] ab [jb r0] ⟨aq fun c=>dY rfl az ak ((c.p e1).trans r0.ptr) (c.B 0),eE fun c=>⟨_,_,(bK rfl rfl iS (c.q 0)),nr t.k t.ch false (.slice none 0 0) [] t.mn t.mx t.lz t.kv.v rfl _ (SlT.nil _ _)⟩,bD 1,aL 2 rfl fun c hpc=>dh rfl aJ cR ((c.p e1).trans r0.ptr),aL 2 rfl fun c hpc=>aI rfl dG (c.M 3 hpc) ((c.B 0).cell (j:=7) rfl),aL 2 rfl fun c hpc=>dk rfl aU (c.M 4 hpc) (hT.at ab.ext).tl.sl.sl,aL 2 rfl fun c hpc=>cY rfl (c.M 5 hpc) rfl,bZ 2 6,bD 7,aL 8 rfl fun c hpc=>aS rfl (c.p e4),fC 8 true rfl fun c hpc=>⟨_,_,(bK rfl rfl Tryz.call100 (c.M 9 hpc)),JA t.rv.v t.rows _ (hT.at (ab.ext.trans c.J.ext)).rows (by first | assumption | (unfold wd;decide)) (by have hq0:=hpc;(try simp only [au,ai] at hq0);omega)⟩,bZ 8 10,aK 11,av⟩ fun ac ag ae ab aa=> ?_;obtain ⟨e1,e8⟩:=aa.k2 e1 e8;have e2:=aa.V 12;replace r0:=aa.B 0;refine wp_ret ?_;refine rp ?_;refine cO (fn:=Tryz.f77) rfl ab.defers e2 ?_;exact ⟨congrArg _ (congrArg _ (by unfold dZ;(repeat (first | rw [if_neg (by omega)] | rw [if_pos (by omega)]));(try rfl))),ab.ext0⟩
 try simp only [ah] at hc2
 refine wp_seq (eA ab [jb r0] ⟨aq fun c=>cY rfl (c.p e8) rfl,aK 0,av⟩ fun ac ag ae ab aa=> ?_);obtain ⟨e1,e2,e8⟩:=aa.k3 e1 e2 e8;have e44:=aa.V 1;replace r0:=aa.B 0;refine wp_cond_split e44 (fun hc3=> ?_) (fun hc3=> ?_)
 · try simp only [ai] at hc3
   refine wp_seq (Hm [0,1,0,4,3,31] ab [jb r0] ⟨cK aJ aA e1 r0.ptr,fE aN 0 0 4,cK aJ aA e1 r0.ptr,fE aN 2 0 5,aK 1,aK 3,av⟩ fun ac ag ae ab aa=> ?_);obtain ⟨e1,e2,e8⟩:=aa.k3 e1 e2 e8;have e5:=aa.V 4;have e6:=aa.V 5;replace r0:=aa.B 0;refine wp_seq ?_;refine aY ?_;refine bV 3 (by kernel_rfl) ?_;refine og [_,_,_] [0,1,3] ab [jb r0] ⟨cK aJ aA e1 r0.ptr,cp (cx:=[(aj t.k),(bc t.ch),(aE t.ng),t.rv.v,(aj 0),(aj t.mx),(aE t.lz),t.kv.v]) (v:=(aj 0)) aA fun c=>⟨c.bp 0 rfl e1,c.ad (c.q 0) e1 rfl,rfl⟩,cK aJ aA e1 r0.ptr,av⟩ fun ac ag ae ab aa=> ?_;obtain ⟨e1,e2,e5,e6,e8⟩:=aa.k5 e1 e2 e5 e6 e8;have e51:=aa.V 2;replace r0:=aa.RB 1 e1;refine bW ?_;refine bV 2 (by kernel_rfl) ?_;refine og [_,_] [0,1] ab [jb r0] ⟨cp (cx:=[(aj t.k),(bc t.ch),(aE t.ng),t.rv.v,(aj 0),(aj 0),(aE t.lz),t.kv.v]) (v:=(aj 0)) aA fun c=>⟨c.bp 0 rfl e1,c.ad (c.p e51) e1 rfl,rfl⟩,cK aJ cj e1 r0.ptr,av⟩ fun ac ag ae ab aa=> ?_;obtain ⟨e1,e2,e5,e6,e8⟩:=aa.k5 e1 e2 e5 e6 e8;have e52:=aa.V 1;replace r0:=aa.RB 0 e1;refine bW ?_;refine og [_] [0] ab [jb r0] ⟨cp (cx:=[(aj t.k),(bc t.ch),(aE t.ng),t.rv.v,(aj 0),(aj 0),(aE false),t.kv.v]) (v:=(aE false)) cj fun c=>⟨c.bp 0 rfl e1,c.ad (c.p e52) e1 rfl,rfl⟩,av⟩ fun ac ag ae ab aa=> ?_;obtain ⟨e1,e2,e5,e6,e8⟩:=aa.k5 e1 e2 e5 e6 e8;replace r0:=aa.RB 0 e1;refine wp_seq ?_;refine rg [_,_,_,_,_,_,_,_,_,_,_,_,_,_,_,_,_,_,_,_,_,_,_,_,_,_,_,_,_,_,_,_,_,_,_,_,_,_] [0,1,3,7,15,31,63,127,255,511,1023,2047,4095,8191,16383,32767,65535,131071,262143,524287,1048575,2097151,4194303,8388607,16777215,33554431,67108863,134217727,268435455,268435455,1073741823,2147483647,4294967295,8589934591,17179869183,34359738367,68719476735,137438953471] ab [jb r0] ⟨aq fun c=>dY rfl az ak ((c.p e1).trans r0.ptr) (c.B 0),eE fun c=>⟨_,_,(bK rfl rfl iS (c.q 0)),nr t.k t.ch t.ng t.rv.v t.rows 0 0 false t.kv.v rfl _ (hT.at (ab.ext.trans c.J.ext)).rows⟩,bD 1,aL 2 rfl fun c hpc=>dh rfl aJ cR ((c.p e1).trans r0.ptr),aL 2 rfl fun c hpc=>aI rfl dG (c.M 3 hpc) ((c.B 0).cell (j:=7) rfl),aL 2 rfl fun c hpc=>dk rfl aU (c.M 4 hpc) (hT.at ab.ext).tl.sl.sl,aL 2 rfl fun c hpc=>cY rfl (c.M 5 hpc) rfl,bZ 2 6,bD 7,aL 8 rfl fun c hpc=>dh rfl aJ cR ((c.p e1).trans r0.ptr),aL 8 rfl fun c hpc=>aI rfl dG (c.M 9 hpc) ((c.B 0).cell (j:=7) rfl),aL 8 rfl fun c hpc=>aX rfl aU ak (c.M 10 hpc) (hT.at ab.ext).tl.sl.sl rfl (by have hq0:=hpc;(try simp only [au,ai] at hq0);omega) (by have hq0:=hpc;(try simp only [au,ai] at hq0);omega),aL 8 rfl fun c hpc=>dh rfl aJ aA (c.M 11 hpc),aL 8 rfl fun c hpc=>aI rfl aN (c.M 12 hpc) (((hT.at (ab.ext.trans c.J.ext)).tl.sl).elem (j:=0) (bF (i:=0) (by have hq0:=hpc;(try simp only [au,ai] at hq0);omega) (by have hq0:=hpc;(try simp only [au,ai] at hq0);omega)) rfl),fC 8 true rfl fun c hpc=>⟨_,_,(bK rfl rfl Tryz.call101 (c.M 13 hpc)),BB ((nth t.kids 0).k) _⟩,bZ 8 14,bD 15,aL 16 rfl fun c hpc=>aS rfl (c.p e5),aL 16 rfl fun c hpc=>iC rfl (c.M 17 hpc) rfl,bZ 16 18,bD 19,aL 20 rfl fun c hpc=>aS rfl (c.p e5),aL 20 rfl fun c hpc=>mX rfl (c.M 21 hpc) rfl,bZ 20 22,bD 23,aL 24 rfl fun c hpc=>aS rfl (c.p e6),aL 24 rfl fun c hpc=>cY rfl (c.M 25 hpc) rfl,aL 24 rfl fun c hpc=>aS rfl (c.M 26 hpc),dj 27 false rfl fun c hpc=>aS rfl (c.p e6),dj 27 false rfl fun c hpc=>aS rfl (c.p e5),dj 27 false rfl fun c hpc=>iC rfl (c.M 28 hpc) (c.M 29 hpc),dj 27 false rfl fun c hpc=>aS rfl (c.M 30 hpc),dj 31 true rfl fun c hpc=>aS rfl (c.p e6),dj 31 true rfl fun c hpc=>mX rfl (c.M 32 hpc) rfl,dj 27 false rfl fun c hpc=>oK rfl (c.M 31 hpc) (fun h=>c.m 33 rfl (And.intro hpc h)),aL 24 rfl fun c hpc=>pT rfl (c.M 27 hpc) (fun h=>c.m 34 rfl (And.intro hpc h)),bZ 24 35,aK 36,av⟩ fun ac ag ae ab aa=> ?_;obtain ⟨e1,e8⟩:=aa.k2 e1 e8;have e2:=aa.V 37;replace r0:=aa.B 0;refine wp_ret ?_;refine rp ?_;refine cO (fn:=Tryz.f77) rfl ab.defers e2 ?_;exact ⟨congrArg _ (congrArg _ (by unfold dZ;(repeat (first | rw [if_neg (by omega)] | rw [if_pos (by omega)]));(try rfl))),ab.ext0⟩
 try simp only [ah] at hc3
 refine wp_seq (eA ab [jb r0] ⟨aq fun c=>cY rfl (c.p e8) rfl,aK 0,av⟩ fun ac ag ae ab aa=> ?_);obtain ⟨e1,e2,e8⟩:=aa.k3 e1 e2 e8;have e90:=aa.V 1;replace r0:=aa.B 0;refine wp_cond_split e90 (fun hc4=> ?_) (fun hc4=> ?_)
 · try simp only [ai] at hc4
   refine wp_seq (rg [_,_,_,_,_,_,_,_,_,_,_,gown (((oj t.ch t.ng t.rows t.mn t.mx t.lz)&&(!decide ((t.kids.length:Int)=1)))=true) lM 3 (Nw w) 1 103 ([0,1]),_,_,_,_] [0,1,3,7,15,31,63,127,255,511,1023,511,4095,8191,16383,32767] ab [jb r0] ⟨aq fun c=>dY rfl az ak ((c.p e1).trans r0.ptr) (c.B 0),eE fun c=>⟨_,_,(bK rfl rfl iS (c.q 0)),nr t.k t.ch t.ng t.rv.v t.rows t.mn t.mx t.lz t.kv.v rfl _ (hT.at (ab.ext.trans c.J.ext)).rows⟩,bD 1,aL 2 rfl fun c hpc=>dh rfl aJ cR ((c.p e1).trans r0.ptr),aL 2 rfl fun c hpc=>aI rfl dG (c.M 3 hpc) ((c.B 0).cell (j:=7) rfl),aL 2 rfl fun c hpc=>dk rfl aU (c.M 4 hpc) (hT.at ab.ext).tl.sl.sl,aL 2 rfl fun c hpc=>fh rfl (c.M 5 hpc) rfl,bZ 2 6,bD 7,aL 8 rfl fun c hpc=>dh rfl aJ cR ((c.p e1).trans r0.ptr),aL 8 rfl fun c hpc=>aI rfl dG (c.M 9 hpc) ((c.B 0).cell (j:=7) rfl),ym (gi:=8) (tg:=100) rfl rfl rfl rfl rfl rfl Iff.rfl (fun hpc=>dt (cells:=#[(aj 0),(aj 1)]) rfl rfl rfl rfl cE aA jJ rfl (by decide) (by decide) (fun _ _ _ _ c=>iT rfl rfl (by kernel_rfl)) rfl),fC 8 true rfl fun c hpc=>⟨_,_,(ck rfl rfl Tryz.call102 (c.M 10 hpc) (mg _ 103)),CV t.kv.v _ t.kids [0,1] _ (hT.at (ab.ext.trans c.J.ext)).tl.sl (c.rg 11 rfl hpc).1.sl⟩,aL 8 rfl fun c hpc=>ew rfl (c.M 12 hpc),bZ 8 13,aK 14,av⟩ fun ac ag ae ab aa=> ?_);obtain ⟨e1,e8⟩:=aa.k2 e1 e8;have e2:=aa.V 15;replace r0:=aa.B 0;refine wp_ret ?_;refine rp ?_;refine cO (fn:=Tryz.f77) rfl ab.defers e2 ?_;exact ⟨congrArg _ (congrArg _ (by unfold dZ;(repeat (first | rw [if_neg (by omega)] | rw [if_pos (by omega)]));(try rfl))),ab.ext0⟩
 try simp only [ah] at hc4
 refine wp_seq (eA ab [jb r0] ⟨aq fun c=>cY rfl (c.p e8) rfl,aK 0,av⟩ fun ac ag ae ab aa=> ?_);obtain ⟨e1,e2,e8⟩:=aa.k3 e1 e2 e8;have e107:=aa.V 1;replace r0:=aa.B 0;refine wp_cond_split e107 (fun hc5=> ?_) (fun hc5=> ?_)
 · try simp only [ai] at hc5
   refine wp_seq (rg [_,_,_,_,_,_,_,_,_,_,_,gown (((oj t.ch t.ng t.rows t.mn t.mx t.lz)&&(decide (1 < (t.kids.length:Int))))=true) lM 3 (Nw w) 1 120 ([1]),_,_,_,_] [0,1,3,7,15,31,63,127,255,511,1023,511,4095,8191,16383,32767] ab [jb r0] ⟨aq fun c=>dY rfl az ak ((c.p e1).trans r0.ptr) (c.B 0),eE fun c=>⟨_,_,(bK rfl rfl iS (c.q 0)),nr t.k t.ch t.ng t.rv.v t.rows t.mn t.mx t.lz t.kv.v rfl _ (hT.at (ab.ext.trans c.J.ext)).rows⟩,bD 1,aL 2 rfl fun c hpc=>dh rfl aJ cR ((c.p e1).trans r0.ptr),aL 2 rfl fun c hpc=>aI rfl dG (c.M 3 hpc) ((c.B 0).cell (j:=7) rfl),aL 2 rfl fun c hpc=>dk rfl aU (c.M 4 hpc) (hT.at ab.ext).tl.sl.sl,aL 2 rfl fun c hpc=>ii rfl (c.M 5 hpc) rfl,bZ 2 6,bD 7,aL 8 rfl fun c hpc=>dh rfl aJ cR ((c.p e1).trans r0.ptr),aL 8 rfl fun c hpc=>aI rfl dG (c.M 9 hpc) ((c.B 0).cell (j:=7) rfl),ym (gi:=8) (tg:=117) rfl rfl rfl rfl rfl rfl Iff.rfl (fun hpc=>dt (cells:=#[(aj 1)]) rfl rfl rfl rfl cE aA jJ rfl (by decide) (by decide) (fun _ _ _ _ c=>gB rfl (by kernel_rfl)) rfl),fC 8 true rfl fun c hpc=>⟨_,_,(ck rfl rfl Tryz.call102 (c.M 10 hpc) (mg _ 120)),CV t.kv.v _ t.kids [1] _ (hT.at (ab.ext.trans c.J.ext)).tl.sl (c.rg 11 rfl hpc).1.sl⟩,aL 8 rfl fun c hpc=>ew rfl (c.M 12 hpc),bZ 8 13,aK 14,av⟩ fun ac ag ae ab aa=> ?_);obtain ⟨e1,e8⟩:=aa.k2 e1 e8;have e2:=aa.V 15;replace r0:=aa.B 0;refine wp_ret ?_;refine rp ?_;refine cO (fn:=Tryz.f77) rfl ab.defers e2 ?_;exact ⟨congrArg _ (congrArg _ (by unfold dZ;(repeat (first | rw [if_neg (by omega)] | rw [if_pos (by omega)]));(try rfl))),ab.ext0⟩
 try simp only [ah] at hc5
 refine wp_seq ?_;refine wp_seq (eA ab [jb r0] ⟨aq fun c=>cY rfl (c.p e8) rfl,aK 0,av⟩ fun ac ag ae ab aa=> ?_);obtain ⟨e1,e2,e8⟩:=aa.k3 e1 e2 e8;have e124:=aa.V 1;replace r0:=aa.B 0;refine wp_cond_split e124 (fun hc6=> ?_) (fun hc6=> ?_)
 · have hd6:=hc6;try simp only [ai] at hd6
   refine wp_skip ?_;refine wp_cond_true (e124.trans (congrArg _ hc6)) ?_;refine wp_seq (xD [0,1,3,7,15,31,63,127,255] ab [jb r0] ⟨aq fun c=>dY rfl az ak ((c.p e1).trans r0.ptr) (c.B 0),eE fun c=>⟨_,_,(bK rfl rfl iS (c.q 0)),nr t.k t.ch t.ng t.rv.v t.rows t.mn t.mx t.lz t.kv.v rfl _ (hT.at (ab.ext.trans c.J.ext)).rows⟩,bD 1,aL 2 rfl fun c hpc=>dh rfl aJ cR ((c.p e1).trans r0.ptr),aL 2 rfl fun c hpc=>aI rfl dG (c.M 3 hpc) ((c.B 0).cell (j:=7) rfl),aL 2 rfl fun c hpc=>dk rfl aU (c.M 4 hpc) (hT.at ab.ext).tl.sl.sl,aL 2 rfl fun c hpc=>cY rfl (c.M 5 hpc) rfl,bZ 2 6,aK 7,av⟩ fun ac ag ae ab aa=> ?_);obtain ⟨e1,e8⟩:=aa.k2 e1 e8;have e2:=aa.V 8;replace r0:=aa.B 0;refine wp_ret ?_;refine rp ?_;refine cO (fn:=Tryz.f77) rfl ab.defers e2 ?_;exact ⟨congrArg _ (congrArg _ (by unfold dZ;(repeat (first | rw [if_neg (by omega)] | rw [if_pos (by omega)]));(try rfl))),ab.ext0⟩
 have hd7:=hc6;try simp only [ah] at hd7
 refine eA ab [jb r0] ⟨aq fun c=>cY rfl (c.p e8) rfl,aK 0,av⟩ fun ac ag ae ab aa=> ?_;obtain ⟨e1,e2,e8⟩:=aa.k3 e1 e2 e8;have e124:=aa.V 1;replace r0:=aa.B 0;refine wp_cond_split e124 (fun hc8=> ?_) (fun hc8=> ?_)
 · have hd8:=hc8;try simp only [ai] at hd8
   refine wp_seq (xD [0,1,3,7,15,31,63,127,255] ab [jb r0] ⟨aq fun c=>dY rfl az ak ((c.p e1).trans r0.ptr) (c.B 0),eE fun c=>⟨_,_,(bK rfl rfl iS (c.q 0)),nr t.k t.ch t.ng t.rv.v t.rows t.mn t.mx t.lz t.kv.v rfl _ (hT.at (ab.ext.trans c.J.ext)).rows⟩,bD 1,aL 2 rfl fun c hpc=>dh rfl aJ cR ((c.p e1).trans r0.ptr),aL 2 rfl fun c hpc=>aI rfl dG (c.M 3 hpc) ((c.B 0).cell (j:=7) rfl),aL 2 rfl fun c hpc=>dk rfl aU (c.M 4 hpc) (hT.at ab.ext).tl.sl.sl,aL 2 rfl fun c hpc=>cY rfl (c.M 5 hpc) rfl,bZ 2 6,aK 7,av⟩ fun ac ag ae ab aa=> ?_);obtain ⟨e1,e8⟩:=aa.k2 e1 e8;have e2:=aa.V 8;replace r0:=aa.B 0;refine wp_ret ?_;refine rp ?_;refine cO (fn:=Tryz.f77) rfl ab.defers e2 ?_;exact ⟨congrArg _ (congrArg _ (by unfold dZ;(repeat (first | rw [if_neg (by omega)] | rw [if_pos (by omega)]));(try rfl))),ab.ext0⟩
 have hd8:=hc8;try simp only [ah] at hd8
 refine wp_seq ?_;refine wp_seq (eA ab [jb r0] ⟨aq fun c=>cY rfl (c.p e8) rfl,aK 0,av⟩ fun ac ag ae ab aa=> ?_);obtain ⟨e1,e2,e8⟩:=aa.k3 e1 e2 e8;have e135:=aa.V 1;replace r0:=aa.B 0;refine wp_cond_split e135 (fun hc9=> ?_) (fun hc9=> ?_)
 · have hd9:=hc9;try simp only [ai] at hd9
   refine wp_skip ?_;refine wp_cond_true (e135.trans (congrArg _ hc9)) ?_;refine wp_seq (xD [0,1,3,7,15,31,63,127,255] ab [jb r0] ⟨aq fun c=>dY rfl az ak ((c.p e1).trans r0.ptr) (c.B 0),eE fun c=>⟨_,_,(bK rfl rfl iS (c.q 0)),nr t.k t.ch t.ng t.rv.v t.rows t.mn t.mx t.lz t.kv.v rfl _ (hT.at (ab.ext.trans c.J.ext)).rows⟩,bD 1,aL 2 rfl fun c hpc=>dh rfl aJ cR ((c.p e1).trans r0.ptr),aL 2 rfl fun c hpc=>aI rfl dG (c.M 3 hpc) ((c.B 0).cell (j:=7) rfl),aL 2 rfl fun c hpc=>dk rfl aU (c.M 4 hpc) (hT.at ab.ext).tl.sl.sl,aL 2 rfl fun c hpc=>cY rfl (c.M 5 hpc) rfl,bZ 2 6,aK 7,av⟩ fun ac ag ae ab aa=> ?_);have e2:=aa.V 8;refine wp_ret ?_;refine rp ?_;refine cO (fn:=Tryz.f77) rfl ab.defers e2 ?_;exact ⟨congrArg _ (congrArg _ (by unfold dZ;(repeat (first | rw [if_neg (by omega)] | rw [if_pos (by omega)]));(try rfl))),ab.ext0⟩
 have hd10:=hc9;try simp only [ah] at hd10
 refine wp_seq (eA ab [jb r0] ⟨aq fun c=>cY rfl (c.p e8) rfl,aK 0,av⟩ fun ac ag ae ab aa=> ?_);obtain ⟨e1,e2,e8⟩:=aa.k3 e1 e2 e8;have e135:=aa.V 1;replace r0:=aa.B 0;refine wp_cond_split e135 (fun hc11=> ?_) (fun hc11=> ?_)
 · have hd11:=hc11;try simp only [ai] at hd11
   refine wp_skip ?_;refine wp_cond_true (e135.trans (congrArg _ hc11)) ?_;refine wp_seq (xD [0,1,3,7,15,31,63,127,255] ab [jb r0] ⟨aq fun c=>dY rfl az ak ((c.p e1).trans r0.ptr) (c.B 0),eE fun c=>⟨_,_,(bK rfl rfl iS (c.q 0)),nr t.k t.ch t.ng t.rv.v t.rows t.mn t.mx t.lz t.kv.v rfl _ (hT.at (ab.ext.trans c.J.ext)).rows⟩,bD 1,aL 2 rfl fun c hpc=>dh rfl aJ cR ((c.p e1).trans r0.ptr),aL 2 rfl fun c hpc=>aI rfl dG (c.M 3 hpc) ((c.B 0).cell (j:=7) rfl),aL 2 rfl fun c hpc=>dk rfl aU (c.M 4 hpc) (hT.at ab.ext).tl.sl.sl,aL 2 rfl fun c hpc=>cY rfl (c.M 5 hpc) rfl,bZ 2 6,aK 7,av⟩ fun ac ag ae ab aa=> ?_);have e2:=aa.V 8;refine wp_ret ?_;refine rp ?_;refine cO (fn:=Tryz.f77) rfl ab.defers e2 ?_;exact ⟨congrArg _ (congrArg _ (by unfold dZ;(repeat (first | rw [if_neg (by omega)] | rw [if_pos (by omega)]));(try rfl))),ab.ext0⟩
 have hd12:=hc11;try simp only [ah] at hd12
 refine wp_seq (eA ab [jb r0] ⟨aq fun c=>cY rfl (c.p e8) rfl,aK 0,av⟩ fun ac ag ae ab aa=> ?_);obtain ⟨e1,e2,e8⟩:=aa.k3 e1 e2 e8;have e135:=aa.V 1;replace r0:=aa.B 0;refine wp_cond_split e135 (fun hc13=> ?_) (fun hc13=> ?_)
 · have hd13:=hc13;try simp only [ai] at hd13
   refine wp_skip ?_;refine wp_cond_true (e135.trans (congrArg _ hc13)) ?_;refine wp_seq (xD [0,1,3,7,15,31,63,127,255] ab [jb r0] ⟨aq fun c=>dY rfl az ak ((c.p e1).trans r0.ptr) (c.B 0),eE fun c=>⟨_,_,(bK rfl rfl iS (c.q 0)),nr t.k t.ch t.ng t.rv.v t.rows t.mn t.mx t.lz t.kv.v rfl _ (hT.at (ab.ext.trans c.J.ext)).rows⟩,bD 1,aL 2 rfl fun c hpc=>dh rfl aJ cR ((c.p e1).trans r0.ptr),aL 2 rfl fun c hpc=>aI rfl dG (c.M 3 hpc) ((c.B 0).cell (j:=7) rfl),aL 2 rfl fun c hpc=>dk rfl aU (c.M 4 hpc) (hT.at ab.ext).tl.sl.sl,aL 2 rfl fun c hpc=>cY rfl (c.M 5 hpc) rfl,bZ 2 6,aK 7,av⟩ fun ac ag ae ab aa=> ?_);have e2:=aa.V 8;refine wp_ret ?_;refine rp ?_;refine cO (fn:=Tryz.f77) rfl ab.defers e2 ?_;exact ⟨congrArg _ (congrArg _ (by unfold dZ;(repeat (first | rw [if_neg (by omega)] | rw [if_pos (by omega)]));(try rfl))),ab.ext0⟩
 have hd14:=hc13;try simp only [ah] at hd14
 refine wp_seq (eA ab [jb r0] ⟨aq fun c=>cY rfl (c.p e8) rfl,aK 0,av⟩ fun ac ag ae ab aa=> ?_);obtain ⟨e1,e2,e8⟩:=aa.k3 e1 e2 e8;have e135:=aa.V 1;replace r0:=aa.B 0;refine wp_cond_split e135 (fun hc15=> ?_) (fun hc15=> ?_)
 · have hd15:=hc15;try simp only [ai] at hd15
   refine wp_skip ?_;refine wp_cond_true (e135.trans (congrArg _ hc15)) ?_;refine wp_seq (xD [0,1,3,7,15,31,63,127,255] ab [jb r0] ⟨aq fun c=>dY rfl az ak ((c.p e1).trans r0.ptr) (c.B 0),eE fun c=>⟨_,_,(bK rfl rfl iS (c.q 0)),nr t.k t.ch t.ng t.rv.v t.rows t.mn t.mx t.lz t.kv.v rfl _ (hT.at (ab.ext.trans c.J.ext)).rows⟩,bD 1,aL 2 rfl fun c hpc=>dh rfl aJ cR ((c.p e1).trans r0.ptr),aL 2 rfl fun c hpc=>aI rfl dG (c.M 3 hpc) ((c.B 0).cell (j:=7) rfl),aL 2 rfl fun c hpc=>dk rfl aU (c.M 4 hpc) (hT.at ab.ext).tl.sl.sl,aL 2 rfl fun c hpc=>cY rfl (c.M 5 hpc) rfl,bZ 2 6,aK 7,av⟩ fun ac ag ae ab aa=> ?_);have e2:=aa.V 8;refine wp_ret ?_;refine rp ?_;refine cO (fn:=Tryz.f77) rfl ab.defers e2 ?_;exact ⟨congrArg _ (congrArg _ (by unfold dZ;(repeat (first | rw [if_neg (by omega)] | rw [if_pos (by omega)]));(try rfl))),ab.ext0⟩
 have hd16:=hc15;try simp only [ah] at hd16
 refine eA ab [jb r0] ⟨aq fun c=>cY rfl (c.p e8) rfl,aK 0,av⟩ fun ac ag ae ab aa=> ?_;obtain ⟨e1,e2⟩:=aa.k2 e1 e2;have e135:=aa.V 1;replace r0:=aa.B 0;refine wp_cond_split e135 (fun hc17=> ?_) (fun hc17=> ?_)
 · have hd17:=hc17;try simp only [ai] at hd17
   refine wp_seq (xD [0,1,3,7,15,31,63,127,255] ab [jb r0] ⟨aq fun c=>dY rfl az ak ((c.p e1).trans r0.ptr) (c.B 0),eE fun c=>⟨_,_,(bK rfl rfl iS (c.q 0)),nr t.k t.ch t.ng t.rv.v t.rows t.mn t.mx t.lz t.kv.v rfl _ (hT.at (ab.ext.trans c.J.ext)).rows⟩,bD 1,aL 2 rfl fun c hpc=>dh rfl aJ cR ((c.p e1).trans r0.ptr),aL 2 rfl fun c hpc=>aI rfl dG (c.M 3 hpc) ((c.B 0).cell (j:=7) rfl),aL 2 rfl fun c hpc=>dk rfl aU (c.M 4 hpc) (hT.at ab.ext).tl.sl.sl,aL 2 rfl fun c hpc=>cY rfl (c.M 5 hpc) rfl,bZ 2 6,aK 7,av⟩ fun ac ag ae ab aa=> ?_);have e2:=aa.V 8;refine wp_ret ?_;refine rp ?_;refine cO (fn:=Tryz.f77) rfl ab.defers e2 ?_;exact ⟨congrArg _ (congrArg _ (by unfold dZ;(repeat (first | rw [if_neg (by omega)] | rw [if_pos (by omega)]));(try rfl))),ab.ext0⟩
 have hd17:=hc17;try simp only [ah] at hd17
 refine wp_skip ?_;show _;refine wp_seq (eK ab [jb r0] ⟨aq fun c=>ax rfl rfl,av⟩ fun ac ag ae ab aa=> ?_);have e2:=aa.V 0;refine wp_ret ?_;refine rp ?_;refine cO (fn:=Tryz.f77) rfl ab.defers e2 ?_;exact ⟨congrArg _ (congrArg _ (by unfold dZ;(repeat (first | rw [if_neg (by omega)] | rw [if_pos (by omega)]));(try rfl))),ab.ext0⟩
end
section
open Go.RowKit
open Srt
def kw (l:List (Int→Int→Int × Bool)) (n d:Int):Int × Bool:=match l with
  | [] => (n, true)
  | g :: l => if (g n d).2 = true then kw l (g n d).1 d else ((g n d).1, false)
def ef (t:Tr) (d:Int):Int:=if qE t=true then d - 1 else d
def cX:Tr→Int→Int→Int × Bool:=oi fun t l n d=>if ((decide (n < 1) || decide (ef t d < 0)) || !dZ t)=true then (n,false) else kw l (n - 1) (ef t d)
theorem ra (t:Tr) (n d:Int):cX t n d=if ((decide (n < 1) || decide (ef t d < 0)) || !dZ t)=true then (n,false) else kw (t.kids.map cX) (n - 1) (ef t d):=
  congrFun (congrFun (kN (fun t l n d=>if ((decide (n < 1) || decide (ef t d < 0)) || !dZ t)=true then (n,false) else kw l (n - 1) (ef t d)) t) n) d
theorem rc (t:Tr):∀{n d:Int},0≤n→0≤(cX t n d).1∧(cX t n d).1≤n:=by
  induction t using Tr.ind with
  | h t ih =>
    intro n d hn;have hK:∀ks:List Tr,(∀k ∈ ks,k ∈ t.kids)→∀m d,0≤m→0≤(kw (ks.map cX) m d).1∧(kw (ks.map cX) m d).1≤m:=by
      intro ks;induction ks with
      | nil => intro _ m d h; exact ⟨h, fJ _⟩
      | cons k ks ih2 =>
        intro hm m d h;have h1:=ih k (hm k (by simp)) (n:=m) (d:=d) h;rw [aB,kw];split
        · have:=ih2 (fun x hx=>hm x (by simp [hx])) _ d h1.1;omega
        · exact h1
    rw [ra];split
    · exact ⟨hn,fJ _⟩
    · rename_i hc;simp only [aR,ai,not_or] at hc;have:=hK t.kids (fun _ h=>h) (n - 1) (ef t d) (by omega);omega
theorem CW {t:Tr} {n d:Int} (h:((decide (n < 1) || decide (ef t d < 0)) || !dZ t)=true):cX t n d=(n,false):=by rw [ra,if_pos h]
theorem Aq {t:Tr} {n d m:Int} {k:Nat} (h:((decide (n < 1) || decide (ef t d < 0)) || !dZ t)=false) (hq:kw (t.kids.map cX) (n - 1) (ef t d)=kw ((t.kids.drop k).map cX) m (ef t d)) (hk:k < t.kids.length) (hb:(cX (nth t.kids (k:Int)) m (ef t d)).2=false):cX t n d=((cX (nth t.kids (k:Int)) m (ef t d)).1,false):=by
  rw [ra,if_neg (by rw [h];decide),hq,iv hk,aB,kw,if_neg (by rw [hb];decide)]
theorem Ar {t:Tr} {n d m:Int} {k:Nat} (h:((decide (n < 1) || decide (ef t d < 0)) || !dZ t)=false) (hq:kw (t.kids.map cX) (n - 1) (ef t d)=kw ((t.kids.drop k).map cX) m (ef t d)) (hk:t.kids.length≤k):cX t n d=(m,true):=by
  rw [ra,if_neg (by rw [h];decide),hq,dX hk];rfl
theorem xM {t:Tr} {n d m:Int} {k:Nat} (hq:kw (t.kids.map cX) (n - 1) (ef t d)=kw ((t.kids.drop k).map cX) m (ef t d)) (hk:k < t.kids.length) (hb:(cX (nth t.kids (k:Int)) m (ef t d)).2=true):kw (t.kids.map cX) (n - 1) (ef t d)=kw ((t.kids.drop (k+1)).map cX) (cX (nth t.kids (k:Int)) m (ef t d)).1 (ef t d):=by
  rw [hq,iv hk,aB,kw,if_pos hb]
set_option maxRecDepth 100000 in
theorem DX (t:Tr) (ih:∀k ∈ t.kids,∀(n d:Int) (w:World),oO w k→fc k≤1000000→0≤n∧n≤1000→0≤d∧d≤1000→Calls Tryz.prog 52 #[k.v,aj n,aj d] w (fun e w'=>e= .returned (.tuple #[aj (cX k n d).1,aE (cX k n d).2])∧Ext aW w w')) (n d:Int) (w:World) (hT:oO w t) (hP:fc t≤1000000) (hn:0≤n∧n≤1000) (hd:0≤d∧d≤1000):Calls Tryz.prog 52 #[t.v,aj n,aj d] w (fun e w'=>e= .returned (.tuple #[aj (cX t n d).1,aE (cX t n d).2])∧Ext aW w w'):=by
 refine enter (n:=49) Tryz.func52 rfl rfl (aw rfl) ?_;intro a0 τ0 ha st0;have e0:be a0 0=(ta t):=ha 0 _ rfl;have e1:be a0 1=(aj n):=ha 1 _ rfl;have e2:be a0 2=(aj d):=ha 2 _ rfl;clear ha;have hle:=hT.kids.le;have hwt:=fG t;have hpk:∀k:Nat,k < t.kids.length→fc (nth t.kids (k:Int))≤1000000:=fun k h_=>by have h1_:=sY (bN (xs:=t.kids) (i:=(k:Int)) (by omega) (by omega));omega
 refine wp_seq (rg [box _ _ 0 3 (tc t),_,_] [0,0,2] st0 [] ⟨hH (v:=(ta t)) rfl rfl rfl rfl rfl (fun _ _ _ _ c=>(c.p e0)),aq fun c=>ax rfl rfl,aq fun c=>ax rfl rfl,av⟩ fun ac ag ae ab aa=> ?_);obtain ⟨b1x3,e3⟩:=gx ac 3;obtain ⟨e1,e2⟩:=aa.k2 e1 e2;have e6:=aa.V 1;have e7:=aa.V 2;have r0:=aa.rb 0 e3 rfl;refine wp_seq ?_;refine wp_seq (fX ab [jb r0] ⟨cK aJ aA e3 r0.ptr,fE aN 0 0 0,eE fun c=>⟨_,_,(bK rfl rfl Tryz.call56 (c.q 1)),CN t.k _⟩,av⟩ fun ac ag ae ab aa=> ?_);obtain ⟨e1,e2,e3,e6,e7⟩:=aa.k5 e1 e2 e3 e6 e7;have e13:=aa.V 2;replace r0:=aa.B 0;refine wp_cond_split e13 (fun hc1=> ?_) (fun hc1=> ?_)
 · have hd1:=hc1;try simp only [aR,ai] at hd1
   refine fX ab [jb r0] ⟨ao e2,aq fun c=>gd rfl (c.q 0) rfl (by omega),aK 1,av⟩ fun ac ag ae ab aa=> ?_;obtain ⟨e1,e3,e6,e7⟩:=aa.k4 e1 e3 e6 e7;have e2:=aa.V 2;replace r0:=aa.B 0;refine wp_seq ?_;refine wp_seq ?_;have hdp:d - 1=ef t d:=by unfold ef qE;first | (rw [if_pos (by simpa using (by assumption))]) | (rw [if_neg (by simpa using (by assumption))])
   replace e2:be ac 2=aj (ef t d):=e2.trans (bB hdp);have hdr:ef t d≤1000∧ -1≤ef t d:=by unfold ef;split <;> omega
   refine uf [0,1,3,7,15,31,63,127,255,511,1023] ab [jb r0] ⟨ao e1,aq fun c=>cW rfl (c.q 0) rfl,bD 1,bm 2 rfl fun c hpc=>aS rfl (c.p e2),bm 2 rfl fun c hpc=>cW rfl (c.M 3 hpc) rfl,dm 2 4,bD 5,bm 6 rfl fun c hpc=>dY rfl az ak ((c.p e3).trans r0.ptr) (c.B 0),fC 6 false rfl fun c hpc=>⟨_,_,(bK rfl rfl Tryz.call77 (c.M 7 hpc)),Ap t _ (hT.at (ab.ext.trans c.J.ext)) (by have hq0:=hpc;(try simp only [aG,ah,aV] at hq0);omega)⟩,bm 6 rfl fun c hpc=>ew rfl (c.M 8 hpc),dm 6 9,av⟩ fun ac ag ae ab aa=> ?_;obtain ⟨e1,e2,e3,e6,e7⟩:=aa.k5 e1 e2 e3 e6 e7;have e26:=aa.V 10;replace r0:=aa.B 0;refine wp_cond_split e26 (fun hc2=> ?_) (fun hc2=> ?_)
   · have hd2:=hc2;try simp only [aR,aG,ar,am,ai,ah,aV] at hd2
     refine wp_seq ?_;have hcd:=hc2;refine fX ab [jb r0] ⟨ao e1,aK 0,aq fun c=>ax rfl rfl,av⟩ fun ac ag ae ab aa=> ?_;obtain ⟨e1,e2,e3⟩:=aa.k3 e1 e2 e3;have e6:=aa.V 1;have e7:=aa.V 2;replace r0:=aa.B 0;refine wp_ret ?_;refine rp ?_;refine nZ (fn:=Tryz.f52) rfl ab.defers e6 e7 ?_;exact ⟨congrArg _ (show (Value.tuple #[(aj n),(aE false)])=(.tuple #[aj (cX t n d).1,aE (cX t n d).2]) from by rw [CW hcd]),ab.ext0⟩
   have hd2:=hc2;try simp only [aR,aG,ar,am,ai,ah,aV] at hd2
   refine wp_skip ?_;refine wp_seq ?_;have hcd:((decide (n < 1) || decide (ef t d < 0)) || !dZ t)=false:=by assumption
   have hce:=hcd;simp only [aG,ah,aV] at hce;refine fX ab [jb r0] ⟨ao e1,aq fun c=>gd rfl (c.q 0) rfl (by omega),aK 1,av⟩ fun ac ag ae ab aa=> ?_;obtain ⟨e2,e3,e6,e7⟩:=aa.k4 e2 e3 e6 e7;have e1:=aa.V 2;replace r0:=aa.B 0;refine wp_seq ?_;refine wp_seq (lr [0,1,3,0] ab [jb r0] ⟨cK aJ cR e3 r0.ptr,fE dG 0 0 7,aq fun c=>dk rfl aU (c.q 1) (hT.at ab.ext).tl.sl.sl,aq fun c=>aS rfl rfl,av⟩ fun ac ag ae ab aa=> ?_);obtain ⟨e1,e2,e6,e7⟩:=aa.k4 e1 e2 e6 e7;have e31:=aa.V 1;have e32:=aa.V 2;have e33:=aa.V 3;refine wp_block ?_;refine wp_loop (fun a_ w_=>∃(k:Nat) (m:Int) (τ:Nat→bj),(k≤t.kids.length)∧
          (0≤m∧m≤1000)∧
          (kw (t.kids.map cX) (n - 1) (ef t d)=kw ((t.kids.drop k).map cX) m (ef t d))∧
          St (Nw w) w 49 a_ w_ τ∧
          be a_ 1=(aj m)∧
          be a_ 33=(aj (k:Int))∧
          be a_ 2=(aj (ef t d))∧
          be a_ 31=t.kv.v∧
          be a_ 32=(aj (t.kids.length:Int))) (fun a_ _=>t.kids.length - (intOf (be a_ 33)).toNat) ?_ ?_
   · refine ⟨0,n - 1,ae,?_,?_,?_,ab,(e1.trans (bB (by omega))),(e33.trans (bB (by omega))),e2,e31,e32⟩
     · omega
     · omega
     · rfl
   intro a8 w8 hI;obtain ⟨k,m,τ8,q0,q1,q2,st8,e1,e33,e2,e31,e32⟩:=hI;have hpk0:=hpk k;have m33:=e33;refine wp_seq (eK st8 [] ⟨aq fun c=>cW rfl (c.p e33) (c.p e32),av⟩ fun ac ag ae ab aa=> ?_);obtain ⟨e1,e2,e31,e32,e33⟩:=aa.k5 e1 e2 e31 e32 e33;have e34:=aa.V 0;refine wp_seq ?_;refine wp_cond_split e34 (fun hc3=> ?_) (fun hc3=> ?_)
   · try simp only [ai] at hc3
     refine wp_skip ?_;refine wp_seq ?_;refine wp_block ?_;refine wp_seq (rg [_,_,box _ _ 0 9 [(aj 0),(bc (⟨#[]⟩:ByteArray)),(aE false),(.slice none 0 0),(aj 0),(aj 0),(aE false),(.slice none 0 0)],_] [0,1,0,7] ab [] ⟨aq fun c=>aX rfl aU ak (c.p e31) (hT.at ab.ext).tl.sl.sl (c.p e33) (by omega) (by omega),aq fun c=>cq (vs:=(tc (nth t.kids (k:Int)))) rfl az ak (c.q 0) rfl (fun _ _ hj=>((hT.at (ab.ext.trans c.J.ext)).tl.sl).elem (bF (i:=(k:Int)) (by omega) (by omega)) hj),bO rfl rfl rfl rfl aD rfl,ey (cx:=(tc (nth t.kids (k:Int)))) (off:=0) rfl ak fun c=>⟨c.rb 2 rfl,(c.rb 2 rfl).ptr,(c.q 1)⟩,av⟩ fun ac ag ae ab aa=> ?_);obtain ⟨b10x9,e9⟩:=gx ac 9;obtain ⟨e1,e2,e31,e32,e33,e34⟩:=aa.k6 e1 e2 e31 e32 e33 e34;have r0:=aa.rb 3 e9 rfl;refine wp_seq (eK ab [jb r0] ⟨aq fun c=>ax rfl rfl,av⟩ fun ac ag ae ab aa=> ?_);obtain ⟨e1,e2,e9,e31,e32,e33,e34⟩:=aa.k7 e1 e2 e9 e31 e32 e33 e34;have e10:=aa.V 0;replace r0:=aa.B 0;refine wp_seq (xD [0,0,0,7,15,31,31,63,255] ab [jb r0] ⟨aq fun c=>dY rfl az ak ((c.p e9).trans r0.ptr) (c.B 0),ao e1,ao e2,eE fun c=>⟨_,_,(lI rfl rfl Tryz.call52 (c.q 0) (c.q 1) (c.q 2)),ih _ (bN (by omega) (by omega)) m (ef t d) _ ((hT.at (ab.ext.trans c.J.ext)).tl.el (by omega) (by omega)) (by omega) (by omega) (by omega)⟩,bD 3,bR 4,bR 4,aK 5,aK 6,av⟩ fun ac ag ae ab aa=> ?_);obtain ⟨e2,e9,e31,e32,e33,e34⟩:=aa.k6 e2 e9 e31 e32 e33 e34;have e1:=aa.V 7;have e10:=aa.V 8;replace r0:=aa.B 0;refine wp_seq (eA ab [jb r0] ⟨ao e10,aq fun c=>ew rfl (c.q 0),av⟩ fun ac ag ae ab aa=> ?_);obtain ⟨e1,e2,e9,e10,e31,e32,e33,e34⟩:=aa.k8 e1 e2 e9 e10 e31 e32 e33 e34;have e45:=aa.V 1;replace r0:=aa.B 0;refine wp_cond_split e45 (fun hc4=> ?_) (fun hc4=> ?_)
     · have hd4:=hc4;try simp only [ar,am] at hd4
       refine wp_seq ?_;have hbad:(cX (nth t.kids (k:Int)) m (ef t d)).2=false:=by simpa using (by assumption:(!(cX (nth t.kids (k:Int)) m (ef t d)).2)=true)
       refine fX ab [jb r0] ⟨ao e1,aK 0,aq fun c=>ax rfl rfl,av⟩ fun ac ag ae ab aa=> ?_;obtain ⟨e1,e2,e9,e10,e31,e32,e33,e34,e45⟩:=aa.k9 e1 e2 e9 e10 e31 e32 e33 e34 e45;have e6:=aa.V 1;have e7:=aa.V 2;replace r0:=aa.B 0;refine wp_ret ?_;refine rp ?_;refine nZ (fn:=Tryz.f52) rfl ab.defers e6 e7 ?_;exact ⟨congrArg _ (show (Value.tuple #[(aj ((cX (nth t.kids (k:Int)) m (ef t d)).1)),(aE false)])=(.tuple #[aj (cX t n d).1,aE (cX t n d).2]) from by rw [Aq hcd q2 (by omega) hbad]),ab.ext0⟩
     have hd4:=hc4;try simp only [ar,am] at hd4
     refine wp_skip ?_;show _;have hgood:(cX (nth t.kids (k:Int)) m (ef t d)).2=true:=by simpa using (by assumption:(!(cX (nth t.kids (k:Int)) m (ef t d)).2)=false)
     have hrg:=rc (nth t.kids (k:Int)) (n:=m) (d:=ef t d) (by omega);refine eA ab [jb r0] ⟨aq fun c=>cN rfl (c.p e33) rfl (by omega),bD 0,av⟩ fun ac ag ae ab aa=> ?_;obtain ⟨e1,e2,e9,e10,e31,e32,e34,e45⟩:=aa.k8 e1 e2 e9 e10 e31 e32 e34 e45;have e33:=aa.V 1;replace r0:=aa.B 0;refine ⟨⟨k+1,(cX (nth t.kids (k:Int)) m (ef t d)).1,ae,?_,?_,?_,ab,(e1.trans (bB (by omega))),(e33.trans (bB (by omega))),e2,e31,e32⟩,?_⟩
     · omega
     · omega
     · exact xM q2 (by omega) hgood
     · simp only [m33,e33,intOf];omega
   try simp only [ah,aV] at hc3
   refine wp_exit ?_;repeat (with_reducible refine cy ?_)
   refine cC ?_;refine wp_seq (fX ab [] ⟨ao e1,aK 0,aq fun c=>ax rfl rfl,av⟩ fun ac ag ae ab aa=> ?_);have e6:=aa.V 1;have e7:=aa.V 2;refine wp_ret ?_;refine rp ?_;refine nZ (fn:=Tryz.f52) rfl ab.defers e6 e7 ?_;exact ⟨congrArg _ (show (Value.tuple #[(aj m),(aE true)])=(.tuple #[aj (cX t n d).1,aE (cX t n d).2]) from by rw [Ar hcd q2 (by omega)]),ab.ext0⟩
 have hd4:=hc1;try simp only [aG,ah] at hd4
 refine wp_skip ?_;refine wp_seq ?_;refine wp_seq ?_;have hdp:d=ef t d:=by unfold ef qE;first | (rw [if_pos (by simpa using (by assumption))]) | (rw [if_neg (by simpa using (by assumption))])
 replace e2:be ac 2=aj (ef t d):=e2.trans (bB hdp);have hdr:ef t d≤1000∧ -1≤ef t d:=by unfold ef;split <;> omega
 refine uf [0,1,3,7,15,31,63,127,255,511,1023] ab [jb r0] ⟨ao e1,aq fun c=>cW rfl (c.q 0) rfl,bD 1,bm 2 rfl fun c hpc=>aS rfl (c.p e2),bm 2 rfl fun c hpc=>cW rfl (c.M 3 hpc) rfl,dm 2 4,bD 5,bm 6 rfl fun c hpc=>dY rfl az ak ((c.p e3).trans r0.ptr) (c.B 0),fC 6 false rfl fun c hpc=>⟨_,_,(bK rfl rfl Tryz.call77 (c.M 7 hpc)),Ap t _ (hT.at (ab.ext.trans c.J.ext)) (by have hq0:=hpc;(try simp only [aG,ah,aV] at hq0);omega)⟩,bm 6 rfl fun c hpc=>ew rfl (c.M 8 hpc),dm 6 9,av⟩ fun ac ag ae ab aa=> ?_;obtain ⟨e1,e2,e3,e6,e7⟩:=aa.k5 e1 e2 e3 e6 e7;have e26:=aa.V 10;replace r0:=aa.B 0;refine wp_cond_split e26 (fun hc5=> ?_) (fun hc5=> ?_)
 · have hd5:=hc5;try simp only [aR,aG,ar,am,ai,ah,aV] at hd5
   refine wp_seq ?_;have hcd:=hc5;refine fX ab [jb r0] ⟨ao e1,aK 0,aq fun c=>ax rfl rfl,av⟩ fun ac ag ae ab aa=> ?_;obtain ⟨e1,e2,e3⟩:=aa.k3 e1 e2 e3;have e6:=aa.V 1;have e7:=aa.V 2;replace r0:=aa.B 0;refine wp_ret ?_;refine rp ?_;refine nZ (fn:=Tryz.f52) rfl ab.defers e6 e7 ?_;exact ⟨congrArg _ (show (Value.tuple #[(aj n),(aE false)])=(.tuple #[aj (cX t n d).1,aE (cX t n d).2]) from by rw [CW hcd]),ab.ext0⟩
 have hd5:=hc5;try simp only [aR,aG,ar,am,ai,ah,aV] at hd5
 refine wp_skip ?_;refine wp_seq ?_;have hcd:((decide (n < 1) || decide (ef t d < 0)) || !dZ t)=false:=by assumption
 have hce:=hcd;simp only [aG,ah,aV] at hce;refine fX ab [jb r0] ⟨ao e1,aq fun c=>gd rfl (c.q 0) rfl (by omega),aK 1,av⟩ fun ac ag ae ab aa=> ?_;obtain ⟨e2,e3,e6,e7⟩:=aa.k4 e2 e3 e6 e7;have e1:=aa.V 2;replace r0:=aa.B 0;refine wp_seq ?_;refine wp_seq (lr [0,1,3,0] ab [jb r0] ⟨cK aJ cR e3 r0.ptr,fE dG 0 0 7,aq fun c=>dk rfl aU (c.q 1) (hT.at ab.ext).tl.sl.sl,aq fun c=>aS rfl rfl,av⟩ fun ac ag ae ab aa=> ?_);obtain ⟨e1,e2,e6,e7⟩:=aa.k4 e1 e2 e6 e7;have e31:=aa.V 1;have e32:=aa.V 2;have e33:=aa.V 3;refine wp_block ?_;refine wp_loop (fun a_ w_=>∃(k:Nat) (m:Int) (τ:Nat→bj),(k≤t.kids.length)∧
      (0≤m∧m≤1000)∧
      (kw (t.kids.map cX) (n - 1) (ef t d)=kw ((t.kids.drop k).map cX) m (ef t d))∧
      St (Nw w) w 49 a_ w_ τ∧
      be a_ 1=(aj m)∧
      be a_ 33=(aj (k:Int))∧
      be a_ 2=(aj (ef t d))∧
      be a_ 31=t.kv.v∧
      be a_ 32=(aj (t.kids.length:Int))) (fun a_ _=>t.kids.length - (intOf (be a_ 33)).toNat) ?_ ?_
 · refine ⟨0,n - 1,ae,?_,?_,?_,ab,(e1.trans (bB (by omega))),(e33.trans (bB (by omega))),e2,e31,e32⟩
   · omega
   · omega
   · rfl
 intro a21 w21 hI;obtain ⟨k,m,τ21,q0,q1,q2,st21,e1,e33,e2,e31,e32⟩:=hI;have hpk0:=hpk k;have m33:=e33;refine wp_seq (eK st21 [] ⟨aq fun c=>cW rfl (c.p e33) (c.p e32),av⟩ fun ac ag ae ab aa=> ?_);obtain ⟨e1,e2,e31,e32,e33⟩:=aa.k5 e1 e2 e31 e32 e33;have e34:=aa.V 0;refine wp_seq ?_;refine wp_cond_split e34 (fun hc6=> ?_) (fun hc6=> ?_)
 · try simp only [ai] at hc6
   refine wp_skip ?_;refine wp_seq ?_;refine wp_block ?_;refine wp_seq (rg [_,_,box _ _ 0 9 [(aj 0),(bc (⟨#[]⟩:ByteArray)),(aE false),(.slice none 0 0),(aj 0),(aj 0),(aE false),(.slice none 0 0)],_] [0,1,0,7] ab [] ⟨aq fun c=>aX rfl aU ak (c.p e31) (hT.at ab.ext).tl.sl.sl (c.p e33) (by omega) (by omega),aq fun c=>cq (vs:=(tc (nth t.kids (k:Int)))) rfl az ak (c.q 0) rfl (fun _ _ hj=>((hT.at (ab.ext.trans c.J.ext)).tl.sl).elem (bF (i:=(k:Int)) (by omega) (by omega)) hj),bO rfl rfl rfl rfl aD rfl,ey (cx:=(tc (nth t.kids (k:Int)))) (off:=0) rfl ak fun c=>⟨c.rb 2 rfl,(c.rb 2 rfl).ptr,(c.q 1)⟩,av⟩ fun ac ag ae ab aa=> ?_);obtain ⟨b23x9,e9⟩:=gx ac 9;obtain ⟨e1,e2,e31,e32,e33,e34⟩:=aa.k6 e1 e2 e31 e32 e33 e34;have r0:=aa.rb 3 e9 rfl;refine wp_seq (eK ab [jb r0] ⟨aq fun c=>ax rfl rfl,av⟩ fun ac ag ae ab aa=> ?_);obtain ⟨e1,e2,e9,e31,e32,e33,e34⟩:=aa.k7 e1 e2 e9 e31 e32 e33 e34;have e10:=aa.V 0;replace r0:=aa.B 0;refine wp_seq (xD [0,0,0,7,15,31,31,63,255] ab [jb r0] ⟨aq fun c=>dY rfl az ak ((c.p e9).trans r0.ptr) (c.B 0),ao e1,ao e2,eE fun c=>⟨_,_,(lI rfl rfl Tryz.call52 (c.q 0) (c.q 1) (c.q 2)),ih _ (bN (by omega) (by omega)) m (ef t d) _ ((hT.at (ab.ext.trans c.J.ext)).tl.el (by omega) (by omega)) (by omega) (by omega) (by omega)⟩,bD 3,bR 4,bR 4,aK 5,aK 6,av⟩ fun ac ag ae ab aa=> ?_);obtain ⟨e2,e9,e31,e32,e33,e34⟩:=aa.k6 e2 e9 e31 e32 e33 e34;have e1:=aa.V 7;have e10:=aa.V 8;replace r0:=aa.B 0;refine wp_seq (eA ab [jb r0] ⟨ao e10,aq fun c=>ew rfl (c.q 0),av⟩ fun ac ag ae ab aa=> ?_);obtain ⟨e1,e2,e9,e10,e31,e32,e33,e34⟩:=aa.k8 e1 e2 e9 e10 e31 e32 e33 e34;have e45:=aa.V 1;replace r0:=aa.B 0;refine wp_cond_split e45 (fun hc7=> ?_) (fun hc7=> ?_)
   · have hd7:=hc7;try simp only [ar,am] at hd7
     refine wp_seq ?_;have hbad:(cX (nth t.kids (k:Int)) m (ef t d)).2=false:=by simpa using (by assumption:(!(cX (nth t.kids (k:Int)) m (ef t d)).2)=true)
     refine fX ab [jb r0] ⟨ao e1,aK 0,aq fun c=>ax rfl rfl,av⟩ fun ac ag ae ab aa=> ?_;obtain ⟨e1,e2,e9,e10,e31,e32,e33,e34,e45⟩:=aa.k9 e1 e2 e9 e10 e31 e32 e33 e34 e45;have e6:=aa.V 1;have e7:=aa.V 2;replace r0:=aa.B 0;refine wp_ret ?_;refine rp ?_;refine nZ (fn:=Tryz.f52) rfl ab.defers e6 e7 ?_;exact ⟨congrArg _ (show (Value.tuple #[(aj ((cX (nth t.kids (k:Int)) m (ef t d)).1)),(aE false)])=(.tuple #[aj (cX t n d).1,aE (cX t n d).2]) from by rw [Aq hcd q2 (by omega) hbad]),ab.ext0⟩
   have hd7:=hc7;try simp only [ar,am] at hd7
   refine wp_skip ?_;show _;have hgood:(cX (nth t.kids (k:Int)) m (ef t d)).2=true:=by simpa using (by assumption:(!(cX (nth t.kids (k:Int)) m (ef t d)).2)=false)
   have hrg:=rc (nth t.kids (k:Int)) (n:=m) (d:=ef t d) (by omega);refine eA ab [jb r0] ⟨aq fun c=>cN rfl (c.p e33) rfl (by omega),bD 0,av⟩ fun ac ag ae ab aa=> ?_;obtain ⟨e1,e2,e9,e10,e31,e32,e34,e45⟩:=aa.k8 e1 e2 e9 e10 e31 e32 e34 e45;have e33:=aa.V 1;replace r0:=aa.B 0;refine ⟨⟨k+1,(cX (nth t.kids (k:Int)) m (ef t d)).1,ae,?_,?_,?_,ab,(e1.trans (bB (by omega))),(e33.trans (bB (by omega))),e2,e31,e32⟩,?_⟩
   · omega
   · omega
   · exact xM q2 (by omega) hgood
   · simp only [m33,e33,intOf];omega
 try simp only [ah,aV] at hc6
 refine wp_exit ?_;repeat (with_reducible refine cy ?_)
 refine cC ?_;refine wp_seq (fX ab [] ⟨ao e1,aK 0,aq fun c=>ax rfl rfl,av⟩ fun ac ag ae ab aa=> ?_);have e6:=aa.V 1;have e7:=aa.V 2;refine wp_ret ?_;refine rp ?_;refine nZ (fn:=Tryz.f52) rfl ab.defers e6 e7 ?_;exact ⟨congrArg _ (show (Value.tuple #[(aj m),(aE true)])=(.tuple #[aj (cX t n d).1,aE (cX t n d).2]) from by rw [Ar hcd q2 (by omega)]),ab.ext0⟩
theorem JD (t:Tr):∀(n d:Int) (w:World),oO w t→fc t≤1000000→0≤n∧n≤1000→0≤d∧d≤1000→Calls Tryz.prog 52 #[t.v,.int .i64 n,.int .i64 d] w (fun e w'=>e= .returned (.tuple #[.int .i64 (cX t n d).1,.bool (cX t n d).2])∧Ext aW w w'):=Tr.ind (P:=fun t=>∀(n d:Int) (w:World),oO w t→fc t≤1000000→0≤n∧n≤1000→0≤d∧d≤1000→Calls Tryz.prog 52 #[t.v,.int .i64 n,.int .i64 d] w (fun e w'=>e= .returned (.tuple #[.int .i64 (cX t n d).1,.bool (cX t n d).2])∧Ext aW w w')) DX t
set_option maxRecDepth 100000 in
theorem uQ (t:Tr) (w:World) (hT:oO w t) (hP:fc t≤1000000):Calls Tryz.prog 27 #[(ta t)] w (fun e w'=>e= .returned (aE ((cX t 512 16).2))∧Ext aW w w'):=by
 refine enter (n:=11) Tryz.func27 rfl rfl (aw rfl) ?_;intro a0 τ0 ha st0;have e0:be a0 0=(ta t):=ha 0 _ rfl;clear ha;refine wp_seq (rg [box _ _ 0 1 (tc t),_] [0,0] st0 [] ⟨hH (v:=(ta t)) rfl rfl rfl rfl rfl (fun _ _ _ _ c=>(c.p e0)),aq fun c=>ax rfl rfl,av⟩ fun ac ag ae ab aa=> ?_);obtain ⟨b1x1,e1⟩:=gx ac 1;have e2:=aa.V 1;have r0:=aa.rb 0 e1 rfl;refine wp_seq (ue [0,1,3,7,7,15,63] ab [jb r0] ⟨aq fun c=>dY rfl az ak ((c.p e1).trans r0.ptr) (c.B 0),eE fun c=>⟨_,_,(lI rfl rfl Tryz.call52 (c.q 0) rfl rfl),JD t 512 16 _ (hT.at (ab.ext.trans c.J.ext)) (by omega) (by omega) (by omega)⟩,bD 1,bR 2,bR 2,aK 3,aK 4,av⟩ fun ac ag ae ab aa=> ?_);replace e2:=aa.k1 e2;have e4:=aa.V 6;refine wp_seq (eA ab [] ⟨ao e4,aK 0,av⟩ fun ac ag ae ab aa=> ?_);have e2:=aa.V 1;refine wp_ret ?_;refine rp ?_;refine cO (fn:=Tryz.f27) rfl ab.defers e2 ?_;exact ⟨rfl,ab.ext0⟩
end
section
open Go.RowKit
open Srt
def fq:Tr→Bool:=oi fun t l=>l.all (fun b=>b)&&dZ t
theorem gY (t:Tr):fq t=(t.kids.all fq&&dZ t):=by
  have h:=kN (fun t l=>l.all (fun b=>b)&&dZ t) t;rw [List.all_map] at h;exact h
theorem DY (t:Tr):sg t [0,1]=t.kids.any fun y=>decide (y.k=0) || decide (y.k=1):=by
  unfold sg;congr 1;funext y;simp
theorem xN (t:Tr):sg t [1]=t.kids.any fun y=>decide (y.k=1):=by
  unfold sg;congr 1;funext y;simp
end
section
open Srt
def de (cs:List ByteArray) (i:Nat):ByteArray:=if (cs.length:Int)≤(i:Int) then ⟨#[]⟩ else nth cs (i:Int)
def gj (cs:List ByteArray) (i:Nat) (c:ByteArray):Bool:= !(decide ((cs.length:Int)≤(i:Int)) || (!(gM (nth cs (i:Int)) c)))
def tkN (cs:List ByteArray) (i:Nat) (c:ByteArray):Nat:=if gj cs i c=true then i+1 else i
theorem na {cs:List ByteArray} {i:Nat} {c:ByteArray} (h:gj cs i c=true):tkN cs i c=i+1:=if_pos h
theorem mD {cs:List ByteArray} {i:Nat} {c:ByteArray} (h:gj cs i c=false):tkN cs i c=i:=if_neg (by rw [h];decide)
theorem kx {cs:List ByteArray} {i:Nat} {c:ByteArray} (h:gj cs i c=true):i < cs.length:=by
  simp [gj] at h;omega
theorem sZ {cs:List ByteArray} {i:Nat} (h:((de cs i).size:Int)=1):i < cs.length:=by
  unfold de at h;split at h
  · exact absurd h (by decide)
  · omega
theorem sD {cs:List ByteArray} {i:Nat} (h:gM (de cs i) (⟨#[]⟩:ByteArray)=false):i < cs.length:=by
  unfold de at h;split at h
  · exact absurd h (by decide+kernel)
  · omega
def HH (n:Int):Bool:=(decide (65≤n)&&decide (n≤90)) || (decide (97≤n)&&decide (n≤122))
def ut (n:Int):Bool:=decide (48≤n)&&decide (n≤57)
def kV:Tr:=dQ 0 ⟨#[]⟩ false 0 0 false
def nc (ng:Bool) (rv:Sv) (rows:List Rw):Tr:=⟨4,⟨#[]⟩,ng,rv,rows,0,0,false,Sv.nil,[]⟩
theorem BE (ng:Bool) (rv:Sv) (rows:List Rw):er (nc ng rv rows)=nc ng Sv.nil rows:=by rw [qS];rfl
theorem JE {G Z:bj} {w:World} {ng:Bool} {rv:Sv} {rows:List Rw} (h:(fb fx G rv.v rows).P Z w):(gT G (nc ng rv rows)).P Z w:=
  .mk h.1 h.2 (SlT.nil _ _) (fun h=>absurd rfl h) (fun k h=>by cases h)
def wr (c:ByteArray):ByteArray × Bool:=
  if gM c ⟨#[]⟩=true then (⟨#[]⟩,false) else if gM c ⟨#[110]⟩=true then (⟨#[10]⟩,true) else if gM c ⟨#[114]⟩=true then (⟨#[13]⟩,true) else if gM c ⟨#[116]⟩=true then (⟨#[9]⟩,true)
  else if gM c ⟨#[102]⟩=true then (⟨#[12]⟩,true) else if gM c ⟨#[118]⟩=true then (⟨#[11]⟩,true)
  else if (decide ((c.size:Int)=1)&&(HH (cP c 0) || ut (cP c 0)))=true then (⟨#[]⟩,false) else (c,true)
def yy (cs:List ByteArray):Nat→Int→Nat→Nat→Int × Nat × Nat
  | 0, n, m, i => (n, m, i)
  | f + 1, n, m, i => if ((decide ((m : Int) < 3) && decide (((de cs i).size : Int) = 1)) && ut (cP (de cs i) 0)) = true then yy cs f (n * 10 + (cP (de cs i) 0 - 48)) (m + 1) (i + 1) else (n, m, i)
def la (cs:List ByteArray) (i:Nat):Int × Nat × Nat:=yy cs 4 0 0 i
def xq (r:Int × Nat × Nat):Bool:=decide ((0:Int) < (r.2.1:Int))&&decide (r.1≤255)
theorem CX (cs:List ByteArray):∀(f:Nat) (n:Int) (m i:Nat),i≤(yy cs f n m i).2.2∧((yy cs f n m i).2.2≤cs.length∨(yy cs f n m i).2.2=i)
  | 0, n, m, i => ⟨bz _, .inr rfl⟩
  | f + 1, n, m, i => by
    rw [yy];split
    · rename_i h;simp only [au,ai] at h;have hlt:=sZ h.1.2;have:=CX cs f (n * 10+(cP (de cs i) 0 - 48)) (m+1) (i+1);omega
    · exact ⟨bz _,.inr rfl⟩
theorem CY (cs:List ByteArray):∀(f:Nat) (n:Int) (m i:Nat),0≤n→m≤3→n < 10 ^ m→0≤(yy cs f n m i).1∧(yy cs f n m i).1 < 1000
  | 0, n, m, i => fun h0 hm h1 => ⟨h0, nV h1 (by
      show (10:Int) ^ m≤1000;match m,hm with
      | 0, _ => decide
      | 1, _ => decide
      | 2, _ => decide
      | 3, _ => decide)⟩
  | f + 1, n, m, i => fun h0 hm h1 => by
    rw [yy];split
    · rename_i h;simp only [au,ai,ut] at h;refine CY cs f _ (m+1) (i+1) (by omega) (by omega) ?_;rw [Int.pow_succ];omega
    · refine ⟨h0,nV h1 ?_⟩;match m,hm with
      | 0, _ => decide
      | 1, _ => decide
      | 2, _ => decide
      | 3, _ => decide
theorem CZ (cs:List ByteArray) (i:Nat):0≤(la cs i).1∧(la cs i).1 < 1000:=CY cs 4 0 0 i (by decide) (by decide) (by decide)
def FJ (x:Tr) (mn mx:Int) (lz:Bool):Tr:=eF 7 ⟨#[]⟩ false mn mx lz Sv.nil [x]
def nv (cs:List ByteArray) (x:Tr) (j:Nat) (mn mx:Int):Tr × Int × Nat:=(FJ x mn mx (gj cs j ⟨#[63]⟩),0,tkN cs j ⟨#[63]⟩)
def pe (cs:List ByteArray) (x:Tr) (mn mx:Int) (ok:Bool) (j:Nat):Tr × Int × Nat:=
  if ok=false then (kV,10,j) else if gj cs j ⟨#[125]⟩=false then (kV,10,j) else if ((!decide (mx= -1))&&decide (mx < mn))=true then (kV,10,j+1) else nv cs x (j+1) mn mx
def hO (cs:List ByteArray) (x:Tr) (i:Nat):Tr × Int × Nat:=
  if gj cs i ⟨#[42]⟩=true then nv cs x (i+1) 0 (-1)
  else if gj cs i ⟨#[43]⟩=true then nv cs x (i+1) 1 (-1)
  else if gj cs i ⟨#[63]⟩=true then nv cs x (i+1) 0 1
  else if gj cs i ⟨#[123]⟩=true then
    if xq (la cs (i+1))=false then (kV,10,(la cs (i+1)).2.2)
    else if gj cs (la cs (i+1)).2.2 ⟨#[44]⟩=true then
      if gM (de cs ((la cs (i+1)).2.2+1)) ⟨#[125]⟩=false then pe cs x (la cs (i+1)).1 (la cs ((la cs (i+1)).2.2+1)).1 (xq (la cs ((la cs (i+1)).2.2+1))) (la cs ((la cs (i+1)).2.2+1)).2.2
      else pe cs x (la cs (i+1)).1 (-1) true ((la cs (i+1)).2.2+1)
    else pe cs x (la cs (i+1)).1 (la cs (i+1)).1 true (la cs (i+1)).2.2
  else (x,0,i)
def gL (cs:List ByteArray) (i:Nat):List Rw × ByteArray × Bool × Nat:=
  if (gM (de cs i) ⟨#[]⟩ || gM (de cs i) ⟨#[93]⟩)=true then ([],⟨#[]⟩,false,i)
  else if gM (de cs i) ⟨#[92]⟩=false then ([],de cs i,true,i+1)
  else if (decide (((de cs (i+1)).size:Int)=1)&&kh (cP (de cs (i+1)) 0))=true then (gF (cP (de cs (i+1)) 0),⟨#[]⟩,true,i+2)
  else ([],(wr (de cs (i+1))).1,(wr (de cs (i+1))).2,i+2)
def vd (cs:List ByteArray) (ng:Bool):Nat→Nat→List Rw→Tr × Int × Nat
  | 0, i, _ => (kV, 99, i)
  | f + 1, i, rows =>
    if gj cs i ⟨#[93]⟩=true then (nc ng Sv.nil (je rows),0,i+1)
    else if (gL cs i).2.2.1=false then (kV,10,(gL cs i).2.2.2)
    else if (0:Int) < ((gL cs i).1.length:Int) then vd cs ng f (gL cs i).2.2.2 (rows++(gL cs i).1)
    else if ((gM (de cs (gL cs i).2.2.2) ⟨#[45]⟩&&decide (((gL cs i).2.2.2:Int)+1 < (cs.length:Int)))&& !(gM (nth cs (((gL cs i).2.2.2:Int)+1)) ⟨#[93]⟩))=true then
      if (((!(gL cs ((gL cs i).2.2.2+1)).2.2.1) || decide ((0:Int) < ((gL cs ((gL cs i).2.2.2+1)).1.length:Int))) || pW (gL cs ((gL cs i).2.2.2+1)).2.1 (gL cs i).2.1)=true then (kV,10,(gL cs ((gL cs i).2.2.2+1)).2.2.2)
      else vd cs ng f (gL cs ((gL cs i).2.2.2+1)).2.2.2 (rows++ [((gL cs i).2.1,(gL cs ((gL cs i).2.2.2+1)).2.1)])
    else vd cs ng f (gL cs i).2.2.2 (rows++ [((gL cs i).2.1,(gL cs i).2.1)])
def yz (cs:List ByteArray) (i:Nat):Tr × Int × Nat:=vd cs (gj cs i ⟨#[94]⟩) (cs.length+1) (tkN cs i ⟨#[94]⟩) []
def uR (cs:List ByteArray) (i:Nat):Tr × Int × Nat:=
  if (decide (((de cs i).size:Int)=1)&&kh (cP (mo (de cs i)) 0))=true then (nc (!(gM (de cs i) (mo (de cs i)))) Sv.nil (gF (cP (mo (de cs i)) 0)),0,i+1)
  else if (wr (de cs i)).2=false then (kV,10,i)
  else (dQ 2 (wr (de cs i)).1 false 0 0 false,0,i+1)
def JF (c:ByteArray):Bool:=((((((gM c ⟨#[42]⟩ || gM c ⟨#[43]⟩) || gM c ⟨#[63]⟩) || gM c ⟨#[41]⟩) || gM c ⟨#[123]⟩) || gM c ⟨#[124]⟩) || (!(fY c)))
def fH (sub:Int→Nat→Tr × Int × Nat) (cs:List ByteArray) (d:Int) (i:Nat):Tr × Int × Nat:=
  if gj cs i ⟨#[46]⟩=true then (dQ 3 ⟨#[]⟩ false 0 0 false,0,i+1)
  else if gj cs i ⟨#[40]⟩=true then
    if 16≤d then (kV,8,i+1)
    else if gj cs (i+1) ⟨#[63]⟩=true then
      if gj cs (i+2) ⟨#[58]⟩=false then (kV,10,i+2)
      else if (sub (d+1) (i+3)).2.1≠0 then (kV,(sub (d+1) (i+3)).2.1,(sub (d+1) (i+3)).2.2)
      else if gj cs (sub (d+1) (i+3)).2.2 ⟨#[41]⟩=false then (kV,10,(sub (d+1) (i+3)).2.2)
      else (eF 6 ⟨#[]⟩ false 0 0 false Sv.nil [(sub (d+1) (i+3)).1],0,(sub (d+1) (i+3)).2.2+1)
    else if (sub (d+1) (i+1)).2.1≠0 then (kV,(sub (d+1) (i+1)).2.1,(sub (d+1) (i+1)).2.2)
    else if gj cs (sub (d+1) (i+1)).2.2 ⟨#[41]⟩=false then (kV,10,(sub (d+1) (i+1)).2.2)
    else (eF 5 ⟨#[]⟩ false 0 0 false Sv.nil [(sub (d+1) (i+1)).1],0,(sub (d+1) (i+1)).2.2+1)
  else if gj cs i ⟨#[91]⟩=true then yz cs (i+1)
  else if gj cs i ⟨#[92]⟩=true then uR cs (i+1)
  else if JF (de cs i)=true then (kV,10,i)
  else (dQ 2 (de cs i) false 0 0 false,0,i+1)
def uS (cs:List ByteArray) (i:Nat) (c:ByteArray):Bool:=(gM (de cs i) ⟨#[92]⟩&&decide ((i:Int)+1 < (cs.length:Int)))&&gM (nth cs ((i:Int)+1)) c
def iB (sub:Int→Nat→Tr × Int × Nat) (cs:List ByteArray) (d:Int) (i:Nat):Tr × Int × Nat:=
  if gj cs i ⟨#[94]⟩=true then (dQ 8 ⟨#[]⟩ false 0 0 false,0,i+1)
  else if gj cs i ⟨#[36]⟩=true then (dQ 9 ⟨#[]⟩ false 0 0 false,0,i+1)
  else if uS cs i ⟨#[98]⟩=true then (dQ 10 ⟨#[]⟩ false 0 0 false,0,i+2)
  else if uS cs i ⟨#[66]⟩=true then (dQ 11 ⟨#[]⟩ false 0 0 false,0,i+2)
  else if (fH sub cs d i).2.1≠0 then (kV,(fH sub cs d i).2.1,(fH sub cs d i).2.2)
  else hO cs (fH sub cs d i).1 (fH sub cs d i).2.2
def As (cs:List ByteArray) (i:Nat):Bool:=(decide ((i:Int) < (cs.length:Int))&& !(gM (de cs i) ⟨#[124]⟩))&& !(gM (de cs i) ⟨#[41]⟩)
def ga (cs:List ByteArray):Nat→Int→Nat→List Tr→List Tr→Tr × Int × Nat
  | 0, _, i, _, _ => (kV, 99, i)
  | f + 1, d, i, alts, terms =>
    if As cs i=true then
      if (iB (fun d j=>ga cs f d j [] []) cs d i).2.1≠0 then (kV,(iB (fun d j=>ga cs f d j [] []) cs d i).2.1,(iB (fun d j=>ga cs f d j [] []) cs d i).2.2)
      else ga cs f d (iB (fun d j=>ga cs f d j [] []) cs d i).2.2 alts (terms++ [(iB (fun d j=>ga cs f d j [] []) cs d i).1])
    else if gj cs i ⟨#[124]⟩=true then ga cs f d (i+1) (alts++ [jQ terms]) []
    else (lP (alts++ [jQ terms]),0,i)
def jx (s:ByteArray):Tr × Int:=
  if 256 < (s.size:Int) then (kV,4)
  else if (ga (bA s) ((bA s).length+1) 0 0 [] []).2.1≠0 then (kV,(ga (bA s) ((bA s).length+1) 0 0 [] []).2.1)
  else if ((ga (bA s) ((bA s).length+1) 0 0 [] []).2.2:Int) < ((bA s).length:Int) then (kV,10)
  else ((ga (bA s) ((bA s).length+1) 0 0 [] []).1,0)
end
section
open Srt
theorem mS (cs:List ByteArray) (i:Nat) (c:ByteArray):i≤tkN cs i c∧(tkN cs i c≤cs.length∨tkN cs i c=i):=by
  unfold tkN;split
  · rename_i h;have:=kx h;omega
  · omega
theorem BF {c:ByteArray} (h:(wr c).2=true):gM c (⟨#[]⟩:ByteArray)=false:=by
  cases hz:gM c (⟨#[]⟩:ByteArray) with
  | false => rfl
  | true =>
    simp only [wr] at h;rw [if_pos hz] at h;cases h
theorem yA {cs:List ByteArray} {i:Nat} (h:(gL cs i).2.2.1=true):i < (gL cs i).2.2.2∧(gL cs i).2.2.2≤cs.length:=by
  unfold gL at h ⊢;split at h
  · cases h
  · rename_i h0;have hlt:i < cs.length:=by
      rw [ci,aG] at h0;exact sD h0.1
    rw [if_neg h0];split at h
    · rename_i h1;rw [if_pos h1];simp;omega
    · rename_i h1;rw [if_neg h1];split at h
      · rename_i h2;rw [if_pos h2];rw [au,ai] at h2;have:=sZ h2.1;simp;omega
      · rename_i h2;rw [if_neg h2];have:=sD (BF h);simp;omega
theorem rK (cs:List ByteArray) (x:Tr) (j:Nat) (mn mx:Int):j≤(nv cs x j mn mx).2.2∧((nv cs x j mn mx).2.2≤cs.length∨(nv cs x j mn mx).2.2=j):=mS cs j _
theorem yB (cs:List ByteArray) (i:Nat):i≤(la cs i).2.2∧((la cs i).2.2≤cs.length∨(la cs i).2.2=i):=CX cs 4 0 0 i
theorem yC {cs:List ByteArray} {x:Tr} {mn mx:Int} {ok:Bool} {j:Nat} (h:(pe cs x mn mx ok j).2.1=0):j≤(pe cs x mn mx ok j).2.2∧(pe cs x mn mx ok j).2.2≤cs.length:=by
  unfold pe at h ⊢;split at h
  · cases h
  · rename_i h1;rw [if_neg h1];split at h
    · cases h
    · rename_i h2;rw [if_neg h2];split at h
      · cases h
      · rename_i h3;rw [if_neg h3];have:=kx (by simpa using h2:gj cs j ⟨#[125]⟩=true);have:=rK cs x (j+1) mn mx;omega
theorem FK {cs:List ByteArray} {x:Tr} {i:Nat} (h:(hO cs x i).2.1=0):i≤(hO cs x i).2.2∧((hO cs x i).2.2≤cs.length∨(hO cs x i).2.2=i):=by
  have one:∀c,gj cs i c=true→∀mn mx,i≤(nv cs x (i+1) mn mx).2.2∧((nv cs x (i+1) mn mx).2.2≤cs.length∨(nv cs x (i+1) mn mx).2.2=i):=fun c hc mn mx=>by
    have:=kx hc;have:=rK cs x (i+1) mn mx;omega
  unfold hO at h ⊢;split
  · exact one _ (by assumption) _ _
  · split
    · exact one _ (by assumption) _ _
    · split
      · exact one _ (by assumption) _ _
      · split
        · rename_i h1 h2 h3 h4;rw [if_neg h1,if_neg h2,if_neg h3,if_pos h4] at h;have a1:=kx h4;have a2:=yB cs (i+1);split
          · rename_i h5;rw [if_pos h5] at h;cases h
          · rename_i h5;rw [if_neg h5] at h;split
            · rename_i h6;rw [if_pos h6] at h;have a3:=yB cs ((la cs (i+1)).2.2+1);split
              · rename_i h7;rw [if_pos h7] at h;have:=yC h;omega
              · rename_i h7;rw [if_neg h7] at h;have:=yC h;omega
            · rename_i h6;rw [if_neg h6] at h;have:=yC h;omega
        · exact ⟨bz _,.inr rfl⟩
theorem vp {cs:List ByteArray} {ng:Bool}:∀(f i:Nat) (rows:List Rw),(vd cs ng f i rows).2.1=0→i < (vd cs ng f i rows).2.2∧(vd cs ng f i rows).2.2≤cs.length
  | 0, i, rows, h => by cases h
  | f + 1, i, rows, h => by
    rw [vd] at h ⊢;split
    · rename_i h1;have:=kx h1;simp;omega
    · rename_i h1;rw [if_neg h1] at h;split
      · rename_i h2;rw [if_pos h2] at h;cases h
      · rename_i h2;rw [if_neg h2] at h;have a1:=yA (by simpa using h2:(gL cs i).2.2.1=true);split
        · rename_i h3;rw [if_pos h3] at h;have:=vp f _ _ h;omega
        · rename_i h3;rw [if_neg h3] at h;split
          · rename_i h4;rw [if_pos h4] at h;split
            · rename_i h5;rw [if_pos h5] at h;cases h
            · rename_i h5;rw [if_neg h5] at h;have h6:(gL cs ((gL cs i).2.2.2+1)).2.2.1=true:=by
                rw [ci,aG,aG,am] at h5;exact h5.1.1
              have a2:=yA h6;have:=vp f _ _ h;omega
          · rename_i h4;rw [if_neg h4] at h;have:=vp f _ _ h;omega
theorem BG {cs:List ByteArray} {i:Nat} (h:(yz cs i).2.1=0):i < (yz cs i).2.2∧(yz cs i).2.2≤cs.length:=by
  have a1:=vp _ _ _ h;have a2:=mS cs i (⟨#[94]⟩:ByteArray);unfold yz at h ⊢;omega
theorem yD {cs:List ByteArray} {i:Nat} (h:(uR cs i).2.1=0):i < (uR cs i).2.2∧(uR cs i).2.2≤cs.length:=by
  unfold uR at h ⊢;split
  · rename_i h1;rw [au,ai] at h1;have:=sZ h1.1;simp;omega
  · rename_i h1;rw [if_neg h1] at h;split
    · rename_i h2;rw [if_pos h2] at h;cases h
    · rename_i h2;have:=sD (BF (by simpa using h2));simp;omega
def xO (cs:List ByteArray) (sub:Int→Nat→Tr × Int × Nat):Prop:=∀(d2:Int) (j:Nat),(sub d2 j).2.1=0→j≤(sub d2 j).2.2∧((sub d2 j).2.2≤cs.length∨(sub d2 j).2.2=j)
theorem vq {sub:Int→Nat→Tr × Int × Nat} {cs:List ByteArray} {d:Int} {i:Nat} (hs:xO cs sub) (h:(fH sub cs d i).2.1=0):i < (fH sub cs d i).2.2∧(fH sub cs d i).2.2≤cs.length:=by
  unfold fH at h ⊢;split
  · rename_i h1;have:=kx h1;simp;omega
  · rename_i h1;rw [if_neg h1] at h;split
    · rename_i h2;rw [if_pos h2] at h;have a2:=kx h2;split
      · rename_i h3;rw [if_pos h3] at h;cases h
      · rename_i h3;rw [if_neg h3] at h;split
        · rename_i h4;rw [if_pos h4] at h;split
          · rename_i h5;rw [if_pos h5] at h;cases h
          · rename_i h5;rw [if_neg h5] at h;split
            · rename_i h6;rw [if_pos h6] at h;exact absurd h h6
            · rename_i h6;rw [if_neg h6] at h;split
              · rename_i h7;rw [if_pos h7] at h;cases h
              · rename_i h7;have a3:=kx (by simpa using h7:gj cs (sub (d+1) (i+3)).2.2 ⟨#[41]⟩=true);have a4:=hs (d+1) (i+3) (Classical.byContradiction h6);simp;omega
        · rename_i h4;rw [if_neg h4] at h;split
          · rename_i h6;rw [if_pos h6] at h;exact absurd h h6
          · rename_i h6;rw [if_neg h6] at h;split
            · rename_i h7;rw [if_pos h7] at h;cases h
            · rename_i h7;have a3:=kx (by simpa using h7:gj cs (sub (d+1) (i+1)).2.2 ⟨#[41]⟩=true);have a4:=hs (d+1) (i+1) (Classical.byContradiction h6);simp;omega
    · rename_i h2;rw [if_neg h2] at h;split
      · rename_i h3;rw [if_pos h3] at h;have:=BG h;omega
      · rename_i h3;rw [if_neg h3] at h;split
        · rename_i h4;rw [if_pos h4] at h;have:=yD h;omega
        · rename_i h4;rw [if_neg h4] at h;split
          · rename_i h5;rw [if_pos h5] at h;cases h
          · rename_i h5;have hne:gM (de cs i) (⟨#[]⟩:ByteArray)=false:=by
              cases hz:gM (de cs i) (⟨#[]⟩:ByteArray) with
              | false => rfl
              | true =>
                rw [sM.1 hz] at h5;exact absurd (by decide+kernel) h5
            have:=sD hne;simp;omega
theorem Da {cs:List ByteArray} {i:Nat} {c:ByteArray} (h:uS cs i c=true):i+1 < cs.length:=by
  unfold uS at h;simp only [au,ai] at h;omega
theorem yE {sub:Int→Nat→Tr × Int × Nat} {cs:List ByteArray} {d:Int} {i:Nat} (hs:xO cs sub) (h:(iB sub cs d i).2.1=0):i < (iB sub cs d i).2.2∧(iB sub cs d i).2.2≤cs.length:=by
  unfold iB at h ⊢;split
  · rename_i h1;have:=kx h1;simp;omega
  · rename_i h1;rw [if_neg h1] at h;split
    · rename_i h2;have:=kx h2;simp;omega
    · rename_i h2;rw [if_neg h2] at h;split
      · rename_i h3;have:=Da h3;simp;omega
      · rename_i h3;rw [if_neg h3] at h;split
        · rename_i h4;have:=Da h4;simp;omega
        · rename_i h4;rw [if_neg h4] at h;split
          · rename_i h5;rw [if_pos h5] at h;exact absurd h h5
          · rename_i h5;rw [if_neg h5] at h;have a1:=vq hs (Classical.byContradiction h5);have a2:=FK h;omega
theorem sE (cs:List ByteArray):∀(f:Nat) (d:Int) (i:Nat) (alts terms:List Tr),(ga cs f d i alts terms).2.1=0→i≤(ga cs f d i alts terms).2.2∧((ga cs f d i alts terms).2.2≤cs.length∨(ga cs f d i alts terms).2.2=i)
  | 0, d, i, alts, terms, h => by cases h
  | f + 1, d, i, alts, terms, h => by
    have hs:xO cs fun d j=>ga cs f d j [] []:=fun d j hh=>sE cs f d j [] [] hh;rw [ga] at h ⊢;split
    · rename_i h1;rw [if_pos h1] at h;split
      · rename_i h2;rw [if_pos h2] at h;exact absurd h h2
      · rename_i h2;rw [if_neg h2] at h;have a1:=yE hs (Classical.byContradiction h2);have:=sE cs f d _ _ _ h;omega
    · rename_i h1;rw [if_neg h1] at h;split
      · rename_i h2;rw [if_pos h2] at h;have a1:=kx h2;have:=sE cs f d _ _ _ h;omega
      · exact ⟨bz _,.inr rfl⟩
end
section
open Srt
def Ja (x y:Int × Int):Bool:=decide (Jx x y < 0)
theorem HI (x y:Int × Int):Jx x y=if x.1 < y.1 then -1 else if y.1 < x.1 then 1 else if x.2 < y.2 then -1 else if y.2 < x.2 then 1 else 0:=by
  unfold Jx Hw Jw;by_cases h1:x.1 < y.1 <;> by_cases h2:y.1 < x.1 <;> by_cases h3:x.2 < y.2 <;> by_cases h4:y.2 < x.2 <;> simp [h1,h2,h3,h4,List.find?]
theorem rL (x y:Int × Int):Ja x y=true↔x.1 < y.1∨(x.1=y.1∧x.2 < y.2):=by
  unfold Ja;rw [HI,ai];split
  · constructor <;> intro _ <;> omega
  · split
    · constructor <;> intro _ <;> omega
    · split
      · constructor <;> intro _ <;> omega
      · split
        · constructor <;> intro _ <;> omega
        · constructor <;> intro _ <;> omega
def vr (acc:List (Int × Int)) (p:Int × Int):Bool:=decide (0≤(acc.length:Int) - 1)&&ul (nth acc ((acc.length:Int) - 1)) p
def pI (acc:List (Int × Int)) (p:Int × Int):List (Int × Int):=
  if vr acc p=true then acc.set ((acc.length:Int) - 1).toNat ((nth acc ((acc.length:Int) - 1)).1,max (nth acc ((acc.length:Int) - 1)).2 p.2) else acc++ [p]
def qB (xs:List (Int × Int)):List (Int × Int):=xs.foldl pI []
theorem wu (xs:List (Int × Int)) (p:Int × Int):qB (xs++ [p])=pI (qB xs) p:=by simp [qB]
theorem sF {p q:Int × Int}:ul p q=true↔max p.1 q.1≤min p.2 q.2:=by simp [ul]
theorem At (A:List (Int × Int)) (l:Int × Int):nth (A++ [l]) (((A++ [l]).length:Int) - 1)=l:=
  nE (A:=A) (B:=[]) (by simp)
theorem te (q:Int × Int):pI [] q=[q]:=by simp [pI,vr]
theorem sh (A:List (Int × Int)) (l q:Int × Int):pI (A++ [l]) q=if ul l q=true then A++ [(l.1,max l.2 q.2)] else A++ [l]++ [q]:=by
  have h1:vr (A++ [l]) q=ul l q:=by
    unfold vr;rw [At,decide_eq_true (by simp),jY]
  unfold pI;rw [h1,At];split
  · rw [show (((A++ [l]).length:Int) - 1).toNat=A.length by simp];simp
  · rfl
def Db (xs:List (Int × Int)) (y:Int):Prop:=∃p ∈ xs,2 * p.1≤y∧y≤2 * p.2
def LB (xs:List (Int × Int)):Prop:=(∀p ∈ xs,p.1≤p.2)∧xs.Pairwise fun p q=>p.2 < q.1
theorem mL (xs ys:List (Int × Int)) (y:Int):Db (xs++ys) y↔Db xs y∨Db ys y:=by
  simp only [Db,List.mem_append];constructor
  · rintro ⟨p,hp | hp,h⟩
    · exact .inl ⟨p,hp,h⟩
    · exact .inr ⟨p,hp,h⟩
  · rintro (⟨p,hp,h⟩ | ⟨p,hp,h⟩)
    · exact ⟨p,.inl hp,h⟩
    · exact ⟨p,.inr hp,h⟩
theorem yF (p:Int × Int) (y:Int):Db [p] y↔2 * p.1≤y∧y≤2 * p.2:=by simp [Db]
theorem HJ {xs ys:List (Int × Int)} (h:∀p,p ∈ xs↔p ∈ ys) (y:Int):Db xs y↔Db ys y:=by
  simp only [Db,h]
theorem wv (ys:List (Int × Int)) (hs:gK Ja ys) (ho:∀p ∈ ys,p.1≤p.2):
    LB (qB ys)∧(∀y,Db (qB ys) y↔Db ys y)∧∀l ∈ qB ys,∃p ∈ ys,l.1=p.1:=by
  induction ys using gC with
  | h0 => exact ⟨⟨fun p hp => by simp [qB] at hp, by simp [qB]⟩, fun y => Iff.rfl, fun l hl => by simp [qB] at hl⟩
  | h1 ys q ih =>
    obtain ⟨hs1,_,hs2⟩:=List.pairwise_append.1 hs;obtain ⟨⟨i1,i2⟩,i3,i4⟩:=ih hs1 (fun p hp=>ho p (by simp [hp]));have hq:=ho q (by simp);have hle:∀l ∈ qB ys,l.1≤q.1:=by
      intro l hl;obtain ⟨p,hp,e⟩:=i4 l hl;have:=hs2 p hp q (by simp);rw [←ci,rL] at this
      omega
    rw [wu];cases hys:qB ys with
    | nil =>
      rw [hys] at i3;rw [te];refine ⟨⟨by simpa using hq,by simp⟩,fun y=> ?_,fun l hl=>⟨q,by simp,by simp at hl;rw [hl]⟩⟩;rw [mL,←i3];simp [Db]
    | cons a l0 =>
      obtain ⟨A,l,e⟩:∃A l',a::l0=A++ [l']:=⟨(a::l0).dropLast,(a::l0).getLast (by simp),(kK _).symm⟩;rw [hys,e] at i1 i2 i3 i4 hle;rw [e,sh];obtain ⟨j1,_,j2⟩:=List.pairwise_append.1 i2;have hl1:=hle l (by simp);have hl2:=i1 l (by simp);split
      · rename_i ht;rw [sF] at ht;refine ⟨⟨fun p hp=> ?_,List.pairwise_append.2 ⟨j1,by simp,fun p hp r hr=> ?_⟩⟩,fun y=> ?_,fun r hr=> ?_⟩
        · rcases List.mem_append.1 hp with hp | hp
          · exact i1 p (by simp [hp])
          · simp at hp;subst hp;show l.1≤max l.2 q.2;omega
        · simp at hr;subst hr;exact j2 p hp l (by simp)
        · rw [mL,mL,yF,yF,←i3,mL,yF];show _∨(2 * l.1≤y∧y≤2 * max l.2 q.2)↔_;constructor
          · rintro (h | h)
            · exact .inl (.inl h)
            · by_cases hy:y≤2 * l.2
              · exact .inl (.inr ⟨h.1,hy⟩)
              · exact .inr ⟨by omega,by omega⟩
          · rintro ((h | h) | h)
            · exact .inl h
            · exact .inr ⟨h.1,by omega⟩
            · exact .inr ⟨by omega,by omega⟩
        · rcases List.mem_append.1 hr with hr | hr
          · obtain ⟨p,hp,e⟩:=i4 r (by simp [hr]);exact ⟨p,by simp [hp],e⟩
          · simp at hr;subst hr;obtain ⟨p,hp,e⟩:=i4 l (by simp);exact ⟨p,by simp [hp],e⟩
      · rename_i ht;rw [sF] at ht;refine ⟨⟨fun p hp=> ?_,List.pairwise_append.2 ⟨i2,by simp,fun p hp r hr=> ?_⟩⟩,fun y=> ?_,fun r hr=> ?_⟩
        · rcases List.mem_append.1 hp with hp | hp
          · exact i1 p hp
          · simp at hp;subst hp;exact hq
        · simp at hr;subst hr;rcases List.mem_append.1 hp with hp | hp
          · have:=j2 p hp l (by simp);omega
          · simp at hp;subst hp;omega
        · rw [mL,mL ys,i3]
        · rcases List.mem_append.1 hr with hr | hr
          · obtain ⟨p,hp,e⟩:=i4 r hr;exact ⟨p,by simp [hp],e⟩
          · simp at hr;subst hr;exact ⟨r,by simp,rfl⟩
end
section
open Srt
theorem HK:Swo Ja:=by
  constructor
  · intro x y h;rw [←ci,rL];rw [rL] at h;omega
  · intro x y z h1 h2;rw [←ci,rL] at h1 h2 ⊢;omega
section
variable {α β:Type} [Inhabited α] [Inhabited β]
omit [Inhabited α] [Inhabited β] in
theorem ww {lt:α→α→Bool} {lt':β→β→Bool} {f:α→β} {x:α}:∀{ys:List α},(∀y ∈ ys,lt x y=lt' (f x) (f y))→(pa lt x ys).map f=pa lt' (f x) (ys.map f)
  | [], _ => rfl
  | y :: ys, h => by
    have h0:=h y (by simp);have ih:=ww (lt:=lt) (lt':=lt') (f:=f) (x:=x) (ys:=ys) fun z hz=>h z (by simp [hz]);simp only [pa,aB];rw [←h0];split <;> simp [ih]
omit [Inhabited α] [Inhabited β] in
theorem HL {lt:α→α→Bool} {lt':β→β→Bool} {f:α→β} {x:α} {ys:List α} (h:∀y ∈ ys,lt x y=lt' (f x) (f y)):(CA lt x ys).map f=CA lt' (f x) (ys.map f):=by
  unfold CA;rw [List.map_reverse,ww (lt':=lt') (f:=f) (fun y hy=>h y (by simpa using hy)),List.map_reverse]
omit [Inhabited α] [Inhabited β] in
theorem DZ {lt:α→α→Bool} {lt':β→β→Bool} {f:α→β} {xs:List α} (h:∀x ∈ xs,∀y ∈ xs,lt x y=lt' (f x) (f y)):(fi lt xs).map f=fi lt' (xs.map f):=by
  induction xs using gC with
  | h0 => rfl
  | h1 xs x ih =>
    rw [lO,aP,aB,aH,lO,←ih fun a ha b hb=>h a (by simp [ha]) b (by simp [hb])];exact HL fun y hy=>h x (by simp) y (by simp [((pY (lt:=lt) xs).mem_iff).1 hy])
end
def In (S:List ByteArray) (p:Rw):Prop:=p.1 ∈ S∧p.2 ∈ S
def f2 (S:List ByteArray) (p:Rw):Int × Int:=(rk S p.1,rk S p.2)
theorem KO {S:List ByteArray} {p q:Rw} (hp:In S p) (hq:In S q):gP p q=Ja (f2 S p) (f2 S q):=by
  rw [eZ,vl,rL,wa hp.1 hq.1,wa hp.2 hq.2];constructor
  · rintro (h | ⟨e,h⟩)
    · exact .inl h
    · exact .inr ⟨by simp only [f2];rw [e],h⟩
  · rintro (h | ⟨e,h⟩)
    · exact .inl h
    · exact .inr ⟨Ju hp.1 hq.1 e,h⟩
def Ok (S:List ByteArray) (xs:List Rw):Prop:=∀p ∈ xs,iU p=true∧In S p
theorem FL {S:List ByteArray} {p:Rw} (h:iU p=true∧In S p):(f2 S p).1≤(f2 S p).2:=by
  have:=h.1;unfold iU at this
  rw [au] at this
  exact (CG h.2.1 h.2.2).1 this.2
theorem JG {S:List ByteArray} {x y:ByteArray} (hx:x ∈ S) (hy:y ∈ S):rk S (va x y)=max (rk S x) (rk S y):=(Fq hx hy).2
theorem FM {S:List ByteArray} (ys:List Rw) (hok:Ok S ys) (hs:gK Ja (ys.map (f2 S))):
    (iV ys).map (f2 S)=qB (ys.map (f2 S))∧∀l ∈ iV ys,(∃p ∈ ys,l.1=p.1)∧∃p ∈ ys,l.2=p.2:=by
  induction ys using gC with
  | h0 => exact ⟨rfl, fun l hl => by simp [iV] at hl⟩
  | h1 ys q ih =>
    rw [aP,aB,aH] at hs ⊢;obtain ⟨hs1,_,hs2⟩:=List.pairwise_append.1 hs;have hok1:Ok S ys:=fun p hp=>hok p (by simp [hp]);obtain ⟨i1,i2⟩:=ih hok1 hs1;have hsp:=wv (ys.map (f2 S)) hs1 (fun p hp=>by obtain ⟨r,hr,rfl⟩:=List.mem_map.1 hp;exact FL (hok1 r hr));have hq:=hok q (by simp);have hin:∀l ∈ iV ys,In S l:=fun l hl=>by
      obtain ⟨⟨p,hp,e1⟩,r,hr,e2⟩:=i2 l hl;exact ⟨e1 ▸ (hok1 p hp).2.1,e2 ▸ (hok1 r hr).2.2⟩
    rw [qf,wu,←i1];cases hjt:iV ys using gC with
    | h0 =>
      have e:uP [] q=[q]:=by simp [uP,DQ]
      rw [e,aH,te];exact ⟨rfl,fun l hl=>by simp at hl;subst hl;exact ⟨⟨l,by simp,rfl⟩,l,by simp,rfl⟩⟩
    | h1 A l =>
      rw [hjt] at i1 i2 hin;have hl:=hin l (by simp);have hn:nth (A++ [l]) (((A++ [l]).length:Int) - 1)=l:=nE (A:=A) (B:=[]) (by simp);have hle:(f2 S l).1≤(f2 S q).1:=by
        obtain ⟨⟨p,hp,e⟩,_⟩:=i2 l (by simp);have:=hs2 (f2 S p) (List.mem_map.2 ⟨p,hp,rfl⟩) (f2 S q) (by simp);rw [←ci,rL] at this
        have e':(f2 S l).1=(f2 S p).1:=by simp only [f2];rw [e]
        omega
      have hll:(f2 S l).1≤(f2 S l).2:=by
        have h3:=hsp.1.1;rw [←i1] at h3;exact h3 (f2 S l) (by simp)
      have hqq:=FL hq;have hhit:DQ (A++ [l]) q=ul (f2 S l) (f2 S q):=by
        unfold DQ;rw [hn,decide_eq_true (by simp),jY,eZ,CG hq.2.1 hl.2,sF];show (f2 S q).1≤(f2 S l).2↔_;omega
      rw [aP,aB,aH,sh,uP,hhit,hn,show (((A++ [l]).length:Int) - 1).toNat=A.length by simp];split
      · refine ⟨?_,fun r hr=> ?_⟩
        · simp [f2,JG hl.2 hq.2.2]
        · simp at hr;rcases hr with hr | rfl
          · obtain ⟨⟨p,hp,e⟩,p',hp',e'⟩:=i2 r (by simp [hr]);exact ⟨⟨p,by simp [hp],e⟩,p',by simp [hp'],e'⟩
          · obtain ⟨⟨p,hp,e⟩,p',hp',e'⟩:=i2 l (by simp);refine ⟨⟨p,by simp [hp],e⟩,?_⟩;unfold va;split
            · exact ⟨q,by simp,rfl⟩
            · exact ⟨p',by simp [hp'],e'⟩
      · refine ⟨by simp,fun r hr=> ?_⟩;rcases List.mem_append.1 hr with hr | hr
        · obtain ⟨⟨p,hp,e⟩,p',hp',e'⟩:=i2 r hr;exact ⟨⟨p,by simp [hp],e⟩,p',by simp [hp'],e'⟩
        · simp at hr;subst hr;exact ⟨⟨r,by simp,rfl⟩,r,by simp,rfl⟩
theorem ol {S:List ByteArray} {xs:List Rw} (h:Ok S (xs.filter iU)):
    LB ((je xs).map (f2 S))∧(∀y,Db ((je xs).map (f2 S)) y↔Db ((xs.filter iU).map (f2 S)) y)∧∀l ∈ je xs,(∃p ∈ xs.filter iU,l.1=p.1)∧∃p ∈ xs.filter iU,l.2=p.2:=by
  have hp:=pY (lt:=gP) (xs.filter iU);have hok:Ok S (fi gP (xs.filter iU)):=fun p hm=>h p (hp.mem_iff.1 hm);have hm:=DZ (lt:=gP) (lt':=Ja) (f:=f2 S) (xs:=xs.filter iU) fun x hx y hy=>KO (h x hx).2 (h y hy).2;have hs:gK Ja ((fi gP (xs.filter iU)).map (f2 S)):=by rw [hm];exact mj HK _
  obtain ⟨j1,j2⟩:=FM _ hok hs;have j3:=wv _ hs fun p hq=>by obtain ⟨r,hr,rfl⟩:=List.mem_map.1 hq;exact FL (hok r hr)
  unfold je;rw [j1];refine ⟨j3.1,fun y=>(j3.2.1 y).trans ?_,fun l hl=> ?_⟩
  · exact HJ (fun p=>by rw [hm];exact (pY _).mem_iff) y
  · obtain ⟨⟨p,h1,e1⟩,q,h2,e2⟩:=j2 l hl;exact ⟨⟨p,hp.mem_iff.1 h1,e1⟩,q,hp.mem_iff.1 h2,e2⟩
def JH (xs:List Rw):List ByteArray:=xs.flatMap fun p=> [p.1,p.2]
theorem Dc {S:List ByteArray} {xs:List Rw} (h:∀c ∈ JH xs,c ∈ S):Ok S (xs.filter iU):=fun p hp=>by
  obtain ⟨h1,h2⟩:=List.mem_filter.1 hp;exact ⟨h2,h _ (List.mem_flatMap.2 ⟨p,h1,by simp⟩),h _ (List.mem_flatMap.2 ⟨p,h1,by simp⟩)⟩
theorem wx {S:List ByteArray} {xs:List Rw} (h:Ok S (xs.filter iU)):∀l ∈ je xs,In S l:=fun l hl=>by
  obtain ⟨⟨p,hp,e1⟩,r,hr,e2⟩:=(ol h).2.2 l hl;exact ⟨e1 ▸ (h p hp).2.1,e2 ▸ (h r hr).2.2⟩
theorem wy {p:Rw}:iU p=true↔(fY p.1=true∧fY p.2=true)∧xw p.1 p.2=true:=by
  unfold iU;rw [au,au]
theorem FN {S:List ByteArray} {xs:List Rw} (h:Ok S (xs.filter iU)):Ok S (je xs):=fun l hl=>by
  have hin:=wx h l hl;obtain ⟨⟨p,hp,e1⟩,r,hr,e2⟩:=(ol h).2.2 l hl;refine ⟨wy.2 ⟨⟨e1 ▸ (wy.1 (h p hp).1).1.1,e2 ▸ (wy.1 (h r hr).1).1.2⟩,?_⟩,hin⟩;exact (CG hin.1 hin.2).2 ((ol h).1.1 (f2 S l) (List.mem_map.2 ⟨l,hl,rfl⟩))
theorem tf (xs:List Rw):pb (je xs)=true:=by
  have h1:Ok (JH xs) (xs.filter iU):=Dc fun _ hc=>hc;refine wg (k:=(je xs).length) (fun i hi=> ?_) (bz _);have hm:=sW hi;unfold we;rw [(FN h1 _ hm).1,mP,jX];by_cases h0:i=0
  · subst h0;rfl
  · have hi':i - 1 < (je xs).length:=by omega
    rw [show (i:Int) - 1=((i - 1:Nat):Int) by omega];have hp:=List.pairwise_iff_getElem.1 (ol h1).1.2 (i - 1) i (by simpa using hi') (by simpa using hi) (by omega);rw [pu,pu,←mH (cd hi),←mH (cd hi')] at hp;simp only [f2] at hp;have a:=wx h1 _ hm;have b:=wx h1 _ (sW hi');have:xw (nth (je xs) (i:Int)).1 (nth (je xs) ((i - 1:Nat):Int)).2=false:=by
      rw [←ci,CG a.1 b.2];omega
    rw [this,Bool.and_false]
theorem xP (xs:List Rw):(je xs).length≤xs.length:=bE (zX _) (qU xs)
theorem rM (n:Int):(gF n).length≤4:=by unfold gF;split <;> (try split) <;> (try split) <;> decide
theorem xQ (n:Int):pb (gF n)=true:=by unfold gF;split <;> (try split) <;> (try split) <;> decide+kernel
end
section
open Srt
theorem Ea (t:Tr) (d:Int):(eX t≤d)↔(nq (t.kids.map eX)≤ef t d):=by
  rw [mq];unfold ef;split <;> omega
theorem Eb (t:Tr):∀n d:Int,0≤n→0≤d→(((cX t n d).2=true↔(di t≤n∧eX t≤d∧fq t=true))∧((cX t n d).2=true→(cX t n d).1=n - di t)):=by
  induction t using Tr.ind with
  | h t ih =>
    intro n d hn hd;have hK:∀ks:List Tr,(∀k ∈ ks,k ∈ t.kids)→∀m d:Int,0≤m→0≤d→(((kw (ks.map cX) m d).2=true↔(dH (ks.map di)≤m∧nq (ks.map eX)≤d∧ks.all fq=true))∧((kw (ks.map cX) m d).2=true→(kw (ks.map cX) m d).1=m - dH (ks.map di))):=by
      intro ks;induction ks with
      | nil => intro _ m d h h2; simp [kw, dH, nq]; omega
      | cons k ks ih2 =>
        intro hm m d h h2;obtain ⟨i1,i2⟩:=ih k (hm k (by simp)) m d h h2;have hr:=rc k (n:=m) (d:=d) h;have hs:dH ((k::ks).map di)=di k+dH (ks.map di):=by
          rw [show k::ks=[k]++ks from rfl,aP,cu];simp [dH]
        have hx:∀d:Int,nq ((k::ks).map eX)≤d↔(eX k≤d∧nq (ks.map eX)≤d):=by
          intro d;constructor
          · intro hh;refine ⟨nA (qX (by simp)) hh,vm (nA (qW _) hh) fun x hx=>nA (qX (by simp at hx ⊢;exact .inr hx)) hh⟩
          · rintro ⟨h3,h4⟩
            refine vm (nA (qW _) h4) fun x hx=> ?_;simp at hx;rcases hx with rfl | ⟨q,hq,rfl⟩
            · exact h3
            · exact nA (qX (List.mem_map.2 ⟨q,hq,rfl⟩)) h4
        have hp:0≤dH (ks.map di):=kM fun x hx=>by
          obtain ⟨q,_,rfl⟩:=List.mem_map.1 hx;have:=kE q;omega
        rw [aB,kw,hs,hx];split
        · rename_i hf;have hf':=i2 hf;obtain ⟨g1,g2,g3⟩:=i1.1 hf;obtain ⟨j1,j2⟩:=ih2 (fun x hx=>hm x (by simp [hx])) (cX k m d).1 d hr.1 h2;rw [hf'] at j1 j2 ⊢;refine ⟨?_,fun hh=> ?_⟩
          · rw [j1,ec,g3,jY];constructor
            · rintro ⟨a,b,c⟩;exact ⟨by omega,⟨g2,b⟩,c⟩
            · rintro ⟨a,⟨_,b⟩,c⟩;exact ⟨by omega,b,c⟩
          · rw [j2 hh];omega
        · rename_i hf;refine ⟨⟨fun hh=>(by cases hh),fun ⟨a,b,c⟩=> ?_⟩,fun hh=>(by cases hh)⟩;rw [ec,au] at c;exact absurd (i1.2 ⟨by omega,b.1,c.1⟩) hf
    have hp:0≤dH (t.kids.map di):=kM fun x hx=>by
      obtain ⟨q,_,rfl⟩:=List.mem_map.1 hx;have:=kE q;omega
    have hx0:=qW (t.kids.map eX);rw [ra,gY,iG,Ea];split
    · rename_i hc;refine ⟨⟨fun hh=>(by cases hh),fun ⟨a,b,c⟩=> ?_⟩,fun hh=>(by cases hh)⟩;rw [au] at c;simp [c.2] at hc;omega
    · rename_i hc;simp only [aR,ai,ar,not_or,aV,dU] at hc;obtain ⟨j1,j2⟩:=hK t.kids (fun _ h=>h) (n - 1) (ef t d) (by omega) (by omega);refine ⟨?_,fun hh=> ?_⟩
      · rw [j1,hc.2,Bool.and_true];constructor
        · rintro ⟨a,b,c⟩;exact ⟨by omega,b,c⟩
        · rintro ⟨a,b,c⟩;exact ⟨by omega,b,c⟩
      · rw [j2 hh];omega
def rd (t:Tr):Bool:=(decide (di t≤512)&&decide (eX t≤16))&&fq t
theorem kF (t:Tr):(cX t 512 16).2=rd t:=by
  rw [eZ,(Eb t 512 16 (by omega) (by omega)).1];unfold rd;rw [au,au,ai,ai,and_assoc]
theorem BH (t:Tr):dZ (er t)=dZ t:=by
  have h1:∀f:Int→Bool,(er t).kids.any (fun x=>f x.k)=t.kids.any (fun x=>f x.k):=fun f=>by
    rw [oP,List.any_map];congr 1;funext x;simp [BA]
  have h2:(nth (er t).kids 0).k=(nth t.kids 0).k:=by
    rw [oP];cases hk:t.kids with
    | nil => rfl
    | cons x l =>
      show (nth (List.map er (x::l)) 0).k=x.k;rw [←BA x];rfl
  have h3:(er t).kids.length=t.kids.length:=by rw [oP];simp
  have h4:∀ks,sg (er t) ks=sg t ks:=fun ks=>h1 fun k=>ks.any fun y=>decide (k=y);have h5:pH (er t)=pH t:=by unfold pH;rw [qS]
  unfold dZ;rw [h2,h3,h4,h4,h5];rw [qS]
theorem ki (t:Tr):cX (er t)=cX t:=qV (fun t l=>by funext n d;rw [BH];unfold ef qE;rw [BA]) t
end
section
open Srt
def re (cs:List ByteArray):Prop:=cs.length≤256∧∀c ∈ cs,c.size≤256
def JI (cs:List ByteArray):Prop:=∀i:Nat,1≤i→i < cs.length→fY (nth cs (i:Int))=true
def jt (rows:List Rw):Prop:=∀r ∈ rows,r.1.size≤256∧r.2.size≤256
theorem jt.small {rows:List Rw} (h:jt rows):wd rows:=fun r hr=>⟨bE (h r hr).1 (by decide),bE (h r hr).2 (by decide)⟩
theorem jt.app {xs ys:List Rw} (h:jt xs) (h2:jt ys):jt (xs++ys):=fun r hr=>(List.mem_append.1 hr).elim (h r) (h2 r)
theorem jt.one {a b:ByteArray} (h:a.size≤256) (h2:b.size≤256):jt [(a,b)]:=fun r hr=>by
  simp at hr;subst hr;exact ⟨h,h2⟩
theorem jt.nil:jt []:=fun r hr=>by cases hr
theorem wz {xs:List Rw} (h:jt xs):jt (je xs):=fun l hl=>by
  obtain ⟨⟨p,hp,e1⟩,r,hr,e2⟩:=(ol (S:=JH xs) (Dc fun _ hc=>hc)).2.2 l hl;rw [e1,e2];exact ⟨(h p (List.mem_filter.1 hp).1).1,(h r (List.mem_filter.1 hr).1).2⟩
theorem qj (n:Int):jt (gF n):=by unfold gF;split <;> (try split) <;> (try split) <;> (unfold jt;decide)
theorem yG {rows:List Rw} (h:jt rows):Ah rows≤513 * (rows.length:Int):=by
  unfold Ah;induction rows using gC with
  | h0 => simp [dH]
  | h1 rows r ih =>
    rw [aP,aB,aH,fQ,aQ];have:=ih fun x hx=>h x (by simp [hx]);have:=h r (by simp);simp;omega
theorem dp {cs:List ByteArray} (h:re cs) (i:Nat):(de cs i).size≤256:=by
  unfold de;split
  · exact dC _
  · exact h.2 _ (bN (by omega) (by omega))
theorem Au (c:ByteArray) (h:c.size≤256):(wr c).1.size≤256:=by
  unfold wr;repeat (split;exact (by decide))
  exact h
theorem wA {cs:List ByteArray} (h:re cs) (i:Nat):jt (gL cs i).1∧(gL cs i).2.1.size≤256∧(gL cs i).1.length≤4∧(gL cs i).2.2.2≤i+2∧((gL cs i).2.2.1=true→i < (gL cs i).2.2.2∧(gL cs i).2.2.2≤cs.length):=by
  refine ⟨?_,?_,?_,?_,yA⟩ <;> unfold gL <;> (repeat' split)
  · exact jt.nil
  · exact jt.nil
  · exact qj _
  · exact jt.nil
  · exact dC _
  · exact dp h i
  · exact dC _
  · exact Au _ (dp h _)
  · exact dC _
  · exact dC _
  · exact rM _
  · exact dC _
  · simp
  · simp
  · simp
  · simp
theorem HM (k:Int) (c:ByteArray) (h:(k=2∧fY c=true)∨((k=3∨k=8∨k=9∨k=10∨k=11)∧c=⟨#[]⟩)):fq (dQ k c false 0 0 false)=true∧di (dQ k c false 0 0 false)=1∧eX (dQ k c false 0 0 false)=0:=by
  refine ⟨?_,?_,?_⟩
  · rw [gY];have:dZ (dQ k c false 0 0 false)=true:=by
      rcases h with ⟨rfl,h⟩ | ⟨h,rfl⟩
      · simp [dZ,dQ,oj,gM,h]
      · rcases h with rfl | rfl | rfl | rfl | rfl <;> simp [dZ,dQ,pH,oj,gM]
    rw [this];rfl
  · rw [iG];rfl
  · rw [mq];have:qE (dQ k c false 0 0 false)=false:=by
      unfold qE dQ;rcases h with ⟨rfl,h⟩ | ⟨h,rfl⟩
      · rfl
      · rcases h with rfl | rfl | rfl | rfl | rfl <;> rfl
    rw [this];rfl
theorem BI (ng:Bool) (rows:List Rw) (h:pb rows=true):fq (nc ng Sv.nil rows)=true∧di (nc ng Sv.nil rows)=1∧eX (nc ng Sv.nil rows)=0∧fc (nc ng Sv.nil rows)=1+Ah rows:=by
  refine ⟨?_,?_,?_,?_⟩
  · rw [gY];have:dZ (nc ng Sv.nil rows)=true:=by simp [dZ,nc,oj,gM,h]
    rw [this];rfl
  · rw [iG];rfl
  · rw [mq];rfl
  · rw [ns];have:((⟨#[]⟩:ByteArray).size:Int)=0:=rfl;simp [nc,dH,this]
theorem xR (k:Int) (mn mx:Int) (lz:Bool) (x:Tr):di (eF k ⟨#[]⟩ false mn mx lz Sv.nil [x])=1+di x∧eX (eF k ⟨#[]⟩ false mn mx lz Sv.nil [x])=max 0 (eX x)+(if k=5∨k=6 then 1 else 0)∧fc (eF k ⟨#[]⟩ false mn mx lz Sv.nil [x])=1+fc x:=by
  refine ⟨?_,?_,?_⟩
  · rw [iG];simp [eF,dH]
  · rw [mq];have:(qE (eF k ⟨#[]⟩ false mn mx lz Sv.nil [x])=true)↔(k=5∨k=6):=by unfold qE eF;simp
    simp only [this];simp [eF,nq]
  · rw [bP];have:((⟨#[]⟩:ByteArray).size:Int)=0:=rfl;simp [dH,this]
theorem BJ {k:Int} {x:Tr} (hk:k=5∨k=6) (h:fq x=true):fq (eF k ⟨#[]⟩ false 0 0 false Sv.nil [x])=true:=by
  rw [gY];have:dZ (eF k ⟨#[]⟩ false 0 0 false Sv.nil [x])=true:=by
    rcases hk with rfl | rfl <;> simp [dZ,eF,pH,oj,gM]
  rw [this];simp [eF,h]
theorem FO {x:Tr} {mn mx:Int} {lz:Bool} (h:fq x=true) (hk:x.k=2∨x.k=3∨x.k=4∨x.k=5∨x.k=6) (h0:0≤mn∧mn≤255) (h1:mx= -1∨(mn≤mx∧mx≤255)):fq (FJ x mn mx lz)=true:=by
  rw [gY];have hn:(nth [x] 0).k=x.k:=rfl;have:dZ (FJ x mn mx lz)=true:=by
    have hr:qg x.k=true:=by unfold qg;rcases hk with h | h | h | h | h <;> simp [h]
    have h5:(decide (mx= -1) || (decide (mn≤mx)&&decide (mx≤255)))=true:=by
      rw [aR,au,ai,ai,ai];exact h1
    have h6:dZ (FJ x mn mx lz)=(((((oj ⟨#[]⟩ false [] 0 0 false&&decide (([x].length:Int)=1))&&qg (nth [x] 0).k)&&decide (0≤mn))&&decide (mn≤255))&&(decide (mx= -1) || (decide (mn≤mx)&&decide (mx≤255)))):=rfl;rw [h6,h5,hn,hr,decide_eq_true h0.1,decide_eq_true h0.2];simp [oj,gM]
  rw [this];simp [FJ,eF,h]
theorem wB (k:Int) (ks:List Tr):di (lE k ks)=1+dH (ks.map di):=iG _
theorem yH (k:Int) (ks:List Tr) (hk:k=0∨k=1):eX (lE k ks)=nq (ks.map eX):=by
  rw [mq];have:qE (lE k ks)=false:=by unfold qE lE;rcases hk with rfl | rfl <;> rfl
  rw [this];simp [lE]
theorem HN {ks:List Tr} (h:∀x ∈ ks,fq x=true∧x.k≠0∧x.k≠1) (hl:ks.length≠1):fq (lE 0 ks)=true:=by
  rw [gY];have h1:ks.all fq=true:=cI.2 fun x hx=>(h x hx).1;have h2:sg (lE 0 ks) [0,1]=false:=by
    rw [DY,md];intro x hx;have:=h x hx;simp [this.2.1,this.2.2]
  have:dZ (lE 0 ks)=true:=by
    unfold dZ;rw [show (lE 0 ks).k=0 from rfl,if_neg (by decide),if_neg (by decide),if_neg (by decide),if_pos rfl,h2];have:pH (lE 0 ks)=true:=by unfold pH oj lE;simp [gM]
    have hl':decide (((lE 0 ks).kids.length:Int)=1)=false:=decide_eq_false (by show ¬(ks.length:Int)=1;omega);rw [this,hl'];rfl
  rw [this];simp [lE,h1]
theorem Dd {ks:List Tr} (h:∀x ∈ ks,fq x=true∧x.k≠1) (hl:2≤ks.length):fq (lE 1 ks)=true:=by
  rw [gY];have h1:ks.all fq=true:=cI.2 fun x hx=>(h x hx).1;have h2:sg (lE 1 ks) [1]=false:=by
    rw [xN,md];intro x hx;have:=h x hx;simp [this.2]
  have:dZ (lE 1 ks)=true:=by
    unfold dZ;rw [show (lE 1 ks).k=1 from rfl,if_neg (by decide),if_neg (by decide),if_neg (by decide),if_neg (by decide),if_pos rfl,h2];have:pH (lE 1 ks)=true:=by unfold pH oj lE;simp [gM]
    rw [this];have hl':decide ((1:Int) < ((lE 1 ks).kids.length:Int))=true:=decide_eq_true (by show (1:Int) < (ks.length:Int);omega);rw [hl'];rfl
  rw [this];simp [lE,h1]
theorem vt {k:Int} {l:List Tr} (h:∀x ∈ l,x.k≠k):iI k l=l:=by
  induction l with
  | nil => rfl
  | cons x l ih =>
    unfold iI at ih ⊢;rw [List.flatMap_cons,if_neg (h x (by simp)),ih fun y hy=>h y (by simp [hy])];rfl
structure TermOk (x:Tr) (n d:Int):Prop where
  wt:fc x≤2200 * n
  parts:di x≤2 * n
  deep:eX x≤16 - d
  all:fq x=true
  k:x.k≠0∧x.k≠1
structure PatOk (x:Tr) (n d:Int):Prop where
  wt:fc x≤2200 * n+2
  parts:di x≤2 * n+1
  deep:eX x≤16 - d
  all:fq x=true
theorem wC {l:List Tr} {n:Int} (h0:0≤n) (h:∀x ∈ l,eX x≤n):nq (l.map eX)≤n:=vm h0 fun y hy=>by
  obtain ⟨x,hx,rfl⟩:=List.mem_map.1 hy;exact h x hx
theorem wD {ts:List Tr} {d:Int} (hd:d≤16) (h:∀x ∈ ts,fq x=true∧x.k≠0∧x.k≠1∧eX x≤16 - d):fq (jQ ts)=true∧(jQ ts).k≠1∧eX (jQ ts)≤16 - d∧di (jQ ts)≤1+dH (ts.map di):=by
  have hid:=vt (k:=0) (l:=ts) fun x hx=>(h x hx).2.1;unfold jQ;rw [hid];have many:ts.length≠1→fq (lE 0 ts)=true∧(lE 0 ts).k≠1∧eX (lE 0 ts)≤16 - d∧di (lE 0 ts)≤1+dH (ts.map di):=fun hl=>
    ⟨HN (fun x hx=>⟨(h x hx).1,(h x hx).2.1,(h x hx).2.2.1⟩) hl,by show (0:Int)≠1;decide,by rw [yH _ _ (.inl rfl)];exact wC (by omega) fun x hx=>(h x hx).2.2.2,by rw [wB];omega⟩
  match ts,h,many with
  | [], h, many => exact many (by decide)
  | [x], h, _ => exact ⟨(h x (by simp)).1, (h x (by simp)).2.2.1, (h x (by simp)).2.2.2, by simp [dH]; omega⟩
  | x :: y :: l, h, many => exact many (by simp)
theorem Ec {ts:List Tr} {d:Int} (hd:d≤16) (hne:ts≠ []) (h:∀x ∈ ts,fq x=true∧x.k≠1∧eX x≤16 - d):fq (lP ts)=true∧eX (lP ts)≤16 - d∧(ts.length=1→di (lP ts)=dH (ts.map di))∧di (lP ts)≤1+dH (ts.map di):=by
  have hid:=vt (k:=1) (l:=ts) fun x hx=>(h x hx).2.1;unfold lP;rw [hid];match ts,hne,h with
  | [x], _, h => exact ⟨(h x (by simp)).1, (h x (by simp)).2.2, fun _ => by simp [dH], by simp [dH]; omega⟩
  | x :: y :: l, _, h =>
    refine ⟨Dd (fun z hz=>⟨(h z hz).1,(h z hz).2.1⟩) (by simp),?_,fun e=>by simp at e,by show di (lE 1 _)≤_;rw [wB];omega⟩;show eX (lE 1 _)≤_;rw [yH _ _ (.inr rfl)];exact wC (by omega) fun z hz=>(h z hz).2.2
theorem De {cs:List ByteArray} {i:Nat} (h:i < cs.length):de cs i=nth cs (i:Int):=by unfold de;rw [if_neg (by omega)]
theorem BK {c:ByteArray} (h:(wr c).2=true) (hp:fY c=true):fY (wr c).1=true:=by
  unfold wr at h ⊢;split at h
  · cases h
  · rename_i h1;rw [if_neg h1];split at h
    · rename_i h2;rw [if_pos h2];decide+kernel
    · rename_i h2;rw [if_neg h2];split at h
      · rename_i h3;rw [if_pos h3];decide+kernel
      · rename_i h3;rw [if_neg h3];split at h
        · rename_i h4;rw [if_pos h4];decide+kernel
        · rename_i h4;rw [if_neg h4];split at h
          · rename_i h5;rw [if_pos h5];decide+kernel
          · rename_i h5;rw [if_neg h5];split at h
            · rename_i h6;rw [if_pos h6];decide+kernel
            · rename_i h6;rw [if_neg h6];split at h
              · cases h
              · rename_i h7;rw [if_neg h7];exact hp
theorem FP {r:Int × Nat × Nat} (h:xq r=true):r.1≤255:=by
  unfold xq at h;simp at h;omega
theorem vu {cs:List ByteArray} {x:Tr} {j:Nat} {mn mx:Int} (h:fq x=true) (hk:x.k=2∨x.k=3∨x.k=4∨x.k=5∨x.k=6) (h0:0≤mn∧mn≤255) (h1:mx= -1∨(mn≤mx∧mx≤255)):fq (nv cs x j mn mx).1=true∧(nv cs x j mn mx).1.k=7∧di (nv cs x j mn mx).1=1+di x∧eX (nv cs x j mn mx).1=max 0 (eX x)∧fc (nv cs x j mn mx).1=1+fc x:=by
  obtain ⟨a,b,c⟩:=xR 7 mn mx (gj cs j ⟨#[63]⟩) x;exact ⟨FO h hk h0 h1,rfl,a,by have:=b;rw [if_neg (by decide),Int.add_zero] at this;exact this,c⟩
theorem yI {cs:List ByteArray} {x:Tr} {mn mx:Int} {ok:Bool} {j:Nat} (he:(pe cs x mn mx ok j).2.1=0) (h:fq x=true) (hk:x.k=2∨x.k=3∨x.k=4∨x.k=5∨x.k=6) (h0:0≤mn∧mn≤255) (h1:ok=true→mx≤255) (h2: -1≤mx):fq (pe cs x mn mx ok j).1=true∧(pe cs x mn mx ok j).1.k=7∧di (pe cs x mn mx ok j).1=1+di x∧eX (pe cs x mn mx ok j).1=max 0 (eX x)∧fc (pe cs x mn mx ok j).1=1+fc x∧j < (pe cs x mn mx ok j).2.2:=by
  have hle:=yC he;unfold pe at he hle ⊢;split at he
  · cases he
  · rename_i g1;rw [if_neg g1];rw [if_neg g1] at hle;split at he
    · cases he
    · rename_i g2;rw [if_neg g2];rw [if_neg g2] at hle;split at he
      · cases he
      · rename_i g3;rw [if_neg g3];have hl:=rK cs x (j+1) mn mx;simp only [au,ar,ah,ai,not_and,aV] at g3;obtain ⟨a,b,c,d,e⟩:=vu (cs:=cs) (j:=j+1) h hk h0 (mx:=mx) (by
          have:=h1 (by simpa using g1);by_cases hm:mx= -1
          · exact .inl hm
          · exact .inr ⟨g3 hm,this⟩)
        exact ⟨a,b,c,d,e,by omega⟩
theorem Ed {cs:List ByteArray} {x:Tr} {i:Nat} {n d:Int} (hd:d≤16) (he:(hO cs x i).2.1=0) (h:TermOk x n d) (hn:1≤n) (hk:x.k=2∨x.k=3∨x.k=4∨x.k=5∨x.k=6):TermOk (hO cs x i).1 (n+((hO cs x i).2.2 - i)) d:=by
  have fin:∀{y:Tr} {p:Nat},fq y=true∧y.k=7∧di y=1+di x∧eX y=max 0 (eX x)∧fc y=1+fc x→i < p→TermOk y (n+(p - i)) d:=fun {y p} ⟨a,b,c,e,f⟩ hp=>by
    have:=h.wt;have:=h.parts;have:=h.deep;exact ⟨by omega,by omega,by omega,a,by rw [b];decide⟩
  unfold hO at he ⊢;split
  · have hl:=rK cs x (i+1) 0 (-1);exact fin (vu h.all hk (by decide) (.inl rfl)) (by omega)
  · split
    · have hl:=rK cs x (i+1) 1 (-1);exact fin (vu h.all hk (by decide) (.inl rfl)) (by omega)
    · split
      · have hl:=rK cs x (i+1) 0 1;exact fin (vu h.all hk (by decide) (.inr (by decide))) (by omega)
      · split
        · rename_i g1 g2 g3 g4;rw [if_neg g1,if_neg g2,if_neg g3,if_pos g4] at he;have a2:=yB cs (i+1);have a3:=CZ cs (i+1);split
          · rename_i g5;rw [if_pos g5] at he;cases he
          · rename_i g5;rw [if_neg g5] at he;have b1:=FP (by simpa using g5);split
            · rename_i g6;rw [if_pos g6] at he;have a4:=yB cs ((la cs (i+1)).2.2+1);have a5:=CZ cs ((la cs (i+1)).2.2+1);split
              · rename_i g7;rw [if_pos g7] at he;obtain ⟨a,b,c,e,f,g⟩:=yI he h.all hk ⟨by omega,b1⟩ (fun hh=>FP hh) (by omega);exact fin ⟨a,b,c,e,f⟩ (by omega)
              · rename_i g7;rw [if_neg g7] at he;obtain ⟨a,b,c,e,f,g⟩:=yI he h.all hk ⟨by omega,b1⟩ (fun _=>by omega) (by omega);exact fin ⟨a,b,c,e,f⟩ (by omega)
            · rename_i g6;rw [if_neg g6] at he;obtain ⟨a,b,c,e,f,g⟩:=yI he h.all hk ⟨by omega,b1⟩ (fun _=>by omega) (by omega);exact fin ⟨a,b,c,e,f⟩ (by omega)
        · have e1:n+((i:Nat) - (i:Int))=n:=by omega
          rw [e1];exact h
theorem th {cs:List ByteArray} (h:re cs) {ng:Bool}:∀(f i:Nat) (rows:List Rw),jt rows→(vd cs ng f i rows).2.1=0→∃rs,(vd cs ng f i rows).1=nc ng Sv.nil (je rs)∧jt rs∧(rs.length:Int)+4 * i≤(rows.length:Int)+4 * (vd cs ng f i rows).2.2
  | 0, i, rows, _, he => by cases he
  | f + 1, i, rows, ht, he => by
    rw [vd] at he ⊢;split
    · exact ⟨rows,rfl,ht,by simp;omega⟩
    · rename_i g1;rw [if_neg g1] at he;split
      · rename_i g2;rw [if_pos g2] at he;cases he
      · rename_i g2;rw [if_neg g2] at he;have a1:=wA h i;have a2:=a1.2.2.2.2 (by simpa using g2);split
        · rename_i g3;rw [if_pos g3] at he;obtain ⟨rs,b1,b2,b3⟩:=th h f _ _ (ht.app a1.1) he;refine ⟨rs,b1,b2,?_⟩;rw [aQ] at b3;have:=a1.2.2.1;omega
        · rename_i g3;rw [if_neg g3] at he;split
          · rename_i g4;rw [if_pos g4] at he;split
            · rename_i g5;rw [if_pos g5] at he;cases he
            · rename_i g5;rw [if_neg g5] at he;have a3:=wA h ((gL cs i).2.2.2+1);have g6:(gL cs ((gL cs i).2.2.2+1)).2.2.1=true:=by
                rw [ci,aG,aG,am] at g5;exact g5.1.1
              have a4:=a3.2.2.2.2 g6;obtain ⟨rs,b1,b2,b3⟩:=th h f _ _ (ht.app (jt.one a1.2.1 a3.2.1)) he;refine ⟨rs,b1,b2,?_⟩;rw [aQ] at b3;simp at b3;omega
          · rename_i g4;rw [if_neg g4] at he;obtain ⟨rs,b1,b2,b3⟩:=th h f _ _ (ht.app (jt.one a1.2.1 a1.2.1)) he;refine ⟨rs,b1,b2,?_⟩;rw [aQ] at b3;simp at b3;omega
def fU (x:Tr) (n d:Int):Prop:=TermOk x n d∧(x.k=2∨x.k=3∨x.k=4∨x.k=5∨x.k=6)
theorem kR {k:Int} {c:ByteArray} {n d:Int} (hn:1≤n) (hd:d≤16) (h:(k=2∧fY c=true∧c.size≤256)∨((k=3∨k=8∨k=9∨k=10∨k=11)∧c=⟨#[]⟩)):TermOk (dQ k c false 0 0 false) n d:=by
  obtain ⟨a,b,e⟩:=HM k c (h.imp (fun h=>⟨h.1,h.2.1⟩) id);refine ⟨?_,by omega,by omega,a,?_⟩
  · rw [bM];rcases h with ⟨_,_,h⟩ | ⟨_,rfl⟩
    · omega
    · have:((⟨#[]⟩:ByteArray).size:Int)=0:=rfl;omega
  · unfold dQ;simp only [];omega
theorem HO {cs:List ByteArray} (h:re cs) {i:Nat} {n d:Int} (hd:d≤16) (he:(yz cs i).2.1=0) (hn:(yz cs i).2.2 - (i:Int)≤n):fU (yz cs i).1 n d:=by
  have a1:=BG he;have a2:=mS cs i (⟨#[94]⟩:ByteArray);unfold yz at he hn a1 ⊢;obtain ⟨rs,b1,b2,b3⟩:=th h _ _ _ jt.nil he;rw [b1];obtain ⟨c1,c2,c3,c4⟩:=BI (gj cs i ⟨#[94]⟩) (je rs) (tf rs);have c5:=yG (wz b2);have c6:=xP rs;simp at b3;exact ⟨⟨by omega,by omega,by omega,c1,by show (4:Int)≠0∧(4:Int)≠1;decide⟩,.inr (.inr (.inl rfl))⟩
theorem FQ {cs:List ByteArray} (h:re cs) (hp:JI cs) {i:Nat} {n d:Int} (hi:1≤i) (hd:d≤16) (he:(uR cs i).2.1=0) (hn:1≤n):fU (uR cs i).1 n d:=by
  have a1:=yD he;unfold uR at he ⊢;split
  · rename_i g1;obtain ⟨c1,c2,c3,c4⟩:=BI (!(gM (de cs i) (mo (de cs i)))) (gF (cP (mo (de cs i)) 0)) (xQ _);have c5:=yG (qj (cP (mo (de cs i)) 0));have c6:=rM (cP (mo (de cs i)) 0);exact (show fU (nc (!(gM (de cs i) (mo (de cs i)))) Sv.nil (gF (cP (mo (de cs i)) 0))) n d from ⟨⟨by omega,by omega,by omega,c1,by show (4:Int)≠0∧(4:Int)≠1;decide⟩,.inr (.inr (.inl rfl))⟩)
  · rename_i g1;rw [if_neg g1] at he;split
    · rename_i g2;rw [if_pos g2] at he;cases he
    · rename_i g2;have hne:=sD (BF (by simpa using g2));have hpr:fY (de cs i)=true:=by rw [De hne];exact hp i hi hne
      exact ⟨kR hn hd (.inl ⟨rfl,BK (by simpa using g2) hpr,Au _ (dp h i)⟩),.inl rfl⟩
def FR (cs:List ByteArray) (sub:Int→Nat→Tr × Int × Nat):Prop:=∀(d2:Int) (j:Nat),d2≤16→(sub d2 j).2.1=0→PatOk (sub d2 j).1 ((sub d2 j).2.2 - (j:Int)) d2
theorem FSq {sub:Int→Nat→Tr × Int × Nat} {cs:List ByteArray} {d:Int} {i:Nat} (h:re cs) (hp:JI cs) (hs:xO cs sub) (ho:FR cs sub) (hd:d≤16) (he:(fH sub cs d i).2.1=0):fU (fH sub cs d i).1 ((fH sub cs d i).2.2 - (i:Int)) d:=by
  have grp:∀{k:Int} {x:Tr} {m n:Int},(k=5∨k=6)→PatOk x m (d+1)→0≤m→m+2≤n→fU (eF k ⟨#[]⟩ false 0 0 false Sv.nil [x]) n d:=fun {k x m n} hk hx h0 hmn=>by
    obtain ⟨a,b,c⟩:=xR k 0 0 false x;have h1:=hx.wt;have h2:=hx.parts;have h3:=hx.deep;have h4:=(qY x).1;rw [if_pos hk] at b;refine ⟨⟨by omega,by omega,by omega,BJ hk hx.all,?_⟩,?_⟩
    · show k≠0∧k≠1;omega
    · show k=2∨k=3∨k=4∨k=5∨k=6;omega
  have hle:=vq hs he;unfold fH at he hle ⊢;split
  · exact ⟨kR (by simp;omega) hd (.inr ⟨.inl rfl,rfl⟩),.inr (.inl rfl)⟩
  · rename_i g1;rw [if_neg g1] at he hle;split
    · rename_i g2;rw [if_pos g2] at he hle;split
      · rename_i g3;rw [if_pos g3] at he;cases he
      · rename_i g3;rw [if_neg g3] at he hle;split
        · rename_i g4;rw [if_pos g4] at he hle;split
          · rename_i g5;rw [if_pos g5] at he;cases he
          · rename_i g5;rw [if_neg g5] at he hle;split
            · rename_i g6;rw [if_pos g6] at he;exact absurd he g6
            · rename_i g6;rw [if_neg g6] at he hle;split
              · rename_i g7;rw [if_pos g7] at he;cases he
              · rename_i g7;rw [if_neg g7] at hle;have e6:(sub (d+1) (i+3)).2.1=0:=Classical.byContradiction g6;have a4:=hs (d+1) (i+3) e6;exact grp (.inr rfl) (ho (d+1) (i+3) (by omega) e6) (by omega) (by simp;omega)
        · rename_i g4;rw [if_neg g4] at he hle;split
          · rename_i g6;rw [if_pos g6] at he;exact absurd he g6
          · rename_i g6;rw [if_neg g6] at he hle;split
            · rename_i g7;rw [if_pos g7] at he;cases he
            · rename_i g7;rw [if_neg g7] at hle;have e6:(sub (d+1) (i+1)).2.1=0:=Classical.byContradiction g6;have a4:=hs (d+1) (i+1) e6;exact grp (.inl rfl) (ho (d+1) (i+1) (by omega) e6) (by omega) (by simp;omega)
    · rename_i g2;rw [if_neg g2] at he hle;split
      · rename_i g3;rw [if_pos g3] at he hle;have:=BG he;exact HO h hd he (by omega)
      · rename_i g3;rw [if_neg g3] at he hle;split
        · rename_i g4;rw [if_pos g4] at he hle;have:=yD he;exact FQ h hp (by omega) hd he (by omega)
        · rename_i g4;rw [if_neg g4] at he hle;split
          · rename_i g5;rw [if_pos g5] at he;cases he
          · rename_i g5;have hpr:fY (de cs i)=true:=by
              unfold JF at g5;simp only [aR,not_or,ci,am] at g5;exact g5.2
            exact ⟨kR (by simp;omega) hd (.inl ⟨rfl,hpr,dp h i⟩),.inl rfl⟩
theorem Av {sub:Int→Nat→Tr × Int × Nat} {cs:List ByteArray} {d:Int} {i:Nat} (h:re cs) (hp:JI cs) (hs:xO cs sub) (ho:FR cs sub) (hd:d≤16) (he:(iB sub cs d i).2.1=0):TermOk (iB sub cs d i).1 ((iB sub cs d i).2.2 - (i:Int)) d:=by
  unfold iB at he ⊢;split
  · exact kR (by simp;omega) hd (.inr ⟨by decide,rfl⟩)
  · rename_i g1;rw [if_neg g1] at he;split
    · exact kR (by simp;omega) hd (.inr ⟨by decide,rfl⟩)
    · rename_i g2;rw [if_neg g2] at he;split
      · exact kR (by simp;omega) hd (.inr ⟨by decide,rfl⟩)
      · rename_i g3;rw [if_neg g3] at he;split
        · exact kR (by simp;omega) hd (.inr ⟨by decide,rfl⟩)
        · rename_i g4;rw [if_neg g4] at he;split
          · rename_i g5;rw [if_pos g5] at he;exact absurd he g5
          · rename_i g5;rw [if_neg g5] at he;have e5:(fH sub cs d i).2.1=0:=Classical.byContradiction g5;have a1:=vq hs e5;have a2:=FSq h hp hs ho hd e5;have a3:=Ed hd he a2.1 (by omega) a2.2;have e:((fH sub cs d i).2.2 - (i:Int))+((hO cs (fH sub cs d i).1 (fH sub cs d i).2.2).2.2 - ((fH sub cs d i).2.2:Int))=(hO cs (fH sub cs d i).1 (fH sub cs d i).2.2).2.2 - (i:Int):=by omega
            rw [e] at a3;exact a3
structure SoFar (alts terms:List Tr) (i0 i:Nat) (d:Int):Prop where
  at':∀x ∈ alts,fq x=true∧x.k≠1∧eX x≤16 - d
  tt:∀x ∈ terms,fq x=true∧x.k≠0∧x.k≠1∧eX x≤16 - d
  le:i0≤i
  parts:dH (alts.map di)+dH (terms.map di)+(if alts=[] then 0 else 1)≤2 * ((i:Int) - i0)
  wt:dH (alts.map fc)+dH (terms.map fc)≤2200 * ((i:Int) - i0)
theorem SoFar.start (i:Nat) (d:Int):SoFar [] [] i i d:=⟨fun x hx=>(by cases hx),fun x hx=>(by cases hx),bz _,(by simp [dH]),(by simp [dH])⟩
theorem SoFar.term {alts terms:List Tr} {i0 i j:Nat} {d:Int} {x:Tr} (h:SoFar alts terms i0 i d) (hx:TermOk x ((j:Int) - i) d) (hj:i≤j):SoFar alts (terms++ [x]) i0 j d:=by
  refine ⟨h.at',fun y hy=> ?_,by have:=h.le;omega,?_,?_⟩
  · rcases List.mem_append.1 hy with hy | hy
    · exact h.tt y hy
    · simp at hy;subst hy;exact ⟨hx.all,hx.k.1,hx.k.2,hx.deep⟩
  · have:=h.parts;have:=hx.parts;rw [aP,aB,aH,fQ];omega
  · have:=h.wt;have:=hx.wt;rw [aP,aB,aH,fQ];omega
theorem SoFar.alt {alts terms:List Tr} {i0 i:Nat} {d:Int} (h:SoFar alts terms i0 i d) (hd:d≤16):SoFar (alts++ [jQ terms]) [] i0 (i+1) d:=by
  obtain ⟨a,b,c,e⟩:=wD hd h.tt;have hw:=BC terms;refine ⟨fun y hy=> ?_,fun x hx=>(by cases hx),(by have:=h.le;omega),?_,?_⟩
  · rcases List.mem_append.1 hy with hy | hy
    · exact h.at' y hy
    · simp at hy;subst hy;exact ⟨a,b,c⟩
  · have:=h.parts;rw [aP,aB,aH,fQ,if_neg (by simp)];rw [bC];split at this <;> omega
  · have:=h.wt;rw [aP,aB,aH,fQ];rw [bC];omega
theorem SoFar.fin {alts terms:List Tr} {i0 i:Nat} {d:Int} (h:SoFar alts terms i0 i d) (hd:d≤16):PatOk (lP (alts++ [jQ terms])) ((i:Int) - i0) d:=by
  obtain ⟨a,b,c,e⟩:=wD hd h.tt;have hw:=BC terms;have hw2:=FC (alts++ [jQ terms]);have hall:∀x ∈ alts++ [jQ terms],fq x=true∧x.k≠1∧eX x≤16 - d:=fun y hy=>by
    rcases List.mem_append.1 hy with hy | hy
    · exact h.at' y hy
    · simp at hy;subst hy;exact ⟨a,b,c⟩
  obtain ⟨f1,f2,f3,f4⟩:=Ec hd (by simp) hall;have hp:=h.parts;have hwt:=h.wt;rw [aP,aB,aH,fQ] at f4 hw2;refine ⟨by omega,?_,f2,f1⟩;by_cases hn:alts=[]
  · subst hn;have:=f3 (by simp);rw [eN] at this ⊢
    rw [aB,aH,bk,bC] at this
    rw [aH,bC,if_pos rfl] at hp;omega
  · rw [if_neg hn] at hp;omega
theorem vv {cs:List ByteArray} (h:re cs) (hp:JI cs):∀(f:Nat) (d:Int) (i0 i:Nat) (alts terms:List Tr),d≤16→SoFar alts terms i0 i d→(ga cs f d i alts terms).2.1=0→PatOk (ga cs f d i alts terms).1 ((ga cs f d i alts terms).2.2 - (i0:Int)) d
  | 0, d, i0, i, alts, terms, _, _, he => by cases he
  | f + 1, d, i0, i, alts, terms, hd, hso, he => by
    have hs:xO cs fun d j=>ga cs f d j [] []:=fun d j hh=>sE cs f d j [] [] hh;have ho:FR cs fun d j=>ga cs f d j [] []:=fun d j hd hh=>vv h hp f d j j [] [] hd (SoFar.start j d) hh;rw [ga] at he ⊢;split
    · rename_i g1;rw [if_pos g1] at he;split
      · rename_i g2;rw [if_pos g2] at he;exact absurd he g2
      · rename_i g2;rw [if_neg g2] at he;have e2:(iB (fun d j=>ga cs f d j [] []) cs d i).2.1=0:=Classical.byContradiction g2;have a1:=yE hs e2;have a2:=Av h hp hs ho hd e2;exact vv h hp f d i0 _ _ _ hd (hso.term a2 (by omega)) he
    · rename_i g1;rw [if_neg g1] at he;split
      · rename_i g2;rw [if_pos g2] at he;exact vv h hp f d i0 _ _ _ hd (hso.alt hd) he
      · exact hso.fin hd
end
section
open Go.RowKit
theorem eR {P:Program} {a:Act} {o:Oper} {w:World} {x:Operand} {v:Value} {p:Addr} (ho:o.op= .nilCheck x) (hx:a.eval x=v) (hv:v= .pointer (some p)):cA P a o w v:=by
  subst hv;simp [cA,execOp,ho,hx]
def Al:bj:=fun _=>True
def bY (v:Value):bj:=fun g=>v= .pointer (some ⟨g,0,none⟩)
theorem cH.foot {ty:Nat} {cells:List Value} {T:bj} {v:Value} {w:World} (h:cH ty cells T v w):cH ty cells (bY v) v w:=by
  obtain ⟨g,rfl,hlt,_,hg⟩:=h;exact ⟨g,rfl,hlt,rfl,hg⟩
theorem cH.own {ty:Nat} {cells:List Value} {T:bj} {v:Value} {w:World} (h:cH ty cells T v w) {g:Nat} (hg:bY v g):T g:=by
  obtain ⟨g',rfl,_,hT,_⟩:=h;unfold bY at hg;simp at hg;rw [←hg];exact hT
theorem cH.back {ty ty':Nat} {cells cells':List Value} {T:bj} {v:Value} {w w':World} (h:cH ty cells (bY v) v w') (h':cH ty' cells' T v w):cH ty cells T v w':=by
  obtain ⟨g,hv,hlt,hT,hg⟩:=h;exact ⟨g,hv,hlt,h'.own hT,hg⟩
theorem cH.ext {ty:Nat} {cells:List Value} {T:bj} {v:Value} {w w1 w2:World} (h:cH ty cells T v w) (hx:Ext (bY v) w1 w2):Ext T w1 w2:=hx.mono fun _ _ hg=>h.own hg
theorem cH.lt {ty:Nat} {cells:List Value} {T:bj} {v:Value} {w:World} (h:cH ty cells T v w):∀g,bY v g→g < w.heap.size:=fun g hg=>by
  obtain ⟨g',rfl,hlt,_,_⟩:=h;unfold bY at hg;simp at hg;omega
structure RdR (ty:Nat) (v:Value) (cv:Sv) (cs:List ByteArray) (i:Nat) (w:World):Prop where
  box:cH ty [cv.v,.int .i64 (i:Int)] (bY v) v w
  sl:SlT gR w cv.v cs
  ne:cs≠ []→¬bY v (ee cv.v).block
theorem uT {ty:Nat} {v:Value} {cv:Sv} {cs:List ByteArray} {i:Nat} {w:World} {T Z:bj} (hb:cH ty [cv.v,.int .i64 (i:Int)] T v w) (hz:(fb gR Al cv.v cs).P Z w) (hd:∀g,T g→¬Z g):RdR ty v cv cs i w:=
  ⟨hb.foot,hz.1,fun hn hg=>hd _ (hb.own hg) (hz.2 hn).1⟩
theorem RdR.inz {ty:Nat} {v:Value} {cv:Sv} {cs:List ByteArray} {i:Nat} {w:World} {n:Nat} {a:Act} {τ0:Nat→bj} (h:RdR ty v cv cs i w) (st:St (fun k=>bY v k∨w.heap.size≤k) w n a w τ0):Fz (fb gR Al cv.v cs) τ0 w:=
  ⟨h.sl,fun hn=>⟨⟨h.sl.lt hn,fun s hs=>by
    rcases (st.bnd s _ hs).1 with h1 | h1
    · exact h.ne hn h1
    · have:=h.sl.lt hn;omega⟩,av⟩⟩
def kG (ty:Nat) (N:bj) (tag t:Nat) (p:Value) (cells:List Value) (v:Value):Spec N:=⟨some tag,t,fun _ T u w=>u=v∧cH ty cells T p w,fun _ _ T u w w' _ h hr=>⟨hr.1,nY T p w w' h.less hr.2⟩,fun u=>u=v,fun _ _ _ _ h=>h.1⟩
section
variable {N:bj} {P:Program} {ops:Array Oper} {sp:List (Spec N)} {In:Nat→Ini N} {a0:Act} {w0 W:World} {bf:List Nat} {j:Nat} {o:Oper} {s:Spec N} {done:Nat→Bool} {a:Act} {w:World} {τ:Nat→bj}
theorem iZ {ty tag t:Nat} {p v:Value} {cells:List Value} (h:∀{done a w τ},Cx ops sp In a0 w0 bf j o done a w τ→∃g args,hN P a o w g args∧Calls P g args w (fun e w'=>e= .returned v∧Ext (τ tag) w w'∧cH ty cells (τ tag) p w'))
    (hs:s=kG ty N tag t p cells v:=by exact rfl) (hg:o.guard=none:=by exact rfl) (hd:o.dst=some t:=by exact rfl):Ob ops sp In a0 w0 P bf j o s:=by
  subst hs;refine mh (tag:=tag) hg rfl fun done a w τ c=> ?_;obtain ⟨g,args,h1,h2⟩:=h c;refine ⟨g,args,h1,h2.mono fun e w' ⟨he,hx,hb⟩=>⟨v,he,hx,τ tag,fun g h=> .inl h,?_,hb⟩⟩;show be (a.put o.dst v) t=v;rw [hd,eJ a t t _ (c.lt t hd),if_pos rfl]
theorem Cx.dv {ty t slot:Nat} {p v:Value} {cells:List Value} (c:Cx ops sp In a0 w0 bf j o done a w τ) (i:Nat) (hs:sp[i]? =some (kG ty N t slot p cells v)) (hb:(bf.getD j 0).testBit i=true:=by exact rfl):a.eval (.tmp slot)=v:=c.J.pur i _ hs (c.pre i hb)
theorem Cx.db {ty t slot:Nat} {p v:Value} {cells:List Value} (c:Cx ops sp In a0 w0 bf j o done a w τ) (i:Nat) (hs:sp[i]? =some (kG ty N t slot p cells v)) (hl:cr (sp.map (·.tag)) t j=some i:=by exact rfl) (hord:lX (sp.map (·.tag)) bf t j=true:=by kernel_rfl):cH ty cells (τ t) p w:=(c.res i t _ hs hl hord).2
theorem ja {f:FuncId} {args:Array Value} {ty ty':Nat} {p v:Value} {cells cells':List Value} {T:bj} (hb:cH ty' cells' T p w) (h:Calls P f args w (fun e w'=>e= .returned v∧Ext (bY p) w w'∧cH ty cells (bY p) p w')):Calls P f args w (fun e w'=>e= .returned v∧Ext T w w'∧cH ty cells T p w'):=
  h.mono fun e w' ⟨h1,h2,h3⟩=>⟨h1,hb.ext h2,h3.back hb⟩
theorem Cx.tzs {t:Tr} {F:bj} {n:Nat} {a1:Act} {τ0:Nat→bj} {w':World} (c:Cx ops sp In a0 w0 bf j o done a w τ) (st:St N W n a1 w0 τ0) (hx:w.heap.size≤w'.heap.size) (h:TrT (Gn (fun g=>gO τ w g∧Gn F W g) w) w' t):(gT (Gn F W) t).P (gO τ w') w':=TrT.mono h (c.gz (c.hW st) hx)
theorem Cx.tns {t:Tr} {F:bj} {n:Nat} {a1:Act} {τ0:Nat→bj} {w':World} (c:Cx ops sp In a0 w0 bf j o done a w τ) (st:St N W n a1 w0 τ0) (hx:w.heap.size≤w'.heap.size) (h:TrT (Gn aW w) w' t):(gT (Gn F W) t).P (gO τ w') w':=c.tzs st hx (h.mono fun g hg _=>hg.elim (fun h=>h.elim) .inr)
theorem Cx.sns {α:Type} {E:Enc α} {xs:List α} {v:Value} {F:bj} {n:Nat} {a1:Act} {τ0:Nat→bj} {w':World} (c:Cx ops sp In a0 w0 bf j o done a w τ) (st:St N W n a1 w0 τ0) (hx:w.heap.size≤w'.heap.size) (h:SlT E w' v xs∧(xs≠ []→w.heap.size≤(ee v).block)):(fb E (Gn F W) v xs).P (gO τ w') w':=
  ⟨h.1,fun hn=>c.gz (c.hW st) hx _ (.inr (h.2 hn)) (h.1.lt hn)⟩
end
section
variable {N:bj} {l:List Oper} {sp:List (Spec N)} {il:List (Ini N)} {a0 a:Act} {w:World} {τ:Nat→bj}
theorem Fin.dv (h:Fin l sp il a0 a w τ) {ty t slot:Nat} {p v:Value} {cells:List Value} (j:Nat) (hs:sp[j]? =some (kG ty N t slot p cells v)) (hl:cr (sp.map (·.tag)) t sp.length=some j:=by exact rfl):be a slot=v:=(h.res j t _ hs rfl hl).1
theorem Fin.db (h:Fin l sp il a0 a w τ) {ty t slot:Nat} {p v:Value} {cells:List Value} (j:Nat) (hs:sp[j]? =some (kG ty N t slot p cells v)) (hl:cr (sp.map (·.tag)) t sp.length=some j:=by exact rfl):cH ty cells (τ t) p w:=(h.res j t _ hs rfl hl).2
end
theorem cH.cast {ty:Nat} {cs cs':List Value} {T:bj} {v:Value} {w:World} (h:cH ty cs T v w) (e:cs'=cs):cH ty cs' T v w:=e ▸ h
theorem qk {P:Program} {fn:Func} {R:Ending→World→Prop} {a:Act} {w:World} {t t' t2:Nat} {v v' v2:Value} (hr:fn.results=#[.tmp t,.tmp t',.tmp t2]) (hd:a.defers=[]) (hv:be a t=v) (hv':be a t'=v') (hv2:be a t2=v2) (h:R (.returned (.tuple #[v,v',v2])) w):bodyPost P fn R .ret a w:=
  bodyPost_ret (v:= .tuple #[v,v',v2]) (by
    have h0:(a.tmps[t]?).getD undef=v:=by rw [←bG];exact hv
    have h1:(a.tmps[t']?).getD undef=v':=by rw [←bG];exact hv'
    have h2:(a.tmps[t2]?).getD undef=v2:=by rw [←bG];exact hv2
    simp only [results,hr]
    simp [h0,h1,h2]) hd h
def Aw (v:Value) (w:World):Nat:=match w.cell? ((ee v).add 1) with
  | some (.int _ n) => n.toNat
  | _ => 0
theorem vw {ty:Nat} {v x:Value} {i:Nat} {T:bj} {w:World} (h:cH ty [x,.int .i64 (i:Int)] T v w):Aw v w=i:=by
  unfold Aw;rw [h.cell (j:=1) rfl];simp
section
variable {N:bj} {P:Program} {ops:Array Oper} {sp:List (Spec N)} {In:Nat→Ini N} {a0:Act} {w0:World} {bf:List Nat} {j:Nat} {o:Oper} {s:Spec N}
theorem gv (gi:Nat) {tg t:Nat} {want b:Bool} (hs:s=B.det N t undef:=by exact rfl) (hg:o.guard=some (gi,want):=by exact rfl) (hd:o.dst=some t:=by exact rfl) (hgd:((ops[gi]?).bind (·.dst))=some tg:=by exact rfl) (hgs:sp[gi]? =some (B.det N tg (.bool b)):=by exact rfl) (hb:(bf.getD j 0).testBit gi=true:=by exact rfl) (hne:b≠want:=by decide):Ob ops sp In a0 w0 P bf j o s:=by
  intro done a w τ c;subst hs;have hv:=vM (c.v gi hgs hb);refine ⟨fun hn=> ?_,fun _=>⟨Ext.refl _ _,?_⟩⟩
  · exfalso;cases want <;> cases b <;> simp [Region.wanted,hg,yielded,hgd,hv] at hn hne
  · show be (a.put o.dst undef) t=undef;rw [hd,eJ a t t _ (c.lt t hd),if_pos rfl]
end
theorem FT {G Z:bj} {w:World} {ts us:List Tr} (h:(oA G ts).P Z w) (h2:(oA G us).P Z w):(oA G (ts++us)).P Z w:=fun x hx=>(List.mem_append.1 hx).elim (h x) (h2 x)
end
section
open Go.RowKit
open Srt
set_option maxRecDepth 100000 in
theorem KR (v:Value) (cv:Sv) (cs:List ByteArray) (i:Nat) (w:World) (hm0:w.cell? (ee v)=some cv.v) (hm1:w.cell? ((ee v).add 1)=some (aj (i:Int))) (hS:SlT gR w cv.v cs):Calls Tryz.prog 58 #[(.pointer (some (ee v)))] w (fun e w'=>e= .returned (bc (de cs i))∧Ext aW w w'):=by
 refine enter (n:=23) Tryz.func58 rfl rfl (aw rfl) ?_;intro a0 τ0 ha st0;have e0:=oz ha;have hle:=hS.le;refine wp_seq (eK st0 [] ⟨aq fun c=>ax rfl rfl,av⟩ fun ac ag ae ab aa=> ?_);replace e0:=aa.k1 e0;have e2:=aa.V 0;refine wp_seq ?_;refine wp_seq (mG [0,1,3,7,0,16,48,112,240,511] ab [] ⟨ao e0,cD 0 rfl,bS eb aA 1 rfl,aq fun c=>aI rfl aN (c.q 2) ((ab.ext.trans c.J.ext).cellAt hm1),ao e0,cD 4 rfl,bS eb cS 5 rfl,aq fun c=>aI rfl dw (c.q 6) ((ab.ext.trans c.J.ext).cellAt hm0),aq fun c=>dk rfl bL (c.q 7) hS.sl,aq fun c=>iC rfl (c.q 3) (c.q 8),av⟩ fun ac ag ae ab aa=> ?_);obtain ⟨e0,e2⟩:=aa.k2 e0 e2;have e12:=aa.V 9;refine wp_cond_split e12 (fun hc1=> ?_) (fun hc1=> ?_)
 · try simp only [ai] at hc1
   refine wp_seq (eK ab [] ⟨aq fun c=>ax rfl rfl,av⟩ fun ac ag ae ab aa=> ?_);replace e0:=aa.k1 e0;have e2:=aa.V 0;refine wp_ret ?_;refine rp ?_;refine cO (fn:=Tryz.f58) rfl ab.defers e2 ?_;exact ⟨congrArg _ (congrArg _ (by unfold de;first | rw [if_pos (by omega)] | rw [if_neg (by omega)])),ab.ext0⟩
 try simp only [ah,dD] at hc1
 refine wp_skip ?_;refine wp_seq (uf [0,1,3,7,0,16,48,112,255,511,1023] ab [] ⟨ao e0,cD 0 rfl,bS eb cS 1 rfl,aq fun c=>aI rfl dw (c.q 2) ((ab.ext.trans c.J.ext).cellAt hm0),ao e0,cD 4 rfl,bS eb aA 5 rfl,aq fun c=>aI rfl aN (c.q 6) ((ab.ext.trans c.J.ext).cellAt hm1),aq fun c=>aX rfl bL cf (c.q 3) hS.sl (c.q 7) (by omega) (by omega),aq fun c=>aI rfl cJ (c.q 8) ((hS.at (ab.ext.trans c.J.ext)).elem (j:=0) (bF (i:=(i:Int)) (by omega) (by omega)) rfl),aK 9,av⟩ fun ac ag ae ab aa=> ?_);have e2:=aa.V 10;refine wp_ret ?_;refine rp ?_;refine cO (fn:=Tryz.f58) rfl ab.defers e2 ?_;exact ⟨congrArg _ (congrArg _ (by unfold de;first | rw [if_pos (by omega)] | rw [if_neg (by omega)])),ab.ext0⟩
theorem Ax (v:Value) (cv:Sv) (cs:List ByteArray) (i:Nat) (w:World) (hR:RdR 68 v cv cs i w):Calls Tryz.prog 58 #[v] w (fun e w'=>e= .returned (.string (de cs i))∧Ext aW w w'):=by
  have h:=KR v cv cs i w (hR.box.cell (j:=0) rfl) (hR.box.cell (j:=1) rfl) hR.sl;rwa [←hR.box.ptr] at h
set_option maxRecDepth 100000 in
theorem ql (v:Value) (cv:Sv) (cs:List ByteArray) (i:Nat) (s:ByteArray) (w:World) (hR:RdR 68 v cv cs i w) (hL:re cs) (hi:i≤cs.length+5):Calls Tryz.prog 61 #[v,(bc s)] w (fun e w'=>e= .returned (aE (gj cs i s))∧Ext (bY v) w w'∧cH 68 [cv.v,aj ((tkN cs i s:Nat):Int)] (bY v) v w'):=by
 refine fj (bY v) (fun g hg=>hR.box.lt g hg) (n:=36) Tryz.func61 rfl rfl (aw rfl) ?_;intro a0 τ0 ha hτ st0;obtain ⟨e0,e1⟩:=qG ha;have hL1:=hL.1;have r0:cH 68 [cv.v,aj ((i:Nat):Int)] (τ0 0) v w:=by rw [hτ];exact hR.box
 have r9:Fz (fb gR Al cv.v cs) τ0 w:=hR.inz st0;refine wp_seq (eK st0 [jb r0,jz 9 r9] ⟨aq fun c=>ax rfl rfl,av⟩ fun ac ag ae ab aa=> ?_);obtain ⟨e0,e1⟩:=aa.k2 e0 e1;have e4:=aa.V 0;replace r0:=aa.B 0;replace r9:=aa.z1 9;refine wp_seq ?_;refine wp_seq ?_;refine rg [_,_,_,_,_,_,_,_,_,_,_,_,_,_,_,_,_,_,_,_,_,_,_,_] [0,1,3,7,0,16,48,112,240,511,1023,2047,4095,8191,16383,2047,34815,100351,231423,524287,1048575,2047,4194303,8388607] ab [jb r0,jz 9 r9] ⟨ao e0,cD 0 r0.ptr,bS eb aA 1 r0.ptr,fE aN 2 0 1,ao e0,cD 4 r0.ptr,bS eb cS 5 r0.ptr,fE dw 6 0 0,aq fun c=>dk rfl bL (c.q 7) (r9).1.sl,aq fun c=>iC rfl (c.q 3) (c.q 8),bD 9,bm 10 rfl fun c hpc=>aS rfl (c.p e0),bm 10 rfl fun c hpc=>eR rfl (c.M 11 hpc) r0.ptr,bm 10 rfl fun c hpc=>dh rfl eb cS ((c.M 12 hpc).trans r0.ptr),bm 10 rfl fun c hpc=>aI rfl dw (c.M 13 hpc) ((c.B 0).cell (j:=0) rfl),bm 10 rfl fun c hpc=>aS rfl (c.p e0),bm 10 rfl fun c hpc=>eR rfl (c.M 15 hpc) r0.ptr,bm 10 rfl fun c hpc=>dh rfl eb aA ((c.M 16 hpc).trans r0.ptr),bm 10 rfl fun c hpc=>aI rfl aN (c.M 17 hpc) ((c.B 0).cell (j:=1) rfl),bm 10 rfl fun c hpc=>aX rfl bL cf (c.M 14 hpc) (r9).1.sl (c.M 18 hpc) (by have hq0:=bn hpc;omega) (by have hq0:=bn hpc;omega),bm 10 rfl fun c hpc=>aI rfl cJ (c.M 19 hpc) (((c.iz 9 rfl).1).elem (j:=0) (bF (i:=((i:Nat):Int)) (by have hq0:=bn hpc;omega) (by have hq0:=bn hpc;omega)) rfl),bm 10 rfl fun c hpc=>aS rfl (c.p e1),bm 10 rfl fun c hpc=>oa rfl (c.M 20 hpc) (c.M 21 hpc),dm 10 22,av⟩ fun ac ag ae ab aa=> ?_;obtain ⟨e0,e4⟩:=aa.k2 e0 e4;have e28:=aa.V 23;replace r0:=aa.B 0;replace r9:=aa.z1 9;refine wp_cond_split e28 (fun hc1=> ?_) (fun hc1=> ?_)
 · have hd1:=hc1;try simp only [aR,aG,ar,am,ai,ah,dD] at hd1
   refine wp_seq (eK ab [jb r0,jz 9 r9] ⟨aq fun c=>ax rfl rfl,av⟩ fun ac ag ae ab aa=> ?_);replace e0:=aa.k1 e0;have e4:=aa.V 0;replace r0:=aa.B 0;replace r9:=aa.z1 9;refine wp_ret ?_;refine rp ?_;refine cO (fn:=Tryz.f61) rfl ab.defers e4 ?_;have hb_:gj cs i s=false:=by unfold gj;first | (rw [show (decide ((cs.length:Int)≤(i:Int)) || (!(gM (nth cs (i:Int)) s)))=true from by assumption];rfl) | (rw [show (decide ((cs.length:Int)≤(i:Int)) || (!(gM (nth cs (i:Int)) s)))=false from by assumption];rfl)
   rw [hb_,mD hb_];exact ⟨rfl,ab.extIn,r0.foot⟩
 have hd1:=hc1;try simp only [aR,aG,ar,am,ai,ah,dD] at hd1
 refine wp_skip ?_;refine wp_seq (Hn ab [jb r0,jz 9 r9] ⟨ao e0,cD 0 r0.ptr,bS eb aA 1 r0.ptr,fE aN 2 0 1,aq fun c=>cN rfl (c.q 3) rfl (by omega),cD 0 r0.ptr,bS eb aA 5 r0.ptr,cp (cx:=[cv.v,(aj (((i:Nat):Int)+1))]) aA fun c=>⟨c.bp 0 rfl e0,c.ad (c.q 6) e0 rfl,(c.q 4)⟩,av⟩ fun ac ag ae ab aa=> ?_);obtain ⟨e0,e4⟩:=aa.k2 e0 e4;replace r0:=aa.RB 7 e0;replace r9:=aa.z1 9;replace r0:cH 68 [cv.v,aj ((i+1:Nat):Int)] (ae 0) v ag:=by rw [show ((i+1:Nat):Int)=((i:Nat):Int)+1 from by omega];exact r0
 refine wp_seq (eK ab [jb r0,jz 9 r9] ⟨aq fun c=>ax rfl rfl,av⟩ fun ac ag ae ab aa=> ?_);replace e0:=aa.k1 e0;have e4:=aa.V 0;replace r0:=aa.B 0;replace r9:=aa.z1 9;refine wp_ret ?_;refine rp ?_;refine cO (fn:=Tryz.f61) rfl ab.defers e4 ?_;have hb_:gj cs i s=true:=by unfold gj;first | (rw [show (decide ((cs.length:Int)≤(i:Int)) || (!(gM (nth cs (i:Int)) s)))=true from by assumption];rfl) | (rw [show (decide ((cs.length:Int)≤(i:Int)) || (!(gM (nth cs (i:Int)) s)))=false from by assumption];rfl)
 rw [hb_,na hb_];exact ⟨rfl,ab.extIn,r0.foot⟩
def FU:List ByteArray:=[(⟨#[91]⟩:ByteArray),(⟨#[92]⟩:ByteArray),(⟨#[123]⟩:ByteArray),(⟨#[94]⟩:ByteArray),(⟨#[36]⟩:ByteArray),(⟨#[46]⟩:ByteArray),(⟨#[43]⟩:ByteArray),(⟨#[58]⟩:ByteArray)]
def HP (cs:List ByteArray):Bool:=cs.all fun x=>FU.all fun b=> !(gM x b)
theorem yJ {cs:List ByteArray} (h:HP cs=true) {i:Nat} (k:Nat) {b:ByteArray} (hb:FU[k]? =some b):gM (de cs i) b=false:=by
  have hm:b ∈ FU:=iO hb;unfold de;split
  · exact (by decide+kernel:∀b ∈ FU,gM (⟨#[]⟩:ByteArray) b=false) b hm
  · have h1:=cI.1 h _ (bN (xs:=cs) (i:=(i:Int)) (by omega) (by omega));have h2:=cI.1 h1 b hm;simpa using h2
theorem nw {cs:List ByteArray} (h:HP cs=true) {i:Nat} (k:Nat) {b:ByteArray} (hb:FU[k]? =some b):gj cs i b=false:=by
  have h1:=yJ h (i:=i) k hb;unfold de at h1;unfold gj;by_cases hc:(cs.length:Int)≤(i:Int)
  · rw [decide_eq_true hc];rfl
  · rw [if_neg hc] at h1;rw [h1];simp
theorem Df {cs:List ByteArray} (h:HP cs=true) {i:Nat} {b:ByteArray}:uS cs i b=false:=by
  unfold uS;rw [yJ h 1 rfl];rfl
theorem oS (v:Value) (cv:Sv) (cs:List ByteArray) (i:Nat) (s:ByteArray) (w:World) (hR:RdR 68 v cv cs i w) (hL:re cs) (hi:i≤cs.length+5) (hn:gj cs i s=false):Calls Tryz.prog 61 #[v,.string s] w (fun e w'=>e= .returned (.bool false)∧Ext (bY v) w w'∧cH 68 [cv.v,.int .i64 ((i:Nat):Int)] (bY v) v w'):=by
  have h:=ql v cv cs i s w hR hL hi;rw [hn,mD hn] at h;exact h
end
section
open Go.RowKit
open Srt
theorem KS {b:Int} (h:ut b=true):IntKind.u8.wrap (b - 48)=b - 48:=by
  simp only [ut,au,ai] at h;simp [IntKind.wrap,IntKind.signed,IntKind.bits];omega
theorem KT {b:Int} (h:0≤b∧b≤255):IntKind.i64.wrap b=b:=IntWalk.i64_in _ (by omega)
end
section
open Go.RowKit
open Srt
theorem FV {xs:List Rw} {n f:Bool} {s:ByteArray} (h:f=true):DN xs n f s= !(((EL xs s || EL xs (mo s)) || EL xs (Lm s))==n):=by rw [DN,if_pos h]
theorem FW {xs:List Rw} {n f:Bool} {s:ByteArray} (h:f=false):DN xs n f s= !(EL xs s==n):=by rw [DN,if_neg (by rw [h];decide)]
theorem uu {n:Int} (h:n=100):gF n=[(⟨#[48]⟩,⟨#[57]⟩)]∧kh n=true:=by subst h;exact ⟨rfl,rfl⟩
theorem uv {n:Int} (h:n=119):gF n=[(⟨#[48]⟩,⟨#[57]⟩),(⟨#[65]⟩,⟨#[90]⟩),(⟨#[95]⟩,⟨#[95]⟩),(⟨#[97]⟩,⟨#[122]⟩)]∧kh n=true:=by subst h;exact ⟨rfl,rfl⟩
theorem uw {n:Int} (h:n=115):gF n=[(⟨#[9]⟩,⟨#[13]⟩),(⟨#[32]⟩,⟨#[32]⟩)]∧kh n=true:=by subst h;exact ⟨rfl,rfl⟩
theorem FX {n:Int} (h1:¬n=100) (h2:¬n=119) (h3:¬n=115):gF n=[]∧kh n=false:=by
  unfold gF kh;rw [if_neg h1,if_neg h2,if_neg h3,decide_eq_false h1,decide_eq_false h2,decide_eq_false h3];exact ⟨rfl,rfl⟩
set_option maxRecDepth 100000 in
theorem JJ (v:Value) (xs:List (ByteArray × ByteArray)) (s:ByteArray) (w:World) (hS:SlT fx w v xs):Calls Tryz.prog 133 #[v,(bc s)] w (fun e w'=>e= .returned (aE (EL xs s))∧Ext aW w w'):=by
 refine enter (n:=24) Tryz.func133 rfl rfl (aw rfl) ?_;intro a0 τ0 ha st0;obtain ⟨e0,e1⟩:=qG ha;have hle:=hS.le;refine wp_seq (eK st0 [] ⟨aq fun c=>ax rfl rfl,av⟩ fun ac ag ae ab aa=> ?_);obtain ⟨e0,e1⟩:=aa.k2 e0 e1;have e4:=aa.V 0;refine wp_seq ?_;refine wp_seq (sf [0,1,0] ab [] ⟨ao e0,aq fun c=>dk rfl br (c.q 0) hS.sl,aq fun c=>aS rfl rfl,av⟩ fun ac ag ae ab aa=> ?_);obtain ⟨e1,e4⟩:=aa.k2 e1 e4;have e7:=aa.V 0;have e8:=aa.V 1;have e9:=aa.V 2;refine wp_block ?_;refine wp_loop (fun a_ w_=>∃(k:Nat) (τ:Nat→bj),(k≤xs.length)∧
      (∀i < k,(xw (nth xs ((i:Nat):Int)).1 s&&xw s (nth xs ((i:Nat):Int)).2)=false)∧
      St (Nw w) w 24 a_ w_ τ∧
      be a_ 9=(aj (k:Int))∧
      be a_ 1=(bc s)∧
      be a_ 7=v∧
      be a_ 8=(aj (xs.length:Int))) (fun a_ _=>xs.length - (intOf (be a_ 9)).toNat) ?_ ?_
 · refine ⟨0,ae,?_,?_,ab,(e9.trans (bB (by omega))),e1,e7,e8⟩
   · omega
   · intro i hi;omega
 intro a3 w3 hI;obtain ⟨k,τ3,q0,q1,st3,e9,e1,e7,e8⟩:=hI;have m9:=e9;refine wp_seq (eK st3 [] ⟨aq fun c=>cW rfl (c.p e9) (c.p e8),av⟩ fun ac ag ae ab aa=> ?_);obtain ⟨e1,e7,e8,e9⟩:=aa.k4 e1 e7 e8 e9;have e10:=aa.V 0;refine wp_seq ?_;refine wp_cond_split e10 (fun hc1=> ?_) (fun hc1=> ?_)
 · try simp only [ai] at hc1
   refine wp_skip ?_;refine wp_seq ?_;refine wp_block ?_;refine wp_seq (rg [_,_,box _ _ 0 6 [(bc (⟨#[]⟩:ByteArray)),(bc (⟨#[]⟩:ByteArray))],_] [0,1,0,7] ab [] ⟨aq fun c=>aX rfl br bq (c.p e7) hS.sl (c.p e9) (by omega) (by omega),aq fun c=>cq (vs:=[(bc ((nth xs (k:Int)).1)),(bc ((nth xs (k:Int)).2))]) rfl dF bq (c.q 0) rfl (fun _ _ hj=>(hS.at (ab.ext.trans c.J.ext)).elem (bF (i:=(k:Int)) (by omega) (by omega)) hj),bO rfl rfl rfl rfl dR rfl,ey (cx:=[(bc ((nth xs (k:Int)).1)),(bc ((nth xs (k:Int)).2))]) (off:=0) rfl bq fun c=>⟨c.rb 2 rfl,(c.rb 2 rfl).ptr,(c.q 1)⟩,av⟩ fun ac ag ae ab aa=> ?_);obtain ⟨b5x6,e6⟩:=gx ac 6;obtain ⟨e1,e7,e8,e9,e10⟩:=aa.k5 e1 e7 e8 e9 e10;have r0:=aa.rb 3 e6 rfl;refine wp_seq (mG [0,1,0,7,15,31,31,95,255,511] ab [jb r0] ⟨cK cZ cf e6 r0.ptr,fE cJ 0 0 0,ao e1,aq fun c=>vK rfl (c.q 1) (c.q 2),bD 3,aL 4 rfl fun c hpc=>aS rfl (c.p e1),aL 4 rfl fun c hpc=>dh rfl cZ cf ((c.p e6).trans r0.ptr),aL 4 rfl fun c hpc=>aI rfl cJ (c.M 6 hpc) ((c.B 0).cell (j:=1) rfl),aL 4 rfl fun c hpc=>vK rfl (c.M 5 hpc) (c.M 7 hpc),bZ 4 8,av⟩ fun ac ag ae ab aa=> ?_);obtain ⟨e1,e6,e7,e8,e9,e10⟩:=aa.k6 e1 e6 e7 e8 e9 e10;have e22:=aa.V 9;replace r0:=aa.B 0;refine wp_cond_split e22 (fun hc2=> ?_) (fun hc2=> ?_)
   · have hd2:=hc2;try simp only [au] at hd2
     refine wp_seq (eK ab [jb r0] ⟨aq fun c=>ax rfl rfl,av⟩ fun ac ag ae ab aa=> ?_);obtain ⟨e1,e6,e7,e8,e9,e10,e22⟩:=aa.k7 e1 e6 e7 e8 e9 e10 e22;have e4:=aa.V 0;replace r0:=aa.B 0;refine wp_ret ?_;refine rp ?_;refine cO (fn:=Tryz.f133) rfl ab.defers e4 ?_;exact ⟨congrArg _ (congrArg _ (by exact (Hz (k:=k) (by omega) (by assumption)).symm)),ab.ext0⟩
   have hd2:=hc2;try simp only [bl] at hd2
   refine wp_skip ?_;show _;refine eA ab [jb r0] ⟨aq fun c=>cN rfl (c.p e9) rfl (by omega),bD 0,av⟩ fun ac ag ae ab aa=> ?_;obtain ⟨e1,e6,e7,e8,e10,e22⟩:=aa.k6 e1 e6 e7 e8 e10 e22;have e9:=aa.V 1;replace r0:=aa.B 0;refine ⟨⟨k+1,ae,?_,?_,ab,(e9.trans (bB (by omega))),e1,e7,e8⟩,?_⟩
   · omega
   · exact xJ (f:=fun i=>(xw (nth xs i).1 s&&xw s (nth xs i).2)) q1 (by assumption)
   · simp only [m9,e9,intOf];omega
 try simp only [ah,aV] at hc1
 refine wp_exit ?_;repeat (with_reducible refine cy ?_)
 refine cC ?_;refine wp_seq (eK ab [] ⟨aq fun c=>ax rfl rfl,av⟩ fun ac ag ae ab aa=> ?_);have e4:=aa.V 0;refine wp_ret ?_;refine rp ?_;refine cO (fn:=Tryz.f133) rfl ab.defers e4 ?_;exact ⟨congrArg _ (congrArg _ (by exact (Jz (k:=k) (by omega) q1).symm)),ab.ext0⟩
set_option maxRecDepth 100000 in
theorem yK (n:Int) (w:World):Calls Tryz.prog 139 #[.int .u8 n] w (fun e w'=>∃v',e= .returned (.tuple #[v',aE (kh n)])∧Ext aW w w'∧su fx 89 w w' v' (gF n)):=by
 refine enter (n:=23) Tryz.func139 rfl rfl (aw rfl) ?_;intro a0 τ0 ha st0;have e0:=oz ha;refine wp_seq (eA st0 [] ⟨aq fun c=>ax rfl rfl,aq fun c=>ax rfl rfl,av⟩ fun ac ag ae ab aa=> ?_);replace e0:=aa.k1 e0;have e2:=aa.V 0;have e3:=aa.V 1;refine wp_seq (rg [_,box _ _ 0 4 [(bc (⟨#[]⟩:ByteArray)),(bc (⟨#[]⟩:ByteArray))],_] [0,0,3] ab [] ⟨aq fun c=>vP (cells:=#[(bc (⟨#[48]⟩:ByteArray)),(bc (⟨#[57]⟩:ByteArray))]) rfl dR (iT rfl rfl rfl),bO rfl rfl rfl rfl dR rfl,ey (cx:=[(bc (⟨#[48]⟩:ByteArray)),(bc (⟨#[57]⟩:ByteArray))]) (off:=0) rfl bq fun c=>⟨c.rb 1 rfl,(c.rb 1 rfl).ptr,(c.q 0)⟩,av⟩ fun ac ag ae ab aa=> ?_);obtain ⟨b2x4,e4⟩:=gx ac 4;obtain ⟨e0,e2,e3⟩:=aa.k3 e0 e2 e3;have r0:=aa.rb 2 e4 rfl;refine wp_seq ?_;refine wp_seq (eK ab [jb r0] ⟨ao e0,av⟩ fun ac ag ae ab aa=> ?_);obtain ⟨e2,e3,e4⟩:=aa.k3 e2 e3 e4;have e6:=aa.V 0;replace r0:=aa.B 0;refine wp_block ?_;refine wp_seq (eA ab [jb r0] ⟨aq fun c=>cY rfl (c.p e6) rfl,aK 0,av⟩ fun ac ag ae ab aa=> ?_);obtain ⟨e2,e3,e4,e6⟩:=aa.k4 e2 e3 e4 e6;have e7:=aa.V 1;replace r0:=aa.B 0;refine wp_cond_split e7 (fun hc1=> ?_) (fun hc1=> ?_)
 · try simp only [ai] at hc1
   refine wp_seq (rg [_,own fx 89 _ 1 10 ([((⟨#[48]⟩:ByteArray),(⟨#[57]⟩:ByteArray))]),own _ _ _ 1 2 _,_] [0,1,3,7] ab [jb r0] ⟨aq fun c=>dY rfl dF bq ((c.p e4).trans r0.ptr) (c.B 0),dt (cells:=#[(bc (⟨#[48]⟩:ByteArray)),(bc (⟨#[57]⟩:ByteArray))]) rfl rfl rfl rfl br bq dR rfl (by decide) (by decide) (fun _ _ _ _ c=>gB (c.n 0 rfl) (by kernel_rfl)) rfl,eP (t0:=10) rfl rfl rfl rfl rfl (.inr rfl) (fun _ _ _ _ c=>⟨c.ro 1 rfl,rfl⟩),aq fun c=>ax rfl rfl,av⟩ fun ac ag ae ab aa=> ?_);obtain ⟨b5x2,e2⟩:=gx ac 2;obtain ⟨e4,e6⟩:=aa.k2 e4 e6;have e3:=aa.V 3;replace r0:=aa.B 0;have r1:=aa.ro 2 e2 rfl;refine wp_ret ?_;refine rp ?_;refine nZ (fn:=Tryz.f139) rfl ab.defers e2 e3 ?_;obtain ⟨k1,k2⟩:=(by first | exact uu (by assumption) | exact uv (by assumption) | exact uw (by assumption):gF n=[((⟨#[48]⟩:ByteArray),(⟨#[57]⟩:ByteArray))]∧kh n=true);rw [k1,k2];exact ⟨_,rfl,ab.ext0,r1.1,fun g_ h_=>(ab.bnd _ g_ (r1.2 g_ h_)).1⟩
 try simp only [ah] at hc1
 refine wp_seq (eA ab [jb r0] ⟨aq fun c=>cY rfl (c.p e6) rfl,aK 0,av⟩ fun ac ag ae ab aa=> ?_);obtain ⟨e2,e3,e4,e6⟩:=aa.k4 e2 e3 e4 e6;have e11:=aa.V 1;replace r0:=aa.B 0;refine wp_cond_split e11 (fun hc2=> ?_) (fun hc2=> ?_)
 · try simp only [ai] at hc2
   refine wp_seq (rg [_,_,_,_,own fx 89 _ 1 17 ([((⟨#[48]⟩:ByteArray),(⟨#[57]⟩:ByteArray)),((⟨#[65]⟩:ByteArray),(⟨#[90]⟩:ByteArray)),((⟨#[95]⟩:ByteArray),(⟨#[95]⟩:ByteArray)),((⟨#[97]⟩:ByteArray),(⟨#[122]⟩:ByteArray))]),own _ _ _ 1 2 _,_] [0,0,0,0,15,31,63] ab [jb r0] ⟨aq fun c=>dY rfl dF bq ((c.p e4).trans r0.ptr) (c.B 0),aq fun c=>vP (cells:=#[(bc (⟨#[65]⟩:ByteArray)),(bc (⟨#[90]⟩:ByteArray))]) rfl dR (iT rfl rfl rfl),aq fun c=>vP (cells:=#[(bc (⟨#[95]⟩:ByteArray)),(bc (⟨#[95]⟩:ByteArray))]) rfl dR (iT rfl rfl rfl),aq fun c=>vP (cells:=#[(bc (⟨#[97]⟩:ByteArray)),(bc (⟨#[122]⟩:ByteArray))]) rfl dR (iT rfl rfl rfl),dt (cells:=#[(bc (⟨#[48]⟩:ByteArray)),(bc (⟨#[57]⟩:ByteArray)),(bc (⟨#[65]⟩:ByteArray)),(bc (⟨#[90]⟩:ByteArray)),(bc (⟨#[95]⟩:ByteArray)),(bc (⟨#[95]⟩:ByteArray)),(bc (⟨#[97]⟩:ByteArray)),(bc (⟨#[122]⟩:ByteArray))]) rfl rfl rfl rfl br bq dR rfl (by decide) (by decide) (fun _ _ _ _ c=>IU (c.n 0 rfl) (c.n 1 rfl) (c.n 2 rfl) (c.n 3 rfl) (by kernel_rfl)) rfl,eP (t0:=17) rfl rfl rfl rfl rfl (.inr rfl) (fun _ _ _ _ c=>⟨c.ro 4 rfl,rfl⟩),aq fun c=>ax rfl rfl,av⟩ fun ac ag ae ab aa=> ?_);obtain ⟨b7x2,e2⟩:=gx ac 2;replace e6:=aa.k1 e6;have e3:=aa.V 6;have r1:=aa.ro 5 e2 rfl;refine wp_ret ?_;refine rp ?_;refine nZ (fn:=Tryz.f139) rfl ab.defers e2 e3 ?_;obtain ⟨k1,k2⟩:=(by first | exact uu (by assumption) | exact uv (by assumption) | exact uw (by assumption):gF n=[((⟨#[48]⟩:ByteArray),(⟨#[57]⟩:ByteArray)),((⟨#[65]⟩:ByteArray),(⟨#[90]⟩:ByteArray)),((⟨#[95]⟩:ByteArray),(⟨#[95]⟩:ByteArray)),((⟨#[97]⟩:ByteArray),(⟨#[122]⟩:ByteArray))]∧kh n=true);rw [k1,k2];exact ⟨_,rfl,ab.ext0,r1.1,fun g_ h_=>(ab.bnd _ g_ (r1.2 g_ h_)).1⟩
 try simp only [ah] at hc2
 refine wp_seq (eA ab [jb r0] ⟨aq fun c=>cY rfl (c.p e6) rfl,aK 0,av⟩ fun ac ag ae ab aa=> ?_);obtain ⟨e2,e3⟩:=aa.k2 e2 e3;have e18:=aa.V 1;refine wp_cond_split e18 (fun hc3=> ?_) (fun hc3=> ?_)
 · try simp only [ai] at hc3
   refine wp_seq (rg [_,_,own fx 89 _ 0 22 ([((⟨#[9]⟩:ByteArray),(⟨#[13]⟩:ByteArray)),((⟨#[32]⟩:ByteArray),(⟨#[32]⟩:ByteArray))]),own _ _ _ 0 2 _,_] [0,0,3,7,15] ab [] ⟨aq fun c=>vP (cells:=#[(bc (⟨#[9]⟩:ByteArray)),(bc (⟨#[13]⟩:ByteArray))]) rfl dR (iT rfl rfl rfl),aq fun c=>vP (cells:=#[(bc (⟨#[32]⟩:ByteArray)),(bc (⟨#[32]⟩:ByteArray))]) rfl dR (iT rfl rfl rfl),dt (cells:=#[(bc (⟨#[9]⟩:ByteArray)),(bc (⟨#[13]⟩:ByteArray)),(bc (⟨#[32]⟩:ByteArray)),(bc (⟨#[32]⟩:ByteArray))]) rfl rfl rfl rfl br bq dR rfl (by decide) (by decide) (fun _ _ _ _ c=>iT (c.n 0 rfl) (c.n 1 rfl) (by kernel_rfl)) rfl,eP (t0:=22) rfl rfl rfl rfl rfl (.inr rfl) (fun _ _ _ _ c=>⟨c.ro 2 rfl,rfl⟩),aq fun c=>ax rfl rfl,av⟩ fun ac ag ae ab aa=> ?_);obtain ⟨b9x2,e2⟩:=gx ac 2;have e3:=aa.V 4;have r0:=aa.ro 3 e2 rfl;refine wp_ret ?_;refine rp ?_;refine nZ (fn:=Tryz.f139) rfl ab.defers e2 e3 ?_;obtain ⟨k1,k2⟩:=(by first | exact uu (by assumption) | exact uv (by assumption) | exact uw (by assumption):gF n=[((⟨#[9]⟩:ByteArray),(⟨#[13]⟩:ByteArray)),((⟨#[32]⟩:ByteArray),(⟨#[32]⟩:ByteArray))]∧kh n=true);rw [k1,k2];exact ⟨_,rfl,ab.ext0,r0.1,fun g_ h_=>(ab.bnd _ g_ (r0.2 g_ h_)).1⟩
 try simp only [ah] at hc3
 refine wp_skip ?_;show _;refine wp_seq (eA ab [] ⟨aq fun c=>ax rfl rfl,aq fun c=>ax rfl rfl,av⟩ fun ac ag ae ab aa=> ?_);have e2:=aa.V 0;have e3:=aa.V 1;refine wp_ret ?_;refine rp ?_;refine nZ (fn:=Tryz.f139) rfl ab.defers e2 e3 ?_;obtain ⟨k1,k2⟩:=FX (n:=n) (by assumption) (by assumption) (by assumption);rw [k1,k2];exact ⟨_,rfl,ab.ext0,iD.nil _ _ _,fun g_ h_=>by simp [Value.ownBlock] at h_⟩
end
section
open Go.RowKit
open Srt
theorem ep.sn {α:Type} {E:Enc α} {ty:Nat} {xs:List α} {T:bj} {v:Value} {w W:World} (h:ep E ty xs T v w) (hT:∀g,T g→W.heap.size≤g):SlT E w v xs∧(xs≠ []→W.heap.size≤(ee v).block):=⟨h.1.sl,fun hn=>hT _ (h.blk hn)⟩
end
section
open Go.RowKit
open Srt
theorem nG {cs:List ByteArray} {x:Tr} {mn mx:Int} {j:Nat} (h:((!(gj cs j ⟨#[125]⟩)) || ((!decide (mx= -1))&&decide (mx < mn)))=true):pe cs x mn mx true j=(kV,10,tkN cs j ⟨#[125]⟩):=by
  unfold pe;rw [if_neg (by decide)];cases ht:gj cs j ⟨#[125]⟩ with
  | false => rw [if_pos rfl, mD ht]
  | true =>
    rw [ht] at h;rw [if_neg (by decide),if_pos (by simpa using h),na ht]
theorem qm {cs:List ByteArray} {x:Tr} {mn mx:Int} {j:Nat} (h:((!(gj cs j ⟨#[125]⟩)) || ((!decide (mx= -1))&&decide (mx < mn)))=false):pe cs x mn mx true j=nv cs x (j+1) mn mx∧gj cs j ⟨#[125]⟩=true:=by
  rw [aG,am] at h;unfold pe;rw [if_neg (by decide),h.1,if_neg (by decide),if_neg (by rw [h.2];decide)];exact ⟨rfl,rfl⟩
theorem qn {cs:List ByteArray} {x:Tr} {mn mx:Int} {j:Nat}:pe cs x mn mx false j=(kV,10,j):=by
  unfold pe;rw [if_pos rfl]
set_option maxRecDepth 100000 in
set_option maxHeartbeats 4000000 in
theorem HQ (F:bj) (v:Value) (cv:Sv) (cs:List ByteArray) (i:Nat) (t:Tr) (w:World) (hR:RdR 68 v cv cs i w) (hL:re cs) (hi:i≤cs.length+1) (hT:TrT F w t) (hFd:∀g,F g→¬bY v g) (hno:HP cs=true):Calls Tryz.prog 80 #[v,(ta t)] w (fun e w'=>∃t':Tr,e= .returned (.tuple #[t'.v,aj (hO cs (er t) i).2.1])∧Ext (bY v) w w'∧cH 68 [cv.v,aj (((hO cs (er t) i).2.2:Nat):Int)] (bY v) v w'∧TrT (Gn F w) w' t'∧er t'=(hO cs (er t) i).1):=by
 refine fj (bY v) (fun g hg=>hR.box.lt g hg) (n:=75) Tryz.func80 rfl rfl (aw rfl) ?_;intro a0 τ0 ha hτ st0;have e0:be a0 0=v:=ha 0 _ rfl;have e1:be a0 1=(ta t):=ha 1 _ rfl;clear ha;have hn43_:gj cs i (⟨#[43]⟩:ByteArray)=false:=nw hno 6 rfl;have hn123_:gj cs i (⟨#[123]⟩:ByteArray)=false:=nw hno 2 rfl;have hL1:=hL.1;have r0:cH 68 [cv.v,aj ((i:Nat):Int)] (τ0 0) v w:=by rw [hτ];exact hR.box
 have r9:Fz (fb gR Al cv.v cs) τ0 w:=hR.inz st0;have r8:Fz (gT (Gn F w) t) τ0 w:=hT.inT hFd st0;refine wp_seq (rg [box _ _ 1 3 (tc t),box _ _ 2 4 [(aj 0),(bc (⟨#[]⟩:ByteArray)),(aE false),(.slice none 0 0),(aj 0),(aj 0),(aE false),(.slice none 0 0)],_] [0,0,0] st0 [jb r0,jz 8 r8,jz 9 r9] ⟨hH (v:=(ta t)) rfl rfl rfl rfl rfl (fun _ _ _ _ c=>(c.p e1)),bO rfl rfl rfl rfl aD rfl,aq fun c=>ax rfl rfl,av⟩ fun ac ag ae ab aa=> ?_);obtain ⟨b1x3,e3⟩:=gx ac 3;obtain ⟨b1x4,e4⟩:=gx ac 4;replace e0:=aa.k1 e0;have e5:=aa.V 2;replace r0:=aa.B 0;have r1:=aa.rb 0 e3 rfl;have r2:=aa.rb 1 e4 rfl;obtain ⟨r8,r9⟩:=aa.z2 8 9;refine wp_seq ?_;refine aY ?_;refine bV 2 (by kernel_rfl) ?_;refine og [_,iA _ 10 True (fun b:Sv=>b.v) (fun _=>True) (fun b:Sv=>fb lY (Gn F w) b.v [t])] [0,1] ab [jb r0,jb r1,jb r2,jz 8 r8,jz 9 r9] ⟨aq fun c=>dY rfl az ak ((c.p e3).trans r1.ptr) (c.B 1),oR (E:=lY) (xs:=[t]) (cells:=#[(aj t.k),(bc t.ch),(aE t.ng),t.rv.v,(aj t.mn),(aj t.mx),(aE t.lz),t.kv.v]) ab sP rfl aU ak aD (by decide) (by decide) rfl rfl fun c hpc=>gB (c.n 0 rfl) (by kernel_rfl),av⟩ fun ac ag ae ab aa=> ?_;obtain ⟨e0,e3,e4,e5⟩:=aa.k4 e0 e3 e4 e5;obtain ⟨kv1_,e10,-,hz2⟩:=aa.gzd 1 rfl trivial;replace r0:=aa.B 0;replace r1:=aa.B 1;replace r2:=aa.B 2;obtain ⟨r8,r9⟩:=aa.z2 8 9;have r3:=hz2;refine bW ?_;refine og [_,box _ _ 4 6 [(aj 0),(bc (⟨#[]⟩:ByteArray)),(aE false),(.slice none 0 0),(aj 0),(aj 0),(aE false),(.slice none 0 0)],_] [0,1,3] ab [jb r0,jb r1,jb r2,jz 3 r3,jz 8 r8,jz 9 r9] ⟨aq fun c=>eW (cells:=#[(aj 7),(bc (⟨#[]⟩:ByteArray)),(aE false),(.slice none 0 0),(aj 0),(aj (-1)),(aE false),kv1_.v]) rfl aD (EX rfl rfl (c.p e10) rfl),bO rfl rfl rfl rfl aD rfl,ey (cx:=[(aj 7),(bc (⟨#[]⟩:ByteArray)),(aE false),(.slice none 0 0),(aj 0),(aj (-1)),(aE false),kv1_.v]) (off:=0) rfl ak fun c=>⟨c.rb 1 rfl,(c.rb 1 rfl).ptr,(c.q 0)⟩,av⟩ fun ac ag ae ab aa=> ?_;obtain ⟨b3x6,e6⟩:=gx ac 6;obtain ⟨e0,e3,e4,e5⟩:=aa.k4 e0 e3 e4 e5;replace r0:=aa.B 0;replace r1:=aa.B 1;replace r2:=aa.B 2;replace r3:=aa.z1 3;have r4:=aa.rb 2 e6 rfl;obtain ⟨r8,r9⟩:=aa.z2 8 9;refine wp_seq ?_;refine wp_block ?_;refine wp_seq (rg [_,kG 68 _ 0 15 v [cv.v,(aj ((tkN cs i (⟨#[42]⟩:ByteArray):Nat):Int))] (aE (gj cs i (⟨#[42]⟩:ByteArray))),_] [0,1,3] ab [jb r0,jb r1,jb r2,jz 3 r3,jb r4,jz 8 r8,jz 9 r9] ⟨ao e0,iZ fun {_ a_ _ _} c=>⟨_,_,(ck rfl rfl gn (c.q 0) rfl),ja (c.B 0) (ql v cv cs i (⟨#[42]⟩:ByteArray) _ (uT (c.B 0) (c.iz 9 rfl) (fun g_ h_ hz_=>hz_.2 _ h_)) hL (by omega))⟩,aq fun c=>ax rfl (c.dv 1 rfl),av⟩ fun ac ag ae ab aa=> ?_);obtain ⟨e0,e3,e4,e5,e6⟩:=aa.k5 e0 e3 e4 e5 e6;have e13:=aa.V 2;replace r0:=aa.db 1 rfl;replace r1:=aa.B 1;replace r2:=aa.B 2;obtain ⟨r3,r8,r9⟩:=aa.z3 3 8 9;replace r4:=aa.B 4;refine wp_cond_split e13 (fun hc1=> ?_) (fun hc1=> ?_)
 · skip;have htk1:gj cs i (⟨#[42]⟩:ByteArray)=true:=hc1;have htl1:=kx htk1;rw [na htk1] at r0;refine wp_skip ?_;show _;refine wp_seq (rg [_,kG 68 _ 0 72 v [cv.v,(aj ((tkN cs (i+1) (⟨#[63]⟩:ByteArray):Nat):Int))] (aE (gj cs (i+1) (⟨#[63]⟩:ByteArray))),_,_] [0,1,3,7] ab [jb r0,jb r1,jb r2,jz 3 r3,jb r4,jz 8 r8,jz 9 r9] ⟨ao e0,iZ fun {_ a_ _ _} c=>⟨_,_,(ck rfl rfl gn (c.q 0) rfl),ja (c.B 0) (ql v cv cs (i+1) (⟨#[63]⟩:ByteArray) _ (uT (c.B 0) (c.iz 9 rfl) (fun g_ h_ hz_=>hz_.2 _ h_)) hL (by omega))⟩,cK aJ cj e6 r4.ptr,cp (cx:=[(aj 7),(bc (⟨#[]⟩:ByteArray)),(aE false),(.slice none 0 0),(aj 0),(aj (-1)),(aE (gj cs (i+1) (⟨#[63]⟩:ByteArray))),kv1_.v]) cj fun c=>⟨c.bp 4 rfl e6,c.ad (c.q 2) e6 rfl,(c.dv 1 rfl)⟩,av⟩ fun ac ag ae ab aa=> ?_);obtain ⟨e0,e4,e5,e6⟩:=aa.k4 e0 e4 e5 e6;replace r0:=aa.db 1 rfl;replace r2:=aa.B 2;obtain ⟨r3,r8,r9⟩:=aa.z3 3 8 9;replace r4:=aa.RB 3 e6;refine wp_seq (fX ab [jb r0,jb r2,jz 3 r3,jb r4,jz 8 r8,jz 9 r9] ⟨aq fun c=>dY rfl az ak ((c.p e6).trans r4.ptr) (c.B 4),cp (cx:=[(aj 7),(bc (⟨#[]⟩:ByteArray)),(aE false),(.slice none 0 0),(aj 0),(aj (-1)),(aE (gj cs (i+1) (⟨#[63]⟩:ByteArray))),kv1_.v]) (off:=0) ak fun c=>⟨c.bp 2 rfl e4,c.ad ((c.p e4).trans r2.ptr) e4 rfl,(c.q 0)⟩,aq fun c=>ax rfl rfl,av⟩ fun ac ag ae ab aa=> ?_);obtain ⟨e0,e4⟩:=aa.k2 e0 e4;have e5:=aa.V 2;replace r0:=aa.B 0;replace r2:=aa.RB 1 e4;obtain ⟨r3,r8,r9⟩:=aa.z3 3 8 9;refine wp_ret ?_;refine rp ?_;refine ek (fn:=Tryz.f80) rfl ab.defers e4 e5 r2 az ak rfl ?_;have he_:hO cs (er t) i=((eF 7 (⟨#[]⟩:ByteArray) false 0 (-1) (gj cs (i+1) (⟨#[63]⟩:ByteArray)) Sv.nil [er t]),0,tkN cs (i+1) (⟨#[63]⟩:ByteArray)):=by unfold hO;(repeat (first | rw [if_neg (by first | assumption | (simp only [ci];assumption) | (simp only [dU];assumption) | (exact fun h_=>h_ (by assumption)) | omega)] | rw [if_pos (by first | assumption | omega)]));(try (first | first | exact qn | exact nG (by assumption) | (rw [(qm (by assumption)).1];rfl) | rfl | (rw [(by assumption:xq (la cs ((la cs (i+1)).2.2+1))=true)];first | exact qn | exact nG (by assumption) | (rw [(qm (by assumption)).1];rfl) | rfl) | (rw [(by assumption:xq (la cs ((la cs (i+1)).2.2+1))=false)];first | exact qn | exact nG (by assumption) | (rw [(qm (by assumption)).1];rfl) | rfl)))
   rw [he_];exact ⟨(eF 7 (⟨#[]⟩:ByteArray) false 0 (-1) (gj cs (i+1) (⟨#[63]⟩:ByteArray)) kv1_ [t]),rfl,ab.extIn,r0.foot,(Fz.out (qA r3 (ly r8 qh))),lJ _ _ _ _ _ _ _ _⟩
 skip;have htk1:gj cs i (⟨#[42]⟩:ByteArray)=false:=hc1;rw [mD htk1] at r0;refine wp_seq (rg [_,kG 68 _ 0 18 v [cv.v,(aj ((i:Nat):Int))] (aE false),_] [0,1,3] ab [jb r0,jb r1,jb r2,jz 3 r3,jb r4,jz 8 r8,jz 9 r9] ⟨ao e0,iZ fun {_ a_ _ _} c=>⟨_,_,(ck rfl rfl gn (c.q 0) rfl),ja (c.B 0) (oS v cv cs i (⟨#[43]⟩:ByteArray) _ (uT (c.B 0) (c.iz 9 rfl) (fun g_ h_ hz_=>hz_.2 _ h_)) hL (by omega) (nw hno 6 rfl))⟩,aq fun c=>ax rfl (c.dv 1 rfl),av⟩ fun ac ag ae ab aa=> ?_);obtain ⟨e0,e3,e4,e5,e6⟩:=aa.k5 e0 e3 e4 e5 e6;have e16:=aa.V 2;replace r0:=aa.db 1 rfl;replace r1:=aa.B 1;replace r2:=aa.B 2;obtain ⟨r3,r8,r9⟩:=aa.z3 3 8 9;replace r4:=aa.B 4;refine wp_cond_false e16 ?_;refine wp_seq (rg [_,kG 68 _ 0 22 v [cv.v,(aj ((tkN cs i (⟨#[63]⟩:ByteArray):Nat):Int))] (aE (gj cs i (⟨#[63]⟩:ByteArray))),_] [0,1,3] ab [jb r0,jb r1,jb r2,jz 3 r3,jb r4,jz 8 r8,jz 9 r9] ⟨ao e0,iZ fun {_ a_ _ _} c=>⟨_,_,(ck rfl rfl gn (c.q 0) rfl),ja (c.B 0) (ql v cv cs i (⟨#[63]⟩:ByteArray) _ (uT (c.B 0) (c.iz 9 rfl) (fun g_ h_ hz_=>hz_.2 _ h_)) hL (by omega))⟩,aq fun c=>ax rfl (c.dv 1 rfl),av⟩ fun ac ag ae ab aa=> ?_);obtain ⟨e0,e3,e4,e5,e6⟩:=aa.k5 e0 e3 e4 e5 e6;have e20:=aa.V 2;replace r0:=aa.db 1 rfl;replace r1:=aa.B 1;replace r2:=aa.B 2;obtain ⟨r3,r8,r9⟩:=aa.z3 3 8 9;replace r4:=aa.B 4;refine wp_cond_split e20 (fun hc3=> ?_) (fun hc3=> ?_)
 · skip;have htk3:gj cs i (⟨#[63]⟩:ByteArray)=true:=hc3;have htl3:=kx htk3;rw [na htk3] at r0;refine eA ab [jb r0,jb r1,jb r2,jz 3 r3,jb r4,jz 8 r8,jz 9 r9] ⟨cK aJ aA e6 r4.ptr,cp (cx:=[(aj 7),(bc (⟨#[]⟩:ByteArray)),(aE false),(.slice none 0 0),(aj 0),(aj 1),(aE false),kv1_.v]) (v:=(aj 1)) aA fun c=>⟨c.bp 4 rfl e6,c.ad (c.q 0) e6 rfl,rfl⟩,av⟩ fun ac ag ae ab aa=> ?_;obtain ⟨e0,e3,e4,e5,e6⟩:=aa.k5 e0 e3 e4 e5 e6;replace r0:=aa.B 0;replace r1:=aa.B 1;replace r2:=aa.B 2;obtain ⟨r3,r8,r9⟩:=aa.z3 3 8 9;replace r4:=aa.RB 1 e6;show _;refine wp_seq (rg [_,kG 68 _ 0 72 v [cv.v,(aj ((tkN cs (i+1) (⟨#[63]⟩:ByteArray):Nat):Int))] (aE (gj cs (i+1) (⟨#[63]⟩:ByteArray))),_,_] [0,1,3,7] ab [jb r0,jb r1,jb r2,jz 3 r3,jb r4,jz 8 r8,jz 9 r9] ⟨ao e0,iZ fun {_ a_ _ _} c=>⟨_,_,(ck rfl rfl gn (c.q 0) rfl),ja (c.B 0) (ql v cv cs (i+1) (⟨#[63]⟩:ByteArray) _ (uT (c.B 0) (c.iz 9 rfl) (fun g_ h_ hz_=>hz_.2 _ h_)) hL (by omega))⟩,cK aJ cj e6 r4.ptr,cp (cx:=[(aj 7),(bc (⟨#[]⟩:ByteArray)),(aE false),(.slice none 0 0),(aj 0),(aj 1),(aE (gj cs (i+1) (⟨#[63]⟩:ByteArray))),kv1_.v]) cj fun c=>⟨c.bp 4 rfl e6,c.ad (c.q 2) e6 rfl,(c.dv 1 rfl)⟩,av⟩ fun ac ag ae ab aa=> ?_);obtain ⟨e0,e4,e5,e6⟩:=aa.k4 e0 e4 e5 e6;replace r0:=aa.db 1 rfl;replace r2:=aa.B 2;obtain ⟨r3,r8,r9⟩:=aa.z3 3 8 9;replace r4:=aa.RB 3 e6;refine wp_seq (fX ab [jb r0,jb r2,jz 3 r3,jb r4,jz 8 r8,jz 9 r9] ⟨aq fun c=>dY rfl az ak ((c.p e6).trans r4.ptr) (c.B 4),cp (cx:=[(aj 7),(bc (⟨#[]⟩:ByteArray)),(aE false),(.slice none 0 0),(aj 0),(aj 1),(aE (gj cs (i+1) (⟨#[63]⟩:ByteArray))),kv1_.v]) (off:=0) ak fun c=>⟨c.bp 2 rfl e4,c.ad ((c.p e4).trans r2.ptr) e4 rfl,(c.q 0)⟩,aq fun c=>ax rfl rfl,av⟩ fun ac ag ae ab aa=> ?_);obtain ⟨e0,e4⟩:=aa.k2 e0 e4;have e5:=aa.V 2;replace r0:=aa.B 0;replace r2:=aa.RB 1 e4;obtain ⟨r3,r8,r9⟩:=aa.z3 3 8 9;refine wp_ret ?_;refine rp ?_;refine ek (fn:=Tryz.f80) rfl ab.defers e4 e5 r2 az ak rfl ?_;have he_:hO cs (er t) i=((eF 7 (⟨#[]⟩:ByteArray) false 0 1 (gj cs (i+1) (⟨#[63]⟩:ByteArray)) Sv.nil [er t]),0,tkN cs (i+1) (⟨#[63]⟩:ByteArray)):=by unfold hO;(repeat (first | rw [if_neg (by first | assumption | (simp only [ci];assumption) | (simp only [dU];assumption) | (exact fun h_=>h_ (by assumption)) | omega)] | rw [if_pos (by first | assumption | omega)]));(try (first | first | exact qn | exact nG (by assumption) | (rw [(qm (by assumption)).1];rfl) | rfl | (rw [(by assumption:xq (la cs ((la cs (i+1)).2.2+1))=true)];first | exact qn | exact nG (by assumption) | (rw [(qm (by assumption)).1];rfl) | rfl) | (rw [(by assumption:xq (la cs ((la cs (i+1)).2.2+1))=false)];first | exact qn | exact nG (by assumption) | (rw [(qm (by assumption)).1];rfl) | rfl)))
   rw [he_];exact ⟨(eF 7 (⟨#[]⟩:ByteArray) false 0 1 (gj cs (i+1) (⟨#[63]⟩:ByteArray)) kv1_ [t]),rfl,ab.extIn,r0.foot,(Fz.out (qA r3 (ly r8 qh))),lJ _ _ _ _ _ _ _ _⟩
 skip;have htk3:gj cs i (⟨#[63]⟩:ByteArray)=false:=hc3;rw [mD htk3] at r0;refine wp_seq (rg [_,kG 68 _ 0 26 v [cv.v,(aj ((i:Nat):Int))] (aE false),_] [0,1,3] ab [jb r0,jb r1,jb r2,jz 3 r3,jb r4,jz 8 r8,jz 9 r9] ⟨ao e0,iZ fun {_ a_ _ _} c=>⟨_,_,(ck rfl rfl gn (c.q 0) rfl),ja (c.B 0) (oS v cv cs i (⟨#[123]⟩:ByteArray) _ (uT (c.B 0) (c.iz 9 rfl) (fun g_ h_ hz_=>hz_.2 _ h_)) hL (by omega) (nw hno 2 rfl))⟩,aq fun c=>ax rfl (c.dv 1 rfl),av⟩ fun ac ag ae ab aa=> ?_);obtain ⟨e0,e3,e4,e5,e6⟩:=aa.k5 e0 e3 e4 e5 e6;have e24:=aa.V 2;replace r0:=aa.db 1 rfl;replace r1:=aa.B 1;replace r2:=aa.B 2;obtain ⟨r3,r8,r9⟩:=aa.z3 3 8 9;replace r4:=aa.B 4;refine wp_cond_false e24 ?_;refine wp_seq (fX ab [jb r0,jb r1,jb r2,jz 3 r3,jb r4,jz 8 r8,jz 9 r9] ⟨aq fun c=>dY rfl az ak ((c.p e3).trans r1.ptr) (c.B 1),cp (cx:=(tc t)) (off:=0) ak fun c=>⟨c.bp 2 rfl e4,c.ad ((c.p e4).trans r2.ptr) e4 rfl,(c.q 0)⟩,aq fun c=>ax rfl rfl,av⟩ fun ac ag ae ab aa=> ?_);obtain ⟨e0,e4,e6⟩:=aa.k3 e0 e4 e6;have e5:=aa.V 2;replace r0:=aa.B 0;replace r2:=aa.RB 1 e4;obtain ⟨r3,r8,r9⟩:=aa.z3 3 8 9;replace r4:=aa.B 4;refine wp_ret ?_;refine rp ?_;refine ek (fn:=Tryz.f80) rfl ab.defers e4 e5 r2 az ak rfl ?_;have he_:hO cs (er t) i=((er t),0,i):=by unfold hO;(repeat (first | rw [if_neg (by first | assumption | (simp only [ci];assumption) | (simp only [dU];assumption) | (exact fun h_=>h_ (by assumption)) | omega)] | rw [if_pos (by first | assumption | omega)]));(try (first | first | exact qn | exact nG (by assumption) | (rw [(qm (by assumption)).1];rfl) | rfl | (rw [(by assumption:xq (la cs ((la cs (i+1)).2.2+1))=true)];first | exact qn | exact nG (by assumption) | (rw [(qm (by assumption)).1];rfl) | rfl) | (rw [(by assumption:xq (la cs ((la cs (i+1)).2.2+1))=false)];first | exact qn | exact nG (by assumption) | (rw [(qm (by assumption)).1];rfl) | rfl)))
 rw [he_];exact ⟨t,rfl,ab.extIn,r0.foot,r8.out,rfl⟩
end
section
open Go.RowKit
open Srt
set_option maxRecDepth 100000 in
set_option maxHeartbeats 4000000 in
theorem JK (sub:Int→Nat→Tr × Int × Nat) (d:Int) (v:Value) (cv:Sv) (cs:List ByteArray) (i:Nat) (w:World) (hR:RdR 68 v cv cs i w) (hL:re cs) (hi:i≤cs.length+1) (hd:0≤d∧d≤16) (hsub:∀(d2:Int) (j:Nat) (w2:World),RdR 68 v cv cs j w2→i < j→j≤cs.length→0≤d2∧d2≤16→Calls Tryz.prog 38 #[v,aj d2] w2 (fun e w3=>∃t':Tr,e= .returned (.tuple #[t'.v,aj (sub d2 j).2.1])∧Ext (bY v) w2 w3∧cH 68 [cv.v,aj (((sub d2 j).2.2:Nat):Int)] (bY v) v w3∧TrT (Gn aW w2) w3 t'∧er t'=(sub d2 j).1)) (hsb:∀(d2:Int) (j:Nat),(sub d2 j).2.1=0→j≤(sub d2 j).2.2∧((sub d2 j).2.2≤cs.length∨(sub d2 j).2.2=j)) (hno:HP cs=true):Calls Tryz.prog 79 #[v,(aj d)] w (fun e w'=>∃t':Tr,e= .returned (.tuple #[t'.v,aj (fH sub cs d i).2.1])∧Ext (bY v) w w'∧cH 68 [cv.v,aj (((fH sub cs d i).2.2:Nat):Int)] (bY v) v w'∧TrT (Gn aW w) w' t'∧er t'=(fH sub cs d i).1):=by
 refine fj (bY v) (fun g hg=>hR.box.lt g hg) (n:=100) Tryz.func79 rfl rfl (aw rfl) ?_;intro a0 τ0 ha hτ st0;obtain ⟨e0,e1⟩:=qG ha;have hn46_:gj cs i (⟨#[46]⟩:ByteArray)=false:=nw hno 5 rfl;have hn91_:gj cs i (⟨#[91]⟩:ByteArray)=false:=nw hno 0 rfl;have hn92_:gj cs i (⟨#[92]⟩:ByteArray)=false:=nw hno 1 rfl;have hn58_:gj cs (i+2) (⟨#[58]⟩:ByteArray)=false:=nw hno 7 rfl;have hL1:=hL.1;have r0:cH 68 [cv.v,aj ((i:Nat):Int)] (τ0 0) v w:=by rw [hτ];exact hR.box
 have r9:Fz (fb gR Al cv.v cs) τ0 w:=hR.inz st0;refine wp_seq (rg [box _ _ 1 4 [(aj 0),(bc (⟨#[]⟩:ByteArray)),(aE false),(.slice none 0 0),(aj 0),(aj 0),(aE false),(.slice none 0 0)],_] [0,0] st0 [jb r0,jz 9 r9] ⟨bO rfl rfl rfl rfl aD rfl,aq fun c=>ax rfl rfl,av⟩ fun ac ag ae ab aa=> ?_);obtain ⟨b1x4,e4⟩:=gx ac 4;obtain ⟨e0,e1⟩:=aa.k2 e0 e1;have e5:=aa.V 1;replace r0:=aa.B 0;have r1:=aa.rb 0 e4 rfl;replace r9:=aa.z1 9;refine wp_seq ?_;refine wp_block ?_;refine wp_seq ?_;refine rg [_,kG 68 _ 0 12 v [cv.v,(aj ((i:Nat):Int))] (aE false),_] [0,1,3] ab [jb r0,jb r1,jz 9 r9] ⟨ao e0,iZ fun {_ a_ _ _} c=>⟨_,_,(ck rfl rfl gn (c.q 0) rfl),ja (c.B 0) (oS v cv cs i (⟨#[46]⟩:ByteArray) _ (uT (c.B 0) (c.iz 9 rfl) (fun g_ h_ hz_=>hz_.2 _ h_)) hL (by first | omega | (have h_:=dp hL i;omega)) (nw hno 5 rfl))⟩,aq fun c=>ax rfl (c.dv 1 rfl),av⟩ fun a2 w2 τ2 st2 f2=> ?_;obtain ⟨e0,e1,e4,e5⟩:=f2.k4 e0 e1 e4 e5;have e10:=f2.V 2;replace r0:=f2.db 1 rfl;replace r1:=f2.B 1;replace r9:=f2.z1 9;refine wp_cond_false e10 ?_;refine wp_seq ?_;refine rg [_,kG 68 _ 0 16 v [cv.v,(aj ((tkN cs i (⟨#[40]⟩:ByteArray):Nat):Int))] (aE (gj cs i (⟨#[40]⟩:ByteArray))),_] [0,1,3] st2 [jb r0,jb r1,jz 9 r9] ⟨ao e0,iZ fun {_ a_ _ _} c=>⟨_,_,(ck rfl rfl gn (c.q 0) rfl),ja (c.B 0) (ql v cv cs i (⟨#[40]⟩:ByteArray) _ (uT (c.B 0) (c.iz 9 rfl) (fun g_ h_ hz_=>hz_.2 _ h_)) hL (by first | omega | (have h_:=dp hL i;omega)))⟩,aq fun c=>ax rfl (c.dv 1 rfl),av⟩ fun a3 w3 τ3 st3 f3=> ?_;obtain ⟨e0,e1,e4,e5⟩:=f3.k4 e0 e1 e4 e5;have e14:=f3.V 2;replace r0:=f3.db 1 rfl;replace r1:=f3.B 1;replace r9:=f3.z1 9;refine wp_cond_split e14 (fun hc2=> ?_) (fun hc2=> ?_)
 · skip;have htk2:gj cs i (⟨#[40]⟩:ByteArray)=true:=hc2;have htl2:=kx htk2;rw [na htk2] at r0;refine wp_seq ?_;refine wp_seq (eA st3 [jb r0,jb r1,jz 9 r9] ⟨ao e1,aq fun c=>iC rfl (c.q 0) rfl,av⟩ fun ac ag ae ab aa=> ?_);obtain ⟨e0,e1,e4,e5⟩:=aa.k4 e0 e1 e4 e5;have e18:=aa.V 1;replace r0:=aa.B 0;replace r1:=aa.B 1;replace r9:=aa.z1 9;refine wp_cond_split e18 (fun hc3=> ?_) (fun hc3=> ?_)
   · try simp only [ai] at hc3
     refine wp_seq (fX ab [jb r0,jb r1,jz 9 r9] ⟨aq fun c=>eW (cells:=#[(aj 0),(bc (⟨#[]⟩:ByteArray)),(aE false),(.slice none 0 0),(aj 0),(aj 0),(aE false),(.slice none 0 0)]) rfl aD ni,cp (cx:=[(aj 0),(bc (⟨#[]⟩:ByteArray)),(aE false),(.slice none 0 0),(aj 0),(aj 0),(aE false),(.slice none 0 0)]) (off:=0) ak fun c=>⟨c.bp 1 rfl e4,c.ad ((c.p e4).trans r1.ptr) e4 rfl,(c.q 0)⟩,aq fun c=>ax rfl rfl,av⟩ fun ac ag ae ab aa=> ?_);obtain ⟨e0,e1,e4⟩:=aa.k3 e0 e1 e4;have e5:=aa.V 2;replace r0:=aa.B 0;replace r1:=aa.RB 1 e4;replace r9:=aa.z1 9;refine wp_ret ?_;refine rp ?_;refine ek (fn:=Tryz.f79) rfl ab.defers e4 e5 r1 az ak rfl ?_;have he_:fH sub cs d i=((dQ 0 (⟨#[]⟩:ByteArray) false 0 0 false),8,i+1):=by unfold fH;(repeat (first | rw [if_neg (by first | assumption | (simp only [ci];assumption) | (simp only [dU];assumption) | (exact fun h_=>h_ (by assumption)) | omega)] | rw [if_pos (by first | assumption | omega)]));(try rfl)
     rw [he_];exact ⟨(dQ 0 (⟨#[]⟩:ByteArray) false 0 0 false),rfl,ab.extIn,r0.foot,(eQ _ _ _ _ _ _ _ _),rfl⟩
   try simp only [ah,dD] at hc3
   refine wp_skip ?_;refine wp_seq (rg [_,box _ _ 2 6 [(aj 0),(bc (⟨#[]⟩:ByteArray)),(aE false),(.slice none 0 0),(aj 0),(aj 0),(aE false),(.slice none 0 0)],_] [0,0,3] ab [jb r0,jb r1,jz 9 r9] ⟨aq fun c=>eW (cells:=#[(aj 5),(bc (⟨#[]⟩:ByteArray)),(aE false),(.slice none 0 0),(aj 0),(aj 0),(aE false),(.slice none 0 0)]) rfl aD (gB rfl rfl),bO rfl rfl rfl rfl aD rfl,ey (cx:=[(aj 5),(bc (⟨#[]⟩:ByteArray)),(aE false),(.slice none 0 0),(aj 0),(aj 0),(aE false),(.slice none 0 0)]) (off:=0) rfl ak fun c=>⟨c.rb 1 rfl,(c.rb 1 rfl).ptr,(c.q 0)⟩,av⟩ fun ac ag ae ab aa=> ?_);obtain ⟨b6x6,e6⟩:=gx ac 6;obtain ⟨e0,e1,e4,e5⟩:=aa.k4 e0 e1 e4 e5;replace r0:=aa.B 0;replace r1:=aa.B 1;have r2:=aa.rb 2 e6 rfl;replace r9:=aa.z1 9;refine wp_seq ?_;refine wp_seq ?_;refine rg [_,kG 68 _ 0 22 v [cv.v,(aj ((tkN cs (i+1) (⟨#[63]⟩:ByteArray):Nat):Int))] (aE (gj cs (i+1) (⟨#[63]⟩:ByteArray)))] [0,1] ab [jb r0,jb r1,jb r2,jz 9 r9] ⟨ao e0,iZ fun {_ a_ _ _} c=>⟨_,_,(ck rfl rfl gn (c.q 0) rfl),ja (c.B 0) (ql v cv cs (i+1) (⟨#[63]⟩:ByteArray) _ (uT (c.B 0) (c.iz 9 rfl) (fun g_ h_ hz_=>hz_.2 _ h_)) hL (by first | omega | (have h_:=dp hL i;omega)))⟩,av⟩ fun ac ag ae ab aa=> ?_;obtain ⟨e0,e1,e4,e5,e6⟩:=aa.k5 e0 e1 e4 e5 e6;have e22:=aa.dv 1 rfl;replace r0:=aa.db 1 rfl;replace r1:=aa.B 1;replace r2:=aa.B 2;replace r9:=aa.z1 9;refine wp_cond_split e22 (fun hc4=> ?_) (fun hc4=> ?_)
   · skip;have htk4:gj cs (i+1) (⟨#[63]⟩:ByteArray)=true:=hc4;have htl4:=kx htk4;rw [na htk4] at r0;refine wp_seq ?_;refine wp_seq ?_;refine rg [_,kG 68 _ 0 24 v [cv.v,(aj (((i+1)+1:Nat):Int))] (aE false),_] [0,1,3] ab [jb r0,jb r1,jb r2,jz 9 r9] ⟨ao e0,iZ fun {_ a_ _ _} c=>⟨_,_,(ck rfl rfl gn (c.q 0) rfl),ja (c.B 0) (oS v cv cs ((i+1)+1) (⟨#[58]⟩:ByteArray) _ (uT (c.B 0) (c.iz 9 rfl) (fun g_ h_ hz_=>hz_.2 _ h_)) hL (by first | omega | (have h_:=dp hL i;omega)) (nw hno 7 rfl))⟩,aq fun c=>ew rfl (c.dv 1 rfl),av⟩ fun ac ag ae ab aa=> ?_;obtain ⟨e0,e1,e4,e5,e6⟩:=aa.k5 e0 e1 e4 e5 e6;have e25:=aa.V 2;replace r0:=aa.db 1 rfl;replace r1:=aa.B 1;replace r2:=aa.B 2;replace r9:=aa.z1 9;refine wp_cond_true e25 ?_;refine wp_seq (fX ab [jb r0,jb r1,jb r2,jz 9 r9] ⟨aq fun c=>eW (cells:=#[(aj 0),(bc (⟨#[]⟩:ByteArray)),(aE false),(.slice none 0 0),(aj 0),(aj 0),(aE false),(.slice none 0 0)]) rfl aD ni,cp (cx:=[(aj 0),(bc (⟨#[]⟩:ByteArray)),(aE false),(.slice none 0 0),(aj 0),(aj 0),(aE false),(.slice none 0 0)]) (off:=0) ak fun c=>⟨c.bp 1 rfl e4,c.ad ((c.p e4).trans r1.ptr) e4 rfl,(c.q 0)⟩,aq fun c=>ax rfl rfl,av⟩ fun ac ag ae ab aa=> ?_);obtain ⟨e0,e1,e4,e6⟩:=aa.k4 e0 e1 e4 e6;have e5:=aa.V 2;replace r0:=aa.B 0;replace r1:=aa.RB 1 e4;replace r2:=aa.B 2;replace r9:=aa.z1 9;refine wp_ret ?_;refine rp ?_;refine ek (fn:=Tryz.f79) rfl ab.defers e4 e5 r1 az ak rfl ?_;have he_:fH sub cs d i=((dQ 0 (⟨#[]⟩:ByteArray) false 0 0 false),10,(i+1)+1):=by unfold fH;(repeat (first | rw [if_neg (by first | assumption | (simp only [ci];assumption) | (simp only [dU];assumption) | (exact fun h_=>h_ (by assumption)) | omega)] | rw [if_pos (by first | assumption | omega)]));(try rfl)
     rw [he_];exact ⟨(dQ 0 (⟨#[]⟩:ByteArray) false 0 0 false),rfl,ab.extIn,r0.foot,(eQ _ _ _ _ _ _ _ _),rfl⟩
   skip;have htk5:gj cs (i+1) (⟨#[63]⟩:ByteArray)=false:=hc4;rw [mD htk5] at r0;refine wp_skip ?_;refine wp_seq ?_;refine aY ?_;refine bV 4 (by kernel_rfl) ?_;refine og [_,_,_,mi 68 _ 0 32 v (fun b:Tr=> [cv.v,aj (((sub (d+1) (i+1)).2.2:Nat):Int)]) (fun b:Tr=> .tuple #[b.v,aj (sub (d+1) (i+1)).2.1]) (fun b:Tr=>er b=(sub (d+1) (i+1)).1) (fun b:Tr=>gT (Gn aW w) b)] [0,0,2,7] ab [jb r0,jb r1,jb r2,jz 9 r9] ⟨ao e0,ao e1,aq fun c=>cN rfl (c.q 1) rfl (by first | omega | (have h_:=dp hL i;omega)),ku (cells:=fun b:Tr=> [cv.v,aj (((sub (d+1) (i+1)).2.2:Nat):Int)]) (f:=fun b:Tr=> .tuple #[b.v,aj (sub (d+1) (i+1)).2.1]) (Ψ:=fun b:Tr=>er b=(sub (d+1) (i+1)).1) (Φ:=fun b:Tr=>gT (Gn aW w) b) fun {_ a_ _ _} c=>⟨_,_,(ck rfl rfl Tryz.call38 (c.q 0) (c.q 2)),(hsub (d+1) (i+1) _ (uT (c.B 0) (c.iz 9 rfl) (fun g_ h_ hz_=>hz_.2 _ h_)) (by first | omega | (have h_:=dp hL i;omega)) (by first | omega | (have h_:=dp hL i;omega)) (by first | omega | (have h_:=dp hL i;omega))).mono (fun e w' ⟨b_,he_,hx_,hb_,ht_,hq_⟩=>⟨b_,he_,(c.ib 0 rfl).ext hx_,hb_.back (c.ib 0 rfl),hq_,c.tns ab hx_.size ht_⟩)⟩,av⟩ fun ac ag ae ab aa=> ?_;obtain ⟨e0,e4,e5,e6⟩:=aa.k4 e0 e4 e5 e6;obtain ⟨t1_,e32,hro10,hqt1_,hz10⟩:=aa.zb 3 rfl;have e32:be ac 32=(.tuple #[(ta t1_),(aj ((sub (d+1) (i+1)).2.1))]):=e32;replace r0:=hro10;replace r1:=aa.B 1;replace r2:=aa.B 2;replace r9:=aa.z1 9;have r3:=hz10;refine bW ?_;refine og [_,_,_,box _ _ 4 7 [(aj 0),(bc (⟨#[]⟩:ByteArray)),(aE false),(.slice none 0 0),(aj 0),(aj 0),(aE false),(.slice none 0 0)],_,_] [0,1,3,7,15,31] ab [jb r0,jb r1,jb r2,jz 3 r3,jz 9 r9] ⟨ao e32,bR 0,bR 0,bO rfl rfl rfl rfl aD rfl,ey (cx:=(tc t1_)) (off:=0) rfl ak fun c=>⟨c.rb 3 rfl,(c.rb 3 rfl).ptr,(c.q 1)⟩,aK 2,av⟩ fun ac ag ae ab aa=> ?_;obtain ⟨b11x7,e7⟩:=gx ac 7;obtain ⟨e0,e4,e5,e6⟩:=aa.k4 e0 e4 e5 e6;have e8:=aa.V 5;replace r0:=aa.B 0;replace r1:=aa.B 1;replace r2:=aa.B 2;replace r3:=aa.z1 3;have r4:=aa.rb 4 e7 rfl;replace r9:=aa.z1 9;refine wp_seq ?_;refine wp_seq (eA ab [jb r0,jb r1,jb r2,jz 3 r3,jb r4,jz 9 r9] ⟨ao e8,aq fun c=>fh rfl (c.q 0) rfl,av⟩ fun ac ag ae ab aa=> ?_);obtain ⟨e0,e4,e5,e6,e7,e8⟩:=aa.k6 e0 e4 e5 e6 e7 e8;have e36:=aa.V 1;replace r0:=aa.B 0;replace r1:=aa.B 1;replace r2:=aa.B 2;obtain ⟨r3,r9⟩:=aa.z2 3 9;replace r4:=aa.B 4;refine wp_cond_split e36 (fun hc6=> ?_) (fun hc6=> ?_)
   · try simp only [ar,am,ai,ah] at hc6
     refine wp_seq (lr [0,0,1,7] ab [jb r0,jb r1,jb r2,jz 3 r3,jb r4,jz 9 r9] ⟨aq fun c=>eW (cells:=#[(aj 0),(bc (⟨#[]⟩:ByteArray)),(aE false),(.slice none 0 0),(aj 0),(aj 0),(aE false),(.slice none 0 0)]) rfl aD ni,ao e8,cp (cx:=[(aj 0),(bc (⟨#[]⟩:ByteArray)),(aE false),(.slice none 0 0),(aj 0),(aj 0),(aE false),(.slice none 0 0)]) (off:=0) ak fun c=>⟨c.bp 1 rfl e4,c.ad ((c.p e4).trans r1.ptr) e4 rfl,(c.q 0)⟩,aK 1,av⟩ fun ac ag ae ab aa=> ?_);obtain ⟨e0,e4,e6,e7⟩:=aa.k4 e0 e4 e6 e7;have e5:=aa.V 3;replace r0:=aa.B 0;replace r1:=aa.RB 2 e4;replace r2:=aa.B 2;obtain ⟨r3,r9⟩:=aa.z2 3 9;replace r4:=aa.B 4;refine wp_ret ?_;refine rp ?_;refine ek (fn:=Tryz.f79) rfl ab.defers e4 e5 r1 az ak rfl ?_;have he_:fH sub cs d i=((dQ 0 (⟨#[]⟩:ByteArray) false 0 0 false),(sub (d+1) (i+1)).2.1,(sub (d+1) (i+1)).2.2):=by unfold fH;(repeat (first | rw [if_neg (by first | assumption | (simp only [ci];assumption) | (simp only [dU];assumption) | (exact fun h_=>h_ (by assumption)) | omega)] | rw [if_pos (by first | assumption | omega)]));(try rfl)
     rw [he_];exact ⟨(dQ 0 (⟨#[]⟩:ByteArray) false 0 0 false),rfl,ab.extIn,r0.foot,(eQ _ _ _ _ _ _ _ _),rfl⟩
   try simp only [ar,am,ai,ah] at hc6
   refine wp_skip ?_;refine wp_seq ?_;refine wp_seq ?_;have hsb_:=hsb (d+1) (i+1) (by omega);refine rg [_,kG 68 _ 0 40 v [cv.v,(aj ((tkN cs ((sub (d+1) (i+1)).2.2) (⟨#[41]⟩:ByteArray):Nat):Int))] (aE (gj cs ((sub (d+1) (i+1)).2.2) (⟨#[41]⟩:ByteArray))),_] [0,1,3] ab [jb r0,jb r1,jb r2,jz 3 r3,jb r4,jz 9 r9] ⟨ao e0,iZ fun {_ a_ _ _} c=>⟨_,_,(ck rfl rfl gn (c.q 0) rfl),ja (c.B 0) (ql v cv cs ((sub (d+1) (i+1)).2.2) (⟨#[41]⟩:ByteArray) _ (uT (c.B 0) (c.iz 9 rfl) (fun g_ h_ hz_=>hz_.2 _ h_)) hL (by first | omega | (have h_:=dp hL i;omega)))⟩,aq fun c=>ew rfl (c.dv 1 rfl),av⟩ fun ac ag ae ab aa=> ?_;obtain ⟨e0,e4,e5,e6,e7⟩:=aa.k5 e0 e4 e5 e6 e7;have e41:=aa.V 2;replace r0:=aa.db 1 rfl;replace r1:=aa.B 1;replace r2:=aa.B 2;obtain ⟨r3,r9⟩:=aa.z2 3 9;replace r4:=aa.B 4;refine wp_cond_split e41 (fun hc7=> ?_) (fun hc7=> ?_)
   · try simp only [ar,am] at hc7
     have htk7:gj cs ((sub (d+1) (i+1)).2.2) (⟨#[41]⟩:ByteArray)=false:=by simpa using hc7
     rw [mD htk7] at r0;refine wp_seq (fX ab [jb r0,jb r1,jb r2,jz 3 r3,jb r4,jz 9 r9] ⟨aq fun c=>eW (cells:=#[(aj 0),(bc (⟨#[]⟩:ByteArray)),(aE false),(.slice none 0 0),(aj 0),(aj 0),(aE false),(.slice none 0 0)]) rfl aD ni,cp (cx:=[(aj 0),(bc (⟨#[]⟩:ByteArray)),(aE false),(.slice none 0 0),(aj 0),(aj 0),(aE false),(.slice none 0 0)]) (off:=0) ak fun c=>⟨c.bp 1 rfl e4,c.ad ((c.p e4).trans r1.ptr) e4 rfl,(c.q 0)⟩,aq fun c=>ax rfl rfl,av⟩ fun ac ag ae ab aa=> ?_);obtain ⟨e0,e4,e6,e7⟩:=aa.k4 e0 e4 e6 e7;have e5:=aa.V 2;replace r0:=aa.B 0;replace r1:=aa.RB 1 e4;replace r2:=aa.B 2;obtain ⟨r3,r9⟩:=aa.z2 3 9;replace r4:=aa.B 4;refine wp_ret ?_;refine rp ?_;refine ek (fn:=Tryz.f79) rfl ab.defers e4 e5 r1 az ak rfl ?_;have he_:fH sub cs d i=((dQ 0 (⟨#[]⟩:ByteArray) false 0 0 false),10,(sub (d+1) (i+1)).2.2):=by unfold fH;(repeat (first | rw [if_neg (by first | assumption | (simp only [ci];assumption) | (simp only [dU];assumption) | (exact fun h_=>h_ (by assumption)) | omega)] | rw [if_pos (by first | assumption | omega)]));(try rfl)
     rw [he_];exact ⟨(dQ 0 (⟨#[]⟩:ByteArray) false 0 0 false),rfl,ab.extIn,r0.foot,(eQ _ _ _ _ _ _ _ _),rfl⟩
   try simp only [ar,am] at hc7
   have htk7:gj cs ((sub (d+1) (i+1)).2.2) (⟨#[41]⟩:ByteArray)=true:=by simpa using hc7
   have htl7:=kx htk7;rw [na htk7] at r0;refine wp_skip ?_;refine wp_seq ?_;refine aY ?_;refine bV 2 (by kernel_rfl) ?_;refine og [_,iA _ 44 True (fun b:Sv=>b.v) (fun _=>True) (fun b:Sv=>fb lY (Gn aW w) b.v [t1_])] [0,1] ab [jb r0,jb r1,jb r2,jz 3 r3,jb r4,jz 9 r9] ⟨aq fun c=>dY rfl az ak ((c.p e7).trans r4.ptr) (c.B 4),oR (E:=lY) (xs:=[t1_]) (cells:=#[(aj t1_.k),(bc t1_.ch),(aE t1_.ng),t1_.rv.v,(aj t1_.mn),(aj t1_.mx),(aE t1_.lz),t1_.kv.v]) ab sP rfl aU ak aD (by decide) (by decide) rfl rfl fun c hpc=>gB (c.n 0 rfl) (by kernel_rfl),av⟩ fun ac ag ae ab aa=> ?_;obtain ⟨e0,e4,e5,e6⟩:=aa.k4 e0 e4 e5 e6;obtain ⟨kv2_,e44,-,hz16⟩:=aa.gzd 1 rfl trivial;replace r0:=aa.B 0;replace r1:=aa.B 1;replace r2:=aa.B 2;obtain ⟨r3,r9⟩:=aa.z2 3 9;have r4:=hz16;refine bW ?_;refine og [_,_] [0,1] ab [jb r0,jb r1,jb r2,jz 3 r3,jz 4 r4,jz 9 r9] ⟨cK aJ cR e6 r2.ptr,cp (cx:=[(aj 5),(bc (⟨#[]⟩:ByteArray)),(aE false),(.slice none 0 0),(aj 0),(aj 0),(aE false),kv2_.v]) cR fun c=>⟨c.bp 2 rfl e6,c.ad (c.q 0) e6 rfl,(c.p e44)⟩,av⟩ fun ac ag ae ab aa=> ?_;obtain ⟨e0,e4,e5,e6⟩:=aa.k4 e0 e4 e5 e6;replace r0:=aa.B 0;replace r1:=aa.B 1;replace r2:=aa.RB 1 e6;obtain ⟨r3,r4,r9⟩:=aa.z3 3 4 9;refine wp_seq (fX ab [jb r0,jb r1,jb r2,jz 3 r3,jz 4 r4,jz 9 r9] ⟨aq fun c=>dY rfl az ak ((c.p e6).trans r2.ptr) (c.B 2),cp (cx:=[(aj 5),(bc (⟨#[]⟩:ByteArray)),(aE false),(.slice none 0 0),(aj 0),(aj 0),(aE false),kv2_.v]) (off:=0) ak fun c=>⟨c.bp 1 rfl e4,c.ad ((c.p e4).trans r1.ptr) e4 rfl,(c.q 0)⟩,aq fun c=>ax rfl rfl,av⟩ fun ac ag ae ab aa=> ?_);obtain ⟨e0,e4⟩:=aa.k2 e0 e4;have e5:=aa.V 2;replace r0:=aa.B 0;replace r1:=aa.RB 1 e4;obtain ⟨r3,r4,r9⟩:=aa.z3 3 4 9;refine wp_ret ?_;refine rp ?_;refine ek (fn:=Tryz.f79) rfl ab.defers e4 e5 r1 az ak rfl ?_;have he_:fH sub cs d i=((eF 5 (⟨#[]⟩:ByteArray) false 0 0 false Sv.nil [er t1_]),0,((sub (d+1) (i+1)).2.2)+1):=by rw [hqt1_];unfold fH;(repeat (first | rw [if_neg (by first | assumption | (simp only [ci];assumption) | (simp only [dU];assumption) | (exact fun h_=>h_ (by assumption)) | omega)] | rw [if_pos (by first | assumption | omega)]));(try rfl)
   rw [he_];exact ⟨(eF 5 (⟨#[]⟩:ByteArray) false 0 0 false kv2_ [t1_]),rfl,ab.extIn,r0.foot,(Fz.out (qA r4 (ly r3 qh))),lJ _ _ _ _ _ _ _ _⟩
 skip;have htk7:gj cs i (⟨#[40]⟩:ByteArray)=false:=hc2;rw [mD htk7] at r0;refine wp_seq ?_;refine rg [_,kG 68 _ 0 49 v [cv.v,(aj ((i:Nat):Int))] (aE false),_] [0,1,3] st3 [jb r0,jb r1,jz 9 r9] ⟨ao e0,iZ fun {_ a_ _ _} c=>⟨_,_,(ck rfl rfl gn (c.q 0) rfl),ja (c.B 0) (oS v cv cs i (⟨#[91]⟩:ByteArray) _ (uT (c.B 0) (c.iz 9 rfl) (fun g_ h_ hz_=>hz_.2 _ h_)) hL (by first | omega | (have h_:=dp hL i;omega)) (nw hno 0 rfl))⟩,aq fun c=>ax rfl (c.dv 1 rfl),av⟩ fun ac ag ae ab aa=> ?_;obtain ⟨e0,e4,e5⟩:=aa.k3 e0 e4 e5;have e47:=aa.V 2;replace r0:=aa.db 1 rfl;replace r1:=aa.B 1;replace r9:=aa.z1 9;refine wp_cond_false e47 ?_;refine wp_seq ?_;refine rg [_,kG 68 _ 0 56 v [cv.v,(aj ((i:Nat):Int))] (aE false),_] [0,1,3] ab [jb r0,jb r1,jz 9 r9] ⟨ao e0,iZ fun {_ a_ _ _} c=>⟨_,_,(ck rfl rfl gn (c.q 0) rfl),ja (c.B 0) (oS v cv cs i (⟨#[92]⟩:ByteArray) _ (uT (c.B 0) (c.iz 9 rfl) (fun g_ h_ hz_=>hz_.2 _ h_)) hL (by first | omega | (have h_:=dp hL i;omega)) (nw hno 1 rfl))⟩,aq fun c=>ax rfl (c.dv 1 rfl),av⟩ fun ac ag ae ab aa=> ?_;obtain ⟨e0,e4,e5⟩:=aa.k3 e0 e4 e5;have e54:=aa.V 2;replace r0:=aa.db 1 rfl;replace r1:=aa.B 1;replace r9:=aa.z1 9;refine wp_cond_false e54 ?_;refine wp_skip ?_;show _;refine wp_seq (fX ab [jb r0,jb r1,jz 9 r9] ⟨ao e0,eE fun c=>⟨_,_,(bK rfl rfl oF (c.q 0)),Ax v cv cs i _ (uT (c.B 0) (c.iz 9 rfl) (fun g_ h_ hz_=>hz_.2 _ h_))⟩,aK 1,av⟩ fun ac ag ae ab aa=> ?_);obtain ⟨e0,e4,e5⟩:=aa.k3 e0 e4 e5;have e9:=aa.V 2;replace r0:=aa.B 0;replace r1:=aa.B 1;replace r9:=aa.z1 9;refine wp_seq ?_;refine wp_seq ?_;refine rg [_,_,_,_,_,_,_,_,_,_,_,_,_,_,_,_,_,_,_,_,_,_,_,_,_,_,_] [0,1,3,7,15,31,63,127,255,511,1023,2047,4095,8191,16383,32767,65535,131071,262143,524287,1048575,2097151,4194303,8388607,16777215,33554431,67108863] ab [jb r0,jb r1,jz 9 r9] ⟨ao e9,aq fun c=>eI rfl (c.q 0) rfl,bD 1,bm 2 rfl fun c hpc=>aS rfl (c.p e9),bm 2 rfl fun c hpc=>eI rfl (c.M 3 hpc) rfl,dm 2 4,bD 5,bm 6 rfl fun c hpc=>aS rfl (c.p e9),bm 6 rfl fun c hpc=>eI rfl (c.M 7 hpc) rfl,dm 6 8,bD 9,bm 10 rfl fun c hpc=>aS rfl (c.p e9),bm 10 rfl fun c hpc=>eI rfl (c.M 11 hpc) rfl,dm 10 12,bD 13,bm 14 rfl fun c hpc=>aS rfl (c.p e9),bm 14 rfl fun c hpc=>eI rfl (c.M 15 hpc) rfl,dm 14 16,bD 17,bm 18 rfl fun c hpc=>aS rfl (c.p e9),bm 18 rfl fun c hpc=>eI rfl (c.M 19 hpc) rfl,dm 18 20,bD 21,bm 22 rfl fun c hpc=>aS rfl (c.p e9),fC 22 false rfl fun c hpc=>⟨_,_,(bK rfl rfl Tryz.call86 (c.M 23 hpc)),Ag (de cs i) _ (by have hq0:=hpc;(try simp only [aG] at hq0);first | omega | (have h_:=dp hL i;omega))⟩,bm 22 rfl fun c hpc=>ew rfl (c.M 24 hpc),dm 22 25,av⟩ fun ac ag ae ab aa=> ?_;obtain ⟨e0,e4,e5,e9⟩:=aa.k4 e0 e4 e5 e9;have e89:=aa.V 26;replace r0:=aa.B 0;replace r1:=aa.B 1;replace r9:=aa.z1 9;refine wp_cond_split e89 (fun hc10=> ?_) (fun hc10=> ?_)
 · have hd10:=hc10;try simp only [aR,aG,ar,am] at hd10
   refine wp_seq (fX ab [jb r0,jb r1,jz 9 r9] ⟨aq fun c=>eW (cells:=#[(aj 0),(bc (⟨#[]⟩:ByteArray)),(aE false),(.slice none 0 0),(aj 0),(aj 0),(aE false),(.slice none 0 0)]) rfl aD ni,cp (cx:=[(aj 0),(bc (⟨#[]⟩:ByteArray)),(aE false),(.slice none 0 0),(aj 0),(aj 0),(aE false),(.slice none 0 0)]) (off:=0) ak fun c=>⟨c.bp 1 rfl e4,c.ad ((c.p e4).trans r1.ptr) e4 rfl,(c.q 0)⟩,aq fun c=>ax rfl rfl,av⟩ fun ac ag ae ab aa=> ?_);obtain ⟨e0,e4,e9⟩:=aa.k3 e0 e4 e9;have e5:=aa.V 2;replace r0:=aa.B 0;replace r1:=aa.RB 1 e4;replace r9:=aa.z1 9;refine wp_ret ?_;refine rp ?_;refine ek (fn:=Tryz.f79) rfl ab.defers e4 e5 r1 az ak rfl ?_;have he_:fH sub cs d i=((dQ 0 (⟨#[]⟩:ByteArray) false 0 0 false),10,i):=by unfold fH;(repeat (first | rw [if_neg (by first | assumption | (simp only [ci];assumption) | (simp only [dU];assumption) | (exact fun h_=>h_ (by assumption)) | omega)] | rw [if_pos (by first | assumption | omega)]));(try rfl)
   rw [he_];exact ⟨(dQ 0 (⟨#[]⟩:ByteArray) false 0 0 false),rfl,ab.extIn,r0.foot,(eQ _ _ _ _ _ _ _ _),rfl⟩
 have hd10:=hc10;try simp only [aR,aG,ar,am] at hd10
 refine wp_skip ?_;refine wp_seq ?_;have hlt_:i < cs.length:=by
   have h_:JF (de cs i)=false:=by assumption
   cases hz_:gM (de cs i) (⟨#[]⟩:ByteArray) with
   | false => exact sD hz_
   | true =>
     have he2_:de cs i=(⟨#[]⟩:ByteArray):=sM.1 hz_;rw [he2_] at h_;exact absurd h_ (by decide+kernel)
 refine Hn ab [jb r0,jb r1,jz 9 r9] ⟨ao e0,cD 0 r0.ptr,bS eb aA 1 r0.ptr,fE aN 2 0 1,aq fun c=>cN rfl (c.q 3) rfl (by first | omega | (have h_:=dp hL i;omega)),cD 0 r0.ptr,bS eb aA 5 r0.ptr,cp (cx:=[cv.v,(aj (((i:Nat):Int)+1))]) aA fun c=>⟨c.bp 0 rfl e0,c.ad (c.q 6) e0 rfl,(c.q 4)⟩,av⟩ fun ac ag ae ab aa=> ?_;obtain ⟨e0,e4,e5,e9⟩:=aa.k4 e0 e4 e5 e9;replace r0:=aa.RB 7 e0;replace r1:=aa.B 1;replace r9:=aa.z1 9;replace r0:cH 68 [cv.v,aj ((i+1:Nat):Int)] (ae 0) v ag:=by rw [show ((i+1:Nat):Int)=((i:Nat):Int)+1 from by omega];exact r0
 refine wp_seq (xi ab [jb r0,jb r1,jz 9 r9] ⟨ao e9,aq fun c=>eW (cells:=#[(aj 2),(bc (de cs i)),(aE false),(.slice none 0 0),(aj 0),(aj 0),(aE false),(.slice none 0 0)]) rfl aD (iT rfl (c.n 0 rfl) rfl),cp (cx:=[(aj 2),(bc (de cs i)),(aE false),(.slice none 0 0),(aj 0),(aj 0),(aE false),(.slice none 0 0)]) (off:=0) ak fun c=>⟨c.bp 1 rfl e4,c.ad ((c.p e4).trans r1.ptr) e4 rfl,(c.q 1)⟩,aq fun c=>ax rfl rfl,av⟩ fun ac ag ae ab aa=> ?_);obtain ⟨e0,e4⟩:=aa.k2 e0 e4;have e5:=aa.V 3;replace r0:=aa.B 0;replace r1:=aa.RB 2 e4;replace r9:=aa.z1 9;refine wp_ret ?_;refine rp ?_;refine ek (fn:=Tryz.f79) rfl ab.defers e4 e5 r1 az ak rfl ?_;have he_:fH sub cs d i=((dQ 2 (de cs i) false 0 0 false),0,i+1):=by unfold fH;(repeat (first | rw [if_neg (by first | assumption | (simp only [ci];assumption) | (simp only [dU];assumption) | (exact fun h_=>h_ (by assumption)) | omega)] | rw [if_pos (by first | assumption | omega)]));(try rfl)
 rw [he_];exact ⟨(dQ 2 (de cs i) false 0 0 false),rfl,ab.extIn,r0.foot,(eQ _ _ _ _ _ _ _ _),rfl⟩
end
section
open Go.RowKit
open Srt
set_option maxRecDepth 100000 in
set_option maxHeartbeats 4000000 in
theorem JL (sub:Int→Nat→Tr × Int × Nat) (d:Int) (v:Value) (cv:Sv) (cs:List ByteArray) (i:Nat) (w:World) (hR:RdR 68 v cv cs i w) (hL:re cs) (hi:i≤cs.length+0) (hd:0≤d∧d≤16) (hsub:∀(d2:Int) (j:Nat) (w2:World),RdR 68 v cv cs j w2→i < j→j≤cs.length→0≤d2∧d2≤16→Calls Tryz.prog 38 #[v,aj d2] w2 (fun e w3=>∃t':Tr,e= .returned (.tuple #[t'.v,aj (sub d2 j).2.1])∧Ext (bY v) w2 w3∧cH 68 [cv.v,aj (((sub d2 j).2.2:Nat):Int)] (bY v) v w3∧TrT (Gn aW w2) w3 t'∧er t'=(sub d2 j).1)) (hsb:∀(d2:Int) (j:Nat),(sub d2 j).2.1=0→j≤(sub d2 j).2.2∧((sub d2 j).2.2≤cs.length∨(sub d2 j).2.2=j)) (hno:HP cs=true):Calls Tryz.prog 59 #[v,(aj d)] w (fun e w'=>∃t':Tr,e= .returned (.tuple #[t'.v,aj (iB sub cs d i).2.1])∧Ext (bY v) w w'∧cH 68 [cv.v,aj (((iB sub cs d i).2.2:Nat):Int)] (bY v) v w'∧TrT (Gn aW w) w' t'∧er t'=(iB sub cs d i).1):=by
 refine fj (bY v) (fun g hg=>hR.box.lt g hg) (n:=111) Tryz.func59 rfl rfl (aw rfl) ?_;intro a0 τ0 ha hτ st0;obtain ⟨e0,e1⟩:=qG ha;have hn94_:gj cs i (⟨#[94]⟩:ByteArray)=false:=nw hno 3 rfl;have hn36_:gj cs i (⟨#[36]⟩:ByteArray)=false:=nw hno 4 rfl;have hne1_:uS cs i (⟨#[98]⟩:ByteArray)=false:=Df hno;have hne2_:uS cs i (⟨#[66]⟩:ByteArray)=false:=Df hno;have hL1:=hL.1;have r0:cH 68 [cv.v,aj ((i:Nat):Int)] (τ0 0) v w:=by rw [hτ];exact hR.box
 have r9:Fz (fb gR Al cv.v cs) τ0 w:=hR.inz st0;refine wp_seq (rg [box _ _ 1 4 [(aj 0),(bc (⟨#[]⟩:ByteArray)),(aE false),(.slice none 0 0),(aj 0),(aj 0),(aE false),(.slice none 0 0)],_] [0,0] st0 [jb r0,jz 9 r9] ⟨bO rfl rfl rfl rfl aD rfl,aq fun c=>ax rfl rfl,av⟩ fun ac ag ae ab aa=> ?_);obtain ⟨b1x4,e4⟩:=gx ac 4;obtain ⟨e0,e1⟩:=aa.k2 e0 e1;have e5:=aa.V 1;replace r0:=aa.B 0;have r1:=aa.rb 0 e4 rfl;replace r9:=aa.z1 9;refine wp_seq ?_;refine wp_block ?_;refine wp_seq (rg [_,kG 68 _ 0 10 v [cv.v,(aj ((i:Nat):Int))] (aE false),_] [0,1,3] ab [jb r0,jb r1,jz 9 r9] ⟨ao e0,iZ fun {_ a_ _ _} c=>⟨_,_,(ck rfl rfl gn (c.q 0) rfl),ja (c.B 0) (oS v cv cs i (⟨#[94]⟩:ByteArray) _ (uT (c.B 0) (c.iz 9 rfl) (fun g_ h_ hz_=>hz_.2 _ h_)) hL (by omega) (nw hno 3 rfl))⟩,aq fun c=>ax rfl (c.dv 1 rfl),av⟩ fun a2 w2 τ2 st2 f2=> ?_);obtain ⟨e0,e1,e4,e5⟩:=f2.k4 e0 e1 e4 e5;have e8:=f2.V 2;replace r0:=f2.db 1 rfl;replace r1:=f2.B 1;replace r9:=f2.z1 9;refine wp_cond_false e8 ?_;refine wp_seq (rg [_,kG 68 _ 0 14 v [cv.v,(aj ((i:Nat):Int))] (aE false),_] [0,1,3] st2 [jb r0,jb r1,jz 9 r9] ⟨ao e0,iZ fun {_ a_ _ _} c=>⟨_,_,(ck rfl rfl gn (c.q 0) rfl),ja (c.B 0) (oS v cv cs i (⟨#[36]⟩:ByteArray) _ (uT (c.B 0) (c.iz 9 rfl) (fun g_ h_ hz_=>hz_.2 _ h_)) hL (by omega) (nw hno 4 rfl))⟩,aq fun c=>ax rfl (c.dv 1 rfl),av⟩ fun a3 w3 τ3 st3 f3=> ?_);obtain ⟨e0,e1,e4,e5⟩:=f3.k4 e0 e1 e4 e5;have e12:=f3.V 2;replace r0:=f3.db 1 rfl;replace r1:=f3.B 1;replace r9:=f3.z1 9;refine wp_cond_false e12 ?_;refine wp_seq (rg [_,_,_,_,_,_,_,_,_,_,_,_,_,_,_,_,_,_,_,_,_,_,_,_,_,_,_,_,_,_,_] [0,1,3,7,15,31,63,127,255,15,527,1551,3599,7695,16383,32767,65535,131071,262143,524287,1048575,131071,2228223,6422527,14811135,31588351,67108863,134217727,268435455,536870911,1073741823] st3 [jb r0,jb r1,jz 9 r9] ⟨ao e0,eE fun c=>⟨_,_,(bK rfl rfl oF (c.q 0)),Ax v cv cs i _ (uT (c.B 0) (c.iz 9 rfl) (fun g_ h_ hz_=>hz_.2 _ h_))⟩,aq (v:=(aE false)) fun c=>cA.isB (b:=gM (de cs i) (⟨#[92]⟩:ByteArray)) (eI rfl (c.q 1) rfl) (by exact yJ hno 1 rfl),bD 2,gv 3,gv 3,gv 3,gv 3,gv 3,gv 3,gv 3,gv 3,gv 3,gv 3,gv 3,aq fun c=>fg rfl (c.q 3) (fun h=>by cases h) (fun _=>rfl),bD 15,gv 16,gv 16,gv 16,gv 16,gv 16,gv 16,gv 16,gv 16,gv 16,gv 16,gv 16,gv 16,aq fun c=>fg rfl (c.q 16) (fun h=>by cases h) (fun _=>rfl),aK 29,av⟩ fun ac ag ae ab aa=> ?_);obtain ⟨e0,e1,e4,e5⟩:=aa.k4 e0 e1 e4 e5;have e16:=aa.V 30;replace r0:=aa.B 0;replace r1:=aa.B 1;replace r9:=aa.z1 9;refine wp_cond_false e16 ?_;refine wp_seq (rg [_,_,_,_,_,_,_,_,_,_,_,_,_,_,_,_,_,_,_,_,_,_,_,_,_,_,_,_,_,_,_] [0,1,3,7,15,31,63,127,255,15,527,1551,3599,7695,16383,32767,65535,131071,262143,524287,1048575,131071,2228223,6422527,14811135,31588351,67108863,134217727,268435455,536870911,1073741823] ab [jb r0,jb r1,jz 9 r9] ⟨ao e0,eE fun c=>⟨_,_,(bK rfl rfl oF (c.q 0)),Ax v cv cs i _ (uT (c.B 0) (c.iz 9 rfl) (fun g_ h_ hz_=>hz_.2 _ h_))⟩,aq (v:=(aE false)) fun c=>cA.isB (b:=gM (de cs i) (⟨#[92]⟩:ByteArray)) (eI rfl (c.q 1) rfl) (by exact yJ hno 1 rfl),bD 2,gv 3,gv 3,gv 3,gv 3,gv 3,gv 3,gv 3,gv 3,gv 3,gv 3,gv 3,aq fun c=>fg rfl (c.q 3) (fun h=>by cases h) (fun _=>rfl),bD 15,gv 16,gv 16,gv 16,gv 16,gv 16,gv 16,gv 16,gv 16,gv 16,gv 16,gv 16,gv 16,aq fun c=>fg rfl (c.q 16) (fun h=>by cases h) (fun _=>rfl),aK 29,av⟩ fun ac ag ae ab aa=> ?_);obtain ⟨e0,e1,e4,e5⟩:=aa.k4 e0 e1 e4 e5;have e56:=aa.V 30;replace r0:=aa.B 0;replace r1:=aa.B 1;replace r9:=aa.z1 9;refine wp_cond_false e56 ?_;refine wp_skip ?_;show _;refine wp_seq ?_;refine aY ?_;refine bV 3 (by kernel_rfl) ?_;refine og [_,_,mi 68 _ 0 99 v (fun b:Tr=> [cv.v,aj (((fH sub cs d i).2.2:Nat):Int)]) (fun b:Tr=> .tuple #[b.v,aj (fH sub cs d i).2.1]) (fun b:Tr=>er b=(fH sub cs d i).1) (fun b:Tr=>gT (Gn aW w) b)] [0,0,3] ab [jb r0,jb r1,jz 9 r9] ⟨ao e0,ao e1,ku (cells:=fun b:Tr=> [cv.v,aj (((fH sub cs d i).2.2:Nat):Int)]) (f:=fun b:Tr=> .tuple #[b.v,aj (fH sub cs d i).2.1]) (Ψ:=fun b:Tr=>er b=(fH sub cs d i).1) (Φ:=fun b:Tr=>gT (Gn aW w) b) fun {_ a_ _ _} c=>⟨_,_,(ck rfl rfl Tryz.call79 (c.q 0) (c.q 1)),(JK sub d v cv cs i _ (uT (c.B 0) (c.iz 9 rfl) (fun g_ h_ hz_=>hz_.2 _ h_)) hL (by omega) hd hsub hsb hno).mono (fun e w' ⟨b_,he_,hx_,hb_,ht_,hq_⟩=>⟨b_,he_,(c.ib 0 rfl).ext hx_,hb_.back (c.ib 0 rfl),hq_,c.tns ab hx_.size ht_⟩)⟩,av⟩ fun ac ag ae ab aa=> ?_;obtain ⟨e0,e4,e5⟩:=aa.k3 e0 e4 e5;obtain ⟨t1_,e99,hro6,hqt1_,hz6⟩:=aa.zb 2 rfl;have e99:be ac 99=(.tuple #[(ta t1_),(aj ((fH sub cs d i).2.1))]):=e99;replace r0:=hro6;replace r1:=aa.B 1;replace r9:=aa.z1 9;have r2:=hz6;refine bW ?_;refine og [_,_,_,box _ _ 3 6 [(aj 0),(bc (⟨#[]⟩:ByteArray)),(aE false),(.slice none 0 0),(aj 0),(aj 0),(aE false),(.slice none 0 0)],_,_] [0,1,3,7,15,31] ab [jb r0,jb r1,jz 2 r2,jz 9 r9] ⟨ao e99,bR 0,bR 0,bO rfl rfl rfl rfl aD rfl,ey (cx:=(tc t1_)) (off:=0) rfl ak fun c=>⟨c.rb 3 rfl,(c.rb 3 rfl).ptr,(c.q 1)⟩,aK 2,av⟩ fun ac ag ae ab aa=> ?_;obtain ⟨b7x6,e6⟩:=gx ac 6;obtain ⟨e0,e4,e5⟩:=aa.k3 e0 e4 e5;have e7:=aa.V 5;replace r0:=aa.B 0;replace r1:=aa.B 1;replace r2:=aa.z1 2;have r3:=aa.rb 4 e6 rfl;replace r9:=aa.z1 9;refine wp_seq ?_;refine wp_seq (eA ab [jb r0,jb r1,jz 2 r2,jb r3,jz 9 r9] ⟨ao e7,aq fun c=>fh rfl (c.q 0) rfl,av⟩ fun ac ag ae ab aa=> ?_);obtain ⟨e0,e4,e5,e6,e7⟩:=aa.k5 e0 e4 e5 e6 e7;have e103:=aa.V 1;replace r0:=aa.B 0;replace r1:=aa.B 1;obtain ⟨r2,r9⟩:=aa.z2 2 9;replace r3:=aa.B 3;refine wp_cond_split e103 (fun hc5=> ?_) (fun hc5=> ?_)
 · try simp only [ar,am,ai,ah] at hc5
   refine wp_seq (lr [0,0,1,7] ab [jb r0,jb r1,jz 2 r2,jb r3,jz 9 r9] ⟨aq fun c=>eW (cells:=#[(aj 0),(bc (⟨#[]⟩:ByteArray)),(aE false),(.slice none 0 0),(aj 0),(aj 0),(aE false),(.slice none 0 0)]) rfl aD ni,ao e7,cp (cx:=[(aj 0),(bc (⟨#[]⟩:ByteArray)),(aE false),(.slice none 0 0),(aj 0),(aj 0),(aE false),(.slice none 0 0)]) (off:=0) ak fun c=>⟨c.bp 1 rfl e4,c.ad ((c.p e4).trans r1.ptr) e4 rfl,(c.q 0)⟩,aK 1,av⟩ fun ac ag ae ab aa=> ?_);obtain ⟨e0,e4,e6⟩:=aa.k3 e0 e4 e6;have e5:=aa.V 3;replace r0:=aa.B 0;replace r1:=aa.RB 2 e4;obtain ⟨r2,r9⟩:=aa.z2 2 9;replace r3:=aa.B 3;refine wp_ret ?_;refine rp ?_;refine ek (fn:=Tryz.f59) rfl ab.defers e4 e5 r1 az ak rfl ?_;have he_:iB sub cs d i=((dQ 0 (⟨#[]⟩:ByteArray) false 0 0 false),(fH sub cs d i).2.1,(fH sub cs d i).2.2):=by unfold iB;(repeat (first | rw [if_neg (by first | assumption | (simp only [ci];assumption) | (simp only [dU];assumption) | (exact fun h_=>h_ (by assumption)) | omega)] | rw [if_pos (by first | assumption | omega)]));(try rfl)
   rw [he_];exact ⟨(dQ 0 (⟨#[]⟩:ByteArray) false 0 0 false),rfl,ab.extIn,r0.foot,(eQ _ _ _ _ _ _ _ _),rfl⟩
 try simp only [ar,am,ai,ah] at hc5
 refine wp_skip ?_;refine wp_seq ?_;have hal:=vq hsb (by assumption:(fH sub cs d i).2.1=0);refine aY ?_;refine bV 3 (by kernel_rfl) ?_;refine og [_,_,mi 68 _ 0 108 v (fun b:Tr=> [cv.v,aj (((hO cs (er t1_) ((fH sub cs d i).2.2)).2.2:Nat):Int)]) (fun b:Tr=> .tuple #[b.v,aj (hO cs (er t1_) ((fH sub cs d i).2.2)).2.1]) (fun b:Tr=>er b=(hO cs (er t1_) ((fH sub cs d i).2.2)).1) (fun b:Tr=>gT (Gn aW w) b)] [0,0,3] ab [jb r0,jb r1,jz 2 r2,jb r3,jz 9 r9] ⟨ao e0,aq fun c=>dY rfl az ak ((c.p e6).trans r3.ptr) (c.B 3),ku (cells:=fun b:Tr=> [cv.v,aj (((hO cs (er t1_) ((fH sub cs d i).2.2)).2.2:Nat):Int)]) (f:=fun b:Tr=> .tuple #[b.v,aj (hO cs (er t1_) ((fH sub cs d i).2.2)).2.1]) (Ψ:=fun b:Tr=>er b=(hO cs (er t1_) ((fH sub cs d i).2.2)).1) (Φ:=fun b:Tr=>gT (Gn aW w) b) fun {_ a_ _ _} c=>⟨_,_,(ck rfl rfl Tryz.call80 (c.q 0) (c.q 1)),(HQ _ v cv cs ((fH sub cs d i).2.2) t1_ _ (uT (c.B 0) (c.iz 9 rfl) (fun g_ h_ hz_=>hz_.2 _ h_)) hL (by omega) (c.iz 2 rfl) (fun g_ h_ hp_=>h_.1.2 _ ((c.ib 0 rfl).own hp_)) hno).mono (fun e w' ⟨b_,he_,hx_,hb_,ht_,hq_⟩=>⟨b_,he_,(c.ib 0 rfl).ext hx_,hb_.back (c.ib 0 rfl),hq_,c.tzs ab hx_.size ht_⟩)⟩,av⟩ fun ac ag ae ab aa=> ?_;obtain ⟨e0,e4,e5⟩:=aa.k3 e0 e4 e5;obtain ⟨t2_,e108,hro10,hqt2_,hz10⟩:=aa.zb 2 rfl;have e108:be ac 108=(.tuple #[(ta t2_),(aj ((hO cs (er t1_) ((fH sub cs d i).2.2)).2.1))]):=e108;replace r0:=hro10;replace r1:=aa.B 1;obtain ⟨r2,r9⟩:=aa.z2 2 9;have r3:=hz10;refine bW ?_;refine og [_,_,_,_] [0,1,3,7] ab [jb r0,jb r1,jz 2 r2,jz 3 r3,jz 9 r9] ⟨jG e108,jG e108,cp (cx:=(tc t2_)) (off:=0) ak fun c=>⟨c.bp 1 rfl e4,c.ad ((c.p e4).trans r1.ptr) e4 rfl,(c.q 0)⟩,aK 1,av⟩ fun ac ag ae ab aa=> ?_;obtain ⟨e0,e4⟩:=aa.k2 e0 e4;have e5:=aa.V 3;replace r0:=aa.B 0;replace r1:=aa.RB 2 e4;obtain ⟨r2,r3,r9⟩:=aa.z3 2 3 9;refine wp_ret ?_;refine rp ?_;refine ek (fn:=Tryz.f59) rfl ab.defers e4 e5 r1 az ak rfl ?_;have he_:iB sub cs d i=((er t2_),(hO cs (er t1_) ((fH sub cs d i).2.2)).2.1,(hO cs (er t1_) ((fH sub cs d i).2.2)).2.2):=by rw [hqt2_,hqt1_];unfold iB;(repeat (first | rw [if_neg (by first | assumption | (simp only [ci];assumption) | (simp only [dU];assumption) | (exact fun h_=>h_ (by assumption)) | omega)] | rw [if_pos (by first | assumption | omega)]));(try rfl)
 rw [he_];exact ⟨t2_,rfl,ab.extIn,r0.foot,r3.out,rfl⟩
end
section
open Go.RowKit
open Srt
theorem HR {cs:List ByteArray} {g:Nat} {d:Int} {j:Nat} {A T:List Tr} (hm:As cs j=true) (he:¬(iB (fun d j=>ga cs g d j [] []) cs d j).2.1=0):ga cs (g+1) d j A T=(kV,(iB (fun d j=>ga cs g d j [] []) cs d j).2.1,(iB (fun d j=>ga cs g d j [] []) cs d j).2.2):=by
  rw [ga,if_pos hm,if_pos he]
theorem FY {cs:List ByteArray} {g:Nat} {d:Int} {j:Nat} {A T:List Tr} (hm:As cs j=true) (he:(iB (fun d j=>ga cs g d j [] []) cs d j).2.1=0):ga cs (g+1) d j A T=ga cs g d (iB (fun d j=>ga cs g d j [] []) cs d j).2.2 A (T++ [(iB (fun d j=>ga cs g d j [] []) cs d j).1]):=by
  rw [ga,if_pos hm,if_neg (fun h=>h he)]
theorem HS {cs:List ByteArray} {g:Nat} {d:Int} {j:Nat} {A T:List Tr} (hm:As cs j=false) (ht:gj cs j ⟨#[124]⟩=true):ga cs (g+1) d j A T=ga cs g d (j+1) (A++ [jQ T]) []:=by
  rw [ga,if_neg (by rw [hm];decide),if_pos ht]
theorem HT {cs:List ByteArray} {g:Nat} {d:Int} {j:Nat} {A T:List Tr} (hm:As cs j=false) (ht:gj cs j ⟨#[124]⟩=false):ga cs (g+1) d j A T=(lP (A++ [jQ T]),0,j):=by
  rw [ga,if_neg (by rw [hm];decide),if_neg (by rw [ht];decide)]
theorem vx (l:List Tr):0≤dH (l.map fc):=kM fun x hx=>by
  obtain ⟨k,_,rfl⟩:=List.mem_map.1 hx;have:=nF k;omega
theorem lj (l:List Tr) (t:Tr):(l++ [t]).map er=l.map er++ [er t]:=by simp
theorem yL (l:List Tr):(l.length:Int)≤dH (l.map fc):=by
  induction l using gC with
  | h0 => exact fJ _
  | h1 l x ih =>
    rw [aP,aB,aH,fQ,aQ];have:=nF x;simp;omega
set_option maxRecDepth 100000 in
set_option maxHeartbeats 4000000 in
theorem FZ (v:Value) (cv:Sv) (cs:List ByteArray) (hL:re cs) (hP:JI cs) (hno:HP cs=true) (F0:Nat) (ih:∀g < F0,∀(d:Int) (i:Nat) (w:World),RdR 68 v cv cs i w→i≤cs.length→cs.length < g+i→0≤d∧d≤16→Calls Tryz.prog 38 #[v,aj d] w (fun e w'=>∃t':Tr,e= .returned (.tuple #[t'.v,aj (ga cs g d i [] []).2.1])∧Ext (bY v) w w'∧cH 68 [cv.v,aj (((ga cs g d i [] []).2.2:Nat):Int)] (bY v) v w'∧TrT (Gn aW w) w' t'∧er t'=(ga cs g d i [] []).1)) (d:Int) (i:Nat) (w:World) (hR:RdR 68 v cv cs i w) (hi:i≤cs.length) (hf:cs.length < F0+i) (hd:0≤d∧d≤16):Calls Tryz.prog 38 #[v,aj d] w (fun e w'=>∃t':Tr,e= .returned (.tuple #[t'.v,aj (ga cs F0 d i [] []).2.1])∧Ext (bY v) w w'∧cH 68 [cv.v,aj (((ga cs F0 d i [] []).2.2:Nat):Int)] (bY v) v w'∧TrT (Gn aW w) w' t'∧er t'=(ga cs F0 d i [] []).1):=by
 refine fj (bY v) (fun g hg=>hR.box.lt g hg) (n:=54) Tryz.func38 rfl rfl (aw rfl) ?_;intro a0 τ0 ha hτ st0;obtain ⟨e0,e1⟩:=qG ha;have hL1:=hL.1;have r0:cH 68 [cv.v,aj ((i:Nat):Int)] (τ0 0) v w:=by rw [hτ];exact hR.box
 have r9:Fz (fb gR Al cv.v cs) τ0 w:=hR.inz st0;refine wp_seq (rg [box _ _ 1 4 [(aj 0),(bc (⟨#[]⟩:ByteArray)),(aE false),(.slice none 0 0),(aj 0),(aj 0),(aE false),(.slice none 0 0)],_] [0,0] st0 [jb r0,jz 9 r9] ⟨bO rfl rfl rfl rfl aD rfl,aq fun c=>ax rfl rfl,av⟩ fun ac ag ae ab aa=> ?_);obtain ⟨b1x4,e4⟩:=gx ac 4;obtain ⟨e0,e1⟩:=aa.k2 e0 e1;have e5:=aa.V 1;replace r0:=aa.B 0;have r1:=aa.rb 0 e4 rfl;replace r9:=aa.z1 9;refine wp_seq (eK ab [jb r0,jb r1,jz 9 r9] ⟨aq fun c=>ax rfl rfl,av⟩ fun ac ag ae ab aa=> ?_);obtain ⟨e0,e1,e4,e5⟩:=aa.k4 e0 e1 e4 e5;have e6:=aa.V 0;replace r0:=aa.B 0;replace r1:=aa.B 1;replace r9:=aa.z1 9;refine wp_block ?_;refine wp_loop (fun a_ w_=>∃(j f:Nat) (u:Value) (al:List Tr) (τ:Nat→bj),(i≤j∧j≤cs.length)∧
      (cs.length < f+j∧f≤F0)∧
      (SoFar (al.map er) [] i j d)∧
      (ga cs F0 d i [] []=ga cs f d j (al.map er) [])∧
      St (fun k=>bY v k∨w.heap.size≤k) w 54 a_ w_ τ∧
      be a_ 6=u∧
      be a_ 0=v∧
      be a_ 1=(aj d)∧
      be a_ 4=b1x4∧
      cH 68 [cv.v,(aj ((j:Nat):Int))] (τ 0) v w_∧
      ep lY 25 al (τ 5) u w_∧
      Fz (oA (Gn aW w) al) τ w_∧
      cH 25 [(aj 0),(bc (⟨#[]⟩:ByteArray)),(aE false),(.slice none 0 0),(aj 0),(aj 0),(aE false),(.slice none 0 0)] (τ 1) b1x4 w_∧
      Fz (fb gR Al cv.v cs) τ w_) (fun a_ w_=>cs.length+10 - Aw v w_) ?_ ?_
 · refine ⟨i,F0,(.slice none 0 0),[],ae,?_,?_,?_,?_,ab,e6,e0,e1,e4,r0,?_,?_,r1,r9⟩
   · omega
   · omega
   · exact SoFar.start i d
   · rfl
   · exact ep.nil _ _ _ _
   · exact Fz.tn _ _ _
 intro a3 w3 hI;obtain ⟨j,f,u,al,τ3,q0,q1,q2,q3,st3,e6,e0,e1,e4,r0,r5,r6,r1,r9⟩:=hI;have hm0:=vw r0;have p0:=q0;have p1:=q1;have p2:=q2;have p3:=q3;refine wp_block ?_;refine wp_seq (eK st3 [jb r0,jb r1,jo r5,jz 6 r6,jz 9 r9] ⟨aq fun c=>ax rfl rfl,av⟩ fun ac ag ae ab aa=> ?_);obtain ⟨e0,e1,e4,e6⟩:=aa.k4 e0 e1 e4 e6;have e7:=aa.V 0;replace r0:=aa.B 0;replace r1:=aa.B 1;replace r5:=aa.O 5;obtain ⟨r6,r9⟩:=aa.z2 6 9;refine wp_seq ?_;refine wp_block ?_;refine wp_loop (fun a_ w_=>∃(m h:Nat) (y:Value) (ts:List Tr) (τ:Nat→bj),(j≤m∧m≤cs.length)∧
      (cs.length < h+m∧h≤F0)∧
      (SoFar (al.map er) (ts.map er) i m d)∧
      (ga cs f d j (al.map er) []=ga cs h d m (al.map er) (ts.map er))∧
      St (fun k=>bY v k∨w.heap.size≤k) w 54 a_ w_ τ∧
      be a_ 7=y∧
      be a_ 0=v∧
      be a_ 1=(aj d)∧
      be a_ 4=b1x4∧
      be a_ 6=u∧
      cH 68 [cv.v,(aj ((m:Nat):Int))] (τ 0) v w_∧
      ep lY 25 ts (τ 7) y w_∧
      Fz (oA (Gn aW w) ts) τ w_∧
      cH 25 [(aj 0),(bc (⟨#[]⟩:ByteArray)),(aE false),(.slice none 0 0),(aj 0),(aj 0),(aE false),(.slice none 0 0)] (τ 1) b1x4 w_∧
      ep lY 25 al (τ 5) u w_∧
      Fz (oA (Gn aW w) al) τ w_∧
      Fz (fb gR Al cv.v cs) τ w_) (fun a_ w_=>cs.length+10 - Aw v w_) ?_ ?_
 · refine ⟨j,f,(.slice none 0 0),[],ae,?_,?_,?_,?_,ab,e7,e0,e1,e4,e6,r0,?_,?_,r1,r5,r6,r9⟩
   · omega
   · omega
   · exact p2
   · rfl
   · exact ep.nil _ _ _ _
   · exact Fz.tn _ _ _
 intro a5 w5 hI;obtain ⟨m,h,y,ts,τ5,q0,q1,q2,q3,st5,e7,e0,e1,e4,e6,r0,r7,r8,r1,r5,r6,r9⟩:=hI;obtain ⟨g,rfl⟩:∃g,h=g+1:=⟨h - 1,by omega⟩;have hm1:=vw r0;have s2:=q2;have hwt:=s2.wt;rw [uq,uq] at hwt;have hw1:=vx al;have hw2:=vx ts;have hpl:=s2.parts;have hla:(al.length:Int)≤dH (al.map fc):=yL al;have hlt2:(ts.length:Int)≤dH (ts.map fc):=yL ts;refine wp_seq ?_;refine wp_seq (rg [_,_,_,_,_,_,_,_,_,_,_,_,_,_,_,_,_,_,_,_] [0,1,3,7,0,16,48,112,240,511,1023,2047,4095,8191,16383,32767,65535,131071,262143,524287] st5 [jb r0,jb r1,jo r5,jz 6 r6,jo r7,jz 8 r8,jz 9 r9] ⟨ao e0,cD 0 r0.ptr,bS eb aA 1 r0.ptr,fE aN 2 0 1,ao e0,cD 4 r0.ptr,bS eb cS 5 r0.ptr,fE dw 6 0 0,aq fun c=>dk rfl bL (c.q 7) (r9).1.sl,aq fun c=>cW rfl (c.q 3) (c.q 8),bD 9,aL 10 rfl fun c hpc=>aS rfl (c.p e0),fC 10 true rfl fun c hpc=>⟨_,_,(bK rfl rfl oF (c.M 11 hpc)),Ax v cv cs m _ (uT (c.B 0) (c.iz 9 rfl) (fun g_ h_ hz_=>hz_.2 _ h_))⟩,aL 10 rfl fun c hpc=>oa rfl (c.M 12 hpc) rfl,bZ 10 13,bD 14,aL 15 rfl fun c hpc=>aS rfl (c.p e0),fC 15 true rfl fun c hpc=>⟨_,_,(bK rfl rfl oF (c.M 16 hpc)),Ax v cv cs m _ (uT (c.B 0) (c.iz 9 rfl) (fun g_ h_ hz_=>hz_.2 _ h_))⟩,aL 15 rfl fun c hpc=>oa rfl (c.M 17 hpc) rfl,bZ 15 18,av⟩ fun ac ag ae ab aa=> ?_);obtain ⟨e0,e1,e4,e6,e7⟩:=aa.k5 e0 e1 e4 e6 e7;have e29:=aa.V 19;replace r0:=aa.B 0;replace r1:=aa.B 1;replace r5:=aa.O 5;obtain ⟨r6,r8,r9⟩:=aa.z3 6 8 9;replace r7:=aa.O 7;refine wp_cond_split e29 (fun hc1=> ?_) (fun hc1=> ?_)
 · have hd1:=hc1;try simp only [au,bl,ar,am,ai,ah,aV] at hd1
   refine wp_skip ?_;refine wp_block ?_;refine wp_seq ?_;refine aY ?_;refine bV 3 (by kernel_rfl) ?_;refine og [_,_,mi 68 _ 0 33 v (fun b:Tr=> [cv.v,aj (((iB (fun d j=>ga cs g d j [] []) cs d m).2.2:Nat):Int)]) (fun b:Tr=> .tuple #[b.v,aj (iB (fun d j=>ga cs g d j [] []) cs d m).2.1]) (fun b:Tr=>er b=(iB (fun d j=>ga cs g d j [] []) cs d m).1) (fun b:Tr=>gT (Gn aW w) b)] [0,0,3] ab [jb r0,jb r1,jo r5,jz 6 r6,jo r7,jz 8 r8,jz 9 r9] ⟨ao e0,ao e1,ku (cells:=fun b:Tr=> [cv.v,aj (((iB (fun d j=>ga cs g d j [] []) cs d m).2.2:Nat):Int)]) (f:=fun b:Tr=> .tuple #[b.v,aj (iB (fun d j=>ga cs g d j [] []) cs d m).2.1]) (Ψ:=fun b:Tr=>er b=(iB (fun d j=>ga cs g d j [] []) cs d m).1) (Φ:=fun b:Tr=>gT (Gn aW w) b) fun {_ a_ _ _} c=>⟨_,_,(ck rfl rfl Tryz.call59 (c.q 0) (c.q 1)),(JL (fun d j=>ga cs g d j [] []) d v cv cs m _ (uT (c.B 0) (c.iz 9 rfl) (fun g_ h_ hz_=>hz_.2 _ h_)) hL (by first | omega | (simp only [aP,aB,aH,cu,bk,bC];omega)) hd (fun d2_ j_ w2_ hR_ hij_ hjl_ hd_=>ih g (by omega) d2_ j_ w2_ hR_ hjl_ (by omega) hd_) (fun d_ j_ hh_=>sE cs g d_ j_ [] [] hh_) hno).mono (fun e w' ⟨b_,he_,hx_,hb_,ht_,hq_⟩=>⟨b_,he_,(c.ib 0 rfl).ext hx_,hb_.back (c.ib 0 rfl),hq_,c.tns ab hx_.size ht_⟩)⟩,av⟩ fun ac ag ae ab aa=> ?_;obtain ⟨e0,e1,e4,e6,e7,e29⟩:=aa.k6 e0 e1 e4 e6 e7 e29;obtain ⟨t1_,e33,hro7,hqt1_,hz7⟩:=aa.zb 2 rfl;have e33:be ac 33=(.tuple #[(ta t1_),(aj ((iB (fun d j=>ga cs g d j [] []) cs d m).2.1))]):=e33;replace r0:=hro7;replace r1:=aa.B 1;replace r5:=aa.O 5;obtain ⟨r6,r8,r9⟩:=aa.z3 6 8 9;replace r7:=aa.O 7;have r2:=hz7;refine bW ?_;refine og [_,_,_,box _ _ 3 8 [(aj 0),(bc (⟨#[]⟩:ByteArray)),(aE false),(.slice none 0 0),(aj 0),(aj 0),(aE false),(.slice none 0 0)],_,_] [0,1,3,7,15,31] ab [jb r0,jb r1,jz 2 r2,jo r5,jz 6 r6,jo r7,jz 8 r8,jz 9 r9] ⟨ao e33,bR 0,bR 0,bO rfl rfl rfl rfl aD rfl,ey (cx:=(tc t1_)) (off:=0) rfl ak fun c=>⟨c.rb 3 rfl,(c.rb 3 rfl).ptr,(c.q 1)⟩,aK 2,av⟩ fun ac ag ae ab aa=> ?_;obtain ⟨b8x8,e8⟩:=gx ac 8;obtain ⟨e0,e1,e4,e6,e7,e29⟩:=aa.k6 e0 e1 e4 e6 e7 e29;have e9:=aa.V 5;replace r0:=aa.B 0;replace r1:=aa.B 1;replace r2:=aa.z1 2;have r3:=aa.rb 4 e8 rfl;replace r5:=aa.O 5;obtain ⟨r6,r8,r9⟩:=aa.z3 6 8 9;replace r7:=aa.O 7;refine wp_seq ?_;refine wp_seq (eA ab [jb r0,jb r1,jz 2 r2,jb r3,jo r5,jz 6 r6,jo r7,jz 8 r8,jz 9 r9] ⟨ao e9,aq fun c=>fh rfl (c.q 0) rfl,av⟩ fun ac ag ae ab aa=> ?_);obtain ⟨e0,e1,e4,e6,e7,e8,e9,e29⟩:=aa.k8 e0 e1 e4 e6 e7 e8 e9 e29;have e37:=aa.V 1;replace r0:=aa.B 0;replace r1:=aa.B 1;obtain ⟨r2,r6,r8,r9⟩:=aa.z4 2 6 8 9;replace r3:=aa.B 3;replace r5:=aa.O 5;replace r7:=aa.O 7;refine wp_cond_split e37 (fun hc2=> ?_) (fun hc2=> ?_)
   · try simp only [ar,am,ai,ah] at hc2
     refine wp_seq (lr [0,0,1,7] ab [jb r0,jb r1,jz 2 r2,jb r3,jo r5,jz 6 r6,jo r7,jz 8 r8,jz 9 r9] ⟨aq fun c=>eW (cells:=#[(aj 0),(bc (⟨#[]⟩:ByteArray)),(aE false),(.slice none 0 0),(aj 0),(aj 0),(aE false),(.slice none 0 0)]) rfl aD ni,ao e9,cp (cx:=[(aj 0),(bc (⟨#[]⟩:ByteArray)),(aE false),(.slice none 0 0),(aj 0),(aj 0),(aE false),(.slice none 0 0)]) (off:=0) ak fun c=>⟨c.bp 1 rfl e4,c.ad ((c.p e4).trans r1.ptr) e4 rfl,(c.q 0)⟩,aK 1,av⟩ fun ac ag ae ab aa=> ?_);obtain ⟨e0,e1,e4,e6,e7,e8,e9,e29,e37⟩:=aa.k9 e0 e1 e4 e6 e7 e8 e9 e29 e37;have e5:=aa.V 3;replace r0:=aa.B 0;replace r1:=aa.RB 2 e4;obtain ⟨r2,r6,r8,r9⟩:=aa.z4 2 6 8 9;replace r3:=aa.B 3;replace r5:=aa.O 5;replace r7:=aa.O 7;refine wp_ret ?_;refine rp ?_;refine ek (fn:=Tryz.f38) rfl ab.defers e4 e5 r1 az ak rfl ?_;have he_:ga cs F0 d i [] []=((dQ 0 (⟨#[]⟩:ByteArray) false 0 0 false),(iB (fun d j=>ga cs g d j [] []) cs d m).2.1,(iB (fun d j=>ga cs g d j [] []) cs d m).2.2):=by rw [p3,q3,HR (by assumption) (by assumption)];(try rfl)
     rw [he_];exact ⟨(dQ 0 (⟨#[]⟩:ByteArray) false 0 0 false),rfl,ab.extIn,r0.foot,(eQ _ _ _ _ _ _ _ _),rfl⟩
   try simp only [ar,am,ai,ah] at hc2
   refine wp_skip ?_;have he0:(iB (fun d j=>ga cs g d j [] []) cs d m).2.1=0:=by assumption
   have htle:=yE (fun d_ j_ hh_=>sE cs g d_ j_ [] [] hh_) he0;refine rg [_,_,own lY 25 _ 4 42 ([t1_]),own _ _ _ 7 43 _,own _ _ _ 7 7 _] [0,0,2,7,15] ab [jb r0,jb r1,jz 2 r2,jb r3,jo r5,jz 6 r6,jo r7,jz 8 r8,jz 9 r9] ⟨ao e7,aq fun c=>dY rfl az ak ((c.p e8).trans r3.ptr) (c.B 3),dt (cells:=#[(aj t1_.k),(bc t1_.ch),(aE t1_.ng),t1_.rv.v,(aj t1_.mn),(aj t1_.mx),(aE t1_.lz),t1_.kv.v]) rfl rfl rfl rfl aU ak aD rfl (by decide) (by decide) (fun _ _ _ _ c=>gB (c.n 1 rfl) (by kernel_rfl)) rfl,fF (t0:=7) rfl rfl rfl rfl aU (i:=Tryz.t25) rfl rfl rfl rfl (by simp only [maxLen];(try simp);omega) (by show _ * 104≤_;(try simp);omega) (fun _ _ _ _ c=>⟨c.ip 7 rfl e7,c.sm (c.n 0 rfl) e7,⟨_,rfl,(c.ro 2 rfl).1.sl⟩⟩),eP (t0:=43) rfl rfl rfl rfl rfl (.inr rfl) (fun _ _ _ _ c=>⟨c.ro 3 rfl,rfl⟩),av⟩ fun ac ag ae ab aa=> ?_;obtain ⟨b11x42,e42⟩:=gx ac 42;obtain ⟨b11x7,e7⟩:=gx ac 7;obtain ⟨e0,e1,e4,e6,e8,e9,e29,e37⟩:=aa.k8 e0 e1 e4 e6 e8 e9 e29 e37;replace r0:=aa.B 0;replace r1:=aa.B 1;replace r2:=aa.z1 2;replace r3:=aa.B 3;have r4:=aa.ro 2 e42 rfl;replace r5:=aa.O 5;obtain ⟨r6,r8,r9⟩:=aa.z3 6 8 9;replace r7:=aa.ro 4 e7 rfl;show _;refine ⟨⟨(iB (fun d j=>ga cs g d j [] []) cs d m).2.2,g,b11x7,ts++ [t1_],ae,?_,?_,?_,?_,ab,e7,e0,e1,e4,e6,r0,?_,?_,r1,r5,r6,r9⟩,?_⟩
   · omega
   · omega
   · rw [lj,hqt1_];exact s2.term (Av hL hP (fun d_ j_ hh_=>sE cs g d_ j_ [] [] hh_) (fun d_ j_ hd_ hh_=>vv hL hP g d_ j_ j_ [] [] hd_ (SoFar.start j_ d_) hh_) hd.2 he0) (by omega)
   · rw [q3,FY (by assumption) he0,lj,hqt1_]
   · exact r7.cast (by rfl)
   · exact Fz.snoc r8 r2
   · rw [hm1,vw r0];omega
 have hd2:=hc1;try simp only [au,bl,ar,am,ai,ah,aV] at hd2
 refine wp_exit ?_;repeat (with_reducible refine cy ?_)
 refine cC ?_;refine wp_seq ?_;refine aY ?_;refine bV 3 (by kernel_rfl) ?_;refine og [_,_,gE _ 46 (fun b:Tr=>b.v) (fun b:Tr=>er b=jQ (ts.map er)) (fun b:Tr=>gT (Gn aW w) b)] [0,0,2] ab [jb r0,jb r1,jo r5,jz 6 r6,jo r7,jz 8 r8,jz 9 r9] ⟨ao e6,ao e7,eT (f:=fun b:Tr=>b.v) (Ψ:=fun b:Tr=>er b=jQ (ts.map er)) (Φ:=fun b:Tr=>gT (Gn aW w) b) fun {_ a_ _ _} c=>⟨_,_,(bK rfl rfl Tryz.call60 (c.q 1)),(FG _ y ts _ (zl (c.iz 8 rfl) (c.io 7 rfl).1.sl).sl (c.iz 8 rfl) (by first | omega | (simp only [aP,aB,aH,cu,bk,bC];omega))).mono (fun e w' ⟨t_,he_,hx_,ht_,hq_⟩=>⟨t_,he_,hx_,hq_,c.tz ab hx_ ht_⟩)⟩,av⟩ fun ac ag ae ab aa=> ?_;obtain ⟨e0,e1,e4,e6,e7,e29⟩:=aa.k6 e0 e1 e4 e6 e7 e29;have e44:=aa.V 0;obtain ⟨t2_,e46,hqt2_,hz12⟩:=aa.zd 2 rfl;have e46:be ac 46=(ta t2_):=e46;have hwt2_:=rJ hqt2_;replace r0:=aa.B 0;replace r1:=aa.B 1;replace r5:=aa.O 5;obtain ⟨r6,r8,r9⟩:=aa.z3 6 8 9;replace r7:=aa.O 7;have r2:=hz12;refine bW ?_;refine og [own lY 25 _ 3 47 ([t2_]),own _ _ _ 5 48 _,own _ _ _ 5 6 _] [0,1,3] ab [jb r0,jb r1,jz 2 r2,jo r5,jz 6 r6,jo r7,jz 8 r8,jz 9 r9] ⟨dt (cells:=#[(aj t2_.k),(bc t2_.ch),(aE t2_.ng),t2_.rv.v,(aj t2_.mn),(aj t2_.mx),(aE t2_.lz),t2_.kv.v]) rfl rfl rfl rfl aU ak aD rfl (by decide) (by decide) (fun _ _ _ _ c=>gB (c.p e46) (by kernel_rfl)) rfl,fF (t0:=6) rfl rfl rfl rfl aU (i:=Tryz.t25) rfl rfl rfl rfl (by simp only [maxLen];(try simp);omega) (by show _ * 104≤_;(try simp);omega) (fun _ _ _ _ c=>⟨c.ip 5 rfl e6,c.sm (c.p e44) e6,⟨_,rfl,(c.ro 0 rfl).1.sl⟩⟩),eP (t0:=48) rfl rfl rfl rfl rfl (.inr rfl) (fun _ _ _ _ c=>⟨c.ro 1 rfl,rfl⟩),av⟩ fun ac ag ae ab aa=> ?_;obtain ⟨b13x47,e47⟩:=gx ac 47;obtain ⟨b13x6,e6⟩:=gx ac 6;obtain ⟨e0,e1,e4,e7,e29⟩:=aa.k5 e0 e1 e4 e7 e29;replace r0:=aa.B 0;replace r1:=aa.B 1;replace r2:=aa.z1 2;have r3:=aa.ro 0 e47 rfl;replace r5:=aa.ro 2 e6 rfl;obtain ⟨r6,r8,r9⟩:=aa.z3 6 8 9;replace r7:=aa.O 7;refine wp_seq ?_;refine rg [_,kG 68 _ 0 50 v [cv.v,(aj ((tkN cs m (⟨#[124]⟩:ByteArray):Nat):Int))] (aE (gj cs m (⟨#[124]⟩:ByteArray))),_] [0,1,3] ab [jb r0,jb r1,jz 2 r2,jo r3,jo r5,jz 6 r6,jo r7,jz 8 r8,jz 9 r9] ⟨ao e0,iZ fun {_ a_ _ _} c=>⟨_,_,(ck rfl rfl gn (c.q 0) rfl),ja (c.B 0) (ql v cv cs m (⟨#[124]⟩:ByteArray) _ (uT (c.B 0) (c.iz 9 rfl) (fun g_ h_ hz_=>hz_.2 _ h_)) hL (by first | omega | (simp only [aP,aB,aH,cu,bk,bC];omega)))⟩,aq fun c=>ew rfl (c.dv 1 rfl),av⟩ fun ac ag ae ab aa=> ?_;obtain ⟨e0,e1,e4,e6,e7,e29⟩:=aa.k6 e0 e1 e4 e6 e7 e29;have e51:=aa.V 2;replace r0:=aa.db 1 rfl;replace r1:=aa.B 1;obtain ⟨r2,r6,r8,r9⟩:=aa.z4 2 6 8 9;replace r3:=aa.O 3;replace r5:=aa.O 5;replace r7:=aa.O 7;refine wp_cond_split e51 (fun hc3=> ?_) (fun hc3=> ?_)
 · try simp only [ar,am] at hc3
   have htk3:gj cs m (⟨#[124]⟩:ByteArray)=false:=by simpa using hc3
   rw [mD htk3] at r0;refine wp_seq ?_;refine aY ?_;refine bV 2 (by kernel_rfl) ?_;refine og [_,gE _ 53 (fun b:Tr=>b.v) (fun b:Tr=>er b=lP ((al++ [t2_]).map er)) (fun b:Tr=>gT (Gn aW w) b)] [0,1] ab [jb r0,jb r1,jz 2 r2,jo r3,jo r5,jz 6 r6,jo r7,jz 8 r8,jz 9 r9] ⟨ao e6,eT (f:=fun b:Tr=>b.v) (Ψ:=fun b:Tr=>er b=lP ((al++ [t2_]).map er)) (Φ:=fun b:Tr=>gT (Gn aW w) b) fun {_ a_ _ _} c=>⟨_,_,(bK rfl rfl Tryz.call62 (c.q 0)),(FH _ b13x6 (al++ [t2_]) _ (zl (FT (c.iz 6 rfl) (ly (c.iz 2 rfl) qh)) (c.io 5 rfl).1.sl).sl (FT (c.iz 6 rfl) (ly (c.iz 2 rfl) qh)) (by first | omega | (simp only [aP,aB,aH,cu,bk,bC];omega))).mono (fun e w' ⟨t_,he_,hx_,ht_,hq_⟩=>⟨t_,he_,hx_,hq_,c.tz ab hx_ ht_⟩)⟩,av⟩ fun ac ag ae ab aa=> ?_;obtain ⟨e0,e1,e4,e6,e7,e29,e51⟩:=aa.k7 e0 e1 e4 e6 e7 e29 e51;obtain ⟨t3_,e53,hqt3_,hz15⟩:=aa.zd 1 rfl;have e53:be ac 53=(ta t3_):=e53;have hwt3_:=vo hqt3_;replace r0:=aa.B 0;replace r1:=aa.B 1;obtain ⟨r2,r6,r8,r9⟩:=aa.z4 2 6 8 9;replace r3:=aa.O 3;replace r5:=aa.O 5;replace r7:=aa.O 7;have r4:=hz15;refine bW ?_;refine og [_,_] [0,1] ab [jb r0,jb r1,jz 2 r2,jo r3,jz 4 r4,jo r5,jz 6 r6,jo r7,jz 8 r8,jz 9 r9] ⟨cp (cx:=(tc t3_)) (off:=0) ak fun c=>⟨c.bp 1 rfl e4,c.ad ((c.p e4).trans r1.ptr) e4 rfl,(c.p e53)⟩,aq fun c=>ax rfl rfl,av⟩ fun ac ag ae ab aa=> ?_;obtain ⟨e0,e1,e4,e6,e7,e29,e51⟩:=aa.k7 e0 e1 e4 e6 e7 e29 e51;have e5:=aa.V 1;replace r0:=aa.B 0;replace r1:=aa.RB 0 e4;obtain ⟨r2,r4,r6,r8,r9⟩:=aa.z5 2 4 6 8 9;replace r3:=aa.O 3;replace r5:=aa.O 5;replace r7:=aa.O 7;refine wp_ret ?_;refine rp ?_;refine ek (fn:=Tryz.f38) rfl ab.defers e4 e5 r1 az ak rfl ?_;have he_:ga cs F0 d i [] []=((er t3_),0,m):=by rw [p3,q3,HT (by assumption) (by assumption),hqt3_,lj,hqt2_]
   rw [he_];exact ⟨t3_,rfl,ab.extIn,r0.foot,r4.out,rfl⟩
 try simp only [ar,am] at hc3
 have htk3:gj cs m (⟨#[124]⟩:ByteArray)=true:=by simpa using hc3
 have htl3:=kx htk3;rw [na htk3] at r0;refine wp_skip ?_;show _;refine ⟨⟨m+1,g,b13x6,al++ [t2_],ae,?_,?_,?_,?_,ab,e6,e0,e1,e4,r0,?_,?_,r1,r9⟩,?_⟩
 · omega
 · omega
 · rw [lj,hqt2_];exact s2.alt hd.2
 · rw [p3,q3,HS (by assumption) (by assumption),lj,hqt2_];(try rfl)
 · exact r5.cast (by rfl)
 · exact Fz.snoc r6 r2
 · rw [hm0,vw r0];omega
theorem HU (v:Value) (cv:Sv) (cs:List ByteArray) (hL:re cs) (hP:JI cs) (hno:HP cs=true) (F0:Nat):∀(d:Int) (i:Nat) (w:World),RdR 68 v cv cs i w→i≤cs.length→cs.length < F0+i→0≤d∧d≤16→Calls Tryz.prog 38 #[v,.int .i64 d] w (fun e w'=>∃t':Tr,e= .returned (.tuple #[t'.v,.int .i64 (ga cs F0 d i [] []).2.1])∧Ext (bY v) w w'∧cH 68 [cv.v,.int .i64 (((ga cs F0 d i [] []).2.2:Nat):Int)] (bY v) v w'∧TrT (Gn aW w) w' t'∧er t'=(ga cs F0 d i [] []).1):=by
  induction F0 using Nat.strongRecOn with
  | _ F0 ih => exact fun d i w hR hi hf hd => FZ v cv cs hL hP hno F0 ih d i w hR hi hf hd
end
end B
end Go.Proofs.YtcfdebjhikahfaaGreat
