import Derived.Test.YtcfdebjhikahfaaGreatZx3
set_option linter.unusedSimpArgs false
set_option linter.unusedVariables false
set_option linter.unusedSectionVars false
namespace Go.Proofs.YtcfdebjhikahfaaGreat
section
open Go.RowKit
abbrev cU:=@Bool.eq_false_or_eq_true
abbrev pQ:=@Tryz.call117
abbrev gA:=@Tryz.call122
abbrev pR:=@Tryz.call140
abbrev oG:=@Tryz.call33
abbrev kr:=@Tryz.call51
abbrev me:=@Tryz.sizeOf5
abbrev fR:=@Tryz.underlying105
abbrev cT:=@Tryz.underlying4
abbrev lu:=@Tryz.underlying5
end
namespace B
section
open Go.RowKit
open Srt
theorem ux (s:ByteArray) (n:Nat) (hn:n≤s.size):(kq s n).1.length≤n∧(kq s n).2≤n∧∀c ∈ (kq s n).1,c.size≤s.size:=by
  induction n with
  | zero => exact ⟨bz _, bz _, fun c hc => by simp [kq] at hc⟩
  | succ n ih =>
    obtain ⟨h1,h2,h3⟩:=ih (by omega);rw [kq,np];split
    · refine ⟨by simp;omega,bz _,fun c hc=> ?_⟩;rcases List.mem_append.1 hc with hc | hc
      · exact h3 c hc
      · simp at hc;subst hc;rw [ByteArray.size_extract];omega
    · exact ⟨by omega,by omega,h3⟩
theorem nd {s:ByteArray} (h:s.size≤256):re (bA s):=by
  obtain ⟨h1,_,h3⟩:=ux s s.size (bz _);exact ⟨bE h1 h,fun c hc=>bE (h3 c hc) h⟩
theorem wE {s:ByteArray} {i e:Nat} (h1:i < e) (h2:e≤s.size) (h3:vc (cP s (i:Int))=false) (h4:∀m,i < m→m < e→vc (cP s (m:Int))=true):fY (s.extract i e)=true:=by
  have hl:=mm s;have hi:i < (bs s).length:=by omega
  unfold fY;rw [Bs,gS,fo hi,show e - i=(e - i - 1)+1 by omega,List.take_succ_cons];have h5:cP s (i:Int)=(((bs s)[i]).toNat:Int):=lV (cd hi);rw [h5] at h3;simp only [Bt,h3,ma,jY,cI];intro x hx;obtain ⟨q,hq,rfl⟩:=lA hx;simp only [ed,fw] at hq;have h6:=h4 (i+1+q) (by omega) (by omega);have h7:i+1+q < (bs s).length:=by omega
  rw [lV (cd h7)] at h6;rw [List.getElem_take,List.getElem_drop];exact h6
theorem BL (s:ByteArray) (k:Nat) (hk:k≤s.size):(∀i:Nat,1≤i→i < (kq s k).1.length→fY (nth (kq s k).1 (i:Int))=true)∧((kq s k).1≠ []→(kq s k).2 < s.size→vc (cP s ((kq s k).2:Int))=false)∧(∀m,(kq s k).2 < m→m≤k→m < s.size→vc (cP s (m:Int))=true):=by
  induction k with
  | zero => exact ⟨fun i h1 h2 => by simp [kq] at h2, fun h => absurd rfl h, fun m h1 h2 h3 => by omega⟩
  | succ k ih =>
    obtain ⟨a,b,c⟩:=ih (by omega);have hfr:=zR s k;rw [kq,np];split
    · rename_i hc;refine ⟨fun i h1 h2=> ?_,fun _ h=> ?_,fun m h1 h2 h3=> ?_⟩
      · simp only [aQ,ay,aC] at h2;by_cases hlt:i < (kq s k).1.length
        · have:=a i h1 hlt;rw [vV hlt |> fun h=>mH (xs:=(kq s k).1++ [s.extract (kq s k).2 (k+1)]) (by rw [lx hlt];exact h)];exact this
        · obtain rfl:i=(kq s k).1.length:=by omega
          rw [mH (xs:=(kq s k).1++ [s.extract (kq s k).2 (k+1)]) (x:=s.extract (kq s k).2 (k+1)) (by rw [jv (bz _)];simp)];have hne:(kq s k).1≠ []:=fun e=>by rw [e] at h1;simp at h1
          exact wE (by omega) hk (b hne (by omega)) fun m h3 h4=>c m h3 (by omega) (by omega)
      · simp only [aR,ai] at hc;simp only [] at h;rcases hc with hc | hc
        · omega
        · rw [qe] at hc;simpa using hc
      · simp only [] at h1;omega
    · rename_i hc;refine ⟨a,b,fun m h1 h2 h3=> ?_⟩;by_cases e:m=k+1
      · subst e;simp only [aR,ai,not_or] at hc;have:=hc.2;rw [qe] at this;simpa using this
      · exact c m h1 (by omega) h3
theorem tj (s:ByteArray):JI (bA s):=fun i h1 h2=>(BL s s.size (bz _)).1 i h1 h2
set_option maxRecDepth 100000 in
set_option maxHeartbeats 4000000 in
theorem Ga (s:ByteArray) (w:World) (hno:HP (bA s)=true):Calls Tryz.prog 14 #[(bc s)] w (fun e w'=>∃t':Tr,e= .returned (.tuple #[t'.v,aj (jx s).2])∧Ext aW w w'∧TrT (Gn aW w) w' t'∧er t'=(jx s).1):=by
 refine enter (n:=39) Tryz.func14 rfl rfl (aw rfl) ?_;intro a0 τ0 ha st0;have e0:=oz ha;refine wp_seq (rg [box _ _ 0 2 [(aj 0),(bc (⟨#[]⟩:ByteArray)),(aE false),(.slice none 0 0),(aj 0),(aj 0),(aE false),(.slice none 0 0)],_] [0,0] st0 [] ⟨bO rfl rfl rfl rfl aD rfl,aq fun c=>ax rfl rfl,av⟩ fun ac ag ae ab aa=> ?_);obtain ⟨b1x2,e2⟩:=gx ac 2;replace e0:=aa.k1 e0;have e3:=aa.V 1;have r0:=aa.rb 0 e2 rfl;refine wp_seq ?_;refine wp_seq (fX ab [jb r0] ⟨ao e0,aq fun c=>fA rfl aZ (c.q 0),aq fun c=>ii rfl (c.q 1) rfl,av⟩ fun ac ag ae ab aa=> ?_);obtain ⟨e0,e2,e3⟩:=aa.k3 e0 e2 e3;have e9:=aa.V 2;replace r0:=aa.B 0;refine wp_cond_split e9 (fun hc1=> ?_) (fun hc1=> ?_)
 · try simp only [ai] at hc1
   refine wp_seq (fX ab [jb r0] ⟨aq fun c=>eW (cells:=#[(aj 0),(bc (⟨#[]⟩:ByteArray)),(aE false),(.slice none 0 0),(aj 0),(aj 0),(aE false),(.slice none 0 0)]) rfl aD ni,cp (cx:=[(aj 0),(bc (⟨#[]⟩:ByteArray)),(aE false),(.slice none 0 0),(aj 0),(aj 0),(aE false),(.slice none 0 0)]) (off:=0) ak fun c=>⟨c.bp 0 rfl e2,c.ad ((c.p e2).trans r0.ptr) e2 rfl,(c.q 0)⟩,aq fun c=>ax rfl rfl,av⟩ fun ac ag ae ab aa=> ?_);obtain ⟨e0,e2⟩:=aa.k2 e0 e2;have e3:=aa.V 2;replace r0:=aa.RB 1 e2;refine wp_ret ?_;refine rp ?_;refine ek (fn:=Tryz.f14) rfl ab.defers e2 e3 r0 az ak rfl ?_;have he_:jx s=((dQ 0 (⟨#[]⟩:ByteArray) false 0 0 false),4):=by unfold jx;(repeat (first | rw [if_neg (by first | assumption | (simp only [ci];assumption) | (simp only [dU];assumption) | (exact fun h_=>h_ (by assumption)) | omega)] | rw [if_pos (by first | assumption | omega)]));(try rfl)
   rw [he_];exact ⟨(dQ 0 (⟨#[]⟩:ByteArray) false 0 0 false),rfl,ab.ext0,(eQ _ _ _ _ _ _ _ _),rfl⟩
 try simp only [ah,aV] at hc1
 refine wp_skip ?_;refine wp_seq ?_;refine aY ?_;refine bV 2 (by kernel_rfl) ?_;refine og [_,gE _ 12 (fun b:Sv=>b.v) (fun _=>True) (fun b:Sv=>fb gR Al b.v (bA s))] [0,1] ab [jb r0] ⟨ao e0,eT (f:=fun b:Sv=>b.v) (Ψ:=fun _=>True) (Φ:=fun b:Sv=>fb gR Al b.v (bA s)) fun {_ a_ _ _} c=>⟨_,_,(bK rfl rfl Tryz.call37 (c.q 0)),(CQ s _ (by omega)).mono (fun e w' ⟨v_,he_,hx_,hn_⟩=>by obtain ⟨s_,rfl⟩:=hn_.1.sl.sl.sv;exact ⟨s_,he_,hx_,av,(c.sn ab hx_ hn_:(fb gR (Gn aW w) _ _).P _ _).1,fun h_=>⟨((c.sn ab hx_ hn_:(fb gR (Gn aW w) _ _).P _ _).2 h_).1,av⟩⟩)⟩,av⟩ fun ac ag ae ab aa=> ?_;obtain ⟨e2,e3⟩:=aa.k2 e2 e3;obtain ⟨kv1_,e12,-,hz4⟩:=aa.zd 1 rfl;have e12:be ac 12=kv1_.v:=e12;replace r0:=aa.B 0;have r1:=hz4;refine bW ?_;refine og [_,box _ _ 2 14 [kv1_.v,(aj 0)],box _ _ 2 4 [kv1_.v,(aj 0)]] [0,1,3] ab [jb r0,jz 1 r1] ⟨aq fun c=>KG (cells:=#[kv1_.v,(aj 0)]) rfl Tryz.zeroValue68 (gB (c.p e12) rfl),hH (v:=(.agg #[kv1_.v,(aj 0)])) rfl rfl rfl rfl rfl (fun _ _ _ _ c=>(c.q 0)),eP (t0:=14) rfl rfl rfl rfl rfl (.inr rfl) (fun _ _ _ _ c=>⟨c.rb 1 rfl,rfl⟩),av⟩ fun ac ag ae ab aa=> ?_;obtain ⟨b5x4,e4⟩:=gx ac 4;obtain ⟨e2,e3⟩:=aa.k2 e2 e3;replace r0:=aa.B 0;replace r1:=aa.z1 1;have r2:=aa.rb 2 e4 rfl;refine wp_seq ?_;refine aY ?_;refine bV 2 (by kernel_rfl) ?_;refine og [_,mi 68 _ 2 17 b5x4 (fun b:Tr=> [kv1_.v,aj (((ga (bA s) ((bA s).length+1) 0 0 [] []).2.2:Nat):Int)]) (fun b:Tr=> .tuple #[b.v,aj (ga (bA s) ((bA s).length+1) 0 0 [] []).2.1]) (fun b:Tr=>er b=(ga (bA s) ((bA s).length+1) 0 0 [] []).1) (fun b:Tr=>gT (Gn aW w) b)] [0,1] ab [jb r0,jz 1 r1,jb r2] ⟨ao e4,ku (cells:=fun b:Tr=> [kv1_.v,aj (((ga (bA s) ((bA s).length+1) 0 0 [] []).2.2:Nat):Int)]) (f:=fun b:Tr=> .tuple #[b.v,aj (ga (bA s) ((bA s).length+1) 0 0 [] []).2.1]) (Ψ:=fun b:Tr=>er b=(ga (bA s) ((bA s).length+1) 0 0 [] []).1) (Φ:=fun b:Tr=>gT (Gn aW w) b) fun {_ a_ _ _} c=>⟨_,_,(ck rfl rfl Tryz.call38 (c.q 0) rfl),(HU b5x4 kv1_ (bA s) (nd (by omega)) (tj s) hno ((bA s).length+1) 0 0 _ (uT (i:=0) (c.ib 2 rfl) (c.iz 1 rfl) (fun g_ h_ hz_=>hz_.2 _ h_)) (dC _) (by omega) (by omega)).mono (fun e w' ⟨b_,he_,hx_,hb_,ht_,hq_⟩=>⟨b_,he_,(c.ib 2 rfl).ext hx_,hb_.back (c.ib 2 rfl),hq_,c.tns ab hx_.size ht_⟩)⟩,av⟩ fun ac ag ae ab aa=> ?_;obtain ⟨e2,e3,e4⟩:=aa.k3 e2 e3 e4;obtain ⟨t2_,e17,hro6,hqt2_,hz6⟩:=aa.zb 1 rfl;have e17:be ac 17=(.tuple #[(ta t2_),(aj ((ga (bA s) ((bA s).length+1) 0 0 [] []).2.1))]):=e17;replace r0:=aa.B 0;replace r1:=aa.z1 1;replace r2:=hro6;have r3:=hz6;refine bW ?_;refine og [_,_,_,box _ _ 4 5 [(aj 0),(bc (⟨#[]⟩:ByteArray)),(aE false),(.slice none 0 0),(aj 0),(aj 0),(aE false),(.slice none 0 0)],_,_] [0,1,3,7,15,31] ab [jb r0,jz 1 r1,jb r2,jz 3 r3] ⟨ao e17,bR 0,bR 0,bO rfl rfl rfl rfl aD rfl,ey (cx:=(tc t2_)) (off:=0) rfl ak fun c=>⟨c.rb 3 rfl,(c.rb 3 rfl).ptr,(c.q 1)⟩,aK 2,av⟩ fun ac ag ae ab aa=> ?_;obtain ⟨b7x5,e5⟩:=gx ac 5;obtain ⟨e2,e3,e4⟩:=aa.k3 e2 e3 e4;have e6:=aa.V 5;replace r0:=aa.B 0;obtain ⟨r1,r3⟩:=aa.z2 1 3;replace r2:=aa.B 2;have r4:=aa.rb 4 e5 rfl;refine wp_seq ?_;refine wp_seq (rg [_,_,_,_,_,_,_,_,_,_,_,_,_,_] [0,1,3,7,15,31,63,7,135,391,903,1927,4095,8191] ab [jb r0,jz 1 r1,jb r2,jz 3 r3,jb r4] ⟨ao e6,aq fun c=>cY rfl (c.q 0) rfl,bD 1,aL 2 rfl fun c hpc=>aS rfl (c.p e4),aL 2 rfl fun c hpc=>eR rfl (c.M 3 hpc) r2.ptr,aL 2 rfl fun c hpc=>dh rfl eb aA ((c.M 4 hpc).trans r2.ptr),aL 2 rfl fun c hpc=>aI rfl aN (c.M 5 hpc) ((c.B 2).cell (j:=1) rfl),aL 2 rfl fun c hpc=>aS rfl (c.p e4),aL 2 rfl fun c hpc=>eR rfl (c.M 7 hpc) r2.ptr,aL 2 rfl fun c hpc=>dh rfl eb cS ((c.M 8 hpc).trans r2.ptr),aL 2 rfl fun c hpc=>aI rfl dw (c.M 9 hpc) ((c.B 2).cell (j:=0) rfl),aL 2 rfl fun c hpc=>dk rfl bL (c.M 10 hpc) (r1).1.sl,aL 2 rfl fun c hpc=>cW rfl (c.M 6 hpc) (c.M 11 hpc),bZ 2 12,av⟩ fun ac ag ae ab aa=> ?_);obtain ⟨e2,e3,e5,e6⟩:=aa.k4 e2 e3 e5 e6;have e33:=aa.V 13;replace r0:=aa.B 0;obtain ⟨r1,r3⟩:=aa.z2 1 3;replace r4:=aa.B 4;refine wp_cond_split e33 (fun hc2=> ?_) (fun hc2=> ?_)
 · try simp only [au,ai] at hc2
   refine eK ab [jb r0,jz 3 r3,jb r4] ⟨aq fun c=>ax rfl rfl,av⟩ fun ac ag ae ab aa=> ?_;obtain ⟨e2,e3,e5⟩:=aa.k3 e2 e3 e5;have e6:=aa.V 0;replace r0:=aa.B 0;replace r3:=aa.z1 3;replace r4:=aa.B 4;refine wp_seq ?_;refine wp_seq (eA ab [jb r0,jz 3 r3,jb r4] ⟨ao e6,aq fun c=>fh rfl (c.q 0) rfl,av⟩ fun ac ag ae ab aa=> ?_);obtain ⟨e2,e3,e5,e6⟩:=aa.k4 e2 e3 e5 e6;have e35:=aa.V 1;replace r0:=aa.B 0;replace r3:=aa.z1 3;replace r4:=aa.B 4;refine wp_cond_split e35 (fun hc3=> ?_) (fun hc3=> ?_)
   · try simp only [ar,am,ai,ah] at hc3
     refine wp_seq (lr [0,0,1,7] ab [jb r0,jz 3 r3,jb r4] ⟨aq fun c=>eW (cells:=#[(aj 0),(bc (⟨#[]⟩:ByteArray)),(aE false),(.slice none 0 0),(aj 0),(aj 0),(aE false),(.slice none 0 0)]) rfl aD ni,ao e6,cp (cx:=[(aj 0),(bc (⟨#[]⟩:ByteArray)),(aE false),(.slice none 0 0),(aj 0),(aj 0),(aE false),(.slice none 0 0)]) (off:=0) ak fun c=>⟨c.bp 0 rfl e2,c.ad ((c.p e2).trans r0.ptr) e2 rfl,(c.q 0)⟩,aK 1,av⟩ fun ac ag ae ab aa=> ?_);obtain ⟨e2,e5⟩:=aa.k2 e2 e5;have e3:=aa.V 3;replace r0:=aa.RB 2 e2;replace r3:=aa.z1 3;replace r4:=aa.B 4;refine wp_ret ?_;refine rp ?_;refine ek (fn:=Tryz.f14) rfl ab.defers e2 e3 r0 az ak rfl ?_;have he_:jx s=((dQ 0 (⟨#[]⟩:ByteArray) false 0 0 false),10):=by unfold jx;(repeat (first | rw [if_neg (by first | assumption | (simp only [ci];assumption) | (simp only [dU];assumption) | (exact fun h_=>h_ (by assumption)) | omega)] | rw [if_pos (by first | assumption | omega)]));(try rfl)
     rw [he_];exact ⟨(dQ 0 (⟨#[]⟩:ByteArray) false 0 0 false),rfl,ab.ext0,(eQ _ _ _ _ _ _ _ _),rfl⟩
   try simp only [ar,am,ai,ah] at hc3
   refine wp_skip ?_;refine wp_seq (fX ab [jb r0,jz 3 r3,jb r4] ⟨aq fun c=>dY rfl az ak ((c.p e5).trans r4.ptr) (c.B 4),cp (cx:=(tc t2_)) (off:=0) ak fun c=>⟨c.bp 0 rfl e2,c.ad ((c.p e2).trans r0.ptr) e2 rfl,(c.q 0)⟩,aq fun c=>ax rfl rfl,av⟩ fun ac ag ae ab aa=> ?_);replace e2:=aa.k1 e2;have e3:=aa.V 2;replace r0:=aa.RB 1 e2;replace r3:=aa.z1 3;refine wp_ret ?_;refine rp ?_;refine ek (fn:=Tryz.f14) rfl ab.defers e2 e3 r0 az ak rfl ?_;have he_:jx s=((er t2_),0):=by rw [hqt2_];unfold jx;(repeat (first | rw [if_neg (by first | assumption | (simp only [ci];assumption) | (simp only [dU];assumption) | (exact fun h_=>h_ (by assumption)) | omega)] | rw [if_pos (by first | assumption | omega)]));(try rfl)
   rw [he_];exact ⟨t2_,rfl,ab.ext0,r3.out,rfl⟩
 try simp only [bl,ah,aV] at hc2
 refine wp_skip ?_;refine wp_seq ?_;refine wp_seq (eA ab [jb r0,jz 3 r3,jb r4] ⟨ao e6,aq fun c=>fh rfl (c.q 0) rfl,av⟩ fun ac ag ae ab aa=> ?_);obtain ⟨e2,e3,e5,e6⟩:=aa.k4 e2 e3 e5 e6;have e35:=aa.V 1;replace r0:=aa.B 0;replace r3:=aa.z1 3;replace r4:=aa.B 4;refine wp_cond_split e35 (fun hc4=> ?_) (fun hc4=> ?_)
 · try simp only [ar,am,ai,ah] at hc4
   refine wp_seq (lr [0,0,1,7] ab [jb r0,jz 3 r3,jb r4] ⟨aq fun c=>eW (cells:=#[(aj 0),(bc (⟨#[]⟩:ByteArray)),(aE false),(.slice none 0 0),(aj 0),(aj 0),(aE false),(.slice none 0 0)]) rfl aD ni,ao e6,cp (cx:=[(aj 0),(bc (⟨#[]⟩:ByteArray)),(aE false),(.slice none 0 0),(aj 0),(aj 0),(aE false),(.slice none 0 0)]) (off:=0) ak fun c=>⟨c.bp 0 rfl e2,c.ad ((c.p e2).trans r0.ptr) e2 rfl,(c.q 0)⟩,aK 1,av⟩ fun ac ag ae ab aa=> ?_);obtain ⟨e2,e5⟩:=aa.k2 e2 e5;have e3:=aa.V 3;replace r0:=aa.RB 2 e2;replace r3:=aa.z1 3;replace r4:=aa.B 4;refine wp_ret ?_;refine rp ?_;refine ek (fn:=Tryz.f14) rfl ab.defers e2 e3 r0 az ak rfl ?_;have he_:jx s=((dQ 0 (⟨#[]⟩:ByteArray) false 0 0 false),(ga (bA s) ((bA s).length+1) 0 0 [] []).2.1):=by unfold jx;(repeat (first | rw [if_neg (by first | assumption | (simp only [ci];assumption) | (simp only [dU];assumption) | (exact fun h_=>h_ (by assumption)) | omega)] | rw [if_pos (by first | assumption | omega)]));(try rfl)
   rw [he_];exact ⟨(dQ 0 (⟨#[]⟩:ByteArray) false 0 0 false),rfl,ab.ext0,(eQ _ _ _ _ _ _ _ _),rfl⟩
 try simp only [ar,am,ai,ah] at hc4
 refine wp_skip ?_;refine wp_seq (fX ab [jb r0,jz 3 r3,jb r4] ⟨aq fun c=>dY rfl az ak ((c.p e5).trans r4.ptr) (c.B 4),cp (cx:=(tc t2_)) (off:=0) ak fun c=>⟨c.bp 0 rfl e2,c.ad ((c.p e2).trans r0.ptr) e2 rfl,(c.q 0)⟩,aq fun c=>ax rfl rfl,av⟩ fun ac ag ae ab aa=> ?_);replace e2:=aa.k1 e2;have e3:=aa.V 2;replace r0:=aa.RB 1 e2;replace r3:=aa.z1 3;refine wp_ret ?_;refine rp ?_;refine ek (fn:=Tryz.f14) rfl ab.defers e2 e3 r0 az ak rfl ?_;have he_:jx s=((er t2_),0):=by rw [hqt2_];unfold jx;(repeat (first | rw [if_neg (by first | assumption | (simp only [ci];assumption) | (simp only [dU];assumption) | (exact fun h_=>h_ (by assumption)) | omega)] | rw [if_pos (by first | assumption | omega)]));(try rfl)
 rw [he_];exact ⟨t2_,rfl,ab.ext0,r3.out,rfl⟩
end
section
open Srt
abbrev Ps:=List (Int × Int)
abbrev Fl:=Nat × Bool
abbrev Rs:=Option (Nat × Ps) × Fl
abbrev cQ:=Nat→Ps→Fl→Rs
abbrev fe:=Nat→cQ→Ps→Fl→Rs
structure Env where
  cs:List ByteArray
  pl:List Int
  fold:Bool
def uU (s:ByteArray):Bool:=decide ((s.size:Int)=1)&&((((decide (97≤cP s 0)&&decide (cP s 0≤122)) || (decide (65≤cP s 0)&&decide (cP s 0≤90))) || (decide (48≤cP s 0)&&decide (cP s 0≤57))) || decide (cP s 0=95))
def kj (fold:Bool) (t:Tr) (x:ByteArray):Bool:=
  if t.k=2 then gM x t.ch || (fold&&gM (mo x) (mo t.ch))
  else if t.k=3 then !(gM x ⟨#[10]⟩)
  else DN t.rows t.ng fold x
def JM (cs:List ByteArray) (k:Int):Bool:=decide (0 < k)&&uU (nth cs (k - 1))
def HV (cs:List ByteArray) (k:Int):Bool:=decide (k < (cs.length:Int))&&uU (nth cs k)
def kW (cs:List ByteArray) (kd:Int) (k:Int):Bool:=
  if kd=8 then decide (k=0) else if kd=9 then decide (k=(cs.length:Int)) else (!(JM cs k==HV cs k))==decide (kd=10)
def noneR (ps:Ps) (lo n:Nat):Ps:=ps.take lo++List.replicate n ((-1:Int),(-1:Int))++ps.drop (lo+n)
def ge:List fe→fe
  | [], k, K, ps, φ => K k ps φ
  | r :: l, k, K, ps, φ => r k (fun to ps φ => ge l to K ps φ) ps φ
def fv:List fe→fe
  | [], _, _, _, φ => (none, φ)
  | r :: l, k, K, ps, φ => if (r k K ps φ).1.isSome = true then r k K ps φ else fv l k K ps (r k K ps φ).2
def eD (mn:Int) (lz:Bool) (times:Nat) (k:Nat) (K:cQ) (ps:Ps) (φ:Fl):Rs:=if (decide (mn≤(times:Int))&&lz)=true then K k ps φ else (none,φ)
def em (mn:Int) (lz:Bool) (times:Nat) (k:Nat) (K:cQ) (ps:Ps) (φ:Fl):Rs:=if ((decide (mn≤(times:Int))&& !lz)&& !φ.2)=true then K k ps φ else (none,φ)
def ea (r:fe) (lo n:Nat) (mn mx:Int) (lz:Bool):Nat→Nat→fe
  | 0, _, _, _, _, φ => (none, φ)
  | g + 1, times, k, K, ps, φ =>
    if (eD mn lz times k K ps φ).1.isSome=true then eD mn lz times k K ps φ else
    if (decide (mx < 0) || decide ((times:Int) < mx))=true then
      if (r k (fun to ps' φ'=>if (decide (k < to) || decide ((times:Int) < mn))=true then ea r lo n mn mx lz g (times+1) to K ps' φ' else (none,φ')) (noneR ps lo n) (eD mn lz times k K ps φ).2).1.isSome=true then
        r k (fun to ps' φ'=>if (decide (k < to) || decide ((times:Int) < mn))=true then ea r lo n mn mx lz g (times+1) to K ps' φ' else (none,φ')) (noneR ps lo n) (eD mn lz times k K ps φ).2
      else em mn lz times k K ps (r k (fun to ps' φ'=>if (decide (k < to) || decide ((times:Int) < mn))=true then ea r lo n mn mx lz g (times+1) to K ps' φ' else (none,φ')) (noneR ps lo n) (eD mn lz times k K ps φ).2).2
    else em mn lz times k K ps (eD mn lz times k K ps φ).2
def eB (r:fe) (lo n:Nat) (mn mx:Int) (lz:Bool) (g times k:Nat) (K:cQ):cQ:=fun to ps' φ'=>if (decide (k < to) || decide ((times:Int) < mn))=true then ea r lo n mn mx lz g (times+1) to K ps' φ' else (none,φ')
def fV (r:fe) (lo n:Nat) (mn mx:Int) (lz:Bool) (g times k:Nat) (K:cQ) (ps:Ps) (φ:Fl):Rs:=r k (eB r lo n mn mx lz g times k K) (noneR ps lo n) φ
theorem nN (r:fe) (lo n:Nat) (mn mx:Int) (lz:Bool) (g times k:Nat) (K:cQ) (ps:Ps) (φ:Fl):ea r lo n mn mx lz (g+1) times k K ps φ=
    if (eD mn lz times k K ps φ).1.isSome=true then eD mn lz times k K ps φ else
    if (decide (mx < 0) || decide ((times:Int) < mx))=true then
      if (fV r lo n mn mx lz g times k K ps (eD mn lz times k K ps φ).2).1.isSome=true then fV r lo n mn mx lz g times k K ps (eD mn lz times k K ps φ).2
      else em mn lz times k K ps (fV r lo n mn mx lz g times k K ps (eD mn lz times k K ps φ).2).2
    else em mn lz times k K ps (eD mn lz times k K ps φ).2:=rfl
def jh:List fe→fe
  | r :: _ => r
  | [] => fun _ _ _ φ => (none, φ)
def ia (E:Env) (lo k:Nat) (K:cQ):cQ:=fun to ps φ=>K to (ps.set lo (nth E.pl (k:Int),nth E.pl (to:Int))) φ
def ji (E:Env) (t:Tr) (lo:Nat) (l:List fe):fe:=fun k K ps φ=>
  if t.k=5 then jh l k (ia E lo k K) ps φ
  else if t.k=6 then jh l k K ps φ
  else if t.k=2∨t.k=3∨t.k=4 then (if (decide ((k:Int) < (E.cs.length:Int))&&kj E.fold t (nth E.cs (k:Int)))=true then K (k+1) ps φ else (none,φ))
  else if kW E.cs t.k (k:Int)=true then K k ps φ else (none,φ)
def im (E:Env) (t:Tr) (lo n:Nat) (l:List fe):fe:=fun k K ps φ=>
  if φ.2=true then (none,φ)
  else if t.k=0 then ge l k K ps φ
  else if t.k=1 then fv l k K ps φ
  else if t.k=7 then ea (jh l) lo n t.mn t.mx t.lz (φ.1+1) 0 k K ps φ
  else if φ.1=0 then (none,(0,true))
  else ji E t lo l k K ps (φ.1 - 1,false)
def lk (k:Int):Bool:= !((decide (k=0) || decide (k=1)) || decide (k=7))
structure Pt where
  t:Tr
  pv:Sv
  ps:List Pt
  lo:Int
  hi:Int
instance:Inhabited Pt:=⟨⟨default,Sv.nil,[],0,0⟩⟩
theorem Pt.kid_lt {t k:Pt} (h:k ∈ t.ps):SizeOf.sizeOf k < SizeOf.sizeOf t:=by
  have h1:=List.sizeOf_lt_of_mem h;cases t
  simp at h1 ⊢;omega
theorem Pt.ind {P:Pt→Prop} (h:∀t,(∀k ∈ t.ps,P k)→P t) (t:Pt):P t:=h t fun k hk=>Pt.ind h k
termination_by SizeOf.sizeOf t
decreasing_by exact Pt.kid_lt hk
def Bj:Enc Pt:=⟨fun p=> [.int .i64 p.t.k,.string p.t.ch,.bool p.t.ng,p.t.rv.v,.int .i64 p.t.mn,.int .i64 p.t.mx,.bool p.t.lz,p.t.kv.v,p.pv.v,.int .i64 p.lo,.int .i64 p.hi],11,by decide,fun _=>rfl,fun x u hu=>by
  simp at hu;rcases hu with rfl | rfl | rfl | rfl | rfl | rfl | rfl | rfl | rfl | rfl | rfl <;> rfl⟩
def Pt.v (p:Pt):Value:= .agg #[.int .i64 p.t.k,.string p.t.ch,.bool p.t.ng,p.t.rv.v,.int .i64 p.t.mn,.int .i64 p.t.mx,.bool p.t.lz,p.t.kv.v,p.pv.v,.int .i64 p.lo,.int .i64 p.hi]
section
variable {β:Type}
mutual
def xS (g:Pt→List β→β):Pt→β
  | ⟨t, pv, ps, lo, hi⟩ => g ⟨t, pv, ps, lo, hi⟩ (wF g ps)
def wF (g:Pt→List β→β):List Pt→List β
  | [] => []
  | t :: ts => xS g t :: wF g ts
end
theorem BM (g:Pt→List β→β) (ts:List Pt):wF g ts=ts.map (xS g):=by
  induction ts with
  | nil => rw [wF]; rfl
  | cons t ts ih => rw [wF, ih]; rfl
theorem Gb (g:Pt→List β→β) (t:Pt):xS g t=g t (t.ps.map (xS g)):=by
  cases t;rw [xS,BM]
end
def bH (E:Env):Pt→fe:=xS fun p l=>im E p.t p.lo.toNat (p.hi - p.lo).toNat l
theorem mT (E:Env) (p:Pt):bH E p=im E p.t p.lo.toNat (p.hi - p.lo).toNat (p.ps.map (bH E)):=Gb _ p
def Gc (g:Nat):List (Nat × (Nat→fe))→List fe
  | [] => []
  | (n, r) :: l => r g :: Gc (g + n) l
def fk (t:Tr) (g:Nat):Nat:=if t.k=5 then g+1 else g
def grpN (t:Tr):Nat:=(cL t).toNat
def om (E:Env):Tr→Nat × (Nat→fe):=oi fun t l=>((if t.k=5 then 1 else 0)+(l.map (·.1)).sum,fun g=>im E t g ((if t.k=5 then 1 else 0)+(l.map (·.1)).sum) (Gc (fk t g) l))
def cM (E:Env) (t:Tr) (g:Nat):fe:=(om E t).2 g
def dy (E:Env):List Tr→Nat→List fe
  | [], _ => []
  | t :: ts, g => cM E t g :: dy E ts (g + grpN t)
theorem Dg (E:Env) (t:Tr):(om E t).1=grpN t:=by
  induction t using Tr.ind with
  | h t ih =>
    have h1:(om E t).1=(if t.k=5 then 1 else 0)+((t.kids.map (om E)).map (·.1)).sum:=congrArg Prod.fst (kN _ t);have h2:=mJ t;have h3:∀l:List Tr,(∀k ∈ l,(om E k).1=grpN k)→((((l.map (om E)).map (·.1)).sum:Nat):Int)=dH (l.map cL):=by
      intro l;induction l with
      | nil => intro _; rfl
      | cons k l ih2 =>
        intro hl;have e1:=ih2 fun x hx=>hl x (by simp [hx]);have e2:=hl k (by simp);have e3:=(iN k).1;rw [aB,aB,List.sum_cons,aB,bk,e2];unfold grpN;omega
    have h4:=h3 t.kids ih;rw [h1];unfold grpN;rw [h2];split <;> omega
theorem xT (E:Env):∀(l:List Tr) (g:Nat),Gc g (l.map (om E))=dy E l g
  | [], _ => rfl
  | t :: l, g => by
    rw [aB,dy];show (om E t).2 g::Gc (g+(om E t).1) (l.map (om E))=_;rw [Dg,xT E l];rfl
theorem eO (E:Env) (t:Tr) (g:Nat):cM E t g=im E t g (grpN t) (dy E t.kids (fk t g)):=by
  have h1:(om E t).2=fun g=>im E t g ((if t.k=5 then 1 else 0)+((t.kids.map (om E)).map (·.1)).sum) (Gc (fk t g) (t.kids.map (om E))):=congrArg Prod.snd (kN _ t);have h2:(om E t).1=(if t.k=5 then 1 else 0)+((t.kids.map (om E)).map (·.1)).sum:=congrArg Prod.fst (kN _ t);unfold cM;rw [h1];show im E t g _ _=_;rw [←h2,Dg,xT]
mutual
inductive Lay:Pt→Tr→Nat→Prop
  | mk {p : Pt} {t : Tr} {g : Nat} : er p.t = er t → p.lo = (g : Int) → p.hi = (g : Int) + cL t → LayL p.ps t.kids (fk t g) → Lay p t g
inductive LayL:List Pt→List Tr→Nat→Prop
  | nil {g : Nat} : LayL [] [] g
  | cons {p : Pt} {ps : List Pt} {t : Tr} {ts : List Tr} {g : Nat} : Lay p t g → LayL ps ts (g + grpN t) → LayL (p :: ps) (t :: ts) g
end
theorem pJ {a b:Tr} (h:er a=er b):a.k=b.k∧a.ch=b.ch∧a.ng=b.ng∧a.rows=b.rows∧a.mn=b.mn∧a.mx=b.mx∧a.lz=b.lz:=by
  rw [qS,qS] at h;injection h with h1 h2 h3 h4 h5 h6 h7 h8 h9 h10
  exact ⟨h1,h2,h3,h5,h6,h7,h8⟩
theorem Ee {f:Bool} {a b:Tr} (h:er a=er b) (x:ByteArray):kj f a x=kj f b x:=by
  obtain ⟨h1,h2,h3,h4,h5,h6,h7⟩:=pJ h;unfold kj;rw [h1,h2,h3,h4]
theorem Ay (E:Env) {a b:Tr} (h:er a=er b) (lo n:Nat) (l:List fe):im E a lo n l=im E b lo n l:=by
  obtain ⟨h1,h2,h3,h4,h5,h6,h7⟩:=pJ h;funext k K ps φ;unfold im ji;rw [h1,h5,h6,h7,Ee h]
theorem tk (E:Env) (t:Tr):∀(p:Pt) (g:Nat),Lay p t g→bH E p=cM E t g:=by
  induction t using Tr.ind with
  | h t ih =>
    intro p g h;cases h with
    | mk h1 h2 h3 h4 =>
      rw [mT,eO,Ay E h1];have e1:p.lo.toNat=g:=by omega
      have e2:(p.hi - p.lo).toNat=grpN t:=by unfold grpN;omega
      have e3:∀(ts:List Tr) (ps:List Pt) (g:Nat),(∀k ∈ ts,k ∈ t.kids)→LayL ps ts g→ps.map (bH E)=dy E ts g:=by
        intro ts;induction ts with
        | nil => intro ps g _ h; cases h; rfl
        | cons k ts ih2 =>
          intro ps g hm h;cases h with
          | cons h5 h6 => rw [aB, dy, ih k (hm k (by simp)) _ _ h5, ih2 _ _ (fun x hx => hm x (by simp [hx])) h6]
      rw [e1,e2,e3 _ _ _ (fun _ h=>h) h4]
theorem yM (E:Env) (t:Tr):∀(u:Tr) (g:Nat),er t=er u→cM E t g=cM E u g:=by
  induction t using Tr.ind with
  | h t ih =>
    intro u g h;rw [eO,eO,Ay E h];have e1:grpN t=grpN u:=by unfold grpN;rw [←mK t,←mK u,h]
    have e2:fk t g=fk u g:=by unfold fk;rw [(pJ h).1]
    have e3:t.kids.map er=u.kids.map er:=by rw [←oP,←oP,h]
    have e4:∀(ts us:List Tr) (g:Nat),(∀k ∈ ts,k ∈ t.kids)→ts.map er=us.map er→dy E ts g=dy E us g:=by
      intro ts;induction ts with
      | nil => intro us g _ h; cases us with
        | nil => rfl
        | cons => simp at h
      | cons k ts ih2 =>
        intro us g hm h;cases us with
        | nil => simp at h
        | cons v us =>
          simp only [aB,List.cons.injEq] at h;have e5:grpN k=grpN v:=by unfold grpN;rw [←mK k,←mK v,h.1]
          rw [dy,dy,ih k (hm k (by simp)) v g h.1,e5,ih2 us _ (fun x hx=>hm x (by simp [hx])) h.2]
    rw [e1,e2,e4 _ _ _ (fun _ h=>h) e3]
def KP (B:Nat) (K:cQ):Prop:=∀(to:Nat) (ps:Ps) (fu:Nat),fu < B→(K to ps (fu,false)).2.1≤fu
theorem KP.less {B B':Nat} {K:cQ} (h:KP B K) (hB:B'≤B):KP B' K:=fun to ps fu hf=>h to ps fu (by omega)
def RP (r:fe):Prop:=∀(k B:Nat) (K:cQ),KP B K→∀(ps:Ps) (fu:Nat) (ou:Bool),fu < B→(r k K ps (fu,ou)).2.1≤fu
theorem qo:∀(l:List fe),(∀r ∈ l,RP r)→∀(k B:Nat) (K:cQ),KP B K→∀(ps:Ps) (fu:Nat),fu < B→(ge l k K ps (fu,false)).2.1≤fu
  | [], _, k, B, K, hK, ps, fu, hf => hK k ps fu hf
  | r :: l, h, k, B, K, hK, ps, fu, hf => h r (by simp) k B (fun to ps φ => ge l to K ps φ) (fun to ps fu hf => qo l (fun x hx => h x (by simp [hx])) to B K hK ps fu hf) ps fu false hf
theorem rf:∀(l:List fe),(∀r ∈ l,RP r)→∀(k B:Nat) (K:cQ),KP B K→∀(ps:Ps) (fu:Nat) (ou:Bool),fu < B→(fv l k K ps (fu,ou)).2.1≤fu
  | [], _, k, B, K, hK, ps, fu, ou, hf => bz _
  | r :: l, h, k, B, K, hK, ps, fu, ou, hf => by
    have h1:=h r (by simp) k B K hK ps fu ou hf;rw [fv];split
    · exact h1
    · have h2:=rf l (fun x hx=>h x (by simp [hx])) k B K hK ps (r k K ps (fu,ou)).2.1 (r k K ps (fu,ou)).2.2 (by omega);exact bE h2 h1
theorem qp {B:Nat} {K:cQ} (hK:KP B K) {mn:Int} {lz:Bool} {times k:Nat} {ps:Ps} {fu:Nat} (hf:fu < B):(eD mn lz times k K ps (fu,false)).2.1≤fu:=by
  unfold eD;split
  · exact hK k ps fu hf
  · exact bz _
theorem Dh {B:Nat} {K:cQ} (hK:KP B K) {mn:Int} {lz:Bool} {times k:Nat} {ps:Ps} {fu:Nat} {ou:Bool} (hf:fu < B):(em mn lz times k K ps (fu,ou)).2.1≤fu:=by
  unfold em;split
  · rename_i h;cases ou with
    | true => simp at h
    | false => exact hK k ps fu hf
  · exact bz _
theorem wG {r:fe} (hr:RP r) {lo n:Nat} {mn mx:Int} {lz:Bool}:∀(g times k B:Nat) (K:cQ),KP B K→∀(ps:Ps) (fu:Nat),fu < B→(ea r lo n mn mx lz g times k K ps (fu,false)).2.1≤fu
  | 0, times, k, B, K, hK, ps, fu, hf => bz _
  | g + 1, times, k, B, K, hK, ps, fu, hf => by
    have h1:=qp hK (mn:=mn) (lz:=lz) (times:=times) (k:=k) (ps:=ps) hf;have hk:KP B (eB r lo n mn mx lz g times k K):=fun to ps' fu' hf'=>by
      unfold eB;split
      · exact wG hr g (times+1) to B K hK ps' fu' hf'
      · exact bz _
    have h2:(fV r lo n mn mx lz g times k K ps (eD mn lz times k K ps (fu,false)).2).2.1≤(eD mn lz times k K ps (fu,false)).2.1:=hr k B _ hk (noneR ps lo n) (eD mn lz times k K ps (fu,false)).2.1 (eD mn lz times k K ps (fu,false)).2.2 (by omega);rw [nN];split
    · exact h1
    · split
      · split
        · exact bE h2 h1
        · have h3:=Dh hK (mn:=mn) (lz:=lz) (times:=times) (k:=k) (ps:=ps) (fu:=(fV r lo n mn mx lz g times k K ps (eD mn lz times k K ps (fu,false)).2).2.1) (ou:=(fV r lo n mn mx lz g times k K ps (eD mn lz times k K ps (fu,false)).2).2.2) (by omega);exact bE h3 (bE h2 h1)
      · have h3:=Dh hK (mn:=mn) (lz:=lz) (times:=times) (k:=k) (ps:=ps) (fu:=(eD mn lz times k K ps (fu,false)).2.1) (ou:=(eD mn lz times k K ps (fu,false)).2.2) (by omega);exact bE h3 h1
theorem lF {r:fe} (hr:RP r) {lo n:Nat} {mn mx:Int} {lz:Bool} {g times k B:Nat} {K:cQ} (hK:KP B K):KP B (eB r lo n mn mx lz g times k K):=fun to ps' fu' hf'=>by
  unfold eB;split
  · exact wG hr g (times+1) to B K hK ps' fu' hf'
  · exact bz _
theorem yN {l:List fe} (h:∀r ∈ l,RP r):RP (jh l):=by
  cases l with
  | nil => exact fun k B K hK ps fu ou hf => bz _
  | cons r l => exact h r (by simp)
theorem Az {E:Env} {lo k B:Nat} {K:cQ} (hK:KP B K):KP B (ia E lo k K):=fun to ps fu hf=>hK to _ fu hf
theorem JN {l:List fe} (h:∀r ∈ l,RP r) {B:Nat} {K:cQ} (hK:KP B K):KP B (fun to ps φ=>ge l to K ps φ):=fun to ps fu hf=>qo l h to B K hK ps fu hf
theorem oT {E:Env} {t:Tr} {lo:Nat} {l:List fe} (h:∀r ∈ l,RP r) {k B:Nat} {K:cQ} (hK:KP B K) {ps:Ps} {fu:Nat} (hf:fu < B):(ji E t lo l k K ps (fu,false)).2.1≤fu:=by
  unfold ji;split
  · exact yN h k B _ (Az hK) ps fu false hf
  · split
    · exact yN h k B K hK ps fu false hf
    · split
      · split
        · exact hK _ ps fu hf
        · exact bz _
      · split
        · exact hK _ ps fu hf
        · exact bz _
theorem qq {E:Env} {t:Tr} {lo n:Nat} {l:List fe} (h:∀r ∈ l,RP r):RP (im E t lo n l):=fun k B K hK ps fu ou hf=>by
  unfold im;split
  · exact bz _
  · rename_i ho;have ho:ou=false:=by simpa using ho
    subst ho;split
    · exact qo l h k B K hK ps fu hf
    · split
      · exact rf l h k B K hK ps fu false hf
      · split
        · exact wG (yN h) _ _ k B K hK ps fu hf
        · split
          · exact dC _
          · have:=oT (E:=E) (t:=t) (lo:=lo) h hK (k:=k) (ps:=ps) (fu:=fu - 1) (by omega);exact bE this (by show fu - 1≤fu;omega)
theorem rh (E:Env) (p:Pt):RP (bH E p):=by
  induction p using Pt.ind with
  | h p ih =>
    rw [mT];exact qq fun r hr=>by
      obtain ⟨q,hq,rfl⟩:=List.mem_map.1 hr;exact ih q hq
theorem Di (E:Env) (l:List Pt):∀r ∈ l.map (bH E),RP r:=fun r hr=>by
  obtain ⟨q,hq,rfl⟩:=List.mem_map.1 hr;exact rh E q
theorem Dj (E:Env) (p:Pt) (hb:lk p.t.k=true) {k B:Nat} {K:cQ} (hK:KP B K) {ps:Ps} {fu:Nat} {ou:Bool} (hf:fu < B+1):(bH E p k K ps (fu,ou)).2.1≤fu:=by
  rw [mT];have hk:¬p.t.k=0∧¬p.t.k=1∧¬p.t.k=7:=by
    simp only [lk,ar,aG,ah] at hb;exact ⟨hb.1.1,hb.1.2,hb.2⟩
  unfold im;rw [if_neg hk.1,if_neg hk.2.1,if_neg hk.2.2];split
  · exact bz _
  · split
    · exact dC _
    · rename_i h0;have h0:¬fu=0:=h0;have:=oT (E:=E) (t:=p.t) (lo:=p.lo.toNat) (Di E p.ps) hK (k:=k) (ps:=ps) (fu:=fu - 1) (by omega);exact bE this (by show fu - 1≤fu;omega)
theorem Dk {l:List fe} (h:l.length=0) (k:Nat) (K:cQ) (ps:Ps) (φ:Fl):ge l k K ps φ=K k ps φ:=by
  rw [cg h];rfl
theorem AA {E:Env} {l:List Pt} (h:¬l.length=0) (k:Nat) (K:cQ) (ps:Ps) (φ:Fl):ge (l.map (bH E)) k K ps φ=bH E (nth l 0) k (fun to ps φ=>ge ((l.drop 1).map (bH E)) to K ps φ) ps φ:=by
  cases l with
  | nil => exact absurd rfl h
  | cons q l => rfl
theorem wH {E:Env} {l:List Pt} (h:l.length=1):jh (l.map (bH E))=bH E (nth l 0):=by
  cases l with
  | nil => simp at h
  | cons q l => rfl
theorem Gd {E:Env} {p:Pt} {k:Nat} {K:cQ} {ps:Ps} {fu:Nat}:bH E p k K ps (fu,true)=(none,(fu,true)):=by
  rw [mT];unfold im;rw [if_pos rfl]
theorem Ge {E:Env} {p:Pt} {k:Nat} {K:cQ} {ps:Ps} {fu:Nat} (h:p.t.k=0):bH E p k K ps (fu,false)=ge (p.ps.map (bH E)) k K ps (fu,false):=by
  rw [mT];unfold im;rw [if_neg (by simp),if_pos h]
theorem AB {E:Env} {p:Pt} {k:Nat} {K:cQ} {ps:Ps} {fu:Nat} (h:p.t.k=1):bH E p k K ps (fu,false)=fv (p.ps.map (bH E)) k K ps (fu,false):=by
  rw [mT];unfold im;rw [if_neg (by simp),if_neg (by omega),if_pos h]
theorem Gf {E:Env} {p:Pt} {k:Nat} {K:cQ} {ps:Ps} {fu:Nat} (h:p.t.k=7) (hl:p.ps.length=1):bH E p k K ps (fu,false)=ea (bH E (nth p.ps 0)) p.lo.toNat (p.hi - p.lo).toNat p.t.mn p.t.mx p.t.lz (fu+1) 0 k K ps (fu,false):=by
  rw [mT];unfold im;rw [if_neg (by simp),if_neg (by omega),if_neg (by omega),if_pos h,wH hl]
theorem Ef {E:Env} {p:Pt} {k:Nat} {K:cQ} {ps:Ps} {fu:Nat} (h0:¬p.t.k=0) (h1:¬p.t.k=1) (h7:¬p.t.k=7) (hf:fu=0):bH E p k K ps (fu,false)=(none,(fu,true)):=by
  subst hf;rw [mT];unfold im;rw [if_neg (by simp),if_neg h0,if_neg h1,if_neg h7,if_pos rfl]
theorem ju {E:Env} {p:Pt} {k:Nat} {K:cQ} {ps:Ps} {fu:Nat} (h0:¬p.t.k=0) (h1:¬p.t.k=1) (h7:¬p.t.k=7) (hf:¬fu=0):bH E p k K ps (fu,false)=ji E p.t p.lo.toNat (p.ps.map (bH E)) k K ps (fu - 1,false):=by
  rw [mT];unfold im;rw [if_neg (by simp),if_neg h0,if_neg h1,if_neg h7,if_neg hf]
theorem BN {E:Env} {p:Pt} {k:Nat} {K:cQ} {ps:Ps} {φ:Fl} (h:p.t.k=5) (hl:p.ps.length=1):ji E p.t p.lo.toNat (p.ps.map (bH E)) k K ps φ=bH E (nth p.ps 0) k (ia E p.lo.toNat k K) ps φ:=by
  unfold ji;rw [if_pos h,wH hl]
theorem Eg {E:Env} {p:Pt} {k:Nat} {K:cQ} {ps:Ps} {φ:Fl} (h:p.t.k=6) (hl:p.ps.length=1):ji E p.t p.lo.toNat (p.ps.map (bH E)) k K ps φ=bH E (nth p.ps 0) k K ps φ:=by
  unfold ji;rw [if_neg (by omega),if_pos h,wH hl]
theorem lw {E:Env} {t:Tr} {lo:Nat} {l:List fe} {k:Nat} {K:cQ} {ps:Ps} {φ:Fl} (h:t.k=2∨t.k=3∨t.k=4):ji E t lo l k K ps φ=if (decide ((k:Int) < (E.cs.length:Int))&&kj E.fold t (nth E.cs (k:Int)))=true then K (k+1) ps φ else (none,φ):=by
  unfold ji;rw [if_neg (by omega),if_neg (by omega),if_pos h]
theorem wI {E:Env} {t:Tr} {lo:Nat} {l:List fe} {k:Nat} {K:cQ} {ps:Ps} {φ:Fl} (h5:¬t.k=5) (h6:¬t.k=6) (h:¬(t.k=2∨t.k=3∨t.k=4)):ji E t lo l k K ps φ=if kW E.cs t.k (k:Int)=true then K k ps φ else (none,φ):=by
  unfold ji;rw [if_neg h5,if_neg h6,if_neg h]
theorem JO {l:List fe} {i k:Nat} {K:cQ} {ps:Ps} {φ:Fl} (hi:i < l.length) (h:((l[i]'hi) k K ps φ).1.isSome=false):fv (l.drop i) k K ps φ=fv (l.drop (i+1)) k K ps ((l[i]'hi) k K ps φ).2:=by
  rw [fo hi,fv,if_neg (by rw [h];decide)]
theorem Dl {E:Env} {l:List Pt} {i:Nat} (hi:i < (l.map (bH E)).length):(l.map (bH E))[i]'hi=bH E (nth l (i:Int)):=by
  have h1:i < l.length:=by simpa using hi
  rw [pu,jO];simp [List.getD,cd h1]
theorem Gg {E:Env} {l:List Pt} {i k:Nat} {K:cQ} {ps:Ps} {φ:Fl} (hi:i < l.length) (h:(bH E (nth l (i:Int)) k K ps φ).1.isSome=false):fv ((l.map (bH E)).drop i) k K ps φ=fv ((l.map (bH E)).drop (i+1)) k K ps (bH E (nth l (i:Int)) k K ps φ).2:=by
  have hi2:i < (l.map (bH E)).length:=by simpa using hi
  rw [←Dl hi2] at h ⊢;exact JO hi2 h
theorem HW {E:Env} {l:List Pt} {i k:Nat} {K:cQ} {ps:Ps} {φ:Fl} (hi:i < l.length) (h:(bH E (nth l (i:Int)) k K ps φ).1.isSome=true):fv ((l.map (bH E)).drop i) k K ps φ=bH E (nth l (i:Int)) k K ps φ:=by
  have hi2:i < (l.map (bH E)).length:=by simpa using hi
  rw [←Dl hi2] at h ⊢;rw [fo hi2,fv,if_pos h]
theorem HX {l:List fe} {i k:Nat} {K:cQ} {ps:Ps} {φ:Fl} (hi:l.length≤i):fv (l.drop i) k K ps φ=(none,φ):=by
  rw [dX hi];rfl
theorem Gh {ps:Ps} {i:Nat} {x:Int × Int}:(ps.set i x).set i (nth ps (i:Int))=ps:=by
  rw [List.set_set,jO];by_cases h:i < ps.length
  · simp [List.getD,cd h]
  · rw [List.set_eq_of_length_le (by omega)]
theorem xU {ps:Ps} {lo hi:Nat} (h1:lo≤hi) (h2:hi≤ps.length):(noneR ps lo (hi - lo)).take lo++(ps.drop lo).take (hi - lo)++(noneR ps lo (hi - lo)).drop hi=ps:=by
  have e1:(ps.take lo).length=lo:=by simp;omega
  have e2:(noneR ps lo (hi - lo)).take lo=ps.take lo:=by
    unfold noneR;rw [dq,ke,e1,mb,List.take_zero,eG,bw (by omega)]
  have e3:(noneR ps lo (hi - lo)).drop hi=ps.drop hi:=by
    unfold noneR;have e4:(ps.take lo++List.replicate (hi - lo) ((-1:Int),(-1:Int))).length=hi:=by simp;omega
    rw [mE,e4,mb,nU,dX (by omega),eN,show lo+(hi - lo)=hi by omega]
  rw [e2,e3,dq];have e5:(ps.drop lo).take (hi - lo)++ps.drop hi=ps.drop lo:=by
    have:ps.drop hi=(ps.drop lo).drop (hi - lo):=by rw [iQ];congr 1;omega
    rw [this,dP]
  rw [e5,dP]
theorem BO {r:fe} {lo n:Nat} {mn mx:Int} {lz:Bool} {g times k:Nat} {K:cQ} {ps:Ps} {φ:Fl} (h:(decide (mn≤(times:Int))&&lz)=true) (hs:(K k ps φ).1.isSome=true):ea r lo n mn mx lz (g+1) times k K ps φ=K k ps φ:=by
  have e:eD mn lz times k K ps φ=K k ps φ:=by unfold eD;rw [if_pos h]
  rw [nN,e,if_pos hs]
def dW (r:fe) (lo n:Nat) (mn mx:Int) (lz:Bool) (g times k:Nat) (K:cQ) (ps:Ps) (φ:Fl):Rs:=
  if (decide (mx < 0) || decide ((times:Int) < mx))=true then
    if (fV r lo n mn mx lz g times k K ps φ).1.isSome=true then fV r lo n mn mx lz g times k K ps φ
    else em mn lz times k K ps (fV r lo n mn mx lz g times k K ps φ).2
  else em mn lz times k K ps φ
theorem nf {r:fe} {lo n:Nat} {mn mx:Int} {lz:Bool} {g times k:Nat} {K:cQ} {ps:Ps} {φ:Fl} (h:(decide (mn≤(times:Int))&&lz)=true) (hs:(K k ps φ).1.isSome=false):ea r lo n mn mx lz (g+1) times k K ps φ=dW r lo n mn mx lz g times k K ps (K k ps φ).2:=by
  have e:eD mn lz times k K ps φ=K k ps φ:=by unfold eD;rw [if_pos h]
  rw [nN,e,if_neg (by rw [hs];decide)];rfl
theorem nh {r:fe} {lo n:Nat} {mn mx:Int} {lz:Bool} {g times k:Nat} {K:cQ} {ps:Ps} {φ:Fl} (h:(decide (mn≤(times:Int))&&lz)=false):ea r lo n mn mx lz (g+1) times k K ps φ=dW r lo n mn mx lz g times k K ps φ:=by
  have e:eD mn lz times k K ps φ=(none,φ):=by unfold eD;rw [if_neg (by rw [h];decide)]
  rw [nN,e,if_neg (by simp)];rfl
theorem AC {r:fe} {lo n:Nat} {mn mx:Int} {lz:Bool} {g times k:Nat} {K:cQ} {ps:Ps} {φ:Fl} (h:(decide (mx < 0) || decide ((times:Int) < mx))=true) (hs:(fV r lo n mn mx lz g times k K ps φ).1.isSome=true):dW r lo n mn mx lz g times k K ps φ=fV r lo n mn mx lz g times k K ps φ:=by
  unfold dW;rw [if_pos h,if_pos hs]
theorem rN {r:fe} {lo n:Nat} {mn mx:Int} {lz:Bool} {g times k:Nat} {K:cQ} {ps:Ps} {φ:Fl} (h:(decide (mx < 0) || decide ((times:Int) < mx))=true) (hs:(fV r lo n mn mx lz g times k K ps φ).1.isSome=false):dW r lo n mn mx lz g times k K ps φ=em mn lz times k K ps (fV r lo n mn mx lz g times k K ps φ).2:=by
  unfold dW;rw [if_pos h,if_neg (by rw [hs];decide)]
theorem vy {r:fe} {lo n:Nat} {mn mx:Int} {lz:Bool} {g times k:Nat} {K:cQ} {ps:Ps} {φ:Fl} (h:(decide (mx < 0) || decide ((times:Int) < mx))=false):dW r lo n mn mx lz g times k K ps φ=em mn lz times k K ps φ:=by
  unfold dW;rw [if_neg (by rw [h];decide)]
theorem qr {mn:Int} {lz:Bool} {times k:Nat} {K:cQ} {ps:Ps} {fu:Nat} {ou:Bool} (h:((decide (mn≤(times:Int))&& !lz)&& !ou)=true):em mn lz times k K ps (fu,ou)=K k ps (fu,false)∧ou=false:=by
  have ho:ou=false:=by simp at h;exact h.2
  subst ho;unfold em;rw [if_pos h];exact ⟨rfl,rfl⟩
theorem vz {mn:Int} {lz:Bool} {times k:Nat} {K:cQ} {ps:Ps} {fu:Nat} {ou:Bool} (h:((decide (mn≤(times:Int))&& !lz)&& !ou)=false):em mn lz times k K ps (fu,ou)=(none,(fu,ou)):=by
  unfold em;rw [if_neg (by rw [show (fu,ou).2=ou from rfl,h];decide)]
end
section
open Go.RowKit Srt
def zT:ZP:=⟨fun _ _=>True,fun _ _ _=>trivial⟩
theorem BP {a b:ByteArray} (h:gM a b=true):a=b:=sM.1 h
theorem JP {cs:List ByteArray} {i:Nat} {c:ByteArray} (hc:gM (⟨#[]⟩:ByteArray) c=false):gj cs i c=gM (de cs i) c:=by
  unfold gj de;by_cases h:(cs.length:Int)≤(i:Int)
  · rw [decide_eq_true h,if_pos h,hc];rfl
  · rw [decide_eq_false h,if_neg h];simp
def nxN (cs:List ByteArray) (i:Nat):Nat:=if gM (de cs i) ⟨#[]⟩=true then i else i+1
theorem wJ {cs:List ByteArray} {i:Nat} (h:gM (de cs i) (⟨#[]⟩:ByteArray)=false):i < cs.length∧nxN cs i=i+1:=⟨sD h,if_neg (by rw [h];decide)⟩
theorem Dm {cs:List ByteArray} {i:Nat} (hi:i≤cs.length):i≤nxN cs i∧nxN cs i≤cs.length∧nxN cs i≤i+1:=by
  cases h:gM (de cs i) (⟨#[]⟩:ByteArray) with
  | true => unfold nxN; rw [if_pos h]; omega
  | false => have := wJ h; omega
theorem jR {cs:List ByteArray} {i:Nat} {c:ByteArray} (h:gM (de cs i) c=true) (hc:gM c (⟨#[]⟩:ByteArray)=false):i < cs.length∧nxN cs i=i+1:=wJ (by rw [BP h];exact hc)
theorem HY {cs:List ByteArray} {i:Nat} (h:((de cs i).size:Int)=1):i < cs.length∧nxN cs i=i+1:=wJ (by
  cases hz:gM (de cs i) (⟨#[]⟩:ByteArray) with
  | false => rfl
  | true => rw [BP hz] at h; exact absurd h (by decide))
def nx (c:ByteArray):ByteArray × Bool:=
  if gM c ⟨#[]⟩=true then (⟨#[]⟩,false) else if gM c ⟨#[110]⟩=true then (⟨#[10]⟩,true) else if gM c ⟨#[114]⟩=true then (⟨#[13]⟩,true) else if gM c ⟨#[116]⟩=true then (⟨#[9]⟩,true)
  else if gM c ⟨#[102]⟩=true then (⟨#[12]⟩,true) else if gM c ⟨#[118]⟩=true then (⟨#[11]⟩,true)
  else (c,gM c ⟨#[95]⟩ || !uU c)
theorem Jb {c:ByteArray} (h:(nx c).2=true):gM c (⟨#[]⟩:ByteArray)=false:=by
  cases hz:gM c (⟨#[]⟩:ByteArray) with
  | false => rfl
  | true => unfold nx at h; rw [if_pos hz] at h; cases h
theorem AD (c:ByteArray):(nx c).1=c∨((nx c).1.size≤1∧((nx c).2=true→fY (nx c).1=true)):=by
  unfold nx;split
  · exact .inr ⟨by decide,fun h=>by cases h⟩
  · split
    · exact .inr ⟨by decide,fun _=>by decide+kernel⟩
    · split
      · exact .inr ⟨by decide,fun _=>by decide+kernel⟩
      · split
        · exact .inr ⟨by decide,fun _=>by decide+kernel⟩
        · split
          · exact .inr ⟨by decide,fun _=>by decide+kernel⟩
          · split
            · exact .inr ⟨by decide,fun _=>by decide+kernel⟩
            · exact .inl rfl
theorem vA {c:ByteArray} (h:c.size≤256):(nx c).1.size≤256:=by
  rcases AD c with e | e
  · rw [e];exact h
  · omega
theorem xV {c:ByteArray} (h:(nx c).2=true) (hp:fY c=true):fY (nx c).1=true:=by
  rcases AD c with e | e
  · rw [e];exact hp
  · exact e.2 h
def zt (cs:List ByteArray):Prop:=re cs∧∀c ∈ cs,fY c=true
theorem zt.pr {cs:List ByteArray} (h:zt cs) {i:Nat} (hi:i < cs.length):fY (de cs i)=true:=by rw [De hi];exact h.2 _ (bN (by omega) (by omega))
structure RxR (ty:Nat) (v:Value) (cv:Sv) (cs:List ByteArray) (i:Nat) (d:Int) (w:World):Prop where
  box:cH ty [cv.v,.int .i64 ((i:Nat):Int),.int .i64 d] (bY v) v w
  sl:SlT gR w cv.v cs
  ne:cs≠ []→¬bY v (ee cv.v).block
theorem oD {ty:Nat} {v:Value} {cv:Sv} {cs:List ByteArray} {i:Nat} {d:Int} {w:World} {T Z:bj} (hb:cH ty [cv.v,.int .i64 ((i:Nat):Int),.int .i64 d] T v w) (hz:(fb gR Al cv.v cs).P Z w) (hd:∀g,T g→¬Z g):RxR ty v cv cs i d w:=
  ⟨hb.foot,hz.1,fun hn hg=>hd _ (hb.own hg) (hz.2 hn).1⟩
theorem RxR.inz {ty:Nat} {v:Value} {cv:Sv} {cs:List ByteArray} {i:Nat} {d:Int} {w:World} {n:Nat} {a:Act} {τ0:Nat→bj} (h:RxR ty v cv cs i d w) (st:St (fun k=>bY v k∨w.heap.size≤k) w n a w τ0):Fz (fb gR Al cv.v cs) τ0 w:=
  ⟨h.sl,fun hn=>⟨⟨h.sl.lt hn,fun s hs=>by
    rcases (st.bnd s _ hs).1 with h1 | h1
    · exact h.ne hn h1
    · have:=h.sl.lt hn;omega⟩,av⟩⟩
theorem qt {ty:Nat} {v x y:Value} {i:Nat} {T:bj} {w:World} (h:cH ty [x,.int .i64 ((i:Nat):Int),y] T v w):Aw v w=i:=by
  unfold Aw;rw [h.cell (j:=1) rfl];simp
theorem RxR.pv {ty:Nat} {v:Value} {cv:Sv} {cs:List ByteArray} {i:Nat} {d:Int} {w:World} (h:RxR ty v cv cs i d w):(Value.pointer (some ((ee v).add 0)))=v:=h.box.ptr.symm
def wK (cs:List ByteArray) (i:Nat) (n:Int) (ok:Bool) (j:Nat):Prop:=(i≤j∧j≤cs.length)∧0≤n∧(ok=true→n≤255)
def Dn (cs:List ByteArray) (i:Nat) (lo hi:Int) (ok:Bool) (j:Nat):Prop:=(i≤j∧j≤cs.length)∧(ok=true→(0≤lo∧lo≤255)∧(hi= -1∨(lo≤hi∧hi≤255)))
def BQ (cs:List ByteArray) (i:Nat) (s:ByteArray) (rows:List Rw) (er:Int) (j:Nat):Prop:=(i≤j∧j≤cs.length)∧s.size≤256∧jt rows∧rows.length≤4∧(er=0→i < j)
theorem HZ {k n:Int} (h:(decide ((0:Int) < k)&&decide (n≤255))=true):n≤255:=by simp at h;omega
theorem Gi {ng:Bool} {rows:List Rw} {n d:Int} (hr:jt rows) (hm:pb rows=true) (hd:d≤16) (hn:1≤n) (hl:(rows.length:Int)≤4 * n):fU (nc ng Sv.nil rows) n d:=by
  obtain ⟨c1,c2,c3,c4⟩:=BI ng rows hm;have c5:=yG hr;exact ⟨⟨by omega,by omega,by omega,c1,by show (4:Int)≠0∧(4:Int)≠1;decide⟩,.inr (.inr (.inl rfl))⟩
theorem JQ {ng:Bool} {rows:List Rw} {n d:Int} (hr:jt rows) (hd:d≤16) (hn:1≤n) (hl:(rows.length:Int)≤4 * n):fU (nc ng Sv.nil (je rows)) n d:=
  Gi (wz hr) (tf rows) hd hn (by have:=xP rows;omega)
theorem AE {ng:Bool} {b n d:Int} (hd:d≤16) (hn:1≤n):fU (nc ng Sv.nil (gF b)) n d:=
  Gi (qj b) (xQ b) hd hn (by have:=rM b;omega)
theorem JR {n d:Int} (hd:d≤16) (hn:1≤n):fU (dQ 3 ⟨#[]⟩ false 0 0 false) n d:=⟨kR hn hd (.inr ⟨.inl rfl,rfl⟩),.inr (.inl rfl)⟩
theorem BR {c:ByteArray} {n d:Int} (hd:d≤16) (hn:1≤n) (hp:fY c=true) (hs:c.size≤256):fU (dQ 2 c false 0 0 false) n d:=⟨kR hn hd (.inl ⟨rfl,hp,hs⟩),.inl rfl⟩
theorem rO {k n d:Int} (hd:d≤16) (hn:1≤n) (hk:k=8∨k=9∨k=10∨k=11):TermOk (dQ k ⟨#[]⟩ false 0 0 false) n d:=kR hn hd (.inr ⟨.inr hk,rfl⟩)
theorem Gj {k:Int} {x:Tr} {m n d:Int} (hk:k=5∨k=6) (hx:PatOk x m (d+1)) (h0:0≤m) (hmn:m+2≤n):fU (eF k ⟨#[]⟩ false 0 0 false Sv.nil [x]) n d:=by
  obtain ⟨a,b,c⟩:=xR k 0 0 false x;have h1:=hx.wt;have h2:=hx.parts;have h3:=hx.deep;have h4:=(qY x).1;rw [if_pos hk] at b;refine ⟨⟨by omega,by omega,by omega,BJ hk hx.all,?_⟩,?_⟩
  · show k≠0∧k≠1;omega
  · show k=2∨k=3∨k=4∨k=5∨k=6;omega
theorem yO {x:Tr} {mn mx:Int} {lz:Bool} {n m d:Int} (hd:d≤16) (hx:fU x n d) (hn:1≤n) (hm:n+1≤m) (h0:0≤mn∧mn≤255) (h1:mx= -1∨(mn≤mx∧mx≤255)):TermOk (eF 7 ⟨#[]⟩ false mn mx lz Sv.nil [x]) m d:=by
  obtain ⟨a,b,c⟩:=xR 7 mn mx lz x;have h2:=hx.1.wt;have h3:=hx.1.parts;have h4:=hx.1.deep;rw [if_neg (by decide),Int.add_zero] at b;refine ⟨by omega,by omega,by omega,FO hx.1.all hx.2 h0 h1,?_⟩;show (7:Int)≠0∧(7:Int)≠1;decide
theorem TermOk.less {x:Tr} {n m d:Int} (h:TermOk x n d) (hm:n≤m):TermOk x m d:=⟨by have:=h.wt;omega,by have:=h.parts;omega,h.deep,h.all,h.k⟩
theorem fU.less {x:Tr} {n m d:Int} (h:fU x n d) (hm:n≤m):fU x m d:=⟨h.1.less hm,h.2⟩
end
section
open Go.RowKit
open Srt
set_option maxRecDepth 100000 in
theorem Ia (v:Value) (xs:List (ByteArray × ByteArray)) (w:World) (hS:SlT fx w v xs) (hz:wd xs) (hbig:xs.length≤1000000000):Calls Tryz.prog 138 #[v] w (fun e w'=>∃v',e= .returned v'∧Ext aW w w'∧su fx 89 w w' v' (je xs)):=by
 refine enter (n:=64) Tryz.func138 rfl rfl (aw rfl) ?_;intro a0 τ0 ha st0;have e0:=oz ha;have hle:=hS.le;refine wp_seq (eK st0 [] ⟨aq fun c=>ax rfl rfl,av⟩ fun ac ag ae ab aa=> ?_);replace e0:=aa.k1 e0;have e2:=aa.V 0;refine wp_seq (eK ab [] ⟨aq fun c=>ax rfl rfl,av⟩ fun ac ag ae ab aa=> ?_);obtain ⟨e0,e2⟩:=aa.k2 e0 e2;have e3:=aa.V 0;refine wp_seq ?_;refine wp_seq (sf [0,1,0] ab [] ⟨ao e0,aq fun c=>dk rfl br (c.q 0) hS.sl,aq fun c=>aS rfl rfl,av⟩ fun ac ag ae ab aa=> ?_);obtain ⟨e2,e3⟩:=aa.k2 e2 e3;have e10:=aa.V 0;have e11:=aa.V 1;have e12:=aa.V 2;refine wp_block ?_;refine wp_loop (fun a_ w_=>∃(k:Nat) (u:Value) (τ:Nat→bj),(k≤xs.length)∧
      St (Nw w) w 64 a_ w_ τ∧
      be a_ 3=u∧
      be a_ 12=(aj (k:Int))∧
      be a_ 2=(.slice none 0 0)∧
      be a_ 10=v∧
      be a_ 11=(aj (xs.length:Int))∧
      ep fx 89 ((xs.take k).filter iU) (τ 0) u w_) (fun a_ _=>xs.length - (intOf (be a_ 12)).toNat) ?_ ?_
 · refine ⟨0,(.slice none 0 0),ae,?_,ab,e3,(e12.trans (bB (by omega))),e2,e10,e11,?_⟩
   · omega
   · exact ep.nil _ _ _ _
 intro a4 w4 hI;obtain ⟨k,u,τ4,q0,st4,e3,e12,e2,e10,e11,r0⟩:=hI;have hfl:=DP (f:=iU) (xs:=xs) (k:=k);have hzk:=zU hz (k:=k);have m12:=e12;refine wp_seq (eK st4 [jo r0] ⟨aq fun c=>cW rfl (c.p e12) (c.p e11),av⟩ fun ac ag ae ab aa=> ?_);obtain ⟨e2,e3,e10,e11,e12⟩:=aa.k5 e2 e3 e10 e11 e12;have e13:=aa.V 0;replace r0:=aa.O 0;refine wp_seq ?_;refine wp_cond_split e13 (fun hc1=> ?_) (fun hc1=> ?_)
 · try simp only [ai] at hc1
   refine wp_skip ?_;refine wp_seq ?_;refine wp_block ?_;refine wp_seq (rg [_,_,box _ _ 2 5 [(bc (⟨#[]⟩:ByteArray)),(bc (⟨#[]⟩:ByteArray))],_] [0,1,0,7] ab [jo r0] ⟨aq fun c=>aX rfl br bq (c.p e10) hS.sl (c.p e12) (by omega) (by omega),aq fun c=>cq (vs:=[(bc ((nth xs (k:Int)).1)),(bc ((nth xs (k:Int)).2))]) rfl dF bq (c.q 0) rfl (fun _ _ hj=>(hS.at (ab.ext.trans c.J.ext)).elem (bF (i:=(k:Int)) (by omega) (by omega)) hj),bO rfl rfl rfl rfl dR rfl,ey (cx:=[(bc ((nth xs (k:Int)).1)),(bc ((nth xs (k:Int)).2))]) (off:=0) rfl bq fun c=>⟨c.rb 2 rfl,(c.rb 2 rfl).ptr,(c.q 1)⟩,av⟩ fun ac ag ae ab aa=> ?_);obtain ⟨b6x5,e5⟩:=gx ac 5;obtain ⟨e2,e3,e10,e11,e12,e13⟩:=aa.k6 e2 e3 e10 e11 e12 e13;replace r0:=aa.O 0;have r2:=aa.rb 3 e5 rfl;refine wp_seq (eA ab [jo r0,jb r2] ⟨aq fun c=>dY rfl dF bq ((c.p e5).trans r2.ptr) (c.B 2),eE fun c=>⟨_,_,(bK rfl rfl Tryz.call123 (c.q 0)),IY (nth xs (k:Int)) _ (by omega) (by omega)⟩,av⟩ fun ac ag ae ab aa=> ?_);obtain ⟨e2,e3,e5,e10,e11,e12,e13⟩:=aa.k7 e2 e3 e5 e10 e11 e12 e13;have e17:=aa.V 1;replace r0:=aa.O 0;replace r2:=aa.B 2;refine wp_cond_split e17 (fun hc2=> ?_) (fun hc2=> ?_)
   · skip;refine rg [_,_,own fx 89 _ 3 20 ([(nth xs (k:Int))]),own _ _ _ 0 21 _,own _ _ _ 0 3 _] [0,0,2,7,15] ab [jo r0,jb r2] ⟨ao e3,aq fun c=>dY rfl dF bq ((c.p e5).trans r2.ptr) (c.B 2),dt (cells:=#[(bc ((nth xs (k:Int)).1)),(bc ((nth xs (k:Int)).2))]) rfl rfl rfl rfl br bq dR rfl (by decide) (by decide) (fun _ _ _ _ c=>gB (c.n 1 rfl) (by kernel_rfl)) rfl,fF (t0:=3) rfl rfl rfl rfl br (i:=Tryz.t89) rfl rfl rfl rfl (by simp only [maxLen];(try simp);omega) (by show _ * 32≤_;(try simp);omega) (fun _ _ _ _ c=>⟨c.ip 0 rfl e3,c.sm (c.n 0 rfl) e3,⟨_,rfl,(c.ro 2 rfl).1.sl⟩⟩),eP (t0:=21) rfl rfl rfl rfl rfl (.inr rfl) (fun _ _ _ _ c=>⟨c.ro 3 rfl,rfl⟩),av⟩ fun ac ag ae ab aa=> ?_;obtain ⟨b8x20,e20⟩:=gx ac 20;obtain ⟨b8x3,e3⟩:=gx ac 3;obtain ⟨e2,e5,e10,e11,e12,e13,e17⟩:=aa.k7 e2 e5 e10 e11 e12 e13 e17;replace r0:=aa.ro 4 e3 rfl;replace r2:=aa.B 2;have r3:=aa.ro 2 e20 rfl;show _;refine eA ab [jo r0,jb r2,jo r3] ⟨aq fun c=>cN rfl (c.p e12) rfl (by omega),bD 0,av⟩ fun ac ag ae ab aa=> ?_;obtain ⟨e2,e3,e5,e10,e11,e13,e17⟩:=aa.k7 e2 e3 e5 e10 e11 e13 e17;have e12:=aa.V 1;replace r0:=aa.O 0;replace r2:=aa.B 2;replace r3:=aa.O 3;refine ⟨⟨k+1,b8x3,ae,?_,ab,e3,(e12.trans (bB (by omega))),e2,e10,e11,?_⟩,?_⟩
     · omega
     · exact r0.cast (by first | exact zV (by omega) (by assumption) | exact zW (by omega) (by assumption))
     · simp only [m12,e12,intOf];omega
   skip;refine wp_skip ?_;show _;refine eA ab [jo r0,jb r2] ⟨aq fun c=>cN rfl (c.p e12) rfl (by omega),bD 0,av⟩ fun ac ag ae ab aa=> ?_;obtain ⟨e2,e3,e5,e10,e11,e13,e17⟩:=aa.k7 e2 e3 e5 e10 e11 e13 e17;have e12:=aa.V 1;replace r0:=aa.O 0;replace r2:=aa.B 2;refine ⟨⟨k+1,u,ae,?_,ab,e3,(e12.trans (bB (by omega))),e2,e10,e11,?_⟩,?_⟩
   · omega
   · exact r0.cast (by first | exact zV (by omega) (by assumption) | exact zW (by omega) (by assumption))
   · simp only [m12,e12,intOf];omega
 try simp only [ah,aV] at hc1
 refine wp_exit ?_;repeat (with_reducible refine cy ?_)
 refine cC ?_;refine wp_seq (rg [_,own _ _ _ 0 3 _] [0,1] ab [jo r0] ⟨ao e3,fM rfl rfl rfl (by decide) (fun _ a_ _ _ c=>⟨_,_,(ck rfl rfl Tryz.call147 (c.n 0 rfl) rfl),c.p e3,c.io 0 rfl,fun ho_=>DS u ((xs.take k).filter iU) _ ho_ (by omega)⟩),av⟩ fun ac ag ae ab aa=> ?_);obtain ⟨e2,e3⟩:=aa.k2 e2 e3;replace r0:=aa.ro 1 e3 rfl;replace r0:=r0.cast (show fi gP (xs.filter iU)=fi gP ((xs.take k).filter iU) from by rw [bw (by omega)]);have hil:=qU xs;refine wp_seq (eK ab [jo r0] ⟨aq fun c=>ax rfl rfl,av⟩ fun ac ag ae ab aa=> ?_);obtain ⟨e2,e3⟩:=aa.k2 e2 e3;have e6:=aa.V 0;replace r0:=aa.O 0;refine wp_seq ?_;refine wp_seq (sf [0,1,0] ab [jo r0] ⟨ao e3,aq fun c=>dk rfl br (c.q 0) r0.isSl,aq fun c=>aS rfl rfl,av⟩ fun ac ag ae ab aa=> ?_);obtain ⟨e2,e6⟩:=aa.k2 e2 e6;have e25:=aa.V 0;have e26:=aa.V 1;have e27:=aa.V 2;replace r0:=aa.O 0;refine wp_block ?_;refine wp_loop (fun a_ w_=>∃(i:Nat) (o:Value) (τ:Nat→bj),(i≤(fi gP (xs.filter iU)).length)∧
      St (Nw w) w 64 a_ w_ τ∧
      be a_ 6=o∧
      be a_ 27=(aj (i:Int))∧
      be a_ 2=(.slice none 0 0)∧
      be a_ 25=u∧
      be a_ 26=(aj ((fi gP (xs.filter iU)).length:Int))∧
      ep fx 89 (iV ((fi gP (xs.filter iU)).take i)) (τ 1) o w_∧
      ep fx 89 (fi gP (xs.filter iU)) (τ 0) u w_) (fun a_ _=>(fi gP (xs.filter iU)).length - (intOf (be a_ 27)).toNat) ?_ ?_
 · refine ⟨0,(.slice none 0 0),ae,?_,ab,e6,(e27.trans (bB (by omega))),e2,e25,e26,?_,r0⟩
   · omega
   · exact ep.nil _ _ _ _
 intro a14 w14 hI;obtain ⟨i,o,τ14,q0,st14,e6,e27,e2,e25,e26,r1,r0⟩:=hI;have hjl:=Bz (xs:=(fi gP (xs.filter iU))) (k:=i);have m27:=e27;refine wp_seq (eK st14 [jo r0,jo r1] ⟨aq fun c=>cW rfl (c.p e27) (c.p e26),av⟩ fun ac ag ae ab aa=> ?_);obtain ⟨e2,e6,e25,e26,e27⟩:=aa.k5 e2 e6 e25 e26 e27;have e28:=aa.V 0;replace r0:=aa.O 0;replace r1:=aa.O 1;refine wp_seq ?_;refine wp_cond_split e28 (fun hc3=> ?_) (fun hc3=> ?_)
 · try simp only [ai] at hc3
   refine wp_skip ?_;refine wp_seq ?_;refine wp_block ?_;refine wp_seq (rg [_,_,box _ _ 2 8 [(bc (⟨#[]⟩:ByteArray)),(bc (⟨#[]⟩:ByteArray))],_] [0,1,0,7] ab [jo r0,jo r1] ⟨aq fun c=>aX rfl br bq (c.p e25) r0.isSl (c.p e27) (by omega) (by omega),aq fun c=>cq (vs:=[(bc ((nth (fi gP (xs.filter iU)) (i:Int)).1)),(bc ((nth (fi gP (xs.filter iU)) (i:Int)).2))]) rfl dF bq (c.q 0) rfl (fun _ _ hj=>((c.io 0 rfl).1.sl).elem (bF (i:=(i:Int)) (by omega) (by omega)) hj),bO rfl rfl rfl rfl dR rfl,ey (cx:=[(bc ((nth (fi gP (xs.filter iU)) (i:Int)).1)),(bc ((nth (fi gP (xs.filter iU)) (i:Int)).2))]) (off:=0) rfl bq fun c=>⟨c.rb 2 rfl,(c.rb 2 rfl).ptr,(c.q 1)⟩,av⟩ fun ac ag ae ab aa=> ?_);obtain ⟨b16x8,e8⟩:=gx ac 8;obtain ⟨e2,e6,e25,e26,e27,e28⟩:=aa.k6 e2 e6 e25 e26 e27 e28;replace r0:=aa.O 0;replace r1:=aa.O 1;have r2:=aa.rb 3 e8 rfl;refine wp_seq ?_;refine wp_seq (xi ab [jo r0,jo r1,jb r2] ⟨ao e6,aq fun c=>dk rfl br (c.q 0) r1.isSl,aq fun c=>gd rfl (c.q 1) rfl (by omega),aK 2,av⟩ fun ac ag ae ab aa=> ?_);obtain ⟨e2,e6,e8,e25,e26,e27,e28⟩:=aa.k7 e2 e6 e8 e25 e26 e27 e28;have e9:=aa.V 3;replace r0:=aa.O 0;replace r1:=aa.O 1;replace r2:=aa.B 2;refine wp_seq ?_;refine zG [0,1,3,7,15,7,7,103,231,487,1023,2047] ab [jo r0,jo r1,jb r2] ⟨ao e9,aq fun c=>iC rfl (c.q 0) rfl,bD 1,aL 2 rfl fun c hpc=>dh rfl cZ cf ((c.p e8).trans r2.ptr),aL 2 rfl fun c hpc=>aI rfl cJ (c.M 3 hpc) ((c.B 2).cell (j:=0) rfl),aL 2 rfl fun c hpc=>aS rfl (c.p e6),aL 2 rfl fun c hpc=>aS rfl (c.p e9),aL 2 rfl fun c hpc=>aX rfl br bq (c.M 5 hpc) r1.isSl (c.M 6 hpc) (by have hq0:=bt hpc;omega) (by have hq0:=bt hpc;omega),aL 2 rfl fun c hpc=>dh rfl cZ cf (c.M 7 hpc),aL 2 rfl fun c hpc=>aI rfl cJ (c.M 8 hpc) (((c.io 1 rfl).1.sl).elem (j:=1) (bF (i:=((iV ((fi gP (xs.filter iU)).take i)).length:Int) - 1) (by have hq0:=bt hpc;omega) (by have hq0:=bt hpc;omega)) rfl),aL 2 rfl fun c hpc=>vK rfl (c.M 4 hpc) (c.M 9 hpc),bZ 2 10,av⟩ fun ac ag ae ab aa=> ?_;obtain ⟨e2,e6,e8,e9,e25,e26,e27,e28⟩:=aa.k8 e2 e6 e8 e9 e25 e26 e27 e28;have e45:=aa.V 11;replace r0:=aa.O 0;replace r1:=aa.O 1;replace r2:=aa.B 2;refine wp_cond_split e45 (fun hc4=> ?_) (fun hc4=> ?_)
   · have hd4:=hc4;try simp only [au,ai] at hd4
     refine wp_seq ?_;refine rg [_,_,_,_,_,_,_,_,_,_,_,_,own _ _ _ 1 6 _] [0,0,0,0,12,28,60,0,128,508,1023,2047,4095] ab [jo r0,jo r1,jb r2] ⟨ao e6,ao e9,ao e6,ao e9,aq fun c=>aX rfl br bq (c.q 2) r1.isSl (c.q 3) (by omega) (by omega),bS cZ cf 4 rfl,aq fun c=>aI rfl cJ (c.q 5) (((c.io 1 rfl).1.sl).elem (j:=1) (bF (i:=((iV ((fi gP (xs.filter iU)).take i)).length:Int) - 1) (by omega) (by omega)) rfl),cK cZ cf e8 r2.ptr,fE cJ 7 2 1,aq fun c=>Jo rfl (c.q 6) (c.q 8),aq fun c=>aX rfl br bq (c.q 0) r1.isSl (c.q 1) (by omega) (by omega),bS cZ cf 10 rfl,jl (E:=fx) (i:=(((iV ((fi gP (xs.filter iU)).take i)).length:Int) - 1).toNat) (off:=1) (u:=(bc (va ((nth (iV ((fi gP (xs.filter iU)).take i)) (((iV ((fi gP (xs.filter iU)).take i)).length:Int) - 1)).2) ((nth (fi gP (xs.filter iU)) (i:Int)).2)))) (x:=nth (iV ((fi gP (xs.filter iU)).take i)) (((iV ((fi gP (xs.filter iU)).take i)).length:Int) - 1)) (x':=((nth (iV ((fi gP (xs.filter iU)).take i)) (((iV ((fi gP (xs.filter iU)).take i)).length:Int) - 1)).1,va ((nth (iV ((fi gP (xs.filter iU)).take i)) (((iV ((fi gP (xs.filter iU)).take i)).length:Int) - 1)).2) ((nth (fi gP (xs.filter iU)) (i:Int)).2))) rfl rfl rfl rfl cf (bF (by omega) (by (try simp only [dx]);omega)) (aw rfl) (by simp [Value.cells,Value.oneCell',Sv.v]) rfl (fun _ a_ _ _ c=>⟨c.ip 1 rfl e6,c.ad (c.n 11 rfl) e6 (by rw [add_add];rfl),(c.n 9 rfl)⟩),av⟩ fun ac ag ae ab aa=> ?_;obtain ⟨e2,e6,e8,e9,e25,e26,e27,e28,e45⟩:=aa.k9 e2 e6 e8 e9 e25 e26 e27 e28 e45;replace r0:=aa.O 0;replace r1:=aa.ro 12 e6 rfl;replace r2:=aa.B 2;refine wp_exit ?_;repeat (with_reducible refine cy ?_)
     refine cC ?_;refine eA ab [jo r0,jo r1,jb r2] ⟨aq fun c=>cN rfl (c.p e27) rfl (by omega),bD 0,av⟩ fun ac ag ae ab aa=> ?_;obtain ⟨e2,e6,e8,e9,e25,e26,e28,e45⟩:=aa.k8 e2 e6 e8 e9 e25 e26 e28 e45;have e27:=aa.V 1;replace r0:=aa.O 0;replace r1:=aa.O 1;replace r2:=aa.B 2;refine ⟨⟨i+1,o,ae,?_,ab,e6,(e27.trans (bB (by omega))),e2,e25,e26,?_,r0⟩,?_⟩
     · omega
     · exact r1.cast (by first | exact xK (by omega) (by assumption) | exact wh (by omega) (by assumption))
     · simp only [m27,e27,intOf];omega
   have hd4:=hc4;try simp only [bl,ah,dD] at hd4
   refine wp_skip ?_;refine rg [_,_,own fx 89 _ 3 60 ([(nth (fi gP (xs.filter iU)) (i:Int))]),own _ _ _ 1 61 _,own _ _ _ 1 6 _] [0,0,2,7,15] ab [jo r0,jo r1,jb r2] ⟨ao e6,aq fun c=>dY rfl dF bq ((c.p e8).trans r2.ptr) (c.B 2),dt (cells:=#[(bc ((nth (fi gP (xs.filter iU)) (i:Int)).1)),(bc ((nth (fi gP (xs.filter iU)) (i:Int)).2))]) rfl rfl rfl rfl br bq dR rfl (by decide) (by decide) (fun _ _ _ _ c=>gB (c.n 1 rfl) (by kernel_rfl)) rfl,fF (t0:=6) rfl rfl rfl rfl br (i:=Tryz.t89) rfl rfl rfl rfl (by simp only [maxLen];(try simp);omega) (by show _ * 32≤_;(try simp);omega) (fun _ _ _ _ c=>⟨c.ip 1 rfl e6,c.sm (c.n 0 rfl) e6,⟨_,rfl,(c.ro 2 rfl).1.sl⟩⟩),eP (t0:=61) rfl rfl rfl rfl rfl (.inr rfl) (fun _ _ _ _ c=>⟨c.ro 3 rfl,rfl⟩),av⟩ fun ac ag ae ab aa=> ?_;obtain ⟨b21x60,e60⟩:=gx ac 60;obtain ⟨b21x6,e6⟩:=gx ac 6;obtain ⟨e2,e8,e9,e25,e26,e27,e28,e45⟩:=aa.k8 e2 e8 e9 e25 e26 e27 e28 e45;replace r0:=aa.O 0;replace r1:=aa.ro 4 e6 rfl;replace r2:=aa.B 2;have r3:=aa.ro 2 e60 rfl;show _;refine eA ab [jo r0,jo r1,jb r2,jo r3] ⟨aq fun c=>cN rfl (c.p e27) rfl (by omega),bD 0,av⟩ fun ac ag ae ab aa=> ?_;obtain ⟨e2,e6,e8,e9,e25,e26,e28,e45⟩:=aa.k8 e2 e6 e8 e9 e25 e26 e28 e45;have e27:=aa.V 1;replace r0:=aa.O 0;replace r1:=aa.O 1;replace r2:=aa.B 2;replace r3:=aa.O 3;refine ⟨⟨i+1,b21x6,ae,?_,ab,e6,(e27.trans (bB (by omega))),e2,e25,e26,?_,r0⟩,?_⟩
   · omega
   · exact r1.cast (by first | exact xK (by omega) (by assumption) | exact wh (by omega) (by assumption))
   · simp only [m27,e27,intOf];omega
 try simp only [ah,aV] at hc3
 refine wp_exit ?_;repeat (with_reducible refine cy ?_)
 refine cC ?_;refine wp_seq (eA ab [jo r0,jo r1] ⟨ao e6,aK 0,av⟩ fun ac ag ae ab aa=> ?_);have e2:=aa.V 1;replace r1:=aa.O 1;refine wp_ret ?_;refine rp ?_;refine cO (fn:=Tryz.f138) rfl ab.defers e2 ?_;replace r1:=r1.cast (show je xs=_ from by rw [je,bw (l:=(fi gP (xs.filter iU))) (by omega)]);exact ⟨_,rfl,ab.ext0,r1.1,fun g_ h_=>(ab.bnd _ g_ (r1.2 g_ h_)).1⟩
end
section
open Srt
def tm (s:ByteArray) (k:Int):Bool:=decide (k=(s.size:Int)) || pD (cP s k)
def wL (s:ByteArray):Nat→List Int
  | 0 => [0]
  | k + 1 => if tm s ((k : Int) + 1) = true then wL s k ++ [((k : Nat) : Int) + 1] else wL s k
def aO (s:ByteArray):List Int:=wL s s.size
theorem vB {s:ByteArray} {k:Nat} (h:tm s ((k:Int)+1)=true):wL s (k+1)=wL s k++ [((k:Nat):Int)+1]:=by rw [wL,if_pos h]
theorem tp {s:ByteArray} {k:Nat} (h:tm s ((k:Int)+1)=false):wL s (k+1)=wL s k:=by rw [wL,if_neg (by rw [h];decide)]
theorem yP {s:ByteArray} {k:Nat} (h:tm s ((k:Int)+1)=true):kq s (k+1)=((kq s k).1++ [s.extract (kq s k).2 (k+1)],k+1):=wl h
theorem BS {s:ByteArray} {k:Nat} (h:tm s ((k:Int)+1)=false):kq s (k+1)=kq s k:=uo h
theorem lK (s:ByteArray) (k:Nat):(wL s k).length=(kq s k).1.length+1:=by
  induction k with
  | zero => rfl
  | succ k ih =>
    cases h:tm s ((k:Int)+1) with
    | true => rw [vB h, yP h]; simp [ih]
    | false => rw [tp h, BS h, ih]
theorem BT (s:ByteArray):(aO s).length=(bA s).length+1:=lK s s.size
theorem nt {s:ByteArray} {p:Nat} (h:p < s.size):p < endF s p∧endF s p≤s.size:=by
  have:=KN s (p+1) (by omega);unfold endF;omega
theorem Gk {s:ByteArray} {p m:Nat} (h:p < s.size) (h1:p < m) (h2:m < endF s p):tm s (m:Int)=false:=by
  have h3:∀d,p+1+d < endF s p→(p+1+d < s.size∧vc (cP s ((p+1+d:Nat):Int))=true)∧(p+1+d)+1+tw s (p+1+d+1)=endF s p:=by
    intro d;induction d with
    | zero =>
      intro hd;have hs:p+1 < s.size:=by have:=(nt h).2;omega
      have hb:vc (cP s ((p+1:Nat):Int))=true:=by
        cases hb:vc (cP s ((p+1:Nat):Int)) with
        | true => rfl
        | false =>
          have:=yu (s:=s) (k:=p+1) (.inr hb);unfold endF at hd;omega
      refine ⟨⟨hs,hb⟩,?_⟩;have:=sV hs hb;exact this.symm
    | succ d ih =>
      intro hd;obtain ⟨⟨i1,i2⟩,i3⟩:=ih (by omega);have hs:p+1+(d+1) < s.size:=by have:=(nt h).2;omega
      have hb:vc (cP s ((p+1+(d+1):Nat):Int))=true:=by
        cases hb:vc (cP s ((p+1+(d+1):Nat):Int)) with
        | true => rfl
        | false =>
          have:=yu (s:=s) (k:=p+1+(d+1)) (.inr hb);have e:p+1+d+1=p+1+(d+1):=by omega
          rw [e] at i3;omega
      refine ⟨⟨hs,hb⟩,?_⟩;have:=sV hs hb;have e:p+1+d+1=p+1+(d+1):=by omega
      rw [e] at i3;omega
  obtain ⟨d,rfl⟩:∃d,m=p+1+d:=⟨m - (p+1),by omega⟩;obtain ⟨⟨h4,h5⟩,_⟩:=h3 d h2;unfold tm;rw [qe,h5];simp;omega
theorem Ib {s:ByteArray} {p:Nat} (h:p < s.size):tm s (endF s p:Int)=true:=by
  unfold tm;by_cases he:endF s p=s.size
  · rw [he];simp
  · have hlt:endF s p < s.size:=by have:=(nt h).2;omega
    have hb:vc (cP s (endF s p:Int))=false:=by
      cases hb:vc (cP s (endF s p:Int)) with
      | false => rfl
      | true =>
        have h1:=sV hlt hb;have h3:∀d,p+1+d≤endF s p→p+1+d+tw s (p+1+d)=endF s p:=by
          intro d;induction d with
          | zero => intro _; rfl
          | succ d ih =>
            intro hd;have i:=ih (by omega);have hx:=Gk h (m:=p+1+d) (by omega) (by omega);have hy:vc (cP s ((p+1+d:Nat):Int))=true:=by
              unfold tm at hx;rw [aG,qe] at hx;simpa using hx.2
            have:=sV (s:=s) (k:=p+1+d) (by have:=(nt h).2;omega) hy;have e:p+1+d+1=p+1+(d+1):=by omega
            rw [e] at this;omega
        have:=h3 (endF s p - (p+1)) (by have:=(nt h).1;omega);have e:p+1+(endF s p - (p+1))=endF s p:=by have:=(nt h).1;omega
        rw [e] at this
        omega
    rw [qe,hb];simp
theorem AF {s:ByteArray} {p:Nat} (h:p < s.size) (hs:(kq s p).2=p):kq s (endF s p)=((kq s p).1++ [s.extract p (endF s p)],endF s p)∧wL s (endF s p)=wL s p++ [(endF s p:Int)]:=by
  have h1:∀d,p+d < endF s p→kq s (p+d)=kq s p∧wL s (p+d)=wL s p:=by
    intro d;induction d with
    | zero => intro _; exact ⟨rfl, rfl⟩
    | succ d ih =>
      intro hd;obtain ⟨i1,i2⟩:=ih (by omega);have hb:=Gk h (m:=p+d+1) (by omega) (by omega);have e:((p+d+1:Nat):Int)=((p+d:Nat):Int)+1:=by omega
      rw [e] at hb;exact ⟨by rw [←Nat.add_assoc,BS hb,i1],by rw [←Nat.add_assoc,tp hb,i2]⟩
  obtain ⟨k,hk⟩:∃k,endF s p=k+1:=⟨endF s p - 1,by have:=(nt h).1;omega⟩;obtain ⟨i1,i2⟩:=h1 (k - p) (by have:=(nt h).1;omega);have e:p+(k - p)=k:=by have:=(nt h).1;omega
  rw [e] at i1 i2;have hb:=Ib h;rw [hk] at hb ⊢;have e2:((k+1:Nat):Int)=(k:Int)+1:=by omega
  rw [e2] at hb;rw [yP hb,vB hb,i1,i2,hs,e2];exact ⟨rfl,rfl⟩
theorem oo (s:ByteArray) (k:Nat):(wL s k).Pairwise (· < ·)∧(∀x ∈ wL s k,0≤x∧x≤(k:Int))∧(wL s k)[0]? =some 0:=by
  induction k with
  | zero => exact ⟨by simp [wL], fun x hx => by simp [wL] at hx; omega, rfl⟩
  | succ k ih =>
    obtain ⟨i1,i2,i3⟩:=ih;cases h:tm s ((k:Int)+1) with
    | true =>
      rw [vB h];refine ⟨?_,fun x hx=> ?_,?_⟩
      · rw [List.pairwise_append];refine ⟨i1,by simp,fun x hx y hy=> ?_⟩;simp at hy;have:=(i2 x hx).2;omega
      · rcases List.mem_append.1 hx with hx | hx
        · have:=i2 x hx;omega
        · simp at hx;omega
      · rw [lx (List.getElem?_eq_some_iff.1 i3).1];exact i3
    | false =>
      rw [tp h];exact ⟨i1,fun x hx=>by have:=i2 x hx;omega,i3⟩
theorem ll {xs:List Int} (h:xs.Pairwise (· < ·)) {i j:Nat} (hij:i < j) (hj:j < xs.length):nth xs (i:Int) < nth xs (j:Int):=by
  rw [jO,jO];have h1:=List.pairwise_iff_getElem.1 h i j (by omega) hj hij;simp only [List.getD,cd hj,cd (show i < xs.length by omega),Option.getD_some];exact h1
def plcF (xs:List Int) (x:Int):Nat:=(xs.takeWhile fun y=>decide (y < x)).length
theorem pK {xs:List Int} {x:Int} (h:xs.Pairwise (· < ·)) {i:Nat} (hi:i≤xs.length) (h1:∀j:Nat,j < i→nth xs (j:Int) < x) (h2:i < xs.length→x≤nth xs (i:Int)):plcF xs x=i:=by
  induction xs generalizing i with
  | nil => simp at hi; subst hi; rfl
  | cons y ys ih =>
    have hp:=List.pairwise_cons.1 h;cases i with
    | zero =>
      have:=h2 (by simp);have e:nth (y::ys) ((0:Nat):Int)=y:=rfl;rw [e] at this
      unfold plcF;rw [jf,if_neg (by simp;omega)];rfl
    | succ i =>
      have h0:=h1 0 (by omega);have e:nth (y::ys) ((0:Nat):Int)=y:=rfl;rw [e] at h0;have hs:∀j:Nat,nth (y::ys) ((j+1:Nat):Int)=nth ys (j:Int):=fun j=>by rw [jO,jO];rfl
      have:=ih hp.2 (i:=i) (by simp at hi;omega) (fun j hj=>by rw [←hs j];exact h1 (j+1) (by omega)) (fun hi2=>by rw [←hs i];exact h2 (by simp;omega));unfold plcF at this ⊢
      rw [jf,if_pos (by simpa using h0),ay,this]
def KQ (n k:Nat) (Q:Nat × Ps→Prop) (K:cQ):Prop:=∀(to:Nat) (ps:Ps) (φ:Fl),k≤to→to≤n→∀y,(K to ps φ).1=some y→Q y
theorem KQ.up {n k k':Nat} {Q:Nat × Ps→Prop} {K:cQ} (h:KQ n k Q K) (hk:k≤k'):KQ n k' Q K:=fun to ps φ h1 h2=>h to ps φ (by omega) h2
def RQ (n:Nat) (r:fe):Prop:=∀(k:Nat) (K:cQ) (ps:Ps) (φ:Fl) (Q:Nat × Ps→Prop),k≤n→KQ n k Q K→∀y,(r k K ps φ).1=some y→Q y
theorem Gl {n:Nat}:∀(l:List fe),(∀r ∈ l,RQ n r)→RQ n (ge l)
  | [], _ => fun k K ps φ Q hk hK y hy => hK k ps φ (bz _) hk y hy
  | r :: l, h => fun k K ps φ Q hk hK y hy => h r (by simp) k (fun to ps φ => ge l to K ps φ) ps φ Q hk (fun to ps φ h1 h2 y hy => Gl l (fun x hx => h x (by simp [hx])) to K ps φ Q h2 (hK.up h1) y hy) y hy
theorem Gm {n:Nat}:∀(l:List fe),(∀r ∈ l,RQ n r)→RQ n (fv l)
  | [], _ => fun k K ps φ Q hk hK y hy => by cases hy
  | r :: l, h => fun k K ps φ Q hk hK y hy => by
    rw [fv] at hy;split at hy
    · exact h r (by simp) k K ps φ Q hk hK y hy
    · exact Gm l (fun x hx=>h x (by simp [hx])) k K ps _ Q hk hK y hy
theorem AG {n:Nat} {r:fe} (hr:RQ n r) {lo m:Nat} {mn mx:Int} {lz:Bool}:∀(g times:Nat),RQ n (ea r lo m mn mx lz g times)
  | 0, times => fun k K ps φ Q hk hK y hy => by cases hy
  | g + 1, times => fun k K ps φ Q hk hK y hy => by
    have h1:∀y,(eD mn lz times k K ps φ).1=some y→Q y:=fun y hy=>by
      unfold eD at hy;split at hy
      · exact hK k ps φ (bz _) hk y hy
      · cases hy
    have h2:∀φ y,(fV r lo m mn mx lz g times k K ps φ).1=some y→Q y:=fun φ y hy=>hr k (eB r lo m mn mx lz g times k K) _ φ Q hk (fun to ps φ a1 a2 y hy=>by
      unfold eB at hy;split at hy
      · exact AG hr g (times+1) to K ps φ Q a2 (hK.up a1) y hy
      · cases hy) y hy
    have h3:∀φ y,(em mn lz times k K ps φ).1=some y→Q y:=fun φ y hy=>by
      unfold em at hy;split at hy
      · exact hK k ps φ (bz _) hk y hy
      · cases hy
    rw [nN] at hy;split at hy
    · exact h1 y hy
    · split at hy
      · split at hy
        · exact h2 _ y hy
        · exact h3 _ y hy
      · exact h3 _ y hy
theorem yQ {n:Nat} {l:List fe} (h:∀r ∈ l,RQ n r):RQ n (jh l):=by
  cases l with
  | nil => exact fun k K ps φ Q hk hK y hy => by cases hy
  | cons r l => exact h r (by simp)
theorem yR {E:Env} {t:Tr} {lo m:Nat} {l:List fe} (h:∀r ∈ l,RQ E.cs.length r):RQ E.cs.length (im E t lo m l):=fun k K ps φ Q hk hK y hy=>by
  unfold im at hy;split at hy
  · cases hy
  · split at hy
    · exact Gl l h k K ps φ Q hk hK y hy
    · split at hy
      · exact Gm l h k K ps φ Q hk hK y hy
      · split at hy
        · exact AG (yQ h) _ _ k K ps φ Q hk hK y hy
        · split at hy
          · cases hy
          · unfold ji at hy;split at hy
            · exact yQ h k _ ps _ Q hk (fun to ps φ a1 a2 y hy=>hK to _ φ a1 a2 y hy) y hy
            · split at hy
              · exact yQ h k K ps _ Q hk hK y hy
              · split at hy
                · split at hy
                  · rename_i hc;simp only [au,ai] at hc;exact hK (k+1) ps _ (by omega) (by omega) y hy
                  · cases hy
                · split at hy
                  · exact hK k ps _ (bz _) hk y hy
                  · cases hy
theorem mM (E:Env) (p:Pt):RQ E.cs.length (bH E p):=by
  induction p using Pt.ind with
  | h p ih =>
    rw [mT];exact yR fun r hr=>by
      obtain ⟨q,hq,rfl⟩:=List.mem_map.1 hr;exact ih q hq
end
section
open Go.RowKit
open Srt
set_option maxRecDepth 100000 in
theorem wM (s:ByteArray) (w:World) (hs:s.size≤1000000000):Calls Tryz.prog 33 #[(bc s)] w (fun e w'=>e= .returned (bc (mo s))∧Ext aW w w'):=by
 refine enter (n:=29) Tryz.func33 rfl rfl (aw rfl) ?_;intro a0 τ0 ha st0;have e0:=oz ha;have hbl:=mm s;have hbd:s.data.toList.length=s.size:=mm s;refine wp_seq (eK st0 [] ⟨aq fun c=>ax rfl rfl,av⟩ fun ac ag ae ab aa=> ?_);replace e0:=aa.k1 e0;have e2:=aa.V 0;refine wp_seq (rg [_,Hf 5 _ 0 7 _,Hf 5 _ 0 3 _] [0,1,3] ab [] ⟨ao e0,vL rfl rfl rfl rfl aZ fR lu (by first | omega | exact (nL _).1 | exact (nL _).2) fun c=>(c.n 0 rfl),eP (t0:=7) rfl rfl rfl rfl rfl (.inr rfl) (fun _ _ _ _ c=>⟨c.ry 1 rfl,rfl⟩),av⟩ fun ac ag ae ab aa=> ?_);obtain ⟨b2x3,e3⟩:=gx ac 3;replace e2:=aa.k1 e2;have r0:=aa.ry 2 e3 rfl;refine wp_seq ?_;refine wp_seq (sf [0,1,0] ab [jy r0] ⟨ao e3,aq fun c=>dk rfl fR (c.q 0) r0.isSl,aq fun c=>aS rfl rfl,av⟩ fun ac ag ae ab aa=> ?_);obtain ⟨e2,e3⟩:=aa.k2 e2 e3;have e8:=aa.V 0;have e9:=aa.V 1;have e10:=aa.V 2;replace r0:=aa.iy 0 rfl;refine wp_block ?_;refine wp_loop (fun a_ w_=>∃(k:Nat) (τ:Nat→bj),(k≤(bs s).length)∧
      St (Nw w) w 29 a_ w_ τ∧
      be a_ 10=(aj (k:Int))∧
      be a_ 2=(bc (⟨#[]⟩:ByteArray))∧
      be a_ 3=b2x3∧
      be a_ 8=b2x3∧
      be a_ 9=(aj (s.data.toList.length:Int))∧
      ob 5 (iH oh (bs s) k) (τ 0) b2x3 w_) (fun a_ _=>(bs s).length - (intOf (be a_ 10)).toNat) ?_ ?_
 · refine ⟨0,ae,?_,ab,(e10.trans (bB (by omega))),e2,e3,e8,e9,?_⟩
   · omega
   · exact r0.cast (by exact wc _ _)
 intro a4 w4 hI;obtain ⟨k,τ4,q0,st4,e10,e2,e3,e8,e9,r0⟩:=hI;have hml:=xG oh (bs s) k;have m10:=e10;refine wp_seq (eK st4 [jy r0] ⟨aq fun c=>cW rfl (c.p e10) (c.p e9),av⟩ fun ac ag ae ab aa=> ?_);obtain ⟨e2,e3,e8,e9,e10⟩:=aa.k5 e2 e3 e8 e9 e10;have e11:=aa.V 0;replace r0:=aa.iy 0 rfl;refine wp_seq ?_;refine wp_cond_split e11 (fun hc1=> ?_) (fun hc1=> ?_)
 · try simp only [ai] at hc1
   refine wp_skip ?_;refine wp_seq ?_;refine wp_block ?_;refine wp_seq (vO [0,0,2,7,15] ab [jy r0] ⟨ao e10,aq fun c=>aX rfl fR me (c.p e8) r0.isSl (c.p e10) (by first | omega | exact (nL _).1 | exact (nL _).2) (by first | omega | exact (nL _).1 | exact (nL _).2),aq fun c=>aI rfl Tryz.isAgg5 (c.q 1) (((c.iy 0 rfl).1.sl).elem (j:=0) (bF (i:=(k:Int)) (by first | omega | exact (nL _).1 | exact (nL _).2) (by first | omega | exact (nL _).1 | exact (nL _).2)) rfl),aK 0,aK 2,av⟩ fun ac ag ae ab aa=> ?_);obtain ⟨e2,e3,e8,e9,e10,e11⟩:=aa.k6 e2 e3 e8 e9 e10 e11;have e4:=aa.V 3;have e5:=aa.V 4;replace r0:=aa.iy 0 rfl;refine wp_seq (KE ab [jy r0] ⟨ao e5,aq fun c=>iC rfl (c.q 0) rfl,bD 1,aL 2 rfl fun c hpc=>aS rfl (c.p e5),aL 2 rfl fun c hpc=>mX rfl (c.M 3 hpc) rfl,bZ 2 4,av⟩ fun ac ag ae ab aa=> ?_);obtain ⟨e2,e3,e4,e5,e8,e9,e10,e11⟩:=aa.k8 e2 e3 e4 e5 e8 e9 e10 e11;have e20:=aa.V 5;replace r0:=aa.iy 0 rfl;refine wp_cond_split e20 (fun hc2=> ?_) (fun hc2=> ?_)
   · have hd2:=hc2;try simp only [au,ai] at hd2
     refine rg [_,_,_,_,_,Hf 5 _ 0 3 _] [0,0,0,4,15,31] ab [jy r0] ⟨ao e3,ao e4,ao e5,aq fun c=>EN rfl (c.q 2) rfl,aq fun c=>aX rfl fR me (c.q 0) r0.isSl (c.q 1) (by first | omega | exact (nL _).1 | exact (nL _).2) (by first | omega | exact (nL _).1 | exact (nL _).2),xy (i:=(k:Int).toNat) (n:=IntKind.u8.wrap (((nth (iH oh (bs s) k) (k:Int)).toNat:Int)+32)) rfl rfl rfl rfl me (by first | omega | exact (nL _).1 | exact (nL _).2) (by first | omega | exact (nL _).1 | exact (nL _).2) (by first | omega | exact (nL _).1 | exact (nL _).2) fun c=>⟨c.yp 0 rfl e3,c.ad (c.n 4 rfl) e3 rfl,(c.n 3 rfl)⟩,av⟩ fun ac ag ae ab aa=> ?_;obtain ⟨e2,e3,e4,e5,e8,e9,e10,e11,e20⟩:=aa.k9 e2 e3 e4 e5 e8 e9 e10 e11 e20;replace r0:=aa.ry 5 e3 rfl;show _;refine eA ab [jy r0] ⟨aq fun c=>cN rfl (c.p e10) rfl (by first | omega | exact (nL _).1 | exact (nL _).2),bD 0,av⟩ fun ac ag ae ab aa=> ?_;obtain ⟨e2,e3,e4,e5,e8,e9,e11,e20⟩:=aa.k8 e2 e3 e4 e5 e8 e9 e11 e20;have e10:=aa.V 1;replace r0:=aa.iy 0 rfl;refine ⟨⟨k+1,ae,?_,ab,(e10.trans (bB (by omega))),e2,e3,e8,e9,?_⟩,?_⟩
     · omega
     · exact r0.cast (by first | exact zY (by omega) (by assumption) | exact xL (by omega) (by assumption))
     · simp only [m10,e10,intOf];omega
   have hd2:=hc2;try simp only [bl,ah,dD] at hd2
   refine wp_skip ?_;show _;refine eA ab [jy r0] ⟨aq fun c=>cN rfl (c.p e10) rfl (by first | omega | exact (nL _).1 | exact (nL _).2),bD 0,av⟩ fun ac ag ae ab aa=> ?_;obtain ⟨e2,e3,e4,e5,e8,e9,e11,e20⟩:=aa.k8 e2 e3 e4 e5 e8 e9 e11 e20;have e10:=aa.V 1;replace r0:=aa.iy 0 rfl;refine ⟨⟨k+1,ae,?_,ab,(e10.trans (bB (by omega))),e2,e3,e8,e9,?_⟩,?_⟩
   · omega
   · exact r0.cast (by first | exact zY (by omega) (by assumption) | exact xL (by omega) (by assumption))
   · simp only [m10,e10,intOf];omega
 try simp only [ah,aV] at hc1
 refine wp_exit ?_;repeat (with_reducible refine cy ?_)
 refine cC ?_;refine wp_seq (fX ab [jy r0] ⟨ao e3,aq fun c=>xx rfl fR lu aZ (c.q 0) (c.iy 0 rfl).1.sl,aK 1,av⟩ fun ac ag ae ab aa=> ?_);have e2:=aa.V 2;refine wp_ret ?_;refine rp ?_;refine cO (fn:=Tryz.f33) rfl ab.defers e2 ?_;exact ⟨congrArg (fun l_=>Ending.returned (bc ⟨List.toArray l_⟩)) (xI (by omega)),ab.ext0⟩
set_option maxRecDepth 100000 in
theorem Ic (s:ByteArray) (w:World) (hs:s.size≤1000000000):Calls Tryz.prog 134 #[(bc s)] w (fun e w'=>e= .returned (bc (Lm s))∧Ext aW w w'):=by
 refine enter (n:=29) Tryz.func134 rfl rfl (aw rfl) ?_;intro a0 τ0 ha st0;have e0:=oz ha;have hbl:=mm s;have hbd:s.data.toList.length=s.size:=mm s;refine wp_seq (eK st0 [] ⟨aq fun c=>ax rfl rfl,av⟩ fun ac ag ae ab aa=> ?_);replace e0:=aa.k1 e0;have e2:=aa.V 0;refine wp_seq (rg [_,Hf 5 _ 0 7 _,Hf 5 _ 0 3 _] [0,1,3] ab [] ⟨ao e0,vL rfl rfl rfl rfl aZ fR lu (by first | omega | exact (nL _).1 | exact (nL _).2) fun c=>(c.n 0 rfl),eP (t0:=7) rfl rfl rfl rfl rfl (.inr rfl) (fun _ _ _ _ c=>⟨c.ry 1 rfl,rfl⟩),av⟩ fun ac ag ae ab aa=> ?_);obtain ⟨b2x3,e3⟩:=gx ac 3;replace e2:=aa.k1 e2;have r0:=aa.ry 2 e3 rfl;refine wp_seq ?_;refine wp_seq (sf [0,1,0] ab [jy r0] ⟨ao e3,aq fun c=>dk rfl fR (c.q 0) r0.isSl,aq fun c=>aS rfl rfl,av⟩ fun ac ag ae ab aa=> ?_);obtain ⟨e2,e3⟩:=aa.k2 e2 e3;have e8:=aa.V 0;have e9:=aa.V 1;have e10:=aa.V 2;replace r0:=aa.iy 0 rfl;refine wp_block ?_;refine wp_loop (fun a_ w_=>∃(k:Nat) (τ:Nat→bj),(k≤(bs s).length)∧
      St (Nw w) w 29 a_ w_ τ∧
      be a_ 10=(aj (k:Int))∧
      be a_ 2=(bc (⟨#[]⟩:ByteArray))∧
      be a_ 3=b2x3∧
      be a_ 8=b2x3∧
      be a_ 9=(aj (s.data.toList.length:Int))∧
      ob 5 (iH Bv (bs s) k) (τ 0) b2x3 w_) (fun a_ _=>(bs s).length - (intOf (be a_ 10)).toNat) ?_ ?_
 · refine ⟨0,ae,?_,ab,(e10.trans (bB (by omega))),e2,e3,e8,e9,?_⟩
   · omega
   · exact r0.cast (by exact wc _ _)
 intro a4 w4 hI;obtain ⟨k,τ4,q0,st4,e10,e2,e3,e8,e9,r0⟩:=hI;have hml:=xG Bv (bs s) k;have m10:=e10;refine wp_seq (eK st4 [jy r0] ⟨aq fun c=>cW rfl (c.p e10) (c.p e9),av⟩ fun ac ag ae ab aa=> ?_);obtain ⟨e2,e3,e8,e9,e10⟩:=aa.k5 e2 e3 e8 e9 e10;have e11:=aa.V 0;replace r0:=aa.iy 0 rfl;refine wp_seq ?_;refine wp_cond_split e11 (fun hc1=> ?_) (fun hc1=> ?_)
 · try simp only [ai] at hc1
   refine wp_skip ?_;refine wp_seq ?_;refine wp_block ?_;refine wp_seq (vO [0,0,2,7,15] ab [jy r0] ⟨ao e10,aq fun c=>aX rfl fR me (c.p e8) r0.isSl (c.p e10) (by first | omega | exact (nL _).1 | exact (nL _).2) (by first | omega | exact (nL _).1 | exact (nL _).2),aq fun c=>aI rfl Tryz.isAgg5 (c.q 1) (((c.iy 0 rfl).1.sl).elem (j:=0) (bF (i:=(k:Int)) (by first | omega | exact (nL _).1 | exact (nL _).2) (by first | omega | exact (nL _).1 | exact (nL _).2)) rfl),aK 0,aK 2,av⟩ fun ac ag ae ab aa=> ?_);obtain ⟨e2,e3,e8,e9,e10,e11⟩:=aa.k6 e2 e3 e8 e9 e10 e11;have e4:=aa.V 3;have e5:=aa.V 4;replace r0:=aa.iy 0 rfl;refine wp_seq (KE ab [jy r0] ⟨ao e5,aq fun c=>iC rfl (c.q 0) rfl,bD 1,aL 2 rfl fun c hpc=>aS rfl (c.p e5),aL 2 rfl fun c hpc=>mX rfl (c.M 3 hpc) rfl,bZ 2 4,av⟩ fun ac ag ae ab aa=> ?_);obtain ⟨e2,e3,e4,e5,e8,e9,e10,e11⟩:=aa.k8 e2 e3 e4 e5 e8 e9 e10 e11;have e20:=aa.V 5;replace r0:=aa.iy 0 rfl;refine wp_cond_split e20 (fun hc2=> ?_) (fun hc2=> ?_)
   · have hd2:=hc2;try simp only [au,ai] at hd2
     refine rg [_,_,_,_,_,Hf 5 _ 0 3 _] [0,0,0,4,15,31] ab [jy r0] ⟨ao e3,ao e4,ao e5,aq fun c=>EO rfl (c.q 2) rfl,aq fun c=>aX rfl fR me (c.q 0) r0.isSl (c.q 1) (by first | omega | exact (nL _).1 | exact (nL _).2) (by first | omega | exact (nL _).1 | exact (nL _).2),xy (i:=(k:Int).toNat) (n:=IntKind.u8.wrap (((nth (iH Bv (bs s) k) (k:Int)).toNat:Int) - 32)) rfl rfl rfl rfl me (by first | omega | exact (nL _).1 | exact (nL _).2) (by first | omega | exact (nL _).1 | exact (nL _).2) (by first | omega | exact (nL _).1 | exact (nL _).2) fun c=>⟨c.yp 0 rfl e3,c.ad (c.n 4 rfl) e3 rfl,(c.n 3 rfl)⟩,av⟩ fun ac ag ae ab aa=> ?_;obtain ⟨e2,e3,e4,e5,e8,e9,e10,e11,e20⟩:=aa.k9 e2 e3 e4 e5 e8 e9 e10 e11 e20;replace r0:=aa.ry 5 e3 rfl;show _;refine eA ab [jy r0] ⟨aq fun c=>cN rfl (c.p e10) rfl (by first | omega | exact (nL _).1 | exact (nL _).2),bD 0,av⟩ fun ac ag ae ab aa=> ?_;obtain ⟨e2,e3,e4,e5,e8,e9,e11,e20⟩:=aa.k8 e2 e3 e4 e5 e8 e9 e11 e20;have e10:=aa.V 1;replace r0:=aa.iy 0 rfl;refine ⟨⟨k+1,ae,?_,ab,(e10.trans (bB (by omega))),e2,e3,e8,e9,?_⟩,?_⟩
     · omega
     · exact r0.cast (by first | exact Fs (by omega) (by assumption) | exact CJ (by omega) (by assumption))
     · simp only [m10,e10,intOf];omega
   have hd2:=hc2;try simp only [bl,ah,dD] at hd2
   refine wp_skip ?_;show _;refine eA ab [jy r0] ⟨aq fun c=>cN rfl (c.p e10) rfl (by first | omega | exact (nL _).1 | exact (nL _).2),bD 0,av⟩ fun ac ag ae ab aa=> ?_;obtain ⟨e2,e3,e4,e5,e8,e9,e11,e20⟩:=aa.k8 e2 e3 e4 e5 e8 e9 e11 e20;have e10:=aa.V 1;replace r0:=aa.iy 0 rfl;refine ⟨⟨k+1,ae,?_,ab,(e10.trans (bB (by omega))),e2,e3,e8,e9,?_⟩,?_⟩
   · omega
   · exact r0.cast (by first | exact Fs (by omega) (by assumption) | exact CJ (by omega) (by assumption))
   · simp only [m10,e10,intOf];omega
 try simp only [ah,aV] at hc1
 refine wp_exit ?_;repeat (with_reducible refine cy ?_)
 refine cC ?_;refine wp_seq (fX ab [jy r0] ⟨ao e3,aq fun c=>xx rfl fR lu aZ (c.q 0) (c.iy 0 rfl).1.sl,aK 1,av⟩ fun ac ag ae ab aa=> ?_);have e2:=aa.V 2;refine wp_ret ?_;refine rp ?_;refine cO (fn:=Tryz.f134) rfl ab.defers e2 ?_;exact ⟨congrArg (fun l_=>Ending.returned (bc ⟨List.toArray l_⟩)) (xI (by omega)),ab.ext0⟩
set_option maxRecDepth 100000 in
theorem KU (v:Value) (xs:List (ByteArray × ByteArray)) (n f:Bool) (s:ByteArray) (w:World) (hS:SlT fx w v xs) (hs:s.size≤1000000000):Calls Tryz.prog 113 #[v,(aE n),(aE f),(bc s)] w (fun e w'=>e= .returned (aE (DN xs n f s))∧Ext aW w w'):=by
 refine enter (n:=30) Tryz.func113 rfl rfl (aw rfl) ?_;intro a0 τ0 ha st0;obtain ⟨e0,e1,e2,e3⟩:=KF ha;have hle:=hS.le;refine wp_seq (eK st0 [] ⟨aq fun c=>ax rfl rfl,av⟩ fun ac ag ae ab aa=> ?_);obtain ⟨e0,e1,e2,e3⟩:=aa.k4 e0 e1 e2 e3;have e8:=aa.V 0;refine wp_seq (lr [0,0,3,7] ab [] ⟨ao e0,ao e3,eE fun c=>⟨_,_,(ck rfl rfl Tryz.call133 (c.q 0) (c.q 1)),JJ v xs s _ (hS.at (ab.ext.trans c.J.ext))⟩,aK 2,av⟩ fun ac ag ae ab aa=> ?_);obtain ⟨e0,e1,e2,e3,e8⟩:=aa.k5 e0 e1 e2 e3 e8;have e9:=aa.V 3;refine wp_seq ?_;refine wp_seq (eK ab [] ⟨ao e2,av⟩ fun ac ag ae ab aa=> ?_);obtain ⟨e0,e1,e3,e8,e9⟩:=aa.k5 e0 e1 e3 e8 e9;have e13:=aa.V 0;refine wp_cond_split e13 (fun hc1=> ?_) (fun hc1=> ?_)
 · skip;refine rg [_,_,_,_,_,_,_,_,_,_,_,_,_,_] [0,1,3,3,11,31,63,127,255,255,767,2047,4095,8191] ab [] ⟨ao e9,bD 0,bm 1 rfl fun c hpc=>aS rfl (c.p e0),bm 1 rfl fun c hpc=>aS rfl (c.p e3),fC 1 false rfl fun c hpc=>⟨_,_,(bK rfl rfl oG (c.M 3 hpc)),wM s _ (by have hq0:=hpc;omega)⟩,fC 1 false rfl fun c hpc=>⟨_,_,(ck rfl rfl Tryz.call133 (c.M 2 hpc) (c.M 4 hpc)),JJ v xs (mo s) _ (hS.at (ab.ext.trans c.J.ext))⟩,dm 1 5,bD 6,bm 7 rfl fun c hpc=>aS rfl (c.p e0),bm 7 rfl fun c hpc=>aS rfl (c.p e3),fC 7 false rfl fun c hpc=>⟨_,_,(bK rfl rfl Tryz.call134 (c.M 9 hpc)),Ic s _ (by have hq0:=hpc;(try simp only [aG] at hq0);omega)⟩,fC 7 false rfl fun c hpc=>⟨_,_,(ck rfl rfl Tryz.call133 (c.M 8 hpc) (c.M 10 hpc)),JJ v xs (Lm s) _ (hS.at (ab.ext.trans c.J.ext))⟩,dm 7 11,aK 12,av⟩ fun ac ag ae ab aa=> ?_;obtain ⟨e1,e8⟩:=aa.k2 e1 e8;have e9:=aa.V 13;refine wp_seq (lr [0,0,3,7] ab [] ⟨ao e9,ao e1,aq fun c=>qO rfl cT (c.q 0) (c.q 1),aK 2,av⟩ fun ac ag ae ab aa=> ?_);have e8:=aa.V 3;refine wp_ret ?_;refine rp ?_;refine cO (fn:=Tryz.f113) rfl ab.defers e8 ?_;exact ⟨congrArg _ (congrArg _ (by first | exact (FV (by assumption)).symm | exact (FW (by assumption)).symm)),ab.ext0⟩
 skip;refine wp_skip ?_;refine wp_seq (lr [0,0,3,7] ab [] ⟨ao e9,ao e1,aq fun c=>qO rfl cT (c.q 0) (c.q 1),aK 2,av⟩ fun ac ag ae ab aa=> ?_);have e8:=aa.V 3;refine wp_ret ?_;refine rp ?_;refine cO (fn:=Tryz.f113) rfl ab.defers e8 ?_;exact ⟨congrArg _ (congrArg _ (by first | exact (FV (by assumption)).symm | exact (FW (by assumption)).symm)),ab.ext0⟩
end
section
open Go.RowKit
open Srt
set_option maxRecDepth 100000 in
theorem BU (s:ByteArray) (w:World):Calls Tryz.prog 114 #[(bc s)] w (fun e w'=>e= .returned (aE (uU s))∧Ext aW w w'):=by
 refine enter (n:=35) Tryz.func114 rfl rfl (aw rfl) ?_;intro a0 τ0 ha st0;have e0:=oz ha;refine wp_seq (eK st0 [] ⟨aq fun c=>ax rfl rfl,av⟩ fun ac ag ae ab aa=> ?_);replace e0:=aa.k1 e0;have e2:=aa.V 0;refine wp_seq ?_;refine wp_seq (fX ab [] ⟨ao e0,aq fun c=>fA rfl aZ (c.q 0),aq fun c=>fh rfl (c.q 1) rfl,av⟩ fun ac ag ae ab aa=> ?_);obtain ⟨e0,e2⟩:=aa.k2 e0 e2;have e6:=aa.V 2;refine wp_cond_split e6 (fun hc1=> ?_) (fun hc1=> ?_)
 · try simp only [ar,am,ai,ah] at hc1
   refine wp_seq (eK ab [] ⟨aq fun c=>ax rfl rfl,av⟩ fun ac ag ae ab aa=> ?_);replace e0:=aa.k1 e0;have e2:=aa.V 0;refine wp_ret ?_;refine rp ?_;refine cO (fn:=Tryz.f114) rfl ab.defers e2 ?_;exact ⟨congrArg _ (congrArg _ (by unfold uU;symm;simp;omega)),ab.ext0⟩
 try simp only [ar,am,ai,ah] at hc1
 refine wp_skip ?_;refine wp_seq (fX ab [] ⟨ao e0,aq fun c=>li rfl aZ (c.q 0) rfl (by omega) (by omega),aK 1,av⟩ fun ac ag ae ab aa=> ?_);replace e2:=aa.k1 e2;have e3:=aa.V 2;refine wp_seq (rg [_,_,_,_,_,_,_,_,_,_,_,_,_,_,_,_,_,_,_,_,_,_,_,_,_,_,_] [0,1,3,7,15,31,63,127,255,511,1023,2047,4095,8191,16383,32767,65535,131071,262143,524287,1048575,2097151,4194303,8388607,16777215,33554431,67108863] ab [] ⟨ao e3,aq fun c=>iC rfl (c.q 0) rfl,bD 1,aL 2 rfl fun c hpc=>aS rfl (c.p e3),aL 2 rfl fun c hpc=>mX rfl (c.M 3 hpc) rfl,bZ 2 4,bD 5,bm 6 rfl fun c hpc=>aS rfl (c.p e3),bm 6 rfl fun c hpc=>iC rfl (c.M 7 hpc) rfl,bm 6 rfl fun c hpc=>aS rfl (c.M 8 hpc),dj 9 true rfl fun c hpc=>aS rfl (c.p e3),dj 9 true rfl fun c hpc=>mX rfl (c.M 10 hpc) rfl,bm 6 rfl fun c hpc=>oK rfl (c.M 9 hpc) (fun h=>c.m 11 rfl (And.intro hpc h)),dm 6 12,bD 13,bm 14 rfl fun c hpc=>aS rfl (c.p e3),bm 14 rfl fun c hpc=>iC rfl (c.M 15 hpc) rfl,bm 14 rfl fun c hpc=>aS rfl (c.M 16 hpc),dj 17 true rfl fun c hpc=>aS rfl (c.p e3),dj 17 true rfl fun c hpc=>mX rfl (c.M 18 hpc) rfl,bm 14 rfl fun c hpc=>oK rfl (c.M 17 hpc) (fun h=>c.m 19 rfl (And.intro hpc h)),dm 14 20,bD 21,bm 22 rfl fun c hpc=>aS rfl (c.p e3),bm 22 rfl fun c hpc=>cY rfl (c.M 23 hpc) rfl,dm 22 24,aK 25,av⟩ fun ac ag ae ab aa=> ?_);have e2:=aa.V 26;refine wp_ret ?_;refine rp ?_;refine cO (fn:=Tryz.f114) rfl ab.defers e2 ?_;exact ⟨congrArg _ (congrArg _ (by unfold uU;rw [decide_eq_true (by omega:(s.size:Int)=1),jY])),ab.ext0⟩
set_option maxRecDepth 100000 in
theorem tq (s:ByteArray) (w:World) (hs:s.size≤1000000000):Calls Tryz.prog 31 #[(bc s)] w (fun e w'=>∃v',e= .returned v'∧Ext aW w w'∧su gR 9 w w' v' (bA s)):=by
 refine enter (n:=22) Tryz.func31 rfl rfl (aw rfl) ?_;intro a0 τ0 ha st0;have e0:=oz ha;refine wp_seq (eK st0 [] ⟨aq fun c=>ax rfl rfl,av⟩ fun ac ag ae ab aa=> ?_);replace e0:=aa.k1 e0;have e2:=aa.V 0;refine wp_seq (eK ab [] ⟨aq fun c=>ax rfl rfl,av⟩ fun ac ag ae ab aa=> ?_);obtain ⟨e0,e2⟩:=aa.k2 e0 e2;have e3:=aa.V 0;refine wp_seq ?_;refine wp_seq (eK ab [] ⟨aq fun c=>ax rfl rfl,av⟩ fun ac ag ae ab aa=> ?_);obtain ⟨e0,e2,e3⟩:=aa.k3 e0 e2 e3;have e4:=aa.V 0;refine wp_block ?_;refine wp_loop (fun a_ w_=>∃(p:Nat) (u:Value) (τ:Nat→bj),(p≤s.size)∧
      (kq s p).2=p∧
      St (Nw w) w 22 a_ w_ τ∧
      be a_ 3=u∧
      be a_ 4=(aj (p:Int))∧
      be a_ 0=(bc s)∧
      be a_ 2=(.slice none 0 0)∧
      ep gR 9 ((kq s p).1) (τ 0) u w_) (fun a_ _=>s.size - (intOf (be a_ 4)).toNat) ?_ ?_
 · refine ⟨0,(.slice none 0 0),ae,?_,?_,ab,e3,(e4.trans (bB (by first | omega | rfl))),e0,e2,?_⟩
   · omega
   · rfl
   · exact ep.nil _ _ _ _
 intro a4 w4 hI;obtain ⟨p,u,τ4,q0,q1,st4,e3,e4,e0,e2,r0⟩:=hI;have hln:=rE s p;have m4:=e4;refine wp_seq ?_;refine wp_seq (lr [0,0,2,7] st4 [jo r0] ⟨ao e4,ao e0,aq fun c=>fA rfl aZ (c.q 1),aq fun c=>cW rfl (c.q 0) (c.q 2),av⟩ fun ac ag ae ab aa=> ?_);obtain ⟨e0,e2,e3,e4⟩:=aa.k4 e0 e2 e3 e4;have e9:=aa.V 3;replace r0:=aa.O 0;refine wp_cond_split e9 (fun hc1=> ?_) (fun hc1=> ?_)
 · try simp only [ai] at hc1
   refine wp_skip ?_;refine wp_block ?_;refine wp_seq ?_;have hlt_:p < s.size:=by omega
   have hen:=nt hlt_;have hst:=AF hlt_ q1;refine lr [0,0,3,7] ab [jo r0] ⟨ao e0,ao e4,eE fun c=>⟨_,_,(ck rfl rfl qI (c.q 0) (c.q 1)),CP s p _ (by omega) (by omega)⟩,aK 2,av⟩ fun ac ag ae ab aa=> ?_;obtain ⟨e0,e2,e3,e4,e9⟩:=aa.k5 e0 e2 e3 e4 e9;have e5:=aa.V 3;replace r0:=aa.O 0;refine wp_seq ?_;refine rg [_,_,_,_,_,own gR 9 _ 1 18 ([s.extract p (endF s p)]),own _ _ _ 0 19 _,own _ _ _ 0 3 _] [0,0,0,0,14,30,63,127] ab [jo r0] ⟨ao e3,ao e0,ao e4,ao e5,aq fun c=>EV (s:=s) (p:=(p:Int)) (q:=((endF s p:Nat):Int)) rfl aZ (c.q 1) (c.q 2) (c.q 3) (by omega) (by omega) (by omega),dt (cells:=#[(bc (s.extract p (endF s p)))]) rfl rfl rfl rfl bL cf Tryz.zeroValue9 rfl (by decide) (by decide) (fun _ _ _ _ c=>gB (c.n 4 rfl) (by kernel_rfl)) rfl,fF (t0:=3) rfl rfl rfl rfl bL (i:=Tryz.t9) rfl rfl rfl rfl (by simp only [maxLen];(try simp);omega) (by show _ * 16≤_;(try simp);omega) (fun _ _ _ _ c=>⟨c.ip 0 rfl e3,c.sm (c.n 0 rfl) e3,⟨_,rfl,(c.ro 5 rfl).1.sl⟩⟩),eP (t0:=19) rfl rfl rfl rfl rfl (.inr rfl) (fun _ _ _ _ c=>⟨c.ro 6 rfl,rfl⟩),av⟩ fun ac ag ae ab aa=> ?_;obtain ⟨b7x18,e18⟩:=gx ac 18;obtain ⟨b7x3,e3⟩:=gx ac 3;obtain ⟨e0,e2,e4,e5,e9⟩:=aa.k5 e0 e2 e4 e5 e9;replace r0:=aa.ro 7 e3 rfl;have r1:=aa.ro 5 e18 rfl;refine eA ab [jo r0,jo r1] ⟨ao e5,aK 0,av⟩ fun ac ag ae ab aa=> ?_;obtain ⟨e0,e2,e3,e5,e9⟩:=aa.k5 e0 e2 e3 e5 e9;have e4:=aa.V 1;replace r0:=aa.O 0;replace r1:=aa.O 1;show _;refine ⟨⟨(endF s p),b7x3,ae,?_,?_,ab,e3,(e4.trans (bB (by first | omega | rfl))),e0,e2,?_⟩,?_⟩
   · omega
   · rw [hst.1]
   · exact r0.cast (by rw [hst.1])
   · simp only [m4,e4,intOf];omega
 try simp only [ah,aV] at hc1
 refine wp_exit ?_;repeat (with_reducible refine cy ?_)
 refine cC ?_;refine wp_seq (eA ab [jo r0] ⟨ao e3,aK 0,av⟩ fun ac ag ae ab aa=> ?_);have e2:=aa.V 1;replace r0:=aa.O 0;refine wp_ret ?_;refine rp ?_;refine cO (fn:=Tryz.f31) rfl ab.defers e2 ?_;replace r0:=r0.cast (show bA s=_ from by rw [bA,show s.size=p by omega]);exact ⟨_,rfl,ab.ext0,r0.1,fun g_ h_=>(ab.bnd _ g_ (r0.2 g_ h_)).1⟩
set_option maxRecDepth 100000 in
theorem uy (s:ByteArray) (w:World) (hs:s.size≤1000000000):Calls Tryz.prog 32 #[(bc s)] w (fun e w'=>∃v',e= .returned v'∧Ext aW w w'∧su lM 3 w w' v' (aO s)):=by
 refine enter (n:=18) Tryz.func32 rfl rfl (aw rfl) ?_;intro a0 τ0 ha st0;have e0:=oz ha;refine wp_seq (eK st0 [] ⟨aq fun c=>ax rfl rfl,av⟩ fun ac ag ae ab aa=> ?_);replace e0:=aa.k1 e0;have e2:=aa.V 0;refine wp_seq (rg [own lM 3 _ 0 5 ([0]),own _ _ _ 0 3 _] [0,1] ab [] ⟨dt (cells:=#[(aj 0)]) rfl rfl rfl rfl cE aA jJ rfl (by decide) (by decide) (fun _ _ _ _ c=>gB rfl (by kernel_rfl)) rfl,eP (t0:=5) rfl rfl rfl rfl rfl (.inr rfl) (fun _ _ _ _ c=>⟨c.ro 0 rfl,rfl⟩),av⟩ fun ac ag ae ab aa=> ?_);obtain ⟨b2x3,e3⟩:=gx ac 3;obtain ⟨e0,e2⟩:=aa.k2 e0 e2;have r0:=aa.ro 1 e3 rfl;refine wp_seq ?_;refine wp_seq (eK ab [jo r0] ⟨aq fun c=>ax rfl rfl,av⟩ fun ac ag ae ab aa=> ?_);obtain ⟨e0,e2,e3⟩:=aa.k3 e0 e2 e3;have e4:=aa.V 0;replace r0:=aa.O 0;refine wp_block ?_;refine wp_loop (fun a_ w_=>∃(p:Nat) (u:Value) (τ:Nat→bj),(p≤s.size)∧
      (kq s p).2=p∧
      St (Nw w) w 18 a_ w_ τ∧
      be a_ 3=u∧
      be a_ 4=(aj (p:Int))∧
      be a_ 0=(bc s)∧
      be a_ 2=(.slice none 0 0)∧
      ep lM 3 (wL s p) (τ 0) u w_) (fun a_ _=>s.size - (intOf (be a_ 4)).toNat) ?_ ?_
 · refine ⟨0,b2x3,ae,?_,?_,ab,e3,(e4.trans (bB (by first | omega | rfl))),e0,e2,?_⟩
   · omega
   · rfl
   · exact r0.cast (by rfl)
 intro a4 w4 hI;obtain ⟨p,u,τ4,q0,q1,st4,e3,e4,e0,e2,r0⟩:=hI;have hln:=rE s p;have hpl:=lK s p;have m4:=e4;refine wp_seq ?_;refine wp_seq (lr [0,0,2,7] st4 [jo r0] ⟨ao e4,ao e0,aq fun c=>fA rfl aZ (c.q 1),aq fun c=>cW rfl (c.q 0) (c.q 2),av⟩ fun ac ag ae ab aa=> ?_);obtain ⟨e0,e2,e3,e4⟩:=aa.k4 e0 e2 e3 e4;have e9:=aa.V 3;replace r0:=aa.O 0;refine wp_cond_split e9 (fun hc1=> ?_) (fun hc1=> ?_)
 · try simp only [ai] at hc1
   refine wp_skip ?_;refine wp_block ?_;refine wp_seq ?_;have hlt_:p < s.size:=by omega
   have hen:=nt hlt_;have hst:=AF hlt_ q1;refine lr [0,0,3,7] ab [jo r0] ⟨ao e0,ao e4,eE fun c=>⟨_,_,(ck rfl rfl qI (c.q 0) (c.q 1)),CP s p _ (by omega) (by omega)⟩,aK 2,av⟩ fun ac ag ae ab aa=> ?_;obtain ⟨e0,e2,e3,e9⟩:=aa.k4 e0 e2 e3 e9;have e4:=aa.V 3;replace r0:=aa.O 0;refine rg [_,_,own lM 3 _ 1 15 ([((endF s p:Nat):Int)]),own _ _ _ 0 16 _,own _ _ _ 0 3 _] [0,0,2,7,15] ab [jo r0] ⟨ao e3,ao e4,dt (cells:=#[(aj ((endF s p:Nat):Int))]) rfl rfl rfl rfl cE aA jJ rfl (by decide) (by decide) (fun _ _ _ _ c=>gB (c.n 1 rfl) (by kernel_rfl)) rfl,fF (t0:=3) rfl rfl rfl rfl cE (i:=Tryz.t3) rfl rfl rfl rfl (by simp only [maxLen];(try simp);omega) (by show _ * 8≤_;(try simp);omega) (fun _ _ _ _ c=>⟨c.ip 0 rfl e3,c.sm (c.n 0 rfl) e3,⟨_,rfl,(c.ro 2 rfl).1.sl⟩⟩),eP (t0:=16) rfl rfl rfl rfl rfl (.inr rfl) (fun _ _ _ _ c=>⟨c.ro 3 rfl,rfl⟩),av⟩ fun ac ag ae ab aa=> ?_;obtain ⟨b7x15,e15⟩:=gx ac 15;obtain ⟨b7x3,e3⟩:=gx ac 3;obtain ⟨e0,e2,e4,e9⟩:=aa.k4 e0 e2 e4 e9;replace r0:=aa.ro 4 e3 rfl;have r1:=aa.ro 2 e15 rfl;show _;refine ⟨⟨(endF s p),b7x3,ae,?_,?_,ab,e3,(e4.trans (bB (by first | omega | rfl))),e0,e2,?_⟩,?_⟩
   · omega
   · rw [hst.1]
   · exact r0.cast (by rw [hst.2])
   · simp only [m4,e4,intOf];omega
 try simp only [ah,aV] at hc1
 refine wp_exit ?_;repeat (with_reducible refine cy ?_)
 refine cC ?_;refine wp_seq (eA ab [jo r0] ⟨ao e3,aK 0,av⟩ fun ac ag ae ab aa=> ?_);have e2:=aa.V 1;replace r0:=aa.O 0;refine wp_ret ?_;refine rp ?_;refine cO (fn:=Tryz.f32) rfl ab.defers e2 ?_;replace r0:=r0.cast (show aO s=_ from by rw [aO,show s.size=p by omega]);exact ⟨_,rfl,ab.ext0,r0.1,fun g_ h_=>(ab.bnd _ g_ (r0.2 g_ h_)).1⟩
end
section
open Go.RowKit
open Srt
set_option maxRecDepth 100000 in
theorem Id (v:Value) (cv:Sv) (cs:List ByteArray) (i:Nat) (w:World) (hm0:w.cell? (ee v)=some cv.v) (hm1:w.cell? ((ee v).add 1)=some (aj (i:Int))) (hS:SlT gR w cv.v cs):Calls Tryz.prog 51 #[(.pointer (some (ee v)))] w (fun e w'=>e= .returned (bc (de cs i))∧Ext aW w w'):=by
 refine enter (n:=23) Tryz.func51 rfl rfl (aw rfl) ?_;intro a0 τ0 ha st0;have e0:=oz ha;have hle:=hS.le;refine wp_seq (eK st0 [] ⟨aq fun c=>ax rfl rfl,av⟩ fun ac ag ae ab aa=> ?_);replace e0:=aa.k1 e0;have e2:=aa.V 0;refine wp_seq ?_;refine wp_seq (mG [0,1,3,7,0,16,48,112,240,511] ab [] ⟨ao e0,cD 0 rfl,bS bU aA 1 rfl,aq fun c=>aI rfl aN (c.q 2) ((ab.ext.trans c.J.ext).cellAt hm1),ao e0,cD 4 rfl,bS bU cS 5 rfl,aq fun c=>aI rfl dw (c.q 6) ((ab.ext.trans c.J.ext).cellAt hm0),aq fun c=>dk rfl bL (c.q 7) hS.sl,aq fun c=>iC rfl (c.q 3) (c.q 8),av⟩ fun ac ag ae ab aa=> ?_);obtain ⟨e0,e2⟩:=aa.k2 e0 e2;have e12:=aa.V 9;refine wp_cond_split e12 (fun hc1=> ?_) (fun hc1=> ?_)
 · try simp only [ai] at hc1
   refine wp_seq (eK ab [] ⟨aq fun c=>ax rfl rfl,av⟩ fun ac ag ae ab aa=> ?_);replace e0:=aa.k1 e0;have e2:=aa.V 0;refine wp_ret ?_;refine rp ?_;refine cO (fn:=Tryz.f51) rfl ab.defers e2 ?_;exact ⟨congrArg _ (congrArg _ (by unfold de;first | rw [if_pos (by omega)] | rw [if_neg (by omega)])),ab.ext0⟩
 try simp only [ah,dD] at hc1
 refine wp_skip ?_;refine wp_seq (uf [0,1,3,7,0,16,48,112,255,511,1023] ab [] ⟨ao e0,cD 0 rfl,bS bU cS 1 rfl,aq fun c=>aI rfl dw (c.q 2) ((ab.ext.trans c.J.ext).cellAt hm0),ao e0,cD 4 rfl,bS bU aA 5 rfl,aq fun c=>aI rfl aN (c.q 6) ((ab.ext.trans c.J.ext).cellAt hm1),aq fun c=>aX rfl bL cf (c.q 3) hS.sl (c.q 7) (by omega) (by omega),aq fun c=>aI rfl cJ (c.q 8) ((hS.at (ab.ext.trans c.J.ext)).elem (j:=0) (bF (i:=(i:Int)) (by omega) (by omega)) rfl),aK 9,av⟩ fun ac ag ae ab aa=> ?_);have e2:=aa.V 10;refine wp_ret ?_;refine rp ?_;refine cO (fn:=Tryz.f51) rfl ab.defers e2 ?_;exact ⟨congrArg _ (congrArg _ (by unfold de;first | rw [if_pos (by omega)] | rw [if_neg (by omega)])),ab.ext0⟩
theorem oU (v:Value) (cv:Sv) (cs:List ByteArray) (i:Nat) (d:Int) (w:World) (hR:RxR 98 v cv cs i d w):Calls Tryz.prog 51 #[.pointer (some ((ee v).add 0))] w (fun e w'=>e= .returned (.string (de cs i))∧Ext aW w w'):=
  Id v cv cs i w (hR.box.cell (j:=0) rfl) (hR.box.cell (j:=1) rfl) hR.sl
theorem Do (v:Value) (cv:Sv) (cs:List ByteArray) (i:Nat) (d:Int) (w:World) (hR:RxR 98 v cv cs i d w):Calls Tryz.prog 51 #[v] w (fun e w'=>e= .returned (.string (de cs i))∧Ext aW w w'):=by
  have h:=oU v cv cs i d w hR;rwa [hR.pv] at h
set_option maxRecDepth 100000 in
theorem Gp (v:Value) (cv:Sv) (cs:List ByteArray) (i:Nat) (d:Int) (s:ByteArray) (w:World) (hR:RxR 98 v cv cs i d w) (hL:zt cs) (hi:i≤cs.length) (hs:gM (⟨#[]⟩:ByteArray) s=false):Calls Tryz.prog 122 #[v,(bc s)] w (fun e w'=>e= .returned (aE (gj cs i s))∧Ext (bY v) w w'∧cH 98 [cv.v,aj ((tkN cs i s:Nat):Int),aj d] (bY v) v w'):=by
 refine fj (bY v) (fun g hg=>hR.box.lt g hg) (n:=16) Tryz.func122 rfl rfl (aw rfl) ?_;intro a0 τ0 ha hτ st0;obtain ⟨e0,e1⟩:=qG ha;have htk_:=JP (cs:=cs) (i:=i) hs;have hL1:=hL.1.1;have r0:cH 98 [cv.v,aj ((i:Nat):Int),aj d] (τ0 0) v w:=by rw [hτ];exact hR.box
 have r9:Fz (fb gR Al cv.v cs) τ0 w:=hR.inz st0;refine wp_seq (eK st0 [jb r0,jz 9 r9] ⟨aq fun c=>ax rfl rfl,av⟩ fun ac ag ae ab aa=> ?_);obtain ⟨e0,e1⟩:=aa.k2 e0 e1;have e4:=aa.V 0;replace r0:=aa.B 0;replace r9:=aa.z1 9;refine wp_seq ?_;refine wp_seq (lr [0,1,0,7] ab [jb r0,jz 9 r9] ⟨ao e0,eE fun c=>⟨_,_,(bK rfl rfl kr (c.q 0)),Do v cv cs i d _ (oD (c.B 0) (c.iz 9 rfl) (fun g_ h_ hz_=>hz_.2 _ h_))⟩,ao e1,aq fun c=>oa rfl (c.q 1) (c.q 2),av⟩ fun ac ag ae ab aa=> ?_);obtain ⟨e0,e4⟩:=aa.k2 e0 e4;have e8:=aa.V 3;replace r0:=aa.B 0;replace r9:=aa.z1 9;refine wp_cond_split e8 (fun hc1=> ?_) (fun hc1=> ?_)
 · try simp only [ar,am] at hc1
   refine wp_seq (eK ab [jb r0,jz 9 r9] ⟨aq fun c=>ax rfl rfl,av⟩ fun ac ag ae ab aa=> ?_);replace e0:=aa.k1 e0;have e4:=aa.V 0;replace r0:=aa.B 0;replace r9:=aa.z1 9;refine wp_ret ?_;refine rp ?_;refine cO (fn:=Tryz.f122) rfl ab.defers e4 ?_;have hb_:gj cs i s=false:=by rw [htk_];assumption
   rw [hb_,mD hb_];exact ⟨rfl,ab.extIn,r0.foot⟩
 try simp only [ar,am] at hc1
 refine wp_skip ?_;refine wp_seq (Hn ab [jb r0,jz 9 r9] ⟨ao e0,cD 0 r0.ptr,bS bU aA 1 r0.ptr,fE aN 2 0 1,aq fun c=>cN rfl (c.q 3) rfl (by omega),cD 0 r0.ptr,bS bU aA 5 r0.ptr,cp (cx:=[cv.v,(aj (((i:Nat):Int)+1)),(aj d)]) aA fun c=>⟨c.bp 0 rfl e0,c.ad (c.q 6) e0 rfl,(c.q 4)⟩,av⟩ fun ac ag ae ab aa=> ?_);obtain ⟨e0,e4⟩:=aa.k2 e0 e4;replace r0:=aa.RB 7 e0;replace r9:=aa.z1 9;replace r0:cH 98 [cv.v,aj ((i+1:Nat):Int),aj d] (ae 0) v ag:=by rw [show ((i+1:Nat):Int)=((i:Nat):Int)+1 from by omega];exact r0
 refine wp_seq (eK ab [jb r0,jz 9 r9] ⟨aq fun c=>ax rfl rfl,av⟩ fun ac ag ae ab aa=> ?_);replace e0:=aa.k1 e0;have e4:=aa.V 0;replace r0:=aa.B 0;replace r9:=aa.z1 9;refine wp_ret ?_;refine rp ?_;refine cO (fn:=Tryz.f122) rfl ab.defers e4 ?_;have hb_:gj cs i s=true:=by rw [htk_];assumption
 rw [hb_,na hb_];exact ⟨rfl,ab.extIn,r0.foot⟩
set_option maxRecDepth 100000 in
theorem Gq (v:Value) (cv:Sv) (cs:List ByteArray) (i:Nat) (d:Int) (w:World) (hR:RxR 98 v cv cs i d w) (hL:zt cs) (hi:i≤cs.length):Calls Tryz.prog 117 #[v] w (fun e w'=>e= .returned (bc (de cs i))∧Ext (bY v) w w'∧cH 98 [cv.v,aj ((nxN cs i:Nat):Int),aj d] (bY v) v w'):=by
 refine fj (bY v) (fun g hg=>hR.box.lt g hg) (n:=16) Tryz.func117 rfl rfl (aw rfl) ?_;intro a0 τ0 ha hτ st0;have e0:=oz ha;have hL1:=hL.1.1;have r0:cH 98 [cv.v,aj ((i:Nat):Int),aj d] (τ0 0) v w:=by rw [hτ];exact hR.box
 have r9:Fz (fb gR Al cv.v cs) τ0 w:=hR.inz st0;refine wp_seq (eK st0 [jb r0,jz 9 r9] ⟨aq fun c=>ax rfl rfl,av⟩ fun ac ag ae ab aa=> ?_);replace e0:=aa.k1 e0;have e2:=aa.V 0;replace r0:=aa.B 0;replace r9:=aa.z1 9;refine wp_seq (fX ab [jb r0,jz 9 r9] ⟨ao e0,eE fun c=>⟨_,_,(bK rfl rfl kr (c.q 0)),Do v cv cs i d _ (oD (c.B 0) (c.iz 9 rfl) (fun g_ h_ hz_=>hz_.2 _ h_))⟩,aK 1,av⟩ fun ac ag ae ab aa=> ?_);obtain ⟨e0,e2⟩:=aa.k2 e0 e2;have e3:=aa.V 2;replace r0:=aa.B 0;replace r9:=aa.z1 9;refine wp_seq ?_;refine wp_seq (eA ab [jb r0,jz 9 r9] ⟨ao e3,aq fun c=>oa rfl (c.q 0) rfl,av⟩ fun ac ag ae ab aa=> ?_);obtain ⟨e0,e2,e3⟩:=aa.k3 e0 e2 e3;have e7:=aa.V 1;replace r0:=aa.B 0;replace r9:=aa.z1 9;refine wp_cond_split e7 (fun hc1=> ?_) (fun hc1=> ?_)
 · try simp only [ar,am] at hc1
   refine Hn ab [jb r0,jz 9 r9] ⟨ao e0,cD 0 r0.ptr,bS bU aA 1 r0.ptr,fE aN 2 0 1,aq fun c=>cN rfl (c.q 3) rfl (by omega),cD 0 r0.ptr,bS bU aA 5 r0.ptr,cp (cx:=[cv.v,(aj (((i:Nat):Int)+1)),(aj d)]) aA fun c=>⟨c.bp 0 rfl e0,c.ad (c.q 6) e0 rfl,(c.q 4)⟩,av⟩ fun ac ag ae ab aa=> ?_;obtain ⟨e0,e2,e3⟩:=aa.k3 e0 e2 e3;replace r0:=aa.RB 7 e0;replace r9:=aa.z1 9;replace r0:cH 98 [cv.v,aj ((i+1:Nat):Int),aj d] (ae 0) v ag:=by rw [show ((i+1:Nat):Int)=((i:Nat):Int)+1 from by omega];exact r0
   refine wp_seq (eA ab [jb r0,jz 9 r9] ⟨ao e3,aK 0,av⟩ fun ac ag ae ab aa=> ?_);replace e0:=aa.k1 e0;have e2:=aa.V 1;replace r0:=aa.B 0;replace r9:=aa.z1 9;refine wp_ret ?_;refine rp ?_;refine cO (fn:=Tryz.f117) rfl ab.defers e2 ?_;have hb_:nxN cs i=i+1:=by unfold nxN;first | rw [if_pos (by assumption)] | rw [if_neg (by simp only [ci];assumption)]
   rw [hb_];exact ⟨rfl,ab.extIn,r0.foot⟩
 try simp only [ar,am] at hc1
 refine wp_skip ?_;refine wp_seq (eA ab [jb r0,jz 9 r9] ⟨ao e3,aK 0,av⟩ fun ac ag ae ab aa=> ?_);replace e0:=aa.k1 e0;have e2:=aa.V 1;replace r0:=aa.B 0;replace r9:=aa.z1 9;refine wp_ret ?_;refine rp ?_;refine cO (fn:=Tryz.f117) rfl ab.defers e2 ?_;have hb_:nxN cs i=i:=by unfold nxN;first | rw [if_pos (by assumption)] | rw [if_neg (by simp only [ci];assumption)]
 rw [hb_];exact ⟨rfl,ab.extIn,r0.foot⟩
theorem jS (v:Value) (cv:Sv) (cs:List ByteArray) (i:Nat) (d:Int) (s:ByteArray) (w:World) (hR:RxR 98 v cv cs i d w) (hL:zt cs) (hi:i≤cs.length) (hs:gM (⟨#[]⟩:ByteArray) s=false):Calls Tryz.prog 122 #[.pointer (some ((ee v).add 0)),.string s] w (fun e w'=>e= .returned (.bool (gj cs i s))∧Ext (bY v) w w'∧cH 98 [cv.v,.int .i64 ((tkN cs i s:Nat):Int),.int .i64 d] (bY v) v w'):=by
  rw [hR.pv];exact Gp v cv cs i d s w hR hL hi hs
theorem tu (v:Value) (cv:Sv) (cs:List ByteArray) (i:Nat) (d:Int) (w:World) (hR:RxR 98 v cv cs i d w) (hL:zt cs) (hi:i≤cs.length):Calls Tryz.prog 117 #[.pointer (some ((ee v).add 0))] w (fun e w'=>e= .returned (.string (de cs i))∧Ext (bY v) w w'∧cH 98 [cv.v,.int .i64 ((nxN cs i:Nat):Int),.int .i64 d] (bY v) v w'):=by
  rw [hR.pv];exact Gq v cv cs i d w hR hL hi
set_option maxRecDepth 100000 in
theorem rP (s:ByteArray) (w:World):Calls Tryz.prog 140 #[(bc s)] w (fun e w'=>e= .returned (.tuple #[bc (nx s).1,aE (nx s).2])∧Ext aW w w'):=by
 refine enter (n:=25) Tryz.func140 rfl rfl (aw rfl) ?_;intro a0 τ0 ha st0;have e0:=oz ha;refine wp_seq (eA st0 [] ⟨aq fun c=>ax rfl rfl,aq fun c=>ax rfl rfl,av⟩ fun ac ag ae ab aa=> ?_);replace e0:=aa.k1 e0;have e2:=aa.V 0;have e3:=aa.V 1;refine wp_seq ?_;refine wp_seq (eK ab [] ⟨ao e0,av⟩ fun ac ag ae ab aa=> ?_);obtain ⟨e0,e2,e3⟩:=aa.k3 e0 e2 e3;have e4:=aa.V 0;refine wp_block ?_;refine wp_seq (eA ab [] ⟨aq fun c=>eI rfl (c.p e4) rfl,aK 0,av⟩ fun ac ag ae ab aa=> ?_);obtain ⟨e0,e2,e3,e4⟩:=aa.k4 e0 e2 e3 e4;have e5:=aa.V 1;refine wp_cond_split e5 (fun hc1=> ?_) (fun hc1=> ?_)
 · have hd1:=hc1;skip;refine wp_seq (eA ab [] ⟨aq fun c=>ax rfl rfl,aq fun c=>ax rfl rfl,av⟩ fun ac ag ae ab aa=> ?_);obtain ⟨e0,e4⟩:=aa.k2 e0 e4;have e2:=aa.V 0;have e3:=aa.V 1;refine wp_ret ?_;refine rp ?_;refine nZ (fn:=Tryz.f140) rfl ab.defers e2 e3 ?_;exact ⟨congrArg _ (show (Value.tuple #[(bc (⟨#[]⟩:ByteArray)),(aE false)])= .tuple #[bc (nx s).1,aE (nx s).2] from by rw [show nx s=((⟨#[]⟩:ByteArray),false) from (by unfold nx;(repeat (first | rw [if_neg (by first | assumption | (simp only [ci];assumption))] | rw [if_pos (by assumption)])))]),ab.ext0⟩
 have hd1:=hc1;skip;refine wp_seq (eA ab [] ⟨aq fun c=>eI rfl (c.p e4) rfl,aK 0,av⟩ fun ac ag ae ab aa=> ?_);obtain ⟨e0,e2,e3,e4⟩:=aa.k4 e0 e2 e3 e4;have e7:=aa.V 1;refine wp_cond_split e7 (fun hc2=> ?_) (fun hc2=> ?_)
 · have hd2:=hc2;skip;refine wp_seq (eA ab [] ⟨aq fun c=>ax rfl rfl,aq fun c=>ax rfl rfl,av⟩ fun ac ag ae ab aa=> ?_);obtain ⟨e0,e4⟩:=aa.k2 e0 e4;have e2:=aa.V 0;have e3:=aa.V 1;refine wp_ret ?_;refine rp ?_;refine nZ (fn:=Tryz.f140) rfl ab.defers e2 e3 ?_;exact ⟨congrArg _ (show (Value.tuple #[(bc (⟨#[10]⟩:ByteArray)),(aE true)])= .tuple #[bc (nx s).1,aE (nx s).2] from by rw [show nx s=((⟨#[10]⟩:ByteArray),true) from (by unfold nx;(repeat (first | rw [if_neg (by first | assumption | (simp only [ci];assumption))] | rw [if_pos (by assumption)])))]),ab.ext0⟩
 have hd2:=hc2;skip;refine wp_seq (eA ab [] ⟨aq fun c=>eI rfl (c.p e4) rfl,aK 0,av⟩ fun ac ag ae ab aa=> ?_);obtain ⟨e0,e2,e3,e4⟩:=aa.k4 e0 e2 e3 e4;have e9:=aa.V 1;refine wp_cond_split e9 (fun hc3=> ?_) (fun hc3=> ?_)
 · have hd3:=hc3;skip;refine wp_seq (eA ab [] ⟨aq fun c=>ax rfl rfl,aq fun c=>ax rfl rfl,av⟩ fun ac ag ae ab aa=> ?_);obtain ⟨e0,e4⟩:=aa.k2 e0 e4;have e2:=aa.V 0;have e3:=aa.V 1;refine wp_ret ?_;refine rp ?_;refine nZ (fn:=Tryz.f140) rfl ab.defers e2 e3 ?_;exact ⟨congrArg _ (show (Value.tuple #[(bc (⟨#[13]⟩:ByteArray)),(aE true)])= .tuple #[bc (nx s).1,aE (nx s).2] from by rw [show nx s=((⟨#[13]⟩:ByteArray),true) from (by unfold nx;(repeat (first | rw [if_neg (by first | assumption | (simp only [ci];assumption))] | rw [if_pos (by assumption)])))]),ab.ext0⟩
 have hd3:=hc3;skip;refine wp_seq (eA ab [] ⟨aq fun c=>eI rfl (c.p e4) rfl,aK 0,av⟩ fun ac ag ae ab aa=> ?_);obtain ⟨e0,e2,e3,e4⟩:=aa.k4 e0 e2 e3 e4;have e11:=aa.V 1;refine wp_cond_split e11 (fun hc4=> ?_) (fun hc4=> ?_)
 · have hd4:=hc4;skip;refine wp_seq (eA ab [] ⟨aq fun c=>ax rfl rfl,aq fun c=>ax rfl rfl,av⟩ fun ac ag ae ab aa=> ?_);obtain ⟨e0,e4⟩:=aa.k2 e0 e4;have e2:=aa.V 0;have e3:=aa.V 1;refine wp_ret ?_;refine rp ?_;refine nZ (fn:=Tryz.f140) rfl ab.defers e2 e3 ?_;exact ⟨congrArg _ (show (Value.tuple #[(bc (⟨#[9]⟩:ByteArray)),(aE true)])= .tuple #[bc (nx s).1,aE (nx s).2] from by rw [show nx s=((⟨#[9]⟩:ByteArray),true) from (by unfold nx;(repeat (first | rw [if_neg (by first | assumption | (simp only [ci];assumption))] | rw [if_pos (by assumption)])))]),ab.ext0⟩
 have hd4:=hc4;skip;refine wp_seq (eA ab [] ⟨aq fun c=>eI rfl (c.p e4) rfl,aK 0,av⟩ fun ac ag ae ab aa=> ?_);obtain ⟨e0,e2,e3,e4⟩:=aa.k4 e0 e2 e3 e4;have e13:=aa.V 1;refine wp_cond_split e13 (fun hc5=> ?_) (fun hc5=> ?_)
 · have hd5:=hc5;skip;refine wp_seq (eA ab [] ⟨aq fun c=>ax rfl rfl,aq fun c=>ax rfl rfl,av⟩ fun ac ag ae ab aa=> ?_);obtain ⟨e0,e4⟩:=aa.k2 e0 e4;have e2:=aa.V 0;have e3:=aa.V 1;refine wp_ret ?_;refine rp ?_;refine nZ (fn:=Tryz.f140) rfl ab.defers e2 e3 ?_;exact ⟨congrArg _ (show (Value.tuple #[(bc (⟨#[12]⟩:ByteArray)),(aE true)])= .tuple #[bc (nx s).1,aE (nx s).2] from by rw [show nx s=((⟨#[12]⟩:ByteArray),true) from (by unfold nx;(repeat (first | rw [if_neg (by first | assumption | (simp only [ci];assumption))] | rw [if_pos (by assumption)])))]),ab.ext0⟩
 have hd5:=hc5;skip;refine wp_seq (eA ab [] ⟨aq fun c=>eI rfl (c.p e4) rfl,aK 0,av⟩ fun ac ag ae ab aa=> ?_);obtain ⟨e0,e2,e3⟩:=aa.k3 e0 e2 e3;have e15:=aa.V 1;refine wp_cond_split e15 (fun hc6=> ?_) (fun hc6=> ?_)
 · have hd6:=hc6;skip;refine wp_seq (eA ab [] ⟨aq fun c=>ax rfl rfl,aq fun c=>ax rfl rfl,av⟩ fun ac ag ae ab aa=> ?_);replace e0:=aa.k1 e0;have e2:=aa.V 0;have e3:=aa.V 1;refine wp_ret ?_;refine rp ?_;refine nZ (fn:=Tryz.f140) rfl ab.defers e2 e3 ?_;exact ⟨congrArg _ (show (Value.tuple #[(bc (⟨#[11]⟩:ByteArray)),(aE true)])= .tuple #[bc (nx s).1,aE (nx s).2] from by rw [show nx s=((⟨#[11]⟩:ByteArray),true) from (by unfold nx;(repeat (first | rw [if_neg (by first | assumption | (simp only [ci];assumption))] | rw [if_pos (by assumption)])))]),ab.ext0⟩
 have hd6:=hc6;skip;refine wp_skip ?_;show _;refine wp_seq (mG [0,0,2,6,14,30,62,126,63,511] ab [] ⟨ao e0,ao e0,aq fun c=>eI rfl (c.q 1) rfl,bD 2,bm 3 rfl fun c hpc=>aS rfl (c.p e0),fC 3 false rfl fun c hpc=>⟨_,_,(bK rfl rfl Tryz.call114 (c.M 4 hpc)),BU s _⟩,bm 3 rfl fun c hpc=>ew rfl (c.M 5 hpc),dm 3 6,aK 0,aK 7,av⟩ fun ac ag ae ab aa=> ?_);have e2:=aa.V 8;have e3:=aa.V 9;refine wp_ret ?_;refine rp ?_;refine nZ (fn:=Tryz.f140) rfl ab.defers e2 e3 ?_;exact ⟨congrArg _ (show (Value.tuple #[(bc s),(aE ((gM s (⟨#[95]⟩:ByteArray)) || (!(uU s))))])= .tuple #[bc (nx s).1,aE (nx s).2] from by rw [show nx s=(s,(gM s (⟨#[95]⟩:ByteArray)) || (!(uU s))) from (by unfold nx;(repeat (first | rw [if_neg (by first | assumption | (simp only [ci];assumption))] | rw [if_pos (by assumption)])))]),ab.ext0⟩
end
section
open Go.RowKit
open Srt
set_option maxRecDepth 100000 in
theorem Dp (v:Value) (cv:Sv) (cs:List ByteArray) (i:Nat) (d:Int) (w:World) (hR:RxR 98 v cv cs i d w) (hL:zt cs) (hi:i≤cs.length):Calls Tryz.prog 141 #[v] w (fun e w'=>∃(n:Int) (ok:Bool) (j:Nat),e= .returned (.tuple #[aj n,aE ok])∧Ext (bY v) w w'∧cH 98 [cv.v,aj ((j:Nat):Int),aj d] (bY v) v w'∧True∧wK cs i n ok j):=by
 refine fj (bY v) (fun g hg=>hR.box.lt g hg) (n:=55) Tryz.func141 rfl rfl (aw rfl) ?_;intro a0 τ0 ha hτ st0;have e0:=oz ha;have hL1:=hL.1.1;have r0:cH 98 [cv.v,aj ((i:Nat):Int),aj d] (τ0 0) v w:=by rw [hτ];exact hR.box
 have r9:Fz (fb gR Al cv.v cs) τ0 w:=hR.inz st0;refine wp_seq (eA st0 [jb r0,jz 9 r9] ⟨aq fun c=>ax rfl rfl,aq fun c=>ax rfl rfl,av⟩ fun ac ag ae ab aa=> ?_);replace e0:=aa.k1 e0;have e2:=aa.V 0;have e3:=aa.V 1;replace r0:=aa.B 0;replace r9:=aa.z1 9;refine wp_seq (eA ab [jb r0,jz 9 r9] ⟨aq fun c=>ax rfl rfl,aq fun c=>ax rfl rfl,av⟩ fun ac ag ae ab aa=> ?_);obtain ⟨e0,e2,e3⟩:=aa.k3 e0 e2 e3;have e4:=aa.V 0;have e5:=aa.V 1;replace r0:=aa.B 0;replace r9:=aa.z1 9;refine wp_seq ?_;refine wp_seq (xk ab [jb r0,jz 9 r9] ⟨ao e0,cD 0 r0.ptr,bS bo bQ 1 r0.ptr,eE fun c=>⟨_,_,(bK rfl rfl kr (c.q 2)),oU v cv cs i d _ (oD (c.B 0) (c.iz 9 rfl) (fun g_ h_ hz_=>hz_.2 _ h_))⟩,aK 3,av⟩ fun ac ag ae ab aa=> ?_);obtain ⟨e0,e2,e3,e4,e5⟩:=aa.k5 e0 e2 e3 e4 e5;have e6:=aa.V 4;replace r0:=aa.B 0;replace r9:=aa.z1 9;refine wp_block ?_;refine wp_loop (fun a_ w_=>∃(n:Int) (m j:Nat) (τ:Nat→bj),(0≤n∧n < 10 ^ m)∧
      (m≤3)∧
      (i≤j)∧
      (j≤cs.length)∧
      St (fun k=>bY v k∨w.heap.size≤k) w 55 a_ w_ τ∧
      be a_ 4=(aj n)∧
      be a_ 5=(aj (m:Int))∧
      be a_ 6=(bc (de cs j))∧
      be a_ 0=v∧
      cH 98 [cv.v,(aj ((j:Nat):Int)),(aj d)] (τ 0) v w_∧
      Fz (fb gR Al cv.v cs) τ w_) (fun a_ _=>(4 - intOf (be a_ 5)).toNat) ?_ ?_
 · refine ⟨0,0,i,ae,?_,?_,?_,?_,ab,(e4.trans (bB (by omega))),(e5.trans (bB (by omega))),e6,e0,r0,r9⟩
   · decide
   · omega
   · omega
   · omega
 intro a4 w4 hI;obtain ⟨n,m,j,τ4,q0,q1,q2,q3,st4,e4,e5,e6,e0,r0,r9⟩:=hI;have hn1000:n < 1000:=nV q0.2 (by show (10:Int) ^ m≤1000;match m,(show m≤3 by omega) with | 0,_=>decide | 1,_=>decide | 2,_=>decide | 3,_=>decide)
 have m5:=e5;refine wp_seq ?_;refine wp_seq ?_;refine rg [_,_,_,_,_,_,_,_,_,_,_,_,_] [0,1,3,7,15,31,63,127,255,511,1023,2047,4095] st4 [jb r0,jz 9 r9] ⟨ao e6,aq fun c=>fA rfl aZ (c.q 0),aq fun c=>cY rfl (c.q 1) rfl,bD 2,aL 3 rfl fun c hpc=>aS rfl (c.p e6),aL 3 rfl fun c hpc=>li rfl aZ (c.M 4 hpc) rfl (by have hq0:=bt hpc;first | omega | (have h_:=ij (de cs j) 0;omega) | (rw [hwr];omega)) (by have hq0:=bt hpc;first | omega | (have h_:=ij (de cs j) 0;omega) | (rw [hwr];omega)),aL 3 rfl fun c hpc=>iC rfl (c.M 5 hpc) rfl,bZ 3 6,bD 7,aL 8 rfl fun c hpc=>aS rfl (c.p e6),aL 8 rfl fun c hpc=>li rfl aZ (c.M 9 hpc) rfl (by have hq0:=hpc;(try simp only [au,ai] at hq0);first | omega | (have h_:=ij (de cs j) 0;omega) | (rw [hwr];omega)) (by have hq0:=hpc;(try simp only [au,ai] at hq0);first | omega | (have h_:=ij (de cs j) 0;omega) | (rw [hwr];omega)),aL 8 rfl fun c hpc=>mX rfl (c.M 10 hpc) rfl,bZ 8 11,av⟩ fun ac ag ae ab aa=> ?_;obtain ⟨e0,e4,e5,e6⟩:=aa.k4 e0 e4 e5 e6;have e23:=aa.V 12;replace r0:=aa.B 0;replace r9:=aa.z1 9;refine wp_cond_split e23 (fun hc1=> ?_) (fun hc1=> ?_)
 · try simp only [au,ai] at hc1
   refine wp_skip ?_;refine wp_seq ?_;refine wp_block ?_;refine wp_seq ?_;refine fX ab [jb r0,jz 9 r9] ⟨ao e5,aq fun c=>cN rfl (c.q 0) rfl (by first | omega | (have h_:=ij (de cs j) 0;omega) | (rw [hwr];omega)),aK 1,av⟩ fun ac ag ae ab aa=> ?_;obtain ⟨e0,e4,e6,e23⟩:=aa.k4 e0 e4 e6 e23;have e5:=aa.V 2;replace r0:=aa.B 0;replace r9:=aa.z1 9;refine wp_seq ?_;refine wp_seq (eA ab [jb r0,jz 9 r9] ⟨ao e5,aq fun c=>ii rfl (c.q 0) rfl,av⟩ fun ac ag ae ab aa=> ?_);obtain ⟨e0,e4,e5,e6,e23⟩:=aa.k5 e0 e4 e5 e6 e23;have e31:=aa.V 1;replace r0:=aa.B 0;replace r9:=aa.z1 9;refine wp_cond_split e31 (fun hc2=> ?_) (fun hc2=> ?_)
   · try simp only [ai] at hc2
     refine wp_seq (eA ab [jb r0,jz 9 r9] ⟨aq fun c=>ax rfl rfl,aq fun c=>ax rfl rfl,av⟩ fun ac ag ae ab aa=> ?_);obtain ⟨e0,e4,e5,e6,e23,e31⟩:=aa.k6 e0 e4 e5 e6 e23 e31;have e2:=aa.V 0;have e3:=aa.V 1;replace r0:=aa.B 0;replace r9:=aa.z1 9;refine wp_ret ?_;refine rp ?_;refine nZ (fn:=Tryz.f141) rfl ab.defers e2 e3 ?_;exact ⟨0,false,j,rfl,ab.extIn,r0.foot,av,⟨by omega,by omega⟩,by omega,fun h_=>by cases h_⟩
   try simp only [ah,aV] at hc2
   refine wp_skip ?_;refine wp_seq ?_;have hbr:=ij (de cs j) 0;have hcb:((((de cs j).size:Int)=1∧(48:Int)≤cP (de cs j) 0)∧cP (de cs j) 0≤57):=by assumption
   have hwr:IntKind.i64.wrap (IntKind.u8.wrap (cP (de cs j) 0 - 48))=cP (de cs j) 0 - 48:=by rw [KS (by simp only [ut,au,ai];omega),KT (by omega)]
   have hsz1:=sZ hcb.1.1;refine xC [0,1,0,4,12,28,63,127] ab [jb r0,jz 9 r9] ⟨ao e4,aq fun c=>zx rfl rfl (c.q 0) (by first | omega | (have h_:=ij (de cs j) 0;omega) | (rw [hwr];omega)),ao e6,aq fun c=>li rfl aZ (c.q 2) rfl (by first | omega | (have h_:=ij (de cs j) 0;omega) | (rw [hwr];omega)) (by first | omega | (have h_:=ij (de cs j) 0;omega) | (rw [hwr];omega)),aq fun c=>EO rfl (c.q 3) rfl,aq fun c=>lg rfl lu bX (c.q 4),aq fun c=>cN rfl (c.q 1) (c.q 5) (by first | omega | (have h_:=ij (de cs j) 0;omega) | (rw [hwr];omega)),aK 6,av⟩ fun ac ag ae ab aa=> ?_;obtain ⟨e0,e5,e6,e23,e31⟩:=aa.k5 e0 e5 e6 e23 e31;have e4:=aa.V 7;replace r0:=aa.B 0;replace r9:=aa.z1 9;replace e4:be ac 4=aj (10 * n+(cP (de cs j) 0 - 48)):=by rw [e4,hwr]
   refine mG [0,1,3,7,15,31,63,127,255,511] ab [jb r0,jz 9 r9] ⟨ao e0,cD 0 r0.ptr,bS bo bQ 1 r0.ptr,bS bU aA 2 rfl,aq fun c=>aI rfl aN (c.q 3) (by rw [add_add];exact (c.ib 0 rfl).cell (j:=1) rfl),aq fun c=>cN rfl (c.q 4) rfl (by first | omega | (have h_:=ij (de cs j) 0;omega) | (rw [hwr];omega)),cD 0 r0.ptr,bS bo bQ 6 r0.ptr,bS bU aA 7 rfl,cp (cx:=[cv.v,(aj (((j:Nat):Int)+1)),(aj d)]) aA fun c=>⟨c.bp 0 rfl e0,c.ad (c.q 8) e0 rfl,(c.q 5)⟩,av⟩ fun ac ag ae ab aa=> ?_;obtain ⟨e0,e4,e5,e6,e23,e31⟩:=aa.k6 e0 e4 e5 e6 e23 e31;replace r0:=aa.RB 9 e0;replace r9:=aa.z1 9;replace r0:cH 98 [cv.v,aj ((j+1:Nat):Int),aj d] (ae 0) v ag:=by rw [show ((j+1:Nat):Int)=((j:Nat):Int)+1 from by omega];exact r0
   show _;refine xk ab [jb r0,jz 9 r9] ⟨ao e0,cD 0 r0.ptr,bS bo bQ 1 r0.ptr,eE fun c=>⟨_,_,(bK rfl rfl kr (c.q 2)),oU v cv cs (j+1) d _ (oD (c.B 0) (c.iz 9 rfl) (fun g_ h_ hz_=>hz_.2 _ h_))⟩,aK 3,av⟩ fun ac ag ae ab aa=> ?_;obtain ⟨e0,e4,e5,e23,e31⟩:=aa.k5 e0 e4 e5 e23 e31;have e6:=aa.V 4;replace r0:=aa.B 0;replace r9:=aa.z1 9;refine ⟨⟨10 * n+(cP (de cs j) 0 - 48),m+1,j+1,ae,?_,?_,?_,?_,ab,(e4.trans (bB (by omega))),(e5.trans (bB (by omega))),e6,e0,r0,r9⟩,?_⟩
   · rw [Int.pow_succ];omega
   · omega
   · omega
   · omega
   · simp only [m5,e5,intOf];omega
 try simp only [bl,ah,dD] at hc1
 refine wp_exit ?_;repeat (with_reducible refine cy ?_)
 refine cC ?_;refine wp_seq (xD [0,0,2,6,14,30,62,15,255] ab [jb r0,jz 9 r9] ⟨ao e4,ao e5,aq fun c=>ii rfl (c.q 1) rfl,bD 2,aL 3 rfl fun c hpc=>aS rfl (c.p e4),aL 3 rfl fun c hpc=>mX rfl (c.M 4 hpc) rfl,bZ 3 5,aK 0,aK 6,av⟩ fun ac ag ae ab aa=> ?_);replace e0:=aa.k1 e0;have e2:=aa.V 7;have e3:=aa.V 8;replace r0:=aa.B 0;replace r9:=aa.z1 9;refine wp_ret ?_;refine rp ?_;refine nZ (fn:=Tryz.f141) rfl ab.defers e2 e3 ?_;exact ⟨n,((decide (0 < (m:Int)))&&(decide (n≤255))),j,rfl,ab.extIn,r0.foot,av,⟨by omega,by omega⟩,by omega,fun h_=>HZ h_⟩
set_option maxRecDepth 100000 in
theorem Ie (v:Value) (cv:Sv) (cs:List ByteArray) (i:Nat) (d:Int) (w:World) (hR:RxR 98 v cv cs i d w) (hL:zt cs) (hi:i≤cs.length):Calls Tryz.prog 121 #[v] w (fun e w'=>∃(lo hi:Int) (ok:Bool) (j:Nat),e= .returned (.tuple #[aj lo,aj hi,aE ok])∧Ext (bY v) w w'∧cH 98 [cv.v,aj ((j:Nat):Int),aj d] (bY v) v w'∧True∧Dn cs i lo hi ok j):=by
 refine fj (bY v) (fun g hg=>hR.box.lt g hg) (n:=50) Tryz.func121 rfl rfl (aw rfl) ?_;intro a0 τ0 ha hτ st0;have e0:=oz ha;have hL1:=hL.1.1;have r0:cH 98 [cv.v,aj ((i:Nat):Int),aj d] (τ0 0) v w:=by rw [hτ];exact hR.box
 have r9:Fz (fb gR Al cv.v cs) τ0 w:=hR.inz st0;refine wp_seq (fX st0 [jb r0,jz 9 r9] ⟨aq fun c=>ax rfl rfl,aq fun c=>ax rfl rfl,aq fun c=>ax rfl rfl,av⟩ fun ac ag ae ab aa=> ?_);replace e0:=aa.k1 e0;have e2:=aa.V 0;have e3:=aa.V 1;have e4:=aa.V 2;replace r0:=aa.B 0;replace r9:=aa.z1 9;refine wp_seq ?_;refine aY ?_;refine bV 2 (by kernel_rfl) ?_;refine og [_,mi 98 _ 0 10 v (fun b:Int × Bool × Nat=> [cv.v,aj ((b.2.2:Nat):Int),aj d]) (fun b:Int × Bool × Nat=> .tuple #[aj b.1,aE b.2.1]) (fun b:Int × Bool × Nat=>wK cs i b.1 b.2.1 b.2.2) (fun _:Int × Bool × Nat=>zT)] [0,1] ab [jb r0,jz 9 r9] ⟨ao e0,ku (cells:=fun b:Int × Bool × Nat=> [cv.v,aj ((b.2.2:Nat):Int),aj d]) (f:=fun b:Int × Bool × Nat=> .tuple #[aj b.1,aE b.2.1]) (Ψ:=fun b:Int × Bool × Nat=>wK cs i b.1 b.2.1 b.2.2) (Φ:=fun _:Int × Bool × Nat=>zT) fun {_ a_ _ _} c=>⟨_,_,(bK rfl rfl Tryz.call141 (c.q 0)),(Dp v cv cs i d _ (oD (c.B 0) (c.iz 9 rfl) (fun g_ h_ hz_=>hz_.2 _ h_)) hL (by omega)).mono (fun e w' ⟨h0_,h1_,h2_,he_,hx_,hb_,hs_,hp_⟩=>⟨⟨h0_,h1_,h2_⟩,he_,(c.ib 0 rfl).ext hx_,hb_.back (c.ib 0 rfl),hp_,av⟩)⟩,av⟩ fun ac ag ae ab aa=> ?_;obtain ⟨e0,e2,e3,e4⟩:=aa.k4 e0 e2 e3 e4;obtain ⟨⟨n1_,ok1_,j1_⟩,e10,hro2,hq1_,hz2⟩:=aa.zb 1 rfl;have e10:be ac 10=(.tuple #[(aj n1_),(aE ok1_)]):=e10;have hq1_:wK cs i n1_ ok1_ j1_:=hq1_;obtain ⟨hj1_,hn1_,hk1_⟩:=hq1_;replace r0:cH 98 [cv.v,(aj ((j1_:Nat):Int)),(aj d)] (ae 0) v ag:=hro2;replace r9:=aa.z1 9;refine bW ?_;refine og [_,_,_,_,_] [0,1,3,7,15] ab [jb r0,jz 9 r9] ⟨ao e10,bR 0,bR 0,aK 1,aK 2,av⟩ fun ac ag ae ab aa=> ?_;obtain ⟨e0,e2,e3,e4⟩:=aa.k4 e0 e2 e3 e4;have e5:=aa.V 3;have e6:=aa.V 4;replace r0:=aa.B 0;replace r9:=aa.z1 9;refine wp_seq ?_;refine wp_seq (eA ab [jb r0,jz 9 r9] ⟨ao e6,aq fun c=>ew rfl (c.q 0),av⟩ fun ac ag ae ab aa=> ?_);obtain ⟨e0,e2,e3,e4,e5,e6⟩:=aa.k6 e0 e2 e3 e4 e5 e6;have e14:=aa.V 1;replace r0:=aa.B 0;replace r9:=aa.z1 9;refine wp_cond_split e14 (fun hc1=> ?_) (fun hc1=> ?_)
 · try simp only [ar,am] at hc1
   refine wp_seq (fX ab [jb r0,jz 9 r9] ⟨aq fun c=>ax rfl rfl,aq fun c=>ax rfl rfl,aq fun c=>ax rfl rfl,av⟩ fun ac ag ae ab aa=> ?_);obtain ⟨e0,e5,e6⟩:=aa.k3 e0 e5 e6;have e2:=aa.V 0;have e3:=aa.V 1;have e4:=aa.V 2;replace r0:=aa.B 0;replace r9:=aa.z1 9;refine wp_ret ?_;refine rp ?_;refine qk (fn:=Tryz.f121) rfl ab.defers e2 e3 e4 ?_;exact ⟨0,0,false,j1_,rfl,ab.extIn,r0.foot,av,⟨by omega,by omega⟩,fun h_=>by cases h_⟩
 try simp only [ar,am] at hc1
 refine wp_skip ?_;refine wp_seq ?_;refine wp_seq (rg [_,_,_,kG 98 _ 0 18 v [cv.v,(aj ((tkN cs j1_ (⟨#[125]⟩:ByteArray):Nat):Int)),(aj d)] (aE (gj cs j1_ (⟨#[125]⟩:ByteArray)))] [0,1,3,7] ab [jb r0,jz 9 r9] ⟨ao e0,cD 0 r0.ptr,bS bo bQ 1 r0.ptr,iZ fun {_ a_ _ _} c=>⟨_,_,(ck rfl rfl gA (c.q 2) rfl),ja (c.B 0) (jS v cv cs j1_ d (⟨#[125]⟩:ByteArray) _ (oD (c.B 0) (c.iz 9 rfl) (fun g_ h_ hz_=>hz_.2 _ h_)) hL (by omega) (by decide+kernel))⟩,av⟩ fun ac ag ae ab aa=> ?_);obtain ⟨e0,e2,e3,e4,e5,e6⟩:=aa.k6 e0 e2 e3 e4 e5 e6;have e18:=aa.dv 3 rfl;replace r0:=aa.db 3 rfl;replace r9:=aa.z1 9;refine wp_cond_split e18 (fun hc2=> ?_) (fun hc2=> ?_)
 · skip;have htk2:gj cs j1_ (⟨#[125]⟩:ByteArray)=true:=hc2;have htl2:=kx htk2;rw [na htk2] at r0;refine wp_seq (vO [0,0,1,7,15] ab [jb r0,jz 9 r9] ⟨ao e5,ao e5,aK 0,aK 1,aq fun c=>ax rfl rfl,av⟩ fun ac ag ae ab aa=> ?_);obtain ⟨e0,e5,e6⟩:=aa.k3 e0 e5 e6;have e2:=aa.V 2;have e3:=aa.V 3;have e4:=aa.V 4;replace r0:=aa.B 0;replace r9:=aa.z1 9;refine wp_ret ?_;refine rp ?_;refine qk (fn:=Tryz.f121) rfl ab.defers e2 e3 e4 ?_;exact ⟨n1_,n1_,true,j1_+1,rfl,ab.extIn,r0.foot,av,⟨by omega,by omega⟩,fun h_=>(by (try have h1_:=hk1_ (by assumption));(try have h2_:=hk2_ (by assumption));omega)⟩
 skip;have htk2:gj cs j1_ (⟨#[125]⟩:ByteArray)=false:=hc2;rw [mD htk2] at r0;refine wp_skip ?_;refine wp_seq ?_;refine wp_seq (rg [_,_,_,kG 98 _ 0 24 v [cv.v,(aj ((tkN cs j1_ (⟨#[44]⟩:ByteArray):Nat):Int)),(aj d)] (aE (gj cs j1_ (⟨#[44]⟩:ByteArray))),_] [0,1,3,7,15] ab [jb r0,jz 9 r9] ⟨ao e0,cD 0 r0.ptr,bS bo bQ 1 r0.ptr,iZ fun {_ a_ _ _} c=>⟨_,_,(ck rfl rfl gA (c.q 2) rfl),ja (c.B 0) (jS v cv cs j1_ d (⟨#[44]⟩:ByteArray) _ (oD (c.B 0) (c.iz 9 rfl) (fun g_ h_ hz_=>hz_.2 _ h_)) hL (by omega) (by decide+kernel))⟩,aq fun c=>ew rfl (c.dv 3 rfl),av⟩ fun ac ag ae ab aa=> ?_);obtain ⟨e0,e2,e3,e4,e5,e6⟩:=aa.k6 e0 e2 e3 e4 e5 e6;have e25:=aa.V 4;replace r0:=aa.db 3 rfl;replace r9:=aa.z1 9;refine wp_cond_split e25 (fun hc3=> ?_) (fun hc3=> ?_)
 · try simp only [ar,am] at hc3
   have htk3:gj cs j1_ (⟨#[44]⟩:ByteArray)=false:=by simpa using hc3
   rw [mD htk3] at r0;refine wp_seq (fX ab [jb r0,jz 9 r9] ⟨aq fun c=>ax rfl rfl,aq fun c=>ax rfl rfl,aq fun c=>ax rfl rfl,av⟩ fun ac ag ae ab aa=> ?_);obtain ⟨e0,e5,e6⟩:=aa.k3 e0 e5 e6;have e2:=aa.V 0;have e3:=aa.V 1;have e4:=aa.V 2;replace r0:=aa.B 0;replace r9:=aa.z1 9;refine wp_ret ?_;refine rp ?_;refine qk (fn:=Tryz.f121) rfl ab.defers e2 e3 e4 ?_;exact ⟨0,0,false,j1_,rfl,ab.extIn,r0.foot,av,⟨by omega,by omega⟩,fun h_=>by cases h_⟩
 try simp only [ar,am] at hc3
 have htk3:gj cs j1_ (⟨#[44]⟩:ByteArray)=true:=by simpa using hc3
 have htl3:=kx htk3;rw [na htk3] at r0;refine wp_skip ?_;refine wp_seq ?_;refine wp_seq (rg [_,_,_,kG 98 _ 0 29 v [cv.v,(aj ((tkN cs (j1_+1) (⟨#[125]⟩:ByteArray):Nat):Int)),(aj d)] (aE (gj cs (j1_+1) (⟨#[125]⟩:ByteArray)))] [0,1,3,7] ab [jb r0,jz 9 r9] ⟨ao e0,cD 0 r0.ptr,bS bo bQ 1 r0.ptr,iZ fun {_ a_ _ _} c=>⟨_,_,(ck rfl rfl gA (c.q 2) rfl),ja (c.B 0) (jS v cv cs (j1_+1) d (⟨#[125]⟩:ByteArray) _ (oD (c.B 0) (c.iz 9 rfl) (fun g_ h_ hz_=>hz_.2 _ h_)) hL (by omega) (by decide+kernel))⟩,av⟩ fun ac ag ae ab aa=> ?_);obtain ⟨e0,e2,e3,e4,e5,e6⟩:=aa.k6 e0 e2 e3 e4 e5 e6;have e29:=aa.dv 3 rfl;replace r0:=aa.db 3 rfl;replace r9:=aa.z1 9;refine wp_cond_split e29 (fun hc4=> ?_) (fun hc4=> ?_)
 · skip;have htk4:gj cs (j1_+1) (⟨#[125]⟩:ByteArray)=true:=hc4;have htl4:=kx htk4;rw [na htk4] at r0;refine wp_seq (xi ab [jb r0,jz 9 r9] ⟨ao e5,aK 0,aq fun c=>ax rfl rfl,aq fun c=>ax rfl rfl,av⟩ fun ac ag ae ab aa=> ?_);obtain ⟨e0,e5,e6⟩:=aa.k3 e0 e5 e6;have e2:=aa.V 1;have e3:=aa.V 2;have e4:=aa.V 3;replace r0:=aa.B 0;replace r9:=aa.z1 9;refine wp_ret ?_;refine rp ?_;refine qk (fn:=Tryz.f121) rfl ab.defers e2 e3 e4 ?_;exact ⟨n1_,(-1),true,(j1_+1)+1,rfl,ab.extIn,r0.foot,av,⟨by omega,by omega⟩,fun h_=>(by (try have h1_:=hk1_ (by assumption));(try have h2_:=hk2_ (by assumption));omega)⟩
 skip;have htk4:gj cs (j1_+1) (⟨#[125]⟩:ByteArray)=false:=hc4;rw [mD htk4] at r0;refine wp_skip ?_;refine wp_seq ?_;refine aY ?_;refine bV 2 (by kernel_rfl) ?_;refine og [_,mi 98 _ 0 33 v (fun b:Int × Bool × Nat=> [cv.v,aj ((b.2.2:Nat):Int),aj d]) (fun b:Int × Bool × Nat=> .tuple #[aj b.1,aE b.2.1]) (fun b:Int × Bool × Nat=>wK cs (j1_+1) b.1 b.2.1 b.2.2) (fun _:Int × Bool × Nat=>zT)] [0,1] ab [jb r0,jz 9 r9] ⟨ao e0,ku (cells:=fun b:Int × Bool × Nat=> [cv.v,aj ((b.2.2:Nat):Int),aj d]) (f:=fun b:Int × Bool × Nat=> .tuple #[aj b.1,aE b.2.1]) (Ψ:=fun b:Int × Bool × Nat=>wK cs (j1_+1) b.1 b.2.1 b.2.2) (Φ:=fun _:Int × Bool × Nat=>zT) fun {_ a_ _ _} c=>⟨_,_,(bK rfl rfl Tryz.call141 (c.q 0)),(Dp v cv cs (j1_+1) d _ (oD (c.B 0) (c.iz 9 rfl) (fun g_ h_ hz_=>hz_.2 _ h_)) hL (by omega)).mono (fun e w' ⟨h0_,h1_,h2_,he_,hx_,hb_,hs_,hp_⟩=>⟨⟨h0_,h1_,h2_⟩,he_,(c.ib 0 rfl).ext hx_,hb_.back (c.ib 0 rfl),hp_,av⟩)⟩,av⟩ fun ac ag ae ab aa=> ?_;obtain ⟨e0,e2,e3,e4,e5,e6⟩:=aa.k6 e0 e2 e3 e4 e5 e6;obtain ⟨⟨n2_,ok2_,j2_⟩,e33,hro12,hq2_,hz12⟩:=aa.zb 1 rfl;have e33:be ac 33=(.tuple #[(aj n2_),(aE ok2_)]):=e33;have hq2_:wK cs (j1_+1) n2_ ok2_ j2_:=hq2_;obtain ⟨hj2_,hn2_,hk2_⟩:=hq2_;replace r0:cH 98 [cv.v,(aj ((j2_:Nat):Int)),(aj d)] (ae 0) v ag:=hro12;replace r9:=aa.z1 9;refine bW ?_;refine og [_,_,_,_,_] [0,1,3,7,15] ab [jb r0,jz 9 r9] ⟨ao e33,bR 0,bR 0,aK 1,aK 2,av⟩ fun ac ag ae ab aa=> ?_;obtain ⟨e0,e2,e3,e4,e5⟩:=aa.k5 e0 e2 e3 e4 e5;have e6:=aa.V 4;have e7:=aa.V 3;replace r0:=aa.B 0;replace r9:=aa.z1 9;refine wp_seq ?_;rcases cU ok2_ with hs5 | hs5
 · have hd5:=hs5;skip;rcases cU (decide (n1_≤n2_)) with hs6 | hs6
   · have hd6:=hs6;try simp only [ai] at hd6
     refine rg [_,_,_,_,_,_,_,_,_,_,_,_,kG 98 _ 0 48 v [cv.v,(aj ((tkN cs j2_ (⟨#[125]⟩:ByteArray):Nat):Int)),(aj d)] (aE (gj cs j2_ (⟨#[125]⟩:ByteArray))),_,_,_,_] [0,0,0,4,12,12,60,124,252,508,1020,2044,4092,8188,8189,24575,65535] ab [jb r0,jz 9 r9] ⟨ao e5,ao e7,ao e6,aq (v:=(aE true)) fun c=>cA.isB (b:=ok2_) (aS rfl (c.q 2)) (by exact hs5),dg 3 (ao e5),dg 3 (ao e7),dg 3 (aq (v:=(aE true)) fun c=>cA.isB (b:=decide (n1_≤n2_)) (mX rfl (c.q 4) (c.q 5)) (by exact hs6)),aq fun c=>fg rfl (c.q 3) (fun _=>c.q 6) (fun h=>by cases h),bD 7,dg 8 (ao e0),dg 8 (cD 9 r0.ptr),dg 8 (bS bo bQ 10 r0.ptr),dg 8 (iZ fun {_ a_ _ _} c=>⟨_,_,(ck rfl rfl gA (c.q 11) rfl),ja (c.B 0) (jS v cv cs j2_ d (⟨#[125]⟩:ByteArray) _ (oD (c.B 0) (c.iz 9 rfl) (fun g_ h_ hz_=>hz_.2 _ h_)) hL (by omega) (by decide+kernel))⟩),aq fun c=>fg rfl (c.q 8) (fun _=>c.dv 12 rfl) (fun h=>by cases h),aK 0,aK 1,aK 13,av⟩ fun ac ag ae ab aa=> ?_;replace e0:=aa.k1 e0;have e2:=aa.V 14;have e3:=aa.V 15;have e4:=aa.V 16;replace r0:=aa.db 12 rfl;replace r9:=aa.z1 9;refine wp_ret ?_;refine rp ?_;refine qk (fn:=Tryz.f121) rfl ab.defers e2 e3 e4 ?_;have htn_:=mS cs j2_ (⟨#[125]⟩:ByteArray);exact ⟨n1_,n2_,(gj cs j2_ (⟨#[125]⟩:ByteArray)),tkN cs j2_ (⟨#[125]⟩:ByteArray),rfl,ab.extIn,r0.foot,av,⟨by omega,by omega⟩,fun h_=>(by (try have h1_:=hk1_ (by assumption));(try have h2_:=hk2_ (by assumption));omega)⟩
   have hd6:=hs6;try simp only [ah,dD] at hd6
   refine rg [_,_,_,_,_,_,_,_,_,js _ 45,js _ 46,js _ 47,js _ 48,_,_,_,_] [0,0,0,4,12,12,60,124,252,508,1020,2044,4092,8188,8189,24575,65535] ab [jb r0,jz 9 r9] ⟨ao e5,ao e7,ao e6,aq (v:=(aE true)) fun c=>cA.isB (b:=ok2_) (aS rfl (c.q 2)) (by exact hs5),dg 3 (ao e5),dg 3 (ao e7),dg 3 (aq (v:=(aE false)) fun c=>cA.isB (b:=decide (n1_≤n2_)) (mX rfl (c.q 4) (c.q 5)) (by exact hs6)),aq fun c=>fg rfl (c.q 3) (fun _=>c.q 6) (fun h=>by cases h),bD 7,dK 8,dK 8,dK 8,dK 8,aq fun c=>fg rfl (c.q 8) (fun h=>by cases h) (fun _=>rfl),aK 0,aK 1,aK 13,av⟩ fun ac ag ae ab aa=> ?_;replace e0:=aa.k1 e0;have e2:=aa.V 14;have e3:=aa.V 15;have e4:=aa.V 16;replace r0:=aa.B 0;replace r9:=aa.z1 9;refine wp_ret ?_;refine rp ?_;refine qk (fn:=Tryz.f121) rfl ab.defers e2 e3 e4 ?_;exact ⟨n1_,n2_,false,j2_,rfl,ab.extIn,r0.foot,av,⟨by omega,by omega⟩,fun h_=>by cases h_⟩
 have hd6:=hs5;skip;refine rg [_,_,_,_,js _ 40,js _ 41,js _ 42,_,_,js _ 45,js _ 46,js _ 47,js _ 48,_,_,_,_] [0,0,0,4,12,12,60,124,252,508,1020,2044,4092,8188,8189,24575,65535] ab [jb r0,jz 9 r9] ⟨ao e5,ao e7,ao e6,aq (v:=(aE false)) fun c=>cA.isB (b:=ok2_) (aS rfl (c.q 2)) (by exact hs5),dK 3,dK 3,dK 3,aq fun c=>fg rfl (c.q 3) (fun h=>by cases h) (fun _=>rfl),bD 7,dK 8,dK 8,dK 8,dK 8,aq fun c=>fg rfl (c.q 8) (fun h=>by cases h) (fun _=>rfl),aK 0,aK 1,aK 13,av⟩ fun ac ag ae ab aa=> ?_;replace e0:=aa.k1 e0;have e2:=aa.V 14;have e3:=aa.V 15;have e4:=aa.V 16;replace r0:=aa.B 0;replace r9:=aa.z1 9;refine wp_ret ?_;refine rp ?_;refine qk (fn:=Tryz.f121) rfl ab.defers e2 e3 e4 ?_;exact ⟨n1_,n2_,false,j2_,rfl,ab.extIn,r0.foot,av,⟨by omega,by omega⟩,fun h_=>by cases h_⟩
end
section
open Go.RowKit
open Srt
set_option maxRecDepth 100000 in
set_option maxHeartbeats 4000000 in
theorem uz (F:bj) (v:Value) (cv:Sv) (cs:List ByteArray) (i:Nat) (d:Int) (t:Tr) (n:Int) (w:World) (hR:RxR 98 v cv cs i d w) (hL:zt cs) (hi:i≤cs.length) (hT:TrT F w t) (hFd:∀g,F g→¬bY v g) (hd:0≤d∧d≤16) (ha:fU (er t) n d) (hn:1≤n):Calls Tryz.prog 98 #[v,(ta t)] w (fun e w'=>∃(t':Tr) (er_:Int) (j:Nat),e= .returned (.tuple #[t'.v,aj er_])∧Ext (bY v) w w'∧cH 98 [cv.v,aj ((j:Nat):Int),aj d] (bY v) v w'∧TrT (Gn F w) w' t'∧(i≤j∧j≤cs.length)∧(er_=0→TermOk (er t') (n+(((j:Nat):Int) - ((i:Nat):Int))) d)):=by
 refine fj (bY v) (fun g hg=>hR.box.lt g hg) (n:=81) Tryz.func98 rfl rfl (aw rfl) ?_;intro a0 τ0 ha hτ st0;have e0:be a0 0=v:=ha 0 _ rfl;have e1:be a0 1=(ta t):=ha 1 _ rfl;clear ha;have hL1:=hL.1.1;have r0:cH 98 [cv.v,aj ((i:Nat):Int),aj d] (τ0 0) v w:=by rw [hτ];exact hR.box
 have r9:Fz (fb gR Al cv.v cs) τ0 w:=hR.inz st0;have r8:Fz (gT (Gn F w) t) τ0 w:=hT.inT hFd st0;refine wp_seq (rg [box _ _ 1 3 (tc t),box _ _ 2 4 [(aj 0),(bc (⟨#[]⟩:ByteArray)),(aE false),(.slice none 0 0),(aj 0),(aj 0),(aE false),(.slice none 0 0)],_] [0,0,0] st0 [jb r0,jz 8 r8,jz 9 r9] ⟨hH (v:=(ta t)) rfl rfl rfl rfl rfl (fun _ _ _ _ c=>(c.p e1)),bO rfl rfl rfl rfl aD rfl,aq fun c=>ax rfl rfl,av⟩ fun ac ag ae ab aa=> ?_);obtain ⟨b1x3,e3⟩:=gx ac 3;obtain ⟨b1x4,e4⟩:=gx ac 4;replace e0:=aa.k1 e0;have e5:=aa.V 2;replace r0:=aa.B 0;have r1:=aa.rb 0 e3 rfl;have r2:=aa.rb 1 e4 rfl;obtain ⟨r8,r9⟩:=aa.z2 8 9;refine wp_seq ?_;refine aY ?_;refine bV 2 (by kernel_rfl) ?_;refine og [_,iA _ 9 True (fun b:Sv=>b.v) (fun _=>True) (fun b:Sv=>fb lY (Gn F w) b.v [t])] [0,1] ab [jb r0,jb r1,jb r2,jz 8 r8,jz 9 r9] ⟨aq fun c=>dY rfl az ak ((c.p e3).trans r1.ptr) (c.B 1),oR (E:=lY) (xs:=[t]) (cells:=#[(aj t.k),(bc t.ch),(aE t.ng),t.rv.v,(aj t.mn),(aj t.mx),(aE t.lz),t.kv.v]) ab sP rfl aU ak aD (by decide) (by decide) rfl rfl fun c hpc=>gB (c.n 0 rfl) (by kernel_rfl),av⟩ fun ac ag ae ab aa=> ?_;obtain ⟨e0,e3,e4,e5⟩:=aa.k4 e0 e3 e4 e5;obtain ⟨kv1_,e9,-,hz2⟩:=aa.gzd 1 rfl trivial;replace r0:=aa.B 0;replace r1:=aa.B 1;replace r2:=aa.B 2;obtain ⟨r8,r9⟩:=aa.z2 8 9;have r3:=hz2;refine bW ?_;refine og [_,box _ _ 4 6 [(aj 0),(bc (⟨#[]⟩:ByteArray)),(aE false),(.slice none 0 0),(aj 0),(aj 0),(aE false),(.slice none 0 0)],_] [0,1,3] ab [jb r0,jb r1,jb r2,jz 3 r3,jz 8 r8,jz 9 r9] ⟨aq fun c=>eW (cells:=#[(aj 7),(bc (⟨#[]⟩:ByteArray)),(aE false),(.slice none 0 0),(aj 0),(aj 0),(aE false),kv1_.v]) rfl aD (iT rfl (c.p e9) rfl),bO rfl rfl rfl rfl aD rfl,ey (cx:=[(aj 7),(bc (⟨#[]⟩:ByteArray)),(aE false),(.slice none 0 0),(aj 0),(aj 0),(aE false),kv1_.v]) (off:=0) rfl ak fun c=>⟨c.rb 1 rfl,(c.rb 1 rfl).ptr,(c.q 0)⟩,av⟩ fun ac ag ae ab aa=> ?_;obtain ⟨b3x6,e6⟩:=gx ac 6;obtain ⟨e0,e3,e4,e5⟩:=aa.k4 e0 e3 e4 e5;replace r0:=aa.B 0;replace r1:=aa.B 1;replace r2:=aa.B 2;replace r3:=aa.z1 3;have r4:=aa.rb 2 e6 rfl;obtain ⟨r8,r9⟩:=aa.z2 8 9;refine wp_seq ?_;refine wp_seq (xi ab [jb r0,jb r1,jb r2,jz 3 r3,jb r4,jz 8 r8,jz 9 r9] ⟨ao e0,cD 0 r0.ptr,bS bo bQ 1 r0.ptr,eE fun c=>⟨_,_,(bK rfl rfl kr (c.q 2)),oU v cv cs i d _ (oD (c.B 0) (c.iz 9 rfl) (fun g_ h_ hz_=>hz_.2 _ h_))⟩,av⟩ fun ac ag ae ab aa=> ?_);obtain ⟨e0,e3,e4,e5,e6⟩:=aa.k5 e0 e3 e4 e5 e6;have e14:=aa.V 3;replace r0:=aa.B 0;replace r1:=aa.B 1;replace r2:=aa.B 2;obtain ⟨r3,r8,r9⟩:=aa.z3 3 8 9;replace r4:=aa.B 4;refine wp_block ?_;refine wp_seq (eA ab [jb r0,jb r1,jb r2,jz 3 r3,jb r4,jz 8 r8,jz 9 r9] ⟨aq fun c=>eI rfl (c.p e14) rfl,aK 0,av⟩ fun ac ag ae ab aa=> ?_);obtain ⟨e0,e3,e4,e5,e6,e14⟩:=aa.k6 e0 e3 e4 e5 e6 e14;have e16:=aa.V 1;replace r0:=aa.B 0;replace r1:=aa.B 1;replace r2:=aa.B 2;obtain ⟨r3,r8,r9⟩:=aa.z3 3 8 9;replace r4:=aa.B 4;refine wp_cond_split e16 (fun hc1=> ?_) (fun hc1=> ?_)
 · skip;refine wp_seq ?_;have hnx_:=jR (by assumption:gM (de cs i) (⟨#[42]⟩:ByteArray)=true) (by decide+kernel);refine mG [0,1,3,7,15,31,63,127,255,511] ab [jb r0,jb r1,jb r2,jz 3 r3,jb r4,jz 8 r8,jz 9 r9] ⟨ao e0,cD 0 r0.ptr,bS bo bQ 1 r0.ptr,bS bU aA 2 rfl,aq fun c=>aI rfl aN (c.q 3) (by rw [add_add];exact (c.ib 0 rfl).cell (j:=1) rfl),aq fun c=>cN rfl (c.q 4) rfl (by omega),cD 0 r0.ptr,bS bo bQ 6 r0.ptr,bS bU aA 7 rfl,cp (cx:=[cv.v,(aj (((i:Nat):Int)+1)),(aj d)]) aA fun c=>⟨c.bp 0 rfl e0,c.ad (c.q 8) e0 rfl,(c.q 5)⟩,av⟩ fun ac ag ae ab aa=> ?_;obtain ⟨e0,e3,e4,e5,e6,e14⟩:=aa.k6 e0 e3 e4 e5 e6 e14;replace r0:=aa.RB 9 e0;replace r1:=aa.B 1;replace r2:=aa.B 2;obtain ⟨r3,r8,r9⟩:=aa.z3 3 8 9;replace r4:=aa.B 4;replace r0:cH 98 [cv.v,aj ((i+1:Nat):Int),aj d] (ae 0) v ag:=by rw [show ((i+1:Nat):Int)=((i:Nat):Int)+1 from by omega];exact r0
   refine eA ab [jb r0,jb r1,jb r2,jz 3 r3,jb r4,jz 8 r8,jz 9 r9] ⟨cK aJ aA e6 r4.ptr,cp (cx:=[(aj 7),(bc (⟨#[]⟩:ByteArray)),(aE false),(.slice none 0 0),(aj 0),(aj (-1)),(aE false),kv1_.v]) (v:=(aj (-1))) aA fun c=>⟨c.bp 4 rfl e6,c.ad (c.q 0) e6 rfl,rfl⟩,av⟩ fun ac ag ae ab aa=> ?_;obtain ⟨e0,e3,e4,e5,e6,e14⟩:=aa.k6 e0 e3 e4 e5 e6 e14;replace r0:=aa.B 0;replace r1:=aa.B 1;replace r2:=aa.B 2;obtain ⟨r3,r8,r9⟩:=aa.z3 3 8 9;replace r4:=aa.RB 1 e6;show _;refine wp_seq (rg [_,_,_,kG 98 _ 0 78 v [cv.v,(aj ((tkN cs (i+1) (⟨#[63]⟩:ByteArray):Nat):Int)),(aj d)] (aE (gj cs (i+1) (⟨#[63]⟩:ByteArray))),_,_] [0,1,3,7,15,31] ab [jb r0,jb r1,jb r2,jz 3 r3,jb r4,jz 8 r8,jz 9 r9] ⟨ao e0,cD 0 r0.ptr,bS bo bQ 1 r0.ptr,iZ fun {_ a_ _ _} c=>⟨_,_,(ck rfl rfl gA (c.q 2) rfl),ja (c.B 0) (jS v cv cs (i+1) d (⟨#[63]⟩:ByteArray) _ (oD (c.B 0) (c.iz 9 rfl) (fun g_ h_ hz_=>hz_.2 _ h_)) hL (by omega) (by decide+kernel))⟩,cK aJ cj e6 r4.ptr,cp (cx:=[(aj 7),(bc (⟨#[]⟩:ByteArray)),(aE false),(.slice none 0 0),(aj 0),(aj (-1)),(aE (gj cs (i+1) (⟨#[63]⟩:ByteArray))),kv1_.v]) cj fun c=>⟨c.bp 4 rfl e6,c.ad (c.q 4) e6 rfl,(c.dv 3 rfl)⟩,av⟩ fun ac ag ae ab aa=> ?_);obtain ⟨e0,e4,e5,e6⟩:=aa.k4 e0 e4 e5 e6;replace r0:=aa.db 3 rfl;replace r2:=aa.B 2;obtain ⟨r3,r8,r9⟩:=aa.z3 3 8 9;replace r4:=aa.RB 5 e6;refine wp_seq (fX ab [jb r0,jb r2,jz 3 r3,jb r4,jz 8 r8,jz 9 r9] ⟨aq fun c=>dY rfl az ak ((c.p e6).trans r4.ptr) (c.B 4),cp (cx:=[(aj 7),(bc (⟨#[]⟩:ByteArray)),(aE false),(.slice none 0 0),(aj 0),(aj (-1)),(aE (gj cs (i+1) (⟨#[63]⟩:ByteArray))),kv1_.v]) (off:=0) ak fun c=>⟨c.bp 2 rfl e4,c.ad ((c.p e4).trans r2.ptr) e4 rfl,(c.q 0)⟩,aq fun c=>ax rfl rfl,av⟩ fun ac ag ae ab aa=> ?_);obtain ⟨e0,e4⟩:=aa.k2 e0 e4;have e5:=aa.V 2;replace r0:=aa.B 0;replace r2:=aa.RB 1 e4;obtain ⟨r3,r8,r9⟩:=aa.z3 3 8 9;refine wp_ret ?_;refine rp ?_;refine ek (fn:=Tryz.f98) rfl ab.defers e4 e5 r2 az ak rfl ?_;have htq_:=mS cs (i+1) (⟨#[63]⟩:ByteArray);exact ⟨(eF 7 (⟨#[]⟩:ByteArray) false 0 (-1) (gj cs (i+1) (⟨#[63]⟩:ByteArray)) kv1_ [t]),0,tkN cs (i+1) (⟨#[63]⟩:ByteArray),rfl,ab.extIn,r0.foot,(Fz.out (qA r3 (ly r8 qh))),⟨by omega,by omega⟩,fun h_=>by rw [show er (eF 7 (⟨#[]⟩:ByteArray) false 0 (-1) (gj cs (i+1) (⟨#[63]⟩:ByteArray)) kv1_ [t])=(eF 7 (⟨#[]⟩:ByteArray) false 0 (-1) (gj cs (i+1) (⟨#[63]⟩:ByteArray)) Sv.nil [er t]) from lJ _ _ _ _ _ _ _ _];exact yO hd.2 ha hn (by omega) (by omega) (by omega)⟩
 skip;refine wp_seq (eA ab [jb r0,jb r1,jb r2,jz 3 r3,jb r4,jz 8 r8,jz 9 r9] ⟨aq fun c=>eI rfl (c.p e14) rfl,aK 0,av⟩ fun ac ag ae ab aa=> ?_);obtain ⟨e0,e3,e4,e5,e6,e14⟩:=aa.k6 e0 e3 e4 e5 e6 e14;have e28:=aa.V 1;replace r0:=aa.B 0;replace r1:=aa.B 1;replace r2:=aa.B 2;obtain ⟨r3,r8,r9⟩:=aa.z3 3 8 9;replace r4:=aa.B 4;refine wp_cond_split e28 (fun hc2=> ?_) (fun hc2=> ?_)
 · skip;refine wp_seq ?_;have hnx_:=jR (by assumption:gM (de cs i) (⟨#[43]⟩:ByteArray)=true) (by decide+kernel);refine mG [0,1,3,7,15,31,63,127,255,511] ab [jb r0,jb r1,jb r2,jz 3 r3,jb r4,jz 8 r8,jz 9 r9] ⟨ao e0,cD 0 r0.ptr,bS bo bQ 1 r0.ptr,bS bU aA 2 rfl,aq fun c=>aI rfl aN (c.q 3) (by rw [add_add];exact (c.ib 0 rfl).cell (j:=1) rfl),aq fun c=>cN rfl (c.q 4) rfl (by omega),cD 0 r0.ptr,bS bo bQ 6 r0.ptr,bS bU aA 7 rfl,cp (cx:=[cv.v,(aj (((i:Nat):Int)+1)),(aj d)]) aA fun c=>⟨c.bp 0 rfl e0,c.ad (c.q 8) e0 rfl,(c.q 5)⟩,av⟩ fun ac ag ae ab aa=> ?_;obtain ⟨e0,e3,e4,e5,e6,e14⟩:=aa.k6 e0 e3 e4 e5 e6 e14;replace r0:=aa.RB 9 e0;replace r1:=aa.B 1;replace r2:=aa.B 2;obtain ⟨r3,r8,r9⟩:=aa.z3 3 8 9;replace r4:=aa.B 4;replace r0:cH 98 [cv.v,aj ((i+1:Nat):Int),aj d] (ae 0) v ag:=by rw [show ((i+1:Nat):Int)=((i:Nat):Int)+1 from by omega];exact r0
   refine aY ?_;refine bV 3 (by kernel_rfl) ?_;refine og [_,_,_] [0,1,3] ab [jb r0,jb r1,jb r2,jz 3 r3,jb r4,jz 8 r8,jz 9 r9] ⟨cK aJ aA e6 r4.ptr,cp (cx:=[(aj 7),(bc (⟨#[]⟩:ByteArray)),(aE false),(.slice none 0 0),(aj 1),(aj 0),(aE false),kv1_.v]) (v:=(aj 1)) aA fun c=>⟨c.bp 4 rfl e6,c.ad (c.q 0) e6 rfl,rfl⟩,cK aJ aA e6 r4.ptr,av⟩ fun ac ag ae ab aa=> ?_;obtain ⟨e0,e3,e4,e5,e6,e14⟩:=aa.k6 e0 e3 e4 e5 e6 e14;have e40:=aa.V 2;replace r0:=aa.B 0;replace r1:=aa.B 1;replace r2:=aa.B 2;obtain ⟨r3,r8,r9⟩:=aa.z3 3 8 9;replace r4:=aa.RB 1 e6;refine bW ?_;refine og [_] [0] ab [jb r0,jb r1,jb r2,jz 3 r3,jb r4,jz 8 r8,jz 9 r9] ⟨cp (cx:=[(aj 7),(bc (⟨#[]⟩:ByteArray)),(aE false),(.slice none 0 0),(aj 1),(aj (-1)),(aE false),kv1_.v]) (v:=(aj (-1))) aA fun c=>⟨c.bp 4 rfl e6,c.ad (c.p e40) e6 rfl,rfl⟩,av⟩ fun ac ag ae ab aa=> ?_;obtain ⟨e0,e3,e4,e5,e6,e14⟩:=aa.k6 e0 e3 e4 e5 e6 e14;replace r0:=aa.B 0;replace r1:=aa.B 1;replace r2:=aa.B 2;obtain ⟨r3,r8,r9⟩:=aa.z3 3 8 9;replace r4:=aa.RB 0 e6;show _;refine wp_seq (rg [_,_,_,kG 98 _ 0 78 v [cv.v,(aj ((tkN cs (i+1) (⟨#[63]⟩:ByteArray):Nat):Int)),(aj d)] (aE (gj cs (i+1) (⟨#[63]⟩:ByteArray))),_,_] [0,1,3,7,15,31] ab [jb r0,jb r1,jb r2,jz 3 r3,jb r4,jz 8 r8,jz 9 r9] ⟨ao e0,cD 0 r0.ptr,bS bo bQ 1 r0.ptr,iZ fun {_ a_ _ _} c=>⟨_,_,(ck rfl rfl gA (c.q 2) rfl),ja (c.B 0) (jS v cv cs (i+1) d (⟨#[63]⟩:ByteArray) _ (oD (c.B 0) (c.iz 9 rfl) (fun g_ h_ hz_=>hz_.2 _ h_)) hL (by omega) (by decide+kernel))⟩,cK aJ cj e6 r4.ptr,cp (cx:=[(aj 7),(bc (⟨#[]⟩:ByteArray)),(aE false),(.slice none 0 0),(aj 1),(aj (-1)),(aE (gj cs (i+1) (⟨#[63]⟩:ByteArray))),kv1_.v]) cj fun c=>⟨c.bp 4 rfl e6,c.ad (c.q 4) e6 rfl,(c.dv 3 rfl)⟩,av⟩ fun ac ag ae ab aa=> ?_);obtain ⟨e0,e4,e5,e6⟩:=aa.k4 e0 e4 e5 e6;replace r0:=aa.db 3 rfl;replace r2:=aa.B 2;obtain ⟨r3,r8,r9⟩:=aa.z3 3 8 9;replace r4:=aa.RB 5 e6;refine wp_seq (fX ab [jb r0,jb r2,jz 3 r3,jb r4,jz 8 r8,jz 9 r9] ⟨aq fun c=>dY rfl az ak ((c.p e6).trans r4.ptr) (c.B 4),cp (cx:=[(aj 7),(bc (⟨#[]⟩:ByteArray)),(aE false),(.slice none 0 0),(aj 1),(aj (-1)),(aE (gj cs (i+1) (⟨#[63]⟩:ByteArray))),kv1_.v]) (off:=0) ak fun c=>⟨c.bp 2 rfl e4,c.ad ((c.p e4).trans r2.ptr) e4 rfl,(c.q 0)⟩,aq fun c=>ax rfl rfl,av⟩ fun ac ag ae ab aa=> ?_);obtain ⟨e0,e4⟩:=aa.k2 e0 e4;have e5:=aa.V 2;replace r0:=aa.B 0;replace r2:=aa.RB 1 e4;obtain ⟨r3,r8,r9⟩:=aa.z3 3 8 9;refine wp_ret ?_;refine rp ?_;refine ek (fn:=Tryz.f98) rfl ab.defers e4 e5 r2 az ak rfl ?_;have htq_:=mS cs (i+1) (⟨#[63]⟩:ByteArray);exact ⟨(eF 7 (⟨#[]⟩:ByteArray) false 1 (-1) (gj cs (i+1) (⟨#[63]⟩:ByteArray)) kv1_ [t]),0,tkN cs (i+1) (⟨#[63]⟩:ByteArray),rfl,ab.extIn,r0.foot,(Fz.out (qA r3 (ly r8 qh))),⟨by omega,by omega⟩,fun h_=>by rw [show er (eF 7 (⟨#[]⟩:ByteArray) false 1 (-1) (gj cs (i+1) (⟨#[63]⟩:ByteArray)) kv1_ [t])=(eF 7 (⟨#[]⟩:ByteArray) false 1 (-1) (gj cs (i+1) (⟨#[63]⟩:ByteArray)) Sv.nil [er t]) from lJ _ _ _ _ _ _ _ _];exact yO hd.2 ha hn (by omega) (by omega) (by omega)⟩
 skip;refine wp_seq (eA ab [jb r0,jb r1,jb r2,jz 3 r3,jb r4,jz 8 r8,jz 9 r9] ⟨aq fun c=>eI rfl (c.p e14) rfl,aK 0,av⟩ fun ac ag ae ab aa=> ?_);obtain ⟨e0,e3,e4,e5,e6,e14⟩:=aa.k6 e0 e3 e4 e5 e6 e14;have e41:=aa.V 1;replace r0:=aa.B 0;replace r1:=aa.B 1;replace r2:=aa.B 2;obtain ⟨r3,r8,r9⟩:=aa.z3 3 8 9;replace r4:=aa.B 4;refine wp_cond_split e41 (fun hc3=> ?_) (fun hc3=> ?_)
 · skip;refine wp_seq ?_;have hnx_:=jR (by assumption:gM (de cs i) (⟨#[63]⟩:ByteArray)=true) (by decide+kernel);refine mG [0,1,3,7,15,31,63,127,255,511] ab [jb r0,jb r1,jb r2,jz 3 r3,jb r4,jz 8 r8,jz 9 r9] ⟨ao e0,cD 0 r0.ptr,bS bo bQ 1 r0.ptr,bS bU aA 2 rfl,aq fun c=>aI rfl aN (c.q 3) (by rw [add_add];exact (c.ib 0 rfl).cell (j:=1) rfl),aq fun c=>cN rfl (c.q 4) rfl (by omega),cD 0 r0.ptr,bS bo bQ 6 r0.ptr,bS bU aA 7 rfl,cp (cx:=[cv.v,(aj (((i:Nat):Int)+1)),(aj d)]) aA fun c=>⟨c.bp 0 rfl e0,c.ad (c.q 8) e0 rfl,(c.q 5)⟩,av⟩ fun ac ag ae ab aa=> ?_;obtain ⟨e0,e3,e4,e5,e6,e14⟩:=aa.k6 e0 e3 e4 e5 e6 e14;replace r0:=aa.RB 9 e0;replace r1:=aa.B 1;replace r2:=aa.B 2;obtain ⟨r3,r8,r9⟩:=aa.z3 3 8 9;replace r4:=aa.B 4;replace r0:cH 98 [cv.v,aj ((i+1:Nat):Int),aj d] (ae 0) v ag:=by rw [show ((i+1:Nat):Int)=((i:Nat):Int)+1 from by omega];exact r0
   refine eA ab [jb r0,jb r1,jb r2,jz 3 r3,jb r4,jz 8 r8,jz 9 r9] ⟨cK aJ aA e6 r4.ptr,cp (cx:=[(aj 7),(bc (⟨#[]⟩:ByteArray)),(aE false),(.slice none 0 0),(aj 0),(aj 1),(aE false),kv1_.v]) (v:=(aj 1)) aA fun c=>⟨c.bp 4 rfl e6,c.ad (c.q 0) e6 rfl,rfl⟩,av⟩ fun ac ag ae ab aa=> ?_;obtain ⟨e0,e3,e4,e5,e6,e14⟩:=aa.k6 e0 e3 e4 e5 e6 e14;replace r0:=aa.B 0;replace r1:=aa.B 1;replace r2:=aa.B 2;obtain ⟨r3,r8,r9⟩:=aa.z3 3 8 9;replace r4:=aa.RB 1 e6;show _;refine wp_seq (rg [_,_,_,kG 98 _ 0 78 v [cv.v,(aj ((tkN cs (i+1) (⟨#[63]⟩:ByteArray):Nat):Int)),(aj d)] (aE (gj cs (i+1) (⟨#[63]⟩:ByteArray))),_,_] [0,1,3,7,15,31] ab [jb r0,jb r1,jb r2,jz 3 r3,jb r4,jz 8 r8,jz 9 r9] ⟨ao e0,cD 0 r0.ptr,bS bo bQ 1 r0.ptr,iZ fun {_ a_ _ _} c=>⟨_,_,(ck rfl rfl gA (c.q 2) rfl),ja (c.B 0) (jS v cv cs (i+1) d (⟨#[63]⟩:ByteArray) _ (oD (c.B 0) (c.iz 9 rfl) (fun g_ h_ hz_=>hz_.2 _ h_)) hL (by omega) (by decide+kernel))⟩,cK aJ cj e6 r4.ptr,cp (cx:=[(aj 7),(bc (⟨#[]⟩:ByteArray)),(aE false),(.slice none 0 0),(aj 0),(aj 1),(aE (gj cs (i+1) (⟨#[63]⟩:ByteArray))),kv1_.v]) cj fun c=>⟨c.bp 4 rfl e6,c.ad (c.q 4) e6 rfl,(c.dv 3 rfl)⟩,av⟩ fun ac ag ae ab aa=> ?_);obtain ⟨e0,e4,e5,e6⟩:=aa.k4 e0 e4 e5 e6;replace r0:=aa.db 3 rfl;replace r2:=aa.B 2;obtain ⟨r3,r8,r9⟩:=aa.z3 3 8 9;replace r4:=aa.RB 5 e6;refine wp_seq (fX ab [jb r0,jb r2,jz 3 r3,jb r4,jz 8 r8,jz 9 r9] ⟨aq fun c=>dY rfl az ak ((c.p e6).trans r4.ptr) (c.B 4),cp (cx:=[(aj 7),(bc (⟨#[]⟩:ByteArray)),(aE false),(.slice none 0 0),(aj 0),(aj 1),(aE (gj cs (i+1) (⟨#[63]⟩:ByteArray))),kv1_.v]) (off:=0) ak fun c=>⟨c.bp 2 rfl e4,c.ad ((c.p e4).trans r2.ptr) e4 rfl,(c.q 0)⟩,aq fun c=>ax rfl rfl,av⟩ fun ac ag ae ab aa=> ?_);obtain ⟨e0,e4⟩:=aa.k2 e0 e4;have e5:=aa.V 2;replace r0:=aa.B 0;replace r2:=aa.RB 1 e4;obtain ⟨r3,r8,r9⟩:=aa.z3 3 8 9;refine wp_ret ?_;refine rp ?_;refine ek (fn:=Tryz.f98) rfl ab.defers e4 e5 r2 az ak rfl ?_;have htq_:=mS cs (i+1) (⟨#[63]⟩:ByteArray);exact ⟨(eF 7 (⟨#[]⟩:ByteArray) false 0 1 (gj cs (i+1) (⟨#[63]⟩:ByteArray)) kv1_ [t]),0,tkN cs (i+1) (⟨#[63]⟩:ByteArray),rfl,ab.extIn,r0.foot,(Fz.out (qA r3 (ly r8 qh))),⟨by omega,by omega⟩,fun h_=>by rw [show er (eF 7 (⟨#[]⟩:ByteArray) false 0 1 (gj cs (i+1) (⟨#[63]⟩:ByteArray)) kv1_ [t])=(eF 7 (⟨#[]⟩:ByteArray) false 0 1 (gj cs (i+1) (⟨#[63]⟩:ByteArray)) Sv.nil [er t]) from lJ _ _ _ _ _ _ _ _];exact yO hd.2 ha hn (by omega) (by omega) (by omega)⟩
 skip;refine wp_seq (eA ab [jb r0,jb r1,jb r2,jz 3 r3,jb r4,jz 8 r8,jz 9 r9] ⟨aq fun c=>eI rfl (c.p e14) rfl,aK 0,av⟩ fun ac ag ae ab aa=> ?_);obtain ⟨e0,e3,e4,e5,e6⟩:=aa.k5 e0 e3 e4 e5 e6;have e53:=aa.V 1;replace r0:=aa.B 0;replace r1:=aa.B 1;replace r2:=aa.B 2;obtain ⟨r3,r8,r9⟩:=aa.z3 3 8 9;replace r4:=aa.B 4;refine wp_cond_split e53 (fun hc4=> ?_) (fun hc4=> ?_)
 · skip;refine wp_seq ?_;have hnx_:=jR (by assumption:gM (de cs i) (⟨#[123]⟩:ByteArray)=true) (by decide+kernel);refine mG [0,1,3,7,15,31,63,127,255,511] ab [jb r0,jb r1,jb r2,jz 3 r3,jb r4,jz 8 r8,jz 9 r9] ⟨ao e0,cD 0 r0.ptr,bS bo bQ 1 r0.ptr,bS bU aA 2 rfl,aq fun c=>aI rfl aN (c.q 3) (by rw [add_add];exact (c.ib 0 rfl).cell (j:=1) rfl),aq fun c=>cN rfl (c.q 4) rfl (by omega),cD 0 r0.ptr,bS bo bQ 6 r0.ptr,bS bU aA 7 rfl,cp (cx:=[cv.v,(aj (((i:Nat):Int)+1)),(aj d)]) aA fun c=>⟨c.bp 0 rfl e0,c.ad (c.q 8) e0 rfl,(c.q 5)⟩,av⟩ fun ac ag ae ab aa=> ?_;obtain ⟨e0,e3,e4,e5,e6⟩:=aa.k5 e0 e3 e4 e5 e6;replace r0:=aa.RB 9 e0;replace r1:=aa.B 1;replace r2:=aa.B 2;obtain ⟨r3,r8,r9⟩:=aa.z3 3 8 9;replace r4:=aa.B 4;replace r0:cH 98 [cv.v,aj ((i+1:Nat):Int),aj d] (ae 0) v ag:=by rw [show ((i+1:Nat):Int)=((i:Nat):Int)+1 from by omega];exact r0
   refine wp_seq (eK ab [jb r0,jb r1,jb r2,jz 3 r3,jb r4,jz 8 r8,jz 9 r9] ⟨aq fun c=>ax rfl rfl,av⟩ fun ac ag ae ab aa=> ?_);obtain ⟨e0,e3,e4,e5,e6⟩:=aa.k5 e0 e3 e4 e5 e6;have e7:=aa.V 0;replace r0:=aa.B 0;replace r1:=aa.B 1;replace r2:=aa.B 2;obtain ⟨r3,r8,r9⟩:=aa.z3 3 8 9;replace r4:=aa.B 4;refine wp_seq ?_;refine aY ?_;refine bV 2 (by kernel_rfl) ?_;refine og [_,mi 98 _ 0 66 v (fun b:Int × Int × Bool × Nat=> [cv.v,aj ((b.2.2.2:Nat):Int),aj d]) (fun b:Int × Int × Bool × Nat=> .tuple #[aj b.1,aj b.2.1,aE b.2.2.1]) (fun b:Int × Int × Bool × Nat=>Dn cs (i+1) b.1 b.2.1 b.2.2.1 b.2.2.2) (fun _:Int × Int × Bool × Nat=>zT)] [0,1] ab [jb r0,jb r1,jb r2,jz 3 r3,jb r4,jz 8 r8,jz 9 r9] ⟨ao e0,ku (cells:=fun b:Int × Int × Bool × Nat=> [cv.v,aj ((b.2.2.2:Nat):Int),aj d]) (f:=fun b:Int × Int × Bool × Nat=> .tuple #[aj b.1,aj b.2.1,aE b.2.2.1]) (Ψ:=fun b:Int × Int × Bool × Nat=>Dn cs (i+1) b.1 b.2.1 b.2.2.1 b.2.2.2) (Φ:=fun _:Int × Int × Bool × Nat=>zT) fun {_ a_ _ _} c=>⟨_,_,(bK rfl rfl Tryz.call121 (c.q 0)),(Ie v cv cs (i+1) d _ (oD (c.B 0) (c.iz 9 rfl) (fun g_ h_ hz_=>hz_.2 _ h_)) hL (by omega)).mono (fun e w' ⟨h0_,h1_,h2_,h3_,he_,hx_,hb_,hs_,hp_⟩=>⟨⟨h0_,h1_,h2_,h3_⟩,he_,(c.ib 0 rfl).ext hx_,hb_.back (c.ib 0 rfl),hp_,av⟩)⟩,av⟩ fun ac ag ae ab aa=> ?_;obtain ⟨e0,e3,e4,e5,e6,e7⟩:=aa.k6 e0 e3 e4 e5 e6 e7;obtain ⟨⟨lo2_,hi2_,ok2_,j2_⟩,e66,hro24,hq2_,hz24⟩:=aa.zb 1 rfl;have e66:be ac 66=(.tuple #[(aj lo2_),(aj hi2_),(aE ok2_)]):=e66;have hq2_:Dn cs (i+1) lo2_ hi2_ ok2_ j2_:=hq2_;obtain ⟨hj2_,hk2_⟩:=hq2_;replace r0:cH 98 [cv.v,(aj ((j2_:Nat):Int)),(aj d)] (ae 0) v ag:=hro24;replace r1:=aa.B 1;replace r2:=aa.B 2;obtain ⟨r3,r8,r9⟩:=aa.z3 3 8 9;replace r4:=aa.B 4;refine bW ?_;refine bV 7 (by kernel_rfl) ?_;refine og [_,_,_,_,_,_,_] [0,1,3,7,15,31,63] ab [jb r0,jb r1,jb r2,jz 3 r3,jb r4,jz 8 r8,jz 9 r9] ⟨ao e66,bR 0,bR 0,bR 0,cK aJ aA e6 r4.ptr,cp (cx:=[(aj 7),(bc (⟨#[]⟩:ByteArray)),(aE false),(.slice none 0 0),(aj lo2_),(aj 0),(aE false),kv1_.v]) aA fun c=>⟨c.bp 4 rfl e6,c.ad (c.q 4) e6 rfl,(c.q 1)⟩,cK aJ aA e6 r4.ptr,av⟩ fun ac ag ae ab aa=> ?_;obtain ⟨e0,e3,e4,e5,e6,e7⟩:=aa.k6 e0 e3 e4 e5 e6 e7;have e68:=aa.V 2;have e69:=aa.V 3;have e71:=aa.V 6;replace r0:=aa.B 0;replace r1:=aa.B 1;replace r2:=aa.B 2;obtain ⟨r3,r8,r9⟩:=aa.z3 3 8 9;replace r4:=aa.RB 5 e6;refine bW ?_;refine og [_,_] [0,1] ab [jb r0,jb r1,jb r2,jz 3 r3,jb r4,jz 8 r8,jz 9 r9] ⟨cp (cx:=[(aj 7),(bc (⟨#[]⟩:ByteArray)),(aE false),(.slice none 0 0),(aj lo2_),(aj hi2_),(aE false),kv1_.v]) aA fun c=>⟨c.bp 4 rfl e6,c.ad (c.p e71) e6 rfl,(c.p e68)⟩,oQ e69,av⟩ fun ac ag ae ab aa=> ?_;obtain ⟨e0,e3,e4,e5,e6⟩:=aa.k5 e0 e3 e4 e5 e6;have e7:=aa.V 1;replace r0:=aa.B 0;replace r1:=aa.B 1;replace r2:=aa.B 2;obtain ⟨r3,r8,r9⟩:=aa.z3 3 8 9;replace r4:=aa.RB 0 e6;refine wp_seq (eA ab [jb r0,jb r1,jb r2,jz 3 r3,jb r4,jz 8 r8,jz 9 r9] ⟨ao e7,aq fun c=>ew rfl (c.q 0),av⟩ fun ac ag ae ab aa=> ?_);obtain ⟨e0,e3,e4,e5,e6⟩:=aa.k5 e0 e3 e4 e5 e6;have e73:=aa.V 1;replace r0:=aa.B 0;replace r1:=aa.B 1;replace r2:=aa.B 2;obtain ⟨r3,r8,r9⟩:=aa.z3 3 8 9;replace r4:=aa.B 4;refine wp_cond_split e73 (fun hc5=> ?_) (fun hc5=> ?_)
   · try simp only [ar,am] at hc5
     refine wp_seq (fX ab [jb r0,jb r1,jb r2,jz 3 r3,jb r4,jz 8 r8,jz 9 r9] ⟨aq fun c=>eW (cells:=#[(aj 0),(bc (⟨#[]⟩:ByteArray)),(aE false),(.slice none 0 0),(aj 0),(aj 0),(aE false),(.slice none 0 0)]) rfl aD ni,cp (cx:=[(aj 0),(bc (⟨#[]⟩:ByteArray)),(aE false),(.slice none 0 0),(aj 0),(aj 0),(aE false),(.slice none 0 0)]) (off:=0) ak fun c=>⟨c.bp 2 rfl e4,c.ad ((c.p e4).trans r2.ptr) e4 rfl,(c.q 0)⟩,aq fun c=>ax rfl rfl,av⟩ fun ac ag ae ab aa=> ?_);obtain ⟨e0,e3,e4,e6⟩:=aa.k4 e0 e3 e4 e6;have e5:=aa.V 2;replace r0:=aa.B 0;replace r1:=aa.B 1;replace r2:=aa.RB 1 e4;obtain ⟨r3,r8,r9⟩:=aa.z3 3 8 9;replace r4:=aa.B 4;refine wp_ret ?_;refine rp ?_;refine ek (fn:=Tryz.f98) rfl ab.defers e4 e5 r2 az ak rfl ?_;exact ⟨(dQ 0 (⟨#[]⟩:ByteArray) false 0 0 false),10,j2_,rfl,ab.extIn,r0.foot,(eQ _ _ _ _ _ _ _ _),⟨by omega,by omega⟩,fun h_=>absurd h_ (by decide)⟩
   try simp only [ar,am] at hc5
   refine wp_skip ?_;show _;refine wp_seq (rg [_,_,_,kG 98 _ 0 78 v [cv.v,(aj ((tkN cs j2_ (⟨#[63]⟩:ByteArray):Nat):Int)),(aj d)] (aE (gj cs j2_ (⟨#[63]⟩:ByteArray))),_,_] [0,1,3,7,15,31] ab [jb r0,jb r1,jb r2,jz 3 r3,jb r4,jz 8 r8,jz 9 r9] ⟨ao e0,cD 0 r0.ptr,bS bo bQ 1 r0.ptr,iZ fun {_ a_ _ _} c=>⟨_,_,(ck rfl rfl gA (c.q 2) rfl),ja (c.B 0) (jS v cv cs j2_ d (⟨#[63]⟩:ByteArray) _ (oD (c.B 0) (c.iz 9 rfl) (fun g_ h_ hz_=>hz_.2 _ h_)) hL (by omega) (by decide+kernel))⟩,cK aJ cj e6 r4.ptr,cp (cx:=[(aj 7),(bc (⟨#[]⟩:ByteArray)),(aE false),(.slice none 0 0),(aj lo2_),(aj hi2_),(aE (gj cs j2_ (⟨#[63]⟩:ByteArray))),kv1_.v]) cj fun c=>⟨c.bp 4 rfl e6,c.ad (c.q 4) e6 rfl,(c.dv 3 rfl)⟩,av⟩ fun ac ag ae ab aa=> ?_);obtain ⟨e0,e4,e5,e6⟩:=aa.k4 e0 e4 e5 e6;replace r0:=aa.db 3 rfl;replace r2:=aa.B 2;obtain ⟨r3,r8,r9⟩:=aa.z3 3 8 9;replace r4:=aa.RB 5 e6;refine wp_seq (fX ab [jb r0,jb r2,jz 3 r3,jb r4,jz 8 r8,jz 9 r9] ⟨aq fun c=>dY rfl az ak ((c.p e6).trans r4.ptr) (c.B 4),cp (cx:=[(aj 7),(bc (⟨#[]⟩:ByteArray)),(aE false),(.slice none 0 0),(aj lo2_),(aj hi2_),(aE (gj cs j2_ (⟨#[63]⟩:ByteArray))),kv1_.v]) (off:=0) ak fun c=>⟨c.bp 2 rfl e4,c.ad ((c.p e4).trans r2.ptr) e4 rfl,(c.q 0)⟩,aq fun c=>ax rfl rfl,av⟩ fun ac ag ae ab aa=> ?_);obtain ⟨e0,e4⟩:=aa.k2 e0 e4;have e5:=aa.V 2;replace r0:=aa.B 0;replace r2:=aa.RB 1 e4;obtain ⟨r3,r8,r9⟩:=aa.z3 3 8 9;refine wp_ret ?_;refine rp ?_;refine ek (fn:=Tryz.f98) rfl ab.defers e4 e5 r2 az ak rfl ?_;have htq_:=mS cs j2_ (⟨#[63]⟩:ByteArray);have hkk_:=hk2_ (by assumption);exact ⟨(eF 7 (⟨#[]⟩:ByteArray) false lo2_ hi2_ (gj cs j2_ (⟨#[63]⟩:ByteArray)) kv1_ [t]),0,tkN cs j2_ (⟨#[63]⟩:ByteArray),rfl,ab.extIn,r0.foot,(Fz.out (qA r3 (ly r8 qh))),⟨by omega,by omega⟩,fun h_=>by rw [show er (eF 7 (⟨#[]⟩:ByteArray) false lo2_ hi2_ (gj cs j2_ (⟨#[63]⟩:ByteArray)) kv1_ [t])=(eF 7 (⟨#[]⟩:ByteArray) false lo2_ hi2_ (gj cs j2_ (⟨#[63]⟩:ByteArray)) Sv.nil [er t]) from lJ _ _ _ _ _ _ _ _];exact yO hd.2 ha hn (by omega) (by omega) (by omega)⟩
 skip;refine wp_seq (fX ab [jb r0,jb r1,jb r2,jz 3 r3,jb r4,jz 8 r8,jz 9 r9] ⟨aq fun c=>dY rfl az ak ((c.p e3).trans r1.ptr) (c.B 1),cp (cx:=(tc t)) (off:=0) ak fun c=>⟨c.bp 2 rfl e4,c.ad ((c.p e4).trans r2.ptr) e4 rfl,(c.q 0)⟩,aq fun c=>ax rfl rfl,av⟩ fun ac ag ae ab aa=> ?_);obtain ⟨e0,e4,e6⟩:=aa.k3 e0 e4 e6;have e5:=aa.V 2;replace r0:=aa.B 0;replace r2:=aa.RB 1 e4;obtain ⟨r3,r8,r9⟩:=aa.z3 3 8 9;replace r4:=aa.B 4;refine wp_ret ?_;refine rp ?_;refine ek (fn:=Tryz.f98) rfl ab.defers e4 e5 r2 az ak rfl ?_;exact ⟨t,0,i,rfl,ab.extIn,r0.foot,r8.out,⟨by omega,by omega⟩,fun h_=>ha.1.less (by omega)⟩
end
section
open Go.RowKit
open Srt
set_option maxRecDepth 100000 in
theorem AH (v:Value) (cv:Sv) (cs:List ByteArray) (i:Nat) (d:Int) (w:World) (hR:RxR 98 v cv cs i d w) (hL:zt cs) (hi:i≤cs.length):Calls Tryz.prog 137 #[v] w (fun e w'=>∃(s:ByteArray) (b:Sv) (rows:List Rw) (er_:Int) (j:Nat),e= .returned (.tuple #[bc s,b.v,aj er_])∧Ext (bY v) w w'∧cH 98 [cv.v,aj ((j:Nat):Int),aj d] (bY v) v w'∧(SlT fx w' b.v rows∧(rows≠ []→w.heap.size≤(ee b.v).block))∧BQ cs i s rows er_ j):=by
 refine fj (bY v) (fun g hg=>hR.box.lt g hg) (n:=44) Tryz.func137 rfl rfl (aw rfl) ?_;intro a0 τ0 ha hτ st0;have e0:=oz ha;have hL1:=hL.1.1;have r0:cH 98 [cv.v,aj ((i:Nat):Int),aj d] (τ0 0) v w:=by rw [hτ];exact hR.box
 have r9:Fz (fb gR Al cv.v cs) τ0 w:=hR.inz st0;refine wp_seq (fX st0 [jb r0,jz 9 r9] ⟨aq fun c=>ax rfl rfl,aq fun c=>ax rfl rfl,aq fun c=>ax rfl rfl,av⟩ fun ac ag ae ab aa=> ?_);replace e0:=aa.k1 e0;have e2:=aa.V 0;have e3:=aa.V 1;have e4:=aa.V 2;replace r0:=aa.B 0;replace r9:=aa.z1 9;refine wp_seq ?_;refine rg [_,_,_,kG 98 _ 0 13 v [cv.v,(aj ((nxN cs i:Nat):Int)),(aj d)] (bc (de cs i)),_] [0,1,3,7,15] ab [jb r0,jz 9 r9] ⟨ao e0,cD 0 r0.ptr,bS bo bQ 1 r0.ptr,iZ fun {_ a_ _ _} c=>⟨_,_,(bK rfl rfl pQ (c.q 2)),ja (c.B 0) (tu v cv cs i d _ (oD (c.B 0) (c.iz 9 rfl) (fun g_ h_ hz_=>hz_.2 _ h_)) hL (by first | omega | (have h_:=dp hL.1 (nxN cs i);omega)))⟩,aq fun c=>ax rfl (c.dv 3 rfl),av⟩ fun ac ag ae ab aa=> ?_;obtain ⟨e0,e2,e3,e4⟩:=aa.k4 e0 e2 e3 e4;have e5:=aa.V 4;replace r0:=aa.db 3 rfl;replace r9:=aa.z1 9;have hnl_:=Dm hi;refine wp_seq ?_;refine wp_seq (eK ab [jb r0,jz 9 r9] ⟨ao e5,av⟩ fun ac ag ae ab aa=> ?_);obtain ⟨e0,e2,e3,e4,e5⟩:=aa.k5 e0 e2 e3 e4 e5;have e14:=aa.V 0;replace r0:=aa.B 0;replace r9:=aa.z1 9;refine wp_block ?_;refine wp_seq ?_;refine wp_seq (eA ab [jb r0,jz 9 r9] ⟨aq fun c=>eI rfl (c.p e14) rfl,aK 0,av⟩ fun ac ag ae ab aa=> ?_);obtain ⟨e0,e2,e3,e4,e5,e14⟩:=aa.k6 e0 e2 e3 e4 e5 e14;have e15:=aa.V 1;replace r0:=aa.B 0;replace r9:=aa.z1 9;refine wp_cond_split e15 (fun hc1=> ?_) (fun hc1=> ?_)
 · have hd1:=hc1;skip;refine wp_skip ?_;refine wp_cond_true (e15.trans (congrArg _ hc1)) ?_;refine wp_seq (fX ab [jb r0,jz 9 r9] ⟨aq fun c=>ax rfl rfl,aq fun c=>ax rfl rfl,aq fun c=>ax rfl rfl,av⟩ fun ac ag ae ab aa=> ?_);obtain ⟨e0,e5,e14⟩:=aa.k3 e0 e5 e14;have e2:=aa.V 0;have e3:=aa.V 1;have e4:=aa.V 2;replace r0:=aa.B 0;replace r9:=aa.z1 9;refine wp_ret ?_;refine rp ?_;refine qk (fn:=Tryz.f137) rfl ab.defers e2 e3 e4 ?_;exact ⟨(⟨#[]⟩:ByteArray),Sv.nil,[],10,nxN cs i,rfl,ab.extIn,r0.foot,⟨SlT.nil _ _,fun h=>absurd rfl h⟩,⟨by omega,by omega⟩,dC _,⟨jt.nil,dC _,fun h_=>absurd h_ (by decide)⟩⟩
 have hd2:=hc1;skip;refine eA ab [jb r0,jz 9 r9] ⟨aq fun c=>eI rfl (c.p e14) rfl,aK 0,av⟩ fun ac ag ae ab aa=> ?_;obtain ⟨e0,e2,e3,e4,e5,e14⟩:=aa.k6 e0 e2 e3 e4 e5 e14;have e15:=aa.V 1;replace r0:=aa.B 0;replace r9:=aa.z1 9;refine wp_cond_split e15 (fun hc3=> ?_) (fun hc3=> ?_)
 · have hd3:=hc3;skip;refine wp_seq (fX ab [jb r0,jz 9 r9] ⟨aq fun c=>ax rfl rfl,aq fun c=>ax rfl rfl,aq fun c=>ax rfl rfl,av⟩ fun ac ag ae ab aa=> ?_);obtain ⟨e0,e5,e14⟩:=aa.k3 e0 e5 e14;have e2:=aa.V 0;have e3:=aa.V 1;have e4:=aa.V 2;replace r0:=aa.B 0;replace r9:=aa.z1 9;refine wp_ret ?_;refine rp ?_;refine qk (fn:=Tryz.f137) rfl ab.defers e2 e3 e4 ?_;exact ⟨(⟨#[]⟩:ByteArray),Sv.nil,[],10,nxN cs i,rfl,ab.extIn,r0.foot,⟨SlT.nil _ _,fun h=>absurd rfl h⟩,⟨by omega,by omega⟩,dC _,⟨jt.nil,dC _,fun h_=>absurd h_ (by decide)⟩⟩
 have hd3:=hc3;skip;refine wp_seq (eA ab [jb r0,jz 9 r9] ⟨aq fun c=>eI rfl (c.p e14) rfl,aK 0,av⟩ fun ac ag ae ab aa=> ?_);obtain ⟨e0,e2,e3,e4,e5⟩:=aa.k5 e0 e2 e3 e4 e5;have e18:=aa.V 1;replace r0:=aa.B 0;replace r9:=aa.z1 9;refine wp_cond_split e18 (fun hc4=> ?_) (fun hc4=> ?_)
 · skip;refine wp_seq ?_;have hnx_:=jR (by assumption:gM (de cs i) (⟨#[92]⟩:ByteArray)=true) (by decide+kernel);refine rg [_,_,_,kG 98 _ 0 23 v [cv.v,(aj ((nxN cs (nxN cs i):Nat):Int)),(aj d)] (bc (de cs (nxN cs i))),_] [0,1,3,7,15] ab [jb r0,jz 9 r9] ⟨ao e0,cD 0 r0.ptr,bS bo bQ 1 r0.ptr,iZ fun {_ a_ _ _} c=>⟨_,_,(bK rfl rfl pQ (c.q 2)),ja (c.B 0) (tu v cv cs (nxN cs i) d _ (oD (c.B 0) (c.iz 9 rfl) (fun g_ h_ hz_=>hz_.2 _ h_)) hL (by first | omega | (have h_:=dp hL.1 (nxN cs i);omega)))⟩,aq fun c=>ax rfl (c.dv 3 rfl),av⟩ fun ac ag ae ab aa=> ?_;obtain ⟨e0,e2,e3,e4⟩:=aa.k4 e0 e2 e3 e4;have e5:=aa.V 4;replace r0:=aa.db 3 rfl;replace r9:=aa.z1 9;have hnl2_:=Dm (cs:=cs) (i:=nxN cs i) (by omega);refine wp_seq ?_;refine wp_seq (fX ab [jb r0,jz 9 r9] ⟨ao e5,aq fun c=>fA rfl aZ (c.q 0),aq fun c=>cY rfl (c.q 1) rfl,av⟩ fun ac ag ae ab aa=> ?_);obtain ⟨e0,e2,e3,e4,e5⟩:=aa.k5 e0 e2 e3 e4 e5;have e26:=aa.V 2;replace r0:=aa.B 0;replace r9:=aa.z1 9;refine wp_cond_split e26 (fun hc5=> ?_) (fun hc5=> ?_)
   · try simp only [ai] at hc5
     refine wp_seq ?_;refine aY ?_;refine bV 3 (by kernel_rfl) ?_;refine og [_,_,gE _ 30 (fun b:Sv=> .tuple #[b.v,aE (kh (cP (de cs (nxN cs i)) 0))]) (fun _=>True) (fun b:Sv=>fb fx (Gn aW w) b.v (gF (cP (de cs (nxN cs i)) 0)))] [0,1,3] ab [jb r0,jz 9 r9] ⟨ao e5,aq fun c=>li rfl aZ (c.q 0) rfl (by first | omega | (have h_:=dp hL.1 (nxN cs i);omega)) (by first | omega | (have h_:=dp hL.1 (nxN cs i);omega)),eT (f:=fun b:Sv=> .tuple #[b.v,aE (kh (cP (de cs (nxN cs i)) 0))]) (Ψ:=fun _=>True) (Φ:=fun b:Sv=>fb fx (Gn aW w) b.v (gF (cP (de cs (nxN cs i)) 0))) fun {_ a_ _ _} c=>⟨_,_,(bK rfl rfl Tryz.call139 (c.q 1)),(yK (cP (de cs (nxN cs i)) 0) _).mono (fun e w' ⟨v_,he_,hx_,hn_⟩=>by obtain ⟨s_,rfl⟩:=hn_.1.sl.sl.sv;exact ⟨s_,he_,hx_,av,c.sn ab hx_ hn_⟩)⟩,av⟩ fun ac ag ae ab aa=> ?_;obtain ⟨e0,e2,e3,e4,e5⟩:=aa.k5 e0 e2 e3 e4 e5;obtain ⟨rn1_,e30,-,hz11⟩:=aa.zd 2 rfl;have e30:be ac 30=(.tuple #[rn1_.v,(aE (kh (cP (de cs (nxN cs i)) 0)))]):=e30;replace r0:=aa.B 0;replace r9:=aa.z1 9;have r1:=hz11;refine bW ?_;refine og [_,_,_,_,_] [0,1,3,7,15] ab [jb r0,jz 1 r1,jz 9 r9] ⟨ao e30,bR 0,bR 0,aK 1,aK 2,av⟩ fun ac ag ae ab aa=> ?_;obtain ⟨e0,e2,e3,e4,e5⟩:=aa.k5 e0 e2 e3 e4 e5;have e6:=aa.V 3;have e7:=aa.V 4;replace r0:=aa.B 0;obtain ⟨r1,r9⟩:=aa.z2 1 9;refine wp_seq (eK ab [jb r0,jz 1 r1,jz 9 r9] ⟨ao e7,av⟩ fun ac ag ae ab aa=> ?_);obtain ⟨e0,e2,e3,e4,e5,e6⟩:=aa.k6 e0 e2 e3 e4 e5 e6;have e33:=aa.V 0;replace r0:=aa.B 0;obtain ⟨r1,r9⟩:=aa.z2 1 9;refine wp_cond_split e33 (fun hc6=> ?_) (fun hc6=> ?_)
     · skip;refine wp_seq (lr [0,0,3,7] ab [jb r0,jz 1 r1,jz 9 r9] ⟨ao e6,aq fun c=>ax rfl rfl,aK 0,aq fun c=>ax rfl rfl,av⟩ fun ac ag ae ab aa=> ?_);obtain ⟨e0,e5⟩:=aa.k2 e0 e5;have e2:=aa.V 1;have e3:=aa.V 2;have e4:=aa.V 3;replace r0:=aa.B 0;obtain ⟨r1,r9⟩:=aa.z2 1 9;refine wp_ret ?_;refine rp ?_;refine qk (fn:=Tryz.f137) rfl ab.defers e2 e3 e4 ?_;exact ⟨(⟨#[]⟩:ByteArray),rn1_,(gF (cP (de cs (nxN cs i)) 0)),0,nxN cs (nxN cs i),rfl,ab.extIn,r0.foot,⟨r1.1,fun hn=>(r1.2 hn).2.resolve_left (fun h=>h.elim)⟩,⟨by omega,by omega⟩,dC _,⟨qj _,rM _,fun _=>by omega⟩⟩
     skip;refine wp_skip ?_;refine wp_seq (ue [0,1,3,7,7,15,63] ab [jb r0,jz 1 r1,jz 9 r9] ⟨ao e5,eE fun c=>⟨_,_,(bK rfl rfl pR (c.q 0)),rP (de cs (nxN cs i)) _⟩,bD 1,bR 2,bR 2,aK 3,aK 4,av⟩ fun ac ag ae ab aa=> ?_);obtain ⟨e0,e2,e3,e4,e5⟩:=aa.k5 e0 e2 e3 e4 e5;have e8:=aa.V 5;have e9:=aa.V 6;replace r0:=aa.B 0;obtain ⟨r1,r9⟩:=aa.z2 1 9;refine wp_seq ?_;refine wp_seq (eA ab [jb r0,jz 9 r9] ⟨ao e9,aq fun c=>ew rfl (c.q 0),av⟩ fun ac ag ae ab aa=> ?_);obtain ⟨e0,e2,e3,e4,e5,e8⟩:=aa.k6 e0 e2 e3 e4 e5 e8;have e41:=aa.V 1;replace r0:=aa.B 0;replace r9:=aa.z1 9;refine wp_cond_split e41 (fun hc7=> ?_) (fun hc7=> ?_)
     · try simp only [ar,am] at hc7
       refine wp_seq (fX ab [jb r0,jz 9 r9] ⟨aq fun c=>ax rfl rfl,aq fun c=>ax rfl rfl,aq fun c=>ax rfl rfl,av⟩ fun ac ag ae ab aa=> ?_);obtain ⟨e0,e5,e8⟩:=aa.k3 e0 e5 e8;have e2:=aa.V 0;have e3:=aa.V 1;have e4:=aa.V 2;replace r0:=aa.B 0;replace r9:=aa.z1 9;refine wp_ret ?_;refine rp ?_;refine qk (fn:=Tryz.f137) rfl ab.defers e2 e3 e4 ?_;exact ⟨(⟨#[]⟩:ByteArray),Sv.nil,[],10,nxN cs (nxN cs i),rfl,ab.extIn,r0.foot,⟨SlT.nil _ _,fun h=>absurd rfl h⟩,⟨by omega,by omega⟩,dC _,⟨jt.nil,dC _,fun h_=>absurd h_ (by decide)⟩⟩
     try simp only [ar,am] at hc7
     refine wp_skip ?_;refine wp_seq (xi ab [jb r0,jz 9 r9] ⟨ao e8,aK 0,aq fun c=>ax rfl rfl,aq fun c=>ax rfl rfl,av⟩ fun ac ag ae ab aa=> ?_);obtain ⟨e0,e5⟩:=aa.k2 e0 e5;have e2:=aa.V 1;have e3:=aa.V 2;have e4:=aa.V 3;replace r0:=aa.B 0;replace r9:=aa.z1 9;refine wp_ret ?_;refine rp ?_;refine qk (fn:=Tryz.f137) rfl ab.defers e2 e3 e4 ?_;exact ⟨((nx (de cs (nxN cs i))).1),Sv.nil,[],0,nxN cs (nxN cs i),rfl,ab.extIn,r0.foot,⟨SlT.nil _ _,fun h=>absurd rfl h⟩,⟨by omega,by omega⟩,vA (dp hL.1 _),⟨jt.nil,dC _,fun _=>by omega⟩⟩
   try simp only [ah] at hc5
   refine wp_skip ?_;refine wp_seq (ue [0,1,3,7,7,15,63] ab [jb r0,jz 9 r9] ⟨ao e5,eE fun c=>⟨_,_,(bK rfl rfl pR (c.q 0)),rP (de cs (nxN cs i)) _⟩,bD 1,bR 2,bR 2,aK 3,aK 4,av⟩ fun ac ag ae ab aa=> ?_);obtain ⟨e0,e2,e3,e4,e5⟩:=aa.k5 e0 e2 e3 e4 e5;have e8:=aa.V 5;have e9:=aa.V 6;replace r0:=aa.B 0;replace r9:=aa.z1 9;refine wp_seq ?_;refine wp_seq (eA ab [jb r0,jz 9 r9] ⟨ao e9,aq fun c=>ew rfl (c.q 0),av⟩ fun ac ag ae ab aa=> ?_);obtain ⟨e0,e2,e3,e4,e5,e8⟩:=aa.k6 e0 e2 e3 e4 e5 e8;have e41:=aa.V 1;replace r0:=aa.B 0;replace r9:=aa.z1 9;refine wp_cond_split e41 (fun hc8=> ?_) (fun hc8=> ?_)
   · try simp only [ar,am] at hc8
     refine wp_seq (fX ab [jb r0,jz 9 r9] ⟨aq fun c=>ax rfl rfl,aq fun c=>ax rfl rfl,aq fun c=>ax rfl rfl,av⟩ fun ac ag ae ab aa=> ?_);obtain ⟨e0,e5,e8⟩:=aa.k3 e0 e5 e8;have e2:=aa.V 0;have e3:=aa.V 1;have e4:=aa.V 2;replace r0:=aa.B 0;replace r9:=aa.z1 9;refine wp_ret ?_;refine rp ?_;refine qk (fn:=Tryz.f137) rfl ab.defers e2 e3 e4 ?_;exact ⟨(⟨#[]⟩:ByteArray),Sv.nil,[],10,nxN cs (nxN cs i),rfl,ab.extIn,r0.foot,⟨SlT.nil _ _,fun h=>absurd rfl h⟩,⟨by omega,by omega⟩,dC _,⟨jt.nil,dC _,fun h_=>absurd h_ (by decide)⟩⟩
   try simp only [ar,am] at hc8
   refine wp_skip ?_;refine wp_seq (xi ab [jb r0,jz 9 r9] ⟨ao e8,aK 0,aq fun c=>ax rfl rfl,aq fun c=>ax rfl rfl,av⟩ fun ac ag ae ab aa=> ?_);obtain ⟨e0,e5⟩:=aa.k2 e0 e5;have e2:=aa.V 1;have e3:=aa.V 2;have e4:=aa.V 3;replace r0:=aa.B 0;replace r9:=aa.z1 9;refine wp_ret ?_;refine rp ?_;refine qk (fn:=Tryz.f137) rfl ab.defers e2 e3 e4 ?_;exact ⟨((nx (de cs (nxN cs i))).1),Sv.nil,[],0,nxN cs (nxN cs i),rfl,ab.extIn,r0.foot,⟨SlT.nil _ _,fun h=>absurd rfl h⟩,⟨by omega,by omega⟩,vA (dp hL.1 _),⟨jt.nil,dC _,fun _=>by omega⟩⟩
 skip;refine wp_skip ?_;show _;refine wp_seq ?_;have hnx_:=wJ (by assumption:gM (de cs i) (⟨#[]⟩:ByteArray)=false);refine xi ab [jb r0,jz 9 r9] ⟨ao e5,aK 0,aq fun c=>ax rfl rfl,aq fun c=>ax rfl rfl,av⟩ fun ac ag ae ab aa=> ?_;replace e0:=aa.k1 e0;have e2:=aa.V 1;have e3:=aa.V 2;have e4:=aa.V 3;replace r0:=aa.B 0;replace r9:=aa.z1 9;refine wp_ret ?_;refine rp ?_;refine qk (fn:=Tryz.f137) rfl ab.defers e2 e3 e4 ?_;exact ⟨(de cs i),Sv.nil,[],0,nxN cs i,rfl,ab.extIn,r0.foot,⟨SlT.nil _ _,fun h=>absurd rfl h⟩,⟨by omega,by omega⟩,dp hL.1 i,⟨jt.nil,dC _,fun _=>by omega⟩⟩
end
section
open Go.RowKit
open Srt
theorem KW {a b:Bool} (h:(a&&b)=true):a=true:=by cases a <;> simp_all
set_option maxRecDepth 100000 in
set_option maxHeartbeats 4000000 in
theorem Eh (v:Value) (cv:Sv) (cs:List ByteArray) (i:Nat) (d:Int) (w:World) (hR:RxR 98 v cv cs i d w) (hL:zt cs) (hi:i≤cs.length) (hd:0≤d∧d≤16):Calls Tryz.prog 119 #[v] w (fun e w'=>∃(t':Tr) (er_:Int) (j:Nat),e= .returned (.tuple #[t'.v,aj er_])∧Ext (bY v) w w'∧cH 98 [cv.v,aj ((j:Nat):Int),aj d] (bY v) v w'∧TrT (Gn aW w) w' t'∧(i≤j∧j≤cs.length)∧(er_=0→fU (er t') (((j:Nat):Int) - ((i:Nat):Int)) d)):=by
 refine fj (bY v) (fun g hg=>hR.box.lt g hg) (n:=114) Tryz.func119 rfl rfl (aw rfl) ?_;intro a0 τ0 ha hτ st0;have e0:=oz ha;have hL1:=hL.1.1;have r0:cH 98 [cv.v,aj ((i:Nat):Int),aj d] (τ0 0) v w:=by rw [hτ];exact hR.box
 have r9:Fz (fb gR Al cv.v cs) τ0 w:=hR.inz st0;refine wp_seq (rg [box _ _ 1 2 [(aj 0),(bc (⟨#[]⟩:ByteArray)),(aE false),(.slice none 0 0),(aj 0),(aj 0),(aE false),(.slice none 0 0)],_] [0,0] st0 [jb r0,jz 9 r9] ⟨bO rfl rfl rfl rfl aD rfl,aq fun c=>ax rfl rfl,av⟩ fun ac ag ae ab aa=> ?_);obtain ⟨b1x2,e2⟩:=gx ac 2;replace e0:=aa.k1 e0;have e3:=aa.V 1;replace r0:=aa.B 0;have r1:=aa.rb 0 e2 rfl;replace r9:=aa.z1 9;refine wp_seq (rg [_,_,_,kG 98 _ 0 16 v [cv.v,(aj ((tkN cs i (⟨#[94]⟩:ByteArray):Nat):Int)),(aj d)] (aE (gj cs i (⟨#[94]⟩:ByteArray))),_,box _ _ 2 4 [(aj 0),(bc (⟨#[]⟩:ByteArray)),(aE false),(.slice none 0 0),(aj 0),(aj 0),(aE false),(.slice none 0 0)],_] [0,1,3,7,15,0,63] ab [jb r0,jb r1,jz 9 r9] ⟨ao e0,cD 0 r0.ptr,bS bo bQ 1 r0.ptr,iZ fun {_ a_ _ _} c=>⟨_,_,(ck rfl rfl gA (c.q 2) rfl),ja (c.B 0) (jS v cv cs i d (⟨#[94]⟩:ByteArray) _ (oD (c.B 0) (c.iz 9 rfl) (fun g_ h_ hz_=>hz_.2 _ h_)) hL (by omega) (by decide+kernel))⟩,aq fun c=>eW (cells:=#[(aj 4),(bc (⟨#[]⟩:ByteArray)),(aE (gj cs i (⟨#[94]⟩:ByteArray))),(.slice none 0 0),(aj 0),(aj 0),(aE false),(.slice none 0 0)]) rfl aD (iT rfl (c.dv 3 rfl) rfl),bO rfl rfl rfl rfl aD rfl,ey (cx:=[(aj 4),(bc (⟨#[]⟩:ByteArray)),(aE (gj cs i (⟨#[94]⟩:ByteArray))),(.slice none 0 0),(aj 0),(aj 0),(aE false),(.slice none 0 0)]) (off:=0) rfl ak fun c=>⟨c.rb 5 rfl,(c.rb 5 rfl).ptr,(c.q 4)⟩,av⟩ fun ac ag ae ab aa=> ?_);obtain ⟨b2x4,e4⟩:=gx ac 4;obtain ⟨e0,e2,e3⟩:=aa.k3 e0 e2 e3;replace r0:=aa.db 3 rfl;replace r1:=aa.B 1;have r2:=aa.rb 6 e4 rfl;replace r9:=aa.z1 9;refine wp_seq (eK ab [jb r0,jb r1,jb r2,jz 9 r9] ⟨aq fun c=>ax rfl rfl,av⟩ fun ac ag ae ab aa=> ?_);obtain ⟨e0,e2,e3,e4⟩:=aa.k4 e0 e2 e3 e4;have e5:=aa.V 0;replace r0:=aa.B 0;replace r1:=aa.B 1;replace r2:=aa.B 2;replace r9:=aa.z1 9;refine wp_seq ?_;refine wp_block ?_;refine wp_loop (fun a_ w_=>∃(m:Nat) (u:Value) (rows:List (ByteArray × ByteArray)) (τ:Nat→bj),(jt rows)∧
      (rows.length:Int)≤4 * ((m:Int) - (i:Int))∧
      (i≤m∧m≤cs.length)∧
      St (fun k=>bY v k∨w.heap.size≤k) w 114 a_ w_ τ∧
      be a_ 5=u∧
      be a_ 0=v∧
      be a_ 2=b1x2∧
      be a_ 4=b2x4∧
      cH 98 [cv.v,(aj ((m:Nat):Int)),(aj d)] (τ 0) v w_∧
      ep fx 89 rows (τ 6) u w_∧
      cH 25 [(aj 0),(bc (⟨#[]⟩:ByteArray)),(aE false),(.slice none 0 0),(aj 0),(aj 0),(aE false),(.slice none 0 0)] (τ 1) b1x2 w_∧
      cH 25 [(aj 4),(bc (⟨#[]⟩:ByteArray)),(aE (gj cs i (⟨#[94]⟩:ByteArray))),(.slice none 0 0),(aj 0),(aj 0),(aE false),(.slice none 0 0)] (τ 2) b2x4 w_∧
      Fz (fb gR Al cv.v cs) τ w_) (fun a_ w_=>cs.length+10 - Aw v w_) ?_ ?_
 · refine ⟨tkN cs i (⟨#[94]⟩:ByteArray),(.slice none 0 0),[],ae,?_,?_,?_,ab,e5,e0,e2,e4,r0,?_,r1,r2,r9⟩
   · exact jt.nil
   · have h_:=mS cs i (⟨#[94]⟩:ByteArray);simp;omega
   · have h_:=mS cs i (⟨#[94]⟩:ByteArray);omega
   · exact ep.nil _ _ _ _
 intro a4 w4 hI;obtain ⟨m,u,rows,τ4,q0,q1,q2,st4,e5,e0,e2,e4,r0,r6,r1,r2,r9⟩:=hI;have hm0:=qt r0;have hsm_:=q0.small;refine wp_seq ?_;refine wp_seq (rg [_,_,_,kG 98 _ 0 21 v [cv.v,(aj ((tkN cs m (⟨#[93]⟩:ByteArray):Nat):Int)),(aj d)] (aE (gj cs m (⟨#[93]⟩:ByteArray))),_] [0,1,3,7,15] st4 [jb r0,jb r1,jb r2,jo r6,jz 9 r9] ⟨ao e0,cD 0 r0.ptr,bS bo bQ 1 r0.ptr,iZ fun {_ a_ _ _} c=>⟨_,_,(ck rfl rfl gA (c.q 2) rfl),ja (c.B 0) (jS v cv cs m d (⟨#[93]⟩:ByteArray) _ (oD (c.B 0) (c.iz 9 rfl) (fun g_ h_ hz_=>hz_.2 _ h_)) hL (by omega) (by decide+kernel))⟩,aq fun c=>ew rfl (c.dv 3 rfl),av⟩ fun ac ag ae ab aa=> ?_);obtain ⟨e0,e2,e4,e5⟩:=aa.k4 e0 e2 e4 e5;have e22:=aa.V 4;replace r0:=aa.db 3 rfl;replace r1:=aa.B 1;replace r2:=aa.B 2;replace r6:=aa.O 6;replace r9:=aa.z1 9;refine wp_cond_split e22 (fun hc1=> ?_) (fun hc1=> ?_)
 · try simp only [ar,am] at hc1
   have htk1:gj cs m (⟨#[93]⟩:ByteArray)=false:=by simpa using hc1
   rw [mD htk1] at r0;refine wp_skip ?_;refine wp_block ?_;refine wp_seq ?_;refine aY ?_;refine bV 2 (by kernel_rfl) ?_;refine og [_,mi 98 _ 0 25 v (fun b:ByteArray × Sv × List Rw × Int × Nat=> [cv.v,aj ((b.2.2.2.2:Nat):Int),aj d]) (fun b:ByteArray × Sv × List Rw × Int × Nat=> .tuple #[bc b.1,b.2.1.v,aj b.2.2.2.1]) (fun b:ByteArray × Sv × List Rw × Int × Nat=>BQ cs m b.1 b.2.2.1 b.2.2.2.1 b.2.2.2.2) (fun b:ByteArray × Sv × List Rw × Int × Nat=>fb fx (Gn aW w) b.2.1.v b.2.2.1)] [0,1] ab [jb r0,jb r1,jb r2,jo r6,jz 9 r9] ⟨ao e0,ku (cells:=fun b:ByteArray × Sv × List Rw × Int × Nat=> [cv.v,aj ((b.2.2.2.2:Nat):Int),aj d]) (f:=fun b:ByteArray × Sv × List Rw × Int × Nat=> .tuple #[bc b.1,b.2.1.v,aj b.2.2.2.1]) (Ψ:=fun b:ByteArray × Sv × List Rw × Int × Nat=>BQ cs m b.1 b.2.2.1 b.2.2.2.1 b.2.2.2.2) (Φ:=fun b:ByteArray × Sv × List Rw × Int × Nat=>fb fx (Gn aW w) b.2.1.v b.2.2.1) fun {_ a_ _ _} c=>⟨_,_,(bK rfl rfl Tryz.call137 (c.q 0)),(AH v cv cs m d _ (oD (c.B 0) (c.iz 9 rfl) (fun g_ h_ hz_=>hz_.2 _ h_)) hL (by omega)).mono (fun e w' ⟨h0_,h1_,h2_,h3_,h4_,he_,hx_,hb_,hs_,hp_⟩=>⟨⟨h0_,h1_,h2_,h3_,h4_⟩,he_,(c.ib 0 rfl).ext hx_,hb_.back (c.ib 0 rfl),hp_,c.sns ab hx_.size hs_⟩)⟩,av⟩ fun ac ag ae ab aa=> ?_;obtain ⟨e0,e2,e4,e5,e22⟩:=aa.k5 e0 e2 e4 e5 e22;obtain ⟨⟨s1_,rw1_,ws1_,er1_,j1_⟩,e25,hro6,hq1_,hz6⟩:=aa.zb 1 rfl;have e25:be ac 25=(.tuple #[(bc s1_),rw1_.v,(aj er1_)]):=e25;have hq1_:BQ cs m s1_ ws1_ er1_ j1_:=hq1_;obtain ⟨hj1_,hsz1_,hty1_,hln1_,hpr1_⟩:=hq1_;replace r0:cH 98 [cv.v,(aj ((j1_:Nat):Int)),(aj d)] (ae 0) v ag:=hro6;replace r1:=aa.B 1;replace r2:=aa.B 2;replace r6:=aa.O 6;replace r9:=aa.z1 9;have r3:=hz6;refine bW ?_;refine og [_,_,_,_,_,_,_] [0,1,3,7,15,31,63] ab [jb r0,jb r1,jb r2,jz 3 r3,jo r6,jz 9 r9] ⟨ao e25,bR 0,bR 0,bR 0,aK 1,aK 2,aK 3,av⟩ fun ac ag ae ab aa=> ?_;obtain ⟨e0,e2,e4,e5,e22⟩:=aa.k5 e0 e2 e4 e5 e22;have e6:=aa.V 4;have e7:=aa.V 5;have e8:=aa.V 6;replace r0:=aa.B 0;replace r1:=aa.B 1;replace r2:=aa.B 2;obtain ⟨r3,r9⟩:=aa.z2 3 9;replace r6:=aa.O 6;refine wp_seq ?_;refine wp_seq (eA ab [jb r0,jb r1,jb r2,jz 3 r3,jo r6,jz 9 r9] ⟨ao e8,aq fun c=>fh rfl (c.q 0) rfl,av⟩ fun ac ag ae ab aa=> ?_);obtain ⟨e0,e2,e4,e5,e6,e7,e8,e22⟩:=aa.k8 e0 e2 e4 e5 e6 e7 e8 e22;have e30:=aa.V 1;replace r0:=aa.B 0;replace r1:=aa.B 1;replace r2:=aa.B 2;obtain ⟨r3,r9⟩:=aa.z2 3 9;replace r6:=aa.O 6;refine wp_cond_split e30 (fun hc2=> ?_) (fun hc2=> ?_)
   · try simp only [ar,am,ai,ah] at hc2
     refine wp_seq (lr [0,0,1,7] ab [jb r0,jb r1,jb r2,jz 3 r3,jo r6,jz 9 r9] ⟨aq fun c=>eW (cells:=#[(aj 0),(bc (⟨#[]⟩:ByteArray)),(aE false),(.slice none 0 0),(aj 0),(aj 0),(aE false),(.slice none 0 0)]) rfl aD ni,ao e8,cp (cx:=[(aj 0),(bc (⟨#[]⟩:ByteArray)),(aE false),(.slice none 0 0),(aj 0),(aj 0),(aE false),(.slice none 0 0)]) (off:=0) ak fun c=>⟨c.bp 1 rfl e2,c.ad ((c.p e2).trans r1.ptr) e2 rfl,(c.q 0)⟩,aK 1,av⟩ fun ac ag ae ab aa=> ?_);obtain ⟨e0,e2,e4,e5,e6,e7,e8,e22,e30⟩:=aa.k9 e0 e2 e4 e5 e6 e7 e8 e22 e30;have e3:=aa.V 3;replace r0:=aa.B 0;replace r1:=aa.RB 2 e2;replace r2:=aa.B 2;obtain ⟨r3,r9⟩:=aa.z2 3 9;replace r6:=aa.O 6;refine wp_ret ?_;refine rp ?_;refine ek (fn:=Tryz.f119) rfl ab.defers e2 e3 r1 az ak rfl ?_;exact ⟨(dQ 0 (⟨#[]⟩:ByteArray) false 0 0 false),er1_,j1_,rfl,ab.extIn,r0.foot,(eQ _ _ _ _ _ _ _ _),⟨by omega,by omega⟩,fun h_=>absurd h_ (by assumption)⟩
   try simp only [ar,am,ai,ah] at hc2
   refine wp_skip ?_;refine wp_seq ?_;refine wp_seq ?_;have hio_:=(by first | exact hpr1_ (by omega) | exact hpr2_ (by omega));refine eA ab [jb r0,jb r1,jb r2,jz 3 r3,jo r6,jz 9 r9] ⟨ao e7,aq fun c=>Cu rfl br (c.q 0) (r3).1.sl,av⟩ fun ac ag ae ab aa=> ?_;obtain ⟨e0,e2,e4,e5,e6,e7,e8,e22,e30⟩:=aa.k9 e0 e2 e4 e5 e6 e7 e8 e22 e30;have e34:=aa.V 1;replace r0:=aa.B 0;replace r1:=aa.B 1;replace r2:=aa.B 2;obtain ⟨r3,r9⟩:=aa.z2 3 9;replace r6:=aa.O 6;refine wp_cond_split e34 (fun hc3=> ?_) (fun hc3=> ?_)
   · try simp only [ar,am] at hc3
     refine wp_seq ?_;refine rg [_,_,own _ _ _ 6 37 _,own _ _ _ 6 5 _] [0,0,3,7] ab [jb r0,jb r1,jb r2,jz 3 r3,jo r6,jz 9 r9] ⟨ao e5,ao e7,fF (t0:=5) rfl rfl rfl rfl br (i:=Tryz.t89) rfl rfl rfl rfl (by simp only [maxLen];(try simp);omega) (by show _ * 32≤_;(try simp);omega) (fun _ _ _ _ c=>⟨c.ip 6 rfl e5,c.sm (c.n 0 rfl) e5,⟨_,(c.n 1 rfl),(c.iz 3 rfl).1⟩⟩),eP (t0:=37) rfl rfl rfl rfl rfl (.inr rfl) (fun _ _ _ _ c=>⟨c.ro 2 rfl,rfl⟩),av⟩ fun ac ag ae ab aa=> ?_;obtain ⟨b11x5,e5⟩:=gx ac 5;obtain ⟨e0,e2,e4,e6,e7,e8,e22,e30,e34⟩:=aa.k9 e0 e2 e4 e6 e7 e8 e22 e30 e34;replace r0:=aa.B 0;replace r1:=aa.B 1;replace r2:=aa.B 2;obtain ⟨r3,r9⟩:=aa.z2 3 9;replace r6:=aa.ro 3 e5 rfl;refine wp_exit ?_;repeat (with_reducible refine cy ?_)
     refine cC ?_;refine ⟨⟨j1_,b11x5,rows++ws1_,ae,?_,?_,?_,ab,e5,e0,e2,e4,r0,?_,r1,r2,r9⟩,?_⟩
     · first | exact q0.app hty1_ | exact q0.app (jt.one hsz1_ hsz2_) | exact q0.app (jt.one hsz1_ hsz1_) | exact q0.app hty2_ | exact q0.app (jt.one hsz2_ hsz3_) | exact q0.app (jt.one hsz2_ hsz2_)
     · simp only [aQ,ay,aC];omega
     · omega
     · exact r6.cast (by rfl)
     · rw [hm0,qt r0];omega
   try simp only [ar,am] at hc3
   refine wp_skip ?_;refine wp_seq (rg [_,_,_,box _ _ 4 9 [(bc (⟨#[]⟩:ByteArray)),(bc (⟨#[]⟩:ByteArray))],_] [0,0,3,0,15] ab [jb r0,jb r1,jb r2,jz 3 r3,jo r6,jz 9 r9] ⟨ao e6,ao e6,aq fun c=>vP (cells:=#[(bc s1_),(bc s1_)]) rfl dR (iT (c.n 0 rfl) (c.n 1 rfl) rfl),bO rfl rfl rfl rfl dR rfl,ey (cx:=[(bc s1_),(bc s1_)]) (off:=0) rfl bq fun c=>⟨c.rb 3 rfl,(c.rb 3 rfl).ptr,(c.q 2)⟩,av⟩ fun ac ag ae ab aa=> ?_);obtain ⟨b12x9,e9⟩:=gx ac 9;obtain ⟨e0,e2,e4,e5,e6,e7,e8,e22,e30,e34⟩:=aa.k10 e0 e2 e4 e5 e6 e7 e8 e22 e30 e34;replace r0:=aa.B 0;replace r1:=aa.B 1;replace r2:=aa.B 2;replace r3:=aa.z1 3;have r4:=aa.rb 4 e9 rfl;replace r6:=aa.O 6;replace r9:=aa.z1 9;refine wp_seq ?_;refine wp_seq ?_;refine rg [_,_,_,_,_,_,_,_,_,_,_,_,_,_,_,_,_,_,_,_,_,_,_,_,_,_,_,_,_,_,_,_,_,_,_,_] [0,1,3,7,15,31,63,127,255,511,1023,2047,63,4159,12351,28735,61503,127039,262143,524287,1048575,2097151,4194303,8388607,16777215,1048575,34603007,101711871,235929599,504365055,1041235967,2147483647,4294967295,8589934591,17179869183,34359738367] ab [jb r0,jb r1,jb r2,jz 3 r3,jb r4,jo r6,jz 9 r9] ⟨ao e0,cD 0 r0.ptr,bS bo bQ 1 r0.ptr,eE fun c=>⟨_,_,(bK rfl rfl kr (c.q 2)),oU v cv cs j1_ d _ (oD (c.B 0) (c.iz 9 rfl) (fun g_ h_ hz_=>hz_.2 _ h_))⟩,aq fun c=>eI rfl (c.q 3) rfl,bD 4,aL 5 rfl fun c hpc=>aS rfl (c.p e0),aL 5 rfl fun c hpc=>eR rfl (c.M 6 hpc) r0.ptr,aL 5 rfl fun c hpc=>dh rfl bo bQ ((c.M 7 hpc).trans r0.ptr),aL 5 rfl fun c hpc=>dh rfl bU aA (c.M 8 hpc),aL 5 rfl fun c hpc=>aI rfl aN (c.M 9 hpc) (by rw [add_add];exact (c.ib 0 rfl).cell (j:=1) rfl),aL 5 rfl fun c hpc=>cN rfl (c.M 10 hpc) rfl (by have hq0:=hpc;omega),aL 5 rfl fun c hpc=>aS rfl (c.p e0),aL 5 rfl fun c hpc=>eR rfl (c.M 12 hpc) r0.ptr,aL 5 rfl fun c hpc=>dh rfl bo bQ ((c.M 13 hpc).trans r0.ptr),aL 5 rfl fun c hpc=>dh rfl bU cS (c.M 14 hpc),aL 5 rfl fun c hpc=>aI rfl dw (c.M 15 hpc) (by rw [add_add];exact (c.ib 0 rfl).cell (j:=0) rfl),aL 5 rfl fun c hpc=>dk rfl bL (c.M 16 hpc) (r9).1.sl,aL 5 rfl fun c hpc=>iC rfl (c.M 11 hpc) (c.M 17 hpc),aL 5 rfl fun c hpc=>aS rfl (c.M 18 hpc),dj 19 false rfl fun c hpc=>aS rfl (c.p e0),dj 19 false rfl fun c hpc=>eR rfl (c.M 20 hpc) r0.ptr,dj 19 false rfl fun c hpc=>dh rfl bo bQ ((c.M 21 hpc).trans r0.ptr),dj 19 false rfl fun c hpc=>dh rfl bU cS (c.M 22 hpc),dj 19 false rfl fun c hpc=>aI rfl dw (c.M 23 hpc) (by rw [add_add];exact (c.ib 0 rfl).cell (j:=0) rfl),dj 19 false rfl fun c hpc=>aS rfl (c.p e0),dj 19 false rfl fun c hpc=>eR rfl (c.M 25 hpc) r0.ptr,dj 19 false rfl fun c hpc=>dh rfl bo bQ ((c.M 26 hpc).trans r0.ptr),dj 19 false rfl fun c hpc=>dh rfl bU aA (c.M 27 hpc),dj 19 false rfl fun c hpc=>aI rfl aN (c.M 28 hpc) (by rw [add_add];exact (c.ib 0 rfl).cell (j:=1) rfl),dj 19 false rfl fun c hpc=>cN rfl (c.M 29 hpc) rfl (by have hq0:=bn hpc.2;have hq1:=hpc.1;omega),dj 19 false rfl fun c hpc=>aX rfl bL cf (c.M 24 hpc) (r9).1.sl (c.M 30 hpc) (by have hq0:=bn hpc.2;have hq1:=hpc.1;omega) (by have hq0:=bn hpc.2;have hq1:=hpc.1;omega),dj 19 false rfl fun c hpc=>aI rfl cJ (c.M 31 hpc) (((c.iz 9 rfl).1).elem (j:=0) (bF (i:=((j1_:Nat):Int)+1) (by have hq0:=bn hpc.2;have hq1:=hpc.1;omega) (by have hq0:=bn hpc.2;have hq1:=hpc.1;omega)) rfl),dj 19 false rfl fun c hpc=>oa rfl (c.M 32 hpc) rfl,aL 5 rfl fun c hpc=>pT rfl (c.M 19 hpc) (fun h=>c.m 33 rfl (And.intro hpc h)),bZ 5 34,av⟩ fun ac ag ae ab aa=> ?_;obtain ⟨e0,e2,e4,e5,e6,e7,e8,e9,e22,e30,e34⟩:=aa.k11 e0 e2 e4 e5 e6 e7 e8 e9 e22 e30 e34;have e76:=aa.V 35;replace r0:=aa.B 0;replace r1:=aa.B 1;replace r2:=aa.B 2;obtain ⟨r3,r9⟩:=aa.z2 3 9;replace r4:=aa.B 4;replace r6:=aa.O 6;refine wp_cond_split e76 (fun hc4=> ?_) (fun hc4=> ?_)
   · have hd4:=hc4;try simp only [au,bl,aR,aG,ar,am,ai,ah,dD] at hd4
     have hA_:=KW hc4;have hnx_:=jR hA_ (by decide+kernel);refine wp_seq ?_;refine mG [0,1,3,7,15,31,63,127,255,511] ab [jb r0,jb r1,jb r2,jz 3 r3,jb r4,jo r6,jz 9 r9] ⟨ao e0,cD 0 r0.ptr,bS bo bQ 1 r0.ptr,bS bU aA 2 rfl,aq fun c=>aI rfl aN (c.q 3) (by rw [add_add];exact (c.ib 0 rfl).cell (j:=1) rfl),aq fun c=>cN rfl (c.q 4) rfl (by omega),cD 0 r0.ptr,bS bo bQ 6 r0.ptr,bS bU aA 7 rfl,cp (cx:=[cv.v,(aj (((j1_:Nat):Int)+1)),(aj d)]) aA fun c=>⟨c.bp 0 rfl e0,c.ad (c.q 8) e0 rfl,(c.q 5)⟩,av⟩ fun ac ag ae ab aa=> ?_;obtain ⟨e0,e2,e4,e5,e6,e7,e8,e9,e22,e30,e34,e76⟩:=aa.k12 e0 e2 e4 e5 e6 e7 e8 e9 e22 e30 e34 e76;replace r0:=aa.RB 9 e0;replace r1:=aa.B 1;replace r2:=aa.B 2;obtain ⟨r3,r9⟩:=aa.z2 3 9;replace r4:=aa.B 4;replace r6:=aa.O 6;replace r0:cH 98 [cv.v,aj ((j1_+1:Nat):Int),aj d] (ae 0) v ag:=by rw [show ((j1_+1:Nat):Int)=((j1_:Nat):Int)+1 from by omega];exact r0
     refine wp_seq ?_;refine aY ?_;refine bV 2 (by kernel_rfl) ?_;refine og [_,mi 98 _ 0 88 v (fun b:ByteArray × Sv × List Rw × Int × Nat=> [cv.v,aj ((b.2.2.2.2:Nat):Int),aj d]) (fun b:ByteArray × Sv × List Rw × Int × Nat=> .tuple #[bc b.1,b.2.1.v,aj b.2.2.2.1]) (fun b:ByteArray × Sv × List Rw × Int × Nat=>BQ cs (j1_+1) b.1 b.2.2.1 b.2.2.2.1 b.2.2.2.2) (fun b:ByteArray × Sv × List Rw × Int × Nat=>fb fx (Gn aW w) b.2.1.v b.2.2.1)] [0,1] ab [jb r0,jb r1,jb r2,jz 3 r3,jb r4,jo r6,jz 9 r9] ⟨ao e0,ku (cells:=fun b:ByteArray × Sv × List Rw × Int × Nat=> [cv.v,aj ((b.2.2.2.2:Nat):Int),aj d]) (f:=fun b:ByteArray × Sv × List Rw × Int × Nat=> .tuple #[bc b.1,b.2.1.v,aj b.2.2.2.1]) (Ψ:=fun b:ByteArray × Sv × List Rw × Int × Nat=>BQ cs (j1_+1) b.1 b.2.2.1 b.2.2.2.1 b.2.2.2.2) (Φ:=fun b:ByteArray × Sv × List Rw × Int × Nat=>fb fx (Gn aW w) b.2.1.v b.2.2.1) fun {_ a_ _ _} c=>⟨_,_,(bK rfl rfl Tryz.call137 (c.q 0)),(AH v cv cs (j1_+1) d _ (oD (c.B 0) (c.iz 9 rfl) (fun g_ h_ hz_=>hz_.2 _ h_)) hL (by omega)).mono (fun e w' ⟨h0_,h1_,h2_,h3_,h4_,he_,hx_,hb_,hs_,hp_⟩=>⟨⟨h0_,h1_,h2_,h3_,h4_⟩,he_,(c.ib 0 rfl).ext hx_,hb_.back (c.ib 0 rfl),hp_,c.sns ab hx_.size hs_⟩)⟩,av⟩ fun ac ag ae ab aa=> ?_;obtain ⟨e0,e2,e4,e5,e6,e7,e8,e9,e22,e30,e34,e76⟩:=aa.k12 e0 e2 e4 e5 e6 e7 e8 e9 e22 e30 e34 e76;obtain ⟨⟨s2_,rw2_,ws2_,er2_,j2_⟩,e88,hro15,hq2_,hz15⟩:=aa.zb 1 rfl;have e88:be ac 88=(.tuple #[(bc s2_),rw2_.v,(aj er2_)]):=e88;have hq2_:BQ cs (j1_+1) s2_ ws2_ er2_ j2_:=hq2_;obtain ⟨hj2_,hsz2_,hty2_,hln2_,hpr2_⟩:=hq2_;replace r0:cH 98 [cv.v,(aj ((j2_:Nat):Int)),(aj d)] (ae 0) v ag:=hro15;replace r1:=aa.B 1;replace r2:=aa.B 2;obtain ⟨r3,r9⟩:=aa.z2 3 9;replace r4:=aa.B 4;replace r6:=aa.O 6;have r5:=hz15;refine bW ?_;refine og [_,_,_,_,_,_,_] [0,1,3,7,15,31,63] ab [jb r0,jb r1,jb r2,jz 3 r3,jb r4,jz 5 r5,jo r6,jz 9 r9] ⟨ao e88,bR 0,bR 0,bR 0,aK 1,aK 2,aK 3,av⟩ fun ac ag ae ab aa=> ?_;obtain ⟨e0,e2,e4,e5,e6,e7,e8,e9,e22,e30,e34,e76⟩:=aa.k12 e0 e2 e4 e5 e6 e7 e8 e9 e22 e30 e34 e76;have e10:=aa.V 4;have e11:=aa.V 5;have e12:=aa.V 6;replace r0:=aa.B 0;replace r1:=aa.B 1;replace r2:=aa.B 2;obtain ⟨r3,r5,r9⟩:=aa.z3 3 5 9;replace r4:=aa.B 4;replace r6:=aa.O 6;refine wp_seq ?_;refine wp_seq (eA ab [jb r0,jb r1,jb r2,jz 3 r3,jb r4,jz 5 r5,jo r6,jz 9 r9] ⟨ao e12,aq fun c=>fh rfl (c.q 0) rfl,av⟩ fun ac ag ae ab aa=> ?_);obtain ⟨e0,e2,e4,e5,e6,e7,e8,e9,e10,e11,e12,e22,e30,e34,e76⟩:=aa.k15 e0 e2 e4 e5 e6 e7 e8 e9 e10 e11 e12 e22 e30 e34 e76;have e93:=aa.V 1;replace r0:=aa.B 0;replace r1:=aa.B 1;replace r2:=aa.B 2;obtain ⟨r3,r5,r9⟩:=aa.z3 3 5 9;replace r4:=aa.B 4;replace r6:=aa.O 6;refine wp_cond_split e93 (fun hc5=> ?_) (fun hc5=> ?_)
     · try simp only [ar,am,ai,ah] at hc5
       refine wp_seq (lr [0,0,1,7] ab [jb r0,jb r1,jb r2,jz 3 r3,jb r4,jz 5 r5,jo r6,jz 9 r9] ⟨aq fun c=>eW (cells:=#[(aj 0),(bc (⟨#[]⟩:ByteArray)),(aE false),(.slice none 0 0),(aj 0),(aj 0),(aE false),(.slice none 0 0)]) rfl aD ni,ao e12,cp (cx:=[(aj 0),(bc (⟨#[]⟩:ByteArray)),(aE false),(.slice none 0 0),(aj 0),(aj 0),(aE false),(.slice none 0 0)]) (off:=0) ak fun c=>⟨c.bp 1 rfl e2,c.ad ((c.p e2).trans r1.ptr) e2 rfl,(c.q 0)⟩,aK 1,av⟩ fun ac ag ae ab aa=> ?_);obtain ⟨e0,e2,e4,e5,e6,e7,e8,e9,e10,e11,e12,e22,e30,e34,e76,e93⟩:=aa.k16 e0 e2 e4 e5 e6 e7 e8 e9 e10 e11 e12 e22 e30 e34 e76 e93;have e3:=aa.V 3;replace r0:=aa.B 0;replace r1:=aa.RB 2 e2;replace r2:=aa.B 2;obtain ⟨r3,r5,r9⟩:=aa.z3 3 5 9;replace r4:=aa.B 4;replace r6:=aa.O 6;refine wp_ret ?_;refine rp ?_;refine ek (fn:=Tryz.f119) rfl ab.defers e2 e3 r1 az ak rfl ?_;exact ⟨(dQ 0 (⟨#[]⟩:ByteArray) false 0 0 false),er2_,j2_,rfl,ab.extIn,r0.foot,(eQ _ _ _ _ _ _ _ _),⟨by omega,by omega⟩,fun h_=>absurd h_ (by assumption)⟩
     try simp only [ar,am,ai,ah] at hc5
     refine wp_skip ?_;refine wp_seq ?_;refine wp_seq ?_;have hio2_:=(by first | exact hpr3_ (by omega) | exact hpr2_ (by omega));refine ue [0,1,3,7,7,31,63] ab [jb r0,jb r1,jb r2,jz 3 r3,jb r4,jz 5 r5,jo r6,jz 9 r9] ⟨ao e11,aq fun c=>Cu rfl br (c.q 0) (r5).1.sl,bD 1,bm 2 rfl fun c hpc=>aS rfl (c.p e10),bm 2 rfl fun c hpc=>aS rfl (c.p e6),bm 2 rfl fun c hpc=>EU rfl (c.M 3 hpc) (c.M 4 hpc),dm 2 5,av⟩ fun ac ag ae ab aa=> ?_;obtain ⟨e0,e2,e4,e5,e6,e7,e8,e9,e10,e11,e12,e22,e30,e34,e76,e93⟩:=aa.k16 e0 e2 e4 e5 e6 e7 e8 e9 e10 e11 e12 e22 e30 e34 e76 e93;have e102:=aa.V 6;replace r0:=aa.B 0;replace r1:=aa.B 1;replace r2:=aa.B 2;obtain ⟨r3,r5,r9⟩:=aa.z3 3 5 9;replace r4:=aa.B 4;replace r6:=aa.O 6;refine wp_cond_split e102 (fun hc6=> ?_) (fun hc6=> ?_)
     · try simp only [aR,aG,ar,am] at hc6
       refine wp_seq (fX ab [jb r0,jb r1,jb r2,jz 3 r3,jb r4,jz 5 r5,jo r6,jz 9 r9] ⟨aq fun c=>eW (cells:=#[(aj 0),(bc (⟨#[]⟩:ByteArray)),(aE false),(.slice none 0 0),(aj 0),(aj 0),(aE false),(.slice none 0 0)]) rfl aD ni,cp (cx:=[(aj 0),(bc (⟨#[]⟩:ByteArray)),(aE false),(.slice none 0 0),(aj 0),(aj 0),(aE false),(.slice none 0 0)]) (off:=0) ak fun c=>⟨c.bp 1 rfl e2,c.ad ((c.p e2).trans r1.ptr) e2 rfl,(c.q 0)⟩,aq fun c=>ax rfl rfl,av⟩ fun ac ag ae ab aa=> ?_);obtain ⟨e0,e2,e4,e5,e6,e7,e8,e9,e10,e11,e12,e22,e30,e34,e76,e93,e102,-⟩:=aa.ks [(0,_),(2,_),(4,_),(5,_),(6,_),(7,_),(8,_),(9,_),(10,_),(11,_),(12,_),(22,_),(30,_),(34,_),(76,_),(93,_),(102,_)] ⟨e0,e2,e4,e5,e6,e7,e8,e9,e10,e11,e12,e22,e30,e34,e76,e93,e102,av⟩;have e3:=aa.V 2;replace r0:=aa.B 0;replace r1:=aa.RB 1 e2;replace r2:=aa.B 2;obtain ⟨r3,r5,r9⟩:=aa.z3 3 5 9;replace r4:=aa.B 4;replace r6:=aa.O 6;refine wp_ret ?_;refine rp ?_;refine ek (fn:=Tryz.f119) rfl ab.defers e2 e3 r1 az ak rfl ?_;exact ⟨(dQ 0 (⟨#[]⟩:ByteArray) false 0 0 false),10,j2_,rfl,ab.extIn,r0.foot,(eQ _ _ _ _ _ _ _ _),⟨by omega,by omega⟩,fun h_=>absurd h_ (by decide)⟩
     try simp only [aR,aG,ar,am] at hc6
     refine wp_skip ?_;refine fX ab [jb r0,jb r1,jb r2,jz 3 r3,jb r4,jz 5 r5,jo r6,jz 9 r9] ⟨ao e10,cK cZ cf e9 r4.ptr,cp (cx:=[(bc s1_),(bc s2_)]) cf fun c=>⟨c.bp 4 rfl e9,c.ad (c.q 1) e9 rfl,(c.q 0)⟩,av⟩ fun ac ag ae ab aa=> ?_;obtain ⟨e0,e2,e4,e5,e6,e7,e8,e9,e10,e11,e12,e22,e30,e34,e76,e93,e102,-⟩:=aa.ks [(0,_),(2,_),(4,_),(5,_),(6,_),(7,_),(8,_),(9,_),(10,_),(11,_),(12,_),(22,_),(30,_),(34,_),(76,_),(93,_),(102,_)] ⟨e0,e2,e4,e5,e6,e7,e8,e9,e10,e11,e12,e22,e30,e34,e76,e93,e102,av⟩;replace r0:=aa.B 0;replace r1:=aa.B 1;replace r2:=aa.B 2;obtain ⟨r3,r5,r9⟩:=aa.z3 3 5 9;replace r4:=aa.RB 2 e9;replace r6:=aa.O 6;refine rg [_,_,own fx 89 _ 7 108 ([(s1_,s2_)]),own _ _ _ 6 109 _,own _ _ _ 6 5 _] [0,0,2,7,15] ab [jb r0,jb r1,jb r2,jz 3 r3,jb r4,jz 5 r5,jo r6,jz 9 r9] ⟨ao e5,aq fun c=>dY rfl dF bq ((c.p e9).trans r4.ptr) (c.B 4),dt (cells:=#[(bc s1_),(bc s2_)]) rfl rfl rfl rfl br bq dR rfl (by decide) (by decide) (fun _ _ _ _ c=>gB (c.n 1 rfl) (by kernel_rfl)) rfl,fF (t0:=5) rfl rfl rfl rfl br (i:=Tryz.t89) rfl rfl rfl rfl (by simp only [maxLen];(try simp);omega) (by show _ * 32≤_;(try simp);omega) (fun _ _ _ _ c=>⟨c.ip 6 rfl e5,c.sm (c.n 0 rfl) e5,⟨_,rfl,(c.ro 2 rfl).1.sl⟩⟩),eP (t0:=109) rfl rfl rfl rfl rfl (.inr rfl) (fun _ _ _ _ c=>⟨c.ro 3 rfl,rfl⟩),av⟩ fun ac ag ae ab aa=> ?_;obtain ⟨b22x108,e108⟩:=gx ac 108;obtain ⟨b22x5,e5⟩:=gx ac 5;obtain ⟨e0,e2,e4,e6,e7,e8,e9,e10,e11,e12,e22,e30,e34,e76,e93,e102⟩:=aa.k16 e0 e2 e4 e6 e7 e8 e9 e10 e11 e12 e22 e30 e34 e76 e93 e102;replace r0:=aa.B 0;replace r1:=aa.B 1;replace r2:=aa.B 2;obtain ⟨r3,r5⟩:=aa.z2 3 5;replace r4:=aa.B 4;replace r6:=aa.ro 4 e5 rfl;have r7:=aa.ro 2 e108 rfl;replace r9:=aa.z1 9;show _;refine ⟨⟨j2_,b22x5,rows++ [(s1_,s2_)],ae,?_,?_,?_,ab,e5,e0,e2,e4,r0,?_,r1,r2,r9⟩,?_⟩
     · first | exact q0.app hty1_ | exact q0.app (jt.one hsz1_ hsz2_) | exact q0.app (jt.one hsz1_ hsz1_) | exact q0.app hty2_ | exact q0.app (jt.one hsz2_ hsz3_) | exact q0.app (jt.one hsz2_ hsz2_)
     · simp only [aQ,ay,aC];omega
     · omega
     · exact r6.cast (by rfl)
     · rw [hm0,qt r0];omega
   have hd6:=hc4;try simp only [au,bl,aR,aG,ar,am,ai,ah,dD] at hd6
   refine wp_skip ?_;refine rg [_,_,own fx 89 _ 5 108 ([(s1_,s1_)]),own _ _ _ 6 109 _,own _ _ _ 6 5 _] [0,0,2,7,15] ab [jb r0,jb r1,jb r2,jz 3 r3,jb r4,jo r6,jz 9 r9] ⟨ao e5,aq fun c=>dY rfl dF bq ((c.p e9).trans r4.ptr) (c.B 4),dt (cells:=#[(bc s1_),(bc s1_)]) rfl rfl rfl rfl br bq dR rfl (by decide) (by decide) (fun _ _ _ _ c=>gB (c.n 1 rfl) (by kernel_rfl)) rfl,fF (t0:=5) rfl rfl rfl rfl br (i:=Tryz.t89) rfl rfl rfl rfl (by simp only [maxLen];(try simp);omega) (by show _ * 32≤_;(try simp);omega) (fun _ _ _ _ c=>⟨c.ip 6 rfl e5,c.sm (c.n 0 rfl) e5,⟨_,rfl,(c.ro 2 rfl).1.sl⟩⟩),eP (t0:=109) rfl rfl rfl rfl rfl (.inr rfl) (fun _ _ _ _ c=>⟨c.ro 3 rfl,rfl⟩),av⟩ fun ac ag ae ab aa=> ?_;obtain ⟨b23x108,e108⟩:=gx ac 108;obtain ⟨b23x5,e5⟩:=gx ac 5;obtain ⟨e0,e2,e4,e6,e7,e8,e9,e22,e30,e34,e76⟩:=aa.k11 e0 e2 e4 e6 e7 e8 e9 e22 e30 e34 e76;replace r0:=aa.B 0;replace r1:=aa.B 1;replace r2:=aa.B 2;replace r3:=aa.z1 3;replace r4:=aa.B 4;have r5:=aa.ro 2 e108 rfl;replace r6:=aa.ro 4 e5 rfl;replace r9:=aa.z1 9;show _;refine ⟨⟨j1_,b23x5,rows++ [(s1_,s1_)],ae,?_,?_,?_,ab,e5,e0,e2,e4,r0,?_,r1,r2,r9⟩,?_⟩
   · first | exact q0.app hty1_ | exact q0.app (jt.one hsz1_ hsz2_) | exact q0.app (jt.one hsz1_ hsz1_) | exact q0.app hty2_ | exact q0.app (jt.one hsz2_ hsz3_) | exact q0.app (jt.one hsz2_ hsz2_)
   · simp only [aQ,ay,aC];omega
   · omega
   · exact r6.cast (by rfl)
   · rw [hm0,qt r0];omega
 try simp only [ar,am] at hc1
 have htk6:gj cs m (⟨#[93]⟩:ByteArray)=true:=by simpa using hc1
 have htl6:=kx htk6;rw [na htk6] at r0;refine wp_exit ?_;repeat (with_reducible refine cy ?_)
 refine cC ?_;refine wp_seq ?_;refine aY ?_;refine bV 2 (by kernel_rfl) ?_;refine og [_,gE _ 111 (fun b:Sv=>b.v) (fun _=>True) (fun b:Sv=>fb fx (Gn aW w) b.v (je rows))] [0,1] ab [jb r0,jb r1,jb r2,jo r6,jz 9 r9] ⟨ao e5,eT (f:=fun b:Sv=>b.v) (Ψ:=fun _=>True) (Φ:=fun b:Sv=>fb fx (Gn aW w) b.v (je rows)) fun {_ a_ _ _} c=>⟨_,_,(bK rfl rfl Tryz.call138 (c.q 0)),(Ia u rows _ (c.io 6 rfl).1.sl (by first | assumption | (unfold wd;decide)) (by omega)).mono (fun e w' ⟨v_,he_,hx_,hn_⟩=>by obtain ⟨s_,rfl⟩:=hn_.1.sl.sl.sv;exact ⟨s_,he_,hx_,av,c.sn ab hx_ hn_⟩)⟩,av⟩ fun ac ag ae ab aa=> ?_;obtain ⟨e0,e2,e4⟩:=aa.k3 e0 e2 e4;obtain ⟨rw3_,e111,-,hz24⟩:=aa.zd 1 rfl;have e111:be ac 111=rw3_.v:=e111;replace r0:=aa.B 0;replace r1:=aa.B 1;replace r2:=aa.B 2;replace r9:=aa.z1 9;have r3:=hz24;refine bW ?_;refine og [_,_] [0,1] ab [jb r0,jb r1,jb r2,jz 3 r3,jz 9 r9] ⟨cK aJ fl e4 r2.ptr,cp (cx:=[(aj 4),(bc (⟨#[]⟩:ByteArray)),(aE (gj cs i (⟨#[94]⟩:ByteArray))),rw3_.v,(aj 0),(aj 0),(aE false),(.slice none 0 0)]) fl fun c=>⟨c.bp 2 rfl e4,c.ad (c.q 0) e4 rfl,(c.p e111)⟩,av⟩ fun ac ag ae ab aa=> ?_;obtain ⟨e0,e2,e4⟩:=aa.k3 e0 e2 e4;replace r0:=aa.B 0;replace r1:=aa.B 1;replace r2:=aa.RB 1 e4;obtain ⟨r3,r9⟩:=aa.z2 3 9;refine wp_seq (fX ab [jb r0,jb r1,jb r2,jz 3 r3,jz 9 r9] ⟨aq fun c=>dY rfl az ak ((c.p e4).trans r2.ptr) (c.B 2),cp (cx:=[(aj 4),(bc (⟨#[]⟩:ByteArray)),(aE (gj cs i (⟨#[94]⟩:ByteArray))),rw3_.v,(aj 0),(aj 0),(aE false),(.slice none 0 0)]) (off:=0) ak fun c=>⟨c.bp 1 rfl e2,c.ad ((c.p e2).trans r1.ptr) e2 rfl,(c.q 0)⟩,aq fun c=>ax rfl rfl,av⟩ fun ac ag ae ab aa=> ?_);obtain ⟨e0,e2⟩:=aa.k2 e0 e2;have e3:=aa.V 2;replace r0:=aa.B 0;replace r1:=aa.RB 1 e2;obtain ⟨r3,r9⟩:=aa.z2 3 9;refine wp_ret ?_;refine rp ?_;refine ek (fn:=Tryz.f119) rfl ab.defers e2 e3 r1 az ak rfl ?_;exact ⟨(nc (gj cs i (⟨#[94]⟩:ByteArray)) rw3_ (je rows)),0,m+1,rfl,ab.extIn,r0.foot,(Fz.out (JE r3)),⟨by omega,by omega⟩,fun h_=>by rw [show er (nc (gj cs i (⟨#[94]⟩:ByteArray)) rw3_ (je rows))=(nc (gj cs i (⟨#[94]⟩:ByteArray)) Sv.nil (je rows)) from BE _ _ _];exact JQ q0 hd.2 (by omega) (by omega)⟩
end
end B
end Go.Proofs.YtcfdebjhikahfaaGreat
