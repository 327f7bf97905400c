/-
  Proved here: the given statement RunBehindSaid of chapter 16, that is: the law RunBehind answers true for every three texts and place.
  Conditions: none beyond the statement. Own texts, put together and shortened by programs.
-/
import Derived.Test.YtcfdebjhikahfaaGreatZx7
import Derived.Test.YtcfdebjhikahfaaGreatRows
import Derived.ChangeMaps5
set_option linter.unusedSimpArgs false
set_option linter.unusedVariables false
set_option linter.unusedSectionVars false
namespace Go.Proofs.YtcfdebjhikahfaaGreat
section
open Go.RowKit
abbrev nW:=@Int.tmod_lt_of_pos
abbrev qx:=@Int.tmod_nonneg
abbrev iL:=@List.eq_of_mem_replicate
abbrev jI:=@List.mem_or_eq_of_mem_set
abbrev dN:=@Tryz.call15
abbrev lf:=@Tryz.call22
abbrev jM:=@Tryz.call25
abbrev kt:=@Tryz.call26
end
namespace B
section
open Go.RowKit
section
variable {P:Program} {a:Act} {o:Oper} {w:World}
section ints
variable {t t':TypeId} {x y:Operand} {k:IntKind} {p q:Int}
theorem tH (ho:o.op= .binOp .rem t x y t') (hx:a.eval x= .int k p) (hy:a.eval y= .int k q) (hq:q≠0):cA P a o w (.int k (p.tmod q)):=by
  simp [cA,execOp,ho,hx,hy,eqGuard,binOp,Op.intDiv,hq]
end ints
section memory
variable {t e:TypeId} {x y:Operand} {p:Addr}
end memory
end
end
section
open Go.RowKit
section
variable {P:Program} {a:Act} {o:Oper} {w:World} {t t':TypeId} {x y z:Operand} {s u:ByteArray} {k k':IntKind} {p q:Int}
theorem IN (ho:o.op= .slice t x none (some z) none) (ht:P.underlying t=some .string) (hx:a.eval x= .string s) (hz:a.eval z= .int k' q) (h4:0≤q) (h2:q≤s.size):cA P a o w (.string (s.extract 0 q.toNat)):=by
  simp [cA,execOp,ho,hx,hz,Instr.sliceAt,Instr.slice,run_underlying ht,Instr.sliceBounds,Instr.sliceBound,asIntOf,h2,h4]
end
section
variable {N:bj} {P:Program} {ops:Array Oper} {sp:List (Spec N)} {In:Nat→Ini N} {a0:Act} {w0:World} {bf:List Nat} {j:Nat} {o:Oper} {s:Spec N}
end
end
section
open Go.RowKit
section
variable {N:bj} {β:Type}
end
section
variable {N:bj} {P:Program} {ops:Array Oper} {sp:List (Spec N)} {In:Nat→Ini N} {a0:Act} {w0:World} {bf:List Nat} {j:Nat} {o:Oper} {s:Spec N} {β:Type}
end
section
variable {N:bj} {P:Program} {ops:Array Oper} {sp:List (Spec N)} {In:Nat→Ini N} {a0:Act} {w0:World} {bf:List Nat} {j:Nat} {o:Oper} {done:Nat→Bool} {a:Act} {w:World} {τ:Nat→bj}
end
section
variable {N:bj} {l:List Oper} {sp:List (Spec N)} {il:List (Ini N)} {a0 a:Act} {w:World} {τ:Nat→bj} {β:Type}
end
section
variable {P:Program} {a:Act} {o:Oper} {w w':World} {f:FuncId}
end
section
variable {N:bj} {β:Type}
end
section
variable {N:bj} {P:Program} {ops:Array Oper} {sp:List (Spec N)} {In:Nat→Ini N} {a0:Act} {w0:World} {bf:List Nat} {j:Nat} {o:Oper} {s:Spec N} {β:Type} {pc:Prop}
theorem zn {t:Nat} {f:β→Value} {Φ:β→ZP} (h:∀{done a w τ},Cx ops sp In a0 w0 bf j o done a w τ→∃b,cA P a o w (f b)∧(Φ b).P (gO τ w) w)
    (hs:s=iA N t True f (fun _=>True) Φ:=by exact rfl) (hg:o.guard=none:=by exact rfl) (hd:o.dst=some t:=by exact rfl):Ob ops sp In a0 w0 P bf j o s:=by
  subst hs;intro done a w τ c;refine ⟨fun _=> ?_,fun hw=> ?_⟩
  · obtain ⟨b,hr,hz⟩:=h c;refine iu hr ⟨_,rfl,Ext.refl _ _,fun _=>⟨b,?_,av,hz⟩⟩;show be (a.put o.dst (f b)) t=f b;rw [hd,eJ a t t _ (c.lt t hd),if_pos rfl]
  · exfalso;unfold Region.wanted at hw;rw [hg] at hw;cases hw
end
section
variable {N:bj} {P:Program} {ops:Array Oper} {sp:List (Spec N)} {In:Nat→Ini N} {a0:Act} {w0:World} {bf:List Nat} {j:Nat} {o:Oper} {done:Nat→Bool} {a:Act} {w:World} {τ:Nat→bj} {β:Type} {pc:Prop}
end
section
variable {N:bj} {l:List Oper} {sp:List (Spec N)} {il:List (Ini N)} {a0 a:Act} {w:World} {τ:Nat→bj} {β:Type} {pc:Prop}
end
section
variable {N:bj} {P:Program} {ops:Array Oper} {sp:List (Spec N)} {In:Nat→Ini N} {a0:Act} {w0:World} {bf:List Nat} {j:Nat} {o:Oper} {s:Spec N}
end
section
variable {N:bj} {l:List Oper} {sp:List (Spec N)} {il:List (Ini N)} {a0 a:Act} {w:World} {τ:Nat→bj}
end
end
section
open Go.RowKit
section
variable {N:bj} {τ:Nat→bj} {w:World}
end
section
variable {N:bj} {n:Nat} {W0 a0':World} {l:List Oper} {sp:List (Spec N)} {a0:Act} {w0:World} {τ0:Nat→bj} {bf:List Nat} {id:Nat} {draw:Bool} {Q:Exit→Act→World→Prop} {P:Program}
end
section
variable {N:bj} {l:List Oper} {sp:List (Spec N)} {il:List (Ini N)} {a0 a:Act} {w:World} {τ:Nat→bj}
theorem Fin.k13 (h:Fin l sp il a0 a w τ) {t0 t1 t2 t3 t4 t5 t6 t7 t8 t9 t10 t11 t12:Nat} {v0 v1 v2 v3 v4 v5 v6 v7 v8 v9 v10 v11 v12:Value} (e0:be a0 t0=v0) (e1:be a0 t1=v1) (e2:be a0 t2=v2) (e3:be a0 t3=v3) (e4:be a0 t4=v4) (e5:be a0 t5=v5) (e6:be a0 t6=v6) (e7:be a0 t7=v7) (e8:be a0 t8=v8) (e9:be a0 t9=v9) (e10:be a0 t10=v10) (e11:be a0 t11=v11) (e12:be a0 t12=v12) (hu:([t0,t1,t2,t3,t4,t5,t6,t7,t8,t9,t10,t11,t12].all (kU l))=true:=by kernel_rfl):be a t0=v0∧be a t1=v1∧be a t2=v2∧be a t3=v3∧be a t4=v4∧be a t5=v5∧be a t6=v6∧be a t7=v7∧be a t8=v8∧be a t9=v9∧be a t10=v10∧be a t11=v11∧be a t12=v12:=by
  simp only [ec,fy,au] at hu;exact ⟨h.old e0 hu.1,h.old e1 hu.2.1,h.old e2 hu.2.2.1,h.old e3 hu.2.2.2.1,h.old e4 hu.2.2.2.2.1,h.old e5 hu.2.2.2.2.2.1,h.old e6 hu.2.2.2.2.2.2.1,h.old e7 hu.2.2.2.2.2.2.2.1,h.old e8 hu.2.2.2.2.2.2.2.2.1,h.old e9 hu.2.2.2.2.2.2.2.2.2.1,h.old e10 hu.2.2.2.2.2.2.2.2.2.2.1,h.old e11 hu.2.2.2.2.2.2.2.2.2.2.2.1,h.old e12 hu.2.2.2.2.2.2.2.2.2.2.2.2.1⟩
end
section
variable {N:bj} {P:Program} {ops:Array Oper} {sp:List (Spec N)} {In:Nat→Ini N} {a0:Act} {w0:World} {bf:List Nat} {j:Nat} {o:Oper} {done:Nat→Bool} {a:Act} {w:World} {τ:Nat→bj}
end
section
variable {N:bj} {P:Program} {ops:Array Oper} {sp:List (Spec N)} {In:Nat→Ini N} {a0:Act} {w0:World} {bf:List Nat} {j:Nat} {o:Oper} {s:Spec N} {t d:Nat} {v:Value}
end
section
variable {P:Program} {a:Act} {o:Oper} {w:World} {t:TypeId} {x:Operand}
end
end
section
open Go.ChangeShapes Go.WideShapes Go.ChangeAt Go.RowKit
section
variable {P:Program} {e:TypeId}
end
section
variable {P:Program} {W:World} {H:Type} {enc:TypeId × Value→H} {base:Nat} {spare:Nat→Bool} {held:Bool}
theorem jB {t:TypeId} (ht:P.underlying t=some (.int .i64)) {r:Reach} {b0:Nat} {v:Value} (hv:Value.okWide P W r b0 t v) {d:DataW H} {p:List MemPlace} (h:DataW.Trod enc P W base spare held t v d p):∃n,v= .int .i64 n∧ -9223372036854775808≤n∧n≤9223372036854775807:=by
  obtain ⟨n,rfl,_,_,hw⟩:=open_int ht hv h;simp [Lit.wf,IntKind.min,IntKind.max,IntKind.signed,IntKind.bits] at hw;exact ⟨n,rfl,hw⟩
end
end
section
open Go.RowKit
def ff (x n:Int):Int:=IntKind.i64.wrap ((IntKind.u64.wrap x).tmod (IntKind.u64.wrap n))
theorem nH {n:Int} (h:0 < n) (h2:n≤9223372036854775807):IntKind.u64.wrap n≠0:=by
  have:IntKind.u64.wrap n=n:=by simp [IntKind.wrap,IntKind.signed,IntKind.bits];omega
  omega
theorem kn {α:Type} [Inhabited α] {xs ys:List α} {k:Nat} (h:k < xs.length) (h':k < ys.length) (hq:xs.take k=ys.take k) (h0:nth xs (k:Int)=nth ys (k:Int)):xs.take (k+1)=ys.take (k+1):=by
  rw [eH h,eH h',hq,h0]
theorem jC {α:Type} [Inhabited α] {xs ys:List α} {i:Int} (h:¬nth xs i=nth ys i):¬xs=ys:=fun e=>h (by rw [e])
theorem go {α:Type} {xs ys:List α} {k:Nat} (hl:xs.length=ys.length) (hk:k≤xs.length) (hq:xs.take k=ys.take k) (h:(xs.length:Int)≤k):xs=ys:=by
  rwa [bw (by omega),bw (by omega)] at hq
def dA (p q:Int × Int):Bool:=decide (p=q)
theorem ko (p q:Int × Int):dA p q=(decide (p.1=q.1)&&decide (p.2=q.2)):=by
  rw [eZ];simp [dA,Prod.ext_iff]
set_option maxRecDepth 100000 in
theorem iW (p q:Int × Int) (w:World):(Op.equal 38 (fB p) (fB q)).run Tryz.prog w= .ok (dA p q) w:=by
  rw [ko];have h:=run_equalIn_struct (P:=Tryz.prog) w 9999 38 #[.int .i64 p.1,.int .i64 p.2] #[.int .i64 q.1,.int .i64 q.2] rfl Tryz.stoodInHeld38;simp only [Op.equal,Op.maxDepth,fB,h];simp [Program.fieldsOf,Op.eqFields,part,go_sem];by_cases h1:p.1=q.1 <;> by_cases h2:p.2=q.2 <;> simp [h1,h2]
theorem jU {a:Act} {o:Oper} {w:World} {x y:Operand} {t':TypeId} {p q:Int × Int} (ho:o.op= .binOp .neq 38 x y t') (hx:a.eval x=fB p) (hy:a.eval y=fB q):cA Tryz.prog a o w (.bool (!dA p q)):=by
  have h:=iW p q w;simp only [fB] at h hx hy;simp [cA,execOp,ho,hx,hy,eqGuard,binOp,h]
set_option maxRecDepth 100000 in
theorem qC (x n:Int) (w:World) (hn:0 < n) (hn2:n≤9223372036854775807):Calls Tryz.prog 22 #[aj x,aj n] w (fun e w'=>e= .returned (aj (ff x n))∧Ext aW w w'):=by
 refine enter (n:=11) Tryz.func22 rfl rfl (aw rfl) ?_;intro a0 τ0 ha st0;obtain ⟨e0,e1⟩:=qG ha;refine wp_seq (eK st0 [] ⟨aq fun c=>ax rfl rfl,av⟩ fun ac ag ae ab aa=> ?_);obtain ⟨e0,e1⟩:=aa.k2 e0 e1;have e4:=aa.V 0;refine wp_seq (ue [0,1,0,4,15,31,63] ab [] ⟨ao e0,aq fun c=>lg rfl bX cB (c.q 0),ao e1,aq fun c=>lg rfl bX cB (c.q 2),aq fun c=>tH rfl (c.q 1) (c.q 3) (by exact nH hn hn2),aq fun c=>lg rfl cB bX (c.q 4),aK 5,av⟩ fun ac ag ae ab aa=> ?_);have e4:=aa.V 6;refine wp_ret ?_;refine rp ?_;refine cO (fn:=Tryz.f22) rfl ab.defers e4 ?_;exact ⟨rfl,ab.ext0⟩
set_option maxRecDepth 100000 in
theorem kX (v u:Value) (xs ys:List (Int × Int)) (w:World) (hS:SlT cF w v xs) (hU:SlT cF w u ys):Calls Tryz.prog 26 #[v,u] w (fun e w'=>e= .returned (aE (decide (xs=ys)))∧Ext aW w w'):=by
 refine enter (n:=26) Tryz.func26 rfl rfl (aw rfl) ?_;intro a0 τ0 ha st0;obtain ⟨e0,e1⟩:=qG ha;have hle:=hS.le;have hle2:=hU.le;refine wp_seq (eK st0 [] ⟨aq fun c=>ax rfl rfl,av⟩ fun ac ag ae ab aa=> ?_);obtain ⟨e0,e1⟩:=aa.k2 e0 e1;have e4:=aa.V 0;refine wp_seq ?_;refine wp_seq (vO [0,1,0,4,15] ab [] ⟨ao e0,aq fun c=>dk rfl bh (c.q 0) hS.sl,ao e1,aq fun c=>dk rfl bh (c.q 2) hU.sl,aq fun c=>fh rfl (c.q 1) (c.q 3),av⟩ fun ac ag ae ab aa=> ?_);obtain ⟨e0,e1,e4⟩:=aa.k3 e0 e1 e4;have e10:=aa.V 4;refine wp_cond_split e10 (fun hc1=> ?_) (fun hc1=> ?_)
 · try simp only [ar,am,ai,ah] at hc1
   refine wp_seq (eK ab [] ⟨aq fun c=>ax rfl rfl,av⟩ fun ac ag ae ab aa=> ?_);obtain ⟨e0,e1⟩:=aa.k2 e0 e1;have e4:=aa.V 0;refine wp_ret ?_;refine rp ?_;refine cO (fn:=Tryz.f26) rfl ab.defers e4 ?_;exact ⟨congrArg _ (congrArg _ (by first | (symm;exact decide_eq_false (fun h=>by subst h;omega)) | (symm;exact decide_eq_false (jC (by assumption))) | (symm;exact decide_eq_true (go q1 q0 q2 (by assumption))))),ab.ext0⟩
 try simp only [ar,am,ai,ah] at hc1
 refine wp_skip ?_;refine wp_seq ?_;refine wp_seq (eK ab [] ⟨aq fun c=>ax rfl rfl,av⟩ fun ac ag ae ab aa=> ?_);obtain ⟨e0,e1,e4⟩:=aa.k3 e0 e1 e4;have e5:=aa.V 0;refine wp_block ?_;refine wp_loop (fun a_ w_=>∃(k:Nat) (τ:Nat→bj),(k≤xs.length)∧
      (xs.length=ys.length)∧
      (xs.take k=ys.take k)∧
      St (Nw w) w 26 a_ w_ τ∧
      be a_ 5=(aj (k:Int))∧
      be a_ 0=v∧
      be a_ 1=u) (fun a_ _=>xs.length - (intOf (be a_ 5)).toNat) ?_ ?_
 · refine ⟨0,ae,?_,?_,?_,ab,(e5.trans (bB (by omega))),e0,e1⟩
   · omega
   · omega
   · simp
 intro a5 w5 hI;obtain ⟨k,τ5,q0,q1,q2,st5,e5,e0,e1⟩:=hI;have m5:=e5;refine wp_seq ?_;refine wp_seq (lr [0,0,2,7] st5 [] ⟨ao e5,ao e0,aq fun c=>dk rfl bh (c.q 1) hS.sl,aq fun c=>cW rfl (c.q 0) (c.q 2),av⟩ fun ac ag ae ab aa=> ?_);obtain ⟨e0,e1,e5⟩:=aa.k3 e0 e1 e5;have e14:=aa.V 3;refine wp_cond_split e14 (fun hc2=> ?_) (fun hc2=> ?_)
 · try simp only [ai] at hc2
   refine wp_skip ?_;refine wp_seq ?_;refine wp_block ?_;refine wp_seq (xD [0,0,3,7,0,0,48,112,255] ab [] ⟨ao e0,ao e5,aq fun c=>aX rfl bh aT (c.q 0) hS.sl (c.q 1) (by omega) (by omega),aq fun c=>cq (vs:=[(aj ((nth xs (k:Int)).1)),(aj ((nth xs (k:Int)).2))]) rfl cV aT (c.q 2) rfl (fun _ _ hj=>(hS.at (ab.ext.trans c.J.ext)).elem (bF (i:=(k:Int)) (by omega) (by omega)) hj),ao e1,ao e5,aq fun c=>aX rfl bh aT (c.q 4) hU.sl (c.q 5) (by omega) (by omega),aq fun c=>cq (vs:=[(aj ((nth ys (k:Int)).1)),(aj ((nth ys (k:Int)).2))]) rfl cV aT (c.q 6) rfl (fun _ _ hj=>(hU.at (ab.ext.trans c.J.ext)).elem (bF (i:=(k:Int)) (by omega) (by omega)) hj),aq fun c=>jU rfl (c.q 3) (c.q 7),av⟩ fun ac ag ae ab aa=> ?_);obtain ⟨e0,e1,e5,e14⟩:=aa.k4 e0 e1 e5 e14;have e25:=aa.V 8;refine wp_cond_split e25 (fun hc3=> ?_) (fun hc3=> ?_)
   · try simp only [ar,am,ai,ah,dA] at hc3
     refine wp_seq (eK ab [] ⟨aq fun c=>ax rfl rfl,av⟩ fun ac ag ae ab aa=> ?_);obtain ⟨e0,e1,e5,e14,e25⟩:=aa.k5 e0 e1 e5 e14 e25;have e4:=aa.V 0;refine wp_ret ?_;refine rp ?_;refine cO (fn:=Tryz.f26) rfl ab.defers e4 ?_;exact ⟨congrArg _ (congrArg _ (by first | (symm;exact decide_eq_false (fun h=>by subst h;omega)) | (symm;exact decide_eq_false (jC (by assumption))) | (symm;exact decide_eq_true (go q1 q0 q2 (by assumption))))),ab.ext0⟩
   try simp only [ar,am,ai,ah,dA] at hc3
   refine wp_skip ?_;show _;refine fX ab [] ⟨ao e5,aq fun c=>cN rfl (c.q 0) rfl (by omega),aK 1,av⟩ fun ac ag ae ab aa=> ?_;obtain ⟨e0,e1,e14,e25⟩:=aa.k4 e0 e1 e14 e25;have e5:=aa.V 2;refine ⟨⟨k+1,ae,?_,?_,?_,ab,(e5.trans (bB (by omega))),e0,e1⟩,?_⟩
   · omega
   · omega
   · exact kn (by omega) (by omega) q2 (by assumption)
   · simp only [m5,e5,intOf];omega
 try simp only [ah,aV] at hc2
 refine wp_exit ?_;repeat (with_reducible refine cy ?_)
 refine cC ?_;refine wp_seq (eK ab [] ⟨aq fun c=>ax rfl rfl,av⟩ fun ac ag ae ab aa=> ?_);have e4:=aa.V 0;refine wp_ret ?_;refine rp ?_;refine cO (fn:=Tryz.f26) rfl ab.defers e4 ?_;exact ⟨congrArg _ (congrArg _ (by first | (symm;exact decide_eq_false (fun h=>by subst h;omega)) | (symm;exact decide_eq_false (jC (by assumption))) | (symm;exact decide_eq_true (go q1 q0 q2 (by assumption))))),ab.ext0⟩
end
section
open Go.RowKit Srt
section
variable {G F:bj} {Z:bj} {τ:Nat→bj} {w w':World} {t:Tr} {ts us:List Tr} {v:Value}
end
section
variable {α:Type} {N:bj} {P:Program} {ops:Array Oper} {sp:List (Spec N)} {In:Nat→Ini N} {a0:Act} {w0:World} {bf:List Nat} {j:Nat} {o:Oper} {done:Nat→Bool} {a:Act} {w w' W:World} {τ τ0:Nat→bj} {F:bj} {t:Tr} {ts:List Tr} {n:Nat} {a1:Act}
end
theorem Dv (G Z:bj) (w:World) (k:Int) (ch:ByteArray) (ng:Bool) (mn mx:Int) (lz:Bool):(gT G (dQ k ch ng mn mx lz)).P Z w:=eQ _ w k ch ng mn mx lz
section
variable {N:bj} {P:Program} {ops:Array Oper} {sp:List (Spec N)} {In:Nat→Ini N} {a0:Act} {w0 W:World} {bf:List Nat} {j:Nat} {o:Oper} {s:Spec N} {pc:Prop} {n0:Nat} {a1:Act} {τ0:Nat→bj} {F:bj} {β:Type}
end
end
section
open Go.RowKit Srt
theorem jp (E:Env) (t:Tr) (lo n:Nat) (l:List fe) (k:Nat) (K:cQ) (ps:Ps) (f:Nat):im E t lo n l k K ps (f,false)=if t.k=0 then ge l k K ps (f,false) else if t.k=1 then fv l k K ps (f,false) else if t.k=7 then ea (jh l) lo n t.mn t.mx t.lz (f+1) 0 k K ps (f,false) else if f=0 then (none,(0,true)) else ji E t lo l k K ps (f - 1,false):=rfl
theorem iq {t k:Tr} (h:fq t=true) (hk:k ∈ t.kids):fq k=true:=by
  rw [gY,au,cI] at h;exact h.1 k hk
end
section
open Go.RowKit Srt
theorem eL {E:Env} {r:fe} {m k to f:Nat} {ps:Ps} {φ:Fl} (h:eS r m k φ=(some (to,ps),(f,false))):eu E r m k φ=(some ((nth E.pl (k:Int),nth E.pl (to:Int)),ps),(f,false)):=by
  rw [oW (by rw [h];show (decide ((to:Int) < 0) || false)=false;simp),h];rfl
theorem eM {E:Env} {r:fe} {m k:Nat} {φ φ':Fl} (h:eS r m k φ=(none,φ')):eu E r m k φ=(none,φ'):=by
  rw [ph (by rw [h];rfl),h]
theorem jF (x:Rs):x.2.2=true∨(∃f,x=(none,(f,false)))∨∃to ps f,x=(some (to,ps),(f,false)):=by
  obtain ⟨o,f,u⟩:=x;cases u with
  | true => exact .inl rfl
  | false => cases o with
    | none => exact .inr (.inl ⟨f, rfl⟩)
    | some y => obtain ⟨to, ps⟩ := y; exact .inr (.inr ⟨to, ps, f, rfl⟩)
theorem jW {n:Int} (h0:0≤n) (h1:n≤20000):clampF n=n.toNat:=by unfold clampF;rw [show min (max n 0) 20000=n by omega]
section
variable {t:Tr} {fold:Bool} {s:ByteArray} {k u v:Int}
end
theorem pP (E:Env):∀(l m:List Tr) (g:Nat),dy E (l++m) g=dy E l g++dy E m (g+grpsN l)
  | [], m, g => by simp [dy, grpsN]
  | t :: l, m, g => by
    rw [eq,dy,dy,pP E l m,eq];rw [show g+grpN t+grpsN l=g+grpsN (t::l) from by show _=g+(grpN t+grpsN l);omega]
section
variable {t:Tr} {fold:Bool} {s:ByteArray} {k u v:Int} {x y z:Mt × Int × Int}
end
section
variable {x z:Mt × Int × Int} {n:Nat} {g1 g2:Int}
end
end
section
open Go.RowKit Srt
def vE (w:ByteArray):Tr:=dQ 2 w false 0 0 false
def rq (fold:Bool) (x w:ByteArray):Bool:=gM x w || (fold&&gM (mo x) (mo w))
theorem EG (fold:Bool) (x w:ByteArray):kj fold (vE w) x=rq fold x w:=by
  unfold kj rq;rw [if_pos (show (vE w).k=2 from rfl)];rfl
theorem Lz (w:ByteArray) (l:List ByteArray):nth (w::l) 0=w:=rfl
theorem GX (E:Env) (w:ByteArray) (g k:Nat) (K:cQ) (ps:Ps) (fu:Nat):cM E (vE w) g k K ps (fu+1,false)=if (decide ((k:Int) < (E.cs.length:Int))&&rq E.fold (nth E.cs (k:Int)) w)=true then K (k+1) ps (fu,false) else (none,(fu,false)):=by
  have hk:(vE w).k=2:=rfl;rw [eO];unfold im;rw [if_neg (by simp),if_neg (by rw [hk];decide),if_neg (by rw [hk];decide),if_neg (by rw [hk];decide),if_neg (by simp)];unfold ji;rw [if_neg (by rw [hk];decide),if_neg (by rw [hk];decide),if_pos (.inl hk),EG];rfl
def Lh (E:Env) (ws:List ByteArray):List fe:=ws.map fun w=>cM E (vE w) 0
theorem GY (w:ByteArray):grpN (vE w)=0:=by
  unfold grpN;rw [mJ];rfl
theorem Dx (E:Env):∀(ws:List ByteArray),dy E (ws.map vE) 0=Lh E ws
  | [] => rfl
  | w :: l => by
    rw [aB,dy,GY,Dx E l];rfl
theorem pk {xs:List Int} (h:xs.Pairwise (· < ·)) {i:Nat} (hi:i < xs.length):plcF xs (nth xs (i:Int))=i∧mO xs (nth xs (i:Int))=true:=by
  have hp:plcF xs (nth xs (i:Int))=i:=pK h (by omega) (fun j hj=>ll h hj hi) (fun _=>by omega);refine ⟨hp,?_⟩;unfold mO;rw [hp];simp;omega
theorem Ko (ws:List ByteArray) {n:Nat} (h:∀w ∈ ws,w.size≤n):dH ((ws.map vE).map fc)≤((1+n) * ws.length:Nat):=by
  induction ws with
  | nil => simp [dH]
  | cons w l ih =>
    have h1:=ih fun x hx=>h x (by simp [hx]);have h2:=h w (by simp);rw [aB,aB,bk];have h3:fc (vE w)=1+(w.size:Int):=bM _ _ _ _ _ _;rw [h3,ay,Nat.mul_add,Nat.mul_one];omega
def uI (s:ByteArray):ByteArray:=s.extract 0 (endF s 0)
theorem GZ {s:ByteArray} (h:¬(s.size:Int)=0):bA s≠ []:=by
  obtain ⟨n,hn⟩:∃n,s.size=n+1:=⟨s.size - 1,by omega⟩;unfold bA;rw [hn,kq,np];split
  · simp
  · rename_i hc;exfalso;apply hc;simp [hn]
theorem sJ (x:Int) {n:Int} (h0:0 < n) (h1:n≤1000000):0≤ff x n∧ff x n < n:=by
  have h:IntKind.u64.wrap n=n:=by simp [IntKind.wrap,IntKind.signed,IntKind.bits];omega
  have h0:0≤IntKind.u64.wrap x:=by simp [IntKind.wrap,IntKind.signed,IntKind.bits];omega
  unfold ff;rw [h];have h1:=qx n h0;have h2:=nW (IntKind.u64.wrap x) (show (0:Int) < n by omega);rw [IntWalk.i64_in _ (by omega)];exact ⟨h1,h2⟩
theorem Kp (ws:List ByteArray):(ws.map vE).map er=ws.map vE:=by
  rw [ny];exact kb fun w _=>rfl
theorem da {s:ByteArray}:∀x ∈ bA s,x.size≤s.size:=(Gv s s.size (bz _)).2.2
theorem Cn (s:ByteArray):(uI s).size≤s.size:=by unfold uI;rw [ByteArray.size_extract];omega
theorem EH {s:ByteArray} (h:gM s (⟨#[]⟩:ByteArray)=false):0 < s.size:=by
  rw [yn,ah] at h;have hl:=mm s;rcases kz s.size with h0 | h0
  · exact absurd (cg (by rw [←h0];exact hl)) h
  · exact h0
theorem yj {s:ByteArray} (h:gM s (⟨#[]⟩:ByteArray)=true):(⟨#[]⟩:ByteArray)=uI s:=by
  rw [yn,ai] at h;have e:s=⟨#[]⟩:=by
    obtain ⟨⟨d⟩⟩:=s;cases d with
    | nil => rfl
    | cons x l => simp at h
  subst e;rfl
end
section
open Go.RowKit Srt
def VQ (E:Env) (k0 to:Nat) (ps:Ps):Prop:=∀p ∈ ps,p=(-1,-1)∨∃a b:Nat,k0≤a∧a≤b∧b≤to∧p=(nth E.pl (a:Int),nth E.pl (b:Int))
theorem VQ.up {E:Env} {k0 k k':Nat} {ps:Ps} (h:VQ E k0 k ps) (hk:k≤k'):VQ E k0 k' ps:=fun p hp=>(h p hp).imp id fun ⟨a,b,h1,h2,h3,h4⟩=>⟨a,b,h1,h2,by omega,h4⟩
theorem VQ.set {E:Env} {k0 k to lo:Nat} {ps:Ps} (h:VQ E k0 to ps) (h0:k0≤k) (h1:k≤to):VQ E k0 to (ps.set lo (nth E.pl (k:Int),nth E.pl (to:Int))):=fun p hp=>by
  rcases jI hp with hp | rfl
  · exact h p hp
  · exact .inr ⟨k,to,h0,h1,bz _,rfl⟩
theorem VQ.none {E:Env} {k0 to lo n:Nat} {ps:Ps} (h:VQ E k0 to ps):VQ E k0 to (noneR ps lo n):=fun p hp=>by
  unfold noneR at hp;rcases List.mem_append.1 hp with hp | hp
  · rcases List.mem_append.1 hp with hp | hp
    · exact h p (iR hp)
    · exact .inl (iL hp)
  · exact h p (gl hp)
def KV (E:Env) (k0 k:Nat) (Q:Nat × Ps→Prop) (K:cQ):Prop:=∀(to:Nat) (ps:Ps) (φ:Fl),k≤to→to≤E.cs.length→VQ E k0 to ps→∀y,(K to ps φ).1=some y→Q y
theorem KV.up {E:Env} {k0 k k':Nat} {Q:Nat × Ps→Prop} {K:cQ} (h:KV E k0 k Q K) (hk:k≤k'):KV E k0 k' Q K:=fun to ps φ h1 h2=>h to ps φ (by omega) h2
section
variable {E:Env} {k0:Nat}
end
section
variable {t:Tr} {fold:Bool} {s:ByteArray} {k u:Int} {x:Mt × Int × Int}
theorem gX (s:ByteArray):(aO s).Pairwise (· < ·):=(oo s s.size).1
end
end
section
open Go.RowKit Srt
abbrev si (a:Tr):Tr:=eF 6 ⟨#[]⟩ false 0 0 false Sv.nil [a]
theorem xe (E:Env) (a:Tr) (g k:Nat) (K:cQ) (ps:Ps) (f:Nat):cM E (si a) g k K ps (f+1,false)=cM E a g k K ps (f,false):=by
  have hk:(si a).k=6:=rfl;rw [eO,jp,if_neg (by rw [hk];decide),if_neg (by rw [hk];decide),if_neg (by rw [hk];decide),if_neg (by omega)];unfold ji;rw [hk,if_neg (by decide),if_pos rfl];show cM E a (fk (si a) g) k K ps (f+1 - 1,false)=_;rw [show fk (si a) g=g from by unfold fk;rw [hk,if_neg (by decide)]];rfl
theorem tX (a:Tr):grpN (si a)=grpN a:=by rw [jn,if_neg (by show ¬(6:Int)=5;decide)];simp [eF,grpsN]
theorem xf {a:Tr} (h:fq (si a)=true):fq a=true:=iq h (by simp [eF])
section
variable {t r:Tr} {fold:Bool} {s:ByteArray} {x y:Mt × Int × Int} {kv:Sv}
end
def mB (fold:Bool) (cs ws:List ByteArray) (k j:Nat):Prop:=∀i:Nat,i < j→(k:Int)+(i:Int) < (cs.length:Int)∧rq fold (nth cs ((k:Int)+(i:Int))) (nth ws (i:Int))=true
theorem mB.zero (fold:Bool) (cs ws:List ByteArray) (k:Nat):mB fold cs ws k 0:=fun i h=>by omega
theorem mB.snoc {fold:Bool} {cs ws:List ByteArray} {k j:Nat} (h:mB fold cs ws k j) (h2:(k:Int)+(j:Int) < (cs.length:Int)) (h3:rq fold (nth cs ((k:Int)+(j:Int))) (nth ws (j:Int))=true):mB fold cs ws k (j+1):=fun i hi=>by
  by_cases e:i=j
  · subst e;exact ⟨h2,h3⟩
  · exact h i (by omega)
theorem mB.le {fold:Bool} {cs ws:List ByteArray} {k j:Nat} (h:mB fold cs ws k j) (hk:k≤cs.length):k+j≤cs.length:=by
  rcases kz j with rfl | hj
  · omega
  · have:=(h (j - 1) (by omega)).1;omega
theorem mB.tail {fold:Bool} {cs:List ByteArray} {w:ByteArray} {ws:List ByteArray} {k j:Nat} (h:mB fold cs (w::ws) k (j+1)):mB fold cs ws (k+1) j:=fun i hi=>by
  have:=h (i+1) (by omega);have e1:(((k+1:Nat):Int)+(i:Int))=(k:Int)+((i+1:Nat):Int):=by omega
  rw [e1];have e2:nth (w::ws) ((i+1:Nat):Int)=nth ws (i:Int):=by rw [jO,jO];simp
  rw [←e2];exact this
theorem zp (E:Env) (l:List fe):∀(ws:List ByteArray) (k j:Nat) (K:cQ) (ps:Ps) (fu:Nat),j≤ws.length→j≤fu→mB E.fold E.cs ws k j→ge (Lh E ws++l) k K ps (fu,false)=ge (Lh E (ws.drop j)++l) (k+j) K ps (fu - j,false)
  | ws, k, 0, K, ps, fu, _, _, _ => rfl
  | [], k, j + 1, K, ps, fu, h, _, _ => by simp at h
  | w :: ws, k, j + 1, K, ps, fu, hj, hf, hh => by
    obtain ⟨f,rfl⟩:∃f,fu=f+1:=⟨fu - 1,by omega⟩;have h0:=hh 0 (by omega);have ih:=zp E l ws (k+1) j K ps f (by simp at hj;omega) (by omega) hh.tail;show cM E (vE w) 0 k (fun to ps φ=>ge (Lh E ws++l) to K ps φ) ps (f+1,false)=_;rw [GX,if_pos (by
      rw [au,ai];exact ⟨by have:=h0.1;omega,by simpa [Lz] using h0.2⟩),ih]
    rw [show k+1+j=k+(j+1) by omega,show f - j=f+1 - (j+1) by omega];rfl
abbrev xj (ws:List ByteArray) (a:Tr):List Tr:=ws.map vE++ [si a]
theorem Kq {ws:List ByteArray} (h:ws≠ []) (a:Tr):jQ (xj ws a)=lE 0 (xj ws a):=by
  unfold jQ;rw [vt fun x hx=> ?_]
  · match ws,h with
    | [w], _ => rfl
    | w :: v :: l, _ => rfl
  · rcases List.mem_append.1 hx with hx | hx
    · obtain ⟨w,_,rfl⟩:=List.mem_map.1 hx;show ¬(2:Int)=0;decide
    · simp at hx;subst hx;show ¬(6:Int)=0;decide
theorem Bh (ws:List ByteArray):grpsN (ws.map vE)=0:=by
  induction ws with
  | nil => rfl
  | cons w l ih =>
    show grpN (vE w)+grpsN (l.map vE)=0;rw [GY,ih]
theorem Kr {ws:List ByteArray} (a:Tr):grpN (lE 0 (xj ws a))=grpN a:=by
  have h:grpsN (xj ws a)=grpN a:=by
    have h1:grpsN (xj ws a)=grpsN (ws.map vE)+grpN (si a):=by simp [grpsN]
    rw [h1,Bh,tX];omega
  rw [jn,if_neg (by show ¬(0:Int)=5;decide),←h];show 0+grpsN (xj ws a)=_;omega
theorem Ha (E:Env) (ws:List ByteArray) (a:Tr) (k:Nat) (K:cQ) (ps:Ps) (f:Nat):cM E (lE 0 (xj ws a)) 0 k K ps (f,false)=ge (Lh E ws++ [cM E (si a) 0]) k K ps (f,false):=by
  rw [eO,jp,if_pos (show (lE 0 (xj ws a)).k=0 from rfl)];show ge (dy E (xj ws a) (fk (lE 0 (xj ws a)) 0)) k K ps (f,false)=_;rw [show fk (lE 0 (xj ws a)) 0=0 from by unfold fk;rw [if_neg (by show ¬(0:Int)=5;decide)],pP,Dx,Bh];rfl
theorem IOq (E:Env) {ws:List ByteArray} (a:Tr) {m k j f:Nat} (hj:j < ws.length) (hf:j < f) (h:mB E.fold E.cs ws k j) (hn:¬((k:Int)+(j:Int) < (E.cs.length:Int)∧rq E.fold (nth E.cs ((k:Int)+(j:Int))) (nth ws (j:Int))=true)):eu E (cM E (lE 0 (xj ws a)) 0) m k (f,false)=(none,(f - j - 1,false)):=by
  refine eM ?_;unfold eS;rw [Ha,zp E _ ws k j _ _ f (by omega) (by omega) h,fo hj];obtain ⟨g,hg⟩:∃g,f - j=g+1:=⟨f - j - 1,by omega⟩;rw [hg];show cM E (vE ws[j]) 0 (k+j) _ _ (g+1,false)=_;have e:nth ws (j:Int)=ws[j]:=by rw [jO];simp [List.getD,hj]
  rw [GX,if_neg (by
    rw [au,ai];rw [e] at hn;rw [show (((k+j:Nat):Nat):Int)=(k:Int)+(j:Int) by omega];exact hn)]
  rfl
theorem Ks (E:Env) {ws:List ByteArray} (a:Tr) {m k f:Nat} (hf:ws.length < f) (h:mB E.fold E.cs ws k ws.length):eS (cM E (lE 0 (xj ws a)) 0) m k (f,false)=eS (cM E a 0) m (k+ws.length) (f - ws.length - 1,false):=by
  unfold eS;rw [Ha,zp E _ ws k ws.length _ _ f (bz _) (by omega) h,pt];obtain ⟨g,hg⟩:∃g,f - ws.length=g+1:=⟨f - ws.length - 1,by omega⟩;rw [hg];show cM E (si a) 0 (k+ws.length) (fun to ps φ=>ge [] to K0 ps φ) _ (g+1,false)=_;rw [xe];rfl
section
variable {t r:Tr} {fold:Bool} {s p:ByteArray} {x y:Mt × Int × Int} {kv:Sv} {k j:Nat}
theorem Jk (hr:er r=jQ (((bA p).map vE++ [eF 6 ⟨#[]⟩ false 0 0 false kv [t]]).map er)) (hp:bA p≠ []):er r=lE 0 (xj (bA p) (er t)):=by
  rw [hr,←Kq hp,aP,Kp];show jQ ((bA p).map vE++ [er (eF 6 ⟨#[]⟩ false 0 0 false kv [t])])=_;rw [lJ];rfl
theorem EI {t k:Tr} (h:k ∈ t.kids):di k≤di t:=by
  have h1:=mR (f:=di) (fun q _=>by have:=kE q;omega) h;have:=iG t;omega
theorem Kt (hr:er r=lE 0 (xj (bA p) (er t))) (hm:(cX r 512 16).2=true):(cX (er t) 512 16).2=true:=by
  have hm2:(cX (er r) 512 16).2=true:=by rw [ki];exact hm
  rw [hr,kF] at hm2;unfold rd at hm2;simp only [au,ai] at hm2;have hin:si (er t) ∈ (lE 0 (xj (bA p) (er t))).kids:=by simp [lE]
  have ha:=iq hm2.2 hin;have hpt:=EI hin;have hdp:eX (si (er t))≤eX (lE 0 (xj (bA p) (er t))):=by
    rw [mq (lE 0 (xj (bA p) (er t)))];have:=qX (List.mem_map_of_mem (f:=eX) hin);split <;> omega
  obtain ⟨a,b,c⟩:=xR 6 0 0 false (er t);rw [if_pos (.inr rfl)] at b;have a:di (si (er t))=1+di (er t):=a;have b:eX (si (er t))=max 0 (eX (er t))+1:=b;have h1:=hm2.1.1;have h2:=hm2.1.2;rw [kF];unfold rd;simp only [au,ai];exact ⟨⟨by omega,by omega⟩,xf ha⟩
theorem IP (hr:er r=jQ (((bA p).map vE++ [eF 6 ⟨#[]⟩ false 0 0 false kv [t]]).map er)) (hp:bA p≠ []) (hp8:(bA p).length≤8) (hm:(cX r 512 16).2=true) (hk:k < (aO s).length) (hx:x=dL r fold s (nth (aO s) (k:Int)) 3000) (hj:j < (bA p).length)
    (h:mB fold (bA s) (bA p) k j) (hn:¬((k:Int)+(j:Int) < ((bA s).length:Int)∧rq fold (nth (bA s) ((k:Int)+(j:Int))) (nth (bA p) (j:Int))=true)):x=(none,3000 - (j:Int) - 1,0):=by
  have hr:=Jk hr hp;obtain ⟨h1,h2⟩:=pk (gX s) hk;have h3:clampF 3000=3000:=by decide
  have hm2:(cX (lE 0 (xj (bA p) (er t))) 512 16).2=true:=by rw [←hr,ki];exact hm
  rw [ri (show er r=er (lE 0 (xj (bA p) (er t))) by rw [←hr,qz])] at hx;unfold dL at hx;rw [hm2,h2,h1,h3,IOq ⟨bA s,aO s,fold⟩ (er t) hj (by omega) h hn,fm rfl rfl rfl] at hx;rw [hx];simp only [Prod.mk.injEq,true_and,and_true];omega
theorem IQ (hr:er r=jQ (((bA p).map vE++ [eF 6 ⟨#[]⟩ false 0 0 false kv [t]]).map er)) (hp:bA p≠ []) (hp8:(bA p).length≤8) (hm:(cX r 512 16).2=true) (hk:k < (aO s).length) (hx:x=dL r fold s (nth (aO s) (k:Int)) 3000) (hj:j=(bA p).length)
    (h:mB fold (bA s) (bA p) k j) (hy:y=dL t fold s (nth (aO s) ((k:Int)+(j:Int))) (3000 - (j:Int) - 1)):x.2=y.2∧x.1.isSome=y.1.isSome∧(x.1.isSome=true→(aM x.1).1=nth (aO s) (k:Int)∧(aM x.1).2=(aM y.1).2∧bJ x.1=bJ y.1):=by
  have hr:=Jk hr hp;subst hj;have hpl:(aO s).length=(bA s).length+1:=lK s s.size;have hkl:=h.le (by omega);obtain ⟨h1,h2⟩:=pk (gX s) hk;obtain ⟨g1,g2⟩:=pk (gX s) (i:=k+(bA p).length) (by omega);have h3:clampF 3000=3000:=by decide
  have h4:clampF (3000 - ((bA p).length:Int) - 1)=3000 - (bA p).length - 1:=by rw [jW (by omega) (by omega)];omega
  have hm2:(cX (lE 0 (xj (bA p) (er t))) 512 16).2=true:=by rw [←hr,ki];exact hm
  have hma:=Kt hr hm;rw [ri (show er r=er (lE 0 (xj (bA p) (er t))) by rw [←hr,qz])] at hx;rw [ri (qz t).symm] at hy;unfold dL at hx hy;rw [show (k:Int)+((bA p).length:Int)=((k+(bA p).length:Nat):Int) by omega,hma,g2,g1,h4] at hy;rw [hm2,h2,h1,h3,Kr] at hx;have hX:=Ks ⟨bA s,aO s,fold⟩ (er t) (m:=grpN (er t)) (k:=k) (f:=3000) (by omega) h;rcases jF (eS (cM ⟨bA s,aO s,fold⟩ (er t) 0) (grpN (er t)) (k+(bA p).length) (3000 - (bA p).length - 1,false)) with h5 | ⟨f,h5⟩ | ⟨to,ps,f,h5⟩
  · rw [km rfl rfl (by rw [lm];exact h5)] at hy;rw [km rfl rfl (by rw [lm,hX];exact h5)] at hx;rw [hx,hy];exact ⟨rfl,rfl,fun h=>by cases h⟩
  · rw [eM h5,fm rfl rfl rfl] at hy;rw [eM (hX.trans h5),fm rfl rfl rfl] at hx;rw [hx,hy];exact ⟨rfl,rfl,fun h=>by cases h⟩
  · rw [eL h5,fm rfl rfl rfl] at hy;rw [eL (hX.trans h5),fm rfl rfl rfl] at hx;rw [hx,hy];exact ⟨rfl,rfl,fun _=>⟨rfl,rfl,rfl⟩⟩
end
theorem Ku {a b c:Bool} (h:((a&&b)&&c)=true):(a=true∧b=true)∧c=true:=by simpa using h
theorem Kv {a b c:Bool} (h:((a&&b)&&c)=false) (ha:a=true):¬(b=true∧c=true):=fun ⟨h1,h2⟩=>by rw [ha,h1,h2] at h;cases h
theorem Kw {x y:Mt × Int × Int} {K:Int} (h:x.1.isSome=true→(aM x.1).1=K∧(aM x.1).2=(aM y.1).2∧bJ x.1=bJ y.1):(((!x.1.isSome) || (((decide ((aM x.1).1=K))&&(decide ((aM x.1).2=(aM y.1).2)))&&(decide (bJ x.1=bJ y.1))))&&true)=true:=by
  cases hz:x.1.isSome with
  | false => rfl
  | true =>
    obtain ⟨h1,h2,h3⟩:=h hz;rw [h1,h2,h3];simp
theorem Li {a b:Bool} (h:(a || !b)=false):b=true:=by cases b <;> simp_all
end
section
open Go.RowKit
open Srt
set_option maxRecDepth 100000 in
theorem IR (s:ByteArray) (w:World) (hs:s.size≤1000000000):Calls Tryz.prog 30 #[(bc s)] w (fun e w'=>e= .returned (bc (uI s))∧Ext aW w w'):=by
 refine enter (n:=9) Tryz.func30 rfl rfl (aw rfl) ?_;intro a0 τ0 ha st0;have e0:=oz ha;refine wp_seq (eK st0 [] ⟨aq fun c=>ax rfl rfl,av⟩ fun ac ag ae ab aa=> ?_);replace e0:=aa.k1 e0;have e2:=aa.V 0;refine wp_seq ?_;refine wp_seq (eA ab [] ⟨ao e0,aq fun c=>eI rfl (c.q 0) rfl,av⟩ fun ac ag ae ab aa=> ?_);obtain ⟨e0,e2⟩:=aa.k2 e0 e2;have e4:=aa.V 1;refine wp_cond_split e4 (fun hc1=> ?_) (fun hc1=> ?_)
 · have hd1:=hc1;skip;refine wp_seq (eK ab [] ⟨aq fun c=>ax rfl rfl,av⟩ fun ac ag ae ab aa=> ?_);replace e0:=aa.k1 e0;have e2:=aa.V 0;refine wp_ret ?_;refine rp ?_;refine cO (fn:=Tryz.f30) rfl ab.defers e2 ?_;exact ⟨congrArg _ (congrArg _ (by first | rfl | exact yj (by assumption))),ab.ext0⟩
 have hd1:=hc1;skip;refine wp_skip ?_;refine wp_seq ?_;have hps_:=EH (s:=s) (by assumption);have hen_:=nt hps_;refine vO [0,0,2,7,15] ab [] ⟨ao e0,ao e0,eE fun c=>⟨_,_,(ck rfl rfl qI (c.q 1) rfl),CP s 0 _ (by omega) (by omega)⟩,aq fun c=>IN (s:=s) (q:=((endF s 0:Nat):Int)) rfl aZ (c.q 0) (c.q 2) (by omega) (by omega),aK 3,av⟩ fun ac ag ae ab aa=> ?_;have e2:=aa.V 4;refine wp_ret ?_;refine rp ?_;refine cO (fn:=Tryz.f30) rfl ab.defers e2 ?_;exact ⟨congrArg _ (congrArg _ (by first | rfl | exact yj (by assumption))),ab.ext0⟩
set_option maxRecDepth 100000 in
set_option maxHeartbeats 4000000 in
theorem Bi (p q:ByteArray) (fold:Bool) (s:ByteArray) (at_:Int) (w:World):Calls Tryz.prog 10 #[(bc p),(bc q),(aE fold),(bc s),(aj at_)] w (fun e w'=>e= .returned (aE true)∧Ext aW w w'):=by
 refine enter (n:=244) Tryz.func10 rfl rfl (aw rfl) ?_;intro a0 τ0 ha st0;obtain ⟨e0,e1,e2,e3,e4⟩:=Js ha;have hfz:=Cn p;refine wp_seq (eK st0 [] ⟨aq fun c=>ax rfl rfl,av⟩ fun ac ag ae ab aa=> ?_);obtain ⟨e0,e1,e2,e3,e4⟩:=aa.k5 e0 e1 e2 e3 e4;have e10:=aa.V 0;refine wp_seq ?_;refine wp_seq ?_;refine rg [_,_,_,_,_,_,_,_,_,_,_,_,_,_,_,_,_,_,_,_,_,_,_,_] [0,1,3,7,15,31,63,127,255,511,1023,2047,4095,8191,16383,32767,65535,131071,262143,524287,1048575,2097151,4194303,8388607] ab [] ⟨ao e0,aq fun c=>fA rfl aZ (c.q 0),aq fun c=>cY rfl (c.q 1) rfl,bD 2,bm 3 rfl fun c hpc=>aS rfl (c.p e0),bm 3 rfl fun c hpc=>fA rfl aZ (c.M 4 hpc),bm 3 rfl fun c hpc=>ii rfl (c.M 5 hpc) rfl,dm 3 6,bD 7,bm 8 rfl fun c hpc=>aS rfl (c.p e1),bm 8 rfl fun c hpc=>fA rfl aZ (c.M 9 hpc),bm 8 rfl fun c hpc=>ii rfl (c.M 10 hpc) rfl,dm 8 11,bD 12,bm 13 rfl fun c hpc=>aS rfl (c.p e3),bm 13 rfl fun c hpc=>fA rfl aZ (c.M 14 hpc),bm 13 rfl fun c hpc=>ii rfl (c.M 15 hpc) rfl,dm 13 16,bD 17,bm 18 rfl fun c hpc=>aS rfl (c.p e0),fC 18 false rfl fun c hpc=>⟨_,_,(bK rfl rfl Tryz.call30 (c.M 19 hpc)),IR p _ (by have hq0:=hpc;(try simp only [aG,ah,aV] at hq0);first | omega | (simp only [aP,aB,aH,cu,bk,bC,bP,bM,ByteArray.size,aF,ay,aC,aQ] at *;omega) | exact bE (da _ (bN (by omega) (by omega))) (by omega))⟩,fC 18 false rfl fun c hpc=>⟨_,_,(bK rfl rfl oE (c.M 20 hpc)),qZ (uI p) _ (by have hq0:=hpc;(try simp only [aG,ah,aV] at hq0);first | omega | (simp only [aP,aB,aH,cu,bk,bC,bP,bM,ByteArray.size,aF,ay,aC,aQ] at *;omega) | exact bE (da _ (bN (by omega) (by omega))) (by omega))⟩,bm 18 rfl fun c hpc=>ew rfl (c.M 21 hpc),dm 18 22,av⟩ fun ac ag ae ab aa=> ?_;obtain ⟨e0,e1,e2,e3,e4,e10⟩:=aa.k6 e0 e1 e2 e3 e4 e10;have e52:=aa.V 23;refine wp_cond_split e52 (fun hc1=> ?_) (fun hc1=> ?_)
 · try simp only [aR,aG,ar,am,ai,ah,aV] at hc1
   refine wp_seq (eA ab [] ⟨eE fun c=>⟨_,_,(fN rfl rfl dN),fO _⟩,aK 0,av⟩ fun ac ag ae ab aa=> ?_);obtain ⟨e0,e1,e2,e3,e4⟩:=aa.k5 e0 e1 e2 e3 e4;have e10:=aa.V 1;refine wp_ret ?_;refine rp ?_;refine cO (fn:=Tryz.f10) rfl ab.defers e10 ?_;refine ⟨congrArg _ (congrArg _ ?_),ab.ext0⟩;rfl
 try simp only [aR,aG,ar,am,ai,ah,aV] at hc1
 refine wp_skip ?_;refine wp_seq ?_;refine aY ?_;refine bV 2 (by kernel_rfl) ?_;refine og [_,gE _ 56 (fun b:Tr × Int=> .tuple #[b.1.v,aj b.2]) (fun b:Tr × Int=>(b.2=0→PatOk (er b.1) (q.size:Int) 0)∧fc b.1≤2200 * (q.size:Int)+2∧fc b.1≤600000) (fun b:Tr × Int=>gT (Gn aW w) b.1)] [0,1] ab [] ⟨ao e1,eT (f:=fun b:Tr × Int=> .tuple #[b.1.v,aj b.2]) (Ψ:=fun b:Tr × Int=>(b.2=0→PatOk (er b.1) (q.size:Int) 0)∧fc b.1≤2200 * (q.size:Int)+2∧fc b.1≤600000) (Φ:=fun b:Tr × Int=>gT (Gn aW w) b.1) fun {_ a_ _ _} c=>⟨_,_,(bK rfl rfl jM (c.q 0)),(lG q _).mono (fun e w' ⟨t_,r_,he_,hx_,ht_,hp_⟩=>⟨⟨t_,r_⟩,he_,hx_,hp_,c.tn ab hx_ ht_⟩)⟩,av⟩ fun ac ag ae ab aa=> ?_;obtain ⟨e0,e2,e3,e4,e10⟩:=aa.k5 e0 e2 e3 e4 e10;obtain ⟨⟨t1_,er1_⟩,e56,hqt1_,hz4⟩:=aa.zd 1 rfl;have e56:be ac 56=(.tuple #[(ta t1_),(aj er1_)]):=e56;have hqt1_:(er1_=0→PatOk (er t1_) (q.size:Int) 0)∧fc t1_≤2200 * (q.size:Int)+2∧fc t1_≤600000:=hqt1_;obtain ⟨hpt1_,hwt1_⟩:=hqt1_;have hbt1_:=fG t1_;have r0:=hz4;refine bW ?_;refine og [_,_,_,box _ _ 1 11 [(aj 0),(bc (⟨#[]⟩:ByteArray)),(aE false),(.slice none 0 0),(aj 0),(aj 0),(aE false),(.slice none 0 0)],_,_] [0,1,3,7,15,31] ab [jz 0 r0] ⟨ao e56,bR 0,bR 0,bO rfl rfl rfl rfl aD rfl,ey (cx:=(tc t1_)) (off:=0) rfl ak fun c=>⟨c.rb 3 rfl,(c.rb 3 rfl).ptr,(c.q 1)⟩,aK 2,av⟩ fun ac ag ae ab aa=> ?_;obtain ⟨b5x11,e11⟩:=gx ac 11;obtain ⟨e0,e2,e3,e4,e10⟩:=aa.k5 e0 e2 e3 e4 e10;have e12:=aa.V 5;replace r0:=aa.z1 0;have r1:=aa.rb 4 e11 rfl;refine wp_seq ?_;have hp8:p.size≤8:=by omega
 have hs40:s.size≤40:=by omega
 have hpn:¬(p.size:Int)=0:=by omega
 have hpr:fY (uI p)=true:=by first | assumption | (simp_all;done)
 have hlp:(bA p).length≤p.size:=rE p p.size;have hls:(bA s).length≤s.size:=rE s s.size;have hpl:(aO s).length=(bA s).length+1:=lK s s.size;have hne_:=GZ hpn;refine aY ?_;refine bV 2 (by kernel_rfl) ?_;refine og [_,gE _ 60 (fun b:Sv=>b.v) (fun _=>True) (fun b:Sv=>fb gR (Gn aW w) b.v (bA p))] [0,1] ab [jz 0 r0,jb r1] ⟨ao e0,eT (f:=fun b:Sv=>b.v) (Ψ:=fun _=>True) (Φ:=fun b:Sv=>fb gR (Gn aW w) b.v (bA p)) fun {_ a_ _ _} c=>⟨_,_,(bK rfl rfl qJ (c.q 0)),(tq p _ (by first | omega | (simp only [aP,aB,aH,cu,bk,bC,bP,bM,ByteArray.size,aF,ay,aC,aQ] at *;omega) | exact bE (da _ (bN (by omega) (by omega))) (by omega))).mono (fun e w' ⟨v_,he_,hx_,hn_⟩=>by obtain ⟨s_,rfl⟩:=hn_.1.sl.sl.sv;exact ⟨s_,he_,hx_,av,c.sn ab hx_ hn_⟩)⟩,av⟩ fun ac ag ae ab aa=> ?_;obtain ⟨e2,e3,e4,e10,e11,e12⟩:=aa.k6 e2 e3 e4 e10 e11 e12;obtain ⟨kv2_,e60,-,hz6⟩:=aa.zd 1 rfl;have e60:be ac 60=kv2_.v:=e60;replace r0:=aa.z1 0;replace r1:=aa.B 1;have r2:=hz6;refine bW ?_;refine bV 2 (by kernel_rfl) ?_;refine og [_,gE _ 62 (fun b:Sv=>b.v) (fun _=>True) (fun b:Sv=>fb gR (Gn aW w) b.v (bA s))] [0,1] ab [jz 0 r0,jb r1,jz 2 r2] ⟨ao e3,eT (f:=fun b:Sv=>b.v) (Ψ:=fun _=>True) (Φ:=fun b:Sv=>fb gR (Gn aW w) b.v (bA s)) fun {_ a_ _ _} c=>⟨_,_,(bK rfl rfl qJ (c.q 0)),(tq s _ (by first | omega | (simp only [aP,aB,aH,cu,bk,bC,bP,bM,ByteArray.size,aF,ay,aC,aQ] at *;omega) | exact bE (da _ (bN (by omega) (by omega))) (by omega))).mono (fun e w' ⟨v_,he_,hx_,hn_⟩=>by obtain ⟨s_,rfl⟩:=hn_.1.sl.sl.sv;exact ⟨s_,he_,hx_,av,c.sn ab hx_ hn_⟩)⟩,av⟩ fun ac ag ae ab aa=> ?_;obtain ⟨e2,e3,e4,e10,e11,e12,e60⟩:=aa.k7 e2 e3 e4 e10 e11 e12 e60;obtain ⟨kv3_,e62,-,hz7⟩:=aa.zd 1 rfl;have e62:be ac 62=kv3_.v:=e62;obtain ⟨r0,r2⟩:=aa.z2 0 2;replace r1:=aa.B 1;have r3:=hz7;refine bW ?_;refine bV 2 (by kernel_rfl) ?_;refine og [_,gE _ 64 (fun b:Sv=>b.v) (fun _=>True) (fun b:Sv=>fb lM (Gn aW w) b.v (aO s))] [0,1] ab [jz 0 r0,jb r1,jz 2 r2,jz 3 r3] ⟨ao e3,eT (f:=fun b:Sv=>b.v) (Ψ:=fun _=>True) (Φ:=fun b:Sv=>fb lM (Gn aW w) b.v (aO s)) fun {_ a_ _ _} c=>⟨_,_,(bK rfl rfl Tryz.call32 (c.q 0)),(uy s _ (by first | omega | (simp only [aP,aB,aH,cu,bk,bC,bP,bM,ByteArray.size,aF,ay,aC,aQ] at *;omega) | exact bE (da _ (bN (by omega) (by omega))) (by omega))).mono (fun e w' ⟨v_,he_,hx_,hn_⟩=>by obtain ⟨s_,rfl⟩:=hn_.1.sl.sl.sv;exact ⟨s_,he_,hx_,av,c.sn ab hx_ hn_⟩)⟩,av⟩ fun ac ag ae ab aa=> ?_;obtain ⟨e2,e3,e4,e10,e11,e12,e60,e62⟩:=aa.k8 e2 e3 e4 e10 e11 e12 e60 e62;obtain ⟨kv4_,e64,-,hz8⟩:=aa.zd 1 rfl;have e64:be ac 64=kv4_.v:=e64;obtain ⟨r0,r2,r3⟩:=aa.z3 0 2 3;replace r1:=aa.B 1;have r4:=hz8;refine bW ?_;refine og [_,_,_] [0,1,3] ab [jz 0 r0,jb r1,jz 2 r2,jz 3 r3,jz 4 r4] ⟨oQ e60,oQ e62,oQ e64,av⟩ fun ac ag ae ab aa=> ?_;obtain ⟨e2,e3,e4,e10,e11,e12⟩:=aa.k6 e2 e3 e4 e10 e11 e12;have e13:=aa.V 0;have e14:=aa.V 1;have e15:=aa.V 2;obtain ⟨r0,r2,r3,r4⟩:=aa.z4 0 2 3 4;replace r1:=aa.B 1;refine wp_seq (eK ab [jz 0 r0,jb r1,jz 2 r2,jz 3 r3,jz 4 r4] ⟨aq fun c=>ax rfl rfl,av⟩ fun ac ag ae ab aa=> ?_);obtain ⟨e2,e3,e4,e10,e11,e12,e13,e14,e15⟩:=aa.k9 e2 e3 e4 e10 e11 e12 e13 e14 e15;have e16:=aa.V 0;obtain ⟨r0,r2,r3,r4⟩:=aa.z4 0 2 3 4;replace r1:=aa.B 1;refine wp_seq ?_;refine wp_seq (eK ab [jz 0 r0,jb r1,jz 2 r2,jz 3 r3,jz 4 r4] ⟨aq fun c=>ax rfl rfl,av⟩ fun ac ag ae ab aa=> ?_);obtain ⟨e2,e3,e4,e10,e11,e12,e13,e14,e15,e16⟩:=aa.k10 e2 e3 e4 e10 e11 e12 e13 e14 e15 e16;have e17:=aa.V 0;obtain ⟨r0,r2,r3,r4⟩:=aa.z4 0 2 3 4;replace r1:=aa.B 1;refine wp_block ?_;refine wp_loop (fun a_ w_=>∃(i:Nat) (u:Value) (ys:List Tr) (τ:Nat→bj),(i≤(bA p).length)∧
      (ys=((bA p).take i).map vE)∧
      St (Nw w) w 244 a_ w_ τ∧
      be a_ 16=u∧
      be a_ 17=(aj (i:Int))∧
      be a_ 2=(aE fold)∧
      be a_ 3=(bc s)∧
      be a_ 4=(aj at_)∧
      be a_ 10=(aE false)∧
      be a_ 11=b5x11∧
      be a_ 12=(aj er1_)∧
      be a_ 13=kv2_.v∧
      be a_ 14=kv3_.v∧
      be a_ 15=kv4_.v∧
      ep lY 25 ys (τ 5) u w_∧
      Fz (oA (Gn aW w) ys) τ w_∧
      Fz (gT (Gn aW w) t1_) τ w_∧
      cH 25 (tc t1_) (τ 1) b5x11 w_∧
      Fz (fb gR (Gn aW w) kv2_.v (bA p)) τ w_∧
      Fz (fb gR (Gn aW w) kv3_.v (bA s)) τ w_∧
      Fz (fb lM (Gn aW w) kv4_.v (aO s)) τ w_) (fun a_ _=>(bA p).length - (intOf (be a_ 17)).toNat) ?_ ?_
 · refine ⟨0,(.slice none 0 0),[],ae,?_,?_,ab,e16,(e17.trans (bB (by omega))),e2,e3,e4,e10,e11,e12,e13,e14,e15,?_,?_,r0,r1,r2,r3,r4⟩
   · omega
   · rfl
   · exact ep.nil _ _ _ _
   · exact Fz.tn _ _ _
 intro a12 w12 hI;obtain ⟨i,u,ys,τ12,q0,q1,st12,e16,e17,e2,e3,e4,e10,e11,e12,e13,e14,e15,r5,r6,r0,r1,r2,r3,r4⟩:=hI;have hyl:ys.length≤i:=by rw [q1,gr,ed];omega
 have m17:=e17;refine wp_seq ?_;refine wp_seq (lr [0,0,2,7] st12 [jz 0 r0,jb r1,jz 2 r2,jz 3 r3,jz 4 r4,jo r5,jz 6 r6] ⟨ao e17,ao e13,aq fun c=>dk rfl bL (c.q 1) (r2).1.sl,aq fun c=>cW rfl (c.q 0) (c.q 2),av⟩ fun ac ag ae ab aa=> ?_);obtain ⟨e2,e3,e4,e10,e11,e12,e13,e14,e15,e16,e17⟩:=aa.k11 e2 e3 e4 e10 e11 e12 e13 e14 e15 e16 e17;have e68:=aa.V 3;obtain ⟨r0,r2,r3,r4,r6⟩:=aa.z5 0 2 3 4 6;replace r1:=aa.B 1;replace r5:=aa.O 5;refine wp_cond_split e68 (fun hc2=> ?_) (fun hc2=> ?_)
 · try simp only [ai] at hc2
   refine wp_skip ?_;refine wp_seq ?_;refine wp_block ?_;refine rg [_,_,_,_,_,_,own lY 25 _ 7 77 ([(dQ 2 (nth (bA p) (i:Int)) false 0 0 false)]),own _ _ _ 5 78 _,own _ _ _ 5 16 _] [0,0,0,6,14,30,62,127,255] ab [jz 0 r0,jb r1,jz 2 r2,jz 3 r3,jz 4 r4,jo r5,jz 6 r6] ⟨ao e16,ao e13,ao e17,aq fun c=>aX rfl bL cf (c.q 1) (r2).1.sl (c.q 2) (by first | omega | (simp only [aP,aB,aH,cu,bk,bC,bP,bM,ByteArray.size,aF,ay,aC,aQ] at *;omega) | exact bE (da _ (bN (by omega) (by omega))) (by omega)) (by first | omega | (simp only [aP,aB,aH,cu,bk,bC,bP,bM,ByteArray.size,aF,ay,aC,aQ] at *;omega) | exact bE (da _ (bN (by omega) (by omega))) (by omega)),aq fun c=>aI rfl cJ (c.q 3) (((c.iz 2 rfl).1).elem (j:=0) (bF (i:=(i:Int)) (by first | omega | (simp only [aP,aB,aH,cu,bk,bC,bP,bM,ByteArray.size,aF,ay,aC,aQ] at *;omega) | exact bE (da _ (bN (by omega) (by omega))) (by omega)) (by first | omega | (simp only [aP,aB,aH,cu,bk,bC,bP,bM,ByteArray.size,aF,ay,aC,aQ] at *;omega) | exact bE (da _ (bN (by omega) (by omega))) (by omega))) rfl),aq fun c=>eW (cells:=#[(aj 2),(bc (nth (bA p) (i:Int))),(aE false),(.slice none 0 0),(aj 0),(aj 0),(aE false),(.slice none 0 0)]) rfl aD (iT rfl (c.n 4 rfl) rfl),dt (cells:=#[(aj 2),(bc (nth (bA p) (i:Int))),(aE false),(.slice none 0 0),(aj 0),(aj 0),(aE false),(.slice none 0 0)]) rfl rfl rfl rfl aU ak aD rfl (by decide) (by decide) (fun _ _ _ _ c=>gB (c.n 5 rfl) (by kernel_rfl)) rfl,fF (t0:=16) rfl rfl rfl rfl aU (i:=Tryz.t25) rfl rfl rfl rfl (by simp only [maxLen];(try simp);omega) (by show _ * 104≤_;(try simp);omega) (fun _ _ _ _ c=>⟨c.ip 5 rfl e16,c.sm (c.n 0 rfl) e16,⟨_,rfl,(c.ro 6 rfl).1.sl⟩⟩),eP (t0:=78) rfl rfl rfl rfl rfl (.inr rfl) (fun _ _ _ _ c=>⟨c.ro 7 rfl,rfl⟩),av⟩ fun ac ag ae ab aa=> ?_;obtain ⟨b14x77,e77⟩:=gx ac 77;obtain ⟨b14x16,e16⟩:=gx ac 16;obtain ⟨e2,e3,e4,e10,e11,e12,e13,e14,e15,e17,e68⟩:=aa.k11 e2 e3 e4 e10 e11 e12 e13 e14 e15 e17 e68;obtain ⟨r0,r2,r3,r4,r6⟩:=aa.z5 0 2 3 4 6;replace r1:=aa.B 1;replace r5:=aa.ro 8 e16 rfl;have r7:=aa.ro 6 e77 rfl;show _;refine fX ab [jz 0 r0,jb r1,jz 2 r2,jz 3 r3,jz 4 r4,jo r5,jz 6 r6,jo r7] ⟨ao e17,aq fun c=>cN rfl (c.q 0) rfl (by first | omega | (simp only [aP,aB,aH,cu,bk,bC,bP,bM,ByteArray.size,aF,ay,aC,aQ] at *;omega) | exact bE (da _ (bN (by omega) (by omega))) (by omega)),aK 1,av⟩ fun ac ag ae ab aa=> ?_;obtain ⟨e2,e3,e4,e10,e11,e12,e13,e14,e15,e16,e68⟩:=aa.k11 e2 e3 e4 e10 e11 e12 e13 e14 e15 e16 e68;have e17:=aa.V 2;obtain ⟨r0,r2,r3,r4,r6⟩:=aa.z5 0 2 3 4 6;replace r1:=aa.B 1;replace r5:=aa.O 5;replace r7:=aa.O 7;refine ⟨⟨i+1,b14x16,ys++ [(dQ 2 (nth (bA p) (i:Int)) false 0 0 false)],ae,?_,?_,ab,e16,(e17.trans (bB (by omega))),e2,e3,e4,e10,e11,e12,e13,e14,e15,?_,?_,r0,r1,r2,r3,r4⟩,?_⟩
   · omega
   · rw [q1,eH (by omega),aP];rfl
   · exact r5.cast (by rfl)
   · exact Fz.snoc r6 (Dv _ _ _ _ _ _ _ _ _)
   · simp only [m17,e17,intOf];omega
 try simp only [ah,aV] at hc2
 refine wp_exit ?_;repeat (with_reducible refine cy ?_)
 refine cC ?_;refine wp_seq ?_;have hyw:ys=(bA p).map vE:=by rw [q1,bw (by omega)]
 have hys:dH (ys.map fc)≤200:=by rw [q1];have h_:=Ko ((bA p).take i) (n:=12) (fun w_ hw_=>bE (da w_ (iR hw_)) (by omega));rw [ed] at h_;omega
 have hyl_:ys.length≤8:=by rw [hyw,gr];omega
 refine aY ?_;refine bV 3 (by kernel_rfl) ?_;refine og [_,_,iA _ 81 True (fun b:Sv=>b.v) (fun _=>True) (fun b:Sv=>fb lY (Gn aW w) b.v [t1_])] [0,0,2] ab [jz 0 r0,jb r1,jz 2 r2,jz 3 r3,jz 4 r4,jo r5,jz 6 r6] ⟨ao e16,aq fun c=>dY rfl az ak ((c.p e11).trans r1.ptr) (c.B 1),oR (E:=lY) (xs:=[t1_]) (cells:=#[(aj t1_.k),(bc t1_.ch),(aE t1_.ng),t1_.rv.v,(aj t1_.mn),(aj t1_.mx),(aE t1_.lz),t1_.kv.v]) ab sP rfl aU ak aD (by decide) (by decide) rfl rfl fun c hpc=>gB (c.n 1 rfl) (by kernel_rfl),av⟩ fun ac ag ae ab aa=> ?_;obtain ⟨e2,e3,e4,e10,e11,e12,e13,e14,e15⟩:=aa.k9 e2 e3 e4 e10 e11 e12 e13 e14 e15;have e79:=aa.V 0;obtain ⟨kv5_,e81,-,hz16⟩:=aa.gzd 2 rfl trivial;obtain ⟨r0,r2,r3,r4,r6⟩:=aa.z5 0 2 3 4 6;replace r1:=aa.B 1;replace r5:=aa.O 5;have r7:=hz16;refine bW ?_;refine bV 4 (by kernel_rfl) ?_;refine og [_,own lY 25 _ 8 83 ([(eF 6 (⟨#[]⟩:ByteArray) false 0 0 false kv5_ [t1_])]),own _ _ _ 5 84 _,gE _ 85 (fun b:Tr=>b.v) (fun b:Tr=>er b=jQ ((ys++ [(eF 6 (⟨#[]⟩:ByteArray) false 0 0 false kv5_ [t1_])]).map er)) (fun b:Tr=>gT (Gn aW w) b)] [0,1,3,7] ab [jz 0 r0,jb r1,jz 2 r2,jz 3 r3,jz 4 r4,jo r5,jz 6 r6,jz 7 r7] ⟨aq fun c=>eW (cells:=#[(aj 6),(bc (⟨#[]⟩:ByteArray)),(aE false),(.slice none 0 0),(aj 0),(aj 0),(aE false),kv5_.v]) rfl aD (iT rfl (c.p e81) rfl),dt (cells:=#[(aj 6),(bc (⟨#[]⟩:ByteArray)),(aE false),(.slice none 0 0),(aj 0),(aj 0),(aE false),kv5_.v]) rfl rfl rfl rfl aU ak aD rfl (by decide) (by decide) (fun _ _ _ _ c=>gB (c.n 0 rfl) (by kernel_rfl)) rfl,fF (xs:=ys) (E:=lY) (t0:=79) rfl rfl rfl rfl aU (i:=Tryz.t25) rfl rfl rfl rfl (by simp only [maxLen];(try simp);omega) (by show _ * 104≤_;(try simp);omega) (fun _ a_ w_ τ_ c=>⟨(show ep _ _ _ (τ_ 5) (be a_ 79) w_ from by rw [show be a_ 79=u from (c.p e79)];exact c.io 5 rfl),rfl,⟨_,rfl,(c.ro 1 rfl).1.sl⟩⟩),eT (f:=fun b:Tr=>b.v) (Ψ:=fun b:Tr=>er b=jQ ((ys++ [(eF 6 (⟨#[]⟩:ByteArray) false 0 0 false kv5_ [t1_])]).map er)) (Φ:=fun b:Tr=>gT (Gn aW w) b) fun {_ a_ _ _} c=>⟨_,_,(bK rfl rfl oH (mg _ 84)),(Ao _ (ys++ [(eF 6 (⟨#[]⟩:ByteArray) false 0 0 false kv5_ [t1_])]) _ (zl (FT (c.iz 6 rfl) (ly (qA (c.iz 7 rfl) (ly (c.iz 0 rfl) qh)) qh)) (c.ro 2 rfl).1.sl) (by first | omega | (simp only [aP,aB,aH,cu,bk,bC,bP,bM,ByteArray.size,aF,ay,aC,aQ] at *;omega) | exact bE (da _ (bN (by omega) (by omega))) (by omega))).mono (fun e w' ⟨t_,he_,hx_,ht_,hq_⟩=>⟨t_,he_,hx_,hq_,c.tn ab hx_ ht_⟩)⟩,av⟩ fun ac ag ae ab aa=> ?_;obtain ⟨b17x83,e83⟩:=gx ac 83;obtain ⟨b17x84,e84⟩:=gx ac 84;obtain ⟨e2,e3,e4,e10,e11,e12,e13,e14,e15⟩:=aa.k9 e2 e3 e4 e10 e11 e12 e13 e14 e15;obtain ⟨t6_,e85,hqt6_,hz17⟩:=aa.zd 3 rfl;have e85:be ac 85=(ta t6_):=e85;have hwt6_:=rJ hqt6_;obtain ⟨r0,r2,r3,r4,r6,r7⟩:=aa.z6 0 2 3 4 6 7;replace r1:=aa.B 1;have r9:=hz17;refine bW ?_;refine og [box _ _ 7 18 [(aj 0),(bc (⟨#[]⟩:ByteArray)),(aE false),(.slice none 0 0),(aj 0),(aj 0),(aE false),(.slice none 0 0)],_] [0,1] ab [jz 0 r0,jb r1,jz 2 r2,jz 3 r3,jz 4 r4,jz 6 r6,jz 9 r9] ⟨bO rfl rfl rfl rfl aD rfl,ey (cx:=(tc t6_)) (off:=0) rfl ak fun c=>⟨c.rb 0 rfl,(c.rb 0 rfl).ptr,(c.p e85)⟩,av⟩ fun ac ag ae ab aa=> ?_;obtain ⟨b18x18,e18⟩:=gx ac 18;obtain ⟨e2,e3,e4,e10,e11,e12,e13,e14,e15⟩:=aa.k9 e2 e3 e4 e10 e11 e12 e13 e14 e15;obtain ⟨r0,r2,r3,r4,r6⟩:=aa.z5 0 2 3 4 6;replace r1:=aa.B 1;have r7:=aa.rb 1 e18 rfl;replace r9:=aa.z1 9;refine wp_seq ?_;refine wp_seq ?_;refine Lk ab [jz 0 r0,jb r1,jz 2 r2,jz 3 r3,jz 4 r4,jz 6 r6,jb r7,jz 9 r9] ⟨ao e12,aq fun c=>fh rfl (c.q 0) rfl,bD 1,bm 2 rfl fun c hpc=>dY rfl az ak ((c.p e18).trans r7.ptr) (c.B 7),fC 2 false rfl fun c hpc=>⟨_,_,(bK rfl rfl ld (c.M 3 hpc)),uQ t6_ _ (zs (c.iz 9 rfl)) (by have hq0:=hpc;(try simp only [ar,am,ai,ah] at hq0);first | omega | (simp only [aP,aB,aH,cu,bk,bC,bP,bM,ByteArray.size,aF,ay,aC,aQ] at *;omega) | exact bE (da _ (bN (by omega) (by omega))) (by omega))⟩,bm 2 rfl fun c hpc=>ew rfl (c.M 4 hpc),dm 2 5,av⟩ fun ac ag ae ab aa=> ?_;obtain ⟨e2,e3,e4,e10,e11,e13,e14,e15,e18⟩:=aa.k9 e2 e3 e4 e10 e11 e13 e14 e15 e18;have e92:=aa.V 6;obtain ⟨r0,r2,r3,r4,r6,r9⟩:=aa.z6 0 2 3 4 6 9;replace r1:=aa.B 1;replace r7:=aa.B 7;refine wp_cond_split e92 (fun hc3=> ?_) (fun hc3=> ?_)
 · have hd3:=hc3;try simp only [aR,aG,ar,am,ai,ah] at hd3
   refine wp_seq (eA ab [jz 0 r0,jb r1,jz 2 r2,jz 3 r3,jz 4 r4,jz 6 r6,jb r7,jz 9 r9] ⟨eE fun c=>⟨_,_,(fN rfl rfl dN),fO _⟩,aK 0,av⟩ fun ac ag ae ab aa=> ?_);obtain ⟨e2,e3,e4,e11,e13,e14,e15,e18⟩:=aa.k8 e2 e3 e4 e11 e13 e14 e15 e18;have e10:=aa.V 1;obtain ⟨r0,r2,r3,r4,r6,r9⟩:=aa.z6 0 2 3 4 6 9;replace r1:=aa.B 1;replace r7:=aa.B 7;refine wp_ret ?_;refine rp ?_;refine cO (fn:=Tryz.f10) rfl ab.defers e10 ?_;refine ⟨congrArg _ (congrArg _ ?_),ab.ext0⟩;rfl
 have hd3:=hc3;try simp only [aR,aG,ar,am,ai,ah] at hd3
 have hmz_:=Li hc3;refine wp_skip ?_;refine wp_seq ?_;refine wp_seq ?_;refine Hm [0,1,0,4,12,31] ab [jz 0 r0,jb r1,jz 2 r2,jz 3 r3,jz 4 r4,jz 6 r6,jb r7,jz 9 r9] ⟨ao e15,aq fun c=>dk rfl cE (c.q 0) (r4).1.sl,ao e14,aq fun c=>dk rfl bL (c.q 2) (r3).1.sl,aq fun c=>cN rfl (c.q 3) rfl (by first | omega | (simp only [aP,aB,aH,cu,bk,bC,bP,bM,ByteArray.size,aF,ay,aC,aQ] at *;omega) | exact bE (da _ (bN (by omega) (by omega))) (by omega)),aq (v:=(aE false)) fun c=>cA.isB (b:= !decide (((aO s).length:Int)=((bA s).length:Int)+1)) (fh rfl (c.q 1) (c.q 4)) (by rw [hpl];simp),av⟩ fun ac ag ae ab aa=> ?_;obtain ⟨e2,e3,e4,e10,e11,e13,e14,e15,e18⟩:=aa.k9 e2 e3 e4 e10 e11 e13 e14 e15 e18;have e99:=aa.V 5;obtain ⟨r0,r2,r3,r4,r6,r9⟩:=aa.z6 0 2 3 4 6 9;replace r1:=aa.B 1;replace r7:=aa.B 7;refine wp_cond_false e99 ?_;refine wp_skip ?_;refine wp_seq ?_;refine vO [0,0,2,7,15] ab [jz 0 r0,jb r1,jz 2 r2,jz 3 r3,jz 4 r4,jz 6 r6,jb r7,jz 9 r9] ⟨ao e4,ao e15,aq fun c=>dk rfl cE (c.q 1) (r4).1.sl,eE fun c=>⟨_,_,(ck rfl rfl lf (c.q 0) (c.q 2)),qC at_ ((aO s).length:Int) _ (by first | omega | (simp only [aP,aB,aH,cu,bk,bC,bP,bM,ByteArray.size,aF,ay,aC,aQ] at *;omega) | exact bE (da _ (bN (by omega) (by omega))) (by omega)) (by first | omega | (simp only [aP,aB,aH,cu,bk,bC,bP,bM,ByteArray.size,aF,ay,aC,aQ] at *;omega) | exact bE (da _ (bN (by omega) (by omega))) (by omega))⟩,aK 3,av⟩ fun ac ag ae ab aa=> ?_;obtain ⟨e2,e3,e10,e11,e13,e14,e15,e18⟩:=aa.k8 e2 e3 e10 e11 e13 e14 e15 e18;have e19:=aa.V 4;obtain ⟨r0,r2,r3,r4,r6,r9⟩:=aa.z6 0 2 3 4 6 9;replace r1:=aa.B 1;replace r7:=aa.B 7;have hlow:=sJ at_ (n:=((aO s).length:Int)) (by omega) (by omega);obtain ⟨k,hk⟩:∃x_:Nat,ff at_ ((aO s).length:Int)=(x_:Int):=⟨(ff at_ ((aO s).length:Int)).toNat,by omega⟩;replace e19:=e19.trans (bB hk);have hkl:k < (aO s).length:=by omega
 refine wp_seq ?_;refine rg [_,_,_,_,_,_,_,iA _ 112 True (fun b:Sv=> .tuple #[(.agg #[aj (aM (dL t6_ fold s (nth (aO s) (k:Int)) 3000).1).1,aj (aM (dL t6_ fold s (nth (aO s) (k:Int)) 3000).1).2,b.v]),aj (dL t6_ fold s (nth (aO s) (k:Int)) 3000).2.1,aE (dL t6_ fold s (nth (aO s) (k:Int)) 3000).1.isSome,aj (dL t6_ fold s (nth (aO s) (k:Int)) 3000).2.2]) (fun _=>True) (fun b:Sv=>fb cF (Gn aW w) b.v (bJ (dL t6_ fold s (nth (aO s) (k:Int)) 3000).1)),iA _ 104 True (fun b:Sv=>(.tuple #[(.agg #[(aj ((aM (dL t6_ fold s (nth (aO s) (k:Int)) 3000).1).1)),(aj ((aM (dL t6_ fold s (nth (aO s) (k:Int)) 3000).1).2)),b.v]),(aj ((dL t6_ fold s (nth (aO s) (k:Int)) 3000).2.1)),(aE ((dL t6_ fold s (nth (aO s) (k:Int)) 3000).1.isSome)),(aj ((dL t6_ fold s (nth (aO s) (k:Int)) 3000).2.2))])) (fun _=>True) (fun b:Sv=>fb cF (Gn aW w) b.v (bJ (dL t6_ fold s (nth (aO s) (k:Int)) 3000).1)),iA _ 113 True (fun b:Sv=>(.agg #[(aj ((aM (dL t6_ fold s (nth (aO s) (k:Int)) 3000).1).1)),(aj ((aM (dL t6_ fold s (nth (aO s) (k:Int)) 3000).1).2)),b.v])) (fun _=>True) (fun b:Sv=>fb cF (Gn aW w) b.v (bJ (dL t6_ fold s (nth (aO s) (k:Int)) 3000).1)),_,_,_,box _ _ 8 20 [(aj 0),(aj 0),(.slice none 0 0)],zE 41 _ 8 20 (fun b:Sv=> [(aj ((aM (dL t6_ fold s (nth (aO s) (k:Int)) 3000).1).1)),(aj ((aM (dL t6_ fold s (nth (aO s) (k:Int)) 3000).1).2)),b.v]) (fun _=>True) (fun b:Sv=>fb cF (Gn aW w) b.v (bJ (dL t6_ fold s (nth (aO s) (k:Int)) 3000).1)),_,_,_] [0,0,0,0,0,24,56,127,255,511,511,511,511,0,9215,26623,61439,131071] ab [jz 0 r0,jb r1,jz 2 r2,jz 3 r3,jz 4 r4,jz 6 r6,jb r7,jz 9 r9] ⟨aq fun c=>dY rfl az ak ((c.p e18).trans r7.ptr) (c.B 7),ao e2,ao e3,ao e15,ao e19,aq fun c=>aX rfl cE aA (c.q 3) (r4).1.sl (c.q 4) (by first | omega | (simp only [aP,aB,aH,cu,bk,bC,bP,bM,ByteArray.size,aF,ay,aC,aQ] at *;omega) | exact bE (da _ (bN (by omega) (by omega))) (by omega)) (by first | omega | (simp only [aP,aB,aH,cu,bk,bC,bP,bM,ByteArray.size,aF,ay,aC,aQ] at *;omega) | exact bE (da _ (bN (by omega) (by omega))) (by omega)),aq fun c=>aI rfl aN (c.q 5) (((c.iz 4 rfl).1).elem (j:=0) (bF (i:=(k:Int)) (by first | omega | (simp only [aP,aB,aH,cu,bk,bC,bP,bM,ByteArray.size,aF,ay,aC,aQ] at *;omega) | exact bE (da _ (bN (by omega) (by omega))) (by omega)) (by first | omega | (simp only [aP,aB,aH,cu,bk,bC,bP,bM,ByteArray.size,aF,ay,aC,aQ] at *;omega) | exact bE (da _ (bN (by omega) (by omega))) (by omega))) rfl),Fc (f:=fun b:Sv=> .tuple #[(.agg #[aj (aM (dL t6_ fold s (nth (aO s) (k:Int)) 3000).1).1,aj (aM (dL t6_ fold s (nth (aO s) (k:Int)) 3000).1).2,b.v]),aj (dL t6_ fold s (nth (aO s) (k:Int)) 3000).2.1,aE (dL t6_ fold s (nth (aO s) (k:Int)) 3000).1.isSome,aj (dL t6_ fold s (nth (aO s) (k:Int)) 3000).2.2]) (Ψ:=fun _=>True) (Φ:=fun b:Sv=>fb cF (Gn aW w) b.v (bJ (dL t6_ fold s (nth (aO s) (k:Int)) 3000).1)) sP fun {_ a_ _ _} c hpc=>⟨_,_,(eC rfl rfl fL (c.q 0) (c.q 1) (c.q 2) (c.q 6) rfl),(kH _ t6_ fold s (nth (aO s) (k:Int)) 3000 _ (c.iz 9 rfl) (by first | omega | (simp only [aP,aB,aH,cu,bk,bC,bP,bM,ByteArray.size,aF,ay,aC,aQ] at *;omega) | exact bE (da _ (bN (by omega) (by omega))) (by omega)) (by first | omega | (simp only [aP,aB,aH,cu,bk,bC,bP,bM,ByteArray.size,aF,ay,aC,aQ] at *;omega) | exact bE (da _ (bN (by omega) (by omega))) (by omega))).mono (fun e w' ⟨b_,he_,hx_,hs_,hn_⟩=>⟨b_,he_,hx_,av,c.sns ab hx_.size ⟨hs_,hn_⟩⟩)⟩,zn (f:=fun b:Sv=>(.tuple #[(.agg #[(aj ((aM (dL t6_ fold s (nth (aO s) (k:Int)) 3000).1).1)),(aj ((aM (dL t6_ fold s (nth (aO s) (k:Int)) 3000).1).2)),b.v]),(aj ((dL t6_ fold s (nth (aO s) (k:Int)) 3000).2.1)),(aE ((dL t6_ fold s (nth (aO s) (k:Int)) 3000).1.isSome)),(aj ((dL t6_ fold s (nth (aO s) (k:Int)) 3000).2.2))])) (Φ:=fun b:Sv=>fb cF (Gn aW w) b.v (bJ (dL t6_ fold s (nth (aO s) (k:Int)) 3000).1)) fun {_ a_ _ _} c=>by obtain ⟨mv7_,hv7,-,hzmv7_⟩:=c.zd 7 rfl trivial;exact ⟨mv7_,aS rfl hv7,hzmv7_⟩,zn (f:=fun b:Sv=>(.agg #[(aj ((aM (dL t6_ fold s (nth (aO s) (k:Int)) 3000).1).1)),(aj ((aM (dL t6_ fold s (nth (aO s) (k:Int)) 3000).1).2)),b.v])) (Φ:=fun b:Sv=>fb cF (Gn aW w) b.v (bJ (dL t6_ fold s (nth (aO s) (k:Int)) 3000).1)) fun {_ a_ _ _} c=>by obtain ⟨mv8_,hv8,-,hzmv8_⟩:=c.zd 8 rfl trivial;exact ⟨mv8_,kP rfl hv8 rfl,hzmv8_⟩,aq (v:=(aj ((dL t6_ fold s (nth (aO s) (k:Int)) 3000).2.1))) fun {_ a_ _ _} c=>by obtain ⟨mv8_,hv8,-,hzmv8_⟩:=c.zd 8 rfl trivial;exact kP rfl hv8 rfl,aq (v:=(aE ((dL t6_ fold s (nth (aO s) (k:Int)) 3000).1.isSome))) fun {_ a_ _ _} c=>by obtain ⟨mv8_,hv8,-,hzmv8_⟩:=c.zd 8 rfl trivial;exact kP rfl hv8 rfl,aq (v:=(aj ((dL t6_ fold s (nth (aO s) (k:Int)) 3000).2.2))) fun {_ a_ _ _} c=>by obtain ⟨mv8_,hv8,-,hzmv8_⟩:=c.zd 8 rfl trivial;exact kP rfl hv8 rfl,bO rfl rfl rfl rfl bI rfl,sw (off:=0) (cells0:=[(aj 0),(aj 0),(.slice none 0 0)]) (cells:=fun b:Sv=> [(aj ((aM (dL t6_ fold s (nth (aO s) (k:Int)) 3000).1).1)),(aj ((aM (dL t6_ fold s (nth (aO s) (k:Int)) 3000).1).2)),b.v]) (v:=fun b:Sv=>(.agg #[(aj ((aM (dL t6_ fold s (nth (aO s) (k:Int)) 3000).1).1)),(aj ((aM (dL t6_ fold s (nth (aO s) (k:Int)) 3000).1).2)),b.v])) rfl rfl (fun b=>bi) (fun b=>aw rfl) (fun b=>(by simp [Value.cells,Value.oneCell',Sv.v])) (fun b=>rfl) fun c=>by obtain ⟨mv9_,hv9,-,hzmv9_⟩:=c.zd 9 rfl trivial;exact ⟨mv9_,av,hzmv9_,c.rb 13 rfl,(c.rb 13 rfl).ptr,hv9⟩,aK 10,aK 11,aK 12,av⟩ fun ac ag ae ab aa=> ?_;obtain ⟨b23x20,e20⟩:=gx ac 20;obtain ⟨e2,e3,e10,e11,e13,e14,e15,e19⟩:=aa.k8 e2 e3 e10 e11 e13 e14 e15 e19;have e21:=aa.V 15;have e22:=aa.V 16;have e23:=aa.V 17;obtain ⟨r0,r2,r3,r4,r6⟩:=aa.z5 0 2 3 4 6;replace r1:=aa.B 1;obtain ⟨mv9_,hro8,-,hz8⟩:=aa.gzb 14 e20 rfl;have r8:=hro8;replace r9:=aa.z1 9;have r7:=hz8;refine wp_seq (eK ab [jz 0 r0,jb r1,jz 2 r2,jz 3 r3,jz 4 r4,jz 6 r6,jz 7 r7,jb r8,jz 9 r9] ⟨aq fun c=>ax rfl rfl,av⟩ fun ac ag ae ab aa=> ?_);obtain ⟨e2,e3,e10,e11,e13,e14,e15,e19,e20,e21,e22,e23⟩:=aa.k12 e2 e3 e10 e11 e13 e14 e15 e19 e20 e21 e22 e23;have e24:=aa.V 0;obtain ⟨r0,r2,r3,r4,r6,r7,r9⟩:=aa.z7 0 2 3 4 6 7 9;replace r1:=aa.B 1;replace r8:=aa.B 8;refine wp_seq ?_;refine wp_block ?_;refine wp_loop (fun a_ w_=>∃(j:Nat) (τ:Nat→bj),(j≤(bA p).length)∧
      (mB fold (bA s) (bA p) k j)∧
      St (Nw w) w 244 a_ w_ τ∧
      be a_ 24=(aj (j:Int))∧
      be a_ 2=(aE fold)∧
      be a_ 3=(bc s)∧
      be a_ 10=(aE false)∧
      be a_ 11=b5x11∧
      be a_ 13=kv2_.v∧
      be a_ 14=kv3_.v∧
      be a_ 15=kv4_.v∧
      be a_ 19=(aj (k:Int))∧
      be a_ 20=b23x20∧
      be a_ 21=(aj ((dL t6_ fold s (nth (aO s) (k:Int)) 3000).2.1))∧
      be a_ 22=(aE ((dL t6_ fold s (nth (aO s) (k:Int)) 3000).1.isSome))∧
      be a_ 23=(aj ((dL t6_ fold s (nth (aO s) (k:Int)) 3000).2.2))∧
      Fz (gT (Gn aW w) t1_) τ w_∧
      cH 25 (tc t1_) (τ 1) b5x11 w_∧
      Fz (fb gR (Gn aW w) kv2_.v (bA p)) τ w_∧
      Fz (fb gR (Gn aW w) kv3_.v (bA s)) τ w_∧
      Fz (fb lM (Gn aW w) kv4_.v (aO s)) τ w_∧
      Fz (oA (Gn aW w) ys) τ w_∧
      Fz (fb cF (Gn aW w) mv9_.v (bJ (dL t6_ fold s (nth (aO s) (k:Int)) 3000).1)) τ w_∧
      cH 41 [(aj ((aM (dL t6_ fold s (nth (aO s) (k:Int)) 3000).1).1)),(aj ((aM (dL t6_ fold s (nth (aO s) (k:Int)) 3000).1).2)),mv9_.v] (τ 8) b23x20 w_∧
      Fz (gT (Gn aW w) t6_) τ w_) (fun a_ _=>(bA p).length - (intOf (be a_ 24)).toNat) ?_ ?_
 · refine ⟨0,ae,?_,?_,ab,(e24.trans (bB (by omega))),e2,e3,e10,e11,e13,e14,e15,e19,e20,e21,e22,e23,r0,r1,r2,r3,r4,r6,r7,r8,r9⟩
   · omega
   · exact mB.zero _ _ _ _
 intro a25 w25 hI;obtain ⟨j,τ25,q0,q1,st25,e24,e2,e3,e10,e11,e13,e14,e15,e19,e20,e21,e22,e23,r0,r1,r2,r3,r4,r6,r7,r8,r9⟩:=hI;have m24:=e24;refine wp_seq ?_;refine wp_seq ?_;refine rg [_,_,_,_,_,_,_,_,_,_,_,_,_,_,_,_,_,_,_,_,_,_,_,_,_,_,_,_,_,_,_,_,_,_,_,_,_,_,_,_,_,_,_] [0,0,2,7,15,31,31,127,31,287,1023,2047,4095,8191,8191,8191,57343,131071,262143,8191,8191,1581055,3678207,8388607,16777215,33554431,67108863,134217727,134217727,134217727,939524095,2147483647,4294967295,8589934591,134217727,134217727,51673825279,120393302015,274877906943,549755813887,1099511627775,2199023255551,4398046511103] st25 [jz 0 r0,jb r1,jz 2 r2,jz 3 r3,jz 4 r4,jz 6 r6,jz 7 r7,jb r8,jz 9 r9] ⟨ao e24,ao e13,aq fun c=>dk rfl bL (c.q 1) (r2).1.sl,aq fun c=>cW rfl (c.q 0) (c.q 2),bD 3,aL 4 rfl fun c hpc=>aS rfl (c.p e19),aL 4 rfl fun c hpc=>aS rfl (c.p e24),aL 4 rfl fun c hpc=>cN rfl (c.M 5 hpc) (c.M 6 hpc) (by have hq0:=bt hpc;first | omega | (simp only [aP,aB,aH,cu,bk,bC,bP,bM,ByteArray.size,aF,ay,aC,aQ] at *;omega) | exact bE (da _ (bN (by omega) (by omega))) (by omega)),aL 4 rfl fun c hpc=>aS rfl (c.p e14),aL 4 rfl fun c hpc=>dk rfl bL (c.M 8 hpc) (r3).1.sl,aL 4 rfl fun c hpc=>cW rfl (c.M 7 hpc) (c.M 9 hpc),bZ 4 10,bD 11,aL 12 rfl fun c hpc=>aS rfl (c.p e14),aL 12 rfl fun c hpc=>aS rfl (c.p e19),aL 12 rfl fun c hpc=>aS rfl (c.p e24),aL 12 rfl fun c hpc=>cN rfl (c.M 14 hpc) (c.M 15 hpc) (by have hq0:=hpc;(try simp only [au,ai] at hq0);first | omega | (simp only [aP,aB,aH,cu,bk,bC,bP,bM,ByteArray.size,aF,ay,aC,aQ] at *;omega) | exact bE (da _ (bN (by omega) (by omega))) (by omega)),aL 12 rfl fun c hpc=>aX rfl bL cf (c.M 13 hpc) (r3).1.sl (c.M 16 hpc) (by have hq0:=hpc;(try simp only [au,ai] at hq0);first | omega | (simp only [aP,aB,aH,cu,bk,bC,bP,bM,ByteArray.size,aF,ay,aC,aQ] at *;omega) | exact bE (da _ (bN (by omega) (by omega))) (by omega)) (by have hq0:=hpc;(try simp only [au,ai] at hq0);first | omega | (simp only [aP,aB,aH,cu,bk,bC,bP,bM,ByteArray.size,aF,ay,aC,aQ] at *;omega) | exact bE (da _ (bN (by omega) (by omega))) (by omega)),aL 12 rfl fun c hpc=>aI rfl cJ (c.M 17 hpc) (((c.iz 3 rfl).1).elem (j:=0) (bF (i:=(k:Int)+(j:Int)) (by have hq0:=hpc;(try simp only [au,ai] at hq0);first | omega | (simp only [aP,aB,aH,cu,bk,bC,bP,bM,ByteArray.size,aF,ay,aC,aQ] at *;omega) | exact bE (da _ (bN (by omega) (by omega))) (by omega)) (by have hq0:=hpc;(try simp only [au,ai] at hq0);first | omega | (simp only [aP,aB,aH,cu,bk,bC,bP,bM,ByteArray.size,aF,ay,aC,aQ] at *;omega) | exact bE (da _ (bN (by omega) (by omega))) (by omega))) rfl),aL 12 rfl fun c hpc=>aS rfl (c.p e13),aL 12 rfl fun c hpc=>aS rfl (c.p e24),aL 12 rfl fun c hpc=>aX rfl bL cf (c.M 19 hpc) (r2).1.sl (c.M 20 hpc) (by have hq0:=hpc;(try simp only [au,ai] at hq0);first | omega | (simp only [aP,aB,aH,cu,bk,bC,bP,bM,ByteArray.size,aF,ay,aC,aQ] at *;omega) | exact bE (da _ (bN (by omega) (by omega))) (by omega)) (by have hq0:=hpc;(try simp only [au,ai] at hq0);first | omega | (simp only [aP,aB,aH,cu,bk,bC,bP,bM,ByteArray.size,aF,ay,aC,aQ] at *;omega) | exact bE (da _ (bN (by omega) (by omega))) (by omega)),aL 12 rfl fun c hpc=>aI rfl cJ (c.M 21 hpc) (((c.iz 2 rfl).1).elem (j:=0) (bF (i:=(j:Int)) (by have hq0:=hpc;(try simp only [au,ai] at hq0);first | omega | (simp only [aP,aB,aH,cu,bk,bC,bP,bM,ByteArray.size,aF,ay,aC,aQ] at *;omega) | exact bE (da _ (bN (by omega) (by omega))) (by omega)) (by have hq0:=hpc;(try simp only [au,ai] at hq0);first | omega | (simp only [aP,aB,aH,cu,bk,bC,bP,bM,ByteArray.size,aF,ay,aC,aQ] at *;omega) | exact bE (da _ (bN (by omega) (by omega))) (by omega))) rfl),aL 12 rfl fun c hpc=>eI rfl (c.M 18 hpc) (c.M 22 hpc),aL 12 rfl fun c hpc=>aS rfl (c.M 23 hpc),dj 24 false rfl fun c hpc=>aS rfl (c.p e2),dj 24 false rfl fun c hpc=>aS rfl (c.M 25 hpc),dj 26 true rfl fun c hpc=>aS rfl (c.p e14),dj 26 true rfl fun c hpc=>aS rfl (c.p e19),dj 26 true rfl fun c hpc=>aS rfl (c.p e24),dj 26 true rfl fun c hpc=>cN rfl (c.M 28 hpc) (c.M 29 hpc) (by have hq0:=hpc.2;have hq1:=hpc.1.2;have hq2:=hpc.1.1;(try simp only [au,ai] at hq2);first | omega | (simp only [aP,aB,aH,cu,bk,bC,bP,bM,ByteArray.size,aF,ay,aC,aQ] at *;omega) | exact bE (da _ (bN (by omega) (by omega))) (by omega)),dj 26 true rfl fun c hpc=>aX rfl bL cf (c.M 27 hpc) (r3).1.sl (c.M 30 hpc) (by have hq0:=hpc.2;have hq1:=hpc.1.2;have hq2:=hpc.1.1;(try simp only [au,ai] at hq2);first | omega | (simp only [aP,aB,aH,cu,bk,bC,bP,bM,ByteArray.size,aF,ay,aC,aQ] at *;omega) | exact bE (da _ (bN (by omega) (by omega))) (by omega)) (by have hq0:=hpc.2;have hq1:=hpc.1.2;have hq2:=hpc.1.1;(try simp only [au,ai] at hq2);first | omega | (simp only [aP,aB,aH,cu,bk,bC,bP,bM,ByteArray.size,aF,ay,aC,aQ] at *;omega) | exact bE (da _ (bN (by omega) (by omega))) (by omega)),dj 26 true rfl fun c hpc=>aI rfl cJ (c.M 31 hpc) (((c.iz 3 rfl).1).elem (j:=0) (bF (i:=(k:Int)+(j:Int)) (by have hq0:=hpc.2;have hq1:=hpc.1.2;have hq2:=hpc.1.1;(try simp only [au,ai] at hq2);first | omega | (simp only [aP,aB,aH,cu,bk,bC,bP,bM,ByteArray.size,aF,ay,aC,aQ] at *;omega) | exact bE (da _ (bN (by omega) (by omega))) (by omega)) (by have hq0:=hpc.2;have hq1:=hpc.1.2;have hq2:=hpc.1.1;(try simp only [au,ai] at hq2);first | omega | (simp only [aP,aB,aH,cu,bk,bC,bP,bM,ByteArray.size,aF,ay,aC,aQ] at *;omega) | exact bE (da _ (bN (by omega) (by omega))) (by omega))) rfl),qR 26 true rfl fun c hpc=>⟨_,_,(bK rfl rfl oG (c.M 32 hpc)),wM (nth (bA s) ((k:Int)+(j:Int))) _ (by have hq0:=hpc.2;have hq1:=hpc.1.2;have hq2:=hpc.1.1;(try simp only [au,ai] at hq2);first | omega | (simp only [aP,aB,aH,cu,bk,bC,bP,bM,ByteArray.size,aF,ay,aC,aQ] at *;omega) | exact bE (da _ (bN (by omega) (by omega))) (by omega))⟩,dj 26 true rfl fun c hpc=>aS rfl (c.p e13),dj 26 true rfl fun c hpc=>aS rfl (c.p e24),dj 26 true rfl fun c hpc=>aX rfl bL cf (c.M 34 hpc) (r2).1.sl (c.M 35 hpc) (by have hq0:=hpc.2;have hq1:=hpc.1.2;have hq2:=hpc.1.1;(try simp only [au,ai] at hq2);first | omega | (simp only [aP,aB,aH,cu,bk,bC,bP,bM,ByteArray.size,aF,ay,aC,aQ] at *;omega) | exact bE (da _ (bN (by omega) (by omega))) (by omega)) (by have hq0:=hpc.2;have hq1:=hpc.1.2;have hq2:=hpc.1.1;(try simp only [au,ai] at hq2);first | omega | (simp only [aP,aB,aH,cu,bk,bC,bP,bM,ByteArray.size,aF,ay,aC,aQ] at *;omega) | exact bE (da _ (bN (by omega) (by omega))) (by omega)),dj 26 true rfl fun c hpc=>aI rfl cJ (c.M 36 hpc) (((c.iz 2 rfl).1).elem (j:=0) (bF (i:=(j:Int)) (by have hq0:=hpc.2;have hq1:=hpc.1.2;have hq2:=hpc.1.1;(try simp only [au,ai] at hq2);first | omega | (simp only [aP,aB,aH,cu,bk,bC,bP,bM,ByteArray.size,aF,ay,aC,aQ] at *;omega) | exact bE (da _ (bN (by omega) (by omega))) (by omega)) (by have hq0:=hpc.2;have hq1:=hpc.1.2;have hq2:=hpc.1.1;(try simp only [au,ai] at hq2);first | omega | (simp only [aP,aB,aH,cu,bk,bC,bP,bM,ByteArray.size,aF,ay,aC,aQ] at *;omega) | exact bE (da _ (bN (by omega) (by omega))) (by omega))) rfl),qR 26 true rfl fun c hpc=>⟨_,_,(bK rfl rfl oG (c.M 37 hpc)),wM (nth (bA p) (j:Int)) _ (by have hq0:=hpc.2;have hq1:=hpc.1.2;have hq2:=hpc.1.1;(try simp only [au,ai] at hq2);first | omega | (simp only [aP,aB,aH,cu,bk,bC,bP,bM,ByteArray.size,aF,ay,aC,aQ] at *;omega) | exact bE (da _ (bN (by omega) (by omega))) (by omega))⟩,dj 26 true rfl fun c hpc=>eI rfl (c.M 33 hpc) (c.M 38 hpc),dj 24 false rfl fun c hpc=>oK rfl (c.M 26 hpc) (fun h=>c.m 39 rfl (And.intro hpc h)),aL 12 rfl fun c hpc=>pT rfl (c.M 24 hpc) (fun h=>c.m 40 rfl (And.intro hpc h)),bZ 12 41,av⟩ fun ac ag ae ab aa=> ?_;obtain ⟨e2,e3,e10,e11,e13,e14,e15,e19,e20,e21,e22,e23,e24⟩:=aa.k13 e2 e3 e10 e11 e13 e14 e15 e19 e20 e21 e22 e23 e24;have e159:=aa.V 42;obtain ⟨r0,r2,r3,r4,r6,r7,r9⟩:=aa.z7 0 2 3 4 6 7 9;replace r1:=aa.B 1;replace r8:=aa.B 8;refine wp_cond_split e159 (fun hc5=> ?_) (fun hc5=> ?_)
 · have hd5:=hc5;try simp only [au,aR,ai] at hd5
   have hba_:=Ku hc5;have hb2_:=hba_.1.2;have hb3_:rq fold (nth (bA s) ((k:Int)+(j:Int))) (nth (bA p) (j:Int))=true:=hba_.2;simp only [ai] at hb2_;refine wp_skip ?_;refine wp_block ?_;refine fX ab [jz 0 r0,jb r1,jz 2 r2,jz 3 r3,jz 4 r4,jz 6 r6,jz 7 r7,jb r8,jz 9 r9] ⟨ao e24,aq fun c=>cN rfl (c.q 0) rfl (by first | omega | (simp only [aP,aB,aH,cu,bk,bC,bP,bM,ByteArray.size,aF,ay,aC,aQ] at *;omega) | exact bE (da _ (bN (by omega) (by omega))) (by omega)),aK 1,av⟩ fun ac ag ae ab aa=> ?_;obtain ⟨e2,e3,e10,e11,e13,e14,e15,e19,e20,e21,e22,e23,e159⟩:=aa.k13 e2 e3 e10 e11 e13 e14 e15 e19 e20 e21 e22 e23 e159;have e24:=aa.V 2;obtain ⟨r0,r2,r3,r4,r6,r7,r9⟩:=aa.z7 0 2 3 4 6 7 9;replace r1:=aa.B 1;replace r8:=aa.B 8;show _;refine ⟨⟨j+1,ae,?_,?_,ab,(e24.trans (bB (by omega))),e2,e3,e10,e11,e13,e14,e15,e19,e20,e21,e22,e23,r0,r1,r2,r3,r4,r6,r7,r8,r9⟩,?_⟩
   · omega
   · exact q1.snoc hb2_ hb3_
   · simp only [m24,e24,intOf];omega
 have hd5:=hc5;try simp only [bl,aG,ah,aV] at hd5
 have hbn_:=Kv hc5;simp only [ai] at hbn_;refine wp_exit ?_;repeat (with_reducible refine cy ?_)
 refine cC ?_;refine wp_seq ?_;refine wp_seq (lr [0,0,2,7] ab [jz 0 r0,jb r1,jz 2 r2,jz 3 r3,jz 4 r4,jz 6 r6,jz 7 r7,jb r8,jz 9 r9] ⟨ao e24,ao e13,aq fun c=>dk rfl bL (c.q 1) (r2).1.sl,aq fun c=>cW rfl (c.q 0) (c.q 2),av⟩ fun ac ag ae ab aa=> ?_);obtain ⟨e2,e3,e10,e11,e15,e19,e20,e21,e22,e23,e24⟩:=aa.k11 e2 e3 e10 e11 e15 e19 e20 e21 e22 e23 e24;have e165:=aa.V 3;obtain ⟨r0,r2,r3,r4,r6,r7,r9⟩:=aa.z7 0 2 3 4 6 7 9;replace r1:=aa.B 1;replace r8:=aa.B 8;refine wp_cond_split e165 (fun hc6=> ?_) (fun hc6=> ?_)
 · try simp only [ai] at hc6
   refine wp_seq ?_;refine rg [_,_,_,_,_,_,_,_,_,_,_,_,_,_,_,_,_] [0,1,3,7,15,31,63,127,127,383,895,2047,4095,8191,16383,32767,65535] ab [jz 0 r0,jb r1,jz 4 r4,jz 6 r6,jz 7 r7,jb r8,jz 9 r9] ⟨ao e22,aq fun c=>ew rfl (c.q 0),bD 1,aL 2 rfl fun c hpc=>aS rfl (c.p e23),aL 2 rfl fun c hpc=>cY rfl (c.M 3 hpc) rfl,bZ 2 4,bD 5,aL 6 rfl fun c hpc=>aS rfl (c.p e21),aL 6 rfl fun c hpc=>aS rfl (c.p e24),aL 6 rfl fun c hpc=>gd rfl rfl (c.M 8 hpc) (by have hq0:=hpc;(try simp only [au,bl,ar,am,ai,ah] at hq0);first | omega | (simp only [aP,aB,aH,cu,bk,bC,bP,bM,ByteArray.size,aF,ay,aC,aQ] at *;omega) | exact bE (da _ (bN (by omega) (by omega))) (by omega)),aL 6 rfl fun c hpc=>gd rfl (c.M 9 hpc) rfl (by have hq0:=hpc;(try simp only [au,bl,ar,am,ai,ah] at hq0);first | omega | (simp only [aP,aB,aH,cu,bk,bC,bP,bM,ByteArray.size,aF,ay,aC,aQ] at *;omega) | exact bE (da _ (bN (by omega) (by omega))) (by omega)),aL 6 rfl fun c hpc=>cY rfl (c.M 7 hpc) (c.M 10 hpc),bZ 6 11,bD 12,fC 13 true rfl fun c hpc=>⟨_,_,(fN rfl rfl dN),fO _⟩,bZ 13 14,aK 15,av⟩ fun ac ag ae ab aa=> ?_;obtain ⟨e2,e3,e11,e15,e19,e20,e21,e22,e23,e24⟩:=aa.k10 e2 e3 e11 e15 e19 e20 e21 e22 e23 e24;have e10:=aa.V 16;obtain ⟨r0,r4,r6,r7,r9⟩:=aa.z5 0 4 6 7 9;replace r1:=aa.B 1;replace r8:=aa.B 8;refine wp_ret ?_;refine rp ?_;refine cO (fn:=Tryz.f10) rfl ab.defers e10 ?_;refine ⟨congrArg _ (congrArg _ ?_),ab.ext0⟩;rw [IP (t:=t1_) (by rw [←hyw];exact hqt6_) hne_ (by omega) hmz_ hkl rfl (by omega) q1 (hbn_ (by simpa using (show (j:Int) < ((bA p).length:Int) by omega)))];simp
 try simp only [ah,aV] at hc6
 refine wp_skip ?_;refine wp_seq ?_;have hkj_:=q1.le (show k≤(bA s).length by omega);refine rg [_,_,_,_,_,_,_,_,_,_,_,_,iA _ 195 True (fun b:Sv=> .tuple #[(.agg #[aj (aM (dL t1_ fold s (nth (aO s) ((k:Int)+(j:Int))) (3000 - (j:Int) - 1)).1).1,aj (aM (dL t1_ fold s (nth (aO s) ((k:Int)+(j:Int))) (3000 - (j:Int) - 1)).1).2,b.v]),aj (dL t1_ fold s (nth (aO s) ((k:Int)+(j:Int))) (3000 - (j:Int) - 1)).2.1,aE (dL t1_ fold s (nth (aO s) ((k:Int)+(j:Int))) (3000 - (j:Int) - 1)).1.isSome,aj (dL t1_ fold s (nth (aO s) ((k:Int)+(j:Int))) (3000 - (j:Int) - 1)).2.2]) (fun _=>True) (fun b:Sv=>fb cF (Gn aW w) b.v (bJ (dL t1_ fold s (nth (aO s) ((k:Int)+(j:Int))) (3000 - (j:Int) - 1)).1)),iA _ 182 True (fun b:Sv=>(.tuple #[(.agg #[(aj ((aM (dL t1_ fold s (nth (aO s) ((k:Int)+(j:Int))) (3000 - (j:Int) - 1)).1).1)),(aj ((aM (dL t1_ fold s (nth (aO s) ((k:Int)+(j:Int))) (3000 - (j:Int) - 1)).1).2)),b.v]),(aj ((dL t1_ fold s (nth (aO s) ((k:Int)+(j:Int))) (3000 - (j:Int) - 1)).2.1)),(aE ((dL t1_ fold s (nth (aO s) ((k:Int)+(j:Int))) (3000 - (j:Int) - 1)).1.isSome)),(aj ((dL t1_ fold s (nth (aO s) ((k:Int)+(j:Int))) (3000 - (j:Int) - 1)).2.2))])) (fun _=>True) (fun b:Sv=>fb cF (Gn aW w) b.v (bJ (dL t1_ fold s (nth (aO s) ((k:Int)+(j:Int))) (3000 - (j:Int) - 1)).1)),iA _ 196 True (fun b:Sv=>(.agg #[(aj ((aM (dL t1_ fold s (nth (aO s) ((k:Int)+(j:Int))) (3000 - (j:Int) - 1)).1).1)),(aj ((aM (dL t1_ fold s (nth (aO s) ((k:Int)+(j:Int))) (3000 - (j:Int) - 1)).1).2)),b.v])) (fun _=>True) (fun b:Sv=>fb cF (Gn aW w) b.v (bJ (dL t1_ fold s (nth (aO s) ((k:Int)+(j:Int))) (3000 - (j:Int) - 1)).1)),_,_,_,box _ _ 2 25 [(aj 0),(aj 0),(.slice none 0 0)],zE 41 _ 2 25 (fun b:Sv=> [(aj ((aM (dL t1_ fold s (nth (aO s) ((k:Int)+(j:Int))) (3000 - (j:Int) - 1)).1).1)),(aj ((aM (dL t1_ fold s (nth (aO s) ((k:Int)+(j:Int))) (3000 - (j:Int) - 1)).1).2)),b.v]) (fun _=>True) (fun b:Sv=>fb cF (Gn aW w) b.v (bJ (dL t1_ fold s (nth (aO s) ((k:Int)+(j:Int))) (3000 - (j:Int) - 1)).1)),_,_,_] [0,0,0,0,0,0,48,120,248,0,512,1536,4095,8191,16383,16383,16383,16383,0,294911,851967,1966079,4194303] ab [jz 0 r0,jb r1,jz 4 r4,jz 6 r6,jz 7 r7,jb r8,jz 9 r9] ⟨aq fun c=>dY rfl az ak ((c.p e11).trans r1.ptr) (c.B 1),ao e2,ao e3,ao e15,ao e19,ao e24,aq fun c=>cN rfl (c.q 4) (c.q 5) (by first | omega | (simp only [aP,aB,aH,cu,bk,bC,bP,bM,ByteArray.size,aF,ay,aC,aQ] at *;omega) | exact bE (da _ (bN (by omega) (by omega))) (by omega)),aq fun c=>aX rfl cE aA (c.q 3) (r4).1.sl (c.q 6) (by first | omega | (simp only [aP,aB,aH,cu,bk,bC,bP,bM,ByteArray.size,aF,ay,aC,aQ] at *;omega) | exact bE (da _ (bN (by omega) (by omega))) (by omega)) (by first | omega | (simp only [aP,aB,aH,cu,bk,bC,bP,bM,ByteArray.size,aF,ay,aC,aQ] at *;omega) | exact bE (da _ (bN (by omega) (by omega))) (by omega)),aq fun c=>aI rfl aN (c.q 7) (((c.iz 4 rfl).1).elem (j:=0) (bF (i:=(k:Int)+(j:Int)) (by first | omega | (simp only [aP,aB,aH,cu,bk,bC,bP,bM,ByteArray.size,aF,ay,aC,aQ] at *;omega) | exact bE (da _ (bN (by omega) (by omega))) (by omega)) (by first | omega | (simp only [aP,aB,aH,cu,bk,bC,bP,bM,ByteArray.size,aF,ay,aC,aQ] at *;omega) | exact bE (da _ (bN (by omega) (by omega))) (by omega))) rfl),ao e24,aq fun c=>gd rfl rfl (c.q 9) (by first | omega | (simp only [aP,aB,aH,cu,bk,bC,bP,bM,ByteArray.size,aF,ay,aC,aQ] at *;omega) | exact bE (da _ (bN (by omega) (by omega))) (by omega)),aq fun c=>gd rfl (c.q 10) rfl (by first | omega | (simp only [aP,aB,aH,cu,bk,bC,bP,bM,ByteArray.size,aF,ay,aC,aQ] at *;omega) | exact bE (da _ (bN (by omega) (by omega))) (by omega)),Fc (f:=fun b:Sv=> .tuple #[(.agg #[aj (aM (dL t1_ fold s (nth (aO s) ((k:Int)+(j:Int))) (3000 - (j:Int) - 1)).1).1,aj (aM (dL t1_ fold s (nth (aO s) ((k:Int)+(j:Int))) (3000 - (j:Int) - 1)).1).2,b.v]),aj (dL t1_ fold s (nth (aO s) ((k:Int)+(j:Int))) (3000 - (j:Int) - 1)).2.1,aE (dL t1_ fold s (nth (aO s) ((k:Int)+(j:Int))) (3000 - (j:Int) - 1)).1.isSome,aj (dL t1_ fold s (nth (aO s) ((k:Int)+(j:Int))) (3000 - (j:Int) - 1)).2.2]) (Ψ:=fun _=>True) (Φ:=fun b:Sv=>fb cF (Gn aW w) b.v (bJ (dL t1_ fold s (nth (aO s) ((k:Int)+(j:Int))) (3000 - (j:Int) - 1)).1)) sP fun {_ a_ _ _} c hpc=>⟨_,_,(eC rfl rfl fL (c.q 0) (c.q 1) (c.q 2) (c.q 8) (c.q 11)),(kH _ t1_ fold s (nth (aO s) ((k:Int)+(j:Int))) (3000 - (j:Int) - 1) _ (c.iz 0 rfl) (by first | omega | (simp only [aP,aB,aH,cu,bk,bC,bP,bM,ByteArray.size,aF,ay,aC,aQ] at *;omega) | exact bE (da _ (bN (by omega) (by omega))) (by omega)) (by first | omega | (simp only [aP,aB,aH,cu,bk,bC,bP,bM,ByteArray.size,aF,ay,aC,aQ] at *;omega) | exact bE (da _ (bN (by omega) (by omega))) (by omega))).mono (fun e w' ⟨b_,he_,hx_,hs_,hn_⟩=>⟨b_,he_,hx_,av,c.sns ab hx_.size ⟨hs_,hn_⟩⟩)⟩,zn (f:=fun b:Sv=>(.tuple #[(.agg #[(aj ((aM (dL t1_ fold s (nth (aO s) ((k:Int)+(j:Int))) (3000 - (j:Int) - 1)).1).1)),(aj ((aM (dL t1_ fold s (nth (aO s) ((k:Int)+(j:Int))) (3000 - (j:Int) - 1)).1).2)),b.v]),(aj ((dL t1_ fold s (nth (aO s) ((k:Int)+(j:Int))) (3000 - (j:Int) - 1)).2.1)),(aE ((dL t1_ fold s (nth (aO s) ((k:Int)+(j:Int))) (3000 - (j:Int) - 1)).1.isSome)),(aj ((dL t1_ fold s (nth (aO s) ((k:Int)+(j:Int))) (3000 - (j:Int) - 1)).2.2))])) (Φ:=fun b:Sv=>fb cF (Gn aW w) b.v (bJ (dL t1_ fold s (nth (aO s) ((k:Int)+(j:Int))) (3000 - (j:Int) - 1)).1)) fun {_ a_ _ _} c=>by obtain ⟨mv10_,hv12,-,hzmv10_⟩:=c.zd 12 rfl trivial;exact ⟨mv10_,aS rfl hv12,hzmv10_⟩,zn (f:=fun b:Sv=>(.agg #[(aj ((aM (dL t1_ fold s (nth (aO s) ((k:Int)+(j:Int))) (3000 - (j:Int) - 1)).1).1)),(aj ((aM (dL t1_ fold s (nth (aO s) ((k:Int)+(j:Int))) (3000 - (j:Int) - 1)).1).2)),b.v])) (Φ:=fun b:Sv=>fb cF (Gn aW w) b.v (bJ (dL t1_ fold s (nth (aO s) ((k:Int)+(j:Int))) (3000 - (j:Int) - 1)).1)) fun {_ a_ _ _} c=>by obtain ⟨mv11_,hv13,-,hzmv11_⟩:=c.zd 13 rfl trivial;exact ⟨mv11_,kP rfl hv13 rfl,hzmv11_⟩,aq (v:=(aj ((dL t1_ fold s (nth (aO s) ((k:Int)+(j:Int))) (3000 - (j:Int) - 1)).2.1))) fun {_ a_ _ _} c=>by obtain ⟨mv11_,hv13,-,hzmv11_⟩:=c.zd 13 rfl trivial;exact kP rfl hv13 rfl,aq (v:=(aE ((dL t1_ fold s (nth (aO s) ((k:Int)+(j:Int))) (3000 - (j:Int) - 1)).1.isSome))) fun {_ a_ _ _} c=>by obtain ⟨mv11_,hv13,-,hzmv11_⟩:=c.zd 13 rfl trivial;exact kP rfl hv13 rfl,aq (v:=(aj ((dL t1_ fold s (nth (aO s) ((k:Int)+(j:Int))) (3000 - (j:Int) - 1)).2.2))) fun {_ a_ _ _} c=>by obtain ⟨mv11_,hv13,-,hzmv11_⟩:=c.zd 13 rfl trivial;exact kP rfl hv13 rfl,bO rfl rfl rfl rfl bI rfl,sw (off:=0) (cells0:=[(aj 0),(aj 0),(.slice none 0 0)]) (cells:=fun b:Sv=> [(aj ((aM (dL t1_ fold s (nth (aO s) ((k:Int)+(j:Int))) (3000 - (j:Int) - 1)).1).1)),(aj ((aM (dL t1_ fold s (nth (aO s) ((k:Int)+(j:Int))) (3000 - (j:Int) - 1)).1).2)),b.v]) (v:=fun b:Sv=>(.agg #[(aj ((aM (dL t1_ fold s (nth (aO s) ((k:Int)+(j:Int))) (3000 - (j:Int) - 1)).1).1)),(aj ((aM (dL t1_ fold s (nth (aO s) ((k:Int)+(j:Int))) (3000 - (j:Int) - 1)).1).2)),b.v])) rfl rfl (fun b=>bi) (fun b=>aw rfl) (fun b=>(by simp [Value.cells,Value.oneCell',Sv.v])) (fun b=>rfl) fun c=>by obtain ⟨mv12_,hv14,-,hzmv12_⟩:=c.zd 14 rfl trivial;exact ⟨mv12_,av,hzmv12_,c.rb 18 rfl,(c.rb 18 rfl).ptr,hv14⟩,aK 15,aK 16,aK 17,av⟩ fun ac ag ae ab aa=> ?_;obtain ⟨b30x25,e25⟩:=gx ac 25;obtain ⟨e10,e15,e19,e20,e21,e22,e23⟩:=aa.k7 e10 e15 e19 e20 e21 e22 e23;have e26:=aa.V 20;have e27:=aa.V 21;have e28:=aa.V 22;replace r0:=aa.z1 0;obtain ⟨mv12_,hro2,-,hz2⟩:=aa.gzb 19 e25 rfl;have r2:=hro2;obtain ⟨r4,r6,r7,r9⟩:=aa.z4 4 6 7 9;replace r8:=aa.B 8;have r1:=hz2;refine wp_seq ?_;refine wp_seq ?_;obtain ⟨hB1_,hB2_,hB3_⟩:=IQ (t:=t1_) (by rw [←hyw];exact hqt6_) hne_ (by omega) hmz_ hkl rfl (by omega) q1 rfl;have hle1_:=(r1).1.le;have hle4_:=(r4).1.le;have hle7_:=(r7).1.le;refine rg [_,_,_,_,_,_,_,_,_,_,_,_,_] [0,0,3,7,15,15,63,127,255,511,511,2047,4095] ab [jz 0 r0,jz 1 r1,jb r2,jz 4 r4,jz 6 r6,jz 7 r7,jb r8,jz 9 r9] ⟨ao e22,ao e27,aq fun c=>qO rfl cT (c.q 0) (c.q 1),bD 2,bm 3 rfl fun c hpc=>aS rfl (c.p e23),bm 3 rfl fun c hpc=>aS rfl (c.p e28),bm 3 rfl fun c hpc=>fh rfl (c.M 4 hpc) (c.M 5 hpc),dm 3 6,bD 7,bm 8 rfl fun c hpc=>aS rfl (c.p e21),bm 8 rfl fun c hpc=>aS rfl (c.p e26),bm 8 rfl fun c hpc=>fh rfl (c.M 9 hpc) (c.M 10 hpc),aq (v:=(aE false)) fun c=>cA.isB (b:=((!(((dL t6_ fold s (nth (aO s) (k:Int)) 3000).1.isSome)==((dL t1_ fold s (nth (aO s) ((k:Int)+(j:Int))) (3000 - (j:Int) - 1)).1.isSome))) || (!decide ((dL t6_ fold s (nth (aO s) (k:Int)) 3000).2.2=(dL t1_ fold s (nth (aO s) ((k:Int)+(j:Int))) (3000 - (j:Int) - 1)).2.2))) || (!decide ((dL t6_ fold s (nth (aO s) (k:Int)) 3000).2.1=(dL t1_ fold s (nth (aO s) ((k:Int)+(j:Int))) (3000 - (j:Int) - 1)).2.1))) (pT rfl (c.q 8) (fun h=>c.M 11 h)) (by rw [hB2_,hB1_];simp),av⟩ fun ac ag ae ab aa=> ?_;obtain ⟨e10,e15,e19,e20,e22,e25⟩:=aa.k6 e10 e15 e19 e20 e22 e25;have e212:=aa.V 12;obtain ⟨r0,r1,r4,r6,r7,r9⟩:=aa.z6 0 1 4 6 7 9;replace r2:=aa.B 2;replace r8:=aa.B 8;refine wp_cond_false e212 ?_;refine wp_skip ?_;refine wp_seq ?_;refine rg [_,_,_,_,_,_,_,_,_,_,_,_,_,_,_,_,_,_,_,_,_,_,_,_,_,_,_,_,_,_,_,_] [0,1,3,7,15,31,7,7,199,455,1023,2047,4095,8191,16383,4095,36863,102399,262143,524287,1048575,2097151,4194303,2097151,10485759,33554431,67108863,134217727,268435455,536870911,1073741823,2147483647] ab [jz 0 r0,jz 1 r1,jb r2,jz 4 r4,jz 6 r6,jz 7 r7,jb r8,jz 9 r9] ⟨ao e22,aq fun c=>ew rfl (c.q 0),bD 1,bm 2 rfl fun c hpc=>dh rfl bd aT ((c.p e20).trans r8.ptr),bm 2 rfl fun c hpc=>dh rfl cw aA (c.M 3 hpc),bm 2 rfl fun c hpc=>aI rfl aN (c.M 4 hpc) (by rw [add_add];exact (c.ib 8 rfl).cell (j:=0) rfl),bm 2 rfl fun c hpc=>aS rfl (c.p e15),bm 2 rfl fun c hpc=>aS rfl (c.p e19),bm 2 rfl fun c hpc=>aX rfl cE aA (c.M 6 hpc) (r4).1.sl (c.M 7 hpc) (by have hq0:=hpc;(try simp only [ar,am] at hq0);first | omega | (simp only [aP,aB,aH,cu,bk,bC,bP,bM,ByteArray.size,aF,ay,aC,aQ] at *;omega) | exact bE (da _ (bN (by omega) (by omega))) (by omega)) (by have hq0:=hpc;(try simp only [ar,am] at hq0);first | omega | (simp only [aP,aB,aH,cu,bk,bC,bP,bM,ByteArray.size,aF,ay,aC,aQ] at *;omega) | exact bE (da _ (bN (by omega) (by omega))) (by omega)),bm 2 rfl fun c hpc=>aI rfl aN (c.M 8 hpc) (((c.iz 4 rfl).1).elem (j:=0) (bF (i:=(k:Int)) (by have hq0:=hpc;(try simp only [ar,am] at hq0);first | omega | (simp only [aP,aB,aH,cu,bk,bC,bP,bM,ByteArray.size,aF,ay,aC,aQ] at *;omega) | exact bE (da _ (bN (by omega) (by omega))) (by omega)) (by have hq0:=hpc;(try simp only [ar,am] at hq0);first | omega | (simp only [aP,aB,aH,cu,bk,bC,bP,bM,ByteArray.size,aF,ay,aC,aQ] at *;omega) | exact bE (da _ (bN (by omega) (by omega))) (by omega))) rfl),bm 2 rfl fun c hpc=>cY rfl (c.M 5 hpc) (c.M 9 hpc),bm 2 rfl fun c hpc=>aS rfl (c.M 10 hpc),dj 11 true rfl fun c hpc=>dh rfl bd aT ((c.p e20).trans r8.ptr),dj 11 true rfl fun c hpc=>dh rfl cw aA (c.M 12 hpc),dj 11 true rfl fun c hpc=>aI rfl aN (c.M 13 hpc) (by rw [add_add];exact (c.ib 8 rfl).cell (j:=1) rfl),dj 11 true rfl fun c hpc=>dh rfl bd aT ((c.p e25).trans r2.ptr),dj 11 true rfl fun c hpc=>dh rfl cw aA (c.M 15 hpc),dj 11 true rfl fun c hpc=>aI rfl aN (c.M 16 hpc) (by rw [add_add];exact (c.ib 2 rfl).cell (j:=1) rfl),dj 11 true rfl fun c hpc=>cY rfl (c.M 14 hpc) (c.M 17 hpc),bm 2 rfl fun c hpc=>oK rfl (c.M 11 hpc) (fun h=>c.m 18 rfl (And.intro hpc h)),bm 2 rfl fun c hpc=>aS rfl (c.M 19 hpc),dj 20 true rfl fun c hpc=>dh rfl bd co ((c.p e20).trans r8.ptr),dj 20 true rfl fun c hpc=>aI rfl cG (c.M 21 hpc) ((c.B 8).cell (j:=2) rfl),dj 20 true rfl fun c hpc=>dh rfl bd co ((c.p e25).trans r2.ptr),dj 20 true rfl fun c hpc=>aI rfl cG (c.M 23 hpc) ((c.B 2).cell (j:=2) rfl),qR 20 true rfl fun c hpc=>⟨_,_,(ck rfl rfl kt (c.M 22 hpc) (c.M 24 hpc)),kX mv9_.v mv12_.v (bJ (dL t6_ fold s (nth (aO s) (k:Int)) 3000).1) (bJ (dL t1_ fold s (nth (aO s) ((k:Int)+(j:Int))) (3000 - (j:Int) - 1)).1) _ (c.iz 7 rfl).1 (c.iz 1 rfl).1⟩,bm 2 rfl fun c hpc=>oK rfl (c.M 20 hpc) (fun h=>c.m 25 rfl (And.intro hpc h)),dm 2 26,bD 27,fC 28 true rfl fun c hpc=>⟨_,_,(fN rfl rfl dN),fO _⟩,bZ 28 29,aK 30,av⟩ fun ac ag ae ab aa=> ?_;have e10:=aa.V 31;obtain ⟨r0,r1,r4,r6,r7,r9⟩:=aa.z6 0 1 4 6 7 9;refine wp_ret ?_;refine rp ?_;refine cO (fn:=Tryz.f10) rfl ab.defers e10 ?_;refine ⟨congrArg _ (congrArg _ ?_),ab.ext0⟩;exact Kw hB3_
end
end B
end Go.Proofs.YtcfdebjhikahfaaGreat
namespace Go.Proofs.YtcfdebjhikahfaaGreat
open Go.ChangeShapes Go.WideShapes Go.ChangeAt Go.RowKit
namespace B
theorem sK:ownKnob Tryz.prog.godebug=none:=by kernel_rfl
theorem kJ:laidOutB Tryz.prog=true:=by kernel_rfl
set_option maxRecDepth 100000 in
theorem sL (H:Type) (enc:TypeId × Value→H) (W:World) (base:Nat) (args:Array Value) (ds gs:List (DataW H)) (before:List MemPlace)
    (hval:∀(j:Nat) t v,Tryz.f10.params[j]? =some t→args[j]? =some v→Value.okWide Tryz.prog W .any base t v)
    (hW:DataW.Whole enc Tryz.prog Tryz.f10.params.toList Rows.runBehindSpec.vars false W args.toList ds gs before):
    Calls Tryz.prog 10 args W fun e W'=>∃v,e= .returned v∧Rows.runBehindSpec.post enc Tryz.prog Tryz.f10 false true false false W args v W':=by
  have hW':=hW;obtain ⟨p,q,hA0,hV,rfl,hfz,hnd⟩:=hW;have hA:DataW.TrodAll enc Tryz.prog W 0 (fun _=>true) true Tryz.f10.params.toList args.toList ds p:=hA0;rw [Tryz.params10] at hA hval;obtain ⟨v0,vs0,d0,ds0,p0,q0,hargs0,rfl,rfl,h0,r0⟩:=trodAll_cons hA;obtain ⟨v1,vs1,d1,ds1,p1,q1,hargs1,rfl,rfl,h1,r1⟩:=trodAll_cons r0;obtain ⟨v2,vs2,d2,ds2,p2,q2,hargs2,rfl,rfl,h2,r2⟩:=trodAll_cons r1;obtain ⟨v3,vs3,d3,ds3,p3,q3,hargs3,rfl,rfl,h3,r3⟩:=trodAll_cons r2;obtain ⟨v4,vs4,d4,ds4,p4,q4,hargs4,rfl,rfl,h4,r4⟩:=trodAll_cons r3;obtain ⟨rfl,rfl,rfl⟩:=trodAll_nil r4;subst hargs4;subst hargs3;subst hargs2;subst hargs1;obtain rfl:args=#[v0,v1,v2,v3,v4]:=by first | exact Array.ext' hargs0 | (cases args;simp_all)
  obtain ⟨x0,rfl,rfl,rfl,b0⟩:=Go.ChangeMaps.open_string aZ (hval 0 9 v0 rfl rfl) h0;obtain ⟨x1,rfl,rfl,rfl,b1⟩:=Go.ChangeMaps.open_string aZ (hval 1 9 v1 rfl rfl) h1;obtain ⟨x2,rfl,rfl,rfl⟩:=open_bool cT (hval 2 4 v2 rfl rfl) h2;obtain ⟨x3,rfl,rfl,rfl,b3⟩:=Go.ChangeMaps.open_string aZ (hval 3 9 v3 rfl rfl) h3;obtain ⟨x4,rfl,b4⟩:=jB bX (hval 4 3 v4 rfl rfl) h4;exact (Bi x0 x1 x2 x3 x4 W).mono fun e W' ⟨he,hx⟩=>⟨_,he,lU kJ hW' rfl (by kernel_rfl) rfl rfl cT hx⟩
set_option maxRecDepth 100000 in
theorem uJ (os:Os) (started:os.Started) (H:Type) (enc:TypeId × Value→H):
    ReturnsInHanded {} Tryz.checked os 10 .any (Rows.runBehindSpec.pre6 enc Tryz.prog Tryz.f10 Rows.runBehindRow.domain false) (Rows.runBehindSpec.post enc Tryz.prog Tryz.f10 false true false false):=by
  refine returnsInHanded_of_change (C:=Tryz.checked) sK started (by kernel_rfl) Tryz.func10
    (ChangeSpec.witness6 (enc:=enc) (C:=Tryz.checked) false ⟨#[],#[.string ⟨#[]⟩,.string ⟨#[]⟩,.bool false,.string ⟨#[]⟩,.int .i64 0],[]⟩ 8 (by kernel_rfl) (by kernel_rfl) (by kernel_rfl) (by kernel_rfl)) ?_
  intro W base args ds gs before hval hW _ _;exact sL H enc W base args ds gs before hval hW
theorem runBehind_holds:Rows.RunBehindSaid:=
  OpenClaim.holds_of_wide 10 Tryz.f10 rfl rfl rfl rfl rfl rfl rfl ⟨rfl,rfl,rfl,rfl,rfl⟩ rfl rfl rfl rfl rfl (by kernel_rfl) Tryz.func10 (by kernel_rfl)
    (of_decide_eq_true (by kernel_rfl)) (by unfold Func.isWrapper;first | (rw [if_pos (by decide+kernel)];kernel_rfl) | (rw [if_neg (by decide+kernel)];exact ⟨rfl,rfl⟩))
    (fun os started H enc _=>uJ os started H enc)
end B
end Go.Proofs.YtcfdebjhikahfaaGreat
