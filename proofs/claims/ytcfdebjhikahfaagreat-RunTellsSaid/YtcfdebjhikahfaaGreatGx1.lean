import Derived.WalkKit
import Derived.WalkSpells
import Derived.WalkLawsBesides
import Derived.Deep.Draws
import Derived.Lib.Slices
import Derived.Deep.Slices
import Derived.Lib.SliceRun
import Derived.Lib.AppendStr
import Derived.Lib.ConvBytes
import Derived.Laws.Strings
import Derived.Laws.IdiomStrings
import Derived.Test.YtcfdebjhikahfaaGreatChecked
import Derived.ProofKit
import Derived.WideKeyArgs
import Derived.OpenShut
set_option linter.unusedSimpArgs false
set_option linter.unusedVariables false
set_option linter.unusedSectionVars false
namespace Go.Proofs.YtcfdebjhikahfaaGreat
namespace B
section
open Go.RowKit
abbrev aW:=@Array.getD_eq_getD_getElem?
abbrev lg:=@Array.getElem?_append_left
abbrev lC:=@Array.getElem?_eq_getElem
abbrev kL:=@Array.getElem?_setIfInBounds
abbrev fl:=@Array.length_toList
abbrev aL:=@Bool.and_eq_false_iff
abbrev aw:=@Bool.and_eq_true
abbrev eZ:=@Bool.eq_iff_iff
abbrev ld:=@Bool.false_eq_true
abbrev gd:=@Bool.false_or
abbrev az:=@Bool.not_eq_false'
abbrev aQ:=@Bool.not_eq_true
abbrev aB:=@Bool.not_eq_true'
abbrev lc:=@Bool.not_false
abbrev kx:=@Bool.not_true
abbrev aG:=@Bool.or_eq_false_iff
abbrev aN:=@Bool.or_eq_true
abbrev lQ:=@Bool.or_false
abbrev fJ:=@Bool.true_and
abbrev lf:=@Int.fdiv_eq_ediv_of_nonneg
abbrev aX:=@Int.not_lt
abbrev iS:=@Int.toNat_natCast
abbrev dP:=@List.all_cons
abbrev cY:=@List.all_eq_true
abbrev fe:=@List.all_nil
abbrev fL:=@List.append_assoc
abbrev gT:=@List.append_nil
abbrev me:=@List.cons_append
abbrev mb:=@List.countP_cons
abbrev md:=@List.drop_append
abbrev dS:=@List.drop_eq_getElem_cons
abbrev dV:=@List.drop_of_length_le
abbrev li:=@List.drop_zero
abbrev bV:=@List.eq_nil_of_length_eq_zero
abbrev lh:=@List.getD_eq_getElem?_getD
abbrev jn:=@List.getElem?_append_left
abbrev iW:=@List.getElem?_append_right
abbrev jB:=@List.getElem?_drop
abbrev bE:=@List.getElem?_eq_getElem
abbrev kh:=@List.getElem?_eq_none
abbrev ge:=@List.getElem?_take_of_lt
abbrev iO:=@List.getElem?_toArray
abbrev mf:=@List.getElem_mem
abbrev kQ:=@List.getElem_of_mem
abbrev ci:=@List.length_append
abbrev bY:=@List.length_cons
abbrev es:=@List.length_drop
abbrev fR:=@List.length_map
abbrev cf:=@List.length_nil
abbrev dR:=@List.length_set
abbrev dE:=@List.length_take
abbrev bT:=@List.map_append
abbrev js:=@List.map_congr_left
abbrev bz:=@List.map_cons
abbrev mB:=@List.map_map
abbrev bU:=@List.map_nil
abbrev eu:=@List.map_toArray
abbrev gX:=@List.mem_of_getElem?
abbrev gu:=@List.nil_append
abbrev mc:=@List.range'_succ
abbrev iP:=@List.set_append_right
abbrev jT:=@List.size_toArray
abbrev gw:=@List.takeWhile_cons
abbrev jj:=@List.take_append
abbrev fV:=@List.take_append_drop
abbrev ix:=@List.take_append_of_le_length
abbrev kk:=@List.take_length
abbrev bF:=@List.take_of_length_le
abbrev jU:=@List.take_succ_eq_append_getElem
abbrev fS:=@Nat.add_mul
abbrev kS:=@Nat.add_zero
abbrev jH:=@Nat.le_mul_of_pos_right
abbrev av:=@Nat.le_of_ble_eq_true
abbrev br:=@Nat.le_refl
abbrev dH:=@Nat.le_trans
abbrev cR:=@Nat.lt_of_lt_of_le
abbrev gW:=@Nat.mul_le_mul_right
abbrev mC:=@Nat.sub_self
abbrev gV:=@Nat.zero_add
abbrev ee:=@Nat.zero_le
abbrev jV:=@Tryz.isAgg38
abbrev eX:=@Tryz.sizeOf116
abbrev dQ:=@Tryz.sizeOf22
abbrev bC:=@Tryz.sizeOf23
abbrev ak:=@Tryz.sizeOf25
abbrev au:=@Tryz.sizeOf3
abbrev bQ:=@Tryz.sizeOf38
abbrev dI:=@Tryz.sizeOf39
abbrev bh:=@Tryz.sizeOf4
abbrev bR:=@Tryz.sizeOf60
abbrev dX:=@Tryz.sizeOf62
abbrev fa:=@Tryz.sizeOf72
abbrev cy:=@Tryz.sizeOf74
abbrev aZ:=@Tryz.sizeOf9
abbrev aS:=@Tryz.underlying118
abbrev aq:=@Tryz.underlying25
abbrev ew:=@Tryz.underlying3
abbrev gq:=@Tryz.underlying38
abbrev bA:=@Tryz.underlying39
abbrev eP:=@Tryz.underlying41
abbrev lF:=@Tryz.underlying42
abbrev aY:=@Tryz.underlying68
abbrev aM:=@Tryz.underlying74
abbrev aH:=@Tryz.underlying76
abbrev bX:=@Tryz.underlying84
abbrev bB:=@Tryz.underlying89
abbrev fM:=@Tryz.underlying93
abbrev ah:=@decide_eq_false_iff_not
abbrev ai:=@decide_eq_true_eq
end
section
abbrev aj (x:Int):Value:= .int .i64 x
abbrev aR (x:ByteArray):Value:= .string x
abbrev aA (x:Bool):Value:= .bool x
theorem ax:True:=True.intro
open Go.RowKit
def aT (a:Act) (t:Nat):Value:=a.tmps.getD t undef
abbrev aP:=Nat→Prop
structure Ext (M:Nat→Prop) (w w':World):Prop where
  os:w'.os=w.os
  tape:w'.tape=w.tape
  output:w'.output=w.output
  size:w.heap.size≤w'.heap.size
  block:∀k,k < w.heap.size→¬M k→w'.heap[k]? =w.heap[k]?
def bc:Nat→Prop:=fun _=>False
theorem Ext.refl (M:Nat→Prop) (w:World):Ext M w w:=⟨rfl,rfl,rfl,br _,fun _ _ _=>rfl⟩
theorem Ext.trans {M:Nat→Prop} {a b c:World} (h:Ext M a b) (k:Ext M b c):Ext M a c:=
  ⟨k.os.trans h.os,k.tape.trans h.tape,k.output.trans h.output,dH h.size k.size,
    fun i hi hm=>(k.block i (cR hi h.size) hm).trans (h.block i hi hm)⟩
theorem Ext.mono {M M':Nat→Prop} {a b:World} (h:Ext M a b) (hm:∀k,k < a.heap.size→M k→M' k):Ext M' a b:=
  ⟨h.os,h.tape,h.output,h.size,fun i hi hn=>h.block i hi (fun hM=>hn (hm i hi hM))⟩
theorem Ext.drew {M:Nat→Prop} {a b:World} (h:Ext M a b):Ext M a b.drew:=⟨h.os,h.tape,h.output,h.size,h.block⟩
theorem Ext.alloc (M:Nat→Prop) (w:World) (o:Obj):Ext M w (w.alloc o):=
  ⟨rfl,rfl,rfl,by simp,fun k hk _=>by show (w.heap.push o)[k]? =_;rw [Array.getElem?_push,if_neg (by omega)]⟩
theorem Ext.cell {M:Nat→Prop} {w w':World} (h:Ext M w w') {p:Addr} (hp:p.block < w.heap.size) (hm:¬M p.block):w'.cell? p=w.cell? p:=
  World.cell?_of_block (w:=w) (h.block p.block hp hm)
theorem Ext.cell_some {M:Nat→Prop} {w w':World} (h:Ext M w w') {p:Addr} {v:Value} (hc:w.cell? p=some v) (hm:¬M p.block):w'.cell? p=some v:=
  (h.cell (World.block_lt_of_cell? w p hc) hm).trans hc
theorem Ext.below {w w':World} (h:Ext bc w w'):Below w.heap.size w w':=
  ⟨h.os,h.tape,h.output,h.size,fun k hk=>h.block k hk (fun x=>x)⟩
theorem dA (a:Act) (d t:Nat) (v:Value) (hd:d < a.tmps.size):aT (a.put (some d) v) t=if t=d then v else aT a t:=by
  unfold aT Act.put;simp only [aW,kL];by_cases h:d=t
  · subst h;simp [hd]
  · rw [if_neg h,if_neg (fun e=>h e.symm)]
theorem jX (a:Act) (t:Nat) (v:Value):aT (a.put none v) t=aT a t:=rfl
theorem uR (a:Act) (d:Option Nat) (v:Value):(a.put d v).tmps.size=a.tmps.size:=by
  cases d <;> simp [Act.put]
theorem qQ (a:Act) (d:Option Nat) (v:Value):(a.put d v).defers=a.defers:=by
  cases d <;> simp [Act.put]
theorem qR (a:Act) (t:Nat):a.eval (.tmp t)=aT a t:=rfl
structure Spec (N:aP) where
  tag:Option Nat
  slot:Nat
  R:aP→aP→Value→World→Prop
  loc:∀Z Z' T v w w',(∀g,Z g→Z' g)→Ext (fun g=>N g∧¬T g∧¬Z g) w w'→R Z T v w→R Z' T v w'
  pur:Value→Prop:=fun _=>True
  fit:∀Z T v w,R Z T v w→pur v:=by exact fun _ _ _ _ _=>trivial
structure Ini (N:aP) where
  I:aP→aP→World→Prop
  loc:∀Z Z' T w w',(∀g,Z g→Z' g)→Ext (fun g=>N g∧¬T g∧¬Z g) w w'→I Z T w→I Z' T w'
def Ini.any (N:aP):Ini N:=⟨fun _ _ _=>True,fun _ _ _ _ _ _ _ h=>h⟩
def ia9_ {N:aP}:Ini N:=Ini.any N
def fb (τ:Nat→aP) (w:World):aP:=fun g=>g < w.heap.size∧∀t,¬τ t g
def nn (τ:Nat→aP) (t0:Nat) (T':aP):Nat→aP:=fun t g=>if t=t0 then T' g else τ t g
theorem Ext.less {N T Z:aP} {w w':World} (h:Ext (fun g=>N g∧¬T g∧¬Z g) w w'):Ext (fun g=>N g∧¬T g) w w':=h.mono fun _ _ h=>⟨h.1,h.2.1⟩
section
variable {N:aP} {P:Program} (ops:Array Oper) (sp:List (Spec N)) (ini:Nat→Ini N) (a0:Act) (w0:World)
structure J (done:Nat→Bool) (a:Act) (w:World) (τ:Nat→aP):Prop where
  defers:a.defers=a0.defers
  size:a.tmps.size=a0.tmps.size
  un:∀t,(∀i o,ops[i]? =some o→o.dst=some t→done i=false)→aT a t=aT a0 t
  ext:Ext N w0 w
  big:∀k,w.heap.size≤k→N k
  disj:∀s t g,τ s g→τ t g→s=t
  bnd:∀t g,τ t g→N g∧g < w.heap.size
  det:∀(j:Nat) (s:Spec N),sp[j]? =some s→s.tag=none→done j=true→s.R (fb τ w) bc (aT a s.slot) w
  res:∀(j:Nat) (s:Spec N) (t:Nat),sp[j]? =some s→s.tag=some t→done j=true→(∀(k:Nat) (s':Spec N),sp[k]? =some s'→j < k→s'.tag=some t→done k=false)→s.R (fb τ w) (τ t) (aT a s.slot) w
  ini:∀t,(∀(k:Nat) (s':Spec N),sp[k]? =some s'→s'.tag=some t→done k=false)→(ini t).I (fb τ w) (τ t) w
  pur:∀(j:Nat) (s:Spec N),sp[j]? =some s→done j=true→s.pur (aT a s.slot)
def oB (s:Spec N) (a':Act) (τ:Nat→aP) (w w':World):Prop:=
  match s.tag with
  | none => Ext bc w w' ∧ s.R (fb τ w') bc (aT a' s.slot) w'
  | some t => Ext (τ t) w w' ∧ ∃ T' : aP, (∀ g, T' g → τ t g ∨ (w.heap.size ≤ g ∧ g < w'.heap.size)) ∧ s.R (fb (nn τ t T') w') T' (aT a' s.slot) w'
structure Cx (bf:List Nat) (j:Nat) (o:Oper) (done:Nat→Bool) (a:Act) (w:World) (τ:Nat→aP):Prop where
  J:J ops sp ini a0 w0 done a w τ
  hj:done j=false
  pre:∀i,(bf.getD j 0).testBit i=true→done i=true
  post:∀k,(bf.getD k 0).testBit j=true→done k=false
  lt:∀d,o.dst=some d→d < a.tmps.size
def Ob (P:Program) (bf:List Nat) (j:Nat) (o:Oper) (s:Spec N):Prop:=
  ∀done a w τ,Cx ops sp ini a0 w0 bf j o done a w τ→
    (Region.wanted o (yielded ops a.tmps)=true→o.wp P a w (fun a' w'=>∃v,a'=a.put o.dst v∧oB s a' τ w w') (fun _ _ _=>False))∧
    (Region.wanted o (yielded ops a.tmps)=false→oB s (a.put o.dst undef) τ w w)
def oC (P:Program) (bf:List Nat):Nat→List Oper→List (Spec N)→Prop
  | _, [], [] => True
  | j, o :: l, s :: r => Ob ops sp ini a0 w0 P bf j o s ∧ oC P bf (j + 1) l r
  | _, _, _ => False
def ni (ops:Array Oper) (n:Nat):Bool:=
  (List.range ops.size).all fun j=>match ops[j]? with
    | none => false
    | some o => o.after.all (fun e => !Region.binds .any e || e.on < j) &&
      (match o.dst with
       | none => true
       | some d => d < n && (List.range ops.size).all fun i => i == j || (match ops[i]? with | some o' => o'.dst != some d | none => true))
def qo (ops:Array Oper) (bf:List Nat):Bool:=
  bf.length==ops.size&&(List.range ops.size).all fun j=>decide (bf.getD j 0 < 2 ^ j)&&match ops[j]? with
    | none => false
    | some o => (List.range ops.size).all fun i => !(bf.getD j 0).testBit i || o.after.any fun e => Region.binds .any e && (e.on == i || (bf.getD e.on 0).testBit i)
def nw (ops:Array Oper) (bf:List Nat) (slots:List Nat) (tags:List (Option Nat)):Bool:=
  slots.length==ops.size&&tags.length==ops.size&&
  (List.range ops.size).all fun j=>(List.range ops.size).all fun k=>
    (k==j || (match ops[k]? with | some o=>o.dst !=some (slots.getD j 0) || (bf.getD j 0).testBit k | none=>true))&&
    (!(j < k) || (match tags.getD j none with | none=>true | some t=>tags.getD k none !=some t || (bf.getD k 0).testBit j))
def bH (tags:List (Option Nat)) (t:Nat):Nat→Option Nat
  | 0 => none
  | j + 1 => if tags.getD j none = some t then some j else bH tags t j
def jD (tags:List (Option Nat)) (bf:List Nat) (t j:Nat):Bool:=
  (List.range tags.length).all fun k=>tags.getD k none !=some t || k==j || (k < j&&(bf.getD j 0).testBit k) || (j < k&&(bf.getD k 0).testBit j)
theorem kU {tags:List (Option Nat)} {t:Nat}:∀{j i:Nat},bH tags t j=some i→i < j∧tags.getD i none=some t∧∀k,i < k→k < j→tags.getD k none≠some t
  | 0, i, h => by simp [bH] at h
  | j + 1, i, h => by
    unfold bH at h;split at h
    · rename_i ht;obtain rfl:j=i:=by simpa using h
      exact ⟨Nat.lt_succ_self _,ht,fun k h1 h2=>by omega⟩
    · rename_i ht;obtain ⟨h1,h2,h3⟩:=kU h;refine ⟨by omega,h2,fun k hk hk'=> ?_⟩;by_cases e:k=j
      · subst e;exact ht
      · exact h3 k hk (by omega)
theorem kV {tags:List (Option Nat)} {t:Nat}:∀{j:Nat},bH tags t j=none→∀k,k < j→tags.getD k none≠some t
  | 0, _, k, hk => by omega
  | j + 1, h, k, hk => by
    unfold bH at h;split at h
    · cases h
    · rename_i ht;by_cases e:k=j
      · subst e;exact ht
      · exact kV h k (by omega)
end
section
variable {N:aP} {P:Program} {ops:Array Oper} {sp:List (Spec N)} {ini:Nat→Ini N} {a0:Act} {w0:World} {done:Nat→Bool} {a:Act} {w:World} {τ:Nat→aP} {bf:List Nat} {j:Nat}
theorem ju {k:Nat} {s:Spec N} (h:sp[k]? =some s):(sp.map (·.tag)).getD k none=s.tag:=by
  simp [List.getD,h]
theorem pE {t:Nat} (h:jD (sp.map (·.tag)) bf t j=true) {k:Nat} {s:Spec N} (hs:sp[k]? =some s) (ht:s.tag=some t):
    k=j∨(k < j∧(bf.getD j 0).testBit k=true)∨(j < k∧(bf.getD k 0).testBit j=true):=by
  unfold jD at h;rw [cY] at h;have hk:k < sp.length:=(List.getElem?_eq_some_iff.1 hs).1
  have:=h k (by simpa using hk);rw [ju hs,ht] at this
  simp only [bne_self_eq_false,gd,aN,aw,ai,beq_iff_eq] at this
  rcases this with (h | h) | h
  · exact .inl h
  · exact .inr (.inl h)
  · exact .inr (.inr h)
theorem J.cur (hJ:J ops sp ini a0 w0 done a w τ) (hj:done j=false) (hpost:∀k,(bf.getD k 0).testBit j=true→done k=false) (hpre:∀i,(bf.getD j 0).testBit i=true→done i=true)
    (t i:Nat) (s:Spec N) (hi:bH (sp.map (·.tag)) t j=some i) (hord:jD (sp.map (·.tag)) bf t j=true) (hs:sp[i]? =some s):s.R (fb τ w) (τ t) (aT a s.slot) w:=by
  obtain ⟨h1,h2,h3⟩:=kU hi;have ht:s.tag=some t:=by rw [←ju hs];exact h2
  refine hJ.res i s t hs ht ?_ ?_
  · rcases pE hord hs ht with h | ⟨_,h⟩ | ⟨h,_⟩
    · omega
    · exact hpre _ h
    · omega
  · intro k s' hs' hk ht';rcases pE hord hs' ht' with h | ⟨h,_⟩ | ⟨_,h⟩
    · subst h;exact hj
    · exact absurd (by rw [ju hs'];exact ht') (h3 k hk h)
    · exact hpost _ h
theorem J.cur0 (hJ:J ops sp ini a0 w0 done a w τ) (hj:done j=false) (hpost:∀k,(bf.getD k 0).testBit j=true→done k=false)
    (t:Nat) (hi:bH (sp.map (·.tag)) t j=none) (hord:jD (sp.map (·.tag)) bf t j=true):(ini t).I (fb τ w) (τ t) w:=by
  refine hJ.ini t fun k s' hs' ht'=> ?_;rcases pE hord hs' ht' with h | ⟨h,_⟩ | ⟨_,h⟩
  · subst h;exact hj
  · exact absurd (by rw [ju hs'];exact ht') (kV hi k h)
  · exact hpost _ h
def xq (ops:Array Oper) (bf:List Nat) (j t:Nat):Bool:=
  (List.range ops.size).all fun k=>match ops[k]? with | some o=>o.dst !=some t || k==j || (bf.getD k 0).testBit j | none=>true
theorem J.old (hJ:J ops sp ini a0 w0 done a w τ) (hj:done j=false) (hpost:∀k,(bf.getD k 0).testBit j=true→done k=false) (t:Nat) (h:xq ops bf j t=true):aT a t=aT a0 t:=by
  refine hJ.un t fun i o hi hd=> ?_;unfold xq at h;rw [cY] at h;have:=h i (by simpa using (Array.getElem?_eq_some_iff.1 hi).1);simp only [hi,hd,bne_self_eq_false,gd,aN,beq_iff_eq] at this
  rcases this with h | h
  · subst h;exact hj
  · exact hpost _ h
end
section
variable {N:aP} {P:Program} {ops:Array Oper} {sp:List (Spec N)} {ini:Nat→Ini N} {a0:Act} {w0:World} {bf:List Nat} {n:Nat}
theorem iF (h:ni ops n=true) {j:Nat} {o:Oper} (ho:ops[j]? =some o):
    (∀e ∈ o.after,Region.binds .any e=true→e.on < j)∧∀d,o.dst=some d→d < n∧∀(i:Nat) (o':Oper),ops[i]? =some o'→i≠j→o'.dst≠some d:=by
  unfold ni at h;rw [cY] at h;have:=h j (by simpa using (Array.getElem?_eq_some_iff.1 ho).1);simp only [ho,aw,Array.all_eq_true_iff_forall_mem,aN,aB,ai] at this
  refine ⟨fun e he hb=>(this.1 e he).resolve_left (by simp [hb]),fun d hd=> ?_⟩;have h2:=this.2;simp only [hd,aw,ai,cY,List.mem_range,aN,beq_iff_eq] at h2;refine ⟨h2.1,fun i o' hi hne hd'=> ?_⟩;have:=h2.2 i (Array.getElem?_eq_some_iff.1 hi).1;simp [hi,hd',hne] at this
theorem sw (h:qo ops bf=true) {j i:Nat} (hb:(bf.getD j 0).testBit i=true):
    i < j∧j < ops.size∧∃o,ops[j]? =some o∧∃e ∈ o.after,Region.binds .any e=true∧(e.on=i∨(bf.getD e.on 0).testBit i=true):=by
  unfold qo at h;rw [aw,cY,beq_iff_eq] at h;have hj:j < ops.size:=by
    rw [←h.1];apply Nat.lt_of_not_le;intro hle;rw [List.getD,kh hle] at hb;simp at hb
  have:=h.2 j (by simpa using hj);rw [aw,ai] at this
  obtain ⟨hlt,this⟩:=this
  have hi:i < j:=by
    apply Nat.lt_of_not_le;intro hle;have:(bf.getD j 0).testBit i=false:=Nat.testBit_lt_two_pow (cR hlt (Nat.pow_le_pow_right (by omega) hle));rw [this] at hb;cases hb
  refine ⟨hi,hj,?_⟩;split at this
  · cases this
  · rename_i o ho;refine ⟨o,ho,?_⟩;rw [cY] at this
    have:=this i (by simp;omega)
    simp only [hb,kx,gd] at this
    rw [←Array.any_toList,List.any_eq_true] at this
    obtain ⟨e,he,h2⟩:=this
    simp only [aw,aN,beq_iff_eq] at h2;exact ⟨e,by simpa using he,h2⟩
theorem sx (h:nw ops bf (sp.map (·.slot)) (sp.map (·.tag))=true) {j k:Nat} {s:Spec N} (hj:j < ops.size) (hk:k < ops.size) (hs:sp[j]? =some s):
    (∀o,ops[k]? =some o→o.dst=some s.slot→k≠j→(bf.getD j 0).testBit k=true)∧
    (∀s' t,j < k→sp[k]? =some s'→s.tag=some t→s'.tag=some t→(bf.getD k 0).testBit j=true):=by
  unfold nw at h;rw [aw,cY] at h;have:=h.2 j (by simpa using hj);rw [cY] at this
  have:=this k (by simpa using hk)
  rw [aw] at this
  obtain ⟨h1,h2⟩:=this
  refine ⟨fun o ho hd hne=> ?_,fun s' t hlt hs' ht ht'=> ?_⟩
  · simpa [ho,hd,List.getD,hs,hne] using h1
  · rw [ju hs,ht] at h2;simp only [hlt,decide_true,kx,gd] at h2;rw [ju hs',ht'] at h2;simpa using h2
def oD (ops:Array Oper) (done:Nat→Bool):Prop:=∀(j:Nat) (o:Oper),ops[j]? =some o→done j=true→∀e ∈ o.after,Region.binds .any e=true→done e.on=true
theorem lR (hok:ni ops n=true) (hbf:qo ops bf=true) {done:Nat→Bool} (hc:oD ops done):
    ∀(m j:Nat),j≤m→(∀o,ops[j]? =some o→∀e ∈ o.after,Region.binds .any e=true→done e.on=true)→∀i,(bf.getD j 0).testBit i=true→done i=true:=by
  intro m;induction m with
  | zero =>
    intro j hj h i hb;have:=(sw hbf hb).1;omega
  | succ m ih =>
    intro j hj h i hb;obtain ⟨_,_,o,ho,e,he,hbi,h2⟩:=sw hbf hb;have hd:=h o ho e he hbi;rcases h2 with h2 | h2
    · rw [←h2];exact hd
    · have hlt:=(iF hok ho).1 e he hbi;exact ih e.on (by omega) (fun o' ho'=>hc e.on o' ho' hd) i h2
theorem J.step (hok:ni ops a0.tmps.size=true) (hbf:qo ops bf=true) (hsp:nw ops bf (sp.map (·.slot)) (sp.map (·.tag))=true)
    {done:Nat→Bool} {a:Act} {w w':World} {τ:Nat→aP} {j:Nat} {o:Oper} {s:Spec N} {v:Value}
    (hJ:J ops sp ini a0 w0 done a w τ) (hc:oD ops done) (hj:done j=false) (ho:ops[j]? =some o) (hs:sp[j]? =some s)
    (hstep:oB s (a.put o.dst v) τ w w'):∃τ',J ops sp ini a0 w0 (fun i=>i==j || done i) (a.put o.dst v) w' τ':=by
  have hjs:j < ops.size:=(Array.getElem?_eq_some_iff.1 ho).1
  have clos:∀i k,done i=true→(bf.getD i 0).testBit k=true→done k=true:=fun i k hd hb=>
    lR hok hbf hc i i (br _) (fun o' ho'=>hc i o' ho' hd) k hb
  -- a place of another operation is not written
  have keep:∀i s',sp[i]? =some s'→i < ops.size→done i=true→aT (a.put o.dst v) s'.slot=aT a s'.slot:=by
    intro i s' hs' hi hd;cases hdst:o.dst with
    | none => rfl
    | some d =>
      have hlt:=((iF hok ho).2 d hdst).1;rw [dA a d s'.slot v (by rw [hJ.size];exact hlt)];rw [if_neg];intro e;have:=(sx hsp hi hjs hs').1 o ho (by rw [hdst,e]) (fun e'=>by rw [e',hd] at hj;cases hj);rw [clos i j hd this] at hj;cases hj
  have hlen:sp.length=ops.size:=by
    unfold nw at hsp;simp only [aw,fR,beq_iff_eq] at hsp;exact hsp.1.1
  have spl:∀i s',sp[i]? =some s'→i < ops.size:=fun i s' h=>by
    rw [←hlen];exact (List.getElem?_eq_some_iff.1 h).1
  have un':∀t,(∀i o',ops[i]? =some o'→o'.dst=some t→(i==j || done i)=false)→aT (a.put o.dst v) t=aT a0 t:=by
    intro t ht;have hne:o.dst≠some t:=fun e=>by have:=ht j o ho e;simp at this
    rw [←hJ.un t (fun i o' hi hd=>by have:=ht i o' hi hd;simp at this;exact this.2)];cases hdst:o.dst with
    | none => rfl
    | some d =>
      have hlt:=((iF hok ho).2 d hdst).1;rw [dA a d t v (by rw [hJ.size];exact hlt),if_neg (fun e=>hne (by rw [hdst,e]))]
  have dn:∀k,(k==j || done k)=false→done k=false:=fun k h=>by simp at h;exact h.2
  have purR:(True→s.pur (aT (a.put o.dst v) s.slot))→∀(i:Nat) (s':Spec N),sp[i]? =some s'→(i==j || done i)=true→s'.pur (aT (a.put o.dst v) s'.slot):=by
    intro hp i s' hs' hd;by_cases e:i=j
    · subst e;rw [hs] at hs';cases hs'
      exact hp trivial
    · have hd':done i=true:=by simpa [e] using hd
      rw [keep i s' hs' (spl i s' hs') hd'];exact hJ.pur i s' hs' hd'
  unfold oB at hstep;cases htag:s.tag with
  | none =>
    rw [htag] at hstep;obtain ⟨he,hR⟩:=hstep;have hzz:∀g,fb τ w g→fb τ w' g:=fun g h=>⟨cR h.1 he.size,h.2⟩;refine ⟨τ,(qQ _ _ _).trans hJ.defers,(uR _ _ _).trans hJ.size,un',hJ.ext.trans (he.mono fun _ _ h=>h.elim),fun k hk=>hJ.big k (dH he.size hk),hJ.disj,
      fun t g h=>⟨(hJ.bnd t g h).1,cR (hJ.bnd t g h).2 he.size⟩,?_,?_,?_,purR (fun T=>s.fit _ _ _ _ hR)⟩
    · intro i s' hs' ht' hd;by_cases e:i=j
      · subst e;rw [hs] at hs';cases hs'
        exact hR
      · have hd':done i=true:=by simpa [e] using hd
        rw [keep i s' hs' (spl i s' hs') hd'];exact s'.loc _ _ _ _ _ _ hzz (he.mono fun _ _ h=>h.elim) (hJ.det i s' hs' ht' hd')
    · intro i s' t hs' ht' hd hcur;have e:i≠j:=fun e=>by subst e;rw [hs] at hs';cases hs';rw [htag] at ht';cases ht'
      have hd':done i=true:=by simpa [e] using hd
      rw [keep i s' hs' (spl i s' hs') hd'];exact s'.loc _ _ _ _ _ _ hzz (he.mono fun _ _ h=>h.elim) (hJ.res i s' t hs' ht' hd' (fun k s'' hk hlt hkt=>dn k (hcur k s'' hk hlt hkt)))
    · intro t hcur;exact (ini t).loc _ _ _ _ _ hzz (he.mono fun _ _ h=>h.elim) (hJ.ini t (fun k s' hk hkt=>dn k (hcur k s' hk hkt)))
  | some t0 =>
    rw [htag] at hstep;obtain ⟨he,T',hT',hR⟩:=hstep;have stab:∀t,t≠t0→Ext (fun g=>N g∧¬τ t g∧¬fb τ w g) w w':=fun t hne=>he.mono fun k _ h=>⟨(hJ.bnd t0 k h).1,fun h'=>hne (hJ.disj t t0 k h' h),fun hz=>hz.2 t0 h⟩;have hzz:∀g,fb τ w g→fb (nn τ t0 T') w' g:=fun g h=>⟨cR h.1 he.size,fun t ht=>by
      unfold nn at ht;split at ht
      · rcases hT' g ht with h' | h'
        · exact h.2 t0 h'
        · have:=h.1;omega
      · exact h.2 t ht⟩
    refine ⟨nn τ t0 T',(qQ _ _ _).trans hJ.defers,(uR _ _ _).trans hJ.size,un',hJ.ext.trans (he.mono fun k _ h=>(hJ.bnd t0 k h).1),fun k hk=>hJ.big k (dH he.size hk),?_,?_,?_,?_,?_,purR (fun T=>s.fit _ _ _ _ hR)⟩
    · intro s1 s2 g h1 h2;by_cases e1:s1=t0 <;> by_cases e2:s2=t0
      · rw [e1,e2]
      · simp only [nn,e1,e2,if_true,if_false] at h1 h2;rcases hT' g h1 with h | h
        · rw [e1];exact hJ.disj t0 s2 g h h2
        · have:=(hJ.bnd s2 g h2).2;omega
      · simp only [nn,e1,e2,if_true,if_false] at h1 h2;rcases hT' g h2 with h | h
        · rw [e2];exact hJ.disj s1 t0 g h1 h
        · have:=(hJ.bnd s1 g h1).2;omega
      · simp only [nn,e1,e2,if_false] at h1 h2;exact hJ.disj s1 s2 g h1 h2
    · intro t g h;by_cases e:t=t0
      · simp only [nn,e,if_true] at h;rcases hT' g h with h | h
        · exact ⟨(hJ.bnd t0 g h).1,cR (hJ.bnd t0 g h).2 he.size⟩
        · exact ⟨hJ.big g h.1,h.2⟩
      · simp only [nn,e,if_false] at h;exact ⟨(hJ.bnd t g h).1,cR (hJ.bnd t g h).2 he.size⟩
    · intro i s' hs' ht' hd;have e:i≠j:=fun e=>by subst e;rw [hs] at hs';cases hs';rw [htag] at ht';cases ht'
      have hd':done i=true:=by simpa [e] using hd
      rw [keep i s' hs' (spl i s' hs') hd'];exact s'.loc _ _ _ _ _ _ hzz (he.mono fun k _ h=>⟨(hJ.bnd t0 k h).1,fun x=>x,fun hz=>hz.2 t0 h⟩) (hJ.det i s' hs' ht' hd')
    · intro i s' t hs' ht' hd hcur;by_cases e:i=j
      · subst e;rw [hs] at hs';cases hs'
        rw [htag] at ht';cases ht'
        have e1:nn τ t0 T' t0=T':=by funext g;simp [nn]
        rw [e1];exact hR
      · have hd':done i=true:=by simpa [e] using hd
        have hne:t≠t0:=by
          intro et;subst et;rcases Nat.lt_trichotomy i j with h | h | h
          · have:=hcur j s hs h htag;simp at this
          · exact e h
          · have:=(sx hsp hjs (spl i s' hs') hs).2 s' t h hs' htag ht';rw [clos i j hd' this] at hj;cases hj
        rw [keep i s' hs' (spl i s' hs') hd'];have e1:nn τ t0 T' t=τ t:=by funext g;simp [nn,hne]
        rw [e1];exact s'.loc _ _ _ _ _ _ hzz (stab t hne) (hJ.res i s' t hs' ht' hd' (fun k s'' hk hlt hkt=>dn k (hcur k s'' hk hlt hkt)))
    · intro t hcur;have hne:t≠t0:=fun et=>by have:=hcur j s hs (by rw [htag,et]);simp at this
      have e1:nn τ t0 T' t=τ t:=by funext g;simp [nn,hne]
      rw [e1];exact (ini t).loc _ _ _ _ _ hzz (stab t hne) (hJ.ini t (fun k s' hk hkt=>dn k (hcur k s' hk hkt)))
theorem yB {o:Oper} {a:Act} {w:World} {K K':Act→World→Prop} {Q:Exit→Act→World→Prop} (h:∀a w,K a w→K' a w)
    (hh:o.wp P a w K (fun _ _ _=>False)):o.wp P a w K' Q:=by
  unfold Oper.wp at *;generalize (execOp a.eval o).run P w=r at *;cases r with
  | ok n w' =>
    cases n <;> simp only [Oper.upon] at hh ⊢ <;>
      first
        | exact h _ _ hh
        | exact Calls.mono hh (fun e w'' he => by
            cases e with
            | returned v => exact h _ _ he
            | panicked c => exact he.elim
            | outgrown => obtain ⟨_, _, h'⟩ := he; exact h'.elim)
        | exact Rows.mono hh (fun _ _ he => h _ _ he)
  | halt x w' => cases x <;> simp only [Oper.upon] at hh
theorem qS (hok:ni ops a0.tmps.size=true) (hbf:qo ops bf=true) (hsp:nw ops bf (sp.map (·.slot)) (sp.map (·.tag))=true)
    {Q:Exit→Act→World→Prop} {done:Nat→Bool} {a:Act} {w:World} {τ:Nat→aP} {j:Nat} {o:Oper} {s:Spec N} {K:Act→World→Prop}
    (hJ:J ops sp ini a0 w0 done a w τ) (hc:oD ops done) (hj:done j=false) (ho:ops[j]? =some o) (hs:sp[j]? =some s)
    (hpre:∀e ∈ o.after,Region.binds .any e=true→done e.on=true) (hob:Ob ops sp ini a0 w0 P bf j o s)
    (hK:∀a' w' τ',J ops sp ini a0 w0 (fun i=>i==j || done i) a' w' τ'→K a' w'):wpOp P ops Q j K a w:=by
  have p1:∀i,(bf.getD j 0).testBit i=true→done i=true:=lR hok hbf hc j j (br _) (fun o' ho'=>by rw [ho] at ho';cases ho';exact hpre);have p2:∀k,(bf.getD k 0).testBit j=true→done k=false:=fun k hb=>by
    cases hd:done k with
    | false => rfl
    | true =>
      have:=lR hok hbf hc k k (br _) (fun o' ho'=>hc k o' ho' hd) j hb;rw [hj] at this;cases this
  obtain ⟨h1,h2⟩:=hob done a w τ ⟨hJ,hj,p1,p2,fun d hd=>by rw [hJ.size];exact ((iF hok ho).2 d hd).1⟩;unfold wpOp;rw [ho];simp only [];by_cases hw:Region.wanted o (yielded ops a.tmps)=true
  · rw [if_pos hw];refine .inl (yB (fun a' w' hh=> ?_) (h1 hw));obtain ⟨v,rfl,hstep⟩:=hh;obtain ⟨τ',hJ'⟩:=hJ.step hok hbf hsp hc hj ho hs hstep;exact hK _ _ _ hJ'
  · rw [if_neg hw];obtain ⟨τ',hJ'⟩:=hJ.step hok hbf hsp hc hj ho hs (h2 (by simpa using hw));exact hK _ _ _ hJ'
theorem oE:∀{l:List Oper} {r:List (Spec N)} {k:Nat},oC ops sp ini a0 w0 P bf k l r→∀(i:Nat) (o:Oper) (s:Spec N),l[i]? =some o→r[i]? =some s→Ob ops sp ini a0 w0 P bf (k+i) o s
  | [], [], _, _, i, o, s, ho, _ => by simp at ho
  | o' :: l, s' :: r, k, h, 0, o, s, ho, hs => by
    simp at ho hs;subst ho;subst hs;exact h.1
  | o' :: l, s' :: r, k, h, i + 1, o, s, ho, hs => by
    have:=oE h.2 i o s (by simpa using ho) (by simpa using hs);rwa [show k+(i+1)=k+1+i by omega]
theorem wl {done:Nat→Bool} {j:Nat} {o:Oper} (hc:oD ops done) (ho:ops[j]? =some o) (hpre:∀e ∈ o.after,Region.binds .any e=true→done e.on=true):oD ops (fun i=>i==j || done i):=by
  intro i o' hi hd e he hb;show (e.on==j || done e.on)=true;by_cases h:i=j
  · subst h;rw [ho] at hi;cases hi
    simp [hpre e he hb]
  · have:done i=true:=by simpa [h] using hd
    simp [hc i o' hi this e he hb]
theorem Gf (hok:ni ops a0.tmps.size=true) (hbf:qo ops bf=true) (hsp:nw ops bf (sp.map (·.slot)) (sp.map (·.tag))=true)
    {Q:Exit→Act→World→Prop} (obs:∀(j:Nat) (o:Oper) (s:Spec N),ops[j]? =some o→sp[j]? =some s→Ob ops sp ini a0 w0 P bf j o s)
    (fin:∀a w τ,J ops sp ini a0 w0 (fun _=>true) a w τ→Q .normal a w):∀(fuel:Nat) (listed:Array Bool) (a:Act) (w:World) (τ:Nat→aP),
      (List.range ops.size).countP (fun i=> !listed.getD i true)≤fuel→listed.size=ops.size→J ops sp ini a0 w0 (fun i=>listed.getD i true) a w τ→oD ops (fun i=>listed.getD i true)→wpAny P .any ops Q fuel listed a w:=by
  have hlen:sp.length=ops.size:=by
    unfold nw at hsp;simp only [aw,fR,beq_iff_eq] at hsp;exact hsp.1.1
  have allDone:∀(listed:Array Bool),listed.size=ops.size→Region.ready .any ops listed=[]→∀m i,i≤m→listed.getD i true=true:=by
    intro listed hsz hr m;induction m with
    | zero =>
      intro i hi;by_cases hlt:i < ops.size
      · cases hg:listed.getD i true with
        | true => rfl
        | false =>
          exfalso;have:i ∈ Region.ready .any ops listed:=mem_ready.2 ⟨hg,ops[i],by simp [hlt],fun e he hb=>by
            have:=(iF hok (j:=i) (o:=ops[i]) (by simp [hlt])).1 e he hb;omega⟩
          rw [hr] at this;cases this
      · simp [aW,Array.getElem?_eq_none (show listed.size≤i by omega)]
    | succ m ih =>
      intro i hi;by_cases hlt:i < ops.size
      · cases hg:listed.getD i true with
        | true => rfl
        | false =>
          exfalso;have:i ∈ Region.ready .any ops listed:=mem_ready.2 ⟨hg,ops[i],by simp [hlt],fun e he hb=>by
            have h1:=(iF hok (j:=i) (o:=ops[i]) (by simp [hlt])).1 e he hb;have h2:=ih e.on (by omega);rw [aW] at h2 ⊢;have h3:e.on < listed.size:=by omega
            simpa [lC h3] using h2⟩
          rw [hr] at this;cases this
      · simp [aW,Array.getElem?_eq_none (show listed.size≤i by omega)]
  have finish:∀(listed:Array Bool) (a:Act) (w:World) (τ:Nat→aP),listed.size=ops.size→Region.ready .any ops listed=[]→J ops sp ini a0 w0 (fun i=>listed.getD i true) a w τ→Q .normal a w:=by
    intro listed a w τ hsz hr hJ;refine fin a w τ ?_;rwa [show (fun i=>listed.getD i true)=(fun _=>true) from funext fun i=>allDone listed hsz hr i i (br _)] at hJ
  intro fuel;induction fuel with
  | zero =>
    intro listed a w τ hcount hsz hJ hc;have hr:Region.ready .any ops listed=[]:=by
      cases hrr:Region.ready .any ops listed with
      | nil => rfl
      | cons x xs =>
        exfalso;have hx:x ∈ Region.ready .any ops listed:=by rw [hrr];exact List.mem_cons_self
        obtain ⟨h1,o,ho,_⟩:=mem_ready.1 hx;have hpos:0 < (List.range ops.size).countP (fun i=> !listed.getD i true):=
          List.countP_pos_iff.2 ⟨x,by simpa using (Array.getElem?_eq_some_iff.1 ho).1,by simp only [h1,lc]⟩
        omega
    exact ⟨hr,finish listed a w τ hsz hr hJ⟩
  | succ fuel ih =>
    intro listed a w τ hcount hsz hJ hc;refine ⟨fun hr=>finish listed a w τ hsz hr hJ,fun j hjr=> ?_⟩;obtain ⟨hj,o,ho,hpre⟩:=mem_ready.1 hjr;have hjs:j < ops.size:=(Array.getElem?_eq_some_iff.1 ho).1
    have hpre':∀e ∈ o.after,Region.binds .any e=true→listed.getD e.on true=true:=fun e he hb=>by
      have h1:=hpre e he hb;have h2:=(iF hok ho).1 e he hb;rw [aW] at h1 ⊢;have h3:e.on < listed.size:=by omega
      simpa [lC h3] using h1
    have hset:(fun i=>(listed.setIfInBounds j true).getD i true)=(fun i=>i==j || listed.getD i true):=by
      funext i;simp only [aW,kL];by_cases h:j=i
      · subst h;simp [hsz,hjs]
      · have:(i==j)=false:=by simp;exact fun e=>h e.symm
        simp [h,this]
    refine qS hok hbf hsp hJ hc hj ho (s:=sp[j]'(by omega)) (by simp [hlen,hjs]) hpre' (obs j o _ ho (by simp [hlen,hjs])) ?_;intro a' w' τ' hJ';refine ih _ a' w' τ' ?_ (by simpa using hsz) (by rw [hset];exact hJ') (by rw [hset];exact wl hc ho hpre');have hlt:(List.range ops.size).countP (fun i=> !(listed.setIfInBounds j true).getD i true) < (List.range ops.size).countP (fun i=> !listed.getD i true):=by
      have e1:(fun i=> !(listed.setIfInBounds j true).getD i true)=(fun i=> !(i==j || listed.getD i true)):=by
        funext i;rw [congrFun hset i]
      rw [e1];have hjm:j ∈ List.range ops.size:=by simpa using hjs
      generalize List.range ops.size=l at hjm;clear hcount ih;induction l with
      | nil => cases hjm
      | cons x l ihl =>
        simp only [mb];have hle:l.countP (fun i=> !(i==j || listed.getD i true))≤l.countP (fun i=> !listed.getD i true):=
          List.countP_mono_left fun y _ hy=>by
            simp only [aB,aG] at hy ⊢;exact hy.2
        by_cases hx:x=j
        · subst hx;simp only [beq_self_eq_true,Bool.true_or,kx,hj,lc,if_true];simp only [ld,if_false];omega
        · have hjl:j ∈ l:=by
            rcases List.mem_cons.1 hjm with h | h
            · exact absurd h.symm hx
            · exact h
          have:=ihl hjl;have hb:(x==j)=false:=by simp [hx]
          simp only [hb,gd];split <;> omega
    omega
theorem xr (hok:ni ops a0.tmps.size=true) (hbf:qo ops bf=true) (hsp:nw ops bf (sp.map (·.slot)) (sp.map (·.tag))=true)
    {Q:Exit→Act→World→Prop} (obs:∀(j:Nat) (o:Oper) (s:Spec N),ops[j]? =some o→sp[j]? =some s→Ob ops sp ini a0 w0 P bf j o s)
    (fin:∀a w τ,J ops sp ini a0 w0 (fun i=>decide (i < ops.size)) a w τ→Q .normal a w):∀(m k:Nat) (a:Act) (w:World) (τ:Nat→aP),m+k=ops.size→J ops sp ini a0 w0 (fun i=>decide (i < k)) a w τ→wpOps P ops Q (List.range' k m) a w:=by
  have hlen:sp.length=ops.size:=by
    unfold nw at hsp;simp only [aw,fR,beq_iff_eq] at hsp;exact hsp.1.1
  intro m;induction m with
  | zero =>
    intro k a w τ hk hJ;simp only [List.range'_zero,wpOps];exact fin a w τ (by rwa [show ops.size=k by omega])
  | succ m ih =>
    intro k a w τ hk hJ;have hks:k < ops.size:=by omega
    rw [mc,wpOps_cons];have ho:ops[k]? =some ops[k]:=by simp [hks]
    have hpre:∀e ∈ ops[k].after,Region.binds .any e=true→decide (e.on < k)=true:=fun e he hb=>by simpa using (iF hok ho).1 e he hb
    have hc:oD ops (fun i=>decide (i < k)):=fun i o' hi hd e he hb=>by
      have:=(iF hok hi).1 e he hb;simp only [ai] at hd ⊢;omega
    refine qS hok hbf hsp hJ hc (by simp) ho (s:=sp[k]'(by omega)) (by simp [hlen,hks]) hpre (obs k _ _ ho (by simp [hlen,hks])) ?_;intro a' w' τ' hJ';refine ih (k+1) a' w' τ' (by omega) ?_;rwa [show (fun i=>decide (i < k+1))=(fun i=>i==k || decide (i < k)) from funext fun i=>by
      rw [eZ];simp;omega]
theorem J.start {τ:Nat→aP} (hb:∀k,w0.heap.size≤k→N k) (hdis:∀s t g,τ s g→τ t g→s=t) (hbnd:∀t g,τ t g→N g∧g < w0.heap.size)
    (hini:∀t,(ini t).I (fb τ w0) (τ t) w0) {w:World} (hw:w=w0∨w=w0.drew) {done:Nat→Bool} (hd:∀i,i < sp.length→done i=false):J ops sp ini a0 w0 done a0 w τ:=by
  have hx:Ext N w0 w0:=Ext.refl _ _;have no:∀(j:Nat) (s:Spec N),sp[j]? =some s→done j=true→False:=fun j s hs hd'=>by
    rw [hd j (List.getElem?_eq_some_iff.1 hs).1] at hd';cases hd'
  rcases hw with rfl | rfl
  · exact ⟨rfl,rfl,fun _ _=>rfl,hx,hb,hdis,hbnd,fun j s hs _ h=>(no j s hs h).elim,fun j s _ hs _ h=>(no j s hs h).elim,fun t _=>hini t,fun j s hs h=>(no j s hs h).elim⟩
  · exact ⟨rfl,rfl,fun _ _=>rfl,hx.drew,hb,hdis,hbnd,fun j s hs _ h=>(no j s hs h).elim,fun j s _ hs _ h=>(no j s hs h).elim,fun t _=>(ini t).loc _ _ _ _ _ (fun _ h=>h) (Ext.refl _ _).drew (hini t),fun j s hs h=>(no j s hs h).elim⟩
end
section
variable {N:aP} {P:Program} {l:List Oper} {sp:List (Spec N)} {ini:Nat→Ini N} {a0:Act} {w0:World} {bf:List Nat}
theorem zQ {id:Nat} {draw:Bool} (hm:P.follows .mixedOrders=true) (hok:(ni l.toArray a0.tmps.size&&qo l.toArray bf&&nw l.toArray bf (sp.map (·.slot)) (sp.map (·.tag)))=true)
    {Q:Exit→Act→World→Prop} {τ:Nat→aP} (hb:∀k,w0.heap.size≤k→N k) (hdis:∀s t g,τ s g→τ t g→s=t) (hbnd:∀t g,τ t g→N g∧g < w0.heap.size) (hini:∀t,(ini t).I (fb τ w0) (τ t) w0)
    (obs:oC l.toArray sp ini a0 w0 P bf 0 l sp)
    (fin:∀done a w τ,(∀i,i < l.length→done i=true)→J l.toArray sp ini a0 w0 done a w τ→Q .normal a w):(Code.region id l.toArray draw).wp P Q a0 w0:=by
  rw [aw,aw] at hok;obtain ⟨⟨h1,h2⟩,h3⟩:=hok;have obs':∀(j:Nat) (o:Oper) (s:Spec N),l.toArray[j]? =some o→sp[j]? =some s→Ob l.toArray sp ini a0 w0 P bf j o s:=fun j o s ho hs=>by
    have:=oE obs j o s (by simpa using ho) hs;rwa [gV] at this
  cases draw with
  | true =>
    refine wp_region_any hm ?_;refine Gf h1 h2 h3 obs' (fun a w τ hJ=>fin _ a w τ (fun _ _=>rfl) hJ) l.toArray.size _ a0 _ τ ?_ (by simp) ?_ ?_
    · have:=List.countP_le_length (p:=fun i=> !(Array.replicate l.toArray.size false).getD i true) (l:=List.range l.toArray.size);simpa using this
    · refine J.start hb hdis hbnd hini (.inr rfl) fun i hi=> ?_;unfold nw at h3;simp only [aw,fR,beq_iff_eq] at h3;have:i < l.length:=by have:=h3.1.1;simp at this;omega
      simp [aW,this]
    · intro j o ho hd;have hlt:j < l.length:=by simpa using (Array.getElem?_eq_some_iff.1 ho).1
      simp [aW,hlt] at hd
  | false =>
    refine wp_region ?_;rw [List.range_eq_range'];refine xr h1 h2 h3 obs' (fun a w τ hJ=>fin _ a w τ (fun i hi=>by simpa using hi) hJ) l.toArray.size 0 a0 w0 τ rfl ?_;exact J.start hb hdis hbnd hini (.inl rfl) fun i _=>by simp
end
end
section
open Go.RowKit
def cp (P:Program) (a:Act) (o:Oper) (w:World) (v:Value):Prop:=(execOp a.eval o).run P w= .ok (.value v) w
def cW:Value→Addr
  | .slice (some a) _ _ => a
  | .pointer (some a) => a
  | _ => ⟨0, 0, none⟩
def mG (v:Value) (n:Nat):Prop:=(v= .slice none 0 0∧n=0)∨∃b cap,v= .slice (some b) n cap∧n≤cap∧cap≤maxLen
section
variable {P:Program} {a:Act} {o:Oper} {w:World}
theorem aJ {x:Operand} {v:Value} (ho:o.op= .move x) (h:a.eval x=v):cp P a o w v:=by
  subst h;simp [cp,execOp,ho]
theorem ar {x:Operand} {v:Value} (ho:o.op= .assign x) (h:a.eval x=v):cp P a o w v:=by
  subst h;simp [cp,execOp,ho]
theorem ej {c x y:Operand} {b:Bool} {v:Value} (ho:o.op= .pick c x y) (hc:a.eval c= .bool b) (h1:b=true→a.eval x=v) (h2:b=false→a.eval y=v):cp P a o w v:=by
  cases b
  · simp [cp,execOp,ho,hc,asBool,h2]
  · simp [cp,execOp,ho,hc,asBool,h1]
theorem lG {c x:Operand} {b b':Bool} (ho:o.op= .pick c x (.const (.bool false))) (hc:a.eval c= .bool b) (h1:b=true→a.eval x= .bool b'):cp P a o w (.bool (b&&b')):=
  ej ho hc (fun h=>by rw [h1 h,h,fJ]) (fun h=>by rw [h,Bool.false_and];rfl)
theorem pF {c x:Operand} {b b':Bool} (ho:o.op= .pick c (.const (.bool true)) x) (hc:a.eval c= .bool b) (h1:b=false→a.eval x= .bool b'):cp P a o w (.bool (b || b')):=
  ej ho hc (fun h=>by rw [h,Bool.true_or];rfl) (fun h=>by rw [h1 h,h,gd])
section ints
variable {t t':TypeId} {x y:Operand} {k:IntKind} {p q:Int}
theorem dh (ho:o.op= .binOp .lss t x y t') (hx:a.eval x= .int k p) (hy:a.eval y= .int k q):cp P a o w (.bool (decide (p < q))):=by
  simp [cp,execOp,ho,hx,hy,eqGuard,binOp,Op.intCmp]
theorem ki (ho:o.op= .binOp .leq t x y t') (hx:a.eval x= .int k p) (hy:a.eval y= .int k q):cp P a o w (.bool (decide (p≤q))):=by
  simp [cp,execOp,ho,hx,hy,eqGuard,binOp,Op.intCmp]
theorem jp (ho:o.op= .binOp .gtr t x y t') (hx:a.eval x= .int k p) (hy:a.eval y= .int k q):cp P a o w (.bool (decide (q < p))):=by
  simp [cp,execOp,ho,hx,hy,eqGuard,binOp,Op.intCmp]
theorem fW (ho:o.op= .binOp .geq t x y t') (hx:a.eval x= .int k p) (hy:a.eval y= .int k q):cp P a o w (.bool (decide (q≤p))):=by
  simp [cp,execOp,ho,hx,hy,eqGuard,binOp,Op.intCmp]
theorem bW (ho:o.op= .binOp .eql t x y t') (hx:a.eval x= .int k p) (hy:a.eval y= .int k q):cp P a o w (.bool (decide (p=q))):=by
  have:(p==q)=decide (p=q):=rfl;simp [cp,execOp,ho,hx,hy,eqGuard,binOp,Op.intCmp,this]
theorem kF (ho:o.op= .binOp .neq t x y t') (hx:a.eval x= .int k p) (hy:a.eval y= .int k q):cp P a o w (.bool (!decide (p=q))):=by
  have:(p !=q)= !decide (p=q):=rfl;simp [cp,execOp,ho,hx,hy,eqGuard,binOp,Op.intCmp,this]
theorem cV (ho:o.op= .binOp .add t x y t') (hx:a.eval x= .int .i64 p) (hy:a.eval y= .int .i64 q) (hb: -9223372036854775808≤p+q∧p+q≤9223372036854775807):cp P a o w (.int .i64 (p+q)):=by
  simp [cp,execOp,ho,hx,hy,eqGuard,binOp,Op.intArith];rw [IntWalk.i64_in _ hb]
theorem iA (ho:o.op= .binOp .sub t x y t') (hx:a.eval x= .int .i64 p) (hy:a.eval y= .int .i64 q) (hb: -9223372036854775808≤p - q∧p - q≤9223372036854775807):cp P a o w (.int .i64 (p - q)):=by
  simp [cp,execOp,ho,hx,hy,eqGuard,binOp,Op.intArith];rw [IntWalk.i64_in _ hb]
theorem Gg (ho:o.op= .binOp .mul t x y t') (hx:a.eval x= .int .i64 p) (hy:a.eval y= .int .i64 q) (hb: -9223372036854775808≤p * q∧p * q≤9223372036854775807):cp P a o w (.int .i64 (p * q)):=by
  simp [cp,execOp,ho,hx,hy,eqGuard,binOp,Op.intArith];rw [IntWalk.i64_in _ hb]
theorem zR (ho:o.op= .binOp .add t x y t') (hx:a.eval x= .int k p) (hy:a.eval y= .int k q):cp P a o w (.int k (k.wrap (p+q))):=by
  simp [cp,execOp,ho,hx,hy,eqGuard,binOp,Op.intArith]
theorem wm (ho:o.op= .binOp .sub t x y t') (hx:a.eval x= .int k p) (hy:a.eval y= .int k q):cp P a o w (.int k (k.wrap (p - q))):=by
  simp [cp,execOp,ho,hx,hy,eqGuard,binOp,Op.intArith]
theorem Gh (ho:o.op= .binOp .rem t x y t') (hx:a.eval x= .int k p) (hy:a.eval y= .int k q) (hq:q≠0):cp P a o w (.int k (p.tmod q)):=by
  simp [cp,execOp,ho,hx,hy,eqGuard,binOp,Op.intDiv,hq]
theorem qT {src dst:TypeId} {ks kd:IntKind} (ho:o.op= .convert src dst x) (hs:P.underlying src=some (.int ks)) (hd:P.underlying dst=some (.int kd)) (hx:a.eval x= .int k p):cp P a o w (.int kd (kd.wrap p)):=by
  simp [cp,execOp,ho,hx,convert,run_underlying hs,run_underlying hd,Conv.intToInt]
theorem ny {src dst:TypeId} {ks kd:IntKind} (ho:o.op= .convert src dst x) (hs:P.underlying src=some (.int ks)) (hd:P.underlying dst=some (.int kd)) (hx:a.eval x= .int k p) (h0:0≤p) (h1:p≤9223372036854775807) (hk:kd= .i64∨kd= .u64):cp P a o w (.int kd p):=by
  have h:=qT (w:=w) ho hs hd hx;have e:kd.wrap p=p:=by
    rcases hk with rfl | rfl
    · exact IntWalk.i64_in _ (by omega)
    · simp [IntKind.wrap,IntKind.signed,IntKind.bits];omega
  rwa [e] at h
theorem ES (ho:o.op= .binOp .shr t x y t') (hx:a.eval x= .int .u64 p) (hy:a.eval y= .int .u64 1):cp P a o w (.int .u64 (p / 2)):=by
  have e:p.fdiv 2=p / 2:=lf p (by omega);simp [cp,execOp,ho,hx,hy,eqGuard,binOp,Op.shift,IntKind.bits];exact e
theorem dY {b:Bool} (ho:o.op= .unOp .not t x) (hx:a.eval x= .bool b):cp P a o w (.bool (!b)):=by
  simp [cp,execOp,ho,hx,Op.unary]
theorem xt {b c:Bool} (ht:P.underlying t=some .bool) (d:Nat):(Op.equalIn (d+1) t (.bool b) (.bool c)).run P w= .ok (b==c) w:=by
  simp [Op.equalIn,run_underlying ht]
theorem qU {b c:Bool} (ho:o.op= .binOp .eql t x y t') (ht:P.underlying t=some .bool) (hx:a.eval x= .bool b) (hy:a.eval y= .bool c):cp P a o w (.bool (b==c)):=by
  have h:=xt (P:=P) (w:=w) (b:=b) (c:=c) ht 9999;simp [cp,execOp,ho,hx,hy,eqGuard,binOp,Op.equal,Op.maxDepth,h]
theorem oF {b c:Bool} (ho:o.op= .binOp .neq t x y t') (ht:P.underlying t=some .bool) (hx:a.eval x= .bool b) (hy:a.eval y= .bool c):cp P a o w (.bool (!(b==c))):=by
  have h:=xt (P:=P) (w:=w) (b:=b) (c:=c) ht 9999;simp [cp,execOp,ho,hx,hy,eqGuard,binOp,Op.equal,Op.maxDepth,h]
theorem zS (hc:o.op= .call { callee:= .builtin .max,args:=#[x,y],argTypes:=#[t,t'] }) (hx:a.eval x= .int k p) (hy:a.eval y= .int k q):cp P a o w (.int k (max p q)):=by
  have e:(if q > p then q else p)=max p q:=by omega
  simp [cp,execOp,hc,resolve,invoke,builtin,Builtin.max_,Builtin.max2,hx,hy];exact e
theorem Eu (hc:o.op= .call { callee:= .builtin .min,args:=#[x,y],argTypes:=#[t,t'] }) (hx:a.eval x= .int k p) (hy:a.eval y= .int k q):cp P a o w (.int k (min p q)):=by
  have e:(if q < p then q else p)=min p q:=by omega
  simp [cp,execOp,hc,resolve,invoke,builtin,Builtin.min_,Builtin.min2,hx,hy];exact e
end ints
section memory
variable {t e:TypeId} {x y:Operand} {p:Addr}
theorem nz {f off:Nat} {fs:Array Field} {fd:Field} {m:Nat} (ho:o.op= .fieldAddr t x f) (ht:P.underlying t=some (.struct fs)) (hf:fs[f]? =some fd) (hoff:fd.offset=off) (hz:∀w,(sizeOf fd.type).run P w= .ok (m+1) w) (hx:a.eval x= .pointer (some p)):
    cp P a o w (.pointer (some (p.add off))):=by
  subst hoff;simp [cp,execOp,ho,hx,Instr.fieldAt,run_underlying ht,hf,Instr.sureAddr,fieldPlace,hz]
theorem aK {k:IntKind} {i:Int} {v:Value} {n m:Nat} (ho:o.op= .indexAddr t x y) (ht:P.underlying t=some (.slice e)) (hz:∀w,(sizeOf e).run P w= .ok m w) (hx:a.eval x=v) (hv:mG v n) (hy:a.eval y= .int k i) (h0:0≤i) (h1:i < n):
    cp P a o w (.pointer (some ((cW v).add (i.toNat * m)))):=by
  rcases hv with ⟨_,rfl⟩ | ⟨b,cap,rfl,_⟩
  · omega
  · simp [cp,execOp,ho,hx,hy,Instr.indexAt,run_underlying ht,hz,asIntOf,h0,h1,cW]
theorem ay {v:Value} (ho:o.op= .load t x) (hz:∀w,(isAgg t).run P w= .ok false w) (hx:a.eval x= .pointer (some p)) (hc:w.cell? p=some v):cp P a o w v:=by
  simp [cp,execOp,ho,hx,Instr.loadAt,Instr.sureAddr,loadVar,hz,load,Sem.run,hc]
theorem lH (vs:List Value):∀(p:Addr) (i:Nat) (acc:Array Value),(∀j u,vs[j]? =some u→w.cell? (p.add (i+j))=some u)→
    (loadCellsFrom p i vs.length acc).run P w= .ok (acc++vs.toArray) w:=by
  induction vs with
  | nil => intro p i acc _; simp [loadCellsFrom]
  | cons v vs ih =>
    intro p i acc h;have h0:=h 0 v rfl;rw [kS] at h0;simp only [bY,loadCellsFrom];simp only [load,Sem.run_bind,Sem.run,h0,Result.andThen_ok];rw [ih p (i+1) (acc.push v) (fun j u hj=>by rw [show i+1+j=i+(j+1) by omega];exact h (j+1) u (by simpa using hj))];simp
theorem cT {vs:List Value} {m:Nat} (ho:o.op= .load t x) (hz:∀w,(isAgg t).run P w= .ok true w) (hm:∀w,(sizeOf t).run P w= .ok m w) (hx:a.eval x= .pointer (some p)) (hl:vs.length=m)
    (hc:∀j u,vs[j]? =some u→w.cell? (p.add j)=some u):cp P a o w (.agg vs.toArray):=by
  subst hl;simp only [cp,execOp,ho,hx,Instr.loadAt,Instr.sureAddr,loadVar,Sem.run_bind,Sem.run_pure,Result.andThen_ok,hz,if_true,hm,loadCells];rw [lH vs p 0 #[] (fun j u hj=>by rw [gV];exact hc j u hj)];simp
theorem cX {v:Value} {n:Nat} (hc:o.op= .call { callee:= .builtin .len,args:=#[x],argTypes:=#[t] }) (ht:P.underlying t=some (.slice e)) (hx:a.eval x=v) (hv:mG v n):cp P a o w (.int .i64 n):=by
  rcases hv with ⟨rfl,rfl⟩ | ⟨b,cap,rfl,_⟩
  · simp [cp,execOp,hc,resolve,invoke,builtin,Builtin.len_,hx,run_underlying ht,goInt]
  · simp [cp,execOp,hc,resolve,invoke,builtin,Builtin.len_,hx,run_underlying ht,goInt]
theorem gA {s:ByteArray} (hc:o.op= .call { callee:= .builtin .len,args:=#[x],argTypes:=#[t] }) (ht:P.underlying t=some .string) (hx:a.eval x= .string s):cp P a o w (.int .i64 s.size):=by
  simp [cp,execOp,hc,resolve,invoke,builtin,Builtin.len_,hx,run_underlying ht,goInt]
theorem fg {vs:Array Value} {i:Nat} {v:Value} (ho:o.op= .extract x i) (hx:a.eval x= .tuple vs) (hi:vs[i]? =some v):cp P a o w v:=by
  simp [cp,execOp,ho,hx,Instr.extract,hi]
theorem ky {parts:Array (Nat × Operand)} {fs:Array Field} {z:Value} {pl:Array (Nat × Nat)} {cells:Array Value} (ho:o.op= .build t parts) (ht:P.underlying t=some (.struct fs)) (hz:∀w,(zeroValue t).run P w= .ok z w)
    (hp:∀w,(fs.mapM fun f=>(do pure (f.offset,←sizeOf f.type):Sem (Nat × Nat))).run P w= .ok pl w) (hf:Instr.fill (pl[·]?) z.cells (parts.map fun (i,x)=>(i,a.eval x)).toList=some cells):cp P a o w (.agg cells):=by
  simp only [cp,execOp,ho,Instr.build,Sem.run_bind,hz,Result.andThen_ok,run_underlying ht,hp,hf];rfl
end memory
end
end
section
open Go.RowKit
structure Enc (α:Type) where
  cells:α→List Value
  sz:Nat
  pos:0 < sz
  len:∀x,(cells x).length=sz
  one:∀x u,u ∈ cells x→u.oneCell'=true
section lists
variable {α:Type}
def Enc.row (E:Enc α) (xs:List α):List Value:=xs.flatMap E.cells
theorem Enc.row_length (E:Enc α) (xs:List α):(E.row xs).length=xs.length * E.sz:=by
  induction xs with
  | nil => simp [Enc.row]
  | cons x xs ih =>
    simp only [Enc.row,List.flatMap_cons,ci,E.len,bY] at ih ⊢;rw [ih,fS];omega
theorem Enc.row_append (E:Enc α) (xs ys:List α):E.row (xs++ys)=E.row xs++E.row ys:=by
  simp [Enc.row]
theorem Enc.row_get (E:Enc α) {xs:List α} {i j:Nat} {x:α} (hx:xs[i]? =some x) (hj:j < E.sz):(E.row xs)[i * E.sz+j]? =(E.cells x)[j]? :=by
  induction xs generalizing i with
  | nil => simp at hx
  | cons y ys ih =>
    have e:E.row (y::ys)=E.cells y++E.row ys:=by simp [Enc.row]
    rw [e];cases i with
    | zero =>
      simp at hx;subst hx;rw [jn (by rw [E.len];omega)];congr 1;omega
    | succ i =>
      rw [iW (by rw [E.len,fS];omega),E.len];rw [show (i+1) * E.sz+j - E.sz=i * E.sz+j by rw [fS];omega];exact ih (by simpa using hx)
theorem Enc.row_one (E:Enc α) {xs:List α}:∀u ∈ E.row xs,u.oneCell'=true:=by
  intro u hu;simp only [Enc.row,List.mem_flatMap] at hu;obtain ⟨x,_,h⟩:=hu;exact E.one x u h
end lists
section mem
variable {α:Type} {E:Enc α} {w w':World} {v:Value} {xs:List α}
theorem mG.le {v:Value} {n:Nat} (h:mG v n):n≤maxLen:=by
  rcases h with ⟨_,rfl⟩ | ⟨b,cap,_,h1,h2⟩
  · exact ee _
  · omega
structure SlT (E:Enc α) (w:World) (v:Value) (xs:List α):Prop where
  sl:mG v xs.length
  cell:∀j u,(E.row xs)[j]? =some u→w.cell? ((cW v).add j)=some u
theorem SlT.nil (E:Enc α) (w:World):SlT E w (.slice none 0 0) ([]:List α):=⟨.inl ⟨rfl,rfl⟩,fun j u h=>by simp [Enc.row] at h⟩
theorem lk (p:Addr) (j:Nat):(p.add j).block=p.block:=by unfold Addr.add;split <;> rfl
theorem add_add (p:Addr) (i j:Nat):(p.add i).add j=p.add (i+j):=Deep.add_add p i j
theorem SlT.elem (h:SlT E w v xs) {i j:Nat} {x:α} {u:Value} (hx:xs[i]? =some x) (hu:(E.cells x)[j]? =some u):w.cell? (((cW v).add (i * E.sz)).add j)=some u:=by
  rw [add_add];have hj:j < E.sz:=by rw [←E.len x];exact (List.getElem?_eq_some_iff.1 hu).1
  exact h.cell _ u (by rw [E.row_get hx hj];exact hu)
theorem SlT.lt (h:SlT E w v xs) (hne:xs≠ []):(cW v).block < w.heap.size:=by
  obtain ⟨x,hx⟩:∃x,xs[0]? =some x:=by cases xs with | nil=>exact absurd rfl hne | cons x _=>exact ⟨x,rfl⟩
  obtain ⟨u,hu⟩:∃u,(E.cells x)[0]? =some u:=⟨(E.cells x)[0]'(by rw [E.len];exact E.pos),by simp⟩;have:=World.block_lt_of_cell? w _ (h.elem hx hu);rwa [lk,lk] at this
theorem SlT.keep {M:Nat→Prop} (h:SlT E w v xs) (he:Ext M w w') (hm:xs≠ []→¬M (cW v).block):SlT E w' v xs:=by
  refine ⟨h.sl,fun j u hj=> ?_⟩;have hne:xs≠ []:=fun e=>by subst e;simp [Enc.row] at hj
  exact he.cell_some (h.cell j u hj) (by rw [lk];exact hm hne)
def iZ (E:Enc α) (ty:Nat) (w:World) (v:Value) (xs:List α):Prop:=w.ownsRow 0 ty E.sz v xs.length (E.row xs)
variable {ty:Nat}
theorem iZ.nil (E:Enc α) (ty:Nat) (w:World):iZ E ty w (.slice none 0 0) ([]:List α):=World.ownsRow_nil w 0 ty E.sz
theorem iZ.sl (h:iZ E ty w v xs):SlT E w v xs:=by
  refine ⟨?_,fun j u hj=> ?_⟩
  · rcases h.2 with ⟨h1,h2⟩ | ⟨g,cap,cur,hv,_,_,h3,h4,_⟩
    · exact .inl ⟨h1,h2⟩
    · exact .inr ⟨_,cap,hv,h3,h4⟩
  · rcases h.2 with ⟨h1,h2⟩ | ⟨g,cap,cur,hv,hb,hg,h3,h4,h5,h6⟩
    · have:xs=[]:=bV h2;subst this;simp [Enc.row] at hj
    · have:=World.ownsRow.cells h (g:=g) (by rw [hv];rfl) j u hj;rw [hv];exact this
theorem iZ.keep {M:Nat→Prop} (h:iZ E ty w v xs) (he:Ext M w w') (hm:∀g,v.ownBlock=some g→¬M g):iZ E ty w' v xs:=by
  refine ⟨h.1,?_⟩;rcases h.2 with h | ⟨g,cap,cur,hv,hb,hg,r⟩
  · exact .inl h
  · exact .inr ⟨g,cap,cur,hv,hb,by rw [he.block g (Array.getElem?_eq_some_iff.1 hg).1 (hm g (by rw [hv];rfl))];exact hg,r⟩
theorem iZ.lt (h:iZ E ty w v xs):∀g,v.ownBlock=some g→g < w.heap.size:=fun g hg=>(World.ownsRow.lt h g hg).2
theorem iZ.le (h:iZ E ty w v xs):xs.length≤maxLen:=h.sl.sl.le
end mem
section specs
variable {N:aP}
def det (N:aP) (t:Nat) (v:Value):Spec N:=⟨none,t,fun _ _ u _=>u=v,fun _ _ _ _ _ _ _ _ h=>h,fun _=>True,fun _ _ _ _ _=>trivial⟩
def gdet (N:aP) (t:Nat) (pc:Prop) (v:Value):Spec N:=⟨none,t,fun _ _ u _=>(pc→u=v)∧(¬pc→u=undef),fun _ _ _ _ _ _ _ _ h=>h,fun _=>True,fun _ _ _ _ _=>trivial⟩
def hY (N:aP) (t:Nat):Spec N:=⟨none,t,fun _ _ _ _=>True,fun _ _ _ _ _ _ _ _ h=>h,fun _=>True,fun _ _ _ _ _=>trivial⟩
def eb {α:Type} (E:Enc α) (ty:Nat) (xs:List α) (T:aP) (v:Value) (w:World):Prop:=iZ E ty w v xs∧∀g,v.ownBlock=some g→T g
theorem jY {N:aP} {α:Type} {E:Enc α} {ty:Nat} {xs:List α} (T:aP) (v:Value) (w w':World) (h:Ext (fun g=>N g∧¬T g) w w') (hr:eb E ty xs T v w):eb E ty xs T v w':=
  ⟨hr.1.keep h fun g hg hn=>hn.2 (hr.2 g hg),hr.2⟩
def own {α:Type} (E:Enc α) (ty:Nat) (N:aP) (tag t:Nat) (xs:List α):Spec N:=⟨some tag,t,fun _=>eb E ty xs,fun _ _ T v w w' _ h hr=>jY T v w w' h.less hr,fun _=>True,fun _ _ _ _ _=>trivial⟩
def iown {α:Type} (E:Enc α) (ty:Nat) (N:aP) (v:Value) (xs:List α):Ini N:=⟨fun _ T w=>eb E ty xs T v w,fun _ _ T w w' _ h=>jY T v w w' h.less⟩
def cd (ty:Nat) (cells:List Value) (T:aP) (v:Value) (w:World):Prop:=∃g,v= .pointer (some ⟨g,0,none⟩)∧g < w.heap.size∧T g∧w.heap[g]? =some (.cells cells.toArray ty (0,0))
theorem kG {N:aP} {ty:Nat} {cells:List Value} (T:aP) (v:Value) (w w':World) (h:Ext (fun g=>N g∧¬T g) w w') (hr:cd ty cells T v w):cd ty cells T v w':=by
  obtain ⟨g,hv,hlt,hT,hg⟩:=hr;exact ⟨g,hv,cR hlt h.size,hT,by rw [h.block g hlt (fun hn=>hn.2 hT)];exact hg⟩
def box (ty:Nat) (N:aP) (tag t:Nat) (cells:List Value):Spec N:=⟨some tag,t,fun _=>cd ty cells,fun _ _ T v w w' _ h hr=>kG T v w w' h.less hr,fun _=>True,fun _ _ _ _ _=>trivial⟩
def ibox (ty:Nat) (N:aP) (v:Value) (cells:List Value):Ini N:=⟨fun _ T w=>cd ty cells T v w,fun _ _ T w w' _ h=>kG T v w w' h.less⟩
theorem cd.cell {ty:Nat} {cells:List Value} {T:aP} {v:Value} {w:World} (h:cd ty cells T v w) {j:Nat} {u:Value} (hu:cells[j]? =some u):w.cell? ((cW v).add j)=some u:=by
  obtain ⟨g,rfl,_,_,hg⟩:=h;simp only [cW];have:((⟨g,0,none⟩:Addr).add j)=⟨g,j,none⟩:=by unfold Addr.add;split <;> simp_all
  rw [this];simp [World.cell?,hg,hu]
theorem cd.ptr {ty:Nat} {cells:List Value} {T:aP} {v:Value} {w:World} (h:cd ty cells T v w):v= .pointer (some (cW v)):=by
  obtain ⟨g,rfl,_⟩:=h;rfl
end specs
section obs
variable {N:aP} {P:Program} {ops:Array Oper} {sp:List (Spec N)} {In:Nat→Ini N} {a0:Act} {w0:World} {bf:List Nat} {j:Nat} {o:Oper} {s:Spec N} {done:Nat→Bool} {a:Act} {w:World} {τ:Nat→aP}
theorem Cx.v (c:Cx ops sp In a0 w0 bf j o done a w τ) (i:Nat) {t:Nat} {val:Value} (hs:sp[i]? =some (det N t val)) (hb:(bf.getD j 0).testBit i=true):aT a t=val:=
  c.J.det i _ hs rfl (c.pre i hb)
theorem Cx.g (c:Cx ops sp In a0 w0 bf j o done a w τ) (i:Nat) {t:Nat} {pc:Prop} {val:Value} (hs:sp[i]? =some (gdet N t pc val)) (hb:(bf.getD j 0).testBit i=true) (hpc:pc):aT a t=val:=
  (c.J.det i _ hs rfl (c.pre i hb)).1 hpc
theorem Cx.old (c:Cx ops sp In a0 w0 bf j o done a w τ) {t:Nat} {val:Value} (h0:aT a0 t=val) (h:xq ops bf j t=true):aT a t=val:=
  (c.J.old c.hj c.post t h).trans h0
theorem Cx.res (c:Cx ops sp In a0 w0 bf j o done a w τ) (i t:Nat) (s':Spec N) (hs:sp[i]? =some s') (hl:bH (sp.map (·.tag)) t j=some i) (hord:jD (sp.map (·.tag)) bf t j=true):s'.R (fb τ w) (τ t) (aT a s'.slot) w:=
  c.J.cur c.hj c.post c.pre t i s' hl hord hs
theorem Cx.ini (c:Cx ops sp In a0 w0 bf j o done a w τ) (t:Nat) (I:Ini N) (hI:In t=I) (hl:bH (sp.map (·.tag)) t j=none) (hord:jD (sp.map (·.tag)) bf t j=true):I.I (fb τ w) (τ t) w:=by
  rw [←hI];exact c.J.cur0 c.hj c.post t hl hord
theorem lI (hg:o.guard=none) (f:Nat→Option Bool):Region.wanted o f=true:=by simp [Region.wanted,hg]
theorem tG (hg:o.guard=none) (h:∀done a w τ,Cx ops sp In a0 w0 bf j o done a w τ→o.wp P a w (fun a' w'=>∃v,a'=a.put o.dst v∧oB s a' τ w w') (fun _ _ _=>False)):Ob ops sp In a0 w0 P bf j o s:=
  fun done a w τ c=>⟨fun _=>h done a w τ c,fun hw=>by rw [lI hg] at hw;cases hw⟩
theorem ll {K:Act→World→Prop} {Q:Exit→Act→World→Prop} {v:Value} (h:cp P a o w v) (hK:K (a.put o.dst v) w):o.wp P a w K Q:=by
  unfold Oper.wp;rw [h];exact hK
theorem ET {t:Nat} {v:Value} (hs:s=B.det N t v) (hg:o.guard=none) (hd:o.dst=some t) (h:∀done a w τ,Cx ops sp In a0 w0 bf j o done a w τ→cp P a o w v):Ob ops sp In a0 w0 P bf j o s:=
  tG hg fun done a w τ c=>ll (h done a w τ c) ⟨v,rfl,by
    subst hs;refine ⟨Ext.refl _ _,?_⟩;show aT (a.put o.dst v) t=v;rw [hd,dA a t t v (c.lt t hd),if_pos rfl]⟩
theorem CB {t gi tg:Nat} {want b:Bool} {pc:Prop} {v:Value} (hs:s=B.gdet N t pc v) (hg:o.guard=some (gi,want)) (hd:o.dst=some t) (hgd:((ops[gi]?).bind (·.dst))=some tg)
    (hgs:sp[gi]? =some (B.det N tg (.bool b))) (hb:(bf.getD j 0).testBit gi=true) (hpc:pc↔b=want)
    (h:∀done a w τ,Cx ops sp In a0 w0 bf j o done a w τ→pc→cp P a o w v):Ob ops sp In a0 w0 P bf j o s:=by
  intro done a w τ c;have hv:aT a tg= .bool b:=c.v gi hgs hb;have hw:Region.wanted o (yielded ops a.tmps)=(b==want):=by
    have:a.tmps[tg]? =some (.bool b):=by
      unfold aT at hv;rw [aW] at hv;cases h':a.tmps[tg]? with
      | none => rw [h'] at hv; simp [undef] at hv
      | some u => rw [h'] at hv; simp at hv; rw [hv]
    cases b <;> cases want <;> simp [Region.wanted,hg,yielded,hgd,this]
  subst hs;refine ⟨fun hw'=> ?_,fun hw'=> ?_⟩
  · rw [hw] at hw';have hp:pc:=hpc.2 (by simpa using hw');refine ll (h done a w τ c hp) ⟨v,rfl,Ext.refl _ _,?_⟩;show (pc→aT (a.put o.dst v) t=v)∧(¬pc→aT (a.put o.dst v) t=undef);rw [hd,dA a t t v (c.lt t hd),if_pos rfl];exact ⟨fun _=>rfl,fun hn=>absurd hp hn⟩
  · rw [hw] at hw';have hp:¬pc:=fun hp=>by rw [hpc.1 hp] at hw';simp at hw'
    refine ⟨Ext.refl _ _,?_⟩;show (pc→aT (a.put o.dst undef) t=v)∧(¬pc→aT (a.put o.dst undef) t=undef);rw [hd,dA a t t undef (c.lt t hd),if_pos rfl];exact ⟨fun h=>absurd h hp,fun _=>rfl⟩
theorem zT {t gi tg:Nat} {want b:Bool} {pc pg:Prop} {v:Value} (hs:s=B.gdet N t pc v) (hg:o.guard=some (gi,want)) (hd:o.dst=some t) (hgd:((ops[gi]?).bind (·.dst))=some tg)
    (hgs:sp[gi]? =some (B.gdet N tg pg (.bool b))) (hb:(bf.getD j 0).testBit gi=true) (hpc:pc↔(pg∧b=want))
    (h:∀done a w τ,Cx ops sp In a0 w0 bf j o done a w τ→pc→cp P a o w v):Ob ops sp In a0 w0 P bf j o s:=by
  intro done a w τ c;have hv:=c.J.det gi _ hgs rfl (c.pre gi hb);have hv:(pg→aT a tg= .bool b)∧(¬pg→aT a tg=undef):=hv;subst hs;by_cases hpg:pg
  · have hv':=hv.1 hpg;have hw:Region.wanted o (yielded ops a.tmps)=(b==want):=by
      have:a.tmps[tg]? =some (.bool b):=by
        unfold aT at hv';rw [aW] at hv';cases h':a.tmps[tg]? with
        | none => rw [h'] at hv'; simp [undef] at hv'
        | some u => rw [h'] at hv'; simp at hv'; rw [hv']
      cases b <;> cases want <;> simp [Region.wanted,hg,yielded,hgd,this]
    refine ⟨fun hw'=> ?_,fun hw'=> ?_⟩
    · rw [hw] at hw';have hp:pc:=hpc.2 ⟨hpg,by simpa using hw'⟩;refine ll (h done a w τ c hp) ⟨v,rfl,Ext.refl _ _,?_⟩;show (pc→aT (a.put o.dst v) t=v)∧(¬pc→aT (a.put o.dst v) t=undef);rw [hd,dA a t t v (c.lt t hd),if_pos rfl];exact ⟨fun _=>rfl,fun hn=>absurd hp hn⟩
    · rw [hw] at hw';have hp:¬pc:=fun hp=>by rw [(hpc.1 hp).2] at hw';simp at hw'
      refine ⟨Ext.refl _ _,?_⟩;show (pc→aT (a.put o.dst undef) t=v)∧(¬pc→aT (a.put o.dst undef) t=undef);rw [hd,dA a t t undef (c.lt t hd),if_pos rfl];exact ⟨fun h=>absurd h hp,fun _=>rfl⟩
  · have hv':=hv.2 hpg;have hw:Region.wanted o (yielded ops a.tmps)=false:=by
      have:∀bb,a.tmps[tg]? ≠some (.bool bb):=by
        intro bb h';unfold aT at hv';rw [aW,h'] at hv';simp [undef] at hv'
      have hy:yielded ops a.tmps gi=none:=by
        cases h':a.tmps[tg]? with
        | none => simp [yielded, hgd, h']
        | some u => cases u <;> first | exact absurd h' (this _) | simp [yielded, hgd, h']
      simp [Region.wanted,hg,hy]
    have hp:¬pc:=fun hp=>hpg (hpc.1 hp).1;refine ⟨fun hw'=>(by rw [hw] at hw';cases hw'),fun _=> ?_⟩;refine ⟨Ext.refl _ _,?_⟩;show (pc→aT (a.put o.dst undef) t=v)∧(¬pc→aT (a.put o.dst undef) t=undef);rw [hd,dA a t t undef (c.lt t hd),if_pos rfl];exact ⟨fun h=>absurd h hp,fun _=>rfl⟩
end obs
end
section
open Go.RowKit
section run
variable {P:Program} {w:World} {α:Type} {E:Enc α}
theorem iG (w:World) (g:Nat) (cs:Array Value):Ext (fun k=>k=g) w (w.setRow g cs):=
  ⟨rfl,rfl,rfl,by simp [World.setRow],fun k _ h=>setRow_other w g k cs h⟩
theorem oG (t ty e:TypeId) (i:TypeInfo) (z:Value) (ht:P.underlying t=some (.slice e)) (hi:P.info? e=some i) (hz:i.zero=some z) (hsize:i.size=E.sz) (hzs:z.cells.size=E.sz)
    {v u:Value} {xs ys:List α} (hown:iZ E e w v xs) (hu:SlT E w u ys) (h63:xs.length+ys.length≤maxLen) (hby:(xs.length+ys.length) * i.bytes≤140737488355328):
    ∃v' w',(Builtin.append_ #[t,t] ty #[v,u]).run P w= .ok v' w'∧iZ E e w' v' (xs++ys)∧Ext (fun k=>v.ownBlock=some k) w w'∧(∀g,v'.ownBlock=some g→v.ownBlock=some g∨(w.heap.size≤g∧g < w'.heap.size)):=by
  have hy1:∀x ∈ E.row ys,x.oneCell'=true:=E.row_one;have hyl:(E.row ys).length=ys.length * i.size:=by rw [E.row_length,hsize]
  have hpos:=E.pos;simp only [maxLen] at h63;have hrow:E.row xs++E.row ys=E.row (xs++ys):=(E.row_append xs ys).symm;have newb:∀(old:Nat),iZ E e (w.drew.alloc (.cells ((E.row xs).toArray++(E.row ys).toArray++Builtin.zeroCells z.cells (grownCap w (xs.length+ys.length) old e - (xs.length+ys.length))) e))
      (.slice (some ⟨w.heap.size,0,none⟩) (xs.length+ys.length) (grownCap w (xs.length+ys.length) old e)) (xs++ys):=by
    intro old;have hge:=grownCap_ge w (xs.length+ys.length) old e;have hcm:grownCap w (xs.length+ys.length) old e≤maxLen:=grownCap_le_maxLen w _ old e (by simp only [maxLen];omega);refine ⟨E.row_length _,.inr ⟨w.heap.size,_,_,by rw [ci],ee _,heap_alloc_new w.drew _,by rw [ci];exact hge,hcm,?_,?_⟩⟩
    · simp only [Array.size_append,jT,size_zeroCells,hzs,E.row_length,←fS];congr 1;omega
    · simp only [Array.toList_append,fL];rw [←fL,hrow,←E.row_length];exact List.take_left
  have newe:∀(o:Obj),Ext (fun k=>v.ownBlock=some k) w (w.drew.alloc o):=fun o=>(Ext.refl _ w).drew.trans (Ext.alloc _ _ _);rcases hu.sl with ⟨rfl,hu0⟩ | ⟨b,cap,rfl,hle,hcap⟩
  · have hys:ys=[]:=bV hu0;subst hys;refine ⟨v,w,?_,by rw [gT];exact hown,Ext.refl _ _,fun g h=> .inl h⟩;have hl:=hown.sl.sl;rcases hl with ⟨rfl,_⟩ | ⟨b,cap,rfl,h1,h2⟩
    · simp [Builtin.append_,run_underlying ht,sizeOf,typeInfo,hi,Builtin.lenOf,Builtin.firstCells]
    · simp [Builtin.append_,run_underlying ht,sizeOf,typeInfo,hi,Builtin.lenOf,Builtin.firstCells,h1,storeCells]
  · have hcell:∀j x,(E.row ys)[j]? =some x→w.cell? (b.add j)=some x:=hu.cell;rcases hown.2 with ⟨rfl,hx0⟩ | ⟨g,c,cur,rfl,hb,hg,h1,h2,h3,h4⟩
    · have hxs:xs=[]:=bV hx0;subst hxs;by_cases h0:ys.length=0
      · have:ys=[]:=bV h0;subst this
        refine ⟨_,w,?_,hown,Ext.refl _ _,fun g h=> .inl h⟩;simp [Builtin.append_,run_underlying ht,sizeOf,typeInfo,hi,Builtin.lenOf,Builtin.firstCells,loadCells,loadCellsFrom]
      · have hr:=run_append_nil (P:=P) w t ty e i z ht hi hz b ys.length cap (E.row ys) hyl hcell (by omega) (by omega) (by simp at hby;omega);have hnew:=newb 0;simp only [cf,gV,gu,show (E.row ([]:List α))=[] from rfl,Array.empty_append] at hnew ⊢;refine ⟨_,_,hr,hnew,newe _,fun g hg=> .inr ?_⟩;simp only [Value.ownBlock,Option.some.injEq] at hg;subst hg;simp
    · by_cases hroom:xs.length+ys.length≤c
      · have hfit:xs.length * i.size+(E.row ys).length≤cur.size:=by rw [hyl,h3,hsize,←fS];exact gW _ hroom
        have hr:=run_append_room (P:=P) w t ty e i ht hi g xs.length c cur hg b ys.length cap (E.row ys) hyl hcell hy1 hroom hfit;refine ⟨_,_,hr,⟨E.row_length _,.inr ⟨g,c,_,by rw [ci],hb,setRow_heap w g cur _ e _ hg,by rw [ci];exact hroom,h2,?_,?_⟩⟩,?_,fun k hk=> .inl hk⟩
        · simp only [jT,ci,dE,es,fl];omega
        · simp only [hsize];rw [h4,hrow,←E.row_length];exact List.take_left
        · exact (iG w g _).mono fun k _ h=>by rw [h];rfl
      · have holds:∀j x,(E.row xs)[j]? =some x→w.cell? ((⟨g,0,none⟩:Addr).add j)=some x:=World.ownsRow.cells hown (g:=g) rfl;have hr:=run_append_grow (P:=P) w t ty e i z ht hi hz ⟨g,0,none⟩ xs.length c (E.row xs) (by rw [E.row_length,hsize]) holds b ys.length cap (E.row ys) hyl hcell (by omega) (by omega) (growslice_fits (by omega) hby);refine ⟨_,_,hr,newb c,newe _,fun k hk=> .inr ?_⟩;simp only [Value.ownBlock,Option.some.injEq] at hk;subst hk;simp
end run
def oT {α:Type} (E:Enc α) (ty:Nat) (w w':World) (v:Value) (xs:List α):Prop:=iZ E ty w' v xs∧∀g,v.ownBlock=some g→w.heap.size≤g
section obs
variable {N:aP} {P:Program} {ops:Array Oper} {sp:List (Spec N)} {In:Nat→Ini N} {a0:Act} {w0:World} {bf:List Nat} {j:Nat} {o:Oper} {s:Spec N}
theorem ey {tag:Nat} (hg:o.guard=none) (ht:s.tag=some tag)
    (h:∀done a w τ,Cx ops sp In a0 w0 bf j o done a w τ→o.wp P a w (fun a' w'=>∃v,a'=a.put o.dst v∧Ext (τ tag) w w'∧∃T':aP,(∀g,T' g→τ tag g∨(w.heap.size≤g∧g < w'.heap.size))∧s.R (fb (nn τ tag T') w') T' (aT a' s.slot) w') (fun _ _ _=>False)):Ob ops sp In a0 w0 P bf j o s:=
  tG hg fun done a w τ c=>by
    have:=h done a w τ c;unfold oB;rw [ht];exact this
theorem fP {P:Program} {o:Oper} {a:Act} {w w':World} {K:Act→World→Prop} {Q:Exit→Act→World→Prop} {v:Value} (h:(execOp a.eval o).run P w= .ok (.value v) w') (hK:K (a.put o.dst v) w'):o.wp P a w K Q:=by
  unfold Oper.wp;rw [h];exact hK
theorem iH {P:Program} {o:Oper} {a:Act} {w w':World} {K:Act→World→Prop} {Q:Exit→Act→World→Prop} (h:(execOp a.eval o).run P w= .ok .skip w') (hK:K (a.put o.dst undef) w'):o.wp P a w K Q:=by
  unfold Oper.wp;rw [h];exact hK
theorem tH {ty:Nat} {cells:List Value} {w:World}:cd ty cells (fun g=>g=w.heap.size) (.pointer (some ⟨w.heap.size,0,none⟩)) (w.alloc (.cells cells.toArray ty)):=
  ⟨w.heap.size,rfl,by simp,rfl,heap_alloc_new w _⟩
theorem fh {ty tag t:Nat} {cells:List Value} {x:Operand} {v:Value} (hs:s=B.box ty N tag t cells) (hg:o.guard=none) (hd:o.dst=some t) (ho:o.op= .box ty x) (hc:v.cells=cells.toArray)
    (h:∀done a w τ,Cx ops sp In a0 w0 bf j o done a w τ→a.eval x=v):Ob ops sp In a0 w0 P bf j o s:=by
  subst hs;refine ey hg rfl fun done a w τ c=> ?_;have hr:(execOp a.eval o).run P w= .ok (.value (.pointer (some ⟨w.heap.size,0,none⟩))) (w.alloc (.cells cells.toArray ty)):=by
    simp only [execOp,ho,h done a w τ c,Instr.box,newVar,newRow,newObj,hc];rfl
  refine fP hr ⟨_,rfl,Ext.alloc _ _ _,fun g=>g=w.heap.size,fun g hg=> .inr (by subst hg;simp),?_⟩;show cd ty cells _ (aT (a.put o.dst _) t) _;rw [hd,dA a t t _ (c.lt t hd),if_pos rfl];exact tH
theorem cB {ty tag t:Nat} {cells:List Value} {z:Value} (hs:s=B.box ty N tag t cells) (hg:o.guard=none) (hd:o.dst=some t) (ho:o.op= .alloc ty) (hz:∀w,(zeroValue ty).run P w= .ok z w) (hc:z.cells=cells.toArray):Ob ops sp In a0 w0 P bf j o s:=by
  subst hs;refine ey hg rfl fun done a w τ c=> ?_;have hr:(execOp a.eval o).run P w= .ok (.value (.pointer (some ⟨w.heap.size,0,none⟩))) (w.alloc (.cells cells.toArray ty)):=by
    simp only [execOp,ho,Instr.alloc,Sem.run_bind,hz,Result.andThen_ok,newVar,newRow,newObj,hc];rfl
  refine fP hr ⟨_,rfl,Ext.alloc _ _ _,fun g=>g=w.heap.size,fun g hg=> .inr (by subst hg;simp),?_⟩;show cd ty cells _ (aT (a.put o.dst _) t) _;rw [hd,dA a t t _ (c.lt t hd),if_pos rfl];exact tH
theorem run_store {P:Program} {w:World} {t ty g off:Nat} {cur:Array Value} {v:Value} (hg:w.heap[g]? =some (.cells cur ty (0,0))) (hsz:∀w,(sizeOf t).run P w= .ok v.cells.size w) (hfit:off+v.cells.size≤cur.size) (h1:∀u ∈ v.cells.toList,u.oneCell'=true):
    (Instr.storeAt t (.pointer (some ⟨g,off,none⟩)) v).run P w= .ok () (w.setRow g (cur.toList.take off++v.cells.toList++cur.toList.drop (off+v.cells.size)).toArray):=by
  have h:=run_storeCells_at P g off ty v.cells.toList 0 cur w hg (by simpa using hfit) h1;simp only [kS,fl] at h;simp only [Instr.storeAt,Instr.sureAddr,Sem.run_bind,Sem.run_pure,Result.andThen_ok,storeVar,hsz,ne_eq,not_true_eq_false,if_false];exact h
theorem lJ (g k:Nat):((⟨g,0,none⟩:Addr).add k)=⟨g,k,none⟩:=by unfold Addr.add;split <;> simp_all
theorem pW {ty tag t tt off:Nat} {cells cells':List Value} {x y:Operand} {v:Value} (hs:s=B.box ty N tag t cells') (hg:o.guard=none) (hd:o.dst=none) (ho:o.op= .store tt x y) (hsz:∀w,(sizeOf tt).run P w= .ok v.cells.size w)
    (hfit:off+v.cells.size≤cells.length) (h1:∀u ∈ v.cells.toList,u.oneCell'=true) (hc:cells'=cells.take off++v.cells.toList++cells.drop (off+v.cells.size))
    (hp:∀done a w τ,Cx ops sp In a0 w0 bf j o done a w τ→cd ty cells (τ tag) (aT a t) w∧a.eval x= .pointer (some ((cW (aT a t)).add off))∧a.eval y=v):Ob ops sp In a0 w0 P bf j o s:=by
  subst hs;refine ey hg rfl fun done a w τ c=> ?_;obtain ⟨⟨g,hv,hlt,hT,hgg⟩,hx,hy⟩:=hp done a w τ c;have hx':a.eval x= .pointer (some ⟨g,off,none⟩):=by rw [hx,hv];simp only [cW,lJ]
  have hr:=run_store (P:=P) (t:=tt) (off:=off) hgg hsz (by simpa using hfit) h1;have hr':(execOp a.eval o).run P w= .ok .skip (w.setRow g cells'.toArray):=by
    simp only [execOp,ho,hx',hy,Sem.run_bind,hr,Result.andThen_ok];rw [hc];rfl
  refine iH hr' ⟨undef,rfl,(iG w g _).mono (fun k _ h=>by rw [h];exact hT),τ tag,fun g h=> .inl h,?_⟩;show cd ty cells' _ (aT (a.put o.dst _) t) _;rw [hd,jX];exact ⟨g,hv,by simp [World.setRow,hlt],hT,setRow_heap w g _ _ ty _ hgg⟩
theorem dp {α:Type} {E:Enc α} {ty e tag t n:Nat} {xs:List α} {parts:Array (Nat × Operand)} {z:Value} {cells:Array Value} (hs:s=own E e N tag t xs) (hg:o.guard=none) (hd:o.dst=some t) (ho:o.op= .buildSlice ty n parts)
    (hty:P.underlying ty=some (.slice e)) (hsz:∀w,(sizeOf e).run P w= .ok E.sz w) (hz:∀w,(zeroValue e).run P w= .ok z w) (hn:n=xs.length) (hn0:0 < n) (hsmall:n * E.sz≤16777216)
    (hf:∀done a w τ,Cx ops sp In a0 w0 bf j o done a w τ→Instr.fill (fun i=>some (i * E.sz,E.sz)) ((Array.range (n * E.sz)).map (z.cells[· % z.cells.size]!)) (parts.map fun (i,x)=>(i,a.eval x)).toList=some cells)
    (hc:cells.toList=E.row xs):Ob ops sp In a0 w0 P bf j o s:=by
  subst hs;refine ey hg rfl fun done a w τ c=> ?_;have h2:¬(n * E.sz > 2 ^ 24):=by omega
  have h0:¬(n * E.sz=0):=by have:=Nat.mul_pos hn0 E.pos;omega
  have hr:(execOp a.eval o).run P w= .ok (.value (.slice (some ⟨w.heap.size,0,none⟩) n n)) (w.alloc (.cells cells e)):=by
    have hfz:=hf done a w τ c;simp only [execOp,ho,Instr.buildSlice,Sem.run_bind,run_underlying hty,Result.andThen_ok,hsz,h2,if_false,Sem.run_pure,h0,hz];rw [hfz];rfl
  have hl:cells.size=n * E.sz:=by rw [←fl,hc,E.row_length,hn]
  refine fP hr ⟨_,rfl,Ext.alloc _ _ _,fun g=>g=w.heap.size,fun g hg=> .inr (by subst hg;simp),?_⟩;show eb E e xs _ (aT (a.put o.dst _) t) _;rw [hd,dA a t t _ (c.lt t hd),if_pos rfl];refine ⟨⟨E.row_length xs,.inr ⟨w.heap.size,n,cells,by rw [hn],ee _,heap_alloc_new w _,by omega,?_,hl,?_⟩⟩,fun g h=> ?_⟩
  · have:=jH n E.pos;simp only [maxLen];omega
  · rw [hc,←E.row_length];exact kk
  · simp only [Value.ownBlock,Option.some.injEq] at h;exact h.symm
theorem kz {α:Type} {E:Enc α} {ty e tag t:Nat} (hs:s=own E e N tag t ([]:List α)) (hg:o.guard=none) (hd:o.dst=some t) (ho:o.op= .buildSlice ty 0 #[])
    (hty:P.underlying ty=some (.slice e)) (hsz:∀w,(sizeOf e).run P w= .ok E.sz w):Ob ops sp In a0 w0 P bf j o s:=by
  subst hs;refine ey hg rfl fun done a w τ c=> ?_;have hr:(execOp a.eval o).run P w= .ok (.value (.slice (some ⟨w.heap.size,0,none⟩) 0 0)) (w.alloc (.cells #[] e)):=by
    have e0:Array.range 0=#[]:=Array.eq_empty_of_size_eq_zero (by simp);simp [execOp,ho,Instr.buildSlice,run_underlying hty,hsz,Instr.fill,newRow,newObj,e0];rfl
  refine fP hr ⟨_,rfl,Ext.alloc _ _ _,fun g=>g=w.heap.size,fun g hg=> .inr (by subst hg;simp),?_⟩;show eb E e [] _ (aT (a.put o.dst _) t) _;rw [hd,dA a t t _ (c.lt t hd),if_pos rfl];refine ⟨⟨E.row_length [],.inr ⟨w.heap.size,0,#[],rfl,ee _,heap_alloc_new w _,br _,ee _,by simp,by simp [Enc.row]⟩⟩,fun g h=> ?_⟩;simp only [Value.ownBlock,Option.some.injEq] at h;exact h.symm
theorem eW {α:Type} {E:Enc α} {ty e tag t t0:Nat} {xs ys:List α} {x y:Operand} {z:Value} {i:TypeInfo} (hs:s=own E e N tag t (xs++ys)) (hg:o.guard=none) (hd:o.dst=some t)
    (ho:o.op= .call { callee:= .builtin .append,args:=#[x,y],argTypes:=#[ty,ty] })
    (hty:P.underlying ty=some (.slice e)) (hi:P.info? e=some i) (hz:i.zero=some z) (hsize:i.size=E.sz) (hzs:z.cells.size=E.sz)
    (h63:xs.length+ys.length≤maxLen) (hby:(xs.length+ys.length) * i.bytes≤140737488355328)
    (hp:∀done a w τ,Cx ops sp In a0 w0 bf j o done a w τ→eb E e xs (τ tag) (aT a t0) w∧a.eval x=aT a t0∧∃u,a.eval y=u∧SlT E w u ys):Ob ops sp In a0 w0 P bf j o s:=by
  subst hs;refine ey hg rfl fun done a w τ c=> ?_;obtain ⟨⟨hown,hT⟩,hx,u,hy,hsl⟩:=hp done a w τ c;obtain ⟨v',w',hr,h2,h3,h4⟩:=oG (P:=P) (E:=E) ty o.type e i z hty hi hz hsize hzs hown hsl h63 hby;have hr':(execOp a.eval o).run P w= .ok (.value v') w':=by
    simp only [execOp,ho,resolve,invoke,builtin,Sem.run_bind,Sem.run_pure,Result.andThen_ok,eu,bz,bU,hx,hy,hr]
  refine fP hr' ⟨_,rfl,h3.mono (fun k _ h=>hT k h),fun g=>v'.ownBlock=some g,fun g hg=>(h4 g hg).elim (fun h=> .inl (hT g h)) (fun h=> .inr h),?_⟩;show eb E e (xs++ys) _ (aT (a.put o.dst _) t) _;rw [hd,dA a t t _ (c.lt t hd),if_pos rfl];exact ⟨h2,fun g h=>h⟩
theorem dK {tag t t0:Nat} {R:aP→aP→Value→World→Prop} {x:Operand} (ht:s.tag=some tag) (hsl:s.slot=t) (hR:s.R=R) (hg:o.guard=none) (hd:o.dst=some t) (ho:o.op= .move x∨o.op= .assign x)
    (hp:∀done a w τ,Cx ops sp In a0 w0 bf j o done a w τ→R (fb τ w) (τ tag) (aT a t0) w∧a.eval x=aT a t0):Ob ops sp In a0 w0 P bf j o s:=by
  refine ey hg ht fun done a w τ c=> ?_;obtain ⟨h1,hx⟩:=hp done a w τ c;have hr:cp P a o w (aT a t0):=by
    rcases ho with ho | ho
    · exact aJ ho hx
    · exact ar ho hx
  refine fP hr ⟨_,rfl,Ext.refl _ _,τ tag,fun g h=> .inl h,?_⟩;rw [hsl,hd,dA a t t _ (c.lt t hd),if_pos rfl];have e1:nn τ tag (τ tag)=τ:=by
    funext t g;unfold nn;split
    · rename_i e;rw [e]
    · rfl
  rw [e1,hR];exact h1
def fA (P:Program) (a:Act) (o:Oper) (w:World) (f:FuncId) (args:Array Value):Prop:=(execOp a.eval o).run P w= .ok (.enter f args) w
theorem mH {a:Act} {w:World} {x:Operand} {as0:Array Operand} {ts:Array TypeId} {f:FuncId} {caps args:Array Value} (ho:o.op= .call { callee:= .value x,args:=as0,argTypes:=ts }) (hx:a.eval x= .func (.func f) #[] caps)
    (hcall:∀args w,(callFunc f args).run P w= .ok (.enter f args) w) (has:as0.map a.eval++caps=args):fA P a o w f args:=by
  subst has;simp only [fA,execOp,ho,resolve,hx,Deferred.ofValue,Sem.run_bind,Sem.run_pure,Result.andThen_ok,invoke,hcall];simp
theorem CC {t:Nat} {v:Value} (hs:s=B.det N t v) (hg:o.guard=none) (hd:o.dst=some t)
    (h:∀done a w τ,Cx ops sp In a0 w0 bf j o done a w τ→∃f args,fA P a o w f args∧Calls P f args w (fun e w'=>e= .returned v∧Ext bc w w')):Ob ops sp In a0 w0 P bf j o s:=
  tG hg fun done a w τ c=>by
    obtain ⟨f,args,h1,h2⟩:=h done a w τ c;subst hs;unfold Oper.wp;rw [h1];refine h2.mono fun e w' ⟨he,hx⟩=> ?_;subst he;refine ⟨v,rfl,hx,?_⟩;show aT (a.put o.dst v) t=v;rw [hd,dA a t t v (c.lt t hd),if_pos rfl]
theorem zU {t gi tg:Nat} {want b:Bool} {pc:Prop} {v:Value} (hs:s=B.gdet N t pc v) (hg:o.guard=some (gi,want)) (hd:o.dst=some t) (hgd:((ops[gi]?).bind (·.dst))=some tg)
    (hgs:sp[gi]? =some (B.det N tg (.bool b))) (hb:(bf.getD j 0).testBit gi=true) (hpc:pc↔b=want)
    (h:∀done a w τ,Cx ops sp In a0 w0 bf j o done a w τ→pc→∃f args,fA P a o w f args∧Calls P f args w (fun e w'=>e= .returned v∧Ext bc w w')):Ob ops sp In a0 w0 P bf j o s:=by
  intro done a w τ c;have hv:aT a tg= .bool b:=c.v gi hgs hb;have hw:Region.wanted o (yielded ops a.tmps)=(b==want):=by
    have:a.tmps[tg]? =some (.bool b):=by
      unfold aT at hv;rw [aW] at hv;cases h':a.tmps[tg]? with
      | none => rw [h'] at hv; simp [undef] at hv
      | some u => rw [h'] at hv; simp at hv; rw [hv]
    cases b <;> cases want <;> simp [Region.wanted,hg,yielded,hgd,this]
  subst hs;refine ⟨fun hw'=> ?_,fun hw'=> ?_⟩
  · rw [hw] at hw';have hp:pc:=hpc.2 (by simpa using hw');obtain ⟨f,args,h1,h2⟩:=h done a w τ c hp;unfold Oper.wp;rw [h1];refine h2.mono fun e w' ⟨he,hx⟩=> ?_;subst he;refine ⟨v,rfl,hx,?_⟩;show (pc→aT (a.put o.dst v) t=v)∧(¬pc→aT (a.put o.dst v) t=undef);rw [hd,dA a t t v (c.lt t hd),if_pos rfl];exact ⟨fun _=>rfl,fun hn=>absurd hp hn⟩
  · rw [hw] at hw';have hp:¬pc:=fun hp=>by rw [hpc.1 hp] at hw';simp at hw'
    refine ⟨Ext.refl _ _,?_⟩;show (pc→aT (a.put o.dst undef) t=v)∧(¬pc→aT (a.put o.dst undef) t=undef);rw [hd,dA a t t undef (c.lt t hd),if_pos rfl];exact ⟨fun h=>absurd h hp,fun _=>rfl⟩
theorem yC {t gi tg:Nat} {want b:Bool} {pc pg:Prop} {v:Value} (hs:s=B.gdet N t pc v) (hg:o.guard=some (gi,want)) (hd:o.dst=some t) (hgd:((ops[gi]?).bind (·.dst))=some tg)
    (hgs:sp[gi]? =some (B.gdet N tg pg (.bool b))) (hb:(bf.getD j 0).testBit gi=true) (hpc:pc↔(pg∧b=want))
    (h:∀done a w τ,Cx ops sp In a0 w0 bf j o done a w τ→pc→∃f args,fA P a o w f args∧Calls P f args w (fun e w'=>e= .returned v∧Ext bc w w')):Ob ops sp In a0 w0 P bf j o s:=by
  intro done a w τ c;have hv:(pg→aT a tg= .bool b)∧(¬pg→aT a tg=undef):=c.J.det gi _ hgs rfl (c.pre gi hb);subst hs;by_cases hpg:pg
  · have hv':=hv.1 hpg;have hw:Region.wanted o (yielded ops a.tmps)=(b==want):=by
      have:a.tmps[tg]? =some (.bool b):=by
        unfold aT at hv';rw [aW] at hv';cases h':a.tmps[tg]? with
        | none => rw [h'] at hv'; simp [undef] at hv'
        | some u => rw [h'] at hv'; simp at hv'; rw [hv']
      cases b <;> cases want <;> simp [Region.wanted,hg,yielded,hgd,this]
    refine ⟨fun hw'=> ?_,fun hw'=> ?_⟩
    · rw [hw] at hw';have hp:pc:=hpc.2 ⟨hpg,by simpa using hw'⟩;obtain ⟨f,args,h1,h2⟩:=h done a w τ c hp;unfold Oper.wp;rw [h1];refine h2.mono fun e w' ⟨he,hx⟩=> ?_;subst he;refine ⟨v,rfl,hx,?_⟩;show (pc→aT (a.put o.dst v) t=v)∧(¬pc→aT (a.put o.dst v) t=undef);rw [hd,dA a t t v (c.lt t hd),if_pos rfl];exact ⟨fun _=>rfl,fun hn=>absurd hp hn⟩
    · rw [hw] at hw';have hp:¬pc:=fun hp=>by rw [(hpc.1 hp).2] at hw';simp at hw'
      refine ⟨Ext.refl _ _,?_⟩;show (pc→aT (a.put o.dst undef) t=v)∧(¬pc→aT (a.put o.dst undef) t=undef);rw [hd,dA a t t undef (c.lt t hd),if_pos rfl];exact ⟨fun h=>absurd h hp,fun _=>rfl⟩
  · have hv':=hv.2 hpg;have hw:Region.wanted o (yielded ops a.tmps)=false:=by
      have:∀bb,a.tmps[tg]? ≠some (.bool bb):=by
        intro bb h';unfold aT at hv';rw [aW,h'] at hv';simp [undef] at hv'
      have hy:yielded ops a.tmps gi=none:=by
        cases h':a.tmps[tg]? with
        | none => simp [yielded, hgd, h']
        | some u => cases u <;> first | exact absurd h' (this _) | simp [yielded, hgd, h']
      simp [Region.wanted,hg,hy]
    have hp:¬pc:=fun hp=>hpg (hpc.1 hp).1;refine ⟨fun hw'=>(by rw [hw] at hw';cases hw'),fun _=>⟨Ext.refl _ _,?_⟩⟩;show (pc→aT (a.put o.dst undef) t=v)∧(¬pc→aT (a.put o.dst undef) t=undef);rw [hd,dA a t t undef (c.lt t hd),if_pos rfl];exact ⟨fun h=>absurd h hp,fun _=>rfl⟩
theorem jv {tag:Nat} (hg:o.guard=none) (ht:s.tag=some tag)
    (h:∀done a w τ,Cx ops sp In a0 w0 bf j o done a w τ→∃f args,fA P a o w f args∧Calls P f args w (fun e w'=>∃v,e= .returned v∧Ext (τ tag) w w'∧∃T':aP,(∀g,T' g→τ tag g∨(w.heap.size≤g∧g < w'.heap.size))∧s.R (fb (nn τ tag T') w') T' (aT (a.put o.dst v) s.slot) w')):Ob ops sp In a0 w0 P bf j o s:=
  ey hg ht fun done a w τ c=>by
    obtain ⟨f,args,h1,h2⟩:=h done a w τ c;unfold Oper.wp;rw [h1];refine h2.mono fun e w' ⟨v,he,h3⟩=> ?_;subst he;exact ⟨v,rfl,h3⟩
theorem qV {α:Type} {E:Enc α} {ty tag t:Nat} {xs:List α} (hs:s=own E ty N tag t xs) (hg:o.guard=none) (hd:o.dst=some t)
    (h:∀done a w τ,Cx ops sp In a0 w0 bf j o done a w τ→∃f args,fA P a o w f args∧Calls P f args w (fun e w'=>∃v,e= .returned v∧Ext bc w w'∧oT E ty w w' v xs)):Ob ops sp In a0 w0 P bf j o s:=by
  subst hs;refine jv (tag:=tag) hg rfl fun done a w τ c=> ?_;obtain ⟨f,args,h1,h2⟩:=h done a w τ c;refine ⟨f,args,h1,h2.mono fun e w' ⟨v,he,hx,ho⟩=>⟨v,he,hx.mono (fun _ _ h=>h.elim),fun g=>v.ownBlock=some g,fun g hg=> .inr ⟨ho.2 g hg,ho.1.lt g hg⟩,?_⟩⟩;show eb E ty xs _ (aT (a.put o.dst v) t) w';rw [hd,dA a t t v (c.lt t hd),if_pos rfl];exact ⟨ho.1,fun g h=>h⟩
end obs
structure St (N:aP) (W0:World) (n:Nat) (a:Act) (w:World) (τ:Nat→aP):Prop where
  defers:a.defers=[]
  size:a.tmps.size=n
  ext:Ext N W0 w
  big:∀k,w.heap.size≤k→N k
  disj:∀s t g,τ s g→τ t g→s=t
  bnd:∀t g,τ t g→N g∧g < w.heap.size
def eI {N:aP} (l:List (Ini N)) (t:Nat):Ini N:=l.getD t (Ini.any N)
def qW {N:aP} (τ:Nat→aP) (w:World):Nat→List (Ini N)→Prop
  | _, [] => True
  | k, i :: l => i.I (fb τ w) (τ k) w ∧ qW τ w (k + 1) l
theorem nA {N:aP} {τ:Nat→aP} {w:World}:∀{l:List (Ini N)} {k:Nat},qW τ w k l→∀t,(l.getD t (Ini.any N)).I (fb τ w) (τ (k+t)) w
  | [], _, _, t => trivial
  | i :: l, k, h, 0 => h.1
  | i :: l, k, h, t + 1 => by
    have:=nA h.2 t;rwa [show k+(t+1)=k+1+t by omega]
def jK (ops:List Oper) (t:Nat):Bool:=ops.all fun o=>o.dst !=some t
structure Fin {N:aP} (l:List Oper) (sp:List (Spec N)) (il:List (Ini N)) (a0 a:Act) (w:World) (τ:Nat→aP):Prop where
  same:∀t,jK l t=true→aT a t=aT a0 t
  det:∀(j:Nat) (s:Spec N),sp[j]? =some s→s.tag=none→s.R (fb τ w) bc (aT a s.slot) w
  res:∀(j t:Nat) (s:Spec N),sp[j]? =some s→s.tag=some t→bH (sp.map (·.tag)) t sp.length=some j→s.R (fb τ w) (τ t) (aT a s.slot) w
  ini:∀t,bH (sp.map (·.tag)) t sp.length=none→(eI il t).I (fb τ w) (τ t) w
theorem Fin.old {N:aP} {l:List Oper} {sp:List (Spec N)} {il:List (Ini N)} {a0 a:Act} {w:World} {τ:Nat→aP} (h:Fin l sp il a0 a w τ) {t:Nat} {v:Value} (h0:aT a0 t=v) (hu:jK l t=true):aT a t=v:=(h.same t hu).trans h0
theorem Fin.v {N:aP} {l:List Oper} {sp:List (Spec N)} {il:List (Ini N)} {a0 a:Act} {w:World} {τ:Nat→aP} (h:Fin l sp il a0 a w τ) (j:Nat) {t:Nat} {v:Value} (hs:sp[j]? =some (B.det N t v)):aT a t=v:=h.det j _ hs rfl
theorem yD {N:aP} {n:Nat} {W0:World} {P:Program} {l:List Oper} {sp:List (Spec N)} (il:List (Ini N)) {a0:Act} {w0:World} {τ0:Nat→aP} {bf:List Nat} {id:Nat} {draw:Bool} (hm:P.follows .mixedOrders=true)
    {Q:Exit→Act→World→Prop} (hst:St N W0 n a0 w0 τ0) (hok:(ni l.toArray n&&qo l.toArray bf&&nw l.toArray bf (sp.map (·.slot)) (sp.map (·.tag)))=true)
    (hini:qW τ0 w0 0 il) (obs:oC l.toArray sp (eI il) a0 w0 P bf 0 l sp)
    (fin:∀a w τ,St N W0 n a w τ→Fin l sp il a0 a w τ→Q .normal a w):(Code.region id l.toArray draw).wp P Q a0 w0:=by
  have hlen:sp.length=l.length:=by
    simp only [aw] at hok;have h3:=hok.2;unfold nw at h3;simp only [aw,fR,beq_iff_eq] at h3;simpa using h3.1.1
  refine zQ (N:=N) (ini:=eI il) (τ:=τ0) hm (by rw [hst.size];exact hok) hst.big hst.disj hst.bnd (fun t=> ?_) obs fun done a w τ hd hJ=> ?_
  · have:=nA hini t;rwa [gV] at this
  · refine fin a w τ ⟨hJ.defers.trans hst.defers,hJ.size.trans hst.size,hst.ext.trans hJ.ext,hJ.big,hJ.disj,hJ.bnd⟩ ⟨fun t ht=> ?_,fun j s hs ht=> ?_,fun j t s hs ht hl=> ?_,fun t hl=> ?_⟩
    · refine hJ.un t fun i o hi hdst=> ?_;exfalso;unfold jK at ht;rw [cY] at ht;have:=ht o (gX (by simpa using hi));simp [hdst] at this
    · exact hJ.det j s hs ht (hd j (by rw [←hlen];exact (List.getElem?_eq_some_iff.1 hs).1))
    · obtain ⟨h1,h2,h3⟩:=kU hl;refine hJ.res j s t hs ht (hd j (by omega)) fun k s' hk hlt hkt=> ?_;exact absurd (by rw [ju hk];exact hkt) (h3 k hlt (List.getElem?_eq_some_iff.1 hk).1)
    · refine hJ.ini t fun k s' hk hkt=> ?_;exact absurd (by rw [ju hk];exact hkt) (kV hl k (List.getElem?_eq_some_iff.1 hk).1)
end
section
open Go.RowKit
def Nw (w:World):aP:=fun k=>w.heap.size≤k
theorem enter {P:Program} {f:FuncId} {fn:Func} {c:Code} {args:Array Value} {w:World} {R:Ending→World→Prop} {n:Nat} (hf:P.funcs[f]? =some fn) (hb:fn.body=some c) (hn:fn.ntmps=n) (hle:args.size≤n)
    (h:∀a τ,(∀i v,args[i]? =some v→aT a i=v)→St (Nw w) w n a w τ→c.wp P (bodyPost P fn R) a w):Calls P f args w R:=by
  refine calls_of_wp hf hb (h _ (fun _ _=>False) (fun i v hi=> ?_) ⟨rfl,?_,Ext.refl _ _,fun k hk=>hk,fun s t g h=>h.elim,fun t g h=>h.elim⟩)
  · unfold aT;have hlt:i < args.size:=(Array.getElem?_eq_some_iff.1 hi).1
    rw [aW,lg hlt,hi];rfl
  · simp [hn];omega
theorem ez {P:Program} {f:FuncId} {fn:Func} {c:Code} {args:Array Value} {w:World} {R:Ending→World→Prop} {n:Nat} (T:aP) (hT:∀g,T g→g < w.heap.size) (hf:P.funcs[f]? =some fn) (hb:fn.body=some c) (hn:fn.ntmps=n) (hle:args.size≤n)
    (h:∀a τ,(∀i v,args[i]? =some v→aT a i=v)→τ 0=T→St (fun k=>T k∨w.heap.size≤k) w n a w τ→c.wp P (bodyPost P fn R) a w):Calls P f args w R:=by
  refine calls_of_wp hf hb (h _ (fun t g=>t=0∧T g) (fun i v hi=> ?_) (by funext g;simp) ⟨rfl,?_,Ext.refl _ _,fun k hk=> .inr hk,fun s t g h1 h2=>by rw [h1.1,h2.1],fun t g h=>⟨.inl h.2,hT g h.2⟩⟩)
  · unfold aT;have hlt:i < args.size:=(Array.getElem?_eq_some_iff.1 hi).1
    rw [aW,lg hlt,hi];rfl
  · simp [hn];omega
theorem cH {P:Program} {fn:Func} {R:Ending→World→Prop} {a:Act} {w:World} {t:Nat} {v:Value} (hr:fn.results=#[.tmp t]) (hd:a.defers=[]) (hv:aT a t=v) (h:R (.returned v) w):bodyPost P fn R .ret a w:=
  bodyPost_ret (v:=v) (by rw [results_tmp hr];exact congrArg (fun v=>Result.ok v w) hv) hd h
theorem GY {P:Program} {fn:Func} {R:Ending→World→Prop} {a:Act} {w:World} (hr:fn.results=#[]) (hd:a.defers=[]) (h:R (.returned (.tuple #[])) w):bodyPost P fn R .normal a w:=
  bodyPost_end (results_none hr _ _ _) hd h
theorem jE {P:Program} {fn:Func} {R:Ending→World→Prop} {a:Act} {w:World} {t t':Nat} {v v':Value} (hr:fn.results=#[.tmp t,.tmp t']) (hd:a.defers=[]) (hv:aT a t=v) (hv':aT a t'=v') (h:R (.returned (.tuple #[v,v'])) w):bodyPost P fn R .ret a w:=
  bodyPost_ret (v:= .tuple #[v,v']) (by rw [results_tmp2 hr];exact (by rw [←hv,←hv'];rfl)) hd h
theorem St.ext0 {n:Nat} {W:World} {a:Act} {w:World} {τ:Nat→aP} (h:St (Nw W) W n a w τ):Ext bc W w:=
  ⟨h.ext.os,h.ext.tape,h.ext.output,h.ext.size,fun k hk _=>h.ext.block k hk (fun hn:W.heap.size≤k=>by omega)⟩
theorem SlT.at {α:Type} {E:Enc α} {W w:World} {v:Value} {xs:List α} (h:SlT E W v xs) (he:Ext (Nw W) W w):SlT E w v xs:=
  h.keep he fun hne hn=>by have:=h.lt hne;simp only [Nw] at hn;omega
def nth {α:Type} [Inhabited α] (xs:List α) (i:Int):α:=xs.getD i.toNat default
theorem bu {α:Type} [Inhabited α] {xs:List α} {i:Int} (h0:0≤i) (h1:i < xs.length):xs[i.toNat]? =some (nth xs i):=by
  have:i.toNat < xs.length:=by omega
  simp [nth,List.getD,bE this]
theorem mI {α:Type} [Inhabited α] (xs:List α) (k:Nat):nth xs (k:Int)=xs.getD k default:=rfl
section
variable {N:aP} {P:Program} {ops:Array Oper} {sp:List (Spec N)} {In:Nat→Ini N} {a0:Act} {w0:World} {bf:List Nat} {j:Nat} {o:Oper} {done:Nat→Bool} {a:Act} {w:World} {τ:Nat→aP}
theorem Cx.ev (c:Cx ops sp In a0 w0 bf j o done a w τ) (i:Nat) {t:Nat} {val:Value} (hs:sp[i]? =some (B.det N t val)) (hb:(bf.getD j 0).testBit i=true):a.eval (.tmp t)=val:=c.v i hs hb
theorem Cx.eg (c:Cx ops sp In a0 w0 bf j o done a w τ) (i:Nat) {t:Nat} {pc:Prop} {val:Value} (hs:sp[i]? =some (B.gdet N t pc val)) (hb:(bf.getD j 0).testBit i=true) (hpc:pc):a.eval (.tmp t)=val:=c.g i hs hb hpc
theorem Cx.eo (c:Cx ops sp In a0 w0 bf j o done a w τ) {t:Nat} {val:Value} (h0:aT a0 t=val) (h:xq ops bf j t=true):a.eval (.tmp t)=val:=c.old h0 h
theorem Cx.ibox {ty:Nat} {v:Value} {cells:List Value} (c:Cx ops sp In a0 w0 bf j o done a w τ) (t:Nat) (hI:In t=B.ibox ty N v cells) (hl:bH (sp.map (·.tag)) t j=none) (hord:jD (sp.map (·.tag)) bf t j=true):cd ty cells (τ t) v w:=
  c.ini t _ hI hl hord
theorem Cx.iown {α:Type} {E:Enc α} {ty:Nat} {v:Value} {xs:List α} (c:Cx ops sp In a0 w0 bf j o done a w τ) (t:Nat) (hI:In t=B.iown E ty N v xs) (hl:bH (sp.map (·.tag)) t j=none) (hord:jD (sp.map (·.tag)) bf t j=true):eb E ty xs (τ t) v w:=
  c.ini t _ hI hl hord
theorem Cx.rbox {ty t slot:Nat} {cells:List Value} (c:Cx ops sp In a0 w0 bf j o done a w τ) (i:Nat) (hs:sp[i]? =some (B.box ty N t slot cells)) (hl:bH (sp.map (·.tag)) t j=some i) (hord:jD (sp.map (·.tag)) bf t j=true):cd ty cells (τ t) (aT a slot) w:=
  c.res i t _ hs hl hord
theorem Cx.rown {α:Type} {E:Enc α} {ty t slot:Nat} {xs:List α} (c:Cx ops sp In a0 w0 bf j o done a w τ) (i:Nat) (hs:sp[i]? =some (B.own E ty N t slot xs)) (hl:bH (sp.map (·.tag)) t j=some i) (hord:jD (sp.map (·.tag)) bf t j=true):eb E ty xs (τ t) (aT a slot) w:=
  c.res i t _ hs hl hord
end
section
variable {N:aP} {l:List Oper} {sp:List (Spec N)} {il:List (Ini N)} {a0 a:Act} {w:World} {τ:Nat→aP}
theorem Fin.rbox (h:Fin l sp il a0 a w τ) {ty t slot:Nat} {cells:List Value} (j:Nat) (hs:sp[j]? =some (B.box ty N t slot cells)) (hl:bH (sp.map (·.tag)) t sp.length=some j) {v:Value} (hv:aT a slot=v):cd ty cells (τ t) v w:=
  hv ▸ h.res j t _ hs rfl hl
theorem Fin.rown (h:Fin l sp il a0 a w τ) {α:Type} {E:Enc α} {ty t slot:Nat} {xs:List α} (j:Nat) (hs:sp[j]? =some (B.own E ty N t slot xs)) (hl:bH (sp.map (·.tag)) t sp.length=some j) {v:Value} (hv:aT a slot=v):eb E ty xs (τ t) v w:=
  hv ▸ h.res j t _ hs rfl hl
theorem Fin.ibox (h:Fin l sp il a0 a w τ) {ty:Nat} {v:Value} {cells:List Value} (t:Nat) (hI:eI il t=B.ibox ty N v cells) (hl:bH (sp.map (·.tag)) t sp.length=none):cd ty cells (τ t) v w:=by
  have:=h.ini t hl;rw [hI] at this
  exact this
theorem Fin.iown (h:Fin l sp il a0 a w τ) {α:Type} {E:Enc α} {ty:Nat} {v:Value} {xs:List α} (t:Nat) (hI:eI il t=B.iown E ty N v xs) (hl:bH (sp.map (·.tag)) t sp.length=none):eb E ty xs (τ t) v w:=by
  have:=h.ini t hl;rw [hI] at this
  exact this
end
theorem eb.cast {α:Type} {E:Enc α} {ty:Nat} {xs ys:List α} {T:aP} {v:Value} {w:World} (h:eb E ty xs T v w) (e:ys=xs):eb E ty ys T v w:=e ▸ h
theorem eb.nil {α:Type} (E:Enc α) (ty:Nat) (T:aP) (w:World):eb E ty ([]:List α) T (.slice none 0 0) w:=⟨iZ.nil E ty w,fun g h=>by simp [Value.ownBlock] at h⟩
theorem eb.isSl {α:Type} {E:Enc α} {ty:Nat} {xs:List α} {T:aP} {v:Value} {w:World} (h:eb E ty xs T v w):mG v xs.length:=h.1.sl.sl
theorem SlT.le {α:Type} {E:Enc α} {xs:List α} {v:Value} {w:World} (h:SlT E w v xs):xs.length≤9223372036854775807:=h.sl.le
theorem eb.le {α:Type} {E:Enc α} {ty:Nat} {xs:List α} {T:aP} {v:Value} {w:World} (h:eb E ty xs T v w):xs.length≤9223372036854775807:=h.1.sl.sl.le
theorem cr {id:Nat} {Q:Exit→Act→World→Prop} {a:Act} {w:World} (h:Q .normal a w):Exit.inBlock id Q (.exit id) a w:=by simpa [Exit.inBlock] using h
theorem zV {id id':Nat} {Q:Exit→Act→World→Prop} {a:Act} {w:World} (hne:id'≠id) (h:Q (.exit id') a w):Exit.inBlock id Q (.exit id') a w:=by simpa [Exit.inBlock,hne] using h
theorem bd {k:IntKind} {p q:Int} (h:p=q):Value.int k p=Value.int k q:=h ▸ rfl
section
variable {P:Program} {a:Act} {o:Oper} {w:World} {x:Operand} {ts:Array TypeId} {f:FuncId}
theorem xu (ho:o.op= .call { callee:= .value x,args:=#[],argTypes:=ts }) (hx:a.eval x= .func (.func f) #[] #[]) (hcall:∀args w,(callFunc f args).run P w= .ok (.enter f args) w):fA P a o w f #[]:=
  mH ho hx hcall (by simp)
theorem bq {x1:Operand} {v1:Value} (ho:o.op= .call { callee:= .value x,args:=#[x1],argTypes:=ts }) (hx:a.eval x= .func (.func f) #[] #[]) (hcall:∀args w,(callFunc f args).run P w= .ok (.enter f args) w) (h1:a.eval x1=v1):fA P a o w f #[v1]:=
  mH ho hx hcall (by simp [h1])
theorem co {x1 x2:Operand} {v1 v2:Value} (ho:o.op= .call { callee:= .value x,args:=#[x1,x2],argTypes:=ts }) (hx:a.eval x= .func (.func f) #[] #[]) (hcall:∀args w,(callFunc f args).run P w= .ok (.enter f args) w) (h1:a.eval x1=v1) (h2:a.eval x2=v2):fA P a o w f #[v1,v2]:=
  mH ho hx hcall (by simp [h1,h2])
theorem gB {x1 x2 x3:Operand} {v1 v2 v3:Value} (ho:o.op= .call { callee:= .value x,args:=#[x1,x2,x3],argTypes:=ts }) (hx:a.eval x= .func (.func f) #[] #[]) (hcall:∀args w,(callFunc f args).run P w= .ok (.enter f args) w) (h1:a.eval x1=v1) (h2:a.eval x2=v2) (h3:a.eval x3=v3):fA P a o w f #[v1,v2,v3]:=
  mH ho hx hcall (by simp [h1,h2,h3])
theorem eq {x1 x2 x3 x4:Operand} {v1 v2 v3 v4:Value} (ho:o.op= .call { callee:= .value x,args:=#[x1,x2,x3,x4],argTypes:=ts }) (hx:a.eval x= .func (.func f) #[] #[]) (hcall:∀args w,(callFunc f args).run P w= .ok (.enter f args) w) (h1:a.eval x1=v1) (h2:a.eval x2=v2) (h3:a.eval x3=v3) (h4:a.eval x4=v4):fA P a o w f #[v1,v2,v3,v4]:=
  mH ho hx hcall (by simp [h1,h2,h3,h4])
theorem mJ {x1 x2 x3 x4 x5:Operand} {v1 v2 v3 v4 v5:Value} (ho:o.op= .call { callee:= .value x,args:=#[x1,x2,x3,x4,x5],argTypes:=ts }) (hx:a.eval x= .func (.func f) #[] #[]) (hcall:∀args w,(callFunc f args).run P w= .ok (.enter f args) w) (h1:a.eval x1=v1) (h2:a.eval x2=v2) (h3:a.eval x3=v3) (h4:a.eval x4=v4) (h5:a.eval x5=v5):fA P a o w f #[v1,v2,v3,v4,v5]:=
  mH ho hx hcall (by simp [h1,h2,h3,h4,h5])
end
def bP:Enc (Int × Int):=⟨fun p=> [.int .i64 p.1,.int .i64 p.2],2,by decide,fun _=>rfl,fun x u hu=>by simp at hu;rcases hu with rfl | rfl <;> rfl⟩
def gl:Enc Int:=⟨fun p=> [.int .i64 p],1,by decide,fun _=>rfl,fun x u hu=>by simp at hu;rcases hu with rfl;rfl⟩
def fq:Enc ByteArray:=⟨fun p=> [.string p],1,by decide,fun _=>rfl,fun x u hu=>by simp at hu;rcases hu with rfl;rfl⟩
def ik:Enc (ByteArray × ByteArray):=⟨fun p=> [.string p.1,.string p.2],2,by decide,fun _=>rfl,fun x u hu=>by simp at hu;rcases hu with rfl | rfl <;> rfl⟩
def lK (p:Int × Int):Value:= .agg #[.int .i64 p.1,.int .i64 p.2]
end
section
open Go.RowKit
def ja (l:List Value) (o:Nat) (vs:List Value):List Value:=l.take o++vs++l.drop (o+vs.length)
theorem pX {l r vs:List Value} {o:Nat} (h:o+vs.length≤l.length):ja (l++r) o vs=ja l o vs++r:=by
  unfold ja;rw [ix (by omega),List.drop_append_of_le_length (by omega)];simp
theorem uS {l r vs:List Value} {o:Nat}:ja (l++r) (l.length+o) vs=l++ja r o vs:=by
  unfold ja;rw [jj,md];rw [bF (by omega),dV (by omega),show l.length+o - l.length=o by omega,show l.length+o+vs.length - l.length=o+vs.length by omega];simp
theorem Enc.row_set {α:Type} (E:Enc α) {xs:List α} {i off:Nat} {x x':α} {vs:List Value} (hx:xs[i]? =some x) (hl:off+vs.length≤E.sz) (hc:E.cells x'=ja (E.cells x) off vs):ja (E.row xs) (i * E.sz+off) vs=E.row (xs.set i x'):=by
  induction xs generalizing i with
  | nil => simp at hx
  | cons y ys ih =>
    have e:E.row (y::ys)=E.cells y++E.row ys:=by simp [Enc.row]
    cases i with
    | zero =>
      simp at hx;subst hx;rw [e,show 0 * E.sz+off=off by omega,pX (by rw [E.len];exact hl),←hc];simp [Enc.row]
    | succ i =>
      rw [e,show (i+1) * E.sz+off=(E.cells y).length+(i * E.sz+off) by rw [E.len,fS];omega,uS,ih (by simpa using hx)];simp [Enc.row]
theorem uT {l vs:List Value} {o n:Nat} (h:o+vs.length≤n) (hn:n≤l.length):(ja l o vs).take n=ja (l.take n) o vs:=by
  have e:l=l.take n++l.drop n:=(fV n l).symm;have hl:(l.take n).length=n:=by simp;omega
  conv=>lhs;rw [e]
  rw [pX (by omega)];have h2:(ja (l.take n) o vs).length=n:=by simp [ja];omega
  rw [ix (by omega),bF (by omega)]
section
variable {α:Type} {E:Enc α} {ty:Nat} {P:Program} {w:World}
theorem lS {v u:Value} {xs:List α} {i off tt:Nat} {x x':α} (h:iZ E ty w v xs) (hx:xs[i]? =some x) (hsz:∀w,(sizeOf tt).run P w= .ok u.cells.size w) (hl:off+u.cells.size≤E.sz) (h1:∀c ∈ u.cells.toList,c.oneCell'=true)
    (hc:E.cells x'=ja (E.cells x) off u.cells.toList):
    ∃w',(Instr.storeAt tt (.pointer (some ((cW v).add (i * E.sz+off)))) u).run P w= .ok () w'∧iZ E ty w' v (xs.set i x')∧Ext (fun k=>v.ownBlock=some k) w w':=by
  have hi:i < xs.length:=(List.getElem?_eq_some_iff.1 hx).1
  rcases h.2 with ⟨rfl,h0⟩ | ⟨g,cap,cur,rfl,hb,hg,h2,h3,h4,h5⟩
  · omega
  · have hmul:(i+1) * E.sz≤xs.length * E.sz:=gW _ hi;have hmul2:xs.length * E.sz≤cap * E.sz:=gW _ h2;rw [fS] at hmul;have hfit:i * E.sz+off+u.cells.size≤cur.size:=by omega
    have hr:=run_store (P:=P) (t:=tt) (off:=i * E.sz+off) hg hsz hfit h1;refine ⟨_,by simp only [cW,lJ];exact hr,⟨by rw [E.row_length,dR],.inr ⟨g,cap,_,by rw [dR],hb,setRow_heap w g cur _ ty _ hg,by rw [dR];exact h2,h3,?_,?_⟩⟩,?_⟩
    · simp only [jT,ci,dE,es,fl];omega
    · rw [dR,←E.row_set hx (by simpa using hl) hc,←h5];have:=uT (l:=cur.toList) (vs:=u.cells.toList) (o:=i * E.sz+off) (n:=xs.length * E.sz) (by simp;omega) (by simp;omega);rw [←this];simp [ja]
    · exact (iG w g _).mono fun k _ h=>by rw [h];rfl
end
section obs
variable {N:aP} {P:Program} {ops:Array Oper} {sp:List (Spec N)} {In:Nat→Ini N} {a0:Act} {w0:World} {bf:List Nat} {j:Nat} {o:Oper} {s:Spec N}
theorem mK {α:Type} {E:Enc α} {ty tag t tt i off:Nat} {xs:List α} {x x':α} {p q:Operand} {u:Value} (hs:s=own E ty N tag t (xs.set i x')) (hg:o.guard=none) (hd:o.dst=none) (ho:o.op= .store tt p q) (hsz:∀w,(sizeOf tt).run P w= .ok u.cells.size w)
    (hx:xs[i]? =some x) (hl:off+u.cells.size≤E.sz) (h1:∀c ∈ u.cells.toList,c.oneCell'=true) (hc:E.cells x'=ja (E.cells x) off u.cells.toList)
    (hp:∀done a w τ,Cx ops sp In a0 w0 bf j o done a w τ→eb E ty xs (τ tag) (aT a t) w∧a.eval p= .pointer (some ((cW (aT a t)).add (i * E.sz+off)))∧a.eval q=u):Ob ops sp In a0 w0 P bf j o s:=by
  subst hs;refine ey hg rfl fun done a w τ c=> ?_;obtain ⟨⟨hown,hT⟩,hp',hq⟩:=hp done a w τ c;obtain ⟨w',hr,h2,h3⟩:=lS (P:=P) (tt:=tt) hown hx hsz hl h1 hc;have hr':(execOp a.eval o).run P w= .ok .skip w':=by
    simp only [execOp,ho,hp',hq,Sem.run_bind,hr,Result.andThen_ok];rfl
  refine iH hr' ⟨undef,rfl,h3.mono (fun k _ h=>hT k h),τ tag,fun g h=> .inl h,?_⟩;show eb E ty (xs.set i x') _ (aT (a.put o.dst _) t) _;rw [hd,jX];exact ⟨h2,hT⟩
end obs
theorem zW {K:Act→World→Prop} {Q:Exit→Act→World→Prop} {a:Act} {w:World} (h:Q .ret a w):Exit.then K Q .ret a w:=h
theorem yE {id:Nat} {Q:Exit→Act→World→Prop} {a:Act} {w:World} (h:Q .ret a w):Exit.inBlock id Q .ret a w:=h
theorem cn {id:Nat} {K:Act→World→Prop} {Q:Exit→Act→World→Prop} {a:Act} {w:World} (h:Q (.exit id) a w):Exit.then K Q (.exit id) a w:=h
theorem St.extIn {n:Nat} {T:aP} {W:World} {a:Act} {w:World} {τ:Nat→aP} (h:St (fun k=>T k∨W.heap.size≤k) W n a w τ):Ext T W w:=
  h.ext.mono fun k hk hn=>hn.resolve_right (by omega)
end
section
open Go.RowKit
def gp (v:Value) (lo hi m:Nat):Value:=match v with
  | .slice a _ cap => .slice (if cap = lo then a else a.map (·.add (lo * m))) (hi - lo) (cap - lo)
  | v => v
def isNil (v:Value):Bool:=match v with
  | .slice none _ _ => true
  | _ => false
section
variable {α:Type} {E:Enc α} {w:World} {v:Value} {xs:List α}
theorem Enc.row_drop (E:Enc α):∀(xs:List α) (n:Nat),E.row (xs.drop n)=(E.row xs).drop (n * E.sz)
  | xs, 0 => by simp
  | [], n + 1 => by simp [Enc.row]
  | x :: xs, n + 1 => by
    have e:E.row (x::xs)=E.cells x++E.row xs:=by simp [Enc.row]
    rw [List.drop_succ_cons,E.row_drop xs n,e,md,E.len,dV (l:=E.cells x) (by rw [E.len,fS];omega),fS,gu];congr 1;omega
theorem Enc.row_take (E:Enc α):∀(xs:List α) (n:Nat),E.row (xs.take n)=(E.row xs).take (n * E.sz)
  | xs, 0 => by simp [Enc.row]
  | [], n + 1 => by simp [Enc.row]
  | x :: xs, n + 1 => by
    have e:E.row (x::xs)=E.cells x++E.row xs:=by simp [Enc.row]
    have e':E.row (x::xs.take n)=E.cells x++E.row (xs.take n):=by simp [Enc.row]
    rw [List.take_succ_cons,e',E.row_take xs n,e,jj,E.len,bF (l:=E.cells x) (by rw [E.len,fS];omega),fS];congr 2;omega
theorem SlT.sub (h:SlT E w v xs) {lo hi:Nat} (h1:lo≤hi) (h2:hi≤xs.length):SlT E w (gp v lo hi E.sz) ((xs.drop lo).take (hi - lo)):=by
  have hl:((xs.drop lo).take (hi - lo)).length=hi - lo:=by simp;omega
  rcases h.sl with ⟨rfl,h0⟩ | ⟨b,cap,rfl,hc,hm⟩
  · obtain rfl:hi=0:=by omega
    obtain rfl:lo=0:=by omega
    exact ⟨.inl ⟨by simp [gp],by simp⟩,fun j u hj=>by simp [Enc.row] at hj⟩
  · refine ⟨.inr ⟨if cap=lo then b else b.add (lo * E.sz),cap - lo,?_,by rw [hl];omega,by omega⟩,fun j u hj=> ?_⟩
    · rw [hl];simp only [gp];split <;> rfl
    · have hne:¬cap=lo:=fun e=>by
        have:(xs.drop lo).take (hi - lo)=[]:=bV (by omega);rw [this] at hj;simp [Enc.row] at hj
      have hp:cW (gp (.slice (some b) xs.length cap) lo hi E.sz)=b.add (lo * E.sz):=by simp [gp,hne,cW]
      rw [hp,add_add];refine h.cell (lo * E.sz+j) u ?_;rw [E.row_take,E.row_drop] at hj;have hlt:j < (hi - lo) * E.sz:=by
        have:=(List.getElem?_eq_some_iff.1 hj).1;simp only [dE] at this;omega
      rw [ge hlt,jB] at hj;exact hj
theorem SlT.isNil (h:SlT E w v xs) (hn:isNil v=true):xs=[]:=by
  rcases h.sl with ⟨rfl,h0⟩ | ⟨b,cap,rfl,_⟩
  · exact bV h0
  · simp [B.isNil] at hn
end
section
variable {P:Program} {a:Act} {o:Oper} {w:World} {t e:TypeId} {x y z:Operand} {v:Value} {n m:Nat} {k k':IntKind} {p q:Int}
theorem sy (ho:o.op= .slice t x none (some y) none) (ht:P.underlying t=some (.slice e)) (hz:∀w,(sizeOf e).run P w= .ok m w) (hx:a.eval x=v) (hv:mG v n) (hy:a.eval y= .int k p) (h0:0≤p) (h1:p≤n):cp P a o w (gp v 0 p.toNat m):=by
  rcases hv with ⟨rfl,rfl⟩ | ⟨b,cap,rfl,hc,_⟩
  · obtain rfl:p=0:=by omega
    simp [cp,execOp,ho,hx,hy,Instr.sliceAt,Instr.slice,run_underlying ht,Instr.sliceBounds,Instr.sliceBound,asIntOf,hz,gp]
  · have h2:p≤cap:=by omega
    simp [cp,execOp,ho,hx,hy,Instr.sliceAt,Instr.slice,run_underlying ht,Instr.sliceBounds,Instr.sliceBound,asIntOf,hz,gp,h0,h2]
theorem pG (ho:o.op= .slice t x (some y) none none) (ht:P.underlying t=some (.slice e)) (hz:∀w,(sizeOf e).run P w= .ok m w) (hx:a.eval x=v) (hv:mG v n) (hy:a.eval y= .int k p) (h0:0≤p) (h1:p≤n):cp P a o w (gp v p.toNat n m):=by
  rcases hv with ⟨rfl,rfl⟩ | ⟨b,cap,rfl,hc,_⟩
  · obtain rfl:p=0:=by omega
    simp [cp,execOp,ho,hx,hy,Instr.sliceAt,Instr.slice,run_underlying ht,Instr.sliceBounds,Instr.sliceBound,asIntOf,hz,gp]
  · simp [cp,execOp,ho,hx,hy,Instr.sliceAt,Instr.slice,run_underlying ht,Instr.sliceBounds,Instr.sliceBound,asIntOf,hz,gp,h0,h1]
theorem kY (ho:o.op= .slice t x (some y) (some z) none) (ht:P.underlying t=some (.slice e)) (hz:∀w,(sizeOf e).run P w= .ok m w) (hx:a.eval x=v) (hv:mG v n) (hy:a.eval y= .int k p) (hq:a.eval z= .int k' q) (h0:0≤p) (h1:p≤q) (h2:q≤n):cp P a o w (gp v p.toNat q.toNat m):=by
  rcases hv with ⟨rfl,rfl⟩ | ⟨b,cap,rfl,hc,_⟩
  · obtain rfl:p=0:=by omega
    obtain rfl:q=0:=by omega
    simp [cp,execOp,ho,hx,hy,hq,Instr.sliceAt,Instr.slice,run_underlying ht,Instr.sliceBounds,Instr.sliceBound,asIntOf,hz,gp]
  · have h3:q≤cap:=by omega
    have h4:0≤q:=by omega
    have h5:p≤max q 0:=by omega
    simp [cp,execOp,ho,hx,hy,hq,Instr.sliceAt,Instr.slice,run_underlying ht,Instr.sliceBounds,Instr.sliceBound,asIntOf,hz,gp,h0,h3,h4,h1];intro h6;omega
theorem CD {t':TypeId} (ho:o.op= .binOp .eql t x (.const (.slice none 0 0)) t') (ht:P.underlying t=some (.slice e)) (hx:a.eval x=v) (hv:mG v n):cp P a o w (.bool (isNil v)):=by
  rcases hv with ⟨rfl,rfl⟩ | ⟨b,cap,rfl,hc,_⟩
  · have:=Lib.run_eql_slice_nil (P:=P) w t e none 0 0 0 0 ht;simp [cp,execOp,ho,hx,eqGuard,isNil,show a.eval (.const (.slice none 0 0))= .slice none 0 0 from rfl];simp only [this,Result.andThen_ok];rfl
  · have:=Lib.run_eql_slice_nil (P:=P) w t e (some b) n cap 0 0 ht;simp [cp,execOp,ho,hx,eqGuard,isNil,show a.eval (.const (.slice none 0 0))= .slice none 0 0 from rfl];simp only [this,Result.andThen_ok];rfl
theorem eF {l vs:List Value} {o n:Nat} (hv:vs=(l.drop o).take n) {j:Nat} {u:Value} (hj:vs[j]? =some u):l[o+j]? =some u:=by
  subst hv;have hlt:j < n:=by
    have:=(List.getElem?_eq_some_iff.1 hj).1;simp only [dE] at this;omega
  rw [ge hlt,jB] at hj;exact hj
theorem cp.isB {b b':Bool} (h:cp P a o w (.bool b)) (e:b=b'):cp P a o w (.bool b'):=e ▸ h
end
section
variable {N:aP} {W:World} {n:Nat} {a:Act} {w:World} {τ:Nat→aP}
def retag (τ:Nat→aP) (l:List (Nat × Nat)) (t:Nat):aP:=match l.lookup t with
  | some j => τ j
  | none => bc
theorem qX {l:List (Nat × Nat)} {t j:Nat} (h:l.lookup t=some j):(t,j) ∈ l:=by
  induction l with
  | nil => simp at h
  | cons p l ih =>
    obtain ⟨a,b⟩:=p;simp only [List.lookup_cons] at h;split at h
    · rename_i heq;simp at heq h;subst heq;subst h;exact List.mem_cons_self ..
    · exact List.mem_cons_of_mem _ (ih h)
theorem oH {l:List (Nat × Nat)} {t g:Nat} (h:retag τ l t g):∃j,l.lookup t=some j∧τ j g:=by
  unfold retag at h;cases hj:l.lookup t with
  | none => rw [hj] at h; exact h.elim
  | some j => rw [hj] at h; exact ⟨j, rfl, h⟩
theorem St.retag (h:St N W n a w τ) (l:List (Nat × Nat)) (hl:(l.all fun p=>l.all fun q=>p.2 !=q.2 || p.1==q.1)=true):St N W n a w (retag τ l):=by
  refine ⟨h.defers,h.size,h.ext,h.big,fun s t g h1 h2=> ?_,fun t g h1=> ?_⟩
  · obtain ⟨j,hj,h1⟩:=oH h1;obtain ⟨j',hj',h2⟩:=oH h2;have e:=h.disj j j' g h1 h2;subst e;rw [cY] at hl;have:=hl _ (qX hj);rw [cY] at this
    have:=this _ (qX hj')
    simpa using this
  · obtain ⟨j,hj,h1⟩:=oH h1;exact h.bnd _ g h1
end
section
variable {N:aP} {P:Program} {ops:Array Oper} {sp:List (Spec N)} {In:Nat→Ini N} {a0:Act} {w0:World} {bf:List Nat} {j:Nat} {o:Oper} {s:Spec N}
theorem CE {gi tg:Nat} {want:Bool} (hg:o.guard=some (gi,want)) (hgd:((ops[gi]?).bind (·.dst))=some tg) (hgs:sp[gi]? =some (B.det N tg (.bool want))) (hb:(bf.getD j 0).testBit gi=true)
    (h:Ob ops sp In a0 w0 P bf j { o with guard:=none } s):Ob ops sp In a0 w0 P bf j o s:=by
  intro done a w τ c;have c':Cx ops sp In a0 w0 bf j { o with guard:=none } done a w τ:=⟨c.J,c.hj,c.pre,c.post,c.lt⟩;have hw:=(h done a w τ c').1 (lI rfl _);refine ⟨fun _=>hw,fun hn=> ?_⟩;have hv:aT a tg= .bool want:=c.v gi hgs hb;have:a.tmps[tg]? =some (.bool want):=by
    unfold aT at hv;rw [aW] at hv;cases h':a.tmps[tg]? with
    | none => rw [h'] at hv; simp [undef] at hv
    | some u => rw [h'] at hv; simp at hv; rw [hv]
  exfalso;cases want <;> simp [Region.wanted,hg,yielded,hgd,this] at hn
theorem CF {gi tg t:Nat} {want b:Bool} (hs:s=hY N t) (hg:o.guard=some (gi,want)) (hgd:((ops[gi]?).bind (·.dst))=some tg) (hgs:sp[gi]? =some (B.det N tg (.bool b))) (hb:(bf.getD j 0).testBit gi=true) (hne:b≠want):Ob ops sp In a0 w0 P bf j o s:=by
  intro done a w τ c;subst hs;have hv:aT a tg= .bool b:=c.v gi hgs hb;have:a.tmps[tg]? =some (.bool b):=by
    unfold aT at hv;rw [aW] at hv;cases h':a.tmps[tg]? with
    | none => rw [h'] at hv; simp [undef] at hv
    | some u => rw [h'] at hv; simp at hv; rw [hv]
  refine ⟨fun hn=> ?_,fun _=>⟨Ext.refl _ _,ax⟩⟩;exfalso;cases want <;> cases b <;> simp [Region.wanted,hg,yielded,hgd,this] at hn hne
end
theorem qY {P:Program} {w:World} {ty:Nat} {cells:List Value} {T:aP} {v:Value} {m:Nat} (hb:cd ty cells T v w) (hz:∀w,(isAgg ty).run P w= .ok true w) (hm:∀w,(sizeOf ty).run P w= .ok m w) (hl:cells.length=m):
    (loadVar ty (cW v)).run P w= .ok (.agg cells.toArray) w:=by
  subst hl;simp only [loadVar,Sem.run_bind,hz,Result.andThen_ok,if_true,hm,loadCells];rw [lH cells (cW v) 0 #[] (fun j u hj=>by rw [gV];exact hb.cell hj)];simp
theorem qZ {P:Program} {fn:Func} {R:Ending→World→Prop} {a:Act} {w:World} {t ty m:Nat} {v:Value} {cells:List Value} {T:aP} (hr:fn.results=#[.cell t ty]) (hd:a.defers=[]) (hv:aT a t=v) (hb:cd ty cells T v w)
    (hz:∀w,(isAgg ty).run P w= .ok true w) (hm:∀w,(sizeOf ty).run P w= .ok m w) (hl:cells.length=m) (h:R (.returned (.agg cells.toArray)) w):bodyPost P fn R .ret a w:=
  bodyPost_ret (v:= .agg cells.toArray) (by
    have hp:=hb.ptr
    have hv':(a.tmps[t]?).getD undef= .pointer (some (cW v)):=by rw [←aW];exact hv.trans hp
    simp only [results,hr]
    simp [hv',asAddr,qY hb hz hm hl]) hd h
theorem eA {P:Program} {fn:Func} {R:Ending→World→Prop} {a:Act} {w:World} {t t' ty m:Nat} {v v':Value} {cells:List Value} {T:aP} (hr:fn.results=#[.cell t ty,.tmp t']) (hd:a.defers=[]) (hv:aT a t=v) (hv2:aT a t'=v') (hb:cd ty cells T v w)
    (hz:∀w,(isAgg ty).run P w= .ok true w) (hm:∀w,(sizeOf ty).run P w= .ok m w) (hl:cells.length=m) (h:R (.returned (.tuple #[.agg cells.toArray,v'])) w):bodyPost P fn R .ret a w:=
  bodyPost_ret (v:= .tuple #[.agg cells.toArray,v']) (by
    have hp:=hb.ptr
    have hv':(a.tmps[t]?).getD undef= .pointer (some (cW v)):=by rw [←aW];exact hv.trans hp
    have hv3:(a.tmps[t']?).getD undef=v':=by rw [←aW];exact hv2
    simp only [results,hr]
    simp [hv',hv3,asAddr,qY hb hz hm hl]) hd h
def Gi {α:Type} (E:Enc α) (ty:Nat) (pc:Prop) (xs:List α) (T:aP) (v:Value) (w:World):Prop:=pc→eb E ty xs T v w
def gown {α:Type} (pc:Prop) (E:Enc α) (ty:Nat) (N:aP) (tag t:Nat) (xs:List α):Spec N:=⟨some tag,t,fun _=>Gi E ty pc xs,fun _ _ T v w w' _ h hr hp=>jY T v w w' h.less (hr hp),fun _=>True,fun _ _ _ _ _=>trivial⟩
section
variable {N:aP} {P:Program} {ops:Array Oper} {sp:List (Spec N)} {In:Nat→Ini N} {a0:Act} {w0:World} {bf:List Nat} {j:Nat} {o:Oper} {s:Spec N} {done:Nat→Bool} {a:Act} {w:World} {τ:Nat→aP}
theorem tI {α:Type} {E:Enc α} {ty tag t gi tg:Nat} {want b:Bool} {pc:Prop} {xs:List α} (hs:s=B.gown pc E ty N tag t xs) (hg:o.guard=some (gi,want)) (hd:o.dst=some t) (hgd:((ops[gi]?).bind (·.dst))=some tg)
    (hgs:sp[gi]? =some (B.det N tg (.bool b))) (hb:(bf.getD j 0).testBit gi=true) (hpc:pc↔b=want)
    (h:pc→Ob ops sp In a0 w0 P bf j { o with guard:=none } (own E ty N tag t xs)):Ob ops sp In a0 w0 P bf j o s:=by
  intro done a w τ c;subst hs;have c':Cx ops sp In a0 w0 bf j { o with guard:=none } done a w τ:=⟨c.J,c.hj,c.pre,c.post,c.lt⟩;have hv:aT a tg= .bool b:=c.v gi hgs hb;have hw:Region.wanted o (yielded ops a.tmps)=(b==want):=by
    have:a.tmps[tg]? =some (.bool b):=by
      unfold aT at hv;rw [aW] at hv;cases h':a.tmps[tg]? with
      | none => rw [h'] at hv; simp [undef] at hv
      | some u => rw [h'] at hv; simp at hv; rw [hv]
    cases b <;> cases want <;> simp [Region.wanted,hg,yielded,hgd,this]
  refine ⟨fun hw'=> ?_,fun hw'=> ?_⟩
  · rw [hw] at hw';have hp:pc:=hpc.2 (by simpa using hw');have hw2:o.wp P a w (fun a' w'=>∃v,a'=a.put o.dst v∧oB (own E ty N tag t xs) a' τ w w') (fun _ _ _=>False):=(h hp done a w τ c').1 (lI rfl _);refine Oper.wp_mono ?_ hw2;intro a' w' hK;obtain ⟨v,ha,hx,T',hT,hr⟩:=hK;exact ⟨v,ha,hx,T',hT,fun _=>hr⟩
  · rw [hw] at hw';have hp:¬pc:=fun hp=>by rw [hpc.1 hp] at hw';simp at hw'
    exact ⟨Ext.refl _ _,τ tag,fun g h=> .inl h,fun hp'=>absurd hp' hp⟩
theorem Cx.rgown {α:Type} {E:Enc α} {ty t slot:Nat} {pc:Prop} {xs:List α} (c:Cx ops sp In a0 w0 bf j o done a w τ) (i:Nat) (hs:sp[i]? =some (B.gown pc E ty N t slot xs)) (hl:bH (sp.map (·.tag)) t j=some i) (hord:jD (sp.map (·.tag)) bf t j=true) (hp:pc):eb E ty xs (τ t) (aT a slot) w:=
  c.res i t _ hs hl hord hp
end
def CG {α:Type} (E:Enc α) (ty:Nat) (xs:List α) (k:Value) (T:aP) (v:Value) (w:World):Prop:=∃u,v= .tuple #[u,k]∧eb E ty xs T u w
def tup {α:Type} (E:Enc α) (ty:Nat) (N:aP) (tag t:Nat) (xs:List α) (k:Value):Spec N:=⟨some tag,t,fun _=>CG E ty xs k,fun _ _ T v w w' _ h ⟨u,hv,hr⟩=>⟨u,hv,jY T u w w' h.less hr⟩,fun v=>∃u,v= .tuple #[u,k],fun _ _ _ _ ⟨u,hv,_⟩=>⟨u,hv⟩⟩
section
variable {N:aP} {P:Program} {ops:Array Oper} {sp:List (Spec N)} {In:Nat→Ini N} {a0:Act} {w0:World} {bf:List Nat} {j:Nat} {o:Oper} {s:Spec N} {done:Nat→Bool} {a:Act} {w:World} {τ:Nat→aP}
theorem wn {α:Type} {E:Enc α} {ty tag t:Nat} {xs:List α} {k:Value} (hs:s=tup E ty N tag t xs k) (hg:o.guard=none) (hd:o.dst=some t)
    (h:∀done a w τ,Cx ops sp In a0 w0 bf j o done a w τ→∃f args,fA P a o w f args∧Calls P f args w (fun e w'=>∃v,e= .returned (.tuple #[v,k])∧Ext bc w w'∧oT E ty w w' v xs)):Ob ops sp In a0 w0 P bf j o s:=by
  subst hs;refine jv (tag:=tag) hg rfl fun done a w τ c=> ?_;obtain ⟨f,args,h1,h2⟩:=h done a w τ c;refine ⟨f,args,h1,h2.mono fun e w' ⟨v,he,hx,ho⟩=>⟨.tuple #[v,k],he,hx.mono (fun _ _ h=>h.elim),fun g=>v.ownBlock=some g,fun g hg=> .inr ⟨ho.2 g hg,ho.1.lt g hg⟩,?_⟩⟩;show CG E ty xs k _ (aT (a.put o.dst _) t) w';rw [hd,dA a t t _ (c.lt t hd),if_pos rfl];exact ⟨v,rfl,ho.1,fun g h=>h⟩
theorem Cx.rtup {α:Type} {E:Enc α} {ty t slot:Nat} {xs:List α} {k:Value} (c:Cx ops sp In a0 w0 bf j o done a w τ) (i:Nat) (hs:sp[i]? =some (B.tup E ty N t slot xs k)) (hl:bH (sp.map (·.tag)) t j=some i) (hord:jD (sp.map (·.tag)) bf t j=true):CG E ty xs k (τ t) (aT a slot) w:=
  c.res i t _ hs hl hord
theorem zX {α:Type} {E:Enc α} {ty tag t t0:Nat} {xs:List α} {k:Value} (hs:s=own E ty N tag t xs) (hg:o.guard=none) (hd:o.dst=some t) (ho:o.op= .extract (.tmp t0) 0)
    (hp:∀done a w τ,Cx ops sp In a0 w0 bf j o done a w τ→CG E ty xs k (τ tag) (aT a t0) w):Ob ops sp In a0 w0 P bf j o s:=by
  subst hs;refine ey hg rfl fun done a w τ c=> ?_;obtain ⟨u,hu,hr⟩:=hp done a w τ c;refine ll (v:=u) (fg ho hu rfl) ⟨_,rfl,Ext.refl _ _,τ tag,fun g h=> .inl h,?_⟩;show eb E ty xs _ (aT (a.put o.dst u) t) w;rw [hd,dA a t t _ (c.lt t hd),if_pos rfl];exact hr
theorem Cx.part1 {α:Type} {E:Enc α} {ty tag t0:Nat} {xs:List α} {k:Value} (c:Cx ops sp In a0 w0 bf j o done a w τ) (i:Nat) (hs:sp[i]? =some (B.tup E ty N tag t0 xs k)) (hb:(bf.getD j 0).testBit i=true) (ho:o.op= .extract (.tmp t0) 1):cp P a o w k:=by
  obtain ⟨u,hu⟩:=c.J.pur i _ hs (c.pre i hb);exact fg ho hu rfl
end
theorem Calls.isB {P:Program} {f:FuncId} {args:Array Value} {w:World} {b b':Bool} {M:Nat→Prop} (h:Calls P f args w (fun e w'=>e= .returned (.bool b)∧Ext M w w')) (e:b=b'):Calls P f args w (fun e w'=>e= .returned (.bool b')∧Ext M w w'):=e ▸ h
end
section
open Go.RowKit
def nu (x y:ByteArray):Bool:=Op.bytesLess x.toList y.toList
def iI (x y:ByteArray):Bool:=x.toList==y.toList
def oI (x y:ByteArray):Bool:=nu x y || iI x y
section
variable {P:Program} {a:Act} {o:Oper} {w:World} {t t':TypeId} {x y z:Operand} {s u:ByteArray} {k k':IntKind} {p q:Int}
theorem wo (ho:o.op= .binOp .lss t x y t') (hx:a.eval x= .string s) (hy:a.eval y= .string u):cp P a o w (.bool (nu s u)):=by
  simp [cp,execOp,ho,hx,hy,eqGuard,binOp,Op.stringOp,nu]
theorem nB (ho:o.op= .binOp .leq t x y t') (hx:a.eval x= .string s) (hy:a.eval y= .string u):cp P a o w (.bool (nu s u || iI s u)):=by
  simp [cp,execOp,ho,hx,hy,eqGuard,binOp,Op.stringOp,nu,iI]
theorem zY (ho:o.op= .binOp .gtr t x y t') (hx:a.eval x= .string s) (hy:a.eval y= .string u):cp P a o w (.bool (!(nu s u || iI s u))):=by
  simp [cp,execOp,ho,hx,hy,eqGuard,binOp,Op.stringOp,nu,iI]
theorem gn (ho:o.op= .binOp .eql t x y t') (hx:a.eval x= .string s) (hy:a.eval y= .string u):cp P a o w (.bool (iI s u)):=by
  simp [cp,execOp,ho,hx,hy,eqGuard,binOp,Op.stringOp,iI]
theorem lT (ho:o.op= .binOp .neq t x y t') (hx:a.eval x= .string s) (hy:a.eval y= .string u):cp P a o w (.bool (!iI s u)):=by
  simp [cp,execOp,ho,hx,hy,eqGuard,binOp,Op.stringOp,iI]
theorem zZ (ho:o.op= .slice t x (some y) (some z) none) (ht:P.underlying t=some .string) (hx:a.eval x= .string s) (hy:a.eval y= .int k p) (hz:a.eval z= .int k' q) (h0:0≤p) (h1:p≤q) (h2:q≤s.size):cp P a o w (.string (s.extract p.toNat q.toNat)):=by
  have h4:0≤q:=by omega
  have h5:p≤max q 0:=by omega
  simp [cp,execOp,ho,hx,hy,hz,Instr.sliceAt,Instr.slice,run_underlying ht,Instr.sliceBounds,Instr.sliceBound,asIntOf,h0,h2,h4,h1];intro h6;omega
end
def ca (s:ByteArray) (i:Int):Int:=((s.data.toList.getD i.toNat 0).toNat:Int)
theorem gC (s:ByteArray) (i:Int):0≤ca s i∧ca s i≤255:=by
  unfold ca;have:=(s.data.toList.getD i.toNat 0).toNat_lt;omega
theorem gL {P:Program} {a:Act} {o:Oper} {w:World} {t:TypeId} {x y:Operand} {s:ByteArray} {k:IntKind} {p:Int} (ho:o.op= .index t x y) (ht:P.underlying t=some .string) (hx:a.eval x= .string s) (hy:a.eval y= .int k p) (h0:0≤p) (h1:p < s.size):cp P a o w (.int .u8 (ca s p)):=by
  have hlt:p.toNat < s.size:=by omega
  have e:s[p.toNat]? =some (s.data.toList.getD p.toNat 0):=by
    rw [getElem?_pos s p.toNat hlt];have h2:s.data.toList.getD p.toNat 0=s.data.toList[p.toNat]'(by simpa using hlt):=by
      rw [lh,bE (by simpa using hlt)];rfl
    rw [h2];rfl
  simp [cp,execOp,ho,hx,hy,Instr.index,run_underlying ht,asIntOf,h0,e,ca]
theorem qx {s u:ByteArray}:iI s u=true↔s=u:=by
  unfold iI;rw [beq_iff_eq,ByteArray.toList_eq,ByteArray.toList_eq];constructor
  · intro h;cases s;cases u
    congr 1;exact Array.ext' h
  · rintro rfl;rfl
theorem Aa (s u:ByteArray):iI s u=decide (s.data.toList=u.data.toList):=by
  unfold iI;rw [ByteArray.toList_eq,ByteArray.toList_eq,eZ];simp
def oU:Enc UInt8:=⟨fun p=> [.int .u8 p.toNat],1,by decide,fun _=>rfl,fun x u hu=>by simp at hu;rcases hu with rfl;rfl⟩
theorem oV (l:List UInt8):oU.row l=l.map fun b=>Value.int .u8 b.toNat:=by
  induction l with
  | nil => rfl
  | cons b l ih =>
    have e:oU.row (b::l)=oU.cells b++oU.row l:=by simp [Enc.row]
    rw [e,ih];rfl
section
variable {N:aP} {P:Program} {ops:Array Oper} {sp:List (Spec N)} {In:Nat→Ini N} {a0:Act} {w0:World} {bf:List Nat} {j:Nat} {o:Oper} {s:Spec N}
end
theorem nQ {P:Program} {a:Act} {o:Oper} {w:World} {src dst e:TypeId} {x:Operand} {v:Value} {xs:List UInt8} (ho:o.op= .convert src dst x) (hs:P.underlying src=some (.slice e)) (he:P.underlying e=some (.int .u8)) (hd:P.underlying dst=some .string) (hx:a.eval x=v) (h:SlT oU w v xs):cp P a o w (.string ⟨xs.toArray⟩):=by
  rcases h.sl with ⟨rfl,h0⟩ | ⟨b,cap,rfl,_⟩
  · obtain rfl:=bV h0;simp [cp,execOp,ho,hx,convert,run_underlying hs,run_underlying hd,run_underlying he,Conv.bytesToString];rfl
  · have hc:∀j u,(xs.map fun b=>Value.int .u8 b.toNat)[j]? =some u→w.cell? (b.add j)=some u:=fun j u hj=>h.cell j u (by rw [oV];exact hj);have hr:=run_convert_bytes_back (P:=P) w src dst e b cap xs hs he hd (fun j hj=>hc j _ (by simp [bE hj]));simp only [cp,execOp,ho,hx];simp [hr]
end
section
open Go.RowKit
section
variable {N:aP} {P:Program} {ops:Array Oper} {sp:List (Spec N)} {In:Nat→Ini N} {a0:Act} {w0:World} {bf:List Nat} {j:Nat} {o:Oper} {s:Spec N}
theorem am {t:Nat} {v:Value} (h:∀{done a w τ},Cx ops sp In a0 w0 bf j o done a w τ→cp P a o w v) (hs:s=B.det N t v:=by exact rfl) (hg:o.guard=none:=by exact rfl) (hd:o.dst=some t:=by exact rfl):Ob ops sp In a0 w0 P bf j o s:=
  ET hs hg hd fun _ _ _ _ c=>h c
theorem dU {t:Nat} {v:Value} (h:∀{done a w τ},Cx ops sp In a0 w0 bf j o done a w τ→∃f args,fA P a o w f args∧Calls P f args w (fun e w'=>e= .returned v∧Ext bc w w')) (hs:s=B.det N t v:=by exact rfl) (hg:o.guard=none:=by exact rfl) (hd:o.dst=some t:=by exact rfl):Ob ops sp In a0 w0 P bf j o s:=
  CC hs hg hd fun _ _ _ _ c=>h c
theorem Gj {t tg:Nat} {b:Bool} {v:Value} (gi:Nat) (want:Bool) (hgs:sp[gi]? =some (B.det N tg (.bool b))) (h:∀{done a w τ},Cx ops sp In a0 w0 bf j o done a w τ→b=want→cp P a o w v)
    (hs:s=B.gdet N t (b=want) v:=by exact rfl) (hg:o.guard=some (gi,want):=by exact rfl) (hd:o.dst=some t:=by exact rfl) (hgd:((ops[gi]?).bind (·.dst))=some tg:=by exact rfl) (hb:(bf.getD j 0).testBit gi=true:=by exact rfl):Ob ops sp In a0 w0 P bf j o s:=
  CB hs hg hd hgd hgs hb Iff.rfl fun _ _ _ _ c=>h c
theorem cF {t tg:Nat} {b:Bool} {pg:Prop} {v:Value} (gi:Nat) (want:Bool) (hgs:sp[gi]? =some (B.gdet N tg pg (.bool b))) (h:∀{done a w τ},Cx ops sp In a0 w0 bf j o done a w τ→(pg∧b=want)→cp P a o w v)
    (hs:s=B.gdet N t (pg∧b=want) v:=by exact rfl) (hg:o.guard=some (gi,want):=by exact rfl) (hd:o.dst=some t:=by exact rfl) (hgd:((ops[gi]?).bind (·.dst))=some tg:=by exact rfl) (hb:(bf.getD j 0).testBit gi=true:=by exact rfl):Ob ops sp In a0 w0 P bf j o s:=
  zT hs hg hd hgd hgs hb Iff.rfl fun _ _ _ _ c=>h c
theorem fv {t tg:Nat} {b:Bool} {v:Value} (gi:Nat) (want:Bool) (hgs:sp[gi]? =some (B.det N tg (.bool b))) (h:∀{done a w τ},Cx ops sp In a0 w0 bf j o done a w τ→b=want→∃f args,fA P a o w f args∧Calls P f args w (fun e w'=>e= .returned v∧Ext bc w w'))
    (hs:s=B.gdet N t (b=want) v:=by exact rfl) (hg:o.guard=some (gi,want):=by exact rfl) (hd:o.dst=some t:=by exact rfl) (hgd:((ops[gi]?).bind (·.dst))=some tg:=by exact rfl) (hb:(bf.getD j 0).testBit gi=true:=by exact rfl):Ob ops sp In a0 w0 P bf j o s:=
  zU hs hg hd hgd hgs hb Iff.rfl fun _ _ _ _ c=>h c
theorem lU {t tg:Nat} {b:Bool} {pg:Prop} {v:Value} (gi:Nat) (want:Bool) (hgs:sp[gi]? =some (B.gdet N tg pg (.bool b))) (h:∀{done a w τ},Cx ops sp In a0 w0 bf j o done a w τ→(pg∧b=want)→∃f args,fA P a o w f args∧Calls P f args w (fun e w'=>e= .returned v∧Ext bc w w'))
    (hs:s=B.gdet N t (pg∧b=want) v:=by exact rfl) (hg:o.guard=some (gi,want):=by exact rfl) (hd:o.dst=some t:=by exact rfl) (hgd:((ops[gi]?).bind (·.dst))=some tg:=by exact rfl) (hb:(bf.getD j 0).testBit gi=true:=by exact rfl):Ob ops sp In a0 w0 P bf j o s:=
  yC hs hg hd hgd hgs hb Iff.rfl fun _ _ _ _ c=>h c
theorem cw (gi:Nat) {tg:Nat} {want:Bool} (h:Ob ops sp In a0 w0 P bf j { o with guard:=none } s) (hgs:sp[gi]? =some (B.det N tg (.bool want)):=by exact rfl) (hg:o.guard=some (gi,want):=by exact rfl) (hgd:((ops[gi]?).bind (·.dst))=some tg:=by exact rfl) (hb:(bf.getD j 0).testBit gi=true:=by exact rfl):Ob ops sp In a0 w0 P bf j o s:=
  CE hg hgd hgs hb h
theorem dg (gi:Nat) {tg t:Nat} {want b:Bool} (hs:s=hY N t:=by exact rfl) (hg:o.guard=some (gi,want):=by exact rfl) (hgd:((ops[gi]?).bind (·.dst))=some tg:=by exact rfl) (hgs:sp[gi]? =some (B.det N tg (.bool b)):=by exact rfl) (hb:(bf.getD j 0).testBit gi=true:=by exact rfl) (hne:b≠want:=by decide):Ob ops sp In a0 w0 P bf j o s:=
  CF hs hg hgd hgs hb hne
end
section
variable {N:aP} {P:Program} {ops:Array Oper} {sp:List (Spec N)} {In:Nat→Ini N} {a0:Act} {w0:World} {bf:List Nat} {j:Nat} {o:Oper} {done:Nat→Bool} {a:Act} {w:World} {τ:Nat→aP}
theorem Cx.n (c:Cx ops sp In a0 w0 bf j o done a w τ) (i:Nat) {t:Nat} {val:Value} (hs:sp[i]? =some (B.det N t val)) (hb:(bf.getD j 0).testBit i=true:=by exact rfl):a.eval (.tmp t)=val:=c.ev i hs hb
theorem Cx.m (c:Cx ops sp In a0 w0 bf j o done a w τ) (i:Nat) {t:Nat} {pc:Prop} {val:Value} (hs:sp[i]? =some (B.gdet N t pc val)) (hpc:pc) (hb:(bf.getD j 0).testBit i=true:=by exact rfl):a.eval (.tmp t)=val:=c.eg i hs hb hpc
theorem Cx.p (c:Cx ops sp In a0 w0 bf j o done a w τ) {t:Nat} {val:Value} (h0:aT a0 t=val) (h:xq ops bf j t=true:=by kernel_rfl):a.eval (.tmp t)=val:=c.eo h0 h
theorem Cx.ib {ty:Nat} {v:Value} {cells:List Value} (c:Cx ops sp In a0 w0 bf j o done a w τ) (t:Nat) (hI:In t=B.ibox ty N v cells) (hl:bH (sp.map (·.tag)) t j=none:=by exact rfl) (hord:jD (sp.map (·.tag)) bf t j=true:=by kernel_rfl):cd ty cells (τ t) v w:=c.ibox t hI hl hord
theorem Cx.io {α:Type} {E:Enc α} {ty:Nat} {v:Value} {xs:List α} (c:Cx ops sp In a0 w0 bf j o done a w τ) (t:Nat) (hI:In t=B.iown E ty N v xs) (hl:bH (sp.map (·.tag)) t j=none:=by exact rfl) (hord:jD (sp.map (·.tag)) bf t j=true:=by kernel_rfl):eb E ty xs (τ t) v w:=c.iown t hI hl hord
theorem Cx.rb {ty t slot:Nat} {cells:List Value} (c:Cx ops sp In a0 w0 bf j o done a w τ) (i:Nat) (hs:sp[i]? =some (B.box ty N t slot cells)) (hl:bH (sp.map (·.tag)) t j=some i:=by exact rfl) (hord:jD (sp.map (·.tag)) bf t j=true:=by kernel_rfl):cd ty cells (τ t) (aT a slot) w:=c.rbox i hs hl hord
theorem Cx.ro {α:Type} {E:Enc α} {ty t slot:Nat} {xs:List α} (c:Cx ops sp In a0 w0 bf j o done a w τ) (i:Nat) (hs:sp[i]? =some (B.own E ty N t slot xs)) (hl:bH (sp.map (·.tag)) t j=some i:=by exact rfl) (hord:jD (sp.map (·.tag)) bf t j=true:=by kernel_rfl):eb E ty xs (τ t) (aT a slot) w:=c.rown i hs hl hord
theorem Cx.rg {α:Type} {E:Enc α} {ty t slot:Nat} {pc:Prop} {xs:List α} (c:Cx ops sp In a0 w0 bf j o done a w τ) (i:Nat) (hs:sp[i]? =some (B.gown pc E ty N t slot xs)) (hp:pc) (hl:bH (sp.map (·.tag)) t j=some i:=by exact rfl) (hord:jD (sp.map (·.tag)) bf t j=true:=by kernel_rfl):eb E ty xs (τ t) (aT a slot) w:=c.rgown i hs hl hord hp
theorem Cx.ip {α:Type} {E:Enc α} {ty slot:Nat} {v:Value} {xs:List α} (c:Cx ops sp In a0 w0 bf j o done a w τ) (t:Nat) (hI:In t=B.iown E ty N v xs) (e:aT a0 slot=v) (hl:bH (sp.map (·.tag)) t j=none:=by exact rfl) (hord:jD (sp.map (·.tag)) bf t j=true:=by kernel_rfl) (h:xq ops bf j slot=true:=by kernel_rfl):eb E ty xs (τ t) (aT a slot) w:=by
  rw [show aT a slot=v from c.old e h];exact c.iown t hI hl hord
theorem Cx.bp {ty slot:Nat} {v:Value} {cells:List Value} (c:Cx ops sp In a0 w0 bf j o done a w τ) (t:Nat) (hI:In t=B.ibox ty N v cells) (e:aT a0 slot=v) (hl:bH (sp.map (·.tag)) t j=none:=by exact rfl) (hord:jD (sp.map (·.tag)) bf t j=true:=by kernel_rfl) (h:xq ops bf j slot=true:=by kernel_rfl):cd ty cells (τ t) (aT a slot) w:=by
  rw [show aT a slot=v from c.old e h];exact c.ibox t hI hl hord
theorem Cx.sm {slot:Nat} {v:Value} {x:Operand} (c:Cx ops sp In a0 w0 bf j o done a w τ) (px:a.eval x=v) (e:aT a0 slot=v) (h:xq ops bf j slot=true:=by kernel_rfl):a.eval x=aT a slot:=px.trans (c.old e h).symm
theorem Cx.ad {slot k:Nat} {v:Value} {x:Operand} {p:Addr} (c:Cx ops sp In a0 w0 bf j o done a w τ) (px:a.eval x= .pointer (some p)) (e:aT a0 slot=v) (hp:p=(cW v).add k) (h:xq ops bf j slot=true:=by kernel_rfl):a.eval x= .pointer (some ((cW (aT a slot)).add k)):=by
  rw [show aT a slot=v from c.old e h,px,hp]
end
section
variable {N:aP} {l:List Oper} {sp:List (Spec N)} {il:List (Ini N)} {a0 a:Act} {w:World} {τ:Nat→aP}
def Ab (a:Act):List (Nat × Value)→Prop
  | [] => True
  | p :: l => aT a p.1 = p.2 ∧ Ab a l
theorem Fin.olds (h:Fin l sp il a0 a w τ):∀(L:List (Nat × Value)) (_:Ab a0 L) (_:(L.all fun p=>jK l p.1)=true),Ab a L
  | [], _, _ => trivial
  | p :: L, hE, hu => by
    rw [dP,aw] at hu;exact ⟨h.old hE.1 hu.1,h.olds L hE.2 hu.2⟩
theorem Fin.ks (h:Fin l sp il a0 a w τ) (L:List (Nat × Value)) (hE:Ab a0 L) (hu:(L.all fun p=>jK l p.1)=true:=by kernel_rfl):Ab a L:=h.olds L hE hu
theorem Fin.ib (h:Fin l sp il a0 a w τ) {ty:Nat} {v:Value} {cells:List Value} (t:Nat) (hI:eI il t=B.ibox ty N v cells) (hl:bH (sp.map (·.tag)) t sp.length=none:=by exact rfl):cd ty cells (τ t) v w:=h.ibox t hI hl
theorem Fin.io (h:Fin l sp il a0 a w τ) {α:Type} {E:Enc α} {ty:Nat} {v:Value} {xs:List α} (t:Nat) (hI:eI il t=B.iown E ty N v xs) (hl:bH (sp.map (·.tag)) t sp.length=none:=by exact rfl):eb E ty xs (τ t) v w:=h.iown t hI hl
theorem Fin.rb (h:Fin l sp il a0 a w τ) {ty t slot:Nat} {cells:List Value} (j:Nat) {v:Value} (hv:aT a slot=v) (hs:sp[j]? =some (B.box ty N t slot cells)) (hl:bH (sp.map (·.tag)) t sp.length=some j:=by exact rfl):cd ty cells (τ t) v w:=h.rbox j hs hl hv
theorem Fin.ro (h:Fin l sp il a0 a w τ) {α:Type} {E:Enc α} {ty t slot:Nat} {xs:List α} (j:Nat) {v:Value} (hv:aT a slot=v) (hs:sp[j]? =some (B.own E ty N t slot xs)) (hl:bH (sp.map (·.tag)) t sp.length=some j:=by exact rfl):eb E ty xs (τ t) v w:=h.rown j hs hl hv
abbrev io {N:aP} {α:Type} {E:Enc α} {ty:Nat} {xs:List α} {T:aP} {v:Value} {w:World} (_:eb E ty xs T v w):Ini N:=iown E ty N v xs
abbrev ib {N:aP} {ty:Nat} {cells:List Value} {T:aP} {v:Value} {w:World} (_:cd ty cells T v w):Ini N:=ibox ty N v cells
end
theorem gH {a:Act} {f:Nat→Option (Nat × Nat)} {z cells:Array Value} {i0:Nat} {x0:Operand} {v0:Value} (h0:a.eval x0=v0) (hf:Instr.fill f z [(i0,v0)]=some cells):Instr.fill f z ((#[(i0,x0)]).map fun (i,x)=>(i,a.eval x)).toList=some cells:=by
  subst h0;simp only [eu,bz,bU];exact hf
theorem im {a:Act} {f:Nat→Option (Nat × Nat)} {z cells:Array Value} {i0 i1:Nat} {x0 x1:Operand} {v0 v1:Value} (h0:a.eval x0=v0) (h1:a.eval x1=v1) (hf:Instr.fill f z [(i0,v0),(i1,v1)]=some cells):Instr.fill f z ((#[(i0,x0),(i1,x1)]).map fun (i,x)=>(i,a.eval x)).toList=some cells:=by
  subst h0 h1;simp only [eu,bz,bU];exact hf
theorem pY {a:Act} {f:Nat→Option (Nat × Nat)} {z cells:Array Value} {i0 i1 i2:Nat} {x0 x1 x2:Operand} {v0 v1 v2:Value} (h0:a.eval x0=v0) (h1:a.eval x1=v1) (h2:a.eval x2=v2) (hf:Instr.fill f z [(i0,v0),(i1,v1),(i2,v2)]=some cells):Instr.fill f z ((#[(i0,x0),(i1,x1),(i2,x2)]).map fun (i,x)=>(i,a.eval x)).toList=some cells:=by
  subst h0 h1 h2;simp only [eu,bz,bU];exact hf
theorem xv {a:Act} {f:Nat→Option (Nat × Nat)} {z cells:Array Value} {i0 i1 i2 i3:Nat} {x0 x1 x2 x3:Operand} {v0 v1 v2 v3:Value} (h0:a.eval x0=v0) (h1:a.eval x1=v1) (h2:a.eval x2=v2) (h3:a.eval x3=v3) (hf:Instr.fill f z [(i0,v0),(i1,v1),(i2,v2),(i3,v3)]=some cells):Instr.fill f z ((#[(i0,x0),(i1,x1),(i2,x2),(i3,x3)]).map fun (i,x)=>(i,a.eval x)).toList=some cells:=by
  subst h0 h1 h2 h3;simp only [eu,bz,bU];exact hf
theorem Gk {a:Act} {f:Nat→Option (Nat × Nat)} {z cells:Array Value} {i0 i1 i2 i3 i4 i5:Nat} {x0 x1 x2 x3 x4 x5:Operand} {v0 v1 v2 v3 v4 v5:Value} (h0:a.eval x0=v0) (h1:a.eval x1=v1) (h2:a.eval x2=v2) (h3:a.eval x3=v3) (h4:a.eval x4=v4) (h5:a.eval x5=v5) (hf:Instr.fill f z [(i0,v0),(i1,v1),(i2,v2),(i3,v3),(i4,v4),(i5,v5)]=some cells):Instr.fill f z ((#[(i0,x0),(i1,x1),(i2,x2),(i3,x3),(i4,x4),(i5,x5)]).map fun (i,x)=>(i,a.eval x)).toList=some cells:=by
  subst h0 h1 h2 h3 h4 h5;simp only [eu,bz,bU];exact hf
theorem bt {p:Prop} [Decidable p] (h:decide p=true):p:=of_decide_eq_true h
theorem bl {p q:Int} (h:decide (p < q)=false):q≤p:=by simpa using h
theorem bn {p:Prop} [Decidable p] (h:decide p=false):¬p:=of_decide_eq_false h
end
section
open Go.RowKit
def YT (e:Nat) (w:World) (v:Value) (xs:List UInt8):Prop:=∃g cap cur k,v= .slice (some ⟨g,0,none⟩) xs.length cap∧w.heap[g]? =some (.cells cur e (k,k+1))∧xs.length≤cap∧cap≤maxLen∧cap≤k∧cap≤cur.size∧cur.toList.take xs.length=oU.row xs
theorem YT.sl {e:Nat} {w:World} {v:Value} {xs:List UInt8} (h:YT e w v xs):SlT oU w v xs:=by
  obtain ⟨g,cap,cur,k,rfl,hg,h1,h2,h3,h4,h5⟩:=h;refine ⟨.inr ⟨_,cap,rfl,h1,h2⟩,fun j u hj=> ?_⟩;have hlt:j < xs.length:=by
    have:=(List.getElem?_eq_some_iff.1 hj).1;rw [oU.row_length] at this
    simpa [oU] using this
  rw [←h5,ge hlt] at hj;simp only [cW,lJ];simp [World.cell?,hg];simpa using hj
theorem YT.keep {e:Nat} {M:Nat→Prop} {w w':World} {v:Value} {xs:List UInt8} (h:YT e w v xs) (he:Ext M w w') (hm:∀g,v.ownBlock=some g→¬M g):YT e w' v xs:=by
  obtain ⟨g,cap,cur,k,rfl,hg,r⟩:=h;exact ⟨g,cap,cur,k,rfl,by rw [he.block g (Array.getElem?_eq_some_iff.1 hg).1 (hm g rfl)];exact hg,r⟩
def kM (e:Nat) (xs:List UInt8) (T:aP) (v:Value) (w:World):Prop:=YT e w v xs∧∀g,v.ownBlock=some g→T g
theorem uU {N:aP} {e:Nat} {xs:List UInt8} (T:aP) (v:Value) (w w':World) (h:Ext (fun g=>N g∧¬T g) w w') (hr:kM e xs T v w):kM e xs T v w':=
  ⟨hr.1.keep h fun g hg hn=>hn.2 (hr.2 g hg),hr.2⟩
def wg (e:Nat) (N:aP) (tag t:Nat) (xs:List UInt8):Spec N:=⟨some tag,t,fun _=>kM e xs,fun _ _ T v w w' _ h hr=>uU T v w w' h.less hr,fun _=>True,fun _ _ _ _ _=>trivial⟩
def Ac (e:Nat) (N:aP) (v:Value) (xs:List UInt8):Ini N:=⟨fun _ T w=>kM e xs T v w,fun _ _ T w w' _ h=>uU T v w w' h.less⟩
theorem kM.isSl {e:Nat} {xs:List UInt8} {T:aP} {v:Value} {w:World} (h:kM e xs T v w):mG v xs.length:=h.1.sl.sl
theorem kM.cast {e:Nat} {xs ys:List UInt8} {T:aP} {v:Value} {w:World} (h:kM e xs T v w) (q:ys=xs):kM e ys T v w:=q ▸ h
theorem kM.le {e:Nat} {xs:List UInt8} {T:aP} {v:Value} {w:World} (h:kM e xs T v w):xs.length≤9223372036854775807:=h.1.sl.sl.le
section
variable {N:aP} {P:Program} {ops:Array Oper} {sp:List (Spec N)} {In:Nat→Ini N} {a0:Act} {w0:World} {bf:List Nat} {j:Nat} {o:Oper} {s:Spec N}
theorem mL {src dst e:TypeId} {tag t:Nat} {x:Operand} {u:ByteArray} (hs:s=wg e N tag t u.data.toList) (hg:o.guard=none) (hd:o.dst=some t) (ho:o.op= .convert src dst x)
    (hsrc:P.underlying src=some .string) (hdst:P.underlying dst=some (.slice e)) (he:P.underlying e=some (.int .u8)) (hle:u.size≤140737488355328)
    (h:∀{done a w τ},Cx ops sp In a0 w0 bf j o done a w τ→a.eval x= .string u):Ob ops sp In a0 w0 P bf j o s:=by
  subst hs;refine ey hg rfl fun done a w τ c=> ?_;have hr:(execOp a.eval o).run P w= .ok (.value (.slice (some ⟨w.heap.size,0,none⟩) u.size (grownCap w u.size 0 e))) (Lib.bytesWorld w e u):=by
    have:=Lib.run_convert_string_bytes (P:=P) w src dst e u hsrc hdst he;simp only [execOp,ho,h c,Sem.run_bind,this,Result.andThen_ok];rfl
  have hge:=grownCap_ge w u.size 0 e;have hcm:grownCap w u.size 0 e≤maxLen:=grownCap_le_maxLen w _ 0 e (by simp only [maxLen];omega);have hl:u.data.toList.length=u.size:=by simp
  have hcs:(Lib.bytesCells w e u).size=grownCap w u.size 0 e:=by
    simp only [Lib.bytesCells,Array.size_append,Array.size_map,Array.size_replicate];have:u.data.size=u.size:=rfl;omega
  refine fP hr ⟨_,rfl,⟨rfl,rfl,rfl,by rw [Lib.bytesWorld_size];omega,fun k hk _=>Lib.bytesWorld_at_old w e u k hk⟩,fun g=>g=w.heap.size,fun g hg=> .inr (by subst hg;rw [Lib.bytesWorld_size];omega),?_⟩;show kM e u.data.toList _ (aT (a.put o.dst _) t) _;rw [hd,dA a t t _ (c.lt t hd),if_pos rfl];refine ⟨⟨w.heap.size,_,_,_,by rw [hl],Lib.bytesWorld_at_new w e u,by rw [hl];exact hge,hcm,by rw [hcs];omega,by rw [hcs];omega,?_⟩,fun g h=> ?_⟩
  · rw [hl,oV,Lib.bytesCells,Array.toList_append,Array.toList_map,ix (by simp),bF (by simp)]
  · simp only [Value.ownBlock,Option.some.injEq] at h;exact h.symm
theorem wq {P:Program} {w:World} {e tt:Nat} {v:Value} {xs:List UInt8} {i:Nat} {n:Int} (h:YT e w v xs) (hi:i < xs.length) (hsz:∀w,(sizeOf tt).run P w= .ok 1 w) (h0:0≤n) (h1:n≤255):
    ∃w',(Instr.storeAt tt (.pointer (some ((cW v).add (i * 1)))) (.int .u8 n)).run P w= .ok () w'∧YT e w' v (xs.set i (UInt8.ofNat n.toNat))∧Ext (fun k=>v.ownBlock=some k) w w':=by
  obtain ⟨g,cap,cur,k,rfl,hg,h2,h3,h4,h5,h6⟩:=h;have hi':i < cur.size:=by omega
  have hcell:w.cell? ⟨g,i,none⟩=some cur[i]:=by simp [World.cell?,hg,hi']
  have hfro:w.frozen? ⟨g,i,none⟩=false:=by
    simp only [World.frozen?,hg,aL,ah];left;omega
  have hst:(store ⟨g,i,none⟩ (.int .u8 n)).run P w= .ok () (w.setRow g (cur.setIfInBounds i (.int .u8 n))):=by
    rw [Go.run_store P w _ (.int .u8 n) _ rfl,hcell];simp [hfro,setCell_eq_setRow w g i cur e (k,k+1) (.int .u8 n) hg]
  have hr:(Instr.storeAt tt (.pointer (some ⟨g,i,none⟩)) (.int .u8 n)).run P w= .ok () (w.setRow g (cur.setIfInBounds i (.int .u8 n))):=by
    have hc:(Value.int IntKind.u8 n).cells=#[.int .u8 n]:=rfl;have ha:((⟨g,i,none⟩:Addr).add 0)=⟨g,i,none⟩:=rfl;simp only [Instr.storeAt,Instr.sureAddr,Sem.run_bind,Sem.run_pure,Result.andThen_ok,storeVar,hsz,hc];simp [storeCells,ha,hst]
  refine ⟨_,by simp only [cW,lJ,Nat.mul_one];exact hr,⟨g,cap,cur.setIfInBounds i (.int .u8 n),k,by rw [dR],setRow_heap w g cur _ e _ hg,by rw [dR];exact h2,h3,h4,by simpa using h5,?_⟩,(iG w g _).mono fun k _ h=>by rw [h];rfl⟩;rw [dR,Array.toList_setIfInBounds,List.take_set,h6,oV,oV,List.map_set];congr 2;have e1:(UInt8.ofNat n.toNat).toNat=n.toNat:=by
    rw [UInt8.toNat_ofNat'];exact Nat.mod_eq_of_lt (by omega)
  rw [e1];omega
theorem nR {e tag t tt i:Nat} {xs:List UInt8} {p q:Operand} {n:Int} (hs:s=wg e N tag t (xs.set i (UInt8.ofNat n.toNat))) (hg:o.guard=none) (hd:o.dst=none) (ho:o.op= .store tt p q) (hsz:∀w,(sizeOf tt).run P w= .ok 1 w)
    (hi:i < xs.length) (h0:0≤n) (h1:n≤255)
    (hp:∀{done a w τ},Cx ops sp In a0 w0 bf j o done a w τ→kM e xs (τ tag) (aT a t) w∧a.eval p= .pointer (some ((cW (aT a t)).add (i * 1)))∧a.eval q= .int .u8 n):Ob ops sp In a0 w0 P bf j o s:=by
  subst hs;refine ey hg rfl fun done a w τ c=> ?_;obtain ⟨⟨hown,hT⟩,hp',hq⟩:=hp c;obtain ⟨w',hr,h2,h3⟩:=wq (P:=P) (tt:=tt) hown hi hsz h0 h1;have hr':(execOp a.eval o).run P w= .ok .skip w':=by
    simp only [execOp,ho,hp',hq,Sem.run_bind,hr,Result.andThen_ok];rfl
  refine iH hr' ⟨undef,rfl,h3.mono (fun k _ h=>hT k h),τ tag,fun g h=> .inl h,?_⟩;show kM e (xs.set i _) _ (aT (a.put o.dst _) t) _;rw [hd,jX];exact ⟨h2,hT⟩
end
section
variable {N:aP} {P:Program} {ops:Array Oper} {sp:List (Spec N)} {In:Nat→Ini N} {a0:Act} {w0:World} {bf:List Nat} {j:Nat} {o:Oper} {done:Nat→Bool} {a:Act} {w:World} {τ:Nat→aP}
theorem Cx.iy {e:Nat} {v:Value} {xs:List UInt8} (c:Cx ops sp In a0 w0 bf j o done a w τ) (t:Nat) (hI:In t=Ac e N v xs) (hl:bH (sp.map (·.tag)) t j=none:=by exact rfl) (hord:jD (sp.map (·.tag)) bf t j=true:=by kernel_rfl):kM e xs (τ t) v w:=c.ini t _ hI hl hord
theorem Cx.ry {e t slot:Nat} {xs:List UInt8} (c:Cx ops sp In a0 w0 bf j o done a w τ) (i:Nat) (hs:sp[i]? =some (wg e N t slot xs)) (hl:bH (sp.map (·.tag)) t j=some i:=by exact rfl) (hord:jD (sp.map (·.tag)) bf t j=true:=by kernel_rfl):kM e xs (τ t) (aT a slot) w:=c.res i t _ hs hl hord
theorem Cx.yp {e slot:Nat} {v:Value} {xs:List UInt8} (c:Cx ops sp In a0 w0 bf j o done a w τ) (t:Nat) (hI:In t=Ac e N v xs) (q:aT a0 slot=v) (hl:bH (sp.map (·.tag)) t j=none:=by exact rfl) (hord:jD (sp.map (·.tag)) bf t j=true:=by kernel_rfl) (h:xq ops bf j slot=true:=by kernel_rfl):kM e xs (τ t) (aT a slot) w:=by
  rw [show aT a slot=v from c.old q h];exact c.iy t hI hl hord
end
section
variable {N:aP} {l:List Oper} {sp:List (Spec N)} {il:List (Ini N)} {a0 a:Act} {w:World} {τ:Nat→aP}
theorem Fin.iy (h:Fin l sp il a0 a w τ) {e:Nat} {v:Value} {xs:List UInt8} (t:Nat) (hI:eI il t=Ac e N v xs) (hl:bH (sp.map (·.tag)) t sp.length=none:=by exact rfl):kM e xs (τ t) v w:=by
  have:=h.ini t hl;rw [hI] at this
  exact this
theorem Fin.ry (h:Fin l sp il a0 a w τ) {e t slot:Nat} {xs:List UInt8} (j:Nat) {v:Value} (hv:aT a slot=v) (hs:sp[j]? =some (wg e N t slot xs)) (hl:bH (sp.map (·.tag)) t sp.length=some j:=by exact rfl):kM e xs (τ t) v w:=hv ▸ h.res j t _ hs rfl hl
abbrev iy {N:aP} {e:Nat} {xs:List UInt8} {T:aP} {v:Value} {w:World} (_:kM e xs T v w):Ini N:=Ac e N v xs
end
section
variable {P:Program} {a:Act} {o:Oper} {w:World} {x y:Operand} {t t':TypeId} {s u:ByteArray}
def qp (x y:ByteArray):ByteArray:=if nu x y=true then y else x
theorem EU (hc:o.op= .call { callee:= .builtin .max,args:=#[x,y],argTypes:=#[t,t'] }) (hx:a.eval x= .string s) (hy:a.eval y= .string u):cp P a o w (.string (qp s u)):=by
  have h:(Builtin.max_ #[t,t'] o.type #[.string s,.string u]).run P w= .ok (.string (qp s u)) w:=by
    cases hb:Op.bytesLess s.toList u.toList <;> simp [Builtin.max_,Builtin.max2,Op.stringOp,asBool,qp,nu,hb]
  simp only [cp,execOp,hc,resolve,invoke,builtin,Sem.run_bind,Sem.run_pure,Result.andThen_ok,eu,bz,bU,hx,hy,h]
end
end
section
open Go.RowKit
def oq (P:Program) (l:List Oper) (Q:Exit→Act→World→Prop) (a:Act) (w:World):Prop:=wpOps P l.toArray Q (List.range' 0 l.length) a w
theorem bk {P:Program} {id:Nat} {l:List Oper} {Q:Exit→Act→World→Prop} {a:Act} {w:World} (h:oq P l Q a w):(Code.region id l.toArray false).wp P Q a w:=by
  refine wp_region ?_;rw [List.range_eq_range'];exact h
def CH (K:Act→World→Prop):Exit→Act→World→Prop:=fun e a w=>e= .normal∧K a w
def nS (k:Nat) (g:Option (Nat × Bool)):Option (Nat × Bool):=g.map fun p=>(p.1 - k,p.2)
def jL (k:Nat):Nat→List Oper→List Oper
  | _, [] => []
  | j, o :: l => { o with after := (match j with | 0 => #[] | i + 1 => #[⟨i, .data⟩]), guard := nS k o.guard } :: jL k (j + 1) l
def ot (k:Nat) (l:List Oper):List Oper:=jL k 0 l
def Ev (l:List Oper) (k:Nat):Bool:=decide (k≤l.length)&&((l.take k).all fun o=>match o.guard with | none=>true | some g=>decide (g.1 < k))&&((l.drop k).all fun o=>match o.guard with | none=>true | some g=>decide (k≤g.1))
theorem lV {k:Nat}:∀{l:List Oper} {j i:Nat},(∀o,l[i]? =some o→∃af,(jL k j l)[i]? =some { o with after:=af,guard:=nS k o.guard })∧(l[i]? =none→(jL k j l)[i]? =none)
  | [], j, i => ⟨fun o h => by simp at h, fun _ => by simp [jL]⟩
  | o :: l, j, 0 => ⟨fun o' h => by simp at h; subst h; exact ⟨_, rfl⟩, fun h => by simp at h⟩
  | o :: l, j, i + 1 => by
    have:=lV (k:=k) (l:=l) (j:=j+1) (i:=i);simpa [jL] using this
theorem ow {k:Nat}:∀{l:List Oper} {j:Nat},(jL k j l).length=l.length
  | [], _ => rfl
  | _ :: l, j => by simp [jL, ow (l := l)]
theorem CI {o:Oper} {P:Program} {a:Act} {w:World} {K K':Act→World→Prop} {C:Act→World→Prop} {Q:Exit→Act→World→Prop} (h:∀a w,K a w→K' a w) (hh:o.wp P a w K (CH C)):o.wp P a w K' Q:=by
  unfold Oper.wp at *;generalize (execOp a.eval o).run P w=r at *;cases r with
  | ok n w' =>
    cases n <;> simp only [Oper.upon] at hh ⊢ <;>
      first
        | exact h _ _ hh
        | exact Calls.mono hh (fun e w'' he => by
            cases e with
            | returned v => exact h _ _ he
            | panicked c => exact absurd he.1 (by intro e; cases e)
            | outgrown => obtain ⟨_, _, h'⟩ := he; exact absurd h'.1 (by intro e; cases e))
        | exact Rows.mono hh (fun _ _ he => h _ _ he)
  | halt x w' => cases x <;> simp only [Oper.upon] at hh <;> exact absurd hh.1 (by intro e; cases e)
theorem Ad {P:Program} {l:List Oper} {l1:List Oper} (hl:l1=l.take l1.length) {K:Act→World→Prop} {Q:Exit→Act→World→Prop} {rest:List Nat} (hg:∀o ∈ l1,∀g,o.guard=some g→g.1 < l1.length)
    (hK:∀a w,K a w→wpOps P l.toArray Q rest a w):∀(m i:Nat) (a:Act) (w:World),i+m=l1.length→wpOps P l1.toArray (CH K) (List.range' i m) a w→wpOps P l.toArray Q (List.range' i m++rest) a w:=by
  intro m;induction m with
  | zero =>
    intro i a w hi h;simp only [List.range'_zero,wpOps] at h;simpa using hK _ _ h.2
  | succ m ih =>
    intro i a w hi h;rw [mc] at h ⊢;rw [me];rw [wpOps_cons] at h ⊢;have hlt:i < l1.length:=by omega
    have e0:l1[i]? =l[i]? :=by
      have h1:l1[i]? =(l.take l1.length)[i]? :=congrArg (fun q:List Oper=>q[i]?) hl;rw [h1,ge hlt]
    have ho:l1[i]? =some l1[i]:=by simp [hlt]
    have ho':l[i]? =some l1[i]:=by rw [←e0];exact ho
    unfold wpOp at h ⊢;simp only [iO,ho,ho'] at h ⊢;have hy:Region.wanted l1[i] (yielded l.toArray a.tmps)=Region.wanted l1[i] (yielded l1.toArray a.tmps):=by
      unfold Region.wanted;cases hgd:l1[i].guard with
      | none => rfl
      | some g =>
        have hlt2:=hg _ (mf hlt) g hgd;have e1:l1[g.1]? =l[g.1]? :=by
          have h1:l1[g.1]? =(l.take l1.length)[g.1]? :=congrArg (fun q:List Oper=>q[g.1]?) hl;rw [h1,ge hlt2]
        obtain ⟨g1,g2⟩:=g;simp only [] at e1;simp only [yielded,iO,e1]
    rw [hy];split
    · rename_i hw;rw [if_pos hw] at h;rcases h with h | ⟨_,x,y,h⟩
      · exact .inl (CI (fun a w hh=>ih (i+1) a w (by omega) hh) h)
      · exact absurd h.1 (by intro e;cases e)
    · rename_i hw;rw [if_neg hw] at h;exact ih (i+1) _ _ (by omega) h
theorem Ae {P:Program} {l:List Oper} {k:Nat} {Q:Exit→Act→World→Prop} (hg:∀o ∈ l.drop k,∀g,o.guard=some g→k≤g.1):∀(m i:Nat) (a:Act) (w:World),wpOps P (ot k (l.drop k)).toArray Q (List.range' i m) a w→wpOps P l.toArray Q (List.range' (k+i) m) a w:=by
  intro m;induction m with
  | zero => intro i a w h; simpa [wpOps] using h
  | succ m ih =>
    intro i a w h;rw [mc] at h ⊢;rw [wpOps_cons] at h ⊢;have hd:(l.drop k)[i]? =l[k+i]? :=by rw [jB]
    unfold wpOp at h ⊢;simp only [iO] at h ⊢;have hr:=lV (k:=k) (l:=l.drop k) (j:=0) (i:=i);cases ho:l[k+i]? with
    | none =>
      rw [show (ot k (l.drop k))[i]? =none from hr.2 (by rw [hd];exact ho)] at h;simp only [] at h ⊢;exact ih (i+1) _ _ h
    | some o =>
      obtain ⟨af,ha⟩:=hr.1 o (by rw [hd];exact ho);rw [show (ot k (l.drop k))[i]? =_ from ha] at h;simp only [] at h ⊢;have hy:Region.wanted { o with after:=af,guard:=nS k o.guard } (yielded (ot k (l.drop k)).toArray a.tmps)=Region.wanted o (yielded l.toArray a.tmps):=by
        unfold Region.wanted;simp only [];cases hgd:o.guard with
        | none => rfl
        | some g =>
          have hle:=hg o (gX (by rw [hd];exact ho)) g hgd;obtain ⟨g1,g2⟩:=g;simp only [] at hle;simp only [nS,Option.map_some];have e1:((ot k (l.drop k))[g1 - k]?).bind (·.dst)=(l[g1]?).bind (·.dst):=by
            have hr2:=lV (k:=k) (l:=l.drop k) (j:=0) (i:=g1 - k);have hd2:(l.drop k)[g1 - k]? =l[g1]? :=by rw [jB];congr 1;omega
            cases hq:l[g1]? with
            | none => rw [show (ot k (l.drop k))[g1 - k]? = none from hr2.2 (by rw [hd2]; exact hq)]
            | some o2 =>
              obtain ⟨af2,ha2⟩:=hr2.1 o2 (by rw [hd2];exact hq);rw [show (ot k (l.drop k))[g1 - k]? =_ from ha2];rfl
          simp only [yielded,iO,e1]
      rw [hy] at h;have hwp:∀K,({ o with after:=af,guard:=nS k o.guard }:Oper).wp P a w K Q=o.wp P a w K Q:=fun K=>rfl;have hask:({ o with after:=af,guard:=nS k o.guard }:Oper).asks P a w=o.asks P a w:=rfl;split
      · rename_i hw;rw [if_pos hw] at h;rcases h with h | h
        · exact .inl (Oper.wp_mono (fun a w hh=>ih (i+1) a w hh) h)
        · exact .inr h
      · rename_i hw;rw [if_neg hw] at h;exact ih (i+1) _ _ h
theorem cI {P:Program} {l:List Oper} {Q:Exit→Act→World→Prop} {a:Act} {w:World} (k:Nat) (hk:Ev l k=true) (h:oq P (l.take k) (CH (oq P (ot k (l.drop k)) Q)) a w):oq P l Q a w:=by
  unfold Ev at hk;simp only [aw,cY,ai] at hk;obtain ⟨⟨hkl,h1⟩,h2⟩:=hk;unfold oq;have hlen:(l.take k).length=k:=by simp;omega
  have e:List.range' 0 l.length=List.range' 0 k++List.range' k (l.length - k):=by
    conv=>lhs;rw [show l.length=k+(l.length - k) by omega]
    have:=@List.range'_append_1 0 k (l.length - k);rw [gV] at this
    exact this.symm
  rw [e];unfold oq at h;rw [hlen] at h;refine Ad (l1:=l.take k) (by rw [hlen]) (fun o ho g hgd=> ?_) (fun a w hh=> ?_) k 0 a w (by omega) h
  · have:=h1 o ho;rw [hgd] at this
    rw [hlen];simpa using this
  · unfold oq at hh;have hl2:(ot k (l.drop k)).length=l.length - k:=by unfold ot;rw [ow];simp
    rw [hl2] at hh;have:=Ae (l:=l) (k:=k) (fun o ho g hgd=>by have:=h2 o ho;rw [hgd] at this;simpa using this) (l.length - k) 0 a w hh;simpa using this
theorem Gl {N:aP} {P:Program} {l:List Oper} {sp:List (Spec N)} {ini:Nat→Ini N} {a0:Act} {w0:World} {bf:List Nat} (hok:(ni l.toArray a0.tmps.size&&qo l.toArray bf&&nw l.toArray bf (sp.map (·.slot)) (sp.map (·.tag)))=true)
    {Q:Exit→Act→World→Prop} {τ:Nat→aP} (hb:∀k,w0.heap.size≤k→N k) (hdis:∀s t g,τ s g→τ t g→s=t) (hbnd:∀t g,τ t g→N g∧g < w0.heap.size) (hini:∀t,(ini t).I (fb τ w0) (τ t) w0)
    (obs:oC l.toArray sp ini a0 w0 P bf 0 l sp)
    (fin:∀done a w τ,(∀i,i < l.length→done i=true)→J l.toArray sp ini a0 w0 done a w τ→Q .normal a w):oq P l Q a0 w0:=by
  rw [aw,aw] at hok;obtain ⟨⟨h1,h2⟩,h3⟩:=hok;have obs':∀(j:Nat) (o:Oper) (s:Spec N),l.toArray[j]? =some o→sp[j]? =some s→Ob l.toArray sp ini a0 w0 P bf j o s:=fun j o s ho hs=>by
    have:=oE obs j o s (by simpa using ho) hs;rwa [gV] at this
  refine xr h1 h2 h3 obs' (fun a w τ hJ=>fin _ a w τ (fun i hi=>by simpa using hi) hJ) l.toArray.size 0 a0 w0 τ rfl ?_;exact J.start hb hdis hbnd hini (.inl rfl) fun i _=>by simp
theorem EV {N:aP} {n:Nat} {W0:World} {P:Program} {l:List Oper} {sp:List (Spec N)} (il:List (Ini N)) {a0:Act} {w0:World} {τ0:Nat→aP} {bf:List Nat}
    {Q:Exit→Act→World→Prop} (hst:St N W0 n a0 w0 τ0) (hok:(ni l.toArray n&&qo l.toArray bf&&nw l.toArray bf (sp.map (·.slot)) (sp.map (·.tag)))=true)
    (hini:qW τ0 w0 0 il) (obs:oC l.toArray sp (eI il) a0 w0 P bf 0 l sp)
    (fin:∀a w τ,St N W0 n a w τ→Fin l sp il a0 a w τ→Q .normal a w):oq P l Q a0 w0:=by
  have hlen:sp.length=l.length:=by
    simp only [aw] at hok;have h3:=hok.2;unfold nw at h3;simp only [aw,fR,beq_iff_eq] at h3;simpa using h3.1.1
  refine Gl (N:=N) (ini:=eI il) (τ:=τ0) (by rw [hst.size];exact hok) hst.big hst.disj hst.bnd (fun t=> ?_) obs fun done a w τ hd hJ=> ?_
  · have:=nA hini t;rwa [gV] at this
  · refine fin a w τ ⟨hJ.defers.trans hst.defers,hJ.size.trans hst.size,hst.ext.trans hJ.ext,hJ.big,hJ.disj,hJ.bnd⟩ ⟨fun t ht=> ?_,fun j s hs ht=> ?_,fun j t s hs ht hl=> ?_,fun t hl=> ?_⟩
    · refine hJ.un t fun i o hi hdst=> ?_;exfalso;unfold jK at ht;rw [cY] at ht;have:=ht o (gX (by simpa using hi));simp [hdst] at this
    · exact hJ.det j s hs ht (hd j (by rw [←hlen];exact (List.getElem?_eq_some_iff.1 hs).1))
    · obtain ⟨h1,h2,h3⟩:=kU hl;refine hJ.res j s t hs ht (hd j (by omega)) fun k s' hk hlt hkt=> ?_;exact absurd (by rw [ju hk];exact hkt) (h3 k hlt (List.getElem?_eq_some_iff.1 hk).1)
    · refine hJ.ini t fun k s' hk hkt=> ?_;exact absurd (by rw [ju hk];exact hkt) (kV hl k (List.getElem?_eq_some_iff.1 hk).1)
structure ZP where
  P:aP→World→Prop
  st:∀{Z Z':aP} {w w':World},(∀g,Z g→Z' g)→Ext (fun g=>¬Z g) w w'→P Z w→P Z' w'
def Fz (Φ:ZP) (τ:Nat→aP) (w:World):Prop:=Φ.P (fb τ w) w
def mh (N:aP) (Φ:ZP):Ini N:=⟨fun Z _ w=>Φ.P Z w,fun Z Z' T w w' hz he h=>Φ.st hz (he.mono fun _ _ h=>h.2.2) h⟩
abbrev iz {N:aP} {Φ:ZP} {τ:Nat→aP} {w:World} (_:Fz Φ τ w):Ini N:=mh N Φ
def ZP.pure (p:Prop):ZP:=⟨fun _ _=>p,fun _ _ h=>h⟩
def ZP.and (Φ Ψ:ZP):ZP:=⟨fun Z w=>Φ.P Z w∧Ψ.P Z w,fun hz he h=>⟨Φ.st hz he h.1,Ψ.st hz he h.2⟩⟩
def dL {α:Type} (E:Enc α) (G:aP) (v:Value) (xs:List α):ZP:=⟨fun Z w=>SlT E w v xs∧(xs≠ []→Z (cW v).block∧G (cW v).block),fun hz he h=>⟨h.1.keep he fun hn hm=>hm (h.2 hn).1,fun hn=>⟨hz _ (h.2 hn).1,(h.2 hn).2⟩⟩⟩
section
variable {N:aP} {β:Type}
def lW (N:aP) (t:Nat) (f:β→Value) (Ψ:β→Prop) (Φ:β→ZP):Spec N:=⟨none,t,fun Z _ v w=>∃b,v=f b∧Ψ b∧(Φ b).P Z w,fun Z Z' T v w w' hz he ⟨b,h1,h2,h3⟩=>⟨b,h1,h2,(Φ b).st hz (he.mono fun _ _ h=>h.2.2) h3⟩,fun _=>True,fun _ _ _ _ _=>trivial⟩
def CJ {α:Type} (E:Enc α) (ty:Nat) (N:aP) (tag t:Nat) (xs:β→List α) (Ψ:β→Prop) (Φ:β→ZP):Spec N:=⟨some tag,t,fun Z T v w=>∃b,eb E ty (xs b) T v w∧Ψ b∧(Φ b).P Z w,fun Z Z' T v w w' hz he ⟨b,h1,h2,h3⟩=>⟨b,jY T v w w' he.less h1,h2,(Φ b).st hz (he.mono fun _ _ h=>h.2.2) h3⟩,fun _=>True,fun _ _ _ _ _=>trivial⟩
def iU (ty:Nat) (N:aP) (tag t:Nat) (p:Value) (cells:β→List Value) (f:β→Value) (Ψ:β→Prop) (Φ:β→ZP):Spec N:=⟨some tag,t,fun Z T v w=>∃b,v=f b∧cd ty (cells b) T p w∧Ψ b∧(Φ b).P Z w,fun Z Z' T v w w' hz he ⟨b,h0,h1,h2,h3⟩=>⟨b,h0,kG T p w w' he.less h1,h2,(Φ b).st hz (he.mono fun _ _ h=>h.2.2) h3⟩,fun _=>True,fun _ _ _ _ _=>trivial⟩
end
def Gn (F:aP) (w:World):aP:=fun g=>F g∨w.heap.size≤g
section
variable {N:aP} {P:Program} {ops:Array Oper} {sp:List (Spec N)} {In:Nat→Ini N} {a0:Act} {w0:World} {bf:List Nat} {j:Nat} {o:Oper} {s:Spec N} {β:Type}
theorem jZ {t:Nat} {f:β→Value} {Ψ:β→Prop} {Φ:β→ZP} (h:∀{done a w τ},Cx ops sp In a0 w0 bf j o done a w τ→∃g args,fA P a o w g args∧Calls P g args w (fun e w'=>∃b,e= .returned (f b)∧Ext bc w w'∧Ψ b∧(Φ b).P (fb τ w') w'))
    (hs:s=lW N t f Ψ Φ:=by exact rfl) (hg:o.guard=none:=by exact rfl) (hd:o.dst=some t:=by exact rfl):Ob ops sp In a0 w0 P bf j o s:=
  tG hg fun done a w τ c=>by
    obtain ⟨g,args,h1,h2⟩:=h c;subst hs;unfold Oper.wp;rw [h1];refine h2.mono fun e w' ⟨b,he,hx,hp,hz⟩=> ?_;subst he;refine ⟨f b,rfl,hx,b,?_,hp,hz⟩;show aT (a.put o.dst (f b)) t=f b;rw [hd,dA a t t _ (c.lt t hd),if_pos rfl]
theorem kA {τ:Nat→aP} {tag:Nat} {T':aP} {w:World} (h:∀g,T' g→τ tag g):∀g,fb τ w g→fb (nn τ tag T') w g:=fun g hg=>⟨hg.1,fun t ht=>by
  unfold nn at ht;split at ht
  · exact hg.2 _ (h _ ht)
  · exact hg.2 _ ht⟩
theorem Ew {α:Type} {E:Enc α} {ty tag t:Nat} {xs:β→List α} {Ψ:β→Prop} {Φ:β→ZP} (h:∀{done a w τ},Cx ops sp In a0 w0 bf j o done a w τ→∃f args,fA P a o w f args∧Calls P f args w (fun e w'=>∃v b,e= .returned v∧Ext bc w w'∧oT E ty w w' v (xs b)∧Ψ b∧(Φ b).P (fb (nn τ tag fun g=>v.ownBlock=some g) w') w'))
    (hs:s=CJ E ty N tag t xs Ψ Φ:=by exact rfl) (hg:o.guard=none:=by exact rfl) (hd:o.dst=some t:=by exact rfl):Ob ops sp In a0 w0 P bf j o s:=by
  subst hs;refine jv (tag:=tag) hg rfl fun done a w τ c=> ?_;obtain ⟨f,args,h1,h2⟩:=h c;refine ⟨f,args,h1,h2.mono fun e w' ⟨v,b,he,hx,ho,hp,hz⟩=>⟨v,he,hx.mono (fun _ _ h=>h.elim),fun g=>v.ownBlock=some g,fun g hg=> .inr ⟨ho.2 g hg,ho.1.lt g hg⟩,b,?_,hp,hz⟩⟩;show eb E ty (xs b) _ (aT (a.put o.dst v) t) w';rw [hd,dA a t t v (c.lt t hd),if_pos rfl];exact ⟨ho.1,fun g h=>h⟩
theorem gy {ty tag t:Nat} {p:Value} {cells:β→List Value} {f:β→Value} {Ψ:β→Prop} {Φ:β→ZP} (h:∀{done a w τ},Cx ops sp In a0 w0 bf j o done a w τ→∃g args,fA P a o w g args∧Calls P g args w (fun e w'=>∃b,e= .returned (f b)∧Ext (τ tag) w w'∧cd ty (cells b) (τ tag) p w'∧Ψ b∧(Φ b).P (fb τ w') w'))
    (hs:s=iU ty N tag t p cells f Ψ Φ:=by exact rfl) (hg:o.guard=none:=by exact rfl) (hd:o.dst=some t:=by exact rfl):Ob ops sp In a0 w0 P bf j o s:=by
  subst hs;refine jv (tag:=tag) hg rfl fun done a w τ c=> ?_;obtain ⟨g,args,h1,h2⟩:=h c;refine ⟨g,args,h1,h2.mono fun e w' ⟨b,he,hx,hb,hp,hz⟩=>⟨f b,he,hx,τ tag,fun g h=> .inl h,b,?_,hb,hp,(Φ b).st (kA fun _ h=>h) (Ext.refl _ _) hz⟩⟩;show aT (a.put o.dst (f b)) t=f b;rw [hd,dA a t t _ (c.lt t hd),if_pos rfl]
end
section
variable {N:aP} {P:Program} {ops:Array Oper} {sp:List (Spec N)} {In:Nat→Ini N} {a0:Act} {w0:World} {bf:List Nat} {j:Nat} {o:Oper} {done:Nat→Bool} {a:Act} {w:World} {τ:Nat→aP}
theorem Cx.iz {Φ:ZP} (c:Cx ops sp In a0 w0 bf j o done a w τ) (t:Nat) (hI:In t=mh N Φ) (hl:bH (sp.map (·.tag)) t j=none:=by exact rfl) (hord:jD (sp.map (·.tag)) bf t j=true:=by kernel_rfl):Φ.P (fb τ w) w:=c.ini t _ hI hl hord
theorem Cx.gz {F:aP} {W w':World} (c:Cx ops sp In a0 w0 bf j o done a w τ) (hW:W.heap.size≤w.heap.size) (hx:w.heap.size≤w'.heap.size):∀g,Gn (fun g=>fb τ w g∧Gn F W g) w g→g < w'.heap.size→fb τ w' g∧Gn F W g:=fun g hg hlt=>by
  rcases hg with ⟨⟨h1,h2⟩,h3⟩ | hg
  · exact ⟨⟨hlt,h2⟩,h3⟩
  · exact ⟨⟨hlt,fun t ht=>by have:=(c.J.bnd t g ht).2;omega⟩,.inr (by omega)⟩
theorem Cx.gzo {F:aP} {W w':World} {tag:Nat} {v:Value} (c:Cx ops sp In a0 w0 bf j o done a w τ) (hW:W.heap.size≤w.heap.size) (hx:w.heap.size≤w'.heap.size) (hv:∀g,v.ownBlock=some g→w.heap.size≤g):∀g,Gn (fun g=>fb τ w g∧Gn F W g) w g∧v.ownBlock≠some g→g < w'.heap.size→fb (nn τ tag fun g=>v.ownBlock=some g) w' g∧Gn F W g:=fun g hg hlt=>by
  obtain ⟨hg,hne⟩:=hg;have hG:Gn F W g:=by
    rcases hg with ⟨_,h3⟩ | hg
    · exact h3
    · exact .inr (by omega)
  refine ⟨⟨hlt,fun t ht=> ?_⟩,hG⟩;unfold nn at ht;split at ht
  · exact hne ht
  · rcases hg with ⟨⟨_,h2⟩,_⟩ | hg
    · exact h2 t ht
    · have:=(c.J.bnd t g ht).2;omega
end
section
variable {N:aP} {l:List Oper} {sp:List (Spec N)} {il:List (Ini N)} {a0 a:Act} {w:World} {τ:Nat→aP} {β:Type}
theorem Fin.iz (h:Fin l sp il a0 a w τ) {Φ:ZP} (t:Nat) (hI:eI il t=mh N Φ) (hl:bH (sp.map (·.tag)) t sp.length=none:=by exact rfl):Fz Φ τ w:=by
  have:=h.ini t hl;rw [hI] at this
  exact this
theorem Fin.zd (h:Fin l sp il a0 a w τ) {t:Nat} {f:β→Value} {Ψ:β→Prop} {Φ:β→ZP} (j:Nat) (hs:sp[j]? =some (lW N t f Ψ Φ)):∃b,aT a t=f b∧Ψ b∧Fz (Φ b) τ w:=h.det j _ hs rfl
theorem Fin.zo (h:Fin l sp il a0 a w τ) {α:Type} {E:Enc α} {ty t slot:Nat} {xs:β→List α} {Ψ:β→Prop} {Φ:β→ZP} (j:Nat) {v:Value} (hv:aT a slot=v) (hs:sp[j]? =some (CJ E ty N t slot xs Ψ Φ)) (hl:bH (sp.map (·.tag)) t sp.length=some j:=by exact rfl):∃b,eb E ty (xs b) (τ t) v w∧Ψ b∧Fz (Φ b) τ w:=
  hv ▸ h.res j t _ hs rfl hl
theorem Fin.zb (h:Fin l sp il a0 a w τ) {ty t slot:Nat} {p:Value} {cells:β→List Value} {f:β→Value} {Ψ:β→Prop} {Φ:β→ZP} (j:Nat) (hs:sp[j]? =some (iU ty N t slot p cells f Ψ Φ)) (hl:bH (sp.map (·.tag)) t sp.length=some j:=by exact rfl):∃b,aT a slot=f b∧cd ty (cells b) (τ t) p w∧Ψ b∧Fz (Φ b) τ w:=
  h.res j t _ hs rfl hl
end
section
variable {P:Program} {a:Act} {o:Oper} {w w':World} {f:FuncId}
theorem pZ {x:Operand} {v:Value} (ho:o.op= .makeFunc (.func f) #[] #[x]) (hx:a.eval x=v):cp P a o w (.func (.func f) #[] #[v]):=by
  subst hx;simp [cp,execOp,ho,Instr.makeFunc]
theorem uV {x y z:Operand} {v u q:Value} (ho:o.op= .makeFunc (.func f) #[] #[x,y,z]) (hx:a.eval x=v) (hy:a.eval y=u) (hz:a.eval z=q):cp P a o w (.func (.func f) #[] #[v,u,q]):=by
  subst hx hy hz;simp [cp,execOp,ho,Instr.makeFunc]
theorem uW {x y z x4:Operand} {v u q v4:Value} (ho:o.op= .makeFunc (.func f) #[] #[x,y,z,x4]) (hx:a.eval x=v) (hy:a.eval y=u) (hz:a.eval z=q) (h4:a.eval x4=v4):cp P a o w (.func (.func f) #[] #[v,u,q,v4]):=by
  subst hx hy hz h4;simp [cp,execOp,ho,Instr.makeFunc]
theorem Af {x x1:Operand} {ts:Array TypeId} {v1 c1:Value} (ho:o.op= .call { callee:= .value x,args:=#[x1],argTypes:=ts }) (hx:a.eval x= .func (.func f) #[] #[c1]) (hcall:∀args w,(callFunc f args).run P w= .ok (.enter f args) w) (h1:a.eval x1=v1):fA P a o w f #[v1,c1]:=
  mH ho hx hcall (by simp [h1])
theorem Ext.fresh {W w:World} (h:Ext (fun k=>W.heap.size≤k) W w):Ext bc W w:=⟨h.os,h.tape,h.output,h.size,fun k hk _=>h.block k hk (fun hn:W.heap.size≤k=>by omega)⟩
theorem Ext.cellAt {W w:World} (h:Ext (fun k=>W.heap.size≤k) W w) {p:Addr} {v:Value} (hc:W.cell? p=some v):w.cell? p=some v:=h.fresh.cell_some hc (fun h=>h)
end
section
variable {N:aP} {β:Type}
def eS (N:aP) (t:Nat) (pc:Prop) (f:β→Value) (Ψ:β→Prop) (Φ:β→ZP):Spec N:=⟨none,t,fun Z _ v w=>pc→∃b,v=f b∧Ψ b∧(Φ b).P Z w,fun Z Z' T v w w' hz he h hp=>(h hp).elim fun b ⟨h1,h2,h3⟩=>⟨b,h1,h2,(Φ b).st hz (he.mono fun _ _ h=>h.2.2) h3⟩,fun _=>True,fun _ _ _ _ _=>trivial⟩
def qa {α:Type} (E:Enc α) (ty:Nat) (N:aP) (tag t:Nat) (pc:Prop) (xs:β→List α) (Ψ:β→Prop) (Φ:β→ZP):Spec N:=⟨some tag,t,fun Z T v w=>pc→∃b,eb E ty (xs b) T v w∧Ψ b∧(Φ b).P Z w,fun Z Z' T v w w' hz he h hp=>(h hp).elim fun b ⟨h1,h2,h3⟩=>⟨b,jY T v w w' he.less h1,h2,(Φ b).st hz (he.mono fun _ _ h=>h.2.2) h3⟩,fun _=>True,fun _ _ _ _ _=>trivial⟩
def Ag (ty:Nat) (N:aP) (tag t:Nat) (cells:β→List Value) (Ψ:β→Prop) (Φ:β→ZP):Spec N:=⟨some tag,t,fun Z T v w=>∃b,cd ty (cells b) T v w∧Ψ b∧(Φ b).P Z w,fun Z Z' T v w w' hz he ⟨b,h1,h2,h3⟩=>⟨b,kG T v w w' he.less h1,h2,(Φ b).st hz (he.mono fun _ _ h=>h.2.2) h3⟩,fun _=>True,fun _ _ _ _ _=>trivial⟩
end
section
variable {N:aP} {P:Program} {ops:Array Oper} {sp:List (Spec N)} {In:Nat→Ini N} {a0:Act} {w0:World} {bf:List Nat} {j:Nat} {o:Oper} {s:Spec N} {β:Type} {pc:Prop}
def uX (ops:Array Oper) (sp:List (Spec N)) (bf:List Nat) (j:Nat) (o:Oper) (pc:Prop):Prop:=
  (o.guard=none∧pc)∨(∃gi want tg b,o.guard=some (gi,want)∧((ops[gi]?).bind (·.dst))=some tg∧sp[gi]? =some (B.det N tg (.bool b))∧(bf.getD j 0).testBit gi=true∧(pc↔b=want))∨
  (∃gi want tg b pg,o.guard=some (gi,want)∧((ops[gi]?).bind (·.dst))=some tg∧sp[gi]? =some (B.gdet N tg pg (.bool b))∧(bf.getD j 0).testBit gi=true∧(pc↔(pg∧b=want)))
theorem oJ (hg:o.guard=none:=by exact rfl):uX ops sp bf j o True:= .inl ⟨hg,ax⟩
theorem ra {a:Act} {t:Nat} {b:Bool} (hv:aT a t= .bool b):a.tmps[t]? =some (.bool b):=by
  unfold aT at hv;rw [aW] at hv;cases h':a.tmps[t]? with
  | none => rw [h'] at hv; simp [undef] at hv
  | some u => rw [h'] at hv; simp at hv; rw [hv]
theorem sA {a:Act} {t:Nat} (hv:aT a t=undef):∀b,a.tmps[t]? ≠some (.bool b):=by
  intro bb h';unfold aT at hv;rw [aW,h'] at hv;simp [undef] at hv
theorem uX.known (h:uX ops sp bf j o pc) {done:Nat→Bool} {a:Act} {w:World} {τ:Nat→aP} (c:Cx ops sp In a0 w0 bf j o done a w τ):Region.wanted o (yielded ops a.tmps)=true↔pc:=by
  rcases h with ⟨hg,hp⟩ | ⟨gi,want,tg,b,hg,hgd,hgs,hb,hpc⟩ | ⟨gi,want,tg,b,pg,hg,hgd,hgs,hb,hpc⟩
  · exact ⟨fun _=>hp,fun _=>lI hg _⟩
  · have hv:=ra (c.v gi hgs hb);rw [hpc];cases b <;> cases want <;> simp [Region.wanted,hg,yielded,hgd,hv]
  · have hv:(pg→aT a tg= .bool b)∧(¬pg→aT a tg=undef):=c.J.det gi _ hgs rfl (c.pre gi hb);rw [hpc];by_cases hpg:pg
    · have hv:=ra (hv.1 hpg);cases b <;> cases want <;> simp [Region.wanted,hg,yielded,hgd,hv,hpg]
    · have hv:=sA (hv.2 hpg);have hy:yielded ops a.tmps gi=none:=by
        cases h':a.tmps[tg]? with
        | none => simp [yielded, hgd, h']
        | some u => cases u <;> first | exact absurd h' (hv _) | simp [yielded, hgd, h']
      simp [Region.wanted,hg,hy,hpg]
theorem Gm {t:Nat} {f:β→Value} {Ψ:β→Prop} {Φ:β→ZP} (hgd:uX ops sp bf j o pc) (h:∀{done a w τ},Cx ops sp In a0 w0 bf j o done a w τ→pc→∃g args,fA P a o w g args∧Calls P g args w (fun e w'=>∃b,e= .returned (f b)∧Ext bc w w'∧Ψ b∧(Φ b).P (fb τ w') w'))
    (hs:s=eS N t pc f Ψ Φ:=by exact rfl) (hd:o.dst=some t:=by exact rfl):Ob ops sp In a0 w0 P bf j o s:=by
  subst hs;intro done a w τ c;refine ⟨fun hw=> ?_,fun hw=>⟨Ext.refl _ _,fun hp=>by rw [(hgd.known c).2 hp] at hw;cases hw⟩⟩;have hp:=(hgd.known c).1 hw;obtain ⟨g,args,h1,h2⟩:=h c hp;unfold Oper.wp;rw [h1];refine h2.mono fun e w' ⟨b,he,hx,hq,hz⟩=> ?_;subst he;refine ⟨f b,rfl,hx,fun _=>⟨b,?_,hq,hz⟩⟩;show aT (a.put o.dst (f b)) t=f b;rw [hd,dA a t t _ (c.lt t hd),if_pos rfl]
theorem rc {α:Type} {E:Enc α} {ty e tag t n:Nat} {xs:β→List α} {Ψ:β→Prop} {Φ:β→ZP} {parts:Array (Nat × Operand)} {z:Value} {cells:β→Array Value} (hgd:uX ops sp bf j o pc) (ho:o.op= .buildSlice ty n parts)
    (hty:P.underlying ty=some (.slice e)) (hsz:∀w,(sizeOf e).run P w= .ok E.sz w) (hz:∀w,(zeroValue e).run P w= .ok z w) (hn0:0 < n) (hsmall:n * E.sz≤16777216) (hn:∀b,n=(xs b).length) (hc:∀b,(cells b).toList=E.row (xs b))
    (h:∀{done a w τ},Cx ops sp In a0 w0 bf j o done a w τ→pc→∃b,Ψ b∧(Φ b).P (fb τ w) w∧Instr.fill (fun i=>some (i * E.sz,E.sz)) ((Array.range (n * E.sz)).map (z.cells[· % z.cells.size]!)) (parts.map fun (i,x)=>(i,a.eval x)).toList=some (cells b))
    (hs:s=qa E e N tag t pc xs Ψ Φ:=by exact rfl) (hd:o.dst=some t:=by exact rfl):Ob ops sp In a0 w0 P bf j o s:=by
  subst hs;intro done a w τ c;refine ⟨fun hw=> ?_,fun hw=>⟨Ext.refl _ _,τ tag,fun g h=> .inl h,fun hp=>by rw [(hgd.known c).2 hp] at hw;cases hw⟩⟩;have hp:=(hgd.known c).1 hw;obtain ⟨b,hq,hzz,hf⟩:=h c hp;have h2:¬(n * E.sz > 2 ^ 24):=by omega
  have h0:¬(n * E.sz=0):=by have:=Nat.mul_pos hn0 E.pos;omega
  have hr:(execOp a.eval o).run P w= .ok (.value (.slice (some ⟨w.heap.size,0,none⟩) n n)) (w.alloc (.cells (cells b) e)):=by
    simp only [execOp,ho,Instr.buildSlice,Sem.run_bind,run_underlying hty,Result.andThen_ok,hsz,h2,if_false,Sem.run_pure,h0,hz];rw [hf];rfl
  have hl:(cells b).size=n * E.sz:=by rw [←fl,hc,E.row_length,←hn b]
  refine fP hr ⟨_,rfl,Ext.alloc _ _ _,fun g=>g=w.heap.size,fun g hg=> .inr (by subst hg;simp),fun _=>⟨b,?_,hq,?_⟩⟩
  · show eb E e (xs b) _ (aT (a.put o.dst _) t) _;rw [hd,dA a t t _ (c.lt t hd),if_pos rfl];refine ⟨⟨E.row_length (xs b),.inr ⟨w.heap.size,n,cells b,by rw [←hn b],ee _,heap_alloc_new w _,by rw [←hn b];exact br _,?_,hl,?_⟩⟩,fun g h=> ?_⟩
    · have:=jH n E.pos;simp only [maxLen];omega
    · rw [hc,←E.row_length];exact kk
    · simp only [Value.ownBlock,Option.some.injEq] at h;exact h.symm
  · refine (Φ b).st (fun g hg=>⟨cR hg.1 (by simp),fun t ht=> ?_⟩) ((Ext.alloc bc w _).mono fun _ _ h=>h.elim) hzz;unfold nn at ht;split at ht
    · have:=hg.1;omega
    · exact hg.2 t ht
theorem wr {ty tag t tt off:Nat} {cells0:List Value} {cells:β→List Value} {Ψ:β→Prop} {Φ:β→ZP} {x y:Operand} {v:β→Value} (hg:o.guard=none) (ho:o.op= .store tt x y) (hsz:∀b w,(sizeOf tt).run P w= .ok (v b).cells.size w)
    (hfit:∀b,off+(v b).cells.size≤cells0.length) (h1:∀b,∀u ∈ (v b).cells.toList,u.oneCell'=true) (hc:∀b,cells b=cells0.take off++(v b).cells.toList++cells0.drop (off+(v b).cells.size))
    (hp:∀{done a w τ},Cx ops sp In a0 w0 bf j o done a w τ→∃b,Ψ b∧(Φ b).P (fb τ w) w∧cd ty cells0 (τ tag) (aT a t) w∧a.eval x= .pointer (some ((cW (aT a t)).add off))∧a.eval y=v b)
    (hs:s=Ag ty N tag t cells Ψ Φ:=by exact rfl) (hd:o.dst=none:=by exact rfl):Ob ops sp In a0 w0 P bf j o s:=by
  subst hs;refine ey hg rfl fun done a w τ c=> ?_;obtain ⟨b,hq,hzz,⟨g,hv,hlt,hT,hgg⟩,hx,hy⟩:=hp c;have hx':a.eval x= .pointer (some ⟨g,off,none⟩):=by rw [hx,hv];simp only [cW,lJ]
  have hr:=run_store (P:=P) (t:=tt) (off:=off) hgg (hsz b) (by simpa using hfit b) (h1 b);have hr':(execOp a.eval o).run P w= .ok .skip (w.setRow g (cells b).toArray):=by
    simp only [execOp,ho,hx',hy,Sem.run_bind,hr,Result.andThen_ok];rw [hc];rfl
  have hx:Ext (τ tag) w (w.setRow g (cells b).toArray):=(iG w g _).mono (fun k _ h=>by rw [h];exact hT);refine iH hr' ⟨undef,rfl,hx,τ tag,fun g h=> .inl h,b,?_,hq,?_⟩
  · show cd ty (cells b) _ (aT (a.put o.dst _) t) _;rw [hd,jX];exact ⟨g,hv,by simp [World.setRow,hlt],hT,setRow_heap w g _ _ ty _ hgg⟩
  · exact (Φ b).st (fun g hg=>kA (fun _ h=>h) g ⟨cR hg.1 hx.size,hg.2⟩) (hx.mono fun g _ hg hn=>hn.2 _ hg) hzz
end
section
variable {N:aP} {P:Program} {ops:Array Oper} {sp:List (Spec N)} {In:Nat→Ini N} {a0:Act} {w0:World} {bf:List Nat} {j:Nat} {o:Oper} {done:Nat→Bool} {a:Act} {w:World} {τ:Nat→aP} {β:Type} {pc:Prop}
theorem Cx.zd (c:Cx ops sp In a0 w0 bf j o done a w τ) (i:Nat) {t:Nat} {f:β→Value} {Ψ:β→Prop} {Φ:β→ZP} (hs:sp[i]? =some (eS N t pc f Ψ Φ)) (hp:pc) (hb:(bf.getD j 0).testBit i=true:=by exact rfl):∃b,a.eval (.tmp t)=f b∧Ψ b∧(Φ b).P (fb τ w) w:=c.J.det i _ hs rfl (c.pre i hb) hp
theorem Cx.zo (c:Cx ops sp In a0 w0 bf j o done a w τ) {α:Type} {E:Enc α} {ty t slot:Nat} {xs:β→List α} {Ψ:β→Prop} {Φ:β→ZP} (i:Nat) (hs:sp[i]? =some (qa E ty N t slot pc xs Ψ Φ)) (hp:pc) (hl:bH (sp.map (·.tag)) t j=some i:=by exact rfl) (hord:jD (sp.map (·.tag)) bf t j=true:=by kernel_rfl):∃b,eb E ty (xs b) (τ t) (aT a slot) w∧Ψ b∧(Φ b).P (fb τ w) w:=c.res i t _ hs hl hord hp
end
section
variable {N:aP} {l:List Oper} {sp:List (Spec N)} {il:List (Ini N)} {a0 a:Act} {w:World} {τ:Nat→aP} {β:Type} {pc:Prop}
theorem Fin.gzb (h:Fin l sp il a0 a w τ) {ty t slot:Nat} {cells:β→List Value} {Ψ:β→Prop} {Φ:β→ZP} (j:Nat) {v:Value} (hv:aT a slot=v) (hs:sp[j]? =some (Ag ty N t slot cells Ψ Φ)) (hl:bH (sp.map (·.tag)) t sp.length=some j:=by exact rfl):∃b,cd ty (cells b) (τ t) v w∧Ψ b∧Fz (Φ b) τ w:=hv ▸ h.res j t _ hs rfl hl
theorem Fin.gzd (h:Fin l sp il a0 a w τ) {t:Nat} {f:β→Value} {Ψ:β→Prop} {Φ:β→ZP} (j:Nat) (hs:sp[j]? =some (eS N t pc f Ψ Φ)) (hp:pc):∃b,aT a t=f b∧Ψ b∧Fz (Φ b) τ w:=h.det j _ hs rfl hp
end
def Ah (ty:Nat) (N:aP) (tag t:Nat) (p:Value) (cells:Value→List Value):Spec N:=⟨some tag,t,fun _ T v w=>cd ty (cells v) T p w,fun _ _ T v w w' _ h hr=>kG T p w w' h.less hr,fun _=>True,fun _ _ _ _ _=>trivial⟩
theorem mG.cells {v:Value} {n:Nat} (h:mG v n):v.cells.toList=[v]∧v.cells.size=1∧v.oneCell'=true:=by
  rcases h with ⟨rfl,_⟩ | ⟨b,cap,rfl,_⟩ <;> exact ⟨rfl,rfl,rfl⟩
section
variable {N:aP} {P:Program} {ops:Array Oper} {sp:List (Spec N)} {In:Nat→Ini N} {a0:Act} {w0:World} {bf:List Nat} {j:Nat} {o:Oper} {s:Spec N}
theorem mM {ty tag t tt off:Nat} {p:Value} {cells0:List Value} {cells:Value→List Value} {x y:Operand} (hs:s=Ah ty N tag t p cells) (hg:o.guard=none) (hd:o.dst=none) (ho:o.op= .store tt x y) (hsz:∀w,(sizeOf tt).run P w= .ok 1 w)
    (hfit:off+1≤cells0.length) (hc:∀v,cells v=cells0.take off++ [v]++cells0.drop (off+1))
    (hp:∀{done a w τ},Cx ops sp In a0 w0 bf j o done a w τ→cd ty cells0 (τ tag) p w∧a.eval x= .pointer (some ((cW p).add off))∧a.eval y=aT a t∧∃n,mG (aT a t) n):Ob ops sp In a0 w0 P bf j o s:=by
  subst hs;refine ey hg rfl fun done a w τ c=> ?_;obtain ⟨⟨g,hv,hlt,hT,hgg⟩,hx,hy,n,hsl⟩:=hp c;obtain ⟨h1,h2,h3⟩:=hsl.cells;have hx':a.eval x= .pointer (some ⟨g,off,none⟩):=by rw [hx,hv];simp only [cW,lJ]
  have hr:=run_store (P:=P) (t:=tt) (off:=off) (v:=aT a t) hgg (by rw [h2];exact hsz) (by rw [h2];simpa using hfit) (by rw [h1];intro u hu;simp at hu;rw [hu];exact h3);have hr':(execOp a.eval o).run P w= .ok .skip (w.setRow g (cells (aT a t)).toArray):=by
    simp only [execOp,ho,hx',hy,Sem.run_bind,hr,Result.andThen_ok];rw [hc,h1,h2];rfl
  refine iH hr' ⟨undef,rfl,(iG w g _).mono (fun k _ h=>by rw [h];exact hT),τ tag,fun g h=> .inl h,?_⟩;show cd ty (cells (aT (a.put o.dst _) t)) _ p _;rw [hd,jX];exact ⟨g,hv,by simp [World.setRow,hlt],hT,setRow_heap w g _ _ ty _ hgg⟩
end
section
variable {N:aP} {l:List Oper} {sp:List (Spec N)} {il:List (Ini N)} {a0 a:Act} {w:World} {τ:Nat→aP}
theorem Fin.vb (h:Fin l sp il a0 a w τ) {ty t slot:Nat} {p:Value} {cells:Value→List Value} (j:Nat) {v:Value} (hv:aT a slot=v) (hs:sp[j]? =some (Ah ty N t slot p cells)) (hl:bH (sp.map (·.tag)) t sp.length=some j:=by exact rfl):cd ty (cells v) (τ t) p w:=hv ▸ h.res j t _ hs rfl hl
end
end
section
structure Sv where
  a:Option Addr
  l:Nat
  c:Nat
def Sv.v (s:Sv):Value:= .slice s.a s.l s.c
def Sv.nil:Sv:=⟨none,0,0⟩
structure Tr where
  k:Int
  ch:ByteArray
  ng:Bool
  rv:Sv
  rows:List (ByteArray × ByteArray)
  mn:Int
  mx:Int
  lz:Bool
  kv:Sv
  kids:List Tr
instance:Inhabited Tr:=⟨⟨0,⟨#[]⟩,false,Sv.nil,[],0,0,false,Sv.nil,[]⟩⟩
theorem Tr.kid_lt {t k:Tr} (h:k ∈ t.kids):SizeOf.sizeOf k < SizeOf.sizeOf t:=by
  have:=List.sizeOf_lt_of_mem h;cases t
  simp at this ⊢
  omega
theorem Tr.ind {P:Tr→Prop} (h:∀t,(∀k ∈ t.kids,P k)→P t) (t:Tr):P t:=h t fun k hk=>Tr.ind h k
termination_by SizeOf.sizeOf t
decreasing_by exact Tr.kid_lt hk
def ox:Enc Tr:=⟨fun t=> [.int .i64 t.k,.string t.ch,.bool t.ng,t.rv.v,.int .i64 t.mn,.int .i64 t.mx,.bool t.lz,t.kv.v],8,by decide,fun _=>rfl,fun x u hu=>by
  simp at hu;rcases hu with rfl | rfl | rfl | rfl | rfl | rfl | rfl | rfl <;> rfl⟩
def Tr.v (t:Tr):Value:= .agg #[.int .i64 t.k,.string t.ch,.bool t.ng,t.rv.v,.int .i64 t.mn,.int .i64 t.mx,.bool t.lz,t.kv.v]
inductive TrT (F:aP) (w:World):Tr→Prop
  | mk {t : Tr} : SlT ik w t.rv.v t.rows → (t.rows ≠ [] → F (cW t.rv.v).block) → SlT ox w t.kv.v t.kids → (t.kids ≠ [] → F (cW t.kv.v).block) → (∀ k ∈ t.kids, TrT F w k) → TrT F w t
section
variable {F F':aP} {w w':World} {t:Tr}
theorem TrT.rows (h:TrT F w t):SlT ik w t.rv.v t.rows:=by cases h;assumption
theorem TrT.rowsF (h:TrT F w t):t.rows≠ []→F (cW t.rv.v).block:=by cases h;assumption
theorem TrT.kids (h:TrT F w t):SlT ox w t.kv.v t.kids:=by cases h;assumption
theorem TrT.kidsF (h:TrT F w t):t.kids≠ []→F (cW t.kv.v).block:=by cases h;assumption
theorem TrT.kid (h:TrT F w t) {k:Tr} (hk:k ∈ t.kids):TrT F w k:=by cases h;rename_i h;exact h k hk
theorem TrT.keep (h:TrT F w t) {M:Nat→Prop} (he:Ext M w w') (hm:∀g,F g→¬M g):TrT F w' t:=by
  induction t using Tr.ind with
  | h t ih => exact .mk (h.rows.keep he fun hn => hm _ (h.rowsF hn)) h.rowsF (h.kids.keep he fun hn => hm _ (h.kidsF hn)) h.kidsF fun k hk => ih k hk (h.kid hk)
theorem TrT.mono (h:TrT F w t) (hf:∀g,F g→g < w.heap.size→F' g):TrT F' w t:=by
  induction t using Tr.ind with
  | h t ih => exact .mk h.rows (fun hn => hf _ (h.rowsF hn) (h.rows.lt hn)) h.kids (fun hn => hf _ (h.kidsF hn) (h.kids.lt hn)) fun k hk => ih k hk (h.kid hk)
def kW (w:World) (t:Tr):Prop:=TrT (fun g=>g < w.heap.size) w t
theorem TrT.s (h:TrT F w t):kW w t:=h.mono fun _ _ h=>h
theorem kW.at (h:kW w t) (he:Ext (Nw w) w w'):kW w' t:=(TrT.keep h he fun g hg hn=>by simp only [Nw] at hn;omega).s
theorem kW.keep (h:kW w t) (he:Ext bc w w'):kW w' t:=(TrT.keep h he fun _ _ hn=>hn).s
structure TlS (w:World) (v:Value) (ts:List Tr):Prop where
  sl:SlT ox w v ts
  all:∀t ∈ ts,kW w t
theorem kW.tl (h:kW w t):TlS w t.kv.v t.kids:=⟨h.kids,fun k hk=>(h.kid hk)⟩
theorem TlS.el {v:Value} {ts:List Tr} (h:TlS w v ts) {i:Int} (h0:0≤i) (h1:i < ts.length):kW w (nth ts i):=h.all _ (by
  obtain ⟨k,rfl⟩:∃k:Nat,i=(k:Int):=⟨i.toNat,by omega⟩
  have hk:k < ts.length:=by omega
  have:nth ts (k:Int)=ts[k]:=by simp [B.nth,List.getD,bE hk]
  rw [this];exact mf hk)
end
mutual
def er:Tr→Tr
  | ⟨k, ch, ng, _, rows, mn, mx, lz, _, kids⟩ => ⟨k, ch, ng, Sv.nil, rows, mn, mx, lz, Sv.nil, GT kids⟩
def GT:List Tr→List Tr
  | [] => []
  | t :: ts => er t :: GT ts
end
theorem xw (ts:List Tr):GT ts=ts.map er:=by
  induction ts with
  | nil => rfl
  | cons t ts ih => rw [GT, ih]; rfl
theorem mN (t:Tr):(er t).kids=t.kids.map er:=by cases t;simp [er,xw]
theorem oW (t:Tr):er t=⟨t.k,t.ch,t.ng,Sv.nil,t.rows,t.mn,t.mx,t.lz,Sv.nil,t.kids.map er⟩:=by cases t;simp [er,xw]
theorem Gp (t:Tr):er (er t)=er t:=by
  induction t using Tr.ind with
  | h t ih =>
    rw [oW t,oW];congr 1;rw [mB];exact js fun k hk=>ih k hk
end
section
open Go.RowKit
theorem EW:Tryz.prog.follows .mixedOrders=true:=by kernel_rfl
structure IE (N:aP) (τ:Nat→aP) (w:World) where
  i:Ini N
  t:Nat
  h:i.I (fb τ w) (τ t) w
def pH {N:aP} {τ:Nat→aP} {w:World}:List (IE N τ w)→Nat→Ini N
  | [], _ => Ini.any N
  | e :: l, t => if e.t = t then e.i else pH l t
theorem eJ {N:aP} {τ:Nat→aP} {w:World}:∀(l:List (IE N τ w)) (t:Nat),(pH l t).I (fb τ w) (τ t) w
  | [], _ => trivial
  | e :: l, t => by
    unfold pH;split
    · rename_i h;exact h ▸ e.h
    · exact eJ l t
def GZ {N:aP} {τ:Nat→aP} {w:World} (l:List (IE N τ w)):List (Ini N):=[pH l 0,pH l 1,pH l 2,pH l 3,pH l 4,pH l 5,pH l 6,pH l 7,pH l 8,pH l 9,pH l 10,pH l 11,pH l 12,pH l 13,pH l 14,pH l 15,pH l 16,pH l 17,pH l 18,pH l 19,pH l 20,pH l 21,pH l 22,pH l 23]
theorem xx {N:aP} {τ:Nat→aP} {w:World} (l:List (IE N τ w)):qW τ w 0 (GZ l):=⟨eJ l 0,eJ l 1,eJ l 2,eJ l 3,eJ l 4,eJ l 5,eJ l 6,eJ l 7,eJ l 8,eJ l 9,eJ l 10,eJ l 11,eJ l 12,eJ l 13,eJ l 14,eJ l 15,eJ l 16,eJ l 17,eJ l 18,eJ l 19,eJ l 20,eJ l 21,eJ l 22,eJ l 23,ax⟩
section
variable {N:aP} {τ:Nat→aP} {w:World}
abbrev jb {ty t:Nat} {cells:List Value} {v:Value} (h:cd ty cells (τ t) v w):IE N τ w:=⟨ibox ty N v cells,t,h⟩
abbrev jo {α:Type} {E:Enc α} {ty t:Nat} {xs:List α} {v:Value} (h:eb E ty xs (τ t) v w):IE N τ w:=⟨iown E ty N v xs,t,h⟩
abbrev jy {ty t:Nat} {xs:List UInt8} {v:Value} (h:kM ty xs (τ t) v w):IE N τ w:=⟨Ac ty N v xs,t,h⟩
abbrev jz {Φ:ZP} (t:Nat) (h:Fz Φ τ w):IE N τ w:=⟨mh N Φ,t,h⟩
end
section
variable {N:aP} {n:Nat} {W0 a0':World} {l:List Oper} {sp:List (Spec N)} {a0:Act} {w0:World} {τ0:Nat→aP} {bf:List Nat} {id:Nat} {draw:Bool} {Q:Exit→Act→World→Prop} {P:Program}
def sC (n:Nat) (l:List Oper) (bf:List Nat) (sp:List (Spec N)):Bool:=ni l.toArray n&&qo l.toArray bf&&nw l.toArray bf (sp.map (·.slot)) (sp.map (·.tag))
abbrev sD (P:Program) (bf:List Nat) (a0:Act) (w0:World) {τ0:Nat→aP} (il:List (IE N τ0 w0)) (l:List Oper) (sp:List (Spec N)):Prop:=oC l.toArray sp (eI (GZ il)) a0 w0 P bf 0 l sp
abbrev sE (W0:World) (n:Nat) (l:List Oper) (sp:List (Spec N)) (a0:Act) {w0:World} {τ0:Nat→aP} (il:List (IE N τ0 w0)) (Q:Exit→Act→World→Prop):Prop:=∀a w τ,St N W0 n a w τ→Fin l sp (GZ il) a0 a w τ→Q .normal a w
theorem rg (sp:List (Spec N)) (bf:List Nat) (hst:St N W0 n a0 w0 τ0) (il:List (IE N τ0 w0)) (obs:sD Tryz.prog bf a0 w0 il l sp) (fin:sE W0 n l sp a0 il Q) (hok:sC n l bf sp=true:=by kernel_rfl):(Code.region id l.toArray draw).wp Tryz.prog Q a0 w0:=yD _ EW hst hok (xx il) obs fin
theorem og (sp:List (Spec N)) (bf:List Nat) (hst:St N W0 n a0 w0 τ0) (il:List (IE N τ0 w0)) (obs:sD P bf a0 w0 il l sp) (fin:sE W0 n l sp a0 il Q) (hok:sC n l bf sp=true:=by kernel_rfl):oq P l Q a0 w0:=EV _ hst hok (xx il) obs fin
theorem eB {s0:Spec N} (hst:St N W0 n a0 w0 τ0) (il:List (IE N τ0 w0)) (obs:sD Tryz.prog [0] a0 w0 il l [s0]) (fin:sE W0 n l [s0] a0 il Q) (hok:sC n l [0] [s0]=true:=by kernel_rfl):(Code.region id l.toArray draw).wp Tryz.prog Q a0 w0:=rg _ _ hst il obs fin hok
theorem eC {s0 s1:Spec N} (hst:St N W0 n a0 w0 τ0) (il:List (IE N τ0 w0)) (obs:sD Tryz.prog [0,1] a0 w0 il l [s0,s1]) (fin:sE W0 n l [s0,s1] a0 il Q) (hok:sC n l [0,1] [s0,s1]=true:=by kernel_rfl):(Code.region id l.toArray draw).wp Tryz.prog Q a0 w0:=rg _ _ hst il obs fin hok
theorem zO {s0 s1 s2:Spec N} (bf:List Nat) (hst:St N W0 n a0 w0 τ0) (il:List (IE N τ0 w0)) (obs:sD Tryz.prog bf a0 w0 il l [s0,s1,s2]) (fin:sE W0 n l [s0,s1,s2] a0 il Q) (hok:sC n l bf [s0,s1,s2]=true:=by kernel_rfl):(Code.region id l.toArray draw).wp Tryz.prog Q a0 w0:=rg _ bf hst il obs fin hok
theorem eM {s0 s1 s2:Spec N} (hst:St N W0 n a0 w0 τ0) (il:List (IE N τ0 w0)) (obs:sD Tryz.prog [0,1,3] a0 w0 il l [s0,s1,s2]) (fin:sE W0 n l [s0,s1,s2] a0 il Q) (hok:sC n l [0,1,3] [s0,s1,s2]=true:=by kernel_rfl):(Code.region id l.toArray draw).wp Tryz.prog Q a0 w0:=rg _ _ hst il obs fin hok
theorem lD {s0 s1 s2 s3:Spec N} (bf:List Nat) (hst:St N W0 n a0 w0 τ0) (il:List (IE N τ0 w0)) (obs:sD Tryz.prog bf a0 w0 il l [s0,s1,s2,s3]) (fin:sE W0 n l [s0,s1,s2,s3] a0 il Q) (hok:sC n l bf [s0,s1,s2,s3]=true:=by kernel_rfl):(Code.region id l.toArray draw).wp Tryz.prog Q a0 w0:=rg _ bf hst il obs fin hok
theorem yF {s0 s1 s2 s3:Spec N} (hst:St N W0 n a0 w0 τ0) (il:List (IE N τ0 w0)) (obs:sD Tryz.prog [0,1,3,7] a0 w0 il l [s0,s1,s2,s3]) (fin:sE W0 n l [s0,s1,s2,s3] a0 il Q) (hok:sC n l [0,1,3,7] [s0,s1,s2,s3]=true:=by kernel_rfl):(Code.region id l.toArray draw).wp Tryz.prog Q a0 w0:=rg _ _ hst il obs fin hok
theorem xy {s0 s1 s2 s3 s4:Spec N} (bf:List Nat) (hst:St N W0 n a0 w0 τ0) (il:List (IE N τ0 w0)) (obs:sD Tryz.prog bf a0 w0 il l [s0,s1,s2,s3,s4]) (fin:sE W0 n l [s0,s1,s2,s3,s4] a0 il Q) (hok:sC n l bf [s0,s1,s2,s3,s4]=true:=by kernel_rfl):(Code.region id l.toArray draw).wp Tryz.prog Q a0 w0:=rg _ bf hst il obs fin hok
theorem qq {s0 s1 s2 s3 s4:Spec N} (hst:St N W0 n a0 w0 τ0) (il:List (IE N τ0 w0)) (obs:sD Tryz.prog [0,1,3,7,15] a0 w0 il l [s0,s1,s2,s3,s4]) (fin:sE W0 n l [s0,s1,s2,s3,s4] a0 il Q) (hok:sC n l [0,1,3,7,15] [s0,s1,s2,s3,s4]=true:=by kernel_rfl):(Code.region id l.toArray draw).wp Tryz.prog Q a0 w0:=rg _ _ hst il obs fin hok
theorem CK {s0 s1 s2 s3 s4 s5:Spec N} (bf:List Nat) (hst:St N W0 n a0 w0 τ0) (il:List (IE N τ0 w0)) (obs:sD Tryz.prog bf a0 w0 il l [s0,s1,s2,s3,s4,s5]) (fin:sE W0 n l [s0,s1,s2,s3,s4,s5] a0 il Q) (hok:sC n l bf [s0,s1,s2,s3,s4,s5]=true:=by kernel_rfl):(Code.region id l.toArray draw).wp Tryz.prog Q a0 w0:=rg _ bf hst il obs fin hok
theorem Ex {s0 s1 s2 s3 s4 s5:Spec N} (hst:St N W0 n a0 w0 τ0) (il:List (IE N τ0 w0)) (obs:sD Tryz.prog [0,1,3,7,15,31] a0 w0 il l [s0,s1,s2,s3,s4,s5]) (fin:sE W0 n l [s0,s1,s2,s3,s4,s5] a0 il Q) (hok:sC n l [0,1,3,7,15,31] [s0,s1,s2,s3,s4,s5]=true:=by kernel_rfl):(Code.region id l.toArray draw).wp Tryz.prog Q a0 w0:=rg _ _ hst il obs fin hok
theorem so {s0 s1 s2 s3 s4 s5 s6:Spec N} (bf:List Nat) (hst:St N W0 n a0 w0 τ0) (il:List (IE N τ0 w0)) (obs:sD Tryz.prog bf a0 w0 il l [s0,s1,s2,s3,s4,s5,s6]) (fin:sE W0 n l [s0,s1,s2,s3,s4,s5,s6] a0 il Q) (hok:sC n l bf [s0,s1,s2,s3,s4,s5,s6]=true:=by kernel_rfl):(Code.region id l.toArray draw).wp Tryz.prog Q a0 w0:=rg _ bf hst il obs fin hok
theorem wh {s0 s1 s2 s3 s4 s5 s6:Spec N} (hst:St N W0 n a0 w0 τ0) (il:List (IE N τ0 w0)) (obs:sD Tryz.prog [0,1,3,7,15,31,63] a0 w0 il l [s0,s1,s2,s3,s4,s5,s6]) (fin:sE W0 n l [s0,s1,s2,s3,s4,s5,s6] a0 il Q) (hok:sC n l [0,1,3,7,15,31,63] [s0,s1,s2,s3,s4,s5,s6]=true:=by kernel_rfl):(Code.region id l.toArray draw).wp Tryz.prog Q a0 w0:=rg _ _ hst il obs fin hok
theorem EX {s0 s1 s2 s3 s4 s5 s6 s7:Spec N} (bf:List Nat) (hst:St N W0 n a0 w0 τ0) (il:List (IE N τ0 w0)) (obs:sD Tryz.prog bf a0 w0 il l [s0,s1,s2,s3,s4,s5,s6,s7]) (fin:sE W0 n l [s0,s1,s2,s3,s4,s5,s6,s7] a0 il Q) (hok:sC n l bf [s0,s1,s2,s3,s4,s5,s6,s7]=true:=by kernel_rfl):(Code.region id l.toArray draw).wp Tryz.prog Q a0 w0:=rg _ bf hst il obs fin hok
theorem wi {s0 s1 s2 s3 s4 s5 s6 s7:Spec N} (hst:St N W0 n a0 w0 τ0) (il:List (IE N τ0 w0)) (obs:sD Tryz.prog [0,1,3,7,15,31,63,127] a0 w0 il l [s0,s1,s2,s3,s4,s5,s6,s7]) (fin:sE W0 n l [s0,s1,s2,s3,s4,s5,s6,s7] a0 il Q) (hok:sC n l [0,1,3,7,15,31,63,127] [s0,s1,s2,s3,s4,s5,s6,s7]=true:=by kernel_rfl):(Code.region id l.toArray draw).wp Tryz.prog Q a0 w0:=rg _ _ hst il obs fin hok
theorem qy {s0 s1 s2 s3 s4 s5 s6 s7 s8:Spec N} (bf:List Nat) (hst:St N W0 n a0 w0 τ0) (il:List (IE N τ0 w0)) (obs:sD Tryz.prog bf a0 w0 il l [s0,s1,s2,s3,s4,s5,s6,s7,s8]) (fin:sE W0 n l [s0,s1,s2,s3,s4,s5,s6,s7,s8] a0 il Q) (hok:sC n l bf [s0,s1,s2,s3,s4,s5,s6,s7,s8]=true:=by kernel_rfl):(Code.region id l.toArray draw).wp Tryz.prog Q a0 w0:=rg _ bf hst il obs fin hok
theorem tJ {s0 s1 s2 s3 s4 s5 s6 s7 s8 s9:Spec N} (bf:List Nat) (hst:St N W0 n a0 w0 τ0) (il:List (IE N τ0 w0)) (obs:sD Tryz.prog bf a0 w0 il l [s0,s1,s2,s3,s4,s5,s6,s7,s8,s9]) (fin:sE W0 n l [s0,s1,s2,s3,s4,s5,s6,s7,s8,s9] a0 il Q) (hok:sC n l bf [s0,s1,s2,s3,s4,s5,s6,s7,s8,s9]=true:=by kernel_rfl):(Code.region id l.toArray draw).wp Tryz.prog Q a0 w0:=rg _ bf hst il obs fin hok
theorem pI {s0 s1 s2 s3 s4 s5 s6 s7 s8 s9 s10:Spec N} (bf:List Nat) (hst:St N W0 n a0 w0 τ0) (il:List (IE N τ0 w0)) (obs:sD Tryz.prog bf a0 w0 il l [s0,s1,s2,s3,s4,s5,s6,s7,s8,s9,s10]) (fin:sE W0 n l [s0,s1,s2,s3,s4,s5,s6,s7,s8,s9,s10] a0 il Q) (hok:sC n l bf [s0,s1,s2,s3,s4,s5,s6,s7,s8,s9,s10]=true:=by kernel_rfl):(Code.region id l.toArray draw).wp Tryz.prog Q a0 w0:=rg _ bf hst il obs fin hok
theorem tK {s0 s1 s2 s3 s4 s5 s6 s7 s8 s9 s10 s11:Spec N} (bf:List Nat) (hst:St N W0 n a0 w0 τ0) (il:List (IE N τ0 w0)) (obs:sD Tryz.prog bf a0 w0 il l [s0,s1,s2,s3,s4,s5,s6,s7,s8,s9,s10,s11]) (fin:sE W0 n l [s0,s1,s2,s3,s4,s5,s6,s7,s8,s9,s10,s11] a0 il Q) (hok:sC n l bf [s0,s1,s2,s3,s4,s5,s6,s7,s8,s9,s10,s11]=true:=by kernel_rfl):(Code.region id l.toArray draw).wp Tryz.prog Q a0 w0:=rg _ bf hst il obs fin hok
end
section
variable {N:aP} {l:List Oper} {sp:List (Spec N)} {il:List (Ini N)} {a0 a:Act} {w:World} {τ:Nat→aP}
theorem Fin.k1 (h:Fin l sp il a0 a w τ) {t0:Nat} {v0:Value} (e0:aT a0 t0=v0) (hu:([t0].all (jK l))=true:=by kernel_rfl):aT a t0=v0:=by
  simp only [dP,fe,aw] at hu;exact h.old e0 hu.1
theorem Fin.k2 (h:Fin l sp il a0 a w τ) {t0 t1:Nat} {v0 v1:Value} (e0:aT a0 t0=v0) (e1:aT a0 t1=v1) (hu:([t0,t1].all (jK l))=true:=by kernel_rfl):aT a t0=v0∧aT a t1=v1:=by
  simp only [dP,fe,aw] at hu;exact ⟨h.old e0 hu.1,h.old e1 hu.2.1⟩
theorem Fin.k3 (h:Fin l sp il a0 a w τ) {t0 t1 t2:Nat} {v0 v1 v2:Value} (e0:aT a0 t0=v0) (e1:aT a0 t1=v1) (e2:aT a0 t2=v2) (hu:([t0,t1,t2].all (jK l))=true:=by kernel_rfl):aT a t0=v0∧aT a t1=v1∧aT a t2=v2:=by
  simp only [dP,fe,aw] at hu;exact ⟨h.old e0 hu.1,h.old e1 hu.2.1,h.old e2 hu.2.2.1⟩
theorem Fin.k4 (h:Fin l sp il a0 a w τ) {t0 t1 t2 t3:Nat} {v0 v1 v2 v3:Value} (e0:aT a0 t0=v0) (e1:aT a0 t1=v1) (e2:aT a0 t2=v2) (e3:aT a0 t3=v3) (hu:([t0,t1,t2,t3].all (jK l))=true:=by kernel_rfl):aT a t0=v0∧aT a t1=v1∧aT a t2=v2∧aT a t3=v3:=by
  simp only [dP,fe,aw] at hu;exact ⟨h.old e0 hu.1,h.old e1 hu.2.1,h.old e2 hu.2.2.1,h.old e3 hu.2.2.2.1⟩
theorem Fin.k5 (h:Fin l sp il a0 a w τ) {t0 t1 t2 t3 t4:Nat} {v0 v1 v2 v3 v4:Value} (e0:aT a0 t0=v0) (e1:aT a0 t1=v1) (e2:aT a0 t2=v2) (e3:aT a0 t3=v3) (e4:aT a0 t4=v4) (hu:([t0,t1,t2,t3,t4].all (jK l))=true:=by kernel_rfl):aT a t0=v0∧aT a t1=v1∧aT a t2=v2∧aT a t3=v3∧aT a t4=v4:=by
  simp only [dP,fe,aw] at hu;exact ⟨h.old e0 hu.1,h.old e1 hu.2.1,h.old e2 hu.2.2.1,h.old e3 hu.2.2.2.1,h.old e4 hu.2.2.2.2.1⟩
theorem Fin.k6 (h:Fin l sp il a0 a w τ) {t0 t1 t2 t3 t4 t5:Nat} {v0 v1 v2 v3 v4 v5:Value} (e0:aT a0 t0=v0) (e1:aT a0 t1=v1) (e2:aT a0 t2=v2) (e3:aT a0 t3=v3) (e4:aT a0 t4=v4) (e5:aT a0 t5=v5) (hu:([t0,t1,t2,t3,t4,t5].all (jK l))=true:=by kernel_rfl):aT a t0=v0∧aT a t1=v1∧aT a t2=v2∧aT a t3=v3∧aT a t4=v4∧aT a t5=v5:=by
  simp only [dP,fe,aw] at hu;exact ⟨h.old e0 hu.1,h.old e1 hu.2.1,h.old e2 hu.2.2.1,h.old e3 hu.2.2.2.1,h.old e4 hu.2.2.2.2.1,h.old e5 hu.2.2.2.2.2.1⟩
theorem Fin.k7 (h:Fin l sp il a0 a w τ) {t0 t1 t2 t3 t4 t5 t6:Nat} {v0 v1 v2 v3 v4 v5 v6:Value} (e0:aT a0 t0=v0) (e1:aT a0 t1=v1) (e2:aT a0 t2=v2) (e3:aT a0 t3=v3) (e4:aT a0 t4=v4) (e5:aT a0 t5=v5) (e6:aT a0 t6=v6) (hu:([t0,t1,t2,t3,t4,t5,t6].all (jK l))=true:=by kernel_rfl):aT a t0=v0∧aT a t1=v1∧aT a t2=v2∧aT a t3=v3∧aT a t4=v4∧aT a t5=v5∧aT a t6=v6:=by
  simp only [dP,fe,aw] at hu;exact ⟨h.old e0 hu.1,h.old e1 hu.2.1,h.old e2 hu.2.2.1,h.old e3 hu.2.2.2.1,h.old e4 hu.2.2.2.2.1,h.old e5 hu.2.2.2.2.2.1,h.old e6 hu.2.2.2.2.2.2.1⟩
theorem Fin.k8 (h:Fin l sp il a0 a w τ) {t0 t1 t2 t3 t4 t5 t6 t7:Nat} {v0 v1 v2 v3 v4 v5 v6 v7:Value} (e0:aT a0 t0=v0) (e1:aT a0 t1=v1) (e2:aT a0 t2=v2) (e3:aT a0 t3=v3) (e4:aT a0 t4=v4) (e5:aT a0 t5=v5) (e6:aT a0 t6=v6) (e7:aT a0 t7=v7) (hu:([t0,t1,t2,t3,t4,t5,t6,t7].all (jK l))=true:=by kernel_rfl):aT a t0=v0∧aT a t1=v1∧aT a t2=v2∧aT a t3=v3∧aT a t4=v4∧aT a t5=v5∧aT a t6=v6∧aT a t7=v7:=by
  simp only [dP,fe,aw] at hu;exact ⟨h.old e0 hu.1,h.old e1 hu.2.1,h.old e2 hu.2.2.1,h.old e3 hu.2.2.2.1,h.old e4 hu.2.2.2.2.1,h.old e5 hu.2.2.2.2.2.1,h.old e6 hu.2.2.2.2.2.2.1,h.old e7 hu.2.2.2.2.2.2.2.1⟩
theorem Fin.k9 (h:Fin l sp il a0 a w τ) {t0 t1 t2 t3 t4 t5 t6 t7 t8:Nat} {v0 v1 v2 v3 v4 v5 v6 v7 v8:Value} (e0:aT a0 t0=v0) (e1:aT a0 t1=v1) (e2:aT a0 t2=v2) (e3:aT a0 t3=v3) (e4:aT a0 t4=v4) (e5:aT a0 t5=v5) (e6:aT a0 t6=v6) (e7:aT a0 t7=v7) (e8:aT a0 t8=v8) (hu:([t0,t1,t2,t3,t4,t5,t6,t7,t8].all (jK l))=true:=by kernel_rfl):aT a t0=v0∧aT a t1=v1∧aT a t2=v2∧aT a t3=v3∧aT a t4=v4∧aT a t5=v5∧aT a t6=v6∧aT a t7=v7∧aT a t8=v8:=by
  simp only [dP,fe,aw] at hu;exact ⟨h.old e0 hu.1,h.old e1 hu.2.1,h.old e2 hu.2.2.1,h.old e3 hu.2.2.2.1,h.old e4 hu.2.2.2.2.1,h.old e5 hu.2.2.2.2.2.1,h.old e6 hu.2.2.2.2.2.2.1,h.old e7 hu.2.2.2.2.2.2.2.1,h.old e8 hu.2.2.2.2.2.2.2.2.1⟩
theorem Fin.k10 (h:Fin l sp il a0 a w τ) {t0 t1 t2 t3 t4 t5 t6 t7 t8 t9:Nat} {v0 v1 v2 v3 v4 v5 v6 v7 v8 v9:Value} (e0:aT a0 t0=v0) (e1:aT a0 t1=v1) (e2:aT a0 t2=v2) (e3:aT a0 t3=v3) (e4:aT a0 t4=v4) (e5:aT a0 t5=v5) (e6:aT a0 t6=v6) (e7:aT a0 t7=v7) (e8:aT a0 t8=v8) (e9:aT a0 t9=v9) (hu:([t0,t1,t2,t3,t4,t5,t6,t7,t8,t9].all (jK l))=true:=by kernel_rfl):aT a t0=v0∧aT a t1=v1∧aT a t2=v2∧aT a t3=v3∧aT a t4=v4∧aT a t5=v5∧aT a t6=v6∧aT a t7=v7∧aT a t8=v8∧aT a t9=v9:=by
  simp only [dP,fe,aw] at hu;exact ⟨h.old e0 hu.1,h.old e1 hu.2.1,h.old e2 hu.2.2.1,h.old e3 hu.2.2.2.1,h.old e4 hu.2.2.2.2.1,h.old e5 hu.2.2.2.2.2.1,h.old e6 hu.2.2.2.2.2.2.1,h.old e7 hu.2.2.2.2.2.2.2.1,h.old e8 hu.2.2.2.2.2.2.2.2.1,h.old e9 hu.2.2.2.2.2.2.2.2.2.1⟩
theorem Fin.k11 (h:Fin l sp il a0 a w τ) {t0 t1 t2 t3 t4 t5 t6 t7 t8 t9 t10:Nat} {v0 v1 v2 v3 v4 v5 v6 v7 v8 v9 v10:Value} (e0:aT a0 t0=v0) (e1:aT a0 t1=v1) (e2:aT a0 t2=v2) (e3:aT a0 t3=v3) (e4:aT a0 t4=v4) (e5:aT a0 t5=v5) (e6:aT a0 t6=v6) (e7:aT a0 t7=v7) (e8:aT a0 t8=v8) (e9:aT a0 t9=v9) (e10:aT a0 t10=v10) (hu:([t0,t1,t2,t3,t4,t5,t6,t7,t8,t9,t10].all (jK l))=true:=by kernel_rfl):aT a t0=v0∧aT a t1=v1∧aT a t2=v2∧aT a t3=v3∧aT a t4=v4∧aT a t5=v5∧aT a t6=v6∧aT a t7=v7∧aT a t8=v8∧aT a t9=v9∧aT a t10=v10:=by
  simp only [dP,fe,aw] at hu;exact ⟨h.old e0 hu.1,h.old e1 hu.2.1,h.old e2 hu.2.2.1,h.old e3 hu.2.2.2.1,h.old e4 hu.2.2.2.2.1,h.old e5 hu.2.2.2.2.2.1,h.old e6 hu.2.2.2.2.2.2.1,h.old e7 hu.2.2.2.2.2.2.2.1,h.old e8 hu.2.2.2.2.2.2.2.2.1,h.old e9 hu.2.2.2.2.2.2.2.2.2.1,h.old e10 hu.2.2.2.2.2.2.2.2.2.2.1⟩
theorem Fin.k12 (h:Fin l sp il a0 a w τ) {t0 t1 t2 t3 t4 t5 t6 t7 t8 t9 t10 t11:Nat} {v0 v1 v2 v3 v4 v5 v6 v7 v8 v9 v10 v11:Value} (e0:aT a0 t0=v0) (e1:aT a0 t1=v1) (e2:aT a0 t2=v2) (e3:aT a0 t3=v3) (e4:aT a0 t4=v4) (e5:aT a0 t5=v5) (e6:aT a0 t6=v6) (e7:aT a0 t7=v7) (e8:aT a0 t8=v8) (e9:aT a0 t9=v9) (e10:aT a0 t10=v10) (e11:aT a0 t11=v11) (hu:([t0,t1,t2,t3,t4,t5,t6,t7,t8,t9,t10,t11].all (jK l))=true:=by kernel_rfl):aT a t0=v0∧aT a t1=v1∧aT a t2=v2∧aT a t3=v3∧aT a t4=v4∧aT a t5=v5∧aT a t6=v6∧aT a t7=v7∧aT a t8=v8∧aT a t9=v9∧aT a t10=v10∧aT a t11=v11:=by
  simp only [dP,fe,aw] at hu;exact ⟨h.old e0 hu.1,h.old e1 hu.2.1,h.old e2 hu.2.2.1,h.old e3 hu.2.2.2.1,h.old e4 hu.2.2.2.2.1,h.old e5 hu.2.2.2.2.2.1,h.old e6 hu.2.2.2.2.2.2.1,h.old e7 hu.2.2.2.2.2.2.2.1,h.old e8 hu.2.2.2.2.2.2.2.2.1,h.old e9 hu.2.2.2.2.2.2.2.2.2.1,h.old e10 hu.2.2.2.2.2.2.2.2.2.2.1,h.old e11 hu.2.2.2.2.2.2.2.2.2.2.2.1⟩
theorem Fin.k13 (h:Fin l sp il a0 a w τ) {t0 t1 t2 t3 t4 t5 t6 t7 t8 t9 t10 t11 t12:Nat} {v0 v1 v2 v3 v4 v5 v6 v7 v8 v9 v10 v11 v12:Value} (e0:aT a0 t0=v0) (e1:aT a0 t1=v1) (e2:aT a0 t2=v2) (e3:aT a0 t3=v3) (e4:aT a0 t4=v4) (e5:aT a0 t5=v5) (e6:aT a0 t6=v6) (e7:aT a0 t7=v7) (e8:aT a0 t8=v8) (e9:aT a0 t9=v9) (e10:aT a0 t10=v10) (e11:aT a0 t11=v11) (e12:aT a0 t12=v12) (hu:([t0,t1,t2,t3,t4,t5,t6,t7,t8,t9,t10,t11,t12].all (jK l))=true:=by kernel_rfl):aT a t0=v0∧aT a t1=v1∧aT a t2=v2∧aT a t3=v3∧aT a t4=v4∧aT a t5=v5∧aT a t6=v6∧aT a t7=v7∧aT a t8=v8∧aT a t9=v9∧aT a t10=v10∧aT a t11=v11∧aT a t12=v12:=by
  simp only [dP,fe,aw] at hu;exact ⟨h.old e0 hu.1,h.old e1 hu.2.1,h.old e2 hu.2.2.1,h.old e3 hu.2.2.2.1,h.old e4 hu.2.2.2.2.1,h.old e5 hu.2.2.2.2.2.1,h.old e6 hu.2.2.2.2.2.2.1,h.old e7 hu.2.2.2.2.2.2.2.1,h.old e8 hu.2.2.2.2.2.2.2.2.1,h.old e9 hu.2.2.2.2.2.2.2.2.2.1,h.old e10 hu.2.2.2.2.2.2.2.2.2.2.1,h.old e11 hu.2.2.2.2.2.2.2.2.2.2.2.1,h.old e12 hu.2.2.2.2.2.2.2.2.2.2.2.2.1⟩
theorem Fin.k14 (h:Fin l sp il a0 a w τ) {t0 t1 t2 t3 t4 t5 t6 t7 t8 t9 t10 t11 t12 t13:Nat} {v0 v1 v2 v3 v4 v5 v6 v7 v8 v9 v10 v11 v12 v13:Value} (e0:aT a0 t0=v0) (e1:aT a0 t1=v1) (e2:aT a0 t2=v2) (e3:aT a0 t3=v3) (e4:aT a0 t4=v4) (e5:aT a0 t5=v5) (e6:aT a0 t6=v6) (e7:aT a0 t7=v7) (e8:aT a0 t8=v8) (e9:aT a0 t9=v9) (e10:aT a0 t10=v10) (e11:aT a0 t11=v11) (e12:aT a0 t12=v12) (e13:aT a0 t13=v13) (hu:([t0,t1,t2,t3,t4,t5,t6,t7,t8,t9,t10,t11,t12,t13].all (jK l))=true:=by kernel_rfl):aT a t0=v0∧aT a t1=v1∧aT a t2=v2∧aT a t3=v3∧aT a t4=v4∧aT a t5=v5∧aT a t6=v6∧aT a t7=v7∧aT a t8=v8∧aT a t9=v9∧aT a t10=v10∧aT a t11=v11∧aT a t12=v12∧aT a t13=v13:=by
  simp only [dP,fe,aw] at hu;exact ⟨h.old e0 hu.1,h.old e1 hu.2.1,h.old e2 hu.2.2.1,h.old e3 hu.2.2.2.1,h.old e4 hu.2.2.2.2.1,h.old e5 hu.2.2.2.2.2.1,h.old e6 hu.2.2.2.2.2.2.1,h.old e7 hu.2.2.2.2.2.2.2.1,h.old e8 hu.2.2.2.2.2.2.2.2.1,h.old e9 hu.2.2.2.2.2.2.2.2.2.1,h.old e10 hu.2.2.2.2.2.2.2.2.2.2.1,h.old e11 hu.2.2.2.2.2.2.2.2.2.2.2.1,h.old e12 hu.2.2.2.2.2.2.2.2.2.2.2.2.1,h.old e13 hu.2.2.2.2.2.2.2.2.2.2.2.2.2.1⟩
theorem Fin.z1 (h:Fin l sp il a0 a w τ) {p0:ZP} (t0:Nat) (i0:eI il t0=mh N p0:=by exact rfl) (l0:bH (sp.map (·.tag)) t0 sp.length=none:=by exact rfl):Fz p0 τ w:=h.iz t0 i0 l0
theorem Fin.z2 (h:Fin l sp il a0 a w τ) {p0 p1:ZP} (t0 t1:Nat) (i0:eI il t0=mh N p0:=by exact rfl) (i1:eI il t1=mh N p1:=by exact rfl) (l0:bH (sp.map (·.tag)) t0 sp.length=none:=by exact rfl) (l1:bH (sp.map (·.tag)) t1 sp.length=none:=by exact rfl):Fz p0 τ w∧Fz p1 τ w:=⟨h.iz t0 i0 l0,h.iz t1 i1 l1⟩
theorem Fin.z3 (h:Fin l sp il a0 a w τ) {p0 p1 p2:ZP} (t0 t1 t2:Nat) (i0:eI il t0=mh N p0:=by exact rfl) (i1:eI il t1=mh N p1:=by exact rfl) (i2:eI il t2=mh N p2:=by exact rfl) (l0:bH (sp.map (·.tag)) t0 sp.length=none:=by exact rfl) (l1:bH (sp.map (·.tag)) t1 sp.length=none:=by exact rfl) (l2:bH (sp.map (·.tag)) t2 sp.length=none:=by exact rfl):Fz p0 τ w∧Fz p1 τ w∧Fz p2 τ w:=⟨h.iz t0 i0 l0,h.iz t1 i1 l1,h.iz t2 i2 l2⟩
theorem Fin.z4 (h:Fin l sp il a0 a w τ) {p0 p1 p2 p3:ZP} (t0 t1 t2 t3:Nat) (i0:eI il t0=mh N p0:=by exact rfl) (i1:eI il t1=mh N p1:=by exact rfl) (i2:eI il t2=mh N p2:=by exact rfl) (i3:eI il t3=mh N p3:=by exact rfl) (l0:bH (sp.map (·.tag)) t0 sp.length=none:=by exact rfl) (l1:bH (sp.map (·.tag)) t1 sp.length=none:=by exact rfl) (l2:bH (sp.map (·.tag)) t2 sp.length=none:=by exact rfl) (l3:bH (sp.map (·.tag)) t3 sp.length=none:=by exact rfl):Fz p0 τ w∧Fz p1 τ w∧Fz p2 τ w∧Fz p3 τ w:=⟨h.iz t0 i0 l0,h.iz t1 i1 l1,h.iz t2 i2 l2,h.iz t3 i3 l3⟩
theorem Fin.z5 (h:Fin l sp il a0 a w τ) {p0 p1 p2 p3 p4:ZP} (t0 t1 t2 t3 t4:Nat) (i0:eI il t0=mh N p0:=by exact rfl) (i1:eI il t1=mh N p1:=by exact rfl) (i2:eI il t2=mh N p2:=by exact rfl) (i3:eI il t3=mh N p3:=by exact rfl) (i4:eI il t4=mh N p4:=by exact rfl) (l0:bH (sp.map (·.tag)) t0 sp.length=none:=by exact rfl) (l1:bH (sp.map (·.tag)) t1 sp.length=none:=by exact rfl) (l2:bH (sp.map (·.tag)) t2 sp.length=none:=by exact rfl) (l3:bH (sp.map (·.tag)) t3 sp.length=none:=by exact rfl) (l4:bH (sp.map (·.tag)) t4 sp.length=none:=by exact rfl):Fz p0 τ w∧Fz p1 τ w∧Fz p2 τ w∧Fz p3 τ w∧Fz p4 τ w:=⟨h.iz t0 i0 l0,h.iz t1 i1 l1,h.iz t2 i2 l2,h.iz t3 i3 l3,h.iz t4 i4 l4⟩
theorem Fin.z6 (h:Fin l sp il a0 a w τ) {p0 p1 p2 p3 p4 p5:ZP} (t0 t1 t2 t3 t4 t5:Nat) (i0:eI il t0=mh N p0:=by exact rfl) (i1:eI il t1=mh N p1:=by exact rfl) (i2:eI il t2=mh N p2:=by exact rfl) (i3:eI il t3=mh N p3:=by exact rfl) (i4:eI il t4=mh N p4:=by exact rfl) (i5:eI il t5=mh N p5:=by exact rfl) (l0:bH (sp.map (·.tag)) t0 sp.length=none:=by exact rfl) (l1:bH (sp.map (·.tag)) t1 sp.length=none:=by exact rfl) (l2:bH (sp.map (·.tag)) t2 sp.length=none:=by exact rfl) (l3:bH (sp.map (·.tag)) t3 sp.length=none:=by exact rfl) (l4:bH (sp.map (·.tag)) t4 sp.length=none:=by exact rfl) (l5:bH (sp.map (·.tag)) t5 sp.length=none:=by exact rfl):Fz p0 τ w∧Fz p1 τ w∧Fz p2 τ w∧Fz p3 τ w∧Fz p4 τ w∧Fz p5 τ w:=⟨h.iz t0 i0 l0,h.iz t1 i1 l1,h.iz t2 i2 l2,h.iz t3 i3 l3,h.iz t4 i4 l4,h.iz t5 i5 l5⟩
theorem Fin.z7 (h:Fin l sp il a0 a w τ) {p0 p1 p2 p3 p4 p5 p6:ZP} (t0 t1 t2 t3 t4 t5 t6:Nat) (i0:eI il t0=mh N p0:=by exact rfl) (i1:eI il t1=mh N p1:=by exact rfl) (i2:eI il t2=mh N p2:=by exact rfl) (i3:eI il t3=mh N p3:=by exact rfl) (i4:eI il t4=mh N p4:=by exact rfl) (i5:eI il t5=mh N p5:=by exact rfl) (i6:eI il t6=mh N p6:=by exact rfl) (l0:bH (sp.map (·.tag)) t0 sp.length=none:=by exact rfl) (l1:bH (sp.map (·.tag)) t1 sp.length=none:=by exact rfl) (l2:bH (sp.map (·.tag)) t2 sp.length=none:=by exact rfl) (l3:bH (sp.map (·.tag)) t3 sp.length=none:=by exact rfl) (l4:bH (sp.map (·.tag)) t4 sp.length=none:=by exact rfl) (l5:bH (sp.map (·.tag)) t5 sp.length=none:=by exact rfl) (l6:bH (sp.map (·.tag)) t6 sp.length=none:=by exact rfl):Fz p0 τ w∧Fz p1 τ w∧Fz p2 τ w∧Fz p3 τ w∧Fz p4 τ w∧Fz p5 τ w∧Fz p6 τ w:=⟨h.iz t0 i0 l0,h.iz t1 i1 l1,h.iz t2 i2 l2,h.iz t3 i3 l3,h.iz t4 i4 l4,h.iz t5 i5 l5,h.iz t6 i6 l6⟩
theorem Fin.z8 (h:Fin l sp il a0 a w τ) {p0 p1 p2 p3 p4 p5 p6 p7:ZP} (t0 t1 t2 t3 t4 t5 t6 t7:Nat) (i0:eI il t0=mh N p0:=by exact rfl) (i1:eI il t1=mh N p1:=by exact rfl) (i2:eI il t2=mh N p2:=by exact rfl) (i3:eI il t3=mh N p3:=by exact rfl) (i4:eI il t4=mh N p4:=by exact rfl) (i5:eI il t5=mh N p5:=by exact rfl) (i6:eI il t6=mh N p6:=by exact rfl) (i7:eI il t7=mh N p7:=by exact rfl) (l0:bH (sp.map (·.tag)) t0 sp.length=none:=by exact rfl) (l1:bH (sp.map (·.tag)) t1 sp.length=none:=by exact rfl) (l2:bH (sp.map (·.tag)) t2 sp.length=none:=by exact rfl) (l3:bH (sp.map (·.tag)) t3 sp.length=none:=by exact rfl) (l4:bH (sp.map (·.tag)) t4 sp.length=none:=by exact rfl) (l5:bH (sp.map (·.tag)) t5 sp.length=none:=by exact rfl) (l6:bH (sp.map (·.tag)) t6 sp.length=none:=by exact rfl) (l7:bH (sp.map (·.tag)) t7 sp.length=none:=by exact rfl):Fz p0 τ w∧Fz p1 τ w∧Fz p2 τ w∧Fz p3 τ w∧Fz p4 τ w∧Fz p5 τ w∧Fz p6 τ w∧Fz p7 τ w:=⟨h.iz t0 i0 l0,h.iz t1 i1 l1,h.iz t2 i2 l2,h.iz t3 i3 l3,h.iz t4 i4 l4,h.iz t5 i5 l5,h.iz t6 i6 l6,h.iz t7 i7 l7⟩
theorem Fin.V (h:Fin l sp il a0 a w τ) (j:Nat) {t:Nat} {v:Value} (hs:sp[j]? =some (B.det N t v):=by exact rfl):aT a t=v:=h.v j hs
theorem Fin.B (h:Fin l sp il a0 a w τ) {ty:Nat} {v:Value} {cells:List Value} (t:Nat) (hI:eI il t=B.ibox ty N v cells:=by exact rfl) (hl:bH (sp.map (·.tag)) t sp.length=none:=by exact rfl):cd ty cells (τ t) v w:=h.ibox t hI hl
theorem Fin.O (h:Fin l sp il a0 a w τ) {α:Type} {E:Enc α} {ty:Nat} {v:Value} {xs:List α} (t:Nat) (hI:eI il t=B.iown E ty N v xs:=by exact rfl) (hl:bH (sp.map (·.tag)) t sp.length=none:=by exact rfl):eb E ty xs (τ t) v w:=h.iown t hI hl
theorem Fin.RB (h:Fin l sp il a0 a w τ) {ty t slot:Nat} {cells:List Value} (j:Nat) {v:Value} (hv:aT a slot=v) (hs:sp[j]? =some (B.box ty N t slot cells):=by exact rfl) (hl:bH (sp.map (·.tag)) t sp.length=some j:=by exact rfl):cd ty cells (τ t) v w:=h.rbox j hs hl hv
end
section
variable {N:aP} {P:Program} {ops:Array Oper} {sp:List (Spec N)} {In:Nat→Ini N} {a0:Act} {w0:World} {bf:List Nat} {j:Nat} {o:Oper} {done:Nat→Bool} {a:Act} {w:World} {τ:Nat→aP}
theorem Cx.q (c:Cx ops sp In a0 w0 bf j o done a w τ) (i:Nat) {t:Nat} {val:Value} (hs:sp[i]? =some (B.det N t val):=by exact rfl) (hb:(bf.getD j 0).testBit i=true:=by exact rfl):a.eval (.tmp t)=val:=c.ev i hs hb
theorem Cx.M (c:Cx ops sp In a0 w0 bf j o done a w τ) (i:Nat) {t:Nat} {pc:Prop} {val:Value} (hpc:pc) (hs:sp[i]? =some (B.gdet N t pc val):=by exact rfl) (hb:(bf.getD j 0).testBit i=true:=by exact rfl):a.eval (.tmp t)=val:=c.eg i hs hb hpc
theorem Cx.B {ty:Nat} {v:Value} {cells:List Value} (c:Cx ops sp In a0 w0 bf j o done a w τ) (t:Nat) (hI:In t=B.ibox ty N v cells:=by exact rfl) (hl:bH (sp.map (·.tag)) t j=none:=by exact rfl) (hord:jD (sp.map (·.tag)) bf t j=true:=by kernel_rfl):cd ty cells (τ t) v w:=c.ibox t hI hl hord
theorem Cx.Z {Φ:ZP} (c:Cx ops sp In a0 w0 bf j o done a w τ) (t:Nat) (hI:In t=mh N Φ:=by exact rfl) (hl:bH (sp.map (·.tag)) t j=none:=by exact rfl) (hord:jD (sp.map (·.tag)) bf t j=true:=by kernel_rfl):Fz Φ τ w:=c.iz t hI hl hord
end
section
variable {N:aP} {P:Program} {ops:Array Oper} {sp:List (Spec N)} {In:Nat→Ini N} {a0:Act} {w0:World} {bf:List Nat} {j:Nat} {o:Oper} {s:Spec N} {t d:Nat} {v:Value}
theorem ao (e0:aT a0 t=v) (ho:o.op= .move (.tmp t):=by exact rfl) (h0:xq ops bf j t=true:=by kernel_rfl) (hs:s=B.det N d v:=by exact rfl) (hg:o.guard=none:=by exact rfl) (hd:o.dst=some d:=by exact rfl):Ob ops sp In a0 w0 P bf j o s:=am (fun c=>aJ ho (c.p e0 h0)) hs hg hd
theorem qb (e0:aT a0 t=v) (ho:o.op= .assign (.tmp t):=by exact rfl) (h0:xq ops bf j t=true:=by kernel_rfl) (hs:s=B.det N d v:=by exact rfl) (hg:o.guard=none:=by exact rfl) (hd:o.dst=some d:=by exact rfl):Ob ops sp In a0 w0 P bf j o s:=am (fun c=>ar ho (c.p e0 h0)) hs hg hd
theorem fC {vs:List Value} {i:Nat} (e0:aT a0 t=(.tuple vs.toArray)) (ho:o.op= .extract (.tmp t) i:=by exact rfl) (h0:xq ops bf j t=true:=by kernel_rfl) (hi:vs[i]? =some v:=by exact rfl) (hs:s=B.det N d v:=by exact rfl) (hg:o.guard=none:=by exact rfl) (hd:o.dst=some d:=by exact rfl):Ob ops sp In a0 w0 P bf j o s:=am (fun c=>fg ho (c.p e0 h0) (by simpa using hi)) hs hg hd
theorem bZ {ty f off m:Nat} {ft:TypeId} {fs:Array Field} {fd:Field} {p:Addr} (ht:Tryz.prog.underlying ty=some (.struct fs)) (hz:∀w,(sizeOf ft).run Tryz.prog w= .ok (m+1) w) (e0:aT a0 t=v) (q:v= .pointer (some p)) (ho:o.op= .fieldAddr ty (.tmp t) f:=by exact rfl) (h0:xq ops bf j t=true:=by kernel_rfl) (hf:fs[f]? =some fd:=by exact rfl) (hft:fd.type=ft:=by exact rfl) (hoff:fd.offset=off:=by exact rfl) (hs:s=B.det N d (.pointer (some (p.add off))):=by exact rfl) (hg:o.guard=none:=by exact rfl) (hd:o.dst=some d:=by exact rfl):Ob ops sp In a0 w0 Tryz.prog bf j o s:=am (fun c=>nz ho ht hf hoff (fun w=>hft ▸ hz w) ((c.p e0 h0).trans q)) hs hg hd
theorem bm (i0:Nat) (ho:o.op= .move (.tmp t):=by exact rfl) (s0:sp[i0]? =some (B.det N t v):=by exact rfl) (b0:(bf.getD j 0).testBit i0=true:=by exact rfl) (hs:s=B.det N d v:=by exact rfl) (hg:o.guard=none:=by exact rfl) (hd:o.dst=some d:=by exact rfl):Ob ops sp In a0 w0 P bf j o s:=am (fun c=>aJ ho (c.n i0 s0 b0)) hs hg hd
theorem aF (i0:Nat) (ho:o.op= .assign (.tmp t):=by exact rfl) (s0:sp[i0]? =some (B.det N t v):=by exact rfl) (b0:(bf.getD j 0).testBit i0=true:=by exact rfl) (hs:s=B.det N d v:=by exact rfl) (hg:o.guard=none:=by exact rfl) (hd:o.dst=some d:=by exact rfl):Ob ops sp In a0 w0 P bf j o s:=am (fun c=>ar ho (c.n i0 s0 b0)) hs hg hd
theorem cG {vs:List Value} {i:Nat} (i0:Nat) (ho:o.op= .extract (.tmp t) i:=by exact rfl) (s0:sp[i0]? =some (B.det N t (.tuple vs.toArray)):=by exact rfl) (b0:(bf.getD j 0).testBit i0=true:=by exact rfl) (hi:vs[i]? =some v:=by exact rfl) (hs:s=B.det N d v:=by exact rfl) (hg:o.guard=none:=by exact rfl) (hd:o.dst=some d:=by exact rfl):Ob ops sp In a0 w0 P bf j o s:=am (fun c=>fg ho (c.n i0 s0 b0) (by simpa using hi)) hs hg hd
theorem bw {ty f off m:Nat} {ft:TypeId} {fs:Array Field} {fd:Field} {p:Addr} (ht:Tryz.prog.underlying ty=some (.struct fs)) (hz:∀w,(sizeOf ft).run Tryz.prog w= .ok (m+1) w) (i0:Nat) (q:v= .pointer (some p)) (ho:o.op= .fieldAddr ty (.tmp t) f:=by exact rfl) (s0:sp[i0]? =some (B.det N t v):=by exact rfl) (b0:(bf.getD j 0).testBit i0=true:=by exact rfl) (hf:fs[f]? =some fd:=by exact rfl) (hft:fd.type=ft:=by exact rfl) (hoff:fd.offset=off:=by exact rfl) (hs:s=B.det N d (.pointer (some (p.add off))):=by exact rfl) (hg:o.guard=none:=by exact rfl) (hd:o.dst=some d:=by exact rfl):Ob ops sp In a0 w0 Tryz.prog bf j o s:=am (fun c=>nz ho ht hf hoff (fun w=>hft ▸ hz w) ((c.n i0 s0 b0).trans q)) hs hg hd
theorem EY {P:Program} {a:Act} {o:Oper} {w:World} {x:Operand} {v:Value} {p:Addr} (ho:o.op= .nilCheck x) (hx:a.eval x=v) (hv:v= .pointer (some p)):cp P a o w v:=by
  subst hv;simp [cp,execOp,ho,hx]
theorem bL {p:Addr} (i0:Nat) (q:v= .pointer (some p)) (ho:o.op= .nilCheck (.tmp t):=by exact rfl) (s0:sp[i0]? =some (B.det N t v):=by exact rfl) (b0:(bf.getD j 0).testBit i0=true:=by exact rfl) (hs:s=B.det N d v:=by exact rfl) (hg:o.guard=none:=by exact rfl) (hd:o.dst=some d:=by exact rfl):Ob ops sp In a0 w0 P bf j o s:=am (fun c=>EY ho (c.n i0 s0 b0) q) hs hg hd
theorem bK {b b2:Bool} {t2:Nat} (i0 i2:Nat) (ho:o.op= .pick (.tmp t) (.tmp t2) (.const (.bool false)):=by exact rfl) (s0:sp[i0]? =some (B.det N t (.bool b)):=by exact rfl) (b0:(bf.getD j 0).testBit i0=true:=by exact rfl) (s2:sp[i2]? =some (B.gdet N t2 (b=true) (.bool b2)):=by exact rfl) (b9:(bf.getD j 0).testBit i2=true:=by exact rfl) (hs:s=B.det N d (.bool (b&&b2)):=by exact rfl) (hg:o.guard=none:=by exact rfl) (hd:o.dst=some d:=by exact rfl):Ob ops sp In a0 w0 P bf j o s:=am (fun c=>lG ho (c.n i0 s0 b0) (fun h=>c.m i2 s2 h b9)) hs hg hd
theorem dD {b b2:Bool} {t2:Nat} (i0 i2:Nat) (ho:o.op= .pick (.tmp t) (.const (.bool true)) (.tmp t2):=by exact rfl) (s0:sp[i0]? =some (B.det N t (.bool b)):=by exact rfl) (b0:(bf.getD j 0).testBit i0=true:=by exact rfl) (s2:sp[i2]? =some (B.gdet N t2 (b=false) (.bool b2)):=by exact rfl) (b9:(bf.getD j 0).testBit i2=true:=by exact rfl) (hs:s=B.det N d (.bool (b || b2)):=by exact rfl) (hg:o.guard=none:=by exact rfl) (hd:o.dst=some d:=by exact rfl):Ob ops sp In a0 w0 P bf j o s:=am (fun c=>pF ho (c.n i0 s0 b0) (fun h=>c.m i2 s2 h b9)) hs hg hd
theorem dq {ty:TypeId} {bt:Nat} {cells:List Value} {bv:Value} (hz:∀w,(isAgg ty).run Tryz.prog w= .ok false w) (i0 bx k:Nat) (ho:o.op= .load ty (.tmp t):=by exact rfl) (s0:sp[i0]? =some (B.det N t (.pointer (some ((cW bv).add k)))):=by exact rfl) (b0:(bf.getD j 0).testBit i0=true:=by exact rfl) (hI:In bx=B.ibox bt N bv cells:=by exact rfl) (hl:bH (sp.map (·.tag)) bx j=none:=by exact rfl) (hord:jD (sp.map (·.tag)) bf bx j=true:=by kernel_rfl) (hk:cells[k]? =some v:=by exact rfl) (hs:s=B.det N d v:=by exact rfl) (hg:o.guard=none:=by exact rfl) (hd:o.dst=some d:=by exact rfl):Ob ops sp In a0 w0 Tryz.prog bf j o s:=am (fun c=>ay ho hz (c.n i0 s0 b0) ((c.ib bx hI hl hord).cell hk)) hs hg hd
theorem aE {tg:Nat} {b:Bool} (gi:Nat) (hgs:sp[gi]? =some (B.det N tg (.bool b))) (h:∀{done a w τ},Cx ops sp In a0 w0 bf j o done a w τ→b=true→cp P a o w v) (hs:s=B.gdet N t (b=true) v:=by exact rfl) (hg:o.guard=some (gi,true):=by exact rfl) (hd:o.dst=some t:=by exact rfl) (hgd:((ops[gi]?).bind (·.dst))=some tg:=by exact rfl) (hb:(bf.getD j 0).testBit gi=true:=by exact rfl):Ob ops sp In a0 w0 P bf j o s:=Gj gi true hgs h hs hg hd hgd hb
theorem bo {tg:Nat} {b:Bool} (gi:Nat) (hgs:sp[gi]? =some (B.det N tg (.bool b))) (h:∀{done a w τ},Cx ops sp In a0 w0 bf j o done a w τ→b=false→cp P a o w v) (hs:s=B.gdet N t (b=false) v:=by exact rfl) (hg:o.guard=some (gi,false):=by exact rfl) (hd:o.dst=some t:=by exact rfl) (hgd:((ops[gi]?).bind (·.dst))=some tg:=by exact rfl) (hb:(bf.getD j 0).testBit gi=true:=by exact rfl):Ob ops sp In a0 w0 P bf j o s:=Gj gi false hgs h hs hg hd hgd hb
theorem ck {ty tag t tt off m:Nat} {cells cx:List Value} {x y:Operand} {v:Value} (hsz:∀w,(sizeOf tt).run P w= .ok m w) (hp:∀{done a w τ},Cx ops sp In a0 w0 bf j o done a w τ→cd ty cells (τ tag) (aT a t) w∧a.eval x= .pointer (some ((cW (aT a t)).add off))∧a.eval y=v)
    (hs:s=B.box ty N tag t cx:=by exact rfl) (hg:o.guard=none:=by exact rfl) (hd:o.dst=none:=by exact rfl) (ho:o.op= .store tt x y:=by exact rfl)
    (hm:v.cells.size=m:=by exact rfl) (hfit:off+v.cells.size≤cells.length:=by exact av rfl) (h1:∀u ∈ v.cells.toList,u.oneCell'=true:=by simp [Value.cells,Value.oneCell',Sv.v]) (hc:cx=cells.take off++v.cells.toList++cells.drop (off+v.cells.size):=by exact rfl):Ob ops sp In a0 w0 P bf j o s:=pW hs hg hd ho (fun w=>hm ▸ hsz w) hfit h1 hc (fun _ _ _ _ c=>hp c)
theorem fZ {ty tag t tt off m:Nat} {cells cx:List Value} {x y:Operand} {v:Value} (ho:o.op= .store tt x y) (hsz:∀w,(sizeOf tt).run P w= .ok m w) (hp:∀{done a w τ},Cx ops sp In a0 w0 bf j o done a w τ→cd ty cells (τ tag) (aT a t) w∧a.eval x= .pointer (some ((cW (aT a t)).add off))∧a.eval y=v)
    (hs:s=B.box ty N tag t cx:=by exact rfl) (hg:o.guard=none:=by exact rfl) (hd:o.dst=none:=by exact rfl)
    (hm:v.cells.size=m:=by exact rfl) (hfit:off+v.cells.size≤cells.length:=by exact av rfl) (h1:∀u ∈ v.cells.toList,u.oneCell'=true:=by simp [Value.cells,Value.oneCell',Sv.v]) (hc:cx=cells.take off++v.cells.toList++cells.drop (off+v.cells.size):=by exact rfl):Ob ops sp In a0 w0 P bf j o s:=pW hs hg hd ho (fun w=>hm ▸ hsz w) hfit h1 hc (fun _ _ _ _ c=>hp c)
end
section
variable {P:Program} {a:Act} {o:Oper} {w:World} {t:TypeId} {x:Operand}
theorem cN {f off:Nat} {fs:Array Field} {fd:Field} {m:Nat} {p:Addr} {ft:TypeId} (ho:o.op= .fieldAddr t x f) (ht:P.underlying t=some (.struct fs)) (hz:∀w,(sizeOf ft).run P w= .ok (m+1) w) (hx:a.eval x= .pointer (some p)) (hf:fs[f]? =some fd:=by exact rfl) (hft:fd.type=ft:=by exact rfl) (hoff:fd.offset=off:=by exact rfl):
    cp P a o w (.pointer (some (p.add off))):=nz ho ht hf hoff (fun w=>hft ▸ hz w) hx
theorem ec {ty m:Nat} {cells:List Value} {T:aP} {v:Value} (ho:o.op= .load t x) (hz:∀w,(isAgg t).run P w= .ok true w) (hm:∀w,(sizeOf t).run P w= .ok m w) (hx:a.eval x= .pointer (some (cW v))) (hb:cd ty cells T v w) (hl:cells.length=m:=by exact rfl):cp P a o w (.agg cells.toArray):=cT ho hz hm hx hl (fun _ _ hj=>hb.cell hj)
end
abbrev tc (t:Tr):List Value:=[.int .i64 t.k,.string t.ch,.bool t.ng,t.rv.v,.int .i64 t.mn,.int .i64 t.mx,.bool t.lz,t.kv.v]
abbrev ta (t:Tr):Value:= .agg #[.int .i64 t.k,.string t.ch,.bool t.ng,t.rv.v,.int .i64 t.mn,.int .i64 t.mx,.bool t.lz,t.kv.v]
theorem gx (a:Act) (t:Nat):∃b,aT a t=b:=⟨_,rfl⟩
theorem rp {G H:Prop} (h:H) (k:H→G:=by (intro h;(repeat with_reducible first | refine zW ?_ | refine yE ?_);exact h)):G:=k h
theorem np {a:Act} {v0:Value} (h:∀i v,(#[v0]:Array Value)[i]? =some v→aT a i=v):aT a 0=v0:=h 0 _ rfl
theorem qr {a:Act} {v0 v1:Value} (h:∀i v,(#[v0,v1]:Array Value)[i]? =some v→aT a i=v):aT a 0=v0∧aT a 1=v1:=⟨h 0 _ rfl,h 1 _ rfl⟩
theorem Hi {a:Act} {v0 v1 v2:Value} (h:∀i v,(#[v0,v1,v2]:Array Value)[i]? =some v→aT a i=v):aT a 0=v0∧aT a 1=v1∧aT a 2=v2:=⟨h 0 _ rfl,h 1 _ rfl,h 2 _ rfl⟩
theorem Ai {a:Act} {v0 v1 v2 v3:Value} (h:∀i v,(#[v0,v1,v2,v3]:Array Value)[i]? =some v→aT a i=v):aT a 0=v0∧aT a 1=v1∧aT a 2=v2∧aT a 3=v3:=⟨h 0 _ rfl,h 1 _ rfl,h 2 _ rfl,h 3 _ rfl⟩
theorem Hk {a:Act} {v0 v1 v2 v3 v4:Value} (h:∀i v,(#[v0,v1,v2,v3,v4]:Array Value)[i]? =some v→aT a i=v):aT a 0=v0∧aT a 1=v1∧aT a 2=v2∧aT a 3=v3∧aT a 4=v4:=⟨h 0 _ rfl,h 1 _ rfl,h 2 _ rfl,h 3 _ rfl,h 4 _ rfl⟩
theorem Hl {a:Act} {v0 v1 v2 v3 v4 v5:Value} (h:∀i v,(#[v0,v1,v2,v3,v4,v5]:Array Value)[i]? =some v→aT a i=v):aT a 0=v0∧aT a 1=v1∧aT a 2=v2∧aT a 3=v3∧aT a 4=v4∧aT a 5=v5:=⟨h 0 _ rfl,h 1 _ rfl,h 2 _ rfl,h 3 _ rfl,h 4 _ rfl,h 5 _ rfl⟩
end
section
open Go.RowKit
theorem nv {a:Act} {f:Nat→Option (Nat × Nat)} {z:Array Value}:Instr.fill f z ((#[]:Array (Nat × Operand)).map fun (i,x)=>(i,a.eval x)).toList=some z:=by
  simp only [eu,bU];rfl
theorem mO {a:Act} {o:Oper} {w:World} {parts:Array (Nat × Operand)} {z:Value} {cells:Array Value} (ho:o.op= .build 118 parts) (hz:∀w,(zeroValue 118).run Tryz.prog w= .ok z w) (hf:Instr.fill ((#[(0,1),(1,8),(9,1),(10,1),(11,1),(12,1)]:Array (Nat × Nat))[·]?) z.cells (parts.map fun (i,x)=>(i,a.eval x)).toList=some cells):cp Tryz.prog a o w (.agg cells):=ky ho aS hz (pl:=#[(0,1),(1,8),(9,1),(10,1),(11,1),(12,1)]) (fun w_=>by simp [eX,ak,au]) hf
theorem ga {a:Act} {o:Oper} {w:World} {parts:Array (Nat × Operand)} {z:Value} {cells:Array Value} (ho:o.op= .build 25 parts) (hz:∀w,(zeroValue 25).run Tryz.prog w= .ok z w) (hf:Instr.fill ((#[(0,1),(1,1),(2,1),(3,1),(4,1),(5,1),(6,1),(7,1)]:Array (Nat × Nat))[·]?) z.cells (parts.map fun (i,x)=>(i,a.eval x)).toList=some cells):cp Tryz.prog a o w (.agg cells):=ky ho aq hz (pl:=#[(0,1),(1,1),(2,1),(3,1),(4,1),(5,1),(6,1),(7,1)]) (fun w_=>by simp [dQ,bC,au,bh,aZ]) hf
theorem qc {a:Act} {o:Oper} {w:World} {parts:Array (Nat × Operand)} {z:Value} {cells:Array Value} (ho:o.op= .build 38 parts) (hz:∀w,(zeroValue 38).run Tryz.prog w= .ok z w) (hf:Instr.fill ((#[(0,1),(1,1)]:Array (Nat × Nat))[·]?) z.cells (parts.map fun (i,x)=>(i,a.eval x)).toList=some cells):cp Tryz.prog a o w (.agg cells):=ky ho gq hz (pl:=#[(0,1),(1,1)]) (fun w_=>by simp [au]) hf
theorem oX {a:Act} {o:Oper} {w:World} {parts:Array (Nat × Operand)} {z:Value} {cells:Array Value} (ho:o.op= .build 41 parts) (hz:∀w,(zeroValue 41).run Tryz.prog w= .ok z w) (hf:Instr.fill ((#[(0,2),(2,1)]:Array (Nat × Nat))[·]?) z.cells (parts.map fun (i,x)=>(i,a.eval x)).toList=some cells):cp Tryz.prog a o w (.agg cells):=ky ho eP hz (pl:=#[(0,2),(2,1)]) (fun w_=>by simp [bQ,dI]) hf
theorem qd {a:Act} {o:Oper} {w:World} {parts:Array (Nat × Operand)} {z:Value} {cells:Array Value} (ho:o.op= .build 42 parts) (hz:∀w,(zeroValue 42).run Tryz.prog w= .ok z w) (hf:Instr.fill ((#[(0,2),(2,1)]:Array (Nat × Nat))[·]?) z.cells (parts.map fun (i,x)=>(i,a.eval x)).toList=some cells):cp Tryz.prog a o w (.agg cells):=ky ho lF hz (pl:=#[(0,2),(2,1)]) (fun w_=>by simp [bQ,dI]) hf
theorem Gq {a:Act} {o:Oper} {w:World} {parts:Array (Nat × Operand)} {z:Value} {cells:Array Value} (ho:o.op= .build 68 parts) (hz:∀w,(zeroValue 68).run Tryz.prog w= .ok z w) (hf:Instr.fill ((#[(0,1),(1,1)]:Array (Nat × Nat))[·]?) z.cells (parts.map fun (i,x)=>(i,a.eval x)).toList=some cells):cp Tryz.prog a o w (.agg cells):=ky ho aY hz (pl:=#[(0,1),(1,1)]) (fun w_=>by simp [au,bR]) hf
theorem Gr {a:Act} {o:Oper} {w:World} {parts:Array (Nat × Operand)} {z:Value} {cells:Array Value} (ho:o.op= .build 74 parts) (hz:∀w,(zeroValue 74).run Tryz.prog w= .ok z w) (hf:Instr.fill ((#[(0,8),(8,1),(9,1),(10,1)]:Array (Nat × Nat))[·]?) z.cells (parts.map fun (i,x)=>(i,a.eval x)).toList=some cells):cp Tryz.prog a o w (.agg cells):=ky ho aM hz (pl:=#[(0,8),(8,1),(9,1),(10,1)]) (fun w_=>by simp [ak,au,fa]) hf
theorem Gs {a:Act} {o:Oper} {w:World} {parts:Array (Nat × Operand)} {z:Value} {cells:Array Value} (ho:o.op= .build 76 parts) (hz:∀w,(zeroValue 76).run Tryz.prog w= .ok z w) (hf:Instr.fill ((#[(0,11),(11,1),(12,1),(13,1),(14,1),(15,1),(16,1)]:Array (Nat × Nat))[·]?) z.cells (parts.map fun (i,x)=>(i,a.eval x)).toList=some cells):cp Tryz.prog a o w (.agg cells):=ky ho aH hz (pl:=#[(0,11),(11,1),(12,1),(13,1),(14,1),(15,1),(16,1)]) (fun w_=>by simp [au,dI,bh,bR,dX,cy]) hf
theorem Gt {a:Act} {o:Oper} {w:World} {parts:Array (Nat × Operand)} {z:Value} {cells:Array Value} (ho:o.op= .build 84 parts) (hz:∀w,(zeroValue 84).run Tryz.prog w= .ok z w) (hf:Instr.fill ((#[(0,1),(1,1),(2,1),(3,1),(4,1)]:Array (Nat × Nat))[·]?) z.cells (parts.map fun (i,x)=>(i,a.eval x)).toList=some cells):cp Tryz.prog a o w (.agg cells):=ky ho bX hz (pl:=#[(0,1),(1,1),(2,1),(3,1),(4,1)]) (fun w_=>by simp [au,bh,bR,dX]) hf
theorem qe {a:Act} {o:Oper} {w:World} {parts:Array (Nat × Operand)} {z:Value} {cells:Array Value} (ho:o.op= .build 89 parts) (hz:∀w,(zeroValue 89).run Tryz.prog w= .ok z w) (hf:Instr.fill ((#[(0,1),(1,1)]:Array (Nat × Nat))[·]?) z.cells (parts.map fun (i,x)=>(i,a.eval x)).toList=some cells):cp Tryz.prog a o w (.agg cells):=ky ho bB hz (pl:=#[(0,1),(1,1)]) (fun w_=>by simp [aZ]) hf
end
section
open Go.ChangeShapes Go.WideShapes Go.ChangeAt Go.RowKit
def Aj {α:Type} (P:Program) (e:TypeId) (E:Enc α):Prop:=
  ∀(H:Type) (enc:TypeId × Value→H) (w:World) (base:Nat) (spare:Nat→Bool) (held:Bool) (n:Nat) (cs:List Value) (y:DataW H × List MemPlace),DataW.trod enc P w base spare held n e cs=some y→∃x:α,cs=E.cells x
section
variable {P:Program} {e:TypeId}
theorem yG {cs:List Value} {v0 v1:Value} (hl:cs.length=2) (h0:cs.take 1=[v0]) (h1:(cs.drop 1).take 1=[v1]):cs=[v0,v1]:=by
  match cs,hl with
  | [a, b], _ => simp at h0 h1; rw [h0, h1]
theorem yH {f0 f1:Field} (he:P.underlying e=some (.struct #[f0,f1])) (ce:P.cellsOf e=2) (o0:f0.offset=0) (o1:f1.offset=1) (c0:P.cellsOf f0.type=1) (c1:P.cellsOf f1.type=1)
    (t0:P.underlying f0.type=some .string) (t1:P.underlying f1.type=some .string):Aj P e ik:=fun H enc w base spare held n cs y h=>by
  obtain ⟨y0,y1,m,_,hl,h0,h1⟩:=trod_struct2 he h;obtain ⟨a,ha,_⟩:=DataW.trod_string t0 h0;obtain ⟨b,hb,_⟩:=DataW.trod_string t1 h1;rw [o0,c0] at ha;rw [o1,c1] at hb;exact ⟨(a,b),yG (hl.trans ce) ha hb⟩
end
section
variable {P:Program} {W:World} {H:Type} {enc:TypeId × Value→H} {base:Nat} {spare:Nat→Bool} {held:Bool}
theorem uY {t:TypeId} (ht:P.underlying t=some (.int .i64)) {r:Reach} {b0:Nat} {v:Value} (hv:Value.okWide P W r b0 t v) {d:DataW H} {p:List MemPlace} (h:DataW.Trod enc P W base spare held t v d p):∃n,v= .int .i64 n∧ -9223372036854775808≤n∧n≤9223372036854775807:=by
  obtain ⟨n,rfl,_,_,hw⟩:=open_int ht hv h;simp [Lit.wf,IntKind.min,IntKind.max,IntKind.signed,IntKind.bits] at hw;exact ⟨n,rfl,hw⟩
theorem oY (hl:laidOutB P=true) {W':World} {sp:Nat→Bool}:∀{ts:List TypeId} {vs:List Value} {ds:List (DataW H)} {p:List MemPlace},(ts.all fun t=>P.readableRec t&&decide (t < P.types.size))=true→
    DataW.TrodAll enc P W 0 (fun _=>true) true ts vs ds p→(∀x ∈ p,W.sameAt W' x)→(∀x ∈ p,sp x.block=true)→DataW.TrodAll enc P W' 0 sp true ts vs ds p
  | [], [], [], _, _, h, _, _ => h
  | [], [], _ :: _, _, _, h, _, _ => h.elim
  | [], _ :: _, _, _, _, h, _, _ => h.elim
  | _ :: _, [], _, _, _, h, _, _ => h.elim
  | _ :: _, _ :: _, [], _, _, h, _, _ => h.elim
  | t :: ts, v :: vs, d :: ds, p, hr, h, h1, h2 => by
    obtain ⟨q,q',a,b,rfl⟩:=h;simp only [dP,aw,ai] at hr;exact ⟨q,q',WideElems.Trod_stays hl hr.1.1 hr.1.2 a (fun x hx=>h1 x (by simp [hx])) (fun x hx=>h2 x (by simp [hx])),oY hl hr.2 b (fun x hx=>h1 x (by simp [hx])) (fun x hx=>h2 x (by simp [hx])),rfl⟩
theorem yI {f:Func} {s:ChangeSpec} {apart handsOn:Bool} {W':World} {args:Array Value} {ds gs:List (DataW H)} {before:List MemPlace} {t:TypeId} (hl:laidOutB P=true)
    (hW:DataW.Whole enc P f.params.toList s.vars apart W args.toList ds gs before) (hvars:s.vars=[]) (hread:(f.params.toList.all fun t=>P.readableRec t&&decide (t < P.types.size))=true)
    (hfn:s.fn H ds={ results:=[.lit (.bool true)],args:=ds }) (hrt:f.resultTypes=#[t]) (ht:P.underlying t=some .bool) (hx:Ext bc W W'):s.post enc P f apart true handsOn false W args (.bool true) W':=by
  have hlt:=hW.lt;have hW':=hW;obtain ⟨p,q,hA,hV,rfl,hz,hn⟩:=hW;rw [hvars] at hV;have hgq:gs=[]∧q=[]:=by
    cases gs with
    | nil => exact ⟨rfl, hV⟩
    | cons g gs => exact hV.elim
  obtain ⟨rfl,rfl⟩:=hgq;have hb:=hx.below;refine ⟨ds,[],p++ [],[],p,[],hW',?_,?_,?_,hb.frame _,fun h=>by cases h⟩
  · rw [gT,hfn,hrt];exact trodAll_mk1 (shut_bool ht true)
  · rw [gT,hfn];exact oY hl hread hA (fun x hx=>hb.same (hlt x (by simp [hx]))) (fun x hx=>by simpa using hlt x (by simp [hx]))
  · rw [gT,hfn,hvars];exact rfl
end
end
end B
end Go.Proofs.YtcfdebjhikahfaaGreat
namespace Go.Proofs.YtcfdebjhikahfaaGreat
namespace Srt
open B
variable {α:Type}
def Ha (xs:List α) (i j:Nat):List α:=(xs.drop i).take (j - i)
section order
variable (lt:α→α→Bool)
structure Swo:Prop where
  asym:∀x y,lt x y=true→lt y x=false
  neg:∀x y z,lt x y=false→lt y z=false→lt x z=false
variable {lt}
def oK (lt:α→α→Bool) (xs:List α):Prop:=xs.Pairwise fun x y=>lt y x=false
def lX (lt:α→α→Bool) (x:α):List α→List α
  | [] => [x]
  | y :: ys => if lt x y then y :: lX lt x ys else x :: y :: ys
def zP (lt:α→α→Bool) (x:α) (ys:List α):List α:=(lX lt x ys.reverse).reverse
def eK (lt:α→α→Bool) (xs:List α):List α:=xs.foldl (fun acc x=>zP lt x acc) []
theorem oZ {x:α}:∀{Q P:List α},(∀q ∈ Q,lt x q=true)→(∀p,P.head? =some p→lt x p=false)→lX lt x (Q++P)=Q++x::P
  | [], [], _, _ => rfl
  | [], p :: P, _, h => by simp [lX, h p rfl]
  | q :: Q, P, h1, h2 => by
    rw [me,lX,if_pos (h1 q (by simp)),oZ (fun q hq=>h1 q (by simp [hq])) h2,me]
theorem sF {x:α} {P Q:List α} (h1:∀q ∈ Q,lt x q=true) (h2:∀p,P.getLast? =some p→lt x p=false):zP lt x (P++Q)=P++x::Q:=by
  unfold zP;rw [List.reverse_append,oZ (fun q hq=>h1 q (by simpa using hq)) (fun p hp=>h2 p (by simpa using hp))];simp
theorem lm (xs:List α) (x:α):eK lt (xs++ [x])=zP lt x (eK lt xs):=by simp [eK]
theorem qf (x:α):∀ys:List α,(lX lt x ys).Perm (x::ys)
  | [] => List.Perm.refl _
  | y :: ys => by
    rw [lX];split
    · exact (List.Perm.cons y (qf x ys)).trans (List.Perm.swap x y ys)
    · exact List.Perm.refl _
theorem Ak (x:α) (ys:List α):(zP lt x ys).Perm (x::ys):=by
  unfold zP;refine (List.reverse_perm _).trans ((qf x _).trans ?_);exact List.Perm.cons x (List.reverse_perm ys)
theorem fw {motive:List α→Prop} (h0:motive []) (h1:∀xs x,motive xs→motive (xs++ [x])) (xs:List α):motive xs:=by
  rw [←List.reverse_reverse xs];generalize xs.reverse=ys;induction ys with
  | nil => exact h0
  | cons y ys ih => rw [List.reverse_cons]; exact h1 _ _ ih
theorem mP (xs:List α):(eK lt xs).Perm xs:=by
  induction xs using fw with
  | h0 => exact List.Perm.refl _
  | h1 xs x ih =>
    rw [lm];exact (Ak x _).trans ((List.Perm.cons x ih).trans (List.perm_append_singleton x xs).symm)
theorem pa (xs:List α):(eK lt xs).length=xs.length:=(mP xs).length_eq
theorem EZ (hw:Swo lt) (x:α) {xs:List α} (hs:oK lt xs):∃P Q,xs=P++Q∧(∀p ∈ P,lt x p=false)∧(∀q ∈ Q,lt x q=true):=by
  induction xs with
  | nil => exact ⟨[], [], rfl, by simp, by simp⟩
  | cons y ys ih =>
    obtain ⟨P,Q,rfl,h1,h2⟩:=ih (List.pairwise_cons.1 hs).2;by_cases h:lt x y=true
    · refine ⟨[],y::(P++Q),rfl,by simp,fun q hq=> ?_⟩;rcases List.mem_cons.1 hq with rfl | hq
      · exact h
      · rcases List.mem_append.1 hq with hq | hq
        · cases hc:lt x q with
          | true => rfl
          | false =>
            have:=hw.neg x q y hc ((List.pairwise_cons.1 hs).1 q (by simp [hq]));rw [h] at this;cases this
        · exact h2 q hq
    · refine ⟨y::P,Q,rfl,fun p hp=> ?_,h2⟩;rcases List.mem_cons.1 hp with rfl | hp
      · simpa using h
      · exact h1 p hp
theorem ws {x:α} {P Q:List α} (h1:∀p ∈ P,lt x p=false) (h2:∀q ∈ Q,lt x q=true):zP lt x (P++Q)=P++x::Q:=
  sF h2 fun p hp=>h1 p (List.mem_of_getLast? hp)
theorem wu (hw:Swo lt) {x:α} {xs:List α} (hs:oK lt xs):oK lt (zP lt x xs):=by
  obtain ⟨P,Q,rfl,h1,h2⟩:=EZ hw x hs;rw [ws h1 h2];have h3:=List.pairwise_append.1 hs;refine List.pairwise_append.2 ⟨h3.1,List.pairwise_cons.2 ⟨fun q hq=>hw.asym x q (h2 q hq),h3.2.1⟩,fun p hp q hq=> ?_⟩;rcases List.mem_cons.1 hq with rfl | hq
  · exact h1 p hp
  · exact h3.2.2 p hp q hq
theorem tL (hw:Swo lt) (xs:List α):oK lt (eK lt xs):=by
  induction xs using fw with
  | h0 => exact List.Pairwise.nil
  | h1 xs x ih => rw [lm]; exact wu hw ih
end order
end Srt
end Go.Proofs.YtcfdebjhikahfaaGreat
namespace Go.Proofs.YtcfdebjhikahfaaGreat
namespace Srt
open B
variable {α:Type} [Inhabited α]
theorem tM {A B:List α} {x:α} {i:Int} (h:A.length=i.toNat):nth (A++x::B) i=x:=by
  simp [nth,List.getD,iW (show A.length≤i.toNat by omega),h]
theorem iN {xs:List α} {n:Nat} (h:n < xs.length):xs.drop n=nth xs (n:Int)::xs.drop (n+1):=by
  rw [dS h];simp [nth,List.getD,bE h]
theorem oL {xs:List α} {k:Nat} (h:k < xs.length):xs.take (k+1)=xs.take k++ [nth xs (k:Int)]:=by
  rw [jU h];simp [nth,List.getD,bE h]
section order
variable (lt:α→α→Bool)
variable {lt}
variable (lt)
variable {lt}
end order
end Srt
end Go.Proofs.YtcfdebjhikahfaaGreat
namespace Go.Proofs.YtcfdebjhikahfaaGreat
namespace Srt
open B
variable {α:Type} [Inhabited α]
theorem re {xs:List α} {k:Nat} {x:α} (h:xs[k]? =some x):nth xs (k:Int)=x:=by
  simp [nth,List.getD,h]
theorem wv {xs:List α} {k:Nat} (h:k < xs.length):xs[k]? =some (nth xs (k:Int)):=by
  simp [nth,List.getD,bE h]
section order
variable {lt:α→α→Bool}
theorem Swo.pos (hw:Swo lt) {x y z:α} (h:lt x z=true) (h1:lt x y=false):lt y z=true:=by
  cases h2:lt y z with
  | true => rfl
  | false => have := hw.neg x y z h1 h2; rw [h] at this; cases this
section sym
variable {xs ys zs us:List α} {a s m e b mid:Nat}
end sym
variable {bs:Nat} {xs xs0:List α} {a:Nat}
section pass
end pass
end order
end Srt
end Go.Proofs.YtcfdebjhikahfaaGreat
namespace Go.Proofs.YtcfdebjhikahfaaGreat
namespace B
section
open Srt
def bs (s:ByteArray):List UInt8:=s.data.toList
def tx (l:List UInt8):ByteArray:=⟨l.toArray⟩
theorem Ey (s:ByteArray):tx (bs s)=s:=by cases s;simp [bs,tx]
theorem iQ (s:ByteArray):(bs s).length=s.size:=by simp [bs]
theorem Fa {s u:ByteArray} (h:bs s=bs u):s=u:=by rw [←Ey s,h,Ey]
theorem ww (s:ByteArray) (i j:Nat):bs (s.extract i j)=Ha (bs s) i j:=by
  simp [bs,Ha,ByteArray.data_extract]
theorem jM {s:ByteArray} {k:Nat} {b:UInt8} (h:(bs s)[k]? =some b):ca s (k:Int)=b.toNat:=by
  unfold ca;have e:s.data.toList=bs s:=rfl;rw [e,iS,lh,h];rfl
theorem uZ:∀x:List UInt8,Op.bytesLess x x=false
  | [] => rfl
  | a :: x => by
    rw [Op.bytesLess,uZ x,Bool.and_false,lQ];simp
theorem Gu {a b:UInt8}:(decide (a < b)=true)↔a.toNat < b.toNat:=by rw [ai];exact UInt8.lt_iff_toNat_lt
theorem Gv {a b:UInt8}:((a==b)=true)↔a.toNat=b.toNat:=by rw [beq_iff_eq];exact UInt8.toNat_inj.symm
theorem pJ {a b:UInt8} {x y:List UInt8}:Op.bytesLess (a::x) (b::y)=true↔a.toNat < b.toNat∨(a.toNat=b.toNat∧Op.bytesLess x y=true):=by
  rw [Op.bytesLess,aN,aw,Gu,Gv]
theorem rf:∀{x y z:List UInt8},Op.bytesLess x y=true→Op.bytesLess y z=true→Op.bytesLess x z=true
  | x, y, [], _, h => by cases y <;> simp [Op.bytesLess] at h
  | x, [], c :: z, h, _ => by cases x <;> simp [Op.bytesLess] at h
  | [], b :: y, c :: z, _, _ => by simp [Op.bytesLess]
  | a :: x, b :: y, c :: z, h1, h2 => by
    rw [pJ] at h1 h2 ⊢;rcases h1 with h1 | ⟨h1,h1'⟩
    · rcases h2 with h2 | ⟨h2,_⟩ <;> left <;> omega
    · rcases h2 with h2 | ⟨h2,h2'⟩
      · left;omega
      · exact .inr ⟨by omega,rf h1' h2'⟩
theorem va:∀x y:List UInt8,Op.bytesLess x y=true∨x=y∨Op.bytesLess y x=true
  | [], [] => .inr (.inl rfl)
  | [], b :: y => .inl (by simp [Op.bytesLess])
  | a :: x, [] => .inr (.inr (by simp [Op.bytesLess]))
  | a :: x, b :: y => by
    rw [pJ,pJ];rcases Nat.lt_trichotomy a.toNat b.toNat with h | h | h
    · exact .inl (.inl h)
    · rcases va x y with h' | h' | h'
      · exact .inl (.inr ⟨h,h'⟩)
      · exact .inr (.inl (by rw [UInt8.toNat_inj.1 h,h']))
      · exact .inr (.inr (.inr ⟨h.symm,h'⟩))
    · exact .inr (.inr (.inl h))
theorem sG (s:ByteArray):s.toList=bs s:=ByteArray.toList_eq s
theorem pb (x:ByteArray):nu x x=false:=uZ _
theorem pK {x y z:ByteArray} (h1:nu x y=true) (h2:nu y z=true):nu x z=true:=rf h1 h2
theorem qz (x y:ByteArray):nu x y=true∨x=y∨nu y x=true:=by
  rcases va x.toList y.toList with h | h | h
  · exact .inl h
  · rw [sG,sG] at h;exact .inr (.inl (Fa h))
  · exact .inr (.inr h)
theorem sH {x y:ByteArray} (h:nu x y=true):nu y x=false:=by
  cases hb:nu y x with
  | false => rfl
  | true => have := pK h hb; rw [pb] at this; cases this
theorem CL {x y:ByteArray}:oI x y=true↔nu y x=false:=by
  unfold oI;rw [aN,qx];constructor
  · rintro (h | rfl)
    · exact sH h
    · exact pb _
  · intro h;rcases qz x y with h' | h' | h'
    · exact .inl h'
    · exact .inr h'
    · rw [h] at h';cases h'
def rk (S:List ByteArray) (x:ByteArray):Int:=((S.countP fun z=>nu z x:Nat):Int)
theorem xz {S:List ByteArray} {x y:ByteArray} (hx:x ∈ S) (h:nu x y=true):rk S x < rk S y:=by
  unfold rk;have key:∀L:List ByteArray,L.countP (fun z=>nu z x)≤L.countP (fun z=>nu z y):=fun L=>List.countP_mono_left fun z _ hz=>pK hz h;have:S.countP (fun z=>nu z x) < S.countP (fun z=>nu z y):=by
    induction S with
    | nil => cases hx
    | cons a S ih =>
      rw [mb,mb];rcases List.mem_cons.1 hx with rfl | hx
      · rw [pb,h];have:=key S;simp;omega
      · have:=ih hx;cases ha:nu a x with
        | false => simp; split <;> omega
        | true => rw [pK ha h]; simp; omega
  omega
theorem rh {S:List ByteArray} {x y:ByteArray} (hx:x ∈ S) (hy:y ∈ S):nu x y=true↔rk S x < rk S y:=by
  constructor
  · exact xz hx
  · intro h;rcases qz x y with h' | h' | h'
    · exact h'
    · subst h';omega
    · have:=xz hy h';omega
theorem xA {S:List ByteArray} {x y:ByteArray} (hx:x ∈ S) (hy:y ∈ S):oI x y=true↔rk S x≤rk S y:=by
  rw [CL,←aQ,rh hy hx];omega
theorem Fb {S:List ByteArray} {x y:ByteArray} (hx:x ∈ S) (hy:y ∈ S) (h:rk S x=rk S y):x=y:=by
  rcases qz x y with h' | h' | h'
  · have:=xz hx h';omega
  · exact h'
  · have:=xz hy h';omega
theorem Am {S:List ByteArray} {x y:ByteArray} (hx:x ∈ S) (hy:y ∈ S):qp x y ∈ S∧rk S (qp x y)=max (rk S x) (rk S y):=by
  unfold qp;split
  · rename_i h;rw [rh hx hy] at h;exact ⟨hy,by omega⟩
  · rename_i h;rw [rh hx hy] at h;exact ⟨hx,by omega⟩
def vc (x y:ByteArray):Int:=if nu x y=true then -1 else if nu y x=true then 1 else 0
def qt (n:Int):Bool:=decide (128≤n)&&decide (n≤191)
def wx (b:UInt8):Bool:=qt (b.toNat:Int)
def tw (s:ByteArray) (k:Nat):Nat:=(((bs s).drop k).takeWhile wx).length
def endF (s:ByteArray) (at':Nat):Nat:=at'+1+tw s (at'+1)
theorem pd {s:ByteArray} {k:Nat} (h:k < s.size) (hb:qt (ca s (k:Int))=true):k+tw s k=k+1+tw s (k+1):=by
  obtain ⟨b,hk⟩:∃b,(bs s)[k]? =some b:=⟨_,bE (by rw [iQ];exact h)⟩;have hd:(bs s).drop k=b::(bs s).drop (k+1):=by
    have hlt:k < (bs s).length:=by rw [iQ];exact h
    rw [dS hlt];rw [bE hlt] at hk;cases hk;rfl
  unfold tw;have hb':wx b=true:=by unfold wx;rw [←jM hk];exact hb
  rw [hd,gw,if_pos hb',bY];omega
theorem tN {s:ByteArray} {k:Nat} (h:s.size≤k∨qt (ca s (k:Int))=false):tw s k=0:=by
  unfold tw;by_cases hk:k < s.size
  · have hlt:k < (bs s).length:=by rw [iQ];exact hk
    rw [dS hlt];have hb:qt (ca s (k:Int))=false:=h.resolve_left (by omega);rw [jM (bE hlt)] at hb;rw [gw,if_neg (by unfold wx;rw [hb];decide)];rfl
  · rw [dV (by rw [iQ];omega)];rfl
theorem Gw (s:ByteArray) (k:Nat) (h:k≤s.size):k+tw s k≤s.size:=by
  unfold tw;have:=(List.takeWhile_sublist wx (l:=(bs s).drop k)).length_le;rw [es,iQ] at this
  omega
def ef (s:ByteArray):Bool:=match bs s with
  | [] => false
  | b :: l => !wx b && l.all wx
theorem Fc {l:List UInt8}:(l.takeWhile wx).length=l.length↔l.all wx=true:=by
  induction l with
  | nil => simp
  | cons b l ih =>
    rw [gw,dP];cases hb:wx b with
    | false => simp
    | true => simp [ih]
theorem yJ (s:ByteArray):((!iI s (⟨#[]⟩:ByteArray)&& !qt (ca s (0:Int)))&&decide ((endF s 0:Int)=(s.size:Int)))=ef s:=by
  have hl:=iQ s;have e0:iI s (⟨#[]⟩:ByteArray)=decide (bs s=[]):=Aa s _;have et:endF s 0=1+(((bs s).drop 1).takeWhile wx).length:=by unfold endF tw;simp
  unfold ef;rw [e0,et];cases hb:bs s with
  | nil => simp
  | cons b l =>
    have e1:ca s (0:Int)=b.toNat:=jM (k:=0) (by rw [hb];rfl);rw [e1];rw [hb] at hl;simp only [bY] at hl;have e2:decide (((1+((List.drop 1 (b::l)).takeWhile wx).length:Nat):Int)=(s.size:Int))=l.all wx:=by
      rw [eZ,ai,←Fc];simp only [List.drop_succ_cons,li];omega
    rw [e2];simp [wx]
def mi (n:Int):Bool:=decide (n < 128) || decide (191 < n)
theorem mQ (n:Int):mi n= !qt n:=by
  unfold mi qt;by_cases h1:n < 128 <;> by_cases h2:191 < n <;> simp [h1,h2] <;> omega
def lY (s:ByteArray) (st:List ByteArray × Nat) (i:Nat):List ByteArray × Nat:=
  if (decide ((i:Int)=(s.size:Int)) || mi (ca s (i:Int)))=true then (st.1++ [s.extract st.2 i],i) else st
def ji (s:ByteArray):Nat→List ByteArray × Nat
  | 0 => ([], 0)
  | k + 1 => lY s (ji s k) (k + 1)
def cQ (s:ByteArray):List ByteArray:=(ji s s.size).1
theorem vd (s:ByteArray) (k:Nat):(ji s k).2≤k:=by
  induction k with
  | zero => exact br _
  | succ k ih =>
    rw [ji,lY];split
    · exact br _
    · exact Nat.le_succ_of_le ih
theorem qA (s:ByteArray) (k:Nat):(ji s k).1.length≤k:=by
  induction k with
  | zero => exact br _
  | succ k ih =>
    rw [ji,lY];split
    · simp only [ci,bY,cf];omega
    · exact Nat.le_succ_of_le ih
theorem CM {s:ByteArray} {k:Nat} (hk:k < s.size):(ji s k).1=[]↔∀i,1≤i→i≤k→qt (ca s (i:Int))=true:=by
  induction k with
  | zero => constructor
            · intro _ i h1 h2;omega
            · intro _;rfl
  | succ k ih =>
    have ih:=ih (by omega);rw [ji,lY,mQ,decide_eq_false (by omega),gd];cases hb:qt (ca s ((k+1:Nat):Int)) with
    | false =>
      simp only [lc,if_true];constructor
      · intro h;simp at h
      · intro h;have:=h (k+1) (by omega) (by omega);rw [hb] at this;cases this
    | true =>
      simp only [kx,ld,if_false];rw [ih];constructor
      · intro h i h1 h2;by_cases e:i=k+1
        · subst e;exact hb
        · exact h i h1 (by omega)
      · intro h i h1 h2;exact h i h1 (by omega)
theorem wy {s:ByteArray} (h:0 < s.size):(cQ s).length=1↔∀i,1≤i→i < s.size→qt (ca s (i:Int))=true:=by
  unfold cQ;obtain ⟨k,hk⟩:∃k,s.size=k+1:=⟨s.size - 1,by omega⟩;rw [hk,ji,lY,decide_eq_true (by omega),Bool.true_or,if_pos rfl,ci];have h1:=CM (s:=s) (k:=k) (by omega);constructor
  · intro hl i h2 h3;have:(ji s k).1=[]:=bV (by simp only [bY,cf] at hl;omega);exact h1.1 this i h2 (by omega)
  · intro hq;rw [h1.2 fun i h2 h3=>hq i h2 (by omega)];rfl
theorem tO (s:ByteArray):((decide ((0:Int) < (s.size:Int))&&mi (ca s (0:Int)))&&decide (((cQ s).length:Int)=1))=ef s:=by
  have hl:=iQ s;unfold ef;cases hb:bs s with
  | nil => rw [hb] at hl; simp at hl; rw [decide_eq_false (by omega)]; simp
  | cons b l =>
    rw [hb] at hl;simp only [bY] at hl;have e1:ca s (0:Int)=b.toNat:=jM (k:=0) (by rw [hb];rfl);rw [decide_eq_true (by omega),fJ,e1,mQ];congr 1;rw [eZ,ai,cY];have h1:=wy (s:=s) (by omega);constructor
    · intro h x hx;obtain ⟨i,hi,rfl⟩:=kQ hx;have:=h1.1 (by omega) (i+1) (by omega) (by omega);rw [jM (k:=i+1) (b:=l[i]) (by rw [hb,List.getElem?_cons_succ,bE hi])] at this
      exact this
    · intro h;have:(cQ s).length=1:=h1.2 fun i h2 h3=>by
        match i,h2 with
        | j + 1, _ =>
          have hj:j < l.length:=by omega
          rw [jM (k:=j+1) (b:=l[j]) (by rw [hb,List.getElem?_cons_succ,bE hj])];exact h _ (mf hj)
      omega
def jN (b:UInt8):UInt8:=if (decide ((65:Int)≤(b.toNat:Int))&&decide ((b.toNat:Int)≤90))=true then UInt8.ofNat (IntKind.u8.wrap ((b.toNat:Int)+32)).toNat else b
def uN (b:UInt8):UInt8:=if (decide ((97:Int)≤(b.toNat:Int))&&decide ((b.toNat:Int)≤122))=true then UInt8.ofNat (IntKind.u8.wrap ((b.toNat:Int) - 32)).toNat else b
def fU (s:ByteArray):ByteArray:=⟨((bs s).map jN).toArray⟩
def Ez (s:ByteArray):ByteArray:=⟨((bs s).map uN).toArray⟩
theorem fx (n:Int):0≤IntKind.u8.wrap n∧IntKind.u8.wrap n≤255:=by
  simp [IntKind.wrap,IntKind.signed,IntKind.bits];omega
def fH (f:UInt8→UInt8) (xs:List UInt8) (k:Nat):List UInt8:=(xs.take k).map f++xs.drop k
theorem nT (f:UInt8→UInt8) (xs:List UInt8) (k:Nat):(fH f xs k).length=xs.length:=by
  simp [fH];omega
theorem nU {f:UInt8→UInt8} {xs:List UInt8} {k:Nat} (h:k < xs.length):nth (fH f xs k) (k:Int)=nth xs (k:Int):=by
  unfold fH;rw [iN h];exact tM (by simp;omega)
theorem sI {f:UInt8→UInt8} {xs:List UInt8} {k:Nat} (h:k < xs.length) {v:UInt8} (hv:f (nth xs (k:Int))=v):fH f xs (k+1)=(fH f xs k).set (k:Int).toNat v:=by
  unfold fH;rw [iN h,oL h,iS,bT];have hl:(List.map f (xs.take k)).length=k:=by simp;omega
  rw [iP _ _ (by omega),hl,mC];simp [hv]
theorem ri {f:UInt8→UInt8} {xs:List UInt8} {k:Nat} (h:k < xs.length) (hv:f (nth xs (k:Int))=nth xs (k:Int)):fH f xs (k+1)=fH f xs k:=by
  unfold fH;rw [iN h,oL h,bT];simp [hv]
theorem mR (f:UInt8→UInt8) (xs:List UInt8):fH f xs 0=xs:=by simp [fH]
theorem nV {f:UInt8→UInt8} {xs:List UInt8} {k:Nat} (h:xs.length≤k):fH f xs k=xs.map f:=by
  unfold fH;rw [bF h,dV h,gT]
end
section
open Go.RowKit
def pL (p q:Int × Int):Bool:=decide (max p.1 q.1≤min p.2 q.2)
def Fd (x y:Int):Int:=if x < y then -1 else if y < x then 1 else 0
def GU (xs:List Int):Int:=(xs.find? (fun x=>x !=0)).getD 0
def Fe (p q:Int × Int):Int:=GU [Fd p.1 q.1,Fd p.2 q.2]
def gZ (x n:Int):Int:=IntKind.i64.wrap ((IntKind.u64.wrap x).tmod (IntKind.u64.wrap n))
theorem CN {n:Int} (h:0 < n) (h2:n≤9223372036854775807):IntKind.u64.wrap n≠0:=by
  have:IntKind.u64.wrap n=n:=by simp [IntKind.wrap,IntKind.signed,IntKind.bits];omega
  omega
theorem fi {α:Type} [Inhabited α] {xs:List α} {k:Nat} (h:k < xs.length):xs.take (k+1)=xs.take k++ [nth xs k]:=by
  rw [jU h];simp [nth,List.getD,bE h]
theorem take_zero {xs:List Int} {k:Nat} (h:k < xs.length) (hq:∀x ∈ xs.take k,x=0) (h0:nth xs (k:Int)=0):∀x ∈ xs.take (k+1),x=0:=by
  rw [fi h];intro x hx;rcases List.mem_append.1 hx with hx | hx
  · exact hq x hx
  · simp at hx;rw [hx];exact h0
theorem yK {α:Type} [Inhabited α] {xs ys:List α} {k:Nat} (h:k < xs.length) (h':k < ys.length) (hq:xs.take k=ys.take k) (h0:nth xs (k:Int)=nth ys (k:Int)):xs.take (k+1)=ys.take (k+1):=by
  rw [fi h,fi h',hq,h0]
theorem wz {α:Type} [Inhabited α] {xs ys:List α} {i:Int} (h:¬nth xs i=nth ys i):¬xs=ys:=fun e=>h (by rw [e])
theorem rj {α:Type} {xs ys:List α} {k:Nat} (hl:xs.length=ys.length) (hk:k≤xs.length) (hq:xs.take k=ys.take k) (h:(xs.length:Int)≤k):xs=ys:=by
  rwa [bF (by omega),bF (by omega)] at hq
def qg (p q:Int × Int):Bool:=decide (p=q)
theorem An (p q:Int × Int):qg p q=(decide (p.1=q.1)&&decide (p.2=q.2)):=by
  rw [eZ];simp [qg,Prod.ext_iff]
set_option maxRecDepth 100000 in
theorem ve (p q:Int × Int) (w:World):(Op.equal 38 (lK p) (lK q)).run Tryz.prog w= .ok (qg p q) w:=by
  rw [An];have h:=run_equalIn_struct (P:=Tryz.prog) w 9999 38 #[.int .i64 p.1,.int .i64 p.2] #[.int .i64 q.1,.int .i64 q.2] rfl Tryz.stoodInHeld38;simp only [Op.equal,Op.maxDepth,lK,h];simp [Program.fieldsOf,Op.eqFields,part,go_sem];by_cases h1:p.1=q.1 <;> by_cases h2:p.2=q.2 <;> simp [h1,h2]
theorem CO {a:Act} {o:Oper} {w:World} {x y:Operand} {t':TypeId} {p q:Int × Int} (ho:o.op= .binOp .eql 38 x y t') (hx:a.eval x=lK p) (hy:a.eval y=lK q):cp Tryz.prog a o w (.bool (qg p q)):=by
  have h:=ve p q w;simp only [lK] at h hx hy;simp [cp,execOp,ho,hx,hy,eqGuard,binOp,h]
theorem CP {a:Act} {o:Oper} {w:World} {x y:Operand} {t':TypeId} {p q:Int × Int} (ho:o.op= .binOp .neq 38 x y t') (hx:a.eval x=lK p) (hy:a.eval y=lK q):cp Tryz.prog a o w (.bool (!qg p q)):=by
  have h:=ve p q w;simp only [lK] at h hx hy;simp [cp,execOp,ho,hx,hy,eqGuard,binOp,h]
theorem tn (m i:Nat):((m:Int) - (i:Int)).toNat=m - i:=by omega
set_option maxRecDepth 100000 in
theorem CQ (x:Int) (w:World):Calls Tryz.prog 109 #[aj x] w (fun e w'=>e= .returned (aA false)∧Ext bc w w'):=by
 refine enter (n:=6) Tryz.func109 rfl rfl (av rfl) ?_;intro a0 τ0 ha st0;have e0:=np ha;refine wp_seq (eB st0 [] ⟨am fun c=>ar rfl rfl,ax⟩ fun ac ag ae ab aa=> ?_);replace e0:=aa.k1 e0;have e2:=aa.V 0;refine wp_seq (lD [0,0,3,7] ab [] ⟨ao e0,ao e0,am fun c=>kF rfl (c.q 0) (c.q 1),aF 2,ax⟩ fun ac ag ae ab aa=> ?_);have e2:=aa.V 3;refine wp_ret ?_;refine rp ?_;refine cH (fn:=Tryz.f109) rfl ab.defers e2 ?_;exact ⟨by simp,ab.ext0⟩
set_option maxRecDepth 100000 in
theorem Gx (x n:Int) (w:World) (hn:0 < n) (hn2:n≤9223372036854775807):Calls Tryz.prog 22 #[aj x,aj n] w (fun e w'=>e= .returned (aj (gZ x n))∧Ext bc w w'):=by
 refine enter (n:=11) Tryz.func22 rfl rfl (av rfl) ?_;intro a0 τ0 ha st0;obtain ⟨e0,e1⟩:=qr ha;refine wp_seq (eB st0 [] ⟨am fun c=>ar rfl rfl,ax⟩ fun ac ag ae ab aa=> ?_);obtain ⟨e0,e1⟩:=aa.k2 e0 e1;have e4:=aa.V 0;refine wp_seq (so [0,1,0,4,15,31,63] ab [] ⟨ao e0,am fun c=>qT rfl ew fM (c.q 0),ao e1,am fun c=>qT rfl ew fM (c.q 2),am fun c=>Gh rfl (c.q 1) (c.q 3) (by exact CN hn hn2),am fun c=>qT rfl fM ew (c.q 4),aF 5,ax⟩ fun ac ag ae ab aa=> ?_);have e4:=aa.V 6;refine wp_ret ?_;refine rp ?_;refine cH (fn:=Tryz.f22) rfl ab.defers e4 ?_;exact ⟨rfl,ab.ext0⟩
set_option maxRecDepth 100000 in
theorem CR (v u:Value) (xs ys:List (Int × Int)) (w:World) (hS:SlT bP w v xs) (hU:SlT bP w u ys):Calls Tryz.prog 26 #[v,u] w (fun e w'=>e= .returned (aA (decide (xs=ys)))∧Ext bc w w'):=by
 refine enter (n:=26) Tryz.func26 rfl rfl (av rfl) ?_;intro a0 τ0 ha st0;obtain ⟨e0,e1⟩:=qr ha;have hle:=hS.le;have hle2:=hU.le;refine wp_seq (eB st0 [] ⟨am fun c=>ar rfl rfl,ax⟩ fun ac ag ae ab aa=> ?_);obtain ⟨e0,e1⟩:=aa.k2 e0 e1;have e4:=aa.V 0;refine wp_seq ?_;refine wp_seq (xy [0,1,0,4,15] ab [] ⟨ao e0,am fun c=>cX rfl bA (c.q 0) hS.sl,ao e1,am fun c=>cX rfl bA (c.q 2) hU.sl,am fun c=>kF rfl (c.q 1) (c.q 3),ax⟩ fun ac ag ae ab aa=> ?_);obtain ⟨e0,e1,e4⟩:=aa.k3 e0 e1 e4;have e10:=aa.V 4;refine wp_cond_split e10 (fun hc1=> ?_) (fun hc1=> ?_)
 · try simp only [aB,az,ai,ah] at hc1
   refine wp_seq (eB ab [] ⟨am fun c=>ar rfl rfl,ax⟩ fun ac ag ae ab aa=> ?_);obtain ⟨e0,e1⟩:=aa.k2 e0 e1;have e4:=aa.V 0;refine wp_ret ?_;refine rp ?_;refine cH (fn:=Tryz.f26) rfl ab.defers e4 ?_;exact ⟨congrArg _ (congrArg _ (by first | (symm;exact decide_eq_false (fun h=>by subst h;omega)) | (symm;exact decide_eq_false (wz (by assumption))) | (symm;exact decide_eq_true (rj q1 q0 q2 (by assumption))))),ab.ext0⟩
 try simp only [aB,az,ai,ah] at hc1
 refine wp_skip ?_;refine wp_seq ?_;refine wp_seq (eB ab [] ⟨am fun c=>ar rfl rfl,ax⟩ fun ac ag ae ab aa=> ?_);obtain ⟨e0,e1,e4⟩:=aa.k3 e0 e1 e4;have e5:=aa.V 0;refine wp_block ?_;refine wp_loop (fun a_ w_=>∃(k:Nat) (τ:Nat→aP),(k≤xs.length)∧
      (xs.length=ys.length)∧
      (xs.take k=ys.take k)∧
      St (Nw w) w 26 a_ w_ τ∧
      aT a_ 5=(aj (k:Int))∧
      aT a_ 0=v∧
      aT a_ 1=u) (fun a_ _=>xs.length - (intOf (aT a_ 5)).toNat) ?_ ?_
 · refine ⟨0,ae,?_,?_,?_,ab,(e5.trans (bd (by omega))),e0,e1⟩
   · omega
   · omega
   · simp
 intro a5 w5 hI;obtain ⟨k,τ5,q0,q1,q2,st5,e5,e0,e1⟩:=hI;have m5:=e5;refine wp_seq ?_;refine wp_seq (lD [0,0,2,7] st5 [] ⟨ao e5,ao e0,am fun c=>cX rfl bA (c.q 1) hS.sl,am fun c=>dh rfl (c.q 0) (c.q 2),ax⟩ fun ac ag ae ab aa=> ?_);obtain ⟨e0,e1,e5⟩:=aa.k3 e0 e1 e5;have e14:=aa.V 3;refine wp_cond_split e14 (fun hc2=> ?_) (fun hc2=> ?_)
 · try simp only [ai] at hc2
   refine wp_skip ?_;refine wp_seq ?_;refine wp_block ?_;refine wp_seq (qy [0,0,3,7,0,0,48,112,255] ab [] ⟨ao e0,ao e5,am fun c=>aK rfl bA bQ (c.q 0) hS.sl (c.q 1) (by omega) (by omega),am fun c=>cT (vs:=[(aj ((nth xs (k:Int)).1)),(aj ((nth xs (k:Int)).2))]) rfl jV bQ (c.q 2) rfl (fun _ _ hj=>(hS.at (ab.ext.trans c.J.ext)).elem (bu (i:=(k:Int)) (by omega) (by omega)) hj),ao e1,ao e5,am fun c=>aK rfl bA bQ (c.q 4) hU.sl (c.q 5) (by omega) (by omega),am fun c=>cT (vs:=[(aj ((nth ys (k:Int)).1)),(aj ((nth ys (k:Int)).2))]) rfl jV bQ (c.q 6) rfl (fun _ _ hj=>(hU.at (ab.ext.trans c.J.ext)).elem (bu (i:=(k:Int)) (by omega) (by omega)) hj),am fun c=>CP rfl (c.q 3) (c.q 7),ax⟩ fun ac ag ae ab aa=> ?_);obtain ⟨e0,e1,e5,e14⟩:=aa.k4 e0 e1 e5 e14;have e25:=aa.V 8;refine wp_cond_split e25 (fun hc3=> ?_) (fun hc3=> ?_)
   · try simp only [aB,az,ai,ah,qg] at hc3
     refine wp_seq (eB ab [] ⟨am fun c=>ar rfl rfl,ax⟩ fun ac ag ae ab aa=> ?_);obtain ⟨e0,e1,e5,e14,e25⟩:=aa.k5 e0 e1 e5 e14 e25;have e4:=aa.V 0;refine wp_ret ?_;refine rp ?_;refine cH (fn:=Tryz.f26) rfl ab.defers e4 ?_;exact ⟨congrArg _ (congrArg _ (by first | (symm;exact decide_eq_false (fun h=>by subst h;omega)) | (symm;exact decide_eq_false (wz (by assumption))) | (symm;exact decide_eq_true (rj q1 q0 q2 (by assumption))))),ab.ext0⟩
   try simp only [aB,az,ai,ah,qg] at hc3
   refine wp_skip ?_;show _;refine eM ab [] ⟨ao e5,am fun c=>cV rfl (c.q 0) rfl (by omega),aF 1,ax⟩ fun ac ag ae ab aa=> ?_;obtain ⟨e0,e1,e14,e25⟩:=aa.k4 e0 e1 e14 e25;have e5:=aa.V 2;refine ⟨⟨k+1,ae,?_,?_,?_,ab,(e5.trans (bd (by omega))),e0,e1⟩,?_⟩
   · omega
   · omega
   · exact yK (by omega) (by omega) q2 (by assumption)
   · simp only [m5,e5,intOf];omega
 try simp only [ah,aX] at hc2
 refine wp_exit ?_;repeat (with_reducible refine cn ?_)
 refine cr ?_;refine wp_seq (eB ab [] ⟨am fun c=>ar rfl rfl,ax⟩ fun ac ag ae ab aa=> ?_);have e4:=aa.V 0;refine wp_ret ?_;refine rp ?_;refine cH (fn:=Tryz.f26) rfl ab.defers e4 ?_;exact ⟨congrArg _ (congrArg _ (by first | (symm;exact decide_eq_false (fun h=>by subst h;omega)) | (symm;exact decide_eq_false (wz (by assumption))) | (symm;exact decide_eq_true (rj q1 q0 q2 (by assumption))))),ab.ext0⟩
end
end B
end Go.Proofs.YtcfdebjhikahfaaGreat
namespace Go.Proofs.YtcfdebjhikahfaaGreat
namespace Srt
open B
theorem wA {α:Type} [Inhabited α] {xs:List α} {k:Nat} (h:k < xs.length):xs.take (k+1)=xs.take k++ [nth xs (k:Int)]:=oL h
theorem yL {α:Type} [Inhabited α] {lt:α→α→Bool} {x:α} {out:List α} {k:Nat} (h:0 < k) (hk:k≤out.length) (hq:∀q ∈ out.drop k,lt x q=true) (hc:lt x (nth out ((k:Int) - 1))=true):∀q ∈ out.drop (k - 1),lt x q=true:=by
  rw [iN (show k - 1 < out.length by omega),show k - 1+1=k by omega];intro q hm;rcases List.mem_cons.1 hm with rfl | hm
  · rwa [show ((k - 1:Nat):Int)=(k:Int) - 1 by omega]
  · exact hq q hm
theorem Ff {α:Type} [Inhabited α] {lt:α→α→Bool} {O:List α} {x:α} {k:Nat} (hk:k≤O.length) (hq:∀q ∈ O.drop k,lt x q=true)
    (hc:(decide ((0:Int) < (k:Int))&&lt x (nth O ((k:Int) - 1)))=false):
    zP lt x O=(([]++(O.drop 0).take (k - 0))++ [x])++(O.drop k).take (O.length - k):=by
  have e:O=O.take k++O.drop k:=(fV k O).symm;conv=>lhs;rw [e]
  rw [sF hq]
  · rw [bF (l:=O.drop k) (by simp)];simp
  · intro p hp;by_cases h0:k=0
    · subst h0;simp at hp
    · have hlast:(O.take k).getLast? =some (nth O ((k:Int) - 1)):=by
        have:=wA (xs:=O) (k:=k - 1) (by omega);rw [show k - 1+1=k by omega] at this
        rw [this,List.getLast?_append,show ((k - 1:Nat):Int)=(k:Int) - 1 by omega];rfl
      rw [hlast] at hp;cases hp
      have h1:decide ((0:Int) < (k:Int))=true:=decide_eq_true (by omega);rw [h1,fJ] at hc;exact hc
end Srt
end Go.Proofs.YtcfdebjhikahfaaGreat
