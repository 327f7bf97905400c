import Derived.WalkKit
import Derived.WalkSpells
import Derived.WalkLawsBesides
import Derived.Deep.Draws
import Derived.Lib.Slices
import Derived.Deep.Slices
import Derived.Lib.SliceRun
import Derived.Lib.AppendStr
import Derived.Lib.ConvBytes
import Derived.Laws.Strings
import Derived.Laws.IdiomStrings
import Derived.Test.YtcfdebjhikahfaaChecked
import Derived.ProofKit
import Derived.WideKeyArgs
import Derived.OpenShut
set_option linter.unusedSimpArgs false
set_option linter.unusedVariables false
set_option linter.unusedSectionVars false
namespace Go.Proofs.Ytcfdebjhikahfaa
section
open Go.RowKit
abbrev aY:=@Array.getD_eq_getD_getElem?
abbrev kQ:=@Array.getElem?_append_left
abbrev lw:=@Array.getElem?_eq_getElem
abbrev kr:=@Array.getElem?_setIfInBounds
abbrev eS:=@Array.length_toList
abbrev aG:=@Bool.and_eq_false_iff
abbrev am:=@Bool.and_eq_true
abbrev fV:=@Bool.eq_iff_iff
abbrev gV:=@Bool.false_or
abbrev aA:=@Bool.not_eq_true'
abbrev kO:=@Bool.not_false
abbrev kc:=@Bool.not_true
abbrev aS:=@Bool.or_eq_false_iff
abbrev be:=@Bool.or_eq_true
abbrev gW:=@Bool.true_and
abbrev kP:=@Int.fdiv_eq_ediv_of_nonneg
abbrev dK:=@List.all_cons
abbrev da:=@List.all_eq_true
abbrev fc:=@List.all_nil
abbrev cY:=@List.append_assoc
abbrev eb:=@List.append_nil
abbrev ed:=@List.cons_append
abbrev lR:=@List.countP_cons
abbrev iw:=@List.dropLast_concat_getLast
abbrev lU:=@List.drop_append
abbrev fO:=@List.drop_drop
abbrev ej:=@List.drop_eq_getElem_cons
abbrev dI:=@List.drop_of_length_le
abbrev jI:=@List.drop_zero
abbrev bA:=@List.eq_nil_of_length_eq_zero
abbrev kR:=@List.getD_eq_getElem?_getD
abbrev jc:=@List.getElem?_append_left
abbrev iL:=@List.getElem?_append_right
abbrev ik:=@List.getElem?_drop
abbrev bw:=@List.getElem?_eq_getElem
abbrev jS:=@List.getElem?_eq_none
abbrev fM:=@List.getElem?_take_of_lt
abbrev iG:=@List.getElem?_toArray
abbrev lV:=@List.getElem_mem
abbrev bN:=@List.length_append
abbrev bD:=@List.length_cons
abbrev dS:=@List.length_drop
abbrev fC:=@List.length_map
abbrev bO:=@List.length_nil
abbrev cq:=@List.length_set
abbrev dp:=@List.length_take
abbrev jg:=@List.map_congr_left
abbrev bo:=@List.map_cons
abbrev mr:=@List.map_map
abbrev bJ:=@List.map_nil
abbrev ec:=@List.map_toArray
abbrev gL:=@List.mem_of_getElem?
abbrev es:=@List.nil_append
abbrev lS:=@List.range'_succ
abbrev eA:=@List.set_append_right
abbrev kS:=@List.set_cons_zero
abbrev jH:=@List.size_toArray
abbrev iV:=@List.take_append
abbrev cw:=@List.take_append_drop
abbrev ic:=@List.take_append_of_le_length
abbrev nh:=@List.take_left
abbrev lT:=@List.take_length
abbrev bz:=@List.take_of_length_le
abbrev jK:=@List.take_succ_eq_append_getElem
abbrev fD:=@Nat.add_mul
abbrev jG:=@Nat.add_zero
abbrev jx:=@Nat.le_mul_of_pos_right
abbrev ar:=@Nat.le_of_ble_eq_true
abbrev bd:=@Nat.le_refl
abbrev aE:=@Nat.le_trans
abbrev cG:=@Nat.lt_of_lt_of_le
abbrev jF:=@Nat.lt_trichotomy
abbrev gK:=@Nat.mul_le_mul_right
abbrev jJ:=@Nat.sub_self
abbrev gJ:=@Nat.zero_add
abbrev dY:=@Nat.zero_le
abbrev cT:=@Try.sizeOf25
abbrev cj:=@Try.sizeOf26
abbrev gM:=@Try.sizeOf28
abbrev ax:=@Try.sizeOf3
abbrev gj:=@Try.sizeOf30
abbrev aq:=@Try.sizeOf32
abbrev cb:=@Try.sizeOf35
abbrev ea:=@Try.sizeOf36
abbrev bK:=@Try.sizeOf4
abbrev fe:=@Try.sizeOf77
abbrev co:=@Try.sizeOf79
abbrev bu:=@Try.sizeOf9
abbrev aC:=@Try.underlying32
abbrev dE:=@Try.underlying35
abbrev dq:=@Try.underlying38
abbrev bE:=@Try.underlying47
abbrev ba:=@Try.underlying73
abbrev aT:=@Try.underlying79
abbrev aN:=@Try.underlying81
abbrev ai:=@decide_eq_false_iff_not
abbrev ah:=@decide_eq_true_eq
end
namespace B
section
abbrev aj (x:Int):Value:= .int .i64 x
abbrev aR (x:ByteArray):Value:= .string x
abbrev aD (x:Bool):Value:= .bool x
theorem au:True:=True.intro
open Go.RowKit
def aU (a:Act) (t:Nat):Value:=a.tmps.getD t undef
abbrev aX:=Nat→Prop
structure Ext (M:Nat→Prop) (w w':World):Prop where
  os:w'.os=w.os
  tape:w'.tape=w.tape
  output:w'.output=w.output
  size:w.heap.size≤w'.heap.size
  block:∀k,k < w.heap.size→¬M k→w'.heap[k]? =w.heap[k]?
def bk:Nat→Prop:=fun _=>False
theorem Ext.refl (M:Nat→Prop) (w:World):Ext M w w:=⟨rfl,rfl,rfl,bd _,fun _ _ _=>rfl⟩
theorem Ext.trans {M:Nat→Prop} {a b c:World} (h:Ext M a b) (k:Ext M b c):Ext M a c:=
  ⟨k.os.trans h.os,k.tape.trans h.tape,k.output.trans h.output,aE h.size k.size,
    fun i hi hm=>(k.block i (cG hi h.size) hm).trans (h.block i hi hm)⟩
theorem Ext.mono {M M':Nat→Prop} {a b:World} (h:Ext M a b) (hm:∀k,k < a.heap.size→M k→M' k):Ext M' a b:=
  ⟨h.os,h.tape,h.output,h.size,fun i hi hn=>h.block i hi (fun hM=>hn (hm i hi hM))⟩
theorem Ext.drew {M:Nat→Prop} {a b:World} (h:Ext M a b):Ext M a b.drew:=⟨h.os,h.tape,h.output,h.size,h.block⟩
theorem Ext.alloc (M:Nat→Prop) (w:World) (o:Obj):Ext M w (w.alloc o):=
  ⟨rfl,rfl,rfl,by simp,fun k hk _=>by show (w.heap.push o)[k]? =_;rw [Array.getElem?_push,if_neg (by omega)]⟩
theorem Ext.cell {M:Nat→Prop} {w w':World} (h:Ext M w w') {p:Addr} (hp:p.block < w.heap.size) (hm:¬M p.block):w'.cell? p=w.cell? p:=
  World.cell?_of_block (w:=w) (h.block p.block hp hm)
theorem Ext.cell_some {M:Nat→Prop} {w w':World} (h:Ext M w w') {p:Addr} {v:Value} (hc:w.cell? p=some v) (hm:¬M p.block):w'.cell? p=some v:=
  (h.cell (World.block_lt_of_cell? w p hc) hm).trans hc
theorem Ext.below {w w':World} (h:Ext bk w w'):Below w.heap.size w w':=
  ⟨h.os,h.tape,h.output,h.size,fun k hk=>h.block k hk (fun x=>x)⟩
theorem dk (a:Act) (d t:Nat) (v:Value) (hd:d < a.tmps.size):aU (a.put (some d) v) t=if t=d then v else aU a t:=by
  unfold aU Act.put;simp only [aY,kr];by_cases h:d=t
  · subst h;simp [hd]
  · rw [if_neg h,if_neg (fun e=>h e.symm)]
theorem jL (a:Act) (t:Nat) (v:Value):aU (a.put none v) t=aU a t:=rfl
theorem uv (a:Act) (d:Option Nat) (v:Value):(a.put d v).tmps.size=a.tmps.size:=by
  cases d <;> simp [Act.put]
theorem qF (a:Act) (d:Option Nat) (v:Value):(a.put d v).defers=a.defers:=by
  cases d <;> simp [Act.put]
theorem oH (a:Act) (t:Nat):a.eval (.tmp t)=aU a t:=rfl
structure Spec (N:aX) where
  tag:Option Nat
  slot:Nat
  R:aX→aX→Value→World→Prop
  loc:∀Z Z' T v w w',(∀g,Z g→Z' g)→Ext (fun g=>N g∧¬T g∧¬Z g) w w'→R Z T v w→R Z' T v w'
  pur:Value→Prop:=fun _=>True
  fit:∀Z T v w,R Z T v w→pur v:=by exact fun _ _ _ _ _=>trivial
structure Ini (N:aX) where
  I:aX→aX→World→Prop
  loc:∀Z Z' T w w',(∀g,Z g→Z' g)→Ext (fun g=>N g∧¬T g∧¬Z g) w w'→I Z T w→I Z' T w'
def Ini.any (N:aX):Ini N:=⟨fun _ _ _=>True,fun _ _ _ _ _ _ _ h=>h⟩
def ia9_ {N:aX}:Ini N:=Ini.any N
def fh (τ:Nat→aX) (w:World):aX:=fun g=>g < w.heap.size∧∀t,¬τ t g
def ni (τ:Nat→aX) (t0:Nat) (T':aX):Nat→aX:=fun t g=>if t=t0 then T' g else τ t g
theorem Ext.less {N T Z:aX} {w w':World} (h:Ext (fun g=>N g∧¬T g∧¬Z g) w w'):Ext (fun g=>N g∧¬T g) w w':=h.mono fun _ _ h=>⟨h.1,h.2.1⟩
section
variable {N:aX} {P:Program} (ops:Array Oper) (sp:List (Spec N)) (ini:Nat→Ini N) (a0:Act) (w0:World)
structure J (done:Nat→Bool) (a:Act) (w:World) (τ:Nat→aX):Prop where
  defers:a.defers=a0.defers
  size:a.tmps.size=a0.tmps.size
  un:∀t,(∀i o,ops[i]? =some o→o.dst=some t→done i=false)→aU a t=aU a0 t
  ext:Ext N w0 w
  big:∀k,w.heap.size≤k→N k
  disj:∀s t g,τ s g→τ t g→s=t
  bnd:∀t g,τ t g→N g∧g < w.heap.size
  det:∀(j:Nat) (s:Spec N),sp[j]? =some s→s.tag=none→done j=true→s.R (fh τ w) bk (aU a s.slot) w
  res:∀(j:Nat) (s:Spec N) (t:Nat),sp[j]? =some s→s.tag=some t→done j=true→(∀(k:Nat) (s':Spec N),sp[k]? =some s'→j < k→s'.tag=some t→done k=false)→s.R (fh τ w) (τ t) (aU a s.slot) w
  ini:∀t,(∀(k:Nat) (s':Spec N),sp[k]? =some s'→s'.tag=some t→done k=false)→(ini t).I (fh τ w) (τ t) w
  pur:∀(j:Nat) (s:Spec N),sp[j]? =some s→done j=true→s.pur (aU a s.slot)
def oh (s:Spec N) (a':Act) (τ:Nat→aX) (w w':World):Prop:=
  match s.tag with
  | none => Ext bk w w' ∧ s.R (fh τ w') bk (aU a' s.slot) w'
  | some t => Ext (τ t) w w' ∧ ∃ T' : aX, (∀ g, T' g → τ t g ∨ (w.heap.size ≤ g ∧ g < w'.heap.size)) ∧ s.R (fh (ni τ t T') w') T' (aU a' s.slot) w'
structure Cx (bf:List Nat) (j:Nat) (o:Oper) (done:Nat→Bool) (a:Act) (w:World) (τ:Nat→aX):Prop where
  J:J ops sp ini a0 w0 done a w τ
  hj:done j=false
  pre:∀i,(bf.getD j 0).testBit i=true→done i=true
  post:∀k,(bf.getD k 0).testBit j=true→done k=false
  lt:∀d,o.dst=some d→d < a.tmps.size
def Ob (P:Program) (bf:List Nat) (j:Nat) (o:Oper) (s:Spec N):Prop:=
  ∀done a w τ,Cx ops sp ini a0 w0 bf j o done a w τ→
    (Region.wanted o (yielded ops a.tmps)=true→o.wp P a w (fun a' w'=>∃v,a'=a.put o.dst v∧oh s a' τ w w') (fun _ _ _=>False))∧
    (Region.wanted o (yielded ops a.tmps)=false→oh s (a.put o.dst undef) τ w w)
def oi (P:Program) (bf:List Nat):Nat→List Oper→List (Spec N)→Prop
  | _, [], [] => True
  | j, o :: l, s :: r => Ob ops sp ini a0 w0 P bf j o s ∧ oi P bf (j + 1) l r
  | _, _, _ => False
def mV (ops:Array Oper) (n:Nat):Bool:=
  (List.range ops.size).all fun j=>match ops[j]? with
    | none => false
    | some o => o.after.all (fun e => !Region.binds .any e || e.on < j) &&
      (match o.dst with
       | none => true
       | some d => d < n && (List.range ops.size).all fun i => i == j || (match ops[i]? with | some o' => o'.dst != some d | none => true))
def qk (ops:Array Oper) (bf:List Nat):Bool:=
  bf.length==ops.size&&(List.range ops.size).all fun j=>decide (bf.getD j 0 < 2 ^ j)&&match ops[j]? with
    | none => false
    | some o => (List.range ops.size).all fun i => !(bf.getD j 0).testBit i || o.after.any fun e => Region.binds .any e && (e.on == i || (bf.getD e.on 0).testBit i)
def nk (ops:Array Oper) (bf:List Nat) (slots:List Nat) (tags:List (Option Nat)):Bool:=
  slots.length==ops.size&&tags.length==ops.size&&
  (List.range ops.size).all fun j=>(List.range ops.size).all fun k=>
    (k==j || (match ops[k]? with | some o=>o.dst !=some (slots.getD j 0) || (bf.getD j 0).testBit k | none=>true))&&
    (!(j < k) || (match tags.getD j none with | none=>true | some t=>tags.getD k none !=some t || (bf.getD k 0).testBit j))
def bF (tags:List (Option Nat)) (t:Nat):Nat→Option Nat
  | 0 => none
  | j + 1 => if tags.getD j none = some t then some j else bF tags t j
def ju (tags:List (Option Nat)) (bf:List Nat) (t j:Nat):Bool:=
  (List.range tags.length).all fun k=>tags.getD k none !=some t || k==j || (k < j&&(bf.getD j 0).testBit k) || (j < k&&(bf.getD k 0).testBit j)
theorem kD {tags:List (Option Nat)} {t:Nat}:∀{j i:Nat},bF tags t j=some i→i < j∧tags.getD i none=some t∧∀k,i < k→k < j→tags.getD k none≠some t
  | 0, i, h => by simp [bF] at h
  | j + 1, i, h => by
    unfold bF at h;split at h
    · rename_i ht;obtain rfl:j=i:=by simpa using h
      exact ⟨Nat.lt_succ_self _,ht,fun k h1 h2=>by omega⟩
    · rename_i ht;obtain ⟨h1,h2,h3⟩:=kD h;refine ⟨by omega,h2,fun k hk hk'=> ?_⟩;by_cases e:k=j
      · subst e;exact ht
      · exact h3 k hk (by omega)
theorem kE {tags:List (Option Nat)} {t:Nat}:∀{j:Nat},bF tags t j=none→∀k,k < j→tags.getD k none≠some t
  | 0, _, k, hk => by omega
  | j + 1, h, k, hk => by
    unfold bF at h;split at h
    · cases h
    · rename_i ht;by_cases e:k=j
      · subst e;exact ht
      · exact kE h k (by omega)
end
section
variable {N:aX} {P:Program} {ops:Array Oper} {sp:List (Spec N)} {ini:Nat→Ini N} {a0:Act} {w0:World} {done:Nat→Bool} {a:Act} {w:World} {τ:Nat→aX} {bf:List Nat} {j:Nat}
theorem jl {k:Nat} {s:Spec N} (h:sp[k]? =some s):(sp.map (·.tag)).getD k none=s.tag:=by
  simp [List.getD,h]
theorem pr {t:Nat} (h:ju (sp.map (·.tag)) bf t j=true) {k:Nat} {s:Spec N} (hs:sp[k]? =some s) (ht:s.tag=some t):
    k=j∨(k < j∧(bf.getD j 0).testBit k=true)∨(j < k∧(bf.getD k 0).testBit j=true):=by
  unfold ju at h;rw [da] at h;have hk:k < sp.length:=(List.getElem?_eq_some_iff.1 hs).1
  have:=h k (by simpa using hk);rw [jl hs,ht] at this
  simp only [bne_self_eq_false,gV,be,am,ah,beq_iff_eq] at this
  rcases this with (h | h) | h
  · exact .inl h
  · exact .inr (.inl h)
  · exact .inr (.inr h)
theorem J.cur (hJ:J ops sp ini a0 w0 done a w τ) (hj:done j=false) (hpost:∀k,(bf.getD k 0).testBit j=true→done k=false) (hpre:∀i,(bf.getD j 0).testBit i=true→done i=true)
    (t i:Nat) (s:Spec N) (hi:bF (sp.map (·.tag)) t j=some i) (hord:ju (sp.map (·.tag)) bf t j=true) (hs:sp[i]? =some s):s.R (fh τ w) (τ t) (aU a s.slot) w:=by
  obtain ⟨h1,h2,h3⟩:=kD hi;have ht:s.tag=some t:=by rw [←jl hs];exact h2
  refine hJ.res i s t hs ht ?_ ?_
  · rcases pr hord hs ht with h | ⟨_,h⟩ | ⟨h,_⟩
    · omega
    · exact hpre _ h
    · omega
  · intro k s' hs' hk ht';rcases pr hord hs' ht' with h | ⟨h,_⟩ | ⟨_,h⟩
    · subst h;exact hj
    · exact absurd (by rw [jl hs'];exact ht') (h3 k hk h)
    · exact hpost _ h
theorem J.cur0 (hJ:J ops sp ini a0 w0 done a w τ) (hj:done j=false) (hpost:∀k,(bf.getD k 0).testBit j=true→done k=false)
    (t:Nat) (hi:bF (sp.map (·.tag)) t j=none) (hord:ju (sp.map (·.tag)) bf t j=true):(ini t).I (fh τ w) (τ t) w:=by
  refine hJ.ini t fun k s' hs' ht'=> ?_;rcases pr hord hs' ht' with h | ⟨h,_⟩ | ⟨_,h⟩
  · subst h;exact hj
  · exact absurd (by rw [jl hs'];exact ht') (kE hi k h)
  · exact hpost _ h
def wP (ops:Array Oper) (bf:List Nat) (j t:Nat):Bool:=
  (List.range ops.size).all fun k=>match ops[k]? with | some o=>o.dst !=some t || k==j || (bf.getD k 0).testBit j | none=>true
theorem J.old (hJ:J ops sp ini a0 w0 done a w τ) (hj:done j=false) (hpost:∀k,(bf.getD k 0).testBit j=true→done k=false) (t:Nat) (h:wP ops bf j t=true):aU a t=aU a0 t:=by
  refine hJ.un t fun i o hi hd=> ?_;unfold wP at h;rw [da] at h;have:=h i (by simpa using (Array.getElem?_eq_some_iff.1 hi).1);simp only [hi,hd,bne_self_eq_false,gV,be,beq_iff_eq] at this
  rcases this with h | h
  · subst h;exact hj
  · exact hpost _ h
end
section
variable {N:aX} {P:Program} {ops:Array Oper} {sp:List (Spec N)} {ini:Nat→Ini N} {a0:Act} {w0:World} {bf:List Nat} {n:Nat}
theorem im (h:mV ops n=true) {j:Nat} {o:Oper} (ho:ops[j]? =some o):
    (∀e ∈ o.after,Region.binds .any e=true→e.on < j)∧∀d,o.dst=some d→d < n∧∀(i:Nat) (o':Oper),ops[i]? =some o'→i≠j→o'.dst≠some d:=by
  unfold mV at h;rw [da] at h;have:=h j (by simpa using (Array.getElem?_eq_some_iff.1 ho).1);simp only [ho,am,Array.all_eq_true_iff_forall_mem,be,aA,ah] at this
  refine ⟨fun e he hb=>(this.1 e he).resolve_left (by simp [hb]),fun d hd=> ?_⟩;have h2:=this.2;simp only [hd,am,ah,da,List.mem_range,be,beq_iff_eq] at h2;refine ⟨h2.1,fun i o' hi hne hd'=> ?_⟩;have:=h2.2 i (Array.getElem?_eq_some_iff.1 hi).1;simp [hi,hd',hne] at this
theorem ss (h:qk ops bf=true) {j i:Nat} (hb:(bf.getD j 0).testBit i=true):
    i < j∧j < ops.size∧∃o,ops[j]? =some o∧∃e ∈ o.after,Region.binds .any e=true∧(e.on=i∨(bf.getD e.on 0).testBit i=true):=by
  unfold qk at h;rw [am,da,beq_iff_eq] at h;have hj:j < ops.size:=by
    rw [←h.1];apply Nat.lt_of_not_le;intro hle;rw [List.getD,jS hle] at hb;simp at hb
  have:=h.2 j (by simpa using hj);rw [am,ah] at this
  obtain ⟨hlt,this⟩:=this
  have hi:i < j:=by
    apply Nat.lt_of_not_le;intro hle;have:(bf.getD j 0).testBit i=false:=Nat.testBit_lt_two_pow (cG hlt (Nat.pow_le_pow_right (by omega) hle));rw [this] at hb;cases hb
  refine ⟨hi,hj,?_⟩;split at this
  · cases this
  · rename_i o ho;refine ⟨o,ho,?_⟩;rw [da] at this
    have:=this i (by simp;omega)
    simp only [hb,kc,gV] at this
    rw [←Array.any_toList,List.any_eq_true] at this
    obtain ⟨e,he,h2⟩:=this
    simp only [am,be,beq_iff_eq] at h2;exact ⟨e,by simpa using he,h2⟩
theorem su (h:nk ops bf (sp.map (·.slot)) (sp.map (·.tag))=true) {j k:Nat} {s:Spec N} (hj:j < ops.size) (hk:k < ops.size) (hs:sp[j]? =some s):
    (∀o,ops[k]? =some o→o.dst=some s.slot→k≠j→(bf.getD j 0).testBit k=true)∧
    (∀s' t,j < k→sp[k]? =some s'→s.tag=some t→s'.tag=some t→(bf.getD k 0).testBit j=true):=by
  unfold nk at h;rw [am,da] at h;have:=h.2 j (by simpa using hj);rw [da] at this
  have:=this k (by simpa using hk)
  rw [am] at this
  obtain ⟨h1,h2⟩:=this
  refine ⟨fun o ho hd hne=> ?_,fun s' t hlt hs' ht ht'=> ?_⟩
  · simpa [ho,hd,List.getD,hs,hne] using h1
  · rw [jl hs,ht] at h2;simp only [hlt,decide_true,kc,gV] at h2;rw [jl hs',ht'] at h2;simpa using h2
def oj (ops:Array Oper) (done:Nat→Bool):Prop:=∀(j:Nat) (o:Oper),ops[j]? =some o→done j=true→∀e ∈ o.after,Region.binds .any e=true→done e.on=true
theorem lJ (hok:mV ops n=true) (hbf:qk ops bf=true) {done:Nat→Bool} (hc:oj ops done):
    ∀(m j:Nat),j≤m→(∀o,ops[j]? =some o→∀e ∈ o.after,Region.binds .any e=true→done e.on=true)→∀i,(bf.getD j 0).testBit i=true→done i=true:=by
  intro m;induction m with
  | zero =>
    intro j hj h i hb;have:=(ss hbf hb).1;omega
  | succ m ih =>
    intro j hj h i hb;obtain ⟨_,_,o,ho,e,he,hbi,h2⟩:=ss hbf hb;have hd:=h o ho e he hbi;rcases h2 with h2 | h2
    · rw [←h2];exact hd
    · have hlt:=(im hok ho).1 e he hbi;exact ih e.on (by omega) (fun o' ho'=>hc e.on o' ho' hd) i h2
theorem J.step (hok:mV ops a0.tmps.size=true) (hbf:qk ops bf=true) (hsp:nk ops bf (sp.map (·.slot)) (sp.map (·.tag))=true)
    {done:Nat→Bool} {a:Act} {w w':World} {τ:Nat→aX} {j:Nat} {o:Oper} {s:Spec N} {v:Value}
    (hJ:J ops sp ini a0 w0 done a w τ) (hc:oj ops done) (hj:done j=false) (ho:ops[j]? =some o) (hs:sp[j]? =some s)
    (hstep:oh s (a.put o.dst v) τ w w'):∃τ',J ops sp ini a0 w0 (fun i=>i==j || done i) (a.put o.dst v) w' τ':=by
  have hjs:j < ops.size:=(Array.getElem?_eq_some_iff.1 ho).1
  have clos:∀i k,done i=true→(bf.getD i 0).testBit k=true→done k=true:=fun i k hd hb=>
    lJ hok hbf hc i i (bd _) (fun o' ho'=>hc i o' ho' hd) k hb
  -- a place of another operation is not written
  have keep:∀i s',sp[i]? =some s'→i < ops.size→done i=true→aU (a.put o.dst v) s'.slot=aU a s'.slot:=by
    intro i s' hs' hi hd;cases hdst:o.dst with
    | none => rfl
    | some d =>
      have hlt:=((im hok ho).2 d hdst).1;rw [dk a d s'.slot v (by rw [hJ.size];exact hlt)];rw [if_neg];intro e;have:=(su hsp hi hjs hs').1 o ho (by rw [hdst,e]) (fun e'=>by rw [e',hd] at hj;cases hj);rw [clos i j hd this] at hj;cases hj
  have hlen:sp.length=ops.size:=by
    unfold nk at hsp;simp only [am,fC,beq_iff_eq] at hsp;exact hsp.1.1
  have spl:∀i s',sp[i]? =some s'→i < ops.size:=fun i s' h=>by
    rw [←hlen];exact (List.getElem?_eq_some_iff.1 h).1
  have un':∀t,(∀i o',ops[i]? =some o'→o'.dst=some t→(i==j || done i)=false)→aU (a.put o.dst v) t=aU a0 t:=by
    intro t ht;have hne:o.dst≠some t:=fun e=>by have:=ht j o ho e;simp at this
    rw [←hJ.un t (fun i o' hi hd=>by have:=ht i o' hi hd;simp at this;exact this.2)];cases hdst:o.dst with
    | none => rfl
    | some d =>
      have hlt:=((im hok ho).2 d hdst).1;rw [dk a d t v (by rw [hJ.size];exact hlt),if_neg (fun e=>hne (by rw [hdst,e]))]
  have dn:∀k,(k==j || done k)=false→done k=false:=fun k h=>by simp at h;exact h.2
  have purR:(True→s.pur (aU (a.put o.dst v) s.slot))→∀(i:Nat) (s':Spec N),sp[i]? =some s'→(i==j || done i)=true→s'.pur (aU (a.put o.dst v) s'.slot):=by
    intro hp i s' hs' hd;by_cases e:i=j
    · subst e;rw [hs] at hs';cases hs'
      exact hp trivial
    · have hd':done i=true:=by simpa [e] using hd
      rw [keep i s' hs' (spl i s' hs') hd'];exact hJ.pur i s' hs' hd'
  unfold oh at hstep;cases htag:s.tag with
  | none =>
    rw [htag] at hstep;obtain ⟨he,hR⟩:=hstep;have hzz:∀g,fh τ w g→fh τ w' g:=fun g h=>⟨cG h.1 he.size,h.2⟩;refine ⟨τ,(qF _ _ _).trans hJ.defers,(uv _ _ _).trans hJ.size,un',hJ.ext.trans (he.mono fun _ _ h=>h.elim),fun k hk=>hJ.big k (aE he.size hk),hJ.disj,
      fun t g h=>⟨(hJ.bnd t g h).1,cG (hJ.bnd t g h).2 he.size⟩,?_,?_,?_,purR (fun T=>s.fit _ _ _ _ hR)⟩
    · intro i s' hs' ht' hd;by_cases e:i=j
      · subst e;rw [hs] at hs';cases hs'
        exact hR
      · have hd':done i=true:=by simpa [e] using hd
        rw [keep i s' hs' (spl i s' hs') hd'];exact s'.loc _ _ _ _ _ _ hzz (he.mono fun _ _ h=>h.elim) (hJ.det i s' hs' ht' hd')
    · intro i s' t hs' ht' hd hcur;have e:i≠j:=fun e=>by subst e;rw [hs] at hs';cases hs';rw [htag] at ht';cases ht'
      have hd':done i=true:=by simpa [e] using hd
      rw [keep i s' hs' (spl i s' hs') hd'];exact s'.loc _ _ _ _ _ _ hzz (he.mono fun _ _ h=>h.elim) (hJ.res i s' t hs' ht' hd' (fun k s'' hk hlt hkt=>dn k (hcur k s'' hk hlt hkt)))
    · intro t hcur;exact (ini t).loc _ _ _ _ _ hzz (he.mono fun _ _ h=>h.elim) (hJ.ini t (fun k s' hk hkt=>dn k (hcur k s' hk hkt)))
  | some t0 =>
    rw [htag] at hstep;obtain ⟨he,T',hT',hR⟩:=hstep;have stab:∀t,t≠t0→Ext (fun g=>N g∧¬τ t g∧¬fh τ w g) w w':=fun t hne=>he.mono fun k _ h=>⟨(hJ.bnd t0 k h).1,fun h'=>hne (hJ.disj t t0 k h' h),fun hz=>hz.2 t0 h⟩;have hzz:∀g,fh τ w g→fh (ni τ t0 T') w' g:=fun g h=>⟨cG h.1 he.size,fun t ht=>by
      unfold ni at ht;split at ht
      · rcases hT' g ht with h' | h'
        · exact h.2 t0 h'
        · have:=h.1;omega
      · exact h.2 t ht⟩
    refine ⟨ni τ t0 T',(qF _ _ _).trans hJ.defers,(uv _ _ _).trans hJ.size,un',hJ.ext.trans (he.mono fun k _ h=>(hJ.bnd t0 k h).1),fun k hk=>hJ.big k (aE he.size hk),?_,?_,?_,?_,?_,purR (fun T=>s.fit _ _ _ _ hR)⟩
    · intro s1 s2 g h1 h2;by_cases e1:s1=t0 <;> by_cases e2:s2=t0
      · rw [e1,e2]
      · simp only [ni,e1,e2,if_true,if_false] at h1 h2;rcases hT' g h1 with h | h
        · rw [e1];exact hJ.disj t0 s2 g h h2
        · have:=(hJ.bnd s2 g h2).2;omega
      · simp only [ni,e1,e2,if_true,if_false] at h1 h2;rcases hT' g h2 with h | h
        · rw [e2];exact hJ.disj s1 t0 g h1 h
        · have:=(hJ.bnd s1 g h1).2;omega
      · simp only [ni,e1,e2,if_false] at h1 h2;exact hJ.disj s1 s2 g h1 h2
    · intro t g h;by_cases e:t=t0
      · simp only [ni,e,if_true] at h;rcases hT' g h with h | h
        · exact ⟨(hJ.bnd t0 g h).1,cG (hJ.bnd t0 g h).2 he.size⟩
        · exact ⟨hJ.big g h.1,h.2⟩
      · simp only [ni,e,if_false] at h;exact ⟨(hJ.bnd t g h).1,cG (hJ.bnd t g h).2 he.size⟩
    · intro i s' hs' ht' hd;have e:i≠j:=fun e=>by subst e;rw [hs] at hs';cases hs';rw [htag] at ht';cases ht'
      have hd':done i=true:=by simpa [e] using hd
      rw [keep i s' hs' (spl i s' hs') hd'];exact s'.loc _ _ _ _ _ _ hzz (he.mono fun k _ h=>⟨(hJ.bnd t0 k h).1,fun x=>x,fun hz=>hz.2 t0 h⟩) (hJ.det i s' hs' ht' hd')
    · intro i s' t hs' ht' hd hcur;by_cases e:i=j
      · subst e;rw [hs] at hs';cases hs'
        rw [htag] at ht';cases ht'
        have e1:ni τ t0 T' t0=T':=by funext g;simp [ni]
        rw [e1];exact hR
      · have hd':done i=true:=by simpa [e] using hd
        have hne:t≠t0:=by
          intro et;subst et;rcases jF i j with h | h | h
          · have:=hcur j s hs h htag;simp at this
          · exact e h
          · have:=(su hsp hjs (spl i s' hs') hs).2 s' t h hs' htag ht';rw [clos i j hd' this] at hj;cases hj
        rw [keep i s' hs' (spl i s' hs') hd'];have e1:ni τ t0 T' t=τ t:=by funext g;simp [ni,hne]
        rw [e1];exact s'.loc _ _ _ _ _ _ hzz (stab t hne) (hJ.res i s' t hs' ht' hd' (fun k s'' hk hlt hkt=>dn k (hcur k s'' hk hlt hkt)))
    · intro t hcur;have hne:t≠t0:=fun et=>by have:=hcur j s hs (by rw [htag,et]);simp at this
      have e1:ni τ t0 T' t=τ t:=by funext g;simp [ni,hne]
      rw [e1];exact (ini t).loc _ _ _ _ _ hzz (stab t hne) (hJ.ini t (fun k s' hk hkt=>dn k (hcur k s' hk hkt)))
theorem yb {o:Oper} {a:Act} {w:World} {K K':Act→World→Prop} {Q:Exit→Act→World→Prop} (h:∀a w,K a w→K' a w)
    (hh:o.wp P a w K (fun _ _ _=>False)):o.wp P a w K' Q:=by
  unfold Oper.wp at *;generalize (execOp a.eval o).run P w=r at *;cases r with
  | ok n w' =>
    cases n <;> simp only [Oper.upon] at hh ⊢ <;>
      first
        | exact h _ _ hh
        | exact Calls.mono hh (fun e w'' he => by
            cases e with
            | returned v => exact h _ _ he
            | panicked c => exact he.elim
            | outgrown => obtain ⟨_, _, h'⟩ := he; exact h'.elim)
        | exact Rows.mono hh (fun _ _ he => h _ _ he)
  | halt x w' => cases x <;> simp only [Oper.upon] at hh
theorem qG (hok:mV ops a0.tmps.size=true) (hbf:qk ops bf=true) (hsp:nk ops bf (sp.map (·.slot)) (sp.map (·.tag))=true)
    {Q:Exit→Act→World→Prop} {done:Nat→Bool} {a:Act} {w:World} {τ:Nat→aX} {j:Nat} {o:Oper} {s:Spec N} {K:Act→World→Prop}
    (hJ:J ops sp ini a0 w0 done a w τ) (hc:oj ops done) (hj:done j=false) (ho:ops[j]? =some o) (hs:sp[j]? =some s)
    (hpre:∀e ∈ o.after,Region.binds .any e=true→done e.on=true) (hob:Ob ops sp ini a0 w0 P bf j o s)
    (hK:∀a' w' τ',J ops sp ini a0 w0 (fun i=>i==j || done i) a' w' τ'→K a' w'):wpOp P ops Q j K a w:=by
  have p1:∀i,(bf.getD j 0).testBit i=true→done i=true:=lJ hok hbf hc j j (bd _) (fun o' ho'=>by rw [ho] at ho';cases ho';exact hpre);have p2:∀k,(bf.getD k 0).testBit j=true→done k=false:=fun k hb=>by
    cases hd:done k with
    | false => rfl
    | true =>
      have:=lJ hok hbf hc k k (bd _) (fun o' ho'=>hc k o' ho' hd) j hb;rw [hj] at this;cases this
  obtain ⟨h1,h2⟩:=hob done a w τ ⟨hJ,hj,p1,p2,fun d hd=>by rw [hJ.size];exact ((im hok ho).2 d hd).1⟩;unfold wpOp;rw [ho];simp only [];by_cases hw:Region.wanted o (yielded ops a.tmps)=true
  · rw [if_pos hw];refine .inl (yb (fun a' w' hh=> ?_) (h1 hw));obtain ⟨v,rfl,hstep⟩:=hh;obtain ⟨τ',hJ'⟩:=hJ.step hok hbf hsp hc hj ho hs hstep;exact hK _ _ _ hJ'
  · rw [if_neg hw];obtain ⟨τ',hJ'⟩:=hJ.step hok hbf hsp hc hj ho hs (h2 (by simpa using hw));exact hK _ _ _ hJ'
theorem ol:∀{l:List Oper} {r:List (Spec N)} {k:Nat},oi ops sp ini a0 w0 P bf k l r→∀(i:Nat) (o:Oper) (s:Spec N),l[i]? =some o→r[i]? =some s→Ob ops sp ini a0 w0 P bf (k+i) o s
  | [], [], _, _, i, o, s, ho, _ => by simp at ho
  | o' :: l, s' :: r, k, h, 0, o, s, ho, hs => by
    simp at ho hs;subst ho;subst hs;exact h.1
  | o' :: l, s' :: r, k, h, i + 1, o, s, ho, hs => by
    have:=ol h.2 i o s (by simpa using ho) (by simpa using hs);rwa [show k+(i+1)=k+1+i by omega]
theorem vL {done:Nat→Bool} {j:Nat} {o:Oper} (hc:oj ops done) (ho:ops[j]? =some o) (hpre:∀e ∈ o.after,Region.binds .any e=true→done e.on=true):oj ops (fun i=>i==j || done i):=by
  intro i o' hi hd e he hb;show (e.on==j || done e.on)=true;by_cases h:i=j
  · subst h;rw [ho] at hi;cases hi
    simp [hpre e he hb]
  · have:done i=true:=by simpa [h] using hd
    simp [hc i o' hi this e he hb]
theorem ER (hok:mV ops a0.tmps.size=true) (hbf:qk ops bf=true) (hsp:nk ops bf (sp.map (·.slot)) (sp.map (·.tag))=true)
    {Q:Exit→Act→World→Prop} (obs:∀(j:Nat) (o:Oper) (s:Spec N),ops[j]? =some o→sp[j]? =some s→Ob ops sp ini a0 w0 P bf j o s)
    (fin:∀a w τ,J ops sp ini a0 w0 (fun _=>true) a w τ→Q .normal a w):∀(fuel:Nat) (listed:Array Bool) (a:Act) (w:World) (τ:Nat→aX),
      (List.range ops.size).countP (fun i=> !listed.getD i true)≤fuel→listed.size=ops.size→J ops sp ini a0 w0 (fun i=>listed.getD i true) a w τ→oj ops (fun i=>listed.getD i true)→wpAny P .any ops Q fuel listed a w:=by
  have hlen:sp.length=ops.size:=by
    unfold nk at hsp;simp only [am,fC,beq_iff_eq] at hsp;exact hsp.1.1
  have allDone:∀(listed:Array Bool),listed.size=ops.size→Region.ready .any ops listed=[]→∀m i,i≤m→listed.getD i true=true:=by
    intro listed hsz hr m;induction m with
    | zero =>
      intro i hi;by_cases hlt:i < ops.size
      · cases hg:listed.getD i true with
        | true => rfl
        | false =>
          exfalso;have:i ∈ Region.ready .any ops listed:=mem_ready.2 ⟨hg,ops[i],by simp [hlt],fun e he hb=>by
            have:=(im hok (j:=i) (o:=ops[i]) (by simp [hlt])).1 e he hb;omega⟩
          rw [hr] at this;cases this
      · simp [aY,Array.getElem?_eq_none (show listed.size≤i by omega)]
    | succ m ih =>
      intro i hi;by_cases hlt:i < ops.size
      · cases hg:listed.getD i true with
        | true => rfl
        | false =>
          exfalso;have:i ∈ Region.ready .any ops listed:=mem_ready.2 ⟨hg,ops[i],by simp [hlt],fun e he hb=>by
            have h1:=(im hok (j:=i) (o:=ops[i]) (by simp [hlt])).1 e he hb;have h2:=ih e.on (by omega);rw [aY] at h2 ⊢;have h3:e.on < listed.size:=by omega
            simpa [lw h3] using h2⟩
          rw [hr] at this;cases this
      · simp [aY,Array.getElem?_eq_none (show listed.size≤i by omega)]
  have finish:∀(listed:Array Bool) (a:Act) (w:World) (τ:Nat→aX),listed.size=ops.size→Region.ready .any ops listed=[]→J ops sp ini a0 w0 (fun i=>listed.getD i true) a w τ→Q .normal a w:=by
    intro listed a w τ hsz hr hJ;refine fin a w τ ?_;rwa [show (fun i=>listed.getD i true)=(fun _=>true) from funext fun i=>allDone listed hsz hr i i (bd _)] at hJ
  intro fuel;induction fuel with
  | zero =>
    intro listed a w τ hcount hsz hJ hc;have hr:Region.ready .any ops listed=[]:=by
      cases hrr:Region.ready .any ops listed with
      | nil => rfl
      | cons x xs =>
        exfalso;have hx:x ∈ Region.ready .any ops listed:=by rw [hrr];exact List.mem_cons_self
        obtain ⟨h1,o,ho,_⟩:=mem_ready.1 hx;have hpos:0 < (List.range ops.size).countP (fun i=> !listed.getD i true):=
          List.countP_pos_iff.2 ⟨x,by simpa using (Array.getElem?_eq_some_iff.1 ho).1,by simp only [h1,kO]⟩
        omega
    exact ⟨hr,finish listed a w τ hsz hr hJ⟩
  | succ fuel ih =>
    intro listed a w τ hcount hsz hJ hc;refine ⟨fun hr=>finish listed a w τ hsz hr hJ,fun j hjr=> ?_⟩;obtain ⟨hj,o,ho,hpre⟩:=mem_ready.1 hjr;have hjs:j < ops.size:=(Array.getElem?_eq_some_iff.1 ho).1
    have hpre':∀e ∈ o.after,Region.binds .any e=true→listed.getD e.on true=true:=fun e he hb=>by
      have h1:=hpre e he hb;have h2:=(im hok ho).1 e he hb;rw [aY] at h1 ⊢;have h3:e.on < listed.size:=by omega
      simpa [lw h3] using h1
    have hset:(fun i=>(listed.setIfInBounds j true).getD i true)=(fun i=>i==j || listed.getD i true):=by
      funext i;simp only [aY,kr];by_cases h:j=i
      · subst h;simp [hsz,hjs]
      · have:(i==j)=false:=by simp;exact fun e=>h e.symm
        simp [h,this]
    refine qG hok hbf hsp hJ hc hj ho (s:=sp[j]'(by omega)) (by simp [hlen,hjs]) hpre' (obs j o _ ho (by simp [hlen,hjs])) ?_;intro a' w' τ' hJ';refine ih _ a' w' τ' ?_ (by simpa using hsz) (by rw [hset];exact hJ') (by rw [hset];exact vL hc ho hpre');have hlt:(List.range ops.size).countP (fun i=> !(listed.setIfInBounds j true).getD i true) < (List.range ops.size).countP (fun i=> !listed.getD i true):=by
      have e1:(fun i=> !(listed.setIfInBounds j true).getD i true)=(fun i=> !(i==j || listed.getD i true)):=by
        funext i;rw [congrFun hset i]
      rw [e1];have hjm:j ∈ List.range ops.size:=by simpa using hjs
      generalize List.range ops.size=l at hjm;clear hcount ih;induction l with
      | nil => cases hjm
      | cons x l ihl =>
        simp only [lR];have hle:l.countP (fun i=> !(i==j || listed.getD i true))≤l.countP (fun i=> !listed.getD i true):=
          List.countP_mono_left fun y _ hy=>by
            simp only [aA,aS] at hy ⊢;exact hy.2
        by_cases hx:x=j
        · subst hx;simp only [beq_self_eq_true,Bool.true_or,kc,hj,kO,if_true];simp only [Bool.false_eq_true,if_false];omega
        · have hjl:j ∈ l:=by
            rcases List.mem_cons.1 hjm with h | h
            · exact absurd h.symm hx
            · exact h
          have:=ihl hjl;have hb:(x==j)=false:=by simp [hx]
          simp only [hb,gV];split <;> omega
    omega
theorem wQ (hok:mV ops a0.tmps.size=true) (hbf:qk ops bf=true) (hsp:nk ops bf (sp.map (·.slot)) (sp.map (·.tag))=true)
    {Q:Exit→Act→World→Prop} (obs:∀(j:Nat) (o:Oper) (s:Spec N),ops[j]? =some o→sp[j]? =some s→Ob ops sp ini a0 w0 P bf j o s)
    (fin:∀a w τ,J ops sp ini a0 w0 (fun i=>decide (i < ops.size)) a w τ→Q .normal a w):∀(m k:Nat) (a:Act) (w:World) (τ:Nat→aX),m+k=ops.size→J ops sp ini a0 w0 (fun i=>decide (i < k)) a w τ→wpOps P ops Q (List.range' k m) a w:=by
  have hlen:sp.length=ops.size:=by
    unfold nk at hsp;simp only [am,fC,beq_iff_eq] at hsp;exact hsp.1.1
  intro m;induction m with
  | zero =>
    intro k a w τ hk hJ;simp only [List.range'_zero,wpOps];exact fin a w τ (by rwa [show ops.size=k by omega])
  | succ m ih =>
    intro k a w τ hk hJ;have hks:k < ops.size:=by omega
    rw [lS,wpOps_cons];have ho:ops[k]? =some ops[k]:=by simp [hks]
    have hpre:∀e ∈ ops[k].after,Region.binds .any e=true→decide (e.on < k)=true:=fun e he hb=>by simpa using (im hok ho).1 e he hb
    have hc:oj ops (fun i=>decide (i < k)):=fun i o' hi hd e he hb=>by
      have:=(im hok hi).1 e he hb;simp only [ah] at hd ⊢;omega
    refine qG hok hbf hsp hJ hc (by simp) ho (s:=sp[k]'(by omega)) (by simp [hlen,hks]) hpre (obs k _ _ ho (by simp [hlen,hks])) ?_;intro a' w' τ' hJ';refine ih (k+1) a' w' τ' (by omega) ?_;rwa [show (fun i=>decide (i < k+1))=(fun i=>i==k || decide (i < k)) from funext fun i=>by
      rw [fV];simp;omega]
theorem J.start {τ:Nat→aX} (hb:∀k,w0.heap.size≤k→N k) (hdis:∀s t g,τ s g→τ t g→s=t) (hbnd:∀t g,τ t g→N g∧g < w0.heap.size)
    (hini:∀t,(ini t).I (fh τ w0) (τ t) w0) {w:World} (hw:w=w0∨w=w0.drew) {done:Nat→Bool} (hd:∀i,i < sp.length→done i=false):J ops sp ini a0 w0 done a0 w τ:=by
  have hx:Ext N w0 w0:=Ext.refl _ _;have no:∀(j:Nat) (s:Spec N),sp[j]? =some s→done j=true→False:=fun j s hs hd'=>by
    rw [hd j (List.getElem?_eq_some_iff.1 hs).1] at hd';cases hd'
  rcases hw with rfl | rfl
  · exact ⟨rfl,rfl,fun _ _=>rfl,hx,hb,hdis,hbnd,fun j s hs _ h=>(no j s hs h).elim,fun j s _ hs _ h=>(no j s hs h).elim,fun t _=>hini t,fun j s hs h=>(no j s hs h).elim⟩
  · exact ⟨rfl,rfl,fun _ _=>rfl,hx.drew,hb,hdis,hbnd,fun j s hs _ h=>(no j s hs h).elim,fun j s _ hs _ h=>(no j s hs h).elim,fun t _=>(ini t).loc _ _ _ _ _ (fun _ h=>h) (Ext.refl _ _).drew (hini t),fun j s hs h=>(no j s hs h).elim⟩
end
section
variable {N:aX} {P:Program} {l:List Oper} {sp:List (Spec N)} {ini:Nat→Ini N} {a0:Act} {w0:World} {bf:List Nat}
theorem zg {id:Nat} {draw:Bool} (hm:P.follows .mixedOrders=true) (hok:(mV l.toArray a0.tmps.size&&qk l.toArray bf&&nk l.toArray bf (sp.map (·.slot)) (sp.map (·.tag)))=true)
    {Q:Exit→Act→World→Prop} {τ:Nat→aX} (hb:∀k,w0.heap.size≤k→N k) (hdis:∀s t g,τ s g→τ t g→s=t) (hbnd:∀t g,τ t g→N g∧g < w0.heap.size) (hini:∀t,(ini t).I (fh τ w0) (τ t) w0)
    (obs:oi l.toArray sp ini a0 w0 P bf 0 l sp)
    (fin:∀done a w τ,(∀i,i < l.length→done i=true)→J l.toArray sp ini a0 w0 done a w τ→Q .normal a w):(Code.region id l.toArray draw).wp P Q a0 w0:=by
  rw [am,am] at hok;obtain ⟨⟨h1,h2⟩,h3⟩:=hok;have obs':∀(j:Nat) (o:Oper) (s:Spec N),l.toArray[j]? =some o→sp[j]? =some s→Ob l.toArray sp ini a0 w0 P bf j o s:=fun j o s ho hs=>by
    have:=ol obs j o s (by simpa using ho) hs;rwa [gJ] at this
  cases draw with
  | true =>
    refine wp_region_any hm ?_;refine ER h1 h2 h3 obs' (fun a w τ hJ=>fin _ a w τ (fun _ _=>rfl) hJ) l.toArray.size _ a0 _ τ ?_ (by simp) ?_ ?_
    · have:=List.countP_le_length (p:=fun i=> !(Array.replicate l.toArray.size false).getD i true) (l:=List.range l.toArray.size);simpa using this
    · refine J.start hb hdis hbnd hini (.inr rfl) fun i hi=> ?_;unfold nk at h3;simp only [am,fC,beq_iff_eq] at h3;have:i < l.length:=by have:=h3.1.1;simp at this;omega
      simp [aY,this]
    · intro j o ho hd;have hlt:j < l.length:=by simpa using (Array.getElem?_eq_some_iff.1 ho).1
      simp [aY,hlt] at hd
  | false =>
    refine wp_region ?_;rw [List.range_eq_range'];refine wQ h1 h2 h3 obs' (fun a w τ hJ=>fin _ a w τ (fun i hi=>by simpa using hi) hJ) l.toArray.size 0 a0 w0 τ rfl ?_;exact J.start hb hdis hbnd hini (.inl rfl) fun i _=>by simp
end
end
section
open Go.RowKit
def ca (P:Program) (a:Act) (o:Oper) (w:World) (v:Value):Prop:=(execOp a.eval o).run P w= .ok (.value v) w
def dF:Value→Addr
  | .slice (some a) _ _ => a
  | .pointer (some a) => a
  | _ => ⟨0, 0, none⟩
def mw (v:Value) (n:Nat):Prop:=(v= .slice none 0 0∧n=0)∨∃b cap,v= .slice (some b) n cap∧n≤cap∧cap≤maxLen
section
variable {P:Program} {a:Act} {o:Oper} {w:World}
theorem aM {x:Operand} {v:Value} (ho:o.op= .move x) (h:a.eval x=v):ca P a o w v:=by
  subst h;simp [ca,execOp,ho]
theorem aw {x:Operand} {v:Value} (ho:o.op= .assign x) (h:a.eval x=v):ca P a o w v:=by
  subst h;simp [ca,execOp,ho]
theorem dX {c x y:Operand} {b:Bool} {v:Value} (ho:o.op= .pick c x y) (hc:a.eval c= .bool b) (h1:b=true→a.eval x=v) (h2:b=false→a.eval y=v):ca P a o w v:=by
  cases b
  · simp [ca,execOp,ho,hc,asBool,h2]
  · simp [ca,execOp,ho,hc,asBool,h1]
theorem nl {c x:Operand} {b b':Bool} (ho:o.op= .pick c x (.const (.bool false))) (hc:a.eval c= .bool b) (h1:b=true→a.eval x= .bool b'):ca P a o w (.bool (b&&b')):=
  dX ho hc (fun h=>by rw [h1 h,h,gW]) (fun h=>by rw [h,Bool.false_and];rfl)
theorem vM {c x:Operand} {b b':Bool} (ho:o.op= .pick c (.const (.bool true)) x) (hc:a.eval c= .bool b) (h1:b=false→a.eval x= .bool b'):ca P a o w (.bool (b || b')):=
  dX ho hc (fun h=>by rw [h,Bool.true_or];rfl) (fun h=>by rw [h1 h,h,gV])
section ints
variable {t t':TypeId} {x y:Operand} {k:IntKind} {p q:Int}
theorem ci (ho:o.op= .binOp .lss t x y t') (hx:a.eval x= .int k p) (hy:a.eval y= .int k q):ca P a o w (.bool (decide (p < q))):=by
  simp [ca,execOp,ho,hx,hy,eqGuard,binOp,Op.intCmp]
theorem kA (ho:o.op= .binOp .leq t x y t') (hx:a.eval x= .int k p) (hy:a.eval y= .int k q):ca P a o w (.bool (decide (p≤q))):=by
  simp [ca,execOp,ho,hx,hy,eqGuard,binOp,Op.intCmp]
theorem jm (ho:o.op= .binOp .gtr t x y t') (hx:a.eval x= .int k p) (hy:a.eval y= .int k q):ca P a o w (.bool (decide (q < p))):=by
  simp [ca,execOp,ho,hx,hy,eqGuard,binOp,Op.intCmp]
theorem gZ (ho:o.op= .binOp .geq t x y t') (hx:a.eval x= .int k p) (hy:a.eval y= .int k q):ca P a o w (.bool (decide (q≤p))):=by
  simp [ca,execOp,ho,hx,hy,eqGuard,binOp,Op.intCmp]
theorem cF (ho:o.op= .binOp .eql t x y t') (hx:a.eval x= .int k p) (hy:a.eval y= .int k q):ca P a o w (.bool (decide (p=q))):=by
  have:(p==q)=decide (p=q):=rfl;simp [ca,execOp,ho,hx,hy,eqGuard,binOp,Op.intCmp,this]
theorem ki (ho:o.op= .binOp .neq t x y t') (hx:a.eval x= .int k p) (hy:a.eval y= .int k q):ca P a o w (.bool (!decide (p=q))):=by
  have:(p !=q)= !decide (p=q):=rfl;simp [ca,execOp,ho,hx,hy,eqGuard,binOp,Op.intCmp,this]
theorem cp (ho:o.op= .binOp .add t x y t') (hx:a.eval x= .int .i64 p) (hy:a.eval y= .int .i64 q) (hb: -9223372036854775808≤p+q∧p+q≤9223372036854775807):ca P a o w (.int .i64 (p+q)):=by
  simp [ca,execOp,ho,hx,hy,eqGuard,binOp,Op.intArith];rw [IntWalk.i64_in _ hb]
theorem fv (ho:o.op= .binOp .sub t x y t') (hx:a.eval x= .int .i64 p) (hy:a.eval y= .int .i64 q) (hb: -9223372036854775808≤p - q∧p - q≤9223372036854775807):ca P a o w (.int .i64 (p - q)):=by
  simp [ca,execOp,ho,hx,hy,eqGuard,binOp,Op.intArith];rw [IntWalk.i64_in _ hb]
theorem uw (ho:o.op= .binOp .mul t x y t') (hx:a.eval x= .int .i64 p) (hy:a.eval y= .int .i64 q) (hb: -9223372036854775808≤p * q∧p * q≤9223372036854775807):ca P a o w (.int .i64 (p * q)):=by
  simp [ca,execOp,ho,hx,hy,eqGuard,binOp,Op.intArith];rw [IntWalk.i64_in _ hb]
theorem zh (ho:o.op= .binOp .add t x y t') (hx:a.eval x= .int k p) (hy:a.eval y= .int k q):ca P a o w (.int k (k.wrap (p+q))):=by
  simp [ca,execOp,ho,hx,hy,eqGuard,binOp,Op.intArith]
theorem zi (ho:o.op= .binOp .sub t x y t') (hx:a.eval x= .int k p) (hy:a.eval y= .int k q):ca P a o w (.int k (k.wrap (p - q))):=by
  simp [ca,execOp,ho,hx,hy,eqGuard,binOp,Op.intArith]
theorem Dp (ho:o.op= .binOp .rem t x y t') (hx:a.eval x= .int k p) (hy:a.eval y= .int k q) (hq:q≠0):ca P a o w (.int k (p.tmod q)):=by
  simp [ca,execOp,ho,hx,hy,eqGuard,binOp,Op.intDiv,hq]
theorem qH {src dst:TypeId} {ks kd:IntKind} (ho:o.op= .convert src dst x) (hs:P.underlying src=some (.int ks)) (hd:P.underlying dst=some (.int kd)) (hx:a.eval x= .int k p):ca P a o w (.int kd (kd.wrap p)):=by
  simp [ca,execOp,ho,hx,convert,run_underlying hs,run_underlying hd,Conv.intToInt]
theorem gw {src dst:TypeId} {ks kd:IntKind} (ho:o.op= .convert src dst x) (hs:P.underlying src=some (.int ks)) (hd:P.underlying dst=some (.int kd)) (hx:a.eval x= .int k p) (h0:0≤p) (h1:p≤9223372036854775807) (hk:kd= .i64∨kd= .u64):ca P a o w (.int kd p):=by
  have h:=qH (w:=w) ho hs hd hx;have e:kd.wrap p=p:=by
    rcases hk with rfl | rfl
    · exact IntWalk.i64_in _ (by omega)
    · simp [IntKind.wrap,IntKind.signed,IntKind.bits];omega
  rwa [e] at h
theorem pt (ho:o.op= .binOp .shr t x y t') (hx:a.eval x= .int .u64 p) (hy:a.eval y= .int .u64 1):ca P a o w (.int .u64 (p / 2)):=by
  have e:p.fdiv 2=p / 2:=kP p (by omega);simp [ca,execOp,ho,hx,hy,eqGuard,binOp,Op.shift,IntKind.bits];exact e
theorem dW {b:Bool} (ho:o.op= .unOp .not t x) (hx:a.eval x= .bool b):ca P a o w (.bool (!b)):=by
  simp [ca,execOp,ho,hx,Op.unary]
theorem wR {b c:Bool} (ht:P.underlying t=some .bool) (d:Nat):(Op.equalIn (d+1) t (.bool b) (.bool c)).run P w= .ok (b==c) w:=by
  simp [Op.equalIn,run_underlying ht]
theorem DM {b c:Bool} (ho:o.op= .binOp .eql t x y t') (ht:P.underlying t=some .bool) (hx:a.eval x= .bool b) (hy:a.eval y= .bool c):ca P a o w (.bool (b==c)):=by
  have h:=wR (P:=P) (w:=w) (b:=b) (c:=c) ht 9999;simp [ca,execOp,ho,hx,hy,eqGuard,binOp,Op.equal,Op.maxDepth,h]
theorem vN {b c:Bool} (ho:o.op= .binOp .neq t x y t') (ht:P.underlying t=some .bool) (hx:a.eval x= .bool b) (hy:a.eval y= .bool c):ca P a o w (.bool (!(b==c))):=by
  have h:=wR (P:=P) (w:=w) (b:=b) (c:=c) ht 9999;simp [ca,execOp,ho,hx,hy,eqGuard,binOp,Op.equal,Op.maxDepth,h]
theorem zj (hc:o.op= .call { callee:= .builtin .max,args:=#[x,y],argTypes:=#[t,t'] }) (hx:a.eval x= .int k p) (hy:a.eval y= .int k q):ca P a o w (.int k (max p q)):=by
  have e:(if q > p then q else p)=max p q:=by omega
  simp [ca,execOp,hc,resolve,invoke,builtin,Builtin.max_,Builtin.max2,hx,hy];exact e
theorem zk (hc:o.op= .call { callee:= .builtin .min,args:=#[x,y],argTypes:=#[t,t'] }) (hx:a.eval x= .int k p) (hy:a.eval y= .int k q):ca P a o w (.int k (min p q)):=by
  have e:(if q < p then q else p)=min p q:=by omega
  simp [ca,execOp,hc,resolve,invoke,builtin,Builtin.min_,Builtin.min2,hx,hy];exact e
end ints
section memory
variable {t e:TypeId} {x y:Operand} {p:Addr}
theorem nm {f off:Nat} {fs:Array Field} {fd:Field} {m:Nat} (ho:o.op= .fieldAddr t x f) (ht:P.underlying t=some (.struct fs)) (hf:fs[f]? =some fd) (hoff:fd.offset=off) (hz:∀w,(sizeOf fd.type).run P w= .ok (m+1) w) (hx:a.eval x= .pointer (some p)):
    ca P a o w (.pointer (some (p.add off))):=by
  subst hoff;simp [ca,execOp,ho,hx,Instr.fieldAt,run_underlying ht,hf,Instr.sureAddr,fieldPlace,hz]
theorem aL {k:IntKind} {i:Int} {v:Value} {n m:Nat} (ho:o.op= .indexAddr t x y) (ht:P.underlying t=some (.slice e)) (hz:∀w,(sizeOf e).run P w= .ok m w) (hx:a.eval x=v) (hv:mw v n) (hy:a.eval y= .int k i) (h0:0≤i) (h1:i < n):
    ca P a o w (.pointer (some ((dF v).add (i.toNat * m)))):=by
  rcases hv with ⟨_,rfl⟩ | ⟨b,cap,rfl,_⟩
  · omega
  · simp [ca,execOp,ho,hx,hy,Instr.indexAt,run_underlying ht,hz,asIntOf,h0,h1,dF]
theorem aB {v:Value} (ho:o.op= .load t x) (hz:∀w,(isAgg t).run P w= .ok false w) (hx:a.eval x= .pointer (some p)) (hc:w.cell? p=some v):ca P a o w v:=by
  simp [ca,execOp,ho,hx,Instr.loadAt,Instr.sureAddr,loadVar,hz,load,Sem.run,hc]
theorem lB (vs:List Value):∀(p:Addr) (i:Nat) (acc:Array Value),(∀j u,vs[j]? =some u→w.cell? (p.add (i+j))=some u)→
    (loadCellsFrom p i vs.length acc).run P w= .ok (acc++vs.toArray) w:=by
  induction vs with
  | nil => intro p i acc _; simp [loadCellsFrom]
  | cons v vs ih =>
    intro p i acc h;have h0:=h 0 v rfl;rw [jG] at h0;simp only [bD,loadCellsFrom];simp only [load,Sem.run_bind,Sem.run,h0,Result.andThen_ok];rw [ih p (i+1) (acc.push v) (fun j u hj=>by rw [show i+1+j=i+(j+1) by omega];exact h (j+1) u (by simpa using hj))];simp
theorem cN {vs:List Value} {m:Nat} (ho:o.op= .load t x) (hz:∀w,(isAgg t).run P w= .ok true w) (hm:∀w,(sizeOf t).run P w= .ok m w) (hx:a.eval x= .pointer (some p)) (hl:vs.length=m)
    (hc:∀j u,vs[j]? =some u→w.cell? (p.add j)=some u):ca P a o w (.agg vs.toArray):=by
  subst hl;simp only [ca,execOp,ho,hx,Instr.loadAt,Instr.sureAddr,loadVar,Sem.run_bind,Sem.run_pure,Result.andThen_ok,hz,if_true,hm,loadCells];rw [lB vs p 0 #[] (fun j u hj=>by rw [gJ];exact hc j u hj)];simp
theorem dh {v:Value} {n:Nat} (hc:o.op= .call { callee:= .builtin .len,args:=#[x],argTypes:=#[t] }) (ht:P.underlying t=some (.slice e)) (hx:a.eval x=v) (hv:mw v n):ca P a o w (.int .i64 n):=by
  rcases hv with ⟨rfl,rfl⟩ | ⟨b,cap,rfl,_⟩
  · simp [ca,execOp,hc,resolve,invoke,builtin,Builtin.len_,hx,run_underlying ht,goInt]
  · simp [ca,execOp,hc,resolve,invoke,builtin,Builtin.len_,hx,run_underlying ht,goInt]
theorem jM {s:ByteArray} (hc:o.op= .call { callee:= .builtin .len,args:=#[x],argTypes:=#[t] }) (ht:P.underlying t=some .string) (hx:a.eval x= .string s):ca P a o w (.int .i64 s.size):=by
  simp [ca,execOp,hc,resolve,invoke,builtin,Builtin.len_,hx,run_underlying ht,goInt]
theorem gI {vs:Array Value} {i:Nat} {v:Value} (ho:o.op= .extract x i) (hx:a.eval x= .tuple vs) (hi:vs[i]? =some v):ca P a o w v:=by
  simp [ca,execOp,ho,hx,Instr.extract,hi]
theorem my {parts:Array (Nat × Operand)} {fs:Array Field} {z:Value} {pl:Array (Nat × Nat)} {cells:Array Value} (ho:o.op= .build t parts) (ht:P.underlying t=some (.struct fs)) (hz:∀w,(zeroValue t).run P w= .ok z w)
    (hp:∀w,(fs.mapM fun f=>(do pure (f.offset,←sizeOf f.type):Sem (Nat × Nat))).run P w= .ok pl w) (hf:Instr.fill (pl[·]?) z.cells (parts.map fun (i,x)=>(i,a.eval x)).toList=some cells):ca P a o w (.agg cells):=by
  simp only [ca,execOp,ho,Instr.build,Sem.run_bind,hz,Result.andThen_ok,run_underlying ht,hp,hf];rfl
end memory
end
end
section
open Go.RowKit
structure Enc (α:Type) where
  cells:α→List Value
  sz:Nat
  pos:0 < sz
  len:∀x,(cells x).length=sz
  one:∀x u,u ∈ cells x→u.oneCell'=true
section lists
variable {α:Type}
def Enc.row (E:Enc α) (xs:List α):List Value:=xs.flatMap E.cells
theorem Enc.row_length (E:Enc α) (xs:List α):(E.row xs).length=xs.length * E.sz:=by
  induction xs with
  | nil => simp [Enc.row]
  | cons x xs ih =>
    simp only [Enc.row,List.flatMap_cons,bN,E.len,bD] at ih ⊢;rw [ih,fD];omega
theorem Enc.row_append (E:Enc α) (xs ys:List α):E.row (xs++ys)=E.row xs++E.row ys:=by
  simp [Enc.row]
theorem Enc.row_get (E:Enc α) {xs:List α} {i j:Nat} {x:α} (hx:xs[i]? =some x) (hj:j < E.sz):(E.row xs)[i * E.sz+j]? =(E.cells x)[j]? :=by
  induction xs generalizing i with
  | nil => simp at hx
  | cons y ys ih =>
    have e:E.row (y::ys)=E.cells y++E.row ys:=by simp [Enc.row]
    rw [e];cases i with
    | zero =>
      simp at hx;subst hx;rw [jc (by rw [E.len];omega)];congr 1;omega
    | succ i =>
      rw [iL (by rw [E.len,fD];omega),E.len];rw [show (i+1) * E.sz+j - E.sz=i * E.sz+j by rw [fD];omega];exact ih (by simpa using hx)
theorem Enc.row_one (E:Enc α) {xs:List α}:∀u ∈ E.row xs,u.oneCell'=true:=by
  intro u hu;simp only [Enc.row,List.mem_flatMap] at hu;obtain ⟨x,_,h⟩:=hu;exact E.one x u h
end lists
section mem
variable {α:Type} {E:Enc α} {w w':World} {v:Value} {xs:List α}
theorem mw.le {v:Value} {n:Nat} (h:mw v n):n≤maxLen:=by
  rcases h with ⟨_,rfl⟩ | ⟨b,cap,_,h1,h2⟩
  · exact dY _
  · omega
structure SlT (E:Enc α) (w:World) (v:Value) (xs:List α):Prop where
  sl:mw v xs.length
  cell:∀j u,(E.row xs)[j]? =some u→w.cell? ((dF v).add j)=some u
theorem SlT.nil (E:Enc α) (w:World):SlT E w (.slice none 0 0) ([]:List α):=⟨.inl ⟨rfl,rfl⟩,fun j u h=>by simp [Enc.row] at h⟩
theorem kX (p:Addr) (j:Nat):(p.add j).block=p.block:=by unfold Addr.add;split <;> rfl
theorem add_add (p:Addr) (i j:Nat):(p.add i).add j=p.add (i+j):=Deep.add_add p i j
theorem SlT.elem (h:SlT E w v xs) {i j:Nat} {x:α} {u:Value} (hx:xs[i]? =some x) (hu:(E.cells x)[j]? =some u):w.cell? (((dF v).add (i * E.sz)).add j)=some u:=by
  rw [add_add];have hj:j < E.sz:=by rw [←E.len x];exact (List.getElem?_eq_some_iff.1 hu).1
  exact h.cell _ u (by rw [E.row_get hx hj];exact hu)
theorem SlT.lt (h:SlT E w v xs) (hne:xs≠ []):(dF v).block < w.heap.size:=by
  obtain ⟨x,hx⟩:∃x,xs[0]? =some x:=by cases xs with | nil=>exact absurd rfl hne | cons x _=>exact ⟨x,rfl⟩
  obtain ⟨u,hu⟩:∃u,(E.cells x)[0]? =some u:=⟨(E.cells x)[0]'(by rw [E.len];exact E.pos),by simp⟩;have:=World.block_lt_of_cell? w _ (h.elem hx hu);rwa [kX,kX] at this
theorem SlT.keep {M:Nat→Prop} (h:SlT E w v xs) (he:Ext M w w') (hm:xs≠ []→¬M (dF v).block):SlT E w' v xs:=by
  refine ⟨h.sl,fun j u hj=> ?_⟩;have hne:xs≠ []:=fun e=>by subst e;simp [Enc.row] at hj
  exact he.cell_some (h.cell j u hj) (by rw [kX];exact hm hne)
def fI (E:Enc α) (ty:Nat) (w:World) (v:Value) (xs:List α):Prop:=w.ownsRow 0 ty E.sz v xs.length (E.row xs)
variable {ty:Nat}
theorem fI.nil (E:Enc α) (ty:Nat) (w:World):fI E ty w (.slice none 0 0) ([]:List α):=World.ownsRow_nil w 0 ty E.sz
theorem fI.sl (h:fI E ty w v xs):SlT E w v xs:=by
  refine ⟨?_,fun j u hj=> ?_⟩
  · rcases h.2 with ⟨h1,h2⟩ | ⟨g,cap,cur,hv,_,_,h3,h4,_⟩
    · exact .inl ⟨h1,h2⟩
    · exact .inr ⟨_,cap,hv,h3,h4⟩
  · rcases h.2 with ⟨h1,h2⟩ | ⟨g,cap,cur,hv,hb,hg,h3,h4,h5,h6⟩
    · have:xs=[]:=bA h2;subst this;simp [Enc.row] at hj
    · have:=World.ownsRow.cells h (g:=g) (by rw [hv];rfl) j u hj;rw [hv];exact this
theorem fI.keep {M:Nat→Prop} (h:fI E ty w v xs) (he:Ext M w w') (hm:∀g,v.ownBlock=some g→¬M g):fI E ty w' v xs:=by
  refine ⟨h.1,?_⟩;rcases h.2 with h | ⟨g,cap,cur,hv,hb,hg,r⟩
  · exact .inl h
  · exact .inr ⟨g,cap,cur,hv,hb,by rw [he.block g (Array.getElem?_eq_some_iff.1 hg).1 (hm g (by rw [hv];rfl))];exact hg,r⟩
theorem fI.lt (h:fI E ty w v xs):∀g,v.ownBlock=some g→g < w.heap.size:=fun g hg=>(World.ownsRow.lt h g hg).2
theorem fI.le (h:fI E ty w v xs):xs.length≤maxLen:=h.sl.sl.le
end mem
section specs
variable {N:aX}
def det (N:aX) (t:Nat) (v:Value):Spec N:=⟨none,t,fun _ _ u _=>u=v,fun _ _ _ _ _ _ _ _ h=>h,fun _=>True,fun _ _ _ _ _=>trivial⟩
def gdet (N:aX) (t:Nat) (pc:Prop) (v:Value):Spec N:=⟨none,t,fun _ _ u _=>(pc→u=v)∧(¬pc→u=undef),fun _ _ _ _ _ _ _ _ h=>h,fun _=>True,fun _ _ _ _ _=>trivial⟩
def gX (N:aX) (t:Nat):Spec N:=⟨none,t,fun _ _ _ _=>True,fun _ _ _ _ _ _ _ _ h=>h,fun _=>True,fun _ _ _ _ _=>trivial⟩
def dg {α:Type} (E:Enc α) (ty:Nat) (xs:List α) (T:aX) (v:Value) (w:World):Prop:=fI E ty w v xs∧∀g,v.ownBlock=some g→T g
theorem jN {N:aX} {α:Type} {E:Enc α} {ty:Nat} {xs:List α} (T:aX) (v:Value) (w w':World) (h:Ext (fun g=>N g∧¬T g) w w') (hr:dg E ty xs T v w):dg E ty xs T v w':=
  ⟨hr.1.keep h fun g hg hn=>hn.2 (hr.2 g hg),hr.2⟩
def own {α:Type} (E:Enc α) (ty:Nat) (N:aX) (tag t:Nat) (xs:List α):Spec N:=⟨some tag,t,fun _=>dg E ty xs,fun _ _ T v w w' _ h hr=>jN T v w w' h.less hr,fun _=>True,fun _ _ _ _ _=>trivial⟩
def iown {α:Type} (E:Enc α) (ty:Nat) (N:aX) (v:Value) (xs:List α):Ini N:=⟨fun _ T w=>dg E ty xs T v w,fun _ _ T w w' _ h=>jN T v w w' h.less⟩
def cE (ty:Nat) (cells:List Value) (T:aX) (v:Value) (w:World):Prop:=∃g,v= .pointer (some ⟨g,0,none⟩)∧g < w.heap.size∧T g∧w.heap[g]? =some (.cells cells.toArray ty (0,0))
theorem kY {N:aX} {ty:Nat} {cells:List Value} (T:aX) (v:Value) (w w':World) (h:Ext (fun g=>N g∧¬T g) w w') (hr:cE ty cells T v w):cE ty cells T v w':=by
  obtain ⟨g,hv,hlt,hT,hg⟩:=hr;exact ⟨g,hv,cG hlt h.size,hT,by rw [h.block g hlt (fun hn=>hn.2 hT)];exact hg⟩
def box (ty:Nat) (N:aX) (tag t:Nat) (cells:List Value):Spec N:=⟨some tag,t,fun _=>cE ty cells,fun _ _ T v w w' _ h hr=>kY T v w w' h.less hr,fun _=>True,fun _ _ _ _ _=>trivial⟩
def ibox (ty:Nat) (N:aX) (v:Value) (cells:List Value):Ini N:=⟨fun _ T w=>cE ty cells T v w,fun _ _ T w w' _ h=>kY T v w w' h.less⟩
theorem cE.cell {ty:Nat} {cells:List Value} {T:aX} {v:Value} {w:World} (h:cE ty cells T v w) {j:Nat} {u:Value} (hu:cells[j]? =some u):w.cell? ((dF v).add j)=some u:=by
  obtain ⟨g,rfl,_,_,hg⟩:=h;simp only [dF];have:((⟨g,0,none⟩:Addr).add j)=⟨g,j,none⟩:=by unfold Addr.add;split <;> simp_all
  rw [this];simp [World.cell?,hg,hu]
theorem cE.ptr {ty:Nat} {cells:List Value} {T:aX} {v:Value} {w:World} (h:cE ty cells T v w):v= .pointer (some (dF v)):=by
  obtain ⟨g,rfl,_⟩:=h;rfl
end specs
section obs
variable {N:aX} {P:Program} {ops:Array Oper} {sp:List (Spec N)} {In:Nat→Ini N} {a0:Act} {w0:World} {bf:List Nat} {j:Nat} {o:Oper} {s:Spec N} {done:Nat→Bool} {a:Act} {w:World} {τ:Nat→aX}
theorem Cx.v (c:Cx ops sp In a0 w0 bf j o done a w τ) (i:Nat) {t:Nat} {val:Value} (hs:sp[i]? =some (det N t val)) (hb:(bf.getD j 0).testBit i=true):aU a t=val:=
  c.J.det i _ hs rfl (c.pre i hb)
theorem Cx.g (c:Cx ops sp In a0 w0 bf j o done a w τ) (i:Nat) {t:Nat} {pc:Prop} {val:Value} (hs:sp[i]? =some (gdet N t pc val)) (hb:(bf.getD j 0).testBit i=true) (hpc:pc):aU a t=val:=
  (c.J.det i _ hs rfl (c.pre i hb)).1 hpc
theorem Cx.old (c:Cx ops sp In a0 w0 bf j o done a w τ) {t:Nat} {val:Value} (h0:aU a0 t=val) (h:wP ops bf j t=true):aU a t=val:=
  (c.J.old c.hj c.post t h).trans h0
theorem Cx.res (c:Cx ops sp In a0 w0 bf j o done a w τ) (i t:Nat) (s':Spec N) (hs:sp[i]? =some s') (hl:bF (sp.map (·.tag)) t j=some i) (hord:ju (sp.map (·.tag)) bf t j=true):s'.R (fh τ w) (τ t) (aU a s'.slot) w:=
  c.J.cur c.hj c.post c.pre t i s' hl hord hs
theorem Cx.ini (c:Cx ops sp In a0 w0 bf j o done a w τ) (t:Nat) (I:Ini N) (hI:In t=I) (hl:bF (sp.map (·.tag)) t j=none) (hord:ju (sp.map (·.tag)) bf t j=true):I.I (fh τ w) (τ t) w:=by
  rw [←hI];exact c.J.cur0 c.hj c.post t hl hord
theorem lC (hg:o.guard=none) (f:Nat→Option Bool):Region.wanted o f=true:=by simp [Region.wanted,hg]
theorem tu (hg:o.guard=none) (h:∀done a w τ,Cx ops sp In a0 w0 bf j o done a w τ→o.wp P a w (fun a' w'=>∃v,a'=a.put o.dst v∧oh s a' τ w w') (fun _ _ _=>False)):Ob ops sp In a0 w0 P bf j o s:=
  fun done a w τ c=>⟨fun _=>h done a w τ c,fun hw=>by rw [lC hg] at hw;cases hw⟩
theorem kZ {K:Act→World→Prop} {Q:Exit→Act→World→Prop} {v:Value} (h:ca P a o w v) (hK:K (a.put o.dst v) w):o.wp P a w K Q:=by
  unfold Oper.wp;rw [h];exact hK
theorem DN {t:Nat} {v:Value} (hs:s=B.det N t v) (hg:o.guard=none) (hd:o.dst=some t) (h:∀done a w τ,Cx ops sp In a0 w0 bf j o done a w τ→ca P a o w v):Ob ops sp In a0 w0 P bf j o s:=
  tu hg fun done a w τ c=>kZ (h done a w τ c) ⟨v,rfl,by
    subst hs;refine ⟨Ext.refl _ _,?_⟩;show aU (a.put o.dst v) t=v;rw [hd,dk a t t v (c.lt t hd),if_pos rfl]⟩
theorem BG {t gi tg:Nat} {want b:Bool} {pc:Prop} {v:Value} (hs:s=B.gdet N t pc v) (hg:o.guard=some (gi,want)) (hd:o.dst=some t) (hgd:((ops[gi]?).bind (·.dst))=some tg)
    (hgs:sp[gi]? =some (B.det N tg (.bool b))) (hb:(bf.getD j 0).testBit gi=true) (hpc:pc↔b=want)
    (h:∀done a w τ,Cx ops sp In a0 w0 bf j o done a w τ→pc→ca P a o w v):Ob ops sp In a0 w0 P bf j o s:=by
  intro done a w τ c;have hv:aU a tg= .bool b:=c.v gi hgs hb;have hw:Region.wanted o (yielded ops a.tmps)=(b==want):=by
    have:a.tmps[tg]? =some (.bool b):=by
      unfold aU at hv;rw [aY] at hv;cases h':a.tmps[tg]? with
      | none => rw [h'] at hv; simp [undef] at hv
      | some u => rw [h'] at hv; simp at hv; rw [hv]
    cases b <;> cases want <;> simp [Region.wanted,hg,yielded,hgd,this]
  subst hs;refine ⟨fun hw'=> ?_,fun hw'=> ?_⟩
  · rw [hw] at hw';have hp:pc:=hpc.2 (by simpa using hw');refine kZ (h done a w τ c hp) ⟨v,rfl,Ext.refl _ _,?_⟩;show (pc→aU (a.put o.dst v) t=v)∧(¬pc→aU (a.put o.dst v) t=undef);rw [hd,dk a t t v (c.lt t hd),if_pos rfl];exact ⟨fun _=>rfl,fun hn=>absurd hp hn⟩
  · rw [hw] at hw';have hp:¬pc:=fun hp=>by rw [hpc.1 hp] at hw';simp at hw'
    refine ⟨Ext.refl _ _,?_⟩;show (pc→aU (a.put o.dst undef) t=v)∧(¬pc→aU (a.put o.dst undef) t=undef);rw [hd,dk a t t undef (c.lt t hd),if_pos rfl];exact ⟨fun h=>absurd h hp,fun _=>rfl⟩
theorem zm {t gi tg:Nat} {want b:Bool} {pc pg:Prop} {v:Value} (hs:s=B.gdet N t pc v) (hg:o.guard=some (gi,want)) (hd:o.dst=some t) (hgd:((ops[gi]?).bind (·.dst))=some tg)
    (hgs:sp[gi]? =some (B.gdet N tg pg (.bool b))) (hb:(bf.getD j 0).testBit gi=true) (hpc:pc↔(pg∧b=want))
    (h:∀done a w τ,Cx ops sp In a0 w0 bf j o done a w τ→pc→ca P a o w v):Ob ops sp In a0 w0 P bf j o s:=by
  intro done a w τ c;have hv:=c.J.det gi _ hgs rfl (c.pre gi hb);have hv:(pg→aU a tg= .bool b)∧(¬pg→aU a tg=undef):=hv;subst hs;by_cases hpg:pg
  · have hv':=hv.1 hpg;have hw:Region.wanted o (yielded ops a.tmps)=(b==want):=by
      have:a.tmps[tg]? =some (.bool b):=by
        unfold aU at hv';rw [aY] at hv';cases h':a.tmps[tg]? with
        | none => rw [h'] at hv'; simp [undef] at hv'
        | some u => rw [h'] at hv'; simp at hv'; rw [hv']
      cases b <;> cases want <;> simp [Region.wanted,hg,yielded,hgd,this]
    refine ⟨fun hw'=> ?_,fun hw'=> ?_⟩
    · rw [hw] at hw';have hp:pc:=hpc.2 ⟨hpg,by simpa using hw'⟩;refine kZ (h done a w τ c hp) ⟨v,rfl,Ext.refl _ _,?_⟩;show (pc→aU (a.put o.dst v) t=v)∧(¬pc→aU (a.put o.dst v) t=undef);rw [hd,dk a t t v (c.lt t hd),if_pos rfl];exact ⟨fun _=>rfl,fun hn=>absurd hp hn⟩
    · rw [hw] at hw';have hp:¬pc:=fun hp=>by rw [(hpc.1 hp).2] at hw';simp at hw'
      refine ⟨Ext.refl _ _,?_⟩;show (pc→aU (a.put o.dst undef) t=v)∧(¬pc→aU (a.put o.dst undef) t=undef);rw [hd,dk a t t undef (c.lt t hd),if_pos rfl];exact ⟨fun h=>absurd h hp,fun _=>rfl⟩
  · have hv':=hv.2 hpg;have hw:Region.wanted o (yielded ops a.tmps)=false:=by
      have:∀bb,a.tmps[tg]? ≠some (.bool bb):=by
        intro bb h';unfold aU at hv';rw [aY,h'] at hv';simp [undef] at hv'
      have hy:yielded ops a.tmps gi=none:=by
        cases h':a.tmps[tg]? with
        | none => simp [yielded, hgd, h']
        | some u => cases u <;> first | exact absurd h' (this _) | simp [yielded, hgd, h']
      simp [Region.wanted,hg,hy]
    have hp:¬pc:=fun hp=>hpg (hpc.1 hp).1;refine ⟨fun hw'=>(by rw [hw] at hw';cases hw'),fun _=> ?_⟩;refine ⟨Ext.refl _ _,?_⟩;show (pc→aU (a.put o.dst undef) t=v)∧(¬pc→aU (a.put o.dst undef) t=undef);rw [hd,dk a t t undef (c.lt t hd),if_pos rfl];exact ⟨fun h=>absurd h hp,fun _=>rfl⟩
end obs
end
section
open Go.RowKit
section run
variable {P:Program} {w:World} {α:Type} {E:Enc α}
theorem iq (w:World) (g:Nat) (cs:Array Value):Ext (fun k=>k=g) w (w.setRow g cs):=
  ⟨rfl,rfl,rfl,by simp [World.setRow],fun k _ h=>setRow_other w g k cs h⟩
theorem om (t ty e:TypeId) (i:TypeInfo) (z:Value) (ht:P.underlying t=some (.slice e)) (hi:P.info? e=some i) (hz:i.zero=some z) (hsize:i.size=E.sz) (hzs:z.cells.size=E.sz)
    {v u:Value} {xs ys:List α} (hown:fI E e w v xs) (hu:SlT E w u ys) (h63:xs.length+ys.length≤maxLen) (hby:(xs.length+ys.length) * i.bytes≤140737488355328):
    ∃v' w',(Builtin.append_ #[t,t] ty #[v,u]).run P w= .ok v' w'∧fI E e w' v' (xs++ys)∧Ext (fun k=>v.ownBlock=some k) w w'∧(∀g,v'.ownBlock=some g→v.ownBlock=some g∨(w.heap.size≤g∧g < w'.heap.size)):=by
  have hy1:∀x ∈ E.row ys,x.oneCell'=true:=E.row_one;have hyl:(E.row ys).length=ys.length * i.size:=by rw [E.row_length,hsize]
  have hpos:=E.pos;simp only [maxLen] at h63;have hrow:E.row xs++E.row ys=E.row (xs++ys):=(E.row_append xs ys).symm;have newb:∀(old:Nat),fI E e (w.drew.alloc (.cells ((E.row xs).toArray++(E.row ys).toArray++Builtin.zeroCells z.cells (grownCap w (xs.length+ys.length) old e - (xs.length+ys.length))) e))
      (.slice (some ⟨w.heap.size,0,none⟩) (xs.length+ys.length) (grownCap w (xs.length+ys.length) old e)) (xs++ys):=by
    intro old;have hge:=grownCap_ge w (xs.length+ys.length) old e;have hcm:grownCap w (xs.length+ys.length) old e≤maxLen:=grownCap_le_maxLen w _ old e (by simp only [maxLen];omega);refine ⟨E.row_length _,.inr ⟨w.heap.size,_,_,by rw [bN],dY _,heap_alloc_new w.drew _,by rw [bN];exact hge,hcm,?_,?_⟩⟩
    · simp only [Array.size_append,jH,size_zeroCells,hzs,E.row_length,←fD];congr 1;omega
    · simp only [Array.toList_append,cY];rw [←cY,hrow,←E.row_length];exact nh
  have newe:∀(o:Obj),Ext (fun k=>v.ownBlock=some k) w (w.drew.alloc o):=fun o=>(Ext.refl _ w).drew.trans (Ext.alloc _ _ _);rcases hu.sl with ⟨rfl,hu0⟩ | ⟨b,cap,rfl,hle,hcap⟩
  · have hys:ys=[]:=bA hu0;subst hys;refine ⟨v,w,?_,by rw [eb];exact hown,Ext.refl _ _,fun g h=> .inl h⟩;have hl:=hown.sl.sl;rcases hl with ⟨rfl,_⟩ | ⟨b,cap,rfl,h1,h2⟩
    · simp [Builtin.append_,run_underlying ht,sizeOf,typeInfo,hi,Builtin.lenOf,Builtin.firstCells]
    · simp [Builtin.append_,run_underlying ht,sizeOf,typeInfo,hi,Builtin.lenOf,Builtin.firstCells,h1,storeCells]
  · have hcell:∀j x,(E.row ys)[j]? =some x→w.cell? (b.add j)=some x:=hu.cell;rcases hown.2 with ⟨rfl,hx0⟩ | ⟨g,c,cur,rfl,hb,hg,h1,h2,h3,h4⟩
    · have hxs:xs=[]:=bA hx0;subst hxs;by_cases h0:ys.length=0
      · have:ys=[]:=bA h0;subst this
        refine ⟨_,w,?_,hown,Ext.refl _ _,fun g h=> .inl h⟩;simp [Builtin.append_,run_underlying ht,sizeOf,typeInfo,hi,Builtin.lenOf,Builtin.firstCells,loadCells,loadCellsFrom]
      · have hr:=run_append_nil (P:=P) w t ty e i z ht hi hz b ys.length cap (E.row ys) hyl hcell (by omega) (by omega) (by simp at hby;omega);have hnew:=newb 0;simp only [bO,gJ,es,show (E.row ([]:List α))=[] from rfl,Array.empty_append] at hnew ⊢;refine ⟨_,_,hr,hnew,newe _,fun g hg=> .inr ?_⟩;simp only [Value.ownBlock,Option.some.injEq] at hg;subst hg;simp
    · by_cases hroom:xs.length+ys.length≤c
      · have hfit:xs.length * i.size+(E.row ys).length≤cur.size:=by rw [hyl,h3,hsize,←fD];exact gK _ hroom
        have hr:=run_append_room (P:=P) w t ty e i ht hi g xs.length c cur hg b ys.length cap (E.row ys) hyl hcell hy1 hroom hfit;refine ⟨_,_,hr,⟨E.row_length _,.inr ⟨g,c,_,by rw [bN],hb,setRow_heap w g cur _ e _ hg,by rw [bN];exact hroom,h2,?_,?_⟩⟩,?_,fun k hk=> .inl hk⟩
        · simp only [jH,bN,dp,dS,eS];omega
        · simp only [hsize];rw [h4,hrow,←E.row_length];exact nh
        · exact (iq w g _).mono fun k _ h=>by rw [h];rfl
      · have holds:∀j x,(E.row xs)[j]? =some x→w.cell? ((⟨g,0,none⟩:Addr).add j)=some x:=World.ownsRow.cells hown (g:=g) rfl;have hr:=run_append_grow (P:=P) w t ty e i z ht hi hz ⟨g,0,none⟩ xs.length c (E.row xs) (by rw [E.row_length,hsize]) holds b ys.length cap (E.row ys) hyl hcell (by omega) (by omega) (growslice_fits (by omega) hby);refine ⟨_,_,hr,newb c,newe _,fun k hk=> .inr ?_⟩;simp only [Value.ownBlock,Option.some.injEq] at hk;subst hk;simp
end run
def oI {α:Type} (E:Enc α) (ty:Nat) (w w':World) (v:Value) (xs:List α):Prop:=fI E ty w' v xs∧∀g,v.ownBlock=some g→w.heap.size≤g
section obs
variable {N:aX} {P:Program} {ops:Array Oper} {sp:List (Spec N)} {In:Nat→Ini N} {a0:Act} {w0:World} {bf:List Nat} {j:Nat} {o:Oper} {s:Spec N}
theorem ee {tag:Nat} (hg:o.guard=none) (ht:s.tag=some tag)
    (h:∀done a w τ,Cx ops sp In a0 w0 bf j o done a w τ→o.wp P a w (fun a' w'=>∃v,a'=a.put o.dst v∧Ext (τ tag) w w'∧∃T':aX,(∀g,T' g→τ tag g∨(w.heap.size≤g∧g < w'.heap.size))∧s.R (fh (ni τ tag T') w') T' (aU a' s.slot) w') (fun _ _ _=>False)):Ob ops sp In a0 w0 P bf j o s:=
  tu hg fun done a w τ c=>by
    have:=h done a w τ c;unfold oh;rw [ht];exact this
theorem fA {P:Program} {o:Oper} {a:Act} {w w':World} {K:Act→World→Prop} {Q:Exit→Act→World→Prop} {v:Value} (h:(execOp a.eval o).run P w= .ok (.value v) w') (hK:K (a.put o.dst v) w'):o.wp P a w K Q:=by
  unfold Oper.wp;rw [h];exact hK
theorem iu {P:Program} {o:Oper} {a:Act} {w w':World} {K:Act→World→Prop} {Q:Exit→Act→World→Prop} (h:(execOp a.eval o).run P w= .ok .skip w') (hK:K (a.put o.dst undef) w'):o.wp P a w K Q:=by
  unfold Oper.wp;rw [h];exact hK
theorem tA {ty:Nat} {cells:List Value} {w:World}:cE ty cells (fun g=>g=w.heap.size) (.pointer (some ⟨w.heap.size,0,none⟩)) (w.alloc (.cells cells.toArray ty)):=
  ⟨w.heap.size,rfl,by simp,rfl,heap_alloc_new w _⟩
theorem jh {ty tag t:Nat} {cells:List Value} {x:Operand} {v:Value} (hs:s=B.box ty N tag t cells) (hg:o.guard=none) (hd:o.dst=some t) (ho:o.op= .box ty x) (hc:v.cells=cells.toArray)
    (h:∀done a w τ,Cx ops sp In a0 w0 bf j o done a w τ→a.eval x=v):Ob ops sp In a0 w0 P bf j o s:=by
  subst hs;refine ee hg rfl fun done a w τ c=> ?_;have hr:(execOp a.eval o).run P w= .ok (.value (.pointer (some ⟨w.heap.size,0,none⟩))) (w.alloc (.cells cells.toArray ty)):=by
    simp only [execOp,ho,h done a w τ c,Instr.box,newVar,newRow,newObj,hc];rfl
  refine fA hr ⟨_,rfl,Ext.alloc _ _ _,fun g=>g=w.heap.size,fun g hg=> .inr (by subst hg;simp),?_⟩;show cE ty cells _ (aU (a.put o.dst _) t) _;rw [hd,dk a t t _ (c.lt t hd),if_pos rfl];exact tA
theorem cC {ty tag t:Nat} {cells:List Value} {z:Value} (hs:s=B.box ty N tag t cells) (hg:o.guard=none) (hd:o.dst=some t) (ho:o.op= .alloc ty) (hz:∀w,(zeroValue ty).run P w= .ok z w) (hc:z.cells=cells.toArray):Ob ops sp In a0 w0 P bf j o s:=by
  subst hs;refine ee hg rfl fun done a w τ c=> ?_;have hr:(execOp a.eval o).run P w= .ok (.value (.pointer (some ⟨w.heap.size,0,none⟩))) (w.alloc (.cells cells.toArray ty)):=by
    simp only [execOp,ho,Instr.alloc,Sem.run_bind,hz,Result.andThen_ok,newVar,newRow,newObj,hc];rfl
  refine fA hr ⟨_,rfl,Ext.alloc _ _ _,fun g=>g=w.heap.size,fun g hg=> .inr (by subst hg;simp),?_⟩;show cE ty cells _ (aU (a.put o.dst _) t) _;rw [hd,dk a t t _ (c.lt t hd),if_pos rfl];exact tA
theorem run_store {P:Program} {w:World} {t ty g off:Nat} {cur:Array Value} {v:Value} (hg:w.heap[g]? =some (.cells cur ty (0,0))) (hsz:∀w,(sizeOf t).run P w= .ok v.cells.size w) (hfit:off+v.cells.size≤cur.size) (h1:∀u ∈ v.cells.toList,u.oneCell'=true):
    (Instr.storeAt t (.pointer (some ⟨g,off,none⟩)) v).run P w= .ok () (w.setRow g (cur.toList.take off++v.cells.toList++cur.toList.drop (off+v.cells.size)).toArray):=by
  have h:=run_storeCells_at P g off ty v.cells.toList 0 cur w hg (by simpa using hfit) h1;simp only [jG,eS] at h;simp only [Instr.storeAt,Instr.sureAddr,Sem.run_bind,Sem.run_pure,Result.andThen_ok,storeVar,hsz,ne_eq,not_true_eq_false,if_false];exact h
theorem lD (g k:Nat):((⟨g,0,none⟩:Addr).add k)=⟨g,k,none⟩:=by unfold Addr.add;split <;> simp_all
theorem pW {ty tag t tt off:Nat} {cells cells':List Value} {x y:Operand} {v:Value} (hs:s=B.box ty N tag t cells') (hg:o.guard=none) (hd:o.dst=none) (ho:o.op= .store tt x y) (hsz:∀w,(sizeOf tt).run P w= .ok v.cells.size w)
    (hfit:off+v.cells.size≤cells.length) (h1:∀u ∈ v.cells.toList,u.oneCell'=true) (hc:cells'=cells.take off++v.cells.toList++cells.drop (off+v.cells.size))
    (hp:∀done a w τ,Cx ops sp In a0 w0 bf j o done a w τ→cE ty cells (τ tag) (aU a t) w∧a.eval x= .pointer (some ((dF (aU a t)).add off))∧a.eval y=v):Ob ops sp In a0 w0 P bf j o s:=by
  subst hs;refine ee hg rfl fun done a w τ c=> ?_;obtain ⟨⟨g,hv,hlt,hT,hgg⟩,hx,hy⟩:=hp done a w τ c;have hx':a.eval x= .pointer (some ⟨g,off,none⟩):=by rw [hx,hv];simp only [dF,lD]
  have hr:=run_store (P:=P) (t:=tt) (off:=off) hgg hsz (by simpa using hfit) h1;have hr':(execOp a.eval o).run P w= .ok .skip (w.setRow g cells'.toArray):=by
    simp only [execOp,ho,hx',hy,Sem.run_bind,hr,Result.andThen_ok];rw [hc];rfl
  refine iu hr' ⟨undef,rfl,(iq w g _).mono (fun k _ h=>by rw [h];exact hT),τ tag,fun g h=> .inl h,?_⟩;show cE ty cells' _ (aU (a.put o.dst _) t) _;rw [hd,jL];exact ⟨g,hv,by simp [World.setRow,hlt],hT,setRow_heap w g _ _ ty _ hgg⟩
theorem cQ {α:Type} {E:Enc α} {ty e tag t n:Nat} {xs:List α} {parts:Array (Nat × Operand)} {z:Value} {cells:Array Value} (hs:s=own E e N tag t xs) (hg:o.guard=none) (hd:o.dst=some t) (ho:o.op= .buildSlice ty n parts)
    (hty:P.underlying ty=some (.slice e)) (hsz:∀w,(sizeOf e).run P w= .ok E.sz w) (hz:∀w,(zeroValue e).run P w= .ok z w) (hn:n=xs.length) (hn0:0 < n) (hsmall:n * E.sz≤16777216)
    (hf:∀done a w τ,Cx ops sp In a0 w0 bf j o done a w τ→Instr.fill (fun i=>some (i * E.sz,E.sz)) ((Array.range (n * E.sz)).map (z.cells[· % z.cells.size]!)) (parts.map fun (i,x)=>(i,a.eval x)).toList=some cells)
    (hc:cells.toList=E.row xs):Ob ops sp In a0 w0 P bf j o s:=by
  subst hs;refine ee hg rfl fun done a w τ c=> ?_;have h2:¬(n * E.sz > 2 ^ 24):=by omega
  have h0:¬(n * E.sz=0):=by have:=Nat.mul_pos hn0 E.pos;omega
  have hr:(execOp a.eval o).run P w= .ok (.value (.slice (some ⟨w.heap.size,0,none⟩) n n)) (w.alloc (.cells cells e)):=by
    have hfz:=hf done a w τ c;simp only [execOp,ho,Instr.buildSlice,Sem.run_bind,run_underlying hty,Result.andThen_ok,hsz,h2,if_false,Sem.run_pure,h0,hz];rw [hfz];rfl
  have hl:cells.size=n * E.sz:=by rw [←eS,hc,E.row_length,hn]
  refine fA hr ⟨_,rfl,Ext.alloc _ _ _,fun g=>g=w.heap.size,fun g hg=> .inr (by subst hg;simp),?_⟩;show dg E e xs _ (aU (a.put o.dst _) t) _;rw [hd,dk a t t _ (c.lt t hd),if_pos rfl];refine ⟨⟨E.row_length xs,.inr ⟨w.heap.size,n,cells,by rw [hn],dY _,heap_alloc_new w _,by omega,?_,hl,?_⟩⟩,fun g h=> ?_⟩
  · have:=jx n E.pos;simp only [maxLen];omega
  · rw [hc,←E.row_length];exact lT
  · simp only [Value.ownBlock,Option.some.injEq] at h;exact h.symm
theorem nT {α:Type} {E:Enc α} {ty e tag t:Nat} (hs:s=own E e N tag t ([]:List α)) (hg:o.guard=none) (hd:o.dst=some t) (ho:o.op= .buildSlice ty 0 #[])
    (hty:P.underlying ty=some (.slice e)) (hsz:∀w,(sizeOf e).run P w= .ok E.sz w):Ob ops sp In a0 w0 P bf j o s:=by
  subst hs;refine ee hg rfl fun done a w τ c=> ?_;have hr:(execOp a.eval o).run P w= .ok (.value (.slice (some ⟨w.heap.size,0,none⟩) 0 0)) (w.alloc (.cells #[] e)):=by
    have e0:Array.range 0=#[]:=Array.eq_empty_of_size_eq_zero (by simp);simp [execOp,ho,Instr.buildSlice,run_underlying hty,hsz,Instr.fill,newRow,newObj,e0];rfl
  refine fA hr ⟨_,rfl,Ext.alloc _ _ _,fun g=>g=w.heap.size,fun g hg=> .inr (by subst hg;simp),?_⟩;show dg E e [] _ (aU (a.put o.dst _) t) _;rw [hd,dk a t t _ (c.lt t hd),if_pos rfl];refine ⟨⟨E.row_length [],.inr ⟨w.heap.size,0,#[],rfl,dY _,heap_alloc_new w _,bd _,dY _,by simp,by simp [Enc.row]⟩⟩,fun g h=> ?_⟩;simp only [Value.ownBlock,Option.some.injEq] at h;exact h.symm
theorem eO {α:Type} {E:Enc α} {ty e tag t t0:Nat} {xs ys:List α} {x y:Operand} {z:Value} {i:TypeInfo} (hs:s=own E e N tag t (xs++ys)) (hg:o.guard=none) (hd:o.dst=some t)
    (ho:o.op= .call { callee:= .builtin .append,args:=#[x,y],argTypes:=#[ty,ty] })
    (hty:P.underlying ty=some (.slice e)) (hi:P.info? e=some i) (hz:i.zero=some z) (hsize:i.size=E.sz) (hzs:z.cells.size=E.sz)
    (h63:xs.length+ys.length≤maxLen) (hby:(xs.length+ys.length) * i.bytes≤140737488355328)
    (hp:∀done a w τ,Cx ops sp In a0 w0 bf j o done a w τ→dg E e xs (τ tag) (aU a t0) w∧a.eval x=aU a t0∧∃u,a.eval y=u∧SlT E w u ys):Ob ops sp In a0 w0 P bf j o s:=by
  subst hs;refine ee hg rfl fun done a w τ c=> ?_;obtain ⟨⟨hown,hT⟩,hx,u,hy,hsl⟩:=hp done a w τ c;obtain ⟨v',w',hr,h2,h3,h4⟩:=om (P:=P) (E:=E) ty o.type e i z hty hi hz hsize hzs hown hsl h63 hby;have hr':(execOp a.eval o).run P w= .ok (.value v') w':=by
    simp only [execOp,ho,resolve,invoke,builtin,Sem.run_bind,Sem.run_pure,Result.andThen_ok,ec,bo,bJ,hx,hy,hr]
  refine fA hr' ⟨_,rfl,h3.mono (fun k _ h=>hT k h),fun g=>v'.ownBlock=some g,fun g hg=>(h4 g hg).elim (fun h=> .inl (hT g h)) (fun h=> .inr h),?_⟩;show dg E e (xs++ys) _ (aU (a.put o.dst _) t) _;rw [hd,dk a t t _ (c.lt t hd),if_pos rfl];exact ⟨h2,fun g h=>h⟩
theorem dO {tag t t0:Nat} {R:aX→aX→Value→World→Prop} {x:Operand} (ht:s.tag=some tag) (hsl:s.slot=t) (hR:s.R=R) (hg:o.guard=none) (hd:o.dst=some t) (ho:o.op= .move x∨o.op= .assign x)
    (hp:∀done a w τ,Cx ops sp In a0 w0 bf j o done a w τ→R (fh τ w) (τ tag) (aU a t0) w∧a.eval x=aU a t0):Ob ops sp In a0 w0 P bf j o s:=by
  refine ee hg ht fun done a w τ c=> ?_;obtain ⟨h1,hx⟩:=hp done a w τ c;have hr:ca P a o w (aU a t0):=by
    rcases ho with ho | ho
    · exact aM ho hx
    · exact aw ho hx
  refine fA hr ⟨_,rfl,Ext.refl _ _,τ tag,fun g h=> .inl h,?_⟩;rw [hsl,hd,dk a t t _ (c.lt t hd),if_pos rfl];have e1:ni τ tag (τ tag)=τ:=by
    funext t g;unfold ni;split
    · rename_i e;rw [e]
    · rfl
  rw [e1,hR];exact h1
def fi (P:Program) (a:Act) (o:Oper) (w:World) (f:FuncId) (args:Array Value):Prop:=(execOp a.eval o).run P w= .ok (.enter f args) w
theorem mz {a:Act} {w:World} {x:Operand} {as0:Array Operand} {ts:Array TypeId} {f:FuncId} {caps args:Array Value} (ho:o.op= .call { callee:= .value x,args:=as0,argTypes:=ts }) (hx:a.eval x= .func (.func f) #[] caps)
    (hcall:∀args w,(callFunc f args).run P w= .ok (.enter f args) w) (has:as0.map a.eval++caps=args):fi P a o w f args:=by
  subst has;simp only [fi,execOp,ho,resolve,hx,Deferred.ofValue,Sem.run_bind,Sem.run_pure,Result.andThen_ok,invoke,hcall];simp
theorem BH {t:Nat} {v:Value} (hs:s=B.det N t v) (hg:o.guard=none) (hd:o.dst=some t)
    (h:∀done a w τ,Cx ops sp In a0 w0 bf j o done a w τ→∃f args,fi P a o w f args∧Calls P f args w (fun e w'=>e= .returned v∧Ext bk w w')):Ob ops sp In a0 w0 P bf j o s:=
  tu hg fun done a w τ c=>by
    obtain ⟨f,args,h1,h2⟩:=h done a w τ c;subst hs;unfold Oper.wp;rw [h1];refine h2.mono fun e w' ⟨he,hx⟩=> ?_;subst he;refine ⟨v,rfl,hx,?_⟩;show aU (a.put o.dst v) t=v;rw [hd,dk a t t v (c.lt t hd),if_pos rfl]
theorem zn {t gi tg:Nat} {want b:Bool} {pc:Prop} {v:Value} (hs:s=B.gdet N t pc v) (hg:o.guard=some (gi,want)) (hd:o.dst=some t) (hgd:((ops[gi]?).bind (·.dst))=some tg)
    (hgs:sp[gi]? =some (B.det N tg (.bool b))) (hb:(bf.getD j 0).testBit gi=true) (hpc:pc↔b=want)
    (h:∀done a w τ,Cx ops sp In a0 w0 bf j o done a w τ→pc→∃f args,fi P a o w f args∧Calls P f args w (fun e w'=>e= .returned v∧Ext bk w w')):Ob ops sp In a0 w0 P bf j o s:=by
  intro done a w τ c;have hv:aU a tg= .bool b:=c.v gi hgs hb;have hw:Region.wanted o (yielded ops a.tmps)=(b==want):=by
    have:a.tmps[tg]? =some (.bool b):=by
      unfold aU at hv;rw [aY] at hv;cases h':a.tmps[tg]? with
      | none => rw [h'] at hv; simp [undef] at hv
      | some u => rw [h'] at hv; simp at hv; rw [hv]
    cases b <;> cases want <;> simp [Region.wanted,hg,yielded,hgd,this]
  subst hs;refine ⟨fun hw'=> ?_,fun hw'=> ?_⟩
  · rw [hw] at hw';have hp:pc:=hpc.2 (by simpa using hw');obtain ⟨f,args,h1,h2⟩:=h done a w τ c hp;unfold Oper.wp;rw [h1];refine h2.mono fun e w' ⟨he,hx⟩=> ?_;subst he;refine ⟨v,rfl,hx,?_⟩;show (pc→aU (a.put o.dst v) t=v)∧(¬pc→aU (a.put o.dst v) t=undef);rw [hd,dk a t t v (c.lt t hd),if_pos rfl];exact ⟨fun _=>rfl,fun hn=>absurd hp hn⟩
  · rw [hw] at hw';have hp:¬pc:=fun hp=>by rw [hpc.1 hp] at hw';simp at hw'
    refine ⟨Ext.refl _ _,?_⟩;show (pc→aU (a.put o.dst undef) t=v)∧(¬pc→aU (a.put o.dst undef) t=undef);rw [hd,dk a t t undef (c.lt t hd),if_pos rfl];exact ⟨fun h=>absurd h hp,fun _=>rfl⟩
theorem yc {t gi tg:Nat} {want b:Bool} {pc pg:Prop} {v:Value} (hs:s=B.gdet N t pc v) (hg:o.guard=some (gi,want)) (hd:o.dst=some t) (hgd:((ops[gi]?).bind (·.dst))=some tg)
    (hgs:sp[gi]? =some (B.gdet N tg pg (.bool b))) (hb:(bf.getD j 0).testBit gi=true) (hpc:pc↔(pg∧b=want))
    (h:∀done a w τ,Cx ops sp In a0 w0 bf j o done a w τ→pc→∃f args,fi P a o w f args∧Calls P f args w (fun e w'=>e= .returned v∧Ext bk w w')):Ob ops sp In a0 w0 P bf j o s:=by
  intro done a w τ c;have hv:(pg→aU a tg= .bool b)∧(¬pg→aU a tg=undef):=c.J.det gi _ hgs rfl (c.pre gi hb);subst hs;by_cases hpg:pg
  · have hv':=hv.1 hpg;have hw:Region.wanted o (yielded ops a.tmps)=(b==want):=by
      have:a.tmps[tg]? =some (.bool b):=by
        unfold aU at hv';rw [aY] at hv';cases h':a.tmps[tg]? with
        | none => rw [h'] at hv'; simp [undef] at hv'
        | some u => rw [h'] at hv'; simp at hv'; rw [hv']
      cases b <;> cases want <;> simp [Region.wanted,hg,yielded,hgd,this]
    refine ⟨fun hw'=> ?_,fun hw'=> ?_⟩
    · rw [hw] at hw';have hp:pc:=hpc.2 ⟨hpg,by simpa using hw'⟩;obtain ⟨f,args,h1,h2⟩:=h done a w τ c hp;unfold Oper.wp;rw [h1];refine h2.mono fun e w' ⟨he,hx⟩=> ?_;subst he;refine ⟨v,rfl,hx,?_⟩;show (pc→aU (a.put o.dst v) t=v)∧(¬pc→aU (a.put o.dst v) t=undef);rw [hd,dk a t t v (c.lt t hd),if_pos rfl];exact ⟨fun _=>rfl,fun hn=>absurd hp hn⟩
    · rw [hw] at hw';have hp:¬pc:=fun hp=>by rw [(hpc.1 hp).2] at hw';simp at hw'
      refine ⟨Ext.refl _ _,?_⟩;show (pc→aU (a.put o.dst undef) t=v)∧(¬pc→aU (a.put o.dst undef) t=undef);rw [hd,dk a t t undef (c.lt t hd),if_pos rfl];exact ⟨fun h=>absurd h hp,fun _=>rfl⟩
  · have hv':=hv.2 hpg;have hw:Region.wanted o (yielded ops a.tmps)=false:=by
      have:∀bb,a.tmps[tg]? ≠some (.bool bb):=by
        intro bb h';unfold aU at hv';rw [aY,h'] at hv';simp [undef] at hv'
      have hy:yielded ops a.tmps gi=none:=by
        cases h':a.tmps[tg]? with
        | none => simp [yielded, hgd, h']
        | some u => cases u <;> first | exact absurd h' (this _) | simp [yielded, hgd, h']
      simp [Region.wanted,hg,hy]
    have hp:¬pc:=fun hp=>hpg (hpc.1 hp).1;refine ⟨fun hw'=>(by rw [hw] at hw';cases hw'),fun _=>⟨Ext.refl _ _,?_⟩⟩;show (pc→aU (a.put o.dst undef) t=v)∧(¬pc→aU (a.put o.dst undef) t=undef);rw [hd,dk a t t undef (c.lt t hd),if_pos rfl];exact ⟨fun h=>absurd h hp,fun _=>rfl⟩
theorem jn {tag:Nat} (hg:o.guard=none) (ht:s.tag=some tag)
    (h:∀done a w τ,Cx ops sp In a0 w0 bf j o done a w τ→∃f args,fi P a o w f args∧Calls P f args w (fun e w'=>∃v,e= .returned v∧Ext (τ tag) w w'∧∃T':aX,(∀g,T' g→τ tag g∨(w.heap.size≤g∧g < w'.heap.size))∧s.R (fh (ni τ tag T') w') T' (aU (a.put o.dst v) s.slot) w')):Ob ops sp In a0 w0 P bf j o s:=
  ee hg ht fun done a w τ c=>by
    obtain ⟨f,args,h1,h2⟩:=h done a w τ c;unfold Oper.wp;rw [h1];refine h2.mono fun e w' ⟨v,he,h3⟩=> ?_;subst he;exact ⟨v,rfl,h3⟩
theorem qI {α:Type} {E:Enc α} {ty tag t:Nat} {xs:List α} (hs:s=own E ty N tag t xs) (hg:o.guard=none) (hd:o.dst=some t)
    (h:∀done a w τ,Cx ops sp In a0 w0 bf j o done a w τ→∃f args,fi P a o w f args∧Calls P f args w (fun e w'=>∃v,e= .returned v∧Ext bk w w'∧oI E ty w w' v xs)):Ob ops sp In a0 w0 P bf j o s:=by
  subst hs;refine jn (tag:=tag) hg rfl fun done a w τ c=> ?_;obtain ⟨f,args,h1,h2⟩:=h done a w τ c;refine ⟨f,args,h1,h2.mono fun e w' ⟨v,he,hx,ho⟩=>⟨v,he,hx.mono (fun _ _ h=>h.elim),fun g=>v.ownBlock=some g,fun g hg=> .inr ⟨ho.2 g hg,ho.1.lt g hg⟩,?_⟩⟩;show dg E ty xs _ (aU (a.put o.dst v) t) w';rw [hd,dk a t t v (c.lt t hd),if_pos rfl];exact ⟨ho.1,fun g h=>h⟩
end obs
structure St (N:aX) (W0:World) (n:Nat) (a:Act) (w:World) (τ:Nat→aX):Prop where
  defers:a.defers=[]
  size:a.tmps.size=n
  ext:Ext N W0 w
  big:∀k,w.heap.size≤k→N k
  disj:∀s t g,τ s g→τ t g→s=t
  bnd:∀t g,τ t g→N g∧g < w.heap.size
def eZ {N:aX} (l:List (Ini N)) (t:Nat):Ini N:=l.getD t (Ini.any N)
def qJ {N:aX} (τ:Nat→aX) (w:World):Nat→List (Ini N)→Prop
  | _, [] => True
  | k, i :: l => i.I (fh τ w) (τ k) w ∧ qJ τ w (k + 1) l
theorem nn {N:aX} {τ:Nat→aX} {w:World}:∀{l:List (Ini N)} {k:Nat},qJ τ w k l→∀t,(l.getD t (Ini.any N)).I (fh τ w) (τ (k+t)) w
  | [], _, _, t => trivial
  | i :: l, k, h, 0 => h.1
  | i :: l, k, h, t + 1 => by
    have:=nn h.2 t;rwa [show k+(t+1)=k+1+t by omega]
def jO (ops:List Oper) (t:Nat):Bool:=ops.all fun o=>o.dst !=some t
structure Fin {N:aX} (l:List Oper) (sp:List (Spec N)) (il:List (Ini N)) (a0 a:Act) (w:World) (τ:Nat→aX):Prop where
  same:∀t,jO l t=true→aU a t=aU a0 t
  det:∀(j:Nat) (s:Spec N),sp[j]? =some s→s.tag=none→s.R (fh τ w) bk (aU a s.slot) w
  res:∀(j t:Nat) (s:Spec N),sp[j]? =some s→s.tag=some t→bF (sp.map (·.tag)) t sp.length=some j→s.R (fh τ w) (τ t) (aU a s.slot) w
  ini:∀t,bF (sp.map (·.tag)) t sp.length=none→(eZ il t).I (fh τ w) (τ t) w
theorem Fin.old {N:aX} {l:List Oper} {sp:List (Spec N)} {il:List (Ini N)} {a0 a:Act} {w:World} {τ:Nat→aX} (h:Fin l sp il a0 a w τ) {t:Nat} {v:Value} (h0:aU a0 t=v) (hu:jO l t=true):aU a t=v:=(h.same t hu).trans h0
theorem Fin.v {N:aX} {l:List Oper} {sp:List (Spec N)} {il:List (Ini N)} {a0 a:Act} {w:World} {τ:Nat→aX} (h:Fin l sp il a0 a w τ) (j:Nat) {t:Nat} {v:Value} (hs:sp[j]? =some (B.det N t v)):aU a t=v:=h.det j _ hs rfl
theorem yd {N:aX} {n:Nat} {W0:World} {P:Program} {l:List Oper} {sp:List (Spec N)} (il:List (Ini N)) {a0:Act} {w0:World} {τ0:Nat→aX} {bf:List Nat} {id:Nat} {draw:Bool} (hm:P.follows .mixedOrders=true)
    {Q:Exit→Act→World→Prop} (hst:St N W0 n a0 w0 τ0) (hok:(mV l.toArray n&&qk l.toArray bf&&nk l.toArray bf (sp.map (·.slot)) (sp.map (·.tag)))=true)
    (hini:qJ τ0 w0 0 il) (obs:oi l.toArray sp (eZ il) a0 w0 P bf 0 l sp)
    (fin:∀a w τ,St N W0 n a w τ→Fin l sp il a0 a w τ→Q .normal a w):(Code.region id l.toArray draw).wp P Q a0 w0:=by
  have hlen:sp.length=l.length:=by
    simp only [am] at hok;have h3:=hok.2;unfold nk at h3;simp only [am,fC,beq_iff_eq] at h3;simpa using h3.1.1
  refine zg (N:=N) (ini:=eZ il) (τ:=τ0) hm (by rw [hst.size];exact hok) hst.big hst.disj hst.bnd (fun t=> ?_) obs fun done a w τ hd hJ=> ?_
  · have:=nn hini t;rwa [gJ] at this
  · refine fin a w τ ⟨hJ.defers.trans hst.defers,hJ.size.trans hst.size,hst.ext.trans hJ.ext,hJ.big,hJ.disj,hJ.bnd⟩ ⟨fun t ht=> ?_,fun j s hs ht=> ?_,fun j t s hs ht hl=> ?_,fun t hl=> ?_⟩
    · refine hJ.un t fun i o hi hdst=> ?_;exfalso;unfold jO at ht;rw [da] at ht;have:=ht o (gL (by simpa using hi));simp [hdst] at this
    · exact hJ.det j s hs ht (hd j (by rw [←hlen];exact (List.getElem?_eq_some_iff.1 hs).1))
    · obtain ⟨h1,h2,h3⟩:=kD hl;refine hJ.res j s t hs ht (hd j (by omega)) fun k s' hk hlt hkt=> ?_;exact absurd (by rw [jl hk];exact hkt) (h3 k hlt (List.getElem?_eq_some_iff.1 hk).1)
    · refine hJ.ini t fun k s' hk hkt=> ?_;exact absurd (by rw [jl hk];exact hkt) (kE hl k (List.getElem?_eq_some_iff.1 hk).1)
end
section
open Go.RowKit
def Nw (w:World):aX:=fun k=>w.heap.size≤k
theorem enter {P:Program} {f:FuncId} {fn:Func} {c:Code} {args:Array Value} {w:World} {R:Ending→World→Prop} {n:Nat} (hf:P.funcs[f]? =some fn) (hb:fn.body=some c) (hn:fn.ntmps=n) (hle:args.size≤n)
    (h:∀a τ,(∀i v,args[i]? =some v→aU a i=v)→St (Nw w) w n a w τ→c.wp P (bodyPost P fn R) a w):Calls P f args w R:=by
  refine calls_of_wp hf hb (h _ (fun _ _=>False) (fun i v hi=> ?_) ⟨rfl,?_,Ext.refl _ _,fun k hk=>hk,fun s t g h=>h.elim,fun t g h=>h.elim⟩)
  · unfold aU;have hlt:i < args.size:=(Array.getElem?_eq_some_iff.1 hi).1
    rw [aY,kQ hlt,hi];rfl
  · simp [hn];omega
theorem eD {P:Program} {f:FuncId} {fn:Func} {c:Code} {args:Array Value} {w:World} {R:Ending→World→Prop} {n:Nat} (T:aX) (hT:∀g,T g→g < w.heap.size) (hf:P.funcs[f]? =some fn) (hb:fn.body=some c) (hn:fn.ntmps=n) (hle:args.size≤n)
    (h:∀a τ,(∀i v,args[i]? =some v→aU a i=v)→τ 0=T→St (fun k=>T k∨w.heap.size≤k) w n a w τ→c.wp P (bodyPost P fn R) a w):Calls P f args w R:=by
  refine calls_of_wp hf hb (h _ (fun t g=>t=0∧T g) (fun i v hi=> ?_) (by funext g;simp) ⟨rfl,?_,Ext.refl _ _,fun k hk=> .inr hk,fun s t g h1 h2=>by rw [h1.1,h2.1],fun t g h=>⟨.inl h.2,hT g h.2⟩⟩)
  · unfold aU;have hlt:i < args.size:=(Array.getElem?_eq_some_iff.1 hi).1
    rw [aY,kQ hlt,hi];rfl
  · simp [hn];omega
theorem cO {P:Program} {fn:Func} {R:Ending→World→Prop} {a:Act} {w:World} {t:Nat} {v:Value} (hr:fn.results=#[.tmp t]) (hd:a.defers=[]) (hv:aU a t=v) (h:R (.returned v) w):bodyPost P fn R .ret a w:=
  bodyPost_ret (v:=v) (by rw [results_tmp hr];exact congrArg (fun v=>Result.ok v w) hv) hd h
theorem lx {P:Program} {fn:Func} {R:Ending→World→Prop} {a:Act} {w:World} (hr:fn.results=#[]) (hd:a.defers=[]) (h:R (.returned (.tuple #[])) w):bodyPost P fn R .normal a w:=
  bodyPost_end (results_none hr _ _ _) hd h
theorem la {P:Program} {fn:Func} {R:Ending→World→Prop} {a:Act} {w:World} {t t':Nat} {v v':Value} (hr:fn.results=#[.tmp t,.tmp t']) (hd:a.defers=[]) (hv:aU a t=v) (hv':aU a t'=v') (h:R (.returned (.tuple #[v,v'])) w):bodyPost P fn R .ret a w:=
  bodyPost_ret (v:= .tuple #[v,v']) (by rw [results_tmp2 hr];exact (by rw [←hv,←hv'];rfl)) hd h
theorem St.ext0 {n:Nat} {W:World} {a:Act} {w:World} {τ:Nat→aX} (h:St (Nw W) W n a w τ):Ext bk W w:=
  ⟨h.ext.os,h.ext.tape,h.ext.output,h.ext.size,fun k hk _=>h.ext.block k hk (fun hn:W.heap.size≤k=>by omega)⟩
theorem SlT.at {α:Type} {E:Enc α} {W w:World} {v:Value} {xs:List α} (h:SlT E W v xs) (he:Ext (Nw W) W w):SlT E w v xs:=
  h.keep he fun hne hn=>by have:=h.lt hne;simp only [Nw] at hn;omega
def nth {α:Type} [Inhabited α] (xs:List α) (i:Int):α:=xs.getD i.toNat default
theorem bh {α:Type} [Inhabited α] {xs:List α} {i:Int} (h0:0≤i) (h1:i < xs.length):xs[i.toNat]? =some (nth xs i):=by
  have:i.toNat < xs.length:=by omega
  simp [nth,List.getD,bw this]
theorem ny {α:Type} [Inhabited α] (xs:List α) (k:Nat):nth xs (k:Int)=xs.getD k default:=rfl
section
variable {N:aX} {P:Program} {ops:Array Oper} {sp:List (Spec N)} {In:Nat→Ini N} {a0:Act} {w0:World} {bf:List Nat} {j:Nat} {o:Oper} {done:Nat→Bool} {a:Act} {w:World} {τ:Nat→aX}
theorem Cx.ev (c:Cx ops sp In a0 w0 bf j o done a w τ) (i:Nat) {t:Nat} {val:Value} (hs:sp[i]? =some (B.det N t val)) (hb:(bf.getD j 0).testBit i=true):a.eval (.tmp t)=val:=c.v i hs hb
theorem Cx.eg (c:Cx ops sp In a0 w0 bf j o done a w τ) (i:Nat) {t:Nat} {pc:Prop} {val:Value} (hs:sp[i]? =some (B.gdet N t pc val)) (hb:(bf.getD j 0).testBit i=true) (hpc:pc):a.eval (.tmp t)=val:=c.g i hs hb hpc
theorem Cx.eo (c:Cx ops sp In a0 w0 bf j o done a w τ) {t:Nat} {val:Value} (h0:aU a0 t=val) (h:wP ops bf j t=true):a.eval (.tmp t)=val:=c.old h0 h
theorem Cx.ibox {ty:Nat} {v:Value} {cells:List Value} (c:Cx ops sp In a0 w0 bf j o done a w τ) (t:Nat) (hI:In t=B.ibox ty N v cells) (hl:bF (sp.map (·.tag)) t j=none) (hord:ju (sp.map (·.tag)) bf t j=true):cE ty cells (τ t) v w:=
  c.ini t _ hI hl hord
theorem Cx.iown {α:Type} {E:Enc α} {ty:Nat} {v:Value} {xs:List α} (c:Cx ops sp In a0 w0 bf j o done a w τ) (t:Nat) (hI:In t=B.iown E ty N v xs) (hl:bF (sp.map (·.tag)) t j=none) (hord:ju (sp.map (·.tag)) bf t j=true):dg E ty xs (τ t) v w:=
  c.ini t _ hI hl hord
theorem Cx.rbox {ty t slot:Nat} {cells:List Value} (c:Cx ops sp In a0 w0 bf j o done a w τ) (i:Nat) (hs:sp[i]? =some (B.box ty N t slot cells)) (hl:bF (sp.map (·.tag)) t j=some i) (hord:ju (sp.map (·.tag)) bf t j=true):cE ty cells (τ t) (aU a slot) w:=
  c.res i t _ hs hl hord
theorem Cx.rown {α:Type} {E:Enc α} {ty t slot:Nat} {xs:List α} (c:Cx ops sp In a0 w0 bf j o done a w τ) (i:Nat) (hs:sp[i]? =some (B.own E ty N t slot xs)) (hl:bF (sp.map (·.tag)) t j=some i) (hord:ju (sp.map (·.tag)) bf t j=true):dg E ty xs (τ t) (aU a slot) w:=
  c.res i t _ hs hl hord
end
section
variable {N:aX} {l:List Oper} {sp:List (Spec N)} {il:List (Ini N)} {a0 a:Act} {w:World} {τ:Nat→aX}
theorem Fin.rbox (h:Fin l sp il a0 a w τ) {ty t slot:Nat} {cells:List Value} (j:Nat) (hs:sp[j]? =some (B.box ty N t slot cells)) (hl:bF (sp.map (·.tag)) t sp.length=some j) {v:Value} (hv:aU a slot=v):cE ty cells (τ t) v w:=
  hv ▸ h.res j t _ hs rfl hl
theorem Fin.rown (h:Fin l sp il a0 a w τ) {α:Type} {E:Enc α} {ty t slot:Nat} {xs:List α} (j:Nat) (hs:sp[j]? =some (B.own E ty N t slot xs)) (hl:bF (sp.map (·.tag)) t sp.length=some j) {v:Value} (hv:aU a slot=v):dg E ty xs (τ t) v w:=
  hv ▸ h.res j t _ hs rfl hl
theorem Fin.ibox (h:Fin l sp il a0 a w τ) {ty:Nat} {v:Value} {cells:List Value} (t:Nat) (hI:eZ il t=B.ibox ty N v cells) (hl:bF (sp.map (·.tag)) t sp.length=none):cE ty cells (τ t) v w:=by
  have:=h.ini t hl;rw [hI] at this
  exact this
theorem Fin.iown (h:Fin l sp il a0 a w τ) {α:Type} {E:Enc α} {ty:Nat} {v:Value} {xs:List α} (t:Nat) (hI:eZ il t=B.iown E ty N v xs) (hl:bF (sp.map (·.tag)) t sp.length=none):dg E ty xs (τ t) v w:=by
  have:=h.ini t hl;rw [hI] at this
  exact this
end
theorem dg.cast {α:Type} {E:Enc α} {ty:Nat} {xs ys:List α} {T:aX} {v:Value} {w:World} (h:dg E ty xs T v w) (e:ys=xs):dg E ty ys T v w:=e ▸ h
theorem dg.nil {α:Type} (E:Enc α) (ty:Nat) (T:aX) (w:World):dg E ty ([]:List α) T (.slice none 0 0) w:=⟨fI.nil E ty w,fun g h=>by simp [Value.ownBlock] at h⟩
theorem dg.isSl {α:Type} {E:Enc α} {ty:Nat} {xs:List α} {T:aX} {v:Value} {w:World} (h:dg E ty xs T v w):mw v xs.length:=h.1.sl.sl
theorem SlT.le {α:Type} {E:Enc α} {xs:List α} {v:Value} {w:World} (h:SlT E w v xs):xs.length≤9223372036854775807:=h.sl.le
theorem dg.le {α:Type} {E:Enc α} {ty:Nat} {xs:List α} {T:aX} {v:Value} {w:World} (h:dg E ty xs T v w):xs.length≤9223372036854775807:=h.1.sl.sl.le
theorem bY {id:Nat} {Q:Exit→Act→World→Prop} {a:Act} {w:World} (h:Q .normal a w):Exit.inBlock id Q (.exit id) a w:=by simpa [Exit.inBlock] using h
theorem zp {id id':Nat} {Q:Exit→Act→World→Prop} {a:Act} {w:World} (hne:id'≠id) (h:Q (.exit id') a w):Exit.inBlock id Q (.exit id') a w:=by simpa [Exit.inBlock,hne] using h
theorem aZ {k:IntKind} {p q:Int} (h:p=q):Value.int k p=Value.int k q:=h ▸ rfl
section
variable {P:Program} {a:Act} {o:Oper} {w:World} {x:Operand} {ts:Array TypeId} {f:FuncId}
theorem mA (ho:o.op= .call { callee:= .value x,args:=#[],argTypes:=ts }) (hx:a.eval x= .func (.func f) #[] #[]) (hcall:∀args w,(callFunc f args).run P w= .ok (.enter f args) w):fi P a o w f #[]:=
  mz ho hx hcall (by simp)
theorem bI {x1:Operand} {v1:Value} (ho:o.op= .call { callee:= .value x,args:=#[x1],argTypes:=ts }) (hx:a.eval x= .func (.func f) #[] #[]) (hcall:∀args w,(callFunc f args).run P w= .ok (.enter f args) w) (h1:a.eval x1=v1):fi P a o w f #[v1]:=
  mz ho hx hcall (by simp [h1])
theorem bT {x1 x2:Operand} {v1 v2:Value} (ho:o.op= .call { callee:= .value x,args:=#[x1,x2],argTypes:=ts }) (hx:a.eval x= .func (.func f) #[] #[]) (hcall:∀args w,(callFunc f args).run P w= .ok (.enter f args) w) (h1:a.eval x1=v1) (h2:a.eval x2=v2):fi P a o w f #[v1,v2]:=
  mz ho hx hcall (by simp [h1,h2])
theorem jt {x1 x2 x3:Operand} {v1 v2 v3:Value} (ho:o.op= .call { callee:= .value x,args:=#[x1,x2,x3],argTypes:=ts }) (hx:a.eval x= .func (.func f) #[] #[]) (hcall:∀args w,(callFunc f args).run P w= .ok (.enter f args) w) (h1:a.eval x1=v1) (h2:a.eval x2=v2) (h3:a.eval x3=v3):fi P a o w f #[v1,v2,v3]:=
  mz ho hx hcall (by simp [h1,h2,h3])
theorem gC {x1 x2 x3 x4:Operand} {v1 v2 v3 v4:Value} (ho:o.op= .call { callee:= .value x,args:=#[x1,x2,x3,x4],argTypes:=ts }) (hx:a.eval x= .func (.func f) #[] #[]) (hcall:∀args w,(callFunc f args).run P w= .ok (.enter f args) w) (h1:a.eval x1=v1) (h2:a.eval x2=v2) (h3:a.eval x3=v3) (h4:a.eval x4=v4):fi P a o w f #[v1,v2,v3,v4]:=
  mz ho hx hcall (by simp [h1,h2,h3,h4])
theorem fl {x1 x2 x3 x4 x5:Operand} {v1 v2 v3 v4 v5:Value} (ho:o.op= .call { callee:= .value x,args:=#[x1,x2,x3,x4,x5],argTypes:=ts }) (hx:a.eval x= .func (.func f) #[] #[]) (hcall:∀args w,(callFunc f args).run P w= .ok (.enter f args) w) (h1:a.eval x1=v1) (h2:a.eval x2=v2) (h3:a.eval x3=v3) (h4:a.eval x4=v4) (h5:a.eval x5=v5):fi P a o w f #[v1,v2,v3,v4,v5]:=
  mz ho hx hcall (by simp [h1,h2,h3,h4,h5])
end
def dH:Enc (Int × Int):=⟨fun p=> [.int .i64 p.1,.int .i64 p.2],2,by decide,fun _=>rfl,fun x u hu=>by simp at hu;rcases hu with rfl | rfl <;> rfl⟩
def jE:Enc Int:=⟨fun p=> [.int .i64 p],1,by decide,fun _=>rfl,fun x u hu=>by simp at hu;rcases hu with rfl;rfl⟩
def gN:Enc ByteArray:=⟨fun p=> [.string p],1,by decide,fun _=>rfl,fun x u hu=>by simp at hu;rcases hu with rfl;rfl⟩
def dQ:Enc (ByteArray × ByteArray):=⟨fun p=> [.string p.1,.string p.2],2,by decide,fun _=>rfl,fun x u hu=>by simp at hu;rcases hu with rfl | rfl <;> rfl⟩
def ux (p:Int × Int):Value:= .agg #[.int .i64 p.1,.int .i64 p.2]
end
section
open Go.RowKit
def iN (l:List Value) (o:Nat) (vs:List Value):List Value:=l.take o++vs++l.drop (o+vs.length)
theorem pX {l r vs:List Value} {o:Nat} (h:o+vs.length≤l.length):iN (l++r) o vs=iN l o vs++r:=by
  unfold iN;rw [ic (by omega),List.drop_append_of_le_length (by omega)];simp
theorem uy {l r vs:List Value} {o:Nat}:iN (l++r) (l.length+o) vs=l++iN r o vs:=by
  unfold iN;rw [iV,lU];rw [bz (by omega),dI (by omega),show l.length+o - l.length=o by omega,show l.length+o+vs.length - l.length=o+vs.length by omega];simp
theorem Enc.row_set {α:Type} (E:Enc α) {xs:List α} {i off:Nat} {x x':α} {vs:List Value} (hx:xs[i]? =some x) (hl:off+vs.length≤E.sz) (hc:E.cells x'=iN (E.cells x) off vs):iN (E.row xs) (i * E.sz+off) vs=E.row (xs.set i x'):=by
  induction xs generalizing i with
  | nil => simp at hx
  | cons y ys ih =>
    have e:E.row (y::ys)=E.cells y++E.row ys:=by simp [Enc.row]
    cases i with
    | zero =>
      simp at hx;subst hx;rw [e,show 0 * E.sz+off=off by omega,pX (by rw [E.len];exact hl),←hc];simp [Enc.row]
    | succ i =>
      rw [e,show (i+1) * E.sz+off=(E.cells y).length+(i * E.sz+off) by rw [E.len,fD];omega,uy,ih (by simpa using hx)];simp [Enc.row]
theorem uz {l vs:List Value} {o n:Nat} (h:o+vs.length≤n) (hn:n≤l.length):(iN l o vs).take n=iN (l.take n) o vs:=by
  have e:l=l.take n++l.drop n:=(cw n l).symm;have hl:(l.take n).length=n:=by simp;omega
  conv=>lhs;rw [e]
  rw [pX (by omega)];have h2:(iN (l.take n) o vs).length=n:=by simp [iN];omega
  rw [ic (by omega),bz (by omega)]
section
variable {α:Type} {E:Enc α} {ty:Nat} {P:Program} {w:World}
theorem lK {v u:Value} {xs:List α} {i off tt:Nat} {x x':α} (h:fI E ty w v xs) (hx:xs[i]? =some x) (hsz:∀w,(sizeOf tt).run P w= .ok u.cells.size w) (hl:off+u.cells.size≤E.sz) (h1:∀c ∈ u.cells.toList,c.oneCell'=true)
    (hc:E.cells x'=iN (E.cells x) off u.cells.toList):
    ∃w',(Instr.storeAt tt (.pointer (some ((dF v).add (i * E.sz+off)))) u).run P w= .ok () w'∧fI E ty w' v (xs.set i x')∧Ext (fun k=>v.ownBlock=some k) w w':=by
  have hi:i < xs.length:=(List.getElem?_eq_some_iff.1 hx).1
  rcases h.2 with ⟨rfl,h0⟩ | ⟨g,cap,cur,rfl,hb,hg,h2,h3,h4,h5⟩
  · omega
  · have hmul:(i+1) * E.sz≤xs.length * E.sz:=gK _ hi;have hmul2:xs.length * E.sz≤cap * E.sz:=gK _ h2;rw [fD] at hmul;have hfit:i * E.sz+off+u.cells.size≤cur.size:=by omega
    have hr:=run_store (P:=P) (t:=tt) (off:=i * E.sz+off) hg hsz hfit h1;refine ⟨_,by simp only [dF,lD];exact hr,⟨by rw [E.row_length,cq],.inr ⟨g,cap,_,by rw [cq],hb,setRow_heap w g cur _ ty _ hg,by rw [cq];exact h2,h3,?_,?_⟩⟩,?_⟩
    · simp only [jH,bN,dp,dS,eS];omega
    · rw [cq,←E.row_set hx (by simpa using hl) hc,←h5];have:=uz (l:=cur.toList) (vs:=u.cells.toList) (o:=i * E.sz+off) (n:=xs.length * E.sz) (by simp;omega) (by simp;omega);rw [←this];simp [iN]
    · exact (iq w g _).mono fun k _ h=>by rw [h];rfl
end
section obs
variable {N:aX} {P:Program} {ops:Array Oper} {sp:List (Spec N)} {In:Nat→Ini N} {a0:Act} {w0:World} {bf:List Nat} {j:Nat} {o:Oper} {s:Spec N}
theorem fN {α:Type} {E:Enc α} {ty tag t tt i off:Nat} {xs:List α} {x x':α} {p q:Operand} {u:Value} (hs:s=own E ty N tag t (xs.set i x')) (hg:o.guard=none) (hd:o.dst=none) (ho:o.op= .store tt p q) (hsz:∀w,(sizeOf tt).run P w= .ok u.cells.size w)
    (hx:xs[i]? =some x) (hl:off+u.cells.size≤E.sz) (h1:∀c ∈ u.cells.toList,c.oneCell'=true) (hc:E.cells x'=iN (E.cells x) off u.cells.toList)
    (hp:∀done a w τ,Cx ops sp In a0 w0 bf j o done a w τ→dg E ty xs (τ tag) (aU a t) w∧a.eval p= .pointer (some ((dF (aU a t)).add (i * E.sz+off)))∧a.eval q=u):Ob ops sp In a0 w0 P bf j o s:=by
  subst hs;refine ee hg rfl fun done a w τ c=> ?_;obtain ⟨⟨hown,hT⟩,hp',hq⟩:=hp done a w τ c;obtain ⟨w',hr,h2,h3⟩:=lK (P:=P) (tt:=tt) hown hx hsz hl h1 hc;have hr':(execOp a.eval o).run P w= .ok .skip w':=by
    simp only [execOp,ho,hp',hq,Sem.run_bind,hr,Result.andThen_ok];rfl
  refine iu hr' ⟨undef,rfl,h3.mono (fun k _ h=>hT k h),τ tag,fun g h=> .inl h,?_⟩;show dg E ty (xs.set i x') _ (aU (a.put o.dst _) t) _;rw [hd,jL];exact ⟨h2,hT⟩
theorem ef {α:Type} {E:Enc α} {ty tag t d:Nat} {xs xs':List α} {v r:Value} (hs:s=own E ty N tag t xs') (hg:o.guard=none) (hd:o.dst=some d) (hne:t≠d)
    (h:∀done a w τ,Cx ops sp In a0 w0 bf j o done a w τ→∃f args,fi P a o w f args∧aU a t=v∧dg E ty xs (τ tag) v w∧(fI E ty w v xs→Calls P f args w (fun e w'=>e= .returned r∧fI E ty w' v xs'∧Ext (fun k=>v.ownBlock=some k) w w'))):Ob ops sp In a0 w0 P bf j o s:=by
  subst hs;refine jn (tag:=tag) hg rfl fun done a w τ c=> ?_;obtain ⟨f,args,h1,h2,h3,h4⟩:=h done a w τ c;refine ⟨f,args,h1,(h4 h3.1).mono fun e w' ⟨he,ho,hx⟩=>⟨r,he,hx.mono (fun k _ hk=>h3.2 k hk),τ tag,fun g h=> .inl h,?_⟩⟩;show dg E ty xs' _ (aU (a.put o.dst r) t) w';rw [hd,dk a d t r (c.lt d hd),if_neg hne,h2];exact ⟨ho,h3.2⟩
end obs
theorem zq {K:Act→World→Prop} {Q:Exit→Act→World→Prop} {a:Act} {w:World} (h:Q .ret a w):Exit.then K Q .ret a w:=h
theorem ye {id:Nat} {Q:Exit→Act→World→Prop} {a:Act} {w:World} (h:Q .ret a w):Exit.inBlock id Q .ret a w:=h
theorem bU {id:Nat} {K:Act→World→Prop} {Q:Exit→Act→World→Prop} {a:Act} {w:World} (h:Q (.exit id) a w):Exit.then K Q (.exit id) a w:=h
theorem St.extIn {n:Nat} {T:aX} {W:World} {a:Act} {w:World} {τ:Nat→aX} (h:St (fun k=>T k∨W.heap.size≤k) W n a w τ):Ext T W w:=
  h.ext.mono fun k hk hn=>hn.resolve_right (by omega)
theorem Dq {P:Program} {fn:Func} {R:Ending→World→Prop} {a:Act} {w:World} (hr:fn.results=#[]) (hd:a.defers=[]) (h:R (.returned (.tuple #[])) w):bodyPost P fn R .ret a w:=
  bodyPost_ret (v:= .tuple #[]) (results_none hr _ _ _) hd h
end
section
open Go.RowKit
def fS (v:Value) (lo hi m:Nat):Value:=match v with
  | .slice a _ cap => .slice (if cap = lo then a else a.map (·.add (lo * m))) (hi - lo) (cap - lo)
  | v => v
def isNil (v:Value):Bool:=match v with
  | .slice none _ _ => true
  | _ => false
section
variable {α:Type} {E:Enc α} {w:World} {v:Value} {xs:List α}
theorem Enc.row_drop (E:Enc α):∀(xs:List α) (n:Nat),E.row (xs.drop n)=(E.row xs).drop (n * E.sz)
  | xs, 0 => by simp
  | [], n + 1 => by simp [Enc.row]
  | x :: xs, n + 1 => by
    have e:E.row (x::xs)=E.cells x++E.row xs:=by simp [Enc.row]
    rw [List.drop_succ_cons,E.row_drop xs n,e,lU,E.len,dI (l:=E.cells x) (by rw [E.len,fD];omega),fD,es];congr 1;omega
theorem Enc.row_take (E:Enc α):∀(xs:List α) (n:Nat),E.row (xs.take n)=(E.row xs).take (n * E.sz)
  | xs, 0 => by simp [Enc.row]
  | [], n + 1 => by simp [Enc.row]
  | x :: xs, n + 1 => by
    have e:E.row (x::xs)=E.cells x++E.row xs:=by simp [Enc.row]
    have e':E.row (x::xs.take n)=E.cells x++E.row (xs.take n):=by simp [Enc.row]
    rw [List.take_succ_cons,e',E.row_take xs n,e,iV,E.len,bz (l:=E.cells x) (by rw [E.len,fD];omega),fD];congr 2;omega
theorem SlT.sub (h:SlT E w v xs) {lo hi:Nat} (h1:lo≤hi) (h2:hi≤xs.length):SlT E w (fS v lo hi E.sz) ((xs.drop lo).take (hi - lo)):=by
  have hl:((xs.drop lo).take (hi - lo)).length=hi - lo:=by simp;omega
  rcases h.sl with ⟨rfl,h0⟩ | ⟨b,cap,rfl,hc,hm⟩
  · obtain rfl:hi=0:=by omega
    obtain rfl:lo=0:=by omega
    exact ⟨.inl ⟨by simp [fS],by simp⟩,fun j u hj=>by simp [Enc.row] at hj⟩
  · refine ⟨.inr ⟨if cap=lo then b else b.add (lo * E.sz),cap - lo,?_,by rw [hl];omega,by omega⟩,fun j u hj=> ?_⟩
    · rw [hl];simp only [fS];split <;> rfl
    · have hne:¬cap=lo:=fun e=>by
        have:(xs.drop lo).take (hi - lo)=[]:=bA (by omega);rw [this] at hj;simp [Enc.row] at hj
      have hp:dF (fS (.slice (some b) xs.length cap) lo hi E.sz)=b.add (lo * E.sz):=by simp [fS,hne,dF]
      rw [hp,add_add];refine h.cell (lo * E.sz+j) u ?_;rw [E.row_take,E.row_drop] at hj;have hlt:j < (hi - lo) * E.sz:=by
        have:=(List.getElem?_eq_some_iff.1 hj).1;simp only [dp] at this;omega
      rw [fM hlt,ik] at hj;exact hj
theorem SlT.isNil (h:SlT E w v xs) (hn:isNil v=true):xs=[]:=by
  rcases h.sl with ⟨rfl,h0⟩ | ⟨b,cap,rfl,_⟩
  · exact bA h0
  · simp [B.isNil] at hn
end
section
variable {P:Program} {a:Act} {o:Oper} {w:World} {t e:TypeId} {x y z:Operand} {v:Value} {n m:Nat} {k k':IntKind} {p q:Int}
theorem sw (ho:o.op= .slice t x none (some y) none) (ht:P.underlying t=some (.slice e)) (hz:∀w,(sizeOf e).run P w= .ok m w) (hx:a.eval x=v) (hv:mw v n) (hy:a.eval y= .int k p) (h0:0≤p) (h1:p≤n):ca P a o w (fS v 0 p.toNat m):=by
  rcases hv with ⟨rfl,rfl⟩ | ⟨b,cap,rfl,hc,_⟩
  · obtain rfl:p=0:=by omega
    simp [ca,execOp,ho,hx,hy,Instr.sliceAt,Instr.slice,run_underlying ht,Instr.sliceBounds,Instr.sliceBound,asIntOf,hz,fS]
  · have h2:p≤cap:=by omega
    simp [ca,execOp,ho,hx,hy,Instr.sliceAt,Instr.slice,run_underlying ht,Instr.sliceBounds,Instr.sliceBound,asIntOf,hz,fS,h0,h2]
theorem pu (ho:o.op= .slice t x (some y) none none) (ht:P.underlying t=some (.slice e)) (hz:∀w,(sizeOf e).run P w= .ok m w) (hx:a.eval x=v) (hv:mw v n) (hy:a.eval y= .int k p) (h0:0≤p) (h1:p≤n):ca P a o w (fS v p.toNat n m):=by
  rcases hv with ⟨rfl,rfl⟩ | ⟨b,cap,rfl,hc,_⟩
  · obtain rfl:p=0:=by omega
    simp [ca,execOp,ho,hx,hy,Instr.sliceAt,Instr.slice,run_underlying ht,Instr.sliceBounds,Instr.sliceBound,asIntOf,hz,fS]
  · simp [ca,execOp,ho,hx,hy,Instr.sliceAt,Instr.slice,run_underlying ht,Instr.sliceBounds,Instr.sliceBound,asIntOf,hz,fS,h0,h1]
theorem kJ (ho:o.op= .slice t x (some y) (some z) none) (ht:P.underlying t=some (.slice e)) (hz:∀w,(sizeOf e).run P w= .ok m w) (hx:a.eval x=v) (hv:mw v n) (hy:a.eval y= .int k p) (hq:a.eval z= .int k' q) (h0:0≤p) (h1:p≤q) (h2:q≤n):ca P a o w (fS v p.toNat q.toNat m):=by
  rcases hv with ⟨rfl,rfl⟩ | ⟨b,cap,rfl,hc,_⟩
  · obtain rfl:p=0:=by omega
    obtain rfl:q=0:=by omega
    simp [ca,execOp,ho,hx,hy,hq,Instr.sliceAt,Instr.slice,run_underlying ht,Instr.sliceBounds,Instr.sliceBound,asIntOf,hz,fS]
  · have h3:q≤cap:=by omega
    have h4:0≤q:=by omega
    have h5:p≤max q 0:=by omega
    simp [ca,execOp,ho,hx,hy,hq,Instr.sliceAt,Instr.slice,run_underlying ht,Instr.sliceBounds,Instr.sliceBound,asIntOf,hz,fS,h0,h3,h4,h1];intro h6;omega
theorem BI {t':TypeId} (ho:o.op= .binOp .eql t x (.const (.slice none 0 0)) t') (ht:P.underlying t=some (.slice e)) (hx:a.eval x=v) (hv:mw v n):ca P a o w (.bool (isNil v)):=by
  rcases hv with ⟨rfl,rfl⟩ | ⟨b,cap,rfl,hc,_⟩
  · have:=Lib.run_eql_slice_nil (P:=P) w t e none 0 0 0 0 ht;simp [ca,execOp,ho,hx,eqGuard,isNil,show a.eval (.const (.slice none 0 0))= .slice none 0 0 from rfl];simp only [this,Result.andThen_ok];rfl
  · have:=Lib.run_eql_slice_nil (P:=P) w t e (some b) n cap 0 0 ht;simp [ca,execOp,ho,hx,eqGuard,isNil,show a.eval (.const (.slice none 0 0))= .slice none 0 0 from rfl];simp only [this,Result.andThen_ok];rfl
theorem qK {k0:Nat} (ho:o.op= .indexAddr t x y) (ht:P.underlying t=some (.array n e)) (hz:∀w,(sizeOf e).run P w= .ok m w) {ad:Addr} (hx:a.eval x= .pointer (some ad)) (hy:a.eval y= .int k (k0:Int)) (h0:(0:Int)≤(k0:Int)) (h1:(k0:Int) < n):
    ca P a o w (.pointer (some (ad.add (k0 * m)))):=by
  simp [ca,execOp,ho,hx,hy,Instr.indexAt,Instr.sureAddr,run_underlying ht,hz,asIntOf,h0,h1];intro h;omega
theorem fX {l vs:List Value} {o n:Nat} (hv:vs=(l.drop o).take n) {j:Nat} {u:Value} (hj:vs[j]? =some u):l[o+j]? =some u:=by
  subst hv;have hlt:j < n:=by
    have:=(List.getElem?_eq_some_iff.1 hj).1;simp only [dp] at this;omega
  rw [fM hlt,ik] at hj;exact hj
theorem ca.isB {b b':Bool} (h:ca P a o w (.bool b)) (e:b=b'):ca P a o w (.bool b'):=e ▸ h
end
section
variable {N:aX} {W:World} {n:Nat} {a:Act} {w:World} {τ:Nat→aX}
def retag (τ:Nat→aX) (l:List (Nat × Nat)) (t:Nat):aX:=match l.lookup t with
  | some j => τ j
  | none => bk
theorem qL {l:List (Nat × Nat)} {t j:Nat} (h:l.lookup t=some j):(t,j) ∈ l:=by
  induction l with
  | nil => simp at h
  | cons p l ih =>
    obtain ⟨a,b⟩:=p;simp only [List.lookup_cons] at h;split at h
    · rename_i heq;simp at heq h;subst heq;subst h;exact List.mem_cons_self ..
    · exact List.mem_cons_of_mem _ (ih h)
theorem oo {l:List (Nat × Nat)} {t g:Nat} (h:retag τ l t g):∃j,l.lookup t=some j∧τ j g:=by
  unfold retag at h;cases hj:l.lookup t with
  | none => rw [hj] at h; exact h.elim
  | some j => rw [hj] at h; exact ⟨j, rfl, h⟩
theorem St.retag (h:St N W n a w τ) (l:List (Nat × Nat)) (hl:(l.all fun p=>l.all fun q=>p.2 !=q.2 || p.1==q.1)=true):St N W n a w (retag τ l):=by
  refine ⟨h.defers,h.size,h.ext,h.big,fun s t g h1 h2=> ?_,fun t g h1=> ?_⟩
  · obtain ⟨j,hj,h1⟩:=oo h1;obtain ⟨j',hj',h2⟩:=oo h2;have e:=h.disj j j' g h1 h2;subst e;rw [da] at hl;have:=hl _ (qL hj);rw [da] at this
    have:=this _ (qL hj')
    simpa using this
  · obtain ⟨j,hj,h1⟩:=oo h1;exact h.bnd _ g h1
end
section
variable {N:aX} {P:Program} {ops:Array Oper} {sp:List (Spec N)} {In:Nat→Ini N} {a0:Act} {w0:World} {bf:List Nat} {j:Nat} {o:Oper} {s:Spec N}
theorem BJ {gi tg:Nat} {want:Bool} (hg:o.guard=some (gi,want)) (hgd:((ops[gi]?).bind (·.dst))=some tg) (hgs:sp[gi]? =some (B.det N tg (.bool want))) (hb:(bf.getD j 0).testBit gi=true)
    (h:Ob ops sp In a0 w0 P bf j { o with guard:=none } s):Ob ops sp In a0 w0 P bf j o s:=by
  intro done a w τ c;have c':Cx ops sp In a0 w0 bf j { o with guard:=none } done a w τ:=⟨c.J,c.hj,c.pre,c.post,c.lt⟩;have hw:=(h done a w τ c').1 (lC rfl _);refine ⟨fun _=>hw,fun hn=> ?_⟩;have hv:aU a tg= .bool want:=c.v gi hgs hb;have:a.tmps[tg]? =some (.bool want):=by
    unfold aU at hv;rw [aY] at hv;cases h':a.tmps[tg]? with
    | none => rw [h'] at hv; simp [undef] at hv
    | some u => rw [h'] at hv; simp at hv; rw [hv]
  exfalso;cases want <;> simp [Region.wanted,hg,yielded,hgd,this] at hn
theorem BK {gi tg t:Nat} {want b:Bool} (hs:s=gX N t) (hg:o.guard=some (gi,want)) (hgd:((ops[gi]?).bind (·.dst))=some tg) (hgs:sp[gi]? =some (B.det N tg (.bool b))) (hb:(bf.getD j 0).testBit gi=true) (hne:b≠want):Ob ops sp In a0 w0 P bf j o s:=by
  intro done a w τ c;subst hs;have hv:aU a tg= .bool b:=c.v gi hgs hb;have:a.tmps[tg]? =some (.bool b):=by
    unfold aU at hv;rw [aY] at hv;cases h':a.tmps[tg]? with
    | none => rw [h'] at hv; simp [undef] at hv
    | some u => rw [h'] at hv; simp at hv; rw [hv]
  refine ⟨fun hn=> ?_,fun _=>⟨Ext.refl _ _,au⟩⟩;exfalso;cases want <;> cases b <;> simp [Region.wanted,hg,yielded,hgd,this] at hn hne
end
theorem qM {P:Program} {w:World} {ty:Nat} {cells:List Value} {T:aX} {v:Value} {m:Nat} (hb:cE ty cells T v w) (hz:∀w,(isAgg ty).run P w= .ok true w) (hm:∀w,(sizeOf ty).run P w= .ok m w) (hl:cells.length=m):
    (loadVar ty (dF v)).run P w= .ok (.agg cells.toArray) w:=by
  subst hl;simp only [loadVar,Sem.run_bind,hz,Result.andThen_ok,if_true,hm,loadCells];rw [lB cells (dF v) 0 #[] (fun j u hj=>by rw [gJ];exact hb.cell hj)];simp
theorem qN {P:Program} {fn:Func} {R:Ending→World→Prop} {a:Act} {w:World} {t ty m:Nat} {v:Value} {cells:List Value} {T:aX} (hr:fn.results=#[.cell t ty]) (hd:a.defers=[]) (hv:aU a t=v) (hb:cE ty cells T v w)
    (hz:∀w,(isAgg ty).run P w= .ok true w) (hm:∀w,(sizeOf ty).run P w= .ok m w) (hl:cells.length=m) (h:R (.returned (.agg cells.toArray)) w):bodyPost P fn R .ret a w:=
  bodyPost_ret (v:= .agg cells.toArray) (by
    have hp:=hb.ptr
    have hv':(a.tmps[t]?).getD undef= .pointer (some (dF v)):=by rw [←aY];exact hv.trans hp
    simp only [results,hr]
    simp [hv',asAddr,qM hb hz hm hl]) hd h
theorem ez {P:Program} {fn:Func} {R:Ending→World→Prop} {a:Act} {w:World} {t t' ty m:Nat} {v v':Value} {cells:List Value} {T:aX} (hr:fn.results=#[.cell t ty,.tmp t']) (hd:a.defers=[]) (hv:aU a t=v) (hv2:aU a t'=v') (hb:cE ty cells T v w)
    (hz:∀w,(isAgg ty).run P w= .ok true w) (hm:∀w,(sizeOf ty).run P w= .ok m w) (hl:cells.length=m) (h:R (.returned (.tuple #[.agg cells.toArray,v'])) w):bodyPost P fn R .ret a w:=
  bodyPost_ret (v:= .tuple #[.agg cells.toArray,v']) (by
    have hp:=hb.ptr
    have hv':(a.tmps[t]?).getD undef= .pointer (some (dF v)):=by rw [←aY];exact hv.trans hp
    have hv3:(a.tmps[t']?).getD undef=v':=by rw [←aY];exact hv2
    simp only [results,hr]
    simp [hv',hv3,asAddr,qM hb hz hm hl]) hd h
def ES {α:Type} (E:Enc α) (ty:Nat) (pc:Prop) (xs:List α) (T:aX) (v:Value) (w:World):Prop:=pc→dg E ty xs T v w
def gown {α:Type} (pc:Prop) (E:Enc α) (ty:Nat) (N:aX) (tag t:Nat) (xs:List α):Spec N:=⟨some tag,t,fun _=>ES E ty pc xs,fun _ _ T v w w' _ h hr hp=>jN T v w w' h.less (hr hp),fun _=>True,fun _ _ _ _ _=>trivial⟩
section
variable {N:aX} {P:Program} {ops:Array Oper} {sp:List (Spec N)} {In:Nat→Ini N} {a0:Act} {w0:World} {bf:List Nat} {j:Nat} {o:Oper} {s:Spec N} {done:Nat→Bool} {a:Act} {w:World} {τ:Nat→aX}
theorem tB {α:Type} {E:Enc α} {ty tag t gi tg:Nat} {want b:Bool} {pc:Prop} {xs:List α} (hs:s=B.gown pc E ty N tag t xs) (hg:o.guard=some (gi,want)) (hd:o.dst=some t) (hgd:((ops[gi]?).bind (·.dst))=some tg)
    (hgs:sp[gi]? =some (B.det N tg (.bool b))) (hb:(bf.getD j 0).testBit gi=true) (hpc:pc↔b=want)
    (h:pc→Ob ops sp In a0 w0 P bf j { o with guard:=none } (own E ty N tag t xs)):Ob ops sp In a0 w0 P bf j o s:=by
  intro done a w τ c;subst hs;have c':Cx ops sp In a0 w0 bf j { o with guard:=none } done a w τ:=⟨c.J,c.hj,c.pre,c.post,c.lt⟩;have hv:aU a tg= .bool b:=c.v gi hgs hb;have hw:Region.wanted o (yielded ops a.tmps)=(b==want):=by
    have:a.tmps[tg]? =some (.bool b):=by
      unfold aU at hv;rw [aY] at hv;cases h':a.tmps[tg]? with
      | none => rw [h'] at hv; simp [undef] at hv
      | some u => rw [h'] at hv; simp at hv; rw [hv]
    cases b <;> cases want <;> simp [Region.wanted,hg,yielded,hgd,this]
  refine ⟨fun hw'=> ?_,fun hw'=> ?_⟩
  · rw [hw] at hw';have hp:pc:=hpc.2 (by simpa using hw');have hw2:o.wp P a w (fun a' w'=>∃v,a'=a.put o.dst v∧oh (own E ty N tag t xs) a' τ w w') (fun _ _ _=>False):=(h hp done a w τ c').1 (lC rfl _);refine Oper.wp_mono ?_ hw2;intro a' w' hK;obtain ⟨v,ha,hx,T',hT,hr⟩:=hK;exact ⟨v,ha,hx,T',hT,fun _=>hr⟩
  · rw [hw] at hw';have hp:¬pc:=fun hp=>by rw [hpc.1 hp] at hw';simp at hw'
    exact ⟨Ext.refl _ _,τ tag,fun g h=> .inl h,fun hp'=>absurd hp' hp⟩
theorem Cx.rgown {α:Type} {E:Enc α} {ty t slot:Nat} {pc:Prop} {xs:List α} (c:Cx ops sp In a0 w0 bf j o done a w τ) (i:Nat) (hs:sp[i]? =some (B.gown pc E ty N t slot xs)) (hl:bF (sp.map (·.tag)) t j=some i) (hord:ju (sp.map (·.tag)) bf t j=true) (hp:pc):dg E ty xs (τ t) (aU a slot) w:=
  c.res i t _ hs hl hord hp
end
def BL {α:Type} (E:Enc α) (ty:Nat) (xs:List α) (k:Value) (T:aX) (v:Value) (w:World):Prop:=∃u,v= .tuple #[u,k]∧dg E ty xs T u w
def tup {α:Type} (E:Enc α) (ty:Nat) (N:aX) (tag t:Nat) (xs:List α) (k:Value):Spec N:=⟨some tag,t,fun _=>BL E ty xs k,fun _ _ T v w w' _ h ⟨u,hv,hr⟩=>⟨u,hv,jN T u w w' h.less hr⟩,fun v=>∃u,v= .tuple #[u,k],fun _ _ _ _ ⟨u,hv,_⟩=>⟨u,hv⟩⟩
section
variable {N:aX} {P:Program} {ops:Array Oper} {sp:List (Spec N)} {In:Nat→Ini N} {a0:Act} {w0:World} {bf:List Nat} {j:Nat} {o:Oper} {s:Spec N} {done:Nat→Bool} {a:Act} {w:World} {τ:Nat→aX}
theorem vO {α:Type} {E:Enc α} {ty tag t:Nat} {xs:List α} {k:Value} (hs:s=tup E ty N tag t xs k) (hg:o.guard=none) (hd:o.dst=some t)
    (h:∀done a w τ,Cx ops sp In a0 w0 bf j o done a w τ→∃f args,fi P a o w f args∧Calls P f args w (fun e w'=>∃v,e= .returned (.tuple #[v,k])∧Ext bk w w'∧oI E ty w w' v xs)):Ob ops sp In a0 w0 P bf j o s:=by
  subst hs;refine jn (tag:=tag) hg rfl fun done a w τ c=> ?_;obtain ⟨f,args,h1,h2⟩:=h done a w τ c;refine ⟨f,args,h1,h2.mono fun e w' ⟨v,he,hx,ho⟩=>⟨.tuple #[v,k],he,hx.mono (fun _ _ h=>h.elim),fun g=>v.ownBlock=some g,fun g hg=> .inr ⟨ho.2 g hg,ho.1.lt g hg⟩,?_⟩⟩;show BL E ty xs k _ (aU (a.put o.dst _) t) w';rw [hd,dk a t t _ (c.lt t hd),if_pos rfl];exact ⟨v,rfl,ho.1,fun g h=>h⟩
theorem Cx.rtup {α:Type} {E:Enc α} {ty t slot:Nat} {xs:List α} {k:Value} (c:Cx ops sp In a0 w0 bf j o done a w τ) (i:Nat) (hs:sp[i]? =some (B.tup E ty N t slot xs k)) (hl:bF (sp.map (·.tag)) t j=some i) (hord:ju (sp.map (·.tag)) bf t j=true):BL E ty xs k (τ t) (aU a slot) w:=
  c.res i t _ hs hl hord
theorem zt {α:Type} {E:Enc α} {ty tag t t0:Nat} {xs:List α} {k:Value} (hs:s=own E ty N tag t xs) (hg:o.guard=none) (hd:o.dst=some t) (ho:o.op= .extract (.tmp t0) 0)
    (hp:∀done a w τ,Cx ops sp In a0 w0 bf j o done a w τ→BL E ty xs k (τ tag) (aU a t0) w):Ob ops sp In a0 w0 P bf j o s:=by
  subst hs;refine ee hg rfl fun done a w τ c=> ?_;obtain ⟨u,hu,hr⟩:=hp done a w τ c;refine kZ (v:=u) (gI ho hu rfl) ⟨_,rfl,Ext.refl _ _,τ tag,fun g h=> .inl h,?_⟩;show dg E ty xs _ (aU (a.put o.dst u) t) w;rw [hd,dk a t t _ (c.lt t hd),if_pos rfl];exact hr
theorem Cx.part1 {α:Type} {E:Enc α} {ty tag t0:Nat} {xs:List α} {k:Value} (c:Cx ops sp In a0 w0 bf j o done a w τ) (i:Nat) (hs:sp[i]? =some (B.tup E ty N tag t0 xs k)) (hb:(bf.getD j 0).testBit i=true) (ho:o.op= .extract (.tmp t0) 1):ca P a o w k:=by
  obtain ⟨u,hu⟩:=c.J.pur i _ hs (c.pre i hb);exact gI ho hu rfl
end
theorem Calls.isB {P:Program} {f:FuncId} {args:Array Value} {w:World} {b b':Bool} {M:Nat→Prop} (h:Calls P f args w (fun e w'=>e= .returned (.bool b)∧Ext M w w')) (e:b=b'):Calls P f args w (fun e w'=>e= .returned (.bool b')∧Ext M w w'):=e ▸ h
end
section
open Go.RowKit
def lQ (x y:ByteArray):Bool:=Op.bytesLess x.toList y.toList
def iH (x y:ByteArray):Bool:=x.toList==y.toList
def pY (x y:ByteArray):Bool:=lQ x y || iH x y
section
variable {P:Program} {a:Act} {o:Oper} {w:World} {t t':TypeId} {x y z:Operand} {s u:ByteArray} {k k':IntKind} {p q:Int}
theorem tC (ho:o.op= .binOp .lss t x y t') (hx:a.eval x= .string s) (hy:a.eval y= .string u):ca P a o w (.bool (lQ s u)):=by
  simp [ca,execOp,ho,hx,hy,eqGuard,binOp,Op.stringOp,lQ]
theorem pw (ho:o.op= .binOp .leq t x y t') (hx:a.eval x= .string s) (hy:a.eval y= .string u):ca P a o w (.bool (lQ s u || iH s u)):=by
  simp [ca,execOp,ho,hx,hy,eqGuard,binOp,Op.stringOp,lQ,iH]
theorem zu (ho:o.op= .binOp .gtr t x y t') (hx:a.eval x= .string s) (hy:a.eval y= .string u):ca P a o w (.bool (!(lQ s u || iH s u))):=by
  simp [ca,execOp,ho,hx,hy,eqGuard,binOp,Op.stringOp,lQ,iH]
theorem gy (ho:o.op= .binOp .eql t x y t') (hx:a.eval x= .string s) (hy:a.eval y= .string u):ca P a o w (.bool (iH s u)):=by
  simp [ca,execOp,ho,hx,hy,eqGuard,binOp,Op.stringOp,iH]
theorem lL (ho:o.op= .binOp .neq t x y t') (hx:a.eval x= .string s) (hy:a.eval y= .string u):ca P a o w (.bool (!iH s u)):=by
  simp [ca,execOp,ho,hx,hy,eqGuard,binOp,Op.stringOp,iH]
theorem tD (ho:o.op= .slice t x (some y) (some z) none) (ht:P.underlying t=some .string) (hx:a.eval x= .string s) (hy:a.eval y= .int k p) (hz:a.eval z= .int k' q) (h0:0≤p) (h1:p≤q) (h2:q≤s.size):ca P a o w (.string (s.extract p.toNat q.toNat)):=by
  have h4:0≤q:=by omega
  have h5:p≤max q 0:=by omega
  simp [ca,execOp,ho,hx,hy,hz,Instr.sliceAt,Instr.slice,run_underlying ht,Instr.sliceBounds,Instr.sliceBound,asIntOf,h0,h2,h4,h1];intro h6;omega
end
def bS (s:ByteArray) (i:Int):Int:=((s.data.toList.getD i.toNat 0).toNat:Int)
theorem gk (s:ByteArray) (i:Int):0≤bS s i∧bS s i≤255:=by
  unfold bS;have:=(s.data.toList.getD i.toNat 0).toNat_lt;omega
theorem iO {P:Program} {a:Act} {o:Oper} {w:World} {t:TypeId} {x y:Operand} {s:ByteArray} {k:IntKind} {p:Int} (ho:o.op= .index t x y) (ht:P.underlying t=some .string) (hx:a.eval x= .string s) (hy:a.eval y= .int k p) (h0:0≤p) (h1:p < s.size):ca P a o w (.int .u8 (bS s p)):=by
  have hlt:p.toNat < s.size:=by omega
  have e:s[p.toNat]? =some (s.data.toList.getD p.toNat 0):=by
    rw [getElem?_pos s p.toNat hlt];have h2:s.data.toList.getD p.toNat 0=s.data.toList[p.toNat]'(by simpa using hlt):=by
      rw [kR,bw (by simpa using hlt)];rfl
    rw [h2];rfl
  simp [ca,execOp,ho,hx,hy,Instr.index,run_underlying ht,asIntOf,h0,e,bS]
theorem oJ {s u:ByteArray}:iH s u=true↔s=u:=by
  unfold iH;rw [beq_iff_eq,ByteArray.toList_eq,ByteArray.toList_eq];constructor
  · intro h;cases s;cases u
    congr 1;exact Array.ext' h
  · rintro rfl;rfl
theorem zv (s u:ByteArray):iH s u=decide (s.data.toList=u.data.toList):=by
  unfold iH;rw [ByteArray.toList_eq,ByteArray.toList_eq,fV];simp
def oK:Enc UInt8:=⟨fun p=> [.int .u8 p.toNat],1,by decide,fun _=>rfl,fun x u hu=>by simp at hu;rcases hu with rfl;rfl⟩
theorem oL (l:List UInt8):oK.row l=l.map fun b=>Value.int .u8 b.toNat:=by
  induction l with
  | nil => rfl
  | cons b l ih =>
    have e:oK.row (b::l)=oK.cells b++oK.row l:=by simp [Enc.row]
    rw [e,ih];rfl
section
variable {N:aX} {P:Program} {ops:Array Oper} {sp:List (Spec N)} {In:Nat→Ini N} {a0:Act} {w0:World} {bf:List Nat} {j:Nat} {o:Oper} {s:Spec N}
end
theorem py {P:Program} {a:Act} {o:Oper} {w:World} {src dst e:TypeId} {x:Operand} {v:Value} {xs:List UInt8} (ho:o.op= .convert src dst x) (hs:P.underlying src=some (.slice e)) (he:P.underlying e=some (.int .u8)) (hd:P.underlying dst=some .string) (hx:a.eval x=v) (h:SlT oK w v xs):ca P a o w (.string ⟨xs.toArray⟩):=by
  rcases h.sl with ⟨rfl,h0⟩ | ⟨b,cap,rfl,_⟩
  · obtain rfl:=bA h0;simp [ca,execOp,ho,hx,convert,run_underlying hs,run_underlying hd,run_underlying he,Conv.bytesToString];rfl
  · have hc:∀j u,(xs.map fun b=>Value.int .u8 b.toNat)[j]? =some u→w.cell? (b.add j)=some u:=fun j u hj=>h.cell j u (by rw [oL];exact hj);have hr:=run_convert_bytes_back (P:=P) w src dst e b cap xs hs he hd (fun j hj=>hc j _ (by simp [bw hj]));simp only [ca,execOp,ho,hx];simp [hr]
end
section
open Go.RowKit
section
variable {N:aX} {P:Program} {ops:Array Oper} {sp:List (Spec N)} {In:Nat→Ini N} {a0:Act} {w0:World} {bf:List Nat} {j:Nat} {o:Oper} {s:Spec N}
theorem ao {t:Nat} {v:Value} (h:∀{done a w τ},Cx ops sp In a0 w0 bf j o done a w τ→ca P a o w v) (hs:s=B.det N t v:=by exact rfl) (hg:o.guard=none:=by exact rfl) (hd:o.dst=some t:=by exact rfl):Ob ops sp In a0 w0 P bf j o s:=
  DN hs hg hd fun _ _ _ _ c=>h c
theorem ey {t:Nat} {v:Value} (h:∀{done a w τ},Cx ops sp In a0 w0 bf j o done a w τ→∃f args,fi P a o w f args∧Calls P f args w (fun e w'=>e= .returned v∧Ext bk w w')) (hs:s=B.det N t v:=by exact rfl) (hg:o.guard=none:=by exact rfl) (hd:o.dst=some t:=by exact rfl):Ob ops sp In a0 w0 P bf j o s:=
  BH hs hg hd fun _ _ _ _ c=>h c
theorem ET {t tg:Nat} {b:Bool} {v:Value} (gi:Nat) (want:Bool) (hgs:sp[gi]? =some (B.det N tg (.bool b))) (h:∀{done a w τ},Cx ops sp In a0 w0 bf j o done a w τ→b=want→ca P a o w v)
    (hs:s=B.gdet N t (b=want) v:=by exact rfl) (hg:o.guard=some (gi,want):=by exact rfl) (hd:o.dst=some t:=by exact rfl) (hgd:((ops[gi]?).bind (·.dst))=some tg:=by exact rfl) (hb:(bf.getD j 0).testBit gi=true:=by exact rfl):Ob ops sp In a0 w0 P bf j o s:=
  BG hs hg hd hgd hgs hb Iff.rfl fun _ _ _ _ c=>h c
theorem dj {t tg:Nat} {b:Bool} {pg:Prop} {v:Value} (gi:Nat) (want:Bool) (hgs:sp[gi]? =some (B.gdet N tg pg (.bool b))) (h:∀{done a w τ},Cx ops sp In a0 w0 bf j o done a w τ→(pg∧b=want)→ca P a o w v)
    (hs:s=B.gdet N t (pg∧b=want) v:=by exact rfl) (hg:o.guard=some (gi,want):=by exact rfl) (hd:o.dst=some t:=by exact rfl) (hgd:((ops[gi]?).bind (·.dst))=some tg:=by exact rfl) (hb:(bf.getD j 0).testBit gi=true:=by exact rfl):Ob ops sp In a0 w0 P bf j o s:=
  zm hs hg hd hgd hgs hb Iff.rfl fun _ _ _ _ c=>h c
theorem fK {t tg:Nat} {b:Bool} {v:Value} (gi:Nat) (want:Bool) (hgs:sp[gi]? =some (B.det N tg (.bool b))) (h:∀{done a w τ},Cx ops sp In a0 w0 bf j o done a w τ→b=want→∃f args,fi P a o w f args∧Calls P f args w (fun e w'=>e= .returned v∧Ext bk w w'))
    (hs:s=B.gdet N t (b=want) v:=by exact rfl) (hg:o.guard=some (gi,want):=by exact rfl) (hd:o.dst=some t:=by exact rfl) (hgd:((ops[gi]?).bind (·.dst))=some tg:=by exact rfl) (hb:(bf.getD j 0).testBit gi=true:=by exact rfl):Ob ops sp In a0 w0 P bf j o s:=
  zn hs hg hd hgd hgs hb Iff.rfl fun _ _ _ _ c=>h c
theorem qO {t tg:Nat} {b:Bool} {pg:Prop} {v:Value} (gi:Nat) (want:Bool) (hgs:sp[gi]? =some (B.gdet N tg pg (.bool b))) (h:∀{done a w τ},Cx ops sp In a0 w0 bf j o done a w τ→(pg∧b=want)→∃f args,fi P a o w f args∧Calls P f args w (fun e w'=>e= .returned v∧Ext bk w w'))
    (hs:s=B.gdet N t (pg∧b=want) v:=by exact rfl) (hg:o.guard=some (gi,want):=by exact rfl) (hd:o.dst=some t:=by exact rfl) (hgd:((ops[gi]?).bind (·.dst))=some tg:=by exact rfl) (hb:(bf.getD j 0).testBit gi=true:=by exact rfl):Ob ops sp In a0 w0 P bf j o s:=
  yc hs hg hd hgd hgs hb Iff.rfl fun _ _ _ _ c=>h c
theorem cd (gi:Nat) {tg:Nat} {want:Bool} (h:Ob ops sp In a0 w0 P bf j { o with guard:=none } s) (hgs:sp[gi]? =some (B.det N tg (.bool want)):=by exact rfl) (hg:o.guard=some (gi,want):=by exact rfl) (hgd:((ops[gi]?).bind (·.dst))=some tg:=by exact rfl) (hb:(bf.getD j 0).testBit gi=true:=by exact rfl):Ob ops sp In a0 w0 P bf j o s:=
  BJ hg hgd hgs hb h
theorem cP (gi:Nat) {tg t:Nat} {want b:Bool} (hs:s=gX N t:=by exact rfl) (hg:o.guard=some (gi,want):=by exact rfl) (hgd:((ops[gi]?).bind (·.dst))=some tg:=by exact rfl) (hgs:sp[gi]? =some (B.det N tg (.bool b)):=by exact rfl) (hb:(bf.getD j 0).testBit gi=true:=by exact rfl) (hne:b≠want:=by decide):Ob ops sp In a0 w0 P bf j o s:=
  BK hs hg hgd hgs hb hne
end
section
variable {N:aX} {P:Program} {ops:Array Oper} {sp:List (Spec N)} {In:Nat→Ini N} {a0:Act} {w0:World} {bf:List Nat} {j:Nat} {o:Oper} {done:Nat→Bool} {a:Act} {w:World} {τ:Nat→aX}
theorem Cx.n (c:Cx ops sp In a0 w0 bf j o done a w τ) (i:Nat) {t:Nat} {val:Value} (hs:sp[i]? =some (B.det N t val)) (hb:(bf.getD j 0).testBit i=true:=by exact rfl):a.eval (.tmp t)=val:=c.ev i hs hb
theorem Cx.m (c:Cx ops sp In a0 w0 bf j o done a w τ) (i:Nat) {t:Nat} {pc:Prop} {val:Value} (hs:sp[i]? =some (B.gdet N t pc val)) (hpc:pc) (hb:(bf.getD j 0).testBit i=true:=by exact rfl):a.eval (.tmp t)=val:=c.eg i hs hb hpc
theorem Cx.p (c:Cx ops sp In a0 w0 bf j o done a w τ) {t:Nat} {val:Value} (h0:aU a0 t=val) (h:wP ops bf j t=true:=by kernel_rfl):a.eval (.tmp t)=val:=c.eo h0 h
theorem Cx.ib {ty:Nat} {v:Value} {cells:List Value} (c:Cx ops sp In a0 w0 bf j o done a w τ) (t:Nat) (hI:In t=B.ibox ty N v cells) (hl:bF (sp.map (·.tag)) t j=none:=by exact rfl) (hord:ju (sp.map (·.tag)) bf t j=true:=by kernel_rfl):cE ty cells (τ t) v w:=c.ibox t hI hl hord
theorem Cx.io {α:Type} {E:Enc α} {ty:Nat} {v:Value} {xs:List α} (c:Cx ops sp In a0 w0 bf j o done a w τ) (t:Nat) (hI:In t=B.iown E ty N v xs) (hl:bF (sp.map (·.tag)) t j=none:=by exact rfl) (hord:ju (sp.map (·.tag)) bf t j=true:=by kernel_rfl):dg E ty xs (τ t) v w:=c.iown t hI hl hord
theorem Cx.rb {ty t slot:Nat} {cells:List Value} (c:Cx ops sp In a0 w0 bf j o done a w τ) (i:Nat) (hs:sp[i]? =some (B.box ty N t slot cells)) (hl:bF (sp.map (·.tag)) t j=some i:=by exact rfl) (hord:ju (sp.map (·.tag)) bf t j=true:=by kernel_rfl):cE ty cells (τ t) (aU a slot) w:=c.rbox i hs hl hord
theorem Cx.ro {α:Type} {E:Enc α} {ty t slot:Nat} {xs:List α} (c:Cx ops sp In a0 w0 bf j o done a w τ) (i:Nat) (hs:sp[i]? =some (B.own E ty N t slot xs)) (hl:bF (sp.map (·.tag)) t j=some i:=by exact rfl) (hord:ju (sp.map (·.tag)) bf t j=true:=by kernel_rfl):dg E ty xs (τ t) (aU a slot) w:=c.rown i hs hl hord
theorem Cx.rg {α:Type} {E:Enc α} {ty t slot:Nat} {pc:Prop} {xs:List α} (c:Cx ops sp In a0 w0 bf j o done a w τ) (i:Nat) (hs:sp[i]? =some (B.gown pc E ty N t slot xs)) (hp:pc) (hl:bF (sp.map (·.tag)) t j=some i:=by exact rfl) (hord:ju (sp.map (·.tag)) bf t j=true:=by kernel_rfl):dg E ty xs (τ t) (aU a slot) w:=c.rgown i hs hl hord hp
theorem Cx.ip {α:Type} {E:Enc α} {ty slot:Nat} {v:Value} {xs:List α} (c:Cx ops sp In a0 w0 bf j o done a w τ) (t:Nat) (hI:In t=B.iown E ty N v xs) (e:aU a0 slot=v) (hl:bF (sp.map (·.tag)) t j=none:=by exact rfl) (hord:ju (sp.map (·.tag)) bf t j=true:=by kernel_rfl) (h:wP ops bf j slot=true:=by kernel_rfl):dg E ty xs (τ t) (aU a slot) w:=by
  rw [show aU a slot=v from c.old e h];exact c.iown t hI hl hord
theorem Cx.bp {ty slot:Nat} {v:Value} {cells:List Value} (c:Cx ops sp In a0 w0 bf j o done a w τ) (t:Nat) (hI:In t=B.ibox ty N v cells) (e:aU a0 slot=v) (hl:bF (sp.map (·.tag)) t j=none:=by exact rfl) (hord:ju (sp.map (·.tag)) bf t j=true:=by kernel_rfl) (h:wP ops bf j slot=true:=by kernel_rfl):cE ty cells (τ t) (aU a slot) w:=by
  rw [show aU a slot=v from c.old e h];exact c.ibox t hI hl hord
theorem Cx.sm {slot:Nat} {v:Value} {x:Operand} (c:Cx ops sp In a0 w0 bf j o done a w τ) (px:a.eval x=v) (e:aU a0 slot=v) (h:wP ops bf j slot=true:=by kernel_rfl):a.eval x=aU a slot:=px.trans (c.old e h).symm
theorem Cx.ad {slot k:Nat} {v:Value} {x:Operand} {p:Addr} (c:Cx ops sp In a0 w0 bf j o done a w τ) (px:a.eval x= .pointer (some p)) (e:aU a0 slot=v) (hp:p=(dF v).add k) (h:wP ops bf j slot=true:=by kernel_rfl):a.eval x= .pointer (some ((dF (aU a slot)).add k)):=by
  rw [show aU a slot=v from c.old e h,px,hp]
end
section
variable {N:aX} {l:List Oper} {sp:List (Spec N)} {il:List (Ini N)} {a0 a:Act} {w:World} {τ:Nat→aX}
def zw (a:Act):List (Nat × Value)→Prop
  | [] => True
  | p :: l => aU a p.1 = p.2 ∧ zw a l
theorem Fin.olds (h:Fin l sp il a0 a w τ):∀(L:List (Nat × Value)) (_:zw a0 L) (_:(L.all fun p=>jO l p.1)=true),zw a L
  | [], _, _ => trivial
  | p :: L, hE, hu => by
    rw [dK,am] at hu;exact ⟨h.old hE.1 hu.1,h.olds L hE.2 hu.2⟩
theorem Fin.ks (h:Fin l sp il a0 a w τ) (L:List (Nat × Value)) (hE:zw a0 L) (hu:(L.all fun p=>jO l p.1)=true:=by kernel_rfl):zw a L:=h.olds L hE hu
theorem Fin.ib (h:Fin l sp il a0 a w τ) {ty:Nat} {v:Value} {cells:List Value} (t:Nat) (hI:eZ il t=B.ibox ty N v cells) (hl:bF (sp.map (·.tag)) t sp.length=none:=by exact rfl):cE ty cells (τ t) v w:=h.ibox t hI hl
theorem Fin.io (h:Fin l sp il a0 a w τ) {α:Type} {E:Enc α} {ty:Nat} {v:Value} {xs:List α} (t:Nat) (hI:eZ il t=B.iown E ty N v xs) (hl:bF (sp.map (·.tag)) t sp.length=none:=by exact rfl):dg E ty xs (τ t) v w:=h.iown t hI hl
theorem Fin.rb (h:Fin l sp il a0 a w τ) {ty t slot:Nat} {cells:List Value} (j:Nat) {v:Value} (hv:aU a slot=v) (hs:sp[j]? =some (B.box ty N t slot cells)) (hl:bF (sp.map (·.tag)) t sp.length=some j:=by exact rfl):cE ty cells (τ t) v w:=h.rbox j hs hl hv
theorem Fin.ro (h:Fin l sp il a0 a w τ) {α:Type} {E:Enc α} {ty t slot:Nat} {xs:List α} (j:Nat) {v:Value} (hv:aU a slot=v) (hs:sp[j]? =some (B.own E ty N t slot xs)) (hl:bF (sp.map (·.tag)) t sp.length=some j:=by exact rfl):dg E ty xs (τ t) v w:=h.rown j hs hl hv
abbrev io {N:aX} {α:Type} {E:Enc α} {ty:Nat} {xs:List α} {T:aX} {v:Value} {w:World} (_:dg E ty xs T v w):Ini N:=iown E ty N v xs
abbrev ib {N:aX} {ty:Nat} {cells:List Value} {T:aX} {v:Value} {w:World} (_:cE ty cells T v w):Ini N:=ibox ty N v cells
end
theorem gb {a:Act} {f:Nat→Option (Nat × Nat)} {z cells:Array Value} {i0:Nat} {x0:Operand} {v0:Value} (h0:a.eval x0=v0) (hf:Instr.fill f z [(i0,v0)]=some cells):Instr.fill f z ((#[(i0,x0)]).map fun (i,x)=>(i,a.eval x)).toList=some cells:=by
  subst h0;simp only [ec,bo,bJ];exact hf
theorem iJ {a:Act} {f:Nat→Option (Nat × Nat)} {z cells:Array Value} {i0 i1:Nat} {x0 x1:Operand} {v0 v1:Value} (h0:a.eval x0=v0) (h1:a.eval x1=v1) (hf:Instr.fill f z [(i0,v0),(i1,v1)]=some cells):Instr.fill f z ((#[(i0,x0),(i1,x1)]).map fun (i,x)=>(i,a.eval x)).toList=some cells:=by
  subst h0 h1;simp only [ec,bo,bJ];exact hf
theorem zx {a:Act} {f:Nat→Option (Nat × Nat)} {z cells:Array Value} {i0 i1 i2:Nat} {x0 x1 x2:Operand} {v0 v1 v2:Value} (h0:a.eval x0=v0) (h1:a.eval x1=v1) (h2:a.eval x2=v2) (hf:Instr.fill f z [(i0,v0),(i1,v1),(i2,v2)]=some cells):Instr.fill f z ((#[(i0,x0),(i1,x1),(i2,x2)]).map fun (i,x)=>(i,a.eval x)).toList=some cells:=by
  subst h0 h1 h2;simp only [ec,bo,bJ];exact hf
theorem Dr {a:Act} {f:Nat→Option (Nat × Nat)} {z cells:Array Value} {i0 i1 i2 i3:Nat} {x0 x1 x2 x3:Operand} {v0 v1 v2 v3:Value} (h0:a.eval x0=v0) (h1:a.eval x1=v1) (h2:a.eval x2=v2) (h3:a.eval x3=v3) (hf:Instr.fill f z [(i0,v0),(i1,v1),(i2,v2),(i3,v3)]=some cells):Instr.fill f z ((#[(i0,x0),(i1,x1),(i2,x2),(i3,x3)]).map fun (i,x)=>(i,a.eval x)).toList=some cells:=by
  subst h0 h1 h2 h3;simp only [ec,bo,bJ];exact hf
theorem Ds {a:Act} {f:Nat→Option (Nat × Nat)} {z cells:Array Value} {i0 i1 i2 i3 i4:Nat} {x0 x1 x2 x3 x4:Operand} {v0 v1 v2 v3 v4:Value} (h0:a.eval x0=v0) (h1:a.eval x1=v1) (h2:a.eval x2=v2) (h3:a.eval x3=v3) (h4:a.eval x4=v4) (hf:Instr.fill f z [(i0,v0),(i1,v1),(i2,v2),(i3,v3),(i4,v4)]=some cells):Instr.fill f z ((#[(i0,x0),(i1,x1),(i2,x2),(i3,x3),(i4,x4)]).map fun (i,x)=>(i,a.eval x)).toList=some cells:=by
  subst h0 h1 h2 h3 h4;simp only [ec,bo,bJ];exact hf
theorem bt {p:Prop} [Decidable p] (h:decide p=true):p:=of_decide_eq_true h
theorem bn {p:Prop} [Decidable p] (h:decide p=false):¬p:=of_decide_eq_false h
end
section
open Go.RowKit
def YT (e:Nat) (w:World) (v:Value) (xs:List UInt8):Prop:=∃g cap cur k,v= .slice (some ⟨g,0,none⟩) xs.length cap∧w.heap[g]? =some (.cells cur e (k,k+1))∧xs.length≤cap∧cap≤maxLen∧cap≤k∧cap≤cur.size∧cur.toList.take xs.length=oK.row xs
theorem YT.sl {e:Nat} {w:World} {v:Value} {xs:List UInt8} (h:YT e w v xs):SlT oK w v xs:=by
  obtain ⟨g,cap,cur,k,rfl,hg,h1,h2,h3,h4,h5⟩:=h;refine ⟨.inr ⟨_,cap,rfl,h1,h2⟩,fun j u hj=> ?_⟩;have hlt:j < xs.length:=by
    have:=(List.getElem?_eq_some_iff.1 hj).1;rw [oK.row_length] at this
    simpa [oK] using this
  rw [←h5,fM hlt] at hj;simp only [dF,lD];simp [World.cell?,hg];simpa using hj
theorem YT.keep {e:Nat} {M:Nat→Prop} {w w':World} {v:Value} {xs:List UInt8} (h:YT e w v xs) (he:Ext M w w') (hm:∀g,v.ownBlock=some g→¬M g):YT e w' v xs:=by
  obtain ⟨g,cap,cur,k,rfl,hg,r⟩:=h;exact ⟨g,cap,cur,k,rfl,by rw [he.block g (Array.getElem?_eq_some_iff.1 hg).1 (hm g rfl)];exact hg,r⟩
def kF (e:Nat) (xs:List UInt8) (T:aX) (v:Value) (w:World):Prop:=YT e w v xs∧∀g,v.ownBlock=some g→T g
theorem uA {N:aX} {e:Nat} {xs:List UInt8} (T:aX) (v:Value) (w w':World) (h:Ext (fun g=>N g∧¬T g) w w') (hr:kF e xs T v w):kF e xs T v w':=
  ⟨hr.1.keep h fun g hg hn=>hn.2 (hr.2 g hg),hr.2⟩
def yf (e:Nat) (N:aX) (tag t:Nat) (xs:List UInt8):Spec N:=⟨some tag,t,fun _=>kF e xs,fun _ _ T v w w' _ h hr=>uA T v w w' h.less hr,fun _=>True,fun _ _ _ _ _=>trivial⟩
def zy (e:Nat) (N:aX) (v:Value) (xs:List UInt8):Ini N:=⟨fun _ T w=>kF e xs T v w,fun _ _ T w w' _ h=>uA T v w w' h.less⟩
theorem kF.isSl {e:Nat} {xs:List UInt8} {T:aX} {v:Value} {w:World} (h:kF e xs T v w):mw v xs.length:=h.1.sl.sl
theorem kF.cast {e:Nat} {xs ys:List UInt8} {T:aX} {v:Value} {w:World} (h:kF e xs T v w) (q:ys=xs):kF e ys T v w:=q ▸ h
theorem kF.le {e:Nat} {xs:List UInt8} {T:aX} {v:Value} {w:World} (h:kF e xs T v w):xs.length≤9223372036854775807:=h.1.sl.sl.le
section
variable {N:aX} {P:Program} {ops:Array Oper} {sp:List (Spec N)} {In:Nat→Ini N} {a0:Act} {w0:World} {bf:List Nat} {j:Nat} {o:Oper} {s:Spec N}
theorem oq {src dst e:TypeId} {tag t:Nat} {x:Operand} {u:ByteArray} (hs:s=yf e N tag t u.data.toList) (hg:o.guard=none) (hd:o.dst=some t) (ho:o.op= .convert src dst x)
    (hsrc:P.underlying src=some .string) (hdst:P.underlying dst=some (.slice e)) (he:P.underlying e=some (.int .u8)) (hle:u.size≤140737488355328)
    (h:∀{done a w τ},Cx ops sp In a0 w0 bf j o done a w τ→a.eval x= .string u):Ob ops sp In a0 w0 P bf j o s:=by
  subst hs;refine ee hg rfl fun done a w τ c=> ?_;have hr:(execOp a.eval o).run P w= .ok (.value (.slice (some ⟨w.heap.size,0,none⟩) u.size (grownCap w u.size 0 e))) (Lib.bytesWorld w e u):=by
    have:=Lib.run_convert_string_bytes (P:=P) w src dst e u hsrc hdst he;simp only [execOp,ho,h c,Sem.run_bind,this,Result.andThen_ok];rfl
  have hge:=grownCap_ge w u.size 0 e;have hcm:grownCap w u.size 0 e≤maxLen:=grownCap_le_maxLen w _ 0 e (by simp only [maxLen];omega);have hl:u.data.toList.length=u.size:=by simp
  have hcs:(Lib.bytesCells w e u).size=grownCap w u.size 0 e:=by
    simp only [Lib.bytesCells,Array.size_append,Array.size_map,Array.size_replicate];have:u.data.size=u.size:=rfl;omega
  refine fA hr ⟨_,rfl,⟨rfl,rfl,rfl,by rw [Lib.bytesWorld_size];omega,fun k hk _=>Lib.bytesWorld_at_old w e u k hk⟩,fun g=>g=w.heap.size,fun g hg=> .inr (by subst hg;rw [Lib.bytesWorld_size];omega),?_⟩;show kF e u.data.toList _ (aU (a.put o.dst _) t) _;rw [hd,dk a t t _ (c.lt t hd),if_pos rfl];refine ⟨⟨w.heap.size,_,_,_,by rw [hl],Lib.bytesWorld_at_new w e u,by rw [hl];exact hge,hcm,by rw [hcs];omega,by rw [hcs];omega,?_⟩,fun g h=> ?_⟩
  · rw [hl,oL,Lib.bytesCells,Array.toList_append,Array.toList_map,ic (by simp),bz (by simp)]
  · simp only [Value.ownBlock,Option.some.injEq] at h;exact h.symm
theorem vP {P:Program} {w:World} {e tt:Nat} {v:Value} {xs:List UInt8} {i:Nat} {n:Int} (h:YT e w v xs) (hi:i < xs.length) (hsz:∀w,(sizeOf tt).run P w= .ok 1 w) (h0:0≤n) (h1:n≤255):
    ∃w',(Instr.storeAt tt (.pointer (some ((dF v).add (i * 1)))) (.int .u8 n)).run P w= .ok () w'∧YT e w' v (xs.set i (UInt8.ofNat n.toNat))∧Ext (fun k=>v.ownBlock=some k) w w':=by
  obtain ⟨g,cap,cur,k,rfl,hg,h2,h3,h4,h5,h6⟩:=h;have hi':i < cur.size:=by omega
  have hcell:w.cell? ⟨g,i,none⟩=some cur[i]:=by simp [World.cell?,hg,hi']
  have hfro:w.frozen? ⟨g,i,none⟩=false:=by
    simp only [World.frozen?,hg,aG,ai];left;omega
  have hst:(store ⟨g,i,none⟩ (.int .u8 n)).run P w= .ok () (w.setRow g (cur.setIfInBounds i (.int .u8 n))):=by
    rw [Go.run_store P w _ (.int .u8 n) _ rfl,hcell];simp [hfro,setCell_eq_setRow w g i cur e (k,k+1) (.int .u8 n) hg]
  have hr:(Instr.storeAt tt (.pointer (some ⟨g,i,none⟩)) (.int .u8 n)).run P w= .ok () (w.setRow g (cur.setIfInBounds i (.int .u8 n))):=by
    have hc:(Value.int IntKind.u8 n).cells=#[.int .u8 n]:=rfl;have ha:((⟨g,i,none⟩:Addr).add 0)=⟨g,i,none⟩:=rfl;simp only [Instr.storeAt,Instr.sureAddr,Sem.run_bind,Sem.run_pure,Result.andThen_ok,storeVar,hsz,hc];simp [storeCells,ha,hst]
  refine ⟨_,by simp only [dF,lD,Nat.mul_one];exact hr,⟨g,cap,cur.setIfInBounds i (.int .u8 n),k,by rw [cq],setRow_heap w g cur _ e _ hg,by rw [cq];exact h2,h3,h4,by simpa using h5,?_⟩,(iq w g _).mono fun k _ h=>by rw [h];rfl⟩;rw [cq,Array.toList_setIfInBounds,List.take_set,h6,oL,oL,List.map_set];congr 2;have e1:(UInt8.ofNat n.toNat).toNat=n.toNat:=by
    rw [UInt8.toNat_ofNat'];exact Nat.mod_eq_of_lt (by omega)
  rw [e1];omega
theorem pA {e tag t tt i:Nat} {xs:List UInt8} {p q:Operand} {n:Int} (hs:s=yf e N tag t (xs.set i (UInt8.ofNat n.toNat))) (hg:o.guard=none) (hd:o.dst=none) (ho:o.op= .store tt p q) (hsz:∀w,(sizeOf tt).run P w= .ok 1 w)
    (hi:i < xs.length) (h0:0≤n) (h1:n≤255)
    (hp:∀{done a w τ},Cx ops sp In a0 w0 bf j o done a w τ→kF e xs (τ tag) (aU a t) w∧a.eval p= .pointer (some ((dF (aU a t)).add (i * 1)))∧a.eval q= .int .u8 n):Ob ops sp In a0 w0 P bf j o s:=by
  subst hs;refine ee hg rfl fun done a w τ c=> ?_;obtain ⟨⟨hown,hT⟩,hp',hq⟩:=hp c;obtain ⟨w',hr,h2,h3⟩:=vP (P:=P) (tt:=tt) hown hi hsz h0 h1;have hr':(execOp a.eval o).run P w= .ok .skip w':=by
    simp only [execOp,ho,hp',hq,Sem.run_bind,hr,Result.andThen_ok];rfl
  refine iu hr' ⟨undef,rfl,h3.mono (fun k _ h=>hT k h),τ tag,fun g h=> .inl h,?_⟩;show kF e (xs.set i _) _ (aU (a.put o.dst _) t) _;rw [hd,jL];exact ⟨h2,hT⟩
end
section
variable {N:aX} {P:Program} {ops:Array Oper} {sp:List (Spec N)} {In:Nat→Ini N} {a0:Act} {w0:World} {bf:List Nat} {j:Nat} {o:Oper} {done:Nat→Bool} {a:Act} {w:World} {τ:Nat→aX}
theorem Cx.iy {e:Nat} {v:Value} {xs:List UInt8} (c:Cx ops sp In a0 w0 bf j o done a w τ) (t:Nat) (hI:In t=zy e N v xs) (hl:bF (sp.map (·.tag)) t j=none:=by exact rfl) (hord:ju (sp.map (·.tag)) bf t j=true:=by kernel_rfl):kF e xs (τ t) v w:=c.ini t _ hI hl hord
theorem Cx.ry {e t slot:Nat} {xs:List UInt8} (c:Cx ops sp In a0 w0 bf j o done a w τ) (i:Nat) (hs:sp[i]? =some (yf e N t slot xs)) (hl:bF (sp.map (·.tag)) t j=some i:=by exact rfl) (hord:ju (sp.map (·.tag)) bf t j=true:=by kernel_rfl):kF e xs (τ t) (aU a slot) w:=c.res i t _ hs hl hord
theorem Cx.yp {e slot:Nat} {v:Value} {xs:List UInt8} (c:Cx ops sp In a0 w0 bf j o done a w τ) (t:Nat) (hI:In t=zy e N v xs) (q:aU a0 slot=v) (hl:bF (sp.map (·.tag)) t j=none:=by exact rfl) (hord:ju (sp.map (·.tag)) bf t j=true:=by kernel_rfl) (h:wP ops bf j slot=true:=by kernel_rfl):kF e xs (τ t) (aU a slot) w:=by
  rw [show aU a slot=v from c.old q h];exact c.iy t hI hl hord
end
section
variable {N:aX} {l:List Oper} {sp:List (Spec N)} {il:List (Ini N)} {a0 a:Act} {w:World} {τ:Nat→aX}
theorem Fin.iy (h:Fin l sp il a0 a w τ) {e:Nat} {v:Value} {xs:List UInt8} (t:Nat) (hI:eZ il t=zy e N v xs) (hl:bF (sp.map (·.tag)) t sp.length=none:=by exact rfl):kF e xs (τ t) v w:=by
  have:=h.ini t hl;rw [hI] at this
  exact this
theorem Fin.ry (h:Fin l sp il a0 a w τ) {e t slot:Nat} {xs:List UInt8} (j:Nat) {v:Value} (hv:aU a slot=v) (hs:sp[j]? =some (yf e N t slot xs)) (hl:bF (sp.map (·.tag)) t sp.length=some j:=by exact rfl):kF e xs (τ t) v w:=hv ▸ h.res j t _ hs rfl hl
abbrev iy {N:aX} {e:Nat} {xs:List UInt8} {T:aX} {v:Value} {w:World} (_:kF e xs T v w):Ini N:=zy e N v xs
end
section
variable {P:Program} {a:Act} {o:Oper} {w:World} {x y:Operand} {t t':TypeId} {s u:ByteArray}
def oM (x y:ByteArray):ByteArray:=if lQ x y=true then y else x
theorem zz (hc:o.op= .call { callee:= .builtin .max,args:=#[x,y],argTypes:=#[t,t'] }) (hx:a.eval x= .string s) (hy:a.eval y= .string u):ca P a o w (.string (oM s u)):=by
  have h:(Builtin.max_ #[t,t'] o.type #[.string s,.string u]).run P w= .ok (.string (oM s u)) w:=by
    cases hb:Op.bytesLess s.toList u.toList <;> simp [Builtin.max_,Builtin.max2,Op.stringOp,asBool,oM,lQ,hb]
  simp only [ca,execOp,hc,resolve,invoke,builtin,Sem.run_bind,Sem.run_pure,Result.andThen_ok,ec,bo,bJ,hx,hy,h]
end
end
section
open Go.RowKit
def nU (P:Program) (l:List Oper) (Q:Exit→Act→World→Prop) (a:Act) (w:World):Prop:=wpOps P l.toArray Q (List.range' 0 l.length) a w
theorem bL {P:Program} {id:Nat} {l:List Oper} {Q:Exit→Act→World→Prop} {a:Act} {w:World} (h:nU P l Q a w):(Code.region id l.toArray false).wp P Q a w:=by
  refine wp_region ?_;rw [List.range_eq_range'];exact h
def BM (K:Act→World→Prop):Exit→Act→World→Prop:=fun e a w=>e= .normal∧K a w
def nz (k:Nat) (g:Option (Nat × Bool)):Option (Nat × Bool):=g.map fun p=>(p.1 - k,p.2)
def jA (k:Nat):Nat→List Oper→List Oper
  | _, [] => []
  | j, o :: l => { o with after := (match j with | 0 => #[] | i + 1 => #[⟨i, .data⟩]), guard := nz k o.guard } :: jA k (j + 1) l
def nV (k:Nat) (l:List Oper):List Oper:=jA k 0 l
def Dt (l:List Oper) (k:Nat):Bool:=decide (k≤l.length)&&((l.take k).all fun o=>match o.guard with | none=>true | some g=>decide (g.1 < k))&&((l.drop k).all fun o=>match o.guard with | none=>true | some g=>decide (k≤g.1))
theorem lM {k:Nat}:∀{l:List Oper} {j i:Nat},(∀o,l[i]? =some o→∃af,(jA k j l)[i]? =some { o with after:=af,guard:=nz k o.guard })∧(l[i]? =none→(jA k j l)[i]? =none)
  | [], j, i => ⟨fun o h => by simp at h, fun _ => by simp [jA]⟩
  | o :: l, j, 0 => ⟨fun o' h => by simp at h; subst h; exact ⟨_, rfl⟩, fun h => by simp at h⟩
  | o :: l, j, i + 1 => by
    have:=lM (k:=k) (l:=l) (j:=j+1) (i:=i);simpa [jA] using this
theorem nW {k:Nat}:∀{l:List Oper} {j:Nat},(jA k j l).length=l.length
  | [], _ => rfl
  | _ :: l, j => by simp [jA, nW (l := l)]
theorem BN {o:Oper} {P:Program} {a:Act} {w:World} {K K':Act→World→Prop} {C:Act→World→Prop} {Q:Exit→Act→World→Prop} (h:∀a w,K a w→K' a w) (hh:o.wp P a w K (BM C)):o.wp P a w K' Q:=by
  unfold Oper.wp at *;generalize (execOp a.eval o).run P w=r at *;cases r with
  | ok n w' =>
    cases n <;> simp only [Oper.upon] at hh ⊢ <;>
      first
        | exact h _ _ hh
        | exact Calls.mono hh (fun e w'' he => by
            cases e with
            | returned v => exact h _ _ he
            | panicked c => exact absurd he.1 (by intro e; cases e)
            | outgrown => obtain ⟨_, _, h'⟩ := he; exact absurd h'.1 (by intro e; cases e))
        | exact Rows.mono hh (fun _ _ he => h _ _ he)
  | halt x w' => cases x <;> simp only [Oper.upon] at hh <;> exact absurd hh.1 (by intro e; cases e)
theorem zA {P:Program} {l:List Oper} {l1:List Oper} (hl:l1=l.take l1.length) {K:Act→World→Prop} {Q:Exit→Act→World→Prop} {rest:List Nat} (hg:∀o ∈ l1,∀g,o.guard=some g→g.1 < l1.length)
    (hK:∀a w,K a w→wpOps P l.toArray Q rest a w):∀(m i:Nat) (a:Act) (w:World),i+m=l1.length→wpOps P l1.toArray (BM K) (List.range' i m) a w→wpOps P l.toArray Q (List.range' i m++rest) a w:=by
  intro m;induction m with
  | zero =>
    intro i a w hi h;simp only [List.range'_zero,wpOps] at h;simpa using hK _ _ h.2
  | succ m ih =>
    intro i a w hi h;rw [lS] at h ⊢;rw [ed];rw [wpOps_cons] at h ⊢;have hlt:i < l1.length:=by omega
    have e0:l1[i]? =l[i]? :=by
      have h1:l1[i]? =(l.take l1.length)[i]? :=congrArg (fun q:List Oper=>q[i]?) hl;rw [h1,fM hlt]
    have ho:l1[i]? =some l1[i]:=by simp [hlt]
    have ho':l[i]? =some l1[i]:=by rw [←e0];exact ho
    unfold wpOp at h ⊢;simp only [iG,ho,ho'] at h ⊢;have hy:Region.wanted l1[i] (yielded l.toArray a.tmps)=Region.wanted l1[i] (yielded l1.toArray a.tmps):=by
      unfold Region.wanted;cases hgd:l1[i].guard with
      | none => rfl
      | some g =>
        have hlt2:=hg _ (lV hlt) g hgd;have e1:l1[g.1]? =l[g.1]? :=by
          have h1:l1[g.1]? =(l.take l1.length)[g.1]? :=congrArg (fun q:List Oper=>q[g.1]?) hl;rw [h1,fM hlt2]
        obtain ⟨g1,g2⟩:=g;simp only [] at e1;simp only [yielded,iG,e1]
    rw [hy];split
    · rename_i hw;rw [if_pos hw] at h;rcases h with h | ⟨_,x,y,h⟩
      · exact .inl (BN (fun a w hh=>ih (i+1) a w (by omega) hh) h)
      · exact absurd h.1 (by intro e;cases e)
    · rename_i hw;rw [if_neg hw] at h;exact ih (i+1) _ _ (by omega) h
theorem zB {P:Program} {l:List Oper} {k:Nat} {Q:Exit→Act→World→Prop} (hg:∀o ∈ l.drop k,∀g,o.guard=some g→k≤g.1):∀(m i:Nat) (a:Act) (w:World),wpOps P (nV k (l.drop k)).toArray Q (List.range' i m) a w→wpOps P l.toArray Q (List.range' (k+i) m) a w:=by
  intro m;induction m with
  | zero => intro i a w h; simpa [wpOps] using h
  | succ m ih =>
    intro i a w h;rw [lS] at h ⊢;rw [wpOps_cons] at h ⊢;have hd:(l.drop k)[i]? =l[k+i]? :=by rw [ik]
    unfold wpOp at h ⊢;simp only [iG] at h ⊢;have hr:=lM (k:=k) (l:=l.drop k) (j:=0) (i:=i);cases ho:l[k+i]? with
    | none =>
      rw [show (nV k (l.drop k))[i]? =none from hr.2 (by rw [hd];exact ho)] at h;simp only [] at h ⊢;exact ih (i+1) _ _ h
    | some o =>
      obtain ⟨af,ha⟩:=hr.1 o (by rw [hd];exact ho);rw [show (nV k (l.drop k))[i]? =_ from ha] at h;simp only [] at h ⊢;have hy:Region.wanted { o with after:=af,guard:=nz k o.guard } (yielded (nV k (l.drop k)).toArray a.tmps)=Region.wanted o (yielded l.toArray a.tmps):=by
        unfold Region.wanted;simp only [];cases hgd:o.guard with
        | none => rfl
        | some g =>
          have hle:=hg o (gL (by rw [hd];exact ho)) g hgd;obtain ⟨g1,g2⟩:=g;simp only [] at hle;simp only [nz,Option.map_some];have e1:((nV k (l.drop k))[g1 - k]?).bind (·.dst)=(l[g1]?).bind (·.dst):=by
            have hr2:=lM (k:=k) (l:=l.drop k) (j:=0) (i:=g1 - k);have hd2:(l.drop k)[g1 - k]? =l[g1]? :=by rw [ik];congr 1;omega
            cases hq:l[g1]? with
            | none => rw [show (nV k (l.drop k))[g1 - k]? = none from hr2.2 (by rw [hd2]; exact hq)]
            | some o2 =>
              obtain ⟨af2,ha2⟩:=hr2.1 o2 (by rw [hd2];exact hq);rw [show (nV k (l.drop k))[g1 - k]? =_ from ha2];rfl
          simp only [yielded,iG,e1]
      rw [hy] at h;have hwp:∀K,({ o with after:=af,guard:=nz k o.guard }:Oper).wp P a w K Q=o.wp P a w K Q:=fun K=>rfl;have hask:({ o with after:=af,guard:=nz k o.guard }:Oper).asks P a w=o.asks P a w:=rfl;split
      · rename_i hw;rw [if_pos hw] at h;rcases h with h | h
        · exact .inl (Oper.wp_mono (fun a w hh=>ih (i+1) a w hh) h)
        · exact .inr h
      · rename_i hw;rw [if_neg hw] at h;exact ih (i+1) _ _ h
theorem dy {P:Program} {l:List Oper} {Q:Exit→Act→World→Prop} {a:Act} {w:World} (k:Nat) (hk:Dt l k=true) (h:nU P (l.take k) (BM (nU P (nV k (l.drop k)) Q)) a w):nU P l Q a w:=by
  unfold Dt at hk;simp only [am,da,ah] at hk;obtain ⟨⟨hkl,h1⟩,h2⟩:=hk;unfold nU;have hlen:(l.take k).length=k:=by simp;omega
  have e:List.range' 0 l.length=List.range' 0 k++List.range' k (l.length - k):=by
    conv=>lhs;rw [show l.length=k+(l.length - k) by omega]
    have:=@List.range'_append_1 0 k (l.length - k);rw [gJ] at this
    exact this.symm
  rw [e];unfold nU at h;rw [hlen] at h;refine zA (l1:=l.take k) (by rw [hlen]) (fun o ho g hgd=> ?_) (fun a w hh=> ?_) k 0 a w (by omega) h
  · have:=h1 o ho;rw [hgd] at this
    rw [hlen];simpa using this
  · unfold nU at hh;have hl2:(nV k (l.drop k)).length=l.length - k:=by unfold nV;rw [nW];simp
    rw [hl2] at hh;have:=zB (l:=l) (k:=k) (fun o ho g hgd=>by have:=h2 o ho;rw [hgd] at this;simpa using this) (l.length - k) 0 a w hh;simpa using this
theorem EU {N:aX} {P:Program} {l:List Oper} {sp:List (Spec N)} {ini:Nat→Ini N} {a0:Act} {w0:World} {bf:List Nat} (hok:(mV l.toArray a0.tmps.size&&qk l.toArray bf&&nk l.toArray bf (sp.map (·.slot)) (sp.map (·.tag)))=true)
    {Q:Exit→Act→World→Prop} {τ:Nat→aX} (hb:∀k,w0.heap.size≤k→N k) (hdis:∀s t g,τ s g→τ t g→s=t) (hbnd:∀t g,τ t g→N g∧g < w0.heap.size) (hini:∀t,(ini t).I (fh τ w0) (τ t) w0)
    (obs:oi l.toArray sp ini a0 w0 P bf 0 l sp)
    (fin:∀done a w τ,(∀i,i < l.length→done i=true)→J l.toArray sp ini a0 w0 done a w τ→Q .normal a w):nU P l Q a0 w0:=by
  rw [am,am] at hok;obtain ⟨⟨h1,h2⟩,h3⟩:=hok;have obs':∀(j:Nat) (o:Oper) (s:Spec N),l.toArray[j]? =some o→sp[j]? =some s→Ob l.toArray sp ini a0 w0 P bf j o s:=fun j o s ho hs=>by
    have:=ol obs j o s (by simpa using ho) hs;rwa [gJ] at this
  refine wQ h1 h2 h3 obs' (fun a w τ hJ=>fin _ a w τ (fun i hi=>by simpa using hi) hJ) l.toArray.size 0 a0 w0 τ rfl ?_;exact J.start hb hdis hbnd hini (.inl rfl) fun i _=>by simp
theorem DO {N:aX} {n:Nat} {W0:World} {P:Program} {l:List Oper} {sp:List (Spec N)} (il:List (Ini N)) {a0:Act} {w0:World} {τ0:Nat→aX} {bf:List Nat}
    {Q:Exit→Act→World→Prop} (hst:St N W0 n a0 w0 τ0) (hok:(mV l.toArray n&&qk l.toArray bf&&nk l.toArray bf (sp.map (·.slot)) (sp.map (·.tag)))=true)
    (hini:qJ τ0 w0 0 il) (obs:oi l.toArray sp (eZ il) a0 w0 P bf 0 l sp)
    (fin:∀a w τ,St N W0 n a w τ→Fin l sp il a0 a w τ→Q .normal a w):nU P l Q a0 w0:=by
  have hlen:sp.length=l.length:=by
    simp only [am] at hok;have h3:=hok.2;unfold nk at h3;simp only [am,fC,beq_iff_eq] at h3;simpa using h3.1.1
  refine EU (N:=N) (ini:=eZ il) (τ:=τ0) (by rw [hst.size];exact hok) hst.big hst.disj hst.bnd (fun t=> ?_) obs fun done a w τ hd hJ=> ?_
  · have:=nn hini t;rwa [gJ] at this
  · refine fin a w τ ⟨hJ.defers.trans hst.defers,hJ.size.trans hst.size,hst.ext.trans hJ.ext,hJ.big,hJ.disj,hJ.bnd⟩ ⟨fun t ht=> ?_,fun j s hs ht=> ?_,fun j t s hs ht hl=> ?_,fun t hl=> ?_⟩
    · refine hJ.un t fun i o hi hdst=> ?_;exfalso;unfold jO at ht;rw [da] at ht;have:=ht o (gL (by simpa using hi));simp [hdst] at this
    · exact hJ.det j s hs ht (hd j (by rw [←hlen];exact (List.getElem?_eq_some_iff.1 hs).1))
    · obtain ⟨h1,h2,h3⟩:=kD hl;refine hJ.res j s t hs ht (hd j (by omega)) fun k s' hk hlt hkt=> ?_;exact absurd (by rw [jl hk];exact hkt) (h3 k hlt (List.getElem?_eq_some_iff.1 hk).1)
    · refine hJ.ini t fun k s' hk hkt=> ?_;exact absurd (by rw [jl hk];exact hkt) (kE hl k (List.getElem?_eq_some_iff.1 hk).1)
structure ZP where
  P:aX→World→Prop
  st:∀{Z Z':aX} {w w':World},(∀g,Z g→Z' g)→Ext (fun g=>¬Z g) w w'→P Z w→P Z' w'
def Fz (Φ:ZP) (τ:Nat→aX) (w:World):Prop:=Φ.P (fh τ w) w
def nQ (N:aX) (Φ:ZP):Ini N:=⟨fun Z _ w=>Φ.P Z w,fun Z Z' T w w' hz he h=>Φ.st hz (he.mono fun _ _ h=>h.2.2) h⟩
abbrev iz {N:aX} {Φ:ZP} {τ:Nat→aX} {w:World} (_:Fz Φ τ w):Ini N:=nQ N Φ
def ZP.pure (p:Prop):ZP:=⟨fun _ _=>p,fun _ _ h=>h⟩
def ZP.and (Φ Ψ:ZP):ZP:=⟨fun Z w=>Φ.P Z w∧Ψ.P Z w,fun hz he h=>⟨Φ.st hz he h.1,Ψ.st hz he h.2⟩⟩
def fL {α:Type} (E:Enc α) (G:aX) (v:Value) (xs:List α):ZP:=⟨fun Z w=>SlT E w v xs∧(xs≠ []→Z (dF v).block∧G (dF v).block),fun hz he h=>⟨h.1.keep he fun hn hm=>hm (h.2 hn).1,fun hn=>⟨hz _ (h.2 hn).1,(h.2 hn).2⟩⟩⟩
section
variable {N:aX} {β:Type}
def mB (N:aX) (t:Nat) (f:β→Value) (Ψ:β→Prop) (Φ:β→ZP):Spec N:=⟨none,t,fun Z _ v w=>∃b,v=f b∧Ψ b∧(Φ b).P Z w,fun Z Z' T v w w' hz he ⟨b,h1,h2,h3⟩=>⟨b,h1,h2,(Φ b).st hz (he.mono fun _ _ h=>h.2.2) h3⟩,fun _=>True,fun _ _ _ _ _=>trivial⟩
def BO {α:Type} (E:Enc α) (ty:Nat) (N:aX) (tag t:Nat) (xs:β→List α) (Ψ:β→Prop) (Φ:β→ZP):Spec N:=⟨some tag,t,fun Z T v w=>∃b,dg E ty (xs b) T v w∧Ψ b∧(Φ b).P Z w,fun Z Z' T v w w' hz he ⟨b,h1,h2,h3⟩=>⟨b,jN T v w w' he.less h1,h2,(Φ b).st hz (he.mono fun _ _ h=>h.2.2) h3⟩,fun _=>True,fun _ _ _ _ _=>trivial⟩
def nR (ty:Nat) (N:aX) (tag t:Nat) (p:Value) (cells:β→List Value) (f:β→Value) (Ψ:β→Prop) (Φ:β→ZP):Spec N:=⟨some tag,t,fun Z T v w=>∃b,v=f b∧cE ty (cells b) T p w∧Ψ b∧(Φ b).P Z w,fun Z Z' T v w w' hz he ⟨b,h0,h1,h2,h3⟩=>⟨b,h0,kY T p w w' he.less h1,h2,(Φ b).st hz (he.mono fun _ _ h=>h.2.2) h3⟩,fun _=>True,fun _ _ _ _ _=>trivial⟩
end
def Gn (F:aX) (w:World):aX:=fun g=>F g∨w.heap.size≤g
section
variable {N:aX} {P:Program} {ops:Array Oper} {sp:List (Spec N)} {In:Nat→Ini N} {a0:Act} {w0:World} {bf:List Nat} {j:Nat} {o:Oper} {s:Spec N} {β:Type}
theorem kj {t:Nat} {f:β→Value} {Ψ:β→Prop} {Φ:β→ZP} (h:∀{done a w τ},Cx ops sp In a0 w0 bf j o done a w τ→∃g args,fi P a o w g args∧Calls P g args w (fun e w'=>∃b,e= .returned (f b)∧Ext bk w w'∧Ψ b∧(Φ b).P (fh τ w') w'))
    (hs:s=mB N t f Ψ Φ:=by exact rfl) (hg:o.guard=none:=by exact rfl) (hd:o.dst=some t:=by exact rfl):Ob ops sp In a0 w0 P bf j o s:=
  tu hg fun done a w τ c=>by
    obtain ⟨g,args,h1,h2⟩:=h c;subst hs;unfold Oper.wp;rw [h1];refine h2.mono fun e w' ⟨b,he,hx,hp,hz⟩=> ?_;subst he;refine ⟨f b,rfl,hx,b,?_,hp,hz⟩;show aU (a.put o.dst (f b)) t=f b;rw [hd,dk a t t _ (c.lt t hd),if_pos rfl]
theorem ke {τ:Nat→aX} {tag:Nat} {T':aX} {w:World} (h:∀g,T' g→τ tag g):∀g,fh τ w g→fh (ni τ tag T') w g:=fun g hg=>⟨hg.1,fun t ht=>by
  unfold ni at ht;split at ht
  · exact hg.2 _ (h _ ht)
  · exact hg.2 _ ht⟩
theorem Du {α:Type} {E:Enc α} {ty tag t:Nat} {xs:β→List α} {Ψ:β→Prop} {Φ:β→ZP} (h:∀{done a w τ},Cx ops sp In a0 w0 bf j o done a w τ→∃f args,fi P a o w f args∧Calls P f args w (fun e w'=>∃v b,e= .returned v∧Ext bk w w'∧oI E ty w w' v (xs b)∧Ψ b∧(Φ b).P (fh (ni τ tag fun g=>v.ownBlock=some g) w') w'))
    (hs:s=BO E ty N tag t xs Ψ Φ:=by exact rfl) (hg:o.guard=none:=by exact rfl) (hd:o.dst=some t:=by exact rfl):Ob ops sp In a0 w0 P bf j o s:=by
  subst hs;refine jn (tag:=tag) hg rfl fun done a w τ c=> ?_;obtain ⟨f,args,h1,h2⟩:=h c;refine ⟨f,args,h1,h2.mono fun e w' ⟨v,b,he,hx,ho,hp,hz⟩=>⟨v,he,hx.mono (fun _ _ h=>h.elim),fun g=>v.ownBlock=some g,fun g hg=> .inr ⟨ho.2 g hg,ho.1.lt g hg⟩,b,?_,hp,hz⟩⟩;show dg E ty (xs b) _ (aU (a.put o.dst v) t) w';rw [hd,dk a t t v (c.lt t hd),if_pos rfl];exact ⟨ho.1,fun g h=>h⟩
theorem lY {ty tag t:Nat} {p:Value} {cells:β→List Value} {f:β→Value} {Ψ:β→Prop} {Φ:β→ZP} (h:∀{done a w τ},Cx ops sp In a0 w0 bf j o done a w τ→∃g args,fi P a o w g args∧Calls P g args w (fun e w'=>∃b,e= .returned (f b)∧Ext (τ tag) w w'∧cE ty (cells b) (τ tag) p w'∧Ψ b∧(Φ b).P (fh τ w') w'))
    (hs:s=nR ty N tag t p cells f Ψ Φ:=by exact rfl) (hg:o.guard=none:=by exact rfl) (hd:o.dst=some t:=by exact rfl):Ob ops sp In a0 w0 P bf j o s:=by
  subst hs;refine jn (tag:=tag) hg rfl fun done a w τ c=> ?_;obtain ⟨g,args,h1,h2⟩:=h c;refine ⟨g,args,h1,h2.mono fun e w' ⟨b,he,hx,hb,hp,hz⟩=>⟨f b,he,hx,τ tag,fun g h=> .inl h,b,?_,hb,hp,(Φ b).st (ke fun _ h=>h) (Ext.refl _ _) hz⟩⟩;show aU (a.put o.dst (f b)) t=f b;rw [hd,dk a t t _ (c.lt t hd),if_pos rfl]
end
section
variable {N:aX} {P:Program} {ops:Array Oper} {sp:List (Spec N)} {In:Nat→Ini N} {a0:Act} {w0:World} {bf:List Nat} {j:Nat} {o:Oper} {done:Nat→Bool} {a:Act} {w:World} {τ:Nat→aX}
theorem Cx.iz {Φ:ZP} (c:Cx ops sp In a0 w0 bf j o done a w τ) (t:Nat) (hI:In t=nQ N Φ) (hl:bF (sp.map (·.tag)) t j=none:=by exact rfl) (hord:ju (sp.map (·.tag)) bf t j=true:=by kernel_rfl):Φ.P (fh τ w) w:=c.ini t _ hI hl hord
theorem Cx.gz {F:aX} {W w':World} (c:Cx ops sp In a0 w0 bf j o done a w τ) (hW:W.heap.size≤w.heap.size) (hx:w.heap.size≤w'.heap.size):∀g,Gn (fun g=>fh τ w g∧Gn F W g) w g→g < w'.heap.size→fh τ w' g∧Gn F W g:=fun g hg hlt=>by
  rcases hg with ⟨⟨h1,h2⟩,h3⟩ | hg
  · exact ⟨⟨hlt,h2⟩,h3⟩
  · exact ⟨⟨hlt,fun t ht=>by have:=(c.J.bnd t g ht).2;omega⟩,.inr (by omega)⟩
theorem Cx.gzo {F:aX} {W w':World} {tag:Nat} {v:Value} (c:Cx ops sp In a0 w0 bf j o done a w τ) (hW:W.heap.size≤w.heap.size) (hx:w.heap.size≤w'.heap.size) (hv:∀g,v.ownBlock=some g→w.heap.size≤g):∀g,Gn (fun g=>fh τ w g∧Gn F W g) w g∧v.ownBlock≠some g→g < w'.heap.size→fh (ni τ tag fun g=>v.ownBlock=some g) w' g∧Gn F W g:=fun g hg hlt=>by
  obtain ⟨hg,hne⟩:=hg;have hG:Gn F W g:=by
    rcases hg with ⟨_,h3⟩ | hg
    · exact h3
    · exact .inr (by omega)
  refine ⟨⟨hlt,fun t ht=> ?_⟩,hG⟩;unfold ni at ht;split at ht
  · exact hne ht
  · rcases hg with ⟨⟨_,h2⟩,_⟩ | hg
    · exact h2 t ht
    · have:=(c.J.bnd t g ht).2;omega
end
section
variable {N:aX} {l:List Oper} {sp:List (Spec N)} {il:List (Ini N)} {a0 a:Act} {w:World} {τ:Nat→aX} {β:Type}
theorem Fin.iz (h:Fin l sp il a0 a w τ) {Φ:ZP} (t:Nat) (hI:eZ il t=nQ N Φ) (hl:bF (sp.map (·.tag)) t sp.length=none:=by exact rfl):Fz Φ τ w:=by
  have:=h.ini t hl;rw [hI] at this
  exact this
theorem Fin.zd (h:Fin l sp il a0 a w τ) {t:Nat} {f:β→Value} {Ψ:β→Prop} {Φ:β→ZP} (j:Nat) (hs:sp[j]? =some (mB N t f Ψ Φ)):∃b,aU a t=f b∧Ψ b∧Fz (Φ b) τ w:=h.det j _ hs rfl
theorem Fin.zo (h:Fin l sp il a0 a w τ) {α:Type} {E:Enc α} {ty t slot:Nat} {xs:β→List α} {Ψ:β→Prop} {Φ:β→ZP} (j:Nat) {v:Value} (hv:aU a slot=v) (hs:sp[j]? =some (BO E ty N t slot xs Ψ Φ)) (hl:bF (sp.map (·.tag)) t sp.length=some j:=by exact rfl):∃b,dg E ty (xs b) (τ t) v w∧Ψ b∧Fz (Φ b) τ w:=
  hv ▸ h.res j t _ hs rfl hl
theorem Fin.zb (h:Fin l sp il a0 a w τ) {ty t slot:Nat} {p:Value} {cells:β→List Value} {f:β→Value} {Ψ:β→Prop} {Φ:β→ZP} (j:Nat) (hs:sp[j]? =some (nR ty N t slot p cells f Ψ Φ)) (hl:bF (sp.map (·.tag)) t sp.length=some j:=by exact rfl):∃b,aU a slot=f b∧cE ty (cells b) (τ t) p w∧Ψ b∧Fz (Φ b) τ w:=
  h.res j t _ hs rfl hl
end
section
variable {P:Program} {a:Act} {o:Oper} {w w':World} {f:FuncId}
theorem pZ {x:Operand} {v:Value} (ho:o.op= .makeFunc (.func f) #[] #[x]) (hx:a.eval x=v):ca P a o w (.func (.func f) #[] #[v]):=by
  subst hx;simp [ca,execOp,ho,Instr.makeFunc]
theorem uB {x y z:Operand} {v u q:Value} (ho:o.op= .makeFunc (.func f) #[] #[x,y,z]) (hx:a.eval x=v) (hy:a.eval y=u) (hz:a.eval z=q):ca P a o w (.func (.func f) #[] #[v,u,q]):=by
  subst hx hy hz;simp [ca,execOp,ho,Instr.makeFunc]
theorem uC {x y z x4:Operand} {v u q v4:Value} (ho:o.op= .makeFunc (.func f) #[] #[x,y,z,x4]) (hx:a.eval x=v) (hy:a.eval y=u) (hz:a.eval z=q) (h4:a.eval x4=v4):ca P a o w (.func (.func f) #[] #[v,u,q,v4]):=by
  subst hx hy hz h4;simp [ca,execOp,ho,Instr.makeFunc]
theorem zC {x x1:Operand} {ts:Array TypeId} {v1 c1:Value} (ho:o.op= .call { callee:= .value x,args:=#[x1],argTypes:=ts }) (hx:a.eval x= .func (.func f) #[] #[c1]) (hcall:∀args w,(callFunc f args).run P w= .ok (.enter f args) w) (h1:a.eval x1=v1):fi P a o w f #[v1,c1]:=
  mz ho hx hcall (by simp [h1])
theorem Ext.fresh {W w:World} (h:Ext (fun k=>W.heap.size≤k) W w):Ext bk W w:=⟨h.os,h.tape,h.output,h.size,fun k hk _=>h.block k hk (fun hn:W.heap.size≤k=>by omega)⟩
theorem Ext.cellAt {W w:World} (h:Ext (fun k=>W.heap.size≤k) W w) {p:Addr} {v:Value} (hc:W.cell? p=some v):w.cell? p=some v:=h.fresh.cell_some hc (fun h=>h)
end
section
variable {N:aX} {β:Type}
def fQ (N:aX) (t:Nat) (pc:Prop) (f:β→Value) (Ψ:β→Prop) (Φ:β→ZP):Spec N:=⟨none,t,fun Z _ v w=>pc→∃b,v=f b∧Ψ b∧(Φ b).P Z w,fun Z Z' T v w w' hz he h hp=>(h hp).elim fun b ⟨h1,h2,h3⟩=>⟨b,h1,h2,(Φ b).st hz (he.mono fun _ _ h=>h.2.2) h3⟩,fun _=>True,fun _ _ _ _ _=>trivial⟩
def qa {α:Type} (E:Enc α) (ty:Nat) (N:aX) (tag t:Nat) (pc:Prop) (xs:β→List α) (Ψ:β→Prop) (Φ:β→ZP):Spec N:=⟨some tag,t,fun Z T v w=>pc→∃b,dg E ty (xs b) T v w∧Ψ b∧(Φ b).P Z w,fun Z Z' T v w w' hz he h hp=>(h hp).elim fun b ⟨h1,h2,h3⟩=>⟨b,jN T v w w' he.less h1,h2,(Φ b).st hz (he.mono fun _ _ h=>h.2.2) h3⟩,fun _=>True,fun _ _ _ _ _=>trivial⟩
def uD (ty:Nat) (N:aX) (tag t:Nat) (cells:β→List Value) (Ψ:β→Prop) (Φ:β→ZP):Spec N:=⟨some tag,t,fun Z T v w=>∃b,cE ty (cells b) T v w∧Ψ b∧(Φ b).P Z w,fun Z Z' T v w w' hz he ⟨b,h1,h2,h3⟩=>⟨b,kY T v w w' he.less h1,h2,(Φ b).st hz (he.mono fun _ _ h=>h.2.2) h3⟩,fun _=>True,fun _ _ _ _ _=>trivial⟩
end
section
variable {N:aX} {P:Program} {ops:Array Oper} {sp:List (Spec N)} {In:Nat→Ini N} {a0:Act} {w0:World} {bf:List Nat} {j:Nat} {o:Oper} {s:Spec N} {β:Type} {pc:Prop}
def uE (ops:Array Oper) (sp:List (Spec N)) (bf:List Nat) (j:Nat) (o:Oper) (pc:Prop):Prop:=
  (o.guard=none∧pc)∨(∃gi want tg b,o.guard=some (gi,want)∧((ops[gi]?).bind (·.dst))=some tg∧sp[gi]? =some (B.det N tg (.bool b))∧(bf.getD j 0).testBit gi=true∧(pc↔b=want))∨
  (∃gi want tg b pg,o.guard=some (gi,want)∧((ops[gi]?).bind (·.dst))=some tg∧sp[gi]? =some (B.gdet N tg pg (.bool b))∧(bf.getD j 0).testBit gi=true∧(pc↔(pg∧b=want)))
theorem qb (hg:o.guard=none:=by exact rfl):uE ops sp bf j o True:= .inl ⟨hg,au⟩
theorem qP {a:Act} {t:Nat} {b:Bool} (hv:aU a t= .bool b):a.tmps[t]? =some (.bool b):=by
  unfold aU at hv;rw [aY] at hv;cases h':a.tmps[t]? with
  | none => rw [h'] at hv; simp [undef] at hv
  | some u => rw [h'] at hv; simp at hv; rw [hv]
theorem sx {a:Act} {t:Nat} (hv:aU a t=undef):∀b,a.tmps[t]? ≠some (.bool b):=by
  intro bb h';unfold aU at hv;rw [aY,h'] at hv;simp [undef] at hv
theorem uE.known (h:uE ops sp bf j o pc) {done:Nat→Bool} {a:Act} {w:World} {τ:Nat→aX} (c:Cx ops sp In a0 w0 bf j o done a w τ):Region.wanted o (yielded ops a.tmps)=true↔pc:=by
  rcases h with ⟨hg,hp⟩ | ⟨gi,want,tg,b,hg,hgd,hgs,hb,hpc⟩ | ⟨gi,want,tg,b,pg,hg,hgd,hgs,hb,hpc⟩
  · exact ⟨fun _=>hp,fun _=>lC hg _⟩
  · have hv:=qP (c.v gi hgs hb);rw [hpc];cases b <;> cases want <;> simp [Region.wanted,hg,yielded,hgd,hv]
  · have hv:(pg→aU a tg= .bool b)∧(¬pg→aU a tg=undef):=c.J.det gi _ hgs rfl (c.pre gi hb);rw [hpc];by_cases hpg:pg
    · have hv:=qP (hv.1 hpg);cases b <;> cases want <;> simp [Region.wanted,hg,yielded,hgd,hv,hpg]
    · have hv:=sx (hv.2 hpg);have hy:yielded ops a.tmps gi=none:=by
        cases h':a.tmps[tg]? with
        | none => simp [yielded, hgd, h']
        | some u => cases u <;> first | exact absurd h' (hv _) | simp [yielded, hgd, h']
      simp [Region.wanted,hg,hy,hpg]
theorem zD {t:Nat} {f:β→Value} {Ψ:β→Prop} {Φ:β→ZP} (hgd:uE ops sp bf j o pc) (h:∀{done a w τ},Cx ops sp In a0 w0 bf j o done a w τ→pc→∃g args,fi P a o w g args∧Calls P g args w (fun e w'=>∃b,e= .returned (f b)∧Ext bk w w'∧Ψ b∧(Φ b).P (fh τ w') w'))
    (hs:s=fQ N t pc f Ψ Φ:=by exact rfl) (hd:o.dst=some t:=by exact rfl):Ob ops sp In a0 w0 P bf j o s:=by
  subst hs;intro done a w τ c;refine ⟨fun hw=> ?_,fun hw=>⟨Ext.refl _ _,fun hp=>by rw [(hgd.known c).2 hp] at hw;cases hw⟩⟩;have hp:=(hgd.known c).1 hw;obtain ⟨g,args,h1,h2⟩:=h c hp;unfold Oper.wp;rw [h1];refine h2.mono fun e w' ⟨b,he,hx,hq,hz⟩=> ?_;subst he;refine ⟨f b,rfl,hx,fun _=>⟨b,?_,hq,hz⟩⟩;show aU (a.put o.dst (f b)) t=f b;rw [hd,dk a t t _ (c.lt t hd),if_pos rfl]
theorem qQ {α:Type} {E:Enc α} {ty e tag t n:Nat} {xs:β→List α} {Ψ:β→Prop} {Φ:β→ZP} {parts:Array (Nat × Operand)} {z:Value} {cells:β→Array Value} (hgd:uE ops sp bf j o pc) (ho:o.op= .buildSlice ty n parts)
    (hty:P.underlying ty=some (.slice e)) (hsz:∀w,(sizeOf e).run P w= .ok E.sz w) (hz:∀w,(zeroValue e).run P w= .ok z w) (hn0:0 < n) (hsmall:n * E.sz≤16777216) (hn:∀b,n=(xs b).length) (hc:∀b,(cells b).toList=E.row (xs b))
    (h:∀{done a w τ},Cx ops sp In a0 w0 bf j o done a w τ→pc→∃b,Ψ b∧(Φ b).P (fh τ w) w∧Instr.fill (fun i=>some (i * E.sz,E.sz)) ((Array.range (n * E.sz)).map (z.cells[· % z.cells.size]!)) (parts.map fun (i,x)=>(i,a.eval x)).toList=some (cells b))
    (hs:s=qa E e N tag t pc xs Ψ Φ:=by exact rfl) (hd:o.dst=some t:=by exact rfl):Ob ops sp In a0 w0 P bf j o s:=by
  subst hs;intro done a w τ c;refine ⟨fun hw=> ?_,fun hw=>⟨Ext.refl _ _,τ tag,fun g h=> .inl h,fun hp=>by rw [(hgd.known c).2 hp] at hw;cases hw⟩⟩;have hp:=(hgd.known c).1 hw;obtain ⟨b,hq,hzz,hf⟩:=h c hp;have h2:¬(n * E.sz > 2 ^ 24):=by omega
  have h0:¬(n * E.sz=0):=by have:=Nat.mul_pos hn0 E.pos;omega
  have hr:(execOp a.eval o).run P w= .ok (.value (.slice (some ⟨w.heap.size,0,none⟩) n n)) (w.alloc (.cells (cells b) e)):=by
    simp only [execOp,ho,Instr.buildSlice,Sem.run_bind,run_underlying hty,Result.andThen_ok,hsz,h2,if_false,Sem.run_pure,h0,hz];rw [hf];rfl
  have hl:(cells b).size=n * E.sz:=by rw [←eS,hc,E.row_length,←hn b]
  refine fA hr ⟨_,rfl,Ext.alloc _ _ _,fun g=>g=w.heap.size,fun g hg=> .inr (by subst hg;simp),fun _=>⟨b,?_,hq,?_⟩⟩
  · show dg E e (xs b) _ (aU (a.put o.dst _) t) _;rw [hd,dk a t t _ (c.lt t hd),if_pos rfl];refine ⟨⟨E.row_length (xs b),.inr ⟨w.heap.size,n,cells b,by rw [←hn b],dY _,heap_alloc_new w _,by rw [←hn b];exact bd _,?_,hl,?_⟩⟩,fun g h=> ?_⟩
    · have:=jx n E.pos;simp only [maxLen];omega
    · rw [hc,←E.row_length];exact lT
    · simp only [Value.ownBlock,Option.some.injEq] at h;exact h.symm
  · refine (Φ b).st (fun g hg=>⟨cG hg.1 (by simp),fun t ht=> ?_⟩) ((Ext.alloc bk w _).mono fun _ _ h=>h.elim) hzz;unfold ni at ht;split at ht
    · have:=hg.1;omega
    · exact hg.2 t ht
theorem ot {ty tag t tt off:Nat} {cells0:List Value} {cells:β→List Value} {Ψ:β→Prop} {Φ:β→ZP} {x y:Operand} {v:β→Value} (hg:o.guard=none) (ho:o.op= .store tt x y) (hsz:∀b w,(sizeOf tt).run P w= .ok (v b).cells.size w)
    (hfit:∀b,off+(v b).cells.size≤cells0.length) (h1:∀b,∀u ∈ (v b).cells.toList,u.oneCell'=true) (hc:∀b,cells b=cells0.take off++(v b).cells.toList++cells0.drop (off+(v b).cells.size))
    (hp:∀{done a w τ},Cx ops sp In a0 w0 bf j o done a w τ→∃b,Ψ b∧(Φ b).P (fh τ w) w∧cE ty cells0 (τ tag) (aU a t) w∧a.eval x= .pointer (some ((dF (aU a t)).add off))∧a.eval y=v b)
    (hs:s=uD ty N tag t cells Ψ Φ:=by exact rfl) (hd:o.dst=none:=by exact rfl):Ob ops sp In a0 w0 P bf j o s:=by
  subst hs;refine ee hg rfl fun done a w τ c=> ?_;obtain ⟨b,hq,hzz,⟨g,hv,hlt,hT,hgg⟩,hx,hy⟩:=hp c;have hx':a.eval x= .pointer (some ⟨g,off,none⟩):=by rw [hx,hv];simp only [dF,lD]
  have hr:=run_store (P:=P) (t:=tt) (off:=off) hgg (hsz b) (by simpa using hfit b) (h1 b);have hr':(execOp a.eval o).run P w= .ok .skip (w.setRow g (cells b).toArray):=by
    simp only [execOp,ho,hx',hy,Sem.run_bind,hr,Result.andThen_ok];rw [hc];rfl
  have hx:Ext (τ tag) w (w.setRow g (cells b).toArray):=(iq w g _).mono (fun k _ h=>by rw [h];exact hT);refine iu hr' ⟨undef,rfl,hx,τ tag,fun g h=> .inl h,b,?_,hq,?_⟩
  · show cE ty (cells b) _ (aU (a.put o.dst _) t) _;rw [hd,jL];exact ⟨g,hv,by simp [World.setRow,hlt],hT,setRow_heap w g _ _ ty _ hgg⟩
  · exact (Φ b).st (fun g hg=>ke (fun _ h=>h) g ⟨cG hg.1 hx.size,hg.2⟩) (hx.mono fun g _ hg hn=>hn.2 _ hg) hzz
theorem tE {t:Nat} {f:β→Value} {Φ:β→ZP} (h:∀{done a w τ},Cx ops sp In a0 w0 bf j o done a w τ→∃b,ca P a o w (f b)∧(Φ b).P (fh τ w) w)
    (hs:s=fQ N t True f (fun _=>True) Φ:=by exact rfl) (hg:o.guard=none:=by exact rfl) (hd:o.dst=some t:=by exact rfl):Ob ops sp In a0 w0 P bf j o s:=by
  subst hs;intro done a w τ c;refine ⟨fun _=> ?_,fun hw=> ?_⟩
  · obtain ⟨b,hr,hz⟩:=h c;refine fA hr ⟨_,rfl,Ext.refl _ _,fun _=>⟨b,?_,au,hz⟩⟩;show aU (a.put o.dst (f b)) t=f b;rw [hd,dk a t t _ (c.lt t hd),if_pos rfl]
  · exfalso;unfold Region.wanted at hw;rw [hg] at hw;cases hw
end
section
variable {N:aX} {P:Program} {ops:Array Oper} {sp:List (Spec N)} {In:Nat→Ini N} {a0:Act} {w0:World} {bf:List Nat} {j:Nat} {o:Oper} {done:Nat→Bool} {a:Act} {w:World} {τ:Nat→aX} {β:Type} {pc:Prop}
theorem Cx.zd (c:Cx ops sp In a0 w0 bf j o done a w τ) (i:Nat) {t:Nat} {f:β→Value} {Ψ:β→Prop} {Φ:β→ZP} (hs:sp[i]? =some (fQ N t pc f Ψ Φ)) (hp:pc) (hb:(bf.getD j 0).testBit i=true:=by exact rfl):∃b,a.eval (.tmp t)=f b∧Ψ b∧(Φ b).P (fh τ w) w:=c.J.det i _ hs rfl (c.pre i hb) hp
theorem Cx.zo (c:Cx ops sp In a0 w0 bf j o done a w τ) {α:Type} {E:Enc α} {ty t slot:Nat} {xs:β→List α} {Ψ:β→Prop} {Φ:β→ZP} (i:Nat) (hs:sp[i]? =some (qa E ty N t slot pc xs Ψ Φ)) (hp:pc) (hl:bF (sp.map (·.tag)) t j=some i:=by exact rfl) (hord:ju (sp.map (·.tag)) bf t j=true:=by kernel_rfl):∃b,dg E ty (xs b) (τ t) (aU a slot) w∧Ψ b∧(Φ b).P (fh τ w) w:=c.res i t _ hs hl hord hp
end
section
variable {N:aX} {l:List Oper} {sp:List (Spec N)} {il:List (Ini N)} {a0 a:Act} {w:World} {τ:Nat→aX} {β:Type} {pc:Prop}
theorem Fin.gzb (h:Fin l sp il a0 a w τ) {ty t slot:Nat} {cells:β→List Value} {Ψ:β→Prop} {Φ:β→ZP} (j:Nat) {v:Value} (hv:aU a slot=v) (hs:sp[j]? =some (uD ty N t slot cells Ψ Φ)) (hl:bF (sp.map (·.tag)) t sp.length=some j:=by exact rfl):∃b,cE ty (cells b) (τ t) v w∧Ψ b∧Fz (Φ b) τ w:=hv ▸ h.res j t _ hs rfl hl
theorem Fin.gzd (h:Fin l sp il a0 a w τ) {t:Nat} {f:β→Value} {Ψ:β→Prop} {Φ:β→ZP} (j:Nat) (hs:sp[j]? =some (fQ N t pc f Ψ Φ)) (hp:pc):∃b,aU a t=f b∧Ψ b∧Fz (Φ b) τ w:=h.det j _ hs rfl hp
end
def zE (ty:Nat) (N:aX) (tag t:Nat) (p:Value) (cells:Value→List Value):Spec N:=⟨some tag,t,fun _ T v w=>cE ty (cells v) T p w,fun _ _ T v w w' _ h hr=>kY T p w w' h.less hr,fun _=>True,fun _ _ _ _ _=>trivial⟩
theorem mw.cells {v:Value} {n:Nat} (h:mw v n):v.cells.toList=[v]∧v.cells.size=1∧v.oneCell'=true:=by
  rcases h with ⟨rfl,_⟩ | ⟨b,cap,rfl,_⟩ <;> exact ⟨rfl,rfl,rfl⟩
section
variable {N:aX} {P:Program} {ops:Array Oper} {sp:List (Spec N)} {In:Nat→Ini N} {a0:Act} {w0:World} {bf:List Nat} {j:Nat} {o:Oper} {s:Spec N}
theorem mC {ty tag t tt off:Nat} {p:Value} {cells0:List Value} {cells:Value→List Value} {x y:Operand} (hs:s=zE ty N tag t p cells) (hg:o.guard=none) (hd:o.dst=none) (ho:o.op= .store tt x y) (hsz:∀w,(sizeOf tt).run P w= .ok 1 w)
    (hfit:off+1≤cells0.length) (hc:∀v,cells v=cells0.take off++ [v]++cells0.drop (off+1))
    (hp:∀{done a w τ},Cx ops sp In a0 w0 bf j o done a w τ→cE ty cells0 (τ tag) p w∧a.eval x= .pointer (some ((dF p).add off))∧a.eval y=aU a t∧∃n,mw (aU a t) n):Ob ops sp In a0 w0 P bf j o s:=by
  subst hs;refine ee hg rfl fun done a w τ c=> ?_;obtain ⟨⟨g,hv,hlt,hT,hgg⟩,hx,hy,n,hsl⟩:=hp c;obtain ⟨h1,h2,h3⟩:=hsl.cells;have hx':a.eval x= .pointer (some ⟨g,off,none⟩):=by rw [hx,hv];simp only [dF,lD]
  have hr:=run_store (P:=P) (t:=tt) (off:=off) (v:=aU a t) hgg (by rw [h2];exact hsz) (by rw [h2];simpa using hfit) (by rw [h1];intro u hu;simp at hu;rw [hu];exact h3);have hr':(execOp a.eval o).run P w= .ok .skip (w.setRow g (cells (aU a t)).toArray):=by
    simp only [execOp,ho,hx',hy,Sem.run_bind,hr,Result.andThen_ok];rw [hc,h1,h2];rfl
  refine iu hr' ⟨undef,rfl,(iq w g _).mono (fun k _ h=>by rw [h];exact hT),τ tag,fun g h=> .inl h,?_⟩;show cE ty (cells (aU (a.put o.dst _) t)) _ p _;rw [hd,jL];exact ⟨g,hv,by simp [World.setRow,hlt],hT,setRow_heap w g _ _ ty _ hgg⟩
end
section
variable {N:aX} {l:List Oper} {sp:List (Spec N)} {il:List (Ini N)} {a0 a:Act} {w:World} {τ:Nat→aX}
theorem Fin.vb (h:Fin l sp il a0 a w τ) {ty t slot:Nat} {p:Value} {cells:Value→List Value} (j:Nat) {v:Value} (hv:aU a slot=v) (hs:sp[j]? =some (zE ty N t slot p cells)) (hl:bF (sp.map (·.tag)) t sp.length=some j:=by exact rfl):cE ty (cells v) (τ t) p w:=hv ▸ h.res j t _ hs rfl hl
end
end
section
structure Sv where
  a:Option Addr
  l:Nat
  c:Nat
def Sv.v (s:Sv):Value:= .slice s.a s.l s.c
def Sv.nil:Sv:=⟨none,0,0⟩
structure Tr where
  k:Int
  ch:ByteArray
  ng:Bool
  rv:Sv
  rows:List (ByteArray × ByteArray)
  mn:Int
  mx:Int
  lz:Bool
  kv:Sv
  kids:List Tr
instance:Inhabited Tr:=⟨⟨0,⟨#[]⟩,false,Sv.nil,[],0,0,false,Sv.nil,[]⟩⟩
theorem Tr.kid_lt {t k:Tr} (h:k ∈ t.kids):SizeOf.sizeOf k < SizeOf.sizeOf t:=by
  have:=List.sizeOf_lt_of_mem h;cases t
  simp at this ⊢
  omega
theorem Tr.ind {P:Tr→Prop} (h:∀t,(∀k ∈ t.kids,P k)→P t) (t:Tr):P t:=h t fun k hk=>Tr.ind h k
termination_by SizeOf.sizeOf t
decreasing_by exact Tr.kid_lt hk
def nd:Enc Tr:=⟨fun t=> [.int .i64 t.k,.string t.ch,.bool t.ng,t.rv.v,.int .i64 t.mn,.int .i64 t.mx,.bool t.lz,t.kv.v],8,by decide,fun _=>rfl,fun x u hu=>by
  simp at hu;rcases hu with rfl | rfl | rfl | rfl | rfl | rfl | rfl | rfl <;> rfl⟩
def Tr.v (t:Tr):Value:= .agg #[.int .i64 t.k,.string t.ch,.bool t.ng,t.rv.v,.int .i64 t.mn,.int .i64 t.mx,.bool t.lz,t.kv.v]
inductive TrT (F:aX) (w:World):Tr→Prop
  | mk {t : Tr} : SlT dQ w t.rv.v t.rows → (t.rows ≠ [] → F (dF t.rv.v).block) → SlT nd w t.kv.v t.kids → (t.kids ≠ [] → F (dF t.kv.v).block) → (∀ k ∈ t.kids, TrT F w k) → TrT F w t
section
variable {F F':aX} {w w':World} {t:Tr}
theorem TrT.rows (h:TrT F w t):SlT dQ w t.rv.v t.rows:=by cases h;assumption
theorem TrT.rowsF (h:TrT F w t):t.rows≠ []→F (dF t.rv.v).block:=by cases h;assumption
theorem TrT.kids (h:TrT F w t):SlT nd w t.kv.v t.kids:=by cases h;assumption
theorem TrT.kidsF (h:TrT F w t):t.kids≠ []→F (dF t.kv.v).block:=by cases h;assumption
theorem TrT.kid (h:TrT F w t) {k:Tr} (hk:k ∈ t.kids):TrT F w k:=by cases h;rename_i h;exact h k hk
theorem TrT.keep (h:TrT F w t) {M:Nat→Prop} (he:Ext M w w') (hm:∀g,F g→¬M g):TrT F w' t:=by
  induction t using Tr.ind with
  | h t ih => exact .mk (h.rows.keep he fun hn => hm _ (h.rowsF hn)) h.rowsF (h.kids.keep he fun hn => hm _ (h.kidsF hn)) h.kidsF fun k hk => ih k hk (h.kid hk)
theorem TrT.mono (h:TrT F w t) (hf:∀g,F g→g < w.heap.size→F' g):TrT F' w t:=by
  induction t using Tr.ind with
  | h t ih => exact .mk h.rows (fun hn => hf _ (h.rowsF hn) (h.rows.lt hn)) h.kids (fun hn => hf _ (h.kidsF hn) (h.kids.lt hn)) fun k hk => ih k hk (h.kid hk)
def sy (w:World) (t:Tr):Prop:=TrT (fun g=>g < w.heap.size) w t
theorem TrT.s (h:TrT F w t):sy w t:=h.mono fun _ _ h=>h
theorem sy.at (h:sy w t) (he:Ext (Nw w) w w'):sy w' t:=(TrT.keep h he fun g hg hn=>by simp only [Nw] at hn;omega).s
theorem sy.keep (h:sy w t) (he:Ext bk w w'):sy w' t:=(TrT.keep h he fun _ _ hn=>hn).s
structure TlS (w:World) (v:Value) (ts:List Tr):Prop where
  sl:SlT nd w v ts
  all:∀t ∈ ts,sy w t
theorem sy.tl (h:sy w t):TlS w t.kv.v t.kids:=⟨h.kids,fun k hk=>(h.kid hk)⟩
theorem TlS.el {v:Value} {ts:List Tr} (h:TlS w v ts) {i:Int} (h0:0≤i) (h1:i < ts.length):sy w (nth ts i):=h.all _ (by
  obtain ⟨k,rfl⟩:∃k:Nat,i=(k:Int):=⟨i.toNat,by omega⟩
  have hk:k < ts.length:=by omega
  have:nth ts (k:Int)=ts[k]:=by simp [B.nth,List.getD,bw hk]
  rw [this];exact lV hk)
end
mutual
def er:Tr→Tr
  | ⟨k, ch, ng, _, rows, mn, mx, lz, _, kids⟩ => ⟨k, ch, ng, Sv.nil, rows, mn, mx, lz, Sv.nil, Fm kids⟩
def Fm:List Tr→List Tr
  | [] => []
  | t :: ts => er t :: Fm ts
end
theorem wS (ts:List Tr):Fm ts=ts.map er:=by
  induction ts with
  | nil => rfl
  | cons t ts ih => rw [Fm, ih]; rfl
theorem mD (t:Tr):(er t).kids=t.kids.map er:=by cases t;simp [er,wS]
theorem oN (t:Tr):er t=⟨t.k,t.ch,t.ng,Sv.nil,t.rows,t.mn,t.mx,t.lz,Sv.nil,t.kids.map er⟩:=by cases t;simp [er,wS]
theorem EV (t:Tr):er (er t)=er t:=by
  induction t using Tr.ind with
  | h t ih =>
    rw [oN t,oN];congr 1;rw [mr];exact jg fun k hk=>ih k hk
end
section
open Go.RowKit
theorem DP:Try.prog.follows .mixedOrders=true:=by kernel_rfl
structure IE (N:aX) (τ:Nat→aX) (w:World) where
  i:Ini N
  t:Nat
  h:i.I (fh τ w) (τ t) w
def pB {N:aX} {τ:Nat→aX} {w:World}:List (IE N τ w)→Nat→Ini N
  | [], _ => Ini.any N
  | e :: l, t => if e.t = t then e.i else pB l t
theorem eu {N:aX} {τ:Nat→aX} {w:World}:∀(l:List (IE N τ w)) (t:Nat),(pB l t).I (fh τ w) (τ t) w
  | [], _ => trivial
  | e :: l, t => by
    unfold pB;split
    · rename_i h;exact h ▸ e.h
    · exact eu l t
def Fv {N:aX} {τ:Nat→aX} {w:World} (l:List (IE N τ w)):List (Ini N):=[pB l 0,pB l 1,pB l 2,pB l 3,pB l 4,pB l 5,pB l 6,pB l 7,pB l 8,pB l 9,pB l 10,pB l 11,pB l 12,pB l 13,pB l 14,pB l 15,pB l 16,pB l 17,pB l 18,pB l 19,pB l 20,pB l 21,pB l 22,pB l 23]
theorem wT {N:aX} {τ:Nat→aX} {w:World} (l:List (IE N τ w)):qJ τ w 0 (Fv l):=⟨eu l 0,eu l 1,eu l 2,eu l 3,eu l 4,eu l 5,eu l 6,eu l 7,eu l 8,eu l 9,eu l 10,eu l 11,eu l 12,eu l 13,eu l 14,eu l 15,eu l 16,eu l 17,eu l 18,eu l 19,eu l 20,eu l 21,eu l 22,eu l 23,au⟩
section
variable {N:aX} {τ:Nat→aX} {w:World}
abbrev jb {ty t:Nat} {cells:List Value} {v:Value} (h:cE ty cells (τ t) v w):IE N τ w:=⟨ibox ty N v cells,t,h⟩
abbrev jo {α:Type} {E:Enc α} {ty t:Nat} {xs:List α} {v:Value} (h:dg E ty xs (τ t) v w):IE N τ w:=⟨iown E ty N v xs,t,h⟩
abbrev jy {ty t:Nat} {xs:List UInt8} {v:Value} (h:kF ty xs (τ t) v w):IE N τ w:=⟨zy ty N v xs,t,h⟩
abbrev jz {Φ:ZP} (t:Nat) (h:Fz Φ τ w):IE N τ w:=⟨nQ N Φ,t,h⟩
end
section
variable {N:aX} {n:Nat} {W0 a0':World} {l:List Oper} {sp:List (Spec N)} {a0:Act} {w0:World} {τ0:Nat→aX} {bf:List Nat} {id:Nat} {draw:Bool} {Q:Exit→Act→World→Prop} {P:Program}
def sA (n:Nat) (l:List Oper) (bf:List Nat) (sp:List (Spec N)):Bool:=mV l.toArray n&&qk l.toArray bf&&nk l.toArray bf (sp.map (·.slot)) (sp.map (·.tag))
abbrev sC (P:Program) (bf:List Nat) (a0:Act) (w0:World) {τ0:Nat→aX} (il:List (IE N τ0 w0)) (l:List Oper) (sp:List (Spec N)):Prop:=oi l.toArray sp (eZ (Fv il)) a0 w0 P bf 0 l sp
abbrev sD (W0:World) (n:Nat) (l:List Oper) (sp:List (Spec N)) (a0:Act) {w0:World} {τ0:Nat→aX} (il:List (IE N τ0 w0)) (Q:Exit→Act→World→Prop):Prop:=∀a w τ,St N W0 n a w τ→Fin l sp (Fv il) a0 a w τ→Q .normal a w
theorem rg (sp:List (Spec N)) (bf:List Nat) (hst:St N W0 n a0 w0 τ0) (il:List (IE N τ0 w0)) (obs:sC Try.prog bf a0 w0 il l sp) (fin:sD W0 n l sp a0 il Q) (hok:sA n l bf sp=true:=by kernel_rfl):(Code.region id l.toArray draw).wp Try.prog Q a0 w0:=yd _ DP hst hok (wT il) obs fin
theorem og (sp:List (Spec N)) (bf:List Nat) (hst:St N W0 n a0 w0 τ0) (il:List (IE N τ0 w0)) (obs:sC P bf a0 w0 il l sp) (fin:sD W0 n l sp a0 il Q) (hok:sA n l bf sp=true:=by kernel_rfl):nU P l Q a0 w0:=DO _ hst hok (wT il) obs fin
theorem eM {s0:Spec N} (hst:St N W0 n a0 w0 τ0) (il:List (IE N τ0 w0)) (obs:sC Try.prog [0] a0 w0 il l [s0]) (fin:sD W0 n l [s0] a0 il Q) (hok:sA n l [0] [s0]=true:=by kernel_rfl):(Code.region id l.toArray draw).wp Try.prog Q a0 w0:=rg _ _ hst il obs fin hok
theorem eL {s0 s1:Spec N} (hst:St N W0 n a0 w0 τ0) (il:List (IE N τ0 w0)) (obs:sC Try.prog [0,1] a0 w0 il l [s0,s1]) (fin:sD W0 n l [s0,s1] a0 il Q) (hok:sA n l [0,1] [s0,s1]=true:=by kernel_rfl):(Code.region id l.toArray draw).wp Try.prog Q a0 w0:=rg _ _ hst il obs fin hok
theorem nX {s0 s1 s2:Spec N} (bf:List Nat) (hst:St N W0 n a0 w0 τ0) (il:List (IE N τ0 w0)) (obs:sC Try.prog bf a0 w0 il l [s0,s1,s2]) (fin:sD W0 n l [s0,s1,s2] a0 il Q) (hok:sA n l bf [s0,s1,s2]=true:=by kernel_rfl):(Code.region id l.toArray draw).wp Try.prog Q a0 w0:=rg _ bf hst il obs fin hok
theorem fa {s0 s1 s2:Spec N} (hst:St N W0 n a0 w0 τ0) (il:List (IE N τ0 w0)) (obs:sC Try.prog [0,1,3] a0 w0 il l [s0,s1,s2]) (fin:sD W0 n l [s0,s1,s2] a0 il Q) (hok:sA n l [0,1,3] [s0,s1,s2]=true:=by kernel_rfl):(Code.region id l.toArray draw).wp Try.prog Q a0 w0:=rg _ _ hst il obs fin hok
theorem lc {s0 s1 s2 s3:Spec N} (bf:List Nat) (hst:St N W0 n a0 w0 τ0) (il:List (IE N τ0 w0)) (obs:sC Try.prog bf a0 w0 il l [s0,s1,s2,s3]) (fin:sD W0 n l [s0,s1,s2,s3] a0 il Q) (hok:sA n l bf [s0,s1,s2,s3]=true:=by kernel_rfl):(Code.region id l.toArray draw).wp Try.prog Q a0 w0:=rg _ bf hst il obs fin hok
theorem BF {s0 s1 s2 s3:Spec N} (hst:St N W0 n a0 w0 τ0) (il:List (IE N τ0 w0)) (obs:sC Try.prog [0,1,3,7] a0 w0 il l [s0,s1,s2,s3]) (fin:sD W0 n l [s0,s1,s2,s3] a0 il Q) (hok:sA n l [0,1,3,7] [s0,s1,s2,s3]=true:=by kernel_rfl):(Code.region id l.toArray draw).wp Try.prog Q a0 w0:=rg _ _ hst il obs fin hok
theorem zF {s0 s1 s2 s3 s4:Spec N} (bf:List Nat) (hst:St N W0 n a0 w0 τ0) (il:List (IE N τ0 w0)) (obs:sC Try.prog bf a0 w0 il l [s0,s1,s2,s3,s4]) (fin:sD W0 n l [s0,s1,s2,s3,s4] a0 il Q) (hok:sA n l bf [s0,s1,s2,s3,s4]=true:=by kernel_rfl):(Code.region id l.toArray draw).wp Try.prog Q a0 w0:=rg _ bf hst il obs fin hok
theorem DQ {s0 s1 s2 s3 s4:Spec N} (hst:St N W0 n a0 w0 τ0) (il:List (IE N τ0 w0)) (obs:sC Try.prog [0,1,3,7,15] a0 w0 il l [s0,s1,s2,s3,s4]) (fin:sD W0 n l [s0,s1,s2,s3,s4] a0 il Q) (hok:sA n l [0,1,3,7,15] [s0,s1,s2,s3,s4]=true:=by kernel_rfl):(Code.region id l.toArray draw).wp Try.prog Q a0 w0:=rg _ _ hst il obs fin hok
theorem DR {s0 s1 s2 s3 s4 s5:Spec N} (bf:List Nat) (hst:St N W0 n a0 w0 τ0) (il:List (IE N τ0 w0)) (obs:sC Try.prog bf a0 w0 il l [s0,s1,s2,s3,s4,s5]) (fin:sD W0 n l [s0,s1,s2,s3,s4,s5] a0 il Q) (hok:sA n l bf [s0,s1,s2,s3,s4,s5]=true:=by kernel_rfl):(Code.region id l.toArray draw).wp Try.prog Q a0 w0:=rg _ bf hst il obs fin hok
theorem EW {s0 s1 s2 s3 s4 s5:Spec N} (hst:St N W0 n a0 w0 τ0) (il:List (IE N τ0 w0)) (obs:sC Try.prog [0,1,3,7,15,31] a0 w0 il l [s0,s1,s2,s3,s4,s5]) (fin:sD W0 n l [s0,s1,s2,s3,s4,s5] a0 il Q) (hok:sA n l [0,1,3,7,15,31] [s0,s1,s2,s3,s4,s5]=true:=by kernel_rfl):(Code.region id l.toArray draw).wp Try.prog Q a0 w0:=rg _ _ hst il obs fin hok
theorem tF {s0 s1 s2 s3 s4 s5 s6:Spec N} (bf:List Nat) (hst:St N W0 n a0 w0 τ0) (il:List (IE N τ0 w0)) (obs:sC Try.prog bf a0 w0 il l [s0,s1,s2,s3,s4,s5,s6]) (fin:sD W0 n l [s0,s1,s2,s3,s4,s5,s6] a0 il Q) (hok:sA n l bf [s0,s1,s2,s3,s4,s5,s6]=true:=by kernel_rfl):(Code.region id l.toArray draw).wp Try.prog Q a0 w0:=rg _ bf hst il obs fin hok
theorem Fn {s0 s1 s2 s3 s4 s5 s6:Spec N} (hst:St N W0 n a0 w0 τ0) (il:List (IE N τ0 w0)) (obs:sC Try.prog [0,1,3,7,15,31,63] a0 w0 il l [s0,s1,s2,s3,s4,s5,s6]) (fin:sD W0 n l [s0,s1,s2,s3,s4,s5,s6] a0 il Q) (hok:sA n l [0,1,3,7,15,31,63] [s0,s1,s2,s3,s4,s5,s6]=true:=by kernel_rfl):(Code.region id l.toArray draw).wp Try.prog Q a0 w0:=rg _ _ hst il obs fin hok
theorem ut {s0 s1 s2 s3 s4 s5 s6 s7:Spec N} (bf:List Nat) (hst:St N W0 n a0 w0 τ0) (il:List (IE N τ0 w0)) (obs:sC Try.prog bf a0 w0 il l [s0,s1,s2,s3,s4,s5,s6,s7]) (fin:sD W0 n l [s0,s1,s2,s3,s4,s5,s6,s7] a0 il Q) (hok:sA n l bf [s0,s1,s2,s3,s4,s5,s6,s7]=true:=by kernel_rfl):(Code.region id l.toArray draw).wp Try.prog Q a0 w0:=rg _ bf hst il obs fin hok
theorem yg {s0 s1 s2 s3 s4 s5 s6 s7:Spec N} (hst:St N W0 n a0 w0 τ0) (il:List (IE N τ0 w0)) (obs:sC Try.prog [0,1,3,7,15,31,63,127] a0 w0 il l [s0,s1,s2,s3,s4,s5,s6,s7]) (fin:sD W0 n l [s0,s1,s2,s3,s4,s5,s6,s7] a0 il Q) (hok:sA n l [0,1,3,7,15,31,63,127] [s0,s1,s2,s3,s4,s5,s6,s7]=true:=by kernel_rfl):(Code.region id l.toArray draw).wp Try.prog Q a0 w0:=rg _ _ hst il obs fin hok
theorem wU {s0 s1 s2 s3 s4 s5 s6 s7 s8:Spec N} (bf:List Nat) (hst:St N W0 n a0 w0 τ0) (il:List (IE N τ0 w0)) (obs:sC Try.prog bf a0 w0 il l [s0,s1,s2,s3,s4,s5,s6,s7,s8]) (fin:sD W0 n l [s0,s1,s2,s3,s4,s5,s6,s7,s8] a0 il Q) (hok:sA n l bf [s0,s1,s2,s3,s4,s5,s6,s7,s8]=true:=by kernel_rfl):(Code.region id l.toArray draw).wp Try.prog Q a0 w0:=rg _ bf hst il obs fin hok
theorem vQ {s0 s1 s2 s3 s4 s5 s6 s7 s8 s9:Spec N} (bf:List Nat) (hst:St N W0 n a0 w0 τ0) (il:List (IE N τ0 w0)) (obs:sC Try.prog bf a0 w0 il l [s0,s1,s2,s3,s4,s5,s6,s7,s8,s9]) (fin:sD W0 n l [s0,s1,s2,s3,s4,s5,s6,s7,s8,s9] a0 il Q) (hok:sA n l bf [s0,s1,s2,s3,s4,s5,s6,s7,s8,s9]=true:=by kernel_rfl):(Code.region id l.toArray draw).wp Try.prog Q a0 w0:=rg _ bf hst il obs fin hok
theorem tG {s0 s1 s2 s3 s4 s5 s6 s7 s8 s9 s10:Spec N} (bf:List Nat) (hst:St N W0 n a0 w0 τ0) (il:List (IE N τ0 w0)) (obs:sC Try.prog bf a0 w0 il l [s0,s1,s2,s3,s4,s5,s6,s7,s8,s9,s10]) (fin:sD W0 n l [s0,s1,s2,s3,s4,s5,s6,s7,s8,s9,s10] a0 il Q) (hok:sA n l bf [s0,s1,s2,s3,s4,s5,s6,s7,s8,s9,s10]=true:=by kernel_rfl):(Code.region id l.toArray draw).wp Try.prog Q a0 w0:=rg _ bf hst il obs fin hok
theorem BP {s0 s1 s2 s3 s4 s5 s6 s7 s8 s9 s10 s11:Spec N} (bf:List Nat) (hst:St N W0 n a0 w0 τ0) (il:List (IE N τ0 w0)) (obs:sC Try.prog bf a0 w0 il l [s0,s1,s2,s3,s4,s5,s6,s7,s8,s9,s10,s11]) (fin:sD W0 n l [s0,s1,s2,s3,s4,s5,s6,s7,s8,s9,s10,s11] a0 il Q) (hok:sA n l bf [s0,s1,s2,s3,s4,s5,s6,s7,s8,s9,s10,s11]=true:=by kernel_rfl):(Code.region id l.toArray draw).wp Try.prog Q a0 w0:=rg _ bf hst il obs fin hok
end
section
variable {N:aX} {l:List Oper} {sp:List (Spec N)} {il:List (Ini N)} {a0 a:Act} {w:World} {τ:Nat→aX}
theorem Fin.k1 (h:Fin l sp il a0 a w τ) {t0:Nat} {v0:Value} (e0:aU a0 t0=v0) (hu:([t0].all (jO l))=true:=by kernel_rfl):aU a t0=v0:=by
  simp only [dK,fc,am] at hu;exact h.old e0 hu.1
theorem Fin.k2 (h:Fin l sp il a0 a w τ) {t0 t1:Nat} {v0 v1:Value} (e0:aU a0 t0=v0) (e1:aU a0 t1=v1) (hu:([t0,t1].all (jO l))=true:=by kernel_rfl):aU a t0=v0∧aU a t1=v1:=by
  simp only [dK,fc,am] at hu;exact ⟨h.old e0 hu.1,h.old e1 hu.2.1⟩
theorem Fin.k3 (h:Fin l sp il a0 a w τ) {t0 t1 t2:Nat} {v0 v1 v2:Value} (e0:aU a0 t0=v0) (e1:aU a0 t1=v1) (e2:aU a0 t2=v2) (hu:([t0,t1,t2].all (jO l))=true:=by kernel_rfl):aU a t0=v0∧aU a t1=v1∧aU a t2=v2:=by
  simp only [dK,fc,am] at hu;exact ⟨h.old e0 hu.1,h.old e1 hu.2.1,h.old e2 hu.2.2.1⟩
theorem Fin.k4 (h:Fin l sp il a0 a w τ) {t0 t1 t2 t3:Nat} {v0 v1 v2 v3:Value} (e0:aU a0 t0=v0) (e1:aU a0 t1=v1) (e2:aU a0 t2=v2) (e3:aU a0 t3=v3) (hu:([t0,t1,t2,t3].all (jO l))=true:=by kernel_rfl):aU a t0=v0∧aU a t1=v1∧aU a t2=v2∧aU a t3=v3:=by
  simp only [dK,fc,am] at hu;exact ⟨h.old e0 hu.1,h.old e1 hu.2.1,h.old e2 hu.2.2.1,h.old e3 hu.2.2.2.1⟩
theorem Fin.k5 (h:Fin l sp il a0 a w τ) {t0 t1 t2 t3 t4:Nat} {v0 v1 v2 v3 v4:Value} (e0:aU a0 t0=v0) (e1:aU a0 t1=v1) (e2:aU a0 t2=v2) (e3:aU a0 t3=v3) (e4:aU a0 t4=v4) (hu:([t0,t1,t2,t3,t4].all (jO l))=true:=by kernel_rfl):aU a t0=v0∧aU a t1=v1∧aU a t2=v2∧aU a t3=v3∧aU a t4=v4:=by
  simp only [dK,fc,am] at hu;exact ⟨h.old e0 hu.1,h.old e1 hu.2.1,h.old e2 hu.2.2.1,h.old e3 hu.2.2.2.1,h.old e4 hu.2.2.2.2.1⟩
theorem Fin.k6 (h:Fin l sp il a0 a w τ) {t0 t1 t2 t3 t4 t5:Nat} {v0 v1 v2 v3 v4 v5:Value} (e0:aU a0 t0=v0) (e1:aU a0 t1=v1) (e2:aU a0 t2=v2) (e3:aU a0 t3=v3) (e4:aU a0 t4=v4) (e5:aU a0 t5=v5) (hu:([t0,t1,t2,t3,t4,t5].all (jO l))=true:=by kernel_rfl):aU a t0=v0∧aU a t1=v1∧aU a t2=v2∧aU a t3=v3∧aU a t4=v4∧aU a t5=v5:=by
  simp only [dK,fc,am] at hu;exact ⟨h.old e0 hu.1,h.old e1 hu.2.1,h.old e2 hu.2.2.1,h.old e3 hu.2.2.2.1,h.old e4 hu.2.2.2.2.1,h.old e5 hu.2.2.2.2.2.1⟩
theorem Fin.k7 (h:Fin l sp il a0 a w τ) {t0 t1 t2 t3 t4 t5 t6:Nat} {v0 v1 v2 v3 v4 v5 v6:Value} (e0:aU a0 t0=v0) (e1:aU a0 t1=v1) (e2:aU a0 t2=v2) (e3:aU a0 t3=v3) (e4:aU a0 t4=v4) (e5:aU a0 t5=v5) (e6:aU a0 t6=v6) (hu:([t0,t1,t2,t3,t4,t5,t6].all (jO l))=true:=by kernel_rfl):aU a t0=v0∧aU a t1=v1∧aU a t2=v2∧aU a t3=v3∧aU a t4=v4∧aU a t5=v5∧aU a t6=v6:=by
  simp only [dK,fc,am] at hu;exact ⟨h.old e0 hu.1,h.old e1 hu.2.1,h.old e2 hu.2.2.1,h.old e3 hu.2.2.2.1,h.old e4 hu.2.2.2.2.1,h.old e5 hu.2.2.2.2.2.1,h.old e6 hu.2.2.2.2.2.2.1⟩
theorem Fin.k8 (h:Fin l sp il a0 a w τ) {t0 t1 t2 t3 t4 t5 t6 t7:Nat} {v0 v1 v2 v3 v4 v5 v6 v7:Value} (e0:aU a0 t0=v0) (e1:aU a0 t1=v1) (e2:aU a0 t2=v2) (e3:aU a0 t3=v3) (e4:aU a0 t4=v4) (e5:aU a0 t5=v5) (e6:aU a0 t6=v6) (e7:aU a0 t7=v7) (hu:([t0,t1,t2,t3,t4,t5,t6,t7].all (jO l))=true:=by kernel_rfl):aU a t0=v0∧aU a t1=v1∧aU a t2=v2∧aU a t3=v3∧aU a t4=v4∧aU a t5=v5∧aU a t6=v6∧aU a t7=v7:=by
  simp only [dK,fc,am] at hu;exact ⟨h.old e0 hu.1,h.old e1 hu.2.1,h.old e2 hu.2.2.1,h.old e3 hu.2.2.2.1,h.old e4 hu.2.2.2.2.1,h.old e5 hu.2.2.2.2.2.1,h.old e6 hu.2.2.2.2.2.2.1,h.old e7 hu.2.2.2.2.2.2.2.1⟩
theorem Fin.k9 (h:Fin l sp il a0 a w τ) {t0 t1 t2 t3 t4 t5 t6 t7 t8:Nat} {v0 v1 v2 v3 v4 v5 v6 v7 v8:Value} (e0:aU a0 t0=v0) (e1:aU a0 t1=v1) (e2:aU a0 t2=v2) (e3:aU a0 t3=v3) (e4:aU a0 t4=v4) (e5:aU a0 t5=v5) (e6:aU a0 t6=v6) (e7:aU a0 t7=v7) (e8:aU a0 t8=v8) (hu:([t0,t1,t2,t3,t4,t5,t6,t7,t8].all (jO l))=true:=by kernel_rfl):aU a t0=v0∧aU a t1=v1∧aU a t2=v2∧aU a t3=v3∧aU a t4=v4∧aU a t5=v5∧aU a t6=v6∧aU a t7=v7∧aU a t8=v8:=by
  simp only [dK,fc,am] at hu;exact ⟨h.old e0 hu.1,h.old e1 hu.2.1,h.old e2 hu.2.2.1,h.old e3 hu.2.2.2.1,h.old e4 hu.2.2.2.2.1,h.old e5 hu.2.2.2.2.2.1,h.old e6 hu.2.2.2.2.2.2.1,h.old e7 hu.2.2.2.2.2.2.2.1,h.old e8 hu.2.2.2.2.2.2.2.2.1⟩
theorem Fin.k10 (h:Fin l sp il a0 a w τ) {t0 t1 t2 t3 t4 t5 t6 t7 t8 t9:Nat} {v0 v1 v2 v3 v4 v5 v6 v7 v8 v9:Value} (e0:aU a0 t0=v0) (e1:aU a0 t1=v1) (e2:aU a0 t2=v2) (e3:aU a0 t3=v3) (e4:aU a0 t4=v4) (e5:aU a0 t5=v5) (e6:aU a0 t6=v6) (e7:aU a0 t7=v7) (e8:aU a0 t8=v8) (e9:aU a0 t9=v9) (hu:([t0,t1,t2,t3,t4,t5,t6,t7,t8,t9].all (jO l))=true:=by kernel_rfl):aU a t0=v0∧aU a t1=v1∧aU a t2=v2∧aU a t3=v3∧aU a t4=v4∧aU a t5=v5∧aU a t6=v6∧aU a t7=v7∧aU a t8=v8∧aU a t9=v9:=by
  simp only [dK,fc,am] at hu;exact ⟨h.old e0 hu.1,h.old e1 hu.2.1,h.old e2 hu.2.2.1,h.old e3 hu.2.2.2.1,h.old e4 hu.2.2.2.2.1,h.old e5 hu.2.2.2.2.2.1,h.old e6 hu.2.2.2.2.2.2.1,h.old e7 hu.2.2.2.2.2.2.2.1,h.old e8 hu.2.2.2.2.2.2.2.2.1,h.old e9 hu.2.2.2.2.2.2.2.2.2.1⟩
theorem Fin.k11 (h:Fin l sp il a0 a w τ) {t0 t1 t2 t3 t4 t5 t6 t7 t8 t9 t10:Nat} {v0 v1 v2 v3 v4 v5 v6 v7 v8 v9 v10:Value} (e0:aU a0 t0=v0) (e1:aU a0 t1=v1) (e2:aU a0 t2=v2) (e3:aU a0 t3=v3) (e4:aU a0 t4=v4) (e5:aU a0 t5=v5) (e6:aU a0 t6=v6) (e7:aU a0 t7=v7) (e8:aU a0 t8=v8) (e9:aU a0 t9=v9) (e10:aU a0 t10=v10) (hu:([t0,t1,t2,t3,t4,t5,t6,t7,t8,t9,t10].all (jO l))=true:=by kernel_rfl):aU a t0=v0∧aU a t1=v1∧aU a t2=v2∧aU a t3=v3∧aU a t4=v4∧aU a t5=v5∧aU a t6=v6∧aU a t7=v7∧aU a t8=v8∧aU a t9=v9∧aU a t10=v10:=by
  simp only [dK,fc,am] at hu;exact ⟨h.old e0 hu.1,h.old e1 hu.2.1,h.old e2 hu.2.2.1,h.old e3 hu.2.2.2.1,h.old e4 hu.2.2.2.2.1,h.old e5 hu.2.2.2.2.2.1,h.old e6 hu.2.2.2.2.2.2.1,h.old e7 hu.2.2.2.2.2.2.2.1,h.old e8 hu.2.2.2.2.2.2.2.2.1,h.old e9 hu.2.2.2.2.2.2.2.2.2.1,h.old e10 hu.2.2.2.2.2.2.2.2.2.2.1⟩
theorem Fin.k12 (h:Fin l sp il a0 a w τ) {t0 t1 t2 t3 t4 t5 t6 t7 t8 t9 t10 t11:Nat} {v0 v1 v2 v3 v4 v5 v6 v7 v8 v9 v10 v11:Value} (e0:aU a0 t0=v0) (e1:aU a0 t1=v1) (e2:aU a0 t2=v2) (e3:aU a0 t3=v3) (e4:aU a0 t4=v4) (e5:aU a0 t5=v5) (e6:aU a0 t6=v6) (e7:aU a0 t7=v7) (e8:aU a0 t8=v8) (e9:aU a0 t9=v9) (e10:aU a0 t10=v10) (e11:aU a0 t11=v11) (hu:([t0,t1,t2,t3,t4,t5,t6,t7,t8,t9,t10,t11].all (jO l))=true:=by kernel_rfl):aU a t0=v0∧aU a t1=v1∧aU a t2=v2∧aU a t3=v3∧aU a t4=v4∧aU a t5=v5∧aU a t6=v6∧aU a t7=v7∧aU a t8=v8∧aU a t9=v9∧aU a t10=v10∧aU a t11=v11:=by
  simp only [dK,fc,am] at hu;exact ⟨h.old e0 hu.1,h.old e1 hu.2.1,h.old e2 hu.2.2.1,h.old e3 hu.2.2.2.1,h.old e4 hu.2.2.2.2.1,h.old e5 hu.2.2.2.2.2.1,h.old e6 hu.2.2.2.2.2.2.1,h.old e7 hu.2.2.2.2.2.2.2.1,h.old e8 hu.2.2.2.2.2.2.2.2.1,h.old e9 hu.2.2.2.2.2.2.2.2.2.1,h.old e10 hu.2.2.2.2.2.2.2.2.2.2.1,h.old e11 hu.2.2.2.2.2.2.2.2.2.2.2.1⟩
theorem Fin.k13 (h:Fin l sp il a0 a w τ) {t0 t1 t2 t3 t4 t5 t6 t7 t8 t9 t10 t11 t12:Nat} {v0 v1 v2 v3 v4 v5 v6 v7 v8 v9 v10 v11 v12:Value} (e0:aU a0 t0=v0) (e1:aU a0 t1=v1) (e2:aU a0 t2=v2) (e3:aU a0 t3=v3) (e4:aU a0 t4=v4) (e5:aU a0 t5=v5) (e6:aU a0 t6=v6) (e7:aU a0 t7=v7) (e8:aU a0 t8=v8) (e9:aU a0 t9=v9) (e10:aU a0 t10=v10) (e11:aU a0 t11=v11) (e12:aU a0 t12=v12) (hu:([t0,t1,t2,t3,t4,t5,t6,t7,t8,t9,t10,t11,t12].all (jO l))=true:=by kernel_rfl):aU a t0=v0∧aU a t1=v1∧aU a t2=v2∧aU a t3=v3∧aU a t4=v4∧aU a t5=v5∧aU a t6=v6∧aU a t7=v7∧aU a t8=v8∧aU a t9=v9∧aU a t10=v10∧aU a t11=v11∧aU a t12=v12:=by
  simp only [dK,fc,am] at hu;exact ⟨h.old e0 hu.1,h.old e1 hu.2.1,h.old e2 hu.2.2.1,h.old e3 hu.2.2.2.1,h.old e4 hu.2.2.2.2.1,h.old e5 hu.2.2.2.2.2.1,h.old e6 hu.2.2.2.2.2.2.1,h.old e7 hu.2.2.2.2.2.2.2.1,h.old e8 hu.2.2.2.2.2.2.2.2.1,h.old e9 hu.2.2.2.2.2.2.2.2.2.1,h.old e10 hu.2.2.2.2.2.2.2.2.2.2.1,h.old e11 hu.2.2.2.2.2.2.2.2.2.2.2.1,h.old e12 hu.2.2.2.2.2.2.2.2.2.2.2.2.1⟩
theorem Fin.z1 (h:Fin l sp il a0 a w τ) {p0:ZP} (t0:Nat) (i0:eZ il t0=nQ N p0:=by exact rfl) (l0:bF (sp.map (·.tag)) t0 sp.length=none:=by exact rfl):Fz p0 τ w:=h.iz t0 i0 l0
theorem Fin.z2 (h:Fin l sp il a0 a w τ) {p0 p1:ZP} (t0 t1:Nat) (i0:eZ il t0=nQ N p0:=by exact rfl) (i1:eZ il t1=nQ N p1:=by exact rfl) (l0:bF (sp.map (·.tag)) t0 sp.length=none:=by exact rfl) (l1:bF (sp.map (·.tag)) t1 sp.length=none:=by exact rfl):Fz p0 τ w∧Fz p1 τ w:=⟨h.iz t0 i0 l0,h.iz t1 i1 l1⟩
theorem Fin.z3 (h:Fin l sp il a0 a w τ) {p0 p1 p2:ZP} (t0 t1 t2:Nat) (i0:eZ il t0=nQ N p0:=by exact rfl) (i1:eZ il t1=nQ N p1:=by exact rfl) (i2:eZ il t2=nQ N p2:=by exact rfl) (l0:bF (sp.map (·.tag)) t0 sp.length=none:=by exact rfl) (l1:bF (sp.map (·.tag)) t1 sp.length=none:=by exact rfl) (l2:bF (sp.map (·.tag)) t2 sp.length=none:=by exact rfl):Fz p0 τ w∧Fz p1 τ w∧Fz p2 τ w:=⟨h.iz t0 i0 l0,h.iz t1 i1 l1,h.iz t2 i2 l2⟩
theorem Fin.z4 (h:Fin l sp il a0 a w τ) {p0 p1 p2 p3:ZP} (t0 t1 t2 t3:Nat) (i0:eZ il t0=nQ N p0:=by exact rfl) (i1:eZ il t1=nQ N p1:=by exact rfl) (i2:eZ il t2=nQ N p2:=by exact rfl) (i3:eZ il t3=nQ N p3:=by exact rfl) (l0:bF (sp.map (·.tag)) t0 sp.length=none:=by exact rfl) (l1:bF (sp.map (·.tag)) t1 sp.length=none:=by exact rfl) (l2:bF (sp.map (·.tag)) t2 sp.length=none:=by exact rfl) (l3:bF (sp.map (·.tag)) t3 sp.length=none:=by exact rfl):Fz p0 τ w∧Fz p1 τ w∧Fz p2 τ w∧Fz p3 τ w:=⟨h.iz t0 i0 l0,h.iz t1 i1 l1,h.iz t2 i2 l2,h.iz t3 i3 l3⟩
theorem Fin.z5 (h:Fin l sp il a0 a w τ) {p0 p1 p2 p3 p4:ZP} (t0 t1 t2 t3 t4:Nat) (i0:eZ il t0=nQ N p0:=by exact rfl) (i1:eZ il t1=nQ N p1:=by exact rfl) (i2:eZ il t2=nQ N p2:=by exact rfl) (i3:eZ il t3=nQ N p3:=by exact rfl) (i4:eZ il t4=nQ N p4:=by exact rfl) (l0:bF (sp.map (·.tag)) t0 sp.length=none:=by exact rfl) (l1:bF (sp.map (·.tag)) t1 sp.length=none:=by exact rfl) (l2:bF (sp.map (·.tag)) t2 sp.length=none:=by exact rfl) (l3:bF (sp.map (·.tag)) t3 sp.length=none:=by exact rfl) (l4:bF (sp.map (·.tag)) t4 sp.length=none:=by exact rfl):Fz p0 τ w∧Fz p1 τ w∧Fz p2 τ w∧Fz p3 τ w∧Fz p4 τ w:=⟨h.iz t0 i0 l0,h.iz t1 i1 l1,h.iz t2 i2 l2,h.iz t3 i3 l3,h.iz t4 i4 l4⟩
theorem Fin.z6 (h:Fin l sp il a0 a w τ) {p0 p1 p2 p3 p4 p5:ZP} (t0 t1 t2 t3 t4 t5:Nat) (i0:eZ il t0=nQ N p0:=by exact rfl) (i1:eZ il t1=nQ N p1:=by exact rfl) (i2:eZ il t2=nQ N p2:=by exact rfl) (i3:eZ il t3=nQ N p3:=by exact rfl) (i4:eZ il t4=nQ N p4:=by exact rfl) (i5:eZ il t5=nQ N p5:=by exact rfl) (l0:bF (sp.map (·.tag)) t0 sp.length=none:=by exact rfl) (l1:bF (sp.map (·.tag)) t1 sp.length=none:=by exact rfl) (l2:bF (sp.map (·.tag)) t2 sp.length=none:=by exact rfl) (l3:bF (sp.map (·.tag)) t3 sp.length=none:=by exact rfl) (l4:bF (sp.map (·.tag)) t4 sp.length=none:=by exact rfl) (l5:bF (sp.map (·.tag)) t5 sp.length=none:=by exact rfl):Fz p0 τ w∧Fz p1 τ w∧Fz p2 τ w∧Fz p3 τ w∧Fz p4 τ w∧Fz p5 τ w:=⟨h.iz t0 i0 l0,h.iz t1 i1 l1,h.iz t2 i2 l2,h.iz t3 i3 l3,h.iz t4 i4 l4,h.iz t5 i5 l5⟩
theorem Fin.z7 (h:Fin l sp il a0 a w τ) {p0 p1 p2 p3 p4 p5 p6:ZP} (t0 t1 t2 t3 t4 t5 t6:Nat) (i0:eZ il t0=nQ N p0:=by exact rfl) (i1:eZ il t1=nQ N p1:=by exact rfl) (i2:eZ il t2=nQ N p2:=by exact rfl) (i3:eZ il t3=nQ N p3:=by exact rfl) (i4:eZ il t4=nQ N p4:=by exact rfl) (i5:eZ il t5=nQ N p5:=by exact rfl) (i6:eZ il t6=nQ N p6:=by exact rfl) (l0:bF (sp.map (·.tag)) t0 sp.length=none:=by exact rfl) (l1:bF (sp.map (·.tag)) t1 sp.length=none:=by exact rfl) (l2:bF (sp.map (·.tag)) t2 sp.length=none:=by exact rfl) (l3:bF (sp.map (·.tag)) t3 sp.length=none:=by exact rfl) (l4:bF (sp.map (·.tag)) t4 sp.length=none:=by exact rfl) (l5:bF (sp.map (·.tag)) t5 sp.length=none:=by exact rfl) (l6:bF (sp.map (·.tag)) t6 sp.length=none:=by exact rfl):Fz p0 τ w∧Fz p1 τ w∧Fz p2 τ w∧Fz p3 τ w∧Fz p4 τ w∧Fz p5 τ w∧Fz p6 τ w:=⟨h.iz t0 i0 l0,h.iz t1 i1 l1,h.iz t2 i2 l2,h.iz t3 i3 l3,h.iz t4 i4 l4,h.iz t5 i5 l5,h.iz t6 i6 l6⟩
theorem Fin.V (h:Fin l sp il a0 a w τ) (j:Nat) {t:Nat} {v:Value} (hs:sp[j]? =some (B.det N t v):=by exact rfl):aU a t=v:=h.v j hs
theorem Fin.B (h:Fin l sp il a0 a w τ) {ty:Nat} {v:Value} {cells:List Value} (t:Nat) (hI:eZ il t=B.ibox ty N v cells:=by exact rfl) (hl:bF (sp.map (·.tag)) t sp.length=none:=by exact rfl):cE ty cells (τ t) v w:=h.ibox t hI hl
theorem Fin.O (h:Fin l sp il a0 a w τ) {α:Type} {E:Enc α} {ty:Nat} {v:Value} {xs:List α} (t:Nat) (hI:eZ il t=B.iown E ty N v xs:=by exact rfl) (hl:bF (sp.map (·.tag)) t sp.length=none:=by exact rfl):dg E ty xs (τ t) v w:=h.iown t hI hl
theorem Fin.RB (h:Fin l sp il a0 a w τ) {ty t slot:Nat} {cells:List Value} (j:Nat) {v:Value} (hv:aU a slot=v) (hs:sp[j]? =some (B.box ty N t slot cells):=by exact rfl) (hl:bF (sp.map (·.tag)) t sp.length=some j:=by exact rfl):cE ty cells (τ t) v w:=h.rbox j hs hl hv
end
section
variable {N:aX} {P:Program} {ops:Array Oper} {sp:List (Spec N)} {In:Nat→Ini N} {a0:Act} {w0:World} {bf:List Nat} {j:Nat} {o:Oper} {done:Nat→Bool} {a:Act} {w:World} {τ:Nat→aX}
theorem Cx.q (c:Cx ops sp In a0 w0 bf j o done a w τ) (i:Nat) {t:Nat} {val:Value} (hs:sp[i]? =some (B.det N t val):=by exact rfl) (hb:(bf.getD j 0).testBit i=true:=by exact rfl):a.eval (.tmp t)=val:=c.ev i hs hb
theorem Cx.M (c:Cx ops sp In a0 w0 bf j o done a w τ) (i:Nat) {t:Nat} {pc:Prop} {val:Value} (hpc:pc) (hs:sp[i]? =some (B.gdet N t pc val):=by exact rfl) (hb:(bf.getD j 0).testBit i=true:=by exact rfl):a.eval (.tmp t)=val:=c.eg i hs hb hpc
theorem Cx.B {ty:Nat} {v:Value} {cells:List Value} (c:Cx ops sp In a0 w0 bf j o done a w τ) (t:Nat) (hI:In t=B.ibox ty N v cells:=by exact rfl) (hl:bF (sp.map (·.tag)) t j=none:=by exact rfl) (hord:ju (sp.map (·.tag)) bf t j=true:=by kernel_rfl):cE ty cells (τ t) v w:=c.ibox t hI hl hord
theorem Cx.Z {Φ:ZP} (c:Cx ops sp In a0 w0 bf j o done a w τ) (t:Nat) (hI:In t=nQ N Φ:=by exact rfl) (hl:bF (sp.map (·.tag)) t j=none:=by exact rfl) (hord:ju (sp.map (·.tag)) bf t j=true:=by kernel_rfl):Fz Φ τ w:=c.iz t hI hl hord
end
section
variable {N:aX} {P:Program} {ops:Array Oper} {sp:List (Spec N)} {In:Nat→Ini N} {a0:Act} {w0:World} {bf:List Nat} {j:Nat} {o:Oper} {s:Spec N} {t d:Nat} {v:Value}
theorem ak (e0:aU a0 t=v) (ho:o.op= .move (.tmp t):=by exact rfl) (h0:wP ops bf j t=true:=by kernel_rfl) (hs:s=B.det N d v:=by exact rfl) (hg:o.guard=none:=by exact rfl) (hd:o.dst=some d:=by exact rfl):Ob ops sp In a0 w0 P bf j o s:=ao (fun c=>aM ho (c.p e0 h0)) hs hg hd
theorem qc (e0:aU a0 t=v) (ho:o.op= .assign (.tmp t):=by exact rfl) (h0:wP ops bf j t=true:=by kernel_rfl) (hs:s=B.det N d v:=by exact rfl) (hg:o.guard=none:=by exact rfl) (hd:o.dst=some d:=by exact rfl):Ob ops sp In a0 w0 P bf j o s:=ao (fun c=>aw ho (c.p e0 h0)) hs hg hd
theorem nY {vs:List Value} {i:Nat} (e0:aU a0 t=(.tuple vs.toArray)) (ho:o.op= .extract (.tmp t) i:=by exact rfl) (h0:wP ops bf j t=true:=by kernel_rfl) (hi:vs[i]? =some v:=by exact rfl) (hs:s=B.det N d v:=by exact rfl) (hg:o.guard=none:=by exact rfl) (hd:o.dst=some d:=by exact rfl):Ob ops sp In a0 w0 P bf j o s:=ao (fun c=>gI ho (c.p e0 h0) (by simpa using hi)) hs hg hd
theorem cy {ty f off m:Nat} {ft:TypeId} {fs:Array Field} {fd:Field} {p:Addr} (ht:Try.prog.underlying ty=some (.struct fs)) (hz:∀w,(sizeOf ft).run Try.prog w= .ok (m+1) w) (e0:aU a0 t=v) (q:v= .pointer (some p)) (ho:o.op= .fieldAddr ty (.tmp t) f:=by exact rfl) (h0:wP ops bf j t=true:=by kernel_rfl) (hf:fs[f]? =some fd:=by exact rfl) (hft:fd.type=ft:=by exact rfl) (hoff:fd.offset=off:=by exact rfl) (hs:s=B.det N d (.pointer (some (p.add off))):=by exact rfl) (hg:o.guard=none:=by exact rfl) (hd:o.dst=some d:=by exact rfl):Ob ops sp In a0 w0 Try.prog bf j o s:=ao (fun c=>nm ho ht hf hoff (fun w=>hft ▸ hz w) ((c.p e0 h0).trans q)) hs hg hd
theorem bm (i0:Nat) (ho:o.op= .move (.tmp t):=by exact rfl) (s0:sp[i0]? =some (B.det N t v):=by exact rfl) (b0:(bf.getD j 0).testBit i0=true:=by exact rfl) (hs:s=B.det N d v:=by exact rfl) (hg:o.guard=none:=by exact rfl) (hd:o.dst=some d:=by exact rfl):Ob ops sp In a0 w0 P bf j o s:=ao (fun c=>aM ho (c.n i0 s0 b0)) hs hg hd
theorem aI (i0:Nat) (ho:o.op= .assign (.tmp t):=by exact rfl) (s0:sp[i0]? =some (B.det N t v):=by exact rfl) (b0:(bf.getD j 0).testBit i0=true:=by exact rfl) (hs:s=B.det N d v:=by exact rfl) (hg:o.guard=none:=by exact rfl) (hd:o.dst=some d:=by exact rfl):Ob ops sp In a0 w0 P bf j o s:=ao (fun c=>aw ho (c.n i0 s0 b0)) hs hg hd
theorem dP {vs:List Value} {i:Nat} (i0:Nat) (ho:o.op= .extract (.tmp t) i:=by exact rfl) (s0:sp[i0]? =some (B.det N t (.tuple vs.toArray)):=by exact rfl) (b0:(bf.getD j 0).testBit i0=true:=by exact rfl) (hi:vs[i]? =some v:=by exact rfl) (hs:s=B.det N d v:=by exact rfl) (hg:o.guard=none:=by exact rfl) (hd:o.dst=some d:=by exact rfl):Ob ops sp In a0 w0 P bf j o s:=ao (fun c=>gI ho (c.n i0 s0 b0) (by simpa using hi)) hs hg hd
theorem cf {ty f off m:Nat} {ft:TypeId} {fs:Array Field} {fd:Field} {p:Addr} (ht:Try.prog.underlying ty=some (.struct fs)) (hz:∀w,(sizeOf ft).run Try.prog w= .ok (m+1) w) (i0:Nat) (q:v= .pointer (some p)) (ho:o.op= .fieldAddr ty (.tmp t) f:=by exact rfl) (s0:sp[i0]? =some (B.det N t v):=by exact rfl) (b0:(bf.getD j 0).testBit i0=true:=by exact rfl) (hf:fs[f]? =some fd:=by exact rfl) (hft:fd.type=ft:=by exact rfl) (hoff:fd.offset=off:=by exact rfl) (hs:s=B.det N d (.pointer (some (p.add off))):=by exact rfl) (hg:o.guard=none:=by exact rfl) (hd:o.dst=some d:=by exact rfl):Ob ops sp In a0 w0 Try.prog bf j o s:=ao (fun c=>nm ho ht hf hoff (fun w=>hft ▸ hz w) ((c.n i0 s0 b0).trans q)) hs hg hd
theorem DS {P:Program} {a:Act} {o:Oper} {w:World} {x:Operand} {v:Value} {p:Addr} (ho:o.op= .nilCheck x) (hx:a.eval x=v) (hv:v= .pointer (some p)):ca P a o w v:=by
  subst hv;simp [ca,execOp,ho,hx]
theorem cK {p:Addr} (i0:Nat) (q:v= .pointer (some p)) (ho:o.op= .nilCheck (.tmp t):=by exact rfl) (s0:sp[i0]? =some (B.det N t v):=by exact rfl) (b0:(bf.getD j 0).testBit i0=true:=by exact rfl) (hs:s=B.det N d v:=by exact rfl) (hg:o.guard=none:=by exact rfl) (hd:o.dst=some d:=by exact rfl):Ob ops sp In a0 w0 P bf j o s:=ao (fun c=>DS ho (c.n i0 s0 b0) q) hs hg hd
theorem bC {b b2:Bool} {t2:Nat} (i0 i2:Nat) (ho:o.op= .pick (.tmp t) (.tmp t2) (.const (.bool false)):=by exact rfl) (s0:sp[i0]? =some (B.det N t (.bool b)):=by exact rfl) (b0:(bf.getD j 0).testBit i0=true:=by exact rfl) (s2:sp[i2]? =some (B.gdet N t2 (b=true) (.bool b2)):=by exact rfl) (b9:(bf.getD j 0).testBit i2=true:=by exact rfl) (hs:s=B.det N d (.bool (b&&b2)):=by exact rfl) (hg:o.guard=none:=by exact rfl) (hd:o.dst=some d:=by exact rfl):Ob ops sp In a0 w0 P bf j o s:=ao (fun c=>nl ho (c.n i0 s0 b0) (fun h=>c.m i2 s2 h b9)) hs hg hd
theorem eB {b b2:Bool} {t2:Nat} (i0 i2:Nat) (ho:o.op= .pick (.tmp t) (.const (.bool true)) (.tmp t2):=by exact rfl) (s0:sp[i0]? =some (B.det N t (.bool b)):=by exact rfl) (b0:(bf.getD j 0).testBit i0=true:=by exact rfl) (s2:sp[i2]? =some (B.gdet N t2 (b=false) (.bool b2)):=by exact rfl) (b9:(bf.getD j 0).testBit i2=true:=by exact rfl) (hs:s=B.det N d (.bool (b || b2)):=by exact rfl) (hg:o.guard=none:=by exact rfl) (hd:o.dst=some d:=by exact rfl):Ob ops sp In a0 w0 P bf j o s:=ao (fun c=>vM ho (c.n i0 s0 b0) (fun h=>c.m i2 s2 h b9)) hs hg hd
theorem fk {ty:TypeId} {bt:Nat} {cells:List Value} {bv:Value} (hz:∀w,(isAgg ty).run Try.prog w= .ok false w) (i0 bx k:Nat) (ho:o.op= .load ty (.tmp t):=by exact rfl) (s0:sp[i0]? =some (B.det N t (.pointer (some ((dF bv).add k)))):=by exact rfl) (b0:(bf.getD j 0).testBit i0=true:=by exact rfl) (hI:In bx=B.ibox bt N bv cells:=by exact rfl) (hl:bF (sp.map (·.tag)) bx j=none:=by exact rfl) (hord:ju (sp.map (·.tag)) bf bx j=true:=by kernel_rfl) (hk:cells[k]? =some v:=by exact rfl) (hs:s=B.det N d v:=by exact rfl) (hg:o.guard=none:=by exact rfl) (hd:o.dst=some d:=by exact rfl):Ob ops sp In a0 w0 Try.prog bf j o s:=ao (fun c=>aB ho hz (c.n i0 s0 b0) ((c.ib bx hI hl hord).cell hk)) hs hg hd
theorem ay {tg:Nat} {b:Bool} (gi:Nat) (hgs:sp[gi]? =some (B.det N tg (.bool b))) (h:∀{done a w τ},Cx ops sp In a0 w0 bf j o done a w τ→b=true→ca P a o w v) (hs:s=B.gdet N t (b=true) v:=by exact rfl) (hg:o.guard=some (gi,true):=by exact rfl) (hd:o.dst=some t:=by exact rfl) (hgd:((ops[gi]?).bind (·.dst))=some tg:=by exact rfl) (hb:(bf.getD j 0).testBit gi=true:=by exact rfl):Ob ops sp In a0 w0 P bf j o s:=ET gi true hgs h hs hg hd hgd hb
theorem bR {tg:Nat} {b:Bool} (gi:Nat) (hgs:sp[gi]? =some (B.det N tg (.bool b))) (h:∀{done a w τ},Cx ops sp In a0 w0 bf j o done a w τ→b=false→ca P a o w v) (hs:s=B.gdet N t (b=false) v:=by exact rfl) (hg:o.guard=some (gi,false):=by exact rfl) (hd:o.dst=some t:=by exact rfl) (hgd:((ops[gi]?).bind (·.dst))=some tg:=by exact rfl) (hb:(bf.getD j 0).testBit gi=true:=by exact rfl):Ob ops sp In a0 w0 P bf j o s:=ET gi false hgs h hs hg hd hgd hb
theorem cu {ty tag t tt off m:Nat} {cells cx:List Value} {x y:Operand} {v:Value} (hsz:∀w,(sizeOf tt).run P w= .ok m w) (hp:∀{done a w τ},Cx ops sp In a0 w0 bf j o done a w τ→cE ty cells (τ tag) (aU a t) w∧a.eval x= .pointer (some ((dF (aU a t)).add off))∧a.eval y=v)
    (hs:s=B.box ty N tag t cx:=by exact rfl) (hg:o.guard=none:=by exact rfl) (hd:o.dst=none:=by exact rfl) (ho:o.op= .store tt x y:=by exact rfl)
    (hm:v.cells.size=m:=by exact rfl) (hfit:off+v.cells.size≤cells.length:=by exact ar rfl) (h1:∀u ∈ v.cells.toList,u.oneCell'=true:=by simp [Value.cells,Value.oneCell',Sv.v]) (hc:cx=cells.take off++v.cells.toList++cells.drop (off+v.cells.size):=by exact rfl):Ob ops sp In a0 w0 P bf j o s:=pW hs hg hd ho (fun w=>hm ▸ hsz w) hfit h1 hc (fun _ _ _ _ c=>hp c)
theorem gp {ty tag t tt off m:Nat} {cells cx:List Value} {x y:Operand} {v:Value} (ho:o.op= .store tt x y) (hsz:∀w,(sizeOf tt).run P w= .ok m w) (hp:∀{done a w τ},Cx ops sp In a0 w0 bf j o done a w τ→cE ty cells (τ tag) (aU a t) w∧a.eval x= .pointer (some ((dF (aU a t)).add off))∧a.eval y=v)
    (hs:s=B.box ty N tag t cx:=by exact rfl) (hg:o.guard=none:=by exact rfl) (hd:o.dst=none:=by exact rfl)
    (hm:v.cells.size=m:=by exact rfl) (hfit:off+v.cells.size≤cells.length:=by exact ar rfl) (h1:∀u ∈ v.cells.toList,u.oneCell'=true:=by simp [Value.cells,Value.oneCell',Sv.v]) (hc:cx=cells.take off++v.cells.toList++cells.drop (off+v.cells.size):=by exact rfl):Ob ops sp In a0 w0 P bf j o s:=pW hs hg hd ho (fun w=>hm ▸ hsz w) hfit h1 hc (fun _ _ _ _ c=>hp c)
end
section
variable {P:Program} {a:Act} {o:Oper} {w:World} {t:TypeId} {x:Operand}
theorem cM {f off:Nat} {fs:Array Field} {fd:Field} {m:Nat} {p:Addr} {ft:TypeId} (ho:o.op= .fieldAddr t x f) (ht:P.underlying t=some (.struct fs)) (hz:∀w,(sizeOf ft).run P w= .ok (m+1) w) (hx:a.eval x= .pointer (some p)) (hf:fs[f]? =some fd:=by exact rfl) (hft:fd.type=ft:=by exact rfl) (hoff:fd.offset=off:=by exact rfl):
    ca P a o w (.pointer (some (p.add off))):=nm ho ht hf hoff (fun w=>hft ▸ hz w) hx
theorem fm {ty m:Nat} {cells:List Value} {T:aX} {v:Value} (ho:o.op= .load t x) (hz:∀w,(isAgg t).run P w= .ok true w) (hm:∀w,(sizeOf t).run P w= .ok m w) (hx:a.eval x= .pointer (some (dF v))) (hb:cE ty cells T v w) (hl:cells.length=m:=by exact rfl):ca P a o w (.agg cells.toArray):=cN ho hz hm hx hl (fun _ _ hj=>hb.cell hj)
end
abbrev tc (t:Tr):List Value:=[.int .i64 t.k,.string t.ch,.bool t.ng,t.rv.v,.int .i64 t.mn,.int .i64 t.mx,.bool t.lz,t.kv.v]
abbrev ta (t:Tr):Value:= .agg #[.int .i64 t.k,.string t.ch,.bool t.ng,t.rv.v,.int .i64 t.mn,.int .i64 t.mx,.bool t.lz,t.kv.v]
theorem gx (a:Act) (t:Nat):∃b,aU a t=b:=⟨_,rfl⟩
theorem rp {G H:Prop} (h:H) (k:H→G:=by (intro h;(repeat with_reducible first | refine zq ?_ | refine ye ?_);exact h)):G:=k h
theorem nf {a:Act} {v0:Value} (h:∀i v,(#[v0]:Array Value)[i]? =some v→aU a i=v):aU a 0=v0:=h 0 _ rfl
theorem qp {a:Act} {v0 v1:Value} (h:∀i v,(#[v0,v1]:Array Value)[i]? =some v→aU a i=v):aU a 0=v0∧aU a 1=v1:=⟨h 0 _ rfl,h 1 _ rfl⟩
theorem FC {a:Act} {v0 v1 v2:Value} (h:∀i v,(#[v0,v1,v2]:Array Value)[i]? =some v→aU a i=v):aU a 0=v0∧aU a 1=v1∧aU a 2=v2:=⟨h 0 _ rfl,h 1 _ rfl,h 2 _ rfl⟩
theorem Fo {a:Act} {v0 v1 v2 v3:Value} (h:∀i v,(#[v0,v1,v2,v3]:Array Value)[i]? =some v→aU a i=v):aU a 0=v0∧aU a 1=v1∧aU a 2=v2∧aU a 3=v3:=⟨h 0 _ rfl,h 1 _ rfl,h 2 _ rfl,h 3 _ rfl⟩
theorem Fp {a:Act} {v0 v1 v2 v3 v4:Value} (h:∀i v,(#[v0,v1,v2,v3,v4]:Array Value)[i]? =some v→aU a i=v):aU a 0=v0∧aU a 1=v1∧aU a 2=v2∧aU a 3=v3∧aU a 4=v4:=⟨h 0 _ rfl,h 1 _ rfl,h 2 _ rfl,h 3 _ rfl,h 4 _ rfl⟩
theorem FE {a:Act} {v0 v1 v2 v3 v4 v5:Value} (h:∀i v,(#[v0,v1,v2,v3,v4,v5]:Array Value)[i]? =some v→aU a i=v):aU a 0=v0∧aU a 1=v1∧aU a 2=v2∧aU a 3=v3∧aU a 4=v4∧aU a 5=v5:=⟨h 0 _ rfl,h 1 _ rfl,h 2 _ rfl,h 3 _ rfl,h 4 _ rfl,h 5 _ rfl⟩
end
section
open Go.RowKit
theorem qd {a:Act} {f:Nat→Option (Nat × Nat)} {z:Array Value}:Instr.fill f z ((#[]:Array (Nat × Operand)).map fun (i,x)=>(i,a.eval x)).toList=some z:=by
  simp only [ec,bJ];rfl
theorem fy {a:Act} {o:Oper} {w:World} {parts:Array (Nat × Operand)} {z:Value} {cells:Array Value} (ho:o.op= .build 32 parts) (hz:∀w,(zeroValue 32).run Try.prog w= .ok z w) (hf:Instr.fill ((#[(0,1),(1,1),(2,1),(3,1),(4,1),(5,1),(6,1),(7,1)]:Array (Nat × Nat))[·]?) z.cells (parts.map fun (i,x)=>(i,a.eval x)).toList=some cells):ca Try.prog a o w (.agg cells):=my ho aC hz (pl:=#[(0,1),(1,1),(2,1),(3,1),(4,1),(5,1),(6,1),(7,1)]) (fun w_=>by simp [cT,ax,gj,bK,bu]) hf
theorem wV {a:Act} {o:Oper} {w:World} {parts:Array (Nat × Operand)} {z:Value} {cells:Array Value} (ho:o.op= .build 35 parts) (hz:∀w,(zeroValue 35).run Try.prog w= .ok z w) (hf:Instr.fill ((#[(0,1),(1,1)]:Array (Nat × Nat))[·]?) z.cells (parts.map fun (i,x)=>(i,a.eval x)).toList=some cells):ca Try.prog a o w (.agg cells):=my ho dE hz (pl:=#[(0,1),(1,1)]) (fun w_=>by simp [ax]) hf
theorem sE {a:Act} {o:Oper} {w:World} {parts:Array (Nat × Operand)} {z:Value} {cells:Array Value} (ho:o.op= .build 38 parts) (hz:∀w,(zeroValue 38).run Try.prog w= .ok z w) (hf:Instr.fill ((#[(0,2),(2,1)]:Array (Nat × Nat))[·]?) z.cells (parts.map fun (i,x)=>(i,a.eval x)).toList=some cells):ca Try.prog a o w (.agg cells):=my ho dq hz (pl:=#[(0,2),(2,1)]) (fun w_=>by simp [cb,ea]) hf
theorem oO {a:Act} {o:Oper} {w:World} {parts:Array (Nat × Operand)} {z:Value} {cells:Array Value} (ho:o.op= .build 47 parts) (hz:∀w,(zeroValue 47).run Try.prog w= .ok z w) (hf:Instr.fill ((#[(0,1),(1,1)]:Array (Nat × Nat))[·]?) z.cells (parts.map fun (i,x)=>(i,a.eval x)).toList=some cells):ca Try.prog a o w (.agg cells):=my ho bE hz (pl:=#[(0,1),(1,1)]) (fun w_=>by simp [bu]) hf
theorem EX {a:Act} {o:Oper} {w:World} {parts:Array (Nat × Operand)} {z:Value} {cells:Array Value} (ho:o.op= .build 73 parts) (hz:∀w,(zeroValue 73).run Try.prog w= .ok z w) (hf:Instr.fill ((#[(0,1),(1,1)]:Array (Nat × Nat))[·]?) z.cells (parts.map fun (i,x)=>(i,a.eval x)).toList=some cells):ca Try.prog a o w (.agg cells):=my ho ba hz (pl:=#[(0,1),(1,1)]) (fun w_=>by simp [cj,ax]) hf
theorem EY {a:Act} {o:Oper} {w:World} {parts:Array (Nat × Operand)} {z:Value} {cells:Array Value} (ho:o.op= .build 79 parts) (hz:∀w,(zeroValue 79).run Try.prog w= .ok z w) (hf:Instr.fill ((#[(0,8),(8,1),(9,1),(10,1)]:Array (Nat × Nat))[·]?) z.cells (parts.map fun (i,x)=>(i,a.eval x)).toList=some cells):ca Try.prog a o w (.agg cells):=my ho aT hz (pl:=#[(0,8),(8,1),(9,1),(10,1)]) (fun w_=>by simp [ax,aq,fe]) hf
theorem EZ {a:Act} {o:Oper} {w:World} {parts:Array (Nat × Operand)} {z:Value} {cells:Array Value} (ho:o.op= .build 81 parts) (hz:∀w,(zeroValue 81).run Try.prog w= .ok z w) (hf:Instr.fill ((#[(0,11),(11,1),(12,1),(13,1),(14,1),(15,1),(16,1)]:Array (Nat × Nat))[·]?) z.cells (parts.map fun (i,x)=>(i,a.eval x)).toList=some cells):ca Try.prog a o w (.agg cells):=my ho aN hz (pl:=#[(0,11),(11,1),(12,1),(13,1),(14,1),(15,1),(16,1)]) (fun w_=>by simp [cj,gM,ax,ea,bK,co]) hf
end
section
open Go.ChangeShapes Go.WideShapes Go.ChangeAt Go.RowKit
def zG {α:Type} (P:Program) (e:TypeId) (E:Enc α):Prop:=
  ∀(H:Type) (enc:TypeId × Value→H) (w:World) (base:Nat) (spare:Nat→Bool) (held:Bool) (n:Nat) (cs:List Value) (y:DataW H × List MemPlace),DataW.trod enc P w base spare held n e cs=some y→∃x:α,cs=E.cells x
section
variable {P:Program} {e:TypeId}
theorem yh {cs:List Value} {v0 v1:Value} (hl:cs.length=2) (h0:cs.take 1=[v0]) (h1:(cs.drop 1).take 1=[v1]):cs=[v0,v1]:=by
  match cs,hl with
  | [a, b], _ => simp at h0 h1; rw [h0, h1]
theorem vS {e':TypeId} (he:P.underlying e=some (.array 2 e')) (ce:P.cellsOf e=2) (c0:P.cellsOf e'=1) (t0:P.underlying e'=some (.int .i64)):zG P e dH:=fun H enc w base spare held n cs y h=>by
  obtain ⟨xs,m,_,_,hl,hn,hx⟩:=DataW.trod_array he h;have h0:=hx 0 (by omega);have h1:=hx 1 (by omega);rw [bw (by omega)] at h0 h1;obtain ⟨a,ha,_⟩:=DataW.trod_int t0 h0;obtain ⟨b,hb,_⟩:=DataW.trod_int t0 h1;simp only [c0,Nat.zero_mul,Nat.one_mul,jI] at ha hb;exact ⟨(a,b),yh (hl.trans ce) ha hb⟩
end
section
variable {P:Program} {W:World} {H:Type} {enc:TypeId × Value→H} {base:Nat} {spare:Nat→Bool} {held:Bool}
theorem uF (a:Option Addr) (l c:Nat):(Value.slice a l c).cells=#[.slice a l c]:=rfl
theorem BQ {α:Type} [Inhabited α] {E:Enc α} {t e:TypeId} (ht:P.underlying t=some (.slice e)) (hC:P.cellsOf e=E.sz) (hE:zG P e E) {r:Reach} {b0:Nat} {v:Value} {d:DataW H} {p:List MemPlace} (hv:Value.okWide P W r b0 t v)
    (h:DataW.Trod enc P W base spare held t v d p):∃xs:List α,SlT E W v xs:=by
  obtain ⟨a,len,cap,rfl⟩:=okWide_slice ht hv;obtain ⟨fuel,hf⟩:=h;rw [uF] at hf;rcases Deep.open_slice ht hf with ⟨h0,_⟩ | ⟨a',len',cap',m,n,D,Pl,h0,hb,hl,hm,hmm,_,hx⟩
  · simp only [List.cons.injEq,Value.slice.injEq,and_true] at h0;obtain ⟨rfl,rfl,rfl⟩:=h0;exact ⟨[],SlT.nil _ _⟩
  · simp only [List.cons.injEq,Value.slice.injEq,and_true] at h0;obtain ⟨rfl,rfl,rfl⟩:=h0;have hlm:len≤m:=by rw [hmm];split <;> omega
    have each:∀i,i < len→∃x:α,W.cells? base (a'.add (i * P.cellsOf e)) (P.cellsOf e)=some (E.cells x):=by
      intro i hi;obtain ⟨cs,h1,h2⟩:=hx i (by omega);obtain ⟨x,rfl⟩:=hE _ _ _ _ _ _ _ _ _ h2;exact ⟨x,h1⟩
    obtain ⟨X,hX⟩:=Deep.choose_lt each;refine ⟨(List.range len).map X,.inr ⟨a',cap,by simp,by simpa using hl,hm⟩,fun j u hj=> ?_⟩;have hlen:j < len * E.sz:=by
      have:=(List.getElem?_eq_some_iff.1 hj).1;rw [E.row_length] at this
      simpa using this
    have hi:j / E.sz < len:=Nat.div_lt_of_lt_mul (by rw [Nat.mul_comm];exact hlen)
    have hr:j % E.sz < E.sz:=Nat.mod_lt _ E.pos
    have hj':j=j / E.sz * E.sz+j % E.sz:=by rw [Nat.mul_comm];exact (Nat.div_add_mod j E.sz).symm
    have hx':((List.range len).map X)[j / E.sz]? =some (X (j / E.sz)):=by simp [hi]
    rw [hj',E.row_get hx' hr] at hj;obtain ⟨_,_,hc⟩:=World.cells?_some (hX _ hi);rw [hC] at hc;have:=hc (j % E.sz) hr;rw [hj] at this
    rw [hj',←add_add];exact this
theorem qR {t:TypeId} (ht:P.underlying t=some (.int .i64)) {r:Reach} {b0:Nat} {v:Value} (hv:Value.okWide P W r b0 t v) {d:DataW H} {p:List MemPlace} (h:DataW.Trod enc P W base spare held t v d p):∃n,v= .int .i64 n∧ -9223372036854775808≤n∧n≤9223372036854775807:=by
  obtain ⟨n,rfl,_,_,hw⟩:=open_int ht hv h;simp [Lit.wf,IntKind.min,IntKind.max,IntKind.signed,IntKind.bits] at hw;exact ⟨n,rfl,hw⟩
theorem oP (hl:laidOutB P=true) {W':World} {sp:Nat→Bool}:∀{ts:List TypeId} {vs:List Value} {ds:List (DataW H)} {p:List MemPlace},(ts.all fun t=>P.readableRec t&&decide (t < P.types.size))=true→
    DataW.TrodAll enc P W 0 (fun _=>true) true ts vs ds p→(∀x ∈ p,W.sameAt W' x)→(∀x ∈ p,sp x.block=true)→DataW.TrodAll enc P W' 0 sp true ts vs ds p
  | [], [], [], _, _, h, _, _ => h
  | [], [], _ :: _, _, _, h, _, _ => h.elim
  | [], _ :: _, _, _, _, h, _, _ => h.elim
  | _ :: _, [], _, _, _, h, _, _ => h.elim
  | _ :: _, _ :: _, [], _, _, h, _, _ => h.elim
  | t :: ts, v :: vs, d :: ds, p, hr, h, h1, h2 => by
    obtain ⟨q,q',a,b,rfl⟩:=h;simp only [dK,am,ah] at hr;exact ⟨q,q',WideElems.Trod_stays hl hr.1.1 hr.1.2 a (fun x hx=>h1 x (by simp [hx])) (fun x hx=>h2 x (by simp [hx])),oP hl hr.2 b (fun x hx=>h1 x (by simp [hx])) (fun x hx=>h2 x (by simp [hx])),rfl⟩
theorem yi {f:Func} {s:ChangeSpec} {apart handsOn:Bool} {W':World} {args:Array Value} {ds gs:List (DataW H)} {before:List MemPlace} {t:TypeId} (hl:laidOutB P=true)
    (hW:DataW.Whole enc P f.params.toList s.vars apart W args.toList ds gs before) (hvars:s.vars=[]) (hread:(f.params.toList.all fun t=>P.readableRec t&&decide (t < P.types.size))=true)
    (hfn:s.fn H ds={ results:=[.lit (.bool true)],args:=ds }) (hrt:f.resultTypes=#[t]) (ht:P.underlying t=some .bool) (hx:Ext bk W W'):s.post enc P f apart true handsOn false W args (.bool true) W':=by
  have hlt:=hW.lt;have hW':=hW;obtain ⟨p,q,hA,hV,rfl,hz,hn⟩:=hW;rw [hvars] at hV;have hgq:gs=[]∧q=[]:=by
    cases gs with
    | nil => exact ⟨rfl, hV⟩
    | cons g gs => exact hV.elim
  obtain ⟨rfl,rfl⟩:=hgq;have hb:=hx.below;refine ⟨ds,[],p++ [],[],p,[],hW',?_,?_,?_,hb.frame _,fun h=>by cases h⟩
  · rw [eb,hfn,hrt];exact trodAll_mk1 (shut_bool ht true)
  · rw [eb,hfn];exact oP hl hread hA (fun x hx=>hb.same (hlt x (by simp [hx]))) (fun x hx=>by simpa using hlt x (by simp [hx]))
  · rw [eb,hfn,hvars];exact rfl
end
end
end B
end Go.Proofs.Ytcfdebjhikahfaa
namespace Go.Proofs.Ytcfdebjhikahfaa
namespace Srt
open B
variable {α:Type}
def fj (xs:List α) (i j:Nat):List α:=(xs.drop i).take (j - i)
theorem ff {xs:List α} {i j:Nat} (h:j≤xs.length):(fj xs i j).length=j - i:=by simp [fj];omega
theorem iB (xs:List α) (i:Nat):fj xs i i=[]:=by simp [fj]
theorem jv {xs:List α} {i j k:Nat} (h1:i≤j) (h2:j≤k):fj xs i k=fj xs i j++fj xs j k:=by
  unfold fj;rw [show k - i=(j - i)+(k - j) by omega,List.take_add,fO,show i+(j - i)=j by omega]
theorem uG {xs:List α} {i j:Nat} (h:i≤j):xs.take j=xs.take i++fj xs i j:=by
  unfold fj;conv=>lhs;rw [show j=i+(j - i) by omega,List.take_add]
theorem np {xs:List α} {i j:Nat} (h:i≤j):xs.drop i=fj xs i j++xs.drop j:=by
  unfold fj;conv=>lhs;rw [←cw (j - i) (xs.drop i),fO,show i+(j - i)=j by omega]
theorem qS {xs:List α} {i j:Nat} (h:i≤j):xs=xs.take i++fj xs i j++xs.drop j:=by
  rw [cY,←np h,cw]
theorem tH {xs:List α} {i j k:Nat} (h:k < j - i):(fj xs i j)[k]? =xs[i+k]? :=by
  simp [fj,h,ik]
theorem nA {xs:List α} {i j:Nat} {x:α} (h:x ∈ fj xs i j):∃k,i≤k∧k < j∧xs[k]? =some x:=by
  obtain ⟨k,hk⟩:=List.getElem?_of_mem h;have hlt:k < j - i:=by
    have:=(List.getElem?_eq_some_iff.1 hk).1;simp [fj] at this;omega
  rw [tH hlt] at hk;exact ⟨i+k,by omega,by omega,hk⟩
theorem nB {A B C:List α} {i j:Nat} (hi:A.length=i) (hj:i+B.length=j):fj (A++B++C) i j=B:=by
  subst hi;unfold fj;rw [cY,List.drop_left,show j - A.length=B.length by omega,nh]
section order
variable (lt:α→α→Bool)
structure Swo:Prop where
  asym:∀x y,lt x y=true→lt y x=false
  neg:∀x y z,lt x y=false→lt y z=false→lt x z=false
def kK:List α→List α→List α
  | [], ys => ys
  | x :: xs, [] => x :: xs
  | x :: xs, y :: ys => if lt y x then y :: kK (x :: xs) ys else x :: kK xs (y :: ys)
termination_by xs ys=>xs.length+ys.length
variable {lt}
theorem iv (ys:List α):kK lt [] ys=ys:=by simp [kK]
theorem iE (xs:List α):kK lt xs []=xs:=by cases xs <;> simp [kK]
theorem ow:∀(n:Nat) (L R:List α),L.length+R.length≤n→(kK lt L R).length=L.length+R.length
  | _, [], R, _ => by simp [kK]
  | _, l :: L, [], _ => by simp [kK]
  | 0, l :: L, r :: R, h => by simp at h
  | n + 1, l :: L, r :: R, h => by
    simp only [bD] at h;rw [kK];split
    · simp only [bD,ow n (l::L) R (by simp;omega)];omega
    · simp only [bD,ow n L (r::R) (by simp;omega)];omega
theorem qq (L R:List α):(kK lt L R).length=L.length+R.length:=ow _ L R (bd _)
theorem qT:∀(n:Nat) (L R:List α),L.length+R.length≤n→(kK lt L R).Perm (L++R)
  | _, [], R, _ => by simp [kK]
  | _, l :: L, [], _ => by simp [kK]
  | 0, l :: L, r :: R, h => by simp at h
  | n + 1, l :: L, r :: R, h => by
    simp only [bD] at h;rw [kK];split
    · refine (List.Perm.cons r (qT n (l::L) R (by simp;omega))).trans ?_;exact (List.perm_middle (l₁:=l::L) (l₂:=R) (a:=r)).symm
    · exact List.Perm.cons l (qT n L (r::R) (by simp;omega))
theorem wW {L R:List α} {x:α}:x ∈ kK lt L R↔x ∈ L∨x ∈ R:=by
  rw [(qT _ L R (bd _)).mem_iff,List.mem_append]
theorem lZ:∀(n:Nat) (L1 R1 L2 R2:List α),L1.length+R1.length≤n→(∀r ∈ R1,∀l ∈ L2,lt r l=true)→(∀l ∈ L1,∀r ∈ R2,lt r l=false)→
    kK lt (L1++L2) (R1++R2)=kK lt L1 R1++kK lt L2 R2
  | _, [], [], L2, R2, _, _, _ => by simp [iv]
  | 0, [], r :: R1, L2, R2, h, _, _ => by simp at h
  | 0, l :: L1, R1, L2, R2, h, _, _ => by simp at h
  | n + 1, [], r :: R1, L2, R2, h, h1, h2 => by
    cases L2 with
    | nil => simp [iv]
    | cons l L2 =>
      have hr:lt r l=true:=h1 r (by simp) l (by simp);have ih:=lZ n [] R1 (l::L2) R2 (by simp at h ⊢;omega) (fun r hr=>h1 r (by simp [hr])) (fun l hl=>by simp at hl);simp only [es,iv] at ih ⊢;rw [ed,kK,if_pos hr,ih,ed]
  | n + 1, l :: L1, [], L2, R2, h, h1, h2 => by
    cases R2 with
    | nil => simp [iE]
    | cons r R2 =>
      have hr:lt r l=false:=h2 l (by simp) r (by simp);have ih:=lZ n L1 [] L2 (r::R2) (by simp at h ⊢;omega) (fun r hr=>by simp at hr) (fun l hl=>h2 l (by simp [hl]));simp only [es,iE] at ih ⊢;rw [ed,kK,if_neg (by simp [hr]),ih,ed]
  | n + 1, l :: L1, r :: R1, L2, R2, h, h1, h2 => by
    simp only [ed];rw [kK];split
    · rename_i hr;have ih:=lZ n (l::L1) R1 L2 R2 (by simp at h ⊢;omega) (fun r hr=>h1 r (by simp [hr])) h2;rw [ed] at ih;rw [ih,kK,if_pos hr,ed]
    · rename_i hr;have ih:=lZ n L1 (r::R1) L2 R2 (by simp at h ⊢;omega) h1 (fun l hl=>h2 l (by simp [hl]));rw [ed] at ih;rw [ih,kK,if_neg hr,ed]
theorem nC {L1 R1 L2 R2:List α} (h1:∀r ∈ R1,∀l ∈ L2,lt r l=true) (h2:∀l ∈ L1,∀r ∈ R2,lt r l=false):kK lt (L1++L2) (R1++R2)=kK lt L1 R1++kK lt L2 R2:=
  lZ _ L1 R1 L2 R2 (bd _) h1 h2
theorem tI {x:α} {R:List α} (h:∀r ∈ R,lt r x=false):kK lt [x] R=x::R:=by
  cases R with
  | nil => simp [kK]
  | cons r R => rw [kK, if_neg (by simp [h r (by simp)]), iv]
theorem sj {y:α} {L:List α} (h:∀l ∈ L,lt y l=true):kK lt L [y]=y::L:=by
  cases L with
  | nil => simp [kK]
  | cons l L => rw [kK, if_pos (h l (by simp)), iE]
def fb (lt:α→α→Bool) (xs:List α):Prop:=xs.Pairwise fun x y=>lt y x=false
def lN (lt:α→α→Bool) (x:α):List α→List α
  | [] => [x]
  | y :: ys => if lt x y then y :: lN lt x ys else x :: y :: ys
def vT (lt:α→α→Bool) (x:α) (ys:List α):List α:=(lN lt x ys.reverse).reverse
def cr (lt:α→α→Bool) (xs:List α):List α:=xs.foldl (fun acc x=>vT lt x acc) []
theorem oQ {x:α}:∀{Q P:List α},(∀q ∈ Q,lt x q=true)→(∀p,P.head? =some p→lt x p=false)→lN lt x (Q++P)=Q++x::P
  | [], [], _, _ => rfl
  | [], p :: P, _, h => by simp [lN, h p rfl]
  | q :: Q, P, h1, h2 => by
    rw [ed,lN,if_pos (h1 q (by simp)),oQ (fun q hq=>h1 q (by simp [hq])) h2,ed]
theorem nD {x:α} {P Q:List α} (h1:∀q ∈ Q,lt x q=true) (h2:∀p,P.getLast? =some p→lt x p=false):vT lt x (P++Q)=P++x::Q:=by
  unfold vT;rw [List.reverse_append,oQ (fun q hq=>h1 q (by simpa using hq)) (fun p hp=>h2 p (by simpa using hp))];simp
theorem iP (xs:List α) (x:α):cr lt (xs++ [x])=vT lt x (cr lt xs):=by simp [cr]
theorem pC:cr lt ([]:List α)=[]:=rfl
theorem qe (x:α):∀ys:List α,(lN lt x ys).Perm (x::ys)
  | [] => List.Perm.refl _
  | y :: ys => by
    rw [lN];split
    · exact (List.Perm.cons y (qe x ys)).trans (List.Perm.swap x y ys)
    · exact List.Perm.refl _
theorem zH (x:α) (ys:List α):(vT lt x ys).Perm (x::ys):=by
  unfold vT;refine (List.reverse_perm _).trans ((qe x _).trans ?_);exact List.Perm.cons x (List.reverse_perm ys)
theorem eQ {motive:List α→Prop} (h0:motive []) (h1:∀xs x,motive xs→motive (xs++ [x])) (xs:List α):motive xs:=by
  rw [←List.reverse_reverse xs];generalize xs.reverse=ys;induction ys with
  | nil => exact h0
  | cons y ys ih => rw [List.reverse_cons]; exact h1 _ _ ih
theorem mE (xs:List α):(cr lt xs).Perm xs:=by
  induction xs using eQ with
  | h0 => exact List.Perm.refl _
  | h1 xs x ih =>
    rw [iP];exact (zH x _).trans ((List.Perm.cons x ih).trans (List.perm_append_singleton x xs).symm)
theorem fg (xs:List α):(cr lt xs).length=xs.length:=(mE xs).length_eq
theorem vU (hw:Swo lt) (x:α) {xs:List α} (hs:fb lt xs):∃P Q,xs=P++Q∧(∀p ∈ P,lt x p=false)∧(∀q ∈ Q,lt x q=true):=by
  induction xs with
  | nil => exact ⟨[], [], rfl, by simp, by simp⟩
  | cons y ys ih =>
    obtain ⟨P,Q,rfl,h1,h2⟩:=ih (List.pairwise_cons.1 hs).2;by_cases h:lt x y=true
    · refine ⟨[],y::(P++Q),rfl,by simp,fun q hq=> ?_⟩;rcases List.mem_cons.1 hq with rfl | hq
      · exact h
      · rcases List.mem_append.1 hq with hq | hq
        · cases hc:lt x q with
          | true => rfl
          | false =>
            have:=hw.neg x q y hc ((List.pairwise_cons.1 hs).1 q (by simp [hq]));rw [h] at this;cases this
        · exact h2 q hq
    · refine ⟨y::P,Q,rfl,fun p hp=> ?_,h2⟩;rcases List.mem_cons.1 hp with rfl | hp
      · simpa using h
      · exact h1 p hp
theorem ox {x:α} {P Q:List α} (h1:∀p ∈ P,lt x p=false) (h2:∀q ∈ Q,lt x q=true):vT lt x (P++Q)=P++x::Q:=
  nD h2 fun p hp=>h1 p (List.mem_of_getLast? hp)
theorem vV (hw:Swo lt) {x:α} {xs:List α} (hs:fb lt xs):fb lt (vT lt x xs):=by
  obtain ⟨P,Q,rfl,h1,h2⟩:=vU hw x hs;rw [ox h1 h2];have h3:=List.pairwise_append.1 hs;refine List.pairwise_append.2 ⟨h3.1,List.pairwise_cons.2 ⟨fun q hq=>hw.asym x q (h2 q hq),h3.2.1⟩,fun p hp q hq=> ?_⟩;rcases List.mem_cons.1 hq with rfl | hq
  · exact h1 p hp
  · exact h3.2.2 p hp q hq
theorem jP (hw:Swo lt) (xs:List α):fb lt (cr lt xs):=by
  induction xs using eQ with
  | h0 => exact List.Pairwise.nil
  | h1 xs x ih => rw [iP]; exact vV hw ih
theorem BR (hw:Swo lt) {x:α} {L R:List α} (hL:fb lt L) (hR:fb lt R):kK lt L (vT lt x R)=vT lt x (kK lt L R):=by
  obtain ⟨PA,QA,rfl,a1,a2⟩:=vU hw x hL;obtain ⟨PB,QB,rfl,b1,b2⟩:=vU hw x hR;have lo:∀p q,lt x p=false→lt x q=true→lt p q=true:=fun p q hp hq=>by
    cases hc:lt p q with
    | true => rfl
    | false => have := hw.neg x p q hp hc; rw [hq] at this; cases this
  have lo':∀p q,lt x p=false→lt x q=true→lt q p=false:=fun p q hp hq=>hw.asym p q (lo p q hp hq);rw [nC (L1:=PA) (L2:=QA) (R1:=PB) (R2:=QB) (fun r hr l hl=>lo r l (b1 r hr) (a2 l hl)) (fun l hl r hr=>lo' l r (a1 l hl) (b2 r hr))];rw [ox b1 b2,show PB++x::QB=(PB++ [x])++QB by simp];rw [nC (L1:=PA) (L2:=QA) (R1:=PB++ [x]) (R2:=QB) (fun r hr l hl=>by
    rcases List.mem_append.1 hr with hr | hr
    · exact lo r l (b1 r hr) (a2 l hl)
    · simp at hr;subst hr;exact a2 l hl) (fun l hl r hr=>lo' l r (a1 l hl) (b2 r hr))]
  have e:kK lt PA (PB++ [x])=kK lt PA PB++ [x]:=by
    have:=nC (lt:=lt) (L1:=PA) (L2:=[]) (R1:=PB) (R2:=[x]) (fun r _ l hl=>by simp at hl) (fun l hl r hr=>by simp at hr;subst hr;exact a1 l hl);simpa [iv] using this
  rw [e,ox (P:=kK lt PA PB) (Q:=kK lt QA QB) (fun p hp=>by rcases wW.1 hp with h | h;exact a1 p h;exact b1 p h) (fun q hq=>by rcases wW.1 hq with h | h;exact a2 q h;exact b2 q h)];simp
theorem yj (hw:Swo lt) (A B:List α):kK lt (cr lt A) (cr lt B)=cr lt (A++B):=by
  induction B using eQ with
  | h0 => simp [pC, iE]
  | h1 xs x ih => rw [iP, BR hw (jP hw A) (jP hw xs), ih, ← cY, iP]
end order
end Srt
end Go.Proofs.Ytcfdebjhikahfaa
namespace Go.Proofs.Ytcfdebjhikahfaa
namespace Srt
open B
variable {α:Type} [Inhabited α]
def yk (xs:List α) (i j:Int):List α:=(xs.set i.toNat (nth xs j)).set j.toNat (nth xs i)
theorem oR (xs:List α) (i j:Int):(yk xs i j).length=xs.length:=by simp [yk]
theorem kG {A B:List α} {x:α} {i:Int} (h:A.length=i.toNat):nth (A++x::B) i=x:=by
  simp [nth,List.getD,iL (show A.length≤i.toNat by omega),h]
theorem zI {A M C:List α} {x y:α} {i j:Int} (hi:A.length=i.toNat) (hj:A.length+1+M.length=j.toNat):yk (A++x::(M++y::C)) i j=A++y::(M++x::C):=by
  have e1:nth (A++x::(M++y::C)) i=x:=kG hi;have e2:nth (A++x::(M++y::C)) j=y:=by
    have:=kG (A:=A++x::M) (B:=C) (x:=y) (i:=j) (by simp;omega);simpa using this
  unfold yk;rw [e1,e2,←hi,←hj];rw [eA _ _ (bd _)];simp only [jJ,kS];rw [eA _ _ (by omega),show A.length+1+M.length - A.length=M.length+1 by omega];simp only [List.set_cons_succ];rw [eA _ _ (bd _)];simp
theorem zJ {A M C:List α} {x y:α} {i j:Int} (hi:A.length=i.toNat) (hj:A.length+1+M.length=j.toNat):yk (A++x::(M++y::C)) j i=A++y::(M++x::C):=by
  have e1:nth (A++x::(M++y::C)) i=x:=kG hi;have e2:nth (A++x::(M++y::C)) j=y:=by
    have:=kG (A:=A++x::M) (B:=C) (x:=y) (i:=j) (by simp;omega);simpa using this
  unfold yk;rw [e1,e2,←hi,←hj];rw [eA _ _ (by omega),show A.length+1+M.length - A.length=M.length+1 by omega];simp only [List.set_cons_succ];rw [eA _ _ (bd _)];simp only [jJ,kS];rw [eA _ _ (bd _)];simp
def nS (xs:List α) (a b:Nat):Nat→List α
  | 0 => xs
  | n + 1 => yk (nS xs a b n) ((a : Int) + n) ((b : Int) + n)
theorem tJ (xs:List α) (a b n:Nat):(nS xs a b n).length=xs.length:=by
  induction n with
  | zero => rfl
  | succ n ih => rw [nS, oR, ih]
theorem fT {xs:List α} {n:Nat} (h:n < xs.length):xs.drop n=nth xs (n:Int)::xs.drop (n+1):=by
  rw [ej h];simp [nth,List.getD,bw h]
theorem ld {xs:List α} {k:Nat} (h:k < xs.length):xs.take (k+1)=xs.take k++ [nth xs (k:Int)]:=by
  rw [jK h];simp [nth,List.getD,bw h]
theorem zL {A U M V B:List α} {a b k:Nat} (hA:A.length=a) (hU:U.length=k) (hV:V.length=k) (hM:A.length+k+M.length=b):
    ∀n,n≤k→nS (A++(U++(M++(V++B)))) a b n=A++(V.take n++(U.drop n++(M++(U.take n++(V.drop n++B))))):=by
  intro n;induction n with
  | zero => intro _; simp [nS]
  | succ n ih =>
    intro hn;rw [nS,ih (by omega),fT (xs:=U) (by omega),fT (xs:=V) (by omega),ld (xs:=U) (by omega),ld (xs:=V) (by omega)];have:=zI (A:=A++V.take n) (M:=U.drop (n+1)++(M++U.take n)) (C:=V.drop (n+1)++B) (x:=nth U (n:Int)) (y:=nth V (n:Int)) (i:=(a:Int)+n) (j:=(b:Int)+n)
      (by simp;omega) (by simp;omega)
    simpa using this
theorem nE {A U M V B:List α} {a b k:Nat} (hA:A.length=a) (hU:U.length=k) (hV:V.length=k) (hM:A.length+k+M.length=b):
    nS (A++(U++(M++(V++B)))) a b k=A++(V++(M++(U++B))):=by
  rw [zL hA hU hV hM k (bd _)];simp [bz (show U.length≤k by omega),bz (show V.length≤k by omega),dI (show U.length≤k by omega),dI (show V.length≤k by omega)]
def oy:Nat→List α→Nat→Nat→Nat→List α
  | 0, xs, m, i, _ => nS xs (m - i) m i
  | f + 1, xs, m, i, j => if i = j then nS xs (m - i) m i else if j < i then oy f (nS xs (m - i) m j) m (i - j) j else oy f (nS xs (m - i) (m + j - i) i) m i (j - i)
theorem yl:∀(f:Nat) (A U V B:List α) (m i j:Nat),U.length=i→V.length=j→A.length+i=m→1≤i→1≤j→i+j≤f+2→
    oy f (A++(U++(V++B))) m i j=A++(V++(U++B)):=by
  intro f;induction f with
  | zero =>
    intro A U V B m i j hU hV hm hi hj hf;obtain rfl:i=1:=by omega
    obtain rfl:j=1:=by omega
    rw [oy];have:=nE (A:=A) (U:=U) (M:=[]) (V:=V) (B:=B) (a:=m - 1) (b:=m) (k:=1) (by omega) hU hV (by simp;omega);simpa using this
  | succ f ih =>
    intro A U V B m i j hU hV hm hi hj hf;rw [oy];split
    · rename_i h;subst h;have:=nE (A:=A) (U:=U) (M:=[]) (V:=V) (B:=B) (a:=m - i) (b:=m) (k:=i) (by omega) hU hV (by simp;omega);simpa using this
    · split
      · rename_i h0 h;have eU:U=U.take j++U.drop j:=(cw j U).symm;have h1:=nE (A:=A) (U:=U.take j) (M:=U.drop j) (V:=V) (B:=B) (a:=m - i) (b:=m) (k:=j) (by omega) (by simp;omega) hV (by simp;omega);have e:A++(U++(V++B))=A++(U.take j++(U.drop j++(V++B))):=by rw [←cY (List.take j U),←eU]
        rw [e,h1];have h2:=ih (A++V) (U.drop j) (U.take j) B m (i - j) j (by simp;omega) (by simp;omega) (by simp;omega) (by omega) hj (by omega);simp only [cY] at h2;rw [h2,←cY (List.take j U),←eU]
      · rename_i h0 h;have eV:V=V.take (j - i)++V.drop (j - i):=(cw (j - i) V).symm;have h1:=nE (A:=A) (U:=U) (M:=V.take (j - i)) (V:=V.drop (j - i)) (B:=B) (a:=m - i) (b:=m+j - i) (k:=i) (by omega) hU (by simp;omega) (by simp;omega);have e:A++(U++(V++B))=A++(U++(V.take (j - i)++(V.drop (j - i)++B))):=by rw [←cY (List.take (j - i) V),←eV]
        rw [e,h1];have h2:=ih A (V.drop (j - i)) (V.take (j - i)) (U++B) m i (j - i) (by simp;omega) (by simp;omega) hm hi (by omega) (by omega);rw [h2,←cY (List.take (j - i) V),←eV]
theorem ym (f:Nat) (xs:List α) (m i:Nat):oy f xs m i i=nS xs (m - i) m i:=by
  cases f <;> simp [oy]
theorem wX {f:Nat} {xs:List α} {m i j:Nat} (h:j < i) (hf:1≤f):oy f xs m i j=oy (f - 1) (nS xs (m - i) m j) m (i - j) j:=by
  obtain ⟨f,rfl⟩:∃f',f=f'+1:=⟨f - 1,by omega⟩;rw [oy,if_neg (by omega),if_pos h];rfl
theorem wY {f:Nat} {xs:List α} {m i j:Nat} (h:i < j) (hf:1≤f):oy f xs m i j=oy (f - 1) (nS xs (m - i) (m+j - i) i) m i (j - i):=by
  obtain ⟨f,rfl⟩:∃f',f=f'+1:=⟨f - 1,by omega⟩;rw [oy,if_neg (by omega),if_neg (by omega)];rfl
def eI (xs:List α) (a m b:Nat):List α:=xs.take a++fj xs m b++fj xs a m++xs.drop b
theorem BS {xs:List α} {a m b f:Nat} (h1:a < m) (h2:m < b) (h3:b≤xs.length) (hf:b - a≤f+2):oy f xs m (m - a) (b - m)=eI xs a m b:=by
  have e:xs=xs.take a++(fj xs a m++(fj xs m b++xs.drop b)):=by
    conv=>lhs;rw [qS (xs:=xs) (i:=a) (j:=b) (by omega),jv (j:=m) (by omega) (by omega)]
    simp
  conv=>lhs;rw [e]
  rw [yl f _ _ _ _ m (m - a) (b - m) (ff (by omega)) (ff h3) (by simp;omega) (by omega) (by omega) (by omega)];simp [eI]
theorem cD {xs:List α} {a m b:Nat} (h1:a≤m) (h2:m≤b) (h3:b≤xs.length):(eI xs a m b).length=xs.length:=by
  simp [eI,ff h3,ff (show m≤xs.length by omega)];omega
theorem cH {xs:List α} {a m b:Nat} (h1:a≤m) (h2:m≤b) (h:¬(a < m∧m < b)):eI xs a m b=xs:=by
  have:a=m∨m=b:=by omega
  rcases this with rfl | rfl
  · rw [eI,iB,eb];exact (qS h2).symm
  · rw [eI,iB,eb];exact (qS h1).symm
section order
variable (lt:α→α→Bool)
def zM (a:Nat):Nat→List α→List α
  | 0, xs => xs
  | j + 1, xs => if a < j + 1 ∧ lt (nth xs ((j : Int) + 1)) (nth xs (j : Int)) = true then zM a j (yk xs ((j : Int) + 1) (j : Int)) else xs
variable {lt}
theorem wZ (a:Nat):∀(j:Nat) (xs:List α),(zM lt a j xs).length=xs.length
  | 0, _ => rfl
  | j + 1, xs => by
    rw [zM];split
    · rw [wZ a j,oR]
    · rfl
theorem uH {a j:Nat} {xs:List α} (h1:a < j) (h2:lt (nth xs (j:Int)) (nth xs ((j:Int) - 1))=true):zM lt a j xs=zM lt a (j - 1) (yk xs (j:Int) ((j:Int) - 1)):=by
  obtain ⟨j,rfl⟩:∃j',j=j'+1:=⟨j - 1,by omega⟩;have e:((j+1:Nat):Int) - 1=(j:Int):=by omega
  have e2:((j+1:Nat):Int)=(j:Int)+1:=by omega
  rw [e,e2] at h2;rw [zM,if_pos ⟨h1,h2⟩,e,e2];rfl
theorem qU {a j:Nat} {xs:List α} (h:¬(a < j∧lt (nth xs (j:Int)) (nth xs ((j:Int) - 1))=true)):zM lt a j xs=xs:=by
  cases j with
  | zero => rfl
  | succ j =>
    have e:((j+1:Nat):Int) - 1=(j:Int):=by omega
    have e2:((j+1:Nat):Int)=(j:Int)+1:=by omega
    rw [e,e2] at h;rw [zM,if_neg h]
theorem zN {A D:List α} {x:α} {a:Nat} (hA:A.length=a):∀(n:Nat) (P Q:List α),P.length=n→(∀q ∈ Q,lt x q=true)→zM lt a (a+n) (A++(P++x::(Q++D)))=A++(vT lt x (P++Q)++D):=by
  intro n;induction n with
  | zero =>
    intro P Q hP hQ;obtain rfl:P=[]:=bA hP;rw [qU (by omega),nD hQ (by simp)];simp
  | succ n ih =>
    intro P Q hP hQ;obtain ⟨P',y,rfl⟩:∃P' y,P=P'++ [y]:=⟨P.dropLast,P.getLast (by intro e;simp [e] at hP),(iw _).symm⟩;simp at hP;have e1:nth (A++(P'++ [y]++x::(Q++D))) ((a+(n+1):Nat):Int)=x:=by
      have:=kG (A:=A++(P'++ [y])) (B:=Q++D) (x:=x) (i:=((a+(n+1):Nat):Int)) (by simp;omega);simpa using this
    have e2:nth (A++(P'++ [y]++x::(Q++D))) (((a+(n+1):Nat):Int) - 1)=y:=by
      have:=kG (A:=A++P') (B:=x::(Q++D)) (x:=y) (i:=((a+(n+1):Nat):Int) - 1) (by simp;omega);simpa using this
    by_cases h:lt x y=true
    · rw [uH (by omega) (by rw [e1,e2];exact h)];have h1:=zJ (A:=A++P') (M:=[]) (C:=Q++D) (x:=y) (y:=x) (i:=((a+(n+1):Nat):Int) - 1) (j:=((a+(n+1):Nat):Int)) (by simp;omega) (by simp;omega);have h2:yk (A++(P'++ [y]++x::(Q++D))) ((a+(n+1):Nat):Int) (((a+(n+1):Nat):Int) - 1)=A++(P'++x::((y::Q)++D)):=by simpa using h1
      rw [h2,show a+(n+1) - 1=a+n by omega,ih P' (y::Q) hP (fun q hq=>by rcases List.mem_cons.1 hq with rfl | hq;exact h;exact hQ q hq)];simp
    · rw [qU (by rw [e1,e2];exact fun hh=>h hh.2),nD hQ (fun p hp=>by simp at hp;subst hp;simpa using h)];simp
variable (lt)
def lf (a:Nat):Nat→List α→List α
  | 0, xs => xs
  | n + 1, xs => zM lt a (a + 1 + n) (lf a n xs)
variable {lt}
theorem qV (a:Nat):∀(n:Nat) (xs:List α),(lf lt a n xs).length=xs.length
  | 0, _ => rfl
  | n + 1, xs => by rw [lf, wZ, qV a n]
theorem ma {xs:List α} {i j:Nat} (h1:i≤j) (h2:j < xs.length):fj xs i (j+1)=fj xs i j++ [nth xs (j:Int)]:=by
  rw [jv (j:=j) h1 (by omega)];congr 1;unfold fj;rw [fT h2,show j+1 - j=1 by omega];simp
theorem uI {xs:List α} {a:Nat}:∀n,a+1+n≤xs.length→lf lt a n xs=xs.take a++(cr lt (fj xs a (a+1+n))++xs.drop (a+1+n)):=by
  intro n;induction n with
  | zero =>
    intro h;rw [lf,jG,ma (bd _) (by omega),iB,es];have:cr lt [nth xs (a:Int)]=[nth xs (a:Int)]:=rfl;rw [this];conv=>lhs;rw [←cw a xs,fT (show a < xs.length by omega)]
    simp
  | succ n ih =>
    intro h;rw [lf,ih (by omega),fT (show a+1+n < xs.length by omega)];have hl:(cr lt (fj xs a (a+1+n))).length=n+1:=by rw [fg,ff (by omega)];omega
    have:=zN (lt:=lt) (A:=xs.take a) (D:=xs.drop (a+1+n+1)) (x:=nth xs ((a+1+n:Nat):Int)) (a:=a) (by simp;omega) (n+1) (cr lt (fj xs a (a+1+n))) [] hl (by simp);simp only [es,eb] at this
    rw [show a+1+n=a+(n+1) by omega] at this ⊢
    rw [this,show a+1+(n+1)=a+(n+1)+1 by omega,ma (show a≤a+(n+1) by omega) (by omega),iP]
def oS (lt:α→α→Bool) (xs:List α) (a b:Nat):List α:=xs.take a++(cr lt (fj xs a b)++xs.drop b)
theorem zO {xs:List α} {a b:Nat} (h1:a≤b) (h2:b≤xs.length):(oS lt xs a b).length=xs.length:=by
  simp [oS,fg,ff h2];omega
theorem yn {xs:List α} {a b:Nat} (h1:a≤b) (h2:b≤xs.length):lf lt a (b - (a+1)) xs=oS lt xs a b:=by
  by_cases h:a=b
  · subst h;rw [show a - (a+1)=0 by omega,lf,oS,iB,pC,es,cw]
  · rw [uI _ (by omega),oS,show a+1+(b - (a+1))=b by omega]
def mF (lt:α→α→Bool) (xs:List α) (a m b:Nat):List α:=xs.take a++(kK lt (fj xs a m) (fj xs m b)++xs.drop b)
theorem fY {xs:List α} {a m b:Nat} (h1:a≤m) (h2:m≤b) (h3:b≤xs.length):(mF lt xs a m b).length=xs.length:=by
  simp [mF,qq,ff h3,ff (show m≤xs.length by omega)];omega
theorem cV {xs:List α} {a m b:Nat} (h1:a≤m) (h2:m≤b) (h:¬(a < m∧m < b)):mF lt xs a m b=xs:=by
  have:a=m∨m=b:=by omega
  rcases this with rfl | rfl
  · rw [mF,iB,iv,←cY];exact (qS h2).symm
  · rw [mF,iB,iE,←cY];exact (qS h1).symm
end order
end Srt
end Go.Proofs.Ytcfdebjhikahfaa
