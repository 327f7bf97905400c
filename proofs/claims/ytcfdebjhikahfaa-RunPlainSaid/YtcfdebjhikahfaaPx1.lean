import Derived.WalkKit
import Derived.WalkSpells
import Derived.WalkLawsBesides
import Derived.Deep.Draws
import Derived.Lib.Slices
import Derived.Deep.Slices
import Derived.Lib.SliceRun
import Derived.Lib.AppendStr
import Derived.Lib.ConvBytes
import Derived.Laws.Strings
import Derived.Laws.IdiomStrings
import Derived.Test.YtcfdebjhikahfaaChecked
import Derived.ProofKit
import Derived.WideKeyArgs
import Derived.OpenShut
set_option linter.unusedSimpArgs false
set_option linter.unusedVariables false
set_option linter.unusedSectionVars false
namespace Go.Proofs.Ytcfdebjhikahfaa
namespace B
section
open Go.RowKit
abbrev aO:=@Array.getD_eq_getD_getElem?
abbrev jM:=@Array.getElem?_append_left
abbrev kj:=@Array.getElem?_eq_getElem
abbrev jn:=@Array.getElem?_setIfInBounds
abbrev ef:=@Array.length_toList
abbrev aM:=@Bool.and_eq_false_iff
abbrev ao:=@Bool.and_eq_true
abbrev eK:=@Bool.eq_iff_iff
abbrev gd:=@Bool.false_or
abbrev aI:=@Bool.not_eq_true
abbrev ax:=@Bool.not_eq_true'
abbrev jK:=@Bool.not_false
abbrev je:=@Bool.not_true
abbrev aH:=@Bool.or_eq_false_iff
abbrev ba:=@Bool.or_eq_true
abbrev fq:=@Bool.true_and
abbrev jL:=@Int.fdiv_eq_ediv_of_nonneg
abbrev ei:=@Int.le_refl
abbrev gN:=@Int.toNat_natCast
abbrev dg:=@List.all_cons
abbrev cK:=@List.all_eq_true
abbrev ep:=@List.all_nil
abbrev gM:=@List.append_assoc
abbrev fO:=@List.append_nil
abbrev kO:=@List.cons_append
abbrev kK:=@List.countP_cons
abbrev kN:=@List.drop_append
abbrev dK:=@List.drop_eq_getElem_cons
abbrev ed:=@List.drop_of_length_le
abbrev iI:=@List.drop_zero
abbrev bB:=@List.eq_nil_of_length_eq_zero
abbrev jN:=@List.getD_eq_getElem?_getD
abbrev fN:=@List.getElem?_append_left
abbrev fC:=@List.getElem?_append_right
abbrev iv:=@List.getElem?_drop
abbrev bm:=@List.getElem?_eq_getElem
abbrev iT:=@List.getElem?_eq_none
abbrev eV:=@List.getElem?_take_of_lt
abbrev gL:=@List.getElem?_toArray
abbrev kP:=@List.getElem_mem
abbrev ic:=@List.getElem_of_mem
abbrev bK:=@List.length_append
abbrev bi:=@List.length_cons
abbrev dH:=@List.length_drop
abbrev en:=@List.length_map
abbrev bG:=@List.length_nil
abbrev dm:=@List.length_set
abbrev cD:=@List.length_take
abbrev bA:=@List.map_append
abbrev gk:=@List.map_congr_left
abbrev aZ:=@List.map_cons
abbrev jx:=@List.map_map
abbrev bF:=@List.map_nil
abbrev dR:=@List.map_toArray
abbrev fT:=@List.mem_of_getElem?
abbrev gS:=@List.mem_of_mem_drop
abbrev fc:=@List.nil_append
abbrev kL:=@List.range'_succ
abbrev iG:=@List.size_toArray
abbrev fh:=@List.takeWhile_cons
abbrev hH:=@List.take_append
abbrev eQ:=@List.take_append_drop
abbrev gp:=@List.take_append_of_le_length
abbrev kM:=@List.take_length
abbrev bL:=@List.take_of_length_le
abbrev ju:=@List.take_succ_cons
abbrev iH:=@List.take_succ_eq_append_getElem
abbrev eL:=@Nat.add_mul
abbrev jw:=@Nat.add_zero
abbrev iA:=@Nat.le_mul_of_pos_right
abbrev ar:=@Nat.le_of_ble_eq_true
abbrev bj:=@Nat.le_refl
abbrev aT:=@Nat.le_trans
abbrev cn:=@Nat.lt_of_lt_of_le
abbrev fS:=@Nat.mul_le_mul_right
abbrev lg:=@Nat.sub_self
abbrev fR:=@Nat.zero_add
abbrev dE:=@Nat.zero_le
abbrev ck:=@Try.sizeOf25
abbrev bY:=@Try.sizeOf26
abbrev fj:=@Try.sizeOf28
abbrev ay:=@Try.sizeOf3
abbrev eW:=@Try.sizeOf30
abbrev ak:=@Try.sizeOf32
abbrev cm:=@Try.sizeOf35
abbrev dG:=@Try.sizeOf36
abbrev bC:=@Try.sizeOf4
abbrev eq:=@Try.sizeOf77
abbrev cc:=@Try.sizeOf79
abbrev bq:=@Try.sizeOf9
abbrev es:=@Try.underlying3
abbrev aA:=@Try.underlying32
abbrev eA:=@Try.underlying35
abbrev ee:=@Try.underlying38
abbrev bP:=@Try.underlying47
abbrev eS:=@Try.underlying58
abbrev aU:=@Try.underlying73
abbrev aJ:=@Try.underlying79
abbrev aF:=@Try.underlying81
abbrev ai:=@decide_eq_false_iff_not
abbrev ah:=@decide_eq_true_eq
end
section
abbrev aj (x:Int):Value:= .int .i64 x
abbrev aR (x:ByteArray):Value:= .string x
abbrev aB (x:Bool):Value:= .bool x
theorem av:True:=True.intro
open Go.RowKit
def aS (a:Act) (t:Nat):Value:=a.tmps.getD t undef
abbrev aQ:=Nat→Prop
structure Ext (M:Nat→Prop) (w w':World):Prop where
  os:w'.os=w.os
  tape:w'.tape=w.tape
  output:w'.output=w.output
  size:w.heap.size≤w'.heap.size
  block:∀k,k < w.heap.size→¬M k→w'.heap[k]? =w.heap[k]?
def aV:Nat→Prop:=fun _=>False
theorem Ext.refl (M:Nat→Prop) (w:World):Ext M w w:=⟨rfl,rfl,rfl,bj _,fun _ _ _=>rfl⟩
theorem Ext.trans {M:Nat→Prop} {a b c:World} (h:Ext M a b) (k:Ext M b c):Ext M a c:=
  ⟨k.os.trans h.os,k.tape.trans h.tape,k.output.trans h.output,aT h.size k.size,
    fun i hi hm=>(k.block i (cn hi h.size) hm).trans (h.block i hi hm)⟩
theorem Ext.mono {M M':Nat→Prop} {a b:World} (h:Ext M a b) (hm:∀k,k < a.heap.size→M k→M' k):Ext M' a b:=
  ⟨h.os,h.tape,h.output,h.size,fun i hi hn=>h.block i hi (fun hM=>hn (hm i hi hM))⟩
theorem Ext.drew {M:Nat→Prop} {a b:World} (h:Ext M a b):Ext M a b.drew:=⟨h.os,h.tape,h.output,h.size,h.block⟩
theorem Ext.alloc (M:Nat→Prop) (w:World) (o:Obj):Ext M w (w.alloc o):=
  ⟨rfl,rfl,rfl,by simp,fun k hk _=>by show (w.heap.push o)[k]? =_;rw [Array.getElem?_push,if_neg (by omega)]⟩
theorem Ext.cell {M:Nat→Prop} {w w':World} (h:Ext M w w') {p:Addr} (hp:p.block < w.heap.size) (hm:¬M p.block):w'.cell? p=w.cell? p:=
  World.cell?_of_block (w:=w) (h.block p.block hp hm)
theorem Ext.cell_some {M:Nat→Prop} {w w':World} (h:Ext M w w') {p:Addr} {v:Value} (hc:w.cell? p=some v) (hm:¬M p.block):w'.cell? p=some v:=
  (h.cell (World.block_lt_of_cell? w p hc) hm).trans hc
theorem Ext.below {w w':World} (h:Ext aV w w'):Below w.heap.size w w':=
  ⟨h.os,h.tape,h.output,h.size,fun k hk=>h.block k hk (fun x=>x)⟩
theorem cT (a:Act) (d t:Nat) (v:Value) (hd:d < a.tmps.size):aS (a.put (some d) v) t=if t=d then v else aS a t:=by
  unfold aS Act.put;simp only [aO,jn];by_cases h:d=t
  · subst h;simp [hd]
  · rw [if_neg h,if_neg (fun e=>h e.symm)]
theorem iJ (a:Act) (t:Nat) (v:Value):aS (a.put none v) t=aS a t:=rfl
theorem sk (a:Act) (d:Option Nat) (v:Value):(a.put d v).tmps.size=a.tmps.size:=by
  cases d <;> simp [Act.put]
theorem oY (a:Act) (d:Option Nat) (v:Value):(a.put d v).defers=a.defers:=by
  cases d <;> simp [Act.put]
theorem oZ (a:Act) (t:Nat):a.eval (.tmp t)=aS a t:=rfl
structure Spec (N:aQ) where
  tag:Option Nat
  slot:Nat
  R:aQ→aQ→Value→World→Prop
  loc:∀Z Z' T v w w',(∀g,Z g→Z' g)→Ext (fun g=>N g∧¬T g∧¬Z g) w w'→R Z T v w→R Z' T v w'
  pur:Value→Prop:=fun _=>True
  fit:∀Z T v w,R Z T v w→pur v:=by exact fun _ _ _ _ _=>trivial
structure Ini (N:aQ) where
  I:aQ→aQ→World→Prop
  loc:∀Z Z' T w w',(∀g,Z g→Z' g)→Ext (fun g=>N g∧¬T g∧¬Z g) w w'→I Z T w→I Z' T w'
def Ini.any (N:aQ):Ini N:=⟨fun _ _ _=>True,fun _ _ _ _ _ _ _ h=>h⟩
def ia9_ {N:aQ}:Ini N:=Ini.any N
def ex (τ:Nat→aQ) (w:World):aQ:=fun g=>g < w.heap.size∧∀t,¬τ t g
def lJ (τ:Nat→aQ) (t0:Nat) (T':aQ):Nat→aQ:=fun t g=>if t=t0 then T' g else τ t g
theorem Ext.less {N T Z:aQ} {w w':World} (h:Ext (fun g=>N g∧¬T g∧¬Z g) w w'):Ext (fun g=>N g∧¬T g) w w':=h.mono fun _ _ h=>⟨h.1,h.2.1⟩
section
variable {N:aQ} {P:Program} (ops:Array Oper) (sp:List (Spec N)) (ini:Nat→Ini N) (a0:Act) (w0:World)
structure J (done:Nat→Bool) (a:Act) (w:World) (τ:Nat→aQ):Prop where
  defers:a.defers=a0.defers
  size:a.tmps.size=a0.tmps.size
  un:∀t,(∀i o,ops[i]? =some o→o.dst=some t→done i=false)→aS a t=aS a0 t
  ext:Ext N w0 w
  big:∀k,w.heap.size≤k→N k
  disj:∀s t g,τ s g→τ t g→s=t
  bnd:∀t g,τ t g→N g∧g < w.heap.size
  det:∀(j:Nat) (s:Spec N),sp[j]? =some s→s.tag=none→done j=true→s.R (ex τ w) aV (aS a s.slot) w
  res:∀(j:Nat) (s:Spec N) (t:Nat),sp[j]? =some s→s.tag=some t→done j=true→(∀(k:Nat) (s':Spec N),sp[k]? =some s'→j < k→s'.tag=some t→done k=false)→s.R (ex τ w) (τ t) (aS a s.slot) w
  ini:∀t,(∀(k:Nat) (s':Spec N),sp[k]? =some s'→s'.tag=some t→done k=false)→(ini t).I (ex τ w) (τ t) w
  pur:∀(j:Nat) (s:Spec N),sp[j]? =some s→done j=true→s.pur (aS a s.slot)
def mK (s:Spec N) (a':Act) (τ:Nat→aQ) (w w':World):Prop:=
  match s.tag with
  | none => Ext aV w w' ∧ s.R (ex τ w') aV (aS a' s.slot) w'
  | some t => Ext (τ t) w w' ∧ ∃ T' : aQ, (∀ g, T' g → τ t g ∨ (w.heap.size ≤ g ∧ g < w'.heap.size)) ∧ s.R (ex (lJ τ t T') w') T' (aS a' s.slot) w'
structure Cx (bf:List Nat) (j:Nat) (o:Oper) (done:Nat→Bool) (a:Act) (w:World) (τ:Nat→aQ):Prop where
  J:J ops sp ini a0 w0 done a w τ
  hj:done j=false
  pre:∀i,(bf.getD j 0).testBit i=true→done i=true
  post:∀k,(bf.getD k 0).testBit j=true→done k=false
  lt:∀d,o.dst=some d→d < a.tmps.size
def Ob (P:Program) (bf:List Nat) (j:Nat) (o:Oper) (s:Spec N):Prop:=
  ∀done a w τ,Cx ops sp ini a0 w0 bf j o done a w τ→
    (Region.wanted o (yielded ops a.tmps)=true→o.wp P a w (fun a' w'=>∃v,a'=a.put o.dst v∧mK s a' τ w w') (fun _ _ _=>False))∧
    (Region.wanted o (yielded ops a.tmps)=false→mK s (a.put o.dst undef) τ w w)
def mL (P:Program) (bf:List Nat):Nat→List Oper→List (Spec N)→Prop
  | _, [], [] => True
  | j, o :: l, s :: r => Ob ops sp ini a0 w0 P bf j o s ∧ mL P bf (j + 1) l r
  | _, _, _ => False
def lC (ops:Array Oper) (n:Nat):Bool:=
  (List.range ops.size).all fun j=>match ops[j]? with
    | none => false
    | some o => o.after.all (fun e => !Region.binds .any e || e.on < j) &&
      (match o.dst with
       | none => true
       | some d => d < n && (List.range ops.size).all fun i => i == j || (match ops[i]? with | some o' => o'.dst != some d | none => true))
def oz (ops:Array Oper) (bf:List Nat):Bool:=
  bf.length==ops.size&&(List.range ops.size).all fun j=>decide (bf.getD j 0 < 2 ^ j)&&match ops[j]? with
    | none => false
    | some o => (List.range ops.size).all fun i => !(bf.getD j 0).testBit i || o.after.any fun e => Region.binds .any e && (e.on == i || (bf.getD e.on 0).testBit i)
def lN (ops:Array Oper) (bf:List Nat) (slots:List Nat) (tags:List (Option Nat)):Bool:=
  slots.length==ops.size&&tags.length==ops.size&&
  (List.range ops.size).all fun j=>(List.range ops.size).all fun k=>
    (k==j || (match ops[k]? with | some o=>o.dst !=some (slots.getD j 0) || (bf.getD j 0).testBit k | none=>true))&&
    (!(j < k) || (match tags.getD j none with | none=>true | some t=>tags.getD k none !=some t || (bf.getD k 0).testBit j))
def bu (tags:List (Option Nat)) (t:Nat):Nat→Option Nat
  | 0 => none
  | j + 1 => if tags.getD j none = some t then some j else bu tags t j
def iw (tags:List (Option Nat)) (bf:List Nat) (t j:Nat):Bool:=
  (List.range tags.length).all fun k=>tags.getD k none !=some t || k==j || (k < j&&(bf.getD j 0).testBit k) || (j < k&&(bf.getD k 0).testBit j)
theorem jB {tags:List (Option Nat)} {t:Nat}:∀{j i:Nat},bu tags t j=some i→i < j∧tags.getD i none=some t∧∀k,i < k→k < j→tags.getD k none≠some t
  | 0, i, h => by simp [bu] at h
  | j + 1, i, h => by
    unfold bu at h;split at h
    · rename_i ht;obtain rfl:j=i:=by simpa using h
      exact ⟨Nat.lt_succ_self _,ht,fun k h1 h2=>by omega⟩
    · rename_i ht;obtain ⟨h1,h2,h3⟩:=jB h;refine ⟨by omega,h2,fun k hk hk'=> ?_⟩;by_cases e:k=j
      · subst e;exact ht
      · exact h3 k hk (by omega)
theorem jC {tags:List (Option Nat)} {t:Nat}:∀{j:Nat},bu tags t j=none→∀k,k < j→tags.getD k none≠some t
  | 0, _, k, hk => by omega
  | j + 1, h, k, hk => by
    unfold bu at h;split at h
    · cases h
    · rename_i ht;by_cases e:k=j
      · subst e;exact ht
      · exact jC h k (by omega)
end
section
variable {N:aQ} {P:Program} {ops:Array Oper} {sp:List (Spec N)} {ini:Nat→Ini N} {a0:Act} {w0:World} {done:Nat→Bool} {a:Act} {w:World} {τ:Nat→aQ} {bf:List Nat} {j:Nat}
theorem ik {k:Nat} {s:Spec N} (h:sp[k]? =some s):(sp.map (·.tag)).getD k none=s.tag:=by
  simp [List.getD,h]
theorem nL {t:Nat} (h:iw (sp.map (·.tag)) bf t j=true) {k:Nat} {s:Spec N} (hs:sp[k]? =some s) (ht:s.tag=some t):
    k=j∨(k < j∧(bf.getD j 0).testBit k=true)∨(j < k∧(bf.getD k 0).testBit j=true):=by
  unfold iw at h;rw [cK] at h;have hk:k < sp.length:=(List.getElem?_eq_some_iff.1 hs).1
  have:=h k (by simpa using hk);rw [ik hs,ht] at this
  simp only [bne_self_eq_false,gd,ba,ao,ah,beq_iff_eq] at this
  rcases this with (h | h) | h
  · exact .inl h
  · exact .inr (.inl h)
  · exact .inr (.inr h)
theorem J.cur (hJ:J ops sp ini a0 w0 done a w τ) (hj:done j=false) (hpost:∀k,(bf.getD k 0).testBit j=true→done k=false) (hpre:∀i,(bf.getD j 0).testBit i=true→done i=true)
    (t i:Nat) (s:Spec N) (hi:bu (sp.map (·.tag)) t j=some i) (hord:iw (sp.map (·.tag)) bf t j=true) (hs:sp[i]? =some s):s.R (ex τ w) (τ t) (aS a s.slot) w:=by
  obtain ⟨h1,h2,h3⟩:=jB hi;have ht:s.tag=some t:=by rw [←ik hs];exact h2
  refine hJ.res i s t hs ht ?_ ?_
  · rcases nL hord hs ht with h | ⟨_,h⟩ | ⟨h,_⟩
    · omega
    · exact hpre _ h
    · omega
  · intro k s' hs' hk ht';rcases nL hord hs' ht' with h | ⟨h,_⟩ | ⟨_,h⟩
    · subst h;exact hj
    · exact absurd (by rw [ik hs'];exact ht') (h3 k hk h)
    · exact hpost _ h
theorem J.cur0 (hJ:J ops sp ini a0 w0 done a w τ) (hj:done j=false) (hpost:∀k,(bf.getD k 0).testBit j=true→done k=false)
    (t:Nat) (hi:bu (sp.map (·.tag)) t j=none) (hord:iw (sp.map (·.tag)) bf t j=true):(ini t).I (ex τ w) (τ t) w:=by
  refine hJ.ini t fun k s' hs' ht'=> ?_;rcases nL hord hs' ht' with h | ⟨h,_⟩ | ⟨_,h⟩
  · subst h;exact hj
  · exact absurd (by rw [ik hs'];exact ht') (jC hi k h)
  · exact hpost _ h
def uN (ops:Array Oper) (bf:List Nat) (j t:Nat):Bool:=
  (List.range ops.size).all fun k=>match ops[k]? with | some o=>o.dst !=some t || k==j || (bf.getD k 0).testBit j | none=>true
theorem J.old (hJ:J ops sp ini a0 w0 done a w τ) (hj:done j=false) (hpost:∀k,(bf.getD k 0).testBit j=true→done k=false) (t:Nat) (h:uN ops bf j t=true):aS a t=aS a0 t:=by
  refine hJ.un t fun i o hi hd=> ?_;unfold uN at h;rw [cK] at h;have:=h i (by simpa using (Array.getElem?_eq_some_iff.1 hi).1);simp only [hi,hd,bne_self_eq_false,gd,ba,beq_iff_eq] at this
  rcases this with h | h
  · subst h;exact hj
  · exact hpost _ h
end
section
variable {N:aQ} {P:Program} {ops:Array Oper} {sp:List (Spec N)} {ini:Nat→Ini N} {a0:Act} {w0:World} {bf:List Nat} {n:Nat}
theorem gw (h:lC ops n=true) {j:Nat} {o:Oper} (ho:ops[j]? =some o):
    (∀e ∈ o.after,Region.binds .any e=true→e.on < j)∧∀d,o.dst=some d→d < n∧∀(i:Nat) (o':Oper),ops[i]? =some o'→i≠j→o'.dst≠some d:=by
  unfold lC at h;rw [cK] at h;have:=h j (by simpa using (Array.getElem?_eq_some_iff.1 ho).1);simp only [ho,ao,Array.all_eq_true_iff_forall_mem,ba,ax,ah] at this
  refine ⟨fun e he hb=>(this.1 e he).resolve_left (by simp [hb]),fun d hd=> ?_⟩;have h2:=this.2;simp only [hd,ao,ah,cK,List.mem_range,ba,beq_iff_eq] at h2;refine ⟨h2.1,fun i o' hi hne hd'=> ?_⟩;have:=h2.2 i (Array.getElem?_eq_some_iff.1 hi).1;simp [hi,hd',hne] at this
theorem ql (h:oz ops bf=true) {j i:Nat} (hb:(bf.getD j 0).testBit i=true):
    i < j∧j < ops.size∧∃o,ops[j]? =some o∧∃e ∈ o.after,Region.binds .any e=true∧(e.on=i∨(bf.getD e.on 0).testBit i=true):=by
  unfold oz at h;rw [ao,cK,beq_iff_eq] at h;have hj:j < ops.size:=by
    rw [←h.1];apply Nat.lt_of_not_le;intro hle;rw [List.getD,iT hle] at hb;simp at hb
  have:=h.2 j (by simpa using hj);rw [ao,ah] at this
  obtain ⟨hlt,this⟩:=this
  have hi:i < j:=by
    apply Nat.lt_of_not_le;intro hle;have:(bf.getD j 0).testBit i=false:=Nat.testBit_lt_two_pow (cn hlt (Nat.pow_le_pow_right (by omega) hle));rw [this] at hb;cases hb
  refine ⟨hi,hj,?_⟩;split at this
  · cases this
  · rename_i o ho;refine ⟨o,ho,?_⟩;rw [cK] at this
    have:=this i (by simp;omega)
    simp only [hb,je,gd] at this
    rw [←Array.any_toList,List.any_eq_true] at this
    obtain ⟨e,he,h2⟩:=this
    simp only [ao,ba,beq_iff_eq] at h2;exact ⟨e,by simpa using he,h2⟩
theorem qm (h:lN ops bf (sp.map (·.slot)) (sp.map (·.tag))=true) {j k:Nat} {s:Spec N} (hj:j < ops.size) (hk:k < ops.size) (hs:sp[j]? =some s):
    (∀o,ops[k]? =some o→o.dst=some s.slot→k≠j→(bf.getD j 0).testBit k=true)∧
    (∀s' t,j < k→sp[k]? =some s'→s.tag=some t→s'.tag=some t→(bf.getD k 0).testBit j=true):=by
  unfold lN at h;rw [ao,cK] at h;have:=h.2 j (by simpa using hj);rw [cK] at this
  have:=this k (by simpa using hk)
  rw [ao] at this
  obtain ⟨h1,h2⟩:=this
  refine ⟨fun o ho hd hne=> ?_,fun s' t hlt hs' ht ht'=> ?_⟩
  · simpa [ho,hd,List.getD,hs,hne] using h1
  · rw [ik hs,ht] at h2;simp only [hlt,decide_true,je,gd] at h2;rw [ik hs',ht'] at h2;simpa using h2
def mM (ops:Array Oper) (done:Nat→Bool):Prop:=∀(j:Nat) (o:Oper),ops[j]? =some o→done j=true→∀e ∈ o.after,Region.binds .any e=true→done e.on=true
theorem kB (hok:lC ops n=true) (hbf:oz ops bf=true) {done:Nat→Bool} (hc:mM ops done):
    ∀(m j:Nat),j≤m→(∀o,ops[j]? =some o→∀e ∈ o.after,Region.binds .any e=true→done e.on=true)→∀i,(bf.getD j 0).testBit i=true→done i=true:=by
  intro m;induction m with
  | zero =>
    intro j hj h i hb;have:=(ql hbf hb).1;omega
  | succ m ih =>
    intro j hj h i hb;obtain ⟨_,_,o,ho,e,he,hbi,h2⟩:=ql hbf hb;have hd:=h o ho e he hbi;rcases h2 with h2 | h2
    · rw [←h2];exact hd
    · have hlt:=(gw hok ho).1 e he hbi;exact ih e.on (by omega) (fun o' ho'=>hc e.on o' ho' hd) i h2
theorem J.step (hok:lC ops a0.tmps.size=true) (hbf:oz ops bf=true) (hsp:lN ops bf (sp.map (·.slot)) (sp.map (·.tag))=true)
    {done:Nat→Bool} {a:Act} {w w':World} {τ:Nat→aQ} {j:Nat} {o:Oper} {s:Spec N} {v:Value}
    (hJ:J ops sp ini a0 w0 done a w τ) (hc:mM ops done) (hj:done j=false) (ho:ops[j]? =some o) (hs:sp[j]? =some s)
    (hstep:mK s (a.put o.dst v) τ w w'):∃τ',J ops sp ini a0 w0 (fun i=>i==j || done i) (a.put o.dst v) w' τ':=by
  have hjs:j < ops.size:=(Array.getElem?_eq_some_iff.1 ho).1
  have clos:∀i k,done i=true→(bf.getD i 0).testBit k=true→done k=true:=fun i k hd hb=>
    kB hok hbf hc i i (bj _) (fun o' ho'=>hc i o' ho' hd) k hb
  -- a place of another operation is not written
  have keep:∀i s',sp[i]? =some s'→i < ops.size→done i=true→aS (a.put o.dst v) s'.slot=aS a s'.slot:=by
    intro i s' hs' hi hd;cases hdst:o.dst with
    | none => rfl
    | some d =>
      have hlt:=((gw hok ho).2 d hdst).1;rw [cT a d s'.slot v (by rw [hJ.size];exact hlt)];rw [if_neg];intro e;have:=(qm hsp hi hjs hs').1 o ho (by rw [hdst,e]) (fun e'=>by rw [e',hd] at hj;cases hj);rw [clos i j hd this] at hj;cases hj
  have hlen:sp.length=ops.size:=by
    unfold lN at hsp;simp only [ao,en,beq_iff_eq] at hsp;exact hsp.1.1
  have spl:∀i s',sp[i]? =some s'→i < ops.size:=fun i s' h=>by
    rw [←hlen];exact (List.getElem?_eq_some_iff.1 h).1
  have un':∀t,(∀i o',ops[i]? =some o'→o'.dst=some t→(i==j || done i)=false)→aS (a.put o.dst v) t=aS a0 t:=by
    intro t ht;have hne:o.dst≠some t:=fun e=>by have:=ht j o ho e;simp at this
    rw [←hJ.un t (fun i o' hi hd=>by have:=ht i o' hi hd;simp at this;exact this.2)];cases hdst:o.dst with
    | none => rfl
    | some d =>
      have hlt:=((gw hok ho).2 d hdst).1;rw [cT a d t v (by rw [hJ.size];exact hlt),if_neg (fun e=>hne (by rw [hdst,e]))]
  have dn:∀k,(k==j || done k)=false→done k=false:=fun k h=>by simp at h;exact h.2
  have purR:(True→s.pur (aS (a.put o.dst v) s.slot))→∀(i:Nat) (s':Spec N),sp[i]? =some s'→(i==j || done i)=true→s'.pur (aS (a.put o.dst v) s'.slot):=by
    intro hp i s' hs' hd;by_cases e:i=j
    · subst e;rw [hs] at hs';cases hs'
      exact hp trivial
    · have hd':done i=true:=by simpa [e] using hd
      rw [keep i s' hs' (spl i s' hs') hd'];exact hJ.pur i s' hs' hd'
  unfold mK at hstep;cases htag:s.tag with
  | none =>
    rw [htag] at hstep;obtain ⟨he,hR⟩:=hstep;have hzz:∀g,ex τ w g→ex τ w' g:=fun g h=>⟨cn h.1 he.size,h.2⟩;refine ⟨τ,(oY _ _ _).trans hJ.defers,(sk _ _ _).trans hJ.size,un',hJ.ext.trans (he.mono fun _ _ h=>h.elim),fun k hk=>hJ.big k (aT he.size hk),hJ.disj,
      fun t g h=>⟨(hJ.bnd t g h).1,cn (hJ.bnd t g h).2 he.size⟩,?_,?_,?_,purR (fun T=>s.fit _ _ _ _ hR)⟩
    · intro i s' hs' ht' hd;by_cases e:i=j
      · subst e;rw [hs] at hs';cases hs'
        exact hR
      · have hd':done i=true:=by simpa [e] using hd
        rw [keep i s' hs' (spl i s' hs') hd'];exact s'.loc _ _ _ _ _ _ hzz (he.mono fun _ _ h=>h.elim) (hJ.det i s' hs' ht' hd')
    · intro i s' t hs' ht' hd hcur;have e:i≠j:=fun e=>by subst e;rw [hs] at hs';cases hs';rw [htag] at ht';cases ht'
      have hd':done i=true:=by simpa [e] using hd
      rw [keep i s' hs' (spl i s' hs') hd'];exact s'.loc _ _ _ _ _ _ hzz (he.mono fun _ _ h=>h.elim) (hJ.res i s' t hs' ht' hd' (fun k s'' hk hlt hkt=>dn k (hcur k s'' hk hlt hkt)))
    · intro t hcur;exact (ini t).loc _ _ _ _ _ hzz (he.mono fun _ _ h=>h.elim) (hJ.ini t (fun k s' hk hkt=>dn k (hcur k s' hk hkt)))
  | some t0 =>
    rw [htag] at hstep;obtain ⟨he,T',hT',hR⟩:=hstep;have stab:∀t,t≠t0→Ext (fun g=>N g∧¬τ t g∧¬ex τ w g) w w':=fun t hne=>he.mono fun k _ h=>⟨(hJ.bnd t0 k h).1,fun h'=>hne (hJ.disj t t0 k h' h),fun hz=>hz.2 t0 h⟩;have hzz:∀g,ex τ w g→ex (lJ τ t0 T') w' g:=fun g h=>⟨cn h.1 he.size,fun t ht=>by
      unfold lJ at ht;split at ht
      · rcases hT' g ht with h' | h'
        · exact h.2 t0 h'
        · have:=h.1;omega
      · exact h.2 t ht⟩
    refine ⟨lJ τ t0 T',(oY _ _ _).trans hJ.defers,(sk _ _ _).trans hJ.size,un',hJ.ext.trans (he.mono fun k _ h=>(hJ.bnd t0 k h).1),fun k hk=>hJ.big k (aT he.size hk),?_,?_,?_,?_,?_,purR (fun T=>s.fit _ _ _ _ hR)⟩
    · intro s1 s2 g h1 h2;by_cases e1:s1=t0 <;> by_cases e2:s2=t0
      · rw [e1,e2]
      · simp only [lJ,e1,e2,if_true,if_false] at h1 h2;rcases hT' g h1 with h | h
        · rw [e1];exact hJ.disj t0 s2 g h h2
        · have:=(hJ.bnd s2 g h2).2;omega
      · simp only [lJ,e1,e2,if_true,if_false] at h1 h2;rcases hT' g h2 with h | h
        · rw [e2];exact hJ.disj s1 t0 g h1 h
        · have:=(hJ.bnd s1 g h1).2;omega
      · simp only [lJ,e1,e2,if_false] at h1 h2;exact hJ.disj s1 s2 g h1 h2
    · intro t g h;by_cases e:t=t0
      · simp only [lJ,e,if_true] at h;rcases hT' g h with h | h
        · exact ⟨(hJ.bnd t0 g h).1,cn (hJ.bnd t0 g h).2 he.size⟩
        · exact ⟨hJ.big g h.1,h.2⟩
      · simp only [lJ,e,if_false] at h;exact ⟨(hJ.bnd t g h).1,cn (hJ.bnd t g h).2 he.size⟩
    · intro i s' hs' ht' hd;have e:i≠j:=fun e=>by subst e;rw [hs] at hs';cases hs';rw [htag] at ht';cases ht'
      have hd':done i=true:=by simpa [e] using hd
      rw [keep i s' hs' (spl i s' hs') hd'];exact s'.loc _ _ _ _ _ _ hzz (he.mono fun k _ h=>⟨(hJ.bnd t0 k h).1,fun x=>x,fun hz=>hz.2 t0 h⟩) (hJ.det i s' hs' ht' hd')
    · intro i s' t hs' ht' hd hcur;by_cases e:i=j
      · subst e;rw [hs] at hs';cases hs'
        rw [htag] at ht';cases ht'
        have e1:lJ τ t0 T' t0=T':=by funext g;simp [lJ]
        rw [e1];exact hR
      · have hd':done i=true:=by simpa [e] using hd
        have hne:t≠t0:=by
          intro et;subst et;rcases Nat.lt_trichotomy i j with h | h | h
          · have:=hcur j s hs h htag;simp at this
          · exact e h
          · have:=(qm hsp hjs (spl i s' hs') hs).2 s' t h hs' htag ht';rw [clos i j hd' this] at hj;cases hj
        rw [keep i s' hs' (spl i s' hs') hd'];have e1:lJ τ t0 T' t=τ t:=by funext g;simp [lJ,hne]
        rw [e1];exact s'.loc _ _ _ _ _ _ hzz (stab t hne) (hJ.res i s' t hs' ht' hd' (fun k s'' hk hlt hkt=>dn k (hcur k s'' hk hlt hkt)))
    · intro t hcur;have hne:t≠t0:=fun et=>by have:=hcur j s hs (by rw [htag,et]);simp at this
      have e1:lJ τ t0 T' t=τ t:=by funext g;simp [lJ,hne]
      rw [e1];exact (ini t).loc _ _ _ _ _ hzz (stab t hne) (hJ.ini t (fun k s' hk hkt=>dn k (hcur k s' hk hkt)))
theorem vV {o:Oper} {a:Act} {w:World} {K K':Act→World→Prop} {Q:Exit→Act→World→Prop} (h:∀a w,K a w→K' a w)
    (hh:o.wp P a w K (fun _ _ _=>False)):o.wp P a w K' Q:=by
  unfold Oper.wp at *;generalize (execOp a.eval o).run P w=r at *;cases r with
  | ok n w' =>
    cases n <;> simp only [Oper.upon] at hh ⊢ <;>
      first
        | exact h _ _ hh
        | exact Calls.mono hh (fun e w'' he => by
            cases e with
            | returned v => exact h _ _ he
            | panicked c => exact he.elim
            | outgrown => obtain ⟨_, _, h'⟩ := he; exact h'.elim)
        | exact Rows.mono hh (fun _ _ he => h _ _ he)
  | halt x w' => cases x <;> simp only [Oper.upon] at hh
theorem pa (hok:lC ops a0.tmps.size=true) (hbf:oz ops bf=true) (hsp:lN ops bf (sp.map (·.slot)) (sp.map (·.tag))=true)
    {Q:Exit→Act→World→Prop} {done:Nat→Bool} {a:Act} {w:World} {τ:Nat→aQ} {j:Nat} {o:Oper} {s:Spec N} {K:Act→World→Prop}
    (hJ:J ops sp ini a0 w0 done a w τ) (hc:mM ops done) (hj:done j=false) (ho:ops[j]? =some o) (hs:sp[j]? =some s)
    (hpre:∀e ∈ o.after,Region.binds .any e=true→done e.on=true) (hob:Ob ops sp ini a0 w0 P bf j o s)
    (hK:∀a' w' τ',J ops sp ini a0 w0 (fun i=>i==j || done i) a' w' τ'→K a' w'):wpOp P ops Q j K a w:=by
  have p1:∀i,(bf.getD j 0).testBit i=true→done i=true:=kB hok hbf hc j j (bj _) (fun o' ho'=>by rw [ho] at ho';cases ho';exact hpre);have p2:∀k,(bf.getD k 0).testBit j=true→done k=false:=fun k hb=>by
    cases hd:done k with
    | false => rfl
    | true =>
      have:=kB hok hbf hc k k (bj _) (fun o' ho'=>hc k o' ho' hd) j hb;rw [hj] at this;cases this
  obtain ⟨h1,h2⟩:=hob done a w τ ⟨hJ,hj,p1,p2,fun d hd=>by rw [hJ.size];exact ((gw hok ho).2 d hd).1⟩;unfold wpOp;rw [ho];simp only [];by_cases hw:Region.wanted o (yielded ops a.tmps)=true
  · rw [if_pos hw];refine .inl (vV (fun a' w' hh=> ?_) (h1 hw));obtain ⟨v,rfl,hstep⟩:=hh;obtain ⟨τ',hJ'⟩:=hJ.step hok hbf hsp hc hj ho hs hstep;exact hK _ _ _ hJ'
  · rw [if_neg hw];obtain ⟨τ',hJ'⟩:=hJ.step hok hbf hsp hc hj ho hs (h2 (by simpa using hw));exact hK _ _ _ hJ'
theorem mN:∀{l:List Oper} {r:List (Spec N)} {k:Nat},mL ops sp ini a0 w0 P bf k l r→∀(i:Nat) (o:Oper) (s:Spec N),l[i]? =some o→r[i]? =some s→Ob ops sp ini a0 w0 P bf (k+i) o s
  | [], [], _, _, i, o, s, ho, _ => by simp at ho
  | o' :: l, s' :: r, k, h, 0, o, s, ho, hs => by
    simp at ho hs;subst ho;subst hs;exact h.1
  | o' :: l, s' :: r, k, h, i + 1, o, s, ho, hs => by
    have:=mN h.2 i o s (by simpa using ho) (by simpa using hs);rwa [show k+(i+1)=k+1+i by omega]
theorem tN {done:Nat→Bool} {j:Nat} {o:Oper} (hc:mM ops done) (ho:ops[j]? =some o) (hpre:∀e ∈ o.after,Region.binds .any e=true→done e.on=true):mM ops (fun i=>i==j || done i):=by
  intro i o' hi hd e he hb;show (e.on==j || done e.on)=true;by_cases h:i=j
  · subst h;rw [ho] at hi;cases hi
    simp [hpre e he hb]
  · have:done i=true:=by simpa [h] using hd
    simp [hc i o' hi this e he hb]
theorem Cs (hok:lC ops a0.tmps.size=true) (hbf:oz ops bf=true) (hsp:lN ops bf (sp.map (·.slot)) (sp.map (·.tag))=true)
    {Q:Exit→Act→World→Prop} (obs:∀(j:Nat) (o:Oper) (s:Spec N),ops[j]? =some o→sp[j]? =some s→Ob ops sp ini a0 w0 P bf j o s)
    (fin:∀a w τ,J ops sp ini a0 w0 (fun _=>true) a w τ→Q .normal a w):∀(fuel:Nat) (listed:Array Bool) (a:Act) (w:World) (τ:Nat→aQ),
      (List.range ops.size).countP (fun i=> !listed.getD i true)≤fuel→listed.size=ops.size→J ops sp ini a0 w0 (fun i=>listed.getD i true) a w τ→mM ops (fun i=>listed.getD i true)→wpAny P .any ops Q fuel listed a w:=by
  have hlen:sp.length=ops.size:=by
    unfold lN at hsp;simp only [ao,en,beq_iff_eq] at hsp;exact hsp.1.1
  have allDone:∀(listed:Array Bool),listed.size=ops.size→Region.ready .any ops listed=[]→∀m i,i≤m→listed.getD i true=true:=by
    intro listed hsz hr m;induction m with
    | zero =>
      intro i hi;by_cases hlt:i < ops.size
      · cases hg:listed.getD i true with
        | true => rfl
        | false =>
          exfalso;have:i ∈ Region.ready .any ops listed:=mem_ready.2 ⟨hg,ops[i],by simp [hlt],fun e he hb=>by
            have:=(gw hok (j:=i) (o:=ops[i]) (by simp [hlt])).1 e he hb;omega⟩
          rw [hr] at this;cases this
      · simp [aO,Array.getElem?_eq_none (show listed.size≤i by omega)]
    | succ m ih =>
      intro i hi;by_cases hlt:i < ops.size
      · cases hg:listed.getD i true with
        | true => rfl
        | false =>
          exfalso;have:i ∈ Region.ready .any ops listed:=mem_ready.2 ⟨hg,ops[i],by simp [hlt],fun e he hb=>by
            have h1:=(gw hok (j:=i) (o:=ops[i]) (by simp [hlt])).1 e he hb;have h2:=ih e.on (by omega);rw [aO] at h2 ⊢;have h3:e.on < listed.size:=by omega
            simpa [kj h3] using h2⟩
          rw [hr] at this;cases this
      · simp [aO,Array.getElem?_eq_none (show listed.size≤i by omega)]
  have finish:∀(listed:Array Bool) (a:Act) (w:World) (τ:Nat→aQ),listed.size=ops.size→Region.ready .any ops listed=[]→J ops sp ini a0 w0 (fun i=>listed.getD i true) a w τ→Q .normal a w:=by
    intro listed a w τ hsz hr hJ;refine fin a w τ ?_;rwa [show (fun i=>listed.getD i true)=(fun _=>true) from funext fun i=>allDone listed hsz hr i i (bj _)] at hJ
  intro fuel;induction fuel with
  | zero =>
    intro listed a w τ hcount hsz hJ hc;have hr:Region.ready .any ops listed=[]:=by
      cases hrr:Region.ready .any ops listed with
      | nil => rfl
      | cons x xs =>
        exfalso;have hx:x ∈ Region.ready .any ops listed:=by rw [hrr];exact List.mem_cons_self
        obtain ⟨h1,o,ho,_⟩:=mem_ready.1 hx;have hpos:0 < (List.range ops.size).countP (fun i=> !listed.getD i true):=
          List.countP_pos_iff.2 ⟨x,by simpa using (Array.getElem?_eq_some_iff.1 ho).1,by simp only [h1,jK]⟩
        omega
    exact ⟨hr,finish listed a w τ hsz hr hJ⟩
  | succ fuel ih =>
    intro listed a w τ hcount hsz hJ hc;refine ⟨fun hr=>finish listed a w τ hsz hr hJ,fun j hjr=> ?_⟩;obtain ⟨hj,o,ho,hpre⟩:=mem_ready.1 hjr;have hjs:j < ops.size:=(Array.getElem?_eq_some_iff.1 ho).1
    have hpre':∀e ∈ o.after,Region.binds .any e=true→listed.getD e.on true=true:=fun e he hb=>by
      have h1:=hpre e he hb;have h2:=(gw hok ho).1 e he hb;rw [aO] at h1 ⊢;have h3:e.on < listed.size:=by omega
      simpa [kj h3] using h1
    have hset:(fun i=>(listed.setIfInBounds j true).getD i true)=(fun i=>i==j || listed.getD i true):=by
      funext i;simp only [aO,jn];by_cases h:j=i
      · subst h;simp [hsz,hjs]
      · have:(i==j)=false:=by simp;exact fun e=>h e.symm
        simp [h,this]
    refine pa hok hbf hsp hJ hc hj ho (s:=sp[j]'(by omega)) (by simp [hlen,hjs]) hpre' (obs j o _ ho (by simp [hlen,hjs])) ?_;intro a' w' τ' hJ';refine ih _ a' w' τ' ?_ (by simpa using hsz) (by rw [hset];exact hJ') (by rw [hset];exact tN hc ho hpre');have hlt:(List.range ops.size).countP (fun i=> !(listed.setIfInBounds j true).getD i true) < (List.range ops.size).countP (fun i=> !listed.getD i true):=by
      have e1:(fun i=> !(listed.setIfInBounds j true).getD i true)=(fun i=> !(i==j || listed.getD i true)):=by
        funext i;rw [congrFun hset i]
      rw [e1];have hjm:j ∈ List.range ops.size:=by simpa using hjs
      generalize List.range ops.size=l at hjm;clear hcount ih;induction l with
      | nil => cases hjm
      | cons x l ihl =>
        simp only [kK];have hle:l.countP (fun i=> !(i==j || listed.getD i true))≤l.countP (fun i=> !listed.getD i true):=
          List.countP_mono_left fun y _ hy=>by
            simp only [ax,aH] at hy ⊢;exact hy.2
        by_cases hx:x=j
        · subst hx;simp only [beq_self_eq_true,Bool.true_or,je,hj,jK,if_true];simp only [Bool.false_eq_true,if_false];omega
        · have hjl:j ∈ l:=by
            rcases List.mem_cons.1 hjm with h | h
            · exact absurd h.symm hx
            · exact h
          have:=ihl hjl;have hb:(x==j)=false:=by simp [hx]
          simp only [hb,gd];split <;> omega
    omega
theorem uO (hok:lC ops a0.tmps.size=true) (hbf:oz ops bf=true) (hsp:lN ops bf (sp.map (·.slot)) (sp.map (·.tag))=true)
    {Q:Exit→Act→World→Prop} (obs:∀(j:Nat) (o:Oper) (s:Spec N),ops[j]? =some o→sp[j]? =some s→Ob ops sp ini a0 w0 P bf j o s)
    (fin:∀a w τ,J ops sp ini a0 w0 (fun i=>decide (i < ops.size)) a w τ→Q .normal a w):∀(m k:Nat) (a:Act) (w:World) (τ:Nat→aQ),m+k=ops.size→J ops sp ini a0 w0 (fun i=>decide (i < k)) a w τ→wpOps P ops Q (List.range' k m) a w:=by
  have hlen:sp.length=ops.size:=by
    unfold lN at hsp;simp only [ao,en,beq_iff_eq] at hsp;exact hsp.1.1
  intro m;induction m with
  | zero =>
    intro k a w τ hk hJ;simp only [List.range'_zero,wpOps];exact fin a w τ (by rwa [show ops.size=k by omega])
  | succ m ih =>
    intro k a w τ hk hJ;have hks:k < ops.size:=by omega
    rw [kL,wpOps_cons];have ho:ops[k]? =some ops[k]:=by simp [hks]
    have hpre:∀e ∈ ops[k].after,Region.binds .any e=true→decide (e.on < k)=true:=fun e he hb=>by simpa using (gw hok ho).1 e he hb
    have hc:mM ops (fun i=>decide (i < k)):=fun i o' hi hd e he hb=>by
      have:=(gw hok hi).1 e he hb;simp only [ah] at hd ⊢;omega
    refine pa hok hbf hsp hJ hc (by simp) ho (s:=sp[k]'(by omega)) (by simp [hlen,hks]) hpre (obs k _ _ ho (by simp [hlen,hks])) ?_;intro a' w' τ' hJ';refine ih (k+1) a' w' τ' (by omega) ?_;rwa [show (fun i=>decide (i < k+1))=(fun i=>i==k || decide (i < k)) from funext fun i=>by
      rw [eK];simp;omega]
theorem J.start {τ:Nat→aQ} (hb:∀k,w0.heap.size≤k→N k) (hdis:∀s t g,τ s g→τ t g→s=t) (hbnd:∀t g,τ t g→N g∧g < w0.heap.size)
    (hini:∀t,(ini t).I (ex τ w0) (τ t) w0) {w:World} (hw:w=w0∨w=w0.drew) {done:Nat→Bool} (hd:∀i,i < sp.length→done i=false):J ops sp ini a0 w0 done a0 w τ:=by
  have hx:Ext N w0 w0:=Ext.refl _ _;have no:∀(j:Nat) (s:Spec N),sp[j]? =some s→done j=true→False:=fun j s hs hd'=>by
    rw [hd j (List.getElem?_eq_some_iff.1 hs).1] at hd';cases hd'
  rcases hw with rfl | rfl
  · exact ⟨rfl,rfl,fun _ _=>rfl,hx,hb,hdis,hbnd,fun j s hs _ h=>(no j s hs h).elim,fun j s _ hs _ h=>(no j s hs h).elim,fun t _=>hini t,fun j s hs h=>(no j s hs h).elim⟩
  · exact ⟨rfl,rfl,fun _ _=>rfl,hx.drew,hb,hdis,hbnd,fun j s hs _ h=>(no j s hs h).elim,fun j s _ hs _ h=>(no j s hs h).elim,fun t _=>(ini t).loc _ _ _ _ _ (fun _ h=>h) (Ext.refl _ _).drew (hini t),fun j s hs h=>(no j s hs h).elim⟩
end
section
variable {N:aQ} {P:Program} {l:List Oper} {sp:List (Spec N)} {ini:Nat→Ini N} {a0:Act} {w0:World} {bf:List Nat}
theorem xa {id:Nat} {draw:Bool} (hm:P.follows .mixedOrders=true) (hok:(lC l.toArray a0.tmps.size&&oz l.toArray bf&&lN l.toArray bf (sp.map (·.slot)) (sp.map (·.tag)))=true)
    {Q:Exit→Act→World→Prop} {τ:Nat→aQ} (hb:∀k,w0.heap.size≤k→N k) (hdis:∀s t g,τ s g→τ t g→s=t) (hbnd:∀t g,τ t g→N g∧g < w0.heap.size) (hini:∀t,(ini t).I (ex τ w0) (τ t) w0)
    (obs:mL l.toArray sp ini a0 w0 P bf 0 l sp)
    (fin:∀done a w τ,(∀i,i < l.length→done i=true)→J l.toArray sp ini a0 w0 done a w τ→Q .normal a w):(Code.region id l.toArray draw).wp P Q a0 w0:=by
  rw [ao,ao] at hok;obtain ⟨⟨h1,h2⟩,h3⟩:=hok;have obs':∀(j:Nat) (o:Oper) (s:Spec N),l.toArray[j]? =some o→sp[j]? =some s→Ob l.toArray sp ini a0 w0 P bf j o s:=fun j o s ho hs=>by
    have:=mN obs j o s (by simpa using ho) hs;rwa [fR] at this
  cases draw with
  | true =>
    refine wp_region_any hm ?_;refine Cs h1 h2 h3 obs' (fun a w τ hJ=>fin _ a w τ (fun _ _=>rfl) hJ) l.toArray.size _ a0 _ τ ?_ (by simp) ?_ ?_
    · have:=List.countP_le_length (p:=fun i=> !(Array.replicate l.toArray.size false).getD i true) (l:=List.range l.toArray.size);simpa using this
    · refine J.start hb hdis hbnd hini (.inr rfl) fun i hi=> ?_;unfold lN at h3;simp only [ao,en,beq_iff_eq] at h3;have:i < l.length:=by have:=h3.1.1;simp at this;omega
      simp [aO,this]
    · intro j o ho hd;have hlt:j < l.length:=by simpa using (Array.getElem?_eq_some_iff.1 ho).1
      simp [aO,hlt] at hd
  | false =>
    refine wp_region ?_;rw [List.range_eq_range'];refine uO h1 h2 h3 obs' (fun a w τ hJ=>fin _ a w τ (fun i hi=>by simpa using hi) hJ) l.toArray.size 0 a0 w0 τ rfl ?_;exact J.start hb hdis hbnd hini (.inl rfl) fun i _=>by simp
end
end
section
open Go.RowKit
def bU (P:Program) (a:Act) (o:Oper) (w:World) (v:Value):Prop:=(execOp a.eval o).run P w= .ok (.value v) w
def cX:Value→Addr
  | .slice (some a) _ _ => a
  | .pointer (some a) => a
  | _ => ⟨0, 0, none⟩
def lj (v:Value) (n:Nat):Prop:=(v= .slice none 0 0∧n=0)∨∃b cap,v= .slice (some b) n cap∧n≤cap∧cap≤maxLen
section
variable {P:Program} {a:Act} {o:Oper} {w:World}
theorem aN {x:Operand} {v:Value} (ho:o.op= .move x) (h:a.eval x=v):bU P a o w v:=by
  subst h;simp [bU,execOp,ho]
theorem au {x:Operand} {v:Value} (ho:o.op= .assign x) (h:a.eval x=v):bU P a o w v:=by
  subst h;simp [bU,execOp,ho]
theorem dD {c x y:Operand} {b:Bool} {v:Value} (ho:o.op= .pick c x y) (hc:a.eval c= .bool b) (h1:b=true→a.eval x=v) (h2:b=false→a.eval y=v):bU P a o w v:=by
  cases b
  · simp [bU,execOp,ho,hc,asBool,h2]
  · simp [bU,execOp,ho,hc,asBool,h1]
theorem lD {c x:Operand} {b b':Bool} (ho:o.op= .pick c x (.const (.bool false))) (hc:a.eval c= .bool b) (h1:b=true→a.eval x= .bool b'):bU P a o w (.bool (b&&b')):=
  dD ho hc (fun h=>by rw [h1 h,h,fq]) (fun h=>by rw [h,Bool.false_and];rfl)
theorem vW {c x:Operand} {b b':Bool} (ho:o.op= .pick c (.const (.bool true)) x) (hc:a.eval c= .bool b) (h1:b=false→a.eval x= .bool b'):bU P a o w (.bool (b || b')):=
  dD ho hc (fun h=>by rw [h,Bool.true_or];rfl) (fun h=>by rw [h1 h,h,gd])
section ints
variable {t t':TypeId} {x y:Operand} {k:IntKind} {p q:Int}
theorem dt (ho:o.op= .binOp .lss t x y t') (hx:a.eval x= .int k p) (hy:a.eval y= .int k q):bU P a o w (.bool (decide (p < q))):=by
  simp [bU,execOp,ho,hx,hy,eqGuard,binOp,Op.intCmp]
theorem jQ (ho:o.op= .binOp .leq t x y t') (hx:a.eval x= .int k p) (hy:a.eval y= .int k q):bU P a o w (.bool (decide (p≤q))):=by
  simp [bU,execOp,ho,hx,hy,eqGuard,binOp,Op.intCmp]
theorem jh (ho:o.op= .binOp .gtr t x y t') (hx:a.eval x= .int k p) (hy:a.eval y= .int k q):bU P a o w (.bool (decide (q < p))):=by
  simp [bU,execOp,ho,hx,hy,eqGuard,binOp,Op.intCmp]
theorem gl (ho:o.op= .binOp .geq t x y t') (hx:a.eval x= .int k p) (hy:a.eval y= .int k q):bU P a o w (.bool (decide (q≤p))):=by
  simp [bU,execOp,ho,hx,hy,eqGuard,binOp,Op.intCmp]
theorem cu (ho:o.op= .binOp .eql t x y t') (hx:a.eval x= .int k p) (hy:a.eval y= .int k q):bU P a o w (.bool (decide (p=q))):=by
  have:(p==q)=decide (p=q):=rfl;simp [bU,execOp,ho,hx,hy,eqGuard,binOp,Op.intCmp,this]
theorem km (ho:o.op= .binOp .neq t x y t') (hx:a.eval x= .int k p) (hy:a.eval y= .int k q):bU P a o w (.bool (!decide (p=q))):=by
  have:(p !=q)= !decide (p=q):=rfl;simp [bU,execOp,ho,hx,hy,eqGuard,binOp,Op.intCmp,this]
theorem cZ (ho:o.op= .binOp .add t x y t') (hx:a.eval x= .int .i64 p) (hy:a.eval y= .int .i64 q) (hb: -9223372036854775808≤p+q∧p+q≤9223372036854775807):bU P a o w (.int .i64 (p+q)):=by
  simp [bU,execOp,ho,hx,hy,eqGuard,binOp,Op.intArith];rw [IntWalk.i64_in _ hb]
theorem kn (ho:o.op= .binOp .sub t x y t') (hx:a.eval x= .int .i64 p) (hy:a.eval y= .int .i64 q) (hb: -9223372036854775808≤p - q∧p - q≤9223372036854775807):bU P a o w (.int .i64 (p - q)):=by
  simp [bU,execOp,ho,hx,hy,eqGuard,binOp,Op.intArith];rw [IntWalk.i64_in _ hb]
theorem Ct (ho:o.op= .binOp .mul t x y t') (hx:a.eval x= .int .i64 p) (hy:a.eval y= .int .i64 q) (hb: -9223372036854775808≤p * q∧p * q≤9223372036854775807):bU P a o w (.int .i64 (p * q)):=by
  simp [bU,execOp,ho,hx,hy,eqGuard,binOp,Op.intArith];rw [IntWalk.i64_in _ hb]
theorem xb (ho:o.op= .binOp .add t x y t') (hx:a.eval x= .int k p) (hy:a.eval y= .int k q):bU P a o w (.int k (k.wrap (p+q))):=by
  simp [bU,execOp,ho,hx,hy,eqGuard,binOp,Op.intArith]
theorem xc (ho:o.op= .binOp .sub t x y t') (hx:a.eval x= .int k p) (hy:a.eval y= .int k q):bU P a o w (.int k (k.wrap (p - q))):=by
  simp [bU,execOp,ho,hx,hy,eqGuard,binOp,Op.intArith]
theorem Cu (ho:o.op= .binOp .rem t x y t') (hx:a.eval x= .int k p) (hy:a.eval y= .int k q) (hq:q≠0):bU P a o w (.int k (p.tmod q)):=by
  simp [bU,execOp,ho,hx,hy,eqGuard,binOp,Op.intDiv,hq]
theorem pb {src dst:TypeId} {ks kd:IntKind} (ho:o.op= .convert src dst x) (hs:P.underlying src=some (.int ks)) (hd:P.underlying dst=some (.int kd)) (hx:a.eval x= .int k p):bU P a o w (.int kd (kd.wrap p)):=by
  simp [bU,execOp,ho,hx,convert,run_underlying hs,run_underlying hd,Conv.intToInt]
theorem lO {src dst:TypeId} {ks kd:IntKind} (ho:o.op= .convert src dst x) (hs:P.underlying src=some (.int ks)) (hd:P.underlying dst=some (.int kd)) (hx:a.eval x= .int k p) (h0:0≤p) (h1:p≤9223372036854775807) (hk:kd= .i64∨kd= .u64):bU P a o w (.int kd p):=by
  have h:=pb (w:=w) ho hs hd hx;have e:kd.wrap p=p:=by
    rcases hk with rfl | rfl
    · exact IntWalk.i64_in _ (by omega)
    · simp [IntKind.wrap,IntKind.signed,IntKind.bits];omega
  rwa [e] at h
theorem Bk (ho:o.op= .binOp .shr t x y t') (hx:a.eval x= .int .u64 p) (hy:a.eval y= .int .u64 1):bU P a o w (.int .u64 (p / 2)):=by
  have e:p.fdiv 2=p / 2:=jL p (by omega);simp [bU,execOp,ho,hx,hy,eqGuard,binOp,Op.shift,IntKind.bits];exact e
theorem dC {b:Bool} (ho:o.op= .unOp .not t x) (hx:a.eval x= .bool b):bU P a o w (.bool (!b)):=by
  simp [bU,execOp,ho,hx,Op.unary]
theorem uP {b c:Bool} (ht:P.underlying t=some .bool) (d:Nat):(Op.equalIn (d+1) t (.bool b) (.bool c)).run P w= .ok (b==c) w:=by
  simp [Op.equalIn,run_underlying ht]
theorem Bl {b c:Bool} (ho:o.op= .binOp .eql t x y t') (ht:P.underlying t=some .bool) (hx:a.eval x= .bool b) (hy:a.eval y= .bool c):bU P a o w (.bool (b==c)):=by
  have h:=uP (P:=P) (w:=w) (b:=b) (c:=c) ht 9999;simp [bU,execOp,ho,hx,hy,eqGuard,binOp,Op.equal,Op.maxDepth,h]
theorem tO {b c:Bool} (ho:o.op= .binOp .neq t x y t') (ht:P.underlying t=some .bool) (hx:a.eval x= .bool b) (hy:a.eval y= .bool c):bU P a o w (.bool (!(b==c))):=by
  have h:=uP (P:=P) (w:=w) (b:=b) (c:=c) ht 9999;simp [bU,execOp,ho,hx,hy,eqGuard,binOp,Op.equal,Op.maxDepth,h]
theorem Cv (hc:o.op= .call { callee:= .builtin .max,args:=#[x,y],argTypes:=#[t,t'] }) (hx:a.eval x= .int k p) (hy:a.eval y= .int k q):bU P a o w (.int k (max p q)):=by
  have e:(if q > p then q else p)=max p q:=by omega
  simp [bU,execOp,hc,resolve,invoke,builtin,Builtin.max_,Builtin.max2,hx,hy];exact e
theorem Cw (hc:o.op= .call { callee:= .builtin .min,args:=#[x,y],argTypes:=#[t,t'] }) (hx:a.eval x= .int k p) (hy:a.eval y= .int k q):bU P a o w (.int k (min p q)):=by
  have e:(if q < p then q else p)=min p q:=by omega
  simp [bU,execOp,hc,resolve,invoke,builtin,Builtin.min_,Builtin.min2,hx,hy];exact e
end ints
section memory
variable {t e:TypeId} {x y:Operand} {p:Addr}
theorem lP {f off:Nat} {fs:Array Field} {fd:Field} {m:Nat} (ho:o.op= .fieldAddr t x f) (ht:P.underlying t=some (.struct fs)) (hf:fs[f]? =some fd) (hoff:fd.offset=off) (hz:∀w,(sizeOf fd.type).run P w= .ok (m+1) w) (hx:a.eval x= .pointer (some p)):
    bU P a o w (.pointer (some (p.add off))):=by
  subst hoff;simp [bU,execOp,ho,hx,Instr.fieldAt,run_underlying ht,hf,Instr.sureAddr,fieldPlace,hz]
theorem aW {k:IntKind} {i:Int} {v:Value} {n m:Nat} (ho:o.op= .indexAddr t x y) (ht:P.underlying t=some (.slice e)) (hz:∀w,(sizeOf e).run P w= .ok m w) (hx:a.eval x=v) (hv:lj v n) (hy:a.eval y= .int k i) (h0:0≤i) (h1:i < n):
    bU P a o w (.pointer (some ((cX v).add (i.toNat * m)))):=by
  rcases hv with ⟨_,rfl⟩ | ⟨b,cap,rfl,_⟩
  · omega
  · simp [bU,execOp,ho,hx,hy,Instr.indexAt,run_underlying ht,hz,asIntOf,h0,h1,cX]
theorem az {v:Value} (ho:o.op= .load t x) (hz:∀w,(isAgg t).run P w= .ok false w) (hx:a.eval x= .pointer (some p)) (hc:w.cell? p=some v):bU P a o w v:=by
  simp [bU,execOp,ho,hx,Instr.loadAt,Instr.sureAddr,loadVar,hz,load,Sem.run,hc]
theorem ko (vs:List Value):∀(p:Addr) (i:Nat) (acc:Array Value),(∀j u,vs[j]? =some u→w.cell? (p.add (i+j))=some u)→
    (loadCellsFrom p i vs.length acc).run P w= .ok (acc++vs.toArray) w:=by
  induction vs with
  | nil => intro p i acc _; simp [loadCellsFrom]
  | cons v vs ih =>
    intro p i acc h;have h0:=h 0 v rfl;rw [jw] at h0;simp only [bi,loadCellsFrom];simp only [load,Sem.run_bind,Sem.run,h0,Result.andThen_ok];rw [ih p (i+1) (acc.push v) (fun j u hj=>by rw [show i+1+j=i+(j+1) by omega];exact h (j+1) u (by simpa using hj))];simp
theorem dB {vs:List Value} {m:Nat} (ho:o.op= .load t x) (hz:∀w,(isAgg t).run P w= .ok true w) (hm:∀w,(sizeOf t).run P w= .ok m w) (hx:a.eval x= .pointer (some p)) (hl:vs.length=m)
    (hc:∀j u,vs[j]? =some u→w.cell? (p.add j)=some u):bU P a o w (.agg vs.toArray):=by
  subst hl;simp only [bU,execOp,ho,hx,Instr.loadAt,Instr.sureAddr,loadVar,Sem.run_bind,Sem.run_pure,Result.andThen_ok,hz,if_true,hm,loadCells];rw [ko vs p 0 #[] (fun j u hj=>by rw [fR];exact hc j u hj)];simp
theorem cU {v:Value} {n:Nat} (hc:o.op= .call { callee:= .builtin .len,args:=#[x],argTypes:=#[t] }) (ht:P.underlying t=some (.slice e)) (hx:a.eval x=v) (hv:lj v n):bU P a o w (.int .i64 n):=by
  rcases hv with ⟨rfl,rfl⟩ | ⟨b,cap,rfl,_⟩
  · simp [bU,execOp,hc,resolve,invoke,builtin,Builtin.len_,hx,run_underlying ht,goInt]
  · simp [bU,execOp,hc,resolve,invoke,builtin,Builtin.len_,hx,run_underlying ht,goInt]
theorem ie {s:ByteArray} (hc:o.op= .call { callee:= .builtin .len,args:=#[x],argTypes:=#[t] }) (ht:P.underlying t=some .string) (hx:a.eval x= .string s):bU P a o w (.int .i64 s.size):=by
  simp [bU,execOp,hc,resolve,invoke,builtin,Builtin.len_,hx,run_underlying ht,goInt]
theorem iB {vs:Array Value} {i:Nat} {v:Value} (ho:o.op= .extract x i) (hx:a.eval x= .tuple vs) (hi:vs[i]? =some v):bU P a o w v:=by
  simp [bU,execOp,ho,hx,Instr.extract,hi]
theorem lk {parts:Array (Nat × Operand)} {fs:Array Field} {z:Value} {pl:Array (Nat × Nat)} {cells:Array Value} (ho:o.op= .build t parts) (ht:P.underlying t=some (.struct fs)) (hz:∀w,(zeroValue t).run P w= .ok z w)
    (hp:∀w,(fs.mapM fun f=>(do pure (f.offset,←sizeOf f.type):Sem (Nat × Nat))).run P w= .ok pl w) (hf:Instr.fill (pl[·]?) z.cells (parts.map fun (i,x)=>(i,a.eval x)).toList=some cells):bU P a o w (.agg cells):=by
  simp only [bU,execOp,ho,Instr.build,Sem.run_bind,hz,Result.andThen_ok,run_underlying ht,hp,hf];rfl
end memory
end
end
section
open Go.RowKit
structure Enc (α:Type) where
  cells:α→List Value
  sz:Nat
  pos:0 < sz
  len:∀x,(cells x).length=sz
  one:∀x u,u ∈ cells x→u.oneCell'=true
section lists
variable {α:Type}
def Enc.row (E:Enc α) (xs:List α):List Value:=xs.flatMap E.cells
theorem Enc.row_length (E:Enc α) (xs:List α):(E.row xs).length=xs.length * E.sz:=by
  induction xs with
  | nil => simp [Enc.row]
  | cons x xs ih =>
    simp only [Enc.row,List.flatMap_cons,bK,E.len,bi] at ih ⊢;rw [ih,eL];omega
theorem Enc.row_append (E:Enc α) (xs ys:List α):E.row (xs++ys)=E.row xs++E.row ys:=by
  simp [Enc.row]
theorem Enc.row_get (E:Enc α) {xs:List α} {i j:Nat} {x:α} (hx:xs[i]? =some x) (hj:j < E.sz):(E.row xs)[i * E.sz+j]? =(E.cells x)[j]? :=by
  induction xs generalizing i with
  | nil => simp at hx
  | cons y ys ih =>
    have e:E.row (y::ys)=E.cells y++E.row ys:=by simp [Enc.row]
    rw [e];cases i with
    | zero =>
      simp at hx;subst hx;rw [fN (by rw [E.len];omega)];congr 1;omega
    | succ i =>
      rw [fC (by rw [E.len,eL];omega),E.len];rw [show (i+1) * E.sz+j - E.sz=i * E.sz+j by rw [eL];omega];exact ih (by simpa using hx)
theorem Enc.row_one (E:Enc α) {xs:List α}:∀u ∈ E.row xs,u.oneCell'=true:=by
  intro u hu;simp only [Enc.row,List.mem_flatMap] at hu;obtain ⟨x,_,h⟩:=hu;exact E.one x u h
end lists
section mem
variable {α:Type} {E:Enc α} {w w':World} {v:Value} {xs:List α}
theorem lj.le {v:Value} {n:Nat} (h:lj v n):n≤maxLen:=by
  rcases h with ⟨_,rfl⟩ | ⟨b,cap,_,h1,h2⟩
  · exact dE _
  · omega
structure SlT (E:Enc α) (w:World) (v:Value) (xs:List α):Prop where
  sl:lj v xs.length
  cell:∀j u,(E.row xs)[j]? =some u→w.cell? ((cX v).add j)=some u
theorem SlT.nil (E:Enc α) (w:World):SlT E w (.slice none 0 0) ([]:List α):=⟨.inl ⟨rfl,rfl⟩,fun j u h=>by simp [Enc.row] at h⟩
theorem jR (p:Addr) (j:Nat):(p.add j).block=p.block:=by unfold Addr.add;split <;> rfl
theorem add_add (p:Addr) (i j:Nat):(p.add i).add j=p.add (i+j):=Deep.add_add p i j
theorem SlT.elem (h:SlT E w v xs) {i j:Nat} {x:α} {u:Value} (hx:xs[i]? =some x) (hu:(E.cells x)[j]? =some u):w.cell? (((cX v).add (i * E.sz)).add j)=some u:=by
  rw [add_add];have hj:j < E.sz:=by rw [←E.len x];exact (List.getElem?_eq_some_iff.1 hu).1
  exact h.cell _ u (by rw [E.row_get hx hj];exact hu)
theorem SlT.lt (h:SlT E w v xs) (hne:xs≠ []):(cX v).block < w.heap.size:=by
  obtain ⟨x,hx⟩:∃x,xs[0]? =some x:=by cases xs with | nil=>exact absurd rfl hne | cons x _=>exact ⟨x,rfl⟩
  obtain ⟨u,hu⟩:∃u,(E.cells x)[0]? =some u:=⟨(E.cells x)[0]'(by rw [E.len];exact E.pos),by simp⟩;have:=World.block_lt_of_cell? w _ (h.elem hx hu);rwa [jR,jR] at this
theorem SlT.keep {M:Nat→Prop} (h:SlT E w v xs) (he:Ext M w w') (hm:xs≠ []→¬M (cX v).block):SlT E w' v xs:=by
  refine ⟨h.sl,fun j u hj=> ?_⟩;have hne:xs≠ []:=fun e=>by subst e;simp [Enc.row] at hj
  exact he.cell_some (h.cell j u hj) (by rw [jR];exact hm hne)
def gQ (E:Enc α) (ty:Nat) (w:World) (v:Value) (xs:List α):Prop:=w.ownsRow 0 ty E.sz v xs.length (E.row xs)
variable {ty:Nat}
theorem gQ.nil (E:Enc α) (ty:Nat) (w:World):gQ E ty w (.slice none 0 0) ([]:List α):=World.ownsRow_nil w 0 ty E.sz
theorem gQ.sl (h:gQ E ty w v xs):SlT E w v xs:=by
  refine ⟨?_,fun j u hj=> ?_⟩
  · rcases h.2 with ⟨h1,h2⟩ | ⟨g,cap,cur,hv,_,_,h3,h4,_⟩
    · exact .inl ⟨h1,h2⟩
    · exact .inr ⟨_,cap,hv,h3,h4⟩
  · rcases h.2 with ⟨h1,h2⟩ | ⟨g,cap,cur,hv,hb,hg,h3,h4,h5,h6⟩
    · have:xs=[]:=bB h2;subst this;simp [Enc.row] at hj
    · have:=World.ownsRow.cells h (g:=g) (by rw [hv];rfl) j u hj;rw [hv];exact this
theorem gQ.keep {M:Nat→Prop} (h:gQ E ty w v xs) (he:Ext M w w') (hm:∀g,v.ownBlock=some g→¬M g):gQ E ty w' v xs:=by
  refine ⟨h.1,?_⟩;rcases h.2 with h | ⟨g,cap,cur,hv,hb,hg,r⟩
  · exact .inl h
  · exact .inr ⟨g,cap,cur,hv,hb,by rw [he.block g (Array.getElem?_eq_some_iff.1 hg).1 (hm g (by rw [hv];rfl))];exact hg,r⟩
theorem gQ.lt (h:gQ E ty w v xs):∀g,v.ownBlock=some g→g < w.heap.size:=fun g hg=>(World.ownsRow.lt h g hg).2
theorem gQ.le (h:gQ E ty w v xs):xs.length≤maxLen:=h.sl.sl.le
end mem
section specs
variable {N:aQ}
def det (N:aQ) (t:Nat) (v:Value):Spec N:=⟨none,t,fun _ _ u _=>u=v,fun _ _ _ _ _ _ _ _ h=>h,fun _=>True,fun _ _ _ _ _=>trivial⟩
def gdet (N:aQ) (t:Nat) (pc:Prop) (v:Value):Spec N:=⟨none,t,fun _ _ u _=>(pc→u=v)∧(¬pc→u=undef),fun _ _ _ _ _ _ _ _ h=>h,fun _=>True,fun _ _ _ _ _=>trivial⟩
def ge (N:aQ) (t:Nat):Spec N:=⟨none,t,fun _ _ _ _=>True,fun _ _ _ _ _ _ _ _ h=>h,fun _=>True,fun _ _ _ _ _=>trivial⟩
def dq {α:Type} (E:Enc α) (ty:Nat) (xs:List α) (T:aQ) (v:Value) (w:World):Prop:=gQ E ty w v xs∧∀g,v.ownBlock=some g→T g
theorem iK {N:aQ} {α:Type} {E:Enc α} {ty:Nat} {xs:List α} (T:aQ) (v:Value) (w w':World) (h:Ext (fun g=>N g∧¬T g) w w') (hr:dq E ty xs T v w):dq E ty xs T v w':=
  ⟨hr.1.keep h fun g hg hn=>hn.2 (hr.2 g hg),hr.2⟩
def own {α:Type} (E:Enc α) (ty:Nat) (N:aQ) (tag t:Nat) (xs:List α):Spec N:=⟨some tag,t,fun _=>dq E ty xs,fun _ _ T v w w' _ h hr=>iK T v w w' h.less hr,fun _=>True,fun _ _ _ _ _=>trivial⟩
def iown {α:Type} (E:Enc α) (ty:Nat) (N:aQ) (v:Value) (xs:List α):Ini N:=⟨fun _ T w=>dq E ty xs T v w,fun _ _ T w w' _ h=>iK T v w w' h.less⟩
def cj (ty:Nat) (cells:List Value) (T:aQ) (v:Value) (w:World):Prop:=∃g,v= .pointer (some ⟨g,0,none⟩)∧g < w.heap.size∧T g∧w.heap[g]? =some (.cells cells.toArray ty (0,0))
theorem jS {N:aQ} {ty:Nat} {cells:List Value} (T:aQ) (v:Value) (w w':World) (h:Ext (fun g=>N g∧¬T g) w w') (hr:cj ty cells T v w):cj ty cells T v w':=by
  obtain ⟨g,hv,hlt,hT,hg⟩:=hr;exact ⟨g,hv,cn hlt h.size,hT,by rw [h.block g hlt (fun hn=>hn.2 hT)];exact hg⟩
def box (ty:Nat) (N:aQ) (tag t:Nat) (cells:List Value):Spec N:=⟨some tag,t,fun _=>cj ty cells,fun _ _ T v w w' _ h hr=>jS T v w w' h.less hr,fun _=>True,fun _ _ _ _ _=>trivial⟩
def ibox (ty:Nat) (N:aQ) (v:Value) (cells:List Value):Ini N:=⟨fun _ T w=>cj ty cells T v w,fun _ _ T w w' _ h=>jS T v w w' h.less⟩
theorem cj.cell {ty:Nat} {cells:List Value} {T:aQ} {v:Value} {w:World} (h:cj ty cells T v w) {j:Nat} {u:Value} (hu:cells[j]? =some u):w.cell? ((cX v).add j)=some u:=by
  obtain ⟨g,rfl,_,_,hg⟩:=h;simp only [cX];have:((⟨g,0,none⟩:Addr).add j)=⟨g,j,none⟩:=by unfold Addr.add;split <;> simp_all
  rw [this];simp [World.cell?,hg,hu]
theorem cj.ptr {ty:Nat} {cells:List Value} {T:aQ} {v:Value} {w:World} (h:cj ty cells T v w):v= .pointer (some (cX v)):=by
  obtain ⟨g,rfl,_⟩:=h;rfl
end specs
section obs
variable {N:aQ} {P:Program} {ops:Array Oper} {sp:List (Spec N)} {In:Nat→Ini N} {a0:Act} {w0:World} {bf:List Nat} {j:Nat} {o:Oper} {s:Spec N} {done:Nat→Bool} {a:Act} {w:World} {τ:Nat→aQ}
theorem Cx.v (c:Cx ops sp In a0 w0 bf j o done a w τ) (i:Nat) {t:Nat} {val:Value} (hs:sp[i]? =some (det N t val)) (hb:(bf.getD j 0).testBit i=true):aS a t=val:=
  c.J.det i _ hs rfl (c.pre i hb)
theorem Cx.g (c:Cx ops sp In a0 w0 bf j o done a w τ) (i:Nat) {t:Nat} {pc:Prop} {val:Value} (hs:sp[i]? =some (gdet N t pc val)) (hb:(bf.getD j 0).testBit i=true) (hpc:pc):aS a t=val:=
  (c.J.det i _ hs rfl (c.pre i hb)).1 hpc
theorem Cx.old (c:Cx ops sp In a0 w0 bf j o done a w τ) {t:Nat} {val:Value} (h0:aS a0 t=val) (h:uN ops bf j t=true):aS a t=val:=
  (c.J.old c.hj c.post t h).trans h0
theorem Cx.res (c:Cx ops sp In a0 w0 bf j o done a w τ) (i t:Nat) (s':Spec N) (hs:sp[i]? =some s') (hl:bu (sp.map (·.tag)) t j=some i) (hord:iw (sp.map (·.tag)) bf t j=true):s'.R (ex τ w) (τ t) (aS a s'.slot) w:=
  c.J.cur c.hj c.post c.pre t i s' hl hord hs
theorem Cx.ini (c:Cx ops sp In a0 w0 bf j o done a w τ) (t:Nat) (I:Ini N) (hI:In t=I) (hl:bu (sp.map (·.tag)) t j=none) (hord:iw (sp.map (·.tag)) bf t j=true):I.I (ex τ w) (τ t) w:=by
  rw [←hI];exact c.J.cur0 c.hj c.post t hl hord
theorem kp (hg:o.guard=none) (f:Nat→Option Bool):Region.wanted o f=true:=by simp [Region.wanted,hg]
theorem rc (hg:o.guard=none) (h:∀done a w τ,Cx ops sp In a0 w0 bf j o done a w τ→o.wp P a w (fun a' w'=>∃v,a'=a.put o.dst v∧mK s a' τ w w') (fun _ _ _=>False)):Ob ops sp In a0 w0 P bf j o s:=
  fun done a w τ c=>⟨fun _=>h done a w τ c,fun hw=>by rw [kp hg] at hw;cases hw⟩
theorem jT {K:Act→World→Prop} {Q:Exit→Act→World→Prop} {v:Value} (h:bU P a o w v) (hK:K (a.put o.dst v) w):o.wp P a w K Q:=by
  unfold Oper.wp;rw [h];exact hK
theorem Bm {t:Nat} {v:Value} (hs:s=B.det N t v) (hg:o.guard=none) (hd:o.dst=some t) (h:∀done a w τ,Cx ops sp In a0 w0 bf j o done a w τ→bU P a o w v):Ob ops sp In a0 w0 P bf j o s:=
  rc hg fun done a w τ c=>jT (h done a w τ c) ⟨v,rfl,by
    subst hs;refine ⟨Ext.refl _ _,?_⟩;show aS (a.put o.dst v) t=v;rw [hd,cT a t t v (c.lt t hd),if_pos rfl]⟩
theorem zt {t gi tg:Nat} {want b:Bool} {pc:Prop} {v:Value} (hs:s=B.gdet N t pc v) (hg:o.guard=some (gi,want)) (hd:o.dst=some t) (hgd:((ops[gi]?).bind (·.dst))=some tg)
    (hgs:sp[gi]? =some (B.det N tg (.bool b))) (hb:(bf.getD j 0).testBit gi=true) (hpc:pc↔b=want)
    (h:∀done a w τ,Cx ops sp In a0 w0 bf j o done a w τ→pc→bU P a o w v):Ob ops sp In a0 w0 P bf j o s:=by
  intro done a w τ c;have hv:aS a tg= .bool b:=c.v gi hgs hb;have hw:Region.wanted o (yielded ops a.tmps)=(b==want):=by
    have:a.tmps[tg]? =some (.bool b):=by
      unfold aS at hv;rw [aO] at hv;cases h':a.tmps[tg]? with
      | none => rw [h'] at hv; simp [undef] at hv
      | some u => rw [h'] at hv; simp at hv; rw [hv]
    cases b <;> cases want <;> simp [Region.wanted,hg,yielded,hgd,this]
  subst hs;refine ⟨fun hw'=> ?_,fun hw'=> ?_⟩
  · rw [hw] at hw';have hp:pc:=hpc.2 (by simpa using hw');refine jT (h done a w τ c hp) ⟨v,rfl,Ext.refl _ _,?_⟩;show (pc→aS (a.put o.dst v) t=v)∧(¬pc→aS (a.put o.dst v) t=undef);rw [hd,cT a t t v (c.lt t hd),if_pos rfl];exact ⟨fun _=>rfl,fun hn=>absurd hp hn⟩
  · rw [hw] at hw';have hp:¬pc:=fun hp=>by rw [hpc.1 hp] at hw';simp at hw'
    refine ⟨Ext.refl _ _,?_⟩;show (pc→aS (a.put o.dst undef) t=v)∧(¬pc→aS (a.put o.dst undef) t=undef);rw [hd,cT a t t undef (c.lt t hd),if_pos rfl];exact ⟨fun h=>absurd h hp,fun _=>rfl⟩
theorem xd {t gi tg:Nat} {want b:Bool} {pc pg:Prop} {v:Value} (hs:s=B.gdet N t pc v) (hg:o.guard=some (gi,want)) (hd:o.dst=some t) (hgd:((ops[gi]?).bind (·.dst))=some tg)
    (hgs:sp[gi]? =some (B.gdet N tg pg (.bool b))) (hb:(bf.getD j 0).testBit gi=true) (hpc:pc↔(pg∧b=want))
    (h:∀done a w τ,Cx ops sp In a0 w0 bf j o done a w τ→pc→bU P a o w v):Ob ops sp In a0 w0 P bf j o s:=by
  intro done a w τ c;have hv:=c.J.det gi _ hgs rfl (c.pre gi hb);have hv:(pg→aS a tg= .bool b)∧(¬pg→aS a tg=undef):=hv;subst hs;by_cases hpg:pg
  · have hv':=hv.1 hpg;have hw:Region.wanted o (yielded ops a.tmps)=(b==want):=by
      have:a.tmps[tg]? =some (.bool b):=by
        unfold aS at hv';rw [aO] at hv';cases h':a.tmps[tg]? with
        | none => rw [h'] at hv'; simp [undef] at hv'
        | some u => rw [h'] at hv'; simp at hv'; rw [hv']
      cases b <;> cases want <;> simp [Region.wanted,hg,yielded,hgd,this]
    refine ⟨fun hw'=> ?_,fun hw'=> ?_⟩
    · rw [hw] at hw';have hp:pc:=hpc.2 ⟨hpg,by simpa using hw'⟩;refine jT (h done a w τ c hp) ⟨v,rfl,Ext.refl _ _,?_⟩;show (pc→aS (a.put o.dst v) t=v)∧(¬pc→aS (a.put o.dst v) t=undef);rw [hd,cT a t t v (c.lt t hd),if_pos rfl];exact ⟨fun _=>rfl,fun hn=>absurd hp hn⟩
    · rw [hw] at hw';have hp:¬pc:=fun hp=>by rw [(hpc.1 hp).2] at hw';simp at hw'
      refine ⟨Ext.refl _ _,?_⟩;show (pc→aS (a.put o.dst undef) t=v)∧(¬pc→aS (a.put o.dst undef) t=undef);rw [hd,cT a t t undef (c.lt t hd),if_pos rfl];exact ⟨fun h=>absurd h hp,fun _=>rfl⟩
  · have hv':=hv.2 hpg;have hw:Region.wanted o (yielded ops a.tmps)=false:=by
      have:∀bb,a.tmps[tg]? ≠some (.bool bb):=by
        intro bb h';unfold aS at hv';rw [aO,h'] at hv';simp [undef] at hv'
      have hy:yielded ops a.tmps gi=none:=by
        cases h':a.tmps[tg]? with
        | none => simp [yielded, hgd, h']
        | some u => cases u <;> first | exact absurd h' (this _) | simp [yielded, hgd, h']
      simp [Region.wanted,hg,hy]
    have hp:¬pc:=fun hp=>hpg (hpc.1 hp).1;refine ⟨fun hw'=>(by rw [hw] at hw';cases hw'),fun _=> ?_⟩;refine ⟨Ext.refl _ _,?_⟩;show (pc→aS (a.put o.dst undef) t=v)∧(¬pc→aS (a.put o.dst undef) t=undef);rw [hd,cT a t t undef (c.lt t hd),if_pos rfl];exact ⟨fun h=>absurd h hp,fun _=>rfl⟩
end obs
end
section
open Go.RowKit
section run
variable {P:Program} {w:World} {α:Type} {E:Enc α}
theorem gy (w:World) (g:Nat) (cs:Array Value):Ext (fun k=>k=g) w (w.setRow g cs):=
  ⟨rfl,rfl,rfl,by simp [World.setRow],fun k _ h=>setRow_other w g k cs h⟩
theorem mO (t ty e:TypeId) (i:TypeInfo) (z:Value) (ht:P.underlying t=some (.slice e)) (hi:P.info? e=some i) (hz:i.zero=some z) (hsize:i.size=E.sz) (hzs:z.cells.size=E.sz)
    {v u:Value} {xs ys:List α} (hown:gQ E e w v xs) (hu:SlT E w u ys) (h63:xs.length+ys.length≤maxLen) (hby:(xs.length+ys.length) * i.bytes≤140737488355328):
    ∃v' w',(Builtin.append_ #[t,t] ty #[v,u]).run P w= .ok v' w'∧gQ E e w' v' (xs++ys)∧Ext (fun k=>v.ownBlock=some k) w w'∧(∀g,v'.ownBlock=some g→v.ownBlock=some g∨(w.heap.size≤g∧g < w'.heap.size)):=by
  have hy1:∀x ∈ E.row ys,x.oneCell'=true:=E.row_one;have hyl:(E.row ys).length=ys.length * i.size:=by rw [E.row_length,hsize]
  have hpos:=E.pos;simp only [maxLen] at h63;have hrow:E.row xs++E.row ys=E.row (xs++ys):=(E.row_append xs ys).symm;have newb:∀(old:Nat),gQ E e (w.drew.alloc (.cells ((E.row xs).toArray++(E.row ys).toArray++Builtin.zeroCells z.cells (grownCap w (xs.length+ys.length) old e - (xs.length+ys.length))) e))
      (.slice (some ⟨w.heap.size,0,none⟩) (xs.length+ys.length) (grownCap w (xs.length+ys.length) old e)) (xs++ys):=by
    intro old;have hge:=grownCap_ge w (xs.length+ys.length) old e;have hcm:grownCap w (xs.length+ys.length) old e≤maxLen:=grownCap_le_maxLen w _ old e (by simp only [maxLen];omega);refine ⟨E.row_length _,.inr ⟨w.heap.size,_,_,by rw [bK],dE _,heap_alloc_new w.drew _,by rw [bK];exact hge,hcm,?_,?_⟩⟩
    · simp only [Array.size_append,iG,size_zeroCells,hzs,E.row_length,←eL];congr 1;omega
    · simp only [Array.toList_append,gM];rw [←gM,hrow,←E.row_length];exact List.take_left
  have newe:∀(o:Obj),Ext (fun k=>v.ownBlock=some k) w (w.drew.alloc o):=fun o=>(Ext.refl _ w).drew.trans (Ext.alloc _ _ _);rcases hu.sl with ⟨rfl,hu0⟩ | ⟨b,cap,rfl,hle,hcap⟩
  · have hys:ys=[]:=bB hu0;subst hys;refine ⟨v,w,?_,by rw [fO];exact hown,Ext.refl _ _,fun g h=> .inl h⟩;have hl:=hown.sl.sl;rcases hl with ⟨rfl,_⟩ | ⟨b,cap,rfl,h1,h2⟩
    · simp [Builtin.append_,run_underlying ht,sizeOf,typeInfo,hi,Builtin.lenOf,Builtin.firstCells]
    · simp [Builtin.append_,run_underlying ht,sizeOf,typeInfo,hi,Builtin.lenOf,Builtin.firstCells,h1,storeCells]
  · have hcell:∀j x,(E.row ys)[j]? =some x→w.cell? (b.add j)=some x:=hu.cell;rcases hown.2 with ⟨rfl,hx0⟩ | ⟨g,c,cur,rfl,hb,hg,h1,h2,h3,h4⟩
    · have hxs:xs=[]:=bB hx0;subst hxs;by_cases h0:ys.length=0
      · have:ys=[]:=bB h0;subst this
        refine ⟨_,w,?_,hown,Ext.refl _ _,fun g h=> .inl h⟩;simp [Builtin.append_,run_underlying ht,sizeOf,typeInfo,hi,Builtin.lenOf,Builtin.firstCells,loadCells,loadCellsFrom]
      · have hr:=run_append_nil (P:=P) w t ty e i z ht hi hz b ys.length cap (E.row ys) hyl hcell (by omega) (by omega) (by simp at hby;omega);have hnew:=newb 0;simp only [bG,fR,fc,show (E.row ([]:List α))=[] from rfl,Array.empty_append] at hnew ⊢;refine ⟨_,_,hr,hnew,newe _,fun g hg=> .inr ?_⟩;simp only [Value.ownBlock,Option.some.injEq] at hg;subst hg;simp
    · by_cases hroom:xs.length+ys.length≤c
      · have hfit:xs.length * i.size+(E.row ys).length≤cur.size:=by rw [hyl,h3,hsize,←eL];exact fS _ hroom
        have hr:=run_append_room (P:=P) w t ty e i ht hi g xs.length c cur hg b ys.length cap (E.row ys) hyl hcell hy1 hroom hfit;refine ⟨_,_,hr,⟨E.row_length _,.inr ⟨g,c,_,by rw [bK],hb,setRow_heap w g cur _ e _ hg,by rw [bK];exact hroom,h2,?_,?_⟩⟩,?_,fun k hk=> .inl hk⟩
        · simp only [iG,bK,cD,dH,ef];omega
        · simp only [hsize];rw [h4,hrow,←E.row_length];exact List.take_left
        · exact (gy w g _).mono fun k _ h=>by rw [h];rfl
      · have holds:∀j x,(E.row xs)[j]? =some x→w.cell? ((⟨g,0,none⟩:Addr).add j)=some x:=World.ownsRow.cells hown (g:=g) rfl;have hr:=run_append_grow (P:=P) w t ty e i z ht hi hz ⟨g,0,none⟩ xs.length c (E.row xs) (by rw [E.row_length,hsize]) holds b ys.length cap (E.row ys) hyl hcell (by omega) (by omega) (growslice_fits (by omega) hby);refine ⟨_,_,hr,newb c,newe _,fun k hk=> .inr ?_⟩;simp only [Value.ownBlock,Option.some.injEq] at hk;subst hk;simp
end run
def mr {α:Type} (E:Enc α) (ty:Nat) (w w':World) (v:Value) (xs:List α):Prop:=gQ E ty w' v xs∧∀g,v.ownBlock=some g→w.heap.size≤g
section obs
variable {N:aQ} {P:Program} {ops:Array Oper} {sp:List (Spec N)} {In:Nat→Ini N} {a0:Act} {w0:World} {bf:List Nat} {j:Nat} {o:Oper} {s:Spec N}
theorem dI {tag:Nat} (hg:o.guard=none) (ht:s.tag=some tag)
    (h:∀done a w τ,Cx ops sp In a0 w0 bf j o done a w τ→o.wp P a w (fun a' w'=>∃v,a'=a.put o.dst v∧Ext (τ tag) w w'∧∃T':aQ,(∀g,T' g→τ tag g∨(w.heap.size≤g∧g < w'.heap.size))∧s.R (ex (lJ τ tag T') w') T' (aS a' s.slot) w') (fun _ _ _=>False)):Ob ops sp In a0 w0 P bf j o s:=
  rc hg fun done a w τ c=>by
    have:=h done a w τ c;unfold mK;rw [ht];exact this
theorem eI {P:Program} {o:Oper} {a:Act} {w w':World} {K:Act→World→Prop} {Q:Exit→Act→World→Prop} {v:Value} (h:(execOp a.eval o).run P w= .ok (.value v) w') (hK:K (a.put o.dst v) w'):o.wp P a w K Q:=by
  unfold Oper.wp;rw [h];exact hK
theorem gA {P:Program} {o:Oper} {a:Act} {w w':World} {K:Act→World→Prop} {Q:Exit→Act→World→Prop} (h:(execOp a.eval o).run P w= .ok .skip w') (hK:K (a.put o.dst undef) w'):o.wp P a w K Q:=by
  unfold Oper.wp;rw [h];exact hK
theorem rd {ty:Nat} {cells:List Value} {w:World}:cj ty cells (fun g=>g=w.heap.size) (.pointer (some ⟨w.heap.size,0,none⟩)) (w.alloc (.cells cells.toArray ty)):=
  ⟨w.heap.size,rfl,by simp,rfl,heap_alloc_new w _⟩
theorem gV {ty tag t:Nat} {cells:List Value} {x:Operand} {v:Value} (hs:s=B.box ty N tag t cells) (hg:o.guard=none) (hd:o.dst=some t) (ho:o.op= .box ty x) (hc:v.cells=cells.toArray)
    (h:∀done a w τ,Cx ops sp In a0 w0 bf j o done a w τ→a.eval x=v):Ob ops sp In a0 w0 P bf j o s:=by
  subst hs;refine dI hg rfl fun done a w τ c=> ?_;have hr:(execOp a.eval o).run P w= .ok (.value (.pointer (some ⟨w.heap.size,0,none⟩))) (w.alloc (.cells cells.toArray ty)):=by
    simp only [execOp,ho,h done a w τ c,Instr.box,newVar,newRow,newObj,hc];rfl
  refine eI hr ⟨_,rfl,Ext.alloc _ _ _,fun g=>g=w.heap.size,fun g hg=> .inr (by subst hg;simp),?_⟩;show cj ty cells _ (aS (a.put o.dst _) t) _;rw [hd,cT a t t _ (c.lt t hd),if_pos rfl];exact rd
theorem ci {ty tag t:Nat} {cells:List Value} {z:Value} (hs:s=B.box ty N tag t cells) (hg:o.guard=none) (hd:o.dst=some t) (ho:o.op= .alloc ty) (hz:∀w,(zeroValue ty).run P w= .ok z w) (hc:z.cells=cells.toArray):Ob ops sp In a0 w0 P bf j o s:=by
  subst hs;refine dI hg rfl fun done a w τ c=> ?_;have hr:(execOp a.eval o).run P w= .ok (.value (.pointer (some ⟨w.heap.size,0,none⟩))) (w.alloc (.cells cells.toArray ty)):=by
    simp only [execOp,ho,Instr.alloc,Sem.run_bind,hz,Result.andThen_ok,newVar,newRow,newObj,hc];rfl
  refine eI hr ⟨_,rfl,Ext.alloc _ _ _,fun g=>g=w.heap.size,fun g hg=> .inr (by subst hg;simp),?_⟩;show cj ty cells _ (aS (a.put o.dst _) t) _;rw [hd,cT a t t _ (c.lt t hd),if_pos rfl];exact rd
theorem run_store {P:Program} {w:World} {t ty g off:Nat} {cur:Array Value} {v:Value} (hg:w.heap[g]? =some (.cells cur ty (0,0))) (hsz:∀w,(sizeOf t).run P w= .ok v.cells.size w) (hfit:off+v.cells.size≤cur.size) (h1:∀u ∈ v.cells.toList,u.oneCell'=true):
    (Instr.storeAt t (.pointer (some ⟨g,off,none⟩)) v).run P w= .ok () (w.setRow g (cur.toList.take off++v.cells.toList++cur.toList.drop (off+v.cells.size)).toArray):=by
  have h:=run_storeCells_at P g off ty v.cells.toList 0 cur w hg (by simpa using hfit) h1;simp only [jw,ef] at h;simp only [Instr.storeAt,Instr.sureAddr,Sem.run_bind,Sem.run_pure,Result.andThen_ok,storeVar,hsz,ne_eq,not_true_eq_false,if_false];exact h
theorem kq (g k:Nat):((⟨g,0,none⟩:Addr).add k)=⟨g,k,none⟩:=by unfold Addr.add;split <;> simp_all
theorem oe {ty tag t tt off:Nat} {cells cells':List Value} {x y:Operand} {v:Value} (hs:s=B.box ty N tag t cells') (hg:o.guard=none) (hd:o.dst=none) (ho:o.op= .store tt x y) (hsz:∀w,(sizeOf tt).run P w= .ok v.cells.size w)
    (hfit:off+v.cells.size≤cells.length) (h1:∀u ∈ v.cells.toList,u.oneCell'=true) (hc:cells'=cells.take off++v.cells.toList++cells.drop (off+v.cells.size))
    (hp:∀done a w τ,Cx ops sp In a0 w0 bf j o done a w τ→cj ty cells (τ tag) (aS a t) w∧a.eval x= .pointer (some ((cX (aS a t)).add off))∧a.eval y=v):Ob ops sp In a0 w0 P bf j o s:=by
  subst hs;refine dI hg rfl fun done a w τ c=> ?_;obtain ⟨⟨g,hv,hlt,hT,hgg⟩,hx,hy⟩:=hp done a w τ c;have hx':a.eval x= .pointer (some ⟨g,off,none⟩):=by rw [hx,hv];simp only [cX,kq]
  have hr:=run_store (P:=P) (t:=tt) (off:=off) hgg hsz (by simpa using hfit) h1;have hr':(execOp a.eval o).run P w= .ok .skip (w.setRow g cells'.toArray):=by
    simp only [execOp,ho,hx',hy,Sem.run_bind,hr,Result.andThen_ok];rw [hc];rfl
  refine gA hr' ⟨undef,rfl,(gy w g _).mono (fun k _ h=>by rw [h];exact hT),τ tag,fun g h=> .inl h,?_⟩;show cj ty cells' _ (aS (a.put o.dst _) t) _;rw [hd,iJ];exact ⟨g,hv,by simp [World.setRow,hlt],hT,setRow_heap w g _ _ ty _ hgg⟩
theorem cJ {α:Type} {E:Enc α} {ty e tag t n:Nat} {xs:List α} {parts:Array (Nat × Operand)} {z:Value} {cells:Array Value} (hs:s=own E e N tag t xs) (hg:o.guard=none) (hd:o.dst=some t) (ho:o.op= .buildSlice ty n parts)
    (hty:P.underlying ty=some (.slice e)) (hsz:∀w,(sizeOf e).run P w= .ok E.sz w) (hz:∀w,(zeroValue e).run P w= .ok z w) (hn:n=xs.length) (hn0:0 < n) (hsmall:n * E.sz≤16777216)
    (hf:∀done a w τ,Cx ops sp In a0 w0 bf j o done a w τ→Instr.fill (fun i=>some (i * E.sz,E.sz)) ((Array.range (n * E.sz)).map (z.cells[· % z.cells.size]!)) (parts.map fun (i,x)=>(i,a.eval x)).toList=some cells)
    (hc:cells.toList=E.row xs):Ob ops sp In a0 w0 P bf j o s:=by
  subst hs;refine dI hg rfl fun done a w τ c=> ?_;have h2:¬(n * E.sz > 2 ^ 24):=by omega
  have h0:¬(n * E.sz=0):=by have:=Nat.mul_pos hn0 E.pos;omega
  have hr:(execOp a.eval o).run P w= .ok (.value (.slice (some ⟨w.heap.size,0,none⟩) n n)) (w.alloc (.cells cells e)):=by
    have hfz:=hf done a w τ c;simp only [execOp,ho,Instr.buildSlice,Sem.run_bind,run_underlying hty,Result.andThen_ok,hsz,h2,if_false,Sem.run_pure,h0,hz];rw [hfz];rfl
  have hl:cells.size=n * E.sz:=by rw [←ef,hc,E.row_length,hn]
  refine eI hr ⟨_,rfl,Ext.alloc _ _ _,fun g=>g=w.heap.size,fun g hg=> .inr (by subst hg;simp),?_⟩;show dq E e xs _ (aS (a.put o.dst _) t) _;rw [hd,cT a t t _ (c.lt t hd),if_pos rfl];refine ⟨⟨E.row_length xs,.inr ⟨w.heap.size,n,cells,by rw [hn],dE _,heap_alloc_new w _,by omega,?_,hl,?_⟩⟩,fun g h=> ?_⟩
  · have:=iA n E.pos;simp only [maxLen];omega
  · rw [hc,←E.row_length];exact kM
  · simp only [Value.ownBlock,Option.some.injEq] at h;exact h.symm
theorem kC {α:Type} {E:Enc α} {ty e tag t:Nat} (hs:s=own E e N tag t ([]:List α)) (hg:o.guard=none) (hd:o.dst=some t) (ho:o.op= .buildSlice ty 0 #[])
    (hty:P.underlying ty=some (.slice e)) (hsz:∀w,(sizeOf e).run P w= .ok E.sz w):Ob ops sp In a0 w0 P bf j o s:=by
  subst hs;refine dI hg rfl fun done a w τ c=> ?_;have hr:(execOp a.eval o).run P w= .ok (.value (.slice (some ⟨w.heap.size,0,none⟩) 0 0)) (w.alloc (.cells #[] e)):=by
    have e0:Array.range 0=#[]:=Array.eq_empty_of_size_eq_zero (by simp);simp [execOp,ho,Instr.buildSlice,run_underlying hty,hsz,Instr.fill,newRow,newObj,e0];rfl
  refine eI hr ⟨_,rfl,Ext.alloc _ _ _,fun g=>g=w.heap.size,fun g hg=> .inr (by subst hg;simp),?_⟩;show dq E e [] _ (aS (a.put o.dst _) t) _;rw [hd,cT a t t _ (c.lt t hd),if_pos rfl];refine ⟨⟨E.row_length [],.inr ⟨w.heap.size,0,#[],rfl,dE _,heap_alloc_new w _,bj _,dE _,by simp,by simp [Enc.row]⟩⟩,fun g h=> ?_⟩;simp only [Value.ownBlock,Option.some.injEq] at h;exact h.symm
theorem dS {α:Type} {E:Enc α} {ty e tag t t0:Nat} {xs ys:List α} {x y:Operand} {z:Value} {i:TypeInfo} (hs:s=own E e N tag t (xs++ys)) (hg:o.guard=none) (hd:o.dst=some t)
    (ho:o.op= .call { callee:= .builtin .append,args:=#[x,y],argTypes:=#[ty,ty] })
    (hty:P.underlying ty=some (.slice e)) (hi:P.info? e=some i) (hz:i.zero=some z) (hsize:i.size=E.sz) (hzs:z.cells.size=E.sz)
    (h63:xs.length+ys.length≤maxLen) (hby:(xs.length+ys.length) * i.bytes≤140737488355328)
    (hp:∀done a w τ,Cx ops sp In a0 w0 bf j o done a w τ→dq E e xs (τ tag) (aS a t0) w∧a.eval x=aS a t0∧∃u,a.eval y=u∧SlT E w u ys):Ob ops sp In a0 w0 P bf j o s:=by
  subst hs;refine dI hg rfl fun done a w τ c=> ?_;obtain ⟨⟨hown,hT⟩,hx,u,hy,hsl⟩:=hp done a w τ c;obtain ⟨v',w',hr,h2,h3,h4⟩:=mO (P:=P) (E:=E) ty o.type e i z hty hi hz hsize hzs hown hsl h63 hby;have hr':(execOp a.eval o).run P w= .ok (.value v') w':=by
    simp only [execOp,ho,resolve,invoke,builtin,Sem.run_bind,Sem.run_pure,Result.andThen_ok,dR,aZ,bF,hx,hy,hr]
  refine eI hr' ⟨_,rfl,h3.mono (fun k _ h=>hT k h),fun g=>v'.ownBlock=some g,fun g hg=>(h4 g hg).elim (fun h=> .inl (hT g h)) (fun h=> .inr h),?_⟩;show dq E e (xs++ys) _ (aS (a.put o.dst _) t) _;rw [hd,cT a t t _ (c.lt t hd),if_pos rfl];exact ⟨h2,fun g h=>h⟩
theorem de {tag t t0:Nat} {R:aQ→aQ→Value→World→Prop} {x:Operand} (ht:s.tag=some tag) (hsl:s.slot=t) (hR:s.R=R) (hg:o.guard=none) (hd:o.dst=some t) (ho:o.op= .move x∨o.op= .assign x)
    (hp:∀done a w τ,Cx ops sp In a0 w0 bf j o done a w τ→R (ex τ w) (τ tag) (aS a t0) w∧a.eval x=aS a t0):Ob ops sp In a0 w0 P bf j o s:=by
  refine dI hg ht fun done a w τ c=> ?_;obtain ⟨h1,hx⟩:=hp done a w τ c;have hr:bU P a o w (aS a t0):=by
    rcases ho with ho | ho
    · exact aN ho hx
    · exact au ho hx
  refine eI hr ⟨_,rfl,Ext.refl _ _,τ tag,fun g h=> .inl h,?_⟩;rw [hsl,hd,cT a t t _ (c.lt t hd),if_pos rfl];have e1:lJ τ tag (τ tag)=τ:=by
    funext t g;unfold lJ;split
    · rename_i e;rw [e]
    · rfl
  rw [e1,hR];exact h1
def eD (P:Program) (a:Act) (o:Oper) (w:World) (f:FuncId) (args:Array Value):Prop:=(execOp a.eval o).run P w= .ok (.enter f args) w
theorem ll {a:Act} {w:World} {x:Operand} {as0:Array Operand} {ts:Array TypeId} {f:FuncId} {caps args:Array Value} (ho:o.op= .call { callee:= .value x,args:=as0,argTypes:=ts }) (hx:a.eval x= .func (.func f) #[] caps)
    (hcall:∀args w,(callFunc f args).run P w= .ok (.enter f args) w) (has:as0.map a.eval++caps=args):eD P a o w f args:=by
  subst has;simp only [eD,execOp,ho,resolve,hx,Deferred.ofValue,Sem.run_bind,Sem.run_pure,Result.andThen_ok,invoke,hcall];simp
theorem zu {t:Nat} {v:Value} (hs:s=B.det N t v) (hg:o.guard=none) (hd:o.dst=some t)
    (h:∀done a w τ,Cx ops sp In a0 w0 bf j o done a w τ→∃f args,eD P a o w f args∧Calls P f args w (fun e w'=>e= .returned v∧Ext aV w w')):Ob ops sp In a0 w0 P bf j o s:=
  rc hg fun done a w τ c=>by
    obtain ⟨f,args,h1,h2⟩:=h done a w τ c;subst hs;unfold Oper.wp;rw [h1];refine h2.mono fun e w' ⟨he,hx⟩=> ?_;subst he;refine ⟨v,rfl,hx,?_⟩;show aS (a.put o.dst v) t=v;rw [hd,cT a t t v (c.lt t hd),if_pos rfl]
theorem xe {t gi tg:Nat} {want b:Bool} {pc:Prop} {v:Value} (hs:s=B.gdet N t pc v) (hg:o.guard=some (gi,want)) (hd:o.dst=some t) (hgd:((ops[gi]?).bind (·.dst))=some tg)
    (hgs:sp[gi]? =some (B.det N tg (.bool b))) (hb:(bf.getD j 0).testBit gi=true) (hpc:pc↔b=want)
    (h:∀done a w τ,Cx ops sp In a0 w0 bf j o done a w τ→pc→∃f args,eD P a o w f args∧Calls P f args w (fun e w'=>e= .returned v∧Ext aV w w')):Ob ops sp In a0 w0 P bf j o s:=by
  intro done a w τ c;have hv:aS a tg= .bool b:=c.v gi hgs hb;have hw:Region.wanted o (yielded ops a.tmps)=(b==want):=by
    have:a.tmps[tg]? =some (.bool b):=by
      unfold aS at hv;rw [aO] at hv;cases h':a.tmps[tg]? with
      | none => rw [h'] at hv; simp [undef] at hv
      | some u => rw [h'] at hv; simp at hv; rw [hv]
    cases b <;> cases want <;> simp [Region.wanted,hg,yielded,hgd,this]
  subst hs;refine ⟨fun hw'=> ?_,fun hw'=> ?_⟩
  · rw [hw] at hw';have hp:pc:=hpc.2 (by simpa using hw');obtain ⟨f,args,h1,h2⟩:=h done a w τ c hp;unfold Oper.wp;rw [h1];refine h2.mono fun e w' ⟨he,hx⟩=> ?_;subst he;refine ⟨v,rfl,hx,?_⟩;show (pc→aS (a.put o.dst v) t=v)∧(¬pc→aS (a.put o.dst v) t=undef);rw [hd,cT a t t v (c.lt t hd),if_pos rfl];exact ⟨fun _=>rfl,fun hn=>absurd hp hn⟩
  · rw [hw] at hw';have hp:¬pc:=fun hp=>by rw [hpc.1 hp] at hw';simp at hw'
    refine ⟨Ext.refl _ _,?_⟩;show (pc→aS (a.put o.dst undef) t=v)∧(¬pc→aS (a.put o.dst undef) t=undef);rw [hd,cT a t t undef (c.lt t hd),if_pos rfl];exact ⟨fun h=>absurd h hp,fun _=>rfl⟩
theorem vX {t gi tg:Nat} {want b:Bool} {pc pg:Prop} {v:Value} (hs:s=B.gdet N t pc v) (hg:o.guard=some (gi,want)) (hd:o.dst=some t) (hgd:((ops[gi]?).bind (·.dst))=some tg)
    (hgs:sp[gi]? =some (B.gdet N tg pg (.bool b))) (hb:(bf.getD j 0).testBit gi=true) (hpc:pc↔(pg∧b=want))
    (h:∀done a w τ,Cx ops sp In a0 w0 bf j o done a w τ→pc→∃f args,eD P a o w f args∧Calls P f args w (fun e w'=>e= .returned v∧Ext aV w w')):Ob ops sp In a0 w0 P bf j o s:=by
  intro done a w τ c;have hv:(pg→aS a tg= .bool b)∧(¬pg→aS a tg=undef):=c.J.det gi _ hgs rfl (c.pre gi hb);subst hs;by_cases hpg:pg
  · have hv':=hv.1 hpg;have hw:Region.wanted o (yielded ops a.tmps)=(b==want):=by
      have:a.tmps[tg]? =some (.bool b):=by
        unfold aS at hv';rw [aO] at hv';cases h':a.tmps[tg]? with
        | none => rw [h'] at hv'; simp [undef] at hv'
        | some u => rw [h'] at hv'; simp at hv'; rw [hv']
      cases b <;> cases want <;> simp [Region.wanted,hg,yielded,hgd,this]
    refine ⟨fun hw'=> ?_,fun hw'=> ?_⟩
    · rw [hw] at hw';have hp:pc:=hpc.2 ⟨hpg,by simpa using hw'⟩;obtain ⟨f,args,h1,h2⟩:=h done a w τ c hp;unfold Oper.wp;rw [h1];refine h2.mono fun e w' ⟨he,hx⟩=> ?_;subst he;refine ⟨v,rfl,hx,?_⟩;show (pc→aS (a.put o.dst v) t=v)∧(¬pc→aS (a.put o.dst v) t=undef);rw [hd,cT a t t v (c.lt t hd),if_pos rfl];exact ⟨fun _=>rfl,fun hn=>absurd hp hn⟩
    · rw [hw] at hw';have hp:¬pc:=fun hp=>by rw [(hpc.1 hp).2] at hw';simp at hw'
      refine ⟨Ext.refl _ _,?_⟩;show (pc→aS (a.put o.dst undef) t=v)∧(¬pc→aS (a.put o.dst undef) t=undef);rw [hd,cT a t t undef (c.lt t hd),if_pos rfl];exact ⟨fun h=>absurd h hp,fun _=>rfl⟩
  · have hv':=hv.2 hpg;have hw:Region.wanted o (yielded ops a.tmps)=false:=by
      have:∀bb,a.tmps[tg]? ≠some (.bool bb):=by
        intro bb h';unfold aS at hv';rw [aO,h'] at hv';simp [undef] at hv'
      have hy:yielded ops a.tmps gi=none:=by
        cases h':a.tmps[tg]? with
        | none => simp [yielded, hgd, h']
        | some u => cases u <;> first | exact absurd h' (this _) | simp [yielded, hgd, h']
      simp [Region.wanted,hg,hy]
    have hp:¬pc:=fun hp=>hpg (hpc.1 hp).1;refine ⟨fun hw'=>(by rw [hw] at hw';cases hw'),fun _=>⟨Ext.refl _ _,?_⟩⟩;show (pc→aS (a.put o.dst undef) t=v)∧(¬pc→aS (a.put o.dst undef) t=undef);rw [hd,cT a t t undef (c.lt t hd),if_pos rfl];exact ⟨fun h=>absurd h hp,fun _=>rfl⟩
theorem iL {tag:Nat} (hg:o.guard=none) (ht:s.tag=some tag)
    (h:∀done a w τ,Cx ops sp In a0 w0 bf j o done a w τ→∃f args,eD P a o w f args∧Calls P f args w (fun e w'=>∃v,e= .returned v∧Ext (τ tag) w w'∧∃T':aQ,(∀g,T' g→τ tag g∨(w.heap.size≤g∧g < w'.heap.size))∧s.R (ex (lJ τ tag T') w') T' (aS (a.put o.dst v) s.slot) w')):Ob ops sp In a0 w0 P bf j o s:=
  dI hg ht fun done a w τ c=>by
    obtain ⟨f,args,h1,h2⟩:=h done a w τ c;unfold Oper.wp;rw [h1];refine h2.mono fun e w' ⟨v,he,h3⟩=> ?_;subst he;exact ⟨v,rfl,h3⟩
theorem pd {α:Type} {E:Enc α} {ty tag t:Nat} {xs:List α} (hs:s=own E ty N tag t xs) (hg:o.guard=none) (hd:o.dst=some t)
    (h:∀done a w τ,Cx ops sp In a0 w0 bf j o done a w τ→∃f args,eD P a o w f args∧Calls P f args w (fun e w'=>∃v,e= .returned v∧Ext aV w w'∧mr E ty w w' v xs)):Ob ops sp In a0 w0 P bf j o s:=by
  subst hs;refine iL (tag:=tag) hg rfl fun done a w τ c=> ?_;obtain ⟨f,args,h1,h2⟩:=h done a w τ c;refine ⟨f,args,h1,h2.mono fun e w' ⟨v,he,hx,ho⟩=>⟨v,he,hx.mono (fun _ _ h=>h.elim),fun g=>v.ownBlock=some g,fun g hg=> .inr ⟨ho.2 g hg,ho.1.lt g hg⟩,?_⟩⟩;show dq E ty xs _ (aS (a.put o.dst v) t) w';rw [hd,cT a t t v (c.lt t hd),if_pos rfl];exact ⟨ho.1,fun g h=>h⟩
end obs
structure St (N:aQ) (W0:World) (n:Nat) (a:Act) (w:World) (τ:Nat→aQ):Prop where
  defers:a.defers=[]
  size:a.tmps.size=n
  ext:Ext N W0 w
  big:∀k,w.heap.size≤k→N k
  disj:∀s t g,τ s g→τ t g→s=t
  bnd:∀t g,τ t g→N g∧g < w.heap.size
def ek {N:aQ} (l:List (Ini N)) (t:Nat):Ini N:=l.getD t (Ini.any N)
def pe {N:aQ} (τ:Nat→aQ) (w:World):Nat→List (Ini N)→Prop
  | _, [] => True
  | k, i :: l => i.I (ex τ w) (τ k) w ∧ pe τ w (k + 1) l
theorem lQ {N:aQ} {τ:Nat→aQ} {w:World}:∀{l:List (Ini N)} {k:Nat},pe τ w k l→∀t,(l.getD t (Ini.any N)).I (ex τ w) (τ (k+t)) w
  | [], _, _, t => trivial
  | i :: l, k, h, 0 => h.1
  | i :: l, k, h, t + 1 => by
    have:=lQ h.2 t;rwa [show k+(t+1)=k+1+t by omega]
def iM (ops:List Oper) (t:Nat):Bool:=ops.all fun o=>o.dst !=some t
structure Fin {N:aQ} (l:List Oper) (sp:List (Spec N)) (il:List (Ini N)) (a0 a:Act) (w:World) (τ:Nat→aQ):Prop where
  same:∀t,iM l t=true→aS a t=aS a0 t
  det:∀(j:Nat) (s:Spec N),sp[j]? =some s→s.tag=none→s.R (ex τ w) aV (aS a s.slot) w
  res:∀(j t:Nat) (s:Spec N),sp[j]? =some s→s.tag=some t→bu (sp.map (·.tag)) t sp.length=some j→s.R (ex τ w) (τ t) (aS a s.slot) w
  ini:∀t,bu (sp.map (·.tag)) t sp.length=none→(ek il t).I (ex τ w) (τ t) w
theorem Fin.old {N:aQ} {l:List Oper} {sp:List (Spec N)} {il:List (Ini N)} {a0 a:Act} {w:World} {τ:Nat→aQ} (h:Fin l sp il a0 a w τ) {t:Nat} {v:Value} (h0:aS a0 t=v) (hu:iM l t=true):aS a t=v:=(h.same t hu).trans h0
theorem Fin.v {N:aQ} {l:List Oper} {sp:List (Spec N)} {il:List (Ini N)} {a0 a:Act} {w:World} {τ:Nat→aQ} (h:Fin l sp il a0 a w τ) (j:Nat) {t:Nat} {v:Value} (hs:sp[j]? =some (B.det N t v)):aS a t=v:=h.det j _ hs rfl
theorem vY {N:aQ} {n:Nat} {W0:World} {P:Program} {l:List Oper} {sp:List (Spec N)} (il:List (Ini N)) {a0:Act} {w0:World} {τ0:Nat→aQ} {bf:List Nat} {id:Nat} {draw:Bool} (hm:P.follows .mixedOrders=true)
    {Q:Exit→Act→World→Prop} (hst:St N W0 n a0 w0 τ0) (hok:(lC l.toArray n&&oz l.toArray bf&&lN l.toArray bf (sp.map (·.slot)) (sp.map (·.tag)))=true)
    (hini:pe τ0 w0 0 il) (obs:mL l.toArray sp (ek il) a0 w0 P bf 0 l sp)
    (fin:∀a w τ,St N W0 n a w τ→Fin l sp il a0 a w τ→Q .normal a w):(Code.region id l.toArray draw).wp P Q a0 w0:=by
  have hlen:sp.length=l.length:=by
    simp only [ao] at hok;have h3:=hok.2;unfold lN at h3;simp only [ao,en,beq_iff_eq] at h3;simpa using h3.1.1
  refine xa (N:=N) (ini:=ek il) (τ:=τ0) hm (by rw [hst.size];exact hok) hst.big hst.disj hst.bnd (fun t=> ?_) obs fun done a w τ hd hJ=> ?_
  · have:=lQ hini t;rwa [fR] at this
  · refine fin a w τ ⟨hJ.defers.trans hst.defers,hJ.size.trans hst.size,hst.ext.trans hJ.ext,hJ.big,hJ.disj,hJ.bnd⟩ ⟨fun t ht=> ?_,fun j s hs ht=> ?_,fun j t s hs ht hl=> ?_,fun t hl=> ?_⟩
    · refine hJ.un t fun i o hi hdst=> ?_;exfalso;unfold iM at ht;rw [cK] at ht;have:=ht o (fT (by simpa using hi));simp [hdst] at this
    · exact hJ.det j s hs ht (hd j (by rw [←hlen];exact (List.getElem?_eq_some_iff.1 hs).1))
    · obtain ⟨h1,h2,h3⟩:=jB hl;refine hJ.res j s t hs ht (hd j (by omega)) fun k s' hk hlt hkt=> ?_;exact absurd (by rw [ik hk];exact hkt) (h3 k hlt (List.getElem?_eq_some_iff.1 hk).1)
    · refine hJ.ini t fun k s' hk hkt=> ?_;exact absurd (by rw [ik hk];exact hkt) (jC hl k (List.getElem?_eq_some_iff.1 hk).1)
end
section
open Go.RowKit
def Nw (w:World):aQ:=fun k=>w.heap.size≤k
theorem enter {P:Program} {f:FuncId} {fn:Func} {c:Code} {args:Array Value} {w:World} {R:Ending→World→Prop} {n:Nat} (hf:P.funcs[f]? =some fn) (hb:fn.body=some c) (hn:fn.ntmps=n) (hle:args.size≤n)
    (h:∀a τ,(∀i v,args[i]? =some v→aS a i=v)→St (Nw w) w n a w τ→c.wp P (bodyPost P fn R) a w):Calls P f args w R:=by
  refine calls_of_wp hf hb (h _ (fun _ _=>False) (fun i v hi=> ?_) ⟨rfl,?_,Ext.refl _ _,fun k hk=>hk,fun s t g h=>h.elim,fun t g h=>h.elim⟩)
  · unfold aS;have hlt:i < args.size:=(Array.getElem?_eq_some_iff.1 hi).1
    rw [aO,jM hlt,hi];rfl
  · simp [hn];omega
theorem eH {P:Program} {f:FuncId} {fn:Func} {c:Code} {args:Array Value} {w:World} {R:Ending→World→Prop} {n:Nat} (T:aQ) (hT:∀g,T g→g < w.heap.size) (hf:P.funcs[f]? =some fn) (hb:fn.body=some c) (hn:fn.ntmps=n) (hle:args.size≤n)
    (h:∀a τ,(∀i v,args[i]? =some v→aS a i=v)→τ 0=T→St (fun k=>T k∨w.heap.size≤k) w n a w τ→c.wp P (bodyPost P fn R) a w):Calls P f args w R:=by
  refine calls_of_wp hf hb (h _ (fun t g=>t=0∧T g) (fun i v hi=> ?_) (by funext g;simp) ⟨rfl,?_,Ext.refl _ _,fun k hk=> .inr hk,fun s t g h1 h2=>by rw [h1.1,h2.1],fun t g h=>⟨.inl h.2,hT g h.2⟩⟩)
  · unfold aS;have hlt:i < args.size:=(Array.getElem?_eq_some_iff.1 hi).1
    rw [aO,jM hlt,hi];rfl
  · simp [hn];omega
theorem cG {P:Program} {fn:Func} {R:Ending→World→Prop} {a:Act} {w:World} {t:Nat} {v:Value} (hr:fn.results=#[.tmp t]) (hd:a.defers=[]) (hv:aS a t=v) (h:R (.returned v) w):bodyPost P fn R .ret a w:=
  bodyPost_ret (v:=v) (by rw [results_tmp hr];exact congrArg (fun v=>Result.ok v w) hv) hd h
theorem Dh {P:Program} {fn:Func} {R:Ending→World→Prop} {a:Act} {w:World} (hr:fn.results=#[]) (hd:a.defers=[]) (h:R (.returned (.tuple #[])) w):bodyPost P fn R .normal a w:=
  bodyPost_end (results_none hr _ _ _) hd h
theorem jU {P:Program} {fn:Func} {R:Ending→World→Prop} {a:Act} {w:World} {t t':Nat} {v v':Value} (hr:fn.results=#[.tmp t,.tmp t']) (hd:a.defers=[]) (hv:aS a t=v) (hv':aS a t'=v') (h:R (.returned (.tuple #[v,v'])) w):bodyPost P fn R .ret a w:=
  bodyPost_ret (v:= .tuple #[v,v']) (by rw [results_tmp2 hr];exact (by rw [←hv,←hv'];rfl)) hd h
theorem St.ext0 {n:Nat} {W:World} {a:Act} {w:World} {τ:Nat→aQ} (h:St (Nw W) W n a w τ):Ext aV W w:=
  ⟨h.ext.os,h.ext.tape,h.ext.output,h.ext.size,fun k hk _=>h.ext.block k hk (fun hn:W.heap.size≤k=>by omega)⟩
theorem SlT.at {α:Type} {E:Enc α} {W w:World} {v:Value} {xs:List α} (h:SlT E W v xs) (he:Ext (Nw W) W w):SlT E w v xs:=
  h.keep he fun hne hn=>by have:=h.lt hne;simp only [Nw] at hn;omega
def nth {α:Type} [Inhabited α] (xs:List α) (i:Int):α:=xs.getD i.toNat default
theorem bD {α:Type} [Inhabited α] {xs:List α} {i:Int} (h0:0≤i) (h1:i < xs.length):xs[i.toNat]? =some (nth xs i):=by
  have:i.toNat < xs.length:=by omega
  simp [nth,List.getD,bm this]
theorem iN {α:Type} [Inhabited α] (xs:List α) (k:Nat):nth xs (k:Int)=xs.getD k default:=rfl
section
variable {N:aQ} {P:Program} {ops:Array Oper} {sp:List (Spec N)} {In:Nat→Ini N} {a0:Act} {w0:World} {bf:List Nat} {j:Nat} {o:Oper} {done:Nat→Bool} {a:Act} {w:World} {τ:Nat→aQ}
theorem Cx.ev (c:Cx ops sp In a0 w0 bf j o done a w τ) (i:Nat) {t:Nat} {val:Value} (hs:sp[i]? =some (B.det N t val)) (hb:(bf.getD j 0).testBit i=true):a.eval (.tmp t)=val:=c.v i hs hb
theorem Cx.eg (c:Cx ops sp In a0 w0 bf j o done a w τ) (i:Nat) {t:Nat} {pc:Prop} {val:Value} (hs:sp[i]? =some (B.gdet N t pc val)) (hb:(bf.getD j 0).testBit i=true) (hpc:pc):a.eval (.tmp t)=val:=c.g i hs hb hpc
theorem Cx.eo (c:Cx ops sp In a0 w0 bf j o done a w τ) {t:Nat} {val:Value} (h0:aS a0 t=val) (h:uN ops bf j t=true):a.eval (.tmp t)=val:=c.old h0 h
theorem Cx.ibox {ty:Nat} {v:Value} {cells:List Value} (c:Cx ops sp In a0 w0 bf j o done a w τ) (t:Nat) (hI:In t=B.ibox ty N v cells) (hl:bu (sp.map (·.tag)) t j=none) (hord:iw (sp.map (·.tag)) bf t j=true):cj ty cells (τ t) v w:=
  c.ini t _ hI hl hord
theorem Cx.iown {α:Type} {E:Enc α} {ty:Nat} {v:Value} {xs:List α} (c:Cx ops sp In a0 w0 bf j o done a w τ) (t:Nat) (hI:In t=B.iown E ty N v xs) (hl:bu (sp.map (·.tag)) t j=none) (hord:iw (sp.map (·.tag)) bf t j=true):dq E ty xs (τ t) v w:=
  c.ini t _ hI hl hord
theorem Cx.rbox {ty t slot:Nat} {cells:List Value} (c:Cx ops sp In a0 w0 bf j o done a w τ) (i:Nat) (hs:sp[i]? =some (B.box ty N t slot cells)) (hl:bu (sp.map (·.tag)) t j=some i) (hord:iw (sp.map (·.tag)) bf t j=true):cj ty cells (τ t) (aS a slot) w:=
  c.res i t _ hs hl hord
theorem Cx.rown {α:Type} {E:Enc α} {ty t slot:Nat} {xs:List α} (c:Cx ops sp In a0 w0 bf j o done a w τ) (i:Nat) (hs:sp[i]? =some (B.own E ty N t slot xs)) (hl:bu (sp.map (·.tag)) t j=some i) (hord:iw (sp.map (·.tag)) bf t j=true):dq E ty xs (τ t) (aS a slot) w:=
  c.res i t _ hs hl hord
end
section
variable {N:aQ} {l:List Oper} {sp:List (Spec N)} {il:List (Ini N)} {a0 a:Act} {w:World} {τ:Nat→aQ}
theorem Fin.rbox (h:Fin l sp il a0 a w τ) {ty t slot:Nat} {cells:List Value} (j:Nat) (hs:sp[j]? =some (B.box ty N t slot cells)) (hl:bu (sp.map (·.tag)) t sp.length=some j) {v:Value} (hv:aS a slot=v):cj ty cells (τ t) v w:=
  hv ▸ h.res j t _ hs rfl hl
theorem Fin.rown (h:Fin l sp il a0 a w τ) {α:Type} {E:Enc α} {ty t slot:Nat} {xs:List α} (j:Nat) (hs:sp[j]? =some (B.own E ty N t slot xs)) (hl:bu (sp.map (·.tag)) t sp.length=some j) {v:Value} (hv:aS a slot=v):dq E ty xs (τ t) v w:=
  hv ▸ h.res j t _ hs rfl hl
theorem Fin.ibox (h:Fin l sp il a0 a w τ) {ty:Nat} {v:Value} {cells:List Value} (t:Nat) (hI:ek il t=B.ibox ty N v cells) (hl:bu (sp.map (·.tag)) t sp.length=none):cj ty cells (τ t) v w:=by
  have:=h.ini t hl;rw [hI] at this
  exact this
theorem Fin.iown (h:Fin l sp il a0 a w τ) {α:Type} {E:Enc α} {ty:Nat} {v:Value} {xs:List α} (t:Nat) (hI:ek il t=B.iown E ty N v xs) (hl:bu (sp.map (·.tag)) t sp.length=none):dq E ty xs (τ t) v w:=by
  have:=h.ini t hl;rw [hI] at this
  exact this
end
theorem dq.cast {α:Type} {E:Enc α} {ty:Nat} {xs ys:List α} {T:aQ} {v:Value} {w:World} (h:dq E ty xs T v w) (e:ys=xs):dq E ty ys T v w:=e ▸ h
theorem dq.nil {α:Type} (E:Enc α) (ty:Nat) (T:aQ) (w:World):dq E ty ([]:List α) T (.slice none 0 0) w:=⟨gQ.nil E ty w,fun g h=>by simp [Value.ownBlock] at h⟩
theorem dq.isSl {α:Type} {E:Enc α} {ty:Nat} {xs:List α} {T:aQ} {v:Value} {w:World} (h:dq E ty xs T v w):lj v xs.length:=h.1.sl.sl
theorem SlT.le {α:Type} {E:Enc α} {xs:List α} {v:Value} {w:World} (h:SlT E w v xs):xs.length≤9223372036854775807:=h.sl.le
theorem dq.le {α:Type} {E:Enc α} {ty:Nat} {xs:List α} {T:aQ} {v:Value} {w:World} (h:dq E ty xs T v w):xs.length≤9223372036854775807:=h.1.sl.sl.le
theorem cw {id:Nat} {Q:Exit→Act→World→Prop} {a:Act} {w:World} (h:Q .normal a w):Exit.inBlock id Q (.exit id) a w:=by simpa [Exit.inBlock] using h
theorem xf {id id':Nat} {Q:Exit→Act→World→Prop} {a:Act} {w:World} (hne:id'≠id) (h:Q (.exit id') a w):Exit.inBlock id Q (.exit id') a w:=by simpa [Exit.inBlock,hne] using h
theorem bE {k:IntKind} {p q:Int} (h:p=q):Value.int k p=Value.int k q:=h ▸ rfl
section
variable {P:Program} {a:Act} {o:Oper} {w:World} {x:Operand} {ts:Array TypeId} {f:FuncId}
theorem re (ho:o.op= .call { callee:= .value x,args:=#[],argTypes:=ts }) (hx:a.eval x= .func (.func f) #[] #[]) (hcall:∀args w,(callFunc f args).run P w= .ok (.enter f args) w):eD P a o w f #[]:=
  ll ho hx hcall (by simp)
theorem bw {x1:Operand} {v1:Value} (ho:o.op= .call { callee:= .value x,args:=#[x1],argTypes:=ts }) (hx:a.eval x= .func (.func f) #[] #[]) (hcall:∀args w,(callFunc f args).run P w= .ok (.enter f args) w) (h1:a.eval x1=v1):eD P a o w f #[v1]:=
  ll ho hx hcall (by simp [h1])
theorem ca {x1 x2:Operand} {v1 v2:Value} (ho:o.op= .call { callee:= .value x,args:=#[x1,x2],argTypes:=ts }) (hx:a.eval x= .func (.func f) #[] #[]) (hcall:∀args w,(callFunc f args).run P w= .ok (.enter f args) w) (h1:a.eval x1=v1) (h2:a.eval x2=v2):eD P a o w f #[v1,v2]:=
  ll ho hx hcall (by simp [h1,h2])
theorem iO {x1 x2 x3:Operand} {v1 v2 v3:Value} (ho:o.op= .call { callee:= .value x,args:=#[x1,x2,x3],argTypes:=ts }) (hx:a.eval x= .func (.func f) #[] #[]) (hcall:∀args w,(callFunc f args).run P w= .ok (.enter f args) w) (h1:a.eval x1=v1) (h2:a.eval x2=v2) (h3:a.eval x3=v3):eD P a o w f #[v1,v2,v3]:=
  ll ho hx hcall (by simp [h1,h2,h3])
theorem gB {x1 x2 x3 x4:Operand} {v1 v2 v3 v4:Value} (ho:o.op= .call { callee:= .value x,args:=#[x1,x2,x3,x4],argTypes:=ts }) (hx:a.eval x= .func (.func f) #[] #[]) (hcall:∀args w,(callFunc f args).run P w= .ok (.enter f args) w) (h1:a.eval x1=v1) (h2:a.eval x2=v2) (h3:a.eval x3=v3) (h4:a.eval x4=v4):eD P a o w f #[v1,v2,v3,v4]:=
  ll ho hx hcall (by simp [h1,h2,h3,h4])
theorem oE {x1 x2 x3 x4 x5:Operand} {v1 v2 v3 v4 v5:Value} (ho:o.op= .call { callee:= .value x,args:=#[x1,x2,x3,x4,x5],argTypes:=ts }) (hx:a.eval x= .func (.func f) #[] #[]) (hcall:∀args w,(callFunc f args).run P w= .ok (.enter f args) w) (h1:a.eval x1=v1) (h2:a.eval x2=v2) (h3:a.eval x3=v3) (h4:a.eval x4=v4) (h5:a.eval x5=v5):eD P a o w f #[v1,v2,v3,v4,v5]:=
  ll ho hx hcall (by simp [h1,h2,h3,h4,h5])
end
def dp:Enc (Int × Int):=⟨fun p=> [.int .i64 p.1,.int .i64 p.2],2,by decide,fun _=>rfl,fun x u hu=>by simp at hu;rcases hu with rfl | rfl <;> rfl⟩
def iV:Enc Int:=⟨fun p=> [.int .i64 p],1,by decide,fun _=>rfl,fun x u hu=>by simp at hu;rcases hu with rfl;rfl⟩
def fy:Enc ByteArray:=⟨fun p=> [.string p],1,by decide,fun _=>rfl,fun x u hu=>by simp at hu;rcases hu with rfl;rfl⟩
def gC:Enc (ByteArray × ByteArray):=⟨fun p=> [.string p.1,.string p.2],2,by decide,fun _=>rfl,fun x u hu=>by simp at hu;rcases hu with rfl | rfl <;> rfl⟩
def so (p:Int × Int):Value:= .agg #[.int .i64 p.1,.int .i64 p.2]
end
section
open Go.RowKit
def gW (l:List Value) (o:Nat) (vs:List Value):List Value:=l.take o++vs++l.drop (o+vs.length)
theorem oh {l r vs:List Value} {o:Nat} (h:o+vs.length≤l.length):gW (l++r) o vs=gW l o vs++r:=by
  unfold gW;rw [gp (by omega),List.drop_append_of_le_length (by omega)];simp
theorem sq {l r vs:List Value} {o:Nat}:gW (l++r) (l.length+o) vs=l++gW r o vs:=by
  unfold gW;rw [hH,kN];rw [bL (by omega),ed (by omega),show l.length+o - l.length=o by omega,show l.length+o+vs.length - l.length=o+vs.length by omega];simp
theorem Enc.row_set {α:Type} (E:Enc α) {xs:List α} {i off:Nat} {x x':α} {vs:List Value} (hx:xs[i]? =some x) (hl:off+vs.length≤E.sz) (hc:E.cells x'=gW (E.cells x) off vs):gW (E.row xs) (i * E.sz+off) vs=E.row (xs.set i x'):=by
  induction xs generalizing i with
  | nil => simp at hx
  | cons y ys ih =>
    have e:E.row (y::ys)=E.cells y++E.row ys:=by simp [Enc.row]
    cases i with
    | zero =>
      simp at hx;subst hx;rw [e,show 0 * E.sz+off=off by omega,oh (by rw [E.len];exact hl),←hc];simp [Enc.row]
    | succ i =>
      rw [e,show (i+1) * E.sz+off=(E.cells y).length+(i * E.sz+off) by rw [E.len,eL];omega,sq,ih (by simpa using hx)];simp [Enc.row]
theorem sr {l vs:List Value} {o n:Nat} (h:o+vs.length≤n) (hn:n≤l.length):(gW l o vs).take n=gW (l.take n) o vs:=by
  have e:l=l.take n++l.drop n:=(eQ n l).symm;have hl:(l.take n).length=n:=by simp;omega
  conv=>lhs;rw [e]
  rw [oh (by omega)];have h2:(gW (l.take n) o vs).length=n:=by simp [gW];omega
  rw [gp (by omega),bL (by omega)]
section
variable {α:Type} {E:Enc α} {ty:Nat} {P:Program} {w:World}
theorem kD {v u:Value} {xs:List α} {i off tt:Nat} {x x':α} (h:gQ E ty w v xs) (hx:xs[i]? =some x) (hsz:∀w,(sizeOf tt).run P w= .ok u.cells.size w) (hl:off+u.cells.size≤E.sz) (h1:∀c ∈ u.cells.toList,c.oneCell'=true)
    (hc:E.cells x'=gW (E.cells x) off u.cells.toList):
    ∃w',(Instr.storeAt tt (.pointer (some ((cX v).add (i * E.sz+off)))) u).run P w= .ok () w'∧gQ E ty w' v (xs.set i x')∧Ext (fun k=>v.ownBlock=some k) w w':=by
  have hi:i < xs.length:=(List.getElem?_eq_some_iff.1 hx).1
  rcases h.2 with ⟨rfl,h0⟩ | ⟨g,cap,cur,rfl,hb,hg,h2,h3,h4,h5⟩
  · omega
  · have hmul:(i+1) * E.sz≤xs.length * E.sz:=fS _ hi;have hmul2:xs.length * E.sz≤cap * E.sz:=fS _ h2;rw [eL] at hmul;have hfit:i * E.sz+off+u.cells.size≤cur.size:=by omega
    have hr:=run_store (P:=P) (t:=tt) (off:=i * E.sz+off) hg hsz hfit h1;refine ⟨_,by simp only [cX,kq];exact hr,⟨by rw [E.row_length,dm],.inr ⟨g,cap,_,by rw [dm],hb,setRow_heap w g cur _ ty _ hg,by rw [dm];exact h2,h3,?_,?_⟩⟩,?_⟩
    · simp only [iG,bK,cD,dH,ef];omega
    · rw [dm,←E.row_set hx (by simpa using hl) hc,←h5];have:=sr (l:=cur.toList) (vs:=u.cells.toList) (o:=i * E.sz+off) (n:=xs.length * E.sz) (by simp;omega) (by simp;omega);rw [←this];simp [gW]
    · exact (gy w g _).mono fun k _ h=>by rw [h];rfl
end
section obs
variable {N:aQ} {P:Program} {ops:Array Oper} {sp:List (Spec N)} {In:Nat→Ini N} {a0:Act} {w0:World} {bf:List Nat} {j:Nat} {o:Oper} {s:Spec N}
theorem rf {α:Type} {E:Enc α} {ty tag t tt i off:Nat} {xs:List α} {x x':α} {p q:Operand} {u:Value} (hs:s=own E ty N tag t (xs.set i x')) (hg:o.guard=none) (hd:o.dst=none) (ho:o.op= .store tt p q) (hsz:∀w,(sizeOf tt).run P w= .ok u.cells.size w)
    (hx:xs[i]? =some x) (hl:off+u.cells.size≤E.sz) (h1:∀c ∈ u.cells.toList,c.oneCell'=true) (hc:E.cells x'=gW (E.cells x) off u.cells.toList)
    (hp:∀done a w τ,Cx ops sp In a0 w0 bf j o done a w τ→dq E ty xs (τ tag) (aS a t) w∧a.eval p= .pointer (some ((cX (aS a t)).add (i * E.sz+off)))∧a.eval q=u):Ob ops sp In a0 w0 P bf j o s:=by
  subst hs;refine dI hg rfl fun done a w τ c=> ?_;obtain ⟨⟨hown,hT⟩,hp',hq⟩:=hp done a w τ c;obtain ⟨w',hr,h2,h3⟩:=kD (P:=P) (tt:=tt) hown hx hsz hl h1 hc;have hr':(execOp a.eval o).run P w= .ok .skip w':=by
    simp only [execOp,ho,hp',hq,Sem.run_bind,hr,Result.andThen_ok];rfl
  refine gA hr' ⟨undef,rfl,h3.mono (fun k _ h=>hT k h),τ tag,fun g h=> .inl h,?_⟩;show dq E ty (xs.set i x') _ (aS (a.put o.dst _) t) _;rw [hd,iJ];exact ⟨h2,hT⟩
end obs
theorem xg {K:Act→World→Prop} {Q:Exit→Act→World→Prop} {a:Act} {w:World} (h:Q .ret a w):Exit.then K Q .ret a w:=h
theorem vZ {id:Nat} {Q:Exit→Act→World→Prop} {a:Act} {w:World} (h:Q .ret a w):Exit.inBlock id Q .ret a w:=h
theorem ct {id:Nat} {K:Act→World→Prop} {Q:Exit→Act→World→Prop} {a:Act} {w:World} (h:Q (.exit id) a w):Exit.then K Q (.exit id) a w:=h
theorem St.extIn {n:Nat} {T:aQ} {W:World} {a:Act} {w:World} {τ:Nat→aQ} (h:St (fun k=>T k∨W.heap.size≤k) W n a w τ):Ext T W w:=
  h.ext.mono fun k hk hn=>hn.resolve_right (by omega)
end
section
open Go.RowKit
def fb (v:Value) (lo hi m:Nat):Value:=match v with
  | .slice a _ cap => .slice (if cap = lo then a else a.map (·.add (lo * m))) (hi - lo) (cap - lo)
  | v => v
def isNil (v:Value):Bool:=match v with
  | .slice none _ _ => true
  | _ => false
section
variable {α:Type} {E:Enc α} {w:World} {v:Value} {xs:List α}
theorem Enc.row_drop (E:Enc α):∀(xs:List α) (n:Nat),E.row (xs.drop n)=(E.row xs).drop (n * E.sz)
  | xs, 0 => by simp
  | [], n + 1 => by simp [Enc.row]
  | x :: xs, n + 1 => by
    have e:E.row (x::xs)=E.cells x++E.row xs:=by simp [Enc.row]
    rw [List.drop_succ_cons,E.row_drop xs n,e,kN,E.len,ed (l:=E.cells x) (by rw [E.len,eL];omega),eL,fc];congr 1;omega
theorem Enc.row_take (E:Enc α):∀(xs:List α) (n:Nat),E.row (xs.take n)=(E.row xs).take (n * E.sz)
  | xs, 0 => by simp [Enc.row]
  | [], n + 1 => by simp [Enc.row]
  | x :: xs, n + 1 => by
    have e:E.row (x::xs)=E.cells x++E.row xs:=by simp [Enc.row]
    have e':E.row (x::xs.take n)=E.cells x++E.row (xs.take n):=by simp [Enc.row]
    rw [ju,e',E.row_take xs n,e,hH,E.len,bL (l:=E.cells x) (by rw [E.len,eL];omega),eL];congr 2;omega
theorem SlT.sub (h:SlT E w v xs) {lo hi:Nat} (h1:lo≤hi) (h2:hi≤xs.length):SlT E w (fb v lo hi E.sz) ((xs.drop lo).take (hi - lo)):=by
  have hl:((xs.drop lo).take (hi - lo)).length=hi - lo:=by simp;omega
  rcases h.sl with ⟨rfl,h0⟩ | ⟨b,cap,rfl,hc,hm⟩
  · obtain rfl:hi=0:=by omega
    obtain rfl:lo=0:=by omega
    exact ⟨.inl ⟨by simp [fb],by simp⟩,fun j u hj=>by simp [Enc.row] at hj⟩
  · refine ⟨.inr ⟨if cap=lo then b else b.add (lo * E.sz),cap - lo,?_,by rw [hl];omega,by omega⟩,fun j u hj=> ?_⟩
    · rw [hl];simp only [fb];split <;> rfl
    · have hne:¬cap=lo:=fun e=>by
        have:(xs.drop lo).take (hi - lo)=[]:=bB (by omega);rw [this] at hj;simp [Enc.row] at hj
      have hp:cX (fb (.slice (some b) xs.length cap) lo hi E.sz)=b.add (lo * E.sz):=by simp [fb,hne,cX]
      rw [hp,add_add];refine h.cell (lo * E.sz+j) u ?_;rw [E.row_take,E.row_drop] at hj;have hlt:j < (hi - lo) * E.sz:=by
        have:=(List.getElem?_eq_some_iff.1 hj).1;simp only [cD] at this;omega
      rw [eV hlt,iv] at hj;exact hj
theorem SlT.isNil (h:SlT E w v xs) (hn:isNil v=true):xs=[]:=by
  rcases h.sl with ⟨rfl,h0⟩ | ⟨b,cap,rfl,_⟩
  · exact bB h0
  · simp [B.isNil] at hn
end
section
variable {P:Program} {a:Act} {o:Oper} {w:World} {t e:TypeId} {x y z:Operand} {v:Value} {n m:Nat} {k k':IntKind} {p q:Int}
theorem qn (ho:o.op= .slice t x none (some y) none) (ht:P.underlying t=some (.slice e)) (hz:∀w,(sizeOf e).run P w= .ok m w) (hx:a.eval x=v) (hv:lj v n) (hy:a.eval y= .int k p) (h0:0≤p) (h1:p≤n):bU P a o w (fb v 0 p.toNat m):=by
  rcases hv with ⟨rfl,rfl⟩ | ⟨b,cap,rfl,hc,_⟩
  · obtain rfl:p=0:=by omega
    simp [bU,execOp,ho,hx,hy,Instr.sliceAt,Instr.slice,run_underlying ht,Instr.sliceBounds,Instr.sliceBound,asIntOf,hz,fb]
  · have h2:p≤cap:=by omega
    simp [bU,execOp,ho,hx,hy,Instr.sliceAt,Instr.slice,run_underlying ht,Instr.sliceBounds,Instr.sliceBound,asIntOf,hz,fb,h0,h2]
theorem nM (ho:o.op= .slice t x (some y) none none) (ht:P.underlying t=some (.slice e)) (hz:∀w,(sizeOf e).run P w= .ok m w) (hx:a.eval x=v) (hv:lj v n) (hy:a.eval y= .int k p) (h0:0≤p) (h1:p≤n):bU P a o w (fb v p.toNat n m):=by
  rcases hv with ⟨rfl,rfl⟩ | ⟨b,cap,rfl,hc,_⟩
  · obtain rfl:p=0:=by omega
    simp [bU,execOp,ho,hx,hy,Instr.sliceAt,Instr.slice,run_underlying ht,Instr.sliceBounds,Instr.sliceBound,asIntOf,hz,fb]
  · simp [bU,execOp,ho,hx,hy,Instr.sliceAt,Instr.slice,run_underlying ht,Instr.sliceBounds,Instr.sliceBound,asIntOf,hz,fb,h0,h1]
theorem jH (ho:o.op= .slice t x (some y) (some z) none) (ht:P.underlying t=some (.slice e)) (hz:∀w,(sizeOf e).run P w= .ok m w) (hx:a.eval x=v) (hv:lj v n) (hy:a.eval y= .int k p) (hq:a.eval z= .int k' q) (h0:0≤p) (h1:p≤q) (h2:q≤n):bU P a o w (fb v p.toNat q.toNat m):=by
  rcases hv with ⟨rfl,rfl⟩ | ⟨b,cap,rfl,hc,_⟩
  · obtain rfl:p=0:=by omega
    obtain rfl:q=0:=by omega
    simp [bU,execOp,ho,hx,hy,hq,Instr.sliceAt,Instr.slice,run_underlying ht,Instr.sliceBounds,Instr.sliceBound,asIntOf,hz,fb]
  · have h3:q≤cap:=by omega
    have h4:0≤q:=by omega
    have h5:p≤max q 0:=by omega
    simp [bU,execOp,ho,hx,hy,hq,Instr.sliceAt,Instr.slice,run_underlying ht,Instr.sliceBounds,Instr.sliceBound,asIntOf,hz,fb,h0,h3,h4,h1];intro h6;omega
theorem uQ {t':TypeId} (ho:o.op= .binOp .eql t x (.const (.slice none 0 0)) t') (ht:P.underlying t=some (.slice e)) (hx:a.eval x=v) (hv:lj v n):bU P a o w (.bool (isNil v)):=by
  rcases hv with ⟨rfl,rfl⟩ | ⟨b,cap,rfl,hc,_⟩
  · have:=Lib.run_eql_slice_nil (P:=P) w t e none 0 0 0 0 ht;simp [bU,execOp,ho,hx,eqGuard,isNil,show a.eval (.const (.slice none 0 0))= .slice none 0 0 from rfl];simp only [this,Result.andThen_ok];rfl
  · have:=Lib.run_eql_slice_nil (P:=P) w t e (some b) n cap 0 0 ht;simp [bU,execOp,ho,hx,eqGuard,isNil,show a.eval (.const (.slice none 0 0))= .slice none 0 0 from rfl];simp only [this,Result.andThen_ok];rfl
theorem ff {l vs:List Value} {o n:Nat} (hv:vs=(l.drop o).take n) {j:Nat} {u:Value} (hj:vs[j]? =some u):l[o+j]? =some u:=by
  subst hv;have hlt:j < n:=by
    have:=(List.getElem?_eq_some_iff.1 hj).1;simp only [cD] at this;omega
  rw [eV hlt,iv] at hj;exact hj
theorem bU.isB {b b':Bool} (h:bU P a o w (.bool b)) (e:b=b'):bU P a o w (.bool b'):=e ▸ h
end
section
variable {N:aQ} {W:World} {n:Nat} {a:Act} {w:World} {τ:Nat→aQ}
def retag (τ:Nat→aQ) (l:List (Nat × Nat)) (t:Nat):aQ:=match l.lookup t with
  | some j => τ j
  | none => aV
theorem ph {l:List (Nat × Nat)} {t j:Nat} (h:l.lookup t=some j):(t,j) ∈ l:=by
  induction l with
  | nil => simp at h
  | cons p l ih =>
    obtain ⟨a,b⟩:=p;simp only [List.lookup_cons] at h;split at h
    · rename_i heq;simp at heq h;subst heq;subst h;exact List.mem_cons_self ..
    · exact List.mem_cons_of_mem _ (ih h)
theorem mP {l:List (Nat × Nat)} {t g:Nat} (h:retag τ l t g):∃j,l.lookup t=some j∧τ j g:=by
  unfold retag at h;cases hj:l.lookup t with
  | none => rw [hj] at h; exact h.elim
  | some j => rw [hj] at h; exact ⟨j, rfl, h⟩
theorem St.retag (h:St N W n a w τ) (l:List (Nat × Nat)) (hl:(l.all fun p=>l.all fun q=>p.2 !=q.2 || p.1==q.1)=true):St N W n a w (retag τ l):=by
  refine ⟨h.defers,h.size,h.ext,h.big,fun s t g h1 h2=> ?_,fun t g h1=> ?_⟩
  · obtain ⟨j,hj,h1⟩:=mP h1;obtain ⟨j',hj',h2⟩:=mP h2;have e:=h.disj j j' g h1 h2;subst e;rw [cK] at hl;have:=hl _ (ph hj);rw [cK] at this
    have:=this _ (ph hj')
    simpa using this
  · obtain ⟨j,hj,h1⟩:=mP h1;exact h.bnd _ g h1
end
section
variable {N:aQ} {P:Program} {ops:Array Oper} {sp:List (Spec N)} {In:Nat→Ini N} {a0:Act} {w0:World} {bf:List Nat} {j:Nat} {o:Oper} {s:Spec N}
theorem zv {gi tg:Nat} {want:Bool} (hg:o.guard=some (gi,want)) (hgd:((ops[gi]?).bind (·.dst))=some tg) (hgs:sp[gi]? =some (B.det N tg (.bool want))) (hb:(bf.getD j 0).testBit gi=true)
    (h:Ob ops sp In a0 w0 P bf j { o with guard:=none } s):Ob ops sp In a0 w0 P bf j o s:=by
  intro done a w τ c;have c':Cx ops sp In a0 w0 bf j { o with guard:=none } done a w τ:=⟨c.J,c.hj,c.pre,c.post,c.lt⟩;have hw:=(h done a w τ c').1 (kp rfl _);refine ⟨fun _=>hw,fun hn=> ?_⟩;have hv:aS a tg= .bool want:=c.v gi hgs hb;have:a.tmps[tg]? =some (.bool want):=by
    unfold aS at hv;rw [aO] at hv;cases h':a.tmps[tg]? with
    | none => rw [h'] at hv; simp [undef] at hv
    | some u => rw [h'] at hv; simp at hv; rw [hv]
  exfalso;cases want <;> simp [Region.wanted,hg,yielded,hgd,this] at hn
theorem zw {gi tg t:Nat} {want b:Bool} (hs:s=ge N t) (hg:o.guard=some (gi,want)) (hgd:((ops[gi]?).bind (·.dst))=some tg) (hgs:sp[gi]? =some (B.det N tg (.bool b))) (hb:(bf.getD j 0).testBit gi=true) (hne:b≠want):Ob ops sp In a0 w0 P bf j o s:=by
  intro done a w τ c;subst hs;have hv:aS a tg= .bool b:=c.v gi hgs hb;have:a.tmps[tg]? =some (.bool b):=by
    unfold aS at hv;rw [aO] at hv;cases h':a.tmps[tg]? with
    | none => rw [h'] at hv; simp [undef] at hv
    | some u => rw [h'] at hv; simp at hv; rw [hv]
  refine ⟨fun hn=> ?_,fun _=>⟨Ext.refl _ _,av⟩⟩;exfalso;cases want <;> cases b <;> simp [Region.wanted,hg,yielded,hgd,this] at hn hne
end
theorem pi {P:Program} {w:World} {ty:Nat} {cells:List Value} {T:aQ} {v:Value} {m:Nat} (hb:cj ty cells T v w) (hz:∀w,(isAgg ty).run P w= .ok true w) (hm:∀w,(sizeOf ty).run P w= .ok m w) (hl:cells.length=m):
    (loadVar ty (cX v)).run P w= .ok (.agg cells.toArray) w:=by
  subst hl;simp only [loadVar,Sem.run_bind,hz,Result.andThen_ok,if_true,hm,loadCells];rw [ko cells (cX v) 0 #[] (fun j u hj=>by rw [fR];exact hb.cell hj)];simp
theorem mw {P:Program} {fn:Func} {R:Ending→World→Prop} {a:Act} {w:World} {t ty m:Nat} {v:Value} {cells:List Value} {T:aQ} (hr:fn.results=#[.cell t ty]) (hd:a.defers=[]) (hv:aS a t=v) (hb:cj ty cells T v w)
    (hz:∀w,(isAgg ty).run P w= .ok true w) (hm:∀w,(sizeOf ty).run P w= .ok m w) (hl:cells.length=m) (h:R (.returned (.agg cells.toArray)) w):bodyPost P fn R .ret a w:=
  bodyPost_ret (v:= .agg cells.toArray) (by
    have hp:=hb.ptr
    have hv':(a.tmps[t]?).getD undef= .pointer (some (cX v)):=by rw [←aO];exact hv.trans hp
    simp only [results,hr]
    simp [hv',asAddr,pi hb hz hm hl]) hd h
theorem dU {P:Program} {fn:Func} {R:Ending→World→Prop} {a:Act} {w:World} {t t' ty m:Nat} {v v':Value} {cells:List Value} {T:aQ} (hr:fn.results=#[.cell t ty,.tmp t']) (hd:a.defers=[]) (hv:aS a t=v) (hv2:aS a t'=v') (hb:cj ty cells T v w)
    (hz:∀w,(isAgg ty).run P w= .ok true w) (hm:∀w,(sizeOf ty).run P w= .ok m w) (hl:cells.length=m) (h:R (.returned (.tuple #[.agg cells.toArray,v'])) w):bodyPost P fn R .ret a w:=
  bodyPost_ret (v:= .tuple #[.agg cells.toArray,v']) (by
    have hp:=hb.ptr
    have hv':(a.tmps[t]?).getD undef= .pointer (some (cX v)):=by rw [←aO];exact hv.trans hp
    have hv3:(a.tmps[t']?).getD undef=v':=by rw [←aO];exact hv2
    simp only [results,hr]
    simp [hv',hv3,asAddr,pi hb hz hm hl]) hd h
def Cy {α:Type} (E:Enc α) (ty:Nat) (pc:Prop) (xs:List α) (T:aQ) (v:Value) (w:World):Prop:=pc→dq E ty xs T v w
def gown {α:Type} (pc:Prop) (E:Enc α) (ty:Nat) (N:aQ) (tag t:Nat) (xs:List α):Spec N:=⟨some tag,t,fun _=>Cy E ty pc xs,fun _ _ T v w w' _ h hr hp=>iK T v w w' h.less (hr hp),fun _=>True,fun _ _ _ _ _=>trivial⟩
section
variable {N:aQ} {P:Program} {ops:Array Oper} {sp:List (Spec N)} {In:Nat→Ini N} {a0:Act} {w0:World} {bf:List Nat} {j:Nat} {o:Oper} {s:Spec N} {done:Nat→Bool} {a:Act} {w:World} {τ:Nat→aQ}
theorem rh {α:Type} {E:Enc α} {ty tag t gi tg:Nat} {want b:Bool} {pc:Prop} {xs:List α} (hs:s=B.gown pc E ty N tag t xs) (hg:o.guard=some (gi,want)) (hd:o.dst=some t) (hgd:((ops[gi]?).bind (·.dst))=some tg)
    (hgs:sp[gi]? =some (B.det N tg (.bool b))) (hb:(bf.getD j 0).testBit gi=true) (hpc:pc↔b=want)
    (h:pc→Ob ops sp In a0 w0 P bf j { o with guard:=none } (own E ty N tag t xs)):Ob ops sp In a0 w0 P bf j o s:=by
  intro done a w τ c;subst hs;have c':Cx ops sp In a0 w0 bf j { o with guard:=none } done a w τ:=⟨c.J,c.hj,c.pre,c.post,c.lt⟩;have hv:aS a tg= .bool b:=c.v gi hgs hb;have hw:Region.wanted o (yielded ops a.tmps)=(b==want):=by
    have:a.tmps[tg]? =some (.bool b):=by
      unfold aS at hv;rw [aO] at hv;cases h':a.tmps[tg]? with
      | none => rw [h'] at hv; simp [undef] at hv
      | some u => rw [h'] at hv; simp at hv; rw [hv]
    cases b <;> cases want <;> simp [Region.wanted,hg,yielded,hgd,this]
  refine ⟨fun hw'=> ?_,fun hw'=> ?_⟩
  · rw [hw] at hw';have hp:pc:=hpc.2 (by simpa using hw');have hw2:o.wp P a w (fun a' w'=>∃v,a'=a.put o.dst v∧mK (own E ty N tag t xs) a' τ w w') (fun _ _ _=>False):=(h hp done a w τ c').1 (kp rfl _);refine Oper.wp_mono ?_ hw2;intro a' w' hK;obtain ⟨v,ha,hx,T',hT,hr⟩:=hK;exact ⟨v,ha,hx,T',hT,fun _=>hr⟩
  · rw [hw] at hw';have hp:¬pc:=fun hp=>by rw [hpc.1 hp] at hw';simp at hw'
    exact ⟨Ext.refl _ _,τ tag,fun g h=> .inl h,fun hp'=>absurd hp' hp⟩
theorem Cx.rgown {α:Type} {E:Enc α} {ty t slot:Nat} {pc:Prop} {xs:List α} (c:Cx ops sp In a0 w0 bf j o done a w τ) (i:Nat) (hs:sp[i]? =some (B.gown pc E ty N t slot xs)) (hl:bu (sp.map (·.tag)) t j=some i) (hord:iw (sp.map (·.tag)) bf t j=true) (hp:pc):dq E ty xs (τ t) (aS a slot) w:=
  c.res i t _ hs hl hord hp
end
def zx {α:Type} (E:Enc α) (ty:Nat) (xs:List α) (k:Value) (T:aQ) (v:Value) (w:World):Prop:=∃u,v= .tuple #[u,k]∧dq E ty xs T u w
def tup {α:Type} (E:Enc α) (ty:Nat) (N:aQ) (tag t:Nat) (xs:List α) (k:Value):Spec N:=⟨some tag,t,fun _=>zx E ty xs k,fun _ _ T v w w' _ h ⟨u,hv,hr⟩=>⟨u,hv,iK T u w w' h.less hr⟩,fun v=>∃u,v= .tuple #[u,k],fun _ _ _ _ ⟨u,hv,_⟩=>⟨u,hv⟩⟩
section
variable {N:aQ} {P:Program} {ops:Array Oper} {sp:List (Spec N)} {In:Nat→Ini N} {a0:Act} {w0:World} {bf:List Nat} {j:Nat} {o:Oper} {s:Spec N} {done:Nat→Bool} {a:Act} {w:World} {τ:Nat→aQ}
theorem tQ {α:Type} {E:Enc α} {ty tag t:Nat} {xs:List α} {k:Value} (hs:s=tup E ty N tag t xs k) (hg:o.guard=none) (hd:o.dst=some t)
    (h:∀done a w τ,Cx ops sp In a0 w0 bf j o done a w τ→∃f args,eD P a o w f args∧Calls P f args w (fun e w'=>∃v,e= .returned (.tuple #[v,k])∧Ext aV w w'∧mr E ty w w' v xs)):Ob ops sp In a0 w0 P bf j o s:=by
  subst hs;refine iL (tag:=tag) hg rfl fun done a w τ c=> ?_;obtain ⟨f,args,h1,h2⟩:=h done a w τ c;refine ⟨f,args,h1,h2.mono fun e w' ⟨v,he,hx,ho⟩=>⟨.tuple #[v,k],he,hx.mono (fun _ _ h=>h.elim),fun g=>v.ownBlock=some g,fun g hg=> .inr ⟨ho.2 g hg,ho.1.lt g hg⟩,?_⟩⟩;show zx E ty xs k _ (aS (a.put o.dst _) t) w';rw [hd,cT a t t _ (c.lt t hd),if_pos rfl];exact ⟨v,rfl,ho.1,fun g h=>h⟩
theorem Cx.rtup {α:Type} {E:Enc α} {ty t slot:Nat} {xs:List α} {k:Value} (c:Cx ops sp In a0 w0 bf j o done a w τ) (i:Nat) (hs:sp[i]? =some (B.tup E ty N t slot xs k)) (hl:bu (sp.map (·.tag)) t j=some i) (hord:iw (sp.map (·.tag)) bf t j=true):zx E ty xs k (τ t) (aS a slot) w:=
  c.res i t _ hs hl hord
theorem xh {α:Type} {E:Enc α} {ty tag t t0:Nat} {xs:List α} {k:Value} (hs:s=own E ty N tag t xs) (hg:o.guard=none) (hd:o.dst=some t) (ho:o.op= .extract (.tmp t0) 0)
    (hp:∀done a w τ,Cx ops sp In a0 w0 bf j o done a w τ→zx E ty xs k (τ tag) (aS a t0) w):Ob ops sp In a0 w0 P bf j o s:=by
  subst hs;refine dI hg rfl fun done a w τ c=> ?_;obtain ⟨u,hu,hr⟩:=hp done a w τ c;refine jT (v:=u) (iB ho hu rfl) ⟨_,rfl,Ext.refl _ _,τ tag,fun g h=> .inl h,?_⟩;show dq E ty xs _ (aS (a.put o.dst u) t) w;rw [hd,cT a t t _ (c.lt t hd),if_pos rfl];exact hr
theorem Cx.part1 {α:Type} {E:Enc α} {ty tag t0:Nat} {xs:List α} {k:Value} (c:Cx ops sp In a0 w0 bf j o done a w τ) (i:Nat) (hs:sp[i]? =some (B.tup E ty N tag t0 xs k)) (hb:(bf.getD j 0).testBit i=true) (ho:o.op= .extract (.tmp t0) 1):bU P a o w k:=by
  obtain ⟨u,hu⟩:=c.J.pur i _ hs (c.pre i hb);exact iB ho hu rfl
end
theorem Calls.isB {P:Program} {f:FuncId} {args:Array Value} {w:World} {b b':Bool} {M:Nat→Prop} (h:Calls P f args w (fun e w'=>e= .returned (.bool b)∧Ext M w w')) (e:b=b'):Calls P f args w (fun e w'=>e= .returned (.bool b')∧Ext M w w'):=e ▸ h
end
section
open Go.RowKit
def lK (x y:ByteArray):Bool:=Op.bytesLess x.toList y.toList
def gD (x y:ByteArray):Bool:=x.toList==y.toList
def oF (x y:ByteArray):Bool:=lK x y || gD x y
section
variable {P:Program} {a:Act} {o:Oper} {w:World} {t t':TypeId} {x y z:Operand} {s u:ByteArray} {k k':IntKind} {p q:Int}
theorem tS (ho:o.op= .binOp .lss t x y t') (hx:a.eval x= .string s) (hy:a.eval y= .string u):bU P a o w (.bool (lK s u)):=by
  simp [bU,execOp,ho,hx,hy,eqGuard,binOp,Op.stringOp,lK]
theorem pj (ho:o.op= .binOp .leq t x y t') (hx:a.eval x= .string s) (hy:a.eval y= .string u):bU P a o w (.bool (lK s u || gD s u)):=by
  simp [bU,execOp,ho,hx,hy,eqGuard,binOp,Op.stringOp,lK,gD]
theorem Bn (ho:o.op= .binOp .gtr t x y t') (hx:a.eval x= .string s) (hy:a.eval y= .string u):bU P a o w (.bool (!(lK s u || gD s u))):=by
  simp [bU,execOp,ho,hx,hy,eqGuard,binOp,Op.stringOp,lK,gD]
theorem eX (ho:o.op= .binOp .eql t x y t') (hx:a.eval x= .string s) (hy:a.eval y= .string u):bU P a o w (.bool (gD s u)):=by
  simp [bU,execOp,ho,hx,hy,eqGuard,binOp,Op.stringOp,gD]
theorem lm (ho:o.op= .binOp .neq t x y t') (hx:a.eval x= .string s) (hy:a.eval y= .string u):bU P a o w (.bool (!gD s u)):=by
  simp [bU,execOp,ho,hx,hy,eqGuard,binOp,Op.stringOp,gD]
theorem xi (ho:o.op= .slice t x (some y) (some z) none) (ht:P.underlying t=some .string) (hx:a.eval x= .string s) (hy:a.eval y= .int k p) (hz:a.eval z= .int k' q) (h0:0≤p) (h1:p≤q) (h2:q≤s.size):bU P a o w (.string (s.extract p.toNat q.toNat)):=by
  have h4:0≤q:=by omega
  have h5:p≤max q 0:=by omega
  simp [bU,execOp,ho,hx,hy,hz,Instr.sliceAt,Instr.slice,run_underlying ht,Instr.sliceBounds,Instr.sliceBound,asIntOf,h0,h2,h4,h1];intro h6;omega
theorem zy (ho:o.op= .slice t x none (some z) none) (ht:P.underlying t=some .string) (hx:a.eval x= .string s) (hz:a.eval z= .int k' q) (h4:0≤q) (h2:q≤s.size):bU P a o w (.string (s.extract 0 q.toNat)):=by
  simp [bU,execOp,ho,hx,hz,Instr.sliceAt,Instr.slice,run_underlying ht,Instr.sliceBounds,Instr.sliceBound,asIntOf,h2,h4]
end
def bI (s:ByteArray) (i:Int):Int:=((s.data.toList.getD i.toNat 0).toNat:Int)
theorem fk (s:ByteArray) (i:Int):0≤bI s i∧bI s i≤255:=by
  unfold bI;have:=(s.data.toList.getD i.toNat 0).toNat_lt;omega
theorem gX {P:Program} {a:Act} {o:Oper} {w:World} {t:TypeId} {x y:Operand} {s:ByteArray} {k:IntKind} {p:Int} (ho:o.op= .index t x y) (ht:P.underlying t=some .string) (hx:a.eval x= .string s) (hy:a.eval y= .int k p) (h0:0≤p) (h1:p < s.size):bU P a o w (.int .u8 (bI s p)):=by
  have hlt:p.toNat < s.size:=by omega
  have e:s[p.toNat]? =some (s.data.toList.getD p.toNat 0):=by
    rw [getElem?_pos s p.toNat hlt];have h2:s.data.toList.getD p.toNat 0=s.data.toList[p.toNat]'(by simpa using hlt):=by
      rw [jN,bm (by simpa using hlt)];rfl
    rw [h2];rfl
  simp [bU,execOp,ho,hx,hy,Instr.index,run_underlying ht,asIntOf,h0,e,bI]
theorem oG {s u:ByteArray}:gD s u=true↔s=u:=by
  unfold gD;rw [beq_iff_eq,ByteArray.toList_eq,ByteArray.toList_eq];constructor
  · intro h;cases s;cases u
    congr 1;exact Array.ext' h
  · rintro rfl;rfl
theorem ri (s u:ByteArray):gD s u=decide (s.data.toList=u.data.toList):=by
  unfold gD;rw [ByteArray.toList_eq,ByteArray.toList_eq,eK];simp
def na:Enc UInt8:=⟨fun p=> [.int .u8 p.toNat],1,by decide,fun _=>rfl,fun x u hu=>by simp at hu;rcases hu with rfl;rfl⟩
theorem nc (l:List UInt8):na.row l=l.map fun b=>Value.int .u8 b.toNat:=by
  induction l with
  | nil => rfl
  | cons b l ih =>
    have e:na.row (b::l)=na.cells b++na.row l:=by simp [Enc.row]
    rw [e,ih];rfl
section
variable {N:aQ} {P:Program} {ops:Array Oper} {sp:List (Spec N)} {In:Nat→Ini N} {a0:Act} {w0:World} {bf:List Nat} {j:Nat} {o:Oper} {s:Spec N}
end
theorem nN {P:Program} {a:Act} {o:Oper} {w:World} {src dst e:TypeId} {x:Operand} {v:Value} {xs:List UInt8} (ho:o.op= .convert src dst x) (hs:P.underlying src=some (.slice e)) (he:P.underlying e=some (.int .u8)) (hd:P.underlying dst=some .string) (hx:a.eval x=v) (h:SlT na w v xs):bU P a o w (.string ⟨xs.toArray⟩):=by
  rcases h.sl with ⟨rfl,h0⟩ | ⟨b,cap,rfl,_⟩
  · obtain rfl:=bB h0;simp [bU,execOp,ho,hx,convert,run_underlying hs,run_underlying hd,run_underlying he,Conv.bytesToString];rfl
  · have hc:∀j u,(xs.map fun b=>Value.int .u8 b.toNat)[j]? =some u→w.cell? (b.add j)=some u:=fun j u hj=>h.cell j u (by rw [nc];exact hj);have hr:=run_convert_bytes_back (P:=P) w src dst e b cap xs hs he hd (fun j hj=>hc j _ (by simp [bm hj]));simp only [bU,execOp,ho,hx];simp [hr]
end
section
open Go.RowKit
section
variable {N:aQ} {P:Program} {ops:Array Oper} {sp:List (Spec N)} {In:Nat→Ini N} {a0:Act} {w0:World} {bf:List Nat} {j:Nat} {o:Oper} {s:Spec N}
theorem am {t:Nat} {v:Value} (h:∀{done a w τ},Cx ops sp In a0 w0 bf j o done a w τ→bU P a o w v) (hs:s=B.det N t v:=by exact rfl) (hg:o.guard=none:=by exact rfl) (hd:o.dst=some t:=by exact rfl):Ob ops sp In a0 w0 P bf j o s:=
  Bm hs hg hd fun _ _ _ _ c=>h c
theorem eu {t:Nat} {v:Value} (h:∀{done a w τ},Cx ops sp In a0 w0 bf j o done a w τ→∃f args,eD P a o w f args∧Calls P f args w (fun e w'=>e= .returned v∧Ext aV w w')) (hs:s=B.det N t v:=by exact rfl) (hg:o.guard=none:=by exact rfl) (hd:o.dst=some t:=by exact rfl):Ob ops sp In a0 w0 P bf j o s:=
  zu hs hg hd fun _ _ _ _ c=>h c
theorem Cz {t tg:Nat} {b:Bool} {v:Value} (gi:Nat) (want:Bool) (hgs:sp[gi]? =some (B.det N tg (.bool b))) (h:∀{done a w τ},Cx ops sp In a0 w0 bf j o done a w τ→b=want→bU P a o w v)
    (hs:s=B.gdet N t (b=want) v:=by exact rfl) (hg:o.guard=some (gi,want):=by exact rfl) (hd:o.dst=some t:=by exact rfl) (hgd:((ops[gi]?).bind (·.dst))=some tg:=by exact rfl) (hb:(bf.getD j 0).testBit gi=true:=by exact rfl):Ob ops sp In a0 w0 P bf j o s:=
  zt hs hg hd hgd hgs hb Iff.rfl fun _ _ _ _ c=>h c
theorem cA {t tg:Nat} {b:Bool} {pg:Prop} {v:Value} (gi:Nat) (want:Bool) (hgs:sp[gi]? =some (B.gdet N tg pg (.bool b))) (h:∀{done a w τ},Cx ops sp In a0 w0 bf j o done a w τ→(pg∧b=want)→bU P a o w v)
    (hs:s=B.gdet N t (pg∧b=want) v:=by exact rfl) (hg:o.guard=some (gi,want):=by exact rfl) (hd:o.dst=some t:=by exact rfl) (hgd:((ops[gi]?).bind (·.dst))=some tg:=by exact rfl) (hb:(bf.getD j 0).testBit gi=true:=by exact rfl):Ob ops sp In a0 w0 P bf j o s:=
  xd hs hg hd hgd hgs hb Iff.rfl fun _ _ _ _ c=>h c
theorem fE {t tg:Nat} {b:Bool} {v:Value} (gi:Nat) (want:Bool) (hgs:sp[gi]? =some (B.det N tg (.bool b))) (h:∀{done a w τ},Cx ops sp In a0 w0 bf j o done a w τ→b=want→∃f args,eD P a o w f args∧Calls P f args w (fun e w'=>e= .returned v∧Ext aV w w'))
    (hs:s=B.gdet N t (b=want) v:=by exact rfl) (hg:o.guard=some (gi,want):=by exact rfl) (hd:o.dst=some t:=by exact rfl) (hgd:((ops[gi]?).bind (·.dst))=some tg:=by exact rfl) (hb:(bf.getD j 0).testBit gi=true:=by exact rfl):Ob ops sp In a0 w0 P bf j o s:=
  xe hs hg hd hgd hgs hb Iff.rfl fun _ _ _ _ c=>h c
theorem mQ {t tg:Nat} {b:Bool} {pg:Prop} {v:Value} (gi:Nat) (want:Bool) (hgs:sp[gi]? =some (B.gdet N tg pg (.bool b))) (h:∀{done a w τ},Cx ops sp In a0 w0 bf j o done a w τ→(pg∧b=want)→∃f args,eD P a o w f args∧Calls P f args w (fun e w'=>e= .returned v∧Ext aV w w'))
    (hs:s=B.gdet N t (pg∧b=want) v:=by exact rfl) (hg:o.guard=some (gi,want):=by exact rfl) (hd:o.dst=some t:=by exact rfl) (hgd:((ops[gi]?).bind (·.dst))=some tg:=by exact rfl) (hb:(bf.getD j 0).testBit gi=true:=by exact rfl):Ob ops sp In a0 w0 P bf j o s:=
  vX hs hg hd hgd hgs hb Iff.rfl fun _ _ _ _ c=>h c
theorem bV (gi:Nat) {tg:Nat} {want:Bool} (h:Ob ops sp In a0 w0 P bf j { o with guard:=none } s) (hgs:sp[gi]? =some (B.det N tg (.bool want)):=by exact rfl) (hg:o.guard=some (gi,want):=by exact rfl) (hgd:((ops[gi]?).bind (·.dst))=some tg:=by exact rfl) (hb:(bf.getD j 0).testBit gi=true:=by exact rfl):Ob ops sp In a0 w0 P bf j o s:=
  zv hg hgd hgs hb h
theorem cy (gi:Nat) {tg t:Nat} {want b:Bool} (hs:s=ge N t:=by exact rfl) (hg:o.guard=some (gi,want):=by exact rfl) (hgd:((ops[gi]?).bind (·.dst))=some tg:=by exact rfl) (hgs:sp[gi]? =some (B.det N tg (.bool b)):=by exact rfl) (hb:(bf.getD j 0).testBit gi=true:=by exact rfl) (hne:b≠want:=by decide):Ob ops sp In a0 w0 P bf j o s:=
  zw hs hg hgd hgs hb hne
end
section
variable {N:aQ} {P:Program} {ops:Array Oper} {sp:List (Spec N)} {In:Nat→Ini N} {a0:Act} {w0:World} {bf:List Nat} {j:Nat} {o:Oper} {done:Nat→Bool} {a:Act} {w:World} {τ:Nat→aQ}
theorem Cx.n (c:Cx ops sp In a0 w0 bf j o done a w τ) (i:Nat) {t:Nat} {val:Value} (hs:sp[i]? =some (B.det N t val)) (hb:(bf.getD j 0).testBit i=true:=by exact rfl):a.eval (.tmp t)=val:=c.ev i hs hb
theorem Cx.m (c:Cx ops sp In a0 w0 bf j o done a w τ) (i:Nat) {t:Nat} {pc:Prop} {val:Value} (hs:sp[i]? =some (B.gdet N t pc val)) (hpc:pc) (hb:(bf.getD j 0).testBit i=true:=by exact rfl):a.eval (.tmp t)=val:=c.eg i hs hb hpc
theorem Cx.p (c:Cx ops sp In a0 w0 bf j o done a w τ) {t:Nat} {val:Value} (h0:aS a0 t=val) (h:uN ops bf j t=true:=by kernel_rfl):a.eval (.tmp t)=val:=c.eo h0 h
theorem Cx.ib {ty:Nat} {v:Value} {cells:List Value} (c:Cx ops sp In a0 w0 bf j o done a w τ) (t:Nat) (hI:In t=B.ibox ty N v cells) (hl:bu (sp.map (·.tag)) t j=none:=by exact rfl) (hord:iw (sp.map (·.tag)) bf t j=true:=by kernel_rfl):cj ty cells (τ t) v w:=c.ibox t hI hl hord
theorem Cx.io {α:Type} {E:Enc α} {ty:Nat} {v:Value} {xs:List α} (c:Cx ops sp In a0 w0 bf j o done a w τ) (t:Nat) (hI:In t=B.iown E ty N v xs) (hl:bu (sp.map (·.tag)) t j=none:=by exact rfl) (hord:iw (sp.map (·.tag)) bf t j=true:=by kernel_rfl):dq E ty xs (τ t) v w:=c.iown t hI hl hord
theorem Cx.rb {ty t slot:Nat} {cells:List Value} (c:Cx ops sp In a0 w0 bf j o done a w τ) (i:Nat) (hs:sp[i]? =some (B.box ty N t slot cells)) (hl:bu (sp.map (·.tag)) t j=some i:=by exact rfl) (hord:iw (sp.map (·.tag)) bf t j=true:=by kernel_rfl):cj ty cells (τ t) (aS a slot) w:=c.rbox i hs hl hord
theorem Cx.ro {α:Type} {E:Enc α} {ty t slot:Nat} {xs:List α} (c:Cx ops sp In a0 w0 bf j o done a w τ) (i:Nat) (hs:sp[i]? =some (B.own E ty N t slot xs)) (hl:bu (sp.map (·.tag)) t j=some i:=by exact rfl) (hord:iw (sp.map (·.tag)) bf t j=true:=by kernel_rfl):dq E ty xs (τ t) (aS a slot) w:=c.rown i hs hl hord
theorem Cx.rg {α:Type} {E:Enc α} {ty t slot:Nat} {pc:Prop} {xs:List α} (c:Cx ops sp In a0 w0 bf j o done a w τ) (i:Nat) (hs:sp[i]? =some (B.gown pc E ty N t slot xs)) (hp:pc) (hl:bu (sp.map (·.tag)) t j=some i:=by exact rfl) (hord:iw (sp.map (·.tag)) bf t j=true:=by kernel_rfl):dq E ty xs (τ t) (aS a slot) w:=c.rgown i hs hl hord hp
theorem Cx.ip {α:Type} {E:Enc α} {ty slot:Nat} {v:Value} {xs:List α} (c:Cx ops sp In a0 w0 bf j o done a w τ) (t:Nat) (hI:In t=B.iown E ty N v xs) (e:aS a0 slot=v) (hl:bu (sp.map (·.tag)) t j=none:=by exact rfl) (hord:iw (sp.map (·.tag)) bf t j=true:=by kernel_rfl) (h:uN ops bf j slot=true:=by kernel_rfl):dq E ty xs (τ t) (aS a slot) w:=by
  rw [show aS a slot=v from c.old e h];exact c.iown t hI hl hord
theorem Cx.bp {ty slot:Nat} {v:Value} {cells:List Value} (c:Cx ops sp In a0 w0 bf j o done a w τ) (t:Nat) (hI:In t=B.ibox ty N v cells) (e:aS a0 slot=v) (hl:bu (sp.map (·.tag)) t j=none:=by exact rfl) (hord:iw (sp.map (·.tag)) bf t j=true:=by kernel_rfl) (h:uN ops bf j slot=true:=by kernel_rfl):cj ty cells (τ t) (aS a slot) w:=by
  rw [show aS a slot=v from c.old e h];exact c.ibox t hI hl hord
theorem Cx.sm {slot:Nat} {v:Value} {x:Operand} (c:Cx ops sp In a0 w0 bf j o done a w τ) (px:a.eval x=v) (e:aS a0 slot=v) (h:uN ops bf j slot=true:=by kernel_rfl):a.eval x=aS a slot:=px.trans (c.old e h).symm
theorem Cx.ad {slot k:Nat} {v:Value} {x:Operand} {p:Addr} (c:Cx ops sp In a0 w0 bf j o done a w τ) (px:a.eval x= .pointer (some p)) (e:aS a0 slot=v) (hp:p=(cX v).add k) (h:uN ops bf j slot=true:=by kernel_rfl):a.eval x= .pointer (some ((cX (aS a slot)).add k)):=by
  rw [show aS a slot=v from c.old e h,px,hp]
end
section
variable {N:aQ} {l:List Oper} {sp:List (Spec N)} {il:List (Ini N)} {a0 a:Act} {w:World} {τ:Nat→aQ}
def xj (a:Act):List (Nat × Value)→Prop
  | [] => True
  | p :: l => aS a p.1 = p.2 ∧ xj a l
theorem Fin.olds (h:Fin l sp il a0 a w τ):∀(L:List (Nat × Value)) (_:xj a0 L) (_:(L.all fun p=>iM l p.1)=true),xj a L
  | [], _, _ => trivial
  | p :: L, hE, hu => by
    rw [dg,ao] at hu;exact ⟨h.old hE.1 hu.1,h.olds L hE.2 hu.2⟩
theorem Fin.ks (h:Fin l sp il a0 a w τ) (L:List (Nat × Value)) (hE:xj a0 L) (hu:(L.all fun p=>iM l p.1)=true:=by kernel_rfl):xj a L:=h.olds L hE hu
theorem Fin.ib (h:Fin l sp il a0 a w τ) {ty:Nat} {v:Value} {cells:List Value} (t:Nat) (hI:ek il t=B.ibox ty N v cells) (hl:bu (sp.map (·.tag)) t sp.length=none:=by exact rfl):cj ty cells (τ t) v w:=h.ibox t hI hl
theorem Fin.io (h:Fin l sp il a0 a w τ) {α:Type} {E:Enc α} {ty:Nat} {v:Value} {xs:List α} (t:Nat) (hI:ek il t=B.iown E ty N v xs) (hl:bu (sp.map (·.tag)) t sp.length=none:=by exact rfl):dq E ty xs (τ t) v w:=h.iown t hI hl
theorem Fin.rb (h:Fin l sp il a0 a w τ) {ty t slot:Nat} {cells:List Value} (j:Nat) {v:Value} (hv:aS a slot=v) (hs:sp[j]? =some (B.box ty N t slot cells)) (hl:bu (sp.map (·.tag)) t sp.length=some j:=by exact rfl):cj ty cells (τ t) v w:=h.rbox j hs hl hv
theorem Fin.ro (h:Fin l sp il a0 a w τ) {α:Type} {E:Enc α} {ty t slot:Nat} {xs:List α} (j:Nat) {v:Value} (hv:aS a slot=v) (hs:sp[j]? =some (B.own E ty N t slot xs)) (hl:bu (sp.map (·.tag)) t sp.length=some j:=by exact rfl):dq E ty xs (τ t) v w:=h.rown j hs hl hv
abbrev io {N:aQ} {α:Type} {E:Enc α} {ty:Nat} {xs:List α} {T:aQ} {v:Value} {w:World} (_:dq E ty xs T v w):Ini N:=iown E ty N v xs
abbrev ib {N:aQ} {ty:Nat} {cells:List Value} {T:aQ} {v:Value} {w:World} (_:cj ty cells T v w):Ini N:=ibox ty N v cells
end
theorem fF {a:Act} {f:Nat→Option (Nat × Nat)} {z cells:Array Value} {i0:Nat} {x0:Operand} {v0:Value} (h0:a.eval x0=v0) (hf:Instr.fill f z [(i0,v0)]=some cells):Instr.fill f z ((#[(i0,x0)]).map fun (i,x)=>(i,a.eval x)).toList=some cells:=by
  subst h0;simp only [dR,aZ,bF];exact hf
theorem gO {a:Act} {f:Nat→Option (Nat × Nat)} {z cells:Array Value} {i0 i1:Nat} {x0 x1:Operand} {v0 v1:Value} (h0:a.eval x0=v0) (h1:a.eval x1=v1) (hf:Instr.fill f z [(i0,v0),(i1,v1)]=some cells):Instr.fill f z ((#[(i0,x0),(i1,x1)]).map fun (i,x)=>(i,a.eval x)).toList=some cells:=by
  subst h0 h1;simp only [dR,aZ,bF];exact hf
theorem AT {a:Act} {f:Nat→Option (Nat × Nat)} {z cells:Array Value} {i0 i1 i2:Nat} {x0 x1 x2:Operand} {v0 v1 v2:Value} (h0:a.eval x0=v0) (h1:a.eval x1=v1) (h2:a.eval x2=v2) (hf:Instr.fill f z [(i0,v0),(i1,v1),(i2,v2)]=some cells):Instr.fill f z ((#[(i0,x0),(i1,x1),(i2,x2)]).map fun (i,x)=>(i,a.eval x)).toList=some cells:=by
  subst h0 h1 h2;simp only [dR,aZ,bF];exact hf
theorem AU {a:Act} {f:Nat→Option (Nat × Nat)} {z cells:Array Value} {i0 i1 i2 i3:Nat} {x0 x1 x2 x3:Operand} {v0 v1 v2 v3:Value} (h0:a.eval x0=v0) (h1:a.eval x1=v1) (h2:a.eval x2=v2) (h3:a.eval x3=v3) (hf:Instr.fill f z [(i0,v0),(i1,v1),(i2,v2),(i3,v3)]=some cells):Instr.fill f z ((#[(i0,x0),(i1,x1),(i2,x2),(i3,x3)]).map fun (i,x)=>(i,a.eval x)).toList=some cells:=by
  subst h0 h1 h2 h3;simp only [dR,aZ,bF];exact hf
theorem bt {p:Prop} [Decidable p] (h:decide p=true):p:=of_decide_eq_true h
theorem bn {p:Prop} [Decidable p] (h:decide p=false):¬p:=of_decide_eq_false h
end
section
open Go.RowKit
def YT (e:Nat) (w:World) (v:Value) (xs:List UInt8):Prop:=∃g cap cur k,v= .slice (some ⟨g,0,none⟩) xs.length cap∧w.heap[g]? =some (.cells cur e (k,k+1))∧xs.length≤cap∧cap≤maxLen∧cap≤k∧cap≤cur.size∧cur.toList.take xs.length=na.row xs
theorem YT.sl {e:Nat} {w:World} {v:Value} {xs:List UInt8} (h:YT e w v xs):SlT na w v xs:=by
  obtain ⟨g,cap,cur,k,rfl,hg,h1,h2,h3,h4,h5⟩:=h;refine ⟨.inr ⟨_,cap,rfl,h1,h2⟩,fun j u hj=> ?_⟩;have hlt:j < xs.length:=by
    have:=(List.getElem?_eq_some_iff.1 hj).1;rw [na.row_length] at this
    simpa [na] using this
  rw [←h5,eV hlt] at hj;simp only [cX,kq];simp [World.cell?,hg];simpa using hj
theorem YT.keep {e:Nat} {M:Nat→Prop} {w w':World} {v:Value} {xs:List UInt8} (h:YT e w v xs) (he:Ext M w w') (hm:∀g,v.ownBlock=some g→¬M g):YT e w' v xs:=by
  obtain ⟨g,cap,cur,k,rfl,hg,r⟩:=h;exact ⟨g,cap,cur,k,rfl,by rw [he.block g (Array.getElem?_eq_some_iff.1 hg).1 (hm g rfl)];exact hg,r⟩
def jD (e:Nat) (xs:List UInt8) (T:aQ) (v:Value) (w:World):Prop:=YT e w v xs∧∀g,v.ownBlock=some g→T g
theorem ss {N:aQ} {e:Nat} {xs:List UInt8} (T:aQ) (v:Value) (w w':World) (h:Ext (fun g=>N g∧¬T g) w w') (hr:jD e xs T v w):jD e xs T v w':=
  ⟨hr.1.keep h fun g hg hn=>hn.2 (hr.2 g hg),hr.2⟩
def wa (e:Nat) (N:aQ) (tag t:Nat) (xs:List UInt8):Spec N:=⟨some tag,t,fun _=>jD e xs,fun _ _ T v w w' _ h hr=>ss T v w w' h.less hr,fun _=>True,fun _ _ _ _ _=>trivial⟩
def xk (e:Nat) (N:aQ) (v:Value) (xs:List UInt8):Ini N:=⟨fun _ T w=>jD e xs T v w,fun _ _ T w w' _ h=>ss T v w w' h.less⟩
theorem jD.isSl {e:Nat} {xs:List UInt8} {T:aQ} {v:Value} {w:World} (h:jD e xs T v w):lj v xs.length:=h.1.sl.sl
theorem jD.cast {e:Nat} {xs ys:List UInt8} {T:aQ} {v:Value} {w:World} (h:jD e xs T v w) (q:ys=xs):jD e ys T v w:=q ▸ h
theorem jD.le {e:Nat} {xs:List UInt8} {T:aQ} {v:Value} {w:World} (h:jD e xs T v w):xs.length≤9223372036854775807:=h.1.sl.sl.le
section
variable {N:aQ} {P:Program} {ops:Array Oper} {sp:List (Spec N)} {In:Nat→Ini N} {a0:Act} {w0:World} {bf:List Nat} {j:Nat} {o:Oper} {s:Spec N}
theorem mR {src dst e:TypeId} {tag t:Nat} {x:Operand} {u:ByteArray} (hs:s=wa e N tag t u.data.toList) (hg:o.guard=none) (hd:o.dst=some t) (ho:o.op= .convert src dst x)
    (hsrc:P.underlying src=some .string) (hdst:P.underlying dst=some (.slice e)) (he:P.underlying e=some (.int .u8)) (hle:u.size≤140737488355328)
    (h:∀{done a w τ},Cx ops sp In a0 w0 bf j o done a w τ→a.eval x= .string u):Ob ops sp In a0 w0 P bf j o s:=by
  subst hs;refine dI hg rfl fun done a w τ c=> ?_;have hr:(execOp a.eval o).run P w= .ok (.value (.slice (some ⟨w.heap.size,0,none⟩) u.size (grownCap w u.size 0 e))) (Lib.bytesWorld w e u):=by
    have:=Lib.run_convert_string_bytes (P:=P) w src dst e u hsrc hdst he;simp only [execOp,ho,h c,Sem.run_bind,this,Result.andThen_ok];rfl
  have hge:=grownCap_ge w u.size 0 e;have hcm:grownCap w u.size 0 e≤maxLen:=grownCap_le_maxLen w _ 0 e (by simp only [maxLen];omega);have hl:u.data.toList.length=u.size:=by simp
  have hcs:(Lib.bytesCells w e u).size=grownCap w u.size 0 e:=by
    simp only [Lib.bytesCells,Array.size_append,Array.size_map,Array.size_replicate];have:u.data.size=u.size:=rfl;omega
  refine eI hr ⟨_,rfl,⟨rfl,rfl,rfl,by rw [Lib.bytesWorld_size];omega,fun k hk _=>Lib.bytesWorld_at_old w e u k hk⟩,fun g=>g=w.heap.size,fun g hg=> .inr (by subst hg;rw [Lib.bytesWorld_size];omega),?_⟩;show jD e u.data.toList _ (aS (a.put o.dst _) t) _;rw [hd,cT a t t _ (c.lt t hd),if_pos rfl];refine ⟨⟨w.heap.size,_,_,_,by rw [hl],Lib.bytesWorld_at_new w e u,by rw [hl];exact hge,hcm,by rw [hcs];omega,by rw [hcs];omega,?_⟩,fun g h=> ?_⟩
  · rw [hl,nc,Lib.bytesCells,Array.toList_append,Array.toList_map,gp (by simp),bL (by simp)]
  · simp only [Value.ownBlock,Option.some.injEq] at h;exact h.symm
theorem tT {P:Program} {w:World} {e tt:Nat} {v:Value} {xs:List UInt8} {i:Nat} {n:Int} (h:YT e w v xs) (hi:i < xs.length) (hsz:∀w,(sizeOf tt).run P w= .ok 1 w) (h0:0≤n) (h1:n≤255):
    ∃w',(Instr.storeAt tt (.pointer (some ((cX v).add (i * 1)))) (.int .u8 n)).run P w= .ok () w'∧YT e w' v (xs.set i (UInt8.ofNat n.toNat))∧Ext (fun k=>v.ownBlock=some k) w w':=by
  obtain ⟨g,cap,cur,k,rfl,hg,h2,h3,h4,h5,h6⟩:=h;have hi':i < cur.size:=by omega
  have hcell:w.cell? ⟨g,i,none⟩=some cur[i]:=by simp [World.cell?,hg,hi']
  have hfro:w.frozen? ⟨g,i,none⟩=false:=by
    simp only [World.frozen?,hg,aM,ai];left;omega
  have hst:(store ⟨g,i,none⟩ (.int .u8 n)).run P w= .ok () (w.setRow g (cur.setIfInBounds i (.int .u8 n))):=by
    rw [Go.run_store P w _ (.int .u8 n) _ rfl,hcell];simp [hfro,setCell_eq_setRow w g i cur e (k,k+1) (.int .u8 n) hg]
  have hr:(Instr.storeAt tt (.pointer (some ⟨g,i,none⟩)) (.int .u8 n)).run P w= .ok () (w.setRow g (cur.setIfInBounds i (.int .u8 n))):=by
    have hc:(Value.int IntKind.u8 n).cells=#[.int .u8 n]:=rfl;have ha:((⟨g,i,none⟩:Addr).add 0)=⟨g,i,none⟩:=rfl;simp only [Instr.storeAt,Instr.sureAddr,Sem.run_bind,Sem.run_pure,Result.andThen_ok,storeVar,hsz,hc];simp [storeCells,ha,hst]
  refine ⟨_,by simp only [cX,kq,Nat.mul_one];exact hr,⟨g,cap,cur.setIfInBounds i (.int .u8 n),k,by rw [dm],setRow_heap w g cur _ e _ hg,by rw [dm];exact h2,h3,h4,by simpa using h5,?_⟩,(gy w g _).mono fun k _ h=>by rw [h];rfl⟩;rw [dm,Array.toList_setIfInBounds,List.take_set,h6,nc,nc,List.map_set];congr 2;have e1:(UInt8.ofNat n.toNat).toNat=n.toNat:=by
    rw [UInt8.toNat_ofNat'];exact Nat.mod_eq_of_lt (by omega)
  rw [e1];omega
theorem nO {e tag t tt i:Nat} {xs:List UInt8} {p q:Operand} {n:Int} (hs:s=wa e N tag t (xs.set i (UInt8.ofNat n.toNat))) (hg:o.guard=none) (hd:o.dst=none) (ho:o.op= .store tt p q) (hsz:∀w,(sizeOf tt).run P w= .ok 1 w)
    (hi:i < xs.length) (h0:0≤n) (h1:n≤255)
    (hp:∀{done a w τ},Cx ops sp In a0 w0 bf j o done a w τ→jD e xs (τ tag) (aS a t) w∧a.eval p= .pointer (some ((cX (aS a t)).add (i * 1)))∧a.eval q= .int .u8 n):Ob ops sp In a0 w0 P bf j o s:=by
  subst hs;refine dI hg rfl fun done a w τ c=> ?_;obtain ⟨⟨hown,hT⟩,hp',hq⟩:=hp c;obtain ⟨w',hr,h2,h3⟩:=tT (P:=P) (tt:=tt) hown hi hsz h0 h1;have hr':(execOp a.eval o).run P w= .ok .skip w':=by
    simp only [execOp,ho,hp',hq,Sem.run_bind,hr,Result.andThen_ok];rfl
  refine gA hr' ⟨undef,rfl,h3.mono (fun k _ h=>hT k h),τ tag,fun g h=> .inl h,?_⟩;show jD e (xs.set i _) _ (aS (a.put o.dst _) t) _;rw [hd,iJ];exact ⟨h2,hT⟩
end
section
variable {N:aQ} {P:Program} {ops:Array Oper} {sp:List (Spec N)} {In:Nat→Ini N} {a0:Act} {w0:World} {bf:List Nat} {j:Nat} {o:Oper} {done:Nat→Bool} {a:Act} {w:World} {τ:Nat→aQ}
theorem Cx.iy {e:Nat} {v:Value} {xs:List UInt8} (c:Cx ops sp In a0 w0 bf j o done a w τ) (t:Nat) (hI:In t=xk e N v xs) (hl:bu (sp.map (·.tag)) t j=none:=by exact rfl) (hord:iw (sp.map (·.tag)) bf t j=true:=by kernel_rfl):jD e xs (τ t) v w:=c.ini t _ hI hl hord
theorem Cx.ry {e t slot:Nat} {xs:List UInt8} (c:Cx ops sp In a0 w0 bf j o done a w τ) (i:Nat) (hs:sp[i]? =some (wa e N t slot xs)) (hl:bu (sp.map (·.tag)) t j=some i:=by exact rfl) (hord:iw (sp.map (·.tag)) bf t j=true:=by kernel_rfl):jD e xs (τ t) (aS a slot) w:=c.res i t _ hs hl hord
theorem Cx.yp {e slot:Nat} {v:Value} {xs:List UInt8} (c:Cx ops sp In a0 w0 bf j o done a w τ) (t:Nat) (hI:In t=xk e N v xs) (q:aS a0 slot=v) (hl:bu (sp.map (·.tag)) t j=none:=by exact rfl) (hord:iw (sp.map (·.tag)) bf t j=true:=by kernel_rfl) (h:uN ops bf j slot=true:=by kernel_rfl):jD e xs (τ t) (aS a slot) w:=by
  rw [show aS a slot=v from c.old q h];exact c.iy t hI hl hord
end
section
variable {N:aQ} {l:List Oper} {sp:List (Spec N)} {il:List (Ini N)} {a0 a:Act} {w:World} {τ:Nat→aQ}
theorem Fin.iy (h:Fin l sp il a0 a w τ) {e:Nat} {v:Value} {xs:List UInt8} (t:Nat) (hI:ek il t=xk e N v xs) (hl:bu (sp.map (·.tag)) t sp.length=none:=by exact rfl):jD e xs (τ t) v w:=by
  have:=h.ini t hl;rw [hI] at this
  exact this
theorem Fin.ry (h:Fin l sp il a0 a w τ) {e t slot:Nat} {xs:List UInt8} (j:Nat) {v:Value} (hv:aS a slot=v) (hs:sp[j]? =some (wa e N t slot xs)) (hl:bu (sp.map (·.tag)) t sp.length=some j:=by exact rfl):jD e xs (τ t) v w:=hv ▸ h.res j t _ hs rfl hl
abbrev iy {N:aQ} {e:Nat} {xs:List UInt8} {T:aQ} {v:Value} {w:World} (_:jD e xs T v w):Ini N:=xk e N v xs
end
section
variable {P:Program} {a:Act} {o:Oper} {w:World} {x y:Operand} {t t':TypeId} {s u:ByteArray}
def oA (x y:ByteArray):ByteArray:=if lK x y=true then y else x
theorem Bo (hc:o.op= .call { callee:= .builtin .max,args:=#[x,y],argTypes:=#[t,t'] }) (hx:a.eval x= .string s) (hy:a.eval y= .string u):bU P a o w (.string (oA s u)):=by
  have h:(Builtin.max_ #[t,t'] o.type #[.string s,.string u]).run P w= .ok (.string (oA s u)) w:=by
    cases hb:Op.bytesLess s.toList u.toList <;> simp [Builtin.max_,Builtin.max2,Op.stringOp,asBool,oA,lK,hb]
  simp only [bU,execOp,hc,resolve,invoke,builtin,Sem.run_bind,Sem.run_pure,Result.andThen_ok,dR,aZ,bF,hx,hy,h]
end
end
section
open Go.RowKit
def my (P:Program) (l:List Oper) (Q:Exit→Act→World→Prop) (a:Act) (w:World):Prop:=wpOps P l.toArray Q (List.range' 0 l.length) a w
theorem bz {P:Program} {id:Nat} {l:List Oper} {Q:Exit→Act→World→Prop} {a:Act} {w:World} (h:my P l Q a w):(Code.region id l.toArray false).wp P Q a w:=by
  refine wp_region ?_;rw [List.range_eq_range'];exact h
def zz (K:Act→World→Prop):Exit→Act→World→Prop:=fun e a w=>e= .normal∧K a w
def md (k:Nat) (g:Option (Nat × Bool)):Option (Nat × Bool):=g.map fun p=>(p.1 - k,p.2)
def iC (k:Nat):Nat→List Oper→List Oper
  | _, [] => []
  | j, o :: l => { o with after := (match j with | 0 => #[] | i + 1 => #[⟨i, .data⟩]), guard := md k o.guard } :: iC k (j + 1) l
def mz (k:Nat) (l:List Oper):List Oper:=iC k 0 l
def AV (l:List Oper) (k:Nat):Bool:=decide (k≤l.length)&&((l.take k).all fun o=>match o.guard with | none=>true | some g=>decide (g.1 < k))&&((l.drop k).all fun o=>match o.guard with | none=>true | some g=>decide (k≤g.1))
theorem kE {k:Nat}:∀{l:List Oper} {j i:Nat},(∀o,l[i]? =some o→∃af,(iC k j l)[i]? =some { o with after:=af,guard:=md k o.guard })∧(l[i]? =none→(iC k j l)[i]? =none)
  | [], j, i => ⟨fun o h => by simp at h, fun _ => by simp [iC]⟩
  | o :: l, j, 0 => ⟨fun o' h => by simp at h; subst h; exact ⟨_, rfl⟩, fun h => by simp at h⟩
  | o :: l, j, i + 1 => by
    have:=kE (k:=k) (l:=l) (j:=j+1) (i:=i);simpa [iC] using this
theorem mA {k:Nat}:∀{l:List Oper} {j:Nat},(iC k j l).length=l.length
  | [], _ => rfl
  | _ :: l, j => by simp [iC, mA (l := l)]
theorem zA {o:Oper} {P:Program} {a:Act} {w:World} {K K':Act→World→Prop} {C:Act→World→Prop} {Q:Exit→Act→World→Prop} (h:∀a w,K a w→K' a w) (hh:o.wp P a w K (zz C)):o.wp P a w K' Q:=by
  unfold Oper.wp at *;generalize (execOp a.eval o).run P w=r at *;cases r with
  | ok n w' =>
    cases n <;> simp only [Oper.upon] at hh ⊢ <;>
      first
        | exact h _ _ hh
        | exact Calls.mono hh (fun e w'' he => by
            cases e with
            | returned v => exact h _ _ he
            | panicked c => exact absurd he.1 (by intro e; cases e)
            | outgrown => obtain ⟨_, _, h'⟩ := he; exact absurd h'.1 (by intro e; cases e))
        | exact Rows.mono hh (fun _ _ he => h _ _ he)
  | halt x w' => cases x <;> simp only [Oper.upon] at hh <;> exact absurd hh.1 (by intro e; cases e)
theorem xl {P:Program} {l:List Oper} {l1:List Oper} (hl:l1=l.take l1.length) {K:Act→World→Prop} {Q:Exit→Act→World→Prop} {rest:List Nat} (hg:∀o ∈ l1,∀g,o.guard=some g→g.1 < l1.length)
    (hK:∀a w,K a w→wpOps P l.toArray Q rest a w):∀(m i:Nat) (a:Act) (w:World),i+m=l1.length→wpOps P l1.toArray (zz K) (List.range' i m) a w→wpOps P l.toArray Q (List.range' i m++rest) a w:=by
  intro m;induction m with
  | zero =>
    intro i a w hi h;simp only [List.range'_zero,wpOps] at h;simpa using hK _ _ h.2
  | succ m ih =>
    intro i a w hi h;rw [kL] at h ⊢;rw [kO];rw [wpOps_cons] at h ⊢;have hlt:i < l1.length:=by omega
    have e0:l1[i]? =l[i]? :=by
      have h1:l1[i]? =(l.take l1.length)[i]? :=congrArg (fun q:List Oper=>q[i]?) hl;rw [h1,eV hlt]
    have ho:l1[i]? =some l1[i]:=by simp [hlt]
    have ho':l[i]? =some l1[i]:=by rw [←e0];exact ho
    unfold wpOp at h ⊢;simp only [gL,ho,ho'] at h ⊢;have hy:Region.wanted l1[i] (yielded l.toArray a.tmps)=Region.wanted l1[i] (yielded l1.toArray a.tmps):=by
      unfold Region.wanted;cases hgd:l1[i].guard with
      | none => rfl
      | some g =>
        have hlt2:=hg _ (kP hlt) g hgd;have e1:l1[g.1]? =l[g.1]? :=by
          have h1:l1[g.1]? =(l.take l1.length)[g.1]? :=congrArg (fun q:List Oper=>q[g.1]?) hl;rw [h1,eV hlt2]
        obtain ⟨g1,g2⟩:=g;simp only [] at e1;simp only [yielded,gL,e1]
    rw [hy];split
    · rename_i hw;rw [if_pos hw] at h;rcases h with h | ⟨_,x,y,h⟩
      · exact .inl (zA (fun a w hh=>ih (i+1) a w (by omega) hh) h)
      · exact absurd h.1 (by intro e;cases e)
    · rename_i hw;rw [if_neg hw] at h;exact ih (i+1) _ _ (by omega) h
theorem xm {P:Program} {l:List Oper} {k:Nat} {Q:Exit→Act→World→Prop} (hg:∀o ∈ l.drop k,∀g,o.guard=some g→k≤g.1):∀(m i:Nat) (a:Act) (w:World),wpOps P (mz k (l.drop k)).toArray Q (List.range' i m) a w→wpOps P l.toArray Q (List.range' (k+i) m) a w:=by
  intro m;induction m with
  | zero => intro i a w h; simpa [wpOps] using h
  | succ m ih =>
    intro i a w h;rw [kL] at h ⊢;rw [wpOps_cons] at h ⊢;have hd:(l.drop k)[i]? =l[k+i]? :=by rw [iv]
    unfold wpOp at h ⊢;simp only [gL] at h ⊢;have hr:=kE (k:=k) (l:=l.drop k) (j:=0) (i:=i);cases ho:l[k+i]? with
    | none =>
      rw [show (mz k (l.drop k))[i]? =none from hr.2 (by rw [hd];exact ho)] at h;simp only [] at h ⊢;exact ih (i+1) _ _ h
    | some o =>
      obtain ⟨af,ha⟩:=hr.1 o (by rw [hd];exact ho);rw [show (mz k (l.drop k))[i]? =_ from ha] at h;simp only [] at h ⊢;have hy:Region.wanted { o with after:=af,guard:=md k o.guard } (yielded (mz k (l.drop k)).toArray a.tmps)=Region.wanted o (yielded l.toArray a.tmps):=by
        unfold Region.wanted;simp only [];cases hgd:o.guard with
        | none => rfl
        | some g =>
          have hle:=hg o (fT (by rw [hd];exact ho)) g hgd;obtain ⟨g1,g2⟩:=g;simp only [] at hle;simp only [md,Option.map_some];have e1:((mz k (l.drop k))[g1 - k]?).bind (·.dst)=(l[g1]?).bind (·.dst):=by
            have hr2:=kE (k:=k) (l:=l.drop k) (j:=0) (i:=g1 - k);have hd2:(l.drop k)[g1 - k]? =l[g1]? :=by rw [iv];congr 1;omega
            cases hq:l[g1]? with
            | none => rw [show (mz k (l.drop k))[g1 - k]? = none from hr2.2 (by rw [hd2]; exact hq)]
            | some o2 =>
              obtain ⟨af2,ha2⟩:=hr2.1 o2 (by rw [hd2];exact hq);rw [show (mz k (l.drop k))[g1 - k]? =_ from ha2];rfl
          simp only [yielded,gL,e1]
      rw [hy] at h;have hwp:∀K,({ o with after:=af,guard:=md k o.guard }:Oper).wp P a w K Q=o.wp P a w K Q:=fun K=>rfl;have hask:({ o with after:=af,guard:=md k o.guard }:Oper).asks P a w=o.asks P a w:=rfl;split
      · rename_i hw;rw [if_pos hw] at h;rcases h with h | h
        · exact .inl (Oper.wp_mono (fun a w hh=>ih (i+1) a w hh) h)
        · exact .inr h
      · rename_i hw;rw [if_neg hw] at h;exact ih (i+1) _ _ h
theorem cO {P:Program} {l:List Oper} {Q:Exit→Act→World→Prop} {a:Act} {w:World} (k:Nat) (hk:AV l k=true) (h:my P (l.take k) (zz (my P (mz k (l.drop k)) Q)) a w):my P l Q a w:=by
  unfold AV at hk;simp only [ao,cK,ah] at hk;obtain ⟨⟨hkl,h1⟩,h2⟩:=hk;unfold my;have hlen:(l.take k).length=k:=by simp;omega
  have e:List.range' 0 l.length=List.range' 0 k++List.range' k (l.length - k):=by
    conv=>lhs;rw [show l.length=k+(l.length - k) by omega]
    have:=@List.range'_append_1 0 k (l.length - k);rw [fR] at this
    exact this.symm
  rw [e];unfold my at h;rw [hlen] at h;refine xl (l1:=l.take k) (by rw [hlen]) (fun o ho g hgd=> ?_) (fun a w hh=> ?_) k 0 a w (by omega) h
  · have:=h1 o ho;rw [hgd] at this
    rw [hlen];simpa using this
  · unfold my at hh;have hl2:(mz k (l.drop k)).length=l.length - k:=by unfold mz;rw [mA];simp
    rw [hl2] at hh;have:=xm (l:=l) (k:=k) (fun o ho g hgd=>by have:=h2 o ho;rw [hgd] at this;simpa using this) (l.length - k) 0 a w hh;simpa using this
theorem CA {N:aQ} {P:Program} {l:List Oper} {sp:List (Spec N)} {ini:Nat→Ini N} {a0:Act} {w0:World} {bf:List Nat} (hok:(lC l.toArray a0.tmps.size&&oz l.toArray bf&&lN l.toArray bf (sp.map (·.slot)) (sp.map (·.tag)))=true)
    {Q:Exit→Act→World→Prop} {τ:Nat→aQ} (hb:∀k,w0.heap.size≤k→N k) (hdis:∀s t g,τ s g→τ t g→s=t) (hbnd:∀t g,τ t g→N g∧g < w0.heap.size) (hini:∀t,(ini t).I (ex τ w0) (τ t) w0)
    (obs:mL l.toArray sp ini a0 w0 P bf 0 l sp)
    (fin:∀done a w τ,(∀i,i < l.length→done i=true)→J l.toArray sp ini a0 w0 done a w τ→Q .normal a w):my P l Q a0 w0:=by
  rw [ao,ao] at hok;obtain ⟨⟨h1,h2⟩,h3⟩:=hok;have obs':∀(j:Nat) (o:Oper) (s:Spec N),l.toArray[j]? =some o→sp[j]? =some s→Ob l.toArray sp ini a0 w0 P bf j o s:=fun j o s ho hs=>by
    have:=mN obs j o s (by simpa using ho) hs;rwa [fR] at this
  refine uO h1 h2 h3 obs' (fun a w τ hJ=>fin _ a w τ (fun i hi=>by simpa using hi) hJ) l.toArray.size 0 a0 w0 τ rfl ?_;exact J.start hb hdis hbnd hini (.inl rfl) fun i _=>by simp
theorem Bp {N:aQ} {n:Nat} {W0:World} {P:Program} {l:List Oper} {sp:List (Spec N)} (il:List (Ini N)) {a0:Act} {w0:World} {τ0:Nat→aQ} {bf:List Nat}
    {Q:Exit→Act→World→Prop} (hst:St N W0 n a0 w0 τ0) (hok:(lC l.toArray n&&oz l.toArray bf&&lN l.toArray bf (sp.map (·.slot)) (sp.map (·.tag)))=true)
    (hini:pe τ0 w0 0 il) (obs:mL l.toArray sp (ek il) a0 w0 P bf 0 l sp)
    (fin:∀a w τ,St N W0 n a w τ→Fin l sp il a0 a w τ→Q .normal a w):my P l Q a0 w0:=by
  have hlen:sp.length=l.length:=by
    simp only [ao] at hok;have h3:=hok.2;unfold lN at h3;simp only [ao,en,beq_iff_eq] at h3;simpa using h3.1.1
  refine CA (N:=N) (ini:=ek il) (τ:=τ0) (by rw [hst.size];exact hok) hst.big hst.disj hst.bnd (fun t=> ?_) obs fun done a w τ hd hJ=> ?_
  · have:=lQ hini t;rwa [fR] at this
  · refine fin a w τ ⟨hJ.defers.trans hst.defers,hJ.size.trans hst.size,hst.ext.trans hJ.ext,hJ.big,hJ.disj,hJ.bnd⟩ ⟨fun t ht=> ?_,fun j s hs ht=> ?_,fun j t s hs ht hl=> ?_,fun t hl=> ?_⟩
    · refine hJ.un t fun i o hi hdst=> ?_;exfalso;unfold iM at ht;rw [cK] at ht;have:=ht o (fT (by simpa using hi));simp [hdst] at this
    · exact hJ.det j s hs ht (hd j (by rw [←hlen];exact (List.getElem?_eq_some_iff.1 hs).1))
    · obtain ⟨h1,h2,h3⟩:=jB hl;refine hJ.res j s t hs ht (hd j (by omega)) fun k s' hk hlt hkt=> ?_;exact absurd (by rw [ik hk];exact hkt) (h3 k hlt (List.getElem?_eq_some_iff.1 hk).1)
    · refine hJ.ini t fun k s' hk hkt=> ?_;exact absurd (by rw [ik hk];exact hkt) (jC hl k (List.getElem?_eq_some_iff.1 hk).1)
structure ZP where
  P:aQ→World→Prop
  st:∀{Z Z':aQ} {w w':World},(∀g,Z g→Z' g)→Ext (fun g=>¬Z g) w w'→P Z w→P Z' w'
def Fz (Φ:ZP) (τ:Nat→aQ) (w:World):Prop:=Φ.P (ex τ w) w
def mt (N:aQ) (Φ:ZP):Ini N:=⟨fun Z _ w=>Φ.P Z w,fun Z Z' T w w' hz he h=>Φ.st hz (he.mono fun _ _ h=>h.2.2) h⟩
abbrev iz {N:aQ} {Φ:ZP} {τ:Nat→aQ} {w:World} (_:Fz Φ τ w):Ini N:=mt N Φ
def ZP.pure (p:Prop):ZP:=⟨fun _ _=>p,fun _ _ h=>h⟩
def ZP.and (Φ Ψ:ZP):ZP:=⟨fun Z w=>Φ.P Z w∧Ψ.P Z w,fun hz he h=>⟨Φ.st hz he h.1,Ψ.st hz he h.2⟩⟩
def eY {α:Type} (E:Enc α) (G:aQ) (v:Value) (xs:List α):ZP:=⟨fun Z w=>SlT E w v xs∧(xs≠ []→Z (cX v).block∧G (cX v).block),fun hz he h=>⟨h.1.keep he fun hn hm=>hm (h.2 hn).1,fun hn=>⟨hz _ (h.2 hn).1,(h.2 hn).2⟩⟩⟩
section
variable {N:aQ} {β:Type}
def kF (N:aQ) (t:Nat) (f:β→Value) (Ψ:β→Prop) (Φ:β→ZP):Spec N:=⟨none,t,fun Z _ v w=>∃b,v=f b∧Ψ b∧(Φ b).P Z w,fun Z Z' T v w w' hz he ⟨b,h1,h2,h3⟩=>⟨b,h1,h2,(Φ b).st hz (he.mono fun _ _ h=>h.2.2) h3⟩,fun _=>True,fun _ _ _ _ _=>trivial⟩
def xo {α:Type} (E:Enc α) (ty:Nat) (N:aQ) (tag t:Nat) (xs:β→List α) (Ψ:β→Prop) (Φ:β→ZP):Spec N:=⟨some tag,t,fun Z T v w=>∃b,dq E ty (xs b) T v w∧Ψ b∧(Φ b).P Z w,fun Z Z' T v w w' hz he ⟨b,h1,h2,h3⟩=>⟨b,iK T v w w' he.less h1,h2,(Φ b).st hz (he.mono fun _ _ h=>h.2.2) h3⟩,fun _=>True,fun _ _ _ _ _=>trivial⟩
def mu (ty:Nat) (N:aQ) (tag t:Nat) (p:Value) (cells:β→List Value) (f:β→Value) (Ψ:β→Prop) (Φ:β→ZP):Spec N:=⟨some tag,t,fun Z T v w=>∃b,v=f b∧cj ty (cells b) T p w∧Ψ b∧(Φ b).P Z w,fun Z Z' T v w w' hz he ⟨b,h0,h1,h2,h3⟩=>⟨b,h0,jS T p w w' he.less h1,h2,(Φ b).st hz (he.mono fun _ _ h=>h.2.2) h3⟩,fun _=>True,fun _ _ _ _ _=>trivial⟩
end
def Gn (F:aQ) (w:World):aQ:=fun g=>F g∨w.heap.size≤g
section
variable {N:aQ} {P:Program} {ops:Array Oper} {sp:List (Spec N)} {In:Nat→Ini N} {a0:Act} {w0:World} {bf:List Nat} {j:Nat} {o:Oper} {s:Spec N} {β:Type}
theorem iP {t:Nat} {f:β→Value} {Ψ:β→Prop} {Φ:β→ZP} (h:∀{done a w τ},Cx ops sp In a0 w0 bf j o done a w τ→∃g args,eD P a o w g args∧Calls P g args w (fun e w'=>∃b,e= .returned (f b)∧Ext aV w w'∧Ψ b∧(Φ b).P (ex τ w') w'))
    (hs:s=kF N t f Ψ Φ:=by exact rfl) (hg:o.guard=none:=by exact rfl) (hd:o.dst=some t:=by exact rfl):Ob ops sp In a0 w0 P bf j o s:=
  rc hg fun done a w τ c=>by
    obtain ⟨g,args,h1,h2⟩:=h c;subst hs;unfold Oper.wp;rw [h1];refine h2.mono fun e w' ⟨b,he,hx,hp,hz⟩=> ?_;subst he;refine ⟨f b,rfl,hx,b,?_,hp,hz⟩;show aS (a.put o.dst (f b)) t=f b;rw [hd,cT a t t _ (c.lt t hd),if_pos rfl]
theorem jf {τ:Nat→aQ} {tag:Nat} {T':aQ} {w:World} (h:∀g,T' g→τ tag g):∀g,ex τ w g→ex (lJ τ tag T') w g:=fun g hg=>⟨hg.1,fun t ht=>by
  unfold lJ at ht;split at ht
  · exact hg.2 _ (h _ ht)
  · exact hg.2 _ ht⟩
theorem xq {α:Type} {E:Enc α} {ty tag t:Nat} {xs:β→List α} {Ψ:β→Prop} {Φ:β→ZP} (h:∀{done a w τ},Cx ops sp In a0 w0 bf j o done a w τ→∃f args,eD P a o w f args∧Calls P f args w (fun e w'=>∃v b,e= .returned v∧Ext aV w w'∧mr E ty w w' v (xs b)∧Ψ b∧(Φ b).P (ex (lJ τ tag fun g=>v.ownBlock=some g) w') w'))
    (hs:s=xo E ty N tag t xs Ψ Φ:=by exact rfl) (hg:o.guard=none:=by exact rfl) (hd:o.dst=some t:=by exact rfl):Ob ops sp In a0 w0 P bf j o s:=by
  subst hs;refine iL (tag:=tag) hg rfl fun done a w τ c=> ?_;obtain ⟨f,args,h1,h2⟩:=h c;refine ⟨f,args,h1,h2.mono fun e w' ⟨v,b,he,hx,ho,hp,hz⟩=>⟨v,he,hx.mono (fun _ _ h=>h.elim),fun g=>v.ownBlock=some g,fun g hg=> .inr ⟨ho.2 g hg,ho.1.lt g hg⟩,b,?_,hp,hz⟩⟩;show dq E ty (xs b) _ (aS (a.put o.dst v) t) w';rw [hd,cT a t t v (c.lt t hd),if_pos rfl];exact ⟨ho.1,fun g h=>h⟩
theorem kR {ty tag t:Nat} {p:Value} {cells:β→List Value} {f:β→Value} {Ψ:β→Prop} {Φ:β→ZP} (h:∀{done a w τ},Cx ops sp In a0 w0 bf j o done a w τ→∃g args,eD P a o w g args∧Calls P g args w (fun e w'=>∃b,e= .returned (f b)∧Ext (τ tag) w w'∧cj ty (cells b) (τ tag) p w'∧Ψ b∧(Φ b).P (ex τ w') w'))
    (hs:s=mu ty N tag t p cells f Ψ Φ:=by exact rfl) (hg:o.guard=none:=by exact rfl) (hd:o.dst=some t:=by exact rfl):Ob ops sp In a0 w0 P bf j o s:=by
  subst hs;refine iL (tag:=tag) hg rfl fun done a w τ c=> ?_;obtain ⟨g,args,h1,h2⟩:=h c;refine ⟨g,args,h1,h2.mono fun e w' ⟨b,he,hx,hb,hp,hz⟩=>⟨f b,he,hx,τ tag,fun g h=> .inl h,b,?_,hb,hp,(Φ b).st (jf fun _ h=>h) (Ext.refl _ _) hz⟩⟩;show aS (a.put o.dst (f b)) t=f b;rw [hd,cT a t t _ (c.lt t hd),if_pos rfl]
end
section
variable {N:aQ} {P:Program} {ops:Array Oper} {sp:List (Spec N)} {In:Nat→Ini N} {a0:Act} {w0:World} {bf:List Nat} {j:Nat} {o:Oper} {done:Nat→Bool} {a:Act} {w:World} {τ:Nat→aQ}
theorem Cx.iz {Φ:ZP} (c:Cx ops sp In a0 w0 bf j o done a w τ) (t:Nat) (hI:In t=mt N Φ) (hl:bu (sp.map (·.tag)) t j=none:=by exact rfl) (hord:iw (sp.map (·.tag)) bf t j=true:=by kernel_rfl):Φ.P (ex τ w) w:=c.ini t _ hI hl hord
theorem Cx.gz {F:aQ} {W w':World} (c:Cx ops sp In a0 w0 bf j o done a w τ) (hW:W.heap.size≤w.heap.size) (hx:w.heap.size≤w'.heap.size):∀g,Gn (fun g=>ex τ w g∧Gn F W g) w g→g < w'.heap.size→ex τ w' g∧Gn F W g:=fun g hg hlt=>by
  rcases hg with ⟨⟨h1,h2⟩,h3⟩ | hg
  · exact ⟨⟨hlt,h2⟩,h3⟩
  · exact ⟨⟨hlt,fun t ht=>by have:=(c.J.bnd t g ht).2;omega⟩,.inr (by omega)⟩
theorem Cx.gzo {F:aQ} {W w':World} {tag:Nat} {v:Value} (c:Cx ops sp In a0 w0 bf j o done a w τ) (hW:W.heap.size≤w.heap.size) (hx:w.heap.size≤w'.heap.size) (hv:∀g,v.ownBlock=some g→w.heap.size≤g):∀g,Gn (fun g=>ex τ w g∧Gn F W g) w g∧v.ownBlock≠some g→g < w'.heap.size→ex (lJ τ tag fun g=>v.ownBlock=some g) w' g∧Gn F W g:=fun g hg hlt=>by
  obtain ⟨hg,hne⟩:=hg;have hG:Gn F W g:=by
    rcases hg with ⟨_,h3⟩ | hg
    · exact h3
    · exact .inr (by omega)
  refine ⟨⟨hlt,fun t ht=> ?_⟩,hG⟩;unfold lJ at ht;split at ht
  · exact hne ht
  · rcases hg with ⟨⟨_,h2⟩,_⟩ | hg
    · exact h2 t ht
    · have:=(c.J.bnd t g ht).2;omega
end
section
variable {N:aQ} {l:List Oper} {sp:List (Spec N)} {il:List (Ini N)} {a0 a:Act} {w:World} {τ:Nat→aQ} {β:Type}
theorem Fin.iz (h:Fin l sp il a0 a w τ) {Φ:ZP} (t:Nat) (hI:ek il t=mt N Φ) (hl:bu (sp.map (·.tag)) t sp.length=none:=by exact rfl):Fz Φ τ w:=by
  have:=h.ini t hl;rw [hI] at this
  exact this
theorem Fin.zd (h:Fin l sp il a0 a w τ) {t:Nat} {f:β→Value} {Ψ:β→Prop} {Φ:β→ZP} (j:Nat) (hs:sp[j]? =some (kF N t f Ψ Φ)):∃b,aS a t=f b∧Ψ b∧Fz (Φ b) τ w:=h.det j _ hs rfl
theorem Fin.zo (h:Fin l sp il a0 a w τ) {α:Type} {E:Enc α} {ty t slot:Nat} {xs:β→List α} {Ψ:β→Prop} {Φ:β→ZP} (j:Nat) {v:Value} (hv:aS a slot=v) (hs:sp[j]? =some (xo E ty N t slot xs Ψ Φ)) (hl:bu (sp.map (·.tag)) t sp.length=some j:=by exact rfl):∃b,dq E ty (xs b) (τ t) v w∧Ψ b∧Fz (Φ b) τ w:=
  hv ▸ h.res j t _ hs rfl hl
theorem Fin.zb (h:Fin l sp il a0 a w τ) {ty t slot:Nat} {p:Value} {cells:β→List Value} {f:β→Value} {Ψ:β→Prop} {Φ:β→ZP} (j:Nat) (hs:sp[j]? =some (mu ty N t slot p cells f Ψ Φ)) (hl:bu (sp.map (·.tag)) t sp.length=some j:=by exact rfl):∃b,aS a slot=f b∧cj ty (cells b) (τ t) p w∧Ψ b∧Fz (Φ b) τ w:=
  h.res j t _ hs rfl hl
end
section
variable {P:Program} {a:Act} {o:Oper} {w w':World} {f:FuncId}
theorem oi {x:Operand} {v:Value} (ho:o.op= .makeFunc (.func f) #[] #[x]) (hx:a.eval x=v):bU P a o w (.func (.func f) #[] #[v]):=by
  subst hx;simp [bU,execOp,ho,Instr.makeFunc]
theorem su {x y z:Operand} {v u q:Value} (ho:o.op= .makeFunc (.func f) #[] #[x,y,z]) (hx:a.eval x=v) (hy:a.eval y=u) (hz:a.eval z=q):bU P a o w (.func (.func f) #[] #[v,u,q]):=by
  subst hx hy hz;simp [bU,execOp,ho,Instr.makeFunc]
theorem sw {x y z x4:Operand} {v u q v4:Value} (ho:o.op= .makeFunc (.func f) #[] #[x,y,z,x4]) (hx:a.eval x=v) (hy:a.eval y=u) (hz:a.eval z=q) (h4:a.eval x4=v4):bU P a o w (.func (.func f) #[] #[v,u,q,v4]):=by
  subst hx hy hz h4;simp [bU,execOp,ho,Instr.makeFunc]
theorem xr {x x1:Operand} {ts:Array TypeId} {v1 c1:Value} (ho:o.op= .call { callee:= .value x,args:=#[x1],argTypes:=ts }) (hx:a.eval x= .func (.func f) #[] #[c1]) (hcall:∀args w,(callFunc f args).run P w= .ok (.enter f args) w) (h1:a.eval x1=v1):eD P a o w f #[v1,c1]:=
  ll ho hx hcall (by simp [h1])
theorem Ext.fresh {W w:World} (h:Ext (fun k=>W.heap.size≤k) W w):Ext aV W w:=⟨h.os,h.tape,h.output,h.size,fun k hk _=>h.block k hk (fun hn:W.heap.size≤k=>by omega)⟩
theorem Ext.cellAt {W w:World} (h:Ext (fun k=>W.heap.size≤k) W w) {p:Addr} {v:Value} (hc:W.cell? p=some v):w.cell? p=some v:=h.fresh.cell_some hc (fun h=>h)
end
section
variable {N:aQ} {β:Type}
def fG (N:aQ) (t:Nat) (pc:Prop) (f:β→Value) (Ψ:β→Prop) (Φ:β→ZP):Spec N:=⟨none,t,fun Z _ v w=>pc→∃b,v=f b∧Ψ b∧(Φ b).P Z w,fun Z Z' T v w w' hz he h hp=>(h hp).elim fun b ⟨h1,h2,h3⟩=>⟨b,h1,h2,(Φ b).st hz (he.mono fun _ _ h=>h.2.2) h3⟩,fun _=>True,fun _ _ _ _ _=>trivial⟩
def oj {α:Type} (E:Enc α) (ty:Nat) (N:aQ) (tag t:Nat) (pc:Prop) (xs:β→List α) (Ψ:β→Prop) (Φ:β→ZP):Spec N:=⟨some tag,t,fun Z T v w=>pc→∃b,dq E ty (xs b) T v w∧Ψ b∧(Φ b).P Z w,fun Z Z' T v w w' hz he h hp=>(h hp).elim fun b ⟨h1,h2,h3⟩=>⟨b,iK T v w w' he.less h1,h2,(Φ b).st hz (he.mono fun _ _ h=>h.2.2) h3⟩,fun _=>True,fun _ _ _ _ _=>trivial⟩
def uR (ty:Nat) (N:aQ) (tag t:Nat) (cells:β→List Value) (Ψ:β→Prop) (Φ:β→ZP):Spec N:=⟨some tag,t,fun Z T v w=>∃b,cj ty (cells b) T v w∧Ψ b∧(Φ b).P Z w,fun Z Z' T v w w' hz he ⟨b,h1,h2,h3⟩=>⟨b,jS T v w w' he.less h1,h2,(Φ b).st hz (he.mono fun _ _ h=>h.2.2) h3⟩,fun _=>True,fun _ _ _ _ _=>trivial⟩
end
section
variable {N:aQ} {P:Program} {ops:Array Oper} {sp:List (Spec N)} {In:Nat→Ini N} {a0:Act} {w0:World} {bf:List Nat} {j:Nat} {o:Oper} {s:Spec N} {β:Type} {pc:Prop}
def sx (ops:Array Oper) (sp:List (Spec N)) (bf:List Nat) (j:Nat) (o:Oper) (pc:Prop):Prop:=
  (o.guard=none∧pc)∨(∃gi want tg b,o.guard=some (gi,want)∧((ops[gi]?).bind (·.dst))=some tg∧sp[gi]? =some (B.det N tg (.bool b))∧(bf.getD j 0).testBit gi=true∧(pc↔b=want))∨
  (∃gi want tg b pg,o.guard=some (gi,want)∧((ops[gi]?).bind (·.dst))=some tg∧sp[gi]? =some (B.gdet N tg pg (.bool b))∧(bf.getD j 0).testBit gi=true∧(pc↔(pg∧b=want)))
theorem oH (hg:o.guard=none:=by exact rfl):sx ops sp bf j o True:= .inl ⟨hg,av⟩
theorem pk {a:Act} {t:Nat} {b:Bool} (hv:aS a t= .bool b):a.tmps[t]? =some (.bool b):=by
  unfold aS at hv;rw [aO] at hv;cases h':a.tmps[t]? with
  | none => rw [h'] at hv; simp [undef] at hv
  | some u => rw [h'] at hv; simp at hv; rw [hv]
theorem qo {a:Act} {t:Nat} (hv:aS a t=undef):∀b,a.tmps[t]? ≠some (.bool b):=by
  intro bb h';unfold aS at hv;rw [aO,h'] at hv;simp [undef] at hv
theorem sx.known (h:sx ops sp bf j o pc) {done:Nat→Bool} {a:Act} {w:World} {τ:Nat→aQ} (c:Cx ops sp In a0 w0 bf j o done a w τ):Region.wanted o (yielded ops a.tmps)=true↔pc:=by
  rcases h with ⟨hg,hp⟩ | ⟨gi,want,tg,b,hg,hgd,hgs,hb,hpc⟩ | ⟨gi,want,tg,b,pg,hg,hgd,hgs,hb,hpc⟩
  · exact ⟨fun _=>hp,fun _=>kp hg _⟩
  · have hv:=pk (c.v gi hgs hb);rw [hpc];cases b <;> cases want <;> simp [Region.wanted,hg,yielded,hgd,hv]
  · have hv:(pg→aS a tg= .bool b)∧(¬pg→aS a tg=undef):=c.J.det gi _ hgs rfl (c.pre gi hb);rw [hpc];by_cases hpg:pg
    · have hv:=pk (hv.1 hpg);cases b <;> cases want <;> simp [Region.wanted,hg,yielded,hgd,hv,hpg]
    · have hv:=qo (hv.2 hpg);have hy:yielded ops a.tmps gi=none:=by
        cases h':a.tmps[tg]? with
        | none => simp [yielded, hgd, h']
        | some u => cases u <;> first | exact absurd h' (hv _) | simp [yielded, hgd, h']
      simp [Region.wanted,hg,hy,hpg]
theorem xt {t:Nat} {f:β→Value} {Ψ:β→Prop} {Φ:β→ZP} (hgd:sx ops sp bf j o pc) (h:∀{done a w τ},Cx ops sp In a0 w0 bf j o done a w τ→pc→∃g args,eD P a o w g args∧Calls P g args w (fun e w'=>∃b,e= .returned (f b)∧Ext aV w w'∧Ψ b∧(Φ b).P (ex τ w') w'))
    (hs:s=fG N t pc f Ψ Φ:=by exact rfl) (hd:o.dst=some t:=by exact rfl):Ob ops sp In a0 w0 P bf j o s:=by
  subst hs;intro done a w τ c;refine ⟨fun hw=> ?_,fun hw=>⟨Ext.refl _ _,fun hp=>by rw [(hgd.known c).2 hp] at hw;cases hw⟩⟩;have hp:=(hgd.known c).1 hw;obtain ⟨g,args,h1,h2⟩:=h c hp;unfold Oper.wp;rw [h1];refine h2.mono fun e w' ⟨b,he,hx,hq,hz⟩=> ?_;subst he;refine ⟨f b,rfl,hx,fun _=>⟨b,?_,hq,hz⟩⟩;show aS (a.put o.dst (f b)) t=f b;rw [hd,cT a t t _ (c.lt t hd),if_pos rfl]
theorem pm {α:Type} {E:Enc α} {ty e tag t n:Nat} {xs:β→List α} {Ψ:β→Prop} {Φ:β→ZP} {parts:Array (Nat × Operand)} {z:Value} {cells:β→Array Value} (hgd:sx ops sp bf j o pc) (ho:o.op= .buildSlice ty n parts)
    (hty:P.underlying ty=some (.slice e)) (hsz:∀w,(sizeOf e).run P w= .ok E.sz w) (hz:∀w,(zeroValue e).run P w= .ok z w) (hn0:0 < n) (hsmall:n * E.sz≤16777216) (hn:∀b,n=(xs b).length) (hc:∀b,(cells b).toList=E.row (xs b))
    (h:∀{done a w τ},Cx ops sp In a0 w0 bf j o done a w τ→pc→∃b,Ψ b∧(Φ b).P (ex τ w) w∧Instr.fill (fun i=>some (i * E.sz,E.sz)) ((Array.range (n * E.sz)).map (z.cells[· % z.cells.size]!)) (parts.map fun (i,x)=>(i,a.eval x)).toList=some (cells b))
    (hs:s=oj E e N tag t pc xs Ψ Φ:=by exact rfl) (hd:o.dst=some t:=by exact rfl):Ob ops sp In a0 w0 P bf j o s:=by
  subst hs;intro done a w τ c;refine ⟨fun hw=> ?_,fun hw=>⟨Ext.refl _ _,τ tag,fun g h=> .inl h,fun hp=>by rw [(hgd.known c).2 hp] at hw;cases hw⟩⟩;have hp:=(hgd.known c).1 hw;obtain ⟨b,hq,hzz,hf⟩:=h c hp;have h2:¬(n * E.sz > 2 ^ 24):=by omega
  have h0:¬(n * E.sz=0):=by have:=Nat.mul_pos hn0 E.pos;omega
  have hr:(execOp a.eval o).run P w= .ok (.value (.slice (some ⟨w.heap.size,0,none⟩) n n)) (w.alloc (.cells (cells b) e)):=by
    simp only [execOp,ho,Instr.buildSlice,Sem.run_bind,run_underlying hty,Result.andThen_ok,hsz,h2,if_false,Sem.run_pure,h0,hz];rw [hf];rfl
  have hl:(cells b).size=n * E.sz:=by rw [←ef,hc,E.row_length,←hn b]
  refine eI hr ⟨_,rfl,Ext.alloc _ _ _,fun g=>g=w.heap.size,fun g hg=> .inr (by subst hg;simp),fun _=>⟨b,?_,hq,?_⟩⟩
  · show dq E e (xs b) _ (aS (a.put o.dst _) t) _;rw [hd,cT a t t _ (c.lt t hd),if_pos rfl];refine ⟨⟨E.row_length (xs b),.inr ⟨w.heap.size,n,cells b,by rw [←hn b],dE _,heap_alloc_new w _,by rw [←hn b];exact bj _,?_,hl,?_⟩⟩,fun g h=> ?_⟩
    · have:=iA n E.pos;simp only [maxLen];omega
    · rw [hc,←E.row_length];exact kM
    · simp only [Value.ownBlock,Option.some.injEq] at h;exact h.symm
  · refine (Φ b).st (fun g hg=>⟨cn hg.1 (by simp),fun t ht=> ?_⟩) ((Ext.alloc aV w _).mono fun _ _ h=>h.elim) hzz;unfold lJ at ht;split at ht
    · have:=hg.1;omega
    · exact hg.2 t ht
theorem po {ty tag t tt off:Nat} {cells0:List Value} {cells:β→List Value} {Ψ:β→Prop} {Φ:β→ZP} {x y:Operand} {v:β→Value} (hg:o.guard=none) (ho:o.op= .store tt x y) (hsz:∀b w,(sizeOf tt).run P w= .ok (v b).cells.size w)
    (hfit:∀b,off+(v b).cells.size≤cells0.length) (h1:∀b,∀u ∈ (v b).cells.toList,u.oneCell'=true) (hc:∀b,cells b=cells0.take off++(v b).cells.toList++cells0.drop (off+(v b).cells.size))
    (hp:∀{done a w τ},Cx ops sp In a0 w0 bf j o done a w τ→∃b,Ψ b∧(Φ b).P (ex τ w) w∧cj ty cells0 (τ tag) (aS a t) w∧a.eval x= .pointer (some ((cX (aS a t)).add off))∧a.eval y=v b)
    (hs:s=uR ty N tag t cells Ψ Φ:=by exact rfl) (hd:o.dst=none:=by exact rfl):Ob ops sp In a0 w0 P bf j o s:=by
  subst hs;refine dI hg rfl fun done a w τ c=> ?_;obtain ⟨b,hq,hzz,⟨g,hv,hlt,hT,hgg⟩,hx,hy⟩:=hp c;have hx':a.eval x= .pointer (some ⟨g,off,none⟩):=by rw [hx,hv];simp only [cX,kq]
  have hr:=run_store (P:=P) (t:=tt) (off:=off) hgg (hsz b) (by simpa using hfit b) (h1 b);have hr':(execOp a.eval o).run P w= .ok .skip (w.setRow g (cells b).toArray):=by
    simp only [execOp,ho,hx',hy,Sem.run_bind,hr,Result.andThen_ok];rw [hc];rfl
  have hx:Ext (τ tag) w (w.setRow g (cells b).toArray):=(gy w g _).mono (fun k _ h=>by rw [h];exact hT);refine gA hr' ⟨undef,rfl,hx,τ tag,fun g h=> .inl h,b,?_,hq,?_⟩
  · show cj ty (cells b) _ (aS (a.put o.dst _) t) _;rw [hd,iJ];exact ⟨g,hv,by simp [World.setRow,hlt],hT,setRow_heap w g _ _ ty _ hgg⟩
  · exact (Φ b).st (fun g hg=>jf (fun _ h=>h) g ⟨cn hg.1 hx.size,hg.2⟩) (hx.mono fun g _ hg hn=>hn.2 _ hg) hzz
theorem xu {t:Nat} {f:β→Value} {Φ:β→ZP} (h:∀{done a w τ},Cx ops sp In a0 w0 bf j o done a w τ→∃b,bU P a o w (f b)∧(Φ b).P (ex τ w) w)
    (hs:s=fG N t True f (fun _=>True) Φ:=by exact rfl) (hg:o.guard=none:=by exact rfl) (hd:o.dst=some t:=by exact rfl):Ob ops sp In a0 w0 P bf j o s:=by
  subst hs;intro done a w τ c;refine ⟨fun _=> ?_,fun hw=> ?_⟩
  · obtain ⟨b,hr,hz⟩:=h c;refine eI hr ⟨_,rfl,Ext.refl _ _,fun _=>⟨b,?_,av,hz⟩⟩;show aS (a.put o.dst (f b)) t=f b;rw [hd,cT a t t _ (c.lt t hd),if_pos rfl]
  · exfalso;unfold Region.wanted at hw;rw [hg] at hw;cases hw
end
section
variable {N:aQ} {P:Program} {ops:Array Oper} {sp:List (Spec N)} {In:Nat→Ini N} {a0:Act} {w0:World} {bf:List Nat} {j:Nat} {o:Oper} {done:Nat→Bool} {a:Act} {w:World} {τ:Nat→aQ} {β:Type} {pc:Prop}
theorem Cx.zd (c:Cx ops sp In a0 w0 bf j o done a w τ) (i:Nat) {t:Nat} {f:β→Value} {Ψ:β→Prop} {Φ:β→ZP} (hs:sp[i]? =some (fG N t pc f Ψ Φ)) (hp:pc) (hb:(bf.getD j 0).testBit i=true:=by exact rfl):∃b,a.eval (.tmp t)=f b∧Ψ b∧(Φ b).P (ex τ w) w:=c.J.det i _ hs rfl (c.pre i hb) hp
theorem Cx.zo (c:Cx ops sp In a0 w0 bf j o done a w τ) {α:Type} {E:Enc α} {ty t slot:Nat} {xs:β→List α} {Ψ:β→Prop} {Φ:β→ZP} (i:Nat) (hs:sp[i]? =some (oj E ty N t slot pc xs Ψ Φ)) (hp:pc) (hl:bu (sp.map (·.tag)) t j=some i:=by exact rfl) (hord:iw (sp.map (·.tag)) bf t j=true:=by kernel_rfl):∃b,dq E ty (xs b) (τ t) (aS a slot) w∧Ψ b∧(Φ b).P (ex τ w) w:=c.res i t _ hs hl hord hp
end
section
variable {N:aQ} {l:List Oper} {sp:List (Spec N)} {il:List (Ini N)} {a0 a:Act} {w:World} {τ:Nat→aQ} {β:Type} {pc:Prop}
theorem Fin.gzb (h:Fin l sp il a0 a w τ) {ty t slot:Nat} {cells:β→List Value} {Ψ:β→Prop} {Φ:β→ZP} (j:Nat) {v:Value} (hv:aS a slot=v) (hs:sp[j]? =some (uR ty N t slot cells Ψ Φ)) (hl:bu (sp.map (·.tag)) t sp.length=some j:=by exact rfl):∃b,cj ty (cells b) (τ t) v w∧Ψ b∧Fz (Φ b) τ w:=hv ▸ h.res j t _ hs rfl hl
theorem Fin.gzd (h:Fin l sp il a0 a w τ) {t:Nat} {f:β→Value} {Ψ:β→Prop} {Φ:β→ZP} (j:Nat) (hs:sp[j]? =some (fG N t pc f Ψ Φ)) (hp:pc):∃b,aS a t=f b∧Ψ b∧Fz (Φ b) τ w:=h.det j _ hs rfl hp
end
def xv (ty:Nat) (N:aQ) (tag t:Nat) (p:Value) (cells:Value→List Value):Spec N:=⟨some tag,t,fun _ T v w=>cj ty (cells v) T p w,fun _ _ T v w w' _ h hr=>jS T p w w' h.less hr,fun _=>True,fun _ _ _ _ _=>trivial⟩
theorem lj.cells {v:Value} {n:Nat} (h:lj v n):v.cells.toList=[v]∧v.cells.size=1∧v.oneCell'=true:=by
  rcases h with ⟨rfl,_⟩ | ⟨b,cap,rfl,_⟩ <;> exact ⟨rfl,rfl,rfl⟩
section
variable {N:aQ} {P:Program} {ops:Array Oper} {sp:List (Spec N)} {In:Nat→Ini N} {a0:Act} {w0:World} {bf:List Nat} {j:Nat} {o:Oper} {s:Spec N}
theorem ln {ty tag t tt off:Nat} {p:Value} {cells0:List Value} {cells:Value→List Value} {x y:Operand} (hs:s=xv ty N tag t p cells) (hg:o.guard=none) (hd:o.dst=none) (ho:o.op= .store tt x y) (hsz:∀w,(sizeOf tt).run P w= .ok 1 w)
    (hfit:off+1≤cells0.length) (hc:∀v,cells v=cells0.take off++ [v]++cells0.drop (off+1))
    (hp:∀{done a w τ},Cx ops sp In a0 w0 bf j o done a w τ→cj ty cells0 (τ tag) p w∧a.eval x= .pointer (some ((cX p).add off))∧a.eval y=aS a t∧∃n,lj (aS a t) n):Ob ops sp In a0 w0 P bf j o s:=by
  subst hs;refine dI hg rfl fun done a w τ c=> ?_;obtain ⟨⟨g,hv,hlt,hT,hgg⟩,hx,hy,n,hsl⟩:=hp c;obtain ⟨h1,h2,h3⟩:=hsl.cells;have hx':a.eval x= .pointer (some ⟨g,off,none⟩):=by rw [hx,hv];simp only [cX,kq]
  have hr:=run_store (P:=P) (t:=tt) (off:=off) (v:=aS a t) hgg (by rw [h2];exact hsz) (by rw [h2];simpa using hfit) (by rw [h1];intro u hu;simp at hu;rw [hu];exact h3);have hr':(execOp a.eval o).run P w= .ok .skip (w.setRow g (cells (aS a t)).toArray):=by
    simp only [execOp,ho,hx',hy,Sem.run_bind,hr,Result.andThen_ok];rw [hc,h1,h2];rfl
  refine gA hr' ⟨undef,rfl,(gy w g _).mono (fun k _ h=>by rw [h];exact hT),τ tag,fun g h=> .inl h,?_⟩;show cj ty (cells (aS (a.put o.dst _) t)) _ p _;rw [hd,iJ];exact ⟨g,hv,by simp [World.setRow,hlt],hT,setRow_heap w g _ _ ty _ hgg⟩
end
section
variable {N:aQ} {l:List Oper} {sp:List (Spec N)} {il:List (Ini N)} {a0 a:Act} {w:World} {τ:Nat→aQ}
theorem Fin.vb (h:Fin l sp il a0 a w τ) {ty t slot:Nat} {p:Value} {cells:Value→List Value} (j:Nat) {v:Value} (hv:aS a slot=v) (hs:sp[j]? =some (xv ty N t slot p cells)) (hl:bu (sp.map (·.tag)) t sp.length=some j:=by exact rfl):cj ty (cells v) (τ t) p w:=hv ▸ h.res j t _ hs rfl hl
end
end
section
structure Sv where
  a:Option Addr
  l:Nat
  c:Nat
def Sv.v (s:Sv):Value:= .slice s.a s.l s.c
def Sv.nil:Sv:=⟨none,0,0⟩
structure Tr where
  k:Int
  ch:ByteArray
  ng:Bool
  rv:Sv
  rows:List (ByteArray × ByteArray)
  mn:Int
  mx:Int
  lz:Bool
  kv:Sv
  kids:List Tr
instance:Inhabited Tr:=⟨⟨0,⟨#[]⟩,false,Sv.nil,[],0,0,false,Sv.nil,[]⟩⟩
theorem Tr.kid_lt {t k:Tr} (h:k ∈ t.kids):SizeOf.sizeOf k < SizeOf.sizeOf t:=by
  have:=List.sizeOf_lt_of_mem h;cases t
  simp at this ⊢
  omega
theorem Tr.ind {P:Tr→Prop} (h:∀t,(∀k ∈ t.kids,P k)→P t) (t:Tr):P t:=h t fun k hk=>Tr.ind h k
termination_by SizeOf.sizeOf t
decreasing_by exact Tr.kid_lt hk
def lE:Enc Tr:=⟨fun t=> [.int .i64 t.k,.string t.ch,.bool t.ng,t.rv.v,.int .i64 t.mn,.int .i64 t.mx,.bool t.lz,t.kv.v],8,by decide,fun _=>rfl,fun x u hu=>by
  simp at hu;rcases hu with rfl | rfl | rfl | rfl | rfl | rfl | rfl | rfl <;> rfl⟩
def Tr.v (t:Tr):Value:= .agg #[.int .i64 t.k,.string t.ch,.bool t.ng,t.rv.v,.int .i64 t.mn,.int .i64 t.mx,.bool t.lz,t.kv.v]
inductive TrT (F:aQ) (w:World):Tr→Prop
  | mk {t : Tr} : SlT gC w t.rv.v t.rows → (t.rows ≠ [] → F (cX t.rv.v).block) → SlT lE w t.kv.v t.kids → (t.kids ≠ [] → F (cX t.kv.v).block) → (∀ k ∈ t.kids, TrT F w k) → TrT F w t
section
variable {F F':aQ} {w w':World} {t:Tr}
theorem TrT.rows (h:TrT F w t):SlT gC w t.rv.v t.rows:=by cases h;assumption
theorem TrT.rowsF (h:TrT F w t):t.rows≠ []→F (cX t.rv.v).block:=by cases h;assumption
theorem TrT.kids (h:TrT F w t):SlT lE w t.kv.v t.kids:=by cases h;assumption
theorem TrT.kidsF (h:TrT F w t):t.kids≠ []→F (cX t.kv.v).block:=by cases h;assumption
theorem TrT.kid (h:TrT F w t) {k:Tr} (hk:k ∈ t.kids):TrT F w k:=by cases h;rename_i h;exact h k hk
theorem TrT.keep (h:TrT F w t) {M:Nat→Prop} (he:Ext M w w') (hm:∀g,F g→¬M g):TrT F w' t:=by
  induction t using Tr.ind with
  | h t ih => exact .mk (h.rows.keep he fun hn => hm _ (h.rowsF hn)) h.rowsF (h.kids.keep he fun hn => hm _ (h.kidsF hn)) h.kidsF fun k hk => ih k hk (h.kid hk)
theorem TrT.mono (h:TrT F w t) (hf:∀g,F g→g < w.heap.size→F' g):TrT F' w t:=by
  induction t using Tr.ind with
  | h t ih => exact .mk h.rows (fun hn => hf _ (h.rowsF hn) (h.rows.lt hn)) h.kids (fun hn => hf _ (h.kidsF hn) (h.kids.lt hn)) fun k hk => ih k hk (h.kid hk)
def oI (w:World) (t:Tr):Prop:=TrT (fun g=>g < w.heap.size) w t
theorem TrT.s (h:TrT F w t):oI w t:=h.mono fun _ _ h=>h
theorem oI.at (h:oI w t) (he:Ext (Nw w) w w'):oI w' t:=(TrT.keep h he fun g hg hn=>by simp only [Nw] at hn;omega).s
theorem oI.keep (h:oI w t) (he:Ext aV w w'):oI w' t:=(TrT.keep h he fun _ _ hn=>hn).s
structure TlS (w:World) (v:Value) (ts:List Tr):Prop where
  sl:SlT lE w v ts
  all:∀t ∈ ts,oI w t
theorem oI.tl (h:oI w t):TlS w t.kv.v t.kids:=⟨h.kids,fun k hk=>(h.kid hk)⟩
theorem TlS.el {v:Value} {ts:List Tr} (h:TlS w v ts) {i:Int} (h0:0≤i) (h1:i < ts.length):oI w (nth ts i):=h.all _ (by
  obtain ⟨k,rfl⟩:∃k:Nat,i=(k:Int):=⟨i.toNat,by omega⟩
  have hk:k < ts.length:=by omega
  have:nth ts (k:Int)=ts[k]:=by simp [B.nth,List.getD,bm hk]
  rw [this];exact kP hk)
end
mutual
def er:Tr→Tr
  | ⟨k, ch, ng, _, rows, mn, mx, lz, _, kids⟩ => ⟨k, ch, ng, Sv.nil, rows, mn, mx, lz, Sv.nil, CY kids⟩
def CY:List Tr→List Tr
  | [] => []
  | t :: ts => er t :: CY ts
end
theorem uS (ts:List Tr):CY ts=ts.map er:=by
  induction ts with
  | nil => rfl
  | cons t ts ih => rw [CY, ih]; rfl
theorem kr (t:Tr):(er t).kids=t.kids.map er:=by cases t;simp [er,uS]
theorem lR (t:Tr):er t=⟨t.k,t.ch,t.ng,Sv.nil,t.rows,t.mn,t.mx,t.lz,Sv.nil,t.kids.map er⟩:=by cases t;simp [er,uS]
theorem CB (t:Tr):er (er t)=er t:=by
  induction t using Tr.ind with
  | h t ih =>
    rw [lR t,lR];congr 1;rw [jx];exact gk fun k hk=>ih k hk
end
section
open Go.RowKit
theorem Bq:Try.prog.follows .mixedOrders=true:=by kernel_rfl
structure IE (N:aQ) (τ:Nat→aQ) (w:World) where
  i:Ini N
  t:Nat
  h:i.I (ex τ w) (τ t) w
def nP {N:aQ} {τ:Nat→aQ} {w:World}:List (IE N τ w)→Nat→Ini N
  | [], _ => Ini.any N
  | e :: l, t => if e.t = t then e.i else nP l t
theorem dP {N:aQ} {τ:Nat→aQ} {w:World}:∀(l:List (IE N τ w)) (t:Nat),(nP l t).I (ex τ w) (τ t) w
  | [], _ => trivial
  | e :: l, t => by
    unfold nP;split
    · rename_i h;exact h ▸ e.h
    · exact dP l t
def Di {N:aQ} {τ:Nat→aQ} {w:World} (l:List (IE N τ w)):List (Ini N):=[nP l 0,nP l 1,nP l 2,nP l 3,nP l 4,nP l 5,nP l 6,nP l 7,nP l 8,nP l 9,nP l 10,nP l 11,nP l 12,nP l 13,nP l 14,nP l 15,nP l 16,nP l 17,nP l 18,nP l 19,nP l 20,nP l 21,nP l 22,nP l 23]
theorem uT {N:aQ} {τ:Nat→aQ} {w:World} (l:List (IE N τ w)):pe τ w 0 (Di l):=⟨dP l 0,dP l 1,dP l 2,dP l 3,dP l 4,dP l 5,dP l 6,dP l 7,dP l 8,dP l 9,dP l 10,dP l 11,dP l 12,dP l 13,dP l 14,dP l 15,dP l 16,dP l 17,dP l 18,dP l 19,dP l 20,dP l 21,dP l 22,dP l 23,av⟩
section
variable {N:aQ} {τ:Nat→aQ} {w:World}
abbrev jb {ty t:Nat} {cells:List Value} {v:Value} (h:cj ty cells (τ t) v w):IE N τ w:=⟨ibox ty N v cells,t,h⟩
abbrev jo {α:Type} {E:Enc α} {ty t:Nat} {xs:List α} {v:Value} (h:dq E ty xs (τ t) v w):IE N τ w:=⟨iown E ty N v xs,t,h⟩
abbrev jy {ty t:Nat} {xs:List UInt8} {v:Value} (h:jD ty xs (τ t) v w):IE N τ w:=⟨xk ty N v xs,t,h⟩
abbrev jz {Φ:ZP} (t:Nat) (h:Fz Φ τ w):IE N τ w:=⟨mt N Φ,t,h⟩
end
section
variable {N:aQ} {n:Nat} {W0 a0':World} {l:List Oper} {sp:List (Spec N)} {a0:Act} {w0:World} {τ0:Nat→aQ} {bf:List Nat} {id:Nat} {draw:Bool} {Q:Exit→Act→World→Prop} {P:Program}
def qp (n:Nat) (l:List Oper) (bf:List Nat) (sp:List (Spec N)):Bool:=lC l.toArray n&&oz l.toArray bf&&lN l.toArray bf (sp.map (·.slot)) (sp.map (·.tag))
abbrev qq (P:Program) (bf:List Nat) (a0:Act) (w0:World) {τ0:Nat→aQ} (il:List (IE N τ0 w0)) (l:List Oper) (sp:List (Spec N)):Prop:=mL l.toArray sp (ek (Di il)) a0 w0 P bf 0 l sp
abbrev qr (W0:World) (n:Nat) (l:List Oper) (sp:List (Spec N)) (a0:Act) {w0:World} {τ0:Nat→aQ} (il:List (IE N τ0 w0)) (Q:Exit→Act→World→Prop):Prop:=∀a w τ,St N W0 n a w τ→Fin l sp (Di il) a0 a w τ→Q .normal a w
theorem rg (sp:List (Spec N)) (bf:List Nat) (hst:St N W0 n a0 w0 τ0) (il:List (IE N τ0 w0)) (obs:qq Try.prog bf a0 w0 il l sp) (fin:qr W0 n l sp a0 il Q) (hok:qp n l bf sp=true:=by kernel_rfl):(Code.region id l.toArray draw).wp Try.prog Q a0 w0:=vY _ Bq hst hok (uT il) obs fin
theorem og (sp:List (Spec N)) (bf:List Nat) (hst:St N W0 n a0 w0 τ0) (il:List (IE N τ0 w0)) (obs:qq P bf a0 w0 il l sp) (fin:qr W0 n l sp a0 il Q) (hok:qp n l bf sp=true:=by kernel_rfl):my P l Q a0 w0:=Bp _ hst hok (uT il) obs fin
theorem ew {s0:Spec N} (hst:St N W0 n a0 w0 τ0) (il:List (IE N τ0 w0)) (obs:qq Try.prog [0] a0 w0 il l [s0]) (fin:qr W0 n l [s0] a0 il Q) (hok:qp n l [0] [s0]=true:=by kernel_rfl):(Code.region id l.toArray draw).wp Try.prog Q a0 w0:=rg _ _ hst il obs fin hok
theorem eE {s0 s1:Spec N} (hst:St N W0 n a0 w0 τ0) (il:List (IE N τ0 w0)) (obs:qq Try.prog [0,1] a0 w0 il l [s0,s1]) (fin:qr W0 n l [s0,s1] a0 il Q) (hok:qp n l [0,1] [s0,s1]=true:=by kernel_rfl):(Code.region id l.toArray draw).wp Try.prog Q a0 w0:=rg _ _ hst il obs fin hok
theorem zp {s0 s1 s2:Spec N} (bf:List Nat) (hst:St N W0 n a0 w0 τ0) (il:List (IE N τ0 w0)) (obs:qq Try.prog bf a0 w0 il l [s0,s1,s2]) (fin:qr W0 n l [s0,s1,s2] a0 il Q) (hok:qp n l bf [s0,s1,s2]=true:=by kernel_rfl):(Code.region id l.toArray draw).wp Try.prog Q a0 w0:=rg _ bf hst il obs fin hok
theorem eN {s0 s1 s2:Spec N} (hst:St N W0 n a0 w0 τ0) (il:List (IE N τ0 w0)) (obs:qq Try.prog [0,1,3] a0 w0 il l [s0,s1,s2]) (fin:qr W0 n l [s0,s1,s2] a0 il Q) (hok:qp n l [0,1,3] [s0,s1,s2]=true:=by kernel_rfl):(Code.region id l.toArray draw).wp Try.prog Q a0 w0:=rg _ _ hst il obs fin hok
theorem lS {s0 s1 s2 s3:Spec N} (bf:List Nat) (hst:St N W0 n a0 w0 τ0) (il:List (IE N τ0 w0)) (obs:qq Try.prog bf a0 w0 il l [s0,s1,s2,s3]) (fin:qr W0 n l [s0,s1,s2,s3] a0 il Q) (hok:qp n l bf [s0,s1,s2,s3]=true:=by kernel_rfl):(Code.region id l.toArray draw).wp Try.prog Q a0 w0:=rg _ bf hst il obs fin hok
theorem xw {s0 s1 s2 s3:Spec N} (hst:St N W0 n a0 w0 τ0) (il:List (IE N τ0 w0)) (obs:qq Try.prog [0,1,3,7] a0 w0 il l [s0,s1,s2,s3]) (fin:qr W0 n l [s0,s1,s2,s3] a0 il Q) (hok:qp n l [0,1,3,7] [s0,s1,s2,s3]=true:=by kernel_rfl):(Code.region id l.toArray draw).wp Try.prog Q a0 w0:=rg _ _ hst il obs fin hok
theorem zB {s0 s1 s2 s3 s4:Spec N} (bf:List Nat) (hst:St N W0 n a0 w0 τ0) (il:List (IE N τ0 w0)) (obs:qq Try.prog bf a0 w0 il l [s0,s1,s2,s3,s4]) (fin:qr W0 n l [s0,s1,s2,s3,s4] a0 il Q) (hok:qp n l bf [s0,s1,s2,s3,s4]=true:=by kernel_rfl):(Code.region id l.toArray draw).wp Try.prog Q a0 w0:=rg _ bf hst il obs fin hok
theorem zq {s0 s1 s2 s3 s4:Spec N} (hst:St N W0 n a0 w0 τ0) (il:List (IE N τ0 w0)) (obs:qq Try.prog [0,1,3,7,15] a0 w0 il l [s0,s1,s2,s3,s4]) (fin:qr W0 n l [s0,s1,s2,s3,s4] a0 il Q) (hok:qp n l [0,1,3,7,15] [s0,s1,s2,s3,s4]=true:=by kernel_rfl):(Code.region id l.toArray draw).wp Try.prog Q a0 w0:=rg _ _ hst il obs fin hok
theorem Cr {s0 s1 s2 s3 s4 s5:Spec N} (bf:List Nat) (hst:St N W0 n a0 w0 τ0) (il:List (IE N τ0 w0)) (obs:qq Try.prog bf a0 w0 il l [s0,s1,s2,s3,s4,s5]) (fin:qr W0 n l [s0,s1,s2,s3,s4,s5] a0 il Q) (hok:qp n l bf [s0,s1,s2,s3,s4,s5]=true:=by kernel_rfl):(Code.region id l.toArray draw).wp Try.prog Q a0 w0:=rg _ bf hst il obs fin hok
theorem CC {s0 s1 s2 s3 s4 s5:Spec N} (hst:St N W0 n a0 w0 τ0) (il:List (IE N τ0 w0)) (obs:qq Try.prog [0,1,3,7,15,31] a0 w0 il l [s0,s1,s2,s3,s4,s5]) (fin:qr W0 n l [s0,s1,s2,s3,s4,s5] a0 il Q) (hok:qp n l [0,1,3,7,15,31] [s0,s1,s2,s3,s4,s5]=true:=by kernel_rfl):(Code.region id l.toArray draw).wp Try.prog Q a0 w0:=rg _ _ hst il obs fin hok
theorem tU {s0 s1 s2 s3 s4 s5 s6:Spec N} (bf:List Nat) (hst:St N W0 n a0 w0 τ0) (il:List (IE N τ0 w0)) (obs:qq Try.prog bf a0 w0 il l [s0,s1,s2,s3,s4,s5,s6]) (fin:qr W0 n l [s0,s1,s2,s3,s4,s5,s6] a0 il Q) (hok:qp n l bf [s0,s1,s2,s3,s4,s5,s6]=true:=by kernel_rfl):(Code.region id l.toArray draw).wp Try.prog Q a0 w0:=rg _ bf hst il obs fin hok
theorem CZ {s0 s1 s2 s3 s4 s5 s6:Spec N} (hst:St N W0 n a0 w0 τ0) (il:List (IE N τ0 w0)) (obs:qq Try.prog [0,1,3,7,15,31,63] a0 w0 il l [s0,s1,s2,s3,s4,s5,s6]) (fin:qr W0 n l [s0,s1,s2,s3,s4,s5,s6] a0 il Q) (hok:qp n l [0,1,3,7,15,31,63] [s0,s1,s2,s3,s4,s5,s6]=true:=by kernel_rfl):(Code.region id l.toArray draw).wp Try.prog Q a0 w0:=rg _ _ hst il obs fin hok
theorem Da {s0 s1 s2 s3 s4 s5 s6 s7:Spec N} (bf:List Nat) (hst:St N W0 n a0 w0 τ0) (il:List (IE N τ0 w0)) (obs:qq Try.prog bf a0 w0 il l [s0,s1,s2,s3,s4,s5,s6,s7]) (fin:qr W0 n l [s0,s1,s2,s3,s4,s5,s6,s7] a0 il Q) (hok:qp n l bf [s0,s1,s2,s3,s4,s5,s6,s7]=true:=by kernel_rfl):(Code.region id l.toArray draw).wp Try.prog Q a0 w0:=rg _ bf hst il obs fin hok
theorem wW {s0 s1 s2 s3 s4 s5 s6 s7:Spec N} (hst:St N W0 n a0 w0 τ0) (il:List (IE N τ0 w0)) (obs:qq Try.prog [0,1,3,7,15,31,63,127] a0 w0 il l [s0,s1,s2,s3,s4,s5,s6,s7]) (fin:qr W0 n l [s0,s1,s2,s3,s4,s5,s6,s7] a0 il Q) (hok:qp n l [0,1,3,7,15,31,63,127] [s0,s1,s2,s3,s4,s5,s6,s7]=true:=by kernel_rfl):(Code.region id l.toArray draw).wp Try.prog Q a0 w0:=rg _ _ hst il obs fin hok
theorem uU {s0 s1 s2 s3 s4 s5 s6 s7 s8:Spec N} (bf:List Nat) (hst:St N W0 n a0 w0 τ0) (il:List (IE N τ0 w0)) (obs:qq Try.prog bf a0 w0 il l [s0,s1,s2,s3,s4,s5,s6,s7,s8]) (fin:qr W0 n l [s0,s1,s2,s3,s4,s5,s6,s7,s8] a0 il Q) (hok:qp n l bf [s0,s1,s2,s3,s4,s5,s6,s7,s8]=true:=by kernel_rfl):(Code.region id l.toArray draw).wp Try.prog Q a0 w0:=rg _ bf hst il obs fin hok
theorem tV {s0 s1 s2 s3 s4 s5 s6 s7 s8 s9:Spec N} (bf:List Nat) (hst:St N W0 n a0 w0 τ0) (il:List (IE N τ0 w0)) (obs:qq Try.prog bf a0 w0 il l [s0,s1,s2,s3,s4,s5,s6,s7,s8,s9]) (fin:qr W0 n l [s0,s1,s2,s3,s4,s5,s6,s7,s8,s9] a0 il Q) (hok:qp n l bf [s0,s1,s2,s3,s4,s5,s6,s7,s8,s9]=true:=by kernel_rfl):(Code.region id l.toArray draw).wp Try.prog Q a0 w0:=rg _ bf hst il obs fin hok
theorem rj {s0 s1 s2 s3 s4 s5 s6 s7 s8 s9 s10:Spec N} (bf:List Nat) (hst:St N W0 n a0 w0 τ0) (il:List (IE N τ0 w0)) (obs:qq Try.prog bf a0 w0 il l [s0,s1,s2,s3,s4,s5,s6,s7,s8,s9,s10]) (fin:qr W0 n l [s0,s1,s2,s3,s4,s5,s6,s7,s8,s9,s10] a0 il Q) (hok:qp n l bf [s0,s1,s2,s3,s4,s5,s6,s7,s8,s9,s10]=true:=by kernel_rfl):(Code.region id l.toArray draw).wp Try.prog Q a0 w0:=rg _ bf hst il obs fin hok
theorem CD {s0 s1 s2 s3 s4 s5 s6 s7 s8 s9 s10 s11:Spec N} (bf:List Nat) (hst:St N W0 n a0 w0 τ0) (il:List (IE N τ0 w0)) (obs:qq Try.prog bf a0 w0 il l [s0,s1,s2,s3,s4,s5,s6,s7,s8,s9,s10,s11]) (fin:qr W0 n l [s0,s1,s2,s3,s4,s5,s6,s7,s8,s9,s10,s11] a0 il Q) (hok:qp n l bf [s0,s1,s2,s3,s4,s5,s6,s7,s8,s9,s10,s11]=true:=by kernel_rfl):(Code.region id l.toArray draw).wp Try.prog Q a0 w0:=rg _ bf hst il obs fin hok
end
section
variable {N:aQ} {l:List Oper} {sp:List (Spec N)} {il:List (Ini N)} {a0 a:Act} {w:World} {τ:Nat→aQ}
theorem Fin.k1 (h:Fin l sp il a0 a w τ) {t0:Nat} {v0:Value} (e0:aS a0 t0=v0) (hu:([t0].all (iM l))=true:=by kernel_rfl):aS a t0=v0:=by
  simp only [dg,ep,ao] at hu;exact h.old e0 hu.1
theorem Fin.k2 (h:Fin l sp il a0 a w τ) {t0 t1:Nat} {v0 v1:Value} (e0:aS a0 t0=v0) (e1:aS a0 t1=v1) (hu:([t0,t1].all (iM l))=true:=by kernel_rfl):aS a t0=v0∧aS a t1=v1:=by
  simp only [dg,ep,ao] at hu;exact ⟨h.old e0 hu.1,h.old e1 hu.2.1⟩
theorem Fin.k3 (h:Fin l sp il a0 a w τ) {t0 t1 t2:Nat} {v0 v1 v2:Value} (e0:aS a0 t0=v0) (e1:aS a0 t1=v1) (e2:aS a0 t2=v2) (hu:([t0,t1,t2].all (iM l))=true:=by kernel_rfl):aS a t0=v0∧aS a t1=v1∧aS a t2=v2:=by
  simp only [dg,ep,ao] at hu;exact ⟨h.old e0 hu.1,h.old e1 hu.2.1,h.old e2 hu.2.2.1⟩
theorem Fin.k4 (h:Fin l sp il a0 a w τ) {t0 t1 t2 t3:Nat} {v0 v1 v2 v3:Value} (e0:aS a0 t0=v0) (e1:aS a0 t1=v1) (e2:aS a0 t2=v2) (e3:aS a0 t3=v3) (hu:([t0,t1,t2,t3].all (iM l))=true:=by kernel_rfl):aS a t0=v0∧aS a t1=v1∧aS a t2=v2∧aS a t3=v3:=by
  simp only [dg,ep,ao] at hu;exact ⟨h.old e0 hu.1,h.old e1 hu.2.1,h.old e2 hu.2.2.1,h.old e3 hu.2.2.2.1⟩
theorem Fin.k5 (h:Fin l sp il a0 a w τ) {t0 t1 t2 t3 t4:Nat} {v0 v1 v2 v3 v4:Value} (e0:aS a0 t0=v0) (e1:aS a0 t1=v1) (e2:aS a0 t2=v2) (e3:aS a0 t3=v3) (e4:aS a0 t4=v4) (hu:([t0,t1,t2,t3,t4].all (iM l))=true:=by kernel_rfl):aS a t0=v0∧aS a t1=v1∧aS a t2=v2∧aS a t3=v3∧aS a t4=v4:=by
  simp only [dg,ep,ao] at hu;exact ⟨h.old e0 hu.1,h.old e1 hu.2.1,h.old e2 hu.2.2.1,h.old e3 hu.2.2.2.1,h.old e4 hu.2.2.2.2.1⟩
theorem Fin.k6 (h:Fin l sp il a0 a w τ) {t0 t1 t2 t3 t4 t5:Nat} {v0 v1 v2 v3 v4 v5:Value} (e0:aS a0 t0=v0) (e1:aS a0 t1=v1) (e2:aS a0 t2=v2) (e3:aS a0 t3=v3) (e4:aS a0 t4=v4) (e5:aS a0 t5=v5) (hu:([t0,t1,t2,t3,t4,t5].all (iM l))=true:=by kernel_rfl):aS a t0=v0∧aS a t1=v1∧aS a t2=v2∧aS a t3=v3∧aS a t4=v4∧aS a t5=v5:=by
  simp only [dg,ep,ao] at hu;exact ⟨h.old e0 hu.1,h.old e1 hu.2.1,h.old e2 hu.2.2.1,h.old e3 hu.2.2.2.1,h.old e4 hu.2.2.2.2.1,h.old e5 hu.2.2.2.2.2.1⟩
theorem Fin.k7 (h:Fin l sp il a0 a w τ) {t0 t1 t2 t3 t4 t5 t6:Nat} {v0 v1 v2 v3 v4 v5 v6:Value} (e0:aS a0 t0=v0) (e1:aS a0 t1=v1) (e2:aS a0 t2=v2) (e3:aS a0 t3=v3) (e4:aS a0 t4=v4) (e5:aS a0 t5=v5) (e6:aS a0 t6=v6) (hu:([t0,t1,t2,t3,t4,t5,t6].all (iM l))=true:=by kernel_rfl):aS a t0=v0∧aS a t1=v1∧aS a t2=v2∧aS a t3=v3∧aS a t4=v4∧aS a t5=v5∧aS a t6=v6:=by
  simp only [dg,ep,ao] at hu;exact ⟨h.old e0 hu.1,h.old e1 hu.2.1,h.old e2 hu.2.2.1,h.old e3 hu.2.2.2.1,h.old e4 hu.2.2.2.2.1,h.old e5 hu.2.2.2.2.2.1,h.old e6 hu.2.2.2.2.2.2.1⟩
theorem Fin.k8 (h:Fin l sp il a0 a w τ) {t0 t1 t2 t3 t4 t5 t6 t7:Nat} {v0 v1 v2 v3 v4 v5 v6 v7:Value} (e0:aS a0 t0=v0) (e1:aS a0 t1=v1) (e2:aS a0 t2=v2) (e3:aS a0 t3=v3) (e4:aS a0 t4=v4) (e5:aS a0 t5=v5) (e6:aS a0 t6=v6) (e7:aS a0 t7=v7) (hu:([t0,t1,t2,t3,t4,t5,t6,t7].all (iM l))=true:=by kernel_rfl):aS a t0=v0∧aS a t1=v1∧aS a t2=v2∧aS a t3=v3∧aS a t4=v4∧aS a t5=v5∧aS a t6=v6∧aS a t7=v7:=by
  simp only [dg,ep,ao] at hu;exact ⟨h.old e0 hu.1,h.old e1 hu.2.1,h.old e2 hu.2.2.1,h.old e3 hu.2.2.2.1,h.old e4 hu.2.2.2.2.1,h.old e5 hu.2.2.2.2.2.1,h.old e6 hu.2.2.2.2.2.2.1,h.old e7 hu.2.2.2.2.2.2.2.1⟩
theorem Fin.k9 (h:Fin l sp il a0 a w τ) {t0 t1 t2 t3 t4 t5 t6 t7 t8:Nat} {v0 v1 v2 v3 v4 v5 v6 v7 v8:Value} (e0:aS a0 t0=v0) (e1:aS a0 t1=v1) (e2:aS a0 t2=v2) (e3:aS a0 t3=v3) (e4:aS a0 t4=v4) (e5:aS a0 t5=v5) (e6:aS a0 t6=v6) (e7:aS a0 t7=v7) (e8:aS a0 t8=v8) (hu:([t0,t1,t2,t3,t4,t5,t6,t7,t8].all (iM l))=true:=by kernel_rfl):aS a t0=v0∧aS a t1=v1∧aS a t2=v2∧aS a t3=v3∧aS a t4=v4∧aS a t5=v5∧aS a t6=v6∧aS a t7=v7∧aS a t8=v8:=by
  simp only [dg,ep,ao] at hu;exact ⟨h.old e0 hu.1,h.old e1 hu.2.1,h.old e2 hu.2.2.1,h.old e3 hu.2.2.2.1,h.old e4 hu.2.2.2.2.1,h.old e5 hu.2.2.2.2.2.1,h.old e6 hu.2.2.2.2.2.2.1,h.old e7 hu.2.2.2.2.2.2.2.1,h.old e8 hu.2.2.2.2.2.2.2.2.1⟩
theorem Fin.k10 (h:Fin l sp il a0 a w τ) {t0 t1 t2 t3 t4 t5 t6 t7 t8 t9:Nat} {v0 v1 v2 v3 v4 v5 v6 v7 v8 v9:Value} (e0:aS a0 t0=v0) (e1:aS a0 t1=v1) (e2:aS a0 t2=v2) (e3:aS a0 t3=v3) (e4:aS a0 t4=v4) (e5:aS a0 t5=v5) (e6:aS a0 t6=v6) (e7:aS a0 t7=v7) (e8:aS a0 t8=v8) (e9:aS a0 t9=v9) (hu:([t0,t1,t2,t3,t4,t5,t6,t7,t8,t9].all (iM l))=true:=by kernel_rfl):aS a t0=v0∧aS a t1=v1∧aS a t2=v2∧aS a t3=v3∧aS a t4=v4∧aS a t5=v5∧aS a t6=v6∧aS a t7=v7∧aS a t8=v8∧aS a t9=v9:=by
  simp only [dg,ep,ao] at hu;exact ⟨h.old e0 hu.1,h.old e1 hu.2.1,h.old e2 hu.2.2.1,h.old e3 hu.2.2.2.1,h.old e4 hu.2.2.2.2.1,h.old e5 hu.2.2.2.2.2.1,h.old e6 hu.2.2.2.2.2.2.1,h.old e7 hu.2.2.2.2.2.2.2.1,h.old e8 hu.2.2.2.2.2.2.2.2.1,h.old e9 hu.2.2.2.2.2.2.2.2.2.1⟩
theorem Fin.k11 (h:Fin l sp il a0 a w τ) {t0 t1 t2 t3 t4 t5 t6 t7 t8 t9 t10:Nat} {v0 v1 v2 v3 v4 v5 v6 v7 v8 v9 v10:Value} (e0:aS a0 t0=v0) (e1:aS a0 t1=v1) (e2:aS a0 t2=v2) (e3:aS a0 t3=v3) (e4:aS a0 t4=v4) (e5:aS a0 t5=v5) (e6:aS a0 t6=v6) (e7:aS a0 t7=v7) (e8:aS a0 t8=v8) (e9:aS a0 t9=v9) (e10:aS a0 t10=v10) (hu:([t0,t1,t2,t3,t4,t5,t6,t7,t8,t9,t10].all (iM l))=true:=by kernel_rfl):aS a t0=v0∧aS a t1=v1∧aS a t2=v2∧aS a t3=v3∧aS a t4=v4∧aS a t5=v5∧aS a t6=v6∧aS a t7=v7∧aS a t8=v8∧aS a t9=v9∧aS a t10=v10:=by
  simp only [dg,ep,ao] at hu;exact ⟨h.old e0 hu.1,h.old e1 hu.2.1,h.old e2 hu.2.2.1,h.old e3 hu.2.2.2.1,h.old e4 hu.2.2.2.2.1,h.old e5 hu.2.2.2.2.2.1,h.old e6 hu.2.2.2.2.2.2.1,h.old e7 hu.2.2.2.2.2.2.2.1,h.old e8 hu.2.2.2.2.2.2.2.2.1,h.old e9 hu.2.2.2.2.2.2.2.2.2.1,h.old e10 hu.2.2.2.2.2.2.2.2.2.2.1⟩
theorem Fin.k12 (h:Fin l sp il a0 a w τ) {t0 t1 t2 t3 t4 t5 t6 t7 t8 t9 t10 t11:Nat} {v0 v1 v2 v3 v4 v5 v6 v7 v8 v9 v10 v11:Value} (e0:aS a0 t0=v0) (e1:aS a0 t1=v1) (e2:aS a0 t2=v2) (e3:aS a0 t3=v3) (e4:aS a0 t4=v4) (e5:aS a0 t5=v5) (e6:aS a0 t6=v6) (e7:aS a0 t7=v7) (e8:aS a0 t8=v8) (e9:aS a0 t9=v9) (e10:aS a0 t10=v10) (e11:aS a0 t11=v11) (hu:([t0,t1,t2,t3,t4,t5,t6,t7,t8,t9,t10,t11].all (iM l))=true:=by kernel_rfl):aS a t0=v0∧aS a t1=v1∧aS a t2=v2∧aS a t3=v3∧aS a t4=v4∧aS a t5=v5∧aS a t6=v6∧aS a t7=v7∧aS a t8=v8∧aS a t9=v9∧aS a t10=v10∧aS a t11=v11:=by
  simp only [dg,ep,ao] at hu;exact ⟨h.old e0 hu.1,h.old e1 hu.2.1,h.old e2 hu.2.2.1,h.old e3 hu.2.2.2.1,h.old e4 hu.2.2.2.2.1,h.old e5 hu.2.2.2.2.2.1,h.old e6 hu.2.2.2.2.2.2.1,h.old e7 hu.2.2.2.2.2.2.2.1,h.old e8 hu.2.2.2.2.2.2.2.2.1,h.old e9 hu.2.2.2.2.2.2.2.2.2.1,h.old e10 hu.2.2.2.2.2.2.2.2.2.2.1,h.old e11 hu.2.2.2.2.2.2.2.2.2.2.2.1⟩
theorem Fin.k13 (h:Fin l sp il a0 a w τ) {t0 t1 t2 t3 t4 t5 t6 t7 t8 t9 t10 t11 t12:Nat} {v0 v1 v2 v3 v4 v5 v6 v7 v8 v9 v10 v11 v12:Value} (e0:aS a0 t0=v0) (e1:aS a0 t1=v1) (e2:aS a0 t2=v2) (e3:aS a0 t3=v3) (e4:aS a0 t4=v4) (e5:aS a0 t5=v5) (e6:aS a0 t6=v6) (e7:aS a0 t7=v7) (e8:aS a0 t8=v8) (e9:aS a0 t9=v9) (e10:aS a0 t10=v10) (e11:aS a0 t11=v11) (e12:aS a0 t12=v12) (hu:([t0,t1,t2,t3,t4,t5,t6,t7,t8,t9,t10,t11,t12].all (iM l))=true:=by kernel_rfl):aS a t0=v0∧aS a t1=v1∧aS a t2=v2∧aS a t3=v3∧aS a t4=v4∧aS a t5=v5∧aS a t6=v6∧aS a t7=v7∧aS a t8=v8∧aS a t9=v9∧aS a t10=v10∧aS a t11=v11∧aS a t12=v12:=by
  simp only [dg,ep,ao] at hu;exact ⟨h.old e0 hu.1,h.old e1 hu.2.1,h.old e2 hu.2.2.1,h.old e3 hu.2.2.2.1,h.old e4 hu.2.2.2.2.1,h.old e5 hu.2.2.2.2.2.1,h.old e6 hu.2.2.2.2.2.2.1,h.old e7 hu.2.2.2.2.2.2.2.1,h.old e8 hu.2.2.2.2.2.2.2.2.1,h.old e9 hu.2.2.2.2.2.2.2.2.2.1,h.old e10 hu.2.2.2.2.2.2.2.2.2.2.1,h.old e11 hu.2.2.2.2.2.2.2.2.2.2.2.1,h.old e12 hu.2.2.2.2.2.2.2.2.2.2.2.2.1⟩
theorem Fin.z1 (h:Fin l sp il a0 a w τ) {p0:ZP} (t0:Nat) (i0:ek il t0=mt N p0:=by exact rfl) (l0:bu (sp.map (·.tag)) t0 sp.length=none:=by exact rfl):Fz p0 τ w:=h.iz t0 i0 l0
theorem Fin.z2 (h:Fin l sp il a0 a w τ) {p0 p1:ZP} (t0 t1:Nat) (i0:ek il t0=mt N p0:=by exact rfl) (i1:ek il t1=mt N p1:=by exact rfl) (l0:bu (sp.map (·.tag)) t0 sp.length=none:=by exact rfl) (l1:bu (sp.map (·.tag)) t1 sp.length=none:=by exact rfl):Fz p0 τ w∧Fz p1 τ w:=⟨h.iz t0 i0 l0,h.iz t1 i1 l1⟩
theorem Fin.z3 (h:Fin l sp il a0 a w τ) {p0 p1 p2:ZP} (t0 t1 t2:Nat) (i0:ek il t0=mt N p0:=by exact rfl) (i1:ek il t1=mt N p1:=by exact rfl) (i2:ek il t2=mt N p2:=by exact rfl) (l0:bu (sp.map (·.tag)) t0 sp.length=none:=by exact rfl) (l1:bu (sp.map (·.tag)) t1 sp.length=none:=by exact rfl) (l2:bu (sp.map (·.tag)) t2 sp.length=none:=by exact rfl):Fz p0 τ w∧Fz p1 τ w∧Fz p2 τ w:=⟨h.iz t0 i0 l0,h.iz t1 i1 l1,h.iz t2 i2 l2⟩
theorem Fin.z4 (h:Fin l sp il a0 a w τ) {p0 p1 p2 p3:ZP} (t0 t1 t2 t3:Nat) (i0:ek il t0=mt N p0:=by exact rfl) (i1:ek il t1=mt N p1:=by exact rfl) (i2:ek il t2=mt N p2:=by exact rfl) (i3:ek il t3=mt N p3:=by exact rfl) (l0:bu (sp.map (·.tag)) t0 sp.length=none:=by exact rfl) (l1:bu (sp.map (·.tag)) t1 sp.length=none:=by exact rfl) (l2:bu (sp.map (·.tag)) t2 sp.length=none:=by exact rfl) (l3:bu (sp.map (·.tag)) t3 sp.length=none:=by exact rfl):Fz p0 τ w∧Fz p1 τ w∧Fz p2 τ w∧Fz p3 τ w:=⟨h.iz t0 i0 l0,h.iz t1 i1 l1,h.iz t2 i2 l2,h.iz t3 i3 l3⟩
theorem Fin.z5 (h:Fin l sp il a0 a w τ) {p0 p1 p2 p3 p4:ZP} (t0 t1 t2 t3 t4:Nat) (i0:ek il t0=mt N p0:=by exact rfl) (i1:ek il t1=mt N p1:=by exact rfl) (i2:ek il t2=mt N p2:=by exact rfl) (i3:ek il t3=mt N p3:=by exact rfl) (i4:ek il t4=mt N p4:=by exact rfl) (l0:bu (sp.map (·.tag)) t0 sp.length=none:=by exact rfl) (l1:bu (sp.map (·.tag)) t1 sp.length=none:=by exact rfl) (l2:bu (sp.map (·.tag)) t2 sp.length=none:=by exact rfl) (l3:bu (sp.map (·.tag)) t3 sp.length=none:=by exact rfl) (l4:bu (sp.map (·.tag)) t4 sp.length=none:=by exact rfl):Fz p0 τ w∧Fz p1 τ w∧Fz p2 τ w∧Fz p3 τ w∧Fz p4 τ w:=⟨h.iz t0 i0 l0,h.iz t1 i1 l1,h.iz t2 i2 l2,h.iz t3 i3 l3,h.iz t4 i4 l4⟩
theorem Fin.z6 (h:Fin l sp il a0 a w τ) {p0 p1 p2 p3 p4 p5:ZP} (t0 t1 t2 t3 t4 t5:Nat) (i0:ek il t0=mt N p0:=by exact rfl) (i1:ek il t1=mt N p1:=by exact rfl) (i2:ek il t2=mt N p2:=by exact rfl) (i3:ek il t3=mt N p3:=by exact rfl) (i4:ek il t4=mt N p4:=by exact rfl) (i5:ek il t5=mt N p5:=by exact rfl) (l0:bu (sp.map (·.tag)) t0 sp.length=none:=by exact rfl) (l1:bu (sp.map (·.tag)) t1 sp.length=none:=by exact rfl) (l2:bu (sp.map (·.tag)) t2 sp.length=none:=by exact rfl) (l3:bu (sp.map (·.tag)) t3 sp.length=none:=by exact rfl) (l4:bu (sp.map (·.tag)) t4 sp.length=none:=by exact rfl) (l5:bu (sp.map (·.tag)) t5 sp.length=none:=by exact rfl):Fz p0 τ w∧Fz p1 τ w∧Fz p2 τ w∧Fz p3 τ w∧Fz p4 τ w∧Fz p5 τ w:=⟨h.iz t0 i0 l0,h.iz t1 i1 l1,h.iz t2 i2 l2,h.iz t3 i3 l3,h.iz t4 i4 l4,h.iz t5 i5 l5⟩
theorem Fin.z7 (h:Fin l sp il a0 a w τ) {p0 p1 p2 p3 p4 p5 p6:ZP} (t0 t1 t2 t3 t4 t5 t6:Nat) (i0:ek il t0=mt N p0:=by exact rfl) (i1:ek il t1=mt N p1:=by exact rfl) (i2:ek il t2=mt N p2:=by exact rfl) (i3:ek il t3=mt N p3:=by exact rfl) (i4:ek il t4=mt N p4:=by exact rfl) (i5:ek il t5=mt N p5:=by exact rfl) (i6:ek il t6=mt N p6:=by exact rfl) (l0:bu (sp.map (·.tag)) t0 sp.length=none:=by exact rfl) (l1:bu (sp.map (·.tag)) t1 sp.length=none:=by exact rfl) (l2:bu (sp.map (·.tag)) t2 sp.length=none:=by exact rfl) (l3:bu (sp.map (·.tag)) t3 sp.length=none:=by exact rfl) (l4:bu (sp.map (·.tag)) t4 sp.length=none:=by exact rfl) (l5:bu (sp.map (·.tag)) t5 sp.length=none:=by exact rfl) (l6:bu (sp.map (·.tag)) t6 sp.length=none:=by exact rfl):Fz p0 τ w∧Fz p1 τ w∧Fz p2 τ w∧Fz p3 τ w∧Fz p4 τ w∧Fz p5 τ w∧Fz p6 τ w:=⟨h.iz t0 i0 l0,h.iz t1 i1 l1,h.iz t2 i2 l2,h.iz t3 i3 l3,h.iz t4 i4 l4,h.iz t5 i5 l5,h.iz t6 i6 l6⟩
theorem Fin.V (h:Fin l sp il a0 a w τ) (j:Nat) {t:Nat} {v:Value} (hs:sp[j]? =some (B.det N t v):=by exact rfl):aS a t=v:=h.v j hs
theorem Fin.B (h:Fin l sp il a0 a w τ) {ty:Nat} {v:Value} {cells:List Value} (t:Nat) (hI:ek il t=B.ibox ty N v cells:=by exact rfl) (hl:bu (sp.map (·.tag)) t sp.length=none:=by exact rfl):cj ty cells (τ t) v w:=h.ibox t hI hl
theorem Fin.O (h:Fin l sp il a0 a w τ) {α:Type} {E:Enc α} {ty:Nat} {v:Value} {xs:List α} (t:Nat) (hI:ek il t=B.iown E ty N v xs:=by exact rfl) (hl:bu (sp.map (·.tag)) t sp.length=none:=by exact rfl):dq E ty xs (τ t) v w:=h.iown t hI hl
theorem Fin.RB (h:Fin l sp il a0 a w τ) {ty t slot:Nat} {cells:List Value} (j:Nat) {v:Value} (hv:aS a slot=v) (hs:sp[j]? =some (B.box ty N t slot cells):=by exact rfl) (hl:bu (sp.map (·.tag)) t sp.length=some j:=by exact rfl):cj ty cells (τ t) v w:=h.rbox j hs hl hv
end
section
variable {N:aQ} {P:Program} {ops:Array Oper} {sp:List (Spec N)} {In:Nat→Ini N} {a0:Act} {w0:World} {bf:List Nat} {j:Nat} {o:Oper} {done:Nat→Bool} {a:Act} {w:World} {τ:Nat→aQ}
theorem Cx.q (c:Cx ops sp In a0 w0 bf j o done a w τ) (i:Nat) {t:Nat} {val:Value} (hs:sp[i]? =some (B.det N t val):=by exact rfl) (hb:(bf.getD j 0).testBit i=true:=by exact rfl):a.eval (.tmp t)=val:=c.ev i hs hb
theorem Cx.M (c:Cx ops sp In a0 w0 bf j o done a w τ) (i:Nat) {t:Nat} {pc:Prop} {val:Value} (hpc:pc) (hs:sp[i]? =some (B.gdet N t pc val):=by exact rfl) (hb:(bf.getD j 0).testBit i=true:=by exact rfl):a.eval (.tmp t)=val:=c.eg i hs hb hpc
theorem Cx.B {ty:Nat} {v:Value} {cells:List Value} (c:Cx ops sp In a0 w0 bf j o done a w τ) (t:Nat) (hI:In t=B.ibox ty N v cells:=by exact rfl) (hl:bu (sp.map (·.tag)) t j=none:=by exact rfl) (hord:iw (sp.map (·.tag)) bf t j=true:=by kernel_rfl):cj ty cells (τ t) v w:=c.ibox t hI hl hord
theorem Cx.Z {Φ:ZP} (c:Cx ops sp In a0 w0 bf j o done a w τ) (t:Nat) (hI:In t=mt N Φ:=by exact rfl) (hl:bu (sp.map (·.tag)) t j=none:=by exact rfl) (hord:iw (sp.map (·.tag)) bf t j=true:=by kernel_rfl):Fz Φ τ w:=c.iz t hI hl hord
end
section
variable {N:aQ} {P:Program} {ops:Array Oper} {sp:List (Spec N)} {In:Nat→Ini N} {a0:Act} {w0:World} {bf:List Nat} {j:Nat} {o:Oper} {s:Spec N} {t d:Nat} {v:Value}
theorem aq (e0:aS a0 t=v) (ho:o.op= .move (.tmp t):=by exact rfl) (h0:uN ops bf j t=true:=by kernel_rfl) (hs:s=B.det N d v:=by exact rfl) (hg:o.guard=none:=by exact rfl) (hd:o.dst=some d:=by exact rfl):Ob ops sp In a0 w0 P bf j o s:=am (fun c=>aN ho (c.p e0 h0)) hs hg hd
theorem nd (e0:aS a0 t=v) (ho:o.op= .assign (.tmp t):=by exact rfl) (h0:uN ops bf j t=true:=by kernel_rfl) (hs:s=B.det N d v:=by exact rfl) (hg:o.guard=none:=by exact rfl) (hd:o.dst=some d:=by exact rfl):Ob ops sp In a0 w0 P bf j o s:=am (fun c=>au ho (c.p e0 h0)) hs hg hd
theorem kt {vs:List Value} {i:Nat} (e0:aS a0 t=(.tuple vs.toArray)) (ho:o.op= .extract (.tmp t) i:=by exact rfl) (h0:uN ops bf j t=true:=by kernel_rfl) (hi:vs[i]? =some v:=by exact rfl) (hs:s=B.det N d v:=by exact rfl) (hg:o.guard=none:=by exact rfl) (hd:o.dst=some d:=by exact rfl):Ob ops sp In a0 w0 P bf j o s:=am (fun c=>iB ho (c.p e0 h0) (by simpa using hi)) hs hg hd
theorem cg {ty f off m:Nat} {ft:TypeId} {fs:Array Field} {fd:Field} {p:Addr} (ht:Try.prog.underlying ty=some (.struct fs)) (hz:∀w,(sizeOf ft).run Try.prog w= .ok (m+1) w) (e0:aS a0 t=v) (q:v= .pointer (some p)) (ho:o.op= .fieldAddr ty (.tmp t) f:=by exact rfl) (h0:uN ops bf j t=true:=by kernel_rfl) (hf:fs[f]? =some fd:=by exact rfl) (hft:fd.type=ft:=by exact rfl) (hoff:fd.offset=off:=by exact rfl) (hs:s=B.det N d (.pointer (some (p.add off))):=by exact rfl) (hg:o.guard=none:=by exact rfl) (hd:o.dst=some d:=by exact rfl):Ob ops sp In a0 w0 Try.prog bf j o s:=am (fun c=>lP ho ht hf hoff (fun w=>hft ▸ hz w) ((c.p e0 h0).trans q)) hs hg hd
theorem bk (i0:Nat) (ho:o.op= .move (.tmp t):=by exact rfl) (s0:sp[i0]? =some (B.det N t v):=by exact rfl) (b0:(bf.getD j 0).testBit i0=true:=by exact rfl) (hs:s=B.det N d v:=by exact rfl) (hg:o.guard=none:=by exact rfl) (hd:o.dst=some d:=by exact rfl):Ob ops sp In a0 w0 P bf j o s:=am (fun c=>aN ho (c.n i0 s0 b0)) hs hg hd
theorem aK (i0:Nat) (ho:o.op= .assign (.tmp t):=by exact rfl) (s0:sp[i0]? =some (B.det N t v):=by exact rfl) (b0:(bf.getD j 0).testBit i0=true:=by exact rfl) (hs:s=B.det N d v:=by exact rfl) (hg:o.guard=none:=by exact rfl) (hd:o.dst=some d:=by exact rfl):Ob ops sp In a0 w0 P bf j o s:=am (fun c=>au ho (c.n i0 s0 b0)) hs hg hd
theorem df {vs:List Value} {i:Nat} (i0:Nat) (ho:o.op= .extract (.tmp t) i:=by exact rfl) (s0:sp[i0]? =some (B.det N t (.tuple vs.toArray)):=by exact rfl) (b0:(bf.getD j 0).testBit i0=true:=by exact rfl) (hi:vs[i]? =some v:=by exact rfl) (hs:s=B.det N d v:=by exact rfl) (hg:o.guard=none:=by exact rfl) (hd:o.dst=some d:=by exact rfl):Ob ops sp In a0 w0 P bf j o s:=am (fun c=>iB ho (c.n i0 s0 b0) (by simpa using hi)) hs hg hd
theorem bW {ty f off m:Nat} {ft:TypeId} {fs:Array Field} {fd:Field} {p:Addr} (ht:Try.prog.underlying ty=some (.struct fs)) (hz:∀w,(sizeOf ft).run Try.prog w= .ok (m+1) w) (i0:Nat) (q:v= .pointer (some p)) (ho:o.op= .fieldAddr ty (.tmp t) f:=by exact rfl) (s0:sp[i0]? =some (B.det N t v):=by exact rfl) (b0:(bf.getD j 0).testBit i0=true:=by exact rfl) (hf:fs[f]? =some fd:=by exact rfl) (hft:fd.type=ft:=by exact rfl) (hoff:fd.offset=off:=by exact rfl) (hs:s=B.det N d (.pointer (some (p.add off))):=by exact rfl) (hg:o.guard=none:=by exact rfl) (hd:o.dst=some d:=by exact rfl):Ob ops sp In a0 w0 Try.prog bf j o s:=am (fun c=>lP ho ht hf hoff (fun w=>hft ▸ hz w) ((c.n i0 s0 b0).trans q)) hs hg hd
theorem Br {P:Program} {a:Act} {o:Oper} {w:World} {x:Operand} {v:Value} {p:Addr} (ho:o.op= .nilCheck x) (hx:a.eval x=v) (hv:v= .pointer (some p)):bU P a o w v:=by
  subst hv;simp [bU,execOp,ho,hx]
theorem co {p:Addr} (i0:Nat) (q:v= .pointer (some p)) (ho:o.op= .nilCheck (.tmp t):=by exact rfl) (s0:sp[i0]? =some (B.det N t v):=by exact rfl) (b0:(bf.getD j 0).testBit i0=true:=by exact rfl) (hs:s=B.det N d v:=by exact rfl) (hg:o.guard=none:=by exact rfl) (hd:o.dst=some d:=by exact rfl):Ob ops sp In a0 w0 P bf j o s:=am (fun c=>Br ho (c.n i0 s0 b0) q) hs hg hd
theorem bN {b b2:Bool} {t2:Nat} (i0 i2:Nat) (ho:o.op= .pick (.tmp t) (.tmp t2) (.const (.bool false)):=by exact rfl) (s0:sp[i0]? =some (B.det N t (.bool b)):=by exact rfl) (b0:(bf.getD j 0).testBit i0=true:=by exact rfl) (s2:sp[i2]? =some (B.gdet N t2 (b=true) (.bool b2)):=by exact rfl) (b9:(bf.getD j 0).testBit i2=true:=by exact rfl) (hs:s=B.det N d (.bool (b&&b2)):=by exact rfl) (hg:o.guard=none:=by exact rfl) (hd:o.dst=some d:=by exact rfl):Ob ops sp In a0 w0 P bf j o s:=am (fun c=>lD ho (c.n i0 s0 b0) (fun h=>c.m i2 s2 h b9)) hs hg hd
theorem dM {b b2:Bool} {t2:Nat} (i0 i2:Nat) (ho:o.op= .pick (.tmp t) (.const (.bool true)) (.tmp t2):=by exact rfl) (s0:sp[i0]? =some (B.det N t (.bool b)):=by exact rfl) (b0:(bf.getD j 0).testBit i0=true:=by exact rfl) (s2:sp[i2]? =some (B.gdet N t2 (b=false) (.bool b2)):=by exact rfl) (b9:(bf.getD j 0).testBit i2=true:=by exact rfl) (hs:s=B.det N d (.bool (b || b2)):=by exact rfl) (hg:o.guard=none:=by exact rfl) (hd:o.dst=some d:=by exact rfl):Ob ops sp In a0 w0 P bf j o s:=am (fun c=>vW ho (c.n i0 s0 b0) (fun h=>c.m i2 s2 h b9)) hs hg hd
theorem eG {ty:TypeId} {bt:Nat} {cells:List Value} {bv:Value} (hz:∀w,(isAgg ty).run Try.prog w= .ok false w) (i0 bx k:Nat) (ho:o.op= .load ty (.tmp t):=by exact rfl) (s0:sp[i0]? =some (B.det N t (.pointer (some ((cX bv).add k)))):=by exact rfl) (b0:(bf.getD j 0).testBit i0=true:=by exact rfl) (hI:In bx=B.ibox bt N bv cells:=by exact rfl) (hl:bu (sp.map (·.tag)) bx j=none:=by exact rfl) (hord:iw (sp.map (·.tag)) bf bx j=true:=by kernel_rfl) (hk:cells[k]? =some v:=by exact rfl) (hs:s=B.det N d v:=by exact rfl) (hg:o.guard=none:=by exact rfl) (hd:o.dst=some d:=by exact rfl):Ob ops sp In a0 w0 Try.prog bf j o s:=am (fun c=>az ho hz (c.n i0 s0 b0) ((c.ib bx hI hl hord).cell hk)) hs hg hd
theorem aC {tg:Nat} {b:Bool} (gi:Nat) (hgs:sp[gi]? =some (B.det N tg (.bool b))) (h:∀{done a w τ},Cx ops sp In a0 w0 bf j o done a w τ→b=true→bU P a o w v) (hs:s=B.gdet N t (b=true) v:=by exact rfl) (hg:o.guard=some (gi,true):=by exact rfl) (hd:o.dst=some t:=by exact rfl) (hgd:((ops[gi]?).bind (·.dst))=some tg:=by exact rfl) (hb:(bf.getD j 0).testBit gi=true:=by exact rfl):Ob ops sp In a0 w0 P bf j o s:=Cz gi true hgs h hs hg hd hgd hb
theorem bJ {tg:Nat} {b:Bool} (gi:Nat) (hgs:sp[gi]? =some (B.det N tg (.bool b))) (h:∀{done a w τ},Cx ops sp In a0 w0 bf j o done a w τ→b=false→bU P a o w v) (hs:s=B.gdet N t (b=false) v:=by exact rfl) (hg:o.guard=some (gi,false):=by exact rfl) (hd:o.dst=some t:=by exact rfl) (hgd:((ops[gi]?).bind (·.dst))=some tg:=by exact rfl) (hb:(bf.getD j 0).testBit gi=true:=by exact rfl):Ob ops sp In a0 w0 P bf j o s:=Cz gi false hgs h hs hg hd hgd hb
theorem bX {ty tag t tt off m:Nat} {cells cx:List Value} {x y:Operand} {v:Value} (hsz:∀w,(sizeOf tt).run P w= .ok m w) (hp:∀{done a w τ},Cx ops sp In a0 w0 bf j o done a w τ→cj ty cells (τ tag) (aS a t) w∧a.eval x= .pointer (some ((cX (aS a t)).add off))∧a.eval y=v)
    (hs:s=B.box ty N tag t cx:=by exact rfl) (hg:o.guard=none:=by exact rfl) (hd:o.dst=none:=by exact rfl) (ho:o.op= .store tt x y:=by exact rfl)
    (hm:v.cells.size=m:=by exact rfl) (hfit:off+v.cells.size≤cells.length:=by exact ar rfl) (h1:∀u ∈ v.cells.toList,u.oneCell'=true:=by simp [Value.cells,Value.oneCell',Sv.v]) (hc:cx=cells.take off++v.cells.toList++cells.drop (off+v.cells.size):=by exact rfl):Ob ops sp In a0 w0 P bf j o s:=oe hs hg hd ho (fun w=>hm ▸ hsz w) hfit h1 hc (fun _ _ _ _ c=>hp c)
theorem fJ {ty tag t tt off m:Nat} {cells cx:List Value} {x y:Operand} {v:Value} (ho:o.op= .store tt x y) (hsz:∀w,(sizeOf tt).run P w= .ok m w) (hp:∀{done a w τ},Cx ops sp In a0 w0 bf j o done a w τ→cj ty cells (τ tag) (aS a t) w∧a.eval x= .pointer (some ((cX (aS a t)).add off))∧a.eval y=v)
    (hs:s=B.box ty N tag t cx:=by exact rfl) (hg:o.guard=none:=by exact rfl) (hd:o.dst=none:=by exact rfl)
    (hm:v.cells.size=m:=by exact rfl) (hfit:off+v.cells.size≤cells.length:=by exact ar rfl) (h1:∀u ∈ v.cells.toList,u.oneCell'=true:=by simp [Value.cells,Value.oneCell',Sv.v]) (hc:cx=cells.take off++v.cells.toList++cells.drop (off+v.cells.size):=by exact rfl):Ob ops sp In a0 w0 P bf j o s:=oe hs hg hd ho (fun w=>hm ▸ hsz w) hfit h1 hc (fun _ _ _ _ c=>hp c)
end
section
variable {P:Program} {a:Act} {o:Oper} {w:World} {t:TypeId} {x:Operand}
theorem cN {f off:Nat} {fs:Array Field} {fd:Field} {m:Nat} {p:Addr} {ft:TypeId} (ho:o.op= .fieldAddr t x f) (ht:P.underlying t=some (.struct fs)) (hz:∀w,(sizeOf ft).run P w= .ok (m+1) w) (hx:a.eval x= .pointer (some p)) (hf:fs[f]? =some fd:=by exact rfl) (hft:fd.type=ft:=by exact rfl) (hoff:fd.offset=off:=by exact rfl):
    bU P a o w (.pointer (some (p.add off))):=lP ho ht hf hoff (fun w=>hft ▸ hz w) hx
theorem eB {ty m:Nat} {cells:List Value} {T:aQ} {v:Value} (ho:o.op= .load t x) (hz:∀w,(isAgg t).run P w= .ok true w) (hm:∀w,(sizeOf t).run P w= .ok m w) (hx:a.eval x= .pointer (some (cX v))) (hb:cj ty cells T v w) (hl:cells.length=m:=by exact rfl):bU P a o w (.agg cells.toArray):=dB ho hz hm hx hl (fun _ _ hj=>hb.cell hj)
end
abbrev tc (t:Tr):List Value:=[.int .i64 t.k,.string t.ch,.bool t.ng,t.rv.v,.int .i64 t.mn,.int .i64 t.mx,.bool t.lz,t.kv.v]
abbrev ta (t:Tr):Value:= .agg #[.int .i64 t.k,.string t.ch,.bool t.ng,t.rv.v,.int .i64 t.mn,.int .i64 t.mx,.bool t.lz,t.kv.v]
theorem gx (a:Act) (t:Nat):∃b,aS a t=b:=⟨_,rfl⟩
theorem rp {G H:Prop} (h:H) (k:H→G:=by (intro h;(repeat with_reducible first | refine xg ?_ | refine vZ ?_);exact h)):G:=k h
theorem lL {a:Act} {v0:Value} (h:∀i v,(#[v0]:Array Value)[i]? =some v→aS a i=v):aS a 0=v0:=h 0 _ rfl
theorem pp {a:Act} {v0 v1:Value} (h:∀i v,(#[v0,v1]:Array Value)[i]? =some v→aS a i=v):aS a 0=v0∧aS a 1=v1:=⟨h 0 _ rfl,h 1 _ rfl⟩
theorem Do {a:Act} {v0 v1 v2:Value} (h:∀i v,(#[v0,v1,v2]:Array Value)[i]? =some v→aS a i=v):aS a 0=v0∧aS a 1=v1∧aS a 2=v2:=⟨h 0 _ rfl,h 1 _ rfl,h 2 _ rfl⟩
theorem Db {a:Act} {v0 v1 v2 v3:Value} (h:∀i v,(#[v0,v1,v2,v3]:Array Value)[i]? =some v→aS a i=v):aS a 0=v0∧aS a 1=v1∧aS a 2=v2∧aS a 3=v3:=⟨h 0 _ rfl,h 1 _ rfl,h 2 _ rfl,h 3 _ rfl⟩
theorem Dp {a:Act} {v0 v1 v2 v3 v4:Value} (h:∀i v,(#[v0,v1,v2,v3,v4]:Array Value)[i]? =some v→aS a i=v):aS a 0=v0∧aS a 1=v1∧aS a 2=v2∧aS a 3=v3∧aS a 4=v4:=⟨h 0 _ rfl,h 1 _ rfl,h 2 _ rfl,h 3 _ rfl,h 4 _ rfl⟩
theorem Dq {a:Act} {v0 v1 v2 v3 v4 v5:Value} (h:∀i v,(#[v0,v1,v2,v3,v4,v5]:Array Value)[i]? =some v→aS a i=v):aS a 0=v0∧aS a 1=v1∧aS a 2=v2∧aS a 3=v3∧aS a 4=v4∧aS a 5=v5:=⟨h 0 _ rfl,h 1 _ rfl,h 2 _ rfl,h 3 _ rfl,h 4 _ rfl,h 5 _ rfl⟩
end
section
open Go.RowKit
theorem nf {a:Act} {f:Nat→Option (Nat × Nat)} {z:Array Value}:Instr.fill f z ((#[]:Array (Nat × Operand)).map fun (i,x)=>(i,a.eval x)).toList=some z:=by
  simp only [dR,bF];rfl
theorem eO {a:Act} {o:Oper} {w:World} {parts:Array (Nat × Operand)} {z:Value} {cells:Array Value} (ho:o.op= .build 32 parts) (hz:∀w,(zeroValue 32).run Try.prog w= .ok z w) (hf:Instr.fill ((#[(0,1),(1,1),(2,1),(3,1),(4,1),(5,1),(6,1),(7,1)]:Array (Nat × Nat))[·]?) z.cells (parts.map fun (i,x)=>(i,a.eval x)).toList=some cells):bU Try.prog a o w (.agg cells):=lk ho aA hz (pl:=#[(0,1),(1,1),(2,1),(3,1),(4,1),(5,1),(6,1),(7,1)]) (fun w_=>by simp [ck,ay,eW,bC,bq]) hf
theorem uV {a:Act} {o:Oper} {w:World} {parts:Array (Nat × Operand)} {z:Value} {cells:Array Value} (ho:o.op= .build 35 parts) (hz:∀w,(zeroValue 35).run Try.prog w= .ok z w) (hf:Instr.fill ((#[(0,1),(1,1)]:Array (Nat × Nat))[·]?) z.cells (parts.map fun (i,x)=>(i,a.eval x)).toList=some cells):bU Try.prog a o w (.agg cells):=lk ho eA hz (pl:=#[(0,1),(1,1)]) (fun w_=>by simp [ay]) hf
theorem nh {a:Act} {o:Oper} {w:World} {parts:Array (Nat × Operand)} {z:Value} {cells:Array Value} (ho:o.op= .build 38 parts) (hz:∀w,(zeroValue 38).run Try.prog w= .ok z w) (hf:Instr.fill ((#[(0,2),(2,1)]:Array (Nat × Nat))[·]?) z.cells (parts.map fun (i,x)=>(i,a.eval x)).toList=some cells):bU Try.prog a o w (.agg cells):=lk ho ee hz (pl:=#[(0,2),(2,1)]) (fun w_=>by simp [cm,dG]) hf
theorem ol {a:Act} {o:Oper} {w:World} {parts:Array (Nat × Operand)} {z:Value} {cells:Array Value} (ho:o.op= .build 47 parts) (hz:∀w,(zeroValue 47).run Try.prog w= .ok z w) (hf:Instr.fill ((#[(0,1),(1,1)]:Array (Nat × Nat))[·]?) z.cells (parts.map fun (i,x)=>(i,a.eval x)).toList=some cells):bU Try.prog a o w (.agg cells):=lk ho bP hz (pl:=#[(0,1),(1,1)]) (fun w_=>by simp [bq]) hf
theorem CE {a:Act} {o:Oper} {w:World} {parts:Array (Nat × Operand)} {z:Value} {cells:Array Value} (ho:o.op= .build 73 parts) (hz:∀w,(zeroValue 73).run Try.prog w= .ok z w) (hf:Instr.fill ((#[(0,1),(1,1)]:Array (Nat × Nat))[·]?) z.cells (parts.map fun (i,x)=>(i,a.eval x)).toList=some cells):bU Try.prog a o w (.agg cells):=lk ho aU hz (pl:=#[(0,1),(1,1)]) (fun w_=>by simp [bY,ay]) hf
theorem CF {a:Act} {o:Oper} {w:World} {parts:Array (Nat × Operand)} {z:Value} {cells:Array Value} (ho:o.op= .build 79 parts) (hz:∀w,(zeroValue 79).run Try.prog w= .ok z w) (hf:Instr.fill ((#[(0,8),(8,1),(9,1),(10,1)]:Array (Nat × Nat))[·]?) z.cells (parts.map fun (i,x)=>(i,a.eval x)).toList=some cells):bU Try.prog a o w (.agg cells):=lk ho aJ hz (pl:=#[(0,8),(8,1),(9,1),(10,1)]) (fun w_=>by simp [ay,ak,eq]) hf
theorem CG {a:Act} {o:Oper} {w:World} {parts:Array (Nat × Operand)} {z:Value} {cells:Array Value} (ho:o.op= .build 81 parts) (hz:∀w,(zeroValue 81).run Try.prog w= .ok z w) (hf:Instr.fill ((#[(0,11),(11,1),(12,1),(13,1),(14,1),(15,1),(16,1)]:Array (Nat × Nat))[·]?) z.cells (parts.map fun (i,x)=>(i,a.eval x)).toList=some cells):bU Try.prog a o w (.agg cells):=lk ho aF hz (pl:=#[(0,11),(11,1),(12,1),(13,1),(14,1),(15,1),(16,1)]) (fun w_=>by simp [bY,fj,ay,dG,bC,cc]) hf
end
section
open Go.ChangeShapes Go.WideShapes Go.ChangeAt Go.RowKit
section
variable {P:Program} {e:TypeId}
end
section
variable {P:Program} {W:World} {H:Type} {enc:TypeId × Value→H} {base:Nat} {spare:Nat→Bool} {held:Bool}
theorem xx {t:TypeId} (ht:P.underlying t=some (.int .i64)) {r:Reach} {b0:Nat} {v:Value} (hv:Value.okWide P W r b0 t v) {d:DataW H} {p:List MemPlace} (h:DataW.Trod enc P W base spare held t v d p):∃n,v= .int .i64 n∧ -9223372036854775808≤n∧n≤9223372036854775807:=by
  obtain ⟨n,rfl,_,_,hw⟩:=open_int ht hv h;simp [Lit.wf,IntKind.min,IntKind.max,IntKind.signed,IntKind.bits] at hw;exact ⟨n,rfl,hw⟩
theorem ni (hl:laidOutB P=true) {W':World} {sp:Nat→Bool}:∀{ts:List TypeId} {vs:List Value} {ds:List (DataW H)} {p:List MemPlace},(ts.all fun t=>P.readableRec t&&decide (t < P.types.size))=true→
    DataW.TrodAll enc P W 0 (fun _=>true) true ts vs ds p→(∀x ∈ p,W.sameAt W' x)→(∀x ∈ p,sp x.block=true)→DataW.TrodAll enc P W' 0 sp true ts vs ds p
  | [], [], [], _, _, h, _, _ => h
  | [], [], _ :: _, _, _, h, _, _ => h.elim
  | [], _ :: _, _, _, _, h, _, _ => h.elim
  | _ :: _, [], _, _, _, h, _, _ => h.elim
  | _ :: _, _ :: _, [], _, _, h, _, _ => h.elim
  | t :: ts, v :: vs, d :: ds, p, hr, h, h1, h2 => by
    obtain ⟨q,q',a,b,rfl⟩:=h;simp only [dg,ao,ah] at hr;exact ⟨q,q',WideElems.Trod_stays hl hr.1.1 hr.1.2 a (fun x hx=>h1 x (by simp [hx])) (fun x hx=>h2 x (by simp [hx])),ni hl hr.2 b (fun x hx=>h1 x (by simp [hx])) (fun x hx=>h2 x (by simp [hx])),rfl⟩
theorem wb {f:Func} {s:ChangeSpec} {apart handsOn:Bool} {W':World} {args:Array Value} {ds gs:List (DataW H)} {before:List MemPlace} {t:TypeId} (hl:laidOutB P=true)
    (hW:DataW.Whole enc P f.params.toList s.vars apart W args.toList ds gs before) (hvars:s.vars=[]) (hread:(f.params.toList.all fun t=>P.readableRec t&&decide (t < P.types.size))=true)
    (hfn:s.fn H ds={ results:=[.lit (.bool true)],args:=ds }) (hrt:f.resultTypes=#[t]) (ht:P.underlying t=some .bool) (hx:Ext aV W W'):s.post enc P f apart true handsOn false W args (.bool true) W':=by
  have hlt:=hW.lt;have hW':=hW;obtain ⟨p,q,hA,hV,rfl,hz,hn⟩:=hW;rw [hvars] at hV;have hgq:gs=[]∧q=[]:=by
    cases gs with
    | nil => exact ⟨rfl, hV⟩
    | cons g gs => exact hV.elim
  obtain ⟨rfl,rfl⟩:=hgq;have hb:=hx.below;refine ⟨ds,[],p++ [],[],p,[],hW',?_,?_,?_,hb.frame _,fun h=>by cases h⟩
  · rw [fO,hfn,hrt];exact trodAll_mk1 (shut_bool ht true)
  · rw [fO,hfn];exact ni hl hread hA (fun x hx=>hb.same (hlt x (by simp [hx]))) (fun x hx=>by simpa using hlt x (by simp [hx]))
  · rw [fO,hfn,hvars];exact rfl
end
end
end B
end Go.Proofs.Ytcfdebjhikahfaa
namespace Go.Proofs.Ytcfdebjhikahfaa
namespace Srt
open B
variable {α:Type}
def Dc (xs:List α) (i j:Nat):List α:=(xs.drop i).take (j - i)
section order
variable (lt:α→α→Bool)
structure Swo:Prop where
  asym:∀x y,lt x y=true→lt y x=false
  neg:∀x y z,lt x y=false→lt y z=false→lt x z=false
variable {lt}
def mS (lt:α→α→Bool) (xs:List α):Prop:=xs.Pairwise fun x y=>lt y x=false
def kG (lt:α→α→Bool) (x:α):List α→List α
  | [] => [x]
  | y :: ys => if lt x y then y :: kG lt x ys else x :: y :: ys
def wX (lt:α→α→Bool) (x:α) (ys:List α):List α:=(kG lt x ys.reverse).reverse
def dQ (lt:α→α→Bool) (xs:List α):List α:=xs.foldl (fun acc x=>wX lt x acc) []
theorem nk {x:α}:∀{Q P:List α},(∀q ∈ Q,lt x q=true)→(∀p,P.head? =some p→lt x p=false)→kG lt x (Q++P)=Q++x::P
  | [], [], _, _ => rfl
  | [], p :: P, _, h => by simp [kG, h p rfl]
  | q :: Q, P, h1, h2 => by
    rw [kO,kG,if_pos (h1 q (by simp)),nk (fun q hq=>h1 q (by simp [hq])) h2,kO]
theorem qt {x:α} {P Q:List α} (h1:∀q ∈ Q,lt x q=true) (h2:∀p,P.getLast? =some p→lt x p=false):wX lt x (P++Q)=P++x::Q:=by
  unfold wX;rw [List.reverse_append,nk (fun q hq=>h1 q (by simpa using hq)) (fun p hp=>h2 p (by simpa using hp))];simp
theorem jV (xs:List α) (x:α):dQ lt (xs++ [x])=wX lt x (dQ lt xs):=by simp [dQ]
theorem om (x:α):∀ys:List α,(kG lt x ys).Perm (x::ys)
  | [] => List.Perm.refl _
  | y :: ys => by
    rw [kG];split
    · exact (List.Perm.cons y (om x ys)).trans (List.Perm.swap x y ys)
    · exact List.Perm.refl _
theorem xy (x:α) (ys:List α):(wX lt x ys).Perm (x::ys):=by
  unfold wX;refine (List.reverse_perm _).trans ((om x _).trans ?_);exact List.Perm.cons x (List.reverse_perm ys)
theorem em {motive:List α→Prop} (h0:motive []) (h1:∀xs x,motive xs→motive (xs++ [x])) (xs:List α):motive xs:=by
  rw [←List.reverse_reverse xs];generalize xs.reverse=ys;induction ys with
  | nil => exact h0
  | cons y ys ih => rw [List.reverse_cons]; exact h1 _ _ ih
theorem lp (xs:List α):(dQ lt xs).Perm xs:=by
  induction xs using em with
  | h0 => exact List.Perm.refl _
  | h1 xs x ih =>
    rw [jV];exact (xy x _).trans ((List.Perm.cons x ih).trans (List.perm_append_singleton x xs).symm)
theorem nl (xs:List α):(dQ lt xs).length=xs.length:=(lp xs).length_eq
theorem Bs (hw:Swo lt) (x:α) {xs:List α} (hs:mS lt xs):∃P Q,xs=P++Q∧(∀p ∈ P,lt x p=false)∧(∀q ∈ Q,lt x q=true):=by
  induction xs with
  | nil => exact ⟨[], [], rfl, by simp, by simp⟩
  | cons y ys ih =>
    obtain ⟨P,Q,rfl,h1,h2⟩:=ih (List.pairwise_cons.1 hs).2;by_cases h:lt x y=true
    · refine ⟨[],y::(P++Q),rfl,by simp,fun q hq=> ?_⟩;rcases List.mem_cons.1 hq with rfl | hq
      · exact h
      · rcases List.mem_append.1 hq with hq | hq
        · cases hc:lt x q with
          | true => rfl
          | false =>
            have:=hw.neg x q y hc ((List.pairwise_cons.1 hs).1 q (by simp [hq]));rw [h] at this;cases this
        · exact h2 q hq
    · refine ⟨y::P,Q,rfl,fun p hp=> ?_,h2⟩;rcases List.mem_cons.1 hp with rfl | hp
      · simpa using h
      · exact h1 p hp
theorem tW {x:α} {P Q:List α} (h1:∀p ∈ P,lt x p=false) (h2:∀q ∈ Q,lt x q=true):wX lt x (P++Q)=P++x::Q:=
  qt h2 fun p hp=>h1 p (List.mem_of_getLast? hp)
theorem tX (hw:Swo lt) {x:α} {xs:List α} (hs:mS lt xs):mS lt (wX lt x xs):=by
  obtain ⟨P,Q,rfl,h1,h2⟩:=Bs hw x hs;rw [tW h1 h2];have h3:=List.pairwise_append.1 hs;refine List.pairwise_append.2 ⟨h3.1,List.pairwise_cons.2 ⟨fun q hq=>hw.asym x q (h2 q hq),h3.2.1⟩,fun p hp q hq=> ?_⟩;rcases List.mem_cons.1 hq with rfl | hq
  · exact h1 p hp
  · exact h3.2.2 p hp q hq
theorem rl (hw:Swo lt) (xs:List α):mS lt (dQ lt xs):=by
  induction xs using em with
  | h0 => exact List.Pairwise.nil
  | h1 xs x ih => rw [jV]; exact tX hw ih
end order
end Srt
end Go.Proofs.Ytcfdebjhikahfaa
namespace Go.Proofs.Ytcfdebjhikahfaa
namespace Srt
open B
variable {α:Type} [Inhabited α]
theorem rm {A B:List α} {x:α} {i:Int} (h:A.length=i.toNat):nth (A++x::B) i=x:=by
  simp [nth,List.getD,fC (show A.length≤i.toNat by omega),h]
theorem iW {xs:List α} {n:Nat} (h:n < xs.length):xs.drop n=nth xs (n:Int)::xs.drop (n+1):=by
  rw [dK h];simp [nth,List.getD,bm h]
theorem mT {xs:List α} {k:Nat} (h:k < xs.length):xs.take (k+1)=xs.take k++ [nth xs (k:Int)]:=by
  rw [iH h];simp [nth,List.getD,bm h]
section order
variable (lt:α→α→Bool)
variable {lt}
variable (lt)
variable {lt}
end order
end Srt
end Go.Proofs.Ytcfdebjhikahfaa
namespace Go.Proofs.Ytcfdebjhikahfaa
namespace Srt
open B
variable {α:Type} [Inhabited α]
theorem mU {xs:List α} {k:Nat} {x:α} (h:xs[k]? =some x):nth xs (k:Int)=x:=by
  simp [nth,List.getD,h]
theorem rn {xs:List α} {k:Nat} (h:k < xs.length):xs[k]? =some (nth xs (k:Int)):=by
  simp [nth,List.getD,bm h]
section order
variable {lt:α→α→Bool}
theorem Swo.pos (hw:Swo lt) {x y z:α} (h:lt x z=true) (h1:lt x y=false):lt y z=true:=by
  cases h2:lt y z with
  | true => rfl
  | false => have := hw.neg x y z h1 h2; rw [h] at this; cases this
section sym
variable {xs ys zs us:List α} {a s m e b mid:Nat}
end sym
variable {bs:Nat} {xs xs0:List α} {a:Nat}
section pass
end pass
end order
end Srt
end Go.Proofs.Ytcfdebjhikahfaa
namespace Go.Proofs.Ytcfdebjhikahfaa
namespace B
section
open Srt
def bs (s:ByteArray):List UInt8:=s.data.toList
def tx (l:List UInt8):ByteArray:=⟨l.toArray⟩
theorem AW (s:ByteArray):tx (bs s)=s:=by cases s;simp [bs,tx]
theorem gY (s:ByteArray):(bs s).length=s.size:=by simp [bs]
theorem Bt {s u:ByteArray} (h:bs s=bs u):s=u:=by rw [←AW s,h,AW]
theorem pq (s:ByteArray) (i j:Nat):bs (s.extract i j)=Dc (bs s) i j:=by
  simp [bs,Dc,ByteArray.data_extract]
theorem hO {s:ByteArray} {k:Nat} {b:UInt8} (h:(bs s)[k]? =some b):bI s (k:Int)=b.toNat:=by
  unfold bI;have e:s.data.toList=bs s:=rfl;rw [e,gN,jN,h];rfl
theorem sy:∀x:List UInt8,Op.bytesLess x x=false
  | [] => rfl
  | a :: x => by
    rw [Op.bytesLess,sy x,Bool.and_false,Bool.or_false];simp
theorem CH {a b:UInt8}:(decide (a < b)=true)↔a.toNat < b.toNat:=by rw [ah];exact UInt8.lt_iff_toNat_lt
theorem CI {a b:UInt8}:((a==b)=true)↔a.toNat=b.toNat:=by rw [beq_iff_eq];exact UInt8.toNat_inj.symm
theorem nQ {a b:UInt8} {x y:List UInt8}:Op.bytesLess (a::x) (b::y)=true↔a.toNat < b.toNat∨(a.toNat=b.toNat∧Op.bytesLess x y=true):=by
  rw [Op.bytesLess,ba,ao,CH,CI]
theorem pr:∀{x y z:List UInt8},Op.bytesLess x y=true→Op.bytesLess y z=true→Op.bytesLess x z=true
  | x, y, [], _, h => by cases y <;> simp [Op.bytesLess] at h
  | x, [], c :: z, h, _ => by cases x <;> simp [Op.bytesLess] at h
  | [], b :: y, c :: z, _, _ => by simp [Op.bytesLess]
  | a :: x, b :: y, c :: z, h1, h2 => by
    rw [nQ] at h1 h2 ⊢;rcases h1 with h1 | ⟨h1,h1'⟩
    · rcases h2 with h2 | ⟨h2,_⟩ <;> left <;> omega
    · rcases h2 with h2 | ⟨h2,h2'⟩
      · left;omega
      · exact .inr ⟨by omega,pr h1' h2'⟩
theorem sA:∀x y:List UInt8,Op.bytesLess x y=true∨x=y∨Op.bytesLess y x=true
  | [], [] => .inr (.inl rfl)
  | [], b :: y => .inl (by simp [Op.bytesLess])
  | a :: x, [] => .inr (.inr (by simp [Op.bytesLess]))
  | a :: x, b :: y => by
    rw [nQ,nQ];rcases Nat.lt_trichotomy a.toNat b.toNat with h | h | h
    · exact .inl (.inl h)
    · rcases sA x y with h' | h' | h'
      · exact .inl (.inr ⟨h,h'⟩)
      · exact .inr (.inl (by rw [UInt8.toNat_inj.1 h,h']))
      · exact .inr (.inr (.inr ⟨h.symm,h'⟩))
    · exact .inr (.inr (.inl h))
theorem qu (s:ByteArray):s.toList=bs s:=ByteArray.toList_eq s
theorem nm (x:ByteArray):lK x x=false:=sy _
theorem nR {x y z:ByteArray} (h1:lK x y=true) (h2:lK y z=true):lK x z=true:=pr h1 h2
theorem oJ (x y:ByteArray):lK x y=true∨x=y∨lK y x=true:=by
  rcases sA x.toList y.toList with h | h | h
  · exact .inl h
  · rw [qu,qu] at h;exact .inr (.inl (Bt h))
  · exact .inr (.inr h)
theorem qv {x y:ByteArray} (h:lK x y=true):lK y x=false:=by
  cases hb:lK y x with
  | false => rfl
  | true => have := nR h hb; rw [nm] at this; cases this
theorem zC {x y:ByteArray}:oF x y=true↔lK y x=false:=by
  unfold oF;rw [ba,oG];constructor
  · rintro (h | rfl)
    · exact qv h
    · exact nm _
  · intro h;rcases oJ x y with h' | h' | h'
    · exact .inl h'
    · exact .inr h'
    · rw [h] at h';cases h'
def rk (S:List ByteArray) (x:ByteArray):Int:=((S.countP fun z=>lK z x:Nat):Int)
theorem uW {S:List ByteArray} {x y:ByteArray} (hx:x ∈ S) (h:lK x y=true):rk S x < rk S y:=by
  unfold rk;have key:∀L:List ByteArray,L.countP (fun z=>lK z x)≤L.countP (fun z=>lK z y):=fun L=>List.countP_mono_left fun z _ hz=>nR hz h;have:S.countP (fun z=>lK z x) < S.countP (fun z=>lK z y):=by
    induction S with
    | nil => cases hx
    | cons a S ih =>
      rw [kK,kK];rcases List.mem_cons.1 hx with rfl | hx
      · rw [nm,h];have:=key S;simp;omega
      · have:=ih hx;cases ha:lK a x with
        | false => simp; split <;> omega
        | true => rw [nR ha h]; simp; omega
  omega
theorem pt {S:List ByteArray} {x y:ByteArray} (hx:x ∈ S) (hy:y ∈ S):lK x y=true↔rk S x < rk S y:=by
  constructor
  · exact uW hx
  · intro h;rcases oJ x y with h' | h' | h'
    · exact h'
    · subst h';omega
    · have:=uW hy h';omega
theorem uX {S:List ByteArray} {x y:ByteArray} (hx:x ∈ S) (hy:y ∈ S):oF x y=true↔rk S x≤rk S y:=by
  rw [zC,←aI,pt hy hx];omega
theorem Bu {S:List ByteArray} {x y:ByteArray} (hx:x ∈ S) (hy:y ∈ S) (h:rk S x=rk S y):x=y:=by
  rcases oJ x y with h' | h' | h'
  · have:=uW hx h';omega
  · exact h'
  · have:=uW hy h';omega
theorem xz {S:List ByteArray} {x y:ByteArray} (hx:x ∈ S) (hy:y ∈ S):oA x y ∈ S∧rk S (oA x y)=max (rk S x) (rk S y):=by
  unfold oA;split
  · rename_i h;rw [pt hx hy] at h;exact ⟨hy,by omega⟩
  · rename_i h;rw [pt hx hy] at h;exact ⟨hx,by omega⟩
def sC (x y:ByteArray):Int:=if lK x y=true then -1 else if lK y x=true then 1 else 0
def nn (n:Int):Bool:=decide (128≤n)&&decide (n≤191)
def tY (b:UInt8):Bool:=nn (b.toNat:Int)
def tw (s:ByteArray) (k:Nat):Nat:=(((bs s).drop k).takeWhile tY).length
def endF (s:ByteArray) (at':Nat):Nat:=at'+1+tw s (at'+1)
theorem np {s:ByteArray} {k:Nat} (h:k < s.size) (hb:nn (bI s (k:Int))=true):k+tw s k=k+1+tw s (k+1):=by
  obtain ⟨b,hk⟩:∃b,(bs s)[k]? =some b:=⟨_,bm (by rw [gY];exact h)⟩;have hd:(bs s).drop k=b::(bs s).drop (k+1):=by
    have hlt:k < (bs s).length:=by rw [gY];exact h
    rw [dK hlt];rw [bm hlt] at hk;cases hk;rfl
  unfold tw;have hb':tY b=true:=by unfold tY;rw [←hO hk];exact hb
  rw [hd,fh,if_pos hb',bi];omega
theorem rq {s:ByteArray} {k:Nat} (h:s.size≤k∨nn (bI s (k:Int))=false):tw s k=0:=by
  unfold tw;by_cases hk:k < s.size
  · have hlt:k < (bs s).length:=by rw [gY];exact hk
    rw [dK hlt];have hb:nn (bI s (k:Int))=false:=h.resolve_left (by omega);rw [hO (bm hlt)] at hb;rw [fh,if_neg (by unfold tY;rw [hb];decide)];rfl
  · rw [ed (by rw [gY];omega)];rfl
theorem CJ (s:ByteArray) (k:Nat) (h:k≤s.size):k+tw s k≤s.size:=by
  unfold tw;have:=(List.takeWhile_sublist tY (l:=(bs s).drop k)).length_le;rw [dH,gY] at this
  omega
def cY (s:ByteArray):Bool:=match bs s with
  | [] => false
  | b :: l => !tY b && l.all tY
theorem Bv {l:List UInt8}:(l.takeWhile tY).length=l.length↔l.all tY=true:=by
  induction l with
  | nil => simp
  | cons b l ih =>
    rw [fh,dg];cases hb:tY b with
    | false => simp
    | true => simp [ih]
theorem wc (s:ByteArray):((!gD s (⟨#[]⟩:ByteArray)&& !nn (bI s (0:Int)))&&decide ((endF s 0:Int)=(s.size:Int)))=cY s:=by
  have hl:=gY s;have e0:gD s (⟨#[]⟩:ByteArray)=decide (bs s=[]):=ri s _;have et:endF s 0=1+(((bs s).drop 1).takeWhile tY).length:=by unfold endF tw;simp
  unfold cY;rw [e0,et];cases hb:bs s with
  | nil => simp
  | cons b l =>
    have e1:bI s (0:Int)=b.toNat:=hO (k:=0) (by rw [hb];rfl);rw [e1];rw [hb] at hl;simp only [bi] at hl;have e2:decide (((1+((List.drop 1 (b::l)).takeWhile tY).length:Nat):Int)=(s.size:Int))=l.all tY:=by
      rw [eK,ah,←Bv];simp only [List.drop_succ_cons,iI];omega
    rw [e2];simp [tY]
def kS (n:Int):Bool:=decide (n < 128) || decide (191 < n)
theorem jE (n:Int):kS n= !nn n:=by
  unfold kS nn;by_cases h1:n < 128 <;> by_cases h2:191 < n <;> simp [h1,h2] <;> omega
def jp (s:ByteArray) (st:List ByteArray × Nat) (i:Nat):List ByteArray × Nat:=
  if (decide ((i:Int)=(s.size:Int)) || kS (bI s (i:Int)))=true then (st.1++ [s.extract st.2 i],i) else st
def gj (s:ByteArray):Nat→List ByteArray × Nat
  | 0 => ([], 0)
  | k + 1 => jp s (gj s k) (k + 1)
def be (s:ByteArray):List ByteArray:=(gj s s.size).1
theorem pu (s:ByteArray) (k:Nat):(gj s k).2≤k:=by
  induction k with
  | zero => exact bj _
  | succ k ih =>
    rw [gj,jp];split
    · exact bj _
    · exact Nat.le_succ_of_le ih
theorem jF (s:ByteArray) (k:Nat):(gj s k).1.length≤k:=by
  induction k with
  | zero => exact bj _
  | succ k ih =>
    rw [gj,jp];split
    · simp only [bK,bi,bG];omega
    · exact Nat.le_succ_of_le ih
theorem zD {s:ByteArray} {k:Nat} (hk:k < s.size):(gj s k).1=[]↔∀i,1≤i→i≤k→nn (bI s (i:Int))=true:=by
  induction k with
  | zero => constructor
            · intro _ i h1 h2;omega
            · intro _;rfl
  | succ k ih =>
    have ih:=ih (by omega);rw [gj,jp,jE,decide_eq_false (by omega),gd];cases hb:nn (bI s ((k+1:Nat):Int)) with
    | false =>
      simp only [jK,if_true];constructor
      · intro h;simp at h
      · intro h;have:=h (k+1) (by omega) (by omega);rw [hb] at this;cases this
    | true =>
      simp only [je,Bool.false_eq_true,if_false];rw [ih];constructor
      · intro h i h1 h2;by_cases e:i=k+1
        · subst e;exact hb
        · exact h i h1 (by omega)
      · intro h i h1 h2;exact h i h1 (by omega)
theorem tZ {s:ByteArray} (h:0 < s.size):(be s).length=1↔∀i,1≤i→i < s.size→nn (bI s (i:Int))=true:=by
  unfold be;obtain ⟨k,hk⟩:∃k,s.size=k+1:=⟨s.size - 1,by omega⟩;rw [hk,gj,jp,decide_eq_true (by omega),Bool.true_or,if_pos rfl,bK];have h1:=zD (s:=s) (k:=k) (by omega);constructor
  · intro hl i h2 h3;have:(gj s k).1=[]:=bB (by simp only [bi,bG] at hl;omega);exact h1.1 this i h2 (by omega)
  · intro hq;rw [h1.2 fun i h2 h3=>hq i h2 (by omega)];rfl
theorem ru (s:ByteArray):((decide ((0:Int) < (s.size:Int))&&kS (bI s (0:Int)))&&decide (((be s).length:Int)=1))=cY s:=by
  have hl:=gY s;unfold cY;cases hb:bs s with
  | nil => rw [hb] at hl; simp at hl; rw [decide_eq_false (by omega)]; simp
  | cons b l =>
    rw [hb] at hl;simp only [bi] at hl;have e1:bI s (0:Int)=b.toNat:=hO (k:=0) (by rw [hb];rfl);rw [decide_eq_true (by omega),fq,e1,jE];congr 1;rw [eK,ah,cK];have h1:=tZ (s:=s) (by omega);constructor
    · intro h x hx;obtain ⟨i,hi,rfl⟩:=ic hx;have:=h1.1 (by omega) (i+1) (by omega) (by omega);rw [hO (k:=i+1) (b:=l[i]) (by rw [hb,List.getElem?_cons_succ,bm hi])] at this
      exact this
    · intro h;have:(be s).length=1:=h1.2 fun i h2 h3=>by
        match i,h2 with
        | j + 1, _ =>
          have hj:j < l.length:=by omega
          rw [hO (k:=j+1) (b:=l[j]) (by rw [hb,List.getElem?_cons_succ,bm hj])];exact h _ (kP hj)
      omega
def iD (b:UInt8):UInt8:=if (decide ((65:Int)≤(b.toNat:Int))&&decide ((b.toNat:Int)≤90))=true then UInt8.ofNat (IntKind.u8.wrap ((b.toNat:Int)+32)).toNat else b
def ua (b:UInt8):UInt8:=if (decide ((97:Int)≤(b.toNat:Int))&&decide ((b.toNat:Int)≤122))=true then UInt8.ofNat (IntKind.u8.wrap ((b.toNat:Int) - 32)).toNat else b
def eZ (s:ByteArray):ByteArray:=⟨((bs s).map iD).toArray⟩
def Dd (s:ByteArray):ByteArray:=⟨((bs s).map ua).toArray⟩
theorem gb (n:Int):0≤IntKind.u8.wrap n∧IntKind.u8.wrap n≤255:=by
  simp [IntKind.wrap,IntKind.signed,IntKind.bits];omega
def eP (f:UInt8→UInt8) (xs:List UInt8) (k:Nat):List UInt8:=(xs.take k).map f++xs.drop k
theorem nS (f:UInt8→UInt8) (xs:List UInt8) (k:Nat):(eP f xs k).length=xs.length:=by
  simp [eP];omega
theorem me {f:UInt8→UInt8} {xs:List UInt8} {k:Nat} (h:k < xs.length):nth (eP f xs k) (k:Int)=nth xs (k:Int):=by
  unfold eP;rw [iW h];exact rm (by simp;omega)
theorem qw {f:UInt8→UInt8} {xs:List UInt8} {k:Nat} (h:k < xs.length) {v:UInt8} (hv:f (nth xs (k:Int))=v):eP f xs (k+1)=(eP f xs k).set (k:Int).toNat v:=by
  unfold eP;rw [iW h,mT h,gN,bA];have hl:(List.map f (xs.take k)).length=k:=by simp;omega
  rw [List.set_append_right _ _ (by omega),hl,lg];simp [hv]
theorem pw {f:UInt8→UInt8} {xs:List UInt8} {k:Nat} (h:k < xs.length) (hv:f (nth xs (k:Int))=nth xs (k:Int)):eP f xs (k+1)=eP f xs k:=by
  unfold eP;rw [iW h,mT h,bA];simp [hv]
theorem mV (f:UInt8→UInt8) (xs:List UInt8):eP f xs 0=xs:=by simp [eP]
theorem nT {f:UInt8→UInt8} {xs:List UInt8} {k:Nat} (h:xs.length≤k):eP f xs k=xs.map f:=by
  unfold eP;rw [bL h,ed h,fO]
end
section
open Go.RowKit
def nU (p q:Int × Int):Bool:=decide (max p.1 q.1≤min p.2 q.2)
def Bw (x y:Int):Int:=if x < y then -1 else if y < x then 1 else 0
def De (xs:List Int):Int:=(xs.find? (fun x=>x !=0)).getD 0
def Bx (p q:Int × Int):Int:=De [Bw p.1 q.1,Bw p.2 q.2]
def wd (x n:Int):Int:=IntKind.i64.wrap ((IntKind.u64.wrap x).tmod (IntKind.u64.wrap n))
theorem zE {n:Int} (h:0 < n) (h2:n≤9223372036854775807):IntKind.u64.wrap n≠0:=by
  have:IntKind.u64.wrap n=n:=by simp [IntKind.wrap,IntKind.signed,IntKind.bits];omega
  omega
theorem eT {α:Type} [Inhabited α] {xs:List α} {k:Nat} (h:k < xs.length):xs.take (k+1)=xs.take k++ [nth xs k]:=by
  rw [iH h];simp [nth,List.getD,bm h]
theorem take_zero {xs:List Int} {k:Nat} (h:k < xs.length) (hq:∀x ∈ xs.take k,x=0) (h0:nth xs (k:Int)=0):∀x ∈ xs.take (k+1),x=0:=by
  rw [eT h];intro x hx;rcases List.mem_append.1 hx with hx | hx
  · exact hq x hx
  · simp at hx;rw [hx];exact h0
theorem tn (m i:Nat):((m:Int) - (i:Int)).toNat=m - i:=by omega
set_option maxRecDepth 100000 in
theorem zF (x:Int) (w:World):Calls Try.prog 86 #[aj x] w (fun e w'=>e= .returned (aB false)∧Ext aV w w'):=by
 refine enter (n:=6) Try.func86 rfl rfl (ar rfl) ?_;intro a0 τ0 ha st0;have e0:=lL ha;refine wp_seq (ew st0 [] ⟨am fun c=>au rfl rfl,av⟩ fun ac ag ae ab aa=> ?_);replace e0:=aa.k1 e0;have e2:=aa.V 0;refine wp_seq (lS [0,0,3,7] ab [] ⟨aq e0,aq e0,am fun c=>km rfl (c.q 0) (c.q 1),aK 2,av⟩ fun ac ag ae ab aa=> ?_);have e2:=aa.V 3;refine wp_ret ?_;refine rp ?_;refine cG (fn:=Try.f86) rfl ab.defers e2 ?_;exact ⟨by simp,ab.ext0⟩
set_option maxRecDepth 100000 in
theorem CK (x n:Int) (w:World) (hn:0 < n) (hn2:n≤9223372036854775807):Calls Try.prog 10 #[aj x,aj n] w (fun e w'=>e= .returned (aj (wd x n))∧Ext aV w w'):=by
 refine enter (n:=11) Try.func10 rfl rfl (ar rfl) ?_;intro a0 τ0 ha st0;obtain ⟨e0,e1⟩:=pp ha;refine wp_seq (ew st0 [] ⟨am fun c=>au rfl rfl,av⟩ fun ac ag ae ab aa=> ?_);obtain ⟨e0,e1⟩:=aa.k2 e0 e1;have e4:=aa.V 0;refine wp_seq (tU [0,1,0,4,15,31,63] ab [] ⟨aq e0,am fun c=>pb rfl es eS (c.q 0),aq e1,am fun c=>pb rfl es eS (c.q 2),am fun c=>Cu rfl (c.q 1) (c.q 3) (by exact zE hn hn2),am fun c=>pb rfl eS es (c.q 4),aK 5,av⟩ fun ac ag ae ab aa=> ?_);have e4:=aa.V 6;refine wp_ret ?_;refine rp ?_;refine cG (fn:=Try.f10) rfl ab.defers e4 ?_;exact ⟨rfl,ab.ext0⟩
end
end B
end Go.Proofs.Ytcfdebjhikahfaa
namespace Go.Proofs.Ytcfdebjhikahfaa
namespace Srt
open B
theorem ub {α:Type} [Inhabited α] {xs:List α} {k:Nat} (h:k < xs.length):xs.take (k+1)=xs.take k++ [nth xs (k:Int)]:=mT h
theorem we {α:Type} [Inhabited α] {lt:α→α→Bool} {x:α} {out:List α} {k:Nat} (h:0 < k) (hk:k≤out.length) (hq:∀q ∈ out.drop k,lt x q=true) (hc:lt x (nth out ((k:Int) - 1))=true):∀q ∈ out.drop (k - 1),lt x q=true:=by
  rw [iW (show k - 1 < out.length by omega),show k - 1+1=k by omega];intro q hm;rcases List.mem_cons.1 hm with rfl | hm
  · rwa [show ((k - 1:Nat):Int)=(k:Int) - 1 by omega]
  · exact hq q hm
theorem By {α:Type} [Inhabited α] {lt:α→α→Bool} {O:List α} {x:α} {k:Nat} (hk:k≤O.length) (hq:∀q ∈ O.drop k,lt x q=true)
    (hc:(decide ((0:Int) < (k:Int))&&lt x (nth O ((k:Int) - 1)))=false):
    wX lt x O=(([]++(O.drop 0).take (k - 0))++ [x])++(O.drop k).take (O.length - k):=by
  have e:O=O.take k++O.drop k:=(eQ k O).symm;conv=>lhs;rw [e]
  rw [qt hq]
  · rw [bL (l:=O.drop k) (by simp)];simp
  · intro p hp;by_cases h0:k=0
    · subst h0;simp at hp
    · have hlast:(O.take k).getLast? =some (nth O ((k:Int) - 1)):=by
        have:=ub (xs:=O) (k:=k - 1) (by omega);rw [show k - 1+1=k by omega] at this
        rw [this,List.getLast?_append,show ((k - 1:Nat):Int)=(k:Int) - 1 by omega];rfl
      rw [hlast] at hp;cases hp
      have h1:decide ((0:Int) < (k:Int))=true:=decide_eq_true (by omega);rw [h1,fq] at hc;exact hc
end Srt
end Go.Proofs.Ytcfdebjhikahfaa
namespace Go.Proofs.Ytcfdebjhikahfaa
namespace B
section
open Srt
theorem TlS.at {w w':World} {v:Value} {ts:List Tr} (h:TlS w v ts) (he:Ext (Nw w) w w'):TlS w' v ts:=
  ⟨h.sl.keep he fun hn hk=>(by have:=h.sl.lt hn;simp only [Nw] at hk;omega),fun t ht=>(h.all t ht).at he⟩
theorem bo {α:Type} [Inhabited α] {xs:List α} {i:Int} (h0:0≤i) (h1:i < xs.length):nth xs i ∈ xs:=by
  obtain ⟨k,rfl⟩:∃k:Nat,i=(k:Int):=⟨i.toNat,by omega⟩;exact fT (rn (by omega))
def cR (xs:List Int):Int:=xs.foldl (· +·) 0
theorem dL (xs:List Int) (x:Int):cR (xs++ [x])=cR xs+x:=by simp [cR]
theorem gH {xs:List Int} (h:∀x ∈ xs,0≤x):0≤cR xs:=by
  induction xs using em with
  | h0 => exact ei _
  | h1 xs x ih =>
    rw [dL];have:=ih fun y hy=>h y (by simp [hy]);have:=h x (by simp);omega
theorem iQ (xs ys:List Int):cR (xs++ys)=cR xs+cR ys:=by
  induction ys using em with
  | h0 => simp [cR]
  | h1 ys y ih => rw [← gM, dL, ih, dL]; omega
theorem zG {xs:List Int} (h:∀x ∈ xs,0≤x) (k:Nat):0≤cR (xs.take k)∧cR (xs.take k)≤cR xs:=by
  have h1:0≤cR (xs.take k):=gH fun x hx=>h x (List.mem_of_mem_take hx);have h2:0≤cR (xs.drop k):=gH fun x hx=>h x (gS hx);have h3:=iQ (xs.take k) (xs.drop k);rw [eQ] at h3;omega
theorem py {xs:List Int} (h:∀x ∈ xs,0≤x) {x:Int} (hx:x ∈ xs):x≤cR xs:=by
  obtain ⟨A,B,rfl⟩:=List.append_of_mem hx;rw [show A++x::B=(A++ [x])++B by simp,iQ,dL];have h1:0≤cR A:=gH fun y hy=>h y (by simp [hy]);have h2:0≤cR B:=gH fun y hy=>h y (by simp [hy]);omega
section
variable {β:Type}
mutual
def ku (g:Tr→List β→β):Tr→β
  | ⟨k, ch, ng, rv, rows, mn, mx, lz, kv, kids⟩ => g ⟨k, ch, ng, rv, rows, mn, mx, lz, kv, kids⟩ (uY g kids)
def uY (g:Tr→List β→β):List Tr→List β
  | [] => []
  | t :: ts => ku g t :: uY g ts
end
theorem wg (g:Tr→List β→β) (ts:List Tr):uY g ts=ts.map (ku g):=by
  induction ts with
  | nil => rfl
  | cons t ts ih => rw [uY, ih]; rfl
theorem gZ (g:Tr→List β→β) (t:Tr):ku g t=g t (t.kids.map (ku g)):=by cases t;simp [ku,wg]
theorem nq {g:Tr→List β→β} (hg:∀t l,g (er t) l=g t l) (t:Tr):ku g (er t)=ku g t:=by
  induction t using Tr.ind with
  | h t ih =>
    rw [gZ,gZ g t,kr,jx,hg];congr 1;exact gk ih
end
def cE:Tr→Int:=ku fun _ l=>1+cR l
theorem gJ (t:Tr):cE t=1+cR (t.kids.map cE):=gZ _ t
def oB (t:Tr):Bool:=decide (t.k=5) || decide (t.k=6)
def fV:Tr→Int:=ku fun t l=>(if t.k=5 then 1 else 0)+cR l
theorem lq (t:Tr):fV t=(if t.k=5 then 1 else 0)+cR (t.kids.map fV):=gZ _ t
def lT (xs:List Int):Int:=xs.foldl max 0
theorem nV (xs:List Int) (x:Int):lT (xs++ [x])=max (lT xs) x:=by simp [lT]
def eC:Tr→Int:=ku fun t l=>lT l+if oB t=true then 1 else 0
theorem kT (t:Tr):eC t=lT (t.kids.map eC)+if oB t=true then 1 else 0:=gZ _ t
theorem jW (t:Tr):1≤cE t:=by
  induction t using Tr.ind with
  | h t ih =>
    rw [gJ];have:0≤cR (t.kids.map cE):=gH fun x hx=>by
      obtain ⟨k,hk,rfl⟩:=List.mem_map.1 hx;have:=ih k hk;omega
    omega
theorem wh (t:Tr):(er t).k=t.k:=by cases t;rfl
theorem wi (t:Tr):cE (er t)=cE t:=nq (fun _ _=>rfl) t
theorem iX (t:Tr):fV (er t)=fV t:=nq (fun t l=>by simp only [wh]) t
theorem nr (xs:List Int):0≤lT xs:=by
  induction xs using em with
  | h0 => exact ei _
  | h1 xs x ih => rw [nV]; omega
theorem oK {xs:List Int} {n:Int} (h0:0≤n) (h:∀x ∈ xs,x≤n):lT xs≤n:=by
  induction xs using em with
  | h0 => exact h0
  | h1 xs x ih =>
    rw [nV];have:=ih fun y hy=>h y (by simp [hy]);have:=h x (by simp);omega
theorem pA {xs:List Int} {x:Int} (h:x ∈ xs):x≤lT xs:=by
  induction xs using em with
  | h0 => cases h
  | h1 xs y ih =>
    rw [nV];rcases List.mem_append.1 h with h | h
    · have:=ih h;omega
    · simp at h;subst h;omega
theorem im (t:Tr):0≤fV t∧fV t≤cE t:=by
  induction t using Tr.ind with
  | h t ih =>
    rw [lq,gJ];have h1:∀ks:List Tr,(∀k ∈ ks,0≤fV k∧fV k≤cE k)→0≤cR (ks.map fV)∧cR (ks.map fV)≤cR (ks.map cE):=by
      intro ks;induction ks using em with
      | h0 => intro _; exact ⟨ei _, ei _⟩
      | h1 ks x ih2 =>
        intro h;rw [bA,bA,aZ,bF,aZ,bF,dL,dL];have:=ih2 fun k hk=>h k (by simp [hk]);have:=h x (by simp);omega
    have:=h1 t.kids ih;split <;> omega
theorem sD (t:Tr):0≤eC t∧eC t≤cE t:=by
  induction t using Tr.ind with
  | h t ih =>
    rw [kT,gJ];have hp:∀k ∈ t.kids,0≤cE k:=fun k _=>by have:=jW k;omega
    have h0:=nr (t.kids.map eC);have h1:lT (t.kids.map eC)≤cR (t.kids.map cE):=oK (gH fun x hx=>by obtain ⟨k,hk,rfl⟩:=List.mem_map.1 hx;exact hp k hk) fun x hx=>by
      obtain ⟨k,hk,rfl⟩:=List.mem_map.1 hx;have:=(ih k hk).2;have:cE k≤cR (t.kids.map cE):=py (fun x hx=>by obtain ⟨k,hk,rfl⟩:=List.mem_map.1 hx;exact hp k hk) (List.mem_map.2 ⟨k,hk,rfl⟩);omega
    split <;> omega
def AX {α:Type} (f:α→Bool) (xs:List α):Int:=if xs.any f=true then ((xs.takeWhile fun y=> !f y).length:Int) else -1
theorem rx {α:Type} [Inhabited α] {f:α→Bool} {xs:List α} {k:Nat} (h:k < xs.length) (hq:∀y ∈ xs.take k,f y=false) (hc:f (nth xs (k:Int))=true):AX f xs=(k:Int):=by
  unfold AX;rw [if_pos (List.any_eq_true.2 ⟨_,bo (by omega) (by omega),hc⟩)];have e:xs=xs.take k++nth xs (k:Int)::xs.drop (k+1):=by rw [←iW h,eQ]
  have e2:xs.takeWhile (fun y=> !f y)=xs.take k:=by
    conv=>lhs;rw [e]
    rw [List.takeWhile_append_of_pos (fun y hy=>by rw [hq y hy];rfl),fh,if_neg (by rw [hc];decide),fO]
  rw [e2,cD];omega
theorem oL {α:Type} [Inhabited α] {f:α→Bool} {xs:List α} {k:Nat} (h:xs.length≤k) (hq:∀y ∈ xs.take k,f y=false):AX f xs= -1:=by
  rw [bL h] at hq;unfold AX;rw [if_neg];rw [List.any_eq_true]
  rintro ⟨y,hy,hf⟩
  rw [hq y hy] at hf;cases hf
theorem uZ {α:Type} [Inhabited α] {f:α→Bool} {xs:List α} {k:Nat} (h:k < xs.length) (hq:∀y ∈ xs.take k,f y=false) (hc:f (nth xs (k:Int))=false):∀y ∈ xs.take (k+1),f y=false:=by
  rw [eT h];intro y hy;rcases List.mem_append.1 hy with hy | hy
  · exact hq y hy
  · simp at hy;rw [hy];exact hc
theorem xA {α:Type} (f:α→Bool) (xs:List α):decide (0≤AX f xs)=xs.any f:=by
  unfold AX;cases xs.any f <;> simp
theorem sE {f:Tr→Int} {ts:List Tr} {k:Nat} (h:k < ts.length):cR ((ts.take (k+1)).map f)=cR ((ts.take k).map f)+f (nth ts (k:Int)):=by
  rw [eT h,bA,aZ,bF,dL]
theorem xB {f:Tr→Int} {ts:List Tr} (hf:∀t ∈ ts,0≤f t) (k:Nat):0≤cR ((ts.take k).map f)∧cR ((ts.take k).map f)≤cR (ts.map f):=by
  rw [List.map_take];exact zG (fun x hx=>by obtain ⟨t,ht,rfl⟩:=List.mem_map.1 hx;exact hf t ht) k
theorem va {f:Tr→Int} {ts:List Tr} (hf:∀t ∈ ts,0≤f t) {t:Tr} (ht:t ∈ ts):f t≤cR (ts.map f):=
  py (fun x hx=>by obtain ⟨t,ht,rfl⟩:=List.mem_map.1 hx;exact hf t ht) (List.mem_map.2 ⟨t,ht,rfl⟩)
end
end B
end Go.Proofs.Ytcfdebjhikahfaa
