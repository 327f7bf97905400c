import Derived.WalkKit
import Derived.WalkSpells
import Derived.WalkLawsBesides
import Derived.Deep.Draws
import Derived.Lib.Slices
import Derived.Deep.Slices
import Derived.Lib.SliceRun
import Derived.Lib.AppendStr
import Derived.Lib.ConvBytes
import Derived.Laws.Strings
import Derived.Laws.IdiomStrings
import Derived.Test.YtcfdebjhikahfaaGreatChecked
import Derived.ProofKit
import Derived.WideKeyArgs
import Derived.OpenShut
set_option linter.unusedSimpArgs false
set_option linter.unusedVariables false
set_option linter.unusedSectionVars false
namespace Go.Proofs.YtcfdebjhikahfaaGreat
section
open Go.RowKit
abbrev bG:=@Array.getD_eq_getD_getElem?
abbrev nS:=@Array.getElem?_append_left
abbrev oB:=@Array.getElem?_eq_getElem
abbrev nk:=@Array.getElem?_setIfInBounds
abbrev gD:=@Array.length_toList
abbrev bl:=@Bool.and_eq_false_iff
abbrev au:=@Bool.and_eq_true
abbrev eZ:=@Bool.eq_iff_iff
abbrev jX:=@Bool.false_or
abbrev ar:=@Bool.not_eq_true'
abbrev ma:=@Bool.not_false
abbrev mP:=@Bool.not_true
abbrev aG:=@Bool.or_eq_false_iff
abbrev aR:=@Bool.or_eq_true
abbrev jY:=@Bool.true_and
abbrev nR:=@Int.fdiv_eq_ediv_of_nonneg
abbrev ec:=@List.all_cons
abbrev cI:=@List.all_eq_true
abbrev fy:=@List.all_nil
abbrev dq:=@List.append_assoc
abbrev eG:=@List.append_nil
abbrev eq:=@List.cons_append
abbrev pm:=@List.countP_cons
abbrev kK:=@List.dropLast_concat_getLast
abbrev mE:=@List.drop_append
abbrev mV:=@List.drop_append_of_le_length
abbrev iQ:=@List.drop_drop
abbrev fo:=@List.drop_eq_getElem_cons
abbrev dX:=@List.drop_of_length_le
abbrev cg:=@List.eq_nil_of_length_eq_zero
abbrev lc:=@List.getD_eq_getElem?_getD
abbrev lx:=@List.getElem?_append_left
abbrev jv:=@List.getElem?_append_right
abbrev ky:=@List.getElem?_drop
abbrev cd:=@List.getElem?_eq_getElem
abbrev mC:=@List.getElem?_eq_none
abbrev iJ:=@List.getElem?_take_of_lt
abbrev kS:=@List.getElem?_toArray
abbrev pq:=@List.getElem_mem
abbrev aQ:=@List.length_append
abbrev ay:=@List.length_cons
abbrev fw:=@List.length_drop
abbrev gr:=@List.length_map
abbrev aC:=@List.length_nil
abbrev dx:=@List.length_set
abbrev ed:=@List.length_take
abbrev kb:=@List.map_congr_left
abbrev aB:=@List.map_cons
abbrev ny:=@List.map_map
abbrev aH:=@List.map_nil
abbrev fZ:=@List.map_toArray
abbrev iO:=@List.mem_of_getElem?
abbrev eN:=@List.nil_append
abbrev po:=@List.range'_succ
abbrev fI:=@List.set_append_right
abbrev nT:=@List.set_cons_zero
abbrev aF:=@List.size_toArray
abbrev ke:=@List.take_append
abbrev dP:=@List.take_append_drop
abbrev iP:=@List.take_append_of_le_length
abbrev qH:=@List.take_left
abbrev pp:=@List.take_length
abbrev bw:=@List.take_of_length_le
abbrev mc:=@List.take_succ_eq_append_getElem
abbrev ix:=@Nat.add_mul
abbrev ls:=@Nat.add_zero
abbrev lR:=@Nat.le_mul_of_pos_right
abbrev aw:=@Nat.le_of_ble_eq_true
abbrev bz:=@Nat.le_refl
abbrev bE:=@Nat.le_trans
abbrev dM:=@Nat.lt_of_lt_of_le
abbrev bT:=@Nat.lt_succ_self
abbrev lZ:=@Nat.lt_trichotomy
abbrev jL:=@Nat.mul_le_mul_right
abbrev mb:=@Nat.sub_self
abbrev gw:=@Nat.zero_add
abbrev dC:=@Nat.zero_le
abbrev fl:=@Tryz.sizeOf22
abbrev cR:=@Tryz.sizeOf23
abbrev ak:=@Tryz.sizeOf25
abbrev aA:=@Tryz.sizeOf3
abbrev aT:=@Tryz.sizeOf38
abbrev co:=@Tryz.sizeOf39
abbrev cj:=@Tryz.sizeOf4
abbrev cS:=@Tryz.sizeOf60
abbrev gI:=@Tryz.sizeOf62
abbrev gu:=@Tryz.sizeOf72
abbrev df:=@Tryz.sizeOf74
abbrev cf:=@Tryz.sizeOf9
abbrev bQ:=@Tryz.sizeOf96
abbrev aJ:=@Tryz.underlying25
abbrev cw:=@Tryz.underlying38
abbrev bd:=@Tryz.underlying41
abbrev eb:=@Tryz.underlying68
abbrev bu:=@Tryz.underlying74
abbrev ba:=@Tryz.underlying76
abbrev cZ:=@Tryz.underlying89
abbrev bU:=@Tryz.underlying96
abbrev bo:=@Tryz.underlying98
abbrev ah:=@decide_eq_false_iff_not
abbrev ai:=@decide_eq_true_eq
end
namespace B
section
abbrev aj (x:Int):Value:= .int .i64 x
abbrev bc (x:ByteArray):Value:= .string x
abbrev aE (x:Bool):Value:= .bool x
theorem av:True:=True.intro
open Go.RowKit
def be (a:Act) (t:Nat):Value:=a.tmps.getD t undef
abbrev bj:=Nat→Prop
structure Ext (M:Nat→Prop) (w w':World):Prop where
  os:w'.os=w.os
  tape:w'.tape=w.tape
  output:w'.output=w.output
  size:w.heap.size≤w'.heap.size
  block:∀k,k < w.heap.size→¬M k→w'.heap[k]? =w.heap[k]?
def aW:Nat→Prop:=fun _=>False
theorem Ext.refl (M:Nat→Prop) (w:World):Ext M w w:=⟨rfl,rfl,rfl,bz _,fun _ _ _=>rfl⟩
theorem Ext.trans {M:Nat→Prop} {a b c:World} (h:Ext M a b) (k:Ext M b c):Ext M a c:=
  ⟨k.os.trans h.os,k.tape.trans h.tape,k.output.trans h.output,bE h.size k.size,
    fun i hi hm=>(k.block i (dM hi h.size) hm).trans (h.block i hi hm)⟩
theorem Ext.mono {M M':Nat→Prop} {a b:World} (h:Ext M a b) (hm:∀k,k < a.heap.size→M k→M' k):Ext M' a b:=
  ⟨h.os,h.tape,h.output,h.size,fun i hi hn=>h.block i hi (fun hM=>hn (hm i hi hM))⟩
theorem Ext.drew {M:Nat→Prop} {a b:World} (h:Ext M a b):Ext M a b.drew:=⟨h.os,h.tape,h.output,h.size,h.block⟩
theorem Ext.alloc (M:Nat→Prop) (w:World) (o:Obj):Ext M w (w.alloc o):=
  ⟨rfl,rfl,rfl,by simp,fun k hk _=>by show (w.heap.push o)[k]? =_;rw [Array.getElem?_push,if_neg (by omega)]⟩
theorem Ext.cell {M:Nat→Prop} {w w':World} (h:Ext M w w') {p:Addr} (hp:p.block < w.heap.size) (hm:¬M p.block):w'.cell? p=w.cell? p:=
  World.cell?_of_block (w:=w) (h.block p.block hp hm)
theorem Ext.cell_some {M:Nat→Prop} {w w':World} (h:Ext M w w') {p:Addr} {v:Value} (hc:w.cell? p=some v) (hm:¬M p.block):w'.cell? p=some v:=
  (h.cell (World.block_lt_of_cell? w p hc) hm).trans hc
theorem Ext.below {w w':World} (h:Ext aW w w'):Below w.heap.size w w':=
  ⟨h.os,h.tape,h.output,h.size,fun k hk=>h.block k hk (fun x=>x)⟩
theorem eJ (a:Act) (d t:Nat) (v:Value) (hd:d < a.tmps.size):be (a.put (some d) v) t=if t=d then v else be a t:=by
  unfold be Act.put;simp only [bG,nk];by_cases h:d=t
  · subst h;simp [hd]
  · rw [if_neg h,if_neg (fun e=>h e.symm)]
theorem mf (a:Act) (t:Nat) (v:Value):be (a.put none v) t=be a t:=rfl
theorem zw (a:Act) (d:Option Nat) (v:Value):(a.put d v).tmps.size=a.tmps.size:=by
  cases d <;> simp [Act.put]
theorem vF (a:Act) (d:Option Nat) (v:Value):(a.put d v).defers=a.defers:=by
  cases d <;> simp [Act.put]
theorem mg (a:Act) (t:Nat):a.eval (.tmp t)=be a t:=rfl
structure Spec (N:bj) where
  tag:Option Nat
  slot:Nat
  R:bj→bj→Value→World→Prop
  loc:∀Z Z' T v w w',(∀g,Z g→Z' g)→Ext (fun g=>N g∧¬T g∧¬Z g) w w'→R Z T v w→R Z' T v w'
  pur:Value→Prop:=fun _=>True
  fit:∀Z T v w,R Z T v w→pur v:=by exact fun _ _ _ _ _=>trivial
structure Ini (N:bj) where
  I:bj→bj→World→Prop
  loc:∀Z Z' T w w',(∀g,Z g→Z' g)→Ext (fun g=>N g∧¬T g∧¬Z g) w w'→I Z T w→I Z' T w'
def Ini.any (N:bj):Ini N:=⟨fun _ _ _=>True,fun _ _ _ _ _ _ _ h=>h⟩
def ia9_ {N:bj}:Ini N:=Ini.any N
def gO (τ:Nat→bj) (w:World):bj:=fun g=>g < w.heap.size∧∀t,¬τ t g
def qF (τ:Nat→bj) (t0:Nat) (T':bj):Nat→bj:=fun t g=>if t=t0 then T' g else τ t g
theorem Ext.less {N T Z:bj} {w w':World} (h:Ext (fun g=>N g∧¬T g∧¬Z g) w w'):Ext (fun g=>N g∧¬T g) w w':=h.mono fun _ _ h=>⟨h.1,h.2.1⟩
section
variable {N:bj} {P:Program} (ops:Array Oper) (sp:List (Spec N)) (ini:Nat→Ini N) (a0:Act) (w0:World)
structure J (done:Nat→Bool) (a:Act) (w:World) (τ:Nat→bj):Prop where
  defers:a.defers=a0.defers
  size:a.tmps.size=a0.tmps.size
  un:∀t,(∀i o,ops[i]? =some o→o.dst=some t→done i=false)→be a t=be a0 t
  ext:Ext N w0 w
  big:∀k,w.heap.size≤k→N k
  disj:∀s t g,τ s g→τ t g→s=t
  bnd:∀t g,τ t g→N g∧g < w.heap.size
  det:∀(j:Nat) (s:Spec N),sp[j]? =some s→s.tag=none→done j=true→s.R (gO τ w) aW (be a s.slot) w
  res:∀(j:Nat) (s:Spec N) (t:Nat),sp[j]? =some s→s.tag=some t→done j=true→(∀(k:Nat) (s':Spec N),sp[k]? =some s'→j < k→s'.tag=some t→done k=false)→s.R (gO τ w) (τ t) (be a s.slot) w
  ini:∀t,(∀(k:Nat) (s':Spec N),sp[k]? =some s'→s'.tag=some t→done k=false)→(ini t).I (gO τ w) (τ t) w
  pur:∀(j:Nat) (s:Spec N),sp[j]? =some s→done j=true→s.pur (be a s.slot)
def sk (s:Spec N) (a':Act) (τ:Nat→bj) (w w':World):Prop:=
  match s.tag with
  | none => Ext aW w w' ∧ s.R (gO τ w') aW (be a' s.slot) w'
  | some t => Ext (τ t) w w' ∧ ∃ T' : bj, (∀ g, T' g → τ t g ∨ (w.heap.size ≤ g ∧ g < w'.heap.size)) ∧ s.R (gO (qF τ t T') w') T' (be a' s.slot) w'
structure Cx (bf:List Nat) (j:Nat) (o:Oper) (done:Nat→Bool) (a:Act) (w:World) (τ:Nat→bj):Prop where
  J:J ops sp ini a0 w0 done a w τ
  hj:done j=false
  pre:∀i,(bf.getD j 0).testBit i=true→done i=true
  post:∀k,(bf.getD k 0).testBit j=true→done k=false
  lt:∀d,o.dst=some d→d < a.tmps.size
def Ob (P:Program) (bf:List Nat) (j:Nat) (o:Oper) (s:Spec N):Prop:=
  ∀done a w τ,Cx ops sp ini a0 w0 bf j o done a w τ→
    (Region.wanted o (yielded ops a.tmps)=true→o.wp P a w (fun a' w'=>∃v,a'=a.put o.dst v∧sk s a' τ w w') (fun _ _ _=>False))∧
    (Region.wanted o (yielded ops a.tmps)=false→sk s (a.put o.dst undef) τ w w)
def so (P:Program) (bf:List Nat):Nat→List Oper→List (Spec N)→Prop
  | _, [], [] => True
  | j, o :: l, s :: r => Ob ops sp ini a0 w0 P bf j o s ∧ so P bf (j + 1) l r
  | _, _, _ => False
def qy (ops:Array Oper) (n:Nat):Bool:=
  (List.range ops.size).all fun j=>match ops[j]? with
    | none => false
    | some o => o.after.all (fun e => !Region.binds .any e || e.on < j) &&
      (match o.dst with
       | none => true
       | some d => d < n && (List.range ops.size).all fun i => i == j || (match ops[i]? with | some o' => o'.dst != some d | none => true))
def uZ (ops:Array Oper) (bf:List Nat):Bool:=
  bf.length==ops.size&&(List.range ops.size).all fun j=>decide (bf.getD j 0 < 2 ^ j)&&match ops[j]? with
    | none => false
    | some o => (List.range ops.size).all fun i => !(bf.getD j 0).testBit i || o.after.any fun e => Region.binds .any e && (e.on == i || (bf.getD e.on 0).testBit i)
def qN (ops:Array Oper) (bf:List Nat) (slots:List Nat) (tags:List (Option Nat)):Bool:=
  slots.length==ops.size&&tags.length==ops.size&&
  (List.range ops.size).all fun j=>(List.range ops.size).all fun k=>
    (k==j || (match ops[k]? with | some o=>o.dst !=some (slots.getD j 0) || (bf.getD j 0).testBit k | none=>true))&&
    (!(j < k) || (match tags.getD j none with | none=>true | some t=>tags.getD k none !=some t || (bf.getD k 0).testBit j))
def cr (tags:List (Option Nat)) (t:Nat):Nat→Option Nat
  | 0 => none
  | j + 1 => if tags.getD j none = some t then some j else cr tags t j
def lX (tags:List (Option Nat)) (bf:List Nat) (t j:Nat):Bool:=
  (List.range tags.length).all fun k=>tags.getD k none !=some t || k==j || (k < j&&(bf.getD j 0).testBit k) || (j < k&&(bf.getD k 0).testBit j)
theorem nB {tags:List (Option Nat)} {t:Nat}:∀{j i:Nat},cr tags t j=some i→i < j∧tags.getD i none=some t∧∀k,i < k→k < j→tags.getD k none≠some t
  | 0, i, h => by simp [cr] at h
  | j + 1, i, h => by
    unfold cr at h;split at h
    · rename_i ht;obtain rfl:j=i:=by simpa using h
      exact ⟨bT _,ht,fun k h1 h2=>by omega⟩
    · rename_i ht;obtain ⟨h1,h2,h3⟩:=nB h;refine ⟨by omega,h2,fun k hk hk'=> ?_⟩;by_cases e:k=j
      · subst e;exact ht
      · exact h3 k hk (by omega)
theorem nC {tags:List (Option Nat)} {t:Nat}:∀{j:Nat},cr tags t j=none→∀k,k < j→tags.getD k none≠some t
  | 0, _, k, hk => by omega
  | j + 1, h, k, hk => by
    unfold cr at h;split at h
    · cases h
    · rename_i ht;by_cases e:k=j
      · subst e;exact ht
      · exact nC h k (by omega)
end
section
variable {N:bj} {P:Program} {ops:Array Oper} {sp:List (Spec N)} {ini:Nat→Ini N} {a0:Act} {w0:World} {done:Nat→Bool} {a:Act} {w:World} {τ:Nat→bj} {bf:List Nat} {j:Nat}
theorem lD {k:Nat} {s:Spec N} (h:sp[k]? =some s):(sp.map (·.tag)).getD k none=s.tag:=by
  simp [List.getD,h]
theorem ua {t:Nat} (h:lX (sp.map (·.tag)) bf t j=true) {k:Nat} {s:Spec N} (hs:sp[k]? =some s) (ht:s.tag=some t):
    k=j∨(k < j∧(bf.getD j 0).testBit k=true)∨(j < k∧(bf.getD k 0).testBit j=true):=by
  unfold lX at h;rw [cI] at h;have hk:k < sp.length:=(List.getElem?_eq_some_iff.1 hs).1
  have:=h k (by simpa using hk);rw [lD hs,ht] at this
  simp only [bne_self_eq_false,jX,aR,au,ai,beq_iff_eq] at this
  rcases this with (h | h) | h
  · exact .inl h
  · exact .inr (.inl h)
  · exact .inr (.inr h)
theorem J.cur (hJ:J ops sp ini a0 w0 done a w τ) (hj:done j=false) (hpost:∀k,(bf.getD k 0).testBit j=true→done k=false) (hpre:∀i,(bf.getD j 0).testBit i=true→done i=true)
    (t i:Nat) (s:Spec N) (hi:cr (sp.map (·.tag)) t j=some i) (hord:lX (sp.map (·.tag)) bf t j=true) (hs:sp[i]? =some s):s.R (gO τ w) (τ t) (be a s.slot) w:=by
  obtain ⟨h1,h2,h3⟩:=nB hi;have ht:s.tag=some t:=by rw [←lD hs];exact h2
  refine hJ.res i s t hs ht ?_ ?_
  · rcases ua hord hs ht with h | ⟨_,h⟩ | ⟨h,_⟩
    · omega
    · exact hpre _ h
    · omega
  · intro k s' hs' hk ht';rcases ua hord hs' ht' with h | ⟨h,_⟩ | ⟨_,h⟩
    · subst h;exact hj
    · exact absurd (by rw [lD hs'];exact ht') (h3 k hk h)
    · exact hpost _ h
theorem J.cur0 (hJ:J ops sp ini a0 w0 done a w τ) (hj:done j=false) (hpost:∀k,(bf.getD k 0).testBit j=true→done k=false)
    (t:Nat) (hi:cr (sp.map (·.tag)) t j=none) (hord:lX (sp.map (·.tag)) bf t j=true):(ini t).I (gO τ w) (τ t) w:=by
  refine hJ.ini t fun k s' hs' ht'=> ?_;rcases ua hord hs' ht' with h | ⟨h,_⟩ | ⟨_,h⟩
  · subst h;exact hj
  · exact absurd (by rw [lD hs'];exact ht') (nC hi k h)
  · exact hpost _ h
def Cq (ops:Array Oper) (bf:List Nat) (j t:Nat):Bool:=
  (List.range ops.size).all fun k=>match ops[k]? with | some o=>o.dst !=some t || k==j || (bf.getD k 0).testBit j | none=>true
theorem J.old (hJ:J ops sp ini a0 w0 done a w τ) (hj:done j=false) (hpost:∀k,(bf.getD k 0).testBit j=true→done k=false) (t:Nat) (h:Cq ops bf j t=true):be a t=be a0 t:=by
  refine hJ.un t fun i o hi hd=> ?_;unfold Cq at h;rw [cI] at h;have:=h i (by simpa using (Array.getElem?_eq_some_iff.1 hi).1);simp only [hi,hd,bne_self_eq_false,jX,aR,beq_iff_eq] at this
  rcases this with h | h
  · subst h;exact hj
  · exact hpost _ h
end
section
variable {N:bj} {P:Program} {ops:Array Oper} {sp:List (Spec N)} {ini:Nat→Ini N} {a0:Act} {w0:World} {bf:List Nat} {n:Nat}
theorem kA (h:qy ops n=true) {j:Nat} {o:Oper} (ho:ops[j]? =some o):
    (∀e ∈ o.after,Region.binds .any e=true→e.on < j)∧∀d,o.dst=some d→d < n∧∀(i:Nat) (o':Oper),ops[i]? =some o'→i≠j→o'.dst≠some d:=by
  unfold qy at h;rw [cI] at h;have:=h j (by simpa using (Array.getElem?_eq_some_iff.1 ho).1);simp only [ho,au,Array.all_eq_true_iff_forall_mem,aR,ar,ai] at this
  refine ⟨fun e he hb=>(this.1 e he).resolve_left (by simp [hb]),fun d hd=> ?_⟩;have h2:=this.2;simp only [hd,au,ai,cI,List.mem_range,aR,beq_iff_eq] at h2;refine ⟨h2.1,fun i o' hi hne hd'=> ?_⟩;have:=h2.2 i (Array.getElem?_eq_some_iff.1 hi).1;simp [hi,hd',hne] at this
theorem xt (h:uZ ops bf=true) {j i:Nat} (hb:(bf.getD j 0).testBit i=true):
    i < j∧j < ops.size∧∃o,ops[j]? =some o∧∃e ∈ o.after,Region.binds .any e=true∧(e.on=i∨(bf.getD e.on 0).testBit i=true):=by
  unfold uZ at h;rw [au,cI,beq_iff_eq] at h;have hj:j < ops.size:=by
    rw [←h.1];apply Nat.lt_of_not_le;intro hle;rw [List.getD,mC hle] at hb;simp at hb
  have:=h.2 j (by simpa using hj);rw [au,ai] at this
  obtain ⟨hlt,this⟩:=this
  have hi:i < j:=by
    apply Nat.lt_of_not_le;intro hle;have:(bf.getD j 0).testBit i=false:=Nat.testBit_lt_two_pow (dM hlt (Nat.pow_le_pow_right (by omega) hle));rw [this] at hb;cases hb
  refine ⟨hi,hj,?_⟩;split at this
  · cases this
  · rename_i o ho;refine ⟨o,ho,?_⟩;rw [cI] at this
    have:=this i (by simp;omega)
    simp only [hb,mP,jX] at this
    rw [←Array.any_toList,List.any_eq_true] at this
    obtain ⟨e,he,h2⟩:=this
    simp only [au,aR,beq_iff_eq] at h2;exact ⟨e,by simpa using he,h2⟩
theorem xu (h:qN ops bf (sp.map (·.slot)) (sp.map (·.tag))=true) {j k:Nat} {s:Spec N} (hj:j < ops.size) (hk:k < ops.size) (hs:sp[j]? =some s):
    (∀o,ops[k]? =some o→o.dst=some s.slot→k≠j→(bf.getD j 0).testBit k=true)∧
    (∀s' t,j < k→sp[k]? =some s'→s.tag=some t→s'.tag=some t→(bf.getD k 0).testBit j=true):=by
  unfold qN at h;rw [au,cI] at h;have:=h.2 j (by simpa using hj);rw [cI] at this
  have:=this k (by simpa using hk)
  rw [au] at this
  obtain ⟨h1,h2⟩:=this
  refine ⟨fun o ho hd hne=> ?_,fun s' t hlt hs' ht ht'=> ?_⟩
  · simpa [ho,hd,List.getD,hs,hne] using h1
  · rw [lD hs,ht] at h2;simp only [hlt,decide_true,mP,jX] at h2;rw [lD hs',ht'] at h2;simpa using h2
def sq (ops:Array Oper) (done:Nat→Bool):Prop:=∀(j:Nat) (o:Oper),ops[j]? =some o→done j=true→∀e ∈ o.after,Region.binds .any e=true→done e.on=true
theorem oX (hok:qy ops n=true) (hbf:uZ ops bf=true) {done:Nat→Bool} (hc:sq ops done):
    ∀(m j:Nat),j≤m→(∀o,ops[j]? =some o→∀e ∈ o.after,Region.binds .any e=true→done e.on=true)→∀i,(bf.getD j 0).testBit i=true→done i=true:=by
  intro m;induction m with
  | zero =>
    intro j hj h i hb;have:=(xt hbf hb).1;omega
  | succ m ih =>
    intro j hj h i hb;obtain ⟨_,_,o,ho,e,he,hbi,h2⟩:=xt hbf hb;have hd:=h o ho e he hbi;rcases h2 with h2 | h2
    · rw [←h2];exact hd
    · have hlt:=(kA hok ho).1 e he hbi;exact ih e.on (by omega) (fun o' ho'=>hc e.on o' ho' hd) i h2
theorem J.step (hok:qy ops a0.tmps.size=true) (hbf:uZ ops bf=true) (hsp:qN ops bf (sp.map (·.slot)) (sp.map (·.tag))=true)
    {done:Nat→Bool} {a:Act} {w w':World} {τ:Nat→bj} {j:Nat} {o:Oper} {s:Spec N} {v:Value}
    (hJ:J ops sp ini a0 w0 done a w τ) (hc:sq ops done) (hj:done j=false) (ho:ops[j]? =some o) (hs:sp[j]? =some s)
    (hstep:sk s (a.put o.dst v) τ w w'):∃τ',J ops sp ini a0 w0 (fun i=>i==j || done i) (a.put o.dst v) w' τ':=by
  have hjs:j < ops.size:=(Array.getElem?_eq_some_iff.1 ho).1
  have clos:∀i k,done i=true→(bf.getD i 0).testBit k=true→done k=true:=fun i k hd hb=>
    oX hok hbf hc i i (bz _) (fun o' ho'=>hc i o' ho' hd) k hb
  -- a place of another operation is not written
  have keep:∀i s',sp[i]? =some s'→i < ops.size→done i=true→be (a.put o.dst v) s'.slot=be a s'.slot:=by
    intro i s' hs' hi hd;cases hdst:o.dst with
    | none => rfl
    | some d =>
      have hlt:=((kA hok ho).2 d hdst).1;rw [eJ a d s'.slot v (by rw [hJ.size];exact hlt)];rw [if_neg];intro e;have:=(xu hsp hi hjs hs').1 o ho (by rw [hdst,e]) (fun e'=>by rw [e',hd] at hj;cases hj);rw [clos i j hd this] at hj;cases hj
  have hlen:sp.length=ops.size:=by
    unfold qN at hsp;simp only [au,gr,beq_iff_eq] at hsp;exact hsp.1.1
  have spl:∀i s',sp[i]? =some s'→i < ops.size:=fun i s' h=>by
    rw [←hlen];exact (List.getElem?_eq_some_iff.1 h).1
  have un':∀t,(∀i o',ops[i]? =some o'→o'.dst=some t→(i==j || done i)=false)→be (a.put o.dst v) t=be a0 t:=by
    intro t ht;have hne:o.dst≠some t:=fun e=>by have:=ht j o ho e;simp at this
    rw [←hJ.un t (fun i o' hi hd=>by have:=ht i o' hi hd;simp at this;exact this.2)];cases hdst:o.dst with
    | none => rfl
    | some d =>
      have hlt:=((kA hok ho).2 d hdst).1;rw [eJ a d t v (by rw [hJ.size];exact hlt),if_neg (fun e=>hne (by rw [hdst,e]))]
  have dn:∀k,(k==j || done k)=false→done k=false:=fun k h=>by simp at h;exact h.2
  have purR:(True→s.pur (be (a.put o.dst v) s.slot))→∀(i:Nat) (s':Spec N),sp[i]? =some s'→(i==j || done i)=true→s'.pur (be (a.put o.dst v) s'.slot):=by
    intro hp i s' hs' hd;by_cases e:i=j
    · subst e;rw [hs] at hs';cases hs'
      exact hp trivial
    · have hd':done i=true:=by simpa [e] using hd
      rw [keep i s' hs' (spl i s' hs') hd'];exact hJ.pur i s' hs' hd'
  unfold sk at hstep;cases htag:s.tag with
  | none =>
    rw [htag] at hstep;obtain ⟨he,hR⟩:=hstep;have hzz:∀g,gO τ w g→gO τ w' g:=fun g h=>⟨dM h.1 he.size,h.2⟩;refine ⟨τ,(vF _ _ _).trans hJ.defers,(zw _ _ _).trans hJ.size,un',hJ.ext.trans (he.mono fun _ _ h=>h.elim),fun k hk=>hJ.big k (bE he.size hk),hJ.disj,
      fun t g h=>⟨(hJ.bnd t g h).1,dM (hJ.bnd t g h).2 he.size⟩,?_,?_,?_,purR (fun T=>s.fit _ _ _ _ hR)⟩
    · intro i s' hs' ht' hd;by_cases e:i=j
      · subst e;rw [hs] at hs';cases hs'
        exact hR
      · have hd':done i=true:=by simpa [e] using hd
        rw [keep i s' hs' (spl i s' hs') hd'];exact s'.loc _ _ _ _ _ _ hzz (he.mono fun _ _ h=>h.elim) (hJ.det i s' hs' ht' hd')
    · intro i s' t hs' ht' hd hcur;have e:i≠j:=fun e=>by subst e;rw [hs] at hs';cases hs';rw [htag] at ht';cases ht'
      have hd':done i=true:=by simpa [e] using hd
      rw [keep i s' hs' (spl i s' hs') hd'];exact s'.loc _ _ _ _ _ _ hzz (he.mono fun _ _ h=>h.elim) (hJ.res i s' t hs' ht' hd' (fun k s'' hk hlt hkt=>dn k (hcur k s'' hk hlt hkt)))
    · intro t hcur;exact (ini t).loc _ _ _ _ _ hzz (he.mono fun _ _ h=>h.elim) (hJ.ini t (fun k s' hk hkt=>dn k (hcur k s' hk hkt)))
  | some t0 =>
    rw [htag] at hstep;obtain ⟨he,T',hT',hR⟩:=hstep;have stab:∀t,t≠t0→Ext (fun g=>N g∧¬τ t g∧¬gO τ w g) w w':=fun t hne=>he.mono fun k _ h=>⟨(hJ.bnd t0 k h).1,fun h'=>hne (hJ.disj t t0 k h' h),fun hz=>hz.2 t0 h⟩;have hzz:∀g,gO τ w g→gO (qF τ t0 T') w' g:=fun g h=>⟨dM h.1 he.size,fun t ht=>by
      unfold qF at ht;split at ht
      · rcases hT' g ht with h' | h'
        · exact h.2 t0 h'
        · have:=h.1;omega
      · exact h.2 t ht⟩
    refine ⟨qF τ t0 T',(vF _ _ _).trans hJ.defers,(zw _ _ _).trans hJ.size,un',hJ.ext.trans (he.mono fun k _ h=>(hJ.bnd t0 k h).1),fun k hk=>hJ.big k (bE he.size hk),?_,?_,?_,?_,?_,purR (fun T=>s.fit _ _ _ _ hR)⟩
    · intro s1 s2 g h1 h2;by_cases e1:s1=t0 <;> by_cases e2:s2=t0
      · rw [e1,e2]
      · simp only [qF,e1,e2,if_true,if_false] at h1 h2;rcases hT' g h1 with h | h
        · rw [e1];exact hJ.disj t0 s2 g h h2
        · have:=(hJ.bnd s2 g h2).2;omega
      · simp only [qF,e1,e2,if_true,if_false] at h1 h2;rcases hT' g h2 with h | h
        · rw [e2];exact hJ.disj s1 t0 g h1 h
        · have:=(hJ.bnd s1 g h1).2;omega
      · simp only [qF,e1,e2,if_false] at h1 h2;exact hJ.disj s1 s2 g h1 h2
    · intro t g h;by_cases e:t=t0
      · simp only [qF,e,if_true] at h;rcases hT' g h with h | h
        · exact ⟨(hJ.bnd t0 g h).1,dM (hJ.bnd t0 g h).2 he.size⟩
        · exact ⟨hJ.big g h.1,h.2⟩
      · simp only [qF,e,if_false] at h;exact ⟨(hJ.bnd t g h).1,dM (hJ.bnd t g h).2 he.size⟩
    · intro i s' hs' ht' hd;have e:i≠j:=fun e=>by subst e;rw [hs] at hs';cases hs';rw [htag] at ht';cases ht'
      have hd':done i=true:=by simpa [e] using hd
      rw [keep i s' hs' (spl i s' hs') hd'];exact s'.loc _ _ _ _ _ _ hzz (he.mono fun k _ h=>⟨(hJ.bnd t0 k h).1,fun x=>x,fun hz=>hz.2 t0 h⟩) (hJ.det i s' hs' ht' hd')
    · intro i s' t hs' ht' hd hcur;by_cases e:i=j
      · subst e;rw [hs] at hs';cases hs'
        rw [htag] at ht';cases ht'
        have e1:qF τ t0 T' t0=T':=by funext g;simp [qF]
        rw [e1];exact hR
      · have hd':done i=true:=by simpa [e] using hd
        have hne:t≠t0:=by
          intro et;subst et;rcases lZ i j with h | h | h
          · have:=hcur j s hs h htag;simp at this
          · exact e h
          · have:=(xu hsp hjs (spl i s' hs') hs).2 s' t h hs' htag ht';rw [clos i j hd' this] at hj;cases hj
        rw [keep i s' hs' (spl i s' hs') hd'];have e1:qF τ t0 T' t=τ t:=by funext g;simp [qF,hne]
        rw [e1];exact s'.loc _ _ _ _ _ _ hzz (stab t hne) (hJ.res i s' t hs' ht' hd' (fun k s'' hk hlt hkt=>dn k (hcur k s'' hk hlt hkt)))
    · intro t hcur;have hne:t≠t0:=fun et=>by have:=hcur j s hs (by rw [htag,et]);simp at this
      have e1:qF τ t0 T' t=τ t:=by funext g;simp [qF,hne]
      rw [e1];exact (ini t).loc _ _ _ _ _ hzz (stab t hne) (hJ.ini t (fun k s' hk hkt=>dn k (hcur k s' hk hkt)))
theorem DA {o:Oper} {a:Act} {w:World} {K K':Act→World→Prop} {Q:Exit→Act→World→Prop} (h:∀a w,K a w→K' a w)
    (hh:o.wp P a w K (fun _ _ _=>False)):o.wp P a w K' Q:=by
  unfold Oper.wp at *;generalize (execOp a.eval o).run P w=r at *;cases r with
  | ok n w' =>
    cases n <;> simp only [Oper.upon] at hh ⊢ <;>
      first
        | exact h _ _ hh
        | exact Calls.mono hh (fun e w'' he => by
            cases e with
            | returned v => exact h _ _ he
            | panicked c => exact he.elim
            | outgrown => obtain ⟨_, _, h'⟩ := he; exact h'.elim)
        | exact Rows.mono hh (fun _ _ he => h _ _ he)
  | halt x w' => cases x <;> simp only [Oper.upon] at hh
theorem vG (hok:qy ops a0.tmps.size=true) (hbf:uZ ops bf=true) (hsp:qN ops bf (sp.map (·.slot)) (sp.map (·.tag))=true)
    {Q:Exit→Act→World→Prop} {done:Nat→Bool} {a:Act} {w:World} {τ:Nat→bj} {j:Nat} {o:Oper} {s:Spec N} {K:Act→World→Prop}
    (hJ:J ops sp ini a0 w0 done a w τ) (hc:sq ops done) (hj:done j=false) (ho:ops[j]? =some o) (hs:sp[j]? =some s)
    (hpre:∀e ∈ o.after,Region.binds .any e=true→done e.on=true) (hob:Ob ops sp ini a0 w0 P bf j o s)
    (hK:∀a' w' τ',J ops sp ini a0 w0 (fun i=>i==j || done i) a' w' τ'→K a' w'):wpOp P ops Q j K a w:=by
  have p1:∀i,(bf.getD j 0).testBit i=true→done i=true:=oX hok hbf hc j j (bz _) (fun o' ho'=>by rw [ho] at ho';cases ho';exact hpre);have p2:∀k,(bf.getD k 0).testBit j=true→done k=false:=fun k hb=>by
    cases hd:done k with
    | false => rfl
    | true =>
      have:=oX hok hbf hc k k (bz _) (fun o' ho'=>hc k o' ho' hd) j hb;rw [hj] at this;cases this
  obtain ⟨h1,h2⟩:=hob done a w τ ⟨hJ,hj,p1,p2,fun d hd=>by rw [hJ.size];exact ((kA hok ho).2 d hd).1⟩;unfold wpOp;rw [ho];simp only [];by_cases hw:Region.wanted o (yielded ops a.tmps)=true
  · rw [if_pos hw];refine .inl (DA (fun a' w' hh=> ?_) (h1 hw));obtain ⟨v,rfl,hstep⟩:=hh;obtain ⟨τ',hJ'⟩:=hJ.step hok hbf hsp hc hj ho hs hstep;exact hK _ _ _ hJ'
  · rw [if_neg hw];obtain ⟨τ',hJ'⟩:=hJ.step hok hbf hsp hc hj ho hs (h2 (by simpa using hw));exact hK _ _ _ hJ'
theorem sr:∀{l:List Oper} {r:List (Spec N)} {k:Nat},so ops sp ini a0 w0 P bf k l r→∀(i:Nat) (o:Oper) (s:Spec N),l[i]? =some o→r[i]? =some s→Ob ops sp ini a0 w0 P bf (k+i) o s
  | [], [], _, _, i, o, s, ho, _ => by simp at ho
  | o' :: l, s' :: r, k, h, 0, o, s, ho, hs => by
    simp at ho hs;subst ho;subst hs;exact h.1
  | o' :: l, s' :: r, k, h, i + 1, o, s, ho, hs => by
    have:=sr h.2 i o s (by simpa using ho) (by simpa using hs);rwa [show k+(i+1)=k+1+i by omega]
theorem Bm {done:Nat→Bool} {j:Nat} {o:Oper} (hc:sq ops done) (ho:ops[j]? =some o) (hpre:∀e ∈ o.after,Region.binds .any e=true→done e.on=true):sq ops (fun i=>i==j || done i):=by
  intro i o' hi hd e he hb;show (e.on==j || done e.on)=true;by_cases h:i=j
  · subst h;rw [ho] at hi;cases hi
    simp [hpre e he hb]
  · have:done i=true:=by simpa [h] using hd
    simp [hc i o' hi this e he hb]
theorem Kz (hok:qy ops a0.tmps.size=true) (hbf:uZ ops bf=true) (hsp:qN ops bf (sp.map (·.slot)) (sp.map (·.tag))=true)
    {Q:Exit→Act→World→Prop} (obs:∀(j:Nat) (o:Oper) (s:Spec N),ops[j]? =some o→sp[j]? =some s→Ob ops sp ini a0 w0 P bf j o s)
    (fin:∀a w τ,J ops sp ini a0 w0 (fun _=>true) a w τ→Q .normal a w):∀(fuel:Nat) (listed:Array Bool) (a:Act) (w:World) (τ:Nat→bj),
      (List.range ops.size).countP (fun i=> !listed.getD i true)≤fuel→listed.size=ops.size→J ops sp ini a0 w0 (fun i=>listed.getD i true) a w τ→sq ops (fun i=>listed.getD i true)→wpAny P .any ops Q fuel listed a w:=by
  have hlen:sp.length=ops.size:=by
    unfold qN at hsp;simp only [au,gr,beq_iff_eq] at hsp;exact hsp.1.1
  have allDone:∀(listed:Array Bool),listed.size=ops.size→Region.ready .any ops listed=[]→∀m i,i≤m→listed.getD i true=true:=by
    intro listed hsz hr m;induction m with
    | zero =>
      intro i hi;by_cases hlt:i < ops.size
      · cases hg:listed.getD i true with
        | true => rfl
        | false =>
          exfalso;have:i ∈ Region.ready .any ops listed:=mem_ready.2 ⟨hg,ops[i],by simp [hlt],fun e he hb=>by
            have:=(kA hok (j:=i) (o:=ops[i]) (by simp [hlt])).1 e he hb;omega⟩
          rw [hr] at this;cases this
      · simp [bG,Array.getElem?_eq_none (show listed.size≤i by omega)]
    | succ m ih =>
      intro i hi;by_cases hlt:i < ops.size
      · cases hg:listed.getD i true with
        | true => rfl
        | false =>
          exfalso;have:i ∈ Region.ready .any ops listed:=mem_ready.2 ⟨hg,ops[i],by simp [hlt],fun e he hb=>by
            have h1:=(kA hok (j:=i) (o:=ops[i]) (by simp [hlt])).1 e he hb;have h2:=ih e.on (by omega);rw [bG] at h2 ⊢;have h3:e.on < listed.size:=by omega
            simpa [oB h3] using h2⟩
          rw [hr] at this;cases this
      · simp [bG,Array.getElem?_eq_none (show listed.size≤i by omega)]
  have finish:∀(listed:Array Bool) (a:Act) (w:World) (τ:Nat→bj),listed.size=ops.size→Region.ready .any ops listed=[]→J ops sp ini a0 w0 (fun i=>listed.getD i true) a w τ→Q .normal a w:=by
    intro listed a w τ hsz hr hJ;refine fin a w τ ?_;rwa [show (fun i=>listed.getD i true)=(fun _=>true) from funext fun i=>allDone listed hsz hr i i (bz _)] at hJ
  intro fuel;induction fuel with
  | zero =>
    intro listed a w τ hcount hsz hJ hc;have hr:Region.ready .any ops listed=[]:=by
      cases hrr:Region.ready .any ops listed with
      | nil => rfl
      | cons x xs =>
        exfalso;have hx:x ∈ Region.ready .any ops listed:=by rw [hrr];exact List.mem_cons_self
        obtain ⟨h1,o,ho,_⟩:=mem_ready.1 hx;have hpos:0 < (List.range ops.size).countP (fun i=> !listed.getD i true):=
          List.countP_pos_iff.2 ⟨x,by simpa using (Array.getElem?_eq_some_iff.1 ho).1,by simp only [h1,ma]⟩
        omega
    exact ⟨hr,finish listed a w τ hsz hr hJ⟩
  | succ fuel ih =>
    intro listed a w τ hcount hsz hJ hc;refine ⟨fun hr=>finish listed a w τ hsz hr hJ,fun j hjr=> ?_⟩;obtain ⟨hj,o,ho,hpre⟩:=mem_ready.1 hjr;have hjs:j < ops.size:=(Array.getElem?_eq_some_iff.1 ho).1
    have hpre':∀e ∈ o.after,Region.binds .any e=true→listed.getD e.on true=true:=fun e he hb=>by
      have h1:=hpre e he hb;have h2:=(kA hok ho).1 e he hb;rw [bG] at h1 ⊢;have h3:e.on < listed.size:=by omega
      simpa [oB h3] using h1
    have hset:(fun i=>(listed.setIfInBounds j true).getD i true)=(fun i=>i==j || listed.getD i true):=by
      funext i;simp only [bG,nk];by_cases h:j=i
      · subst h;simp [hsz,hjs]
      · have:(i==j)=false:=by simp;exact fun e=>h e.symm
        simp [h,this]
    refine vG hok hbf hsp hJ hc hj ho (s:=sp[j]'(by omega)) (by simp [hlen,hjs]) hpre' (obs j o _ ho (by simp [hlen,hjs])) ?_;intro a' w' τ' hJ';refine ih _ a' w' τ' ?_ (by simpa using hsz) (by rw [hset];exact hJ') (by rw [hset];exact Bm hc ho hpre');have hlt:(List.range ops.size).countP (fun i=> !(listed.setIfInBounds j true).getD i true) < (List.range ops.size).countP (fun i=> !listed.getD i true):=by
      have e1:(fun i=> !(listed.setIfInBounds j true).getD i true)=(fun i=> !(i==j || listed.getD i true)):=by
        funext i;rw [congrFun hset i]
      rw [e1];have hjm:j ∈ List.range ops.size:=by simpa using hjs
      generalize List.range ops.size=l at hjm;clear hcount ih;induction l with
      | nil => cases hjm
      | cons x l ihl =>
        simp only [pm];have hle:l.countP (fun i=> !(i==j || listed.getD i true))≤l.countP (fun i=> !listed.getD i true):=
          List.countP_mono_left fun y _ hy=>by
            simp only [ar,aG] at hy ⊢;exact hy.2
        by_cases hx:x=j
        · subst hx;simp only [beq_self_eq_true,Bool.true_or,mP,hj,ma,if_true];simp only [Bool.false_eq_true,if_false];omega
        · have hjl:j ∈ l:=by
            rcases List.mem_cons.1 hjm with h | h
            · exact absurd h.symm hx
            · exact h
          have:=ihl hjl;have hb:(x==j)=false:=by simp [hx]
          simp only [hb,jX];split <;> omega
    omega
theorem Cr (hok:qy ops a0.tmps.size=true) (hbf:uZ ops bf=true) (hsp:qN ops bf (sp.map (·.slot)) (sp.map (·.tag))=true)
    {Q:Exit→Act→World→Prop} (obs:∀(j:Nat) (o:Oper) (s:Spec N),ops[j]? =some o→sp[j]? =some s→Ob ops sp ini a0 w0 P bf j o s)
    (fin:∀a w τ,J ops sp ini a0 w0 (fun i=>decide (i < ops.size)) a w τ→Q .normal a w):∀(m k:Nat) (a:Act) (w:World) (τ:Nat→bj),m+k=ops.size→J ops sp ini a0 w0 (fun i=>decide (i < k)) a w τ→wpOps P ops Q (List.range' k m) a w:=by
  have hlen:sp.length=ops.size:=by
    unfold qN at hsp;simp only [au,gr,beq_iff_eq] at hsp;exact hsp.1.1
  intro m;induction m with
  | zero =>
    intro k a w τ hk hJ;simp only [List.range'_zero,wpOps];exact fin a w τ (by rwa [show ops.size=k by omega])
  | succ m ih =>
    intro k a w τ hk hJ;have hks:k < ops.size:=by omega
    rw [po,wpOps_cons];have ho:ops[k]? =some ops[k]:=by simp [hks]
    have hpre:∀e ∈ ops[k].after,Region.binds .any e=true→decide (e.on < k)=true:=fun e he hb=>by simpa using (kA hok ho).1 e he hb
    have hc:sq ops (fun i=>decide (i < k)):=fun i o' hi hd e he hb=>by
      have:=(kA hok hi).1 e he hb;simp only [ai] at hd ⊢;omega
    refine vG hok hbf hsp hJ hc (by simp) ho (s:=sp[k]'(by omega)) (by simp [hlen,hks]) hpre (obs k _ _ ho (by simp [hlen,hks])) ?_;intro a' w' τ' hJ';refine ih (k+1) a' w' τ' (by omega) ?_;rwa [show (fun i=>decide (i < k+1))=(fun i=>i==k || decide (i < k)) from funext fun i=>by
      rw [eZ];simp;omega]
theorem J.start {τ:Nat→bj} (hb:∀k,w0.heap.size≤k→N k) (hdis:∀s t g,τ s g→τ t g→s=t) (hbnd:∀t g,τ t g→N g∧g < w0.heap.size)
    (hini:∀t,(ini t).I (gO τ w0) (τ t) w0) {w:World} (hw:w=w0∨w=w0.drew) {done:Nat→Bool} (hd:∀i,i < sp.length→done i=false):J ops sp ini a0 w0 done a0 w τ:=by
  have hx:Ext N w0 w0:=Ext.refl _ _;have no:∀(j:Nat) (s:Spec N),sp[j]? =some s→done j=true→False:=fun j s hs hd'=>by
    rw [hd j (List.getElem?_eq_some_iff.1 hs).1] at hd';cases hd'
  rcases hw with rfl | rfl
  · exact ⟨rfl,rfl,fun _ _=>rfl,hx,hb,hdis,hbnd,fun j s hs _ h=>(no j s hs h).elim,fun j s _ hs _ h=>(no j s hs h).elim,fun t _=>hini t,fun j s hs h=>(no j s hs h).elim⟩
  · exact ⟨rfl,rfl,fun _ _=>rfl,hx.drew,hb,hdis,hbnd,fun j s hs _ h=>(no j s hs h).elim,fun j s _ hs _ h=>(no j s hs h).elim,fun t _=>(ini t).loc _ _ _ _ _ (fun _ h=>h) (Ext.refl _ _).drew (hini t),fun j s hs h=>(no j s hs h).elim⟩
end
section
variable {N:bj} {P:Program} {l:List Oper} {sp:List (Spec N)} {ini:Nat→Ini N} {a0:Act} {w0:World} {bf:List Nat}
theorem EM {id:Nat} {draw:Bool} (hm:P.follows .mixedOrders=true) (hok:(qy l.toArray a0.tmps.size&&uZ l.toArray bf&&qN l.toArray bf (sp.map (·.slot)) (sp.map (·.tag)))=true)
    {Q:Exit→Act→World→Prop} {τ:Nat→bj} (hb:∀k,w0.heap.size≤k→N k) (hdis:∀s t g,τ s g→τ t g→s=t) (hbnd:∀t g,τ t g→N g∧g < w0.heap.size) (hini:∀t,(ini t).I (gO τ w0) (τ t) w0)
    (obs:so l.toArray sp ini a0 w0 P bf 0 l sp)
    (fin:∀done a w τ,(∀i,i < l.length→done i=true)→J l.toArray sp ini a0 w0 done a w τ→Q .normal a w):(Code.region id l.toArray draw).wp P Q a0 w0:=by
  rw [au,au] at hok;obtain ⟨⟨h1,h2⟩,h3⟩:=hok;have obs':∀(j:Nat) (o:Oper) (s:Spec N),l.toArray[j]? =some o→sp[j]? =some s→Ob l.toArray sp ini a0 w0 P bf j o s:=fun j o s ho hs=>by
    have:=sr obs j o s (by simpa using ho) hs;rwa [gw] at this
  cases draw with
  | true =>
    refine wp_region_any hm ?_;refine Kz h1 h2 h3 obs' (fun a w τ hJ=>fin _ a w τ (fun _ _=>rfl) hJ) l.toArray.size _ a0 _ τ ?_ (by simp) ?_ ?_
    · have:=List.countP_le_length (p:=fun i=> !(Array.replicate l.toArray.size false).getD i true) (l:=List.range l.toArray.size);simpa using this
    · refine J.start hb hdis hbnd hini (.inr rfl) fun i hi=> ?_;unfold qN at h3;simp only [au,gr,beq_iff_eq] at h3;have:i < l.length:=by have:=h3.1.1;simp at this;omega
      simp [bG,this]
    · intro j o ho hd;have hlt:j < l.length:=by simpa using (Array.getElem?_eq_some_iff.1 ho).1
      simp [bG,hlt] at hd
  | false =>
    refine wp_region ?_;rw [List.range_eq_range'];refine Cr h1 h2 h3 obs' (fun a w τ hJ=>fin _ a w τ (fun i hi=>by simpa using hi) hJ) l.toArray.size 0 a0 w0 τ rfl ?_;exact J.start hb hdis hbnd hini (.inl rfl) fun i _=>by simp
end
end
section
open Go.RowKit
def cA (P:Program) (a:Act) (o:Oper) (w:World) (v:Value):Prop:=(execOp a.eval o).run P w= .ok (.value v) w
def ee:Value→Addr
  | .slice (some a) _ _ => a
  | .pointer (some a) => a
  | _ => ⟨0, 0, none⟩
def pw (v:Value) (n:Nat):Prop:=(v= .slice none 0 0∧n=0)∨∃b cap,v= .slice (some b) n cap∧n≤cap∧cap≤maxLen
section
variable {P:Program} {a:Act} {o:Oper} {w:World}
theorem aS {x:Operand} {v:Value} (ho:o.op= .move x) (h:a.eval x=v):cA P a o w v:=by
  subst h;simp [cA,execOp,ho]
theorem ax {x:Operand} {v:Value} (ho:o.op= .assign x) (h:a.eval x=v):cA P a o w v:=by
  subst h;simp [cA,execOp,ho]
theorem fg {c x y:Operand} {b:Bool} {v:Value} (ho:o.op= .pick c x y) (hc:a.eval c= .bool b) (h1:b=true→a.eval x=v) (h2:b=false→a.eval y=v):cA P a o w v:=by
  cases b
  · simp [cA,execOp,ho,hc,asBool,h2]
  · simp [cA,execOp,ho,hc,asBool,h1]
theorem oK {c x:Operand} {b b':Bool} (ho:o.op= .pick c x (.const (.bool false))) (hc:a.eval c= .bool b) (h1:b=true→a.eval x= .bool b'):cA P a o w (.bool (b&&b')):=
  fg ho hc (fun h=>by rw [h1 h,h,jY]) (fun h=>by rw [h,Bool.false_and];rfl)
theorem pT {c x:Operand} {b b':Bool} (ho:o.op= .pick c (.const (.bool true)) x) (hc:a.eval c= .bool b) (h1:b=false→a.eval x= .bool b'):cA P a o w (.bool (b || b')):=
  fg ho hc (fun h=>by rw [h,Bool.true_or];rfl) (fun h=>by rw [h1 h,h,jX])
section ints
variable {t t':TypeId} {x y:Operand} {k:IntKind} {p q:Int}
theorem cW (ho:o.op= .binOp .lss t x y t') (hx:a.eval x= .int k p) (hy:a.eval y= .int k q):cA P a o w (.bool (decide (p < q))):=by
  simp [cA,execOp,ho,hx,hy,eqGuard,binOp,Op.intCmp]
theorem mX (ho:o.op= .binOp .leq t x y t') (hx:a.eval x= .int k p) (hy:a.eval y= .int k q):cA P a o w (.bool (decide (p≤q))):=by
  simp [cA,execOp,ho,hx,hy,eqGuard,binOp,Op.intCmp]
theorem ii (ho:o.op= .binOp .gtr t x y t') (hx:a.eval x= .int k p) (hy:a.eval y= .int k q):cA P a o w (.bool (decide (q < p))):=by
  simp [cA,execOp,ho,hx,hy,eqGuard,binOp,Op.intCmp]
theorem iC (ho:o.op= .binOp .geq t x y t') (hx:a.eval x= .int k p) (hy:a.eval y= .int k q):cA P a o w (.bool (decide (q≤p))):=by
  simp [cA,execOp,ho,hx,hy,eqGuard,binOp,Op.intCmp]
theorem cY (ho:o.op= .binOp .eql t x y t') (hx:a.eval x= .int k p) (hy:a.eval y= .int k q):cA P a o w (.bool (decide (p=q))):=by
  have:(p==q)=decide (p=q):=rfl;simp [cA,execOp,ho,hx,hy,eqGuard,binOp,Op.intCmp,this]
theorem fh (ho:o.op= .binOp .neq t x y t') (hx:a.eval x= .int k p) (hy:a.eval y= .int k q):cA P a o w (.bool (!decide (p=q))):=by
  have:(p !=q)= !decide (p=q):=rfl;simp [cA,execOp,ho,hx,hy,eqGuard,binOp,Op.intCmp,this]
theorem cN (ho:o.op= .binOp .add t x y t') (hx:a.eval x= .int .i64 p) (hy:a.eval y= .int .i64 q) (hb: -9223372036854775808≤p+q∧p+q≤9223372036854775807):cA P a o w (.int .i64 (p+q)):=by
  simp [cA,execOp,ho,hx,hy,eqGuard,binOp,Op.intArith];rw [IntWalk.i64_in _ hb]
theorem gd (ho:o.op= .binOp .sub t x y t') (hx:a.eval x= .int .i64 p) (hy:a.eval y= .int .i64 q) (hb: -9223372036854775808≤p - q∧p - q≤9223372036854775807):cA P a o w (.int .i64 (p - q)):=by
  simp [cA,execOp,ho,hx,hy,eqGuard,binOp,Op.intArith];rw [IntWalk.i64_in _ hb]
theorem zx (ho:o.op= .binOp .mul t x y t') (hx:a.eval x= .int .i64 p) (hy:a.eval y= .int .i64 q) (hb: -9223372036854775808≤p * q∧p * q≤9223372036854775807):cA P a o w (.int .i64 (p * q)):=by
  simp [cA,execOp,ho,hx,hy,eqGuard,binOp,Op.intArith];rw [IntWalk.i64_in _ hb]
theorem EN (ho:o.op= .binOp .add t x y t') (hx:a.eval x= .int k p) (hy:a.eval y= .int k q):cA P a o w (.int k (k.wrap (p+q))):=by
  simp [cA,execOp,ho,hx,hy,eqGuard,binOp,Op.intArith]
theorem EO (ho:o.op= .binOp .sub t x y t') (hx:a.eval x= .int k p) (hy:a.eval y= .int k q):cA P a o w (.int k (k.wrap (p - q))):=by
  simp [cA,execOp,ho,hx,hy,eqGuard,binOp,Op.intArith]
theorem lg {src dst:TypeId} {ks kd:IntKind} (ho:o.op= .convert src dst x) (hs:P.underlying src=some (.int ks)) (hd:P.underlying dst=some (.int kd)) (hx:a.eval x= .int k p):cA P a o w (.int kd (kd.wrap p)):=by
  simp [cA,execOp,ho,hx,convert,run_underlying hs,run_underlying hd,Conv.intToInt]
theorem jw {src dst:TypeId} {ks kd:IntKind} (ho:o.op= .convert src dst x) (hs:P.underlying src=some (.int ks)) (hd:P.underlying dst=some (.int kd)) (hx:a.eval x= .int k p) (h0:0≤p) (h1:p≤9223372036854775807) (hk:kd= .i64∨kd= .u64):cA P a o w (.int kd p):=by
  have h:=lg (w:=w) ho hs hd hx;have e:kd.wrap p=p:=by
    rcases hk with rfl | rfl
    · exact IntWalk.i64_in _ (by omega)
    · simp [IntKind.wrap,IntKind.signed,IntKind.bits];omega
  rwa [e] at h
theorem uc (ho:o.op= .binOp .shr t x y t') (hx:a.eval x= .int .u64 p) (hy:a.eval y= .int .u64 1):cA P a o w (.int .u64 (p / 2)):=by
  have e:p.fdiv 2=p / 2:=nR p (by omega);simp [cA,execOp,ho,hx,hy,eqGuard,binOp,Op.shift,IntKind.bits];exact e
theorem ew {b:Bool} (ho:o.op= .unOp .not t x) (hx:a.eval x= .bool b):cA P a o w (.bool (!b)):=by
  simp [cA,execOp,ho,hx,Op.unary]
theorem Cs {b c:Bool} (ht:P.underlying t=some .bool) (d:Nat):(Op.equalIn (d+1) t (.bool b) (.bool c)).run P w= .ok (b==c) w:=by
  simp [Op.equalIn,run_underlying ht]
theorem Bn {b c:Bool} (ho:o.op= .binOp .eql t x y t') (ht:P.underlying t=some .bool) (hx:a.eval x= .bool b) (hy:a.eval y= .bool c):cA P a o w (.bool (b==c)):=by
  have h:=Cs (P:=P) (w:=w) (b:=b) (c:=c) ht 9999;simp [cA,execOp,ho,hx,hy,eqGuard,binOp,Op.equal,Op.maxDepth,h]
theorem qO {b c:Bool} (ho:o.op= .binOp .neq t x y t') (ht:P.underlying t=some .bool) (hx:a.eval x= .bool b) (hy:a.eval y= .bool c):cA P a o w (.bool (!(b==c))):=by
  have h:=Cs (P:=P) (w:=w) (b:=b) (c:=c) ht 9999;simp [cA,execOp,ho,hx,hy,eqGuard,binOp,Op.equal,Op.maxDepth,h]
theorem zy (hc:o.op= .call { callee:= .builtin .max,args:=#[x,y],argTypes:=#[t,t'] }) (hx:a.eval x= .int k p) (hy:a.eval y= .int k q):cA P a o w (.int k (max p q)):=by
  have e:(if q > p then q else p)=max p q:=by omega
  simp [cA,execOp,hc,resolve,invoke,builtin,Builtin.max_,Builtin.max2,hx,hy];exact e
theorem EP (hc:o.op= .call { callee:= .builtin .min,args:=#[x,y],argTypes:=#[t,t'] }) (hx:a.eval x= .int k p) (hy:a.eval y= .int k q):cA P a o w (.int k (min p q)):=by
  have e:(if q < p then q else p)=min p q:=by omega
  simp [cA,execOp,hc,resolve,invoke,builtin,Builtin.min_,Builtin.min2,hx,hy];exact e
end ints
section memory
variable {t e:TypeId} {x y:Operand} {p:Addr}
theorem qP {f off:Nat} {fs:Array Field} {fd:Field} {m:Nat} (ho:o.op= .fieldAddr t x f) (ht:P.underlying t=some (.struct fs)) (hf:fs[f]? =some fd) (hoff:fd.offset=off) (hz:∀w,(sizeOf fd.type).run P w= .ok (m+1) w) (hx:a.eval x= .pointer (some p)):
    cA P a o w (.pointer (some (p.add off))):=by
  subst hoff;simp [cA,execOp,ho,hx,Instr.fieldAt,run_underlying ht,hf,Instr.sureAddr,fieldPlace,hz]
theorem aX {k:IntKind} {i:Int} {v:Value} {n m:Nat} (ho:o.op= .indexAddr t x y) (ht:P.underlying t=some (.slice e)) (hz:∀w,(sizeOf e).run P w= .ok m w) (hx:a.eval x=v) (hv:pw v n) (hy:a.eval y= .int k i) (h0:0≤i) (h1:i < n):
    cA P a o w (.pointer (some ((ee v).add (i.toNat * m)))):=by
  rcases hv with ⟨_,rfl⟩ | ⟨b,cap,rfl,_⟩
  · omega
  · simp [cA,execOp,ho,hx,hy,Instr.indexAt,run_underlying ht,hz,asIntOf,h0,h1,ee]
theorem aI {v:Value} (ho:o.op= .load t x) (hz:∀w,(isAgg t).run P w= .ok false w) (hx:a.eval x= .pointer (some p)) (hc:w.cell? p=some v):cA P a o w v:=by
  simp [cA,execOp,ho,hx,Instr.loadAt,Instr.sureAddr,loadVar,hz,load,Sem.run,hc]
theorem oL (vs:List Value):∀(p:Addr) (i:Nat) (acc:Array Value),(∀j u,vs[j]? =some u→w.cell? (p.add (i+j))=some u)→
    (loadCellsFrom p i vs.length acc).run P w= .ok (acc++vs.toArray) w:=by
  induction vs with
  | nil => intro p i acc _; simp [loadCellsFrom]
  | cons v vs ih =>
    intro p i acc h;have h0:=h 0 v rfl;rw [ls] at h0;simp only [ay,loadCellsFrom];simp only [load,Sem.run_bind,Sem.run,h0,Result.andThen_ok];rw [ih p (i+1) (acc.push v) (fun j u hj=>by rw [show i+1+j=i+(j+1) by omega];exact h (j+1) u (by simpa using hj))];simp
theorem cq {vs:List Value} {m:Nat} (ho:o.op= .load t x) (hz:∀w,(isAgg t).run P w= .ok true w) (hm:∀w,(sizeOf t).run P w= .ok m w) (hx:a.eval x= .pointer (some p)) (hl:vs.length=m)
    (hc:∀j u,vs[j]? =some u→w.cell? (p.add j)=some u):cA P a o w (.agg vs.toArray):=by
  subst hl;simp only [cA,execOp,ho,hx,Instr.loadAt,Instr.sureAddr,loadVar,Sem.run_bind,Sem.run_pure,Result.andThen_ok,hz,if_true,hm,loadCells];rw [oL vs p 0 #[] (fun j u hj=>by rw [gw];exact hc j u hj)];simp
theorem dk {v:Value} {n:Nat} (hc:o.op= .call { callee:= .builtin .len,args:=#[x],argTypes:=#[t] }) (ht:P.underlying t=some (.slice e)) (hx:a.eval x=v) (hv:pw v n):cA P a o w (.int .i64 n):=by
  rcases hv with ⟨rfl,rfl⟩ | ⟨b,cap,rfl,_⟩
  · simp [cA,execOp,hc,resolve,invoke,builtin,Builtin.len_,hx,run_underlying ht,goInt]
  · simp [cA,execOp,hc,resolve,invoke,builtin,Builtin.len_,hx,run_underlying ht,goInt]
theorem fA {s:ByteArray} (hc:o.op= .call { callee:= .builtin .len,args:=#[x],argTypes:=#[t] }) (ht:P.underlying t=some .string) (hx:a.eval x= .string s):cA P a o w (.int .i64 s.size):=by
  simp [cA,execOp,hc,resolve,invoke,builtin,Builtin.len_,hx,run_underlying ht,goInt]
theorem kP {vs:Array Value} {i:Nat} {v:Value} (ho:o.op= .extract x i) (hx:a.eval x= .tuple vs) (hi:vs[i]? =some v):cA P a o w v:=by
  simp [cA,execOp,ho,hx,Instr.extract,hi]
theorem nD {parts:Array (Nat × Operand)} {fs:Array Field} {z:Value} {pl:Array (Nat × Nat)} {cells:Array Value} (ho:o.op= .build t parts) (ht:P.underlying t=some (.struct fs)) (hz:∀w,(zeroValue t).run P w= .ok z w)
    (hp:∀w,(fs.mapM fun f=>(do pure (f.offset,←sizeOf f.type):Sem (Nat × Nat))).run P w= .ok pl w) (hf:Instr.fill (pl[·]?) z.cells (parts.map fun (i,x)=>(i,a.eval x)).toList=some cells):cA P a o w (.agg cells):=by
  simp only [cA,execOp,ho,Instr.build,Sem.run_bind,hz,Result.andThen_ok,run_underlying ht,hp,hf];rfl
end memory
end
end
section
open Go.RowKit
structure Enc (α:Type) where
  cells:α→List Value
  sz:Nat
  pos:0 < sz
  len:∀x,(cells x).length=sz
  one:∀x u,u ∈ cells x→u.oneCell'=true
section lists
variable {α:Type}
def Enc.row (E:Enc α) (xs:List α):List Value:=xs.flatMap E.cells
theorem Enc.row_length (E:Enc α) (xs:List α):(E.row xs).length=xs.length * E.sz:=by
  induction xs with
  | nil => simp [Enc.row]
  | cons x xs ih =>
    simp only [Enc.row,List.flatMap_cons,aQ,E.len,ay] at ih ⊢;rw [ih,ix];omega
theorem Enc.row_append (E:Enc α) (xs ys:List α):E.row (xs++ys)=E.row xs++E.row ys:=by
  simp [Enc.row]
theorem Enc.row_get (E:Enc α) {xs:List α} {i j:Nat} {x:α} (hx:xs[i]? =some x) (hj:j < E.sz):(E.row xs)[i * E.sz+j]? =(E.cells x)[j]? :=by
  induction xs generalizing i with
  | nil => simp at hx
  | cons y ys ih =>
    have e:E.row (y::ys)=E.cells y++E.row ys:=by simp [Enc.row]
    rw [e];cases i with
    | zero =>
      simp at hx;subst hx;rw [lx (by rw [E.len];omega)];congr 1;omega
    | succ i =>
      rw [jv (by rw [E.len,ix];omega),E.len];rw [show (i+1) * E.sz+j - E.sz=i * E.sz+j by rw [ix];omega];exact ih (by simpa using hx)
theorem Enc.row_one (E:Enc α) {xs:List α}:∀u ∈ E.row xs,u.oneCell'=true:=by
  intro u hu;simp only [Enc.row,List.mem_flatMap] at hu;obtain ⟨x,_,h⟩:=hu;exact E.one x u h
end lists
section mem
variable {α:Type} {E:Enc α} {w w':World} {v:Value} {xs:List α}
theorem pw.le {v:Value} {n:Nat} (h:pw v n):n≤maxLen:=by
  rcases h with ⟨_,rfl⟩ | ⟨b,cap,_,h1,h2⟩
  · exact dC _
  · omega
structure SlT (E:Enc α) (w:World) (v:Value) (xs:List α):Prop where
  sl:pw v xs.length
  cell:∀j u,(E.row xs)[j]? =some u→w.cell? ((ee v).add j)=some u
theorem SlT.nil (E:Enc α) (w:World):SlT E w (.slice none 0 0) ([]:List α):=⟨.inl ⟨rfl,rfl⟩,fun j u h=>by simp [Enc.row] at h⟩
theorem nX (p:Addr) (j:Nat):(p.add j).block=p.block:=by unfold Addr.add;split <;> rfl
theorem add_add (p:Addr) (i j:Nat):(p.add i).add j=p.add (i+j):=Deep.add_add p i j
theorem SlT.elem (h:SlT E w v xs) {i j:Nat} {x:α} {u:Value} (hx:xs[i]? =some x) (hu:(E.cells x)[j]? =some u):w.cell? (((ee v).add (i * E.sz)).add j)=some u:=by
  rw [add_add];have hj:j < E.sz:=by rw [←E.len x];exact (List.getElem?_eq_some_iff.1 hu).1
  exact h.cell _ u (by rw [E.row_get hx hj];exact hu)
theorem SlT.lt (h:SlT E w v xs) (hne:xs≠ []):(ee v).block < w.heap.size:=by
  obtain ⟨x,hx⟩:∃x,xs[0]? =some x:=by cases xs with | nil=>exact absurd rfl hne | cons x _=>exact ⟨x,rfl⟩
  obtain ⟨u,hu⟩:∃u,(E.cells x)[0]? =some u:=⟨(E.cells x)[0]'(by rw [E.len];exact E.pos),by simp⟩;have:=World.block_lt_of_cell? w _ (h.elem hx hu);rwa [nX,nX] at this
theorem SlT.keep {M:Nat→Prop} (h:SlT E w v xs) (he:Ext M w w') (hm:xs≠ []→¬M (ee v).block):SlT E w' v xs:=by
  refine ⟨h.sl,fun j u hj=> ?_⟩;have hne:xs≠ []:=fun e=>by subst e;simp [Enc.row] at hj
  exact he.cell_some (h.cell j u hj) (by rw [nX];exact hm hne)
def iD (E:Enc α) (ty:Nat) (w:World) (v:Value) (xs:List α):Prop:=w.ownsRow 0 ty E.sz v xs.length (E.row xs)
variable {ty:Nat}
theorem iD.nil (E:Enc α) (ty:Nat) (w:World):iD E ty w (.slice none 0 0) ([]:List α):=World.ownsRow_nil w 0 ty E.sz
theorem iD.sl (h:iD E ty w v xs):SlT E w v xs:=by
  refine ⟨?_,fun j u hj=> ?_⟩
  · rcases h.2 with ⟨h1,h2⟩ | ⟨g,cap,cur,hv,_,_,h3,h4,_⟩
    · exact .inl ⟨h1,h2⟩
    · exact .inr ⟨_,cap,hv,h3,h4⟩
  · rcases h.2 with ⟨h1,h2⟩ | ⟨g,cap,cur,hv,hb,hg,h3,h4,h5,h6⟩
    · have:xs=[]:=cg h2;subst this;simp [Enc.row] at hj
    · have:=World.ownsRow.cells h (g:=g) (by rw [hv];rfl) j u hj;rw [hv];exact this
theorem iD.keep {M:Nat→Prop} (h:iD E ty w v xs) (he:Ext M w w') (hm:∀g,v.ownBlock=some g→¬M g):iD E ty w' v xs:=by
  refine ⟨h.1,?_⟩;rcases h.2 with h | ⟨g,cap,cur,hv,hb,hg,r⟩
  · exact .inl h
  · exact .inr ⟨g,cap,cur,hv,hb,by rw [he.block g (Array.getElem?_eq_some_iff.1 hg).1 (hm g (by rw [hv];rfl))];exact hg,r⟩
theorem iD.lt (h:iD E ty w v xs):∀g,v.ownBlock=some g→g < w.heap.size:=fun g hg=>(World.ownsRow.lt h g hg).2
theorem iD.le (h:iD E ty w v xs):xs.length≤maxLen:=h.sl.sl.le
end mem
section specs
variable {N:bj}
def det (N:bj) (t:Nat) (v:Value):Spec N:=⟨none,t,fun _ _ u _=>u=v,fun _ _ _ _ _ _ _ _ h=>h,fun _=>True,fun _ _ _ _ _=>trivial⟩
def gdet (N:bj) (t:Nat) (pc:Prop) (v:Value):Spec N:=⟨none,t,fun _ _ u _=>(pc→u=v)∧(¬pc→u=undef),fun _ _ _ _ _ _ _ _ h=>h,fun _=>True,fun _ _ _ _ _=>trivial⟩
def js (N:bj) (t:Nat):Spec N:=⟨none,t,fun _ _ _ _=>True,fun _ _ _ _ _ _ _ _ h=>h,fun _=>True,fun _ _ _ _ _=>trivial⟩
def ep {α:Type} (E:Enc α) (ty:Nat) (xs:List α) (T:bj) (v:Value) (w:World):Prop:=iD E ty w v xs∧∀g,v.ownBlock=some g→T g
theorem mY {N:bj} {α:Type} {E:Enc α} {ty:Nat} {xs:List α} (T:bj) (v:Value) (w w':World) (h:Ext (fun g=>N g∧¬T g) w w') (hr:ep E ty xs T v w):ep E ty xs T v w':=
  ⟨hr.1.keep h fun g hg hn=>hn.2 (hr.2 g hg),hr.2⟩
def own {α:Type} (E:Enc α) (ty:Nat) (N:bj) (tag t:Nat) (xs:List α):Spec N:=⟨some tag,t,fun _=>ep E ty xs,fun _ _ T v w w' _ h hr=>mY T v w w' h.less hr,fun _=>True,fun _ _ _ _ _=>trivial⟩
def iown {α:Type} (E:Enc α) (ty:Nat) (N:bj) (v:Value) (xs:List α):Ini N:=⟨fun _ T w=>ep E ty xs T v w,fun _ _ T w w' _ h=>mY T v w w' h.less⟩
def cH (ty:Nat) (cells:List Value) (T:bj) (v:Value) (w:World):Prop:=∃g,v= .pointer (some ⟨g,0,none⟩)∧g < w.heap.size∧T g∧w.heap[g]? =some (.cells cells.toArray ty (0,0))
theorem nY {N:bj} {ty:Nat} {cells:List Value} (T:bj) (v:Value) (w w':World) (h:Ext (fun g=>N g∧¬T g) w w') (hr:cH ty cells T v w):cH ty cells T v w':=by
  obtain ⟨g,hv,hlt,hT,hg⟩:=hr;exact ⟨g,hv,dM hlt h.size,hT,by rw [h.block g hlt (fun hn=>hn.2 hT)];exact hg⟩
def box (ty:Nat) (N:bj) (tag t:Nat) (cells:List Value):Spec N:=⟨some tag,t,fun _=>cH ty cells,fun _ _ T v w w' _ h hr=>nY T v w w' h.less hr,fun _=>True,fun _ _ _ _ _=>trivial⟩
def ibox (ty:Nat) (N:bj) (v:Value) (cells:List Value):Ini N:=⟨fun _ T w=>cH ty cells T v w,fun _ _ T w w' _ h=>nY T v w w' h.less⟩
theorem cH.cell {ty:Nat} {cells:List Value} {T:bj} {v:Value} {w:World} (h:cH ty cells T v w) {j:Nat} {u:Value} (hu:cells[j]? =some u):w.cell? ((ee v).add j)=some u:=by
  obtain ⟨g,rfl,_,_,hg⟩:=h;simp only [ee];have:((⟨g,0,none⟩:Addr).add j)=⟨g,j,none⟩:=by unfold Addr.add;split <;> simp_all
  rw [this];simp [World.cell?,hg,hu]
theorem cH.ptr {ty:Nat} {cells:List Value} {T:bj} {v:Value} {w:World} (h:cH ty cells T v w):v= .pointer (some (ee v)):=by
  obtain ⟨g,rfl,_⟩:=h;rfl
end specs
section obs
variable {N:bj} {P:Program} {ops:Array Oper} {sp:List (Spec N)} {In:Nat→Ini N} {a0:Act} {w0:World} {bf:List Nat} {j:Nat} {o:Oper} {s:Spec N} {done:Nat→Bool} {a:Act} {w:World} {τ:Nat→bj}
theorem Cx.v (c:Cx ops sp In a0 w0 bf j o done a w τ) (i:Nat) {t:Nat} {val:Value} (hs:sp[i]? =some (det N t val)) (hb:(bf.getD j 0).testBit i=true):be a t=val:=
  c.J.det i _ hs rfl (c.pre i hb)
theorem Cx.g (c:Cx ops sp In a0 w0 bf j o done a w τ) (i:Nat) {t:Nat} {pc:Prop} {val:Value} (hs:sp[i]? =some (gdet N t pc val)) (hb:(bf.getD j 0).testBit i=true) (hpc:pc):be a t=val:=
  (c.J.det i _ hs rfl (c.pre i hb)).1 hpc
theorem Cx.old (c:Cx ops sp In a0 w0 bf j o done a w τ) {t:Nat} {val:Value} (h0:be a0 t=val) (h:Cq ops bf j t=true):be a t=val:=
  (c.J.old c.hj c.post t h).trans h0
theorem Cx.res (c:Cx ops sp In a0 w0 bf j o done a w τ) (i t:Nat) (s':Spec N) (hs:sp[i]? =some s') (hl:cr (sp.map (·.tag)) t j=some i) (hord:lX (sp.map (·.tag)) bf t j=true):s'.R (gO τ w) (τ t) (be a s'.slot) w:=
  c.J.cur c.hj c.post c.pre t i s' hl hord hs
theorem Cx.ini (c:Cx ops sp In a0 w0 bf j o done a w τ) (t:Nat) (I:Ini N) (hI:In t=I) (hl:cr (sp.map (·.tag)) t j=none) (hord:lX (sp.map (·.tag)) bf t j=true):I.I (gO τ w) (τ t) w:=by
  rw [←hI];exact c.J.cur0 c.hj c.post t hl hord
theorem oM (hg:o.guard=none) (f:Nat→Option Bool):Region.wanted o f=true:=by simp [Region.wanted,hg]
theorem yk (hg:o.guard=none) (h:∀done a w τ,Cx ops sp In a0 w0 bf j o done a w τ→o.wp P a w (fun a' w'=>∃v,a'=a.put o.dst v∧sk s a' τ w w') (fun _ _ _=>False)):Ob ops sp In a0 w0 P bf j o s:=
  fun done a w τ c=>⟨fun _=>h done a w τ c,fun hw=>by rw [oM hg] at hw;cases hw⟩
theorem pU {K:Act→World→Prop} {Q:Exit→Act→World→Prop} {v:Value} (h:cA P a o w v) (hK:K (a.put o.dst v) w):o.wp P a w K Q:=by
  unfold Oper.wp;rw [h];exact hK
theorem Jm {t:Nat} {v:Value} (hs:s=B.det N t v) (hg:o.guard=none) (hd:o.dst=some t) (h:∀done a w τ,Cx ops sp In a0 w0 bf j o done a w τ→cA P a o w v):Ob ops sp In a0 w0 P bf j o s:=
  yk hg fun done a w τ c=>pU (h done a w τ c) ⟨v,rfl,by
    subst hs;refine ⟨Ext.refl _ _,?_⟩;show be (a.put o.dst v) t=v;rw [hd,eJ a t t v (c.lt t hd),if_pos rfl]⟩
theorem Hg {t gi tg:Nat} {want b:Bool} {pc:Prop} {v:Value} (hs:s=B.gdet N t pc v) (hg:o.guard=some (gi,want)) (hd:o.dst=some t) (hgd:((ops[gi]?).bind (·.dst))=some tg)
    (hgs:sp[gi]? =some (B.det N tg (.bool b))) (hb:(bf.getD j 0).testBit gi=true) (hpc:pc↔b=want)
    (h:∀done a w τ,Cx ops sp In a0 w0 bf j o done a w τ→pc→cA P a o w v):Ob ops sp In a0 w0 P bf j o s:=by
  intro done a w τ c;have hv:be a tg= .bool b:=c.v gi hgs hb;have hw:Region.wanted o (yielded ops a.tmps)=(b==want):=by
    have:a.tmps[tg]? =some (.bool b):=by
      unfold be at hv;rw [bG] at hv;cases h':a.tmps[tg]? with
      | none => rw [h'] at hv; simp [undef] at hv
      | some u => rw [h'] at hv; simp at hv; rw [hv]
    cases b <;> cases want <;> simp [Region.wanted,hg,yielded,hgd,this]
  subst hs;refine ⟨fun hw'=> ?_,fun hw'=> ?_⟩
  · rw [hw] at hw';have hp:pc:=hpc.2 (by simpa using hw');refine pU (h done a w τ c hp) ⟨v,rfl,Ext.refl _ _,?_⟩;show (pc→be (a.put o.dst v) t=v)∧(¬pc→be (a.put o.dst v) t=undef);rw [hd,eJ a t t v (c.lt t hd),if_pos rfl];exact ⟨fun _=>rfl,fun hn=>absurd hp hn⟩
  · rw [hw] at hw';have hp:¬pc:=fun hp=>by rw [hpc.1 hp] at hw';simp at hw'
    refine ⟨Ext.refl _ _,?_⟩;show (pc→be (a.put o.dst undef) t=v)∧(¬pc→be (a.put o.dst undef) t=undef);rw [hd,eJ a t t undef (c.lt t hd),if_pos rfl];exact ⟨fun h=>absurd h hp,fun _=>rfl⟩
theorem EQ {t gi tg:Nat} {want b:Bool} {pc pg:Prop} {v:Value} (hs:s=B.gdet N t pc v) (hg:o.guard=some (gi,want)) (hd:o.dst=some t) (hgd:((ops[gi]?).bind (·.dst))=some tg)
    (hgs:sp[gi]? =some (B.gdet N tg pg (.bool b))) (hb:(bf.getD j 0).testBit gi=true) (hpc:pc↔(pg∧b=want))
    (h:∀done a w τ,Cx ops sp In a0 w0 bf j o done a w τ→pc→cA P a o w v):Ob ops sp In a0 w0 P bf j o s:=by
  intro done a w τ c;have hv:=c.J.det gi _ hgs rfl (c.pre gi hb);have hv:(pg→be a tg= .bool b)∧(¬pg→be a tg=undef):=hv;subst hs;by_cases hpg:pg
  · have hv':=hv.1 hpg;have hw:Region.wanted o (yielded ops a.tmps)=(b==want):=by
      have:a.tmps[tg]? =some (.bool b):=by
        unfold be at hv';rw [bG] at hv';cases h':a.tmps[tg]? with
        | none => rw [h'] at hv'; simp [undef] at hv'
        | some u => rw [h'] at hv'; simp at hv'; rw [hv']
      cases b <;> cases want <;> simp [Region.wanted,hg,yielded,hgd,this]
    refine ⟨fun hw'=> ?_,fun hw'=> ?_⟩
    · rw [hw] at hw';have hp:pc:=hpc.2 ⟨hpg,by simpa using hw'⟩;refine pU (h done a w τ c hp) ⟨v,rfl,Ext.refl _ _,?_⟩;show (pc→be (a.put o.dst v) t=v)∧(¬pc→be (a.put o.dst v) t=undef);rw [hd,eJ a t t v (c.lt t hd),if_pos rfl];exact ⟨fun _=>rfl,fun hn=>absurd hp hn⟩
    · rw [hw] at hw';have hp:¬pc:=fun hp=>by rw [(hpc.1 hp).2] at hw';simp at hw'
      refine ⟨Ext.refl _ _,?_⟩;show (pc→be (a.put o.dst undef) t=v)∧(¬pc→be (a.put o.dst undef) t=undef);rw [hd,eJ a t t undef (c.lt t hd),if_pos rfl];exact ⟨fun h=>absurd h hp,fun _=>rfl⟩
  · have hv':=hv.2 hpg;have hw:Region.wanted o (yielded ops a.tmps)=false:=by
      have:∀bb,a.tmps[tg]? ≠some (.bool bb):=by
        intro bb h';unfold be at hv';rw [bG,h'] at hv';simp [undef] at hv'
      have hy:yielded ops a.tmps gi=none:=by
        cases h':a.tmps[tg]? with
        | none => simp [yielded, hgd, h']
        | some u => cases u <;> first | exact absurd h' (this _) | simp [yielded, hgd, h']
      simp [Region.wanted,hg,hy]
    have hp:¬pc:=fun hp=>hpg (hpc.1 hp).1;refine ⟨fun hw'=>(by rw [hw] at hw';cases hw'),fun _=> ?_⟩;refine ⟨Ext.refl _ _,?_⟩;show (pc→be (a.put o.dst undef) t=v)∧(¬pc→be (a.put o.dst undef) t=undef);rw [hd,eJ a t t undef (c.lt t hd),if_pos rfl];exact ⟨fun h=>absurd h hp,fun _=>rfl⟩
end obs
end
section
open Go.RowKit
section run
variable {P:Program} {w:World} {α:Type} {E:Enc α}
theorem kB (w:World) (g:Nat) (cs:Array Value):Ext (fun k=>k=g) w (w.setRow g cs):=
  ⟨rfl,rfl,rfl,by simp [World.setRow],fun k _ h=>setRow_other w g k cs h⟩
theorem ss (t ty e:TypeId) (i:TypeInfo) (z:Value) (ht:P.underlying t=some (.slice e)) (hi:P.info? e=some i) (hz:i.zero=some z) (hsize:i.size=E.sz) (hzs:z.cells.size=E.sz)
    {v u:Value} {xs ys:List α} (hown:iD E e w v xs) (hu:SlT E w u ys) (h63:xs.length+ys.length≤maxLen) (hby:(xs.length+ys.length) * i.bytes≤140737488355328):
    ∃v' w',(Builtin.append_ #[t,t] ty #[v,u]).run P w= .ok v' w'∧iD E e w' v' (xs++ys)∧Ext (fun k=>v.ownBlock=some k) w w'∧(∀g,v'.ownBlock=some g→v.ownBlock=some g∨(w.heap.size≤g∧g < w'.heap.size)):=by
  have hy1:∀x ∈ E.row ys,x.oneCell'=true:=E.row_one;have hyl:(E.row ys).length=ys.length * i.size:=by rw [E.row_length,hsize]
  have hpos:=E.pos;simp only [maxLen] at h63;have hrow:E.row xs++E.row ys=E.row (xs++ys):=(E.row_append xs ys).symm;have newb:∀(old:Nat),iD E e (w.drew.alloc (.cells ((E.row xs).toArray++(E.row ys).toArray++Builtin.zeroCells z.cells (grownCap w (xs.length+ys.length) old e - (xs.length+ys.length))) e))
      (.slice (some ⟨w.heap.size,0,none⟩) (xs.length+ys.length) (grownCap w (xs.length+ys.length) old e)) (xs++ys):=by
    intro old;have hge:=grownCap_ge w (xs.length+ys.length) old e;have hcm:grownCap w (xs.length+ys.length) old e≤maxLen:=grownCap_le_maxLen w _ old e (by simp only [maxLen];omega);refine ⟨E.row_length _,.inr ⟨w.heap.size,_,_,by rw [aQ],dC _,heap_alloc_new w.drew _,by rw [aQ];exact hge,hcm,?_,?_⟩⟩
    · simp only [Array.size_append,aF,size_zeroCells,hzs,E.row_length,←ix];congr 1;omega
    · simp only [Array.toList_append,dq];rw [←dq,hrow,←E.row_length];exact qH
  have newe:∀(o:Obj),Ext (fun k=>v.ownBlock=some k) w (w.drew.alloc o):=fun o=>(Ext.refl _ w).drew.trans (Ext.alloc _ _ _);rcases hu.sl with ⟨rfl,hu0⟩ | ⟨b,cap,rfl,hle,hcap⟩
  · have hys:ys=[]:=cg hu0;subst hys;refine ⟨v,w,?_,by rw [eG];exact hown,Ext.refl _ _,fun g h=> .inl h⟩;have hl:=hown.sl.sl;rcases hl with ⟨rfl,_⟩ | ⟨b,cap,rfl,h1,h2⟩
    · simp [Builtin.append_,run_underlying ht,sizeOf,typeInfo,hi,Builtin.lenOf,Builtin.firstCells]
    · simp [Builtin.append_,run_underlying ht,sizeOf,typeInfo,hi,Builtin.lenOf,Builtin.firstCells,h1,storeCells]
  · have hcell:∀j x,(E.row ys)[j]? =some x→w.cell? (b.add j)=some x:=hu.cell;rcases hown.2 with ⟨rfl,hx0⟩ | ⟨g,c,cur,rfl,hb,hg,h1,h2,h3,h4⟩
    · have hxs:xs=[]:=cg hx0;subst hxs;by_cases h0:ys.length=0
      · have:ys=[]:=cg h0;subst this
        refine ⟨_,w,?_,hown,Ext.refl _ _,fun g h=> .inl h⟩;simp [Builtin.append_,run_underlying ht,sizeOf,typeInfo,hi,Builtin.lenOf,Builtin.firstCells,loadCells,loadCellsFrom]
      · have hr:=run_append_nil (P:=P) w t ty e i z ht hi hz b ys.length cap (E.row ys) hyl hcell (by omega) (by omega) (by simp at hby;omega);have hnew:=newb 0;simp only [aC,gw,eN,show (E.row ([]:List α))=[] from rfl,Array.empty_append] at hnew ⊢;refine ⟨_,_,hr,hnew,newe _,fun g hg=> .inr ?_⟩;simp only [Value.ownBlock,Option.some.injEq] at hg;subst hg;simp
    · by_cases hroom:xs.length+ys.length≤c
      · have hfit:xs.length * i.size+(E.row ys).length≤cur.size:=by rw [hyl,h3,hsize,←ix];exact jL _ hroom
        have hr:=run_append_room (P:=P) w t ty e i ht hi g xs.length c cur hg b ys.length cap (E.row ys) hyl hcell hy1 hroom hfit;refine ⟨_,_,hr,⟨E.row_length _,.inr ⟨g,c,_,by rw [aQ],hb,setRow_heap w g cur _ e _ hg,by rw [aQ];exact hroom,h2,?_,?_⟩⟩,?_,fun k hk=> .inl hk⟩
        · simp only [aF,aQ,ed,fw,gD];omega
        · simp only [hsize];rw [h4,hrow,←E.row_length];exact qH
        · exact (kB w g _).mono fun k _ h=>by rw [h];rfl
      · have holds:∀j x,(E.row xs)[j]? =some x→w.cell? ((⟨g,0,none⟩:Addr).add j)=some x:=World.ownsRow.cells hown (g:=g) rfl;have hr:=run_append_grow (P:=P) w t ty e i z ht hi hz ⟨g,0,none⟩ xs.length c (E.row xs) (by rw [E.row_length,hsize]) holds b ys.length cap (E.row ys) hyl hcell (by omega) (by omega) (growslice_fits (by omega) hby);refine ⟨_,_,hr,newb c,newe _,fun k hk=> .inr ?_⟩;simp only [Value.ownBlock,Option.some.injEq] at hk;subst hk;simp
end run
def su {α:Type} (E:Enc α) (ty:Nat) (w w':World) (v:Value) (xs:List α):Prop:=iD E ty w' v xs∧∀g,v.ownBlock=some g→w.heap.size≤g
section obs
variable {N:bj} {P:Program} {ops:Array Oper} {sp:List (Spec N)} {In:Nat→Ini N} {a0:Act} {w0:World} {bf:List Nat} {j:Nat} {o:Oper} {s:Spec N}
theorem fP {tag:Nat} (hg:o.guard=none) (ht:s.tag=some tag)
    (h:∀done a w τ,Cx ops sp In a0 w0 bf j o done a w τ→o.wp P a w (fun a' w'=>∃v,a'=a.put o.dst v∧Ext (τ tag) w w'∧∃T':bj,(∀g,T' g→τ tag g∨(w.heap.size≤g∧g < w'.heap.size))∧s.R (gO (qF τ tag T') w') T' (be a' s.slot) w') (fun _ _ _=>False)):Ob ops sp In a0 w0 P bf j o s:=
  yk hg fun done a w τ c=>by
    have:=h done a w τ c;unfold sk;rw [ht];exact this
theorem iu {P:Program} {o:Oper} {a:Act} {w w':World} {K:Act→World→Prop} {Q:Exit→Act→World→Prop} {v:Value} (h:(execOp a.eval o).run P w= .ok (.value v) w') (hK:K (a.put o.dst v) w'):o.wp P a w K Q:=by
  unfold Oper.wp;rw [h];exact hK
theorem kC {P:Program} {o:Oper} {a:Act} {w w':World} {K:Act→World→Prop} {Q:Exit→Act→World→Prop} (h:(execOp a.eval o).run P w= .ok .skip w') (hK:K (a.put o.dst undef) w'):o.wp P a w K Q:=by
  unfold Oper.wp;rw [h];exact hK
theorem yl {ty:Nat} {cells:List Value} {w:World}:cH ty cells (fun g=>g=w.heap.size) (.pointer (some ⟨w.heap.size,0,none⟩)) (w.alloc (.cells cells.toArray ty)):=
  ⟨w.heap.size,rfl,by simp,rfl,heap_alloc_new w _⟩
theorem hH {ty tag t:Nat} {cells:List Value} {x:Operand} {v:Value} (hs:s=B.box ty N tag t cells) (hg:o.guard=none) (hd:o.dst=some t) (ho:o.op= .box ty x) (hc:v.cells=cells.toArray)
    (h:∀done a w τ,Cx ops sp In a0 w0 bf j o done a w τ→a.eval x=v):Ob ops sp In a0 w0 P bf j o s:=by
  subst hs;refine fP hg rfl fun done a w τ c=> ?_;have hr:(execOp a.eval o).run P w= .ok (.value (.pointer (some ⟨w.heap.size,0,none⟩))) (w.alloc (.cells cells.toArray ty)):=by
    simp only [execOp,ho,h done a w τ c,Instr.box,newVar,newRow,newObj,hc];rfl
  refine iu hr ⟨_,rfl,Ext.alloc _ _ _,fun g=>g=w.heap.size,fun g hg=> .inr (by subst hg;simp),?_⟩;show cH ty cells _ (be (a.put o.dst _) t) _;rw [hd,eJ a t t _ (c.lt t hd),if_pos rfl];exact yl
theorem bO {ty tag t:Nat} {cells:List Value} {z:Value} (hs:s=B.box ty N tag t cells) (hg:o.guard=none) (hd:o.dst=some t) (ho:o.op= .alloc ty) (hz:∀w,(zeroValue ty).run P w= .ok z w) (hc:z.cells=cells.toArray):Ob ops sp In a0 w0 P bf j o s:=by
  subst hs;refine fP hg rfl fun done a w τ c=> ?_;have hr:(execOp a.eval o).run P w= .ok (.value (.pointer (some ⟨w.heap.size,0,none⟩))) (w.alloc (.cells cells.toArray ty)):=by
    simp only [execOp,ho,Instr.alloc,Sem.run_bind,hz,Result.andThen_ok,newVar,newRow,newObj,hc];rfl
  refine iu hr ⟨_,rfl,Ext.alloc _ _ _,fun g=>g=w.heap.size,fun g hg=> .inr (by subst hg;simp),?_⟩;show cH ty cells _ (be (a.put o.dst _) t) _;rw [hd,eJ a t t _ (c.lt t hd),if_pos rfl];exact yl
theorem run_store {P:Program} {w:World} {t ty g off:Nat} {cur:Array Value} {v:Value} (hg:w.heap[g]? =some (.cells cur ty (0,0))) (hsz:∀w,(sizeOf t).run P w= .ok v.cells.size w) (hfit:off+v.cells.size≤cur.size) (h1:∀u ∈ v.cells.toList,u.oneCell'=true):
    (Instr.storeAt t (.pointer (some ⟨g,off,none⟩)) v).run P w= .ok () (w.setRow g (cur.toList.take off++v.cells.toList++cur.toList.drop (off+v.cells.size)).toArray):=by
  have h:=run_storeCells_at P g off ty v.cells.toList 0 cur w hg (by simpa using hfit) h1;simp only [ls,gD] at h;simp only [Instr.storeAt,Instr.sureAddr,Sem.run_bind,Sem.run_pure,Result.andThen_ok,storeVar,hsz,ne_eq,not_true_eq_false,if_false];exact h
theorem oN (g k:Nat):((⟨g,0,none⟩:Addr).add k)=⟨g,k,none⟩:=by unfold Addr.add;split <;> simp_all
theorem uK {ty tag t tt off:Nat} {cells cells':List Value} {x y:Operand} {v:Value} (hs:s=B.box ty N tag t cells') (hg:o.guard=none) (hd:o.dst=none) (ho:o.op= .store tt x y) (hsz:∀w,(sizeOf tt).run P w= .ok v.cells.size w)
    (hfit:off+v.cells.size≤cells.length) (h1:∀u ∈ v.cells.toList,u.oneCell'=true) (hc:cells'=cells.take off++v.cells.toList++cells.drop (off+v.cells.size))
    (hp:∀done a w τ,Cx ops sp In a0 w0 bf j o done a w τ→cH ty cells (τ tag) (be a t) w∧a.eval x= .pointer (some ((ee (be a t)).add off))∧a.eval y=v):Ob ops sp In a0 w0 P bf j o s:=by
  subst hs;refine fP hg rfl fun done a w τ c=> ?_;obtain ⟨⟨g,hv,hlt,hT,hgg⟩,hx,hy⟩:=hp done a w τ c;have hx':a.eval x= .pointer (some ⟨g,off,none⟩):=by rw [hx,hv];simp only [ee,oN]
  have hr:=run_store (P:=P) (t:=tt) (off:=off) hgg hsz (by simpa using hfit) h1;have hr':(execOp a.eval o).run P w= .ok .skip (w.setRow g cells'.toArray):=by
    simp only [execOp,ho,hx',hy,Sem.run_bind,hr,Result.andThen_ok];rw [hc];rfl
  refine kC hr' ⟨undef,rfl,(kB w g _).mono (fun k _ h=>by rw [h];exact hT),τ tag,fun g h=> .inl h,?_⟩;show cH ty cells' _ (be (a.put o.dst _) t) _;rw [hd,mf];exact ⟨g,hv,by simp [World.setRow,hlt],hT,setRow_heap w g _ _ ty _ hgg⟩
theorem dt {α:Type} {E:Enc α} {ty e tag t n:Nat} {xs:List α} {parts:Array (Nat × Operand)} {z:Value} {cells:Array Value} (hs:s=own E e N tag t xs) (hg:o.guard=none) (hd:o.dst=some t) (ho:o.op= .buildSlice ty n parts)
    (hty:P.underlying ty=some (.slice e)) (hsz:∀w,(sizeOf e).run P w= .ok E.sz w) (hz:∀w,(zeroValue e).run P w= .ok z w) (hn:n=xs.length) (hn0:0 < n) (hsmall:n * E.sz≤16777216)
    (hf:∀done a w τ,Cx ops sp In a0 w0 bf j o done a w τ→Instr.fill (fun i=>some (i * E.sz,E.sz)) ((Array.range (n * E.sz)).map (z.cells[· % z.cells.size]!)) (parts.map fun (i,x)=>(i,a.eval x)).toList=some cells)
    (hc:cells.toList=E.row xs):Ob ops sp In a0 w0 P bf j o s:=by
  subst hs;refine fP hg rfl fun done a w τ c=> ?_;have h2:¬(n * E.sz > 2 ^ 24):=by omega
  have h0:¬(n * E.sz=0):=by have:=Nat.mul_pos hn0 E.pos;omega
  have hr:(execOp a.eval o).run P w= .ok (.value (.slice (some ⟨w.heap.size,0,none⟩) n n)) (w.alloc (.cells cells e)):=by
    have hfz:=hf done a w τ c;simp only [execOp,ho,Instr.buildSlice,Sem.run_bind,run_underlying hty,Result.andThen_ok,hsz,h2,if_false,Sem.run_pure,h0,hz];rw [hfz];rfl
  have hl:cells.size=n * E.sz:=by rw [←gD,hc,E.row_length,hn]
  refine iu hr ⟨_,rfl,Ext.alloc _ _ _,fun g=>g=w.heap.size,fun g hg=> .inr (by subst hg;simp),?_⟩;show ep E e xs _ (be (a.put o.dst _) t) _;rw [hd,eJ a t t _ (c.lt t hd),if_pos rfl];refine ⟨⟨E.row_length xs,.inr ⟨w.heap.size,n,cells,by rw [hn],dC _,heap_alloc_new w _,by omega,?_,hl,?_⟩⟩,fun g h=> ?_⟩
  · have:=lR n E.pos;simp only [maxLen];omega
  · rw [hc,←E.row_length];exact pp
  · simp only [Value.ownBlock,Option.some.injEq] at h;exact h.symm
theorem rZ {α:Type} {E:Enc α} {ty e tag t:Nat} (hs:s=own E e N tag t ([]:List α)) (hg:o.guard=none) (hd:o.dst=some t) (ho:o.op= .buildSlice ty 0 #[])
    (hty:P.underlying ty=some (.slice e)) (hsz:∀w,(sizeOf e).run P w= .ok E.sz w):Ob ops sp In a0 w0 P bf j o s:=by
  subst hs;refine fP hg rfl fun done a w τ c=> ?_;have hr:(execOp a.eval o).run P w= .ok (.value (.slice (some ⟨w.heap.size,0,none⟩) 0 0)) (w.alloc (.cells #[] e)):=by
    have e0:Array.range 0=#[]:=Array.eq_empty_of_size_eq_zero (by simp);simp [execOp,ho,Instr.buildSlice,run_underlying hty,hsz,Instr.fill,newRow,newObj,e0];rfl
  refine iu hr ⟨_,rfl,Ext.alloc _ _ _,fun g=>g=w.heap.size,fun g hg=> .inr (by subst hg;simp),?_⟩;show ep E e [] _ (be (a.put o.dst _) t) _;rw [hd,eJ a t t _ (c.lt t hd),if_pos rfl];refine ⟨⟨E.row_length [],.inr ⟨w.heap.size,0,#[],rfl,dC _,heap_alloc_new w _,bz _,dC _,by simp,by simp [Enc.row]⟩⟩,fun g h=> ?_⟩;simp only [Value.ownBlock,Option.some.injEq] at h;exact h.symm
theorem fF {α:Type} {E:Enc α} {ty e tag t t0:Nat} {xs ys:List α} {x y:Operand} {z:Value} {i:TypeInfo} (hs:s=own E e N tag t (xs++ys)) (hg:o.guard=none) (hd:o.dst=some t)
    (ho:o.op= .call { callee:= .builtin .append,args:=#[x,y],argTypes:=#[ty,ty] })
    (hty:P.underlying ty=some (.slice e)) (hi:P.info? e=some i) (hz:i.zero=some z) (hsize:i.size=E.sz) (hzs:z.cells.size=E.sz)
    (h63:xs.length+ys.length≤maxLen) (hby:(xs.length+ys.length) * i.bytes≤140737488355328)
    (hp:∀done a w τ,Cx ops sp In a0 w0 bf j o done a w τ→ep E e xs (τ tag) (be a t0) w∧a.eval x=be a t0∧∃u,a.eval y=u∧SlT E w u ys):Ob ops sp In a0 w0 P bf j o s:=by
  subst hs;refine fP hg rfl fun done a w τ c=> ?_;obtain ⟨⟨hown,hT⟩,hx,u,hy,hsl⟩:=hp done a w τ c;obtain ⟨v',w',hr,h2,h3,h4⟩:=ss (P:=P) (E:=E) ty o.type e i z hty hi hz hsize hzs hown hsl h63 hby;have hr':(execOp a.eval o).run P w= .ok (.value v') w':=by
    simp only [execOp,ho,resolve,invoke,builtin,Sem.run_bind,Sem.run_pure,Result.andThen_ok,fZ,aB,aH,hx,hy,hr]
  refine iu hr' ⟨_,rfl,h3.mono (fun k _ h=>hT k h),fun g=>v'.ownBlock=some g,fun g hg=>(h4 g hg).elim (fun h=> .inl (hT g h)) (fun h=> .inr h),?_⟩;show ep E e (xs++ys) _ (be (a.put o.dst _) t) _;rw [hd,eJ a t t _ (c.lt t hd),if_pos rfl];exact ⟨h2,fun g h=>h⟩
theorem eP {tag t t0:Nat} {R:bj→bj→Value→World→Prop} {x:Operand} (ht:s.tag=some tag) (hsl:s.slot=t) (hR:s.R=R) (hg:o.guard=none) (hd:o.dst=some t) (ho:o.op= .move x∨o.op= .assign x)
    (hp:∀done a w τ,Cx ops sp In a0 w0 bf j o done a w τ→R (gO τ w) (τ tag) (be a t0) w∧a.eval x=be a t0):Ob ops sp In a0 w0 P bf j o s:=by
  refine fP hg ht fun done a w τ c=> ?_;obtain ⟨h1,hx⟩:=hp done a w τ c;have hr:cA P a o w (be a t0):=by
    rcases ho with ho | ho
    · exact aS ho hx
    · exact ax ho hx
  refine iu hr ⟨_,rfl,Ext.refl _ _,τ tag,fun g h=> .inl h,?_⟩;rw [hsl,hd,eJ a t t _ (c.lt t hd),if_pos rfl];have e1:qF τ tag (τ tag)=τ:=by
    funext t g;unfold qF;split
    · rename_i e;rw [e]
    · rfl
  rw [e1,hR];exact h1
def hN (P:Program) (a:Act) (o:Oper) (w:World) (f:FuncId) (args:Array Value):Prop:=(execOp a.eval o).run P w= .ok (.enter f args) w
theorem pV {a:Act} {w:World} {x:Operand} {as0:Array Operand} {ts:Array TypeId} {f:FuncId} {caps args:Array Value} (ho:o.op= .call { callee:= .value x,args:=as0,argTypes:=ts }) (hx:a.eval x= .func (.func f) #[] caps)
    (hcall:∀args w,(callFunc f args).run P w= .ok (.enter f args) w) (has:as0.map a.eval++caps=args):hN P a o w f args:=by
  subst has;simp only [hN,execOp,ho,resolve,hx,Deferred.ofValue,Sem.run_bind,Sem.run_pure,Result.andThen_ok,invoke,hcall];simp
theorem Hh {t:Nat} {v:Value} (hs:s=B.det N t v) (hg:o.guard=none) (hd:o.dst=some t)
    (h:∀done a w τ,Cx ops sp In a0 w0 bf j o done a w τ→∃f args,hN P a o w f args∧Calls P f args w (fun e w'=>e= .returned v∧Ext aW w w')):Ob ops sp In a0 w0 P bf j o s:=
  yk hg fun done a w τ c=>by
    obtain ⟨f,args,h1,h2⟩:=h done a w τ c;subst hs;unfold Oper.wp;rw [h1];refine h2.mono fun e w' ⟨he,hx⟩=> ?_;subst he;refine ⟨v,rfl,hx,?_⟩;show be (a.put o.dst v) t=v;rw [hd,eJ a t t v (c.lt t hd),if_pos rfl]
theorem ER {t gi tg:Nat} {want b:Bool} {pc:Prop} {v:Value} (hs:s=B.gdet N t pc v) (hg:o.guard=some (gi,want)) (hd:o.dst=some t) (hgd:((ops[gi]?).bind (·.dst))=some tg)
    (hgs:sp[gi]? =some (B.det N tg (.bool b))) (hb:(bf.getD j 0).testBit gi=true) (hpc:pc↔b=want)
    (h:∀done a w τ,Cx ops sp In a0 w0 bf j o done a w τ→pc→∃f args,hN P a o w f args∧Calls P f args w (fun e w'=>e= .returned v∧Ext aW w w')):Ob ops sp In a0 w0 P bf j o s:=by
  intro done a w τ c;have hv:be a tg= .bool b:=c.v gi hgs hb;have hw:Region.wanted o (yielded ops a.tmps)=(b==want):=by
    have:a.tmps[tg]? =some (.bool b):=by
      unfold be at hv;rw [bG] at hv;cases h':a.tmps[tg]? with
      | none => rw [h'] at hv; simp [undef] at hv
      | some u => rw [h'] at hv; simp at hv; rw [hv]
    cases b <;> cases want <;> simp [Region.wanted,hg,yielded,hgd,this]
  subst hs;refine ⟨fun hw'=> ?_,fun hw'=> ?_⟩
  · rw [hw] at hw';have hp:pc:=hpc.2 (by simpa using hw');obtain ⟨f,args,h1,h2⟩:=h done a w τ c hp;unfold Oper.wp;rw [h1];refine h2.mono fun e w' ⟨he,hx⟩=> ?_;subst he;refine ⟨v,rfl,hx,?_⟩;show (pc→be (a.put o.dst v) t=v)∧(¬pc→be (a.put o.dst v) t=undef);rw [hd,eJ a t t v (c.lt t hd),if_pos rfl];exact ⟨fun _=>rfl,fun hn=>absurd hp hn⟩
  · rw [hw] at hw';have hp:¬pc:=fun hp=>by rw [hpc.1 hp] at hw';simp at hw'
    refine ⟨Ext.refl _ _,?_⟩;show (pc→be (a.put o.dst undef) t=v)∧(¬pc→be (a.put o.dst undef) t=undef);rw [hd,eJ a t t undef (c.lt t hd),if_pos rfl];exact ⟨fun h=>absurd h hp,fun _=>rfl⟩
theorem DB {t gi tg:Nat} {want b:Bool} {pc pg:Prop} {v:Value} (hs:s=B.gdet N t pc v) (hg:o.guard=some (gi,want)) (hd:o.dst=some t) (hgd:((ops[gi]?).bind (·.dst))=some tg)
    (hgs:sp[gi]? =some (B.gdet N tg pg (.bool b))) (hb:(bf.getD j 0).testBit gi=true) (hpc:pc↔(pg∧b=want))
    (h:∀done a w τ,Cx ops sp In a0 w0 bf j o done a w τ→pc→∃f args,hN P a o w f args∧Calls P f args w (fun e w'=>e= .returned v∧Ext aW w w')):Ob ops sp In a0 w0 P bf j o s:=by
  intro done a w τ c;have hv:(pg→be a tg= .bool b)∧(¬pg→be a tg=undef):=c.J.det gi _ hgs rfl (c.pre gi hb);subst hs;by_cases hpg:pg
  · have hv':=hv.1 hpg;have hw:Region.wanted o (yielded ops a.tmps)=(b==want):=by
      have:a.tmps[tg]? =some (.bool b):=by
        unfold be at hv';rw [bG] at hv';cases h':a.tmps[tg]? with
        | none => rw [h'] at hv'; simp [undef] at hv'
        | some u => rw [h'] at hv'; simp at hv'; rw [hv']
      cases b <;> cases want <;> simp [Region.wanted,hg,yielded,hgd,this]
    refine ⟨fun hw'=> ?_,fun hw'=> ?_⟩
    · rw [hw] at hw';have hp:pc:=hpc.2 ⟨hpg,by simpa using hw'⟩;obtain ⟨f,args,h1,h2⟩:=h done a w τ c hp;unfold Oper.wp;rw [h1];refine h2.mono fun e w' ⟨he,hx⟩=> ?_;subst he;refine ⟨v,rfl,hx,?_⟩;show (pc→be (a.put o.dst v) t=v)∧(¬pc→be (a.put o.dst v) t=undef);rw [hd,eJ a t t v (c.lt t hd),if_pos rfl];exact ⟨fun _=>rfl,fun hn=>absurd hp hn⟩
    · rw [hw] at hw';have hp:¬pc:=fun hp=>by rw [(hpc.1 hp).2] at hw';simp at hw'
      refine ⟨Ext.refl _ _,?_⟩;show (pc→be (a.put o.dst undef) t=v)∧(¬pc→be (a.put o.dst undef) t=undef);rw [hd,eJ a t t undef (c.lt t hd),if_pos rfl];exact ⟨fun h=>absurd h hp,fun _=>rfl⟩
  · have hv':=hv.2 hpg;have hw:Region.wanted o (yielded ops a.tmps)=false:=by
      have:∀bb,a.tmps[tg]? ≠some (.bool bb):=by
        intro bb h';unfold be at hv';rw [bG,h'] at hv';simp [undef] at hv'
      have hy:yielded ops a.tmps gi=none:=by
        cases h':a.tmps[tg]? with
        | none => simp [yielded, hgd, h']
        | some u => cases u <;> first | exact absurd h' (this _) | simp [yielded, hgd, h']
      simp [Region.wanted,hg,hy]
    have hp:¬pc:=fun hp=>hpg (hpc.1 hp).1;refine ⟨fun hw'=>(by rw [hw] at hw';cases hw'),fun _=>⟨Ext.refl _ _,?_⟩⟩;show (pc→be (a.put o.dst undef) t=v)∧(¬pc→be (a.put o.dst undef) t=undef);rw [hd,eJ a t t undef (c.lt t hd),if_pos rfl];exact ⟨fun h=>absurd h hp,fun _=>rfl⟩
theorem mh {tag:Nat} (hg:o.guard=none) (ht:s.tag=some tag)
    (h:∀done a w τ,Cx ops sp In a0 w0 bf j o done a w τ→∃f args,hN P a o w f args∧Calls P f args w (fun e w'=>∃v,e= .returned v∧Ext (τ tag) w w'∧∃T':bj,(∀g,T' g→τ tag g∨(w.heap.size≤g∧g < w'.heap.size))∧s.R (gO (qF τ tag T') w') T' (be (a.put o.dst v) s.slot) w')):Ob ops sp In a0 w0 P bf j o s:=
  fP hg ht fun done a w τ c=>by
    obtain ⟨f,args,h1,h2⟩:=h done a w τ c;unfold Oper.wp;rw [h1];refine h2.mono fun e w' ⟨v,he,h3⟩=> ?_;subst he;exact ⟨v,rfl,h3⟩
theorem vH {α:Type} {E:Enc α} {ty tag t:Nat} {xs:List α} (hs:s=own E ty N tag t xs) (hg:o.guard=none) (hd:o.dst=some t)
    (h:∀done a w τ,Cx ops sp In a0 w0 bf j o done a w τ→∃f args,hN P a o w f args∧Calls P f args w (fun e w'=>∃v,e= .returned v∧Ext aW w w'∧su E ty w w' v xs)):Ob ops sp In a0 w0 P bf j o s:=by
  subst hs;refine mh (tag:=tag) hg rfl fun done a w τ c=> ?_;obtain ⟨f,args,h1,h2⟩:=h done a w τ c;refine ⟨f,args,h1,h2.mono fun e w' ⟨v,he,hx,ho⟩=>⟨v,he,hx.mono (fun _ _ h=>h.elim),fun g=>v.ownBlock=some g,fun g hg=> .inr ⟨ho.2 g hg,ho.1.lt g hg⟩,?_⟩⟩;show ep E ty xs _ (be (a.put o.dst v) t) w';rw [hd,eJ a t t v (c.lt t hd),if_pos rfl];exact ⟨ho.1,fun g h=>h⟩
end obs
structure St (N:bj) (W0:World) (n:Nat) (a:Act) (w:World) (τ:Nat→bj):Prop where
  defers:a.defers=[]
  size:a.tmps.size=n
  ext:Ext N W0 w
  big:∀k,w.heap.size≤k→N k
  disj:∀s t g,τ s g→τ t g→s=t
  bnd:∀t g,τ t g→N g∧g < w.heap.size
def gJ {N:bj} (l:List (Ini N)) (t:Nat):Ini N:=l.getD t (Ini.any N)
def vI {N:bj} (τ:Nat→bj) (w:World):Nat→List (Ini N)→Prop
  | _, [] => True
  | k, i :: l => i.I (gO τ w) (τ k) w ∧ vI τ w (k + 1) l
theorem qQ {N:bj} {τ:Nat→bj} {w:World}:∀{l:List (Ini N)} {k:Nat},vI τ w k l→∀t,(l.getD t (Ini.any N)).I (gO τ w) (τ (k+t)) w
  | [], _, _, t => trivial
  | i :: l, k, h, 0 => h.1
  | i :: l, k, h, t + 1 => by
    have:=qQ h.2 t;rwa [show k+(t+1)=k+1+t by omega]
def kU (ops:List Oper) (t:Nat):Bool:=ops.all fun o=>o.dst !=some t
structure Fin {N:bj} (l:List Oper) (sp:List (Spec N)) (il:List (Ini N)) (a0 a:Act) (w:World) (τ:Nat→bj):Prop where
  same:∀t,kU l t=true→be a t=be a0 t
  det:∀(j:Nat) (s:Spec N),sp[j]? =some s→s.tag=none→s.R (gO τ w) aW (be a s.slot) w
  res:∀(j t:Nat) (s:Spec N),sp[j]? =some s→s.tag=some t→cr (sp.map (·.tag)) t sp.length=some j→s.R (gO τ w) (τ t) (be a s.slot) w
  ini:∀t,cr (sp.map (·.tag)) t sp.length=none→(gJ il t).I (gO τ w) (τ t) w
theorem Fin.old {N:bj} {l:List Oper} {sp:List (Spec N)} {il:List (Ini N)} {a0 a:Act} {w:World} {τ:Nat→bj} (h:Fin l sp il a0 a w τ) {t:Nat} {v:Value} (h0:be a0 t=v) (hu:kU l t=true):be a t=v:=(h.same t hu).trans h0
theorem Fin.v {N:bj} {l:List Oper} {sp:List (Spec N)} {il:List (Ini N)} {a0 a:Act} {w:World} {τ:Nat→bj} (h:Fin l sp il a0 a w τ) (j:Nat) {t:Nat} {v:Value} (hs:sp[j]? =some (B.det N t v)):be a t=v:=h.det j _ hs rfl
theorem DC {N:bj} {n:Nat} {W0:World} {P:Program} {l:List Oper} {sp:List (Spec N)} (il:List (Ini N)) {a0:Act} {w0:World} {τ0:Nat→bj} {bf:List Nat} {id:Nat} {draw:Bool} (hm:P.follows .mixedOrders=true)
    {Q:Exit→Act→World→Prop} (hst:St N W0 n a0 w0 τ0) (hok:(qy l.toArray n&&uZ l.toArray bf&&qN l.toArray bf (sp.map (·.slot)) (sp.map (·.tag)))=true)
    (hini:vI τ0 w0 0 il) (obs:so l.toArray sp (gJ il) a0 w0 P bf 0 l sp)
    (fin:∀a w τ,St N W0 n a w τ→Fin l sp il a0 a w τ→Q .normal a w):(Code.region id l.toArray draw).wp P Q a0 w0:=by
  have hlen:sp.length=l.length:=by
    simp only [au] at hok;have h3:=hok.2;unfold qN at h3;simp only [au,gr,beq_iff_eq] at h3;simpa using h3.1.1
  refine EM (N:=N) (ini:=gJ il) (τ:=τ0) hm (by rw [hst.size];exact hok) hst.big hst.disj hst.bnd (fun t=> ?_) obs fun done a w τ hd hJ=> ?_
  · have:=qQ hini t;rwa [gw] at this
  · refine fin a w τ ⟨hJ.defers.trans hst.defers,hJ.size.trans hst.size,hst.ext.trans hJ.ext,hJ.big,hJ.disj,hJ.bnd⟩ ⟨fun t ht=> ?_,fun j s hs ht=> ?_,fun j t s hs ht hl=> ?_,fun t hl=> ?_⟩
    · refine hJ.un t fun i o hi hdst=> ?_;exfalso;unfold kU at ht;rw [cI] at ht;have:=ht o (iO (by simpa using hi));simp [hdst] at this
    · exact hJ.det j s hs ht (hd j (by rw [←hlen];exact (List.getElem?_eq_some_iff.1 hs).1))
    · obtain ⟨h1,h2,h3⟩:=nB hl;refine hJ.res j s t hs ht (hd j (by omega)) fun k s' hk hlt hkt=> ?_;exact absurd (by rw [lD hk];exact hkt) (h3 k hlt (List.getElem?_eq_some_iff.1 hk).1)
    · refine hJ.ini t fun k s' hk hkt=> ?_;exact absurd (by rw [lD hk];exact hkt) (nC hl k (List.getElem?_eq_some_iff.1 hk).1)
end
section
open Go.RowKit
def Nw (w:World):bj:=fun k=>w.heap.size≤k
theorem enter {P:Program} {f:FuncId} {fn:Func} {c:Code} {args:Array Value} {w:World} {R:Ending→World→Prop} {n:Nat} (hf:P.funcs[f]? =some fn) (hb:fn.body=some c) (hn:fn.ntmps=n) (hle:args.size≤n)
    (h:∀a τ,(∀i v,args[i]? =some v→be a i=v)→St (Nw w) w n a w τ→c.wp P (bodyPost P fn R) a w):Calls P f args w R:=by
  refine calls_of_wp hf hb (h _ (fun _ _=>False) (fun i v hi=> ?_) ⟨rfl,?_,Ext.refl _ _,fun k hk=>hk,fun s t g h=>h.elim,fun t g h=>h.elim⟩)
  · unfold be;have hlt:i < args.size:=(Array.getElem?_eq_some_iff.1 hi).1
    rw [bG,nS hlt,hi];rfl
  · simp [hn];omega
theorem fj {P:Program} {f:FuncId} {fn:Func} {c:Code} {args:Array Value} {w:World} {R:Ending→World→Prop} {n:Nat} (T:bj) (hT:∀g,T g→g < w.heap.size) (hf:P.funcs[f]? =some fn) (hb:fn.body=some c) (hn:fn.ntmps=n) (hle:args.size≤n)
    (h:∀a τ,(∀i v,args[i]? =some v→be a i=v)→τ 0=T→St (fun k=>T k∨w.heap.size≤k) w n a w τ→c.wp P (bodyPost P fn R) a w):Calls P f args w R:=by
  refine calls_of_wp hf hb (h _ (fun t g=>t=0∧T g) (fun i v hi=> ?_) (by funext g;simp) ⟨rfl,?_,Ext.refl _ _,fun k hk=> .inr hk,fun s t g h1 h2=>by rw [h1.1,h2.1],fun t g h=>⟨.inl h.2,hT g h.2⟩⟩)
  · unfold be;have hlt:i < args.size:=(Array.getElem?_eq_some_iff.1 hi).1
    rw [bG,nS hlt,hi];rfl
  · simp [hn];omega
theorem cO {P:Program} {fn:Func} {R:Ending→World→Prop} {a:Act} {w:World} {t:Nat} {v:Value} (hr:fn.results=#[.tmp t]) (hd:a.defers=[]) (hv:be a t=v) (h:R (.returned v) w):bodyPost P fn R .ret a w:=
  bodyPost_ret (v:=v) (by rw [results_tmp hr];exact congrArg (fun v=>Result.ok v w) hv) hd h
theorem oC {P:Program} {fn:Func} {R:Ending→World→Prop} {a:Act} {w:World} (hr:fn.results=#[]) (hd:a.defers=[]) (h:R (.returned (.tuple #[])) w):bodyPost P fn R .normal a w:=
  bodyPost_end (results_none hr _ _ _) hd h
theorem nZ {P:Program} {fn:Func} {R:Ending→World→Prop} {a:Act} {w:World} {t t':Nat} {v v':Value} (hr:fn.results=#[.tmp t,.tmp t']) (hd:a.defers=[]) (hv:be a t=v) (hv':be a t'=v') (h:R (.returned (.tuple #[v,v'])) w):bodyPost P fn R .ret a w:=
  bodyPost_ret (v:= .tuple #[v,v']) (by rw [results_tmp2 hr];exact (by rw [←hv,←hv'];rfl)) hd h
theorem St.ext0 {n:Nat} {W:World} {a:Act} {w:World} {τ:Nat→bj} (h:St (Nw W) W n a w τ):Ext aW W w:=
  ⟨h.ext.os,h.ext.tape,h.ext.output,h.ext.size,fun k hk _=>h.ext.block k hk (fun hn:W.heap.size≤k=>by omega)⟩
theorem SlT.at {α:Type} {E:Enc α} {W w:World} {v:Value} {xs:List α} (h:SlT E W v xs) (he:Ext (Nw W) W w):SlT E w v xs:=
  h.keep he fun hne hn=>by have:=h.lt hne;simp only [Nw] at hn;omega
def nth {α:Type} [Inhabited α] (xs:List α) (i:Int):α:=xs.getD i.toNat default
theorem bF {α:Type} [Inhabited α] {xs:List α} {i:Int} (h0:0≤i) (h1:i < xs.length):xs[i.toNat]? =some (nth xs i):=by
  have:i.toNat < xs.length:=by omega
  simp [nth,List.getD,cd this]
theorem jO {α:Type} [Inhabited α] (xs:List α) (k:Nat):nth xs (k:Int)=xs.getD k default:=rfl
section
variable {N:bj} {P:Program} {ops:Array Oper} {sp:List (Spec N)} {In:Nat→Ini N} {a0:Act} {w0:World} {bf:List Nat} {j:Nat} {o:Oper} {done:Nat→Bool} {a:Act} {w:World} {τ:Nat→bj}
theorem Cx.ev (c:Cx ops sp In a0 w0 bf j o done a w τ) (i:Nat) {t:Nat} {val:Value} (hs:sp[i]? =some (B.det N t val)) (hb:(bf.getD j 0).testBit i=true):a.eval (.tmp t)=val:=c.v i hs hb
theorem Cx.eg (c:Cx ops sp In a0 w0 bf j o done a w τ) (i:Nat) {t:Nat} {pc:Prop} {val:Value} (hs:sp[i]? =some (B.gdet N t pc val)) (hb:(bf.getD j 0).testBit i=true) (hpc:pc):a.eval (.tmp t)=val:=c.g i hs hb hpc
theorem Cx.eo (c:Cx ops sp In a0 w0 bf j o done a w τ) {t:Nat} {val:Value} (h0:be a0 t=val) (h:Cq ops bf j t=true):a.eval (.tmp t)=val:=c.old h0 h
theorem Cx.ibox {ty:Nat} {v:Value} {cells:List Value} (c:Cx ops sp In a0 w0 bf j o done a w τ) (t:Nat) (hI:In t=B.ibox ty N v cells) (hl:cr (sp.map (·.tag)) t j=none) (hord:lX (sp.map (·.tag)) bf t j=true):cH ty cells (τ t) v w:=
  c.ini t _ hI hl hord
theorem Cx.iown {α:Type} {E:Enc α} {ty:Nat} {v:Value} {xs:List α} (c:Cx ops sp In a0 w0 bf j o done a w τ) (t:Nat) (hI:In t=B.iown E ty N v xs) (hl:cr (sp.map (·.tag)) t j=none) (hord:lX (sp.map (·.tag)) bf t j=true):ep E ty xs (τ t) v w:=
  c.ini t _ hI hl hord
theorem Cx.rbox {ty t slot:Nat} {cells:List Value} (c:Cx ops sp In a0 w0 bf j o done a w τ) (i:Nat) (hs:sp[i]? =some (B.box ty N t slot cells)) (hl:cr (sp.map (·.tag)) t j=some i) (hord:lX (sp.map (·.tag)) bf t j=true):cH ty cells (τ t) (be a slot) w:=
  c.res i t _ hs hl hord
theorem Cx.rown {α:Type} {E:Enc α} {ty t slot:Nat} {xs:List α} (c:Cx ops sp In a0 w0 bf j o done a w τ) (i:Nat) (hs:sp[i]? =some (B.own E ty N t slot xs)) (hl:cr (sp.map (·.tag)) t j=some i) (hord:lX (sp.map (·.tag)) bf t j=true):ep E ty xs (τ t) (be a slot) w:=
  c.res i t _ hs hl hord
end
section
variable {N:bj} {l:List Oper} {sp:List (Spec N)} {il:List (Ini N)} {a0 a:Act} {w:World} {τ:Nat→bj}
theorem Fin.rbox (h:Fin l sp il a0 a w τ) {ty t slot:Nat} {cells:List Value} (j:Nat) (hs:sp[j]? =some (B.box ty N t slot cells)) (hl:cr (sp.map (·.tag)) t sp.length=some j) {v:Value} (hv:be a slot=v):cH ty cells (τ t) v w:=
  hv ▸ h.res j t _ hs rfl hl
theorem Fin.rown (h:Fin l sp il a0 a w τ) {α:Type} {E:Enc α} {ty t slot:Nat} {xs:List α} (j:Nat) (hs:sp[j]? =some (B.own E ty N t slot xs)) (hl:cr (sp.map (·.tag)) t sp.length=some j) {v:Value} (hv:be a slot=v):ep E ty xs (τ t) v w:=
  hv ▸ h.res j t _ hs rfl hl
theorem Fin.ibox (h:Fin l sp il a0 a w τ) {ty:Nat} {v:Value} {cells:List Value} (t:Nat) (hI:gJ il t=B.ibox ty N v cells) (hl:cr (sp.map (·.tag)) t sp.length=none):cH ty cells (τ t) v w:=by
  have:=h.ini t hl;rw [hI] at this
  exact this
theorem Fin.iown (h:Fin l sp il a0 a w τ) {α:Type} {E:Enc α} {ty:Nat} {v:Value} {xs:List α} (t:Nat) (hI:gJ il t=B.iown E ty N v xs) (hl:cr (sp.map (·.tag)) t sp.length=none):ep E ty xs (τ t) v w:=by
  have:=h.ini t hl;rw [hI] at this
  exact this
end
theorem ep.cast {α:Type} {E:Enc α} {ty:Nat} {xs ys:List α} {T:bj} {v:Value} {w:World} (h:ep E ty xs T v w) (e:ys=xs):ep E ty ys T v w:=e ▸ h
theorem ep.nil {α:Type} (E:Enc α) (ty:Nat) (T:bj) (w:World):ep E ty ([]:List α) T (.slice none 0 0) w:=⟨iD.nil E ty w,fun g h=>by simp [Value.ownBlock] at h⟩
theorem ep.isSl {α:Type} {E:Enc α} {ty:Nat} {xs:List α} {T:bj} {v:Value} {w:World} (h:ep E ty xs T v w):pw v xs.length:=h.1.sl.sl
theorem SlT.le {α:Type} {E:Enc α} {xs:List α} {v:Value} {w:World} (h:SlT E w v xs):xs.length≤9223372036854775807:=h.sl.le
theorem ep.le {α:Type} {E:Enc α} {ty:Nat} {xs:List α} {T:bj} {v:Value} {w:World} (h:ep E ty xs T v w):xs.length≤9223372036854775807:=h.1.sl.sl.le
theorem cC {id:Nat} {Q:Exit→Act→World→Prop} {a:Act} {w:World} (h:Q .normal a w):Exit.inBlock id Q (.exit id) a w:=by simpa [Exit.inBlock] using h
theorem ES {id id':Nat} {Q:Exit→Act→World→Prop} {a:Act} {w:World} (hne:id'≠id) (h:Q (.exit id') a w):Exit.inBlock id Q (.exit id') a w:=by simpa [Exit.inBlock,hne] using h
theorem bB {k:IntKind} {p q:Int} (h:p=q):Value.int k p=Value.int k q:=h ▸ rfl
section
variable {P:Program} {a:Act} {o:Oper} {w:World} {x:Operand} {ts:Array TypeId} {f:FuncId}
theorem fN (ho:o.op= .call { callee:= .value x,args:=#[],argTypes:=ts }) (hx:a.eval x= .func (.func f) #[] #[]) (hcall:∀args w,(callFunc f args).run P w= .ok (.enter f args) w):hN P a o w f #[]:=
  pV ho hx hcall (by simp)
theorem bK {x1:Operand} {v1:Value} (ho:o.op= .call { callee:= .value x,args:=#[x1],argTypes:=ts }) (hx:a.eval x= .func (.func f) #[] #[]) (hcall:∀args w,(callFunc f args).run P w= .ok (.enter f args) w) (h1:a.eval x1=v1):hN P a o w f #[v1]:=
  pV ho hx hcall (by simp [h1])
theorem ck {x1 x2:Operand} {v1 v2:Value} (ho:o.op= .call { callee:= .value x,args:=#[x1,x2],argTypes:=ts }) (hx:a.eval x= .func (.func f) #[] #[]) (hcall:∀args w,(callFunc f args).run P w= .ok (.enter f args) w) (h1:a.eval x1=v1) (h2:a.eval x2=v2):hN P a o w f #[v1,v2]:=
  pV ho hx hcall (by simp [h1,h2])
theorem lI {x1 x2 x3:Operand} {v1 v2 v3:Value} (ho:o.op= .call { callee:= .value x,args:=#[x1,x2,x3],argTypes:=ts }) (hx:a.eval x= .func (.func f) #[] #[]) (hcall:∀args w,(callFunc f args).run P w= .ok (.enter f args) w) (h1:a.eval x1=v1) (h2:a.eval x2=v2) (h3:a.eval x3=v3):hN P a o w f #[v1,v2,v3]:=
  pV ho hx hcall (by simp [h1,h2,h3])
theorem iM {x1 x2 x3 x4:Operand} {v1 v2 v3 v4:Value} (ho:o.op= .call { callee:= .value x,args:=#[x1,x2,x3,x4],argTypes:=ts }) (hx:a.eval x= .func (.func f) #[] #[]) (hcall:∀args w,(callFunc f args).run P w= .ok (.enter f args) w) (h1:a.eval x1=v1) (h2:a.eval x2=v2) (h3:a.eval x3=v3) (h4:a.eval x4=v4):hN P a o w f #[v1,v2,v3,v4]:=
  pV ho hx hcall (by simp [h1,h2,h3,h4])
theorem eC {x1 x2 x3 x4 x5:Operand} {v1 v2 v3 v4 v5:Value} (ho:o.op= .call { callee:= .value x,args:=#[x1,x2,x3,x4,x5],argTypes:=ts }) (hx:a.eval x= .func (.func f) #[] #[]) (hcall:∀args w,(callFunc f args).run P w= .ok (.enter f args) w) (h1:a.eval x1=v1) (h2:a.eval x2=v2) (h3:a.eval x3=v3) (h4:a.eval x4=v4) (h5:a.eval x5=v5):hN P a o w f #[v1,v2,v3,v4,v5]:=
  pV ho hx hcall (by simp [h1,h2,h3,h4,h5])
end
def cF:Enc (Int × Int):=⟨fun p=> [.int .i64 p.1,.int .i64 p.2],2,by decide,fun _=>rfl,fun x u hu=>by simp at hu;rcases hu with rfl | rfl <;> rfl⟩
def lM:Enc Int:=⟨fun p=> [.int .i64 p],1,by decide,fun _=>rfl,fun x u hu=>by simp at hu;rcases hu with rfl;rfl⟩
def gR:Enc ByteArray:=⟨fun p=> [.string p],1,by decide,fun _=>rfl,fun x u hu=>by simp at hu;rcases hu with rfl;rfl⟩
def fx:Enc (ByteArray × ByteArray):=⟨fun p=> [.string p.1,.string p.2],2,by decide,fun _=>rfl,fun x u hu=>by simp at hu;rcases hu with rfl | rfl <;> rfl⟩
def fB (p:Int × Int):Value:= .agg #[.int .i64 p.1,.int .i64 p.2]
end
section
open Go.RowKit
def lh (l:List Value) (o:Nat) (vs:List Value):List Value:=l.take o++vs++l.drop (o+vs.length)
theorem uL {l r vs:List Value} {o:Nat} (h:o+vs.length≤l.length):lh (l++r) o vs=lh l o vs++r:=by
  unfold lh;rw [iP (by omega),mV (by omega)];simp
theorem zz {l r vs:List Value} {o:Nat}:lh (l++r) (l.length+o) vs=l++lh r o vs:=by
  unfold lh;rw [ke,mE];rw [bw (by omega),dX (by omega),show l.length+o - l.length=o by omega,show l.length+o+vs.length - l.length=o+vs.length by omega];simp
theorem Enc.row_set {α:Type} (E:Enc α) {xs:List α} {i off:Nat} {x x':α} {vs:List Value} (hx:xs[i]? =some x) (hl:off+vs.length≤E.sz) (hc:E.cells x'=lh (E.cells x) off vs):lh (E.row xs) (i * E.sz+off) vs=E.row (xs.set i x'):=by
  induction xs generalizing i with
  | nil => simp at hx
  | cons y ys ih =>
    have e:E.row (y::ys)=E.cells y++E.row ys:=by simp [Enc.row]
    cases i with
    | zero =>
      simp at hx;subst hx;rw [e,show 0 * E.sz+off=off by omega,uL (by rw [E.len];exact hl),←hc];simp [Enc.row]
    | succ i =>
      rw [e,show (i+1) * E.sz+off=(E.cells y).length+(i * E.sz+off) by rw [E.len,ix];omega,zz,ih (by simpa using hx)];simp [Enc.row]
theorem zA {l vs:List Value} {o n:Nat} (h:o+vs.length≤n) (hn:n≤l.length):(lh l o vs).take n=lh (l.take n) o vs:=by
  have e:l=l.take n++l.drop n:=(dP n l).symm;have hl:(l.take n).length=n:=by simp;omega
  conv=>lhs;rw [e]
  rw [uL (by omega)];have h2:(lh (l.take n) o vs).length=n:=by simp [lh];omega
  rw [iP (by omega),bw (by omega)]
section
variable {α:Type} {E:Enc α} {ty:Nat} {P:Program} {w:World}
theorem oY {v u:Value} {xs:List α} {i off tt:Nat} {x x':α} (h:iD E ty w v xs) (hx:xs[i]? =some x) (hsz:∀w,(sizeOf tt).run P w= .ok u.cells.size w) (hl:off+u.cells.size≤E.sz) (h1:∀c ∈ u.cells.toList,c.oneCell'=true)
    (hc:E.cells x'=lh (E.cells x) off u.cells.toList):
    ∃w',(Instr.storeAt tt (.pointer (some ((ee v).add (i * E.sz+off)))) u).run P w= .ok () w'∧iD E ty w' v (xs.set i x')∧Ext (fun k=>v.ownBlock=some k) w w':=by
  have hi:i < xs.length:=(List.getElem?_eq_some_iff.1 hx).1
  rcases h.2 with ⟨rfl,h0⟩ | ⟨g,cap,cur,rfl,hb,hg,h2,h3,h4,h5⟩
  · omega
  · have hmul:(i+1) * E.sz≤xs.length * E.sz:=jL _ hi;have hmul2:xs.length * E.sz≤cap * E.sz:=jL _ h2;rw [ix] at hmul;have hfit:i * E.sz+off+u.cells.size≤cur.size:=by omega
    have hr:=run_store (P:=P) (t:=tt) (off:=i * E.sz+off) hg hsz hfit h1;refine ⟨_,by simp only [ee,oN];exact hr,⟨by rw [E.row_length,dx],.inr ⟨g,cap,_,by rw [dx],hb,setRow_heap w g cur _ ty _ hg,by rw [dx];exact h2,h3,?_,?_⟩⟩,?_⟩
    · simp only [aF,aQ,ed,fw,gD];omega
    · rw [dx,←E.row_set hx (by simpa using hl) hc,←h5];have:=zA (l:=cur.toList) (vs:=u.cells.toList) (o:=i * E.sz+off) (n:=xs.length * E.sz) (by simp;omega) (by simp;omega);rw [←this];simp [lh]
    · exact (kB w g _).mono fun k _ h=>by rw [h];rfl
end
section obs
variable {N:bj} {P:Program} {ops:Array Oper} {sp:List (Spec N)} {In:Nat→Ini N} {a0:Act} {w0:World} {bf:List Nat} {j:Nat} {o:Oper} {s:Spec N}
theorem jl {α:Type} {E:Enc α} {ty tag t tt i off:Nat} {xs:List α} {x x':α} {p q:Operand} {u:Value} (hs:s=own E ty N tag t (xs.set i x')) (hg:o.guard=none) (hd:o.dst=none) (ho:o.op= .store tt p q) (hsz:∀w,(sizeOf tt).run P w= .ok u.cells.size w)
    (hx:xs[i]? =some x) (hl:off+u.cells.size≤E.sz) (h1:∀c ∈ u.cells.toList,c.oneCell'=true) (hc:E.cells x'=lh (E.cells x) off u.cells.toList)
    (hp:∀done a w τ,Cx ops sp In a0 w0 bf j o done a w τ→ep E ty xs (τ tag) (be a t) w∧a.eval p= .pointer (some ((ee (be a t)).add (i * E.sz+off)))∧a.eval q=u):Ob ops sp In a0 w0 P bf j o s:=by
  subst hs;refine fP hg rfl fun done a w τ c=> ?_;obtain ⟨⟨hown,hT⟩,hp',hq⟩:=hp done a w τ c;obtain ⟨w',hr,h2,h3⟩:=oY (P:=P) (tt:=tt) hown hx hsz hl h1 hc;have hr':(execOp a.eval o).run P w= .ok .skip w':=by
    simp only [execOp,ho,hp',hq,Sem.run_bind,hr,Result.andThen_ok];rfl
  refine kC hr' ⟨undef,rfl,h3.mono (fun k _ h=>hT k h),τ tag,fun g h=> .inl h,?_⟩;show ep E ty (xs.set i x') _ (be (a.put o.dst _) t) _;rw [hd,mf];exact ⟨h2,hT⟩
theorem fM {α:Type} {E:Enc α} {ty tag t d:Nat} {xs xs':List α} {v r:Value} (hs:s=own E ty N tag t xs') (hg:o.guard=none) (hd:o.dst=some d) (hne:t≠d)
    (h:∀done a w τ,Cx ops sp In a0 w0 bf j o done a w τ→∃f args,hN P a o w f args∧be a t=v∧ep E ty xs (τ tag) v w∧(iD E ty w v xs→Calls P f args w (fun e w'=>e= .returned r∧iD E ty w' v xs'∧Ext (fun k=>v.ownBlock=some k) w w'))):Ob ops sp In a0 w0 P bf j o s:=by
  subst hs;refine mh (tag:=tag) hg rfl fun done a w τ c=> ?_;obtain ⟨f,args,h1,h2,h3,h4⟩:=h done a w τ c;refine ⟨f,args,h1,(h4 h3.1).mono fun e w' ⟨he,ho,hx⟩=>⟨r,he,hx.mono (fun k _ hk=>h3.2 k hk),τ tag,fun g h=> .inl h,?_⟩⟩;show ep E ty xs' _ (be (a.put o.dst r) t) w';rw [hd,eJ a d t r (c.lt d hd),if_neg hne,h2];exact ⟨ho,h3.2⟩
end obs
theorem ET {K:Act→World→Prop} {Q:Exit→Act→World→Prop} {a:Act} {w:World} (h:Q .ret a w):Exit.then K Q .ret a w:=h
theorem DD {id:Nat} {Q:Exit→Act→World→Prop} {a:Act} {w:World} (h:Q .ret a w):Exit.inBlock id Q .ret a w:=h
theorem cy {id:Nat} {K:Act→World→Prop} {Q:Exit→Act→World→Prop} {a:Act} {w:World} (h:Q (.exit id) a w):Exit.then K Q (.exit id) a w:=h
theorem St.extIn {n:Nat} {T:bj} {W:World} {a:Act} {w:World} {τ:Nat→bj} (h:St (fun k=>T k∨W.heap.size≤k) W n a w τ):Ext T W w:=
  h.ext.mono fun k hk hn=>hn.resolve_right (by omega)
theorem IT {P:Program} {fn:Func} {R:Ending→World→Prop} {a:Act} {w:World} (hr:fn.results=#[]) (hd:a.defers=[]) (h:R (.returned (.tuple #[])) w):bodyPost P fn R .ret a w:=
  bodyPost_ret (v:= .tuple #[]) (results_none hr _ _ _) hd h
end
section
open Go.RowKit
def iF (v:Value) (lo hi m:Nat):Value:=match v with
  | .slice a _ cap => .slice (if cap = lo then a else a.map (·.add (lo * m))) (hi - lo) (cap - lo)
  | v => v
def isNil (v:Value):Bool:=match v with
  | .slice none _ _ => true
  | _ => false
section
variable {α:Type} {E:Enc α} {w:World} {v:Value} {xs:List α}
theorem Enc.row_drop (E:Enc α):∀(xs:List α) (n:Nat),E.row (xs.drop n)=(E.row xs).drop (n * E.sz)
  | xs, 0 => by simp
  | [], n + 1 => by simp [Enc.row]
  | x :: xs, n + 1 => by
    have e:E.row (x::xs)=E.cells x++E.row xs:=by simp [Enc.row]
    rw [List.drop_succ_cons,E.row_drop xs n,e,mE,E.len,dX (l:=E.cells x) (by rw [E.len,ix];omega),ix,eN];congr 1;omega
theorem Enc.row_take (E:Enc α):∀(xs:List α) (n:Nat),E.row (xs.take n)=(E.row xs).take (n * E.sz)
  | xs, 0 => by simp [Enc.row]
  | [], n + 1 => by simp [Enc.row]
  | x :: xs, n + 1 => by
    have e:E.row (x::xs)=E.cells x++E.row xs:=by simp [Enc.row]
    have e':E.row (x::xs.take n)=E.cells x++E.row (xs.take n):=by simp [Enc.row]
    rw [List.take_succ_cons,e',E.row_take xs n,e,ke,E.len,bw (l:=E.cells x) (by rw [E.len,ix];omega),ix];congr 2;omega
theorem SlT.sub (h:SlT E w v xs) {lo hi:Nat} (h1:lo≤hi) (h2:hi≤xs.length):SlT E w (iF v lo hi E.sz) ((xs.drop lo).take (hi - lo)):=by
  have hl:((xs.drop lo).take (hi - lo)).length=hi - lo:=by simp;omega
  rcases h.sl with ⟨rfl,h0⟩ | ⟨b,cap,rfl,hc,hm⟩
  · obtain rfl:hi=0:=by omega
    obtain rfl:lo=0:=by omega
    exact ⟨.inl ⟨by simp [iF],by simp⟩,fun j u hj=>by simp [Enc.row] at hj⟩
  · refine ⟨.inr ⟨if cap=lo then b else b.add (lo * E.sz),cap - lo,?_,by rw [hl];omega,by omega⟩,fun j u hj=> ?_⟩
    · rw [hl];simp only [iF];split <;> rfl
    · have hne:¬cap=lo:=fun e=>by
        have:(xs.drop lo).take (hi - lo)=[]:=cg (by omega);rw [this] at hj;simp [Enc.row] at hj
      have hp:ee (iF (.slice (some b) xs.length cap) lo hi E.sz)=b.add (lo * E.sz):=by simp [iF,hne,ee]
      rw [hp,add_add];refine h.cell (lo * E.sz+j) u ?_;rw [E.row_take,E.row_drop] at hj;have hlt:j < (hi - lo) * E.sz:=by
        have:=(List.getElem?_eq_some_iff.1 hj).1;simp only [ed] at this;omega
      rw [iJ hlt,ky] at hj;exact hj
theorem SlT.isNil (h:SlT E w v xs) (hn:isNil v=true):xs=[]:=by
  rcases h.sl with ⟨rfl,h0⟩ | ⟨b,cap,rfl,_⟩
  · exact cg h0
  · simp [B.isNil] at hn
end
section
variable {P:Program} {a:Act} {o:Oper} {w:World} {t e:TypeId} {x y z:Operand} {v:Value} {n m:Nat} {k k':IntKind} {p q:Int}
theorem xv (ho:o.op= .slice t x none (some y) none) (ht:P.underlying t=some (.slice e)) (hz:∀w,(sizeOf e).run P w= .ok m w) (hx:a.eval x=v) (hv:pw v n) (hy:a.eval y= .int k p) (h0:0≤p) (h1:p≤n):cA P a o w (iF v 0 p.toNat m):=by
  rcases hv with ⟨rfl,rfl⟩ | ⟨b,cap,rfl,hc,_⟩
  · obtain rfl:p=0:=by omega
    simp [cA,execOp,ho,hx,hy,Instr.sliceAt,Instr.slice,run_underlying ht,Instr.sliceBounds,Instr.sliceBound,asIntOf,hz,iF]
  · have h2:p≤cap:=by omega
    simp [cA,execOp,ho,hx,hy,Instr.sliceAt,Instr.slice,run_underlying ht,Instr.sliceBounds,Instr.sliceBound,asIntOf,hz,iF,h0,h2]
theorem ru (ho:o.op= .slice t x (some y) none none) (ht:P.underlying t=some (.slice e)) (hz:∀w,(sizeOf e).run P w= .ok m w) (hx:a.eval x=v) (hv:pw v n) (hy:a.eval y= .int k p) (h0:0≤p) (h1:p≤n):cA P a o w (iF v p.toNat n m):=by
  rcases hv with ⟨rfl,rfl⟩ | ⟨b,cap,rfl,hc,_⟩
  · obtain rfl:p=0:=by omega
    simp [cA,execOp,ho,hx,hy,Instr.sliceAt,Instr.slice,run_underlying ht,Instr.sliceBounds,Instr.sliceBound,asIntOf,hz,iF]
  · simp [cA,execOp,ho,hx,hy,Instr.sliceAt,Instr.slice,run_underlying ht,Instr.sliceBounds,Instr.sliceBound,asIntOf,hz,iF,h0,h1]
theorem nI (ho:o.op= .slice t x (some y) (some z) none) (ht:P.underlying t=some (.slice e)) (hz:∀w,(sizeOf e).run P w= .ok m w) (hx:a.eval x=v) (hv:pw v n) (hy:a.eval y= .int k p) (hq:a.eval z= .int k' q) (h0:0≤p) (h1:p≤q) (h2:q≤n):cA P a o w (iF v p.toNat q.toNat m):=by
  rcases hv with ⟨rfl,rfl⟩ | ⟨b,cap,rfl,hc,_⟩
  · obtain rfl:p=0:=by omega
    obtain rfl:q=0:=by omega
    simp [cA,execOp,ho,hx,hy,hq,Instr.sliceAt,Instr.slice,run_underlying ht,Instr.sliceBounds,Instr.sliceBound,asIntOf,hz,iF]
  · have h3:q≤cap:=by omega
    have h4:0≤q:=by omega
    have h5:p≤max q 0:=by omega
    simp [cA,execOp,ho,hx,hy,hq,Instr.sliceAt,Instr.slice,run_underlying ht,Instr.sliceBounds,Instr.sliceBound,asIntOf,hz,iF,h0,h3,h4,h1];intro h6;omega
theorem Ct {t':TypeId} (ho:o.op= .binOp .eql t x (.const (.slice none 0 0)) t') (ht:P.underlying t=some (.slice e)) (hx:a.eval x=v) (hv:pw v n):cA P a o w (.bool (isNil v)):=by
  rcases hv with ⟨rfl,rfl⟩ | ⟨b,cap,rfl,hc,_⟩
  · have:=Lib.run_eql_slice_nil (P:=P) w t e none 0 0 0 0 ht;simp [cA,execOp,ho,hx,eqGuard,isNil,show a.eval (.const (.slice none 0 0))= .slice none 0 0 from rfl];simp only [this,Result.andThen_ok];rfl
  · have:=Lib.run_eql_slice_nil (P:=P) w t e (some b) n cap 0 0 ht;simp [cA,execOp,ho,hx,eqGuard,isNil,show a.eval (.const (.slice none 0 0))= .slice none 0 0 from rfl];simp only [this,Result.andThen_ok];rfl
theorem Cu {t':TypeId} (ho:o.op= .binOp .neq t x (.const (.slice none 0 0)) t') (ht:P.underlying t=some (.slice e)) (hx:a.eval x=v) (hv:pw v n):cA P a o w (.bool (!isNil v)):=by
  rcases hv with ⟨rfl,rfl⟩ | ⟨b,cap,rfl,hc,_⟩
  · have:=run_neq_slice_nil_any (P:=P) w t e none 0 0 0 0 ht;simp [cA,execOp,ho,hx,eqGuard,isNil,show a.eval (.const (.slice none 0 0))= .slice none 0 0 from rfl];simp only [this,Result.andThen_ok];rfl
  · have:=run_neq_slice_nil_any (P:=P) w t e (some b) n cap 0 0 ht;simp [cA,execOp,ho,hx,eqGuard,isNil,show a.eval (.const (.slice none 0 0))= .slice none 0 0 from rfl];simp only [this,Result.andThen_ok];rfl
theorem ei {l vs:List Value} {o n:Nat} (hv:vs=(l.drop o).take n) {j:Nat} {u:Value} (hj:vs[j]? =some u):l[o+j]? =some u:=by
  subst hv;have hlt:j < n:=by
    have:=(List.getElem?_eq_some_iff.1 hj).1;simp only [ed] at this;omega
  rw [iJ hlt,ky] at hj;exact hj
theorem cA.isB {b b':Bool} (h:cA P a o w (.bool b)) (e:b=b'):cA P a o w (.bool b'):=e ▸ h
end
section
variable {N:bj} {W:World} {n:Nat} {a:Act} {w:World} {τ:Nat→bj}
end
section
variable {N:bj} {P:Program} {ops:Array Oper} {sp:List (Spec N)} {In:Nat→Ini N} {a0:Act} {w0:World} {bf:List Nat} {j:Nat} {o:Oper} {s:Spec N}
theorem Hi {gi tg:Nat} {want:Bool} (hg:o.guard=some (gi,want)) (hgd:((ops[gi]?).bind (·.dst))=some tg) (hgs:sp[gi]? =some (B.det N tg (.bool want))) (hb:(bf.getD j 0).testBit gi=true)
    (h:Ob ops sp In a0 w0 P bf j { o with guard:=none } s):Ob ops sp In a0 w0 P bf j o s:=by
  intro done a w τ c;have c':Cx ops sp In a0 w0 bf j { o with guard:=none } done a w τ:=⟨c.J,c.hj,c.pre,c.post,c.lt⟩;have hw:=(h done a w τ c').1 (oM rfl _);refine ⟨fun _=>hw,fun hn=> ?_⟩;have hv:be a tg= .bool want:=c.v gi hgs hb;have:a.tmps[tg]? =some (.bool want):=by
    unfold be at hv;rw [bG] at hv;cases h':a.tmps[tg]? with
    | none => rw [h'] at hv; simp [undef] at hv
    | some u => rw [h'] at hv; simp at hv; rw [hv]
  exfalso;cases want <;> simp [Region.wanted,hg,yielded,hgd,this] at hn
theorem Hj {gi tg t:Nat} {want b:Bool} (hs:s=js N t) (hg:o.guard=some (gi,want)) (hgd:((ops[gi]?).bind (·.dst))=some tg) (hgs:sp[gi]? =some (B.det N tg (.bool b))) (hb:(bf.getD j 0).testBit gi=true) (hne:b≠want):Ob ops sp In a0 w0 P bf j o s:=by
  intro done a w τ c;subst hs;have hv:be a tg= .bool b:=c.v gi hgs hb;have:a.tmps[tg]? =some (.bool b):=by
    unfold be at hv;rw [bG] at hv;cases h':a.tmps[tg]? with
    | none => rw [h'] at hv; simp [undef] at hv
    | some u => rw [h'] at hv; simp at hv; rw [hv]
  refine ⟨fun hn=> ?_,fun _=>⟨Ext.refl _ _,av⟩⟩;exfalso;cases want <;> cases b <;> simp [Region.wanted,hg,yielded,hgd,this] at hn hne
end
theorem vJ {P:Program} {w:World} {ty:Nat} {cells:List Value} {T:bj} {v:Value} {m:Nat} (hb:cH ty cells T v w) (hz:∀w,(isAgg ty).run P w= .ok true w) (hm:∀w,(sizeOf ty).run P w= .ok m w) (hl:cells.length=m):
    (loadVar ty (ee v)).run P w= .ok (.agg cells.toArray) w:=by
  subst hl;simp only [loadVar,Sem.run_bind,hz,Result.andThen_ok,if_true,hm,loadCells];rw [oL cells (ee v) 0 #[] (fun j u hj=>by rw [gw];exact hb.cell hj)];simp
theorem py {P:Program} {fn:Func} {R:Ending→World→Prop} {a:Act} {w:World} {t ty m:Nat} {v:Value} {cells:List Value} {T:bj} (hr:fn.results=#[.cell t ty]) (hd:a.defers=[]) (hv:be a t=v) (hb:cH ty cells T v w)
    (hz:∀w,(isAgg ty).run P w= .ok true w) (hm:∀w,(sizeOf ty).run P w= .ok m w) (hl:cells.length=m) (h:R (.returned (.agg cells.toArray)) w):bodyPost P fn R .ret a w:=
  bodyPost_ret (v:= .agg cells.toArray) (by
    have hp:=hb.ptr
    have hv':(a.tmps[t]?).getD undef= .pointer (some (ee v)):=by rw [←bG];exact hv.trans hp
    simp only [results,hr]
    simp [hv',asAddr,vJ hb hz hm hl]) hd h
theorem ek {P:Program} {fn:Func} {R:Ending→World→Prop} {a:Act} {w:World} {t t' ty m:Nat} {v v':Value} {cells:List Value} {T:bj} (hr:fn.results=#[.cell t ty,.tmp t']) (hd:a.defers=[]) (hv:be a t=v) (hv2:be a t'=v') (hb:cH ty cells T v w)
    (hz:∀w,(isAgg ty).run P w= .ok true w) (hm:∀w,(sizeOf ty).run P w= .ok m w) (hl:cells.length=m) (h:R (.returned (.tuple #[.agg cells.toArray,v'])) w):bodyPost P fn R .ret a w:=
  bodyPost_ret (v:= .tuple #[.agg cells.toArray,v']) (by
    have hp:=hb.ptr
    have hv':(a.tmps[t]?).getD undef= .pointer (some (ee v)):=by rw [←bG];exact hv.trans hp
    have hv3:(a.tmps[t']?).getD undef=v':=by rw [←bG];exact hv2
    simp only [results,hr]
    simp [hv',hv3,asAddr,vJ hb hz hm hl]) hd h
def KA {α:Type} (E:Enc α) (ty:Nat) (pc:Prop) (xs:List α) (T:bj) (v:Value) (w:World):Prop:=pc→ep E ty xs T v w
def gown {α:Type} (pc:Prop) (E:Enc α) (ty:Nat) (N:bj) (tag t:Nat) (xs:List α):Spec N:=⟨some tag,t,fun _=>KA E ty pc xs,fun _ _ T v w w' _ h hr hp=>mY T v w w' h.less (hr hp),fun _=>True,fun _ _ _ _ _=>trivial⟩
section
variable {N:bj} {P:Program} {ops:Array Oper} {sp:List (Spec N)} {In:Nat→Ini N} {a0:Act} {w0:World} {bf:List Nat} {j:Nat} {o:Oper} {s:Spec N} {done:Nat→Bool} {a:Act} {w:World} {τ:Nat→bj}
theorem ym {α:Type} {E:Enc α} {ty tag t gi tg:Nat} {want b:Bool} {pc:Prop} {xs:List α} (hs:s=B.gown pc E ty N tag t xs) (hg:o.guard=some (gi,want)) (hd:o.dst=some t) (hgd:((ops[gi]?).bind (·.dst))=some tg)
    (hgs:sp[gi]? =some (B.det N tg (.bool b))) (hb:(bf.getD j 0).testBit gi=true) (hpc:pc↔b=want)
    (h:pc→Ob ops sp In a0 w0 P bf j { o with guard:=none } (own E ty N tag t xs)):Ob ops sp In a0 w0 P bf j o s:=by
  intro done a w τ c;subst hs;have c':Cx ops sp In a0 w0 bf j { o with guard:=none } done a w τ:=⟨c.J,c.hj,c.pre,c.post,c.lt⟩;have hv:be a tg= .bool b:=c.v gi hgs hb;have hw:Region.wanted o (yielded ops a.tmps)=(b==want):=by
    have:a.tmps[tg]? =some (.bool b):=by
      unfold be at hv;rw [bG] at hv;cases h':a.tmps[tg]? with
      | none => rw [h'] at hv; simp [undef] at hv
      | some u => rw [h'] at hv; simp at hv; rw [hv]
    cases b <;> cases want <;> simp [Region.wanted,hg,yielded,hgd,this]
  refine ⟨fun hw'=> ?_,fun hw'=> ?_⟩
  · rw [hw] at hw';have hp:pc:=hpc.2 (by simpa using hw');have hw2:o.wp P a w (fun a' w'=>∃v,a'=a.put o.dst v∧sk (own E ty N tag t xs) a' τ w w') (fun _ _ _=>False):=(h hp done a w τ c').1 (oM rfl _);refine Oper.wp_mono ?_ hw2;intro a' w' hK;obtain ⟨v,ha,hx,T',hT,hr⟩:=hK;exact ⟨v,ha,hx,T',hT,fun _=>hr⟩
  · rw [hw] at hw';have hp:¬pc:=fun hp=>by rw [hpc.1 hp] at hw';simp at hw'
    exact ⟨Ext.refl _ _,τ tag,fun g h=> .inl h,fun hp'=>absurd hp' hp⟩
theorem Cx.rgown {α:Type} {E:Enc α} {ty t slot:Nat} {pc:Prop} {xs:List α} (c:Cx ops sp In a0 w0 bf j o done a w τ) (i:Nat) (hs:sp[i]? =some (B.gown pc E ty N t slot xs)) (hl:cr (sp.map (·.tag)) t j=some i) (hord:lX (sp.map (·.tag)) bf t j=true) (hp:pc):ep E ty xs (τ t) (be a slot) w:=
  c.res i t _ hs hl hord hp
end
section
variable {N:bj} {P:Program} {ops:Array Oper} {sp:List (Spec N)} {In:Nat→Ini N} {a0:Act} {w0:World} {bf:List Nat} {j:Nat} {o:Oper} {s:Spec N} {done:Nat→Bool} {a:Act} {w:World} {τ:Nat→bj}
end
theorem Calls.isB {P:Program} {f:FuncId} {args:Array Value} {w:World} {b b':Bool} {M:Nat→Prop} (h:Calls P f args w (fun e w'=>e= .returned (.bool b)∧Ext M w w')) (e:b=b'):Calls P f args w (fun e w'=>e= .returned (.bool b')∧Ext M w w'):=e ▸ h
end
section
open Go.RowKit
def pW (x y:ByteArray):Bool:=Op.bytesLess x.toList y.toList
def gM (x y:ByteArray):Bool:=x.toList==y.toList
def xw (x y:ByteArray):Bool:=pW x y || gM x y
section
variable {P:Program} {a:Act} {o:Oper} {w:World} {t t':TypeId} {x y z:Operand} {s u:ByteArray} {k k':IntKind} {p q:Int}
theorem EU (ho:o.op= .binOp .lss t x y t') (hx:a.eval x= .string s) (hy:a.eval y= .string u):cA P a o w (.bool (pW s u)):=by
  simp [cA,execOp,ho,hx,hy,eqGuard,binOp,Op.stringOp,pW]
theorem vK (ho:o.op= .binOp .leq t x y t') (hx:a.eval x= .string s) (hy:a.eval y= .string u):cA P a o w (.bool (pW s u || gM s u)):=by
  simp [cA,execOp,ho,hx,hy,eqGuard,binOp,Op.stringOp,pW,gM]
theorem Jn (ho:o.op= .binOp .gtr t x y t') (hx:a.eval x= .string s) (hy:a.eval y= .string u):cA P a o w (.bool (!(pW s u || gM s u))):=by
  simp [cA,execOp,ho,hx,hy,eqGuard,binOp,Op.stringOp,pW,gM]
theorem eI (ho:o.op= .binOp .eql t x y t') (hx:a.eval x= .string s) (hy:a.eval y= .string u):cA P a o w (.bool (gM s u)):=by
  simp [cA,execOp,ho,hx,hy,eqGuard,binOp,Op.stringOp,gM]
theorem oa (ho:o.op= .binOp .neq t x y t') (hx:a.eval x= .string s) (hy:a.eval y= .string u):cA P a o w (.bool (!gM s u)):=by
  simp [cA,execOp,ho,hx,hy,eqGuard,binOp,Op.stringOp,gM]
theorem EV (ho:o.op= .slice t x (some y) (some z) none) (ht:P.underlying t=some .string) (hx:a.eval x= .string s) (hy:a.eval y= .int k p) (hz:a.eval z= .int k' q) (h0:0≤p) (h1:p≤q) (h2:q≤s.size):cA P a o w (.string (s.extract p.toNat q.toNat)):=by
  have h4:0≤q:=by omega
  have h5:p≤max q 0:=by omega
  simp [cA,execOp,ho,hx,hy,hz,Instr.sliceAt,Instr.slice,run_underlying ht,Instr.sliceBounds,Instr.sliceBound,asIntOf,h0,h2,h4,h1];intro h6;omega
end
def cP (s:ByteArray) (i:Int):Int:=((s.data.toList.getD i.toNat 0).toNat:Int)
theorem ij (s:ByteArray) (i:Int):0≤cP s i∧cP s i≤255:=by
  unfold cP;have:=(s.data.toList.getD i.toNat 0).toNat_lt;omega
theorem li {P:Program} {a:Act} {o:Oper} {w:World} {t:TypeId} {x y:Operand} {s:ByteArray} {k:IntKind} {p:Int} (ho:o.op= .index t x y) (ht:P.underlying t=some .string) (hx:a.eval x= .string s) (hy:a.eval y= .int k p) (h0:0≤p) (h1:p < s.size):cA P a o w (.int .u8 (cP s p)):=by
  have hlt:p.toNat < s.size:=by omega
  have e:s[p.toNat]? =some (s.data.toList.getD p.toNat 0):=by
    rw [getElem?_pos s p.toNat hlt];have h2:s.data.toList.getD p.toNat 0=s.data.toList[p.toNat]'(by simpa using hlt):=by
      rw [lc,cd (by simpa using hlt)];rfl
    rw [h2];rfl
  simp [cA,execOp,ho,hx,hy,Instr.index,run_underlying ht,asIntOf,h0,e,cP]
theorem sM {s u:ByteArray}:gM s u=true↔s=u:=by
  unfold gM;rw [beq_iff_eq,ByteArray.toList_eq,ByteArray.toList_eq];constructor
  · intro h;cases s;cases u
    congr 1;exact Array.ext' h
  · rintro rfl;rfl
theorem yn (s u:ByteArray):gM s u=decide (s.data.toList=u.data.toList):=by
  unfold gM;rw [ByteArray.toList_eq,ByteArray.toList_eq,eZ];simp
def sN:Enc UInt8:=⟨fun p=> [.int .u8 p.toNat],1,by decide,fun _=>rfl,fun x u hu=>by simp at hu;rcases hu with rfl;rfl⟩
theorem sO (l:List UInt8):sN.row l=l.map fun b=>Value.int .u8 b.toNat:=by
  induction l with
  | nil => rfl
  | cons b l ih =>
    have e:sN.row (b::l)=sN.cells b++sN.row l:=by simp [Enc.row]
    rw [e,ih];rfl
section
variable {N:bj} {P:Program} {ops:Array Oper} {sp:List (Spec N)} {In:Nat→Ini N} {a0:Act} {w0:World} {bf:List Nat} {j:Nat} {o:Oper} {s:Spec N}
end
theorem xx {P:Program} {a:Act} {o:Oper} {w:World} {src dst e:TypeId} {x:Operand} {v:Value} {xs:List UInt8} (ho:o.op= .convert src dst x) (hs:P.underlying src=some (.slice e)) (he:P.underlying e=some (.int .u8)) (hd:P.underlying dst=some .string) (hx:a.eval x=v) (h:SlT sN w v xs):cA P a o w (.string ⟨xs.toArray⟩):=by
  rcases h.sl with ⟨rfl,h0⟩ | ⟨b,cap,rfl,_⟩
  · obtain rfl:=cg h0;simp [cA,execOp,ho,hx,convert,run_underlying hs,run_underlying hd,run_underlying he,Conv.bytesToString];rfl
  · have hc:∀j u,(xs.map fun b=>Value.int .u8 b.toNat)[j]? =some u→w.cell? (b.add j)=some u:=fun j u hj=>h.cell j u (by rw [sO];exact hj);have hr:=run_convert_bytes_back (P:=P) w src dst e b cap xs hs he hd (fun j hj=>hc j _ (by simp [cd hj]));simp only [cA,execOp,ho,hx];simp [hr]
end
section
open Go.RowKit
section
variable {N:bj} {P:Program} {ops:Array Oper} {sp:List (Spec N)} {In:Nat→Ini N} {a0:Act} {w0:World} {bf:List Nat} {j:Nat} {o:Oper} {s:Spec N}
theorem aq {t:Nat} {v:Value} (h:∀{done a w τ},Cx ops sp In a0 w0 bf j o done a w τ→cA P a o w v) (hs:s=B.det N t v:=by exact rfl) (hg:o.guard=none:=by exact rfl) (hd:o.dst=some t:=by exact rfl):Ob ops sp In a0 w0 P bf j o s:=
  Jm hs hg hd fun _ _ _ _ c=>h c
theorem eE {t:Nat} {v:Value} (h:∀{done a w τ},Cx ops sp In a0 w0 bf j o done a w τ→∃f args,hN P a o w f args∧Calls P f args w (fun e w'=>e= .returned v∧Ext aW w w')) (hs:s=B.det N t v:=by exact rfl) (hg:o.guard=none:=by exact rfl) (hd:o.dst=some t:=by exact rfl):Ob ops sp In a0 w0 P bf j o s:=
  Hh hs hg hd fun _ _ _ _ c=>h c
theorem KB {t tg:Nat} {b:Bool} {v:Value} (gi:Nat) (want:Bool) (hgs:sp[gi]? =some (B.det N tg (.bool b))) (h:∀{done a w τ},Cx ops sp In a0 w0 bf j o done a w τ→b=want→cA P a o w v)
    (hs:s=B.gdet N t (b=want) v:=by exact rfl) (hg:o.guard=some (gi,want):=by exact rfl) (hd:o.dst=some t:=by exact rfl) (hgd:((ops[gi]?).bind (·.dst))=some tg:=by exact rfl) (hb:(bf.getD j 0).testBit gi=true:=by exact rfl):Ob ops sp In a0 w0 P bf j o s:=
  Hg hs hg hd hgd hgs hb Iff.rfl fun _ _ _ _ c=>h c
theorem dj {t tg:Nat} {b:Bool} {pg:Prop} {v:Value} (gi:Nat) (want:Bool) (hgs:sp[gi]? =some (B.gdet N tg pg (.bool b))) (h:∀{done a w τ},Cx ops sp In a0 w0 bf j o done a w τ→(pg∧b=want)→cA P a o w v)
    (hs:s=B.gdet N t (pg∧b=want) v:=by exact rfl) (hg:o.guard=some (gi,want):=by exact rfl) (hd:o.dst=some t:=by exact rfl) (hgd:((ops[gi]?).bind (·.dst))=some tg:=by exact rfl) (hb:(bf.getD j 0).testBit gi=true:=by exact rfl):Ob ops sp In a0 w0 P bf j o s:=
  EQ hs hg hd hgd hgs hb Iff.rfl fun _ _ _ _ c=>h c
theorem fC {t tg:Nat} {b:Bool} {v:Value} (gi:Nat) (want:Bool) (hgs:sp[gi]? =some (B.det N tg (.bool b))) (h:∀{done a w τ},Cx ops sp In a0 w0 bf j o done a w τ→b=want→∃f args,hN P a o w f args∧Calls P f args w (fun e w'=>e= .returned v∧Ext aW w w'))
    (hs:s=B.gdet N t (b=want) v:=by exact rfl) (hg:o.guard=some (gi,want):=by exact rfl) (hd:o.dst=some t:=by exact rfl) (hgd:((ops[gi]?).bind (·.dst))=some tg:=by exact rfl) (hb:(bf.getD j 0).testBit gi=true:=by exact rfl):Ob ops sp In a0 w0 P bf j o s:=
  ER hs hg hd hgd hgs hb Iff.rfl fun _ _ _ _ c=>h c
theorem qR {t tg:Nat} {b:Bool} {pg:Prop} {v:Value} (gi:Nat) (want:Bool) (hgs:sp[gi]? =some (B.gdet N tg pg (.bool b))) (h:∀{done a w τ},Cx ops sp In a0 w0 bf j o done a w τ→(pg∧b=want)→∃f args,hN P a o w f args∧Calls P f args w (fun e w'=>e= .returned v∧Ext aW w w'))
    (hs:s=B.gdet N t (pg∧b=want) v:=by exact rfl) (hg:o.guard=some (gi,want):=by exact rfl) (hd:o.dst=some t:=by exact rfl) (hgd:((ops[gi]?).bind (·.dst))=some tg:=by exact rfl) (hb:(bf.getD j 0).testBit gi=true:=by exact rfl):Ob ops sp In a0 w0 P bf j o s:=
  DB hs hg hd hgd hgs hb Iff.rfl fun _ _ _ _ c=>h c
theorem dg (gi:Nat) {tg:Nat} {want:Bool} (h:Ob ops sp In a0 w0 P bf j { o with guard:=none } s) (hgs:sp[gi]? =some (B.det N tg (.bool want)):=by exact rfl) (hg:o.guard=some (gi,want):=by exact rfl) (hgd:((ops[gi]?).bind (·.dst))=some tg:=by exact rfl) (hb:(bf.getD j 0).testBit gi=true:=by exact rfl):Ob ops sp In a0 w0 P bf j o s:=
  Hi hg hgd hgs hb h
theorem dK (gi:Nat) {tg t:Nat} {want b:Bool} (hs:s=js N t:=by exact rfl) (hg:o.guard=some (gi,want):=by exact rfl) (hgd:((ops[gi]?).bind (·.dst))=some tg:=by exact rfl) (hgs:sp[gi]? =some (B.det N tg (.bool b)):=by exact rfl) (hb:(bf.getD j 0).testBit gi=true:=by exact rfl) (hne:b≠want:=by decide):Ob ops sp In a0 w0 P bf j o s:=
  Hj hs hg hgd hgs hb hne
end
section
variable {N:bj} {P:Program} {ops:Array Oper} {sp:List (Spec N)} {In:Nat→Ini N} {a0:Act} {w0:World} {bf:List Nat} {j:Nat} {o:Oper} {done:Nat→Bool} {a:Act} {w:World} {τ:Nat→bj}
theorem Cx.n (c:Cx ops sp In a0 w0 bf j o done a w τ) (i:Nat) {t:Nat} {val:Value} (hs:sp[i]? =some (B.det N t val)) (hb:(bf.getD j 0).testBit i=true:=by exact rfl):a.eval (.tmp t)=val:=c.ev i hs hb
theorem Cx.m (c:Cx ops sp In a0 w0 bf j o done a w τ) (i:Nat) {t:Nat} {pc:Prop} {val:Value} (hs:sp[i]? =some (B.gdet N t pc val)) (hpc:pc) (hb:(bf.getD j 0).testBit i=true:=by exact rfl):a.eval (.tmp t)=val:=c.eg i hs hb hpc
theorem Cx.p (c:Cx ops sp In a0 w0 bf j o done a w τ) {t:Nat} {val:Value} (h0:be a0 t=val) (h:Cq ops bf j t=true:=by kernel_rfl):a.eval (.tmp t)=val:=c.eo h0 h
theorem Cx.ib {ty:Nat} {v:Value} {cells:List Value} (c:Cx ops sp In a0 w0 bf j o done a w τ) (t:Nat) (hI:In t=B.ibox ty N v cells) (hl:cr (sp.map (·.tag)) t j=none:=by exact rfl) (hord:lX (sp.map (·.tag)) bf t j=true:=by kernel_rfl):cH ty cells (τ t) v w:=c.ibox t hI hl hord
theorem Cx.io {α:Type} {E:Enc α} {ty:Nat} {v:Value} {xs:List α} (c:Cx ops sp In a0 w0 bf j o done a w τ) (t:Nat) (hI:In t=B.iown E ty N v xs) (hl:cr (sp.map (·.tag)) t j=none:=by exact rfl) (hord:lX (sp.map (·.tag)) bf t j=true:=by kernel_rfl):ep E ty xs (τ t) v w:=c.iown t hI hl hord
theorem Cx.rb {ty t slot:Nat} {cells:List Value} (c:Cx ops sp In a0 w0 bf j o done a w τ) (i:Nat) (hs:sp[i]? =some (B.box ty N t slot cells)) (hl:cr (sp.map (·.tag)) t j=some i:=by exact rfl) (hord:lX (sp.map (·.tag)) bf t j=true:=by kernel_rfl):cH ty cells (τ t) (be a slot) w:=c.rbox i hs hl hord
theorem Cx.ro {α:Type} {E:Enc α} {ty t slot:Nat} {xs:List α} (c:Cx ops sp In a0 w0 bf j o done a w τ) (i:Nat) (hs:sp[i]? =some (B.own E ty N t slot xs)) (hl:cr (sp.map (·.tag)) t j=some i:=by exact rfl) (hord:lX (sp.map (·.tag)) bf t j=true:=by kernel_rfl):ep E ty xs (τ t) (be a slot) w:=c.rown i hs hl hord
theorem Cx.rg {α:Type} {E:Enc α} {ty t slot:Nat} {pc:Prop} {xs:List α} (c:Cx ops sp In a0 w0 bf j o done a w τ) (i:Nat) (hs:sp[i]? =some (B.gown pc E ty N t slot xs)) (hp:pc) (hl:cr (sp.map (·.tag)) t j=some i:=by exact rfl) (hord:lX (sp.map (·.tag)) bf t j=true:=by kernel_rfl):ep E ty xs (τ t) (be a slot) w:=c.rgown i hs hl hord hp
theorem Cx.ip {α:Type} {E:Enc α} {ty slot:Nat} {v:Value} {xs:List α} (c:Cx ops sp In a0 w0 bf j o done a w τ) (t:Nat) (hI:In t=B.iown E ty N v xs) (e:be a0 slot=v) (hl:cr (sp.map (·.tag)) t j=none:=by exact rfl) (hord:lX (sp.map (·.tag)) bf t j=true:=by kernel_rfl) (h:Cq ops bf j slot=true:=by kernel_rfl):ep E ty xs (τ t) (be a slot) w:=by
  rw [show be a slot=v from c.old e h];exact c.iown t hI hl hord
theorem Cx.bp {ty slot:Nat} {v:Value} {cells:List Value} (c:Cx ops sp In a0 w0 bf j o done a w τ) (t:Nat) (hI:In t=B.ibox ty N v cells) (e:be a0 slot=v) (hl:cr (sp.map (·.tag)) t j=none:=by exact rfl) (hord:lX (sp.map (·.tag)) bf t j=true:=by kernel_rfl) (h:Cq ops bf j slot=true:=by kernel_rfl):cH ty cells (τ t) (be a slot) w:=by
  rw [show be a slot=v from c.old e h];exact c.ibox t hI hl hord
theorem Cx.sm {slot:Nat} {v:Value} {x:Operand} (c:Cx ops sp In a0 w0 bf j o done a w τ) (px:a.eval x=v) (e:be a0 slot=v) (h:Cq ops bf j slot=true:=by kernel_rfl):a.eval x=be a slot:=px.trans (c.old e h).symm
theorem Cx.ad {slot k:Nat} {v:Value} {x:Operand} {p:Addr} (c:Cx ops sp In a0 w0 bf j o done a w τ) (px:a.eval x= .pointer (some p)) (e:be a0 slot=v) (hp:p=(ee v).add k) (h:Cq ops bf j slot=true:=by kernel_rfl):a.eval x= .pointer (some ((ee (be a slot)).add k)):=by
  rw [show be a slot=v from c.old e h,px,hp]
end
section
variable {N:bj} {l:List Oper} {sp:List (Spec N)} {il:List (Ini N)} {a0 a:Act} {w:World} {τ:Nat→bj}
def EW (a:Act):List (Nat × Value)→Prop
  | [] => True
  | p :: l => be a p.1 = p.2 ∧ EW a l
theorem Fin.olds (h:Fin l sp il a0 a w τ):∀(L:List (Nat × Value)) (_:EW a0 L) (_:(L.all fun p=>kU l p.1)=true),EW a L
  | [], _, _ => trivial
  | p :: L, hE, hu => by
    rw [ec,au] at hu;exact ⟨h.old hE.1 hu.1,h.olds L hE.2 hu.2⟩
theorem Fin.ks (h:Fin l sp il a0 a w τ) (L:List (Nat × Value)) (hE:EW a0 L) (hu:(L.all fun p=>kU l p.1)=true:=by kernel_rfl):EW a L:=h.olds L hE hu
theorem Fin.ib (h:Fin l sp il a0 a w τ) {ty:Nat} {v:Value} {cells:List Value} (t:Nat) (hI:gJ il t=B.ibox ty N v cells) (hl:cr (sp.map (·.tag)) t sp.length=none:=by exact rfl):cH ty cells (τ t) v w:=h.ibox t hI hl
theorem Fin.io (h:Fin l sp il a0 a w τ) {α:Type} {E:Enc α} {ty:Nat} {v:Value} {xs:List α} (t:Nat) (hI:gJ il t=B.iown E ty N v xs) (hl:cr (sp.map (·.tag)) t sp.length=none:=by exact rfl):ep E ty xs (τ t) v w:=h.iown t hI hl
theorem Fin.rb (h:Fin l sp il a0 a w τ) {ty t slot:Nat} {cells:List Value} (j:Nat) {v:Value} (hv:be a slot=v) (hs:sp[j]? =some (B.box ty N t slot cells)) (hl:cr (sp.map (·.tag)) t sp.length=some j:=by exact rfl):cH ty cells (τ t) v w:=h.rbox j hs hl hv
theorem Fin.ro (h:Fin l sp il a0 a w τ) {α:Type} {E:Enc α} {ty t slot:Nat} {xs:List α} (j:Nat) {v:Value} (hv:be a slot=v) (hs:sp[j]? =some (B.own E ty N t slot xs)) (hl:cr (sp.map (·.tag)) t sp.length=some j:=by exact rfl):ep E ty xs (τ t) v w:=h.rown j hs hl hv
abbrev io {N:bj} {α:Type} {E:Enc α} {ty:Nat} {xs:List α} {T:bj} {v:Value} {w:World} (_:ep E ty xs T v w):Ini N:=iown E ty N v xs
abbrev ib {N:bj} {ty:Nat} {cells:List Value} {T:bj} {v:Value} {w:World} (_:cH ty cells T v w):Ini N:=ibox ty N v cells
end
theorem gB {a:Act} {f:Nat→Option (Nat × Nat)} {z cells:Array Value} {i0:Nat} {x0:Operand} {v0:Value} (h0:a.eval x0=v0) (hf:Instr.fill f z [(i0,v0)]=some cells):Instr.fill f z ((#[(i0,x0)]).map fun (i,x)=>(i,a.eval x)).toList=some cells:=by
  subst h0;simp only [fZ,aB,aH];exact hf
theorem iT {a:Act} {f:Nat→Option (Nat × Nat)} {z cells:Array Value} {i0 i1:Nat} {x0 x1:Operand} {v0 v1:Value} (h0:a.eval x0=v0) (h1:a.eval x1=v1) (hf:Instr.fill f z [(i0,v0),(i1,v1)]=some cells):Instr.fill f z ((#[(i0,x0),(i1,x1)]).map fun (i,x)=>(i,a.eval x)).toList=some cells:=by
  subst h0 h1;simp only [fZ,aB,aH];exact hf
theorem EX {a:Act} {f:Nat→Option (Nat × Nat)} {z cells:Array Value} {i0 i1 i2:Nat} {x0 x1 x2:Operand} {v0 v1 v2:Value} (h0:a.eval x0=v0) (h1:a.eval x1=v1) (h2:a.eval x2=v2) (hf:Instr.fill f z [(i0,v0),(i1,v1),(i2,v2)]=some cells):Instr.fill f z ((#[(i0,x0),(i1,x1),(i2,x2)]).map fun (i,x)=>(i,a.eval x)).toList=some cells:=by
  subst h0 h1 h2;simp only [fZ,aB,aH];exact hf
theorem IU {a:Act} {f:Nat→Option (Nat × Nat)} {z cells:Array Value} {i0 i1 i2 i3:Nat} {x0 x1 x2 x3:Operand} {v0 v1 v2 v3:Value} (h0:a.eval x0=v0) (h1:a.eval x1=v1) (h2:a.eval x2=v2) (h3:a.eval x3=v3) (hf:Instr.fill f z [(i0,v0),(i1,v1),(i2,v2),(i3,v3)]=some cells):Instr.fill f z ((#[(i0,x0),(i1,x1),(i2,x2),(i3,x3)]).map fun (i,x)=>(i,a.eval x)).toList=some cells:=by
  subst h0 h1 h2 h3;simp only [fZ,aB,aH];exact hf
theorem bt {p:Prop} [Decidable p] (h:decide p=true):p:=of_decide_eq_true h
theorem bn {p:Prop} [Decidable p] (h:decide p=false):¬p:=of_decide_eq_false h
end
section
open Go.RowKit
def YT (e:Nat) (w:World) (v:Value) (xs:List UInt8):Prop:=∃g cap cur k,v= .slice (some ⟨g,0,none⟩) xs.length cap∧w.heap[g]? =some (.cells cur e (k,k+1))∧xs.length≤cap∧cap≤maxLen∧cap≤k∧cap≤cur.size∧cur.toList.take xs.length=sN.row xs
theorem YT.sl {e:Nat} {w:World} {v:Value} {xs:List UInt8} (h:YT e w v xs):SlT sN w v xs:=by
  obtain ⟨g,cap,cur,k,rfl,hg,h1,h2,h3,h4,h5⟩:=h;refine ⟨.inr ⟨_,cap,rfl,h1,h2⟩,fun j u hj=> ?_⟩;have hlt:j < xs.length:=by
    have:=(List.getElem?_eq_some_iff.1 hj).1;rw [sN.row_length] at this
    simpa [sN] using this
  rw [←h5,iJ hlt] at hj;simp only [ee,oN];simp [World.cell?,hg];simpa using hj
theorem YT.keep {e:Nat} {M:Nat→Prop} {w w':World} {v:Value} {xs:List UInt8} (h:YT e w v xs) (he:Ext M w w') (hm:∀g,v.ownBlock=some g→¬M g):YT e w' v xs:=by
  obtain ⟨g,cap,cur,k,rfl,hg,r⟩:=h;exact ⟨g,cap,cur,k,rfl,by rw [he.block g (Array.getElem?_eq_some_iff.1 hg).1 (hm g rfl)];exact hg,r⟩
def ob (e:Nat) (xs:List UInt8) (T:bj) (v:Value) (w:World):Prop:=YT e w v xs∧∀g,v.ownBlock=some g→T g
theorem zB {N:bj} {e:Nat} {xs:List UInt8} (T:bj) (v:Value) (w w':World) (h:Ext (fun g=>N g∧¬T g) w w') (hr:ob e xs T v w):ob e xs T v w':=
  ⟨hr.1.keep h fun g hg hn=>hn.2 (hr.2 g hg),hr.2⟩
def Hf (e:Nat) (N:bj) (tag t:Nat) (xs:List UInt8):Spec N:=⟨some tag,t,fun _=>ob e xs,fun _ _ T v w w' _ h hr=>zB T v w w' h.less hr,fun _=>True,fun _ _ _ _ _=>trivial⟩
def EY (e:Nat) (N:bj) (v:Value) (xs:List UInt8):Ini N:=⟨fun _ T w=>ob e xs T v w,fun _ _ T w w' _ h=>zB T v w w' h.less⟩
theorem ob.isSl {e:Nat} {xs:List UInt8} {T:bj} {v:Value} {w:World} (h:ob e xs T v w):pw v xs.length:=h.1.sl.sl
theorem ob.cast {e:Nat} {xs ys:List UInt8} {T:bj} {v:Value} {w:World} (h:ob e xs T v w) (q:ys=xs):ob e ys T v w:=q ▸ h
theorem ob.le {e:Nat} {xs:List UInt8} {T:bj} {v:Value} {w:World} (h:ob e xs T v w):xs.length≤9223372036854775807:=h.1.sl.sl.le
section
variable {N:bj} {P:Program} {ops:Array Oper} {sp:List (Spec N)} {In:Nat→Ini N} {a0:Act} {w0:World} {bf:List Nat} {j:Nat} {o:Oper} {s:Spec N}
theorem vL {src dst e:TypeId} {tag t:Nat} {x:Operand} {u:ByteArray} (hs:s=Hf e N tag t u.data.toList) (hg:o.guard=none) (hd:o.dst=some t) (ho:o.op= .convert src dst x)
    (hsrc:P.underlying src=some .string) (hdst:P.underlying dst=some (.slice e)) (he:P.underlying e=some (.int .u8)) (hle:u.size≤140737488355328)
    (h:∀{done a w τ},Cx ops sp In a0 w0 bf j o done a w τ→a.eval x= .string u):Ob ops sp In a0 w0 P bf j o s:=by
  subst hs;refine fP hg rfl fun done a w τ c=> ?_;have hr:(execOp a.eval o).run P w= .ok (.value (.slice (some ⟨w.heap.size,0,none⟩) u.size (grownCap w u.size 0 e))) (Lib.bytesWorld w e u):=by
    have:=Lib.run_convert_string_bytes (P:=P) w src dst e u hsrc hdst he;simp only [execOp,ho,h c,Sem.run_bind,this,Result.andThen_ok];rfl
  have hge:=grownCap_ge w u.size 0 e;have hcm:grownCap w u.size 0 e≤maxLen:=grownCap_le_maxLen w _ 0 e (by simp only [maxLen];omega);have hl:u.data.toList.length=u.size:=by simp
  have hcs:(Lib.bytesCells w e u).size=grownCap w u.size 0 e:=by
    simp only [Lib.bytesCells,Array.size_append,Array.size_map,Array.size_replicate];have:u.data.size=u.size:=rfl;omega
  refine iu hr ⟨_,rfl,⟨rfl,rfl,rfl,by rw [Lib.bytesWorld_size];omega,fun k hk _=>Lib.bytesWorld_at_old w e u k hk⟩,fun g=>g=w.heap.size,fun g hg=> .inr (by subst hg;rw [Lib.bytesWorld_size];omega),?_⟩;show ob e u.data.toList _ (be (a.put o.dst _) t) _;rw [hd,eJ a t t _ (c.lt t hd),if_pos rfl];refine ⟨⟨w.heap.size,_,_,_,by rw [hl],Lib.bytesWorld_at_new w e u,by rw [hl];exact hge,hcm,by rw [hcs];omega,by rw [hcs];omega,?_⟩,fun g h=> ?_⟩
  · rw [hl,sO,Lib.bytesCells,Array.toList_append,Array.toList_map,iP (by simp),bw (by simp)]
  · simp only [Value.ownBlock,Option.some.injEq] at h;exact h.symm
theorem Bo {P:Program} {w:World} {e tt:Nat} {v:Value} {xs:List UInt8} {i:Nat} {n:Int} (h:YT e w v xs) (hi:i < xs.length) (hsz:∀w,(sizeOf tt).run P w= .ok 1 w) (h0:0≤n) (h1:n≤255):
    ∃w',(Instr.storeAt tt (.pointer (some ((ee v).add (i * 1)))) (.int .u8 n)).run P w= .ok () w'∧YT e w' v (xs.set i (UInt8.ofNat n.toNat))∧Ext (fun k=>v.ownBlock=some k) w w':=by
  obtain ⟨g,cap,cur,k,rfl,hg,h2,h3,h4,h5,h6⟩:=h;have hi':i < cur.size:=by omega
  have hcell:w.cell? ⟨g,i,none⟩=some cur[i]:=by simp [World.cell?,hg,hi']
  have hfro:w.frozen? ⟨g,i,none⟩=false:=by
    simp only [World.frozen?,hg,bl,ah];left;omega
  have hst:(store ⟨g,i,none⟩ (.int .u8 n)).run P w= .ok () (w.setRow g (cur.setIfInBounds i (.int .u8 n))):=by
    rw [Go.run_store P w _ (.int .u8 n) _ rfl,hcell];simp [hfro,setCell_eq_setRow w g i cur e (k,k+1) (.int .u8 n) hg]
  have hr:(Instr.storeAt tt (.pointer (some ⟨g,i,none⟩)) (.int .u8 n)).run P w= .ok () (w.setRow g (cur.setIfInBounds i (.int .u8 n))):=by
    have hc:(Value.int IntKind.u8 n).cells=#[.int .u8 n]:=rfl;have ha:((⟨g,i,none⟩:Addr).add 0)=⟨g,i,none⟩:=rfl;simp only [Instr.storeAt,Instr.sureAddr,Sem.run_bind,Sem.run_pure,Result.andThen_ok,storeVar,hsz,hc];simp [storeCells,ha,hst]
  refine ⟨_,by simp only [ee,oN,Nat.mul_one];exact hr,⟨g,cap,cur.setIfInBounds i (.int .u8 n),k,by rw [dx],setRow_heap w g cur _ e _ hg,by rw [dx];exact h2,h3,h4,by simpa using h5,?_⟩,(kB w g _).mono fun k _ h=>by rw [h];rfl⟩;rw [dx,Array.toList_setIfInBounds,List.take_set,h6,sO,sO,List.map_set];congr 2;have e1:(UInt8.ofNat n.toNat).toNat=n.toNat:=by
    rw [UInt8.toNat_ofNat'];exact Nat.mod_eq_of_lt (by omega)
  rw [e1];omega
theorem xy {e tag t tt i:Nat} {xs:List UInt8} {p q:Operand} {n:Int} (hs:s=Hf e N tag t (xs.set i (UInt8.ofNat n.toNat))) (hg:o.guard=none) (hd:o.dst=none) (ho:o.op= .store tt p q) (hsz:∀w,(sizeOf tt).run P w= .ok 1 w)
    (hi:i < xs.length) (h0:0≤n) (h1:n≤255)
    (hp:∀{done a w τ},Cx ops sp In a0 w0 bf j o done a w τ→ob e xs (τ tag) (be a t) w∧a.eval p= .pointer (some ((ee (be a t)).add (i * 1)))∧a.eval q= .int .u8 n):Ob ops sp In a0 w0 P bf j o s:=by
  subst hs;refine fP hg rfl fun done a w τ c=> ?_;obtain ⟨⟨hown,hT⟩,hp',hq⟩:=hp c;obtain ⟨w',hr,h2,h3⟩:=Bo (P:=P) (tt:=tt) hown hi hsz h0 h1;have hr':(execOp a.eval o).run P w= .ok .skip w':=by
    simp only [execOp,ho,hp',hq,Sem.run_bind,hr,Result.andThen_ok];rfl
  refine kC hr' ⟨undef,rfl,h3.mono (fun k _ h=>hT k h),τ tag,fun g h=> .inl h,?_⟩;show ob e (xs.set i _) _ (be (a.put o.dst _) t) _;rw [hd,mf];exact ⟨h2,hT⟩
end
section
variable {N:bj} {P:Program} {ops:Array Oper} {sp:List (Spec N)} {In:Nat→Ini N} {a0:Act} {w0:World} {bf:List Nat} {j:Nat} {o:Oper} {done:Nat→Bool} {a:Act} {w:World} {τ:Nat→bj}
theorem Cx.iy {e:Nat} {v:Value} {xs:List UInt8} (c:Cx ops sp In a0 w0 bf j o done a w τ) (t:Nat) (hI:In t=EY e N v xs) (hl:cr (sp.map (·.tag)) t j=none:=by exact rfl) (hord:lX (sp.map (·.tag)) bf t j=true:=by kernel_rfl):ob e xs (τ t) v w:=c.ini t _ hI hl hord
theorem Cx.ry {e t slot:Nat} {xs:List UInt8} (c:Cx ops sp In a0 w0 bf j o done a w τ) (i:Nat) (hs:sp[i]? =some (Hf e N t slot xs)) (hl:cr (sp.map (·.tag)) t j=some i:=by exact rfl) (hord:lX (sp.map (·.tag)) bf t j=true:=by kernel_rfl):ob e xs (τ t) (be a slot) w:=c.res i t _ hs hl hord
theorem Cx.yp {e slot:Nat} {v:Value} {xs:List UInt8} (c:Cx ops sp In a0 w0 bf j o done a w τ) (t:Nat) (hI:In t=EY e N v xs) (q:be a0 slot=v) (hl:cr (sp.map (·.tag)) t j=none:=by exact rfl) (hord:lX (sp.map (·.tag)) bf t j=true:=by kernel_rfl) (h:Cq ops bf j slot=true:=by kernel_rfl):ob e xs (τ t) (be a slot) w:=by
  rw [show be a slot=v from c.old q h];exact c.iy t hI hl hord
end
section
variable {N:bj} {l:List Oper} {sp:List (Spec N)} {il:List (Ini N)} {a0 a:Act} {w:World} {τ:Nat→bj}
theorem Fin.iy (h:Fin l sp il a0 a w τ) {e:Nat} {v:Value} {xs:List UInt8} (t:Nat) (hI:gJ il t=EY e N v xs) (hl:cr (sp.map (·.tag)) t sp.length=none:=by exact rfl):ob e xs (τ t) v w:=by
  have:=h.ini t hl;rw [hI] at this
  exact this
theorem Fin.ry (h:Fin l sp il a0 a w τ) {e t slot:Nat} {xs:List UInt8} (j:Nat) {v:Value} (hv:be a slot=v) (hs:sp[j]? =some (Hf e N t slot xs)) (hl:cr (sp.map (·.tag)) t sp.length=some j:=by exact rfl):ob e xs (τ t) v w:=hv ▸ h.res j t _ hs rfl hl
abbrev iy {N:bj} {e:Nat} {xs:List UInt8} {T:bj} {v:Value} {w:World} (_:ob e xs T v w):Ini N:=EY e N v xs
end
section
variable {P:Program} {a:Act} {o:Oper} {w:World} {x y:Operand} {t t':TypeId} {s u:ByteArray}
def va (x y:ByteArray):ByteArray:=if pW x y=true then y else x
theorem Jo (hc:o.op= .call { callee:= .builtin .max,args:=#[x,y],argTypes:=#[t,t'] }) (hx:a.eval x= .string s) (hy:a.eval y= .string u):cA P a o w (.string (va s u)):=by
  have h:(Builtin.max_ #[t,t'] o.type #[.string s,.string u]).run P w= .ok (.string (va s u)) w:=by
    cases hb:Op.bytesLess s.toList u.toList <;> simp [Builtin.max_,Builtin.max2,Op.stringOp,asBool,va,pW,hb]
  simp only [cA,execOp,hc,resolve,invoke,builtin,Sem.run_bind,Sem.run_pure,Result.andThen_ok,fZ,aB,aH,hx,hy,h]
end
end
section
open Go.RowKit
def sc (P:Program) (l:List Oper) (Q:Exit→Act→World→Prop) (a:Act) (w:World):Prop:=wpOps P l.toArray Q (List.range' 0 l.length) a w
theorem aY {P:Program} {id:Nat} {l:List Oper} {Q:Exit→Act→World→Prop} {a:Act} {w:World} (h:sc P l Q a w):(Code.region id l.toArray false).wp P Q a w:=by
  refine wp_region ?_;rw [List.range_eq_range'];exact h
def Hk (K:Act→World→Prop):Exit→Act→World→Prop:=fun e a w=>e= .normal∧K a w
def rx (k:Nat) (g:Option (Nat × Bool)):Option (Nat × Bool):=g.map fun p=>(p.1 - k,p.2)
def lT (k:Nat):Nat→List Oper→List Oper
  | _, [] => []
  | j, o :: l => { o with after := (match j with | 0 => #[] | i + 1 => #[⟨i, .data⟩]), guard := rx k o.guard } :: lT k (j + 1) l
def sd (k:Nat) (l:List Oper):List Oper:=lT k 0 l
def IV (l:List Oper) (k:Nat):Bool:=decide (k≤l.length)&&((l.take k).all fun o=>match o.guard with | none=>true | some g=>decide (g.1 < k))&&((l.drop k).all fun o=>match o.guard with | none=>true | some g=>decide (k≤g.1))
theorem oZ {k:Nat}:∀{l:List Oper} {j i:Nat},(∀o,l[i]? =some o→∃af,(lT k j l)[i]? =some { o with after:=af,guard:=rx k o.guard })∧(l[i]? =none→(lT k j l)[i]? =none)
  | [], j, i => ⟨fun o h => by simp at h, fun _ => by simp [lT]⟩
  | o :: l, j, 0 => ⟨fun o' h => by simp at h; subst h; exact ⟨_, rfl⟩, fun h => by simp at h⟩
  | o :: l, j, i + 1 => by
    have:=oZ (k:=k) (l:=l) (j:=j+1) (i:=i);simpa [lT] using this
theorem se {k:Nat}:∀{l:List Oper} {j:Nat},(lT k j l).length=l.length
  | [], _ => rfl
  | _ :: l, j => by simp [lT, se (l := l)]
theorem Hl {o:Oper} {P:Program} {a:Act} {w:World} {K K':Act→World→Prop} {C:Act→World→Prop} {Q:Exit→Act→World→Prop} (h:∀a w,K a w→K' a w) (hh:o.wp P a w K (Hk C)):o.wp P a w K' Q:=by
  unfold Oper.wp at *;generalize (execOp a.eval o).run P w=r at *;cases r with
  | ok n w' =>
    cases n <;> simp only [Oper.upon] at hh ⊢ <;>
      first
        | exact h _ _ hh
        | exact Calls.mono hh (fun e w'' he => by
            cases e with
            | returned v => exact h _ _ he
            | panicked c => exact absurd he.1 (by intro e; cases e)
            | outgrown => obtain ⟨_, _, h'⟩ := he; exact absurd h'.1 (by intro e; cases e))
        | exact Rows.mono hh (fun _ _ he => h _ _ he)
  | halt x w' => cases x <;> simp only [Oper.upon] at hh <;> exact absurd hh.1 (by intro e; cases e)
theorem EZ {P:Program} {l:List Oper} {l1:List Oper} (hl:l1=l.take l1.length) {K:Act→World→Prop} {Q:Exit→Act→World→Prop} {rest:List Nat} (hg:∀o ∈ l1,∀g,o.guard=some g→g.1 < l1.length)
    (hK:∀a w,K a w→wpOps P l.toArray Q rest a w):∀(m i:Nat) (a:Act) (w:World),i+m=l1.length→wpOps P l1.toArray (Hk K) (List.range' i m) a w→wpOps P l.toArray Q (List.range' i m++rest) a w:=by
  intro m;induction m with
  | zero =>
    intro i a w hi h;simp only [List.range'_zero,wpOps] at h;simpa using hK _ _ h.2
  | succ m ih =>
    intro i a w hi h;rw [po] at h ⊢;rw [eq];rw [wpOps_cons] at h ⊢;have hlt:i < l1.length:=by omega
    have e0:l1[i]? =l[i]? :=by
      have h1:l1[i]? =(l.take l1.length)[i]? :=congrArg (fun q:List Oper=>q[i]?) hl;rw [h1,iJ hlt]
    have ho:l1[i]? =some l1[i]:=by simp [hlt]
    have ho':l[i]? =some l1[i]:=by rw [←e0];exact ho
    unfold wpOp at h ⊢;simp only [kS,ho,ho'] at h ⊢;have hy:Region.wanted l1[i] (yielded l.toArray a.tmps)=Region.wanted l1[i] (yielded l1.toArray a.tmps):=by
      unfold Region.wanted;cases hgd:l1[i].guard with
      | none => rfl
      | some g =>
        have hlt2:=hg _ (pq hlt) g hgd;have e1:l1[g.1]? =l[g.1]? :=by
          have h1:l1[g.1]? =(l.take l1.length)[g.1]? :=congrArg (fun q:List Oper=>q[g.1]?) hl;rw [h1,iJ hlt2]
        obtain ⟨g1,g2⟩:=g;simp only [] at e1;simp only [yielded,kS,e1]
    rw [hy];split
    · rename_i hw;rw [if_pos hw] at h;rcases h with h | ⟨_,x,y,h⟩
      · exact .inl (Hl (fun a w hh=>ih (i+1) a w (by omega) hh) h)
      · exact absurd h.1 (by intro e;cases e)
    · rename_i hw;rw [if_neg hw] at h;exact ih (i+1) _ _ (by omega) h
theorem Fa {P:Program} {l:List Oper} {k:Nat} {Q:Exit→Act→World→Prop} (hg:∀o ∈ l.drop k,∀g,o.guard=some g→k≤g.1):∀(m i:Nat) (a:Act) (w:World),wpOps P (sd k (l.drop k)).toArray Q (List.range' i m) a w→wpOps P l.toArray Q (List.range' (k+i) m) a w:=by
  intro m;induction m with
  | zero => intro i a w h; simpa [wpOps] using h
  | succ m ih =>
    intro i a w h;rw [po] at h ⊢;rw [wpOps_cons] at h ⊢;have hd:(l.drop k)[i]? =l[k+i]? :=by rw [ky]
    unfold wpOp at h ⊢;simp only [kS] at h ⊢;have hr:=oZ (k:=k) (l:=l.drop k) (j:=0) (i:=i);cases ho:l[k+i]? with
    | none =>
      rw [show (sd k (l.drop k))[i]? =none from hr.2 (by rw [hd];exact ho)] at h;simp only [] at h ⊢;exact ih (i+1) _ _ h
    | some o =>
      obtain ⟨af,ha⟩:=hr.1 o (by rw [hd];exact ho);rw [show (sd k (l.drop k))[i]? =_ from ha] at h;simp only [] at h ⊢;have hy:Region.wanted { o with after:=af,guard:=rx k o.guard } (yielded (sd k (l.drop k)).toArray a.tmps)=Region.wanted o (yielded l.toArray a.tmps):=by
        unfold Region.wanted;simp only [];cases hgd:o.guard with
        | none => rfl
        | some g =>
          have hle:=hg o (iO (by rw [hd];exact ho)) g hgd;obtain ⟨g1,g2⟩:=g;simp only [] at hle;simp only [rx,Option.map_some];have e1:((sd k (l.drop k))[g1 - k]?).bind (·.dst)=(l[g1]?).bind (·.dst):=by
            have hr2:=oZ (k:=k) (l:=l.drop k) (j:=0) (i:=g1 - k);have hd2:(l.drop k)[g1 - k]? =l[g1]? :=by rw [ky];congr 1;omega
            cases hq:l[g1]? with
            | none => rw [show (sd k (l.drop k))[g1 - k]? = none from hr2.2 (by rw [hd2]; exact hq)]
            | some o2 =>
              obtain ⟨af2,ha2⟩:=hr2.1 o2 (by rw [hd2];exact hq);rw [show (sd k (l.drop k))[g1 - k]? =_ from ha2];rfl
          simp only [yielded,kS,e1]
      rw [hy] at h;have hwp:∀K,({ o with after:=af,guard:=rx k o.guard }:Oper).wp P a w K Q=o.wp P a w K Q:=fun K=>rfl;have hask:({ o with after:=af,guard:=rx k o.guard }:Oper).asks P a w=o.asks P a w:=rfl;split
      · rename_i hw;rw [if_pos hw] at h;rcases h with h | h
        · exact .inl (Oper.wp_mono (fun a w hh=>ih (i+1) a w hh) h)
        · exact .inr h
      · rename_i hw;rw [if_neg hw] at h;exact ih (i+1) _ _ h
theorem bV {P:Program} {l:List Oper} {Q:Exit→Act→World→Prop} {a:Act} {w:World} (k:Nat) (hk:IV l k=true) (h:sc P (l.take k) (Hk (sc P (sd k (l.drop k)) Q)) a w):sc P l Q a w:=by
  unfold IV at hk;simp only [au,cI,ai] at hk;obtain ⟨⟨hkl,h1⟩,h2⟩:=hk;unfold sc;have hlen:(l.take k).length=k:=by simp;omega
  have e:List.range' 0 l.length=List.range' 0 k++List.range' k (l.length - k):=by
    conv=>lhs;rw [show l.length=k+(l.length - k) by omega]
    have:=@List.range'_append_1 0 k (l.length - k);rw [gw] at this
    exact this.symm
  rw [e];unfold sc at h;rw [hlen] at h;refine EZ (l1:=l.take k) (by rw [hlen]) (fun o ho g hgd=> ?_) (fun a w hh=> ?_) k 0 a w (by omega) h
  · have:=h1 o ho;rw [hgd] at this
    rw [hlen];simpa using this
  · unfold sc at hh;have hl2:(sd k (l.drop k)).length=l.length - k:=by unfold sd;rw [se];simp
    rw [hl2] at hh;have:=Fa (l:=l) (k:=k) (fun o ho g hgd=>by have:=h2 o ho;rw [hgd] at this;simpa using this) (l.length - k) 0 a w hh;simpa using this
theorem KC {N:bj} {P:Program} {l:List Oper} {sp:List (Spec N)} {ini:Nat→Ini N} {a0:Act} {w0:World} {bf:List Nat} (hok:(qy l.toArray a0.tmps.size&&uZ l.toArray bf&&qN l.toArray bf (sp.map (·.slot)) (sp.map (·.tag)))=true)
    {Q:Exit→Act→World→Prop} {τ:Nat→bj} (hb:∀k,w0.heap.size≤k→N k) (hdis:∀s t g,τ s g→τ t g→s=t) (hbnd:∀t g,τ t g→N g∧g < w0.heap.size) (hini:∀t,(ini t).I (gO τ w0) (τ t) w0)
    (obs:so l.toArray sp ini a0 w0 P bf 0 l sp)
    (fin:∀done a w τ,(∀i,i < l.length→done i=true)→J l.toArray sp ini a0 w0 done a w τ→Q .normal a w):sc P l Q a0 w0:=by
  rw [au,au] at hok;obtain ⟨⟨h1,h2⟩,h3⟩:=hok;have obs':∀(j:Nat) (o:Oper) (s:Spec N),l.toArray[j]? =some o→sp[j]? =some s→Ob l.toArray sp ini a0 w0 P bf j o s:=fun j o s ho hs=>by
    have:=sr obs j o s (by simpa using ho) hs;rwa [gw] at this
  refine Cr h1 h2 h3 obs' (fun a w τ hJ=>fin _ a w τ (fun i hi=>by simpa using hi) hJ) l.toArray.size 0 a0 w0 τ rfl ?_;exact J.start hb hdis hbnd hini (.inl rfl) fun i _=>by simp
theorem Jp {N:bj} {n:Nat} {W0:World} {P:Program} {l:List Oper} {sp:List (Spec N)} (il:List (Ini N)) {a0:Act} {w0:World} {τ0:Nat→bj} {bf:List Nat}
    {Q:Exit→Act→World→Prop} (hst:St N W0 n a0 w0 τ0) (hok:(qy l.toArray n&&uZ l.toArray bf&&qN l.toArray bf (sp.map (·.slot)) (sp.map (·.tag)))=true)
    (hini:vI τ0 w0 0 il) (obs:so l.toArray sp (gJ il) a0 w0 P bf 0 l sp)
    (fin:∀a w τ,St N W0 n a w τ→Fin l sp il a0 a w τ→Q .normal a w):sc P l Q a0 w0:=by
  have hlen:sp.length=l.length:=by
    simp only [au] at hok;have h3:=hok.2;unfold qN at h3;simp only [au,gr,beq_iff_eq] at h3;simpa using h3.1.1
  refine KC (N:=N) (ini:=gJ il) (τ:=τ0) (by rw [hst.size];exact hok) hst.big hst.disj hst.bnd (fun t=> ?_) obs fun done a w τ hd hJ=> ?_
  · have:=qQ hini t;rwa [gw] at this
  · refine fin a w τ ⟨hJ.defers.trans hst.defers,hJ.size.trans hst.size,hst.ext.trans hJ.ext,hJ.big,hJ.disj,hJ.bnd⟩ ⟨fun t ht=> ?_,fun j s hs ht=> ?_,fun j t s hs ht hl=> ?_,fun t hl=> ?_⟩
    · refine hJ.un t fun i o hi hdst=> ?_;exfalso;unfold kU at ht;rw [cI] at ht;have:=ht o (iO (by simpa using hi));simp [hdst] at this
    · exact hJ.det j s hs ht (hd j (by rw [←hlen];exact (List.getElem?_eq_some_iff.1 hs).1))
    · obtain ⟨h1,h2,h3⟩:=nB hl;refine hJ.res j s t hs ht (hd j (by omega)) fun k s' hk hlt hkt=> ?_;exact absurd (by rw [lD hk];exact hkt) (h3 k hlt (List.getElem?_eq_some_iff.1 hk).1)
    · refine hJ.ini t fun k s' hk hkt=> ?_;exact absurd (by rw [lD hk];exact hkt) (nC hl k (List.getElem?_eq_some_iff.1 hk).1)
structure ZP where
  P:bj→World→Prop
  st:∀{Z Z':bj} {w w':World},(∀g,Z g→Z' g)→Ext (fun g=>¬Z g) w w'→P Z w→P Z' w'
def Fz (Φ:ZP) (τ:Nat→bj) (w:World):Prop:=Φ.P (gO τ w) w
def rX (N:bj) (Φ:ZP):Ini N:=⟨fun Z _ w=>Φ.P Z w,fun Z Z' T w w' hz he h=>Φ.st hz (he.mono fun _ _ h=>h.2.2) h⟩
abbrev iz {N:bj} {Φ:ZP} {τ:Nat→bj} {w:World} (_:Fz Φ τ w):Ini N:=rX N Φ
def ZP.pure (p:Prop):ZP:=⟨fun _ _=>p,fun _ _ h=>h⟩
def ZP.and (Φ Ψ:ZP):ZP:=⟨fun Z w=>Φ.P Z w∧Ψ.P Z w,fun hz he h=>⟨Φ.st hz he h.1,Ψ.st hz he h.2⟩⟩
def fb {α:Type} (E:Enc α) (G:bj) (v:Value) (xs:List α):ZP:=⟨fun Z w=>SlT E w v xs∧(xs≠ []→Z (ee v).block∧G (ee v).block),fun hz he h=>⟨h.1.keep he fun hn hm=>hm (h.2 hn).1,fun hn=>⟨hz _ (h.2 hn).1,(h.2 hn).2⟩⟩⟩
section
variable {N:bj} {β:Type}
def gE (N:bj) (t:Nat) (f:β→Value) (Ψ:β→Prop) (Φ:β→ZP):Spec N:=⟨none,t,fun Z _ v w=>∃b,v=f b∧Ψ b∧(Φ b).P Z w,fun Z Z' T v w w' hz he ⟨b,h1,h2,h3⟩=>⟨b,h1,h2,(Φ b).st hz (he.mono fun _ _ h=>h.2.2) h3⟩,fun _=>True,fun _ _ _ _ _=>trivial⟩
def DE {α:Type} (E:Enc α) (ty:Nat) (N:bj) (tag t:Nat) (xs:β→List α) (Ψ:β→Prop) (Φ:β→ZP):Spec N:=⟨some tag,t,fun Z T v w=>∃b,ep E ty (xs b) T v w∧Ψ b∧(Φ b).P Z w,fun Z Z' T v w w' hz he ⟨b,h1,h2,h3⟩=>⟨b,mY T v w w' he.less h1,h2,(Φ b).st hz (he.mono fun _ _ h=>h.2.2) h3⟩,fun _=>True,fun _ _ _ _ _=>trivial⟩
def mi (ty:Nat) (N:bj) (tag t:Nat) (p:Value) (cells:β→List Value) (f:β→Value) (Ψ:β→Prop) (Φ:β→ZP):Spec N:=⟨some tag,t,fun Z T v w=>∃b,v=f b∧cH ty (cells b) T p w∧Ψ b∧(Φ b).P Z w,fun Z Z' T v w w' hz he ⟨b,h0,h1,h2,h3⟩=>⟨b,h0,nY T p w w' he.less h1,h2,(Φ b).st hz (he.mono fun _ _ h=>h.2.2) h3⟩,fun _=>True,fun _ _ _ _ _=>trivial⟩
end
def Gn (F:bj) (w:World):bj:=fun g=>F g∨w.heap.size≤g
section
variable {N:bj} {P:Program} {ops:Array Oper} {sp:List (Spec N)} {In:Nat→Ini N} {a0:Act} {w0:World} {bf:List Nat} {j:Nat} {o:Oper} {s:Spec N} {β:Type}
theorem eT {t:Nat} {f:β→Value} {Ψ:β→Prop} {Φ:β→ZP} (h:∀{done a w τ},Cx ops sp In a0 w0 bf j o done a w τ→∃g args,hN P a o w g args∧Calls P g args w (fun e w'=>∃b,e= .returned (f b)∧Ext aW w w'∧Ψ b∧(Φ b).P (gO τ w') w'))
    (hs:s=gE N t f Ψ Φ:=by exact rfl) (hg:o.guard=none:=by exact rfl) (hd:o.dst=some t:=by exact rfl):Ob ops sp In a0 w0 P bf j o s:=
  yk hg fun done a w τ c=>by
    obtain ⟨g,args,h1,h2⟩:=h c;subst hs;unfold Oper.wp;rw [h1];refine h2.mono fun e w' ⟨b,he,hx,hp,hz⟩=> ?_;subst he;refine ⟨f b,rfl,hx,b,?_,hp,hz⟩;show be (a.put o.dst (f b)) t=f b;rw [hd,eJ a t t _ (c.lt t hd),if_pos rfl]
theorem mQ {τ:Nat→bj} {tag:Nat} {T':bj} {w:World} (h:∀g,T' g→τ tag g):∀g,gO τ w g→gO (qF τ tag T') w g:=fun g hg=>⟨hg.1,fun t ht=>by
  unfold qF at ht;split at ht
  · exact hg.2 _ (h _ ht)
  · exact hg.2 _ ht⟩
theorem Cv {α:Type} {E:Enc α} {ty tag t:Nat} {xs:β→List α} {Ψ:β→Prop} {Φ:β→ZP} (h:∀{done a w τ},Cx ops sp In a0 w0 bf j o done a w τ→∃f args,hN P a o w f args∧Calls P f args w (fun e w'=>∃v b,e= .returned v∧Ext aW w w'∧su E ty w w' v (xs b)∧Ψ b∧(Φ b).P (gO (qF τ tag fun g=>v.ownBlock=some g) w') w'))
    (hs:s=DE E ty N tag t xs Ψ Φ:=by exact rfl) (hg:o.guard=none:=by exact rfl) (hd:o.dst=some t:=by exact rfl):Ob ops sp In a0 w0 P bf j o s:=by
  subst hs;refine mh (tag:=tag) hg rfl fun done a w τ c=> ?_;obtain ⟨f,args,h1,h2⟩:=h c;refine ⟨f,args,h1,h2.mono fun e w' ⟨v,b,he,hx,ho,hp,hz⟩=>⟨v,he,hx.mono (fun _ _ h=>h.elim),fun g=>v.ownBlock=some g,fun g hg=> .inr ⟨ho.2 g hg,ho.1.lt g hg⟩,b,?_,hp,hz⟩⟩;show ep E ty (xs b) _ (be (a.put o.dst v) t) w';rw [hd,eJ a t t v (c.lt t hd),if_pos rfl];exact ⟨ho.1,fun g h=>h⟩
theorem ku {ty tag t:Nat} {p:Value} {cells:β→List Value} {f:β→Value} {Ψ:β→Prop} {Φ:β→ZP} (h:∀{done a w τ},Cx ops sp In a0 w0 bf j o done a w τ→∃g args,hN P a o w g args∧Calls P g args w (fun e w'=>∃b,e= .returned (f b)∧Ext (τ tag) w w'∧cH ty (cells b) (τ tag) p w'∧Ψ b∧(Φ b).P (gO τ w') w'))
    (hs:s=mi ty N tag t p cells f Ψ Φ:=by exact rfl) (hg:o.guard=none:=by exact rfl) (hd:o.dst=some t:=by exact rfl):Ob ops sp In a0 w0 P bf j o s:=by
  subst hs;refine mh (tag:=tag) hg rfl fun done a w τ c=> ?_;obtain ⟨g,args,h1,h2⟩:=h c;refine ⟨g,args,h1,h2.mono fun e w' ⟨b,he,hx,hb,hp,hz⟩=>⟨f b,he,hx,τ tag,fun g h=> .inl h,b,?_,hb,hp,(Φ b).st (mQ fun _ h=>h) (Ext.refl _ _) hz⟩⟩;show be (a.put o.dst (f b)) t=f b;rw [hd,eJ a t t _ (c.lt t hd),if_pos rfl]
end
section
variable {N:bj} {P:Program} {ops:Array Oper} {sp:List (Spec N)} {In:Nat→Ini N} {a0:Act} {w0:World} {bf:List Nat} {j:Nat} {o:Oper} {done:Nat→Bool} {a:Act} {w:World} {τ:Nat→bj}
theorem Cx.iz {Φ:ZP} (c:Cx ops sp In a0 w0 bf j o done a w τ) (t:Nat) (hI:In t=rX N Φ) (hl:cr (sp.map (·.tag)) t j=none:=by exact rfl) (hord:lX (sp.map (·.tag)) bf t j=true:=by kernel_rfl):Φ.P (gO τ w) w:=c.ini t _ hI hl hord
theorem Cx.gz {F:bj} {W w':World} (c:Cx ops sp In a0 w0 bf j o done a w τ) (hW:W.heap.size≤w.heap.size) (hx:w.heap.size≤w'.heap.size):∀g,Gn (fun g=>gO τ w g∧Gn F W g) w g→g < w'.heap.size→gO τ w' g∧Gn F W g:=fun g hg hlt=>by
  rcases hg with ⟨⟨h1,h2⟩,h3⟩ | hg
  · exact ⟨⟨hlt,h2⟩,h3⟩
  · exact ⟨⟨hlt,fun t ht=>by have:=(c.J.bnd t g ht).2;omega⟩,.inr (by omega)⟩
theorem Cx.gzo {F:bj} {W w':World} {tag:Nat} {v:Value} (c:Cx ops sp In a0 w0 bf j o done a w τ) (hW:W.heap.size≤w.heap.size) (hx:w.heap.size≤w'.heap.size) (hv:∀g,v.ownBlock=some g→w.heap.size≤g):∀g,Gn (fun g=>gO τ w g∧Gn F W g) w g∧v.ownBlock≠some g→g < w'.heap.size→gO (qF τ tag fun g=>v.ownBlock=some g) w' g∧Gn F W g:=fun g hg hlt=>by
  obtain ⟨hg,hne⟩:=hg;have hG:Gn F W g:=by
    rcases hg with ⟨_,h3⟩ | hg
    · exact h3
    · exact .inr (by omega)
  refine ⟨⟨hlt,fun t ht=> ?_⟩,hG⟩;unfold qF at ht;split at ht
  · exact hne ht
  · rcases hg with ⟨⟨_,h2⟩,_⟩ | hg
    · exact h2 t ht
    · have:=(c.J.bnd t g ht).2;omega
end
section
variable {N:bj} {l:List Oper} {sp:List (Spec N)} {il:List (Ini N)} {a0 a:Act} {w:World} {τ:Nat→bj} {β:Type}
theorem Fin.iz (h:Fin l sp il a0 a w τ) {Φ:ZP} (t:Nat) (hI:gJ il t=rX N Φ) (hl:cr (sp.map (·.tag)) t sp.length=none:=by exact rfl):Fz Φ τ w:=by
  have:=h.ini t hl;rw [hI] at this
  exact this
theorem Fin.zd (h:Fin l sp il a0 a w τ) {t:Nat} {f:β→Value} {Ψ:β→Prop} {Φ:β→ZP} (j:Nat) (hs:sp[j]? =some (gE N t f Ψ Φ)):∃b,be a t=f b∧Ψ b∧Fz (Φ b) τ w:=h.det j _ hs rfl
theorem Fin.zo (h:Fin l sp il a0 a w τ) {α:Type} {E:Enc α} {ty t slot:Nat} {xs:β→List α} {Ψ:β→Prop} {Φ:β→ZP} (j:Nat) {v:Value} (hv:be a slot=v) (hs:sp[j]? =some (DE E ty N t slot xs Ψ Φ)) (hl:cr (sp.map (·.tag)) t sp.length=some j:=by exact rfl):∃b,ep E ty (xs b) (τ t) v w∧Ψ b∧Fz (Φ b) τ w:=
  hv ▸ h.res j t _ hs rfl hl
theorem Fin.zb (h:Fin l sp il a0 a w τ) {ty t slot:Nat} {p:Value} {cells:β→List Value} {f:β→Value} {Ψ:β→Prop} {Φ:β→ZP} (j:Nat) (hs:sp[j]? =some (mi ty N t slot p cells f Ψ Φ)) (hl:cr (sp.map (·.tag)) t sp.length=some j:=by exact rfl):∃b,be a slot=f b∧cH ty (cells b) (τ t) p w∧Ψ b∧Fz (Φ b) τ w:=
  h.res j t _ hs rfl hl
end
section
variable {P:Program} {a:Act} {o:Oper} {w w':World} {f:FuncId}
theorem uM {x:Operand} {v:Value} (ho:o.op= .makeFunc (.func f) #[] #[x]) (hx:a.eval x=v):cA P a o w (.func (.func f) #[] #[v]):=by
  subst hx;simp [cA,execOp,ho,Instr.makeFunc]
theorem zC {x y z:Operand} {v u q:Value} (ho:o.op= .makeFunc (.func f) #[] #[x,y,z]) (hx:a.eval x=v) (hy:a.eval y=u) (hz:a.eval z=q):cA P a o w (.func (.func f) #[] #[v,u,q]):=by
  subst hx hy hz;simp [cA,execOp,ho,Instr.makeFunc]
theorem zD {x y z x4:Operand} {v u q v4:Value} (ho:o.op= .makeFunc (.func f) #[] #[x,y,z,x4]) (hx:a.eval x=v) (hy:a.eval y=u) (hz:a.eval z=q) (h4:a.eval x4=v4):cA P a o w (.func (.func f) #[] #[v,u,q,v4]):=by
  subst hx hy hz h4;simp [cA,execOp,ho,Instr.makeFunc]
theorem Fb {x x1:Operand} {ts:Array TypeId} {v1 c1:Value} (ho:o.op= .call { callee:= .value x,args:=#[x1],argTypes:=ts }) (hx:a.eval x= .func (.func f) #[] #[c1]) (hcall:∀args w,(callFunc f args).run P w= .ok (.enter f args) w) (h1:a.eval x1=v1):hN P a o w f #[v1,c1]:=
  pV ho hx hcall (by simp [h1])
theorem Ext.fresh {W w:World} (h:Ext (fun k=>W.heap.size≤k) W w):Ext aW W w:=⟨h.os,h.tape,h.output,h.size,fun k hk _=>h.block k hk (fun hn:W.heap.size≤k=>by omega)⟩
theorem Ext.cellAt {W w:World} (h:Ext (fun k=>W.heap.size≤k) W w) {p:Addr} {v:Value} (hc:W.cell? p=some v):w.cell? p=some v:=h.fresh.cell_some hc (fun h=>h)
end
section
variable {N:bj} {β:Type}
def iA (N:bj) (t:Nat) (pc:Prop) (f:β→Value) (Ψ:β→Prop) (Φ:β→ZP):Spec N:=⟨none,t,fun Z _ v w=>pc→∃b,v=f b∧Ψ b∧(Φ b).P Z w,fun Z Z' T v w w' hz he h hp=>(h hp).elim fun b ⟨h1,h2,h3⟩=>⟨b,h1,h2,(Φ b).st hz (he.mono fun _ _ h=>h.2.2) h3⟩,fun _=>True,fun _ _ _ _ _=>trivial⟩
def uN {α:Type} (E:Enc α) (ty:Nat) (N:bj) (tag t:Nat) (pc:Prop) (xs:β→List α) (Ψ:β→Prop) (Φ:β→ZP):Spec N:=⟨some tag,t,fun Z T v w=>pc→∃b,ep E ty (xs b) T v w∧Ψ b∧(Φ b).P Z w,fun Z Z' T v w w' hz he h hp=>(h hp).elim fun b ⟨h1,h2,h3⟩=>⟨b,mY T v w w' he.less h1,h2,(Φ b).st hz (he.mono fun _ _ h=>h.2.2) h3⟩,fun _=>True,fun _ _ _ _ _=>trivial⟩
def zE (ty:Nat) (N:bj) (tag t:Nat) (cells:β→List Value) (Ψ:β→Prop) (Φ:β→ZP):Spec N:=⟨some tag,t,fun Z T v w=>∃b,cH ty (cells b) T v w∧Ψ b∧(Φ b).P Z w,fun Z Z' T v w w' hz he ⟨b,h1,h2,h3⟩=>⟨b,nY T v w w' he.less h1,h2,(Φ b).st hz (he.mono fun _ _ h=>h.2.2) h3⟩,fun _=>True,fun _ _ _ _ _=>trivial⟩
end
section
variable {N:bj} {P:Program} {ops:Array Oper} {sp:List (Spec N)} {In:Nat→Ini N} {a0:Act} {w0:World} {bf:List Nat} {j:Nat} {o:Oper} {s:Spec N} {β:Type} {pc:Prop}
def zF (ops:Array Oper) (sp:List (Spec N)) (bf:List Nat) (j:Nat) (o:Oper) (pc:Prop):Prop:=
  (o.guard=none∧pc)∨(∃gi want tg b,o.guard=some (gi,want)∧((ops[gi]?).bind (·.dst))=some tg∧sp[gi]? =some (B.det N tg (.bool b))∧(bf.getD j 0).testBit gi=true∧(pc↔b=want))∨
  (∃gi want tg b pg,o.guard=some (gi,want)∧((ops[gi]?).bind (·.dst))=some tg∧sp[gi]? =some (B.gdet N tg pg (.bool b))∧(bf.getD j 0).testBit gi=true∧(pc↔(pg∧b=want)))
theorem sP (hg:o.guard=none:=by exact rfl):zF ops sp bf j o True:= .inl ⟨hg,av⟩
theorem vM {a:Act} {t:Nat} {b:Bool} (hv:be a t= .bool b):a.tmps[t]? =some (.bool b):=by
  unfold be at hv;rw [bG] at hv;cases h':a.tmps[t]? with
  | none => rw [h'] at hv; simp [undef] at hv
  | some u => rw [h'] at hv; simp at hv; rw [hv]
theorem DF {a:Act} {t:Nat} (hv:be a t=undef):∀b,a.tmps[t]? ≠some (.bool b):=by
  intro bb h';unfold be at hv;rw [bG,h'] at hv;simp [undef] at hv
theorem zF.known (h:zF ops sp bf j o pc) {done:Nat→Bool} {a:Act} {w:World} {τ:Nat→bj} (c:Cx ops sp In a0 w0 bf j o done a w τ):Region.wanted o (yielded ops a.tmps)=true↔pc:=by
  rcases h with ⟨hg,hp⟩ | ⟨gi,want,tg,b,hg,hgd,hgs,hb,hpc⟩ | ⟨gi,want,tg,b,pg,hg,hgd,hgs,hb,hpc⟩
  · exact ⟨fun _=>hp,fun _=>oM hg _⟩
  · have hv:=vM (c.v gi hgs hb);rw [hpc];cases b <;> cases want <;> simp [Region.wanted,hg,yielded,hgd,hv]
  · have hv:(pg→be a tg= .bool b)∧(¬pg→be a tg=undef):=c.J.det gi _ hgs rfl (c.pre gi hb);rw [hpc];by_cases hpg:pg
    · have hv:=vM (hv.1 hpg);cases b <;> cases want <;> simp [Region.wanted,hg,yielded,hgd,hv,hpg]
    · have hv:=DF (hv.2 hpg);have hy:yielded ops a.tmps gi=none:=by
        cases h':a.tmps[tg]? with
        | none => simp [yielded, hgd, h']
        | some u => cases u <;> first | exact absurd h' (hv _) | simp [yielded, hgd, h']
      simp [Region.wanted,hg,hy,hpg]
theorem Fc {t:Nat} {f:β→Value} {Ψ:β→Prop} {Φ:β→ZP} (hgd:zF ops sp bf j o pc) (h:∀{done a w τ},Cx ops sp In a0 w0 bf j o done a w τ→pc→∃g args,hN P a o w g args∧Calls P g args w (fun e w'=>∃b,e= .returned (f b)∧Ext aW w w'∧Ψ b∧(Φ b).P (gO τ w') w'))
    (hs:s=iA N t pc f Ψ Φ:=by exact rfl) (hd:o.dst=some t:=by exact rfl):Ob ops sp In a0 w0 P bf j o s:=by
  subst hs;intro done a w τ c;refine ⟨fun hw=> ?_,fun hw=>⟨Ext.refl _ _,fun hp=>by rw [(hgd.known c).2 hp] at hw;cases hw⟩⟩;have hp:=(hgd.known c).1 hw;obtain ⟨g,args,h1,h2⟩:=h c hp;unfold Oper.wp;rw [h1];refine h2.mono fun e w' ⟨b,he,hx,hq,hz⟩=> ?_;subst he;refine ⟨f b,rfl,hx,fun _=>⟨b,?_,hq,hz⟩⟩;show be (a.put o.dst (f b)) t=f b;rw [hd,eJ a t t _ (c.lt t hd),if_pos rfl]
theorem vN {α:Type} {E:Enc α} {ty e tag t n:Nat} {xs:β→List α} {Ψ:β→Prop} {Φ:β→ZP} {parts:Array (Nat × Operand)} {z:Value} {cells:β→Array Value} (hgd:zF ops sp bf j o pc) (ho:o.op= .buildSlice ty n parts)
    (hty:P.underlying ty=some (.slice e)) (hsz:∀w,(sizeOf e).run P w= .ok E.sz w) (hz:∀w,(zeroValue e).run P w= .ok z w) (hn0:0 < n) (hsmall:n * E.sz≤16777216) (hn:∀b,n=(xs b).length) (hc:∀b,(cells b).toList=E.row (xs b))
    (h:∀{done a w τ},Cx ops sp In a0 w0 bf j o done a w τ→pc→∃b,Ψ b∧(Φ b).P (gO τ w) w∧Instr.fill (fun i=>some (i * E.sz,E.sz)) ((Array.range (n * E.sz)).map (z.cells[· % z.cells.size]!)) (parts.map fun (i,x)=>(i,a.eval x)).toList=some (cells b))
    (hs:s=uN E e N tag t pc xs Ψ Φ:=by exact rfl) (hd:o.dst=some t:=by exact rfl):Ob ops sp In a0 w0 P bf j o s:=by
  subst hs;intro done a w τ c;refine ⟨fun hw=> ?_,fun hw=>⟨Ext.refl _ _,τ tag,fun g h=> .inl h,fun hp=>by rw [(hgd.known c).2 hp] at hw;cases hw⟩⟩;have hp:=(hgd.known c).1 hw;obtain ⟨b,hq,hzz,hf⟩:=h c hp;have h2:¬(n * E.sz > 2 ^ 24):=by omega
  have h0:¬(n * E.sz=0):=by have:=Nat.mul_pos hn0 E.pos;omega
  have hr:(execOp a.eval o).run P w= .ok (.value (.slice (some ⟨w.heap.size,0,none⟩) n n)) (w.alloc (.cells (cells b) e)):=by
    simp only [execOp,ho,Instr.buildSlice,Sem.run_bind,run_underlying hty,Result.andThen_ok,hsz,h2,if_false,Sem.run_pure,h0,hz];rw [hf];rfl
  have hl:(cells b).size=n * E.sz:=by rw [←gD,hc,E.row_length,←hn b]
  refine iu hr ⟨_,rfl,Ext.alloc _ _ _,fun g=>g=w.heap.size,fun g hg=> .inr (by subst hg;simp),fun _=>⟨b,?_,hq,?_⟩⟩
  · show ep E e (xs b) _ (be (a.put o.dst _) t) _;rw [hd,eJ a t t _ (c.lt t hd),if_pos rfl];refine ⟨⟨E.row_length (xs b),.inr ⟨w.heap.size,n,cells b,by rw [←hn b],dC _,heap_alloc_new w _,by rw [←hn b];exact bz _,?_,hl,?_⟩⟩,fun g h=> ?_⟩
    · have:=lR n E.pos;simp only [maxLen];omega
    · rw [hc,←E.row_length];exact pp
    · simp only [Value.ownBlock,Option.some.injEq] at h;exact h.symm
  · refine (Φ b).st (fun g hg=>⟨dM hg.1 (by simp),fun t ht=> ?_⟩) ((Ext.alloc aW w _).mono fun _ _ h=>h.elim) hzz;unfold qF at ht;split at ht
    · have:=hg.1;omega
    · exact hg.2 t ht
theorem sw {ty tag t tt off:Nat} {cells0:List Value} {cells:β→List Value} {Ψ:β→Prop} {Φ:β→ZP} {x y:Operand} {v:β→Value} (hg:o.guard=none) (ho:o.op= .store tt x y) (hsz:∀b w,(sizeOf tt).run P w= .ok (v b).cells.size w)
    (hfit:∀b,off+(v b).cells.size≤cells0.length) (h1:∀b,∀u ∈ (v b).cells.toList,u.oneCell'=true) (hc:∀b,cells b=cells0.take off++(v b).cells.toList++cells0.drop (off+(v b).cells.size))
    (hp:∀{done a w τ},Cx ops sp In a0 w0 bf j o done a w τ→∃b,Ψ b∧(Φ b).P (gO τ w) w∧cH ty cells0 (τ tag) (be a t) w∧a.eval x= .pointer (some ((ee (be a t)).add off))∧a.eval y=v b)
    (hs:s=zE ty N tag t cells Ψ Φ:=by exact rfl) (hd:o.dst=none:=by exact rfl):Ob ops sp In a0 w0 P bf j o s:=by
  subst hs;refine fP hg rfl fun done a w τ c=> ?_;obtain ⟨b,hq,hzz,⟨g,hv,hlt,hT,hgg⟩,hx,hy⟩:=hp c;have hx':a.eval x= .pointer (some ⟨g,off,none⟩):=by rw [hx,hv];simp only [ee,oN]
  have hr:=run_store (P:=P) (t:=tt) (off:=off) hgg (hsz b) (by simpa using hfit b) (h1 b);have hr':(execOp a.eval o).run P w= .ok .skip (w.setRow g (cells b).toArray):=by
    simp only [execOp,ho,hx',hy,Sem.run_bind,hr,Result.andThen_ok];rw [hc];rfl
  have hx:Ext (τ tag) w (w.setRow g (cells b).toArray):=(kB w g _).mono (fun k _ h=>by rw [h];exact hT);refine kC hr' ⟨undef,rfl,hx,τ tag,fun g h=> .inl h,b,?_,hq,?_⟩
  · show cH ty (cells b) _ (be (a.put o.dst _) t) _;rw [hd,mf];exact ⟨g,hv,by simp [World.setRow,hlt],hT,setRow_heap w g _ _ ty _ hgg⟩
  · exact (Φ b).st (fun g hg=>mQ (fun _ h=>h) g ⟨dM hg.1 hx.size,hg.2⟩) (hx.mono fun g _ hg hn=>hn.2 _ hg) hzz
end
section
variable {N:bj} {P:Program} {ops:Array Oper} {sp:List (Spec N)} {In:Nat→Ini N} {a0:Act} {w0:World} {bf:List Nat} {j:Nat} {o:Oper} {done:Nat→Bool} {a:Act} {w:World} {τ:Nat→bj} {β:Type} {pc:Prop}
theorem Cx.zd (c:Cx ops sp In a0 w0 bf j o done a w τ) (i:Nat) {t:Nat} {f:β→Value} {Ψ:β→Prop} {Φ:β→ZP} (hs:sp[i]? =some (iA N t pc f Ψ Φ)) (hp:pc) (hb:(bf.getD j 0).testBit i=true:=by exact rfl):∃b,a.eval (.tmp t)=f b∧Ψ b∧(Φ b).P (gO τ w) w:=c.J.det i _ hs rfl (c.pre i hb) hp
theorem Cx.zo (c:Cx ops sp In a0 w0 bf j o done a w τ) {α:Type} {E:Enc α} {ty t slot:Nat} {xs:β→List α} {Ψ:β→Prop} {Φ:β→ZP} (i:Nat) (hs:sp[i]? =some (uN E ty N t slot pc xs Ψ Φ)) (hp:pc) (hl:cr (sp.map (·.tag)) t j=some i:=by exact rfl) (hord:lX (sp.map (·.tag)) bf t j=true:=by kernel_rfl):∃b,ep E ty (xs b) (τ t) (be a slot) w∧Ψ b∧(Φ b).P (gO τ w) w:=c.res i t _ hs hl hord hp
end
section
variable {N:bj} {l:List Oper} {sp:List (Spec N)} {il:List (Ini N)} {a0 a:Act} {w:World} {τ:Nat→bj} {β:Type} {pc:Prop}
theorem Fin.gzb (h:Fin l sp il a0 a w τ) {ty t slot:Nat} {cells:β→List Value} {Ψ:β→Prop} {Φ:β→ZP} (j:Nat) {v:Value} (hv:be a slot=v) (hs:sp[j]? =some (zE ty N t slot cells Ψ Φ)) (hl:cr (sp.map (·.tag)) t sp.length=some j:=by exact rfl):∃b,cH ty (cells b) (τ t) v w∧Ψ b∧Fz (Φ b) τ w:=hv ▸ h.res j t _ hs rfl hl
theorem Fin.gzd (h:Fin l sp il a0 a w τ) {t:Nat} {f:β→Value} {Ψ:β→Prop} {Φ:β→ZP} (j:Nat) (hs:sp[j]? =some (iA N t pc f Ψ Φ)) (hp:pc):∃b,be a t=f b∧Ψ b∧Fz (Φ b) τ w:=h.det j _ hs rfl hp
end
def Fd (ty:Nat) (N:bj) (tag t:Nat) (p:Value) (cells:Value→List Value):Spec N:=⟨some tag,t,fun _ T v w=>cH ty (cells v) T p w,fun _ _ T v w w' _ h hr=>nY T p w w' h.less hr,fun _=>True,fun _ _ _ _ _=>trivial⟩
theorem pw.cells {v:Value} {n:Nat} (h:pw v n):v.cells.toList=[v]∧v.cells.size=1∧v.oneCell'=true:=by
  rcases h with ⟨rfl,_⟩ | ⟨b,cap,rfl,_⟩ <;> exact ⟨rfl,rfl,rfl⟩
section
variable {N:bj} {P:Program} {ops:Array Oper} {sp:List (Spec N)} {In:Nat→Ini N} {a0:Act} {w0:World} {bf:List Nat} {j:Nat} {o:Oper} {s:Spec N}
theorem pX {ty tag t tt off:Nat} {p:Value} {cells0:List Value} {cells:Value→List Value} {x y:Operand} (hs:s=Fd ty N tag t p cells) (hg:o.guard=none) (hd:o.dst=none) (ho:o.op= .store tt x y) (hsz:∀w,(sizeOf tt).run P w= .ok 1 w)
    (hfit:off+1≤cells0.length) (hc:∀v,cells v=cells0.take off++ [v]++cells0.drop (off+1))
    (hp:∀{done a w τ},Cx ops sp In a0 w0 bf j o done a w τ→cH ty cells0 (τ tag) p w∧a.eval x= .pointer (some ((ee p).add off))∧a.eval y=be a t∧∃n,pw (be a t) n):Ob ops sp In a0 w0 P bf j o s:=by
  subst hs;refine fP hg rfl fun done a w τ c=> ?_;obtain ⟨⟨g,hv,hlt,hT,hgg⟩,hx,hy,n,hsl⟩:=hp c;obtain ⟨h1,h2,h3⟩:=hsl.cells;have hx':a.eval x= .pointer (some ⟨g,off,none⟩):=by rw [hx,hv];simp only [ee,oN]
  have hr:=run_store (P:=P) (t:=tt) (off:=off) (v:=be a t) hgg (by rw [h2];exact hsz) (by rw [h2];simpa using hfit) (by rw [h1];intro u hu;simp at hu;rw [hu];exact h3);have hr':(execOp a.eval o).run P w= .ok .skip (w.setRow g (cells (be a t)).toArray):=by
    simp only [execOp,ho,hx',hy,Sem.run_bind,hr,Result.andThen_ok];rw [hc,h1,h2];rfl
  refine kC hr' ⟨undef,rfl,(kB w g _).mono (fun k _ h=>by rw [h];exact hT),τ tag,fun g h=> .inl h,?_⟩;show cH ty (cells (be (a.put o.dst _) t)) _ p _;rw [hd,mf];exact ⟨g,hv,by simp [World.setRow,hlt],hT,setRow_heap w g _ _ ty _ hgg⟩
end
section
variable {N:bj} {l:List Oper} {sp:List (Spec N)} {il:List (Ini N)} {a0 a:Act} {w:World} {τ:Nat→bj}
theorem Fin.vb (h:Fin l sp il a0 a w τ) {ty t slot:Nat} {p:Value} {cells:Value→List Value} (j:Nat) {v:Value} (hv:be a slot=v) (hs:sp[j]? =some (Fd ty N t slot p cells)) (hl:cr (sp.map (·.tag)) t sp.length=some j:=by exact rfl):cH ty (cells v) (τ t) p w:=hv ▸ h.res j t _ hs rfl hl
end
end
section
structure Sv where
  a:Option Addr
  l:Nat
  c:Nat
def Sv.v (s:Sv):Value:= .slice s.a s.l s.c
def Sv.nil:Sv:=⟨none,0,0⟩
structure Tr where
  k:Int
  ch:ByteArray
  ng:Bool
  rv:Sv
  rows:List (ByteArray × ByteArray)
  mn:Int
  mx:Int
  lz:Bool
  kv:Sv
  kids:List Tr
instance:Inhabited Tr:=⟨⟨0,⟨#[]⟩,false,Sv.nil,[],0,0,false,Sv.nil,[]⟩⟩
theorem Tr.kid_lt {t k:Tr} (h:k ∈ t.kids):SizeOf.sizeOf k < SizeOf.sizeOf t:=by
  have:=List.sizeOf_lt_of_mem h;cases t
  simp at this ⊢
  omega
theorem Tr.ind {P:Tr→Prop} (h:∀t,(∀k ∈ t.kids,P k)→P t) (t:Tr):P t:=h t fun k hk=>Tr.ind h k
termination_by SizeOf.sizeOf t
decreasing_by exact Tr.kid_lt hk
def lY:Enc Tr:=⟨fun t=> [.int .i64 t.k,.string t.ch,.bool t.ng,t.rv.v,.int .i64 t.mn,.int .i64 t.mx,.bool t.lz,t.kv.v],8,by decide,fun _=>rfl,fun x u hu=>by
  simp at hu;rcases hu with rfl | rfl | rfl | rfl | rfl | rfl | rfl | rfl <;> rfl⟩
def Tr.v (t:Tr):Value:= .agg #[.int .i64 t.k,.string t.ch,.bool t.ng,t.rv.v,.int .i64 t.mn,.int .i64 t.mx,.bool t.lz,t.kv.v]
inductive TrT (F:bj) (w:World):Tr→Prop
  | mk {t : Tr} : SlT fx w t.rv.v t.rows → (t.rows ≠ [] → F (ee t.rv.v).block) → SlT lY w t.kv.v t.kids → (t.kids ≠ [] → F (ee t.kv.v).block) → (∀ k ∈ t.kids, TrT F w k) → TrT F w t
section
variable {F F':bj} {w w':World} {t:Tr}
theorem TrT.rows (h:TrT F w t):SlT fx w t.rv.v t.rows:=by cases h;assumption
theorem TrT.rowsF (h:TrT F w t):t.rows≠ []→F (ee t.rv.v).block:=by cases h;assumption
theorem TrT.kids (h:TrT F w t):SlT lY w t.kv.v t.kids:=by cases h;assumption
theorem TrT.kidsF (h:TrT F w t):t.kids≠ []→F (ee t.kv.v).block:=by cases h;assumption
theorem TrT.kid (h:TrT F w t) {k:Tr} (hk:k ∈ t.kids):TrT F w k:=by cases h;rename_i h;exact h k hk
theorem TrT.keep (h:TrT F w t) {M:Nat→Prop} (he:Ext M w w') (hm:∀g,F g→¬M g):TrT F w' t:=by
  induction t using Tr.ind with
  | h t ih => exact .mk (h.rows.keep he fun hn => hm _ (h.rowsF hn)) h.rowsF (h.kids.keep he fun hn => hm _ (h.kidsF hn)) h.kidsF fun k hk => ih k hk (h.kid hk)
theorem TrT.mono (h:TrT F w t) (hf:∀g,F g→g < w.heap.size→F' g):TrT F' w t:=by
  induction t using Tr.ind with
  | h t ih => exact .mk h.rows (fun hn => hf _ (h.rowsF hn) (h.rows.lt hn)) h.kids (fun hn => hf _ (h.kidsF hn) (h.kids.lt hn)) fun k hk => ih k hk (h.kid hk)
def oO (w:World) (t:Tr):Prop:=TrT (fun g=>g < w.heap.size) w t
theorem TrT.s (h:TrT F w t):oO w t:=h.mono fun _ _ h=>h
theorem oO.at (h:oO w t) (he:Ext (Nw w) w w'):oO w' t:=(TrT.keep h he fun g hg hn=>by simp only [Nw] at hn;omega).s
theorem oO.keep (h:oO w t) (he:Ext aW w w'):oO w' t:=(TrT.keep h he fun _ _ hn=>hn).s
structure TlS (w:World) (v:Value) (ts:List Tr):Prop where
  sl:SlT lY w v ts
  all:∀t ∈ ts,oO w t
theorem oO.tl (h:oO w t):TlS w t.kv.v t.kids:=⟨h.kids,fun k hk=>(h.kid hk)⟩
theorem TlS.el {v:Value} {ts:List Tr} (h:TlS w v ts) {i:Int} (h0:0≤i) (h1:i < ts.length):oO w (nth ts i):=h.all _ (by
  obtain ⟨k,rfl⟩:∃k:Nat,i=(k:Int):=⟨i.toNat,by omega⟩
  have hk:k < ts.length:=by omega
  have:nth ts (k:Int)=ts[k]:=by simp [B.nth,List.getD,cd hk]
  rw [this];exact pq hk)
end
mutual
def er:Tr→Tr
  | ⟨k, ch, ng, _, rows, mn, mx, lz, _, kids⟩ => ⟨k, ch, ng, Sv.nil, rows, mn, mx, lz, Sv.nil, Lj kids⟩
def Lj:List Tr→List Tr
  | [] => []
  | t :: ts => er t :: Lj ts
end
theorem Cw (ts:List Tr):Lj ts=ts.map er:=by
  induction ts with
  | nil => rfl
  | cons t ts ih => rw [Lj, ih]; rfl
theorem oP (t:Tr):(er t).kids=t.kids.map er:=by cases t;simp [er,Cw]
theorem qS (t:Tr):er t=⟨t.k,t.ch,t.ng,Sv.nil,t.rows,t.mn,t.mx,t.lz,Sv.nil,t.kids.map er⟩:=by cases t;simp [er,Cw]
theorem qz (t:Tr):er (er t)=er t:=by
  induction t using Tr.ind with
  | h t ih =>
    rw [qS t,qS];congr 1;rw [ny];exact kb fun k hk=>ih k hk
end
section
open Go.RowKit
theorem Jq:Tryz.prog.follows .mixedOrders=true:=by kernel_rfl
structure IE (N:bj) (τ:Nat→bj) (w:World) where
  i:Ini N
  t:Nat
  h:i.I (gO τ w) (τ t) w
def ud {N:bj} {τ:Nat→bj} {w:World}:List (IE N τ w)→Nat→Ini N
  | [], _ => Ini.any N
  | e :: l, t => if e.t = t then e.i else ud l t
theorem fT {N:bj} {τ:Nat→bj} {w:World}:∀(l:List (IE N τ w)) (t:Nat),(ud l t).I (gO τ w) (τ t) w
  | [], _ => trivial
  | e :: l, t => by
    unfold ud;split
    · rename_i h;exact h ▸ e.h
    · exact fT l t
def Ls {N:bj} {τ:Nat→bj} {w:World} (l:List (IE N τ w)):List (Ini N):=[ud l 0,ud l 1,ud l 2,ud l 3,ud l 4,ud l 5,ud l 6,ud l 7,ud l 8,ud l 9,ud l 10,ud l 11,ud l 12,ud l 13,ud l 14,ud l 15,ud l 16,ud l 17,ud l 18,ud l 19,ud l 20,ud l 21,ud l 22,ud l 23]
theorem Cy {N:bj} {τ:Nat→bj} {w:World} (l:List (IE N τ w)):vI τ w 0 (Ls l):=⟨fT l 0,fT l 1,fT l 2,fT l 3,fT l 4,fT l 5,fT l 6,fT l 7,fT l 8,fT l 9,fT l 10,fT l 11,fT l 12,fT l 13,fT l 14,fT l 15,fT l 16,fT l 17,fT l 18,fT l 19,fT l 20,fT l 21,fT l 22,fT l 23,av⟩
section
variable {N:bj} {τ:Nat→bj} {w:World}
abbrev jb {ty t:Nat} {cells:List Value} {v:Value} (h:cH ty cells (τ t) v w):IE N τ w:=⟨ibox ty N v cells,t,h⟩
abbrev jo {α:Type} {E:Enc α} {ty t:Nat} {xs:List α} {v:Value} (h:ep E ty xs (τ t) v w):IE N τ w:=⟨iown E ty N v xs,t,h⟩
abbrev jy {ty t:Nat} {xs:List UInt8} {v:Value} (h:ob ty xs (τ t) v w):IE N τ w:=⟨EY ty N v xs,t,h⟩
abbrev jz {Φ:ZP} (t:Nat) (h:Fz Φ τ w):IE N τ w:=⟨rX N Φ,t,h⟩
end
section
variable {N:bj} {n:Nat} {W0 a0':World} {l:List Oper} {sp:List (Spec N)} {a0:Act} {w0:World} {τ0:Nat→bj} {bf:List Nat} {id:Nat} {draw:Bool} {Q:Exit→Act→World→Prop} {P:Program}
def xz (n:Nat) (l:List Oper) (bf:List Nat) (sp:List (Spec N)):Bool:=qy l.toArray n&&uZ l.toArray bf&&qN l.toArray bf (sp.map (·.slot)) (sp.map (·.tag))
abbrev xA (P:Program) (bf:List Nat) (a0:Act) (w0:World) {τ0:Nat→bj} (il:List (IE N τ0 w0)) (l:List Oper) (sp:List (Spec N)):Prop:=so l.toArray sp (gJ (Ls il)) a0 w0 P bf 0 l sp
abbrev xB (W0:World) (n:Nat) (l:List Oper) (sp:List (Spec N)) (a0:Act) {w0:World} {τ0:Nat→bj} (il:List (IE N τ0 w0)) (Q:Exit→Act→World→Prop):Prop:=∀a w τ,St N W0 n a w τ→Fin l sp (Ls il) a0 a w τ→Q .normal a w
theorem rg (sp:List (Spec N)) (bf:List Nat) (hst:St N W0 n a0 w0 τ0) (il:List (IE N τ0 w0)) (obs:xA Tryz.prog bf a0 w0 il l sp) (fin:xB W0 n l sp a0 il Q) (hok:xz n l bf sp=true:=by kernel_rfl):(Code.region id l.toArray draw).wp Tryz.prog Q a0 w0:=DC _ Jq hst hok (Cy il) obs fin
theorem og (sp:List (Spec N)) (bf:List Nat) (hst:St N W0 n a0 w0 τ0) (il:List (IE N τ0 w0)) (obs:xA P bf a0 w0 il l sp) (fin:xB W0 n l sp a0 il Q) (hok:xz n l bf sp=true:=by kernel_rfl):sc P l Q a0 w0:=Jp _ hst hok (Cy il) obs fin
theorem eK {s0:Spec N} (hst:St N W0 n a0 w0 τ0) (il:List (IE N τ0 w0)) (obs:xA Tryz.prog [0] a0 w0 il l [s0]) (fin:xB W0 n l [s0] a0 il Q) (hok:xz n l [0] [s0]=true:=by kernel_rfl):(Code.region id l.toArray draw).wp Tryz.prog Q a0 w0:=rg _ _ hst il obs fin hok
theorem eA {s0 s1:Spec N} (hst:St N W0 n a0 w0 τ0) (il:List (IE N τ0 w0)) (obs:xA Tryz.prog [0,1] a0 w0 il l [s0,s1]) (fin:xB W0 n l [s0,s1] a0 il Q) (hok:xz n l [0,1] [s0,s1]=true:=by kernel_rfl):(Code.region id l.toArray draw).wp Tryz.prog Q a0 w0:=rg _ _ hst il obs fin hok
theorem sf {s0 s1 s2:Spec N} (bf:List Nat) (hst:St N W0 n a0 w0 τ0) (il:List (IE N τ0 w0)) (obs:xA Tryz.prog bf a0 w0 il l [s0,s1,s2]) (fin:xB W0 n l [s0,s1,s2] a0 il Q) (hok:xz n l bf [s0,s1,s2]=true:=by kernel_rfl):(Code.region id l.toArray draw).wp Tryz.prog Q a0 w0:=rg _ bf hst il obs fin hok
theorem fX {s0 s1 s2:Spec N} (hst:St N W0 n a0 w0 τ0) (il:List (IE N τ0 w0)) (obs:xA Tryz.prog [0,1,3] a0 w0 il l [s0,s1,s2]) (fin:xB W0 n l [s0,s1,s2] a0 il Q) (hok:xz n l [0,1,3] [s0,s1,s2]=true:=by kernel_rfl):(Code.region id l.toArray draw).wp Tryz.prog Q a0 w0:=rg _ _ hst il obs fin hok
theorem lr {s0 s1 s2 s3:Spec N} (bf:List Nat) (hst:St N W0 n a0 w0 τ0) (il:List (IE N τ0 w0)) (obs:xA Tryz.prog bf a0 w0 il l [s0,s1,s2,s3]) (fin:xB W0 n l [s0,s1,s2,s3] a0 il Q) (hok:xz n l bf [s0,s1,s2,s3]=true:=by kernel_rfl):(Code.region id l.toArray draw).wp Tryz.prog Q a0 w0:=rg _ bf hst il obs fin hok
theorem xi {s0 s1 s2 s3:Spec N} (hst:St N W0 n a0 w0 τ0) (il:List (IE N τ0 w0)) (obs:xA Tryz.prog [0,1,3,7] a0 w0 il l [s0,s1,s2,s3]) (fin:xB W0 n l [s0,s1,s2,s3] a0 il Q) (hok:xz n l [0,1,3,7] [s0,s1,s2,s3]=true:=by kernel_rfl):(Code.region id l.toArray draw).wp Tryz.prog Q a0 w0:=rg _ _ hst il obs fin hok
theorem vO {s0 s1 s2 s3 s4:Spec N} (bf:List Nat) (hst:St N W0 n a0 w0 τ0) (il:List (IE N τ0 w0)) (obs:xA Tryz.prog bf a0 w0 il l [s0,s1,s2,s3,s4]) (fin:xB W0 n l [s0,s1,s2,s3,s4] a0 il Q) (hok:xz n l bf [s0,s1,s2,s3,s4]=true:=by kernel_rfl):(Code.region id l.toArray draw).wp Tryz.prog Q a0 w0:=rg _ bf hst il obs fin hok
theorem xk {s0 s1 s2 s3 s4:Spec N} (hst:St N W0 n a0 w0 τ0) (il:List (IE N τ0 w0)) (obs:xA Tryz.prog [0,1,3,7,15] a0 w0 il l [s0,s1,s2,s3,s4]) (fin:xB W0 n l [s0,s1,s2,s3,s4] a0 il Q) (hok:xz n l [0,1,3,7,15] [s0,s1,s2,s3,s4]=true:=by kernel_rfl):(Code.region id l.toArray draw).wp Tryz.prog Q a0 w0:=rg _ _ hst il obs fin hok
theorem Hm {s0 s1 s2 s3 s4 s5:Spec N} (bf:List Nat) (hst:St N W0 n a0 w0 τ0) (il:List (IE N τ0 w0)) (obs:xA Tryz.prog bf a0 w0 il l [s0,s1,s2,s3,s4,s5]) (fin:xB W0 n l [s0,s1,s2,s3,s4,s5] a0 il Q) (hok:xz n l bf [s0,s1,s2,s3,s4,s5]=true:=by kernel_rfl):(Code.region id l.toArray draw).wp Tryz.prog Q a0 w0:=rg _ bf hst il obs fin hok
theorem KE {s0 s1 s2 s3 s4 s5:Spec N} (hst:St N W0 n a0 w0 τ0) (il:List (IE N τ0 w0)) (obs:xA Tryz.prog [0,1,3,7,15,31] a0 w0 il l [s0,s1,s2,s3,s4,s5]) (fin:xB W0 n l [s0,s1,s2,s3,s4,s5] a0 il Q) (hok:xz n l [0,1,3,7,15,31] [s0,s1,s2,s3,s4,s5]=true:=by kernel_rfl):(Code.region id l.toArray draw).wp Tryz.prog Q a0 w0:=rg _ _ hst il obs fin hok
theorem ue {s0 s1 s2 s3 s4 s5 s6:Spec N} (bf:List Nat) (hst:St N W0 n a0 w0 τ0) (il:List (IE N τ0 w0)) (obs:xA Tryz.prog bf a0 w0 il l [s0,s1,s2,s3,s4,s5,s6]) (fin:xB W0 n l [s0,s1,s2,s3,s4,s5,s6] a0 il Q) (hok:xz n l bf [s0,s1,s2,s3,s4,s5,s6]=true:=by kernel_rfl):(Code.region id l.toArray draw).wp Tryz.prog Q a0 w0:=rg _ bf hst il obs fin hok
theorem Lk {s0 s1 s2 s3 s4 s5 s6:Spec N} (hst:St N W0 n a0 w0 τ0) (il:List (IE N τ0 w0)) (obs:xA Tryz.prog [0,1,3,7,15,31,63] a0 w0 il l [s0,s1,s2,s3,s4,s5,s6]) (fin:xB W0 n l [s0,s1,s2,s3,s4,s5,s6] a0 il Q) (hok:xz n l [0,1,3,7,15,31,63] [s0,s1,s2,s3,s4,s5,s6]=true:=by kernel_rfl):(Code.region id l.toArray draw).wp Tryz.prog Q a0 w0:=rg _ _ hst il obs fin hok
theorem xC {s0 s1 s2 s3 s4 s5 s6 s7:Spec N} (bf:List Nat) (hst:St N W0 n a0 w0 τ0) (il:List (IE N τ0 w0)) (obs:xA Tryz.prog bf a0 w0 il l [s0,s1,s2,s3,s4,s5,s6,s7]) (fin:xB W0 n l [s0,s1,s2,s3,s4,s5,s6,s7] a0 il Q) (hok:xz n l bf [s0,s1,s2,s3,s4,s5,s6,s7]=true:=by kernel_rfl):(Code.region id l.toArray draw).wp Tryz.prog Q a0 w0:=rg _ bf hst il obs fin hok
theorem Hn {s0 s1 s2 s3 s4 s5 s6 s7:Spec N} (hst:St N W0 n a0 w0 τ0) (il:List (IE N τ0 w0)) (obs:xA Tryz.prog [0,1,3,7,15,31,63,127] a0 w0 il l [s0,s1,s2,s3,s4,s5,s6,s7]) (fin:xB W0 n l [s0,s1,s2,s3,s4,s5,s6,s7] a0 il Q) (hok:xz n l [0,1,3,7,15,31,63,127] [s0,s1,s2,s3,s4,s5,s6,s7]=true:=by kernel_rfl):(Code.region id l.toArray draw).wp Tryz.prog Q a0 w0:=rg _ _ hst il obs fin hok
theorem xD {s0 s1 s2 s3 s4 s5 s6 s7 s8:Spec N} (bf:List Nat) (hst:St N W0 n a0 w0 τ0) (il:List (IE N τ0 w0)) (obs:xA Tryz.prog bf a0 w0 il l [s0,s1,s2,s3,s4,s5,s6,s7,s8]) (fin:xB W0 n l [s0,s1,s2,s3,s4,s5,s6,s7,s8] a0 il Q) (hok:xz n l bf [s0,s1,s2,s3,s4,s5,s6,s7,s8]=true:=by kernel_rfl):(Code.region id l.toArray draw).wp Tryz.prog Q a0 w0:=rg _ bf hst il obs fin hok
theorem mG {s0 s1 s2 s3 s4 s5 s6 s7 s8 s9:Spec N} (bf:List Nat) (hst:St N W0 n a0 w0 τ0) (il:List (IE N τ0 w0)) (obs:xA Tryz.prog bf a0 w0 il l [s0,s1,s2,s3,s4,s5,s6,s7,s8,s9]) (fin:xB W0 n l [s0,s1,s2,s3,s4,s5,s6,s7,s8,s9] a0 il Q) (hok:xz n l bf [s0,s1,s2,s3,s4,s5,s6,s7,s8,s9]=true:=by kernel_rfl):(Code.region id l.toArray draw).wp Tryz.prog Q a0 w0:=rg _ bf hst il obs fin hok
theorem uf {s0 s1 s2 s3 s4 s5 s6 s7 s8 s9 s10:Spec N} (bf:List Nat) (hst:St N W0 n a0 w0 τ0) (il:List (IE N τ0 w0)) (obs:xA Tryz.prog bf a0 w0 il l [s0,s1,s2,s3,s4,s5,s6,s7,s8,s9,s10]) (fin:xB W0 n l [s0,s1,s2,s3,s4,s5,s6,s7,s8,s9,s10] a0 il Q) (hok:xz n l bf [s0,s1,s2,s3,s4,s5,s6,s7,s8,s9,s10]=true:=by kernel_rfl):(Code.region id l.toArray draw).wp Tryz.prog Q a0 w0:=rg _ bf hst il obs fin hok
theorem zG {s0 s1 s2 s3 s4 s5 s6 s7 s8 s9 s10 s11:Spec N} (bf:List Nat) (hst:St N W0 n a0 w0 τ0) (il:List (IE N τ0 w0)) (obs:xA Tryz.prog bf a0 w0 il l [s0,s1,s2,s3,s4,s5,s6,s7,s8,s9,s10,s11]) (fin:xB W0 n l [s0,s1,s2,s3,s4,s5,s6,s7,s8,s9,s10,s11] a0 il Q) (hok:xz n l bf [s0,s1,s2,s3,s4,s5,s6,s7,s8,s9,s10,s11]=true:=by kernel_rfl):(Code.region id l.toArray draw).wp Tryz.prog Q a0 w0:=rg _ bf hst il obs fin hok
end
section
variable {N:bj} {l:List Oper} {sp:List (Spec N)} {il:List (Ini N)} {a0 a:Act} {w:World} {τ:Nat→bj}
theorem Fin.k1 (h:Fin l sp il a0 a w τ) {t0:Nat} {v0:Value} (e0:be a0 t0=v0) (hu:([t0].all (kU l))=true:=by kernel_rfl):be a t0=v0:=by
  simp only [ec,fy,au] at hu;exact h.old e0 hu.1
theorem Fin.k2 (h:Fin l sp il a0 a w τ) {t0 t1:Nat} {v0 v1:Value} (e0:be a0 t0=v0) (e1:be a0 t1=v1) (hu:([t0,t1].all (kU l))=true:=by kernel_rfl):be a t0=v0∧be a t1=v1:=by
  simp only [ec,fy,au] at hu;exact ⟨h.old e0 hu.1,h.old e1 hu.2.1⟩
theorem Fin.k3 (h:Fin l sp il a0 a w τ) {t0 t1 t2:Nat} {v0 v1 v2:Value} (e0:be a0 t0=v0) (e1:be a0 t1=v1) (e2:be a0 t2=v2) (hu:([t0,t1,t2].all (kU l))=true:=by kernel_rfl):be a t0=v0∧be a t1=v1∧be a t2=v2:=by
  simp only [ec,fy,au] at hu;exact ⟨h.old e0 hu.1,h.old e1 hu.2.1,h.old e2 hu.2.2.1⟩
theorem Fin.k4 (h:Fin l sp il a0 a w τ) {t0 t1 t2 t3:Nat} {v0 v1 v2 v3:Value} (e0:be a0 t0=v0) (e1:be a0 t1=v1) (e2:be a0 t2=v2) (e3:be a0 t3=v3) (hu:([t0,t1,t2,t3].all (kU l))=true:=by kernel_rfl):be a t0=v0∧be a t1=v1∧be a t2=v2∧be a t3=v3:=by
  simp only [ec,fy,au] at hu;exact ⟨h.old e0 hu.1,h.old e1 hu.2.1,h.old e2 hu.2.2.1,h.old e3 hu.2.2.2.1⟩
theorem Fin.k5 (h:Fin l sp il a0 a w τ) {t0 t1 t2 t3 t4:Nat} {v0 v1 v2 v3 v4:Value} (e0:be a0 t0=v0) (e1:be a0 t1=v1) (e2:be a0 t2=v2) (e3:be a0 t3=v3) (e4:be a0 t4=v4) (hu:([t0,t1,t2,t3,t4].all (kU l))=true:=by kernel_rfl):be a t0=v0∧be a t1=v1∧be a t2=v2∧be a t3=v3∧be a t4=v4:=by
  simp only [ec,fy,au] at hu;exact ⟨h.old e0 hu.1,h.old e1 hu.2.1,h.old e2 hu.2.2.1,h.old e3 hu.2.2.2.1,h.old e4 hu.2.2.2.2.1⟩
theorem Fin.k6 (h:Fin l sp il a0 a w τ) {t0 t1 t2 t3 t4 t5:Nat} {v0 v1 v2 v3 v4 v5:Value} (e0:be a0 t0=v0) (e1:be a0 t1=v1) (e2:be a0 t2=v2) (e3:be a0 t3=v3) (e4:be a0 t4=v4) (e5:be a0 t5=v5) (hu:([t0,t1,t2,t3,t4,t5].all (kU l))=true:=by kernel_rfl):be a t0=v0∧be a t1=v1∧be a t2=v2∧be a t3=v3∧be a t4=v4∧be a t5=v5:=by
  simp only [ec,fy,au] at hu;exact ⟨h.old e0 hu.1,h.old e1 hu.2.1,h.old e2 hu.2.2.1,h.old e3 hu.2.2.2.1,h.old e4 hu.2.2.2.2.1,h.old e5 hu.2.2.2.2.2.1⟩
theorem Fin.k7 (h:Fin l sp il a0 a w τ) {t0 t1 t2 t3 t4 t5 t6:Nat} {v0 v1 v2 v3 v4 v5 v6:Value} (e0:be a0 t0=v0) (e1:be a0 t1=v1) (e2:be a0 t2=v2) (e3:be a0 t3=v3) (e4:be a0 t4=v4) (e5:be a0 t5=v5) (e6:be a0 t6=v6) (hu:([t0,t1,t2,t3,t4,t5,t6].all (kU l))=true:=by kernel_rfl):be a t0=v0∧be a t1=v1∧be a t2=v2∧be a t3=v3∧be a t4=v4∧be a t5=v5∧be a t6=v6:=by
  simp only [ec,fy,au] at hu;exact ⟨h.old e0 hu.1,h.old e1 hu.2.1,h.old e2 hu.2.2.1,h.old e3 hu.2.2.2.1,h.old e4 hu.2.2.2.2.1,h.old e5 hu.2.2.2.2.2.1,h.old e6 hu.2.2.2.2.2.2.1⟩
theorem Fin.k8 (h:Fin l sp il a0 a w τ) {t0 t1 t2 t3 t4 t5 t6 t7:Nat} {v0 v1 v2 v3 v4 v5 v6 v7:Value} (e0:be a0 t0=v0) (e1:be a0 t1=v1) (e2:be a0 t2=v2) (e3:be a0 t3=v3) (e4:be a0 t4=v4) (e5:be a0 t5=v5) (e6:be a0 t6=v6) (e7:be a0 t7=v7) (hu:([t0,t1,t2,t3,t4,t5,t6,t7].all (kU l))=true:=by kernel_rfl):be a t0=v0∧be a t1=v1∧be a t2=v2∧be a t3=v3∧be a t4=v4∧be a t5=v5∧be a t6=v6∧be a t7=v7:=by
  simp only [ec,fy,au] at hu;exact ⟨h.old e0 hu.1,h.old e1 hu.2.1,h.old e2 hu.2.2.1,h.old e3 hu.2.2.2.1,h.old e4 hu.2.2.2.2.1,h.old e5 hu.2.2.2.2.2.1,h.old e6 hu.2.2.2.2.2.2.1,h.old e7 hu.2.2.2.2.2.2.2.1⟩
theorem Fin.k9 (h:Fin l sp il a0 a w τ) {t0 t1 t2 t3 t4 t5 t6 t7 t8:Nat} {v0 v1 v2 v3 v4 v5 v6 v7 v8:Value} (e0:be a0 t0=v0) (e1:be a0 t1=v1) (e2:be a0 t2=v2) (e3:be a0 t3=v3) (e4:be a0 t4=v4) (e5:be a0 t5=v5) (e6:be a0 t6=v6) (e7:be a0 t7=v7) (e8:be a0 t8=v8) (hu:([t0,t1,t2,t3,t4,t5,t6,t7,t8].all (kU l))=true:=by kernel_rfl):be a t0=v0∧be a t1=v1∧be a t2=v2∧be a t3=v3∧be a t4=v4∧be a t5=v5∧be a t6=v6∧be a t7=v7∧be a t8=v8:=by
  simp only [ec,fy,au] at hu;exact ⟨h.old e0 hu.1,h.old e1 hu.2.1,h.old e2 hu.2.2.1,h.old e3 hu.2.2.2.1,h.old e4 hu.2.2.2.2.1,h.old e5 hu.2.2.2.2.2.1,h.old e6 hu.2.2.2.2.2.2.1,h.old e7 hu.2.2.2.2.2.2.2.1,h.old e8 hu.2.2.2.2.2.2.2.2.1⟩
theorem Fin.k10 (h:Fin l sp il a0 a w τ) {t0 t1 t2 t3 t4 t5 t6 t7 t8 t9:Nat} {v0 v1 v2 v3 v4 v5 v6 v7 v8 v9:Value} (e0:be a0 t0=v0) (e1:be a0 t1=v1) (e2:be a0 t2=v2) (e3:be a0 t3=v3) (e4:be a0 t4=v4) (e5:be a0 t5=v5) (e6:be a0 t6=v6) (e7:be a0 t7=v7) (e8:be a0 t8=v8) (e9:be a0 t9=v9) (hu:([t0,t1,t2,t3,t4,t5,t6,t7,t8,t9].all (kU l))=true:=by kernel_rfl):be a t0=v0∧be a t1=v1∧be a t2=v2∧be a t3=v3∧be a t4=v4∧be a t5=v5∧be a t6=v6∧be a t7=v7∧be a t8=v8∧be a t9=v9:=by
  simp only [ec,fy,au] at hu;exact ⟨h.old e0 hu.1,h.old e1 hu.2.1,h.old e2 hu.2.2.1,h.old e3 hu.2.2.2.1,h.old e4 hu.2.2.2.2.1,h.old e5 hu.2.2.2.2.2.1,h.old e6 hu.2.2.2.2.2.2.1,h.old e7 hu.2.2.2.2.2.2.2.1,h.old e8 hu.2.2.2.2.2.2.2.2.1,h.old e9 hu.2.2.2.2.2.2.2.2.2.1⟩
theorem Fin.k11 (h:Fin l sp il a0 a w τ) {t0 t1 t2 t3 t4 t5 t6 t7 t8 t9 t10:Nat} {v0 v1 v2 v3 v4 v5 v6 v7 v8 v9 v10:Value} (e0:be a0 t0=v0) (e1:be a0 t1=v1) (e2:be a0 t2=v2) (e3:be a0 t3=v3) (e4:be a0 t4=v4) (e5:be a0 t5=v5) (e6:be a0 t6=v6) (e7:be a0 t7=v7) (e8:be a0 t8=v8) (e9:be a0 t9=v9) (e10:be a0 t10=v10) (hu:([t0,t1,t2,t3,t4,t5,t6,t7,t8,t9,t10].all (kU l))=true:=by kernel_rfl):be a t0=v0∧be a t1=v1∧be a t2=v2∧be a t3=v3∧be a t4=v4∧be a t5=v5∧be a t6=v6∧be a t7=v7∧be a t8=v8∧be a t9=v9∧be a t10=v10:=by
  simp only [ec,fy,au] at hu;exact ⟨h.old e0 hu.1,h.old e1 hu.2.1,h.old e2 hu.2.2.1,h.old e3 hu.2.2.2.1,h.old e4 hu.2.2.2.2.1,h.old e5 hu.2.2.2.2.2.1,h.old e6 hu.2.2.2.2.2.2.1,h.old e7 hu.2.2.2.2.2.2.2.1,h.old e8 hu.2.2.2.2.2.2.2.2.1,h.old e9 hu.2.2.2.2.2.2.2.2.2.1,h.old e10 hu.2.2.2.2.2.2.2.2.2.2.1⟩
theorem Fin.k12 (h:Fin l sp il a0 a w τ) {t0 t1 t2 t3 t4 t5 t6 t7 t8 t9 t10 t11:Nat} {v0 v1 v2 v3 v4 v5 v6 v7 v8 v9 v10 v11:Value} (e0:be a0 t0=v0) (e1:be a0 t1=v1) (e2:be a0 t2=v2) (e3:be a0 t3=v3) (e4:be a0 t4=v4) (e5:be a0 t5=v5) (e6:be a0 t6=v6) (e7:be a0 t7=v7) (e8:be a0 t8=v8) (e9:be a0 t9=v9) (e10:be a0 t10=v10) (e11:be a0 t11=v11) (hu:([t0,t1,t2,t3,t4,t5,t6,t7,t8,t9,t10,t11].all (kU l))=true:=by kernel_rfl):be a t0=v0∧be a t1=v1∧be a t2=v2∧be a t3=v3∧be a t4=v4∧be a t5=v5∧be a t6=v6∧be a t7=v7∧be a t8=v8∧be a t9=v9∧be a t10=v10∧be a t11=v11:=by
  simp only [ec,fy,au] at hu;exact ⟨h.old e0 hu.1,h.old e1 hu.2.1,h.old e2 hu.2.2.1,h.old e3 hu.2.2.2.1,h.old e4 hu.2.2.2.2.1,h.old e5 hu.2.2.2.2.2.1,h.old e6 hu.2.2.2.2.2.2.1,h.old e7 hu.2.2.2.2.2.2.2.1,h.old e8 hu.2.2.2.2.2.2.2.2.1,h.old e9 hu.2.2.2.2.2.2.2.2.2.1,h.old e10 hu.2.2.2.2.2.2.2.2.2.2.1,h.old e11 hu.2.2.2.2.2.2.2.2.2.2.2.1⟩
theorem Fin.k15 (h:Fin l sp il a0 a w τ) {t0 t1 t2 t3 t4 t5 t6 t7 t8 t9 t10 t11 t12 t13 t14:Nat} {v0 v1 v2 v3 v4 v5 v6 v7 v8 v9 v10 v11 v12 v13 v14:Value} (e0:be a0 t0=v0) (e1:be a0 t1=v1) (e2:be a0 t2=v2) (e3:be a0 t3=v3) (e4:be a0 t4=v4) (e5:be a0 t5=v5) (e6:be a0 t6=v6) (e7:be a0 t7=v7) (e8:be a0 t8=v8) (e9:be a0 t9=v9) (e10:be a0 t10=v10) (e11:be a0 t11=v11) (e12:be a0 t12=v12) (e13:be a0 t13=v13) (e14:be a0 t14=v14) (hu:([t0,t1,t2,t3,t4,t5,t6,t7,t8,t9,t10,t11,t12,t13,t14].all (kU l))=true:=by kernel_rfl):be a t0=v0∧be a t1=v1∧be a t2=v2∧be a t3=v3∧be a t4=v4∧be a t5=v5∧be a t6=v6∧be a t7=v7∧be a t8=v8∧be a t9=v9∧be a t10=v10∧be a t11=v11∧be a t12=v12∧be a t13=v13∧be a t14=v14:=by
  simp only [ec,fy,au] at hu;exact ⟨h.old e0 hu.1,h.old e1 hu.2.1,h.old e2 hu.2.2.1,h.old e3 hu.2.2.2.1,h.old e4 hu.2.2.2.2.1,h.old e5 hu.2.2.2.2.2.1,h.old e6 hu.2.2.2.2.2.2.1,h.old e7 hu.2.2.2.2.2.2.2.1,h.old e8 hu.2.2.2.2.2.2.2.2.1,h.old e9 hu.2.2.2.2.2.2.2.2.2.1,h.old e10 hu.2.2.2.2.2.2.2.2.2.2.1,h.old e11 hu.2.2.2.2.2.2.2.2.2.2.2.1,h.old e12 hu.2.2.2.2.2.2.2.2.2.2.2.2.1,h.old e13 hu.2.2.2.2.2.2.2.2.2.2.2.2.2.1,h.old e14 hu.2.2.2.2.2.2.2.2.2.2.2.2.2.2.1⟩
theorem Fin.k16 (h:Fin l sp il a0 a w τ) {t0 t1 t2 t3 t4 t5 t6 t7 t8 t9 t10 t11 t12 t13 t14 t15:Nat} {v0 v1 v2 v3 v4 v5 v6 v7 v8 v9 v10 v11 v12 v13 v14 v15:Value} (e0:be a0 t0=v0) (e1:be a0 t1=v1) (e2:be a0 t2=v2) (e3:be a0 t3=v3) (e4:be a0 t4=v4) (e5:be a0 t5=v5) (e6:be a0 t6=v6) (e7:be a0 t7=v7) (e8:be a0 t8=v8) (e9:be a0 t9=v9) (e10:be a0 t10=v10) (e11:be a0 t11=v11) (e12:be a0 t12=v12) (e13:be a0 t13=v13) (e14:be a0 t14=v14) (e15:be a0 t15=v15) (hu:([t0,t1,t2,t3,t4,t5,t6,t7,t8,t9,t10,t11,t12,t13,t14,t15].all (kU l))=true:=by kernel_rfl):be a t0=v0∧be a t1=v1∧be a t2=v2∧be a t3=v3∧be a t4=v4∧be a t5=v5∧be a t6=v6∧be a t7=v7∧be a t8=v8∧be a t9=v9∧be a t10=v10∧be a t11=v11∧be a t12=v12∧be a t13=v13∧be a t14=v14∧be a t15=v15:=by
  simp only [ec,fy,au] at hu;exact ⟨h.old e0 hu.1,h.old e1 hu.2.1,h.old e2 hu.2.2.1,h.old e3 hu.2.2.2.1,h.old e4 hu.2.2.2.2.1,h.old e5 hu.2.2.2.2.2.1,h.old e6 hu.2.2.2.2.2.2.1,h.old e7 hu.2.2.2.2.2.2.2.1,h.old e8 hu.2.2.2.2.2.2.2.2.1,h.old e9 hu.2.2.2.2.2.2.2.2.2.1,h.old e10 hu.2.2.2.2.2.2.2.2.2.2.1,h.old e11 hu.2.2.2.2.2.2.2.2.2.2.2.1,h.old e12 hu.2.2.2.2.2.2.2.2.2.2.2.2.1,h.old e13 hu.2.2.2.2.2.2.2.2.2.2.2.2.2.1,h.old e14 hu.2.2.2.2.2.2.2.2.2.2.2.2.2.2.1,h.old e15 hu.2.2.2.2.2.2.2.2.2.2.2.2.2.2.2.1⟩
theorem Fin.z1 (h:Fin l sp il a0 a w τ) {p0:ZP} (t0:Nat) (i0:gJ il t0=rX N p0:=by exact rfl) (l0:cr (sp.map (·.tag)) t0 sp.length=none:=by exact rfl):Fz p0 τ w:=h.iz t0 i0 l0
theorem Fin.z2 (h:Fin l sp il a0 a w τ) {p0 p1:ZP} (t0 t1:Nat) (i0:gJ il t0=rX N p0:=by exact rfl) (i1:gJ il t1=rX N p1:=by exact rfl) (l0:cr (sp.map (·.tag)) t0 sp.length=none:=by exact rfl) (l1:cr (sp.map (·.tag)) t1 sp.length=none:=by exact rfl):Fz p0 τ w∧Fz p1 τ w:=⟨h.iz t0 i0 l0,h.iz t1 i1 l1⟩
theorem Fin.z3 (h:Fin l sp il a0 a w τ) {p0 p1 p2:ZP} (t0 t1 t2:Nat) (i0:gJ il t0=rX N p0:=by exact rfl) (i1:gJ il t1=rX N p1:=by exact rfl) (i2:gJ il t2=rX N p2:=by exact rfl) (l0:cr (sp.map (·.tag)) t0 sp.length=none:=by exact rfl) (l1:cr (sp.map (·.tag)) t1 sp.length=none:=by exact rfl) (l2:cr (sp.map (·.tag)) t2 sp.length=none:=by exact rfl):Fz p0 τ w∧Fz p1 τ w∧Fz p2 τ w:=⟨h.iz t0 i0 l0,h.iz t1 i1 l1,h.iz t2 i2 l2⟩
theorem Fin.z4 (h:Fin l sp il a0 a w τ) {p0 p1 p2 p3:ZP} (t0 t1 t2 t3:Nat) (i0:gJ il t0=rX N p0:=by exact rfl) (i1:gJ il t1=rX N p1:=by exact rfl) (i2:gJ il t2=rX N p2:=by exact rfl) (i3:gJ il t3=rX N p3:=by exact rfl) (l0:cr (sp.map (·.tag)) t0 sp.length=none:=by exact rfl) (l1:cr (sp.map (·.tag)) t1 sp.length=none:=by exact rfl) (l2:cr (sp.map (·.tag)) t2 sp.length=none:=by exact rfl) (l3:cr (sp.map (·.tag)) t3 sp.length=none:=by exact rfl):Fz p0 τ w∧Fz p1 τ w∧Fz p2 τ w∧Fz p3 τ w:=⟨h.iz t0 i0 l0,h.iz t1 i1 l1,h.iz t2 i2 l2,h.iz t3 i3 l3⟩
theorem Fin.z5 (h:Fin l sp il a0 a w τ) {p0 p1 p2 p3 p4:ZP} (t0 t1 t2 t3 t4:Nat) (i0:gJ il t0=rX N p0:=by exact rfl) (i1:gJ il t1=rX N p1:=by exact rfl) (i2:gJ il t2=rX N p2:=by exact rfl) (i3:gJ il t3=rX N p3:=by exact rfl) (i4:gJ il t4=rX N p4:=by exact rfl) (l0:cr (sp.map (·.tag)) t0 sp.length=none:=by exact rfl) (l1:cr (sp.map (·.tag)) t1 sp.length=none:=by exact rfl) (l2:cr (sp.map (·.tag)) t2 sp.length=none:=by exact rfl) (l3:cr (sp.map (·.tag)) t3 sp.length=none:=by exact rfl) (l4:cr (sp.map (·.tag)) t4 sp.length=none:=by exact rfl):Fz p0 τ w∧Fz p1 τ w∧Fz p2 τ w∧Fz p3 τ w∧Fz p4 τ w:=⟨h.iz t0 i0 l0,h.iz t1 i1 l1,h.iz t2 i2 l2,h.iz t3 i3 l3,h.iz t4 i4 l4⟩
theorem Fin.z6 (h:Fin l sp il a0 a w τ) {p0 p1 p2 p3 p4 p5:ZP} (t0 t1 t2 t3 t4 t5:Nat) (i0:gJ il t0=rX N p0:=by exact rfl) (i1:gJ il t1=rX N p1:=by exact rfl) (i2:gJ il t2=rX N p2:=by exact rfl) (i3:gJ il t3=rX N p3:=by exact rfl) (i4:gJ il t4=rX N p4:=by exact rfl) (i5:gJ il t5=rX N p5:=by exact rfl) (l0:cr (sp.map (·.tag)) t0 sp.length=none:=by exact rfl) (l1:cr (sp.map (·.tag)) t1 sp.length=none:=by exact rfl) (l2:cr (sp.map (·.tag)) t2 sp.length=none:=by exact rfl) (l3:cr (sp.map (·.tag)) t3 sp.length=none:=by exact rfl) (l4:cr (sp.map (·.tag)) t4 sp.length=none:=by exact rfl) (l5:cr (sp.map (·.tag)) t5 sp.length=none:=by exact rfl):Fz p0 τ w∧Fz p1 τ w∧Fz p2 τ w∧Fz p3 τ w∧Fz p4 τ w∧Fz p5 τ w:=⟨h.iz t0 i0 l0,h.iz t1 i1 l1,h.iz t2 i2 l2,h.iz t3 i3 l3,h.iz t4 i4 l4,h.iz t5 i5 l5⟩
theorem Fin.z7 (h:Fin l sp il a0 a w τ) {p0 p1 p2 p3 p4 p5 p6:ZP} (t0 t1 t2 t3 t4 t5 t6:Nat) (i0:gJ il t0=rX N p0:=by exact rfl) (i1:gJ il t1=rX N p1:=by exact rfl) (i2:gJ il t2=rX N p2:=by exact rfl) (i3:gJ il t3=rX N p3:=by exact rfl) (i4:gJ il t4=rX N p4:=by exact rfl) (i5:gJ il t5=rX N p5:=by exact rfl) (i6:gJ il t6=rX N p6:=by exact rfl) (l0:cr (sp.map (·.tag)) t0 sp.length=none:=by exact rfl) (l1:cr (sp.map (·.tag)) t1 sp.length=none:=by exact rfl) (l2:cr (sp.map (·.tag)) t2 sp.length=none:=by exact rfl) (l3:cr (sp.map (·.tag)) t3 sp.length=none:=by exact rfl) (l4:cr (sp.map (·.tag)) t4 sp.length=none:=by exact rfl) (l5:cr (sp.map (·.tag)) t5 sp.length=none:=by exact rfl) (l6:cr (sp.map (·.tag)) t6 sp.length=none:=by exact rfl):Fz p0 τ w∧Fz p1 τ w∧Fz p2 τ w∧Fz p3 τ w∧Fz p4 τ w∧Fz p5 τ w∧Fz p6 τ w:=⟨h.iz t0 i0 l0,h.iz t1 i1 l1,h.iz t2 i2 l2,h.iz t3 i3 l3,h.iz t4 i4 l4,h.iz t5 i5 l5,h.iz t6 i6 l6⟩
theorem Fin.V (h:Fin l sp il a0 a w τ) (j:Nat) {t:Nat} {v:Value} (hs:sp[j]? =some (B.det N t v):=by exact rfl):be a t=v:=h.v j hs
theorem Fin.B (h:Fin l sp il a0 a w τ) {ty:Nat} {v:Value} {cells:List Value} (t:Nat) (hI:gJ il t=B.ibox ty N v cells:=by exact rfl) (hl:cr (sp.map (·.tag)) t sp.length=none:=by exact rfl):cH ty cells (τ t) v w:=h.ibox t hI hl
theorem Fin.O (h:Fin l sp il a0 a w τ) {α:Type} {E:Enc α} {ty:Nat} {v:Value} {xs:List α} (t:Nat) (hI:gJ il t=B.iown E ty N v xs:=by exact rfl) (hl:cr (sp.map (·.tag)) t sp.length=none:=by exact rfl):ep E ty xs (τ t) v w:=h.iown t hI hl
theorem Fin.RB (h:Fin l sp il a0 a w τ) {ty t slot:Nat} {cells:List Value} (j:Nat) {v:Value} (hv:be a slot=v) (hs:sp[j]? =some (B.box ty N t slot cells):=by exact rfl) (hl:cr (sp.map (·.tag)) t sp.length=some j:=by exact rfl):cH ty cells (τ t) v w:=h.rbox j hs hl hv
end
section
variable {N:bj} {P:Program} {ops:Array Oper} {sp:List (Spec N)} {In:Nat→Ini N} {a0:Act} {w0:World} {bf:List Nat} {j:Nat} {o:Oper} {done:Nat→Bool} {a:Act} {w:World} {τ:Nat→bj}
theorem Cx.q (c:Cx ops sp In a0 w0 bf j o done a w τ) (i:Nat) {t:Nat} {val:Value} (hs:sp[i]? =some (B.det N t val):=by exact rfl) (hb:(bf.getD j 0).testBit i=true:=by exact rfl):a.eval (.tmp t)=val:=c.ev i hs hb
theorem Cx.M (c:Cx ops sp In a0 w0 bf j o done a w τ) (i:Nat) {t:Nat} {pc:Prop} {val:Value} (hpc:pc) (hs:sp[i]? =some (B.gdet N t pc val):=by exact rfl) (hb:(bf.getD j 0).testBit i=true:=by exact rfl):a.eval (.tmp t)=val:=c.eg i hs hb hpc
theorem Cx.B {ty:Nat} {v:Value} {cells:List Value} (c:Cx ops sp In a0 w0 bf j o done a w τ) (t:Nat) (hI:In t=B.ibox ty N v cells:=by exact rfl) (hl:cr (sp.map (·.tag)) t j=none:=by exact rfl) (hord:lX (sp.map (·.tag)) bf t j=true:=by kernel_rfl):cH ty cells (τ t) v w:=c.ibox t hI hl hord
theorem Cx.Z {Φ:ZP} (c:Cx ops sp In a0 w0 bf j o done a w τ) (t:Nat) (hI:In t=rX N Φ:=by exact rfl) (hl:cr (sp.map (·.tag)) t j=none:=by exact rfl) (hord:lX (sp.map (·.tag)) bf t j=true:=by kernel_rfl):Fz Φ τ w:=c.iz t hI hl hord
end
section
variable {N:bj} {P:Program} {ops:Array Oper} {sp:List (Spec N)} {In:Nat→Ini N} {a0:Act} {w0:World} {bf:List Nat} {j:Nat} {o:Oper} {s:Spec N} {t d:Nat} {v:Value}
theorem ao (e0:be a0 t=v) (ho:o.op= .move (.tmp t):=by exact rfl) (h0:Cq ops bf j t=true:=by kernel_rfl) (hs:s=B.det N d v:=by exact rfl) (hg:o.guard=none:=by exact rfl) (hd:o.dst=some d:=by exact rfl):Ob ops sp In a0 w0 P bf j o s:=aq (fun c=>aS ho (c.p e0 h0)) hs hg hd
theorem oQ (e0:be a0 t=v) (ho:o.op= .assign (.tmp t):=by exact rfl) (h0:Cq ops bf j t=true:=by kernel_rfl) (hs:s=B.det N d v:=by exact rfl) (hg:o.guard=none:=by exact rfl) (hd:o.dst=some d:=by exact rfl):Ob ops sp In a0 w0 P bf j o s:=aq (fun c=>ax ho (c.p e0 h0)) hs hg hd
theorem jG {vs:List Value} {i:Nat} (e0:be a0 t=(.tuple vs.toArray)) (ho:o.op= .extract (.tmp t) i:=by exact rfl) (h0:Cq ops bf j t=true:=by kernel_rfl) (hi:vs[i]? =some v:=by exact rfl) (hs:s=B.det N d v:=by exact rfl) (hg:o.guard=none:=by exact rfl) (hd:o.dst=some d:=by exact rfl):Ob ops sp In a0 w0 P bf j o s:=aq (fun c=>kP ho (c.p e0 h0) (by simpa using hi)) hs hg hd
theorem cK {ty f off m:Nat} {ft:TypeId} {fs:Array Field} {fd:Field} {p:Addr} (ht:Tryz.prog.underlying ty=some (.struct fs)) (hz:∀w,(sizeOf ft).run Tryz.prog w= .ok (m+1) w) (e0:be a0 t=v) (q:v= .pointer (some p)) (ho:o.op= .fieldAddr ty (.tmp t) f:=by exact rfl) (h0:Cq ops bf j t=true:=by kernel_rfl) (hf:fs[f]? =some fd:=by exact rfl) (hft:fd.type=ft:=by exact rfl) (hoff:fd.offset=off:=by exact rfl) (hs:s=B.det N d (.pointer (some (p.add off))):=by exact rfl) (hg:o.guard=none:=by exact rfl) (hd:o.dst=some d:=by exact rfl):Ob ops sp In a0 w0 Tryz.prog bf j o s:=aq (fun c=>qP ho ht hf hoff (fun w=>hft ▸ hz w) ((c.p e0 h0).trans q)) hs hg hd
theorem bD (i0:Nat) (ho:o.op= .move (.tmp t):=by exact rfl) (s0:sp[i0]? =some (B.det N t v):=by exact rfl) (b0:(bf.getD j 0).testBit i0=true:=by exact rfl) (hs:s=B.det N d v:=by exact rfl) (hg:o.guard=none:=by exact rfl) (hd:o.dst=some d:=by exact rfl):Ob ops sp In a0 w0 P bf j o s:=aq (fun c=>aS ho (c.n i0 s0 b0)) hs hg hd
theorem aK (i0:Nat) (ho:o.op= .assign (.tmp t):=by exact rfl) (s0:sp[i0]? =some (B.det N t v):=by exact rfl) (b0:(bf.getD j 0).testBit i0=true:=by exact rfl) (hs:s=B.det N d v:=by exact rfl) (hg:o.guard=none:=by exact rfl) (hd:o.dst=some d:=by exact rfl):Ob ops sp In a0 w0 P bf j o s:=aq (fun c=>ax ho (c.n i0 s0 b0)) hs hg hd
theorem bR {vs:List Value} {i:Nat} (i0:Nat) (ho:o.op= .extract (.tmp t) i:=by exact rfl) (s0:sp[i0]? =some (B.det N t (.tuple vs.toArray)):=by exact rfl) (b0:(bf.getD j 0).testBit i0=true:=by exact rfl) (hi:vs[i]? =some v:=by exact rfl) (hs:s=B.det N d v:=by exact rfl) (hg:o.guard=none:=by exact rfl) (hd:o.dst=some d:=by exact rfl):Ob ops sp In a0 w0 P bf j o s:=aq (fun c=>kP ho (c.n i0 s0 b0) (by simpa using hi)) hs hg hd
theorem bS {ty f off m:Nat} {ft:TypeId} {fs:Array Field} {fd:Field} {p:Addr} (ht:Tryz.prog.underlying ty=some (.struct fs)) (hz:∀w,(sizeOf ft).run Tryz.prog w= .ok (m+1) w) (i0:Nat) (q:v= .pointer (some p)) (ho:o.op= .fieldAddr ty (.tmp t) f:=by exact rfl) (s0:sp[i0]? =some (B.det N t v):=by exact rfl) (b0:(bf.getD j 0).testBit i0=true:=by exact rfl) (hf:fs[f]? =some fd:=by exact rfl) (hft:fd.type=ft:=by exact rfl) (hoff:fd.offset=off:=by exact rfl) (hs:s=B.det N d (.pointer (some (p.add off))):=by exact rfl) (hg:o.guard=none:=by exact rfl) (hd:o.dst=some d:=by exact rfl):Ob ops sp In a0 w0 Tryz.prog bf j o s:=aq (fun c=>qP ho ht hf hoff (fun w=>hft ▸ hz w) ((c.n i0 s0 b0).trans q)) hs hg hd
theorem Jr {P:Program} {a:Act} {o:Oper} {w:World} {x:Operand} {v:Value} {p:Addr} (ho:o.op= .nilCheck x) (hx:a.eval x=v) (hv:v= .pointer (some p)):cA P a o w v:=by
  subst hv;simp [cA,execOp,ho,hx]
theorem cD {p:Addr} (i0:Nat) (q:v= .pointer (some p)) (ho:o.op= .nilCheck (.tmp t):=by exact rfl) (s0:sp[i0]? =some (B.det N t v):=by exact rfl) (b0:(bf.getD j 0).testBit i0=true:=by exact rfl) (hs:s=B.det N d v:=by exact rfl) (hg:o.guard=none:=by exact rfl) (hd:o.dst=some d:=by exact rfl):Ob ops sp In a0 w0 P bf j o s:=aq (fun c=>Jr ho (c.n i0 s0 b0) q) hs hg hd
theorem bZ {b b2:Bool} {t2:Nat} (i0 i2:Nat) (ho:o.op= .pick (.tmp t) (.tmp t2) (.const (.bool false)):=by exact rfl) (s0:sp[i0]? =some (B.det N t (.bool b)):=by exact rfl) (b0:(bf.getD j 0).testBit i0=true:=by exact rfl) (s2:sp[i2]? =some (B.gdet N t2 (b=true) (.bool b2)):=by exact rfl) (b9:(bf.getD j 0).testBit i2=true:=by exact rfl) (hs:s=B.det N d (.bool (b&&b2)):=by exact rfl) (hg:o.guard=none:=by exact rfl) (hd:o.dst=some d:=by exact rfl):Ob ops sp In a0 w0 P bf j o s:=aq (fun c=>oK ho (c.n i0 s0 b0) (fun h=>c.m i2 s2 h b9)) hs hg hd
theorem dm {b b2:Bool} {t2:Nat} (i0 i2:Nat) (ho:o.op= .pick (.tmp t) (.const (.bool true)) (.tmp t2):=by exact rfl) (s0:sp[i0]? =some (B.det N t (.bool b)):=by exact rfl) (b0:(bf.getD j 0).testBit i0=true:=by exact rfl) (s2:sp[i2]? =some (B.gdet N t2 (b=false) (.bool b2)):=by exact rfl) (b9:(bf.getD j 0).testBit i2=true:=by exact rfl) (hs:s=B.det N d (.bool (b || b2)):=by exact rfl) (hg:o.guard=none:=by exact rfl) (hd:o.dst=some d:=by exact rfl):Ob ops sp In a0 w0 P bf j o s:=aq (fun c=>pT ho (c.n i0 s0 b0) (fun h=>c.m i2 s2 h b9)) hs hg hd
theorem fE {ty:TypeId} {bt:Nat} {cells:List Value} {bv:Value} (hz:∀w,(isAgg ty).run Tryz.prog w= .ok false w) (i0 bx k:Nat) (ho:o.op= .load ty (.tmp t):=by exact rfl) (s0:sp[i0]? =some (B.det N t (.pointer (some ((ee bv).add k)))):=by exact rfl) (b0:(bf.getD j 0).testBit i0=true:=by exact rfl) (hI:In bx=B.ibox bt N bv cells:=by exact rfl) (hl:cr (sp.map (·.tag)) bx j=none:=by exact rfl) (hord:lX (sp.map (·.tag)) bf bx j=true:=by kernel_rfl) (hk:cells[k]? =some v:=by exact rfl) (hs:s=B.det N d v:=by exact rfl) (hg:o.guard=none:=by exact rfl) (hd:o.dst=some d:=by exact rfl):Ob ops sp In a0 w0 Tryz.prog bf j o s:=aq (fun c=>aI ho hz (c.n i0 s0 b0) ((c.ib bx hI hl hord).cell hk)) hs hg hd
theorem aL {tg:Nat} {b:Bool} (gi:Nat) (hgs:sp[gi]? =some (B.det N tg (.bool b))) (h:∀{done a w τ},Cx ops sp In a0 w0 bf j o done a w τ→b=true→cA P a o w v) (hs:s=B.gdet N t (b=true) v:=by exact rfl) (hg:o.guard=some (gi,true):=by exact rfl) (hd:o.dst=some t:=by exact rfl) (hgd:((ops[gi]?).bind (·.dst))=some tg:=by exact rfl) (hb:(bf.getD j 0).testBit gi=true:=by exact rfl):Ob ops sp In a0 w0 P bf j o s:=KB gi true hgs h hs hg hd hgd hb
theorem bm {tg:Nat} {b:Bool} (gi:Nat) (hgs:sp[gi]? =some (B.det N tg (.bool b))) (h:∀{done a w τ},Cx ops sp In a0 w0 bf j o done a w τ→b=false→cA P a o w v) (hs:s=B.gdet N t (b=false) v:=by exact rfl) (hg:o.guard=some (gi,false):=by exact rfl) (hd:o.dst=some t:=by exact rfl) (hgd:((ops[gi]?).bind (·.dst))=some tg:=by exact rfl) (hb:(bf.getD j 0).testBit gi=true:=by exact rfl):Ob ops sp In a0 w0 P bf j o s:=KB gi false hgs h hs hg hd hgd hb
theorem cp {ty tag t tt off m:Nat} {cells cx:List Value} {x y:Operand} {v:Value} (hsz:∀w,(sizeOf tt).run P w= .ok m w) (hp:∀{done a w τ},Cx ops sp In a0 w0 bf j o done a w τ→cH ty cells (τ tag) (be a t) w∧a.eval x= .pointer (some ((ee (be a t)).add off))∧a.eval y=v)
    (hs:s=B.box ty N tag t cx:=by exact rfl) (hg:o.guard=none:=by exact rfl) (hd:o.dst=none:=by exact rfl) (ho:o.op= .store tt x y:=by exact rfl)
    (hm:v.cells.size=m:=by exact rfl) (hfit:off+v.cells.size≤cells.length:=by exact aw rfl) (h1:∀u ∈ v.cells.toList,u.oneCell'=true:=by simp [Value.cells,Value.oneCell',Sv.v]) (hc:cx=cells.take off++v.cells.toList++cells.drop (off+v.cells.size):=by exact rfl):Ob ops sp In a0 w0 P bf j o s:=uK hs hg hd ho (fun w=>hm ▸ hsz w) hfit h1 hc (fun _ _ _ _ c=>hp c)
theorem ey {ty tag t tt off m:Nat} {cells cx:List Value} {x y:Operand} {v:Value} (ho:o.op= .store tt x y) (hsz:∀w,(sizeOf tt).run P w= .ok m w) (hp:∀{done a w τ},Cx ops sp In a0 w0 bf j o done a w τ→cH ty cells (τ tag) (be a t) w∧a.eval x= .pointer (some ((ee (be a t)).add off))∧a.eval y=v)
    (hs:s=B.box ty N tag t cx:=by exact rfl) (hg:o.guard=none:=by exact rfl) (hd:o.dst=none:=by exact rfl)
    (hm:v.cells.size=m:=by exact rfl) (hfit:off+v.cells.size≤cells.length:=by exact aw rfl) (h1:∀u ∈ v.cells.toList,u.oneCell'=true:=by simp [Value.cells,Value.oneCell',Sv.v]) (hc:cx=cells.take off++v.cells.toList++cells.drop (off+v.cells.size):=by exact rfl):Ob ops sp In a0 w0 P bf j o s:=uK hs hg hd ho (fun w=>hm ▸ hsz w) hfit h1 hc (fun _ _ _ _ c=>hp c)
end
section
variable {P:Program} {a:Act} {o:Oper} {w:World} {t:TypeId} {x:Operand}
theorem dh {f off:Nat} {fs:Array Field} {fd:Field} {m:Nat} {p:Addr} {ft:TypeId} (ho:o.op= .fieldAddr t x f) (ht:P.underlying t=some (.struct fs)) (hz:∀w,(sizeOf ft).run P w= .ok (m+1) w) (hx:a.eval x= .pointer (some p)) (hf:fs[f]? =some fd:=by exact rfl) (hft:fd.type=ft:=by exact rfl) (hoff:fd.offset=off:=by exact rfl):
    cA P a o w (.pointer (some (p.add off))):=qP ho ht hf hoff (fun w=>hft ▸ hz w) hx
theorem dY {ty m:Nat} {cells:List Value} {T:bj} {v:Value} (ho:o.op= .load t x) (hz:∀w,(isAgg t).run P w= .ok true w) (hm:∀w,(sizeOf t).run P w= .ok m w) (hx:a.eval x= .pointer (some (ee v))) (hb:cH ty cells T v w) (hl:cells.length=m:=by exact rfl):cA P a o w (.agg cells.toArray):=cq ho hz hm hx hl (fun _ _ hj=>hb.cell hj)
end
abbrev tc (t:Tr):List Value:=[.int .i64 t.k,.string t.ch,.bool t.ng,t.rv.v,.int .i64 t.mn,.int .i64 t.mx,.bool t.lz,t.kv.v]
abbrev ta (t:Tr):Value:= .agg #[.int .i64 t.k,.string t.ch,.bool t.ng,t.rv.v,.int .i64 t.mn,.int .i64 t.mx,.bool t.lz,t.kv.v]
theorem gx (a:Act) (t:Nat):∃b,be a t=b:=⟨_,rfl⟩
theorem rp {G H:Prop} (h:H) (k:H→G:=by (intro h;(repeat with_reducible first | refine ET ?_ | refine DD ?_);exact h)):G:=k h
theorem oz {a:Act} {v0:Value} (h:∀i v,(#[v0]:Array Value)[i]? =some v→be a i=v):be a 0=v0:=h 0 _ rfl
theorem qG {a:Act} {v0 v1:Value} (h:∀i v,(#[v0,v1]:Array Value)[i]? =some v→be a i=v):be a 0=v0∧be a 1=v1:=⟨h 0 _ rfl,h 1 _ rfl⟩
theorem Ll {a:Act} {v0 v1 v2:Value} (h:∀i v,(#[v0,v1,v2]:Array Value)[i]? =some v→be a i=v):be a 0=v0∧be a 1=v1∧be a 2=v2:=⟨h 0 _ rfl,h 1 _ rfl,h 2 _ rfl⟩
theorem KF {a:Act} {v0 v1 v2 v3:Value} (h:∀i v,(#[v0,v1,v2,v3]:Array Value)[i]? =some v→be a i=v):be a 0=v0∧be a 1=v1∧be a 2=v2∧be a 3=v3:=⟨h 0 _ rfl,h 1 _ rfl,h 2 _ rfl,h 3 _ rfl⟩
theorem Js {a:Act} {v0 v1 v2 v3 v4:Value} (h:∀i v,(#[v0,v1,v2,v3,v4]:Array Value)[i]? =some v→be a i=v):be a 0=v0∧be a 1=v1∧be a 2=v2∧be a 3=v3∧be a 4=v4:=⟨h 0 _ rfl,h 1 _ rfl,h 2 _ rfl,h 3 _ rfl,h 4 _ rfl⟩
theorem LA {a:Act} {v0 v1 v2 v3 v4 v5:Value} (h:∀i v,(#[v0,v1,v2,v3,v4,v5]:Array Value)[i]? =some v→be a i=v):be a 0=v0∧be a 1=v1∧be a 2=v2∧be a 3=v3∧be a 4=v4∧be a 5=v5:=⟨h 0 _ rfl,h 1 _ rfl,h 2 _ rfl,h 3 _ rfl,h 4 _ rfl,h 5 _ rfl⟩
end
section
open Go.RowKit
theorem ni {a:Act} {f:Nat→Option (Nat × Nat)} {z:Array Value}:Instr.fill f z ((#[]:Array (Nat × Operand)).map fun (i,x)=>(i,a.eval x)).toList=some z:=by
  simp only [fZ,aH];rfl
theorem eW {a:Act} {o:Oper} {w:World} {parts:Array (Nat × Operand)} {z:Value} {cells:Array Value} (ho:o.op= .build 25 parts) (hz:∀w,(zeroValue 25).run Tryz.prog w= .ok z w) (hf:Instr.fill ((#[(0,1),(1,1),(2,1),(3,1),(4,1),(5,1),(6,1),(7,1)]:Array (Nat × Nat))[·]?) z.cells (parts.map fun (i,x)=>(i,a.eval x)).toList=some cells):cA Tryz.prog a o w (.agg cells):=nD ho aJ hz (pl:=#[(0,1),(1,1),(2,1),(3,1),(4,1),(5,1),(6,1),(7,1)]) (fun w_=>by simp [fl,cR,aA,cj,cf]) hf
theorem xE {a:Act} {o:Oper} {w:World} {parts:Array (Nat × Operand)} {z:Value} {cells:Array Value} (ho:o.op= .build 38 parts) (hz:∀w,(zeroValue 38).run Tryz.prog w= .ok z w) (hf:Instr.fill ((#[(0,1),(1,1)]:Array (Nat × Nat))[·]?) z.cells (parts.map fun (i,x)=>(i,a.eval x)).toList=some cells):cA Tryz.prog a o w (.agg cells):=nD ho cw hz (pl:=#[(0,1),(1,1)]) (fun w_=>by simp [aA]) hf
theorem od {a:Act} {o:Oper} {w:World} {parts:Array (Nat × Operand)} {z:Value} {cells:Array Value} (ho:o.op= .build 41 parts) (hz:∀w,(zeroValue 41).run Tryz.prog w= .ok z w) (hf:Instr.fill ((#[(0,2),(2,1)]:Array (Nat × Nat))[·]?) z.cells (parts.map fun (i,x)=>(i,a.eval x)).toList=some cells):cA Tryz.prog a o w (.agg cells):=nD ho bd hz (pl:=#[(0,2),(2,1)]) (fun w_=>by simp [aT,co]) hf
theorem KG {a:Act} {o:Oper} {w:World} {parts:Array (Nat × Operand)} {z:Value} {cells:Array Value} (ho:o.op= .build 68 parts) (hz:∀w,(zeroValue 68).run Tryz.prog w= .ok z w) (hf:Instr.fill ((#[(0,1),(1,1)]:Array (Nat × Nat))[·]?) z.cells (parts.map fun (i,x)=>(i,a.eval x)).toList=some cells):cA Tryz.prog a o w (.agg cells):=nD ho eb hz (pl:=#[(0,1),(1,1)]) (fun w_=>by simp [aA,cS]) hf
theorem KH {a:Act} {o:Oper} {w:World} {parts:Array (Nat × Operand)} {z:Value} {cells:Array Value} (ho:o.op= .build 74 parts) (hz:∀w,(zeroValue 74).run Tryz.prog w= .ok z w) (hf:Instr.fill ((#[(0,8),(8,1),(9,1),(10,1)]:Array (Nat × Nat))[·]?) z.cells (parts.map fun (i,x)=>(i,a.eval x)).toList=some cells):cA Tryz.prog a o w (.agg cells):=nD ho bu hz (pl:=#[(0,8),(8,1),(9,1),(10,1)]) (fun w_=>by simp [ak,aA,gu]) hf
theorem KI {a:Act} {o:Oper} {w:World} {parts:Array (Nat × Operand)} {z:Value} {cells:Array Value} (ho:o.op= .build 76 parts) (hz:∀w,(zeroValue 76).run Tryz.prog w= .ok z w) (hf:Instr.fill ((#[(0,11),(11,1),(12,1),(13,1),(14,1),(15,1),(16,1)]:Array (Nat × Nat))[·]?) z.cells (parts.map fun (i,x)=>(i,a.eval x)).toList=some cells):cA Tryz.prog a o w (.agg cells):=nD ho ba hz (pl:=#[(0,11),(11,1),(12,1),(13,1),(14,1),(15,1),(16,1)]) (fun w_=>by simp [aA,co,cj,cS,gI,df]) hf
theorem vP {a:Act} {o:Oper} {w:World} {parts:Array (Nat × Operand)} {z:Value} {cells:Array Value} (ho:o.op= .build 89 parts) (hz:∀w,(zeroValue 89).run Tryz.prog w= .ok z w) (hf:Instr.fill ((#[(0,1),(1,1)]:Array (Nat × Nat))[·]?) z.cells (parts.map fun (i,x)=>(i,a.eval x)).toList=some cells):cA Tryz.prog a o w (.agg cells):=nD ho cZ hz (pl:=#[(0,1),(1,1)]) (fun w_=>by simp [cf]) hf
theorem KJ {a:Act} {o:Oper} {w:World} {parts:Array (Nat × Operand)} {z:Value} {cells:Array Value} (ho:o.op= .build 96 parts) (hz:∀w,(zeroValue 96).run Tryz.prog w= .ok z w) (hf:Instr.fill ((#[(0,1),(1,1)]:Array (Nat × Nat))[·]?) z.cells (parts.map fun (i,x)=>(i,a.eval x)).toList=some cells):cA Tryz.prog a o w (.agg cells):=nD ho bU hz (pl:=#[(0,1),(1,1)]) (fun w_=>by simp [aA,cS]) hf
theorem KK {a:Act} {o:Oper} {w:World} {parts:Array (Nat × Operand)} {z:Value} {cells:Array Value} (ho:o.op= .build 98 parts) (hz:∀w,(zeroValue 98).run Tryz.prog w= .ok z w) (hf:Instr.fill ((#[(0,2),(2,1)]:Array (Nat × Nat))[·]?) z.cells (parts.map fun (i,x)=>(i,a.eval x)).toList=some cells):cA Tryz.prog a o w (.agg cells):=nD ho bo hz (pl:=#[(0,2),(2,1)]) (fun w_=>by simp [aA,bQ]) hf
end
section
open Go.ChangeShapes Go.WideShapes Go.ChangeAt Go.RowKit
section
variable {P:Program} {e:TypeId}
end
section
variable {P:Program} {W:World} {H:Type} {enc:TypeId × Value→H} {base:Nat} {spare:Nat→Bool} {held:Bool}
theorem sQ (hl:laidOutB P=true) {W':World} {sp:Nat→Bool}:∀{ts:List TypeId} {vs:List Value} {ds:List (DataW H)} {p:List MemPlace},(ts.all fun t=>P.readableRec t&&decide (t < P.types.size))=true→
    DataW.TrodAll enc P W 0 (fun _=>true) true ts vs ds p→(∀x ∈ p,W.sameAt W' x)→(∀x ∈ p,sp x.block=true)→DataW.TrodAll enc P W' 0 sp true ts vs ds p
  | [], [], [], _, _, h, _, _ => h
  | [], [], _ :: _, _, _, h, _, _ => h.elim
  | [], _ :: _, _, _, _, h, _, _ => h.elim
  | _ :: _, [], _, _, _, h, _, _ => h.elim
  | _ :: _, _ :: _, [], _, _, h, _, _ => h.elim
  | t :: ts, v :: vs, d :: ds, p, hr, h, h1, h2 => by
    obtain ⟨q,q',a,b,rfl⟩:=h;simp only [ec,au,ai] at hr;exact ⟨q,q',WideElems.Trod_stays hl hr.1.1 hr.1.2 a (fun x hx=>h1 x (by simp [hx])) (fun x hx=>h2 x (by simp [hx])),sQ hl hr.2 b (fun x hx=>h1 x (by simp [hx])) (fun x hx=>h2 x (by simp [hx])),rfl⟩
theorem lU {f:Func} {s:ChangeSpec} {apart handsOn:Bool} {W':World} {args:Array Value} {ds gs:List (DataW H)} {before:List MemPlace} {t:TypeId} (hl:laidOutB P=true)
    (hW:DataW.Whole enc P f.params.toList s.vars apart W args.toList ds gs before) (hvars:s.vars=[]) (hread:(f.params.toList.all fun t=>P.readableRec t&&decide (t < P.types.size))=true)
    (hfn:s.fn H ds={ results:=[.lit (.bool true)],args:=ds }) (hrt:f.resultTypes=#[t]) (ht:P.underlying t=some .bool) (hx:Ext aW W W'):s.post enc P f apart true handsOn false W args (.bool true) W':=by
  have hlt:=hW.lt;have hW':=hW;obtain ⟨p,q,hA,hV,rfl,hz,hn⟩:=hW;rw [hvars] at hV;have hgq:gs=[]∧q=[]:=by
    cases gs with
    | nil => exact ⟨rfl, hV⟩
    | cons g gs => exact hV.elim
  obtain ⟨rfl,rfl⟩:=hgq;have hb:=hx.below;refine ⟨ds,[],p++ [],[],p,[],hW',?_,?_,?_,hb.frame _,fun h=>by cases h⟩
  · rw [eG,hfn,hrt];exact trodAll_mk1 (shut_bool ht true)
  · rw [eG,hfn];exact sQ hl hread hA (fun x hx=>hb.same (hlt x (by simp [hx]))) (fun x hx=>by simpa using hlt x (by simp [hx]))
  · rw [eG,hfn,hvars];exact rfl
end
end
end B
end Go.Proofs.YtcfdebjhikahfaaGreat
namespace Go.Proofs.YtcfdebjhikahfaaGreat
namespace Srt
open B
variable {α:Type}
def gS (xs:List α) (i j:Nat):List α:=(xs.drop i).take (j - i)
theorem gN {xs:List α} {i j:Nat} (h:j≤xs.length):(gS xs i j).length=j - i:=by simp [gS];omega
theorem kL (xs:List α) (i:Nat):gS xs i i=[]:=by simp [gS]
theorem lN {xs:List α} {i j k:Nat} (h1:i≤j) (h2:j≤k):gS xs i k=gS xs i j++gS xs j k:=by
  unfold gS;rw [show k - i=(j - i)+(k - j) by omega,List.take_add,iQ,show i+(j - i)=j by omega]
theorem zH {xs:List α} {i j:Nat} (h:i≤j):xs.take j=xs.take i++gS xs i j:=by
  unfold gS;conv=>lhs;rw [show j=i+(j - i) by omega,List.take_add]
theorem qT {xs:List α} {i j:Nat} (h:i≤j):xs.drop i=gS xs i j++xs.drop j:=by
  unfold gS;conv=>lhs;rw [←dP (j - i) (xs.drop i),iQ,show i+(j - i)=j by omega]
theorem vQ {xs:List α} {i j:Nat} (h:i≤j):xs=xs.take i++gS xs i j++xs.drop j:=by
  rw [dq,←qT h,dP]
theorem yo {xs:List α} {i j k:Nat} (h:k < j - i):(gS xs i j)[k]? =xs[i+k]? :=by
  simp [gS,h,ky]
theorem rz {xs:List α} {i j:Nat} {x:α} (h:x ∈ gS xs i j):∃k,i≤k∧k < j∧xs[k]? =some x:=by
  obtain ⟨k,hk⟩:=List.getElem?_of_mem h;have hlt:k < j - i:=by
    have:=(List.getElem?_eq_some_iff.1 hk).1;simp [gS] at this;omega
  rw [yo hlt] at hk;exact ⟨i+k,by omega,by omega,hk⟩
theorem rA {A B C:List α} {i j:Nat} (hi:A.length=i) (hj:i+B.length=j):gS (A++B++C) i j=B:=by
  subst hi;unfold gS;rw [dq,List.drop_left,show j - A.length=B.length by omega,qH]
section order
variable (lt:α→α→Bool)
structure Swo:Prop where
  asym:∀x y,lt x y=true→lt y x=false
  neg:∀x y z,lt x y=false→lt y z=false→lt x z=false
def nJ:List α→List α→List α
  | [], ys => ys
  | x :: xs, [] => x :: xs
  | x :: xs, y :: ys => if lt y x then y :: nJ (x :: xs) ys else x :: nJ xs (y :: ys)
termination_by xs ys=>xs.length+ys.length
variable {lt}
theorem kD (ys:List α):nJ lt [] ys=ys:=by simp [nJ]
theorem kQ (xs:List α):nJ lt xs []=xs:=by cases xs <;> simp [nJ]
theorem sx:∀(n:Nat) (L R:List α),L.length+R.length≤n→(nJ lt L R).length=L.length+R.length
  | _, [], R, _ => by simp [nJ]
  | _, l :: L, [], _ => by simp [nJ]
  | 0, l :: L, r :: R, h => by simp at h
  | n + 1, l :: L, r :: R, h => by
    simp only [ay] at h;rw [nJ];split
    · simp only [ay,sx n (l::L) R (by simp;omega)];omega
    · simp only [ay,sx n L (r::R) (by simp;omega)];omega
theorem vk (L R:List α):(nJ lt L R).length=L.length+R.length:=sx _ L R (bz _)
theorem vS:∀(n:Nat) (L R:List α),L.length+R.length≤n→(nJ lt L R).Perm (L++R)
  | _, [], R, _ => by simp [nJ]
  | _, l :: L, [], _ => by simp [nJ]
  | 0, l :: L, r :: R, h => by simp at h
  | n + 1, l :: L, r :: R, h => by
    simp only [ay] at h;rw [nJ];split
    · refine (List.Perm.cons r (vS n (l::L) R (by simp;omega))).trans ?_;exact (List.perm_middle (l₁:=l::L) (l₂:=R) (a:=r)).symm
    · exact List.Perm.cons l (vS n L (r::R) (by simp;omega))
theorem Cz {L R:List α} {x:α}:x ∈ nJ lt L R↔x ∈ L∨x ∈ R:=by
  rw [(vS _ L R (bz _)).mem_iff,List.mem_append]
theorem pA:∀(n:Nat) (L1 R1 L2 R2:List α),L1.length+R1.length≤n→(∀r ∈ R1,∀l ∈ L2,lt r l=true)→(∀l ∈ L1,∀r ∈ R2,lt r l=false)→
    nJ lt (L1++L2) (R1++R2)=nJ lt L1 R1++nJ lt L2 R2
  | _, [], [], L2, R2, _, _, _ => by simp [kD]
  | 0, [], r :: R1, L2, R2, h, _, _ => by simp at h
  | 0, l :: L1, R1, L2, R2, h, _, _ => by simp at h
  | n + 1, [], r :: R1, L2, R2, h, h1, h2 => by
    cases L2 with
    | nil => simp [kD]
    | cons l L2 =>
      have hr:lt r l=true:=h1 r (by simp) l (by simp);have ih:=pA n [] R1 (l::L2) R2 (by simp at h ⊢;omega) (fun r hr=>h1 r (by simp [hr])) (fun l hl=>by simp at hl);simp only [eN,kD] at ih ⊢;rw [eq,nJ,if_pos hr,ih,eq]
  | n + 1, l :: L1, [], L2, R2, h, h1, h2 => by
    cases R2 with
    | nil => simp [kQ]
    | cons r R2 =>
      have hr:lt r l=false:=h2 l (by simp) r (by simp);have ih:=pA n L1 [] L2 (r::R2) (by simp at h ⊢;omega) (fun r hr=>by simp at hr) (fun l hl=>h2 l (by simp [hl]));simp only [eN,kQ] at ih ⊢;rw [eq,nJ,if_neg (by simp [hr]),ih,eq]
  | n + 1, l :: L1, r :: R1, L2, R2, h, h1, h2 => by
    simp only [eq];rw [nJ];split
    · rename_i hr;have ih:=pA n (l::L1) R1 L2 R2 (by simp at h ⊢;omega) (fun r hr=>h1 r (by simp [hr])) h2;rw [eq] at ih;rw [ih,nJ,if_pos hr,eq]
    · rename_i hr;have ih:=pA n L1 (r::R1) L2 R2 (by simp at h ⊢;omega) h1 (fun l hl=>h2 l (by simp [hl]));rw [eq] at ih;rw [ih,nJ,if_neg hr,eq]
theorem rB {L1 R1 L2 R2:List α} (h1:∀r ∈ R1,∀l ∈ L2,lt r l=true) (h2:∀l ∈ L1,∀r ∈ R2,lt r l=false):nJ lt (L1++L2) (R1++R2)=nJ lt L1 R1++nJ lt L2 R2:=
  pA _ L1 R1 L2 R2 (bz _) h1 h2
theorem yq {x:α} {R:List α} (h:∀r ∈ R,lt r x=false):nJ lt [x] R=x::R:=by
  cases R with
  | nil => simp [nJ]
  | cons r R => rw [nJ, if_neg (by simp [h r (by simp)]), kD]
theorem xl {y:α} {L:List α} (h:∀l ∈ L,lt y l=true):nJ lt L [y]=y::L:=by
  cases L with
  | nil => simp [nJ]
  | cons l L => rw [nJ, if_pos (h l (by simp)), kQ]
def gK (lt:α→α→Bool) (xs:List α):Prop:=xs.Pairwise fun x y=>lt y x=false
def pa (lt:α→α→Bool) (x:α):List α→List α
  | [] => [x]
  | y :: ys => if lt x y then y :: pa lt x ys else x :: y :: ys
def CA (lt:α→α→Bool) (x:α) (ys:List α):List α:=(pa lt x ys.reverse).reverse
def fi (lt:α→α→Bool) (xs:List α):List α:=xs.foldl (fun acc x=>CA lt x acc) []
theorem sR {x:α}:∀{Q P:List α},(∀q ∈ Q,lt x q=true)→(∀p,P.head? =some p→lt x p=false)→pa lt x (Q++P)=Q++x::P
  | [], [], _, _ => rfl
  | [], p :: P, _, h => by simp [pa, h p rfl]
  | q :: Q, P, h1, h2 => by
    rw [eq,pa,if_pos (h1 q (by simp)),sR (fun q hq=>h1 q (by simp [hq])) h2,eq]
theorem ug {x:α} {P Q:List α} (h1:∀q ∈ Q,lt x q=true) (h2:∀p,P.getLast? =some p→lt x p=false):CA lt x (P++Q)=P++x::Q:=by
  unfold CA;rw [List.reverse_append,sR (fun q hq=>h1 q (by simpa using hq)) (fun p hp=>h2 p (by simpa using hp))];simp
theorem lO (xs:List α) (x:α):fi lt (xs++ [x])=CA lt x (fi lt xs):=by simp [fi]
theorem uh:fi lt ([]:List α)=[]:=rfl
theorem uO (x:α):∀ys:List α,(pa lt x ys).Perm (x::ys)
  | [] => List.Perm.refl _
  | y :: ys => by
    rw [pa];split
    · exact (List.Perm.cons y (uO x ys)).trans (List.Perm.swap x y ys)
    · exact List.Perm.refl _
theorem Fe (x:α) (ys:List α):(CA lt x ys).Perm (x::ys):=by
  unfold CA;refine (List.reverse_perm _).trans ((uO x _).trans ?_);exact List.Perm.cons x (List.reverse_perm ys)
theorem gC {motive:List α→Prop} (h0:motive []) (h1:∀xs x,motive xs→motive (xs++ [x])) (xs:List α):motive xs:=by
  rw [←List.reverse_reverse xs];generalize xs.reverse=ys;induction ys with
  | nil => exact h0
  | cons y ys ih => rw [List.reverse_cons]; exact h1 _ _ ih
theorem pY (xs:List α):(fi lt xs).Perm xs:=by
  induction xs using gC with
  | h0 => exact List.Perm.refl _
  | h1 xs x ih =>
    rw [lO];exact (Fe x _).trans ((List.Perm.cons x ih).trans (List.perm_append_singleton x xs).symm)
theorem ik (xs:List α):(fi lt xs).length=xs.length:=(pY xs).length_eq
theorem Bp (hw:Swo lt) (x:α) {xs:List α} (hs:gK lt xs):∃P Q,xs=P++Q∧(∀p ∈ P,lt x p=false)∧(∀q ∈ Q,lt x q=true):=by
  induction xs with
  | nil => exact ⟨[], [], rfl, by simp, by simp⟩
  | cons y ys ih =>
    obtain ⟨P,Q,rfl,h1,h2⟩:=ih (List.pairwise_cons.1 hs).2;by_cases h:lt x y=true
    · refine ⟨[],y::(P++Q),rfl,by simp,fun q hq=> ?_⟩;rcases List.mem_cons.1 hq with rfl | hq
      · exact h
      · rcases List.mem_append.1 hq with hq | hq
        · cases hc:lt x q with
          | true => rfl
          | false =>
            have:=hw.neg x q y hc ((List.pairwise_cons.1 hs).1 q (by simp [hq]));rw [h] at this;cases this
        · exact h2 q hq
    · refine ⟨y::P,Q,rfl,fun p hp=> ?_,h2⟩;rcases List.mem_cons.1 hp with rfl | hp
      · simpa using h
      · exact h1 p hp
theorem sy {x:α} {P Q:List α} (h1:∀p ∈ P,lt x p=false) (h2:∀q ∈ Q,lt x q=true):CA lt x (P++Q)=P++x::Q:=
  ug h2 fun p hp=>h1 p (List.mem_of_getLast? hp)
theorem Bq (hw:Swo lt) {x:α} {xs:List α} (hs:gK lt xs):gK lt (CA lt x xs):=by
  obtain ⟨P,Q,rfl,h1,h2⟩:=Bp hw x hs;rw [sy h1 h2];have h3:=List.pairwise_append.1 hs;refine List.pairwise_append.2 ⟨h3.1,List.pairwise_cons.2 ⟨fun q hq=>hw.asym x q (h2 q hq),h3.2.1⟩,fun p hp q hq=> ?_⟩;rcases List.mem_cons.1 hq with rfl | hq
  · exact h1 p hp
  · exact h3.2.2 p hp q hq
theorem mj (hw:Swo lt) (xs:List α):gK lt (fi lt xs):=by
  induction xs using gC with
  | h0 => exact List.Pairwise.nil
  | h1 xs x ih => rw [lO]; exact Bq hw ih
theorem Ho (hw:Swo lt) {x:α} {L R:List α} (hL:gK lt L) (hR:gK lt R):nJ lt L (CA lt x R)=CA lt x (nJ lt L R):=by
  obtain ⟨PA,QA,rfl,a1,a2⟩:=Bp hw x hL;obtain ⟨PB,QB,rfl,b1,b2⟩:=Bp hw x hR;have lo:∀p q,lt x p=false→lt x q=true→lt p q=true:=fun p q hp hq=>by
    cases hc:lt p q with
    | true => rfl
    | false => have := hw.neg x p q hp hc; rw [hq] at this; cases this
  have lo':∀p q,lt x p=false→lt x q=true→lt q p=false:=fun p q hp hq=>hw.asym p q (lo p q hp hq);rw [rB (L1:=PA) (L2:=QA) (R1:=PB) (R2:=QB) (fun r hr l hl=>lo r l (b1 r hr) (a2 l hl)) (fun l hl r hr=>lo' l r (a1 l hl) (b2 r hr))];rw [sy b1 b2,show PB++x::QB=(PB++ [x])++QB by simp];rw [rB (L1:=PA) (L2:=QA) (R1:=PB++ [x]) (R2:=QB) (fun r hr l hl=>by
    rcases List.mem_append.1 hr with hr | hr
    · exact lo r l (b1 r hr) (a2 l hl)
    · simp at hr;subst hr;exact a2 l hl) (fun l hl r hr=>lo' l r (a1 l hl) (b2 r hr))]
  have e:nJ lt PA (PB++ [x])=nJ lt PA PB++ [x]:=by
    have:=rB (lt:=lt) (L1:=PA) (L2:=[]) (R1:=PB) (R2:=[x]) (fun r _ l hl=>by simp at hl) (fun l hl r hr=>by simp at hr;subst hr;exact a1 l hl);simpa [kD] using this
  rw [e,sy (P:=nJ lt PA PB) (Q:=nJ lt QA QB) (fun p hp=>by rcases Cz.1 hp with h | h;exact a1 p h;exact b1 p h) (fun q hq=>by rcases Cz.1 hq with h | h;exact a2 q h;exact b2 q h)];simp
theorem DG (hw:Swo lt) (A B:List α):nJ lt (fi lt A) (fi lt B)=fi lt (A++B):=by
  induction B using gC with
  | h0 => simp [uh, kQ]
  | h1 xs x ih => rw [lO, Ho hw (mj hw A) (mj hw xs), ih, ← dq, lO]
end order
end Srt
end Go.Proofs.YtcfdebjhikahfaaGreat
namespace Go.Proofs.YtcfdebjhikahfaaGreat
namespace Srt
open B
variable {α:Type} [Inhabited α]
def DH (xs:List α) (i j:Int):List α:=(xs.set i.toNat (nth xs j)).set j.toNat (nth xs i)
theorem sS (xs:List α) (i j:Int):(DH xs i j).length=xs.length:=by simp [DH]
theorem nE {A B:List α} {x:α} {i:Int} (h:A.length=i.toNat):nth (A++x::B) i=x:=by
  simp [nth,List.getD,jv (show A.length≤i.toNat by omega),h]
theorem Ff {A M C:List α} {x y:α} {i j:Int} (hi:A.length=i.toNat) (hj:A.length+1+M.length=j.toNat):DH (A++x::(M++y::C)) i j=A++y::(M++x::C):=by
  have e1:nth (A++x::(M++y::C)) i=x:=nE hi;have e2:nth (A++x::(M++y::C)) j=y:=by
    have:=nE (A:=A++x::M) (B:=C) (x:=y) (i:=j) (by simp;omega);simpa using this
  unfold DH;rw [e1,e2,←hi,←hj];rw [fI _ _ (bz _)];simp only [mb,nT];rw [fI _ _ (by omega),show A.length+1+M.length - A.length=M.length+1 by omega];simp only [List.set_cons_succ];rw [fI _ _ (bz _)];simp
theorem Fg {A M C:List α} {x y:α} {i j:Int} (hi:A.length=i.toNat) (hj:A.length+1+M.length=j.toNat):DH (A++x::(M++y::C)) j i=A++y::(M++x::C):=by
  have e1:nth (A++x::(M++y::C)) i=x:=nE hi;have e2:nth (A++x::(M++y::C)) j=y:=by
    have:=nE (A:=A++x::M) (B:=C) (x:=y) (i:=j) (by simp;omega);simpa using this
  unfold DH;rw [e1,e2,←hi,←hj];rw [fI _ _ (by omega),show A.length+1+M.length - A.length=M.length+1 by omega];simp only [List.set_cons_succ];rw [fI _ _ (bz _)];simp only [mb,nT];rw [fI _ _ (bz _)];simp
def rY (xs:List α) (a b:Nat):Nat→List α
  | 0 => xs
  | n + 1 => DH (rY xs a b n) ((a : Int) + n) ((b : Int) + n)
theorem yr (xs:List α) (a b n:Nat):(rY xs a b n).length=xs.length:=by
  induction n with
  | zero => rfl
  | succ n ih => rw [rY, sS, ih]
theorem iv {xs:List α} {n:Nat} (h:n < xs.length):xs.drop n=nth xs (n:Int)::xs.drop (n+1):=by
  rw [fo h];simp [nth,List.getD,cd h]
theorem pZ {xs:List α} {k:Nat} (h:k < xs.length):xs.take (k+1)=xs.take k++ [nth xs (k:Int)]:=by
  rw [mc h];simp [nth,List.getD,cd h]
theorem Fh {A U M V B:List α} {a b k:Nat} (hA:A.length=a) (hU:U.length=k) (hV:V.length=k) (hM:A.length+k+M.length=b):
    ∀n,n≤k→rY (A++(U++(M++(V++B)))) a b n=A++(V.take n++(U.drop n++(M++(U.take n++(V.drop n++B))))):=by
  intro n;induction n with
  | zero => intro _; simp [rY]
  | succ n ih =>
    intro hn;rw [rY,ih (by omega),iv (xs:=U) (by omega),iv (xs:=V) (by omega),pZ (xs:=U) (by omega),pZ (xs:=V) (by omega)];have:=Ff (A:=A++V.take n) (M:=U.drop (n+1)++(M++U.take n)) (C:=V.drop (n+1)++B) (x:=nth U (n:Int)) (y:=nth V (n:Int)) (i:=(a:Int)+n) (j:=(b:Int)+n)
      (by simp;omega) (by simp;omega)
    simpa using this
theorem rC {A U M V B:List α} {a b k:Nat} (hA:A.length=a) (hU:U.length=k) (hV:V.length=k) (hM:A.length+k+M.length=b):
    rY (A++(U++(M++(V++B)))) a b k=A++(V++(M++(U++B))):=by
  rw [Fh hA hU hV hM k (bz _)];simp [bw (show U.length≤k by omega),bw (show V.length≤k by omega),dX (show U.length≤k by omega),dX (show V.length≤k by omega)]
def sA:Nat→List α→Nat→Nat→Nat→List α
  | 0, xs, m, i, _ => rY xs (m - i) m i
  | f + 1, xs, m, i, j => if i = j then rY xs (m - i) m i else if j < i then sA f (rY xs (m - i) m j) m (i - j) j else sA f (rY xs (m - i) (m + j - i) i) m i (j - i)
theorem DI:∀(f:Nat) (A U V B:List α) (m i j:Nat),U.length=i→V.length=j→A.length+i=m→1≤i→1≤j→i+j≤f+2→
    sA f (A++(U++(V++B))) m i j=A++(V++(U++B)):=by
  intro f;induction f with
  | zero =>
    intro A U V B m i j hU hV hm hi hj hf;obtain rfl:i=1:=by omega
    obtain rfl:j=1:=by omega
    rw [sA];have:=rC (A:=A) (U:=U) (M:=[]) (V:=V) (B:=B) (a:=m - 1) (b:=m) (k:=1) (by omega) hU hV (by simp;omega);simpa using this
  | succ f ih =>
    intro A U V B m i j hU hV hm hi hj hf;rw [sA];split
    · rename_i h;subst h;have:=rC (A:=A) (U:=U) (M:=[]) (V:=V) (B:=B) (a:=m - i) (b:=m) (k:=i) (by omega) hU hV (by simp;omega);simpa using this
    · split
      · rename_i h0 h;have eU:U=U.take j++U.drop j:=(dP j U).symm;have h1:=rC (A:=A) (U:=U.take j) (M:=U.drop j) (V:=V) (B:=B) (a:=m - i) (b:=m) (k:=j) (by omega) (by simp;omega) hV (by simp;omega);have e:A++(U++(V++B))=A++(U.take j++(U.drop j++(V++B))):=by rw [←dq (List.take j U),←eU]
        rw [e,h1];have h2:=ih (A++V) (U.drop j) (U.take j) B m (i - j) j (by simp;omega) (by simp;omega) (by simp;omega) (by omega) hj (by omega);simp only [dq] at h2;rw [h2,←dq (List.take j U),←eU]
      · rename_i h0 h;have eV:V=V.take (j - i)++V.drop (j - i):=(dP (j - i) V).symm;have h1:=rC (A:=A) (U:=U) (M:=V.take (j - i)) (V:=V.drop (j - i)) (B:=B) (a:=m - i) (b:=m+j - i) (k:=i) (by omega) hU (by simp;omega) (by simp;omega);have e:A++(U++(V++B))=A++(U++(V.take (j - i)++(V.drop (j - i)++B))):=by rw [←dq (List.take (j - i) V),←eV]
        rw [e,h1];have h2:=ih A (V.drop (j - i)) (V.take (j - i)) (U++B) m i (j - i) (by simp;omega) (by simp;omega) hm hi (by omega) (by omega);rw [h2,←dq (List.take (j - i) V),←eV]
theorem DJ (f:Nat) (xs:List α) (m i:Nat):sA f xs m i i=rY xs (m - i) m i:=by
  cases f <;> simp [sA]
theorem CB {f:Nat} {xs:List α} {m i j:Nat} (h:j < i) (hf:1≤f):sA f xs m i j=sA (f - 1) (rY xs (m - i) m j) m (i - j) j:=by
  obtain ⟨f,rfl⟩:∃f',f=f'+1:=⟨f - 1,by omega⟩;rw [sA,if_neg (by omega),if_pos h];rfl
theorem CC {f:Nat} {xs:List α} {m i j:Nat} (h:i < j) (hf:1≤f):sA f xs m i j=sA (f - 1) (rY xs (m - i) (m+j - i) i) m i (j - i):=by
  obtain ⟨f,rfl⟩:∃f',f=f'+1:=⟨f - 1,by omega⟩;rw [sA,if_neg (by omega),if_neg (by omega)];rfl
def gk (xs:List α) (a m b:Nat):List α:=xs.take a++gS xs m b++gS xs a m++xs.drop b
theorem Hp {xs:List α} {a m b f:Nat} (h1:a < m) (h2:m < b) (h3:b≤xs.length) (hf:b - a≤f+2):sA f xs m (m - a) (b - m)=gk xs a m b:=by
  have e:xs=xs.take a++(gS xs a m++(gS xs m b++xs.drop b)):=by
    conv=>lhs;rw [vQ (xs:=xs) (i:=a) (j:=b) (by omega),lN (j:=m) (by omega) (by omega)]
    simp
  conv=>lhs;rw [e]
  rw [DI f _ _ _ _ m (m - a) (b - m) (gN (by omega)) (gN h3) (by simp;omega) (by omega) (by omega) (by omega)];simp [gk]
theorem dJ {xs:List α} {a m b:Nat} (h1:a≤m) (h2:m≤b) (h3:b≤xs.length):(gk xs a m b).length=xs.length:=by
  simp [gk,gN h3,gN (show m≤xs.length by omega)];omega
theorem dO {xs:List α} {a m b:Nat} (h1:a≤m) (h2:m≤b) (h:¬(a < m∧m < b)):gk xs a m b=xs:=by
  have:a=m∨m=b:=by omega
  rcases this with rfl | rfl
  · rw [gk,kL,eG];exact (vQ h2).symm
  · rw [gk,kL,eG];exact (vQ h1).symm
section order
variable (lt:α→α→Bool)
def Fi (a:Nat):Nat→List α→List α
  | 0, xs => xs
  | j + 1, xs => if a < j + 1 ∧ lt (nth xs ((j : Int) + 1)) (nth xs (j : Int)) = true then Fi a j (DH xs ((j : Int) + 1) (j : Int)) else xs
variable {lt}
theorem CD (a:Nat):∀(j:Nat) (xs:List α),(Fi lt a j xs).length=xs.length
  | 0, _ => rfl
  | j + 1, xs => by
    rw [Fi];split
    · rw [CD a j,sS]
    · rfl
theorem zI {a j:Nat} {xs:List α} (h1:a < j) (h2:lt (nth xs (j:Int)) (nth xs ((j:Int) - 1))=true):Fi lt a j xs=Fi lt a (j - 1) (DH xs (j:Int) ((j:Int) - 1)):=by
  obtain ⟨j,rfl⟩:∃j',j=j'+1:=⟨j - 1,by omega⟩;have e:((j+1:Nat):Int) - 1=(j:Int):=by omega
  have e2:((j+1:Nat):Int)=(j:Int)+1:=by omega
  rw [e,e2] at h2;rw [Fi,if_pos ⟨h1,h2⟩,e,e2];rfl
theorem vT {a j:Nat} {xs:List α} (h:¬(a < j∧lt (nth xs (j:Int)) (nth xs ((j:Int) - 1))=true)):Fi lt a j xs=xs:=by
  cases j with
  | zero => rfl
  | succ j =>
    have e:((j+1:Nat):Int) - 1=(j:Int):=by omega
    have e2:((j+1:Nat):Int)=(j:Int)+1:=by omega
    rw [e,e2] at h;rw [Fi,if_neg h]
theorem Fj {A D:List α} {x:α} {a:Nat} (hA:A.length=a):∀(n:Nat) (P Q:List α),P.length=n→(∀q ∈ Q,lt x q=true)→Fi lt a (a+n) (A++(P++x::(Q++D)))=A++(CA lt x (P++Q)++D):=by
  intro n;induction n with
  | zero =>
    intro P Q hP hQ;obtain rfl:P=[]:=cg hP;rw [vT (by omega),ug hQ (by simp)];simp
  | succ n ih =>
    intro P Q hP hQ;obtain ⟨P',y,rfl⟩:∃P' y,P=P'++ [y]:=⟨P.dropLast,P.getLast (by intro e;simp [e] at hP),(kK _).symm⟩;simp at hP;have e1:nth (A++(P'++ [y]++x::(Q++D))) ((a+(n+1):Nat):Int)=x:=by
      have:=nE (A:=A++(P'++ [y])) (B:=Q++D) (x:=x) (i:=((a+(n+1):Nat):Int)) (by simp;omega);simpa using this
    have e2:nth (A++(P'++ [y]++x::(Q++D))) (((a+(n+1):Nat):Int) - 1)=y:=by
      have:=nE (A:=A++P') (B:=x::(Q++D)) (x:=y) (i:=((a+(n+1):Nat):Int) - 1) (by simp;omega);simpa using this
    by_cases h:lt x y=true
    · rw [zI (by omega) (by rw [e1,e2];exact h)];have h1:=Fg (A:=A++P') (M:=[]) (C:=Q++D) (x:=y) (y:=x) (i:=((a+(n+1):Nat):Int) - 1) (j:=((a+(n+1):Nat):Int)) (by simp;omega) (by simp;omega);have h2:DH (A++(P'++ [y]++x::(Q++D))) ((a+(n+1):Nat):Int) (((a+(n+1):Nat):Int) - 1)=A++(P'++x::((y::Q)++D)):=by simpa using h1
      rw [h2,show a+(n+1) - 1=a+n by omega,ih P' (y::Q) hP (fun q hq=>by rcases List.mem_cons.1 hq with rfl | hq;exact h;exact hQ q hq)];simp
    · rw [vT (by rw [e1,e2];exact fun hh=>h hh.2),ug hQ (fun p hp=>by simp at hp;subst hp;simpa using h)];simp
variable (lt)
def oe (a:Nat):Nat→List α→List α
  | 0, xs => xs
  | n + 1, xs => Fi lt a (a + 1 + n) (oe a n xs)
variable {lt}
theorem vU (a:Nat):∀(n:Nat) (xs:List α),(oe lt a n xs).length=xs.length
  | 0, _ => rfl
  | n + 1, xs => by rw [oe, CD, vU a n]
theorem pB {xs:List α} {i j:Nat} (h1:i≤j) (h2:j < xs.length):gS xs i (j+1)=gS xs i j++ [nth xs (j:Int)]:=by
  rw [lN (j:=j) h1 (by omega)];congr 1;unfold gS;rw [iv h2,show j+1 - j=1 by omega];simp
theorem zJ {xs:List α} {a:Nat}:∀n,a+1+n≤xs.length→oe lt a n xs=xs.take a++(fi lt (gS xs a (a+1+n))++xs.drop (a+1+n)):=by
  intro n;induction n with
  | zero =>
    intro h;rw [oe,ls,pB (bz _) (by omega),kL,eN];have:fi lt [nth xs (a:Int)]=[nth xs (a:Int)]:=rfl;rw [this];conv=>lhs;rw [←dP a xs,iv (show a < xs.length by omega)]
    simp
  | succ n ih =>
    intro h;rw [oe,ih (by omega),iv (show a+1+n < xs.length by omega)];have hl:(fi lt (gS xs a (a+1+n))).length=n+1:=by rw [ik,gN (by omega)];omega
    have:=Fj (lt:=lt) (A:=xs.take a) (D:=xs.drop (a+1+n+1)) (x:=nth xs ((a+1+n:Nat):Int)) (a:=a) (by simp;omega) (n+1) (fi lt (gS xs a (a+1+n))) [] hl (by simp);simp only [eN,eG] at this
    rw [show a+1+n=a+(n+1) by omega] at this ⊢
    rw [this,show a+1+(n+1)=a+(n+1)+1 by omega,pB (show a≤a+(n+1) by omega) (by omega),lO]
def sU (lt:α→α→Bool) (xs:List α) (a b:Nat):List α:=xs.take a++(fi lt (gS xs a b)++xs.drop b)
theorem Fk {xs:List α} {a b:Nat} (h1:a≤b) (h2:b≤xs.length):(sU lt xs a b).length=xs.length:=by
  simp [sU,ik,gN h2];omega
theorem DK {xs:List α} {a b:Nat} (h1:a≤b) (h2:b≤xs.length):oe lt a (b - (a+1)) xs=sU lt xs a b:=by
  by_cases h:a=b
  · subst h;rw [show a - (a+1)=0 by omega,oe,sU,kL,uh,eN,dP]
  · rw [zJ _ (by omega),sU,show a+1+(b - (a+1))=b by omega]
def mF (lt:α→α→Bool) (xs:List α) (a m b:Nat):List α:=xs.take a++(nJ lt (gS xs a m) (gS xs m b)++xs.drop b)
theorem jd {xs:List α} {a m b:Nat} (h1:a≤m) (h2:m≤b) (h3:b≤xs.length):(mF lt xs a m b).length=xs.length:=by
  simp [mF,vk,gN h3,gN (show m≤xs.length by omega)];omega
theorem ej {xs:List α} {a m b:Nat} (h1:a≤m) (h2:m≤b) (h:¬(a < m∧m < b)):mF lt xs a m b=xs:=by
  have:a=m∨m=b:=by omega
  rcases this with rfl | rfl
  · rw [mF,kL,kD,←dq];exact (vQ h2).symm
  · rw [mF,kL,kQ,←dq];exact (vQ h1).symm
end order
end Srt
end Go.Proofs.YtcfdebjhikahfaaGreat
