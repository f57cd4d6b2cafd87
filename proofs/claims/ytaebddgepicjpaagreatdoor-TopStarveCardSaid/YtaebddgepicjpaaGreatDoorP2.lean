/- Pg2 -/
import Derived.WideKeyRuns
import Derived.CheckFast
import Derived.Test.YtaebddgepicjpaaGreatDoorP1
set_option maxHeartbeats 1000000
namespace Go.Pg
open Go.MapKept
section
variable {P:Program} {ι:Inj} {W0 W:World} {σ σ':AHeap}
theorem isKey_IsKey {d:TypeDesc} {k:Value} (h:isKey d k=true):IsKey d k:=by
 cases d<;>cases k<;>simp_all [isKey,IsKey]
theorem isKey_eq {B:Nat} {d:TypeDesc} {k k':Value} (h:isKey d k=true) (hk:VR ι B k k'):k'=k:=by
 cases k with
 |bool b=>exact hk.bool_inv
 |int kd n=>exact hk.int_inv
 |string s=>exact hk.string_inv
 |_=>cases d<;>simp [isKey] at h
theorem MR.cons_inv {B:Nat} {k v:Value} {es:List (Value × Value)} {ents:List MapEntry} (h:MR ι B ((k,v)::es) ents):∃ e r,ents=e::r∧e.key=k∧VR ι B v e.val∧MR ι B es r:=by
 cases ents with
 |nil=>exact absurd h.1 (by simp)
 |cons e r=>exact ⟨e,r,rfl,(h.2 0 k v e rfl rfl).1,(h.2 0 k v e rfl rfl).2,by simpa using h.1,fun j k v e a b=>h.2 (j+1) k v e (by simpa using a) (by simpa using b)⟩
theorem find_sound {B:Nat} {d:TypeDesc} {k:Value}:∀ (es:List (Value × Value)) (ents:List MapEntry) (i:Nat) (r:Option Value),MR ι B es ents→mapFind d k es=some r→
  (r=none∧Instr.findNow d k ents i=some none)∨∃ v j e,r=some v∧Instr.findNow d k ents i=some (some (i+j,e.val))∧ents[j]?=some e∧VR ι B v e.val
 |[],ents,i,r,hm,h=>by
  have:ents=[]:=by have:=hm.1;simpa using this.symm
  subst this
  simp [mapFind] at h
  exact .inl ⟨h.symm,rfl⟩
 |(k',v)::es,ents,i,r,hm,h=>by
  obtain ⟨e,m,rfl,hk,hv,hm'⟩:=hm.cons_inv
  simp only [mapFind] at h
  simp only [Instr.findNow,hk]
  cases hs:Instr.sameNow d k k' with
  |none=>rw [hs] at h;cases h
  |some b=>
   rw [hs] at h
   cases b with
   |true=>
    simp at h
    subst h
    exact .inr ⟨v,0,e,rfl,rfl,rfl,hv⟩
   |false=>
    simp only at h ⊢
    rcases find_sound es m (i+1) r hm' h with h|⟨v',j,e',h1,h2,h3,h4⟩
    ·exact .inl h
    ·exact .inr ⟨v',j+1,e',h1,by rw [h2,show i+1+j=i+(j+1) by omega],by simpa using h3,h4⟩
theorem getMap_inv {r:Nat} {es:List (Value × Value)} (h:σ.getMap r=some es):σ.get r=some (.map es)∨σ.get r=some (.rom es):=by
 unfold AHeap.getMap at h
 split at h
 ·rename_i es' h1;cases h;exact .inl h1
 ·rename_i es' h1;cases h;exact .inr h1
 ·cases h
theorem getMapW_inv {r:Nat} {es:List (Value × Value)} (h:σ.getMapW r=some es):σ.get r=some (.map es):=by
 unfold AHeap.getMapW at h
 split at h
 ·rename_i es' h1;cases h;exact h1
 ·cases h
theorem look_tail {kt et:TypeId} {kd:TypeDesc} {k z:Value} {ok:Bool} {es:Array MapEntry} {t:TypeId} {x:Value} (hd:P.underlying t=some (.map kt et)) (hkd:P.underlying kt=some kd) (hz:zeroOf P et=some z) (hik:isKey kd k=true)
  (hx:(x=.map none∧es= #[])∨∃ r0 clock,x=.map (some r0)∧W.heap[r0]?=some (.map es clock)) {a:Option (Nat × Value)} (ha:Instr.findNow kd k es.toList 0=some a):
  (Instr.lookup t x k ok).run P W=.ok (match a with
   |some (_,v)=>if ok then .tuple #[v,.bool true] else v
   |none=>if ok then .tuple #[z,.bool false] else z) W:=by
 unfold Instr.lookup
 rw [Sem.run_bind,run_und hd]
 simp only [Result.andThen]
 have hchk:∀ b n,(Instr.checkKey b (n+1) kt k).run P W=.ok () W:=fun b n=>run_checkKey hkd (isKey_IsKey hik) b n
 have hfk:(Instr.findKey kt k es.toList).run P W=.ok a W:=run_findKey hkd ha
 rcases hx with ⟨rfl,rfl⟩|⟨r0,clock,rfl,hr⟩
 ·simp only [pure_bind]
  rw [Sem.run_bind,hchk]
  simp only [Result.andThen]
  rw [Sem.run_bind,hfk]
  simp only [Result.andThen]
  cases a with
  |none=>
   simp only
   rw [Sem.run_bind,run_zero hz]
   try rfl
  |some p=>rfl
 ·simp only
  rw [Sem.run_bind,Go.MapKept.run_getObj_map hr]
  simp only [Result.andThen,pure_bind]
  rw [Sem.run_bind,hchk]
  simp only [Result.andThen]
  rw [Sem.run_bind,hfk]
  simp only [Result.andThen]
  cases a with
  |none=>
   simp only
   rw [Sem.run_bind,run_zero hz]
   try rfl
  |some p=>rfl
theorem okV {B:Nat} {ok b:Bool} {v v':Value} (h:VR ι B v v'):VR ι B (bif ok then .tuple #[v,.bool b] else v) (if ok=true then .tuple #[v',.bool b] else v'):=by
 cases ok with
 |true=>exact (VRL.cons h (VRL.cons (.bool b) .nil)).tuple
 |false=>exact h
def AskK (d:TypeDesc) (k:Value) (es:List (Value × Value)):Prop:=∀ p∈es,∃ b:Bool,Instr.sameNow d k p.1=some b∧(b=true↔k=p.1)
theorem AskK.tail {d:TypeDesc} {k:Value} {p:Value × Value} {es:List (Value × Value)} (h:AskK d k (p::es)):AskK d k es:=fun q hq=>h q (by simp [hq])
theorem AskK.perm {d:TypeDesc} {k:Value} {es es':List (Value × Value)} (p:es'.Perm es) (h:AskK d k es):AskK d k es':=fun q hq=>h q (p.mem_iff.1 hq)
theorem ask_of {d:TypeDesc} {c:Option IntKind} {k k0:Value} {es:List (Value × Value)} {b:Bool} (h:∀ p∈es,KeyK c p.1) (h0:KeyK c k0) (hs:Instr.sameNow d k k0=some b):KeyK c k∧AskK d k es:=by
 cases c with
 |some kd=>
  obtain ⟨n,rfl⟩:=h0
  unfold Instr.sameNow at hs
  split at hs
  ·rename_i heq
   split at hs
   ·rename_i hk
    cases heq
    subst hk
    refine ⟨⟨_,rfl⟩,fun p hp=>?_⟩
    obtain ⟨m,e⟩:=h p hp
    refine ⟨_,by rw [e];exact if_pos rfl,?_⟩
    rw [e]
    simp
   ·cases hs
  ·rename_i heq
   cases heq
  ·rename_i heq
   cases heq
  ·cases hs
 |none=>
  obtain ⟨n,rfl⟩:=h0
  unfold Instr.sameNow at hs
  split at hs
  ·rename_i heq
   cases heq
  ·refine ⟨⟨_,rfl⟩,fun p hp=>?_⟩
   obtain ⟨m,e⟩:=h p hp
   rw [e]
   refine ⟨_,rfl,?_⟩
   rw [bytes_beq]
   simp
  ·rename_i heq
   cases heq
  ·cases hs
theorem mapFind_ask {d:TypeDesc} {k:Value}:∀ {es:List (Value × Value)},AskK d k es→∃ r,mapFind d k es=some r∧∀ v,r=some v→(k,v)∈es
 |[],_=>⟨none,rfl,fun v h=>by cases h⟩
 |(k',v)::es,h=>by
  obtain ⟨b,e,hb⟩:=h (k',v) (by simp)
  simp only at e hb
  simp only [mapFind,e]
  cases b with
  |true=>
   obtain rfl:=hb.1 rfl
   exact ⟨some v,rfl,fun u hu=>by cases hu;simp⟩
  |false=>
   obtain ⟨r,h1,h2⟩:=mapFind_ask h.tail
   exact ⟨r,h1,fun u hu=>by simp [h2 u hu]⟩
theorem mapFind_not {d:TypeDesc} {k:Value}:∀ {es:List (Value × Value)},AskK d k es→mapFind d k es=some none→∀ v,(k,v)∉es
 |[],_,_,v,h=>by cases h
 |(k',u)::es,hk,hf,v,h=>by
  obtain ⟨b,e,hb⟩:=hk (k',u) (by simp)
  simp only at e hb
  simp only [mapFind,e] at hf
  cases b with
  |true=>simp at hf
  |false=>
   rcases List.mem_cons.1 h with h|h
   ·simp at h
    exact absurd (hb.2 h.1) (by simp)
   ·exact mapFind_not hk.tail hf v h
theorem find_perm {d:TypeDesc} {k:Value} {es es':List (Value × Value)} {r:Option Value} (p:es'.Perm es) (o:es'=es∨KeysApart es) (h:mapFind d k es=some r):mapFind d k es'=some r:=by
 rcases o with rfl|ka
 ·exact h
 ·cases es with
  |nil=>
   have:=p.eq_nil
   subst this
   exact h
  |cons x l=>
   obtain ⟨c,h1,h2⟩:=ka
   have hs:∃ b,Instr.sameNow d k x.1=some b:=by
    simp only [mapFind] at h
    split at h
    ·exact ⟨_,by assumption⟩
    ·exact ⟨_,by assumption⟩
    ·cases h
   obtain ⟨b,hb⟩:=hs
   obtain ⟨-,hA⟩:=ask_of h1 (h1 x (by simp)) hb
   obtain ⟨r',g1,g2⟩:=mapFind_ask (hA.perm p)
   obtain ⟨r2,g3,g4⟩:=mapFind_ask hA
   rw [h] at g3
   cases g3
   rw [g1]
   congr 1
   cases r' with
   |none=>
    cases r with
    |none=>rfl
    |some v=>exact absurd (p.mem_iff.2 (g4 v rfl)) (mapFind_not (hA.perm p) g1 v)
   |some u=>
    have hu:=p.mem_iff.1 (g2 u rfl)
    cases r with
    |none=>exact absurd hu (mapFind_not hA h u)
    |some v=>
     have hv:=g4 v rfl
     have key:∀ {l:List (Value × Value)},(l.map (·.1)).Nodup→∀ {k u v:Value},(k,u)∈l→(k,v)∈l→u=v:=by
      intro l
      induction l with
      |nil=>intro _ k u v h;cases h
      |cons y l ih=>
       intro hn k u v hu hv
       simp only [List.map_cons,List.nodup_cons,List.mem_map,not_exists,not_and] at hn
       rcases List.mem_cons.1 hu with hu'|hu'
       ·subst hu'
        rcases List.mem_cons.1 hv with hv'|hv'
        ·cases hv';try rfl
        ·exact (hn.1 (k,v) hv' rfl).elim
       ·rcases List.mem_cons.1 hv with hv'|hv'
        ·subst hv'
         exact (hn.1 (k,u) hu' rfl).elim
        ·exact ih hn.2 hu' hv'
     rw [key h2 hu hv]
open Classical in
theorem mapSet_ask {d:TypeDesc} {k v:Value}:∀ {es:List (Value × Value)},AskK d k es→(es.map (·.1)).Nodup→
  ∃ es2,mapSet d k v es=some es2∧es2.Perm ((k,v)::es.filter fun p=>!decide (p.1=k))∧(es2.map (·.1)).Nodup
 |[],_,_=>⟨[(k,v)],rfl,by simp,by simp⟩
 |(k',u)::es,h,hn=>by
  obtain ⟨b,e,hb⟩:=h (k',u) (by simp)
  simp only at e hb
  simp only [mapSet,e]
  simp only [List.map_cons,List.nodup_cons] at hn
  cases b with
  |true=>
   obtain rfl:=hb.1 rfl
   refine ⟨_,rfl,?_,?_⟩
   ·have:((k,u)::es).filter (fun p=>!decide (p.1=k))=es:=by
     rw [List.filter_cons_of_neg (by simp),List.filter_eq_self]
     intro q hq
     by_cases hk:q.1=k
     ·exact absurd (by rw [←hk];exact List.mem_map_of_mem hq) hn.1
     ·simp [hk]
    rw [this]
   ·simpa using hn
  |false=>
   have hne:¬ k'=k:=fun e=>by have:=hb.2 e.symm;simp at this
   obtain ⟨es2,g1,g2,g4⟩:=mapSet_ask (v:=v) h.tail hn.2
   rw [g1]
   refine ⟨_,rfl,?_,?_⟩
   ·rw [List.filter_cons_of_pos (by simp [hne])]
    exact (g2.cons _).trans (.swap _ _ _)
   ·simp only [List.map_cons,List.nodup_cons]
    refine ⟨fun hmem=>?_,g4⟩
    have:=(g2.map (·.1)).mem_iff.1 hmem
    simp only [List.map_cons,List.mem_cons] at this
    rcases this with e|hm2
    ·exact hne e
    ·obtain ⟨q,hq,eq⟩:=List.mem_map.1 hm2
     exact hn.1 (by rw [←eq];exact List.mem_map_of_mem (List.mem_filter.1 hq).1)
theorem set_perm {d:TypeDesc} {k v:Value} {es es' es2:List (Value × Value)} (p:es'.Perm es) (o:es'=es∨KeysApart es) (h:mapSet d k v es=some es2):∃ es2',mapSet d k v es'=some es2'∧es2'.Perm es2∧(es2'=es2∨KeysApart es2):=by
 rcases o with rfl|ka
 ·exact ⟨es2,h,.refl _,.inl rfl⟩
 ·cases es with
  |nil=>
   have:=p.eq_nil
   subst this
   exact ⟨es2,h,.refl _,.inl rfl⟩
  |cons x l=>
   obtain ⟨c,h1,h2⟩:=ka
   have hs:∃ b,Instr.sameNow d k x.1=some b:=by
    simp only [mapSet] at h
    split at h
    ·exact ⟨_,by assumption⟩
    ·exact ⟨_,by assumption⟩
    ·cases h
   obtain ⟨b,hb⟩:=hs
   obtain ⟨hc,hA⟩:=ask_of h1 (h1 x (by simp)) hb
   obtain ⟨r1,g1,g2,g4⟩:=mapSet_ask (v:=v) hA h2
   obtain ⟨r2,f1,f2,f4⟩:=mapSet_ask (v:=v) (hA.perm p) ((p.map _).nodup_iff.2 h2)
   rw [h] at g1
   cases g1
   refine ⟨r2,f1,f2.trans (((p.filter _).cons _).trans g2.symm),.inr ⟨c,fun q hq=>?_,g4⟩⟩
   rcases List.mem_cons.1 (g2.mem_iff.1 hq) with rfl|hq
   ·exact hc
   ·exact h1 q (List.mem_filter.1 hq).1
open Classical in
theorem mapDel_ask {d:TypeDesc} {k:Value}:∀ {es:List (Value × Value)},AskK d k es→(es.map (·.1)).Nodup→
  mapDel d k es=some (es.filter fun p=>!decide (p.1=k))
 |[],_,_=>rfl
 |(k',u)::es,h,hn=>by
  obtain ⟨b,e,hb⟩:=h (k',u) (by simp)
  simp only at e hb
  simp only [mapDel,e]
  simp only [List.map_cons,List.nodup_cons] at hn
  cases b with
  |true=>
   obtain rfl:=hb.1 rfl
   have:((k,u)::es).filter (fun p=>!decide (p.1=k))=es:=by
    rw [List.filter_cons_of_neg (by simp),List.filter_eq_self]
    intro q hq
    by_cases hk:q.1=k
    ·exact absurd (by rw [←hk];exact List.mem_map_of_mem hq) hn.1
    ·simp [hk]
   rw [this]
  |false=>
   have hne:¬ k'=k:=fun e=>by have:=hb.2 e.symm;simp at this
   rw [mapDel_ask h.tail hn.2,List.filter_cons_of_pos (by simp [hne])]
theorem del_perm {d:TypeDesc} {k:Value} {es es' es2:List (Value × Value)} (p:es'.Perm es) (o:es'=es∨KeysApart es) (h:mapDel d k es=some es2):∃ es2',mapDel d k es'=some es2'∧es2'.Perm es2∧(es2'=es2∨KeysApart es2):=by
 rcases o with rfl|ka
 ·exact ⟨es2,h,.refl _,.inl rfl⟩
 ·cases es with
  |nil=>
   have:=p.eq_nil
   subst this
   exact ⟨es2,h,.refl _,.inl rfl⟩
  |cons x l=>
   obtain ⟨c,h1,h2⟩:=ka
   have hs:∃ b,Instr.sameNow d k x.1=some b:=by
    simp only [mapDel] at h
    split at h
    ·exact ⟨_,by assumption⟩
    ·exact ⟨_,by assumption⟩
    ·cases h
   obtain ⟨b,hb⟩:=hs
   obtain ⟨-,hA⟩:=ask_of h1 (h1 x (by simp)) hb
   have g:=mapDel_ask hA h2
   rw [h] at g
   cases g
   refine ⟨_,mapDel_ask (hA.perm p) ((p.map _).nodup_iff.2 h2),p.filter _,.inr ⟨c,fun q hq=>h1 q (List.mem_filter.1 hq).1,?_⟩⟩
   exact List.Sublist.nodup (List.Sublist.map _ List.filter_sublist) h2
theorem MR.snoc {B:Nat} {es:List (Value × Value)} {ents:List MapEntry} {k v:Value} {e:MapEntry} (h:MR ι B es ents) (hk:e.key=k) (hv:VR ι B v e.val):MR ι B (es++[(k,v)]) (ents++[e]):=by
 refine ⟨by simp [h.1],fun j k0 v0 e0 a b=>?_⟩
 by_cases hj:j<es.length
 ·rw [List.getElem?_append_left hj] at a
  rw [List.getElem?_append_left (by have:=h.1;omega)] at b
  exact h.2 j k0 v0 e0 a b
 ·rw [List.getElem?_append_right (by omega)] at a
  rw [List.getElem?_append_right (by have:=h.1;omega),←h.1] at b
  have hj0:j - es.length=0:=by
   have:=(List.getElem?_eq_some_iff.1 a).1
   simp at this
   omega
  rw [hj0] at a b
  simp at a b
  obtain ⟨rfl,rfl⟩:=a
  subst b
  exact ⟨hk,hv⟩
theorem Born.push {ents:Array MapEntry} {clock:Nat} (h:Born ents.toList clock) {e:MapEntry} (he:e.born=clock):Born (ents.push e).toList (clock+1):=by
 unfold Born at h ⊢
 rw [Array.toList_push,List.map_append]
 refine ⟨fun b hb=>?_,List.nodup_append.2 ⟨h.2,by simp,fun a ha b hb=>?_⟩⟩
 ·rcases List.mem_append.1 hb with hb|hb
  ·have:=h.1 b hb
   omega
  ·simp only [List.map_cons,List.map_nil,List.mem_singleton] at hb
   omega
 ·simp only [List.map_cons,List.map_nil,List.mem_singleton] at hb
  have:=h.1 a ha
  omega
theorem Born.modify {ents:Array MapEntry} {clock j:Nat} {f:MapEntry→MapEntry} (h:Born ents.toList clock) (hf:∀ e,(f e).born=e.born):Born (ents.modify j f).toList clock:=by
 have e:(ents.modify j f).toList.map (·.born)=ents.toList.map (·.born):=by
  apply List.ext_getElem?
  intro i
  simp only [Array.toList_modify,List.getElem?_map,List.getElem?_modify]
  cases ents.toList[i]? with
  |none=>simp
  |some x=>
   simp only [Option.map_some]
   split<;>simp [hf]
 unfold Born at h ⊢
 rw [e]
 exact h
theorem plainVR1 {B:Nat} {v:Value} (h:plainV 0 v=true):VR ι B v v:=by
 cases v with
 |bool b=>exact .bool b
 |int k n=>exact .int k n
 |string s=>exact .string s
 |pointer a=>cases a with
  |none=>exact .ptrNil
  |some a=>cases h
 |slice a n c=>cases a with
  |none=>exact .sliceNil n c
  |some a=>cases h
 |map r=>cases r with
  |none=>exact .mapNil
  |some r=>cases h
 |nilFunc=>exact .nilFunc
 |nilIface=>exact .nilIface
 |_=>cases h
theorem plainVRL1 {B:Nat} {l:List Value} (h:l.all (plainV 0)=true):VRL ι B l l:=
 ⟨rfl,fun j v v' a b=>by
  rw [a] at b
  cases b
  exact plainVR1 (List.all_eq_true.1 h _ (List.mem_of_getElem? a))⟩
theorem plainEq1 {B:Nat} {v v':Value} (hv:plainV 0 v=true) (h:VR ι B v v'):v'=v:=by
 cases h<;>first
  |rfl
  |exact Bool.noConfusion hv
theorem plainEqL1 {B:Nat}:∀ {l m:List Value},l.all (plainV 0)=true→VRL ι B l m→m=l
 |[],[],_,_=>rfl
 |[],_::_,_,h=>by have:=h.1;simp at this
 |_::_,[],_,h=>by have:=h.1;simp at this
 |a::l,b::m,hp,h=>by
  simp only [List.all_cons,Bool.and_eq_true] at hp
  have h1:b=a:=plainEq1 hp.1 (h.2 0 a b rfl rfl)
  have h2:m=l:=plainEqL1 hp.2 ⟨by have:=h.1;simpa using this,fun j v v' e1 e2=>h.2 (j+1) v v' (by simpa using e1) (by simpa using e2)⟩
  rw [h1,h2]
theorem scEq_eq {a b:Value} (h:scEq a b=true):a=b∧∀ n,Instr.sameBits n a a=true:=by
 unfold scEq at h
 split at h
 ·simp at h;subst h;exact ⟨rfl,fun n=>by cases n<;>simp [Instr.sameBits]⟩
 ·simp at h;obtain ⟨rfl,rfl⟩:=h;exact ⟨rfl,fun n=>by cases n<;>simp [Instr.sameBits]⟩
 ·rename_i s t
  have:s=t:=by
   cases s;cases t;rename_i x y;cases x;cases y;simp_all
  subst this
  exact ⟨rfl,fun n=>by cases n<;>simp [Instr.sameBits,bytes_beq]⟩
 ·cases h
theorem scEqL_eq:∀ {l m:List Value},scEqL l m=true→l=m∧∀ n,(l.zip l).all (fun (x,y)=>Instr.sameBits n x y)=true
 |[],[],_=>⟨rfl,fun _=>rfl⟩
 |[],_::_,h=>by cases h
 |_::_,[],h=>by cases h
 |a::l,b::m,h=>by
  simp only [scEqL,Bool.and_eq_true] at h
  obtain ⟨rfl,h1⟩:=scEq_eq h.1
  obtain ⟨rfl,h2⟩:=scEqL_eq h.2
  exact ⟨rfl,fun n=>by simp only [List.zip_cons_cons,List.all_cons,h1 n,h2 n,Bool.and_self]⟩
theorem flatK_inv {kt:TypeId} {k:Value} (h:flatK P kt k=true):∃ cs:Array Value,k=.agg cs∧(∃ b,aggEq P kt cs.toList cs.toList=some b)∧cs.toList.all (plainV 0)=true:=by
 unfold flatK at h
 split at h
 ·rename_i cs
  simp only [Bool.and_eq_true,Option.isSome_iff_exists] at h
  exact ⟨cs,rfl,h.1,h.2⟩
 ·cases h
theorem flat_struct {kt:TypeId} {xs ys:List Value} {b:Bool} (h:aggEq P kt xs ys=some b):∃ fs,P.underlying kt=some (.struct fs)∧fieldsEq P fs.toList xs ys=some b:=by
 unfold aggEq at h
 split at h
 ·rename_i fs hd
  obtain ⟨_,h⟩:=bif_nil h
  exact ⟨fs,hd,h⟩
 ·cases h
def noInj0:Inj:=⟨fun _ _=>none,fun _=>False,fun _ _=>False⟩
theorem flat_check {W:World} {kt:TypeId} {cs:Array Value} (em:Bool) (n:Nat) {b:Bool} (h:aggEq P kt cs.toList cs.toList=some b) (hp:cs.toList.all (plainV 0)=true):(Instr.checkKey em (n+2) kt (.agg cs)).run P W=.ok () W:=by
 obtain ⟨fs,hd,hf⟩:=flat_struct h
 clear h
 rw [Instr.checkKey,Sem.run_bind,run_und hd]
 simp only [Result.andThen]
 rw [←Array.forIn_toList]
 generalize fs.toList=l at hf
 clear hd
 revert b
 induction l with
 |nil=>intro b h;try rfl
 |cons f l ih=>
  intro b h
  unfold fieldsEq at h
  cases hn:f.name== "_" with
  |true=>rw [hn] at h;cases h
  |false=>
   rw [hn] at h
   simp only [cond_false] at h
   split at h
   ·rename_i x y hpx hpy
    rw [hpx] at hpy
    cases hpy
    split at h
    ·rename_i b1 hb1
     split at h
     ·rename_i c hc
      have hne:f.name≠ "_" :=by simpa using hn
      obtain ⟨x',h1,h2⟩:=partV_sound (ι:=noInj0) (W0:=W) (W:=W) hpx (plainVRL1 hp)
      have hd':∃ d,P.underlying f.type=some d∧IsKey d x:=by
       unfold scalarEq at hb1
       split at hb1
       ·exact ⟨_,by assumption,by simp [IsKey]⟩
       ·obtain ⟨h1,_⟩:=bif_some hb1
        simp only [Bool.and_eq_true,decide_eq_true_eq] at h1
        refine ⟨_,by assumption,?_⟩
        exact h1.2
       ·exact ⟨_,by assumption,by simp [IsKey]⟩
       ·cases hb1
      obtain ⟨d,hd1,hd2⟩:=hd'
      have hx:x'=x:=by
       have:plainV 0 x=true:=by
        cases x<;>simp_all [IsKey,plainV]
       exact plainEq1 this h1
      subst hx
      rw [List.forIn_cons,Sem.run_bind,if_pos hne,Sem.run_bind,Sem.run_bind]
      rw [show cs.toList.toArray=cs by simp] at h2
      rw [h2]
      simp only [Result.andThen]
      rw [Sem.run_bind,run_checkKey hd1 hd2 em n]
      simp only [Result.andThen,Sem.run_pure]
      have:=ih hc
      rw [Sem.run_bind] at this
      simpa only [Result.andThen,Sem.run_pure] using this
     ·cases h
    ·cases h
   ·cases h
theorem aggCmp_inv {W:World} {kt:TypeId} {cs:Array Value} {k':Value} {b:Bool} (hp:cs.toList.all (plainV 0)=true) (h:aggCmp P kt (.agg cs) k'=some b):
  (Op.equal kt (.agg cs) k').run P W=.ok b W∧(b=true→k'=.agg cs∧Instr.sameBits 10000 k' (.agg cs)=true):=by
 unfold aggCmp at h
 split at h
 ·rename_i xs ys hk
  cases hk
  obtain ⟨hy,h⟩:=bif_nil h
  split at h
  ·rename_i b1 hb
   obtain ⟨hs,rfl⟩:=bif_some h
   refine ⟨(aggEq_sound (ι:=noInj0) (W0:=W) (W:=W) hb (plainVRL1 hp) (plainVRL1 hy)).2,fun hbt=>?_⟩
   subst hbt
   have hs':scEqL cs.toList ys.toList=true:=by simpa using hs
   obtain ⟨e,hb'⟩:=scEqL_eq hs'
   have e':cs=ys:=Array.toList_inj.1 e
   subst e'
   refine ⟨rfl,?_⟩
   show (cs.size==cs.size&&(cs.toList.zip cs.toList).all fun (x,y)=>Instr.sameBits 9999 x y)=true
   rw [hb' 9999]
   simp
  ·cases h
 ·cases h
theorem askA_sound {B:Nat} {W:World} {kt:TypeId} {cs:Array Value} (hp:cs.toList.all (plainV 0)=true):∀ (es:List (Value × Value)) (ents:List MapEntry) (i:Nat) (r:Option Value),MR ι B es ents→mapFindA (aggCmp P kt) (.agg cs) es=some r→
  (r=none∧(Instr.findAsking kt (.agg cs) ents i).run P W=.ok none W)∨∃ v j e,r=some v∧(Instr.findAsking kt (.agg cs) ents i).run P W=.ok (some (i+j,e.val)) W∧ents[j]?=some e∧VR ι B v e.val
 |[],ents,i,r,hm,h=>by
  have:ents=[]:=by have:=hm.1;simpa using this.symm
  subst this
  simp [mapFindA] at h
  exact .inl ⟨h.symm,rfl⟩
 |(k',v)::es,ents,i,r,hm,h=>by
  obtain ⟨e,m,rfl,hk,hv,hm'⟩:=hm.cons_inv
  simp only [mapFindA] at h
  cases hs:aggCmp P kt (.agg cs) k' with
  |none=>rw [hs] at h;cases h
  |some b=>
   rw [hs] at h
   have hq:=(aggCmp_inv (W:=W) hp hs).1
   unfold Instr.findAsking
   rw [Sem.run_bind,hk,hq]
   simp only [Result.andThen]
   cases b with
   |true=>
    simp at h
    subst h
    exact .inr ⟨v,0,e,rfl,rfl,rfl,hv⟩
   |false=>
    simp only at h
    simp only [Bool.false_eq_true,if_false]
    rcases askA_sound (W:=W) hp es m (i+1) r hm' h with h|⟨v',j,e',h1,h2,h3,h4⟩
    ·exact .inl h
    ·exact .inr ⟨v',j+1,e',h1,by rw [h2,show i+1+j=i+(j+1) by omega],by simpa using h3,h4⟩
theorem flat_wide {kt:TypeId} {xs ys:List Value} {b:Bool} (h:aggEq P kt xs ys=some b):(match P.underlying kt with|some (.array _ _)|some (.struct _)=>true|_=>false)=true:=by
 obtain ⟨fs,hd,_⟩:=flat_struct h
 rw [hd]
theorem lookA_tail {kt et:TypeId} {z:Value} {ok:Bool} {es:Array MapEntry} {t:TypeId} {x:Value} {cs:Array Value} {b:Bool} (hd:P.underlying t=some (.map kt et)) (hz:zeroOf P et=some z) (hfl:aggEq P kt cs.toList cs.toList=some b) (hp:cs.toList.all (plainV 0)=true)
  (hx:(x=.map none∧es= #[])∨∃ r0 clock,x=.map (some r0)∧W.heap[r0]?=some (.map es clock)) {a:Option (Nat × Value)} (ha:(Instr.findAsking kt (.agg cs) es.toList).run P W=.ok a W):
  (Instr.lookup t x (.agg cs) ok).run P W=.ok (match a with
   |some (_,v)=>if ok then .tuple #[v,.bool true] else v
   |none=>if ok then .tuple #[z,.bool false] else z) W:=by
 unfold Instr.lookup
 rw [Sem.run_bind,run_und hd]
 simp only [Result.andThen]
 have hchk:∀ b,(Instr.checkKey b 10000 kt (.agg cs)).run P W=.ok () W:=fun b=>flat_check b 9998 hfl hp
 have hfk:(Instr.findKey kt (.agg cs) es.toList).run P W=.ok a W:=by rw [run_findKey_eq W (flat_wide hfl)];exact ha
 rcases hx with ⟨rfl,rfl⟩|⟨r0,clock,rfl,hr⟩
 ·simp only [pure_bind]
  rw [Sem.run_bind,hchk]
  simp only [Result.andThen]
  rw [Sem.run_bind,hfk]
  simp only [Result.andThen]
  cases a with
  |none=>
   simp only
   rw [Sem.run_bind,run_zero hz]
   try rfl
  |some p=>rfl
 ·simp only
  rw [Sem.run_bind,Go.MapKept.run_getObj_map hr]
  simp only [Result.andThen,pure_bind]
  rw [Sem.run_bind,hchk]
  simp only [Result.andThen]
  rw [Sem.run_bind,hfk]
  simp only [Result.andThen]
  cases a with
  |none=>
   simp only
   rw [Sem.run_bind,run_zero hz]
   try rfl
  |some p=>rfl
theorem findA_perm {kt:TypeId} {cs:Array Value} {es es':List (Value × Value)} {r:Option Value} (p:es'.Perm es) (o:es'=es∨KeysApart es) (h:mapFindA (aggCmp P kt) (.agg cs) es=some r):mapFindA (aggCmp P kt) (.agg cs) es'=some r:=by
 rcases o with rfl|⟨kd,h1,_⟩
 ·exact h
 ·cases es with
  |nil=>
   have:=p.eq_nil
   subst this
   exact h
  |cons x l=>
   obtain ⟨x1,x2⟩:=x
   have e:=h1 (x1,x2) (by simp)
   cases kd with
   |some kd=>
    obtain ⟨n,e⟩:=e
    simp only at e
    subst e
    simp [mapFindA,aggCmp] at h
   |none=>
    obtain ⟨n,e⟩:=e
    simp only at e
    subst e
    simp [mapFindA,aggCmp] at h
theorem setA_perm {kt:TypeId} {cs:Array Value} {v:Value} {es es' es2:List (Value × Value)} (p:es'.Perm es) (o:es'=es∨KeysApart es) (h:mapSetA (aggCmp P kt) (.agg cs) v es=some es2):∃ es2',mapSetA (aggCmp P kt) (.agg cs) v es'=some es2'∧es2'.Perm es2∧(es2'=es2∨KeysApart es2):=by
 rcases o with rfl|⟨kd,h1,_⟩
 ·exact ⟨es2,h,.refl _,.inl rfl⟩
 ·cases es with
  |nil=>
   have:=p.eq_nil
   subst this
   exact ⟨es2,h,.refl _,.inl rfl⟩
  |cons x l=>
   obtain ⟨x1,x2⟩:=x
   have e:=h1 (x1,x2) (by simp)
   cases kd with
   |some kd=>
    obtain ⟨n,e⟩:=e
    simp only at e
    subst e
    simp [mapSetA,aggCmp] at h
   |none=>
    obtain ⟨n,e⟩:=e
    simp only at e
    subst e
    simp [mapSetA,aggCmp] at h
theorem lookupA_sound {t kt et:TypeId} {m m' k k' v z:Value} {ok:Bool} (R:Rel ι W0 σ W) (hd:P.underlying t=some (.map kt et)) (hz:zeroOf P et=some z) (hfk:flatK P kt k=true) (hm:VR ι W0.heap.size m m') (hk:VR ι W0.heap.size k k')
  (h:(match (match m with
     | .map none=>some (some none)
     | .map (some r)=>(σ.getMap r).map (mapFindA (aggCmp P kt) k)
     |_=>none) with
    |some (some (some v))=>some (bif ok then .tuple #[v,.bool true] else v,σ)
    |some (some none)=>some (bif ok then .tuple #[z,.bool false] else z,σ)
    |_=>none)=some (v,σ')):σ'=σ∧∃ v',VR ι W0.heap.size v v'∧(Instr.lookup t m' k' ok).run P W=.ok v' W:=by
 obtain ⟨cs,rfl,⟨b,hfl⟩,hp⟩:=flatK_inv hfk
 obtain ⟨cs',rfl,hcs⟩:=hk.agg_inv
 have hcc:cs'=cs:=by
  exact Array.toList_inj.1 (plainEqL1 hp hcs)
 subst hcc
 have fin:∀ (r:Option Value) (es:List (Value × Value)) (ents:Array MapEntry),MR ι W0.heap.size es ents.toList→mapFindA (aggCmp P kt) (.agg cs') es=some r→((m'=.map none∧ents= #[])∨∃ r0 clock,m'=.map (some r0)∧W.heap[r0]?=some (.map ents clock))→
   ∃ v',VR ι W0.heap.size (match r with|some v=>bif ok then .tuple #[v,.bool true] else v|none=>bif ok then .tuple #[z,.bool false] else z) v'∧(Instr.lookup t m' (.agg cs') ok).run P W=.ok v' W:=by
  intro r es ents hmr hf hx
  rcases askA_sound (W:=W) hp es ents.toList 0 r hmr hf with ⟨rfl,h2⟩|⟨v0,j,e,rfl,h2,h3,h4⟩
  ·exact ⟨_,okV (zero_VR hz),lookA_tail hd hz hfl hp hx h2⟩
  ·exact ⟨_,okV h4,lookA_tail hd hz hfl hp hx h2⟩
 have fin2:∀ r,(match m with
   | .map none=>some (some none)
   | .map (some r)=>(σ.getMap r).map (mapFindA (aggCmp P kt) (.agg cs'))
   |_=>none)=some (some r)→∃ v',VR ι W0.heap.size (match r with|some v=>bif ok then .tuple #[v,.bool true] else v|none=>bif ok then .tuple #[z,.bool false] else z) v'∧(Instr.lookup t m' (.agg cs') ok).run P W=.ok v' W:=by
  intro r hr
  cases hm<;>try (exact absurd (show (none:Option (Option (Option Value)))=some (some r) from hr) nofun)
  ·cases hr
   exact fin none [] #[] ⟨rfl,fun j k v e a _=>by simp at a⟩ rfl (.inl ⟨rfl,rfl⟩)
  ·rename_i b i hi
   replace hr:(σ.getMap b).map (mapFindA (aggCmp P kt) (.agg cs'))=some (some r):=hr
   cases hg:σ.getMap b with
   |none=>rw [hg] at hr;cases hr
   |some es=>
    rw [hg] at hr
    simp only [Option.map_some,Option.some.injEq] at hr
    obtain ⟨i',h1,ents,clock,h2,h3⟩:=R.map b es _ _ (getMap_inv hg) hi
    rw [hi] at h1
    cases h1
    obtain ⟨es',hp1,hp2,hp3⟩:=h3.order
    exact fin r es' ents hp3 (findA_perm hp1 hp2 hr) (.inr ⟨_,clock,rfl,h2⟩)
 split at h
 ·rename_i v0 hv
  simp only [Option.some.injEq,Prod.mk.injEq] at h
  obtain ⟨rfl,rfl⟩:=h
  exact ⟨rfl,fin2 _ hv⟩
 ·rename_i hv
  simp only [Option.some.injEq,Prod.mk.injEq] at h
  obtain ⟨rfl,rfl⟩:=h
  exact ⟨rfl,fin2 _ hv⟩
 ·cases h
theorem setA_sound {B:Nat} {W:World} {kt:TypeId} {cs:Array Value} {v v':Value} (hp:cs.toList.all (plainV 0)=true) (hv:VR ι B v v'):∀ (es:List (Value × Value)) (ents:List MapEntry) (i:Nat) (es':List (Value × Value)),MR ι B es ents→mapSetA (aggCmp P kt) (.agg cs) v es=some es'→
  ((Instr.findAsking kt (.agg cs) ents i).run P W=.ok none W∧es'=es++[(.agg cs,v)])∨∃ j e x,(Instr.findAsking kt (.agg cs) ents i).run P W=.ok (some (i+j,x)) W∧ents[j]?=some e∧Instr.sameBits 10000 e.key (.agg cs)=true∧MR ι B es' (ents.modify j fun e=>{ e with key:=.agg cs,val:=v' })
 |[],ents,i,es',hm,h=>by
  have:ents=[]:=by have:=hm.1;simpa using this.symm
  subst this
  simp [mapSetA] at h
  exact .inl ⟨rfl,by simp [h]⟩
 |(k',w)::es,ents,i,es',hm,h=>by
  obtain ⟨e,m,rfl,hk,hw,hm'⟩:=hm.cons_inv
  simp only [mapSetA] at h
  cases hs:aggCmp P kt (.agg cs) k' with
  |none=>rw [hs] at h;cases h
  |some b=>
   rw [hs] at h
   obtain ⟨hq,hbt⟩:=aggCmp_inv (W:=W) hp hs
   unfold Instr.findAsking
   rw [Sem.run_bind,hk,hq]
   simp only [Result.andThen]
   cases b with
   |true=>
    simp at h
    subst h
    right
    refine ⟨0,e,e.val,rfl,rfl,by rw [hk];exact (hbt rfl).2,?_⟩
    refine ⟨by simp [hm'.1],fun j k0 v0 e0 a b=>?_⟩
    cases j with
    |zero=>simp at a b;obtain ⟨rfl,rfl⟩:=a;subst b;exact ⟨rfl,hv⟩
    |succ j=>simp at a b;exact hm'.2 j k0 v0 e0 a b
   |false=>
    simp only [Bool.false_eq_true,if_false] at h ⊢
    cases hr:mapSetA (aggCmp P kt) (.agg cs) v es with
    |none=>rw [hr] at h;cases h
    |some r'=>
     rw [hr] at h
     simp at h
     subst h
     rcases setA_sound (W:=W) hp hv es m (i+1) r' hm' hr with ⟨h1,rfl⟩|⟨j,e1,x,h1,h2,h3,h4⟩
     ·exact .inl ⟨h1,by simp⟩
     ·right
      refine ⟨j+1,e1,x,by rw [h1,show i+1+j=i+(j+1) by omega],by simpa using h2,h3,?_⟩
      refine ⟨by have:=h4.1;simp at this ⊢;exact this,fun q k0 v0 e0 a b=>?_⟩
      cases q with
      |zero=>simp at a b;obtain ⟨rfl,rfl⟩:=a;subst b;exact ⟨hk,hw⟩
      |succ q=>simp at a b;exact h4.2 q k0 v0 e0 a b
theorem lookup_sound {t:TypeId} {m m' k k' v:Value} {ok:Bool} (R:Rel ι W0 σ W) (hm:VR ι W0.heap.size m m') (hk:VR ι W0.heap.size k k') (h:lookupAct P t m k ok σ=some (v,σ')):
  σ'=σ∧∃ v',VR ι W0.heap.size v v'∧(Instr.lookup t m' k' ok).run P W=.ok v' W:=by
 unfold lookupAct at h
 split at h
 ·rename_i kt et hd
  split at h
  ·rename_i kd z hkd hz
   cases hik:isKey kd k with
   |false=>
    rw [hik] at h
    simp only [cond_false] at h
    cases hfk:flatK P kt k with
    |false=>rw [hfk] at h;cases h
    |true=>
     rw [hfk] at h
     simp only [cond_true] at h
     exact lookupA_sound R hd hz hfk hm hk h
   |true=>
   rw [hik] at h
   simp only [cond_true] at h
   obtain rfl:=isKey_eq hik hk
   have fin:∀ (r:Option Value) (es:List (Value × Value)) (ents:Array MapEntry),MR ι W0.heap.size es ents.toList→mapFind kd k' es=some r→((m'=.map none∧ents= #[])∨∃ r0 clock,m'=.map (some r0)∧W.heap[r0]?=some (.map ents clock))→
     ∃ v',VR ι W0.heap.size (match r with|some v=>bif ok then .tuple #[v,.bool true] else v|none=>bif ok then .tuple #[z,.bool false] else z) v'∧(Instr.lookup t m' k' ok).run P W=.ok v' W:=by
    intro r es ents hmr hf hx
    rcases find_sound es ents.toList 0 r hmr hf with ⟨rfl,h2⟩|⟨v0,j,e,rfl,h2,h3,h4⟩
    ·exact ⟨_,okV (zero_VR hz),look_tail hd hkd hz hik hx h2⟩
    ·exact ⟨_,okV h4,look_tail hd hkd hz hik hx h2⟩
   have fin2:∀ r,(match m with
     | .map none=>some (some none)
     | .map (some r)=>(σ.getMap r).map (mapFind kd k')
     |_=>none)=some (some r)→∃ v',VR ι W0.heap.size (match r with|some v=>bif ok then .tuple #[v,.bool true] else v|none=>bif ok then .tuple #[z,.bool false] else z) v'∧(Instr.lookup t m' k' ok).run P W=.ok v' W:=by
    intro r hr
    cases hm<;>try (exact absurd (show (none:Option (Option (Option Value)))=some (some r) from hr) nofun)
    ·cases hr
     exact fin none [] #[] ⟨rfl,fun j k v e a _=>by simp at a⟩ rfl (.inl ⟨rfl,rfl⟩)
    ·rename_i b i hi
     replace hr:(σ.getMap b).map (mapFind kd k')=some (some r):=hr
     cases hg:σ.getMap b with
     |none=>rw [hg] at hr;cases hr
     |some es=>
      rw [hg] at hr
      simp only [Option.map_some,Option.some.injEq] at hr
      obtain ⟨i',h1,ents,clock,h2,h3⟩:=R.map b es _ _ (getMap_inv hg) hi
      rw [hi] at h1
      cases h1
      obtain ⟨es',hp1,hp2,hp3⟩:=h3.order
      exact fin r es' ents hp3 (find_perm hp1 hp2 hr) (.inr ⟨_,clock,rfl,h2⟩)
   split at h
   ·rename_i v0 hv
    simp only [Option.some.injEq,Prod.mk.injEq] at h
    obtain ⟨rfl,rfl⟩:=h
    exact ⟨rfl,fin2 _ hv⟩
   ·rename_i hv
    simp only [Option.some.injEq,Prod.mk.injEq] at h
    obtain ⟨rfl,rfl⟩:=h
    exact ⟨rfl,fin2 _ hv⟩
   ·cases h
  ·cases h
 ·cases h
theorem set_sound {B:Nat} {d:TypeDesc} {k v v':Value} (hv:VR ι B v v'):∀ (es:List (Value × Value)) (ents:List MapEntry) (i:Nat) (es':List (Value × Value)),MR ι B es ents→mapSet d k v es=some es'→
  (Instr.findNow d k ents i=some none∧es'=es++[(k,v)])∨∃ j e x,Instr.findNow d k ents i=some (some (i+j,x))∧ents[j]?=some e∧Instr.sameNow d k e.key=some true∧MR ι B es' (ents.modify j fun e=>{ e with key:=k,val:=v' })
 |[],ents,i,es',hm,h=>by
  have:ents=[]:=by have:=hm.1;simpa using this.symm
  subst this
  simp [mapSet] at h
  exact .inl ⟨rfl,by simp [h]⟩
 |(k',w)::es,ents,i,es',hm,h=>by
  obtain ⟨e,m,rfl,hk,hw,hm'⟩:=hm.cons_inv
  simp only [mapSet] at h
  simp only [Instr.findNow,hk]
  cases hs:Instr.sameNow d k k' with
  |none=>rw [hs] at h;cases h
  |some b=>
   rw [hs] at h
   cases b with
   |true=>
    simp at h
    subst h
    right
    refine ⟨0,e,e.val,rfl,rfl,by rw [hk];exact hs,?_⟩
    refine ⟨by simp [hm'.1],fun j k0 v0 e0 a b=>?_⟩
    cases j with
    |zero=>simp at a b;obtain ⟨rfl,rfl⟩:=a;subst b;exact ⟨rfl,hv⟩
    |succ j=>simp at a b;exact hm'.2 j k0 v0 e0 a b
   |false=>
    simp only at h ⊢
    cases hr:mapSet d k v es with
    |none=>rw [hr] at h;cases h
    |some r'=>
     rw [hr] at h
     simp at h
     subst h
     rcases set_sound hv es m (i+1) r' hm' hr with ⟨h1,rfl⟩|⟨j,e1,x,h1,h2,h3,h4⟩
     ·exact .inl ⟨h1,by simp⟩
     ·right
      refine ⟨j+1,e1,x,by rw [h1,show i+1+j=i+(j+1) by omega],by simpa using h2,h3,?_⟩
      refine ⟨by have:=h4.1;simp at this ⊢;exact this,fun q k0 v0 e0 a b=>?_⟩
      cases q with
      |zero=>simp at a b;obtain ⟨rfl,rfl⟩:=a;subst b;exact ⟨hk,hw⟩
      |succ q=>simp at a b;exact h4.2 q k0 v0 e0 a b
theorem same_bits {d:TypeDesc} {a b:Value} (h:Instr.sameNow d a b=some true):Instr.sameBits 10000 b a=true:=by
 unfold Instr.sameNow at h
 split at h
 ·split at h
  ·rename_i hk
   subst hk
   simp at h
   subst h
   simp [Instr.sameBits]
  ·cases h
 ·simp [bytes_beq] at h
  subst h
  simp [Instr.sameBits,bytes_beq]
 ·simp at h
  simp [Instr.sameBits,h]
 ·cases h
theorem update_inv {t:TypeId} {m k x:Value} {r0:Option (Value × AHeap)} (h:updateAct P t m k x σ=r0) (hr:r0.isSome=true):∃ kt et r kd es,P.underlying t=some (.map kt et)∧m=.map (some r)∧P.underlying kt=some kd∧σ.getMapW r=some es∧
  (bif isKey kd k&&notTop x then
    match mapSet kd k x es with
    |some es'=>some (.tuple #[],σ.put r (.map es'))
    |none=>none
   else bif flatK P kt k&&notTop x then
    match mapSetA (aggCmp P kt) k x es with
    |some es'=>some (.tuple #[],σ.put r (.map es'))
    |none=>none
   else none)=r0:=by
 subst h
 unfold updateAct at hr ⊢
 split at hr
 ·rename_i kt et hd
  split at hr
  ·rename_i r
   split at hr
   ·rename_i r
    split at hr
    ·rename_i kd hkd
     split at hr
     ·rename_i es hg
      exact ⟨kt,et,r,kd,es,hd,rfl,hkd,hg,rfl⟩
     ·cases hr
    ·cases hr
   ·cases hr
  ·cases hr
 ·cases hr
theorem updateA_sound {t kt et:TypeId} {r:Nat} {es:List (Value × Value)} {m' x x' v:Value} {cs':Array Value} {b:Bool} (R:Rel ι W0 σ W) (hm:VR ι W0.heap.size (.map (some r)) m') (hx:VR ι W0.heap.size x x') (hd:P.underlying t=some (.map kt et)) (hg:σ.getMapW r=some es)
  (hfl:aggEq P kt cs'.toList cs'.toList=some b) (hp:cs'.toList.all (plainV 0)=true)
  (h:(match mapSetA (aggCmp P kt) (.agg cs') x es with
    |some es'=>some (.tuple #[],σ.put r (.map es'))
    |none=>none)=some (v,σ')):ActOK P ι W0 W (do Instr.mapUpdate t m' (.agg cs') x';pure Next.skip) v σ':=by
 split at h
 ·rename_i es' hes
  simp only [Option.some.injEq,Prod.mk.injEq] at h
  obtain ⟨rfl,rfl⟩:=h
  obtain ⟨i,rfl,hi⟩:=hm.map_inv
  have hgm:=getMapW_inv hg
  obtain ⟨i',h1,ents,clock,h2,h3⟩:=R.map r es _ _ (.inl hgm) hi
  rw [hi] at h1
  cases h1
  obtain ⟨es0,hp1,hp2,hp3⟩:=h3.order
  obtain ⟨es2,hq1,hq2,hq3⟩:=setA_perm hp1 hp2 hes
  have hchk:(Instr.checkKey false 10000 kt (.agg cs')).run P W=.ok () W:=flat_check false 9998 hfl hp
  have fin:∀ o,(∃ ents2 clock2,o=.map ents2 clock2∧EntsOK ι W0.heap.size es' ents2 clock2)→
    (Instr.mapUpdate t (.map (some i.c)) (.agg cs') x').run P W=.ok () { W with heap:=W.heap.setIfInBounds i.c o }→ActOK P ι W0 W (do Instr.mapUpdate t (.map (some i.c)) (.agg cs') x';pure Next.skip) (.tuple #[]) (σ.put r (.map es')):=by
   intro o ho hrun
   exact actOK_u ι.le_refl (R.setObj hi ⟨_,hgm,nofun⟩ nofun (fun es2 h=>by cases h;exact ho) nofun) hrun rfl
  have hset:∀ o,(setObj i.c o).run P W=.ok () { W with heap:=W.heap.setIfInBounds i.c o }:=fun o=>Go.MapKept.run_setObj_map o h2
  rcases setA_sound (W:=W) hp hx es0 ents.toList 0 es2 hp3 hq1 with ⟨hf,rfl⟩|⟨j,e,y,hf,hj,hsame,hmr⟩
  ·refine fin (.map (ents.push { key:=(.agg cs'),val:=x',born:=clock }) (clock+1)) ⟨_,_,rfl,h3.born.push rfl,_,hq2,hq3,?_⟩ ?_
   ·rw [Array.toList_push]
    exact hp3.snoc rfl hx
   ·unfold Instr.mapUpdate
    rw [Sem.run_bind,run_und hd]
    simp only [Result.andThen]
    rw [Sem.run_bind,Go.MapKept.run_getObj_map h2]
    simp only [Result.andThen]
    rw [Sem.run_bind,hchk]
    simp only [Result.andThen]
    rw [Sem.run_bind,run_findKey_eq W (flat_wide hfl),hf]
    exact hset _
  ·refine fin (.map (ents.modify j fun e=>{ e with key:=(.agg cs'),val:=x' }) clock) ⟨_,_,rfl,h3.born.modify fun _=>rfl,_,hq2,hq3,by rw [Array.toList_modify];exact hmr⟩ ?_
   unfold Instr.mapUpdate
   rw [Sem.run_bind,run_und hd]
   simp only [Result.andThen]
   rw [Sem.run_bind,Go.MapKept.run_getObj_map h2]
   simp only [Result.andThen]
   rw [Sem.run_bind,hchk]
   simp only [Result.andThen]
   rw [Sem.run_bind,run_findKey_eq W (flat_wide hfl),hf]
   simp only [Result.andThen,Nat.zero_add]
   have hej:ents[j]?=some e:=by simpa using hj
   have hkey:(((ents[j]?).map (·.key)).getD (.agg cs'))=e.key:=by rw [hej];try rfl
   rw [hkey,Sem.run_bind]
   have hks:(Instr.keyThatStays e.key (.agg cs')).run P W=.ok (.agg cs') W:=by
    unfold Instr.keyThatStays
    rw [if_pos hsame]
    try rfl
   rw [hks]
   exact hset _
 ·cases h
theorem update_sound {t:TypeId} {m m' k k' x x' v:Value} (R:Rel ι W0 σ W) (hm:VR ι W0.heap.size m m') (hk:VR ι W0.heap.size k k') (hx:VR ι W0.heap.size x x') (h:updateAct P t m k x σ=some (v,σ')):
  ActOK P ι W0 W (do Instr.mapUpdate t m' k' x';pure Next.skip) v σ':=by
 obtain ⟨kt,et,r,kd,es,hd,rfl,hkd,hg,h⟩:=update_inv h rfl
 ···cases hik:(isKey kd k&&notTop x) with
   |false=>
    rw [hik] at h
    simp only [cond_false] at h
    cases hfx:(flatK P kt k&&notTop x) with
    |false=>rw [hfx] at h;cases h
    |true=>
    rw [hfx] at h
    simp only [cond_true] at h
    simp only [Bool.and_eq_true] at hfx
    obtain ⟨cs,rfl,⟨b,hfl⟩,hp⟩:=flatK_inv hfx.1
    obtain ⟨cs',rfl,hcs⟩:=hk.agg_inv
    have hcc:cs'=cs:=by
     exact Array.toList_inj.1 (plainEqL1 hp hcs)
    subst hcc
    exact updateA_sound R hm hx hd hg hfl hp h
   |true=>
   rw [hik] at h
   simp only [cond_true] at h
   simp only [Bool.and_eq_true] at hik
   obtain rfl:=isKey_eq hik.1 hk
   split at h
   ·rename_i es' hes
    simp only [Option.some.injEq,Prod.mk.injEq] at h
    obtain ⟨rfl,rfl⟩:=h
    obtain ⟨i,rfl,hi⟩:=hm.map_inv
    have hgm:=getMapW_inv hg
    obtain ⟨i',h1,ents,clock,h2,h3⟩:=R.map r es _ _ (.inl hgm) hi
    rw [hi] at h1
    cases h1
    obtain ⟨es0,hp1,hp2,hp3⟩:=h3.order
    obtain ⟨es2,hq1,hq2,hq3⟩:=set_perm hp1 hp2 hes
    have hchk:(Instr.checkKey false 10000 kt k').run P W=.ok () W:=run_checkKey hkd (isKey_IsKey hik.1) false 9999
    have fin:∀ o,(∃ ents2 clock2,o=.map ents2 clock2∧EntsOK ι W0.heap.size es' ents2 clock2)→
      (Instr.mapUpdate t (.map (some i.c)) k' x').run P W=.ok () { W with heap:=W.heap.setIfInBounds i.c o }→ActOK P ι W0 W (do Instr.mapUpdate t (.map (some i.c)) k' x';pure Next.skip) (.tuple #[]) (σ.put r (.map es')):=by
     intro o ho hrun
     exact actOK_u ι.le_refl (R.setObj hi ⟨_,hgm,nofun⟩ nofun (fun es2 h=>by cases h;exact ho) nofun) hrun rfl
    have hset:∀ o,(setObj i.c o).run P W=.ok () { W with heap:=W.heap.setIfInBounds i.c o }:=fun o=>Go.MapKept.run_setObj_map o h2
    rcases set_sound hx es0 ents.toList 0 es2 hp3 hq1 with ⟨hf,rfl⟩|⟨j,e,y,hf,hj,hsame,hmr⟩
    ·refine fin (.map (ents.push { key:=k',val:=x',born:=clock }) (clock+1)) ⟨_,_,rfl,h3.born.push rfl,_,hq2,hq3,?_⟩ ?_
     ·rw [Array.toList_push]
      exact hp3.snoc rfl hx
     ·unfold Instr.mapUpdate
      rw [Sem.run_bind,run_und hd]
      simp only [Result.andThen]
      rw [Sem.run_bind,Go.MapKept.run_getObj_map h2]
      simp only [Result.andThen]
      rw [Sem.run_bind,hchk]
      simp only [Result.andThen]
      rw [Sem.run_bind,run_findKey hkd hf]
      exact hset _
    ·refine fin (.map (ents.modify j fun e=>{ e with key:=k',val:=x' }) clock) ⟨_,_,rfl,h3.born.modify fun _=>rfl,_,hq2,hq3,by rw [Array.toList_modify];exact hmr⟩ ?_
     unfold Instr.mapUpdate
     rw [Sem.run_bind,run_und hd]
     simp only [Result.andThen]
     rw [Sem.run_bind,Go.MapKept.run_getObj_map h2]
     simp only [Result.andThen]
     rw [Sem.run_bind,hchk]
     simp only [Result.andThen]
     rw [Sem.run_bind,run_findKey hkd hf]
     simp only [Result.andThen,Nat.zero_add]
     have hej:ents[j]?=some e:=by simpa using hj
     have hkey:(((ents[j]?).map (·.key)).getD k')=e.key:=by rw [hej];try rfl
     rw [hkey,Sem.run_bind]
     have hks:(Instr.keyThatStays e.key k').run P W=.ok k' W:=by
      unfold Instr.keyThatStays
      rw [if_pos (same_bits hsame)]
      try rfl
     rw [hks]
     exact hset _
   ·cases h
theorem del_sound {B:Nat} {d:TypeDesc} {k:Value}:∀ (es:List (Value × Value)) (ents:List MapEntry) (i:Nat) (es':List (Value × Value)),MR ι B es ents→mapDel d k es=some es'→
  (Instr.findNow d k ents i=some none∧es'=es)∨∃ j x,Instr.findNow d k ents i=some (some (i+j,x))∧j<ents.length∧MR ι B es' (ents.eraseIdx j)
 |[],ents,i,es',hm,h=>by
  have:ents=[]:=by have:=hm.1;simpa using this.symm
  subst this
  simp [mapDel] at h
  exact .inl ⟨rfl,by simp [h]⟩
 |(k',w)::es,ents,i,es',hm,h=>by
  obtain ⟨e,m,rfl,hk,hw,hm'⟩:=hm.cons_inv
  simp only [mapDel] at h
  simp only [Instr.findNow,hk]
  cases hs:Instr.sameNow d k k' with
  |none=>rw [hs] at h;cases h
  |some b=>
   rw [hs] at h
   cases b with
   |true=>
    simp at h
    subst h
    right
    exact ⟨0,e.val,rfl,by simp,by simpa using hm'⟩
   |false=>
    simp only at h ⊢
    cases hr:mapDel d k es with
    |none=>rw [hr] at h;cases h
    |some r'=>
     rw [hr] at h
     simp at h
     subst h
     rcases del_sound es m (i+1) r' hm' hr with ⟨h1,rfl⟩|⟨j,x,h1,h2,h4⟩
     ·exact .inl ⟨h1,rfl⟩
     ·right
      refine ⟨j+1,x,by rw [h1,show i+1+j=i+(j+1) by omega],by simpa using h2,?_⟩
      rw [List.eraseIdx_cons_succ]
      refine ⟨by have:=h4.1;simp only [List.length_cons];omega,fun q k0 v0 e0 a b=>?_⟩
      cases q with
      |zero=>simp at a b;obtain ⟨rfl,rfl⟩:=a;subst b;exact ⟨hk,hw⟩
      |succ q=>simp at a b;exact h4.2 q k0 v0 e0 a b
theorem Born.erase {ents:Array MapEntry} {clock j:Nat} (h:Born ents.toList clock):Born (ents.eraseIdxIfInBounds j).toList clock:=by
 have e:(ents.eraseIdxIfInBounds j).toList=ents.toList.eraseIdx j:=by simp
 unfold Born at h ⊢
 rw [e]
 have s:((ents.toList.eraseIdx j).map (·.born)).Sublist (ents.toList.map (·.born)):=(List.eraseIdx_sublist _ _).map _
 exact ⟨fun b hb=>h.1 b (s.subset hb),s.nodup h.2⟩
theorem delete_sound {ts:Array TypeId} {ty t:TypeId} {m m' k k' v:Value} {cs:Array Bool} (R:Rel ι W0 σ W) (ht:ts[0]?=some t) (hm:VR ι W0.heap.size m m') (hk:VR ι W0.heap.size k k') (h:deleteAct P t m k σ=some (v,σ')):
  ActOK P ι W0 W (builtin .delete ts ty cs #[m',k']) v σ':=by
 unfold deleteAct at h
 split at h
 ·rename_i kt et hd
  split at h
  ·rename_i r
   split at h
   ·rename_i kd hkd
    cases hik:isKey kd k with
    |false=>rw [hik] at h;cases h
    |true=>
    rw [hik] at h
    simp only [cond_true] at h
    obtain rfl:=isKey_eq hik hk
    have hchk:∀ em,(Instr.checkKey em 10000 kt k').run P W=.ok () W:=fun em=>run_checkKey hkd (isKey_IsKey hik) em 9999
    split at h
    ·rename_i r
     split at h
     ·rename_i es hg
      split at h
      ·rename_i es' hes
       simp only [Option.some.injEq,Prod.mk.injEq] at h
       obtain ⟨rfl,rfl⟩:=h
       obtain ⟨i,rfl,hi⟩:=hm.map_inv
       have hgm:=getMapW_inv hg
       obtain ⟨i',h1,ents,clock,h2,h3⟩:=R.map r es _ _ (.inl hgm) hi
       rw [hi] at h1
       cases h1
       obtain ⟨es0,hp1,hp2,hp3⟩:=h3.order
       obtain ⟨es2,hq1,hq2,hq3⟩:=del_perm hp1 hp2 hes
       have fin:∀ o,(∃ ents2 clock2,o=.map ents2 clock2∧EntsOK ι W0.heap.size es' ents2 clock2)→
         (Builtin.delete_ ts ty #[.map (some i.c),k']).run P W=.ok (.tuple #[]) { W with heap:=W.heap.setIfInBounds i.c o }→ActOK P ι W0 W (builtin .delete ts ty cs #[.map (some i.c),k']) (.tuple #[]) (σ.put r (.map es')):=by
        intro o ho hrun
        exact ⟨ι,_,_,_,ι.le_refl,R.setObj hi ⟨_,hgm,nofun⟩ nofun (fun es2 h=>by cases h;exact ho) nofun,run_v (s:=Builtin.delete_ ts ty #[.map (some i.c),k']) hrun,rfl,VRL.nil.tuple⟩
       have hset:∀ o,(setObj i.c o).run P W=.ok () { W with heap:=W.heap.setIfInBounds i.c o }:=fun o=>Go.MapKept.run_setObj_map o h2
       have pre:∀ o,(∀ x,Instr.findNow kd k' ents.toList 0=some x→(match x with|some (j,_)=>ents.eraseIdxIfInBounds j|none=>ents)=o→(Builtin.delete_ ts ty #[.map (some i.c),k']).run P W=.ok (.tuple #[]) { W with heap:=W.heap.setIfInBounds i.c (.map o clock) }):=by
        intro o x hf ho
        unfold Builtin.delete_
        simp only [ht,List.getElem?_toArray,List.getElem?_cons_zero,List.getElem?_cons_succ]
        rw [Sem.run_bind,run_und hd]
        simp only [Result.andThen]
        rw [Sem.run_bind,Go.MapKept.run_getObj_map h2]
        simp only [Result.andThen]
        rw [Sem.run_bind,hchk]
        simp only [Result.andThen]
        rw [Sem.run_bind,run_findKey hkd hf]
        subst ho
        cases x with
        |none=>
         simp only [Result.andThen]
         rw [Sem.run_bind,hset]
         try rfl
        |some y=>
         simp only [Result.andThen]
         rw [Sem.run_bind,hset]
         try rfl
       rcases del_sound es0 ents.toList 0 es2 hp3 hq1 with ⟨hf,rfl⟩|⟨j,y,hf,hj,hmr⟩
       ·exact fin (.map ents clock) ⟨_,_,rfl,h3.born,_,hq2,hq3,hp3⟩ (pre _ _ hf rfl)
       ·refine fin (.map (ents.eraseIdxIfInBounds j) clock) ⟨_,_,rfl,h3.born.erase,_,hq2,hq3,by simpa using hmr⟩ (pre _ _ hf ?_)
        simp
      ·cases h
     ·cases h
    ·simp only [Option.some.injEq,Prod.mk.injEq] at h
     obtain ⟨rfl,rfl⟩:=h
     cases hm
     refine ⟨ι,W,.value (.tuple #[]),.tuple #[],ι.le_refl,R,run_v (s:=Builtin.delete_ ts ty #[.map none,k']) ?_,rfl,VRL.nil.tuple⟩
     unfold Builtin.delete_
     simp only [ht,List.getElem?_toArray,List.getElem?_cons_zero,List.getElem?_cons_succ]
     rw [Sem.run_bind,run_und hd]
     simp only [Result.andThen]
     rw [Sem.run_bind,hchk]
     try rfl
   ·cases h
  ·cases h
 ·cases h
theorem lenMap_sound {r:Option Nat} {m' v:Value} {t a b:TypeId} {ts:Array TypeId} {ty:TypeId} {cs:Array Bool} (R:Rel ι W0 σ W) (hm:VR ι W0.heap.size (.map r) m') (ht:ts[0]?=some t) (hd:P.underlying t=some (.map a b)) (h:lenMapAct r σ=some (v,σ')):
  σ'=σ∧∃ n,v=.int .i64 n∧(builtin .len ts ty cs #[m']).run P W=.ok (.value (.int .i64 n)) W:=by
 unfold lenMapAct at h
 split at h
 ·simp only [Option.some.injEq,Prod.mk.injEq] at h
  obtain ⟨rfl,rfl⟩:=h
  cases hm
  refine ⟨rfl,_,rfl,?_⟩
  refine run_v (s:=Builtin.len_ ts ty #[.map none]) ?_
  unfold Builtin.len_
  simp only [ht,List.getElem?_toArray,List.getElem?_cons_zero]
  rw [Sem.run_bind,run_und hd]
  try rfl
 ·rename_i r
  split at h
  ·rename_i es hg
   simp only [Option.some.injEq,Prod.mk.injEq] at h
   obtain ⟨rfl,rfl⟩:=h
   obtain ⟨i,rfl,hi⟩:=hm.map_inv
   obtain ⟨i',h1,ents,clock,h2,hE⟩:=R.map r es _ _ (getMap_inv hg) hi
   have h3:=hE.size
   rw [hi] at h1
   cases h1
   refine ⟨rfl,_,rfl,?_⟩
   refine run_v (s:=Builtin.len_ ts ty #[.map (some i.c)]) ?_
   unfold Builtin.len_
   simp only [ht,List.getElem?_toArray,List.getElem?_cons_zero]
   rw [Sem.run_bind,run_und hd]
   simp only [Result.andThen]
   rw [Sem.run_bind,Go.MapKept.run_getObj_map h2]
   simp only [Result.andThen,h3]
   try rfl
  ·cases h
theorem next_sound {it it' v:Value} {s:Bool} {ty:TypeId} (R:Rel ι W0 σ W) (hx:VR ι W0.heap.size it it') (h:nextAct it s σ=some (v,σ')):ActOK P ι W0 W (do pure (Next.value (←Instr.next it' s ty))) v σ':=by
 unfold nextAct at h
 split at h
 ·rename_i r
  cases s with
  |false=>cases h
  |true=>
  simp only [cond_true] at h
  split at h
  ·rename_i str pos hg
   obtain ⟨a',rfl,ha⟩:=hx.ptr_inv
   cases ha with
   |old _ q=>cases q
   | @new _ _ _ i q1 q2=>
   obtain ⟨i',h1,h0,h2⟩:=R.iter r str pos _ _ hg q1
   rw [show (0:Nat) / 64=0 from rfl,h1] at q1
   cases q1
   have hgo:(getObj i.c).run P W=.ok (.stringIter str pos) W:=by simp [getObj,Sem.run,h2]
   have hset:∀ o,(setObj i.c o).run P W=.ok () { W with heap:=W.heap.setIfInBounds i.c o }:=fun o=>by simp [setObj,Sem.run,h2]
   cases hp:Nat.blt pos str.size with
   |true=>
    rw [hp] at h
    simp only [cond_true,Option.some.injEq,Prod.mk.injEq] at h
    obtain ⟨rfl,rfl⟩:=h
    have hlt:pos<str.size:=by simp only [Nat.blt,Nat.ble_eq] at hp;exact hp
    have R':=R.setObj (o:=.stringIter str (pos+(Utf8.decode str pos).2)) (ao:=.iter str (pos+(Utf8.decode str pos).2)) h1 ⟨_,hg,nofun⟩ nofun nofun (fun s p h=>by cases h;exact ⟨rfl,h0⟩)
    refine actOK_v ι.le_refl R' (v':=.tuple #[.bool true,goInt pos,.int .i32 (Utf8.decode str pos).1]) ?_ (VRL.cons (.bool true) (VRL.cons (.int .i64 pos) (VRL.cons (.int .i32 (Utf8.decode str pos).1) .nil))).tuple
    unfold Instr.next
    simp only [h0]
    rw [Sem.run_bind,hgo]
    simp only [Result.andThen]
    rw [if_pos hlt,Sem.run_bind,hset]
    try rfl
   |false=>
    rw [hp] at h
    simp only [cond_false,Option.some.injEq,Prod.mk.injEq] at h
    obtain ⟨rfl,rfl⟩:=h
    have hge:¬ pos<str.size:=by
     intro hlt
     have:Nat.blt pos str.size=true:=by simp only [Nat.blt,Nat.ble_eq];exact hlt
     rw [hp] at this;cases this
    refine actOK_v ι.le_refl R (v':=.tuple #[.bool false]) ?_ (VRL.cons (.bool false) .nil).tuple
    unfold Instr.next
    simp only [h0]
    rw [Sem.run_bind,hgo]
    simp only [Result.andThen]
    rw [if_neg hge]
    try rfl
  ·cases h
 ·cases h
end
end Go.Pg
namespace Go.Pg
section
variable {P:Program} {ι:Inj} {W0 W:World} {σ σ':AHeap}
theorem actOK_same {s:Sem Value} {v:Value} (R:Rel ι W0 σ W) (h:∃ v',VR ι W0.heap.size v v'∧s.run P W=.ok v' W):ActOK P ι W0 W (do pure (Next.value (←s))) v σ:=by
 obtain ⟨v',h1,h2⟩:=h
 exact actOK_v ι.le_refl R h2 h1
theorem map_ev {fr:List Value} {a:Go.Act} (hG:P.globals.size≤W0.heap.size) (r:FR ι W0.heap.size fr a.tmps) (x:Option Operand) (d n:Int) (h:intOr d (x.map (ev P fr))=some n):x.map a.eval=x.map (ev P fr):=by
 cases x with
 |none=>rfl
 |some x=>
  simp only [Option.map_some] at h ⊢
  rcases intOr_some h with ⟨h1,_⟩|⟨k,h1⟩
  ·cases h1
  ·have:=ev_sound hG r x
   simp only [Option.some.injEq] at h1
   rw [h1] at this
   rw [this.int_inv,h1]
theorem actOK_congr {s1 s2:Sem Value} {v:Value} (h:ActOK P ι W0 W (do pure (Next.value (←s1))) v σ') (e:s2.run P W=s1.run P W):ActOK P ι W0 W (do pure (Next.value (←s2))) v σ':=by
 obtain ⟨κ,W',nx,v',g1,g2,g3,g4,g5⟩:=h
 refine ⟨κ,W',nx,v',g1,g2,?_,g4,g5⟩
 rw [Sem.run_bind] at g3 ⊢
 rw [e]
 exact g3
theorem op_value {o:Oper} {fr:List Value} {a:Go.Act} {v:Value} (hG:P.globals.size≤W0.heap.size) (r:FR ι W0.heap.size fr a.tmps) (h:opSem P o fr=.tot v∨opSem P o fr=.pure true v):
  Gives P ι W0.heap.size W (execOp a.eval o) v:=by
 have E:=fun x=>ev_sound (P:=P) (ι:=ι) (W0:=W0) hG r x
 unfold opSem at h
 unfold execOp
 cases hop:o.op with
 |move x=>rw [hop] at h;simp at h;subst h;exact ⟨_,E x,rfl⟩
 |assign x=>rw [hop] at h;simp at h;subst h;exact ⟨_,E x,rfl⟩
 |pick c x y=>
  rw [hop] at h
  simp only at h
  split at h
  ·rename_i t ht
   simp at h
   subst h
   have hc:=E c
   rw [ht] at hc
   refine ⟨if t then a.eval x else a.eval y,?_,?_⟩
   ·cases t with
    |true=>exact E x
    |false=>exact E y
   ·simp only [hc.bool_inv]
    try rfl
  ·simp at h
 |nilCheck x=>
  rw [hop] at h
  simp only at h
  have hx:=E x
  split at h
  ·rename_i p hp
   simp at h
   subst h
   rw [hp] at hx
   obtain ⟨p',e,hp'⟩:=hx.ptr_inv
   exact ⟨_,.ptr hp',by simp only [e];rfl⟩
  ·rename_i f first captured hp
   simp at h
   subst h
   rw [hp] at hx
   obtain ⟨x',y',e,h1,h2⟩:=hx.func_inv
   refine ⟨_,hx,by simp only [e];rfl⟩
  ·simp at h
 |build t parts=>
  rw [hop] at h
  simp only at h
  split at h
  ·rename_i w hw
   simp at h
   subst h
   obtain ⟨h1,h2⟩:=parts_sound hG r parts.toList
   obtain ⟨v',h3,h4⟩:=buildV_sound (W:=W) hw h1 h2
   refine gives_v h3 ?_
   have:parts.map (fun p=>(p.1,a.eval p.2))=(parts.toList.map fun p=>(p.1,a.eval p.2)).toArray:=by rw [←Array.toList_map]
   rw [←this] at h4
   exact h4
  ·simp at h
 |binOp op t x y yt=>rw [hop] at h;exact binV_sound h (E x) (E y)
 |unOp op t x=>rw [hop] at h;exact unV_sound h (E x)
 |convert src dst x=>rw [hop] at h;exact convV_sound h (E x)
 |makeFunc fn first captured=>
  rw [hop] at h
  cases fn with
  |func f=>
   simp at h
   subst h
   refine ⟨.func (.func f) (first.map a.eval) (captured.map a.eval),?_,rfl⟩
   have h1:=args_sound (P:=P) hG r first.toList
   have h2:=args_sound (P:=P) hG r captured.toList
   refine .func _ (by simp) (by simp) (fun j v v' q1 q2=>h1.2 j v v' ?_ ?_) (fun j v v' q1 q2=>h2.2 j v v' ?_ ?_)
   ·rw [←Array.toList_map,Array.getElem?_toList];exact q1
   ·rw [←Array.toList_map,Array.getElem?_toList];exact q2
   ·rw [←Array.toList_map,Array.getElem?_toList];exact q1
   ·rw [←Array.toList_map,Array.getElem?_toList];exact q2
  |_=>simp at h
 |slice t x lo hi mx=>rw [hop] at h;exact sliceV_sound h (E x) (map_ev hG r lo) (map_ev hG r hi) (map_ev hG r mx)
 |fieldAddr s x f=>rw [hop] at h;exact fieldAddrV_sound h (E x)
 |field t x f=>rw [hop] at h;exact fieldV_sound h (E x)
 |indexAddr t x i=>rw [hop] at h;exact indexAddrV_sound h (E x) (E i)
 |index t x i=>rw [hop] at h;exact indexV_sound h (E x) (E i)
 |extract t i=>
  rw [hop] at h
  simp only at h
  split at h
  ·rename_i vs hvs
   have ht:=E t
   rw [hvs] at ht
   obtain ⟨vs',e,hr⟩:=ht.tuple_inv
   split at h
   ·rename_i w hw
    simp at h
    subst h
    obtain ⟨v',h1,h2⟩:=hr.get (j:=i) (by simpa using hw)
    refine gives_v h2 ?_
    simp only [e,Instr.extract]
    rw [show vs'[i]?=some v' by simpa using h1]
    try rfl
   ·simp at h
  ·simp at h
 |call c=>
  rw [hop] at h
  simp only at h
  cases hc:c.callee with
  |builtin b=>
   rw [hc] at h
   simp only at h
   have hargs:c.args.map a.eval=(c.args.toList.map a.eval).toArray:=by rw [←Array.toList_map]
   have key:∀ cs,Gives P ι W0.heap.size W (builtin b c.argTypes o.type cs (c.args.map a.eval)) v:=fun cs=>by
    rw [hargs]
    exact builtinV_sound h (args_sound (P:=P) hG r c.args.toList)
   simp only [resolve,hc,pure_bind,invoke]
   exact key _
  |value f=>
   rw [hc] at h
   simp only at h
   cases hnf:namedF f with
   |some g=>
    rw [hnf] at h
    simp only at h
    obtain rfl:f=.func g:=by cases f<;>simp [namedF] at hnf;rw [hnf]
    have hA:=args_sound (P:=P) hG r c.args.toList
    unfold callR at h
    split at h
    ·rename_i w hw
     simp at h
     subst h
     obtain ⟨v',q1,q2⟩:=natV_sound (W:=W) (args':=c.args.map a.eval) hw (by rw [Array.toList_map];exact hA)
     refine ⟨v',q1,?_⟩
     have e: #[]++c.args.map a.eval++ #[]=c.args.map a.eval:=by simp
     simp only [resolve,hc,Go.Act.eval,Deferred.ofValue,pure_bind,invoke,e]
     exact q2
    ·simp at h
   |none=>
    rw [hnf] at h
    simp only [callV] at h
    split at h<;>simp at h
  |invoke recv m=>rw [hc] at h;simp at h
 |load t x=>rw [hop] at h;simp only at h;split at h<;>simp at h
 |store t x y=>rw [hop] at h;simp only at h;split at h<;>simp at h
 |makeMap t x=>
  rw [hop] at h
  cases x with
  |none=>simp at h
  |some x=>simp only at h;split at h<;>simp at h
 |_=>rw [hop] at h;simp at h
theorem intBin_noact (op:BinOp) (k:IntKind) (a b:Int) (h:Act):intBin op k a b≠ .act h:=by cases op<;>simp [intBin]
theorem strBin_noact (op:BinOp) (a b:ByteArray) (h:Act):strBin op a b≠ .act h:=by cases op<;>simp [strBin]
theorem binV_noact (op:BinOp) (t:TypeId) (x y:Value) (h:Act):binV P op t x y≠ .act h:=by
 unfold binV
 split
 ·rename_i k a k' b
  split
  ·simp
  ·simp
  ·cases decide (k=k') with
   |true=>exact intBin_noact _ _ _ _ _
   |false=>simp
 ·exact strBin_noact _ _ _ _
 ·split
  ·split<;>simp
  ·split<;>simp
  ·simp
theorem unV_noact (op:UnOp) (x:Value) (h:Act):unV op x≠ .act h:=by
 unfold unV
 split<;>simp
theorem cond_noact {c:Bool} {x y:OpRes} {h:Act} (hx:x≠ .act h) (hy:y≠ .act h):(bif c then x else y)≠ .act h:=by cases c<;>simpa
theorem sliceV_noact (t:TypeId) (x:Value) (lo hi mx:Option Value) (h:Act):sliceV P t x lo hi mx≠ .act h:=by
 unfold sliceV
 split
 ·split<;>simp
 ·split
  ·exact cond_noact (by simp) (by simp)
  ·simp
 ·split
  ·exact cond_noact (by simp) (by simp)
  ·simp
 ·simp
theorem fieldAddrV_noact (t:TypeId) (x:Value) (f:Nat) (h:Act):fieldAddrV P t x f≠ .act h:=by
 unfold fieldAddrV
 split
 ·split
  ·exact cond_noact (by simp) (by simp)
  ·simp
 ·simp
theorem fieldV_noact (t:TypeId) (x:Value) (f:Nat) (h:Act):fieldV P t x f≠ .act h:=by
 unfold fieldV
 split
 ·split
  ·refine cond_noact ?_ (by simp)
   split<;>simp
  ·simp
 ·simp
theorem indexAddrV_noact (t:TypeId) (x i:Value) (h:Act):indexAddrV P t x i≠ .act h:=by
 unfold indexAddrV
 split
 ·exact cond_noact (by simp) (by simp)
 ·exact cond_noact (by simp) (by simp)
 ·simp
theorem indexV_noact (t:TypeId) (x i:Value) (h:Act):indexV P t x i≠ .act h:=by
 unfold indexV
 split<;>simp
theorem fold_noact (f:Int→Int→Int) (k:IntKind):∀ (l:List Value) (a:Int) (h:Act),foldInt f k a l≠ .act h
 |[],a,h=>by simp [foldInt]
 |x::l,a,h=>by
  cases x with
  |int k' b=>simp only [foldInt];exact fold_noact f k l _ h
  |_=>simp [foldInt]
theorem builtin_act {b:Builtin} {ts:Array TypeId} {ty:TypeId} {xs xs':List Value} {v:Value} {h:Act} (R:Rel ι W0 σ W) (hA:VRL ι W0.heap.size xs xs') (ho:builtinV P b ts xs=.act h) (hh:h σ=some (v,σ')) (cs:Array Bool):
  ActOK P ι W0 W (builtin b ts ty cs xs'.toArray) v σ':=by
 unfold builtinV at ho
 split at ho
 ·rename_i x
  obtain ⟨x',m,rfl,hx,hm⟩:=hA.cons_inv
  cases hm.nil_inv
  cases ht:ts[0]? with
  |none=>rw [ht] at ho;simp at ho
  |some t=>
   rw [ht] at ho
   simp only [Option.bind_some] at ho
   cases hd:P.underlying t with
   |none=>rw [hd] at ho;simp at ho
   |some d=>
    rw [hd] at ho
    simp only at ho
    unfold lenOp at ho
    split at ho<;>simp at ho
    subst ho
    obtain ⟨rfl,n,rfl,hrun⟩:=lenMap_sound (P:=P) (ty:=ty) (cs:=cs) R hx ht hd hh
    exact ⟨ι,W,_,_,ι.le_refl,R,hrun,rfl,.int _ _⟩
 ·rename_i s x
  obtain ⟨s',m,rfl,hs,hm⟩:=hA.cons_inv
  obtain ⟨x',m,rfl,hx,hm⟩:=hm.cons_inv
  cases hm.nil_inv
  cases ht:ts[0]? with
  |none=>rw [ht] at ho;simp at ho
  |some t=>
   rw [ht] at ho
   simp at ho
   subst ho
   exact append_sound R ht hs hx hh
 ·rename_i s x
  obtain ⟨s',m,rfl,hs,hm⟩:=hA.cons_inv
  obtain ⟨x',m,rfl,hx,hm⟩:=hm.cons_inv
  cases hm.nil_inv
  cases ht:ts[0]? with
  |none=>rw [ht] at ho;simp at ho
  |some t=>
   rw [ht] at ho
   simp at ho
   subst ho
   exact copy_sound R ht hs hx hh
 ·rename_i x
  obtain ⟨x',m,rfl,hx,hm⟩:=hA.cons_inv
  cases hm.nil_inv
  cases ht:ts[0]? with
  |none=>rw [ht] at ho;simp at ho
  |some t=>
   rw [ht] at ho
   simp at ho
   subst ho
   exact clear_sound R ht hx hh
 ·rename_i s x
  obtain ⟨s',m,rfl,hs,hm⟩:=hA.cons_inv
  obtain ⟨x',m,rfl,hx,hm⟩:=hm.cons_inv
  cases hm.nil_inv
  cases ht:ts[0]? with
  |none=>rw [ht] at ho;simp at ho
  |some t=>
   rw [ht] at ho
   simp at ho
   subst ho
   exact delete_sound R ht hs hx hh
 ·rename_i k a r
  exact absurd ho (fold_noact _ _ _ _ _)
 ·rename_i k a r
  exact absurd ho (fold_noact _ _ _ _ _)
 ·simp at ho
theorem op_act {o:Oper} {fr:List Value} {a:Go.Act} {v:Value} {h:Act} (hG:P.globals.size≤W0.heap.size) (R:Rel ι W0 σ W) (r:FR ι W0.heap.size fr a.tmps) (ho:opSem P o fr=.act h) (hh:h σ=some (v,σ')):
  ActOK P ι W0 W (execOp a.eval o) v σ':=by
 have E:=fun x=>ev_sound (P:=P) (ι:=ι) (W0:=W0) hG r x
 unfold opSem at ho
 unfold execOp
 cases hop:o.op with
 |alloc t=>rw [hop] at ho;simp at ho;subst ho;exact alloc_sound R hh
 |box t x=>rw [hop] at ho;simp at ho;subst ho;exact box_sound t R (E x) hh
 |buildSlice t len parts=>
  rw [hop] at ho;simp at ho;subst ho
  obtain ⟨h1,h2⟩:=parts_sound (P:=P) hG r parts.toList
  have:=buildSlice_sound (t:=t) (len:=len) R h1 h2 (by simpa using hh)
  have e:parts.map (fun p=>(p.1,a.eval p.2))=(parts.toList.map fun p=>(p.1,a.eval p.2)).toArray:=by rw [←Array.toList_map]
  rw [←e] at this
  exact this
 |load t x=>
  rw [hop] at ho
  simp only at ho
  split at ho
  ·rename_i p hp
   simp at ho;subst ho
   have hx:=E x
   rw [hp] at hx
   obtain ⟨p',e,hp'⟩:=hx.ptr_inv
   obtain ⟨rfl,v',h1,h2⟩:=ld_sound (P:=P) R hp' hh
   refine actOK_same R ⟨v',h1,?_⟩
   simp only [e,Instr.loadAt,Instr.sureAddr,pure_bind]
   exact h2
  ·simp at ho
 |store t x y=>
  rw [hop] at ho
  simp only at ho
  split at ho
  ·rename_i p hp
   simp at ho;subst ho
   have hx:=E x
   rw [hp] at hx
   obtain ⟨p',e,hp'⟩:=hx.ptr_inv
   obtain ⟨rfl,W',R',h2⟩:=st_sound (P:=P) R hp' (E y) hh
   refine actOK_u ι.le_refl R' ?_ rfl
   simp only [e,Instr.storeAt,Instr.sureAddr,pure_bind]
   exact h2
  ·simp at ho
 |convert src dst x=>
  rw [hop] at ho
  have hx:=E x
  simp only at ho
  unfold convV at ho
  split at ho
  ·simp at ho
  ·simp at ho
  ·simp at ho
  ·have hs:= ‹P.underlying src=some _›
   have hd:= ‹P.underlying dst=some _›
   split at ho
   ·rename_i he
    simp at ho;subst ho
    rename_i e s q1 q2 q3 q4 _
    rw [q4] at hx
    have hx':=hx.string_inv
    simp only [hx']
    refine actOK_congr (stringToBytes_sound (P:=P) (e:=s) R hh) ?_
    unfold convert
    rw [Sem.run_bind,run_und hs]
    simp only [Result.andThen]
    rw [Sem.run_bind,run_und hd]
    simp only [Result.andThen]
    rw [Sem.run_bind,run_und he]
    try rfl
   ·simp at ho
  ·have hs:= ‹P.underlying src=some _›
   have hd:= ‹P.underlying dst=some _›
   split at ho
   ·rename_i he
    simp at ho;subst ho
    have hsh:∃ p n c,ev P fr x=.slice p n c:=by
     unfold bytesToStringAct at hh
     split at hh
     ·exact ⟨_,_,_,by assumption⟩
     ·exact ⟨_,_,_,by assumption⟩
     ·cases hh
    obtain ⟨rfl,s,rfl,hrun⟩:=bytesToString_sound (P:=P) R hx hh
    obtain ⟨p,n,c,hsh⟩:=hsh
    rw [hsh] at hx
    obtain ⟨p',c',hx',_,_⟩:=hx.slice_inv
    rw [hx'] at hrun
    simp only [hx']
    refine actOK_v ι.le_refl R ?_ (.string s)
    unfold convert
    rw [Sem.run_bind,run_und hs]
    simp only [Result.andThen]
    rw [Sem.run_bind,run_und hd]
    simp only [Result.andThen]
    rw [Sem.run_bind,run_und he]
    exact hrun
   ·simp at ho
  ·simp at ho
 |makeSlice t l c=>rw [hop] at ho;simp at ho;subst ho;exact makeSlice_sound R (E l) (E c) hh
 |makeMap t x=>
  rw [hop] at ho
  cases x with
  |none=>simp at ho;subst ho;exact makeMap_sound R (fun x h=>by cases h) hh
  |some x=>
   simp only at ho
   split at ho
   ·rename_i q1 q2 q3 q4 q5 q6
    simp at ho;subst ho
    have hx:=E x
    rw [show ev P fr x=_ from by assumption] at hx
    refine makeMap_sound R (fun y h=>?_) hh
    simp only [Option.map_some,Option.some.injEq] at h
    subst h
    exact ⟨⟨_,_,hx.int_inv⟩,_,_,by assumption⟩
   ·simp at ho
 |lookup t m k ok=>
  rw [hop] at ho;simp at ho;subst ho
  obtain ⟨rfl,h1⟩:=lookup_sound (P:=P) R (E m) (E k) hh
  exact actOK_same R h1
 |mapUpdate t m k x=>rw [hop] at ho;simp at ho;subst ho;exact update_sound R (E m) (E k) (E x) hh
 |range t x=>rw [hop] at ho;simp at ho;subst ho;exact range_sound R (E x) hh
 |next it s=>rw [hop] at ho;simp at ho;subst ho;exact next_sound R (E it) hh
 |call c=>
  rw [hop] at ho
  simp only at ho
  cases hc:c.callee with
  |builtin b=>
   rw [hc] at ho
   simp only at ho
   have hA:=args_sound (P:=P) hG r c.args.toList
   simp only [resolve,hc,pure_bind,invoke]
   have hargs:c.args.map a.eval=(c.args.toList.map a.eval).toArray:=by rw [←Array.toList_map]
   rw [hargs]
   generalize c.args.toList.map (ev P fr)=xs at hA ho
   generalize c.args.toList.map a.eval=xs' at hA
   exact builtin_act R hA ho hh _
  |value f=>
   rw [hc] at ho
   simp only at ho
   cases hnf:namedF f with
   |some g=>
    rw [hnf] at ho
    simp only [callR] at ho
    split at ho<;>simp at ho
   |none=>
    rw [hnf] at ho
    simp only [callV] at ho
    split at ho<;>simp at ho
  |invoke recv m=>rw [hc] at ho;simp at ho
 |move x=>rw [hop] at ho;simp at ho
 |assign x=>rw [hop] at ho;simp at ho
 |pick x y z=>rw [hop] at ho;simp only at ho;split at ho<;>simp at ho
 |build t p=>rw [hop] at ho;simp only at ho;split at ho<;>simp at ho
 |nilCheck x=>rw [hop] at ho;simp only at ho;split at ho<;>simp at ho
 |binOp op t x y yt=>rw [hop] at ho;exact absurd ho (binV_noact _ _ _ _ _)
 |unOp op t x=>rw [hop] at ho;exact absurd ho (unV_noact _ _ _)
 |slice t x lo hi mx=>rw [hop] at ho;exact absurd ho (sliceV_noact _ _ _ _ _ _)
 |fieldAddr s x f=>rw [hop] at ho;exact absurd ho (fieldAddrV_noact _ _ _ _)
 |field t x f=>rw [hop] at ho;exact absurd ho (fieldV_noact _ _ _ _)
 |indexAddr t x i=>rw [hop] at ho;exact absurd ho (indexAddrV_noact _ _ _ _)
 |index t x i=>rw [hop] at ho;exact absurd ho (indexV_noact _ _ _ _)
 |makeFunc fn first captured=>rw [hop] at ho;cases fn<;>simp at ho
 |extract t i=>
  rw [hop] at ho
  simp only at ho
  split at ho
  ·split at ho<;>simp at ho
  ·simp at ho
 |_=>rw [hop] at ho;simp at ho
theorem intBin_nocall (op:BinOp) (k:IntKind) (a b:Int) (g:FuncId) (as:List Value):intBin op k a b≠ .call g as:=by cases op<;>simp [intBin]
theorem strBin_nocall (op:BinOp) (a b:ByteArray) (g:FuncId) (as:List Value):strBin op a b≠ .call g as:=by cases op<;>simp [strBin]
theorem binV_nocall (op:BinOp) (t:TypeId) (x y:Value) (g:FuncId) (as:List Value):binV P op t x y≠ .call g as:=by
 unfold binV
 split
 ·rename_i k a k' b
  split
  ·simp
  ·simp
  ·cases decide (k=k') with
   |true=>exact intBin_nocall _ _ _ _ _ _
   |false=>simp
 ·exact strBin_nocall _ _ _ _ _
 ·split
  ·split<;>simp
  ·split<;>simp
  ·simp
theorem unV_nocall (op:UnOp) (x:Value) (g:FuncId) (as:List Value):unV op x≠ .call g as:=by
 unfold unV
 split<;>simp
theorem cond_nocall {c:Bool} {x y:OpRes} {g:FuncId} {as:List Value} (hx:x≠ .call g as) (hy:y≠ .call g as):(bif c then x else y)≠ .call g as:=by cases c<;>simpa
theorem sliceV_nocall (t:TypeId) (x:Value) (lo hi mx:Option Value) (g:FuncId) (as:List Value):sliceV P t x lo hi mx≠ .call g as:=by
 unfold sliceV
 split
 ·split<;>simp
 ·split
  ·exact cond_nocall (by simp) (by simp)
  ·simp
 ·split
  ·exact cond_nocall (by simp) (by simp)
  ·simp
 ·simp
theorem fieldAddrV_nocall (t:TypeId) (x:Value) (f:Nat) (g:FuncId) (as:List Value):fieldAddrV P t x f≠ .call g as:=by
 unfold fieldAddrV
 split
 ·split
  ·exact cond_nocall (by simp) (by simp)
  ·simp
 ·simp
theorem fieldV_nocall (t:TypeId) (x:Value) (f:Nat) (g:FuncId) (as:List Value):fieldV P t x f≠ .call g as:=by
 unfold fieldV
 split
 ·split
  ·refine cond_nocall ?_ (by simp)
   split<;>simp
  ·simp
 ·simp
theorem indexAddrV_nocall (t:TypeId) (x i:Value) (g:FuncId) (as:List Value):indexAddrV P t x i≠ .call g as:=by
 unfold indexAddrV
 split
 ·exact cond_nocall (by simp) (by simp)
 ·exact cond_nocall (by simp) (by simp)
 ·simp
theorem indexV_nocall (t:TypeId) (x i:Value) (g:FuncId) (as:List Value):indexV P t x i≠ .call g as:=by
 unfold indexV
 split<;>simp
theorem fold_nocall (f:Int→Int→Int) (k:IntKind):∀ (l:List Value) (a:Int) (g:FuncId) (as:List Value),foldInt f k a l≠ .call g as
 |[],a,g,as=>by simp [foldInt]
 |x::l,a,g,as=>by
  cases x with
  |int k' b=>simp only [foldInt];exact fold_nocall f k l _ g as
  |_=>simp [foldInt]
theorem convV_nocall (src dst:TypeId) (x:Value) (g:FuncId) (as:List Value):convV P src dst x≠ .call g as:=by
 unfold convV
 split
 ·simp
 ·simp
 ·simp
 ·split<;>simp
 ·split<;>simp
 ·simp
theorem builtinV_nocall (b:Builtin) (ts:Array TypeId) (xs:List Value) (g:FuncId) (as:List Value):builtinV P b ts xs≠ .call g as:=by
 unfold builtinV
 split
 ·split
  ·unfold lenOp;split<;>simp
  ·simp
 ·split<;>simp
 ·split<;>simp
 ·split<;>simp
 ·split<;>simp
 ·exact fold_nocall _ _ _ _ _ _
 ·exact fold_nocall _ _ _ _ _ _
 ·simp
theorem op_call {o:Oper} {fr:List Value} {a:Go.Act} {f:FuncId} {args:List Value} (hG:P.globals.size≤W0.heap.size) (r:FR ι W0.heap.size fr a.tmps) (ho:opSem P o fr=.call f args):
  ∃ args':Array Value,VRL ι W0.heap.size args args'.toList∧(execOp a.eval o).run P W=(callFunc f args').run P W:=by
 have E:=fun x=>ev_sound (P:=P) (ι:=ι) (W0:=W0) hG r x
 have key:∀ c,o.op=.call c→∃ args':Array Value,VRL ι W0.heap.size args args'.toList∧(execOp a.eval o).run P W=(callFunc f args').run P W:=by
  intro c hop
  unfold opSem at ho
  rw [hop] at ho
  simp only at ho
  cases hc:c.callee with
  |builtin b=>rw [hc] at ho;exact absurd ho (builtinV_nocall _ _ _ _ _)
  |value fv=>
   rw [hc] at ho
   simp only at ho
   cases hnf:namedF fv with
   |some g=>
    rw [hnf] at ho
    simp only [callR] at ho
    split at ho
    ·simp at ho
    ·simp at ho
     obtain ⟨rfl,rfl⟩:=ho
     obtain rfl:fv=.func g:=by cases fv<;>simp [namedF] at hnf;rw [hnf]
     have hA:=args_sound (P:=P) hG r c.args.toList
     refine ⟨c.args.map a.eval,by rw [Array.toList_map];exact hA,?_⟩
     unfold execOp
     rw [hop]
     have e: #[]++c.args.map a.eval++ #[]=c.args.map a.eval:=by simp
     simp only [resolve,hc,Go.Act.eval,Deferred.ofValue,pure_bind,invoke,e]
   |none=>
    rw [hnf] at ho
    simp only [callV] at ho
    split at ho
    ·rename_i g first captured hf
     simp at ho
     obtain ⟨rfl,rfl⟩:=ho
     have hx:=E fv
     rw [hf] at hx
     obtain ⟨x',y',e,h1,h2⟩:=hx.func_inv
     have hA:=args_sound (P:=P) hG r c.args.toList
     refine ⟨x'++c.args.map a.eval++y',?_,?_⟩
     ·simp only [Array.toList_append,Array.toList_map]
      rw [List.append_assoc]
      exact h1.append (hA.append h2)
     ·unfold execOp
      rw [hop]
      simp only [resolve,hc,e,Deferred.ofValue,pure_bind,invoke]
    ·simp at ho
  |invoke recv m=>rw [hc] at ho;simp at ho
 cases hop:o.op with
 |call c=>exact key c hop
 |load t x=>unfold opSem at ho;rw [hop] at ho;simp only at ho;split at ho<;>simp at ho
 |store t x y=>unfold opSem at ho;rw [hop] at ho;simp only at ho;split at ho<;>simp at ho
 |makeMap t x=>
  unfold opSem at ho;rw [hop] at ho
  cases x with
  |none=>simp at ho
  |some x=>simp only at ho;split at ho<;>simp at ho
 |pick x y z=>unfold opSem at ho;rw [hop] at ho;simp only at ho;split at ho<;>simp at ho
 |build t p=>unfold opSem at ho;rw [hop] at ho;simp only at ho;split at ho<;>simp at ho
 |nilCheck x=>unfold opSem at ho;rw [hop] at ho;simp only at ho;split at ho<;>simp at ho
 |binOp op t x y yt=>unfold opSem at ho;rw [hop] at ho;exact absurd ho (binV_nocall _ _ _ _ _ _)
 |unOp op t x=>unfold opSem at ho;rw [hop] at ho;exact absurd ho (unV_nocall _ _ _ _)
 |convert a b x=>unfold opSem at ho;rw [hop] at ho;exact absurd ho (convV_nocall _ _ _ _ _)
 |slice t x lo hi mx=>unfold opSem at ho;rw [hop] at ho;exact absurd ho (sliceV_nocall _ _ _ _ _ _ _)
 |fieldAddr s x f=>unfold opSem at ho;rw [hop] at ho;exact absurd ho (fieldAddrV_nocall _ _ _ _ _)
 |field t x f=>unfold opSem at ho;rw [hop] at ho;exact absurd ho (fieldV_nocall _ _ _ _ _)
 |indexAddr t x i=>unfold opSem at ho;rw [hop] at ho;exact absurd ho (indexAddrV_nocall _ _ _ _ _)
 |index t x i=>unfold opSem at ho;rw [hop] at ho;exact absurd ho (indexV_nocall _ _ _ _ _)
 |makeFunc fn first captured=>unfold opSem at ho;rw [hop] at ho;cases fn<;>simp at ho
 |extract t i=>
  unfold opSem at ho
  rw [hop] at ho
  simp only at ho
  split at ho
  ·split at ho<;>simp at ho
  ·simp at ho
 |_=>unfold opSem at ho;rw [hop] at ho;simp at ho
end
end Go.Pg
namespace Go.Pg
section
variable {P:Program} {ι:Inj} {W0 W:World} {σ σ':AHeap}
theorem makeMap_alloc {t:TypeId} {r:Option Value} {v:Value} (hr:∀ x,r=some x→(∃ k n,x=.int k n)∧∃ a b,P.underlying t=some (.map a b)) (h:makeMapAct σ=some (v,σ')):
  AllocOK P ι W0 W (Instr.makeMap t r) v σ σ':=by
 unfold makeMapAct at h
 cases h
 refine ⟨.map [],.map #[] 0,⟨W.heap.size,0,0,0,0⟩,.map (some W.heap.size),rfl,?_,fun τ b R hb hbn hu=>R.linkObj hb hbn hu nofun (fun es h=>by cases h;exact ⟨rfl,rfl⟩) nofun,fun κ _ hk=>VR.map hk⟩
 unfold Instr.makeMap
 cases r with
 |none=>rfl
 |some x=>
  obtain ⟨⟨k,n,rfl⟩,a,b,hd⟩:=hr x rfl
  simp only
  rw [Sem.run_bind,run_und hd]
  try rfl
theorem op_alloc {o:Oper} {fr:List Value} {a:Go.Act} {v:Value} {h:Act} (hal:isAlloc o=true) (hG:P.globals.size≤W0.heap.size) (r:FR ι W0.heap.size fr a.tmps) (ho:opSem P o fr=.act h) (hh:h σ=some (v,σ')):
  ∃ s:Sem Value,execOp a.eval o=(do pure (Next.value (←s)))∧AllocOK P ι W0 W s v σ σ':=by
 have E:=fun x=>ev_sound (P:=P) (ι:=ι) (W0:=W0) hG r x
 unfold opSem at ho
 unfold execOp
 unfold isAlloc at hal
 cases hop:o.op with
 |alloc t=>rw [hop] at ho;simp at ho;subst ho;exact ⟨_,rfl,alloc_alloc hh⟩
 |box t x=>rw [hop] at ho;simp at ho;subst ho;exact ⟨_,rfl,box_alloc t (E x) hh⟩
 |buildSlice t len parts=>
  rw [hop] at ho;simp at ho;subst ho
  obtain ⟨h1,h2⟩:=parts_sound (P:=P) hG r parts.toList
  have:=buildSlice_alloc (P:=P) (W:=W) (t:=t) (len:=len) h1 h2 (by simpa using hh)
  have e:parts.map (fun p=>(p.1,a.eval p.2))=(parts.toList.map fun p=>(p.1,a.eval p.2)).toArray:=by rw [←Array.toList_map]
  rw [←e] at this
  exact ⟨_,rfl,this⟩
 |makeSlice t l c=>rw [hop] at ho;simp at ho;subst ho;exact ⟨_,rfl,makeSlice_alloc (E l) (E c) hh⟩
 |makeMap t x=>
  rw [hop] at ho
  cases x with
  |none=>simp at ho;subst ho;exact ⟨_,rfl,makeMap_alloc (fun x h=>by cases h) hh⟩
  |some x=>
   simp only at ho
   split at ho
   ·simp at ho;subst ho
    have hx:=E x
    rw [show ev P fr x=_ from by assumption] at hx
    refine ⟨_,rfl,makeMap_alloc (fun y h=>?_) hh⟩
    simp only [Option.map_some,Option.some.injEq] at h
    subst h
    exact ⟨⟨_,_,hx.int_inv⟩,_,_,by assumption⟩
   ·simp at ho
 |_=>rw [hop] at hal;cases hal
theorem alloc_push {o:Oper} {fr:List Value} {h:Act} {v:Value} (hal:isAlloc o=true) (ho:opSem P o fr=.act h) (hh:h σ=some (v,σ')):∃ ao,σ'=σ.push ao:=by
 unfold opSem at ho
 unfold isAlloc at hal
 have hbox:∀ {x:Value},boxAct x σ=some (v,σ')→∃ ao,σ'=σ.push ao:=by
  intro x h
  unfold boxAct at h
  obtain ⟨_,h2⟩:=bif_some h
  cases h2
  exact ⟨_,rfl⟩
 cases hop:o.op with
 |alloc t=>
  rw [hop] at ho;simp at ho;subst ho
  unfold allocAct at hh
  split at hh
  ·exact hbox hh
  ·cases hh
 |box t x=>rw [hop] at ho;simp at ho;subst ho;exact hbox hh
 |buildSlice t len parts=>
  rw [hop] at ho;simp at ho;subst ho
  unfold buildSliceAct at hh
  split at hh
  ·cases hh
  ·split at hh
   ·cases hh
   ·obtain ⟨_,hh⟩:=bif_nil hh
    split at hh
    ·obtain ⟨_,h2⟩:=bif_some hh
     cases h2
     exact ⟨_,rfl⟩
    ·cases hh
 |makeSlice t l c=>
  rw [hop] at ho;simp at ho;subst ho
  unfold makeSliceAct at hh
  split at hh
  ·split at hh
   ·obtain ⟨_,h2⟩:=bif_some hh
    cases h2
    exact ⟨_,rfl⟩
   ·cases hh
  ·cases hh
 |makeMap t x=>
  rw [hop] at ho
  cases x with
  |none=>simp at ho;subst ho;cases hh;exact ⟨_,rfl⟩
  |some x=>
   simp only at ho
   split at ho
   ·simp at ho;subst ho;cases hh;exact ⟨_,rfl⟩
   ·simp at ho
 |_=>rw [hop] at hal;cases hal
end
end Go.Pg
namespace Go.Pg
inductive Ex where
 |normal
 |exit (id:Nat)
 |ret
def Ex.beq:Ex→Ex→Bool
 | .normal,.normal=>true
 | .ret,.ret=>true
 | .exit a,.exit b=>Nat.beq a b
 |_,_=>false
inductive Pg where
 |ret (e:Ex) (vs:List Value)
 |fail
 |act (h:Act) (k:Value→Pg)
 |get (k:AHeap→Pg)
 |call (f:FuncId) (args:List Value) (k:Value→Pg)
 |join (p:Pg) (k:Ex→List Value→Pg)
 |loop (st:List Value) (body:List Value→Pg) (k:Ex→List Value→Pg)
def iter (f:List Value→AHeap→Option ((Ex × List Value) × AHeap)):Nat→List Value→AHeap→Option ((Ex × List Value) × AHeap)
 |0,_,_=>none
 |n+1,st,σ=>match f st σ with
  |some ((.normal,st'),σ')=>iter f n st' σ'
  |r=>r
abbrev CallF:=FuncId→List Value→AHeap→Option (Value × AHeap)
def exec (cf:CallF) (N:Nat):Pg→AHeap→Option ((Ex × List Value) × AHeap)
 | .ret e vs,σ=>some ((e,vs),σ)
 | .fail,_=>none
 | .act h k,σ=>match h σ with
  |some (v,σ')=>exec cf N (k v) σ'
  |none=>none
 | .get k,σ=>exec cf N (k σ) σ
 | .call f args k,σ=>match cf f args σ with
  |some (v,σ')=>exec cf N (k v) σ'
  |none=>none
 | .join p k,σ=>match exec cf N p σ with
  |some ((e,vs),σ')=>exec cf N (k e vs) σ'
  |none=>none
 | .loop st body k,σ=>match iter (fun st σ=>exec cf N (body st) σ) N st σ with
  |some ((e,vs),σ')=>exec cf N (k e vs) σ'
  |none=>none
def asInt (k:IntKind) (v:Value) (f:Int→Pg):Pg:=match v with
 | .int k' n=>bif decide (k=k') then f n else .fail
 |_=>.fail
def asBool (v:Value) (f:Bool→Pg):Pg:=match v with
 | .bool b=>f b
 |_=>.fail
def asStr (v:Value) (f:ByteArray→Pg):Pg:=match v with
 | .string s=>f s
 |_=>.fail
def asPtr (v:Value) (f:Option Addr→Pg):Pg:=match v with
 | .pointer a=>f a
 |_=>.fail
def asSome (a:Option Addr) (f:Addr→Pg):Pg:=match a with
 |some a=>f a
 |none=>.fail
def asSlice (v:Value) (f:Option Addr→Nat→Nat→Pg):Pg:=match v with
 | .slice a n c=>f a n c
 |_=>.fail
def asMap (v:Value) (f:Option Nat→Pg):Pg:=match v with
 | .map r=>f r
 |_=>.fail
def asCons (l:List Value) (f:Value→List Value→Pg):Pg:=match l with
 |[]=>.fail
 |c::r=>f c r
def asNil (l:List Value) (p:Pg):Pg:=match l with
 |[]=>p
 |_::_=>.fail
def asAgg (v:Value) (f:List Value→Pg):Pg:=match v with
 | .agg cs=>f cs.toList
 |_=>.fail
def asTuple (v:Value) (f:List Value→Pg):Pg:=match v with
 | .tuple cs=>f cs.toList
 |_=>.fail
def asFunc (v:Value) (f:FuncId→List Value→List Value→Pg):Pg:=match v with
 | .func (.func g) x y=>f g x.toList y.toList
 |_=>.fail
def asNext (v:Value) (k:Value→Pg):Pg:=asTuple v fun l=>asCons l fun c r=>asBool c fun b=>bif b then
  (asCons r fun x r=>asInt .i64 x fun n=>asCons r fun y r=>asInt .i32 y fun m=>asNil r (k (.tuple #[.bool true,.int .i64 n,.int .i32 m])))
 else asNil r (k (.tuple #[.bool false]))
def grd (c:Bool) (p:Pg):Pg:=bif c then p else .fail
section
variable (P:Program)
def typed0 (t:TypeId) (v:Value) (k:Value→Pg):Pg:=
 match P.underlying t with
 |some (.int kd)=>asInt kd v fun n=>k (.int kd n)
 |some .bool=>asBool v fun b=>k (.bool b)
 |some .string=>asStr v fun s=>k (.string s)
 |some (.pointer _)=>asPtr v fun a=>k (.pointer a)
 |some (.slice _)=>asSlice v fun a n c=>k (.slice a n c)
 |some (.map _ _)=>asMap v fun r=>k (.map r)
 |_=>k v
def typed0L:List TypeId→List Value→(List Value→Pg)→Pg
 |t::ts,l,k=>asCons l fun c r=>typed0 P t c fun c'=>typed0L ts r fun r'=>k (c'::r')
 |[],l,k=>asNil l (k [])
def cellTys:Nat→TypeId→List TypeId
 |0,t=>[t]
 |n+1,t=>match P.underlying t with
  |some (.struct fields)=>fields.toList.flatMap fun f=>cellTys n f.type
  |some (.array m e)=>(List.replicate m (cellTys n e)).flatten
  |_=>[t]
def typed1 (t:TypeId) (v:Value) (k:Value→Pg):Pg:=
 match P.underlying t with
 |some (.struct _)=>asAgg v fun l=>typed0L P (cellTys P 8 t) l fun cs=>k (.agg cs.toArray)
 |some (.array m _)=>bif Nat.blt 64 m then k v else asAgg v fun l=>typed0L P (cellTys P 8 t) l fun cs=>k (.agg cs.toArray)
 |_=>typed0 P t v k
def typedT:List TypeId→List Value→(List Value→Pg)→Pg
 |t::ts,l,k=>asCons l fun c r=>typed1 P t c fun c'=>typedT ts r fun r'=>k (c'::r')
 |[],l,k=>asNil l (k [])
def typed (t:TypeId) (v:Value) (k:Value→Pg):Pg:=
 match P.underlying t with
 |some (.tuple ts)=>asTuple v fun l=>typedT P ts.toList l fun vs'=>k (.tuple vs'.toArray)
 |_=>typed1 P t v k
inductive RT where
 |ptr
 |next
 |ty (t:TypeId)
def resT (o:Oper):RT:=match o.op with
 | .alloc _| .box _ _| .fieldAddr _ _ _| .indexAddr _ _ _| .range _ _=>.ptr
 | .nilCheck _=>match P.underlying o.type with
  |some (.tuple _)=>.ptr
  |_=>.ty o.type
 | .next _ _=>.next
 |_=>.ty o.type
def typedR (r:RT) (v:Value) (k:Value→Pg):Pg:=match r with
 | .ptr=>asPtr v fun a=>asSome a fun a=>k (.pointer (some a))
 | .next=>asNext v k
 | .ty t=>typed P t v k
def typedL:List RT→List Value→(List Value→Pg)→Pg
 |t::ts,l,k=>asCons l fun c r=>typedR P t c fun c'=>typedL ts r fun r'=>k (c'::r')
 |[],l,k=>asNil l (k [])
def simpleOp (o:Oper):Bool:=match o.op with
 | .move _| .assign _| .pick _ _ _| .unOp _ _ _| .field _ _ _| .extract _ _=>true
 | .binOp op _ _ _ _=>match op with
  | .quo| .rem| .shl| .shr=>false
  |_=>true
 |_=>false
inductive HC where
 |none|quiet|eff
def hcOf (o:Oper):HC:=
 match o.op with
 | .load _ _| .lookup _ _ _ _=>.quiet
 | .alloc _| .box _ _| .buildSlice _ _ _| .store _ _ _| .makeMap _ _| .makeSlice _ _ _| .mapUpdate _ _ _ _| .range _ _| .next _ _=>.eff
 | .convert src dst _=>match P.underlying src,P.underlying dst with
  |some .string,some (.slice _)=>.eff
  |some (.slice _),some .string=>.quiet
  |_,_=>.none
 | .call c=>match c.callee with
  | .builtin .len=>match (c.argTypes[0]?).bind P.underlying with
   |some (.map _ _)=>.quiet
   |_=>.none
  | .builtin .append| .builtin .copy| .builtin .clear| .builtin .delete=>.eff
  | .builtin _=>.none
  |_=>.eff
 |_=>.none
def HC.isEff:HC→Bool
 | .eff=>true
 |_=>false
def HC.isQuiet:HC→Bool
 | .quiet=>true
 |_=>false
def unord (bf:Array Nat) (i j:Nat):Bool:=bif Nat.blt i j then !(bf.getD j 0).testBit i else !(bf.getD i 0).testBit j
noncomputable def sameV (a b:Value):Bool:= @decide (a=b) (Classical.propDecidable _)
def allEq (f:Value→Value→Bool):List Value→List Value→Bool
 |[],[]=>true
 |a::x,b::y=>f a b&&allEq f x y
 |_,_=>false
def optEq {α:Type} (f:α→α→Bool):Option α→Option α→Bool
 |none,none=>true
 |some a,some b=>f a b
 |_,_=>false
def addrEq (a b:Addr):Bool:=Nat.beq a.block b.block&&Nat.beq a.off b.off&&optEq Nat.beq a.spot b.spot
def veqF:Nat→Value→Value→Bool
 |_,.bool a,.bool b=>a==b
 |_,.int k a,.int k' b=>decide (k=k')&&decide (a=b)
 |_,.string a,.string b=>decide (a.data.toList=b.data.toList)
 |_,.pointer a,.pointer b=>optEq addrEq a b
 |_,.slice a n c,.slice b m d=>optEq addrEq a b&&Nat.beq n m&&Nat.beq c d
 |_,.map a,.map b=>optEq Nat.beq a b
 |n+1,.agg a,.agg b=>allEq (veqF n) a.toList b.toList
 |n+1,.tuple a,.tuple b=>allEq (veqF n) a.toList b.toList
 |n+1,.func (.func f) a c,.func (.func g) b d=>Nat.beq f g&&(allEq (veqF n) a.toList b.toList&&allEq (veqF n) c.toList d.toList)
 |_,.nilFunc,.nilFunc=>true
 |_,_,_=>false
noncomputable def eqv (a b:Value):Bool:=veqF 4 a b||sameV a b
noncomputable def chkAt (h:Act) (v:Value) (σ:AHeap):Bool:=match h σ with
 |some (v',_)=>eqv v' v
 |none=>false
abbrev IOp:=Nat × Oper
def sameG (g:Nat × Bool) (h:Option (Nat × Bool)):Bool:=match h with
 |some (j,w)=>Nat.beq g.1 j&&(g.2==w)
 |none=>false
def within (i:Nat) (g:Nat × Bool) (x:IOp):Bool:=sameG g x.2.guard||(match x.2.guard with
 |some (j,_)=>Nat.ble i j&&Nat.blt j x.1
 |none=>false)
def dstNe (d:Nat) (o:Oper):Bool:=match o.dst with
 |some e=>!Nat.beq e d
 |none=>true
def spanW (p:IOp→Bool):List IOp→List IOp × List IOp
 |[]=>([],[])
 |x::r=>bif p x then ((x::(spanW p r).1),(spanW p r).2) else ([],x::r)
def poisonOps (fr:List Value):List IOp→List Value
 |[]=>fr
 |x::r=>poisonOps (putD fr x.2.dst top) r
def pickB (b:Bool) (want:Bool) (p:Oper) (fr:List Value):Option Value:=
 match p.op,want with
 | .pick _ v (.const (.bool false)),true=>match ev P fr v with
  | .bool x=>some (.bool (b&&x))
  |_=>none
 | .pick _ (.const (.bool true)) v,false=>match ev P fr v with
  | .bool x=>some (.bool (b||x))
  |_=>none
 |_,_=>none
def slotOf (ops:Array Oper) (j:Nat):Option Tmp:=(ops[j]?).bind (·.dst)
def isPickOf (ops:Array Oper) (j:Nat) (p:Oper):Bool:=match p.op,slotOf ops j with
 | .pick (.tmp c) _ _,some d=>Nat.beq c d
 |_,_=>false
def pureOps (ops:Array Oper):Nat→(g:Nat × Bool)→List IOp→List Value→Option (List Value)
 |0,_,_,_=>none
 |_+1,_,[],fr=>some fr
 |n+1,g,x::r,fr=>
  bif sameG g x.2.guard then
   match opSem P x.2 fr with
   | .tot v=>pureOps ops n g r (putD fr x.2.dst v)
   |_=>none
  else match x.2.guard with
   |none=>none
   |some (j,w)=>match slotOf ops j with
    |none=>none
    |some d=>match getD fr d with
     | .bool b=>
      match spanW (within x.1 (j,w)) (x::r) with
      |(run,p::rest)=>match pureOps ops n (j,w) run fr with
       |some fr'=>match pickB P b w p.2 fr',isPickOf ops j p.2&&sameG g p.2.guard&&(run.all fun y=>dstNe d y.2) with
        |some v,true=>pureOps ops n g rest (putD (poisonOps fr run) p.2.dst v)
        |_,_=>none
       |none=>none
      |_=>none
     |_=>none
noncomputable def chks:List (Act × Value)→AHeap→Bool
 |[],_=>true
 |(h,v)::l,σ=>chkAt h v σ&&chks l σ
noncomputable def past (h:Act) (v:Value):List AHeap→Bool
 |[]=>true
 |σ::l=>chkAt h v σ&&past h v l
def keepU {α:Type} (i:Nat) (bf:Array Nat):List (Nat × α)→List α
 |[]=>[]
 |x::l=>bif unord bf x.1 i then x.2::keepU i bf l else keepU i bf l
noncomputable def chkAll (i:Nat) (bf:Array Nat) (σ:AHeap) (l:List (Nat × Act × Value)):Bool:=chks (keepU i bf l) σ
noncomputable def chkPast (i:Nat) (bf:Array Nat) (h:Act) (v:Value) (l:List (Nat × AHeap)):Bool:=past h v (keepU i bf l)
def anyUnord (i:Nat) (bf:Array Nat) (l:List (Nat × Act × Value)):Bool:=l.any fun x=>unord bf x.1 i
def needSnap (i:Nat) (bf:Array Nat) (ops:List IOp):Bool:=ops.any fun x=>Nat.blt i x.1&&(hcOf P x.2).isQuiet&&unord bf i x.1
def allIOps (ops:Array Oper):List IOp:=ops.toList.zipIdx.map fun x=>(x.2,x.1)
def compRes (o:Oper) (fr:List Value) (k:OpRes→Pg):Pg:=
 match o.op with
 | .nilCheck c=>match ev P fr c with
  | .pointer a=>asSome a fun a=>k (.tot (.pointer (some a)))
  | .func (.func f) first captured=>k (.tot (.func (.func f) first captured))
  |_=>.fail
 | .indexAddr t x i=>match ev P fr x with
  | .slice a n c=>asSome a fun a=>k (indexAddrV P t (.slice (some a) n c) (ev P fr i))
  |x=>k (indexAddrV P t x (ev P fr i))
 | .call c=>match c.callee with
  | .value f=>match namedF f with
   |some g=>k (callR P g (c.args.toList.map (ev P fr)))
   |none=>asFunc (ev P fr f) fun g first captured=>k (.call g (first++c.args.toList.map (ev P fr)++captured))
  |_=>k (opSem P o fr)
 |_=>k (opSem P o fr)
noncomputable def compOp (x:IOp) (fr:List Value) (k:List Value→Pg):Pg:=
 compRes P x.2 fr fun
 | .fail=>.fail
 | .tot v=>k (putD fr x.2.dst v)
 | .pure c v=>grd c (k (putD fr x.2.dst v))
 | .act h=>.act h fun v=>typedR P (resT P x.2) v fun v'=>k (putD fr x.2.dst v')
 | .call f args=>.call f args fun v=>typedR P (resT P x.2) v fun v'=>k (putD fr x.2.dst v')
def noneB {α:Type}:Option α→Bool
 |none=>true
 |some _=>false
def cellsEq (l m:List Value):Bool:=allEq (veqF 4) l m
def objEqF:Option AObj→Option AObj→Bool
 |some (.blk a),some (.blk b)=>cellsEq a.cells b.cells&&Nat.beq a.esz b.esz&&allNat a.his b.his&&Nat.beq a.dirty b.dirty
 |some (.map []),some (.map [])=>true
 |none,none=>true
 |_,_=>false
where
 allNat:List Nat→List Nat→Bool
  |[],[]=>true
  |a::l,b::m=>Nat.beq a b&&allNat l m
  |_,_=>false
noncomputable def objEq (a b:Option AObj):Bool:=objEqF a b|| @decide (a=b) (Classical.propDecidable _)
abbrev Made:=Nat × Nat × Option AObj
noncomputable def chkO:List (Nat × Option AObj)→AHeap→Bool
 |[],_=>true
 |(b,o)::l,σ=>objEq (σ.get b) o&&chkO l σ
noncomputable def chkObjs (i:Nat) (bf:Array Nat) (σ:AHeap) (l:List Made):Bool:=chkO (keepU i bf l) σ
def newN (n0:Nat) (σ:AHeap) (bs:List Nat):Bool:=Nat.ble n0 σ.n&&noneB (σ.get σ.n)&&bs.all fun b=>!Nat.beq b σ.n
def anyUnordA (i:Nat) (bf:Array Nat) (l:List Made):Bool:=l.any fun x=>unord bf x.1 i
def newOk (n0:Nat) (σ:AHeap) (al:List Made):Bool:=newN n0 σ (al.map fun x=>x.2.1)
noncomputable def behind (i:Nat) (bf:Array Nat) (ld:List (Nat × Act × Value)) (al:List Made) (p:Pg):Pg:=
 let p1:=bif anyUnordA i bf al then .get fun σ=>grd (chkObjs i bf σ al) p else p
 bif anyUnord i bf ld then .get fun σ=>grd (chkAll i bf σ ld) p1 else p1
noncomputable def compOpD (late:Option Nat) (bf:Array Nat) (all:List IOp) (x:IOp) (fr:List Value) (sn:List (Nat × AHeap)) (ld:List (Nat × Act × Value)) (al:List Made)
  (k:List Value→List (Nat × AHeap)→List (Nat × Act × Value)→List Made→Pg):Pg:=
 compRes P x.2 fr fun
 | .fail=>.fail
 | .tot v=>k (putD fr x.2.dst v) sn ld al
 | .pure c v=>grd c (k (putD fr x.2.dst v) sn ld al)
 | .act h=>
  bif (hcOf P x.2).isQuiet then
   .act h fun v=>grd (chkPast x.1 bf h v sn) (typedR P (resT P x.2) v fun v'=>k (putD fr x.2.dst v') sn ((x.1,h,v)::ld) al)
  else bif (hcOf P x.2).isEff then
   let go (sn:List (Nat × AHeap)):Pg:=.act h fun v=>typedR P (resT P x.2) v fun v'=>behind x.1 bf ld al (k (putD fr x.2.dst v') sn ld al)
   let plain:Pg:=bif needSnap P x.1 bf all then .get fun σ=>go ((x.1,σ)::sn) else go sn
   match late with
   |some n0=>bif isAlloc x.2 then .get fun σ=>grd (newOk n0 σ al) (.act h fun v=>typedR P (resT P x.2) v fun v'=>.get fun σ1=>k (putD fr x.2.dst v') sn ld ((x.1,σ.n,σ1.get σ.n)::al)) else plain
   |none=>plain
  else .fail
 | .call f args=>
  bif (hcOf P x.2).isEff then
   let go (sn:List (Nat × AHeap)):Pg:=.call f args fun v=>typedR P (resT P x.2) v fun v'=>behind x.1 bf ld al (k (putD fr x.2.dst v') sn ld al)
   bif needSnap P x.1 bf all then .get fun σ=>go ((x.1,σ)::sn) else go sn
  else .fail
noncomputable def compOps (ops:Array Oper):Nat→List IOp→List Value→(List Value→Pg)→Pg
 |0,_,_,_=>.fail
 |_+1,[],fr,k=>k fr
 |n+1,x::r,fr,k=>
  match x.2.guard with
  |none=>compOp P x fr fun fr=>compOps ops n r fr k
  |some (j,w)=>match slotOf ops j with
   |none=>.fail
   |some d=>match getD fr d with
    | .tuple _=>compOps ops n r (putD fr x.2.dst undef') k
    | .bool b=>
     match (match spanW (within x.1 (j,w)) (x::r) with
      |(run,p::rest)=>bif run.all fun y=>simpleOp y.2 then (match pureOps P ops (n+1) (j,w) run fr with
       |some fr'=>match pickB P b w p.2 fr',isPickOf ops j p.2&&(run.all fun y=>dstNe d y.2)&&(match p.2.guard with
         |none=>true
         |some _=>false) with
        |some v,true=>some (putD (poisonOps fr run) p.2.dst v,rest)
        |_,_=>none
       |none=>none) else none
      |_=>none) with
     |some (fr',rest)=>compOps ops n rest fr' k
     |none=>
      bif b==w then compOp P x (setD fr d (.bool w)) fun fr=>compOps ops n r fr k
      else compOps ops n r (putD (setD fr d (.bool (!w))) x.2.dst undef') k
    |_=>.fail
noncomputable def compOpsD (late:Option Nat) (bf:Array Nat) (ops:Array Oper) (all:List IOp):List IOp→List Value→List (Nat × AHeap)→List (Nat × Act × Value)→List Made→(List Value→Pg)→Pg
 |[],fr,_,_,_,k=>k fr
 |x::r,fr,sn,ld,al,k=>
  match x.2.guard with
  |none=>compOpD P late bf all x fr sn ld al fun fr sn ld al=>compOpsD late bf ops all r fr sn ld al k
  |some (j,w)=>match slotOf ops j with
   |none=>.fail
   |some d=>match getD fr d with
    | .tuple _=>compOpsD late bf ops all r (putD fr x.2.dst undef') sn ld al k
    | .bool b=>
     bif b==w then compOpD P late bf all x (setD fr d (.bool w)) sn ld al fun fr sn ld al=>compOpsD late bf ops all r fr sn ld al k
     else compOpsD late bf ops all r (putD (setD fr d (.bool (!w))) x.2.dst undef') sn ld al k
    |_=>.fail
def effL (late:Bool) (o:Oper):Bool:=(hcOf P o).isEff&&!(late&&isAlloc o)
def effOrdered (late:Bool) (bf:Array Nat) (l:List IOp):Bool:=
 l.all fun x=>!effL P late x.2||l.all fun y=>!effL P late y.2||Nat.ble y.1 x.1||!unord bf x.1 y.1
def allocFirst (bf:Array Nat) (l:List IOp):Bool:=
 l.all fun x=>!effL P true x.2||l.all fun y=>!isAlloc y.2||Nat.ble y.1 x.1||!unord bf x.1 y.1
def looksO (ops:Array Oper) (o:Oper):List Nat:=
 (o.op.operands.toList.filterMap fun
  | .tmp t=>some t
  |_=>none)++(match o.guard with
  |some (j,_)=>(slotOf ops j).toList
  |none=>[])
def slotsOrdered (bf:Array Nat) (ops:Array Oper) (l:List IOp):Bool:=
 (l.all fun x=>x.2.after.toList.all fun e=>!Region.binds .any e||Nat.blt e.on x.1)&&
 l.all fun y=>match y.2.dst with
  |none=>true
  |some d=>l.all fun x=>Nat.beq x.1 y.1||!unord bf x.1 y.1||!(optEq Nat.beq x.2.dst (some d)||(looksO ops x.2).any (Nat.beq d))
def memN (x:Nat) (l:List Nat):Bool:=l.any (Nat.beq x)
def readyC (done:List Nat) (o:Oper):Bool:=o.after.toList.all fun e=>!Region.binds .any e||memN e.on done
def dropI (i:Nat):List IOp→List IOp
 |[]=>[]
 |x::r=>bif Nat.beq x.1 i then r else x::dropI i r
def firstI (p:IOp→Bool):List IOp→Option Nat
 |[]=>none
 |x::r=>bif p x then some x.1 else firstI p r
def canon:Nat→List IOp→List Nat→List Nat
 |0,_,done=>done.reverse
 |n+1,rem,done=>match firstI (fun x=>readyC done x.2&&!effL P true x.2) rem with
  |some i=>canon n (dropI i rem) (i::done)
  |none=>match firstI (fun x=>readyC done x.2) rem with
   |some i=>canon n (dropI i rem) (i::done)
   |none=>done.reverse
def posIn (i:Nat):List Nat→Nat
 |[]=>0
 |x::r=>bif Nat.beq x i then 0 else posIn i r+1
def moved (π:List Nat) (o:Oper):Oper:={ o with after:=o.after.map fun e=>{ e with on:=posIn e.on π },guard:=match o.guard with
 |some (j,w)=>some (posIn j π,w)
 |none=>none }
def permOps (ops:Array Oper) (π:List Nat):Array Oper:=(π.map fun i=>moved π (ops.getD i default)).toArray
def permOk (ops:Array Oper) (π:List Nat):Bool:=
 Nat.beq π.length ops.size&&((List.range ops.size).all fun i=>memN i π)&&(π.all fun i=>Nat.blt i ops.size)&&(π.zipIdx.all fun x=>Nat.beq (posIn x.1 π) x.2)&&
  ops.toList.all fun o=>o.after.toList.all (fun e=>!Region.binds .any e||Nat.blt e.on ops.size)&&(match o.guard with
   |some (j,_)=>Nat.blt j ops.size
   |none=>true)
def addTo (l:List Nat) (x:Nat):List Nat:=bif memN x l then l else x::l
def unionN (a b:List Nat):List Nat:=a.foldl addTo b
def writtenOps:List Oper→List Nat→List Nat
 |[],acc=>acc
 |o::r,acc=>writtenOps r (match o.dst with
  |some d=>addTo acc d
  |_=>acc)
def okEff (o:Oper):Bool:=!(hcOf P o).isEff||match o.op with
 | .store _ _ _| .alloc _| .box _ _| .buildSlice _ _ _=>true
 | .call c=>(match c.callee with
  | .builtin .append=>true
  |_=>false)
 |_=>false
def clashWith (bf:Array Nat) (x:IOp):List IOp→Option Nat
 |[]=>none
 |y::r=>bif Nat.blt x.1 y.1&&effL P true y.2&&unord bf x.1 y.1 then some y.1 else clashWith bf x r
def clash (bf:Array Nat) (all:List IOp):List IOp→Option (Nat × Nat)
 |[]=>none
 |x::r=>match (bif effL P true x.2 then clashWith P bf x all else none) with
  |some j=>some (x.1,j)
  |none=>clash bf all r
def withEdge (ops:Array Oper) (j i:Nat):Array Oper:=(ops.toList.zipIdx.map fun x=>bif Nat.beq x.2 j then { x.1 with after:=x.1.after.push ⟨i,.data⟩ } else x.1).toArray
def swapPi (n i j:Nat):List Nat:=((List.range n).map fun x=>bif Nat.beq x i then [] else bif Nat.beq x j then [j,i] else [x]).flatten
noncomputable def eqvs (l m:List Value):Bool:=allEq eqv l m
def pairsEq:List (Value × Value)→List (Value × Value)→Bool
 |[],[]=>true
 |x::l,y::m=>veqF 4 x.1 y.1&&(veqF 4 x.2 y.2&&pairsEq l m)
 |_,_=>false
def objEqT:Option AObj→Option AObj→Bool
 |some (.iter s n),some (.iter t m)=>decide (s.data.toList=t.data.toList)&&Nat.beq n m
 |some (.map a),some (.map b)=>pairsEq a b
 |a,b=>objEqF a b
def triEq:Tri→Tri→Bool
 | .nil,.nil=>true
 | .node v l r,.node v' l' r'=>objEqT v v'&&(triEq l l'&&triEq r r')
 |_,_=>false
noncomputable def heapEq (σ τ:AHeap):Bool:=Nat.beq σ.n τ.n&&(triEq σ.mem τ.mem|| @decide (σ.mem=τ.mem) (Classical.propDecidable _))
def packW (ops:Array Oper) (fr:List Value):List Value:=(writtenOps ops.toList []).map (getD fr)
def drawOk (ops:Array Oper):Bool:=slotsOrdered (CheckFast.beforeF ops) ops (allIOps ops)&&effOrdered P true (CheckFast.beforeF ops) (allIOps ops)&&allocFirst P (CheckFast.beforeF ops) (allIOps ops)
noncomputable def compTwo (ops:Array Oper) (i j:Nat) (fr:List Value) (k:List Value→Pg):Pg:=
 let A:=withEdge ops j i
 let π:=swapPi ops.size i j
 let B:=permOps (withEdge ops i j) π
 bif Nat.blt i j&&Nat.blt j ops.size&&ops.toList.all (okEff P)&&drawOk P A&&permOk (withEdge ops i j) π&&drawOk P B then
  .get fun σ=>.join (compOpsD P (some σ.n) (CheckFast.beforeF B) B (allIOps B) (allIOps B) fr [] [] [] fun fr=>.ret .normal (packW ops fr)) fun _ st=>.get fun σ2=>.act (fun _=>some (.tuple #[],σ)) fun _=>
   compOpsD P (some σ.n) (CheckFast.beforeF A) A (allIOps A) (allIOps A) fr [] [] [] fun fr'=>.get fun σ1=>grd (heapEq σ1 σ2&&eqvs (packW ops fr') st) (k fr')
 else .fail
noncomputable def compReg (ops:Array Oper) (draw:Bool) (fr:List Value) (k:List Value→Pg):Pg:=
 bif draw then
  bif slotsOrdered (CheckFast.beforeF ops) ops (allIOps ops)&&effOrdered P false (CheckFast.beforeF ops) (allIOps ops) then compOpsD P none (CheckFast.beforeF ops) ops (allIOps ops) (allIOps ops) fr [] [] [] k
  else bif slotsOrdered (CheckFast.beforeF ops) ops (allIOps ops)&&effOrdered P true (CheckFast.beforeF ops) (allIOps ops)&&allocFirst P (CheckFast.beforeF ops) (allIOps ops) then
   .get fun σ=>compOpsD P (some σ.n) (CheckFast.beforeF ops) ops (allIOps ops) (allIOps ops) fr [] [] [] k
  else
   let π:=canon P ops.size (allIOps ops) []
   let ops':=permOps ops π
   bif permOk ops π&&slotsOrdered (CheckFast.beforeF ops') ops' (allIOps ops')&&effOrdered P true (CheckFast.beforeF ops') (allIOps ops')&&allocFirst P (CheckFast.beforeF ops') (allIOps ops') then
    .get fun σ=>compOpsD P (some σ.n) (CheckFast.beforeF ops') ops' (allIOps ops') (allIOps ops') fr [] [] [] k
   else match clash P (CheckFast.beforeF ops) (allIOps ops) (allIOps ops) with
    |some (i,j)=>compTwo P ops i j fr k
    |none=>.fail
 else compOps P ops (ops.size+1) (allIOps ops) fr k
def written:Code→List Nat→List Nat
 | .region _ ops _,acc=>writtenOps ops.toList acc
 | .seq a b,acc=>written b (written a acc)
 | .cond _ a b,acc=>written b (written a acc)
 | .block _ a,acc| .loop a,acc| .scope a,acc=>written a acc
 |_,acc=>acc
def tmpsOf:List Operand→List Nat→List Nat
 |[],acc=>acc
 | .tmp t::r,acc=>tmpsOf r (addTo acc t)
 |_::r,acc=>tmpsOf r acc
def liveOps:List Oper→List Nat→List Nat
 |[],out=>out
 |o::r,out=>tmpsOf o.op.operands.toList (match o.dst with
  |some d=>(liveOps r out).filter fun x=>!Nat.beq x d
  |none=>liveOps r out)
def live:Code→(Ex→List Nat)→List Nat
 | .skip,out| .label _,out=>out .normal
 | .region _ ops _,out=>liveOps ops.toList (out .normal)
 | .seq a b,out=>live a fun
  | .normal=>live b out
  |e=>out e
 | .cond c a b,out=>tmpsOf [c] (unionN (live a out) (live b out))
 | .block id a,out=>live a fun
  | .exit i=>bif Nat.beq i id then out .normal else out (.exit i)
  |e=>out e
 | .loop a,out=>live a fun
  | .normal=>[]
  |e=>out e
 | .scope a,out=>live a out
 | .exit id,out=>out (.exit id)
 | .ret,out=>out .ret
 |_,_=>[]
def exIn (e:Ex) (l:List Ex):Bool:=l.any (Ex.beq e)
def exAdd (l:List Ex):List Ex→List Ex
 |[]=>l
 |e::r=>exAdd (bif exIn e l then l else l++[e]) r
def exDrop (e:Ex) (l:List Ex):List Ex:=l.filter fun x=>!Ex.beq e x
def exits:Code→List Ex
 | .skip| .region _ _ _| .label _=>[.normal]
 | .seq a b=>bif exIn .normal (exits a) then exAdd (exDrop .normal (exits a)) (exits b) else exits a
 | .cond _ a b=>exAdd (exits a) (exits b)
 | .block id a=>bif exIn (.exit id) (exits a) then exAdd (exDrop (.exit id) (exits a)) [.normal] else exits a
 | .loop a=>exDrop .normal (exits a)
 | .scope a=>exits a
 | .exit id=>[.exit id]
 | .ret=>[.ret]
 |_=>[]
def setMany:List Value→List Nat→List Value→List Value
 |fr,w::ws,v::vs=>setMany (setD fr w v) ws vs
 |fr,_,_=>fr
def poison:List Value→List Nat→List Value
 |fr,[]=>fr
 |fr,w::ws=>poison (setD fr w top) ws
def exSwitch (ex:Ex) (f:Ex→Pg):List Ex→Pg
 |[]=>.fail
 |e::r=>bif Ex.beq ex e then f e else exSwitch ex f r
def isLoop:Code→Bool
 | .loop _=>true
 |_=>false
def carried (fast:Bool) (c:Code) (out:Ex→List Nat):List Nat:=
 bif fast then [] else (written c []).filter fun x=>(exits c).any fun e=>memN x (out e)
def carriedL (fast:Bool) (a:Code) (out:Ex→List Nat):List Nat:=
 bif fast then [] else
  let l:=live (.loop a) out
  (written a []).filter fun x=>memN x l||(exits (.loop a)).any fun e=>memN x (out e)
def pack (fast:Bool) (ws:List Nat) (fr:List Value):List Value:=bif fast then fr else ws.map (getD fr)
def tyOps (t:Nat):List Oper→Option RT
 |[]=>none
 |o::r=>bif optEq Nat.beq o.dst (some t) then some (resT P o) else tyOps t r
def tyIn (t:Nat):Code→Option RT
 | .region _ ops _=>tyOps P t ops.toList
 | .seq a b| .cond _ a b=>match tyIn t a with
  |some x=>some x
  |none=>tyIn t b
 | .block _ a| .loop a| .scope a=>tyIn t a
 |_=>none
def tysOf (c:Code) (ws:List Nat):List RT:=ws.map fun t=>(tyIn P t c).getD (.ty 0)
def unpack (fast:Bool) (c:Code) (ws:List Nat) (fr st:List Value):List Value:=bif fast then st else setMany (poison fr (written c [])) ws st
def unpackK (fast:Bool) (c:Code) (ws:List Nat) (fr st:List Value) (k:List Value→Pg):Pg:=
 bif fast then k st else typedL P (tysOf P c ws) st fun vs=>k (unpack false c ws fr vs)
def parts (ops:Array Oper) (draw:Bool):Bool:=ops.toList.any fun o=>o.guard.isSome&&(draw||!simpleOp o)
def exK (fast:Bool) (c:Code) (ex:Ex) (f:Ex→Pg):Pg:=bif fast then f ex else exSwitch ex f (exits c)
noncomputable def comp (fast:Bool):Code→(Ex→List Nat)→List Value→(Ex→List Value→Pg)→Pg
 | .skip,_,fr,k| .label _,_,fr,k=>k .normal fr
 | .region id ops draw,out,fr,k=>
  bif !fast&&parts ops draw then
   let ws:=carried fast (.region id ops draw) out
   .join (compReg P ops draw fr fun fr=>.ret .normal (pack fast ws fr))
    fun ex st=>exK fast (.region id ops draw) ex fun ex=>unpackK P fast (.region id ops draw) ws fr st fun fr=>k ex fr
  else compReg P ops draw fr fun fr=>k .normal fr
 | .seq a b,out,fr,k=>comp fast a (fun
   | .normal=>live b out
   |e=>out e) fr fun ex fr=>match ex with
  | .normal=>comp fast b out fr k
  |ex=>k ex fr
 | .cond c a b,out,fr,k=>match ev P fr c with
  | .bool t=>
   bif !fast&&exIn .normal (exits a)&&exIn .normal (exits b) then
    let ws:=carried fast (.cond c a b) out
    .join (bif t then comp fast a out fr fun ex fr=>.ret ex (pack fast ws fr) else comp fast b out fr fun ex fr=>.ret ex (pack fast ws fr))
     fun ex st=>exK fast (.cond c a b) ex fun ex=>unpackK P fast (.cond c a b) ws fr st fun fr=>k ex fr
   else bif t then comp fast a out fr k else comp fast b out fr k
  |_=>.fail
 | .block id a,out,fr,k=>
  let out':Ex→List Nat:=fun
   | .exit i=>bif Nat.beq i id then out .normal else out (.exit i)
   |e=>out e
  bif fast||isLoop a then
   comp fast a out' fr fun ex fr=>match ex with
    | .exit i=>bif Nat.beq i id then k .normal fr else k (.exit i) fr
    |ex=>k ex fr
  else
   let ws:=carried fast (.block id a) out
   .join (comp fast a out' fr fun ex fr=>match ex with
    | .exit i=>bif Nat.beq i id then .ret .normal (pack fast ws fr) else .ret (.exit i) (pack fast ws fr)
    |ex=>.ret ex (pack fast ws fr))
    fun ex st=>exK fast (.block id a) ex fun ex=>unpackK P fast (.block id a) ws fr st fun fr=>k ex fr
 | .loop a,out,fr,k=>
  let ws:=carriedL fast a out
  .loop (pack fast ws fr) (fun st=>unpackK P fast (.loop a) ws fr st fun fr=>comp fast a (fun
    | .normal=>live (.loop a) out
    |e=>out e) fr fun ex fr=>.ret ex (pack fast ws fr))
   fun ex st=>exK fast (.loop a) ex fun ex=>unpackK P fast (.loop a) ws fr st fun fr=>k ex fr
 | .scope a,out,fr,k=>comp fast a out fr k
 | .exit id,_,fr,k=>k (.exit id) fr
 | .ret,_,fr,k=>k .ret fr
 |_,_,_,_=>.fail
def resSlots:List ResultVar→List Nat
 |[]=>[]
 | .tmp t::r| .cell t _::r=>t::resSlots r
def retP:List ResultVar→List Value→List Value→Pg
 |[],_,vs=>.ret .ret [match vs with
  |[v]=>v
  |vs=>.tuple vs.toArray]
 | .tmp t::r,fr,vs=>retP r fr (vs++[getD fr t])
 | .cell a t::r,fr,vs=>match getD fr a with
  | .pointer a=>asSome a fun a=>.act (ldAt P t a) fun v=>retP r fr (vs++[v])
  |_=>.fail
noncomputable def progOf (fast:Bool) (f:FuncId) (args:List Value):Pg:=
 match P.funcs[f]? with
 |none=>.fail
 |some fn=>match fn.body with
  |none=>.fail
  |some c=>comp P fast c (fun _=>resSlots fn.results.toList) (args++List.replicate (fn.ntmps - args.length) undef') fun ex fr=>match ex with
   | .normal| .ret=>retP P fn.results.toList fr []
   | .exit _=>.fail
abbrev Ov:=FuncId→Option (List Value→AHeap→Option (Value × AHeap))
noncomputable def execFn (ov:Ov) (fast:Bool):Nat→CallF
 |0,_,_,_=>none
 |n+1,f,args,σ=>match ov f with
  |some g=>g args σ
  |none=>match exec (execFn ov fast n) n (progOf P fast f args) σ with
   |some ((_,[v]),σ')=>some (v,σ')
   |_=>none
end
end Go.Pg
namespace Go.Pg
abbrev wi32 (n:Int):Int:=IntKind.i32.wrap n
abbrev wi64 (n:Int):Int:=IntKind.i64.wrap n
abbrev wu8 (n:Int):Int:=IntKind.u8.wrap n
abbrev wu64 (n:Int):Int:=IntKind.u64.wrap n
def andI (k:IntKind) (a b:Int):Int:=k.wrap (BitVec.ofInt k.bits a &&& BitVec.ofInt k.bits b).toNat
def orI (k:IntKind) (a b:Int):Int:=k.wrap (BitVec.ofInt k.bits a ||| BitVec.ofInt k.bits b).toNat
def xorI (k:IntKind) (a b:Int):Int:=k.wrap (BitVec.ofInt k.bits a ^^^ BitVec.ofInt k.bits b).toNat
def andNotI (k:IntKind) (a b:Int):Int:=k.wrap (BitVec.ofInt k.bits a &&& ~~~(BitVec.ofInt k.bits b)).toNat
def shlI (k:IntKind) (a b:Int):Int:=k.wrap (a*2 ^ (min b.toNat k.bits))
def shrI (k:IntKind) (a b:Int):Int:=a.fdiv (2 ^ (min b.toNat k.bits))
def bs (l:List UInt8):ByteArray:=⟨l.toArray⟩
def cutS (a:Option Addr) (n:Nat):Option Addr:=a.map (aadd · n)
def ld1 (a:Addr):Act:=fun σ=>match σ.rdN a 1 with
 |some (v::_)=>some (v,σ)
 |_=>none
def ldN (k:Nat) (a:Addr):Act:=fun σ=>match σ.rdN a k with
 |some cs=>some (.agg cs.toArray,σ)
 |none=>none
def stC (a:Addr) (vs:List Value):Act:=fun σ=>match σ.wrN a vs with
 |some σ'=>some (.tuple #[],σ')
 |none=>none
def newC (vs:List Value):Act:=fun σ=>some (.pointer (some (σ.here 0)),σ.newBlk vs 0)
def mkSl (esz byt:Nat) (zs:List Value) (l c:Int):Act:=fun σ=>
 bif decide (0≤l)&&decide (l≤c)&&Nat.ble (c.toNat*byt) 281474976710656 then some (.slice (some (σ.here esz)) l.toNat c.toNat,σ.newBlk (rep zs c.toNat) esz) else none
def bdSl (esz len:Nat) (cells:List Value):Act:=fun σ=>some (.slice (some (σ.here esz)) len len,σ.newBlk cells esz)
def apS (esz byt:Nat) (base:Option Addr) (len cap:Nat) (a:Option Addr) (n c:Nat):Act:=fun σ=>
 match firstOf esz n σ (.slice a n c) with
 |some xs=>apCore esz byt base len cap n xs σ
 |none=>none
def apI (esz byt:Nat) (base:Option Addr) (len cap:Nat) (zs:List Value) (l:Int):Act:=fun σ=>
 bif decide (0≤l)&&Nat.ble (l.toNat*byt) 281474976710656&&Nat.ble 1 byt then apCore esz byt base len cap l.toNat (rep zs l.toNat) σ else none
def cpy (esz:Nat) (base:Option Addr) (dl sl:Nat) (x:Value):Act:=fun σ=>
 match firstOf esz (Nat.min sl dl) σ x with
 |some cs=>match base with
  |none=>some (.int .i64 (Nat.min sl dl:Nat),σ)
  |some a=>bif Nat.beq (Nat.min sl dl) 0 then some (.int .i64 (0:Nat),σ) else
   match σ.wrN a cs with
   |some σ'=>some (.int .i64 (Nat.min sl dl:Nat),σ')
   |none=>none
 |none=>none
def clr (zs:List Value) (base:Option Addr) (n:Nat):Act:=fun σ=>
 match base with
 |none=>some (.tuple #[],σ)
 |some a=>bif Nat.beq n 0 then some (.tuple #[],σ) else
  match σ.wrN a (rep zs n) with
  |some σ'=>some (.tuple #[],σ')
  |none=>none
def lkp (kd:TypeDesc) (z:Value) (r:Option Nat) (k:Value) (ok:Bool):Act:=fun σ=>
 match (match r with
  |none=>some (some none)
  |some r=>(σ.getMap r).map (mapFind kd k)) with
 |some (some (some v))=>some (bif ok then .tuple #[v,.bool true] else v,σ)
 |some (some none)=>some (bif ok then .tuple #[z,.bool false] else z,σ)
 |_=>none
def mup (kd:TypeDesc) (r:Option Nat) (k v:Value):Act:=fun σ=>
 match r with
 |some r=>match σ.getMapW r with
  |some es=>match mapSet kd k v es with
   |some es'=>some (.tuple #[],σ.put r (.map es'))
   |none=>none
  |none=>none
 |none=>none
def mdel (kd:TypeDesc) (r:Option Nat) (k:Value):Act:=fun σ=>
 match r with
 |some r=>match σ.getMapW r with
  |some es=>match mapDel kd k es with
   |some es'=>some (.tuple #[],σ.put r (.map es'))
   |none=>none
  |none=>none
 |none=>some (.tuple #[],σ)
def rng (s:ByteArray):Act:=fun σ=>some (.pointer (some (σ.here 0)),σ.push (.iter s 0))
def nxt (a:Option Addr):Act:=nextAct (.pointer a) true
def asNx (v:Value) (f:Int→Int→Pg) (p:Pg):Pg:=asTuple v fun l=>asCons l fun c r=>asBool c fun b=>bif b then
  (asCons r fun x r=>asInt .i64 x fun n=>asCons r fun y r=>asInt .i32 y fun m=>asNil r (f n m))
 else asNil r p
def sw (ex e:Ex) (p q:Pg):Pg:=bif Ex.beq ex e then p else q
end Go.Pg
namespace Go.Pg
section
variable {P:Program} {cf:CallF} {N:Nat}
theorem exec_bif {c:Bool} {x:Pg} {σ:AHeap} {r:(Ex × List Value) × AHeap} (h:exec cf N (bif c then x else .fail) σ=some r):c=true∧exec cf N x σ=some r:=by
 cases c with
 |true=>exact ⟨rfl,h⟩
 |false=>cases h
theorem asCons_exec {l:List Value} {f:Value→List Value→Pg} {σ:AHeap} {r:(Ex × List Value) × AHeap} (h:exec cf N (asCons l f) σ=some r):∃ c m,l=c::m∧exec cf N (f c m) σ=some r:=by
 cases l with
 |nil=>cases h
 |cons c m=>exact ⟨c,m,rfl,h⟩
theorem asNil_exec {l:List Value} {p:Pg} {σ:AHeap} {r:(Ex × List Value) × AHeap} (h:exec cf N (asNil l p) σ=some r):l=[]∧exec cf N p σ=some r:=by
 cases l with
 |nil=>exact ⟨rfl,h⟩
 |cons c m=>cases h
theorem typed0_exec {t:TypeId} {v:Value} {k:Value→Pg} {σ:AHeap} {r:(Ex × List Value) × AHeap} (h:exec cf N (typed0 P t v k) σ=some r):exec cf N (k v) σ=some r:=by
 unfold typed0 at h
 split at h
 ·unfold asInt at h
  split at h
  ·obtain ⟨h1,h2⟩:=exec_bif h
   have:=of_decide_eq_true h1
   subst this
   exact h2
  ·cases h
 ·unfold asBool at h
  split at h
  ·exact h
  ·cases h
 ·unfold asStr at h
  split at h
  ·exact h
  ·cases h
 ·unfold asPtr at h
  split at h
  ·exact h
  ·cases h
 ·unfold asSlice at h
  split at h
  ·exact h
  ·cases h
 ·unfold asMap at h
  split at h
  ·exact h
  ·cases h
 ·exact h
theorem typed0L_exec:∀ (ts:List TypeId) (l:List Value) (k:List Value→Pg) {σ:AHeap} {r:(Ex × List Value) × AHeap},exec cf N (typed0L P ts l k) σ=some r→exec cf N (k l) σ=some r
 |[],l,k,σ,r,h=>by
  obtain ⟨rfl,h⟩:=asNil_exec h
  exact h
 |t::ts,l,k,σ,r,h=>by
  obtain ⟨c,m,rfl,h⟩:=asCons_exec h
  exact typed0L_exec ts m (fun r'=>k (c::r')) (typed0_exec (k:=fun c'=>typed0L P ts m fun r'=>k (c'::r')) h)
theorem typed1_exec {t:TypeId} {v:Value} {k:Value→Pg} {σ:AHeap} {r:(Ex × List Value) × AHeap} (h:exec cf N (typed1 P t v k) σ=some r):exec cf N (k v) σ=some r:=by
 have agg:∀ {v},exec cf N (asAgg v fun l=>typed0L P (cellTys P 8 t) l fun cs=>k (.agg cs.toArray)) σ=some r→exec cf N (k v) σ=some r:=by
  intro v h
  unfold asAgg at h
  split at h
  ·have:=typed0L_exec _ _ _ h
   simpa using this
  ·cases h
 unfold typed1 at h
 split at h
 ·exact agg h
 ·rename_i m _ _
  cases hm:Nat.blt 64 m with
  |true=>
   rw [hm] at h
   exact h
  |false=>
   rw [hm] at h
   exact agg h
 ·exact typed0_exec h
theorem typedT_exec:∀ (ts:List TypeId) (l:List Value) (k:List Value→Pg) {σ:AHeap} {r:(Ex × List Value) × AHeap},exec cf N (typedT P ts l k) σ=some r→exec cf N (k l) σ=some r
 |[],l,k,σ,r,h=>by
  obtain ⟨rfl,h⟩:=asNil_exec h
  exact h
 |t::ts,l,k,σ,r,h=>by
  obtain ⟨c,m,rfl,h⟩:=asCons_exec h
  exact typedT_exec ts m (fun r'=>k (c::r')) (typed1_exec (k:=fun c'=>typedT P ts m fun r'=>k (c'::r')) h)
theorem typed_exec {t:TypeId} {v:Value} {k:Value→Pg} {σ:AHeap} {r:(Ex × List Value) × AHeap} (h:exec cf N (typed P t v k) σ=some r):exec cf N (k v) σ=some r:=by
 unfold typed at h
 split at h
 ·unfold asTuple at h
  split at h
  ·have:=typedT_exec _ _ _ h
   simpa using this
  ·cases h
 ·exact typed1_exec h
theorem asInt_exec {kd:IntKind} {v:Value} {f:Int→Pg} {σ:AHeap} {r:(Ex × List Value) × AHeap} (h:exec cf N (asInt kd v f) σ=some r):∃ n,v=.int kd n∧exec cf N (f n) σ=some r:=by
 unfold asInt at h
 split at h
 ·obtain ⟨h1,h2⟩:=exec_bif h
  have:=of_decide_eq_true h1
  subst this
  exact ⟨_,rfl,h2⟩
 ·cases h
theorem asNext_exec {v:Value} {k:Value→Pg} {σ:AHeap} {r:(Ex × List Value) × AHeap} (h:exec cf N (asNext v k) σ=some r):exec cf N (k v) σ=some r:=by
 unfold asNext asTuple at h
 split at h
 ·rename_i cs
  obtain ⟨c,m,hcs,h⟩:=asCons_exec h
  have hcs':cs=(c::m).toArray:=by rw [←hcs]
  unfold asBool at h
  split at h
  ·rename_i b
   cases b with
   |true=>
    simp only [cond_true] at h
    obtain ⟨x,m1,e1,h1⟩:=asCons_exec h
    obtain ⟨n,e2,h2⟩:=asInt_exec (kd:=.i64) (v:=x) h1
    obtain ⟨y,m2,e3,h3⟩:=asCons_exec (l:=m1) h2
    obtain ⟨n2,e4,h4⟩:=asInt_exec (kd:=.i32) (v:=y) h3
    obtain ⟨e5,h5⟩:=asNil_exec (l:=m2) h4
    subst e5 e4 e3 e2 e1
    rw [hcs']
    exact h5
   |false=>
    simp only [cond_false] at h
    obtain ⟨rfl,h⟩:=asNil_exec h
    rw [hcs']
    exact h
  ·cases h
 ·cases h
theorem typedR_exec {t:RT} {v:Value} {k:Value→Pg} {σ:AHeap} {r:(Ex × List Value) × AHeap} (h:exec cf N (typedR P t v k) σ=some r):exec cf N (k v) σ=some r:=by
 unfold typedR at h
 split at h
 ·unfold asPtr at h
  split at h
  ·simp only [asSome] at h
   split at h
   ·exact h
   ·cases h
  ·cases h
 ·exact asNext_exec h
 ·exact typed_exec h
theorem typedL_exec:∀ (ts:List RT) (l:List Value) (k:List Value→Pg) {σ:AHeap} {r:(Ex × List Value) × AHeap},exec cf N (typedL P ts l k) σ=some r→exec cf N (k l) σ=some r
 |[],l,k,σ,r,h=>by
  obtain ⟨rfl,h⟩:=asNil_exec h
  exact h
 |t::ts,l,k,σ,r,h=>by
  obtain ⟨c,m,rfl,h⟩:=asCons_exec h
  exact typedL_exec ts m (fun r'=>k (c::r')) (typedR_exec (k:=fun c'=>typedL P ts m fun r'=>k (c'::r')) h)
def CFok (P:Program) (W0:World) (cf:CallF):Prop:=
 ∀ f args σ v σ',cf f args σ=some (v,σ')→∀ (ι:Inj) (W:World) (args':Array Value),Rel ι W0 σ W→VRL ι W0.heap.size args args'.toList→
  (callFunc f args').run P W=.ok (.enter f args') W∧Calls P f args' W fun e w'=>∃ v' κ,e=.returned v'∧ι.le κ∧VR κ W0.heap.size v v'∧Rel κ W0 σ' w'
variable {ι:Inj} {W0 W:World} {σ:AHeap} {res:(Ex × List Value) × AHeap}
theorem put_defers (a:Go.Act) (d:Option Tmp) (v:Value):(a.put d v).defers=a.defers:=by cases d<;>rfl
theorem op_step {o:Oper} {fr:List Value} {a:Go.Act} {next:Go.Act→World→Prop} {Q:Exit→Go.Act→World→Prop} {v:Value} {σ':AHeap} (hG:P.globals.size≤W0.heap.size) (hcf:CFok P W0 cf) (R:Rel ι W0 σ W) (r:FR ι W0.heap.size fr a.tmps)
  (h:(σ'=σ∧(opSem P o fr=.tot v∨opSem P o fr=.pure true v))∨(∃ h,opSem P o fr=.act h∧h σ=some (v,σ'))∨(∃ f args,opSem P o fr=.call f args∧cf f args σ=some (v,σ')))
  (hn:∀ κ a1 W1,ι.le κ→Rel κ W0 σ' W1→FR κ W0.heap.size (putD fr o.dst v) a1.tmps→a1.defers=a.defers→next a1 W1):o.wp P a W next Q:=by
 unfold Oper.wp
 rcases h with ⟨rfl,h⟩|⟨g,h1,h2⟩|⟨f,args,h1,h2⟩
 ·obtain ⟨v',hv,hrun⟩:=op_value (W:=W) hG r h
  rw [hrun,Oper.upon_value]
  exact hn ι _ _ ι.le_refl R (r.put o.dst hv) (put_defers _ _ _)
 ·obtain ⟨κ,W',nx,v',hle,R',hrun,ho,hv⟩:=op_act hG R r h1 h2
  rw [hrun]
  cases nx with
  |value x=>
   simp only [outV,Option.some.injEq] at ho
   subst ho
   rw [Oper.upon_value]
   exact hn κ _ _ hle R' ((r.mono hle).put o.dst hv) (put_defers _ _ _)
  |skip=>
   simp only [outV,Option.some.injEq] at ho
   subst ho
   rw [Oper.upon_skip]
   exact hn κ _ _ hle R' ((r.mono hle).put o.dst hv) (put_defers _ _ _)
  |_=>simp [outV] at ho
 ·obtain ⟨args',hA,hrun⟩:=op_call (W:=W) hG r h1
  obtain ⟨hc,hcalls⟩:=hcf f args σ v σ' h2 ι W args' R hA
  rw [hrun,hc,Oper.upon_enter]
  refine hcalls.mono fun e w' he=>?_
  obtain ⟨v',κ,rfl,hle,hv,R'⟩:=he
  exact hn κ _ _ hle R' ((r.mono hle).put o.dst hv) (put_defers _ _ _)
theorem compRes_exec {o:Oper} {fr:List Value} {k:OpRes→Pg} {σ:AHeap} {res:(Ex × List Value) × AHeap} (h:exec cf N (compRes P o fr k) σ=some res):exec cf N (k (opSem P o fr)) σ=some res:=by
 unfold compRes at h
 split at h
 ·rename_i c hop
  unfold opSem
  rw [hop]
  simp only
  split at h
  ·rename_i a ha
   rw [ha]
   unfold asSome at h
   split at h
   ·exact h
   ·cases h
  ·rename_i ha
   rw [ha]
   exact h
  ·cases h
 ·rename_i t x i hop
  unfold opSem
  rw [hop]
  simp only
  split at h
  ·rename_i a n c ha
   rw [ha]
   unfold asSome at h
   split at h
   ·exact h
   ·cases h
  ·exact h
 ·rename_i c hop
  split at h
  ·rename_i f hf
   split at h
   ·rename_i g hg
    unfold opSem
    rw [hop]
    simp only [hf,hg]
    exact h
   ·rename_i hg
    unfold asFunc at h
    split at h
    ·rename_i g x y hv
     unfold opSem
     rw [hop]
     simp only [hf,hg,callV,hv]
     exact h
    ·cases h
  ·exact h
 ·exact h
theorem compOp_exec {x:IOp} {fr:List Value} {k:List Value→Pg}
  (h:exec cf N (compOp P x fr k) σ=some res):
  ∃ v σ',((σ'=σ∧(opSem P x.2 fr=.tot v∨opSem P x.2 fr=.pure true v))∨(∃ h,opSem P x.2 fr=.act h∧h σ=some (v,σ'))∨(∃ f args,opSem P x.2 fr=.call f args∧cf f args σ=some (v,σ')))∧
   exec cf N (k (putD fr x.2.dst v)) σ'=some res:=by
 unfold compOp at h
 have h:=compRes_exec h
 split at h
 ·cases h
 ·rename_i v hv
  exact ⟨v,σ,.inl ⟨rfl,.inl hv⟩,h⟩
 ·rename_i c v hv
  obtain ⟨rfl,h2⟩:=exec_bif h
  exact ⟨v,σ,.inl ⟨rfl,.inr hv⟩,h2⟩
 ·rename_i g hg
  simp only [exec] at h
  split at h
  ·rename_i v σ' hgs
   exact ⟨v,σ',.inr (.inl ⟨g,hg,hgs⟩),typedR_exec (k:=fun v'=>k (putD fr x.2.dst v')) h⟩
  ·cases h
 ·rename_i f args hg
  simp only [exec] at h
  split at h
  ·rename_i v σ' hgs
   exact ⟨v,σ',.inr (.inr ⟨f,args,hg,hgs⟩),typedR_exec (k:=fun v'=>k (putD fr x.2.dst v')) h⟩
  ·cases h
end
end Go.Pg
namespace Go.Pg
section
variable {P:Program} {cf:CallF} {N:Nat} {ι:Inj} {W0 W:World} {σ:AHeap} {res:(Ex × List Value) × AHeap} {ops:Array Oper}
theorem getD_of {ts:Array Value} {d:Nat} {v:Value} (h:ts.getD d Go.undef=v) (hv:v≠Go.undef):ts[d]?=some v:=by
 rw [Array.getD_eq_getD_getElem?] at h
 cases hd:ts[d]? with
 |none=>rw [hd] at h;simp at h;exact absurd h.symm hv
 |some x=>rw [hd] at h;simp at h;rw [h]
theorem yield_bool {fr:List Value} {ts:Array Value} {j d:Nat} {b:Bool} (r:FR ι W0.heap.size fr ts) (hs:slotOf ops j=some d) (hb:getD fr d=.bool b):yielded ops ts j=some b:=by
 have:=r.2 d
 rw [hb] at this
 have h2:=getD_of this.bool_inv nofun
 unfold yielded
 unfold slotOf at hs
 rw [hs]
 simp only [Option.bind_some,h2]
theorem yield_tuple {fr:List Value} {ts:Array Value} {j d:Nat} {t:Array Value} (r:FR ι W0.heap.size fr ts) (hs:slotOf ops j=some d) (hb:getD fr d=.tuple t):yielded ops ts j=none:=by
 have:=r.2 d
 rw [hb] at this
 obtain ⟨t',h1,_⟩:=this.tuple_inv
 unfold yielded
 unfold slotOf at hs
 rw [hs]
 simp only [Option.bind_some]
 rw [Array.getD_eq_getD_getElem?] at h1
 cases hd:ts[d]? with
 |none=>rfl
 |some x=>rw [hd] at h1;simp at h1;rw [h1]
theorem yield_put {a:Go.Act} {o:Oper} {v:Value} {j d:Nat} (hs:slotOf ops j=some d) (hd:dstNe d o=true):yielded ops (a.put o.dst v).tmps j=yielded ops a.tmps j:=by
 unfold yielded
 unfold slotOf at hs
 rw [hs]
 simp only [Option.bind_some]
 cases ho:o.dst with
 |none=>rfl
 |some e=>
  unfold dstNe at hd
  rw [ho] at hd
  have hne:e≠d:=by
   intro he
   subst he
   simp at hd
  have:(a.put (some e) v).tmps[d]?=a.tmps[d]?:=by
   show (a.tmps.setIfInBounds e v)[d]?=_
   rw [Array.getElem?_setIfInBounds,if_neg hne]
  rw [this]
theorem yield_undef {a:Go.Act} {o:Oper} {j d:Nat} (hs:slotOf ops j=some d) (h:o.dst=some d∨yielded ops a.tmps j=none):yielded ops (a.put o.dst Go.undef).tmps j=none:=by
 unfold yielded at h ⊢
 unfold slotOf at hs
 rw [hs] at h ⊢
 simp only [Option.bind_some] at h ⊢
 cases ho:o.dst with
 |none=>
  rw [ho] at h
  rcases h with h|h
  ·cases h
  ·exact h
 |some e=>
  show (match (a.tmps.setIfInBounds e Go.undef)[d]? with|some (.bool b)=>some b|_=>none)=none
  rw [Array.getElem?_setIfInBounds]
  by_cases he:e=d
  ·rw [if_pos he]
   split
   ·rename_i b hb
    split at hb
    ·simp [Go.undef] at hb
    ·cases hb
   ·rfl
  ·rw [if_neg he]
   rw [ho] at h
   rcases h with h|h
   ·simp at h;exact absurd h he
   ·exact h
def IX (ops:Array Oper) (xs:List IOp):Prop:=∀ x∈xs,ops[x.1]?=some x.2
theorem wpOps_do {Q:Exit→Go.Act→World→Prop} {i:Nat} {o:Oper} {rest:List Nat} {a:Go.Act} (ho:ops[i]?=some o) (hw:Region.wanted o (yielded ops a.tmps)=true) (h:o.wp P a W (wpOps P ops Q rest) Q):wpOps P ops Q (i::rest) a W:=by
 simp only [wpOps,ho,hw,if_true]
 exact .inl h
theorem wpOps_skip {Q:Exit→Go.Act→World→Prop} {i:Nat} {o:Oper} {rest:List Nat} {a:Go.Act} (ho:ops[i]?=some o) (hw:Region.wanted o (yielded ops a.tmps)=false) (h:wpOps P ops Q rest (a.put o.dst Go.undef) W):wpOps P ops Q (i::rest) a W:=by
 simp only [wpOps,ho,hw,Bool.false_eq_true,if_false]
 exact h
theorem wanted_none {o:Oper} {y:Nat→Option Bool} (h:o.guard=none):Region.wanted o y=true:=by unfold Region.wanted;rw [h]
theorem wanted_some {o:Oper} {y:Nat→Option Bool} {j:Nat} {w:Bool} (h:o.guard=some (j,w)):Region.wanted o y=(y j==some w):=by unfold Region.wanted;rw [h]
theorem sameG_inv {g:Nat × Bool} {h:Option (Nat × Bool)} (e:sameG g h=true):h=some g:=by
 unfold sameG at e
 split at e
 ·simp only [Bool.and_eq_true,Nat.beq_eq,beq_iff_eq] at e
  rw [show g=(g.1,g.2) from rfl,e.1,e.2]
 ·cases e
theorem FR.undefPut {fr:List Value} {a:Go.Act} (r:FR ι W0.heap.size fr a.tmps) (d:Option Tmp):FR ι W0.heap.size (putD fr d undef') (a.put d Go.undef).tmps:=r.put d VR.undef
theorem FR.topPut {fr:List Value} {a:Go.Act} (r:FR ι W0.heap.size fr a.tmps) (d:Option Tmp) (v:Value):FR ι W0.heap.size (putD fr d top) (a.put d v).tmps:=r.put d (.top v)
structure Keeps (ops:Array Oper) (ι:Inj) (B:Nat) (run:List IOp) (a a':Go.Act):Prop where
 defers:a'.defers=a.defers
 yields:∀ j e,slotOf ops j=some e→(run.all fun y=>dstNe e y.2)=true→yielded ops a'.tmps j=yielded ops a.tmps j
 frame:∀ fr,FR ι B fr a.tmps→FR ι B (poisonOps fr run) a'.tmps
theorem Keeps.refl {a:Go.Act}:Keeps ops ι W0.heap.size [] a a:=⟨rfl,fun _ _ _ _=>rfl,fun _ r=>r⟩
theorem poison_append (fr:List Value) (l m:List IOp):poisonOps fr (l++m)=poisonOps (poisonOps fr l) m:=by
 induction l generalizing fr with
 |nil=>rfl
 |cons x l ih=>exact ih _
theorem Keeps.trans {l m:List IOp} {a b c:Go.Act} (h:Keeps ops ι W0.heap.size l a b) (k:Keeps ops ι W0.heap.size m b c):Keeps ops ι W0.heap.size (l++m) a c:=
 ⟨k.defers.trans h.defers,fun j e hs hall=>by
  simp only [List.all_append,Bool.and_eq_true] at hall
  rw [k.yields j e hs hall.2,h.yields j e hs hall.1],fun fr r=>by rw [poison_append];exact k.frame _ (h.frame fr r)⟩
theorem Keeps.one {y:IOp} {a:Go.Act} (v:Value):Keeps ops ι W0.heap.size [y] a (a.put y.2.dst v):=
 ⟨put_defers _ _ _,fun j e hs hall=>by
  simp only [List.all_cons,List.all_nil,Bool.and_true] at hall
  exact yield_put hs hall,fun fr r=>r.topPut _ _⟩
theorem skip_run {Q:Exit→Go.Act→World→Prop} {i:Nat} {g:Nat × Bool} {d:Nat} (hd:slotOf ops g.1=some d):∀ (todo:List IOp) (m:Nat) (a:Go.Act) (rest:List Nat),
  IX ops todo→(∀ (t:Nat) y,todo[t]?=some y→y.1=m+t)→i≤m→(todo.all fun y=>dstNe d y.2)=true→(∀ y∈todo,within i g y=true)→yielded ops a.tmps g.1≠some g.2→
  (∀ q,i≤q→q<m→∀ e,slotOf ops q=some e→yielded ops a.tmps q=none)→
  (∀ a',Keeps ops ι W0.heap.size todo a a'→wpOps P ops Q rest a' W)→
  wpOps P ops Q (todo.map (·.1)++rest) a W
 |[],m,a,rest,_,_,_,_,_,_,_,hn=>hn a Keeps.refl
 |y::todo,m,a,rest,hix,hc,hi,hne,hw,hy,hq,hn=>by
  have hyi:=hix y (by simp)
  have hym:y.1=m:=hc 0 y rfl
  simp only [List.all_cons,Bool.and_eq_true] at hne
  have hnone0:∀ q,slotOf ops q=none→yielded ops a.tmps q=none:=by
   intro q hs
   unfold yielded
   unfold slotOf at hs
   rw [hs]
   try rfl
  have hwant:Region.wanted y.2 (yielded ops a.tmps)=false:=by
   have hwy:=hw y (by simp)
   unfold within at hwy
   simp only [Bool.or_eq_true] at hwy
   rcases hwy with h|h
   ·rw [wanted_some (show y.2.guard=some (g.1,g.2) from sameG_inv h)]
    simpa using hy
   ·split at h
    ·rename_i j w hg
     simp only [Bool.and_eq_true,Nat.ble_eq,Nat.blt] at h
     rw [wanted_some hg]
     have hnone:yielded ops a.tmps j=none:=by
      cases hs:slotOf ops j with
      |none=>exact hnone0 j hs
      |some e=>exact hq j h.1 (by omega) e hs
     rw [hnone]
     try rfl
    ·cases h
  refine wpOps_skip hyi hwant ?_
  have hk1:Keeps ops ι W0.heap.size [y] a (a.put y.2.dst Go.undef):=Keeps.one _
  refine skip_run hd todo (m+1) _ rest (fun z hz=>hix z (by simp [hz])) (fun t z hz=>by have:=hc (t+1) z (by simpa using hz);omega) (by omega) hne.2 (fun z hz=>hw z (by simp [hz]))
   (by rw [hk1.yields _ _ hd (by simp [hne.1])];exact hy) ?_ fun a' hk=>hn a' (hk1.trans hk)
  intro q h1 h2 e he
  by_cases hqm:q=m
  ·refine yield_undef he (.inl ?_)
   subst hqm
   unfold slotOf at he
   rw [←hym,hyi] at he
   exact he
  ·exact yield_undef he (.inr (hq q h1 (by omega) e he))
end
end Go.Pg
namespace Go.Pg
section
variable {P:Program} {cf:CallF} {N:Nat} {ι:Inj} {W0 W:World} {σ:AHeap} {res:(Ex × List Value) × AHeap} {ops:Array Oper}
theorem span_spec (p:IOp→Bool):∀ l:List IOp,l=(spanW p l).1++(spanW p l).2∧∀ y∈(spanW p l).1,p y=true
 |[]=>⟨rfl,fun y h=>by cases h⟩
 |x::l=>by
  obtain ⟨h1,h2⟩:=span_spec p l
  unfold spanW
  cases hp:p x with
  |true=>
   simp only [cond_true]
   refine ⟨by rw [List.cons_append,←h1],fun y hy=>?_⟩
   rcases List.mem_cons.1 hy with rfl|hy
   ·exact hp
   ·exact h2 y hy
  |false=>simp only [cond_false];exact ⟨rfl,fun y h=>by cases h⟩
def Consec (xs:List IOp) (m:Nat):Prop:=∀ (t:Nat) y,xs[t]?=some y→y.1=m+t
theorem Consec.tail {x:IOp} {xs:List IOp} {m:Nat} (h:Consec (x::xs) m):Consec xs (m+1):=fun t y hy=>by have:=h (t+1) y (by simpa using hy);omega
theorem Consec.left {xs ys:List IOp} {m:Nat} (h:Consec (xs++ys) m):Consec xs m:=fun t y hy=>h t y (by rw [List.getElem?_append_left (List.getElem?_eq_some_iff.1 hy).1];exact hy)
theorem Consec.right {xs ys:List IOp} {m:Nat} (h:Consec (xs++ys) m):Consec ys (m+xs.length):=fun t y hy=>by
 have:=h (xs.length+t) y (by rw [List.getElem?_append_right (by omega)];simpa using hy)
 omega
theorem pick_wp {p:Oper} {a:Go.Act} {next:Go.Act→World→Prop} {Q:Exit→Go.Act→World→Prop} {d:Nat} {x y:Operand} {t:Bool} (hop:p.op=.pick (.tmp d) x y) (hd:a.tmps[d]?=some (.bool t)) (h:next (a.put p.dst (if t then a.eval x else a.eval y)) W):p.wp P a W next Q:=by
 unfold Oper.wp execOp
 rw [hop]
 have:a.eval (.tmp d)=.bool t:=by
  show a.tmps.getD d Go.undef=_
  rw [Array.getD_eq_getD_getElem?,hd]
  try rfl
 simp only [this]
 exact h
theorem yield_slot {ts:Array Value} {j d:Nat} {b:Bool} (hs:slotOf ops j=some d) (h:yielded ops ts j=some b):ts[d]?=some (.bool b):=by
 unfold yielded at h
 unfold slotOf at hs
 rw [hs] at h
 simp only [Option.bind_some] at h
 split at h
 ·rename_i b' hb
  cases h
  exact hb
 ·cases h
theorem group_sound {Q:Exit→Go.Act→World→Prop} {i j d:Nat} {b w:Bool} {run:List IOp} {p:IOp} {fr fr1:List Value} {v:Value} {a:Go.Act} {rest:List Nat} (hix:IX ops (run++[p])) (hc:Consec (run++[p]) i) (hd:slotOf ops j=some d)
  (hw:∀ y∈run,within i (j,w) y=true) (hne:(run.all fun y=>dstNe d y.2)=true) (hy:yielded ops a.tmps j=some b) (hp:isPickOf ops j p.2=true) (hv:pickB P b w p.2 fr1=some v)
  (hG:P.globals.size≤W0.heap.size) (r:FR ι W0.heap.size fr a.tmps) (hwant:∀ a':Go.Act,Keeps ops ι W0.heap.size run a a'→Region.wanted p.2 (yielded ops a'.tmps)=true)
  (hrun:b=w→∀ K:List Nat,(∀ a',FR ι W0.heap.size fr1 a'.tmps→Keeps ops ι W0.heap.size run a a'→wpOps P ops Q K a' W)→wpOps P ops Q (run.map (·.1)++K) a W)
  (hn:∀ a',FR ι W0.heap.size (putD (poisonOps fr run) p.2.dst v) a'.tmps→Keeps ops ι W0.heap.size (run++[p]) a a'→wpOps P ops Q rest a' W):
  wpOps P ops Q ((run++[p]).map (·.1)++rest) a W:=by
 have hpi:=hix p (by simp)
 have fin:∀ a':Go.Act,Keeps ops ι W0.heap.size run a a'→(b=w→FR ι W0.heap.size fr1 a'.tmps)→wpOps P ops Q (p.1::rest) a' W:=by
  intro a' hk hfr1
  have hyb:a'.tmps[d]?=some (.bool b):=yield_slot hd (by rw [hk.yields j d hd hne];exact hy)
  refine wpOps_do hpi (hwant a' hk) ?_
  have done:∀ u,VR ι W0.heap.size v u→wpOps P ops Q rest (a'.put p.2.dst u) W:=fun u hu=>
   hn _ ((hk.frame fr r).put _ hu) (hk.trans (Keeps.one u))
  unfold isPickOf at hp
  split at hp
  ·rename_i c x y d' hop hs
   rw [hd] at hs
   cases hs
   simp only [Nat.beq_eq] at hp
   subst hp
   refine pick_wp hop hyb (done _ ?_)
   unfold pickB at hv
   rw [hop] at hv
   split at hv
   ·rename_i heq
    cases heq
    split at hv
    ·rename_i xb hx
     cases hv
     cases b with
     |true=>
      have:=ev_sound (P:=P) hG (hfr1 rfl) x
      rw [hx] at this
      simpa using this
     |false=>exact .bool _
    ·cases hv
   ·rename_i heq
    cases heq
    split at hv
    ·rename_i xb hx
     cases hv
     cases b with
     |false=>
      have:=ev_sound (P:=P) hG (hfr1 rfl) y
      rw [hx] at this
      simpa using this
     |true=>exact .bool _
    ·cases hv
   ·cases hv
  ·cases hp
 rw [List.map_append,List.append_assoc]
 by_cases hbw:b=w
 ·exact hrun hbw _ fun a' q1 q2=>fin a' q2 fun _=>q1
 ·refine skip_run (ι:=ι) (W0:=W0) (i:=i) (g:=(j,w)) hd run i a _ (fun y hy=>hix y (by simp [hy])) hc.left (Nat.le_refl _) hne hw (by rw [hy];simpa using hbw) (fun q h1 h2=>by omega) fun a' hk=>?_
  exact fin a' hk fun e=>absurd e hbw
theorem pure_sound {Q:Exit→Go.Act→World→Prop} (hG:P.globals.size≤W0.heap.size):∀ (n:Nat) (g:Nat × Bool) (run:List IOp) (fr fr':List Value) (m:Nat) (a:Go.Act) (d:Nat) (K:List Nat),pureOps P ops n g run fr=some fr'→IX ops run→Consec run m→
  slotOf ops g.1=some d→(run.all fun y=>dstNe d y.2)=true→yielded ops a.tmps g.1=some g.2→FR ι W0.heap.size fr a.tmps→
  (∀ a',FR ι W0.heap.size fr' a'.tmps→Keeps ops ι W0.heap.size run a a'→wpOps P ops Q K a' W)→wpOps P ops Q (run.map (·.1)++K) a W
 |0,g,run,fr,fr',m,a,d,K,h,_,_,_,_,_,_,_=>by cases h
 |n+1,g,[],fr,fr',m,a,d,K,h,_,_,_,_,_,r,hn=>by
  simp only [pureOps,Option.some.injEq] at h
  subst h
  exact hn a r Keeps.refl
 |n+1,g,x::xs,fr,fr',m,a,d,K,h,hix,hc,hd,hne,hy,r,hn=>by
  unfold pureOps at h
  have hxi:=hix x (by simp)
  cases hs:sameG g x.2.guard with
  |true=>
   rw [hs] at h
   simp only [cond_true] at h
   split at h
   ·rename_i v hv
    simp only [List.all_cons,Bool.and_eq_true] at hne
    refine wpOps_do hxi (by rw [wanted_some (show x.2.guard=some (g.1,g.2) from sameG_inv hs),hy];simp) ?_
    obtain ⟨v',hv',hrun⟩:=op_value (W:=W) (o:=x.2) hG r (.inl hv)
    unfold Oper.wp
    rw [hrun,Oper.upon_value]
    have hk1:Keeps ops ι W0.heap.size [x] a (a.put x.2.dst v'):=Keeps.one _
    exact pure_sound hG n g xs _ fr' (m+1) _ d K h (fun z hz=>hix z (by simp [hz])) hc.tail hd hne.2 (by rw [hk1.yields _ _ hd (by simp [hne.1])];exact hy) (r.put _ hv') fun a' q1 q2=>hn a' q1 (hk1.trans q2)
   ·cases h
  |false=>
   rw [hs] at h
   simp only [cond_false] at h
   split at h
   ·cases h
   ·rename_i j w hg
    split at h
    ·cases h
    ·rename_i d' hd'
     split at h
     ·rename_i b hb
      obtain ⟨hsp,hwi⟩:=span_spec (within x.1 (j,w)) (x::xs)
      split at h
      ·rename_i run1 p rest1 hspan
       rw [hspan] at hsp hwi
       simp only at hsp hwi
       split at h
       ·rename_i fr1 hfr1
        split at h
        ·rename_i v hv hcond
         simp only [Bool.and_eq_true] at hcond
         obtain ⟨⟨hp,hpg⟩,hne1⟩:=hcond
         have hx1:x.1=m:=hc 0 x rfl
         rw [hsp] at hix hc hne
         have hsplit:run1++p::rest1=(run1++[p])++rest1:=by simp
         rw [hsplit] at hix hc hne
         rw [hsp,hsplit,List.map_append,List.append_assoc]
         simp only [List.all_append,Bool.and_eq_true] at hne
         refine group_sound (i:=m) (fun z hz=>hix z (by simp only [List.mem_append];exact .inl (by simpa using hz))) hc.left hd' (by rw [←hx1];exact hwi) hne1 (yield_bool r hd' hb) hp hv hG r ?_ ?_ ?_
         ·intro a' hk
          rw [wanted_some (show p.2.guard=some (g.1,g.2) from sameG_inv hpg),hk.yields _ _ hd hne.1.1,hy]
          simp
         ·intro hbw K' hK'
          refine pure_sound hG n (j,w) run1 fr fr1 m a d' K' hfr1 (fun z hz=>hix z (by simp only [List.mem_append];exact .inl (.inl hz))) hc.left.left hd' hne1 (by rw [yield_bool r hd' hb,hbw]) r hK'
         ·intro a' q1 q2
          refine pure_sound hG n g rest1 _ fr' (m+(run1++[p]).length) a' d K h (fun z hz=>hix z (by simp only [List.mem_append];exact .inr hz)) hc.right hd hne.2 (by rw [q2.yields _ _ hd (by simp only [List.all_append,Bool.and_eq_true];exact hne.1)];exact hy) q1 fun a2 q3 q4=>hn a2 q3 ?_
          have:=q2.trans q4
          rw [hsp,hsplit]
          exact this
        ·cases h
       ·cases h
      ·cases h
     ·cases h
end
end Go.Pg
namespace Go.Pg
section
variable {P:Program} {cf:CallF} {N:Nat} {ι:Inj} {W0:World} {σ:AHeap} {res:(Ex × List Value) × AHeap} {ops:Array Oper}
theorem setD_self:∀ (l:List Value) (d:Nat) (v:Value),getD l d=v→v≠ .tuple #[]→setD l d v=l
 |[],_,_,_,_=>rfl
 |x::l,0,v,h,_=>by simp only [getD] at h;subst h;try rfl
 |x::l,n+1,v,h,hv=>by simp only [getD] at h;simp only [setD];rw [setD_self l n v h hv]
def SameBut (w:Nat→Prop) (fr fr':List Value):Prop:=fr'.length=fr.length∧∀ t,¬ w t→getD fr' t=getD fr t
theorem SameBut.refl (w:Nat→Prop) (fr:List Value):SameBut w fr fr:=⟨rfl,fun _ _=>rfl⟩
theorem SameBut.trans {w:Nat→Prop} {a b c:List Value} (h:SameBut w a b) (k:SameBut w b c):SameBut w a c:=⟨k.1.trans h.1,fun t ht=>(k.2 t ht).trans (h.2 t ht)⟩
theorem SameBut.mono {w w':Nat→Prop} {a b:List Value} (h:SameBut w a b) (hw:∀ t,w t→w' t):SameBut w' a b:=⟨h.1,fun t ht=>h.2 t fun e=>ht (hw t e)⟩
theorem SameBut.set {w:Nat→Prop} (fr:List Value) {d:Nat} (v:Value) (h:w d):SameBut w fr (setD fr d v):=by
 refine ⟨setD_length _ _ _,fun t ht=>?_⟩
 rw [getD_setD,if_neg]
 rintro ⟨rfl,_⟩
 exact ht h
theorem SameBut.put {w:Nat→Prop} (fr:List Value) (d:Option Tmp) (v:Value) (h:∀ e,d=some e→w e):SameBut w fr (putD fr d v):=by
 cases d with
 |none=>exact .refl _ _
 |some d=>exact .set fr v (h d rfl)
theorem SameBut.poisonOps {w:Nat→Prop}:∀ (l:List IOp) (fr:List Value),(∀ x∈l,∀ e,x.2.dst=some e→w e)→SameBut w fr (poisonOps fr l)
 |[],fr,_=>.refl _ _
 |x::l,fr,h=>(SameBut.put fr x.2.dst top (h x (by simp))).trans (SameBut.poisonOps l _ fun y hy=>h y (by simp [hy]))
def WrL (xs:List IOp) (t:Nat):Prop:=∃ x∈xs,x.2.dst=some t
theorem ops_sound {Q:Exit→Go.Act→World→Prop} {k:List Value→Pg} (hG:P.globals.size≤W0.heap.size) (hcf:CFok P W0 cf):∀ (n:Nat) (xs:List IOp) (m:Nat) (fr:List Value) (σ:AHeap) (ι:Inj) (W:World) (a:Go.Act),
  IX ops xs→Consec xs m→exec cf N (compOps P ops n xs fr k) σ=some res→Rel ι W0 σ W→FR ι W0.heap.size fr a.tmps→
  (∀ κ fr' σ' a' W',ι.le κ→Rel κ W0 σ' W'→FR κ W0.heap.size fr' a'.tmps→a'.defers=a.defers→SameBut (WrL xs) fr fr'→exec cf N (k fr') σ'=some res→Q .normal a' W')→wpOps P ops Q (xs.map (·.1)) a W
 |0,xs,m,fr,σ,ι,W,a,_,_,h,_,_,_=>by cases h
 |n+1,[],m,fr,σ,ι,W,a,hix,hc,h,R,r,hn=>hn ι fr σ a W ι.le_refl R r rfl (.refl _ _) h
 |n+1,x::xs,m,fr,σ,ι,W,a,hix,hc,h,R,r,hn=>by
  have hxi:=hix x (by simp)
  have step:Region.wanted x.2 (yielded ops a.tmps)=true→exec cf N (compOp P x fr fun fr=>compOps P ops n xs fr k) σ=some res→wpOps P ops Q (x.1::xs.map (·.1)) a W:=by
   intro hw h0
   refine wpOps_do hxi hw ?_
   obtain ⟨v,σ',h1,h2⟩:=compOp_exec h0
   refine op_step hG hcf R r h1 fun κ a1 W1 hle R1 r1 hd=>?_
   exact ops_sound hG hcf n xs (m+1) _ σ' κ W1 a1 (fun z hz=>hix z (by simp [hz])) hc.tail h2 R1 r1 fun κ' fr' σ2 a' W' hle' R' r' hd' hot hk=>hn κ' fr' σ2 a' W' (Inj.le_trans hle hle') R' r' (hd'.trans hd) ((SameBut.put fr x.2.dst _ fun e he=>⟨x,by simp,he⟩).trans (hot.mono fun t ⟨y,hy,hd⟩=>⟨y,by simp [hy],hd⟩)) hk
  have skip:Region.wanted x.2 (yielded ops a.tmps)=false→exec cf N (compOps P ops n xs (putD fr x.2.dst undef') k) σ=some res→wpOps P ops Q (x.1::xs.map (·.1)) a W:=by
   intro hw h0
   refine wpOps_skip hxi hw ?_
   exact ops_sound hG hcf n xs (m+1) _ σ ι W _ (fun z hz=>hix z (by simp [hz])) hc.tail h0 R (r.undefPut _) fun κ' fr' σ2 a' W' hle' R' r' hd' hot hk=>hn κ' fr' σ2 a' W' hle' R' r' (by rw [hd',put_defers]) ((SameBut.put fr x.2.dst _ fun e he=>⟨x,by simp,he⟩).trans (hot.mono fun t ⟨y,hy,hd⟩=>⟨y,by simp [hy],hd⟩)) hk
  simp only [List.map_cons]
  unfold compOps at h
  cases hg:x.2.guard with
  |none=>
   rw [hg] at h
   exact step (wanted_none hg) h
  |some g=>
   obtain ⟨j,w⟩:=g
   rw [hg] at h
   simp only at h
   split at h
   ·cases h
   ·rename_i d hd
    split at h
    ·rename_i t ht
     exact skip (by rw [wanted_some hg,yield_tuple r hd ht];rfl) h
    ·rename_i b hb
     have hyb:=yield_bool (W0:=W0) r hd hb
     split at h
     ·rename_i fr1 rest1 hgrp
      split at hgrp
      ·rename_i run p rest hspan
       replace hgrp:=(bif_nil hgrp).2
       split at hgrp
       ·rename_i fr2 hpure
        split at hgrp
        ·rename_i v hv hcond
         simp only [Option.some.injEq,Prod.mk.injEq] at hgrp
         obtain ⟨rfl,rfl⟩:=hgrp
         simp only [Bool.and_eq_true] at hcond
         obtain ⟨⟨hp,hne⟩,hpg⟩:=hcond
         obtain ⟨hsp,hwi⟩:=span_spec (within x.1 (j,w)) (x::xs)
         rw [hspan] at hsp hwi
         simp only at hsp hwi
         have hx1:x.1=m:=hc 0 x rfl
         rw [hsp] at hix hc
         have hsplit:run++p::rest=(run++[p])++rest:=by simp
         rw [hsplit] at hix hc
         have hgn:p.2.guard=none:=by
          cases hq:p.2.guard with
          |none=>rfl
          |some _=>rw [hq] at hpg;cases hpg
         have e1:x.1::xs.map (·.1)=(x::xs).map (·.1):=rfl
         rw [e1,hsp,hsplit,List.map_append]
         refine group_sound (i:=m) (fun z hz=>hix z (by simp only [List.mem_append];exact .inl (by simpa using hz))) hc.left hd (by rw [←hx1];exact hwi) hne hyb hp hv hG r (fun a' _=>wanted_none hgn) ?_ ?_
         ·intro hbw K' hK'
          exact pure_sound hG (n+1) (j,w) run fr fr2 m a d K' hpure (fun z hz=>hix z (by simp only [List.mem_append];exact .inl (.inl hz))) hc.left.left hd hne (by rw [hyb,hbw]) r hK'
         ·intro a' q1 q2
          exact ops_sound hG hcf n rest _ _ σ ι W a' (fun z hz=>hix z (by simp only [List.mem_append];exact .inr hz)) hc.right h R q1 fun κ' fr' σ2 a2 W' hle' R' r' hd' hot hk=>hn κ' fr' σ2 a2 W' hle' R' r' (by rw [hd',q2.defers]) (by
           rw [hsp]
           refine (SameBut.poisonOps run fr fun y hy e he=>⟨y,by simp [hy],he⟩).trans ((SameBut.put _ p.2.dst _ fun e he=>⟨p,by simp,he⟩).trans (hot.mono fun t ⟨y,hy,hd⟩=>⟨y,?_,hd⟩))
           rw [hsplit]
           simp only [List.mem_append]
           exact .inr hy) hk
        ·cases hgrp
       ·cases hgrp
      ·cases hgrp
     ·cases hbw:b==w with
      |true=>
       rw [hbw] at h
       simp only [cond_true] at h
       simp only [beq_iff_eq] at hbw
       subst hbw
       rw [setD_self fr d _ hb nofun] at h
       exact step (by rw [wanted_some hg,hyb];simp) h
      |false=>
       rw [hbw] at h
       simp only [cond_false] at h
       have hbw':b=!w:=by cases b<;>cases w<;>simp_all
       subst hbw'
       rw [setD_self fr d _ hb nofun] at h
       exact skip (by rw [wanted_some hg,hyb];cases w<;>rfl) h
    ·cases h
end
end Go.Pg
namespace Go.Pg
variable {P:Program} {W0:World} {cf:CallF} {N:Nat} {res:(Ex × List Value) × AHeap} {ops:Array Oper}
theorem allIOps_get (ops:Array Oper) (t:Nat):(allIOps ops)[t]?=(ops[t]?).map fun o=>(t,o):=by
 simp [allIOps,List.getElem?_zipIdx]
 cases ops[t]?<;>rfl
theorem allIOps_ix (ops:Array Oper):IX ops (allIOps ops):=by
 intro x hx
 obtain ⟨t,ht⟩:=List.getElem?_of_mem hx
 rw [allIOps_get] at ht
 cases ho:ops[t]? with
 |none=>rw [ho] at ht;cases ht
 |some o=>
  rw [ho] at ht
  cases ht
  exact ho
theorem allIOps_consec (ops:Array Oper):Consec (allIOps ops) 0:=by
 intro t y ht
 rw [allIOps_get] at ht
 cases ho:ops[t]? with
 |none=>rw [ho] at ht;cases ht
 |some o=>rw [ho] at ht;cases ht;simp
theorem allIOps_fst (ops:Array Oper):(allIOps ops).map (·.1)=List.range ops.size:=by
 apply List.ext_getElem?
 intro t
 rw [List.getElem?_map,allIOps_get]
 by_cases h:t<ops.size
 ·simp [h]
 ·simp [h]
theorem region_sound {Q:Exit→Go.Act→World→Prop} {id:Nat} {k:List Value→Pg} {fr:List Value} {σ:AHeap} {ι:Inj} {W:World} {a:Go.Act} (hG:P.globals.size≤W0.heap.size) (hcf:CFok P W0 cf)
  (h:exec cf N (compReg P ops false fr k) σ=some res) (R:Rel ι W0 σ W) (r:FR ι W0.heap.size fr a.tmps)
  (hn:∀ κ fr' σ' a' W',ι.le κ→Rel κ W0 σ' W'→FR κ W0.heap.size fr' a'.tmps→a'.defers=a.defers→SameBut (fun t=>∃ o∈ops,o.dst=some t) fr fr'→exec cf N (k fr') σ'=some res→Q .normal a' W'):(Code.region id ops false).wp P Q a W:=by
 apply wp_region
 rw [←allIOps_fst]
 exact ops_sound hG hcf _ _ 0 fr σ ι W a (allIOps_ix ops) (allIOps_consec ops) h R r fun κ fr' σ' a' W' h1 h2 h3 h4 h5 h6=>hn κ fr' σ' a' W' h1 h2 h3 h4 (h5.mono fun t ⟨x,hx,hd⟩=>⟨x.2,Array.mem_of_getElem? (allIOps_ix ops x hx),hd⟩) h6
end Go.Pg
namespace Go.Pg
section
variable {P:Program} {cf:CallF} {N:Nat} {res:(Ex × List Value) × AHeap} {ops:Array Oper} {bf:Array Nat}
def Look (h:Act) (v:Value) (σ:AHeap):Prop:=∃ σ',h σ=some (v,σ')
theorem allEq_eq {f:Value→Value→Bool} (hf:∀ a b,f a b=true→a=b):∀ (l m:List Value),allEq f l m=true→l=m
 |[],[],_=>rfl
 |a::l,b::m,h=>by
  simp only [allEq,Bool.and_eq_true] at h
  rw [hf a b h.1,allEq_eq hf l m h.2]
 |[],_::_,h=>by cases h
 |_::_,[],h=>by cases h
theorem optEq_eq {α:Type} {f:α→α→Bool} (hf:∀ a b,f a b=true→a=b):∀ (a b:Option α),optEq f a b=true→a=b
 |none,none,_=>rfl
 |some a,some b,h=>by rw [hf a b h]
 |none,some _,h=>by cases h
 |some _,none,h=>by cases h
theorem addrEq_eq (a b:Addr) (h:addrEq a b=true):a=b:=by
 obtain ⟨x,y,z⟩:=a
 obtain ⟨x',y',z'⟩:=b
 simp only [addrEq,Bool.and_eq_true,Nat.beq_eq] at h
 obtain ⟨⟨rfl,rfl⟩,h⟩:=h
 rw [optEq_eq (fun a b h=>Nat.eq_of_beq_eq_true h) _ _ h]
theorem veqF_eq:∀ (n:Nat) (a b:Value),veqF n a b=true→a=b:=by
 intro n
 induction n with
 |zero=>
  intro a b h
  unfold veqF at h
  split at h<;>simp_all
  ·rename_i s t
   cases s
   cases t
   rename_i x y
   cases x
   cases y
   simp_all
  ·exact optEq_eq addrEq_eq _ _ h
  ·exact optEq_eq addrEq_eq _ _ h.1.1
  ·exact optEq_eq (fun a b h=>Nat.eq_of_beq_eq_true h) _ _ h
 |succ n ih=>
  intro a b h
  unfold veqF at h
  split at h<;>simp_all
  ·rename_i s t
   cases s
   cases t
   rename_i x y
   cases x
   cases y
   simp_all
  ·exact optEq_eq addrEq_eq _ _ h
  ·exact optEq_eq addrEq_eq _ _ h.1.1
  ·exact optEq_eq (fun a b h=>Nat.eq_of_beq_eq_true h) _ _ h
  ·rename_i x y _
   have:=allEq_eq ih _ _ h
   exact Array.toList_inj.1 this
  ·rename_i x y _
   have:=allEq_eq ih _ _ h
   exact Array.toList_inj.1 this
  ·exact ⟨Array.toList_inj.1 (allEq_eq ih _ _ h.2.1),Array.toList_inj.1 (allEq_eq ih _ _ h.2.2)⟩
theorem eqv_eq {a b:Value} (h:eqv a b=true):a=b:=by
 unfold eqv at h
 rw [Bool.or_eq_true] at h
 rcases h with h|h
 ·exact veqF_eq 4 a b h
 ·unfold sameV at h
  exact @of_decide_eq_true _ (Classical.propDecidable _) h
theorem chkAt_look {h:Act} {v:Value} {σ:AHeap} (hc:chkAt h v σ=true):Look h v σ:=by
 unfold chkAt at hc
 split at hc
 ·rename_i v' σ' hh
  rw [←eqv_eq hc]
  exact ⟨σ',hh⟩
 ·cases hc
theorem chkAll_look {i:Nat} {σ:AHeap}:∀ {ld:List (Nat × Act × Value)},chkAll i bf σ ld=true→∀ r h v,(r,h,v)∈ld→unord bf r i=true→Look h v σ
 |[],_,r,h,v,hm,_=>by cases hm
 |(r0,h0,v0)::ld,hc,r,h,v,hm,hu=>by
  unfold chkAll keepU at hc
  dsimp only at hc
  rcases List.mem_cons.1 hm with e|hm
  ·cases e
   rw [hu] at hc
   simp only [cond_true,chks,Bool.and_eq_true] at hc
   exact chkAt_look hc.1
  ·cases hq:unord bf r0 i with
   |true=>
    rw [hq] at hc
    simp only [cond_true,chks,Bool.and_eq_true] at hc
    exact chkAll_look hc.2 r h v hm hu
   |false=>
    rw [hq] at hc
    exact chkAll_look hc r h v hm hu
theorem chkPast_look {i:Nat} {h:Act} {v:Value}:∀ {sn:List (Nat × AHeap)},chkPast i bf h v sn=true→∀ e σ,(e,σ)∈sn→unord bf e i=true→Look h v σ
 |[],_,e,σ,hm,_=>by cases hm
 |(e0,σ0)::sn,hc,e,σ,hm,hu=>by
  unfold chkPast keepU at hc
  dsimp only at hc
  rcases List.mem_cons.1 hm with q|hm
  ·cases q
   rw [hu] at hc
   simp only [cond_true,past,Bool.and_eq_true] at hc
   exact chkAt_look hc.1
  ·cases hq:unord bf e0 i with
   |true=>
    rw [hq] at hc
    simp only [cond_true,past,Bool.and_eq_true] at hc
    exact chkPast_look hc.2 e σ hm hu
   |false=>
    rw [hq] at hc
    exact chkPast_look hc e σ hm hu
theorem conv_act {src dst e:TypeId} {y:Value} {h:Act} (h1:P.underlying src=some (.slice e)) (h2:P.underlying dst=some .string) (hy:convV P src dst y=.act h):h=bytesToStringAct y:=by
 unfold convV at hy
 cases y<;>simp only [h1,h2] at hy<;>(try cases hy)<;>
 ·split at hy
  ·cases hy;try rfl
  ·cases hy
theorem quiet_same {o:Oper} {fr:List Value} {h:Act} {σ σ':AHeap} {v:Value} (hq:(hcOf P o).isQuiet=true) (ho:opSem P o fr=.act h) (hh:h σ=some (v,σ')):σ'=σ:=by
 unfold opSem at ho
 unfold hcOf at hq
 cases hop:o.op with
 |load t x=>
  rw [hop] at ho
  simp only at ho
  split at ho
  ·simp at ho
   subst ho
   unfold ldAt at hh
   split at hh
   ·cases hh
   ·rename_i d hd
    cases hdd:isAggD d with
    |true=>
     rw [hdd] at hh
     simp only [cond_true] at hh
     split at hh
     ·cases hh;try rfl
     ·cases hh
    |false=>
     rw [hdd] at hh
     simp only [cond_false] at hh
     split at hh
     ·cases hh;try rfl
     ·cases hh
  ·cases ho
 |lookup t m k ok=>
  rw [hop] at ho
  simp at ho
  subst ho
  unfold lookupAct at hh
  split at hh
  ·split at hh
   ·rename_i kt et hd _ _ kd z _ _
    cases hk:isKey kd (ev P fr k) with
    |true=>
     rw [hk] at hh
     simp only [cond_true] at hh
     split at hh<;>cases hh<;>rfl
    |false=>
     rw [hk] at hh
     simp only [cond_false] at hh
     cases hfl:flatK P kt (ev P fr k) with
     |true=>
      rw [hfl] at hh
      simp only [cond_true] at hh
      split at hh<;>cases hh<;>rfl
     |false=>rw [hfl] at hh;cases hh
   ·cases hh
  ·cases hh
 |convert src dst x=>
  rw [hop] at ho hq
  simp only at ho hq
  unfold convV at ho
  split at hq
  ·exact Bool.noConfusion (show false=true from hq)
  ·rename_i h1 h2
   rw [h1,h2] at ho
   have:=conv_act (y:=ev P fr x) h1 h2 (h:=h) (by unfold convV;rw [h1,h2];exact ho)
   subst this
   unfold bytesToStringAct at hh
   split at hh
   ·cases hh;try rfl
   ·split at hh
    ·split at hh
     ·cases hh;try rfl
     ·cases hh
    ·cases hh
   ·cases hh
  ·exact Bool.noConfusion (show false=true from hq)
 |call c=>
  rw [hop] at ho hq
  simp only at ho hq
  cases hc:c.callee with
  |builtin b=>
   rw [hc] at ho hq
   cases b with
   |len=>
    simp only at ho hq
    rcases hl:c.args.toList.map (ev P fr) with _|⟨y,_|⟨z,l⟩⟩
    ·rw [hl] at ho;cases ho
    ·rw [hl] at ho
     simp only [builtinV] at ho
     cases hd:(c.argTypes[0]?).bind P.underlying with
     |none=>rw [hd] at ho;cases ho
     |some d=>
      rw [hd] at ho
      simp only at ho
      unfold lenOp at ho
      split at ho<;>try (cases ho;done)
      cases ho
      unfold lenMapAct at hh
      split at hh
      ·cases hh;try rfl
      ·split at hh
       ·cases hh;try rfl
       ·cases hh
    ·rw [hl] at ho;cases ho
   |_=>exact Bool.noConfusion (show false=true from hq)
  |value f=>rw [hc] at hq;exact Bool.noConfusion (show false=true from hq)
  |invoke r m=>rw [hc] at hq;exact Bool.noConfusion (show false=true from hq)
 |_=>rw [hop] at hq;exact Bool.noConfusion (show false=true from hq)
theorem allNat_eq:∀ (l m:List Nat),objEqF.allNat l m=true→l=m
 |[],[],_=>rfl
 |a::l,b::m,h=>by
  simp only [objEqF.allNat,Bool.and_eq_true,Nat.beq_eq] at h
  rw [h.1,allNat_eq l m h.2]
 |[],_::_,h=>by cases h
 |_::_,[],h=>by cases h
theorem objEq_eq {a b:Option AObj} (h:objEq a b=true):a=b:=by
 unfold objEq at h
 rw [Bool.or_eq_true] at h
 rcases h with h|h
 ·unfold objEqF at h
  split at h
  ·rename_i a b
   simp only [Bool.and_eq_true,Nat.beq_eq] at h
   obtain ⟨⟨⟨h1,h2⟩,h3⟩,h4⟩:=h
   obtain ⟨a1,a2,a3,a4⟩:=a
   obtain ⟨b1,b2,b3,b4⟩:=b
   simp only at h1 h2 h3 h4
   rw [allEq_eq (veqF_eq 4) _ _ h1,h2,allNat_eq _ _ h3,h4]
  ·rfl
  ·rfl
  ·cases h
 ·exact @of_decide_eq_true _ (Classical.propDecidable _) h
theorem chkObjs_eq {i:Nat} {σ:AHeap}:∀ {al:List Made},chkObjs i bf σ al=true→∀ r b o,(r,b,o)∈al→unord bf r i=true→σ.get b=o
 |[],_,r,b,o,hm,_=>by cases hm
 |(r0,b0,o0)::al,hc,r,b,o,hm,hu=>by
  unfold chkObjs keepU at hc
  dsimp only at hc
  rcases List.mem_cons.1 hm with e|hm
  ·cases e
   rw [hu] at hc
   simp only [cond_true,chkO,Bool.and_eq_true] at hc
   exact objEq_eq hc.1
  ·cases hq:unord bf r0 i with
   |true=>
    rw [hq] at hc
    simp only [cond_true,chkO,Bool.and_eq_true] at hc
    exact chkObjs_eq hc.2 r b o hm hu
   |false=>
    rw [hq] at hc
    exact chkObjs_eq hc r b o hm hu
theorem behind_exec {i:Nat} {ld:List (Nat × Act × Value)} {al:List Made} {p:Pg} {σ:AHeap} (h:exec cf N (behind i bf ld al p) σ=some res):
  (∀ r g v,(r,g,v)∈ld→unord bf r i=true→Look g v σ)∧(∀ r b o,(r,b,o)∈al→unord bf r i=true→σ.get b=o)∧exec cf N p σ=some res:=by
 unfold behind at h
 have inner:exec cf N (bif anyUnordA i bf al then .get fun σ=>grd (chkObjs i bf σ al) p else p) σ=some res→(∀ r b o,(r,b,o)∈al→unord bf r i=true→σ.get b=o)∧exec cf N p σ=some res:=by
  intro h
  cases ha:anyUnordA i bf al with
  |true=>
   rw [ha] at h
   simp only [cond_true,exec] at h
   obtain ⟨h3,h4⟩:=exec_bif h
   exact ⟨chkObjs_eq h3,h4⟩
  |false=>
   rw [ha] at h
   refine ⟨fun r b o hm hu=>?_,h⟩
   unfold anyUnordA at ha
   rw [List.any_eq_false] at ha
   exact absurd hu (ha _ hm)
 simp only at h
 cases ha:anyUnord i bf ld with
 |true=>
  rw [ha] at h
  simp only [cond_true,exec] at h
  obtain ⟨h3,h4⟩:=exec_bif h
  exact ⟨chkAll_look h3,inner h4⟩
 |false=>
  rw [ha] at h
  refine ⟨fun r g v hm hu=>?_,inner h⟩
  unfold anyUnord at ha
  rw [List.any_eq_false] at ha
  exact absurd hu (ha _ hm)
theorem compOpD_exec {late:Option Nat} {x:IOp} {fr:List Value} {all:List IOp} {sn:List (Nat × AHeap)} {ld:List (Nat × Act × Value)} {al:List Made} {σ:AHeap} {k:List Value→List (Nat × AHeap)→List (Nat × Act × Value)→List Made→Pg}
  (h:exec cf N (compOpD P late bf all x fr sn ld al k) σ=some res):
  (∃ v,(opSem P x.2 fr=.tot v∨opSem P x.2 fr=.pure true v)∧exec cf N (k (putD fr x.2.dst v) sn ld al) σ=some res)∨
  (∃ h v,opSem P x.2 fr=.act h∧(hcOf P x.2).isQuiet=true∧h σ=some (v,σ)∧chkPast x.1 bf h v sn=true∧exec cf N (k (putD fr x.2.dst v) sn ((x.1,h,v)::ld) al) σ=some res)∨
  (∃ v σ',((∃ h,opSem P x.2 fr=.act h∧h σ=some (v,σ'))∨(∃ f args,opSem P x.2 fr=.call f args∧cf f args σ=some (v,σ')))∧effL P late.isSome x.2=true∧(∀ r h v,(r,h,v)∈ld→unord bf r x.1=true→Look h v σ')∧(∀ r b o,(r,b,o)∈al→unord bf r x.1=true→σ'.get b=o)∧
   exec cf N (k (putD fr x.2.dst v) (bif needSnap P x.1 bf all then (x.1,σ)::sn else sn) ld al) σ'=some res)∨
  (∃ n0 h v σ',late=some n0∧opSem P x.2 fr=.act h∧isAlloc x.2=true∧h σ=some (v,σ')∧newOk n0 σ al=true∧exec cf N (k (putD fr x.2.dst v) sn ld ((x.1,σ.n,σ'.get σ.n)::al)) σ'=some res):=by
 unfold compOpD at h
 have h:=compRes_exec h
 split at h
 ·cases h
 ·rename_i v hv
  exact .inl ⟨v,.inl hv,h⟩
 ·rename_i c v hv
  obtain ⟨rfl,h2⟩:=exec_bif h
  exact .inl ⟨v,.inr hv,h2⟩
 ·rename_i g hg
  cases hq:(hcOf P x.2).isQuiet with
  |true=>
   rw [hq] at h
   simp only [cond_true,exec] at h
   split at h
   ·rename_i v σ' hgs
    obtain ⟨hc,h2⟩:=exec_bif h
    have:=quiet_same hq hg hgs
    subst this
    exact .inr (.inl ⟨g,v,hg,rfl,hgs,hc,typedR_exec (k:=fun v'=>k (putD fr x.2.dst v') sn ((x.1,g,v)::ld) al) h2⟩)
   ·cases h
  |false=>
   rw [hq] at h
   simp only [cond_false] at h
   obtain ⟨he,h⟩:=exec_bif h
   have key:∀ sn',exec cf N (.act g fun v=>typedR P (resT P x.2) v fun v'=>behind x.1 bf ld al (k (putD fr x.2.dst v') sn' ld al)) σ=some res→
     ∃ v σ',g σ=some (v,σ')∧(∀ r h v,(r,h,v)∈ld→unord bf r x.1=true→Look h v σ')∧(∀ r b o,(r,b,o)∈al→unord bf r x.1=true→σ'.get b=o)∧exec cf N (k (putD fr x.2.dst v) sn' ld al) σ'=some res:=by
    intro sn' h
    simp only [exec] at h
    split at h
    ·rename_i v σ' hgs
     have h2:=typedR_exec (k:=fun v'=>behind x.1 bf ld al (k (putD fr x.2.dst v') sn' ld al)) h
     obtain ⟨h3,h4,h5⟩:=behind_exec h2
     exact ⟨v,σ',hgs,h3,h4,h5⟩
    ·cases h
   have plain:effL P late.isSome x.2=true→exec cf N (bif needSnap P x.1 bf all then .get fun σ=>.act g fun v=>typedR P (resT P x.2) v fun v'=>behind x.1 bf ld al (k (putD fr x.2.dst v') ((x.1,σ)::sn) ld al)
     else .act g fun v=>typedR P (resT P x.2) v fun v'=>behind x.1 bf ld al (k (putD fr x.2.dst v') sn ld al)) σ=some res→
     ∃ v σ',((∃ h,opSem P x.2 fr=.act h∧h σ=some (v,σ'))∨(∃ f args,opSem P x.2 fr=.call f args∧cf f args σ=some (v,σ')))∧effL P late.isSome x.2=true∧(∀ r h v,(r,h,v)∈ld→unord bf r x.1=true→Look h v σ')∧(∀ r b o,(r,b,o)∈al→unord bf r x.1=true→σ'.get b=o)∧
      exec cf N (k (putD fr x.2.dst v) (bif needSnap P x.1 bf all then (x.1,σ)::sn else sn) ld al) σ'=some res:=by
    intro hl h
    cases hs:needSnap P x.1 bf all with
    |true=>
     rw [hs] at h
     simp only [cond_true] at h
     unfold exec at h
     obtain ⟨v,σ',h1,h2,h3,h4⟩:=key _ h
     exact ⟨v,σ',.inl ⟨g,hg,h1⟩,hl,h2,h3,h4⟩
    |false=>
     rw [hs] at h
     simp only [cond_false] at h
     obtain ⟨v,σ',h1,h2,h3,h4⟩:=key _ h
     exact ⟨v,σ',.inl ⟨g,hg,h1⟩,hl,h2,h3,h4⟩
   cases hlate:late with
   |none=>
    rw [hlate] at h plain
    exact .inr (.inr (.inl (plain (by unfold effL;rw [he];rfl) h)))
   |some n0=>
    rw [hlate] at h plain
    simp only at h
    cases hal:isAlloc x.2 with
    |false=>
     rw [hal] at h
     exact .inr (.inr (.inl (plain (by unfold effL;rw [he,hal];rfl) h)))
    |true=>
     rw [hal] at h
     simp only [cond_true] at h
     unfold exec at h
     obtain ⟨hok,h⟩:=exec_bif h
     simp only [exec] at h
     split at h
     ·rename_i v σ' hgs
      have h2:=typedR_exec (k:=fun v'=>.get fun σ1=>k (putD fr x.2.dst v') sn ld ((x.1,σ.n,σ1.get σ.n)::al)) h
      simp only [exec] at h2
      exact .inr (.inr (.inr ⟨n0,g,v,σ',rfl,hg,rfl,hgs,hok,h2⟩))
     ·cases h
 ·rename_i f args hg
  obtain ⟨he,h⟩:=exec_bif h
  have hnal:isAlloc x.2=false:=by
   cases hal:isAlloc x.2 with
   |false=>rfl
   |true=>
    exfalso
    unfold isAlloc at hal
    unfold opSem at hg
    split at hal
    ·rename_i hop;rw [hop] at hg;cases hg
    ·rename_i hop;rw [hop] at hg;cases hg
    ·rename_i hop;rw [hop] at hg;cases hg
    ·rename_i hop;rw [hop] at hg;cases hg
    ·rename_i t r hop
     rw [hop] at hg
     cases r with
     |none=>cases hg
     |some y=>
      simp only at hg
      split at hg<;>cases hg
    ·cases hal
  have hl:effL P late.isSome x.2=true:=by unfold effL;rw [he,hnal];cases late<;>rfl
  have key:∀ sn',exec cf N (.call f args fun v=>typedR P (resT P x.2) v fun v'=>behind x.1 bf ld al (k (putD fr x.2.dst v') sn' ld al)) σ=some res→
    ∃ v σ',cf f args σ=some (v,σ')∧(∀ r h v,(r,h,v)∈ld→unord bf r x.1=true→Look h v σ')∧(∀ r b o,(r,b,o)∈al→unord bf r x.1=true→σ'.get b=o)∧exec cf N (k (putD fr x.2.dst v) sn' ld al) σ'=some res:=by
   intro sn' h
   simp only [exec] at h
   split at h
   ·rename_i v σ' hgs
    have h2:=typedR_exec (k:=fun v'=>behind x.1 bf ld al (k (putD fr x.2.dst v') sn' ld al)) h
    obtain ⟨h3,h4,h5⟩:=behind_exec h2
    exact ⟨v,σ',hgs,h3,h4,h5⟩
   ·cases h
  cases hs:needSnap P x.1 bf all with
  |true=>
   rw [hs] at h
   simp only [cond_true] at h
   unfold exec at h
   obtain ⟨v,σ',h1,h2,h3,h4⟩:=key _ h
   exact .inr (.inr (.inl ⟨v,σ',.inr ⟨f,args,hg,h1⟩,hl,h2,h3,h4⟩))
  |false=>
   rw [hs] at h
   simp only [cond_false] at h
   obtain ⟨v,σ',h1,h2,h3,h4⟩:=key _ h
   exact .inr (.inr (.inl ⟨v,σ',.inr ⟨f,args,hg,h1⟩,hl,h2,h3,h4⟩))
inductive Pushed:AHeap→AHeap→Prop
 |refl (σ:AHeap):Pushed σ σ
 |push {σ τ:AHeap} (o:AObj) (h:Pushed σ τ) (hf:τ.get τ.n=none):Pushed σ (τ.push o)
theorem Pushed.n_le {σ τ:AHeap} (h:Pushed σ τ):σ.n≤τ.n:=by
 induction h with
 |refl=>exact Nat.le_refl _
 |push o h hf ih=>simp only [AHeap.push_n];omega
theorem Pushed.old {σ τ:AHeap} (h:Pushed σ τ):τ.old=σ.old:=by
 induction h with
 |refl=>rfl
 |push o h hf ih=>simpa using ih
theorem Pushed.get {σ τ:AHeap} (h:Pushed σ τ) {b:Nat} {o:AObj} (hb:σ.get b=some o):τ.get b=some o:=by
 induction h with
 |refl=>exact hb
 | @push τ' o' h hf ih=>
  have hne:b≠τ'.n:=fun e=>by rw [e,hf] at ih;cases ih
  rw [AHeap.get_push,if_neg hne]
  exact ih
theorem Pushed.rel {ι:Inj} {W0 W:World} {σ τ:AHeap} (h:Pushed σ τ) (R:Rel ι W0 σ W):Rel ι W0 τ W:=by
 induction h with
 |refl=>exact R
 |push o _ _ ih=>exact ih.push o
theorem Pushed.rdN {σ τ:AHeap} (h:Pushed σ τ) {a:Addr} {k:Nat} {vs:List Value} (hr:σ.rdN a k=some vs):τ.rdN a k=some vs:=by
 unfold AHeap.rdN at hr ⊢
 split at hr
 ·rw [h.old]
  exact hr
 ·split at hr
  ·rename_i B hB
   rw [h.get hB]
   exact hr
  ·cases hr
theorem Pushed.getMap {σ τ:AHeap} (h:Pushed σ τ) {r:Nat} {es:List (Value × Value)} (hr:σ.getMap r=some es):τ.getMap r=some es:=by
 unfold AHeap.getMap at hr ⊢
 split at hr
 ·rename_i es' hB
  rw [h.get hB]
  exact hr
 ·rename_i es' hB
  rw [h.get hB]
  exact hr
 ·cases hr
theorem quiet_push {o:Oper} {fr:List Value} {h:Act} {σ τ:AHeap} {v:Value} (hp:Pushed σ τ) (hq:(hcOf P o).isQuiet=true) (ho:opSem P o fr=.act h) (hh:Look h v σ):Look h v τ:=by
 obtain ⟨σ',hh⟩:=hh
 have hs:=quiet_same hq ho hh
 subst hs
 unfold opSem at ho
 unfold hcOf at hq
 cases hop:o.op with
 |load t x=>
  rw [hop] at ho
  simp only at ho
  split at ho
  ·simp at ho
   subst ho
   unfold ldAt at hh ⊢
   split at hh
   ·cases hh
   ·rename_i d hd
    cases hdd:isAggD d with
    |true=>
     rw [hdd] at hh
     simp only [cond_true] at hh
     split at hh
     ·rename_i cs hcs
      cases hh
      refine ⟨τ,?_⟩
      simp only [cond_true,hp.rdN hcs]
     ·cases hh
    |false=>
     rw [hdd] at hh
     simp only [cond_false] at hh
     split at hh
     ·rename_i w l hcs
      cases hh
      refine ⟨τ,?_⟩
      simp only [cond_false,hp.rdN hcs]
     ·cases hh
  ·cases ho
 |lookup t m k ok=>
  rw [hop] at ho
  simp at ho
  subst ho
  unfold lookupAct at hh ⊢
  split at hh
  ·rename_i kt et hd
   split at hh
   ·rename_i kd z hk hz
    cases hkk:isKey kd (ev P fr k) with
    |true=>
     rw [hkk] at hh
     simp only [cond_true] at hh
     refine ⟨τ,?_⟩
     simp only [cond_true]
     cases hm:ev P fr m with
     |map r=>
      rw [hm] at hh
      cases r with
      |none=>
       simp only at hh ⊢
       cases hh
       rfl
      |some r=>
       simp only at hh ⊢
       cases hg:AHeap.getMap σ' r with
       |none=>rw [hg] at hh;cases hh
       |some es=>
        rw [hg] at hh
        rw [hp.getMap hg]
        simp only [Option.map_some] at hh ⊢
        cases hf:mapFind kd (ev P fr k) es with
        |none=>rw [hf] at hh;cases hh
        |some x=>
         rw [hf] at hh
         cases x with
         |none=>cases hh;try rfl
         |some y=>cases hh;try rfl
     |_=>rw [hm] at hh;cases hh
    |false=>
     rw [hkk] at hh
     simp only [cond_false] at hh ⊢
     cases hfl:flatK P kt (ev P fr k) with
     |false=>rw [hfl] at hh;cases hh
     |true=>
      rw [hfl] at hh
      simp only [cond_true] at hh
      refine ⟨τ,?_⟩
      simp only [cond_true]
      cases hm:ev P fr m with
      |map r=>
       rw [hm] at hh
       cases r with
       |none=>
        simp only at hh ⊢
        cases hh
        rfl
       |some r=>
        simp only at hh ⊢
        cases hg:AHeap.getMap σ' r with
        |none=>rw [hg] at hh;cases hh
        |some es=>
         rw [hg] at hh
         rw [hp.getMap hg]
         simp only [Option.map_some] at hh ⊢
         cases hf:mapFindA (aggCmp P kt) (ev P fr k) es with
         |none=>rw [hf] at hh;cases hh
         |some x=>
          rw [hf] at hh
          cases x with
          |none=>cases hh;try rfl
          |some y=>cases hh;try rfl
      |_=>rw [hm] at hh;cases hh
   ·cases hh
  ·cases hh
 |convert src dst x=>
  rw [hop] at ho hq
  simp only at ho hq
  split at hq
  ·exact Bool.noConfusion (show false=true from hq)
  ·rename_i h1 h2
   have:=conv_act (y:=ev P fr x) h1 h2 (h:=h) ho
   subst this
   unfold bytesToStringAct at hh ⊢
   split at hh
   ·cases hh
    exact ⟨τ,rfl⟩
   ·split at hh
    ·rename_i cs hcs
     split at hh
     ·rename_i l hl
      cases hh
      refine ⟨τ,?_⟩
      simp only [hp.rdN hcs,hl]
     ·cases hh
    ·cases hh
   ·cases hh
  ·exact Bool.noConfusion (show false=true from hq)
 |call c=>
  rw [hop] at ho hq
  simp only at ho hq
  cases hc:c.callee with
  |builtin b=>
   rw [hc] at ho hq
   cases b with
   |len=>
    simp only at ho hq
    rcases hl:c.args.toList.map (ev P fr) with _|⟨y,_|⟨z,l⟩⟩
    ·rw [hl] at ho;cases ho
    ·rw [hl] at ho
     simp only [builtinV] at ho
     cases hd:(c.argTypes[0]?).bind P.underlying with
     |none=>rw [hd] at ho;cases ho
     |some d=>
      rw [hd] at ho
      simp only at ho
      unfold lenOp at ho
      split at ho<;>try (cases ho;done)
      cases ho
      unfold lenMapAct at hh ⊢
      split at hh
      ·cases hh;exact ⟨τ,rfl⟩
      ·split at hh
       ·rename_i es hg
        cases hh
        refine ⟨τ,?_⟩
        simp only [hp.getMap hg]
       ·cases hh
    ·rw [hl] at ho;cases ho
   |_=>exact Bool.noConfusion (show false=true from hq)
  |value f=>rw [hc] at hq;exact Bool.noConfusion (show false=true from hq)
  |invoke r m=>rw [hc] at hq;exact Bool.noConfusion (show false=true from hq)
 |_=>rw [hop] at hq;exact Bool.noConfusion (show false=true from hq)
end
end Go.Pg
namespace Go.Pg
section
variable {P:Program} {cf:CallF} {N:Nat} {res:(Ex × List Value) × AHeap} {ops:Array Oper} {bf:Array Nat}
structure Tc where
 F:Nat→List Value
 H:Nat→AHeap
 V:Nat→Value
 eff:Nat→Bool
 q:Nat→Option Act
 al:Nat→Bool
def OnT (ops:Array Oper) (o:Oper) (fr:List Value):Prop:=o.guard=none∨∃ j w d,o.guard=some (j,w)∧slotOf ops j=some d∧getD fr d=.bool w
def OffT (ops:Array Oper) (o:Oper) (fr:List Value):Prop:=∃ j w d,o.guard=some (j,w)∧slotOf ops j=some d∧((∃ t,getD fr d=.tuple t)∨getD fr d=.bool (!w))
def DidT (P:Program) (cf:CallF) (late:Bool) (T:Tc) (i:Nat) (o:Oper):Prop:=
 ((opSem P o (T.F i)=.tot (T.V i)∨opSem P o (T.F i)=.pure true (T.V i))∧T.H (i+1)=T.H i∧T.eff i=false∧T.q i=none∧T.al i=false)∨
 (∃ h,opSem P o (T.F i)=.act h∧(hcOf P o).isQuiet=true∧h (T.H i)=some (T.V i,T.H i)∧T.H (i+1)=T.H i∧T.eff i=false∧T.q i=some h∧T.al i=false)∨
 (((∃ h,opSem P o (T.F i)=.act h∧h (T.H i)=some (T.V i,T.H (i+1)))∨(∃ f args,opSem P o (T.F i)=.call f args∧cf f args (T.H i)=some (T.V i,T.H (i+1))))∧effL P late o=true∧T.eff i=true∧T.q i=none∧T.al i=false)∨
 (∃ h,opSem P o (T.F i)=.act h∧isAlloc o=true∧h (T.H i)=some (T.V i,T.H (i+1))∧T.eff i=false∧T.q i=none∧T.al i=true∧late=true)
def StepT (P:Program) (cf:CallF) (ops:Array Oper) (late:Bool) (T:Tc) (i:Nat) (o:Oper):Prop:=
 T.F (i+1)=putD (T.F i) o.dst (T.V i)∧((OffT ops o (T.F i)∧T.V i=undef'∧T.H (i+1)=T.H i∧T.eff i=false∧T.q i=none∧T.al i=false)∨(OnT ops o (T.F i)∧DidT P cf late T i o))
structure TraceT (P:Program) (cf:CallF) (ops:Array Oper) (bf:Array Nat) (late:Option Nat) (T:Tc) (xs:List IOp) (m:Nat) (sn:List (Nat × AHeap)) (ld:List (Nat × Act × Value)) (al:List Made):Prop where
 step:∀ (t:Nat) x,xs[t]?=some x→StepT P cf ops late.isSome T (m+t) x.2
 past:∀ (t:Nat) h,t<xs.length→T.q (m+t)=some h→∀ e σ,(e,σ)∈sn→unord bf e (m+t)=true→Look h (T.V (m+t)) σ
 back:∀ (t:Nat) h (e:Nat),t<xs.length→e<t→T.q (m+t)=some h→T.eff (m+e)=true→unord bf (m+e) (m+t)=true→Look h (T.V (m+t)) (T.H (m+e))
 ahead:∀ (t:Nat) h (e:Nat),e<xs.length→t<e→T.q (m+t)=some h→T.eff (m+e)=true→unord bf (m+t) (m+e)=true→Look h (T.V (m+t)) (T.H (m+e+1))
 loads:∀ r h v,(r,h,v)∈ld→∀ e,e<xs.length→T.eff (m+e)=true→unord bf r (m+e)=true→Look h v (T.H (m+e+1))
 intact:∀ (t e:Nat),e<xs.length→t<e→T.al (m+t)=true→T.eff (m+e)=true→unord bf (m+t) (m+e)=true→(T.H (m+e+1)).get (T.H (m+t)).n=(T.H (m+t+1)).get (T.H (m+t)).n
 objs:∀ r b o,(r,b,o)∈al→∀ e,e<xs.length→T.eff (m+e)=true→unord bf r (m+e)=true→(T.H (m+e+1)).get b=o
 news:∀ t,t<xs.length→T.al (m+t)=true→(∀ n0,late=some n0→n0≤(T.H (m+t)).n)∧(T.H (m+t)).get (T.H (m+t)).n=none∧∀ x∈al,x.2.1≠(T.H (m+t)).n
 apart:∀ (t u:Nat),u<xs.length→t<u→T.al (m+t)=true→T.al (m+u)=true→(T.H (m+t)).n≠(T.H (m+u)).n
def Tc.cons (m:Nat) (fr:List Value) (σ:AHeap) (v:Value) (eff:Bool) (q:Option Act) (al:Bool) (T:Tc):Tc where
 F i:=if i=m then fr else T.F i
 H i:=if i=m then σ else T.H i
 V i:=if i=m then v else T.V i
 eff i:=if i=m then eff else T.eff i
 q i:=if i=m then q else T.q i
 al i:=if i=m then al else T.al i
theorem newOk_parts {n0:Nat} {σ:AHeap} {al:List Made} (h:newOk n0 σ al=true):n0≤σ.n∧σ.get σ.n=none∧∀ x∈al,x.2.1≠σ.n:=by
 unfold newOk newN at h
 simp only [Bool.and_eq_true,Nat.ble_eq,List.all_eq_true,List.mem_map,Bool.not_eq_true',forall_exists_index,and_imp,forall_apply_eq_imp_iff₂] at h
 obtain ⟨⟨h1,h2⟩,h3⟩:=h
 refine ⟨h1,?_,fun x hx e=>?_⟩
 ·cases hg:σ.get σ.n with
  |none=>rfl
  |some o=>rw [hg] at h2;cases h2
 ·have:=h3 x hx
  rw [e] at this
  simp at this
theorem trace_cons {late:Option Nat} {T:Tc} {x:IOp} {xs:List IOp} {m:Nat} {fr:List Value} {σ:AHeap} {v:Value} {eff alv:Bool} {q:Option Act} {sn sn':List (Nat × AHeap)} {ld ld':List (Nat × Act × Value)} {al al':List Made} {all:List IOp}
  (h:TraceT P cf ops bf late T xs (m+1) sn' ld' al') (hF:T.F (m+1)=putD fr x.2.dst v)
  (hs:(OffT ops x.2 fr∧v=undef'∧T.H (m+1)=σ∧eff=false∧q=none∧alv=false)∨(OnT ops x.2 fr∧
   (((opSem P x.2 fr=.tot v∨opSem P x.2 fr=.pure true v)∧T.H (m+1)=σ∧eff=false∧q=none∧alv=false)∨
    (∃ h,opSem P x.2 fr=.act h∧(hcOf P x.2).isQuiet=true∧h σ=some (v,σ)∧T.H (m+1)=σ∧eff=false∧q=some h∧alv=false)∨
    (((∃ h,opSem P x.2 fr=.act h∧h σ=some (v,T.H (m+1)))∨(∃ f args,opSem P x.2 fr=.call f args∧cf f args σ=some (v,T.H (m+1))))∧effL P late.isSome x.2=true∧eff=true∧q=none∧alv=false)∨
    (∃ h,opSem P x.2 fr=.act h∧isAlloc x.2=true∧h σ=some (v,T.H (m+1))∧eff=false∧q=none∧alv=true∧late.isSome=true))))
  (hall:∀ x∈xs,x∈all) (hc:Consec xs (m+1))
  (hsn:∀ p,p∈sn→p∈sn') (hsn1:eff=true→needSnap P m bf all=true→(m,σ)∈sn')
  (hld:∀ p,p∈ld→p∈ld') (hld1:∀ g,q=some g→(m,g,v)∈ld')
  (hpast:∀ g,q=some g→∀ e σ,(e,σ)∈sn→unord bf e m=true→Look g v σ)
  (hchk:eff=true→∀ r g u,(r,g,u)∈ld→unord bf r m=true→Look g u (T.H (m+1)))
  (hal:∀ p,p∈al→p∈al') (hal1:alv=true→(m,σ.n,(T.H (m+1)).get σ.n)∈al')
  (hnew:alv=true→(∀ n0,late=some n0→n0≤σ.n)∧σ.get σ.n=none∧∀ x∈al,x.2.1≠σ.n)
  (hchkO:eff=true→∀ r b o,(r,b,o)∈al→unord bf r m=true→(T.H (m+1)).get b=o):
  TraceT P cf ops bf late (Tc.cons m fr σ v eff q alv T) (x::xs) m sn ld al:=by
 have sh:∀ t:Nat,m+(t+1)=m+1+t:=fun t=>by omega
 have n0:∀ t:Nat,¬ (m+1+t=m):=fun t=>by omega
 have n1:∀ t:Nat,¬ (m+1+t+1=m):=fun t=>by omega
 have n2:¬ (m+1=m):=by omega
 constructor
 ·intro t y hy
  cases t with
  |zero=>
   simp only [List.getElem?_cons_zero,Option.some.injEq] at hy
   subst hy
   unfold StepT DidT
   simp only [Tc.cons,Nat.add_zero,if_true,if_neg n2]
   exact ⟨hF,hs⟩
  |succ t=>
   rw [sh]
   have:=h.step t y (by simpa using hy)
   unfold StepT DidT at this ⊢
   simpa only [Tc.cons,if_neg (n0 t),if_neg (n1 t)] using this
 ·intro t g ht hq e s hm hu
  cases t with
  |zero=>
   simp only [Tc.cons,Nat.add_zero,if_true] at hq ⊢
   exact hpast g hq e s hm hu
  |succ t=>
   rw [sh] at hq hu ⊢
   simp only [Tc.cons,if_neg (n0 t)] at hq ⊢
   exact h.past t g (by simpa using ht) hq e s (hsn _ hm) hu
 ·intro t g e ht het hq he hu
  cases t with
  |zero=>omega
  |succ t=>
   rw [sh] at hq hu ⊢
   simp only [Tc.cons,if_neg (n0 t)] at hq ⊢
   cases e with
   |zero=>
    simp only [Nat.add_zero] at hu ⊢
    simp only [Tc.cons,Nat.add_zero,if_true] at he ⊢
    have htl:t<xs.length:=by simpa using ht
    refine h.past t g htl hq m σ (hsn1 he ?_) hu
    unfold needSnap
    rw [List.any_eq_true]
    refine ⟨xs[t],hall _ (List.getElem_mem htl),?_⟩
    have hx:(xs[t]).1=m+1+t:=hc t _ (List.getElem?_eq_getElem htl)
    have hst:=h.step t xs[t] (List.getElem?_eq_getElem htl)
    have hqt:(hcOf P (xs[t]).2).isQuiet=true:=by
     rcases hst.2 with ⟨_,_,_,_,hn,_⟩|⟨_,⟨_,_,_,hn,_⟩|⟨g',_,hh,_⟩|⟨_,_,_,hn,_⟩|⟨_,_,_,_,_,hn,_⟩⟩
     ·rw [hq] at hn;cases hn
     ·rw [hq] at hn;cases hn
     ·exact hh
     ·rw [hq] at hn;cases hn
     ·rw [hq] at hn;cases hn
    rw [hx,hqt,hu]
    simp
    omega
   |succ e=>
    rw [sh e] at he hu ⊢
    simp only [if_neg (n0 e)] at ⊢
    simp only [Tc.cons,if_neg (n0 e)] at he
    exact h.back t g e (by simpa using ht) (by omega) hq he hu
 ·intro t g e he0 het hq he hu
  cases e with
  |zero=>omega
  |succ e=>
   rw [sh] at he hu ⊢
   simp only [Tc.cons,if_neg (n0 e),if_neg (n1 e)] at he ⊢
   cases t with
   |zero=>
    simp only [Nat.add_zero,if_true] at hq hu ⊢
    simp only [Tc.cons,if_true] at hq
    exact h.loads m g v (hld1 g hq) e (by simpa using he0) he hu
   |succ t=>
    rw [sh] at hq hu ⊢
    simp only [Tc.cons,if_neg (n0 t)] at hq ⊢
    exact h.ahead t g e (by simpa using he0) (by omega) hq he hu
 ·intro r g u hm e he0 he hu
  cases e with
  |zero=>
   simp only [Nat.add_zero] at hu ⊢
   simp only [Tc.cons,Nat.add_zero,if_true,if_neg n2] at he ⊢
   exact hchk he r g u hm hu
  |succ e=>
   rw [sh] at he hu ⊢
   simp only [Tc.cons,if_neg (n0 e),if_neg (n1 e)] at he ⊢
   exact h.loads r g u (hld _ hm) e (by simpa using he0) he hu
 ·intro t e he0 het ha he hu
  cases e with
  |zero=>omega
  |succ e=>
   rw [sh e] at he hu ⊢
   simp only [Tc.cons,if_neg (n0 e)] at he
   cases t with
   |zero=>
    simp only [Nat.add_zero] at ha hu ⊢
    simp only [Tc.cons,if_true] at ha
    simp only [Tc.cons,if_true,if_neg (n1 e),if_neg n2]
    exact h.objs m _ _ (hal1 ha) e (by simpa using he0) he hu
   |succ t=>
    rw [sh t] at ha hu ⊢
    simp only [Tc.cons,if_neg (n0 t)] at ha
    simp only [Tc.cons,if_neg (n0 t),if_neg (n1 t),if_neg (n1 e)]
    exact h.intact t e (by simpa using he0) (by omega) ha he hu
 ·intro r b o hm e he0 he hu
  cases e with
  |zero=>
   simp only [Nat.add_zero] at hu ⊢
   simp only [Tc.cons,Nat.add_zero,if_true,if_neg n2] at he ⊢
   exact hchkO he r b o hm hu
  |succ e=>
   rw [sh] at he hu ⊢
   simp only [Tc.cons,if_neg (n0 e),if_neg (n1 e)] at he ⊢
   exact h.objs r b o (hal _ hm) e (by simpa using he0) he hu
 ·intro t ht ha
  cases t with
  |zero=>
   simp only [Tc.cons,Nat.add_zero,if_true] at ha ⊢
   exact hnew ha
  |succ t=>
   rw [sh t] at ha ⊢
   simp only [Tc.cons,if_neg (n0 t)] at ha ⊢
   obtain ⟨g1,g2,g3⟩:=h.news t (by simpa using ht) ha
   exact ⟨g1,g2,fun x hx=>g3 x (hal x hx)⟩
 ·intro t u hu htu ha hb
  cases u with
  |zero=>omega
  |succ u=>
   rw [sh u] at hb ⊢
   simp only [Tc.cons,if_neg (n0 u)] at hb
   cases t with
   |zero=>
    simp only [Nat.add_zero] at ha ⊢
    simp only [Tc.cons,if_true] at ha
    simp only [Tc.cons,if_true,if_neg (n0 u)]
    exact (h.news u (by simpa using hu) hb).2.2 _ (hal1 ha)
   |succ t=>
    rw [sh t] at ha ⊢
    simp only [Tc.cons,if_neg (n0 t)] at ha
    simp only [Tc.cons,if_neg (n0 t),if_neg (n0 u)]
    exact h.apart t u (by simpa using hu) (by omega) ha hb
theorem trace_of {late:Option Nat} {all:List IOp} {k:List Value→Pg}:∀ (xs:List IOp) (m:Nat) (fr:List Value) (sn:List (Nat × AHeap)) (ld:List (Nat × Act × Value)) (al:List Made) (σ:AHeap),Consec xs m→(∀ x∈xs,x∈all)→
  exec cf N (compOpsD P late bf ops all xs fr sn ld al k) σ=some res→∃ T:Tc,T.F m=fr∧T.H m=σ∧exec cf N (k (T.F (m+xs.length))) (T.H (m+xs.length))=some res∧TraceT P cf ops bf late T xs m sn ld al
 |[],m,fr,sn,ld,al,σ,_,_,h=>by
  refine ⟨⟨fun _=>fr,fun _=>σ,fun _=>undef',fun _=>false,fun _=>none,fun _=>false⟩,rfl,rfl,h,?_⟩
  exact ⟨fun t x hx=>by simp at hx,fun t h ht=>by simp at ht,fun t h e ht=>by simp at ht,fun t h e he=>by simp at he,fun r h v _ e he=>by simp at he,fun t e he=>by simp at he,fun r b o _ e he=>by simp at he,fun t ht=>by simp at ht,fun t u hu=>by simp at hu⟩
 |x::xs,m,fr,sn,ld,al,σ,hc,ha,h=>by
  have hx1:x.1=m:=hc 0 x rfl
  have ha':∀ y∈xs,y∈all:=fun y hy=>ha y (by simp [hy])
  have len:∀ (v:Value) (eff:Bool) (q:Option Act) (a:Bool) (T:Tc),(Tc.cons m fr σ v eff q a T).F (m+(x::xs).length)=T.F (m+1+xs.length)∧(Tc.cons m fr σ v eff q a T).H (m+(x::xs).length)=T.H (m+1+xs.length)∧(Tc.cons m fr σ v eff q a T).F m=fr∧(Tc.cons m fr σ v eff q a T).H m=σ:=by
   intro v eff q a T
   have e:m+(x::xs).length=m+1+xs.length:=by simp;omega
   rw [e]
   have n:¬ (m+1+xs.length=m):=by omega
   simp [Tc.cons,n]
  have step:OnT ops x.2 fr→exec cf N (compOpD P late bf all x fr sn ld al fun fr sn ld al=>compOpsD P late bf ops all xs fr sn ld al k) σ=some res→∃ T:Tc,T.F m=fr∧T.H m=σ∧exec cf N (k (T.F (m+(x::xs).length))) (T.H (m+(x::xs).length))=some res∧TraceT P cf ops bf late T (x::xs) m sn ld al:=by
   intro hon h
   rcases compOpD_exec h with ⟨v,hv,h2⟩|⟨g,v,hg,hq,hgs,hck,h2⟩|⟨v,σ',hv,he,hck,hco,h2⟩|⟨n0,g,v,σ',hlate,hg,hal,hgs,hok,h2⟩
   ·obtain ⟨T,t1,t2,t3,t4⟩:=trace_of xs (m+1) _ sn ld al σ hc.tail ha' h2
    obtain ⟨l1,l2,l3,l4⟩:=len v false none false T
    refine ⟨Tc.cons m fr σ v false none false T,l3,l4,by rw [l1,l2];exact t3,?_⟩
    exact trace_cons t4 t1 (.inr ⟨hon,.inl ⟨hv,t2,rfl,rfl,rfl⟩⟩) ha' hc.tail (fun _ h=>h) nofun (fun _ h=>h) nofun nofun nofun (fun _ h=>h) nofun nofun nofun
   ·obtain ⟨T,t1,t2,t3,t4⟩:=trace_of xs (m+1) _ sn _ al σ hc.tail ha' h2
    obtain ⟨l1,l2,l3,l4⟩:=len v false (some g) false T
    refine ⟨Tc.cons m fr σ v false (some g) false T,l3,l4,by rw [l1,l2];exact t3,?_⟩
    refine trace_cons t4 t1 (.inr ⟨hon,.inr (.inl ⟨g,hg,hq,hgs,t2,rfl,rfl,rfl⟩)⟩) ha' hc.tail (fun _ h=>h) nofun (fun _ h=>by simp [h]) ?_ ?_ nofun (fun _ h=>h) nofun nofun nofun
    ·intro g' e
     cases e
     rw [hx1]
     simp
    ·intro g' e e2 s hm hu
     cases e
     rw [hx1] at hck
     exact chkPast_look hck e2 s hm hu
   ·obtain ⟨T,t1,t2,t3,t4⟩:=trace_of xs (m+1) _ _ ld al σ' hc.tail ha' h2
    obtain ⟨l1,l2,l3,l4⟩:=len v true none false T
    refine ⟨Tc.cons m fr σ v true none false T,l3,l4,by rw [l1,l2];exact t3,?_⟩
    rw [hx1] at t4 hck hco
    refine trace_cons t4 t1 (.inr ⟨hon,.inr (.inr (.inl ⟨by rw [t2];exact hv,he,rfl,rfl,rfl⟩))⟩) ha' hc.tail ?_ ?_ (fun _ h=>h) nofun nofun ?_ (fun _ h=>h) nofun nofun ?_
    ·intro p hp
     cases needSnap P m bf all<;>simp [hp]
    ·intro _ hs
     rw [hs]
     simp
    ·intro _
     rw [t2]
     exact hck
    ·intro _
     rw [t2]
     exact hco
   ·obtain ⟨T,t1,t2,t3,t4⟩:=trace_of xs (m+1) _ sn ld _ σ' hc.tail ha' h2
    obtain ⟨l1,l2,l3,l4⟩:=len v false none true T
    refine ⟨Tc.cons m fr σ v false none true T,l3,l4,by rw [l1,l2];exact t3,?_⟩
    rw [hx1] at t4
    obtain ⟨o1,o2,o3⟩:=newOk_parts hok
    refine trace_cons t4 t1 (.inr ⟨hon,.inr (.inr (.inr ⟨g,hg,hal,by rw [t2];exact hgs,rfl,rfl,rfl,by rw [hlate];rfl⟩))⟩) ha' hc.tail (fun _ h=>h) nofun (fun _ h=>h) nofun nofun nofun (fun _ h=>by simp [h]) ?_ ?_ nofun
    ·intro _
     rw [t2]
     simp
    ·intro _
     refine ⟨fun n1 e=>?_,o2,o3⟩
     rw [hlate] at e
     cases e
     exact o1
  have off:OffT ops x.2 fr→exec cf N (compOpsD P late bf ops all xs (putD fr x.2.dst undef') sn ld al k) σ=some res→∃ T:Tc,T.F m=fr∧T.H m=σ∧exec cf N (k (T.F (m+(x::xs).length))) (T.H (m+(x::xs).length))=some res∧TraceT P cf ops bf late T (x::xs) m sn ld al:=by
   intro hoff h
   obtain ⟨T,t1,t2,t3,t4⟩:=trace_of xs (m+1) _ sn ld al σ hc.tail ha' h
   obtain ⟨l1,l2,l3,l4⟩:=len undef' false none false T
   refine ⟨Tc.cons m fr σ undef' false none false T,l3,l4,by rw [l1,l2];exact t3,?_⟩
   exact trace_cons t4 t1 (.inl ⟨hoff,rfl,t2,rfl,rfl,rfl⟩) ha' hc.tail (fun _ h=>h) nofun (fun _ h=>h) nofun nofun nofun (fun _ h=>h) nofun nofun nofun
  unfold compOpsD at h
  cases hg:x.2.guard with
  |none=>
   rw [hg] at h
   exact step (.inl hg) h
  |some g=>
   obtain ⟨j,w⟩:=g
   rw [hg] at h
   simp only at h
   split at h
   ·cases h
   ·rename_i d hd
    split at h
    ·rename_i t ht
     exact off ⟨j,w,d,hg,hd,.inl ⟨t,ht⟩⟩ h
    ·rename_i b hb
     cases hbw:b==w with
     |true=>
      rw [hbw] at h
      simp only [cond_true] at h
      simp only [beq_iff_eq] at hbw
      subst hbw
      rw [setD_self fr d _ hb nofun] at h
      exact step (.inr ⟨j,b,d,hg,hd,hb⟩) h
     |false=>
      rw [hbw] at h
      simp only [cond_false] at h
      have hbw':b=!w:=by cases b<;>cases w<;>simp_all
      subst hbw'
      rw [setD_self fr d _ hb nofun] at h
      exact off ⟨j,w,d,hg,hd,.inr hb⟩ h
    ·cases h
end
end Go.Pg
namespace Go.Pg
section
variable {P:Program} {cf:CallF} {N:Nat} {res:(Ex × List Value) × AHeap} {ops:Array Oper}
theorem opSem_congr {o:Oper} {fr fr':List Value} (h:∀ t,t∈looksO ops o→getD fr t=getD fr' t):opSem P o fr=opSem P o fr':=by
 have hE:∀ x,x∈o.op.operands→ev P fr x=ev P fr' x:=by
  intro x hx
  cases x with
  |tmp t=>
   refine h t ?_
   unfold looksO
   refine List.mem_append_left _ (List.mem_filterMap.2 ⟨.tmp t,by simpa using hx,rfl⟩)
  |_=>rfl
 have pairs:∀ ps:Array (Nat × Operand),(∀ x∈ps.toList.map (·.2),ev P fr x=ev P fr' x)→
   (ps.toList.map fun p=>(p.1,ev P fr p.2))=(ps.toList.map fun p=>(p.1,ev P fr' p.2)):=fun ps hp=>
  List.map_congr_left fun p hm=>by
   obtain ⟨i,x⟩:=p
   simp only [hp x (List.mem_map.2 ⟨(i,x),hm,rfl⟩)]
 unfold opSem
 cases hop:o.op<;>rw [hop] at hE<;>simp only [Op.operands] at hE
 case build t ps=>simp only [pairs ps fun x hx=>hE x (by simpa using hx)]
 case buildSlice t n ps=>simp only [pairs ps fun x hx=>hE x (by simpa using hx)]
 case makeFunc fn first captured=>
  cases fn<;>simp only
  simp only [Array.map_congr_left (xs:=first) fun x hx=>hE x (by simp [hx]),Array.map_congr_left (xs:=captured) fun x hx=>hE x (by simp [hx])]
 case call c=>
  have hargs:c.args.toList.map (ev P fr)=c.args.toList.map (ev P fr'):=List.map_congr_left fun x hx=>hE x (by simp only [Call.operands];simp at hx;simp [hx])
  simp only [hargs]
  cases hc:c.callee with
  |value f=>have hf:ev P fr f=ev P fr' f:=hE f (by simp [Call.operands,hc]);simp only [hf]
  |_=>rfl
 case makeMap t r=>cases r<;>simp_all
 case slice t x lo hi mx=>cases lo<;>cases hi<;>cases mx<;>simp_all
 all_goals (first|rfl|(simp_all;done))
def maskF (L:List Nat):Nat→List Value→List Value
 |_,[]=>[]
 |i,v::r=>(bif memN i L then v else top)::maskF L (i+1) r
theorem maskF_length (L:List Nat):∀ (i:Nat) (l:List Value),(maskF L i l).length=l.length
 |_,[]=>rfl
 |i,v::r=>by simp [maskF,maskF_length L (i+1) r]
theorem maskF_get (L:List Nat):∀ (i:Nat) (l:List Value) (t:Nat),getD (maskF L i l) t=if t<l.length then (bif memN (i+t) L then getD l t else top) else .tuple #[]
 |i,[],t=>by simp [maskF,getD_nil]
 |i,v::r,0=>by simp [maskF,getD]
 |i,v::r,t+1=>by
  simp only [maskF,getD]
  rw [maskF_get L (i+1) r t]
  simp [show i+1+t=i+(t+1) by omega]
theorem memN_iff {x:Nat} {L:List Nat}:memN x L=true↔x∈L:=by
 unfold memN
 rw [List.any_eq_true]
 constructor
 ·rintro ⟨y,hy,e⟩
  rw [Nat.eq_of_beq_eq_true e]
  exact hy
 ·intro h
  exact ⟨x,h,Nat.beq_refl x⟩
theorem getD_ge {l:List Value} {t:Nat} (h:¬ t<l.length):getD l t=.tuple #[]:=by
 rw [getD_eq]
 simp at h
 simp [h]
theorem mask_FR {ι:Inj} {B:Nat} {L:List Nat} {fr:List Value} {ts:Array Value} (hl:fr.length=ts.size) (h:∀ t,t∈L→VR ι B (getD fr t) (ts.getD t Go.undef)):FR ι B (maskF L 0 fr) ts:=by
 refine ⟨by rw [maskF_length];exact hl,fun t=>?_⟩
 rw [maskF_get]
 by_cases ht:t<fr.length
 ·rw [if_pos ht]
  cases hm:memN (0+t) L with
  |true=>simp only [cond_true];exact h t (by simpa using memN_iff.1 hm)
  |false=>exact .top _
 ·rw [if_neg ht]
  have:ts.getD t Go.undef=Go.undef:=by
   have:¬ t<ts.size:=by omega
   simp [Array.getD,this]
  rw [this]
  exact VR.undef
theorem mask_look {L:List Nat} {fr:List Value} {t:Nat} (h:t∈L):getD (maskF L 0 fr) t=getD fr t:=by
 rw [maskF_get]
 by_cases ht:t<fr.length
 ·rw [if_pos ht,show memN (0+t) L=true from by rw [Nat.zero_add];exact memN_iff.2 h]
  try rfl
 ·rw [if_neg ht,getD_ge ht]
theorem op_step' {ι:Inj} {W0 W:World} {σ:AHeap} {o:Oper} {fr:List Value} {a:Go.Act} {next:Go.Act→World→Prop} {Q:Exit→Go.Act→World→Prop} {v:Value} {σ':AHeap} (hG:P.globals.size≤W0.heap.size) (hcf:CFok P W0 cf) (R:Rel ι W0 σ W) (r:FR ι W0.heap.size fr a.tmps)
  (h:(σ'=σ∧(opSem P o fr=.tot v∨opSem P o fr=.pure true v))∨(∃ h,opSem P o fr=.act h∧h σ=some (v,σ'))∨(∃ f args,opSem P o fr=.call f args∧cf f args σ=some (v,σ')))
  (hn:∀ κ v' W1,ι.le κ→Rel κ W0 σ' W1→VR κ W0.heap.size v v'→next (a.put o.dst v') W1):o.wp P a W next Q:=by
 unfold Oper.wp
 rcases h with ⟨rfl,h⟩|⟨g,h1,h2⟩|⟨f,args,h1,h2⟩
 ·obtain ⟨v',hv,hrun⟩:=op_value (W:=W) hG r h
  rw [hrun,Oper.upon_value]
  exact hn ι _ _ ι.le_refl R hv
 ·obtain ⟨κ,W',nx,v',hle,R',hrun,ho,hv⟩:=op_act hG R r h1 h2
  rw [hrun]
  cases nx with
  |value x=>
   simp only [outV,Option.some.injEq] at ho
   subst ho
   rw [Oper.upon_value]
   exact hn κ _ _ hle R' hv
  |skip=>
   simp only [outV,Option.some.injEq] at ho
   subst ho
   rw [Oper.upon_skip]
   exact hn κ _ _ hle R' hv
  |_=>simp [outV] at ho
 ·obtain ⟨args',hA,hrun⟩:=op_call (W:=W) hG r h1
  obtain ⟨hc,hcalls⟩:=hcf f args σ v σ' h2 ι W args' R hA
  rw [hrun,hc,Oper.upon_enter]
  refine hcalls.mono fun e w' he=>?_
  obtain ⟨v',κ,rfl,hle,hv,R'⟩:=he
  exact hn κ _ _ hle R' hv
def ClosedS (ops:Array Oper) (S:Nat→Prop):Prop:=∀ j o,ops[j]?=some o→S j→∀ e∈o.after,Region.binds .any e=true→S e.on
theorem fold_bits {A:Nat→Nat} {i:Nat}:∀ (l:List Edge) (s0:Nat),(l.foldl (fun s e=>if Region.binds .any e then s ||| 2 ^ e.on ||| A e.on else s) s0).testBit i=true→
  s0.testBit i=true∨∃ e∈l,Region.binds .any e=true∧(i=e.on∨(A e.on).testBit i=true)
 |[],s0,h=>.inl h
 |e::l,s0,h=>by
  simp only [List.foldl_cons] at h
  rcases fold_bits l _ h with h|⟨e',h1,h2⟩
  ·cases hb:Region.binds .any e with
   |true=>
    rw [if_pos hb] at h
    simp only [Nat.testBit_or,Bool.or_eq_true,Nat.testBit_two_pow,decide_eq_true_eq] at h
    rcases h with (h|h)|h
    ·exact .inl h
    ·exact .inr ⟨e,by simp,hb,.inl h.symm⟩
    ·exact .inr ⟨e,by simp,hb,.inr h⟩
   |false=>
    rw [if_neg (by simp [hb])] at h
    exact .inl h
  ·exact .inr ⟨e',by simp [h1],h2⟩
theorem before_anc {S:Nat→Prop} (hS:ClosedS ops S) {i j:Nat} (h:((Region.before ops).getD j 0).testBit i=true):∀ o,ops[j]?=some o→(∀ e∈o.after,Region.binds .any e=true→S e.on)→S i:=by
 have key:∀ (l:List Oper) (acc:Array Nat),(∀ t o,l[t]?=some o→ops[acc.size+t]?=some o)→
   (∀ j i,(acc.getD j 0).testBit i=true→∀ o,ops[j]?=some o→(∀ e∈o.after,Region.binds .any e=true→S e.on)→S i)→
   ∀ j i,((l.foldl (fun acc o=>acc.push (o.after.foldl (fun s e=>if Region.binds .any e then s ||| 2 ^ e.on ||| acc.getD e.on 0 else s) 0)) acc).getD j 0).testBit i=true→∀ o,ops[j]?=some o→(∀ e∈o.after,Region.binds .any e=true→S e.on)→S i:=by
  intro l
  induction l with
  |nil=>intro acc _ h;exact h
  |cons o l ih=>
   intro acc hl hacc
   simp only [List.foldl_cons]
   refine ih _ ?_ ?_
   ·intro t o' ho'
    have:=hl (t+1) o' (by simpa using ho')
    rw [Array.size_push,show acc.size+1+t=acc.size+(t+1) by omega]
    exact this
   ·intro j i hb o' ho' hdeps
    by_cases hj:j=acc.size
    ·subst hj
     have ho:=hl 0 o rfl
     rw [Nat.add_zero] at ho
     rw [ho] at ho'
     cases ho'
     have e1:(acc.push (o.after.foldl (fun s e=>if Region.binds .any e then s ||| 2 ^ e.on ||| acc.getD e.on 0 else s) 0)).getD acc.size 0=o.after.foldl (fun s e=>if Region.binds .any e then s ||| 2 ^ e.on ||| acc.getD e.on 0 else s) 0:=by simp
     rw [e1,←Array.foldl_toList] at hb
     rcases fold_bits (A:=fun k=>acc.getD k 0) _ _ hb with h0|⟨e,he,hbind,h1⟩
     ·simp at h0
     ·have hm:e∈o.after:=by simpa using he
      have hse:=hdeps e hm hbind
      rcases h1 with rfl|h1
      ·exact hse
      ·have hlt:e.on<acc.size:=by
        rcases Nat.lt_or_ge e.on acc.size with h'|h'
        ·exact h'
        ·rw [show acc.getD e.on 0=0 by simp [h']] at h1
         simp at h1
       cases hoe:ops[e.on]? with
       |none=>
        rw [Array.getElem?_eq_none_iff] at hoe
        have:=(Array.getElem?_eq_some_iff.1 ho).1
        omega
       |some oe=>exact hacc e.on i h1 oe hoe (hS e.on oe hoe hse)
    ·have e1:(acc.push (o.after.foldl (fun s e=>if Region.binds .any e then s ||| 2 ^ e.on ||| acc.getD e.on 0 else s) 0)).getD j 0=acc.getD j 0:=by
      simp only [Array.getD_eq_getD_getElem?,Array.getElem?_push]
      rw [if_neg hj]
     rw [e1] at hb
     exact hacc j i hb o' ho' hdeps
 intro o ho hdeps
 unfold Region.before at h
 rw [←Array.foldl_toList] at h
 refine key ops.toList #[] ?_ ?_ j i h o ho hdeps
 ·intro t o' ho'
  simpa using ho'
 ·intro j i hb
  simp at hb
theorem unord_symm {bf:Array Nat} {i j:Nat} (h:i≠j):unord bf i j=unord bf j i:=by
 unfold unord
 rcases Nat.lt_or_gt_of_ne h with h|h
 ·have h1:Nat.blt i j=true:=by simp;omega
  have h2:Nat.blt j i=false:=by rw [Bool.eq_false_iff];simp;omega
  rw [h1,h2]
  try rfl
 ·have h1:Nat.blt j i=true:=by simp;omega
  have h2:Nat.blt i j=false:=by rw [Bool.eq_false_iff];simp;omega
  rw [h1,h2]
  try rfl
theorem anc {S:Nat→Prop} (hS:ClosedS ops S) {i j:Nat} (h:unord (Region.before ops) i j=false) (hij:i<j) {o:Oper} (ho:ops[j]?=some o) (hd:∀ e∈o.after,Region.binds .any e=true→S e.on):S i:=by
 refine before_anc hS ?_ o ho hd
 unfold unord at h
 rw [show Nat.blt i j=true by simp;omega] at h
 simpa using h
theorem anc' {S:Nat→Prop} (hS:ClosedS ops S) {i j:Nat} (h:unord (Region.before ops) i j=false) (hij:i<j) {o:Oper} (ho:ops[j]?=some o) (hj:S j):S i:=anc hS h hij ho (hS j o ho hj)
end
end Go.Pg
namespace Go.Pg
section
variable {P:Program} {cf:CallF} {N:Nat} {res:(Ex × List Value) × AHeap} {ops:Array Oper}
def SL (listed:Array Bool):Nat→Prop:=fun j=>listed.getD j false=true
theorem SL_set {listed:Array Bool} {k j:Nat} (hk:k<listed.size):SL (listed.setIfInBounds k true) j↔(j=k∨SL listed j):=by
 unfold SL
 simp only [Array.getD_eq_getD_getElem?,Array.getElem?_setIfInBounds]
 by_cases h:k=j
 ·subst h
  simp [hk]
 ·rw [if_neg h]
  constructor
  ·exact .inr
  ·rintro (e|e)
   ·exact absurd e.symm h
   ·exact e
theorem SL_not {listed:Array Bool} {j:Nat} (h:listed.getD j true=false):¬ SL listed j∧j<listed.size:=by
 unfold SL
 by_cases hj:j<listed.size
 ·simp [hj] at h ⊢
  exact h
 ·simp [hj] at h
theorem SL_of_not {listed:Array Bool} {j:Nat} (hj:j<listed.size) (h:¬ SL listed j):listed.getD j true=false:=by
 unfold SL at h
 simp [hj] at h ⊢
 exact h
def cntU (listed:Array Bool):List Nat→Nat
 |[]=>0
 |j::r=>(if listed.getD j true=true then 0 else 1)+cntU listed r
theorem cntU_le {listed:Array Bool} {k:Nat}:∀ l:List Nat,cntU (listed.setIfInBounds k true) l≤cntU listed l
 |[]=>Nat.le_refl _
 |j::r=>by
  have ih:=cntU_le (listed:=listed) (k:=k) r
  unfold cntU
  by_cases hk:k=j
  ·subst hk
   have:(listed.setIfInBounds k true).getD k true=true:=by
    simp only [Array.getD_eq_getD_getElem?,Array.getElem?_setIfInBounds]
    split<;>rename_i h
    ·split<;>rfl
    ·exact absurd trivial h
   rw [if_pos this]
   omega
  ·rw [getD_set_ne true hk]
   omega
theorem cntU_lt {listed:Array Bool} {k:Nat} (hk:listed.getD k true=false):∀ l:List Nat,k∈l→cntU (listed.setIfInBounds k true) l+1≤cntU listed l
 |[],h=>by cases h
 |j::r,h=>by
  have ih2:=cntU_le (listed:=listed) (k:=k) r
  by_cases hj:k=j
  ·subst hj
   unfold cntU
   have:(listed.setIfInBounds k true).getD k true=true:=by
    simp only [Array.getD_eq_getD_getElem?,Array.getElem?_setIfInBounds]
    split<;>rename_i h
    ·split<;>rfl
    ·exact absurd trivial h
   rw [if_pos this,if_neg (by rw [hk];decide)]
   omega
  ·have ih:=cntU_lt hk r (by simpa [hj] using h)
   unfold cntU
   rw [getD_set_ne true hj]
   omega
theorem cntU_zero {listed:Array Bool}:∀ l:List Nat,cntU listed l=0→∀ j,j∈l→listed.getD j true=true
 |[],_,j,h=>by cases h
 |i::r,hc,j,h=>by
  unfold cntU at hc
  rcases List.mem_cons.1 h with rfl|h
  ·by_cases e:listed.getD j true=true
   ·exact e
   ·rw [if_neg e] at hc;omega
  ·exact cntU_zero r (by omega) j h
theorem slots_of {bf:Array Nat} (h:slotsOrdered bf ops (allIOps ops)=true):
  (∀ (i:Nat) o,ops[i]?=some o→∀ e∈o.after,Region.binds .any e=true→e.on<i)∧
  (∀ (i j:Nat) oi oj d,ops[i]?=some oi→ops[j]?=some oj→oj.dst=some d→i≠j→(oi.dst=some d∨d∈looksO ops oi)→unord bf i j=false):=by
 have mem:∀ (i:Nat) o,ops[i]?=some o→(i,o)∈allIOps ops:=fun i o ho=>List.mem_of_getElem? (i:=i) (by rw [allIOps_get,ho];rfl)
 unfold slotsOrdered at h
 rw [Bool.and_eq_true] at h
 obtain ⟨h1,h2⟩:=h
 rw [List.all_eq_true] at h1 h2
 constructor
 ·intro i o ho e he hb
  have:=h1 _ (mem i o ho)
  rw [List.all_eq_true] at this
  have:=this e (by simpa using he)
  rw [hb] at this
  simpa using this
 ·intro i j oi oj d hi hj hd hne hlook
  have:=h2 _ (mem j oj hj)
  simp only [hd] at this
  rw [List.all_eq_true] at this
  have:=this _ (mem i oi hi)
  simp only [Bool.or_eq_true,Bool.not_eq_true'] at this
  rcases this with (h|h)|h
  ·exact absurd (Nat.eq_of_beq_eq_true h) hne
  ·exact h
  ·exfalso
   rw [Bool.or_eq_false_iff] at h
   rcases hlook with hl|hl
   ·rw [hl] at h
    simp [optEq] at h
   ·have:(looksO ops oi).any (Nat.beq d)=true:=by
     rw [List.any_eq_true]
     exact ⟨d,hl,Nat.beq_refl d⟩
    rw [this] at h
    exact absurd h.2 (by decide)
theorem eff_of {late:Bool} {bf:Array Nat} (h:effOrdered P late bf (allIOps ops)=true) {i j:Nat} {oi oj:Oper} (hi:ops[i]?=some oi) (hj:ops[j]?=some oj) (h1:effL P late oi=true) (h2:effL P late oj=true) (hij:i<j):unord bf i j=false:=by
 have mem:∀ (i:Nat) o,ops[i]?=some o→(i,o)∈allIOps ops:=fun i o ho=>List.mem_of_getElem? (i:=i) (by rw [allIOps_get,ho];rfl)
 unfold effOrdered at h
 rw [List.all_eq_true] at h
 have:=h _ (mem i oi hi)
 rw [h1] at this
 simp only [Bool.not_true,Bool.false_or] at this
 rw [List.all_eq_true] at this
 have:=this _ (mem j oj hj)
 rw [h2] at this
 simp only [Bool.not_true,Bool.false_or,Bool.or_eq_true,Nat.ble_eq,Bool.not_eq_true'] at this
 rcases this with h|h
 ·omega
 ·exact h
theorem first_of {bf:Array Nat} (h:allocFirst P bf (allIOps ops)=true) {i j:Nat} {oi oj:Oper} (hi:ops[i]?=some oi) (hj:ops[j]?=some oj) (h1:effL P true oi=true) (h2:isAlloc oj=true) (hij:i<j):unord bf i j=false:=by
 have mem:∀ (i:Nat) o,ops[i]?=some o→(i,o)∈allIOps ops:=fun i o ho=>List.mem_of_getElem? (i:=i) (by rw [allIOps_get,ho];rfl)
 unfold allocFirst at h
 rw [List.all_eq_true] at h
 have:=h _ (mem i oi hi)
 rw [h1] at this
 simp only [Bool.not_true,Bool.false_or] at this
 rw [List.all_eq_true] at this
 have:=this _ (mem j oj hj)
 rw [h2] at this
 simp only [Bool.not_true,Bool.false_or,Bool.or_eq_true,Nat.ble_eq,Bool.not_eq_true'] at this
 rcases this with h|h
 ·omega
 ·exact h
variable {W0:World} {T:Tc} {n:Nat} {late:Bool}
theorem made_of (hst:∀ (i:Nat) o,ops[i]?=some o→StepT P cf ops late T i o) {i:Nat} {o:Oper} (ho:ops[i]?=some o) (ha:T.al i=true):
  OnT ops o (T.F i)∧T.eff i=false∧isAlloc o=true∧∃ h ao,opSem P o (T.F i)=.act h∧h (T.H i)=some (T.V i,T.H (i+1))∧T.H (i+1)=(T.H i).push ao:=by
 rcases (hst i o ho).2 with ⟨_,_,_,_,_,h⟩|⟨hon,⟨_,_,_,_,h⟩|⟨_,_,_,_,_,_,_,h⟩|⟨_,_,_,_,h⟩|⟨h,h1,h2,h3,h4,_⟩⟩
 ·rw [ha] at h;cases h
 ·rw [ha] at h;cases h
 ·rw [ha] at h;cases h
 ·rw [ha] at h;cases h
 ·obtain ⟨ao,hp⟩:=alloc_push h2 h1 h3
  exact ⟨hon,h4,h2,h,ao,h1,h3,hp⟩
theorem H_push (hst:∀ (i:Nat) o,ops[i]?=some o→StepT P cf ops late T i o) (hfr:∀ i,i<ops.size→T.al i=true→(T.H i).get (T.H i).n=none) {a:Nat}:∀ (b:Nat),a≤b→b≤ops.size→(∀ e,a≤e→e<b→T.eff e=false)→Pushed (T.H a) (T.H b):=by
 intro b
 induction b with
 |zero=>intro h _ _;rw [Nat.le_zero.1 h];exact .refl _
 |succ b ih=>
  intro h1 h2 h3
  by_cases hb:a=b+1
  ·rw [hb];exact .refl _
  ·have hp:=ih (by omega) (by omega) fun e h4 h5=>h3 e h4 (by omega)
   have ho:ops[b]?=some ops[b]:=Array.getElem?_eq_getElem (by omega)
   have hf:=h3 b (by omega) (by omega)
   cases ha:T.al b with
   |true=>
    obtain ⟨_,_,_,_,ao,_,_,hpu⟩:=made_of hst ho ha
    rw [hpu]
    exact .push ao hp (hfr b (by omega) ha)
   |false=>
    have:T.H (b+1)=T.H b:=by
     rcases (hst b _ ho).2 with ⟨_,_,h,_⟩|⟨_,⟨_,h,_⟩|⟨_,_,_,_,h,_⟩|⟨_,_,h,_⟩|⟨_,_,_,_,_,_,h,_⟩⟩
     ·exact h
     ·exact h
     ·exact h
     ·rw [hf] at h;cases h
     ·rw [ha] at h;cases h
    rw [this]
    exact hp
theorem last_in (p:Nat→Bool) (a:Nat):∀ b,(∀ e,a≤e→e<b→p e=false)∨∃ e,a≤e∧e<b∧p e=true∧∀ f,e<f→f<b→p f=false
 |0=>.inl fun e _ h=>by omega
 |b+1=>by
  by_cases hb:a≤b∧p b=true
  ·exact .inr ⟨b,hb.1,by omega,hb.2,fun f h1 h2=>by omega⟩
  ·rcases last_in p a b with h|⟨e,h1,h2,h3,h4⟩
   ·refine .inl fun e h1 h2=>?_
    by_cases he:e=b
    ·subst he
     cases hp:p e with
     |false=>rfl
     |true=>exact absurd ⟨h1,hp⟩ hb
    ·exact h e h1 (by omega)
   ·refine .inr ⟨e,h1,by omega,h3,fun f h5 h6=>?_⟩
    by_cases he:f=b
    ·subst he
     cases hp:p f with
     |false=>rfl
     |true=>exact absurd ⟨by omega,hp⟩ hb
    ·exact h4 f h5 (by omega)
theorem first_in (p:Nat→Bool) (a:Nat):∀ b,(∀ e,a≤e→e<b→p e=false)∨∃ e,a≤e∧e<b∧p e=true∧∀ f,a≤f→f<e→p f=false
 |0=>.inl fun e _ h=>by omega
 |b+1=>by
  rcases first_in p a b with h|⟨e,h1,h2,h3,h4⟩
  ·by_cases hb:a≤b∧p b=true
   ·exact .inr ⟨b,hb.1,by omega,hb.2,fun f h1 h2=>h f h1 h2⟩
   ·refine .inl fun e h1 h2=>?_
    by_cases he:e=b
    ·subst he
     cases hp:p e with
     |false=>rfl
     |true=>exact absurd ⟨h1,hp⟩ hb
    ·exact h e h1 (by omega)
  ·exact .inr ⟨e,h1,by omega,h3,h4⟩
def Pend (ops:Array Oper) (T:Tc) (S:Nat→Prop) (m:Nat) (κ:Inj):Prop:=
 ∀ i,i<m→i<ops.size→T.al i=true→¬ S i→κ.dead (T.H i).n∧(T.H m).get (T.H i).n=(T.H (i+1)).get (T.H i).n
structure InvT (ops:Array Oper) (W0:World) (T:Tc) (ι:Inj) (d:List Deferred) (listed:Array Bool) (a:Go.Act) (W:World):Prop where
 size:listed.size=ops.size
 closed:ClosedS ops (SL listed)
 heap:∃ m κ,m≤ops.size∧ι.le κ∧Rel κ W0 (T.H m) W∧(∀ e,e<ops.size→T.eff e=true→(SL listed e↔e<m))∧(m=ops.size∨T.eff m=true)∧Pend ops T (SL listed) m κ∧
  ∀ i,i≤ops.size→∀ t,(∀ (j:Nat) o,ops[j]?=some o→o.dst=some t→(SL listed j↔j<i))→VR κ W0.heap.size (getD (T.F i) t) (a.tmps.getD t Go.undef)
 len:(T.F 0).length=a.tmps.size
 defers:a.defers=d
theorem F_len (hst:∀ (i:Nat) o,ops[i]?=some o→StepT P cf ops late T i o):∀ i,i≤ops.size→(T.F i).length=(T.F 0).length
 |0,_=>rfl
 |i+1,h=>by
  rw [(hst i ops[i] (Array.getElem?_eq_getElem (by omega))).1]
  rw [←F_len hst i (by omega)]
  cases (ops[i]).dst with
  |none=>rfl
  |some d=>exact setD_length _ _ _
theorem F_keep (hst:∀ (i:Nat) o,ops[i]?=some o→StepT P cf ops late T i o) {t a:Nat}:∀ b,a≤b→b≤ops.size→(∀ (j:Nat) o,a≤j→j<b→ops[j]?=some o→o.dst≠some t)→getD (T.F b) t=getD (T.F a) t
 |0,h,_,_=>by rw [Nat.le_zero.1 h]
 |b+1,h1,h2,h3=>by
  by_cases hb:a=b+1
  ·rw [hb]
  ·have ho:ops[b]?=some ops[b]:=Array.getElem?_eq_getElem (by omega)
   rw [(hst b _ ho).1,←F_keep hst b (by omega) (by omega) fun j o h4 h5=>h3 j o h4 (by omega)]
   have hne:=h3 b _ (by omega) (by omega) ho
   cases hd:(ops[b]).dst with
   |none=>rfl
   |some d=>
    show getD (setD (T.F b) d _) t=_
    rw [getD_setD,if_neg]
    rintro ⟨rfl,_⟩
    exact hne hd
theorem put_size (a:Go.Act) (d:Option Tmp) (v:Value):(a.put d v).tmps.size=a.tmps.size:=by
 cases d with
 |none=>rfl
 |some d=>simp [Go.Act.put]
theorem InvT.put {ι κ:Inj} {d:List Deferred} {listed:Array Bool} {a:Go.Act} {W W1:World} (I:InvT ops W0 T ι d listed a W) (hst:∀ (i:Nat) o,ops[i]?=some o→StepT P cf ops late T i o)
  (hso:slotsOrdered (Region.before ops) ops (allIOps ops)=true) {k:Nat} {o:Oper} (ho:ops[k]?=some o) (hnk:¬ SL listed k) (hdep:∀ e∈o.after,Region.binds .any e=true→SL listed e.on)
  {m':Nat} {v':Value} {κ':Inj} (hκ:ι.le κ') (hκ':κ.lem κ') (hm':m'≤ops.size) (R':Rel κ' W0 (T.H m') W1) (hv:VR κ' W0.heap.size (T.V k) v')
  (hfr:∀ i,i≤ops.size→∀ t,(∀ (j:Nat) o,ops[j]?=some o→o.dst=some t→(SL listed j↔j<i))→VR κ W0.heap.size (getD (T.F i) t) (a.tmps.getD t Go.undef))
  (heff:∀ e,e<ops.size→T.eff e=true→((e=k∨SL listed e)↔e<m')) (hmax:m'=ops.size∨T.eff m'=true) (hpend:Pend ops T (fun j=>j=k∨SL listed j) m' κ'):
  InvT ops W0 T ι d (listed.setIfInBounds k true) (a.put o.dst v') W1:=by
 have hk:k<ops.size:=(Array.getElem?_eq_some_iff.1 ho).1
 have hk':k<listed.size:=by rw [I.size];exact hk
 obtain ⟨hback,hslots⟩:=slots_of hso
 refine ⟨by simp [I.size],?_,⟨m',κ',hm',hκ,R',?_,hmax,fun i h1 h2 h3 h4=>hpend i h1 h2 h3 fun h5=>h4 ((SL_set hk').2 h5),?_⟩,by rw [put_size];exact I.len,by rw [put_defers];exact I.defers⟩
 ·intro j oj hj hs e he hb
  rw [SL_set hk'] at hs ⊢
  rcases hs with rfl|hs
  ·rw [ho] at hj
   cases hj
   exact .inr (hdep e he hb)
  ·exact .inr (I.closed j oj hj hs e he hb)
 ·intro e he hee
  rw [SL_set hk']
  exact heff e he hee
 ·intro i hi t hwr
  by_cases hd:o.dst=some t
  ·have hki:k<i:=(hwr k o ho hd).1 ((SL_set hk').2 (.inl rfl))
   have e1:getD (T.F i) t=getD (T.F (k+1)) t:=by
    refine F_keep hst i (by omega) hi fun j oj h1 h2 hj hdj=>?_
    have hs:=(hwr j oj hj hdj).2 h2
    rw [SL_set hk'] at hs
    rcases hs with rfl|hs
    ·omega
    ·exact hnk (anc' I.closed (hslots k j o oj t ho hj hdj (by omega) (.inl hd)) (by omega) hj hs)
   rw [e1,(hst k o ho).1,hd]
   show VR κ' W0.heap.size (getD (setD (T.F k) t (T.V k)) t) ((a.tmps.setIfInBounds t v').getD t Go.undef)
   have hl:(T.F k).length=a.tmps.size:=by rw [F_len hst k (by omega)];exact I.len
   rw [getD_setD]
   by_cases ht:t<(T.F k).length
   ·rw [if_pos ⟨rfl,ht⟩]
    have ht':t<a.tmps.size:=hl▸ht
    have:(a.tmps.setIfInBounds t v').getD t Go.undef=v':=by simp [Array.getD,ht']
    rw [this]
    exact hv
   ·rw [if_neg fun h=>ht h.2,getD_ge ht]
    have:(a.tmps.setIfInBounds t v').getD t Go.undef=Go.undef:=by
     have:¬ t<a.tmps.size:=hl▸ht
     simp [Array.getD,this]
    rw [this]
    exact VR.undef
  ·have e1:(a.put o.dst v').tmps.getD t Go.undef=a.tmps.getD t Go.undef:=by
    cases hdo:o.dst with
    |none=>rfl
    |some d'=>
     show (a.tmps.setIfInBounds d' v').getD t Go.undef=_
     simp only [Array.getD_eq_getD_getElem?,Array.getElem?_setIfInBounds]
     rw [if_neg]
     rintro rfl
     exact hd hdo
   rw [e1]
   refine (hfr i hi t fun j oj hj hdj=>?_).monoM hκ'
   rw [←hwr j oj hj hdj,SL_set hk']
   constructor
   ·exact .inr
   ·rintro (rfl|h)
    ·rw [ho] at hj
     cases hj
     exact absurd hdj hd
    ·exact h
end
end Go.Pg
namespace Go.Pg
section
variable {P:Program} {cf:CallF} {N:Nat} {res:(Ex × List Value) × AHeap} {ops:Array Oper} {W0:World} {T:Tc} {late:Option Nat}
theorem fresh_of (htr:TraceT P cf ops (Region.before ops) late T (allIOps ops) 0 [] [] []):∀ i,i<ops.size→T.al i=true→(T.H i).get (T.H i).n=none:=by
 intro i hi ha
 have hlen:(allIOps ops).length=ops.size:=by have:=congrArg List.length (allIOps_fst ops);simpa using this
 have:=(htr.news i (by omega) (by rw [Nat.zero_add];exact ha)).2.1
 simpa using this
theorem quiet_look (hst:∀ (i:Nat) o,ops[i]?=some o→StepT P cf ops late.isSome T i o) (htr:TraceT P cf ops (Region.before ops) late T (allIOps ops) 0 [] [] []) {S:Nat→Prop} (hS:ClosedS ops S) {k m:Nat} {o:Oper} {h:Act} (ho:ops[k]?=some o) (hnk:¬ S k)
  (hdep:∀ e∈o.after,Region.binds .any e=true→S e.on) (hm:m≤ops.size) (heff:∀ e,e<ops.size→T.eff e=true→(S e↔e<m)) (hmax:m=ops.size∨T.eff m=true) (hq:T.q k=some h) (hqq:(hcOf P o).isQuiet=true) (hact:opSem P o (T.F k)=.act h) (hek:T.eff k=false) (hh:Look h (T.V k) (T.H k)):Look h (T.V k) (T.H m):=by
 have hk:k<ops.size:=(Array.getElem?_eq_some_iff.1 ho).1
 have hlen:(allIOps ops).length=ops.size:=by have:=congrArg List.length (allIOps_fst ops);simpa using this
 have hfr:=fresh_of htr
 by_cases hmk:m≤k
 ·have hem:T.eff m=true:=hmax.resolve_left (by omega)
  have hlt:m<k:=by
   rcases Nat.lt_or_ge m k with h|h
   ·exact h
   ·have:m=k:=by omega
    rw [this,hek] at hem
    cases hem
  have hne:¬ S m:=fun hs=>by have:=(heff m (by omega) hem).1 hs;omega
  have hu:unord (Region.before ops) m k=true:=by
   cases hu:unord (Region.before ops) m k with
   |true=>rfl
   |false=>exact absurd (anc hS hu hlt ho hdep) hne
  have:=htr.back k h m (by omega) hlt (by rw [Nat.zero_add];exact hq) (by rw [Nat.zero_add];exact hem) (by rw [Nat.zero_add,Nat.zero_add];exact hu)
  simpa using this
 ·rcases last_in T.eff k m with h0|⟨e,h1,h2,h3,h4⟩
  ·exact quiet_push (H_push hst hfr m (by omega) hm h0) hqq hact hh
  ·have hke:k<e:=by
    rcases Nat.lt_or_ge k e with h|h
    ·exact h
    ·have:e=k:=by omega
     subst this
     rw [hek] at h3
     cases h3
   have hse:S e:=(heff e (by omega) h3).2 h2
   have hu:unord (Region.before ops) k e=true:=by
    cases hu:unord (Region.before ops) k e with
    |true=>rfl
    |false=>exact absurd (anc' hS hu hke (Array.getElem?_eq_getElem (by omega)) hse) hnk
   have:=htr.ahead k h e (by omega) hke (by rw [Nat.zero_add];exact hq) (by rw [Nat.zero_add];exact h3) (by rw [Nat.zero_add,Nat.zero_add];exact hu)
   simp only [Nat.zero_add] at this
   exact quiet_push (H_push hst hfr m (by omega) hm fun f h5 h6=>h4 f (by omega) h6) hqq hact this
theorem Rel.redead {κ:Inj} {W:World} {σ:AHeap} (R:Rel κ W0 σ W) (D:Nat→Prop) (hD:∀ b,D b→b<σ.n∧∀ v,κ b v=none):Rel ⟨κ.map,D,κ.keep⟩ W0 σ W:=by
 have hl:κ.lem ⟨κ.map,D,κ.keep⟩:=fun _ _ _ h=>h
 refine { below:=R.below,old:=R.old,dom:=R.dom,inj:=R.inj,samelo:=R.samelo,blk:=?_,vers:=R.vers,map:=?_,iter:=R.iter,dead:=hD,fresh:=R.fresh,kept:=R.kept }
 ·intro b B v i hB hi
  have OK:=R.blk b B v i hB hi
  refine { last:=OK.last,ne:=OK.ne,dirty:=OK.dirty,one:=OK.one,ver:=fun v hi hh=>?_ }
  obtain ⟨i,f1,f2,f3,f4⟩:=OK.ver v hi hh
  refine ⟨i,f1,f2,f3,fun hd=>?_⟩
  obtain ⟨g1,g2,g3,g4,g5⟩:=f4 hd
  refine ⟨g1,g2,g3,g4,fun o h1 h2=>?_⟩
  obtain ⟨x,y,r1,r2,r3⟩:=g5 o h1 h2
  exact ⟨x,y,r1,r2,r3.monoM hl⟩
 ·intro b es v i hB hi
  obtain ⟨i,f1,ents,clock,f2,f3⟩:=R.map b es v i hB hi
  exact ⟨i,f1,ents,clock,f2,f3.monoM hl⟩
theorem Rel.ahead {κ:Inj} {W:World} (hst:∀ (i:Nat) o,ops[i]?=some o→StepT P cf ops late.isSome T i o) (hfr:∀ i,i<ops.size→T.al i=true→(T.H i).get (T.H i).n=none) {a b:Nat} (hab:a≤b) (hb:b≤ops.size)
  (hne:∀ e,a≤e→e<b→T.eff e=false) (R:Rel κ W0 (T.H a) W):
  Rel ⟨κ.map,fun c=>κ.dead c∨∃ i,a≤i∧i<b∧T.al i=true∧c=(T.H i).n,κ.keep⟩ W0 (T.H b) W:=by
 have hp:=H_push hst hfr b hab hb hne
 have R':=hp.rel R
 refine R'.redead _ ?_
 rintro c (hc|⟨i,h1,h2,h3,rfl⟩)
 ·exact R'.dead c hc
 ·obtain ⟨_,_,_,_,ao,_,_,hpu⟩:=made_of hst (Array.getElem?_eq_getElem (show i<ops.size by omega)) h3
  have hp1:Pushed (T.H a) (T.H i):=H_push hst hfr i h1 (by omega) fun e h4 h5=>hne e h4 (by omega)
  have hp2:Pushed (T.H (i+1)) (T.H b):=H_push hst hfr b (by omega) hb fun e h4 h5=>hne e (by omega) h5
  have e1:=hp2.n_le
  rw [hpu] at e1
  simp only [AHeap.push_n] at e1
  refine ⟨by omega,fun v=>?_⟩
  cases hv:κ (T.H i).n v with
  |none=>rfl
  |some x=>
   have:=(R.dom _ _ _ hv).1
   have:=hp1.n_le
   omega
theorem next_eff (p:Nat→Bool) (a n:Nat) (h:a≤n):∃ m,a≤m∧m≤n∧(m=n∨p m=true)∧∀ e,a≤e→e<m→p e=false:=by
 rcases first_in p a n with h0|⟨e,h1,h2,h3,h4⟩
 ·exact ⟨n,h,Nat.le_refl _,.inl rfl,h0⟩
 ·exact ⟨e,h1,by omega,.inr h3,h4⟩
theorem any_sound {Q:Exit→Go.Act→World→Prop} {ι:Inj} {d:List Deferred} (hG:P.globals.size≤W0.heap.size) (hcf:CFok P W0 cf) (hst:∀ (i:Nat) o,ops[i]?=some o→StepT P cf ops late.isSome T i o) (htr:TraceT P cf ops (Region.before ops) late T (allIOps ops) 0 [] [] [])
  (hso:slotsOrdered (Region.before ops) ops (allIOps ops)=true) (heo:effOrdered P late.isSome (Region.before ops) (allIOps ops)=true) (hfo:late.isSome=true→allocFirst P (Region.before ops) (allIOps ops)=true)
  (hdead:∀ n0,late=some n0→∀ b,ι.dead b→b<n0)
  (hn:∀ κ a' W',ι.le κ→Rel κ W0 (T.H ops.size) W'→FR κ W0.heap.size (T.F ops.size) a'.tmps→a'.defers=d→Q .normal a' W'):
  ∀ (fuel:Nat) (listed:Array Bool) (a:Go.Act) (W:World),cntU listed (List.range ops.size)≤fuel→InvT ops W0 T ι d listed a W→wpAny P .any ops Q fuel listed a W:=by
 obtain ⟨hback,hslots⟩:=slots_of hso
 have hlen:(allIOps ops).length=ops.size:=by have:=congrArg List.length (allIOps_fst ops);simpa using this
 have hfr:=fresh_of htr
 have done:∀ (listed:Array Bool) (a:Go.Act) (W:World),InvT ops W0 T ι d listed a W→(∀ j,j<ops.size→SL listed j)→Q .normal a W:=by
  intro listed a W I hall
  obtain ⟨m,κ,hm,hle,R,heff,hmax,hpend,hfrm⟩:=I.heap
  have hmn:m=ops.size:=by
   rcases Nat.lt_or_ge m ops.size with h|h
   ·have he:=hmax.resolve_left (by omega)
    have:=(heff m h he).1 (hall m h)
    omega
   ·omega
  subst hmn
  refine hn κ a W hle R ⟨by rw [F_len hst _ (Nat.le_refl _)];exact I.len,fun t=>hfrm _ (Nat.le_refl _) t fun j o hj _=>?_⟩ I.defers
  have hlt:=(Array.getElem?_eq_some_iff.1 hj).1
  exact ⟨fun _=>hlt,fun _=>hall j hlt⟩
 have all_of_nil:∀ (listed:Array Bool),listed.size=ops.size→Region.ready .any ops listed=[]→∀ j,j<ops.size→SL listed j:=by
  intro listed hsz hnil j
  induction j using Nat.strongRecOn with
  |_ j ih=>
   intro hj
   refine Classical.byContradiction fun hns=>?_
   have:j∈Region.ready .any ops listed:=by
    rw [mem_ready]
    refine ⟨SL_of_not (by omega) hns,ops[j],Array.getElem?_eq_getElem hj,fun e he hb=>?_⟩
    have:=hback j _ (Array.getElem?_eq_getElem hj) e he hb
    exact ih e.on this (by omega)
   rw [hnil] at this
   cases this
 intro fuel
 induction fuel with
 |zero=>
  intro listed a W hc I
  have hall:∀ j,j<ops.size→listed.getD j true=true:=fun j hj=>cntU_zero _ (Nat.le_zero.1 hc) j (List.mem_range.2 hj)
  refine ⟨?_,done listed a W I fun j hj=>?_⟩
  ·apply List.eq_nil_iff_forall_not_mem.2
   intro j hj
   rw [mem_ready] at hj
   obtain ⟨h0,o,ho,_⟩:=hj
   rw [hall j (Array.getElem?_eq_some_iff.1 ho).1] at h0
   cases h0
  ·have h1:=hall j hj
   unfold SL
   have:j<listed.size:=by rw [I.size];exact hj
   simp [this] at h1 ⊢
   exact h1
 |succ fuel ih=>
  intro listed a W hc I
  refine ⟨fun hnil=>done listed a W I (all_of_nil listed I.size hnil),fun k hk=>?_⟩
  obtain ⟨hk0,o,ho,hdep'⟩:=mem_ready.1 hk
  have hdep:∀ e∈o.after,Region.binds .any e=true→SL listed e.on:=hdep'
  obtain ⟨hnk,hkl⟩:=SL_not hk0
  have hkn:k<ops.size:=(Array.getElem?_eq_some_iff.1 ho).1
  have hc':cntU (listed.setIfInBounds k true) (List.range ops.size)≤fuel:=by
   have:=cntU_lt hk0 _ (List.mem_range.2 hkn)
   omega
  obtain ⟨m,κ,hm,hle,R,heff,hmax,hpend,hfrm⟩:=I.heap
  have hlook:∀ t,t∈looksO ops o→VR κ W0.heap.size (getD (T.F k) t) (a.tmps.getD t Go.undef):=by
   intro t ht
   refine hfrm k (by omega) t fun j oj hj hdj=>?_
   by_cases hjk:j=k
   ·subst hjk
    exact ⟨fun h=>absurd h hnk,fun h=>by omega⟩
   ·have hu:=hslots k j o oj t ho hj hdj (fun e=>hjk e.symm) (.inr ht)
    rcases Nat.lt_or_gt_of_ne hjk with h|h
    ·refine ⟨fun _=>h,fun _=>?_⟩
     rw [unord_symm (fun e=>hjk e.symm)] at hu
     exact anc I.closed hu h ho hdep
    ·refine ⟨fun hs=>absurd (anc' I.closed hu h hj hs) hnk,fun h'=>by omega⟩
  have hFl:(T.F k).length=a.tmps.size:=by rw [F_len hst k (by omega)];exact I.len
  have r:FR κ W0.heap.size (maskF (looksO ops o) 0 (T.F k)) a.tmps:=mask_FR hFl hlook
  have hsem:opSem P o (maskF (looksO ops o) 0 (T.F k))=opSem P o (T.F k):=opSem_congr fun t ht=>mask_look ht
  have gslot:∀ j w d',o.guard=some (j,w)→slotOf ops j=some d'→getD (maskF (looksO ops o) 0 (T.F k)) d'=getD (T.F k) d':=by
   intro j w d' hg hs
   refine mask_look ?_
   unfold looksO
   rw [hg]
   refine List.mem_append_right _ ?_
   simp [hs]
  have hmem:∀ e,e<ops.size→T.eff e=true→T.eff k=false→((e=k∨SL listed e)↔e<m):=by
   intro e he hee hek
   rw [←heff e he hee]
   refine ⟨fun h=>h.resolve_left ?_,.inr⟩
   rintro rfl
   rw [hee] at hek
   cases hek
  have hpend':∀ κ':Inj,(∀ b,κ.dead b→κ'.dead b)→Pend ops T (fun j=>j=k∨SL listed j) m κ':=by
   intro κ' hd i h1 h2 h3 h4
   obtain ⟨g1,g2⟩:=hpend i h1 h2 h3 fun hs=>h4 (.inr hs)
   exact ⟨hd _ g1,g2⟩
  unfold wpOp
  simp only [ho]
  obtain ⟨_,hstep⟩:=hst k o ho
  rcases hstep with ⟨⟨j,w,d',hg,hs,hoff⟩,hV,hH,heffk,_,_⟩|⟨hon,hdid⟩
  ·have hw:Region.wanted o (yielded ops a.tmps)=false:=by
    rw [wanted_some hg]
    rcases hoff with ⟨t,ht⟩|hb
    ·rw [yield_tuple r hs (by rw [gslot j w d' hg hs];exact ht)]
     try rfl
    ·rw [yield_bool r hs (by rw [gslot j w d' hg hs];exact hb)]
     cases w<;>rfl
   rw [if_neg (by rw [hw];decide)]
   exact ih _ _ _ hc' (I.put hst hso ho hnk hdep hle (fun _ _ _ h=>h) hm R (by rw [hV];exact VR.undef) hfrm (fun e he hee=>hmem e he hee heffk) hmax (hpend' κ fun _ h=>h))
  ·have hw:Region.wanted o (yielded ops a.tmps)=true:=by
    rcases hon with hg|⟨j,w,d',hg,hs,hb⟩
    ·exact wanted_none hg
    ·rw [wanted_some hg,yield_bool r hs (by rw [gslot j w d' hg hs];exact hb)]
     simp
   rw [if_pos hw]
   refine .inl ?_
   rcases hdid with ⟨hv,hH,heffk,_,_⟩|⟨h,hact,hqq,hrun,hH,heffk,hq,_⟩|⟨hcall,heo',heffk,_,halk⟩|⟨h,hact,hal,hrun,heffk,_,halk,hls⟩
   ·refine op_step' (v:=T.V k) (σ':=T.H m) hG hcf R r (.inl ⟨rfl,by rw [hsem];exact hv⟩) fun κ' v' W1 hle' R' hv'=>?_
    exact ih _ _ _ hc' (I.put hst hso ho hnk hdep (Inj.le_trans hle hle') hle'.1 hm R' hv' hfrm (fun e he hee=>hmem e he hee heffk) hmax (hpend' κ' hle'.2.1))
   ·obtain ⟨σ',hlk⟩:=quiet_look hst htr I.closed ho hnk hdep hm heff hmax hq hqq hact heffk ⟨_,hrun⟩
    have hsame:=quiet_same hqq hact hlk
    subst hsame
    refine op_step' (v:=T.V k) (σ':=T.H m) hG hcf R r (.inr (.inl ⟨h,by rw [hsem];exact hact,hlk⟩)) fun κ' v' W1 hle' R' hv'=>?_
    exact ih _ _ _ hc' (I.put hst hso ho hnk hdep (Inj.le_trans hle hle') hle'.1 hm R' hv' hfrm (fun e he hee=>hmem e he hee heffk) hmax (hpend' κ' hle'.2.1))
   ·have heffop:∀ e oe,ops[e]?=some oe→T.eff e=true→effL P late.isSome oe=true:=by
     intro e oe hoe hee
     rcases (hst e oe hoe).2 with ⟨_,_,_,h,_⟩|⟨_,⟨_,_,h,_⟩|⟨_,_,_,_,_,h,_⟩|⟨_,h,_⟩|⟨_,_,_,_,h,_⟩⟩
     ·rw [hee] at h;cases h
     ·rw [hee] at h;cases h
     ·rw [hee] at h;cases h
     ·exact h
     ·rw [hee] at h;cases h
    have hmk:m≤k:=by
     rcases Nat.lt_or_ge k m with h|h
     ·exact absurd ((heff k hkn heffk).2 h) hnk
     ·exact h
    have before_k:∀ e,e<k→T.eff e=true→SL listed e:=by
     intro e hek hee
     have hoe:ops[e]?=some ops[e]:=Array.getElem?_eq_getElem (by omega)
     exact anc I.closed (eff_of heo hoe ho (heffop e _ hoe hee) heo' hek) hek ho hdep
    have hmk':m=k:=by
     rcases Nat.lt_or_ge m k with h|h
     ·have hem:=hmax.resolve_left (by omega)
      have:=(heff m (by omega) hem).1 (before_k m h hem)
      omega
     ·omega
    subst hmk'
    have key:(∃ h,opSem P o (maskF (looksO ops o) 0 (T.F m))=.act h∧h (T.H m)=some (T.V m,T.H (m+1)))∨(∃ f args,opSem P o (maskF (looksO ops o) 0 (T.F m))=.call f args∧cf f args (T.H m)=some (T.V m,T.H (m+1))):=by
     rw [hsem]
     exact hcall
    refine op_step' (v:=T.V m) (σ':=T.H (m+1)) hG hcf R r (.inr key) fun κ' v' W1 hle' R' hv'=>?_
    obtain ⟨m',q1,q2,q3,q4⟩:=next_eff T.eff (m+1) ops.size (by omega)
    have R2:=Rel.ahead hst hfr q1 q2 q4 R'
    refine ih _ _ _ hc' (I.put hst hso ho hnk hdep (m':=m') (κ':=⟨κ'.map,fun c=>κ'.dead c∨∃ i,m+1≤i∧i<m'∧T.al i=true∧c=(T.H i).n,κ'.keep⟩) ⟨(Inj.le_trans hle hle').1,fun b hb=>.inl (hle'.2.1 b (hle.2.1 b hb)),fun c o h=>hle'.2.2 c o (hle.2.2 c o h)⟩ hle'.1 q2 R2 (VR.monoM (ι:=κ') (fun _ _ _ h=>h) hv') hfrm (fun e he hee=>?_) q3 ?_)
    ·constructor
     ·rintro (rfl|hs)
      ·omega
      ·have:=(heff e he hee).1 hs
       omega
     ·intro hlt
      by_cases hek:e=m
      ·exact .inl hek
      ·right
       rcases Nat.lt_or_ge e m with h|h
       ·exact before_k e h hee
       ·have:=q4 e (by omega) hlt
        rw [hee] at this
        cases this
    ·intro i h1 h2 h3 h4
     obtain ⟨_,hei,hali,_,ao,_,_,hpu⟩:=made_of hst (Array.getElem?_eq_getElem h2) h3
     have hget:(T.H (i+1)).get (T.H i).n=some ao:=by rw [hpu,AHeap.get_push,if_pos rfl]
     rcases Nat.lt_or_ge i m with h|h
     ·obtain ⟨g1,g2⟩:=hpend i h h2 h3 fun hs=>h4 (.inr hs)
      refine ⟨.inl (hle'.2.1 _ g1),?_⟩
      have hu:unord (Region.before ops) i m=true:=by
       cases hu:unord (Region.before ops) i m with
       |true=>rfl
       |false=>exact absurd (.inr (anc I.closed hu h ho hdep)) h4
      have:=htr.intact i m (by omega) h (by rw [Nat.zero_add];exact h3) (by rw [Nat.zero_add];exact heffk) (by rw [Nat.zero_add,Nat.zero_add];exact hu)
      simp only [Nat.zero_add] at this
      rw [hget] at this ⊢
      exact (H_push hst hfr m' q1 q2 q4).get this
     ·have hne:i≠m:=fun e=>h4 (.inl e)
      refine ⟨.inr ⟨i,by omega,h1,h3,rfl⟩,?_⟩
      rw [hget]
      exact (H_push hst hfr m' (by omega) q2 fun e h5 h6=>q4 e (by omega) h6).get hget
   ·obtain ⟨n0,hn0⟩:=Option.isSome_iff_exists.1 hls
    have hkm:k<m:=by
     rcases Nat.lt_or_ge k m with h|h
     ·exact h
     ·exfalso
      have hem:=hmax.resolve_left (by omega)
      have hlt:m<k:=by
       rcases Nat.lt_or_ge m k with h'|h'
       ·exact h'
       ·have:m=k:=by omega
        rw [this,heffk] at hem
        cases hem
      have hom:ops[m]?=some ops[m]:=Array.getElem?_eq_getElem (by omega)
      have hel:effL P true ops[m]=true:=by
       rcases (hst m _ hom).2 with ⟨_,_,_,h,_⟩|⟨_,⟨_,_,h,_⟩|⟨_,_,_,_,_,h,_⟩|⟨_,h,_⟩|⟨_,_,_,_,h,_⟩⟩
       ·rw [hem] at h;cases h
       ·rw [hem] at h;cases h
       ·rw [hem] at h;cases h
       ·rw [hls] at h;exact h
       ·rw [hem] at h;cases h
      have hs:=anc I.closed (first_of (hfo hls) hom ho hel hal hlt) hlt ho hdep
      have:=(heff m (by omega) hem).1 hs
      omega
    obtain ⟨g1,g2⟩:=hpend k hkm hkn halk hnk
    obtain ⟨d1,d2⟩:=R.dead _ g1
    obtain ⟨s,hex,ao,ob,i,v',hpu,hr1,hr2,hr3⟩:=op_alloc (W:=W) hal hG r (by rw [hsem];exact hact) hrun
    have hget:(T.H (k+1)).get (T.H k).n=some ao:=by rw [hpu,AHeap.get_push,if_pos rfl]
    rw [hget] at g2
    have R':=hr2 (T.H m) (T.H k).n R g2 d1 d2
    unfold Oper.wp
    rw [hex,Sem.run_bind,hr1]
    show wpAny P .any ops Q fuel (listed.setIfInBounds k true) (a.put o.dst v') (W.alloc ob)
    have hn0k:=((htr.news k (by omega) (by rw [Nat.zero_add];exact halk)).1 n0 hn0)
    rw [Nat.zero_add] at hn0k
    refine ih _ _ _ hc' (I.put hst hso ho hnk hdep (κ':=link κ (T.H k).n i) ⟨fun b v x hx=>link_lem (d2 0) b v x (hle.1 b v x hx),fun b hb=>⟨hle.2.1 b hb,fun e=>by have:=hdead n0 hn0 b hb;omega⟩,fun c o h=>hle.2.2 c o h⟩ (link_lem (d2 0)) hm R' (hr3 _ (link_lem (d2 0)) link_same) hfrm (fun e he hee=>hmem e he hee heffk) hmax ?_)
    intro i' h1 h2 h3 h4
    obtain ⟨q1,q2⟩:=hpend i' h1 h2 h3 fun hs=>h4 (.inr hs)
    refine ⟨⟨q1,?_⟩,q2⟩
    have hne:i'≠k:=fun e=>h4 (.inl e)
    rcases Nat.lt_or_gt_of_ne hne with hlt|hlt
    ·have:=htr.apart i' k (by omega) hlt (by rw [Nat.zero_add];exact h3) (by rw [Nat.zero_add];exact halk)
     simpa using this
    ·have:=htr.apart k i' (by omega) hlt (by rw [Nat.zero_add];exact halk) (by rw [Nat.zero_add];exact h3)
     simp only [Nat.zero_add] at this
     exact fun e=>this e.symm
end
end Go.Pg
