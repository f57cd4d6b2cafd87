/- Pg2 -/
import Derived.WideKeyRuns
import Derived.CheckFast
import Derived.Test.YtkbefekajgfldaaGreatDoorQ1
set_option maxHeartbeats 1000000
namespace Go.Pg
open Go.MapKept
section
variable {P:Program} {ι:Inj} {W0 W:World} {σ σ':aB}
theorem vR {d:TypeDesc} {k:Value} (h:nY d k=true):IsKey d k:=by
 cases d<;>cases k<;>simp_all [nY,IsKey]
theorem isKey_eq {B:Nat} {d:TypeDesc} {k k':Value} (h:nY d k=true) (hk:VR ι B k k'):k'=k:=by
 cases k with
 |bool b=>exact hk.bool_inv
 |int kd n=>exact hk.int_inv
 |string s=>exact hk.string_inv
 |_=>cases d<;>simp [nY] at h
theorem MR.cons_inv {B:Nat} {k v:Value} {es:List (Value × Value)} {ents:List MapEntry} (h:MR ι B ((k,v)::es) ents):∃ e r,ents=e::r∧e.key=k∧VR ι B v e.val∧MR ι B es r:=by
 cases ents with
 |nil=>exact absurd h.1 (by simp)
 |cons e r=>exact ⟨e,r,rfl,(h.2 0 k v e rfl rfl).1,(h.2 0 k v e rfl rfl).2,by simpa using h.1,fun j k v e a b=>h.2 (j+1) k v e (by simpa using a) (by simpa using b)⟩
theorem wi {B:Nat} {d:TypeDesc} {k:Value}:∀ (es:List (Value × Value)) (ents:List MapEntry) (i:Nat) (r:Option Value),MR ι B es ents→dH d k es=some r→
  (r=none∧Instr.findNow d k ents i=some none)∨∃ v j e,r=some v∧Instr.findNow d k ents i=some (some (i+j,e.val))∧ents[j]?=some e∧VR ι B v e.val
 |[],ents,i,r,hm,h=>by
  have:ents=[]:=by have:=hm.1;simpa using this.symm
  subst this
  simp [dH] at h
  exact .inl ⟨h.symm,rfl⟩
 |(k',v)::es,ents,i,r,hm,h=>by
  obtain ⟨e,m,rfl,hk,hv,hm'⟩:=hm.cons_inv
  simp only [dH] at h
  simp only [Instr.findNow,hk]
  cases hs:Instr.sameNow d k k' with
  |none=>rw [hs] at h;cases h
  |some b=>
   rw [hs] at h
   cases b with
   |true=>
    simp at h
    subst h
    exact .inr ⟨v,0,e,rfl,rfl,rfl,hv⟩
   |false=>
    simp only at h ⊢
    rcases wi es m (i+1) r hm' h with h|⟨v',j,e',h1,h2,h3,h4⟩
    ·exact .inl h
    ·exact .inr ⟨v',j+1,e',h1,by rw [h2,show i+1+j=i+(j+1) by omega],by simpa using h3,h4⟩
theorem rD {r:Nat} {es:List (Value × Value)} (h:σ.getMap r=some es):σ.get r=some (.map es)∨σ.get r=some (.rom es):=by
 unfold aB.getMap at h
 split at h
 ·rename_i es' h1;cases h;exact .inl h1
 ·rename_i es' h1;cases h;exact .inr h1
 ·cases h
theorem wB {r:Nat} {es:List (Value × Value)} (h:σ.getMapW r=some es):σ.get r=some (.map es):=by
 unfold aB.getMapW at h
 split at h
 ·rename_i es' h1;cases h;exact h1
 ·cases h
theorem zm {kt et:TypeId} {kd:TypeDesc} {k z:Value} {ok:Bool} {es:Array MapEntry} {t:TypeId} {x:Value} (hd:P.underlying t=some (.map kt et)) (hkd:P.underlying kt=some kd) (hz:dU P et=some z) (hik:nY kd k=true)
  (hx:(x=.map none∧es= #[])∨∃ r0 clock,x=.map (some r0)∧W.heap[r0]?=some (.map es clock)) {a:Option (Nat × Value)} (ha:Instr.findNow kd k es.toList 0=some a):
  (Instr.lookup t x k ok).run P W=.ok (match a with
   |some (_,v)=>if ok then .tuple #[v,.bool true] else v
   |none=>if ok then .tuple #[z,.bool false] else z) W:=by
 unfold Instr.lookup
 rw [Sem.run_bind,bD hd]
 simp only [Result.andThen]
 have hchk:∀ b n,(Instr.checkKey b (n+1) kt k).run P W=.ok () W:=fun b n=>run_checkKey hkd (vR hik) b n
 have hfk:(Instr.findKey kt k es.toList).run P W=.ok a W:=run_findKey hkd ha
 rcases hx with ⟨rfl,rfl⟩|⟨r0,clock,rfl,hr⟩
 ·simp only [pure_bind]
  rw [Sem.run_bind,hchk]
  simp only [Result.andThen]
  rw [Sem.run_bind,hfk]
  simp only [Result.andThen]
  cases a with
  |none=>
   simp only
   rw [Sem.run_bind,eX hz]
   try rfl
  |some p=>rfl
 ·simp only
  rw [Sem.run_bind,Go.MapKept.run_getObj_map hr]
  simp only [Result.andThen,pure_bind]
  rw [Sem.run_bind,hchk]
  simp only [Result.andThen]
  rw [Sem.run_bind,hfk]
  simp only [Result.andThen]
  cases a with
  |none=>
   simp only
   rw [Sem.run_bind,eX hz]
   try rfl
  |some p=>rfl
theorem okV {B:Nat} {ok b:Bool} {v v':Value} (h:VR ι B v v'):VR ι B (bif ok then .tuple #[v,.bool b] else v) (if ok=true then .tuple #[v',.bool b] else v'):=by
 cases ok with
 |true=>exact (VRL.cons h (VRL.cons (.bool b) .nil)).tuple
 |false=>exact h
theorem same_int {d:TypeDesc} {k:Value} {kd:IntKind} {n:Int} {b:Bool} (h:Instr.sameNow d k (.int kd n)=some b):∃ m kk,d=.int kk∧k=.int kd m∧b=(m==n):=by
 unfold Instr.sameNow at h
 split at h
 ·rename_i heq
  split at h
  ·rename_i hk
   cases heq
   subst hk
   exact ⟨_,_,rfl,rfl,(Option.some.inj h).symm⟩
  ·cases h
 ·rename_i heq
  cases heq
 ·rename_i heq
  cases heq
 ·cases h
theorem pE (kk kd:IntKind) (m n:Int):Instr.sameNow (.int kk) (.int kd m) (.int kd n)=some (m==n):=by simp [Instr.sameNow]
theorem oY {kk kd:IntKind} {m:Int}:∀ {es:List (Value × Value)},(∀ p∈es,∃ n:Int,p.1=.int kd n)→∃ r,dH (.int kk) (.int kd m) es=some r∧∀ v,r=some v→(.int kd m,v)∈es
 |[],_=>⟨none,rfl,fun v h=>by cases h⟩
 |(k',v)::es,h=>by
  obtain ⟨n,e⟩:=h (k',v) (by simp)
  simp only at e
  subst e
  simp only [dH,pE]
  by_cases hmn:m=n
  ·subst hmn
   simp only [beq_self_eq_true]
   exact ⟨some v,rfl,fun u hu=>by cases hu;simp⟩
  ·have:(m==n)=false:=by simpa using hmn
   simp only [this]
   obtain ⟨r,h1,h2⟩:=oY (m:=m) (kk:=kk) (es:=es) fun p hp=>h p (by simp [hp])
   exact ⟨r,h1,fun u hu=>by simp [h2 u hu]⟩
theorem oH {kk kd:IntKind} {m:Int}:∀ {es:List (Value × Value)},(∀ p∈es,∃ n:Int,p.1=.int kd n)→dH (.int kk) (.int kd m) es=some none→∀ v,(.int kd m,v)∉es
 |[],_,_,v,h=>by cases h
 |(k',u)::es,hk,hf,v,h=>by
  obtain ⟨n,e⟩:=hk (k',u) (by simp)
  simp only at e
  subst e
  simp only [dH,pE] at hf
  by_cases hmn:m=n
  ·subst hmn
   simp at hf
  ·have:(m==n)=false:=by simpa using hmn
   simp only [this] at hf
   rcases List.mem_cons.1 h with h|h
   ·simp at h
    exact hmn h.1
   ·exact oH (fun p hp=>hk p (by simp [hp])) hf v h
theorem find_perm {d:TypeDesc} {k:Value} {es es':List (Value × Value)} {r:Option Value} (p:es'.Perm es) (o:es'=es∨iZ es) (h:dH d k es=some r):dH d k es'=some r:=by
 rcases o with rfl|ka
 ·exact h
 ·cases es with
  |nil=>
   have:=p.eq_nil
   subst this
   exact h
  |cons x l=>
   obtain ⟨kd,h1,h2⟩:=ka
   obtain ⟨x1,x2⟩:=x
   obtain ⟨n,e⟩:=h1 (x1,x2) (by simp)
   simp only at e
   subst e
   have hs:∃ b,Instr.sameNow d k (.int kd n)=some b:=by
    simp only [dH] at h
    split at h
    ·exact ⟨_,by assumption⟩
    ·exact ⟨_,by assumption⟩
    ·cases h
   obtain ⟨b,hb⟩:=hs
   obtain ⟨m,kk,rfl,rfl,_⟩:=same_int hb
   obtain ⟨r',g1,g2⟩:=oY (m:=m) (kk:=kk) (es:=es') fun q hq=>h1 q (p.mem_iff.1 hq)
   obtain ⟨r2,g3,g4⟩:=oY (m:=m) (kk:=kk) h1
   rw [h] at g3
   cases g3
   rw [g1]
   congr 1
   cases r' with
   |none=>
    cases r with
    |none=>rfl
    |some v=>exact absurd (p.mem_iff.2 (g4 v rfl)) (oH (fun q hq=>h1 q (p.mem_iff.1 hq)) g1 v)
   |some u=>
    have hu:=p.mem_iff.1 (g2 u rfl)
    cases r with
    |none=>exact absurd hu (oH h1 h u)
    |some v=>
     have hv:=g4 v rfl
     have key:∀ {l:List (Value × Value)},(l.map (·.1)).Nodup→∀ {k u v:Value},(k,u)∈l→(k,v)∈l→u=v:=by
      intro l
      induction l with
      |nil=>intro _ k u v h;cases h
      |cons y l ih=>
       intro hn k u v hu hv
       simp only [List.map_cons,List.nodup_cons,List.mem_map,not_exists,not_and] at hn
       rcases List.mem_cons.1 hu with hu'|hu'
       ·subst hu'
        rcases List.mem_cons.1 hv with hv'|hv'
        ·cases hv';try rfl
        ·exact (hn.1 (k,v) hv' rfl).elim
       ·rcases List.mem_cons.1 hv with hv'|hv'
        ·subst hv'
         exact (hn.1 (k,u) hu' rfl).elim
        ·exact ih hn.2 hu' hv'
     rw [key h2 hu hv]
def xQ (kd:IntKind) (m:Int) (p:Value × Value):Bool:=match p.1 with
 | .int k n=>decide (k=kd)&&decide (n=m)
 |_=>false
theorem keyIs_eq {kd:IntKind} {m:Int} {p:Value × Value} (h:xQ kd m p=true):p.1=.int kd m:=by
 unfold xQ at h
 split at h
 ·rename_i heq
  simp at h
  rw [heq,h.1,h.2]
 ·cases h
theorem rH {kk kd:IntKind} {m:Int} {v:Value}:∀ {es:List (Value × Value)},(∀ p∈es,∃ n:Int,p.1=.int kd n)→(es.map (·.1)).Nodup→
  ∃ es2,gT (.int kk) (.int kd m) v es=some es2∧es2.Perm ((.int kd m,v)::es.filter fun p=>!xQ kd m p)∧(∀ p∈es2,∃ n:Int,p.1=.int kd n)∧(es2.map (·.1)).Nodup
 |[],_,_=>⟨[(.int kd m,v)],rfl,by simp,by simp,by simp⟩
 |(k',u)::es,h,hn=>by
  obtain ⟨n,e⟩:=h (k',u) (by simp)
  simp only at e
  subst e
  simp only [gT,pE]
  have hne:(∀ p∈es,∃ n:Int,p.1=.int kd n):=fun p hp=>h p (by simp [hp])
  simp only [List.map_cons,List.nodup_cons] at hn
  by_cases hmn:m=n
  ·subst hmn
   simp only [beq_self_eq_true]
   refine ⟨_,rfl,?_,fun p hp=>?_,?_⟩
   ·have:((Value.int kd m,u)::es).filter (fun p=>!xQ kd m p)=es:=by
     rw [List.filter_cons_of_neg (by simp [xQ]),List.filter_eq_self]
     intro q hq
     cases hk:xQ kd m q with
     |false=>rfl
     |true=>exact absurd (by rw [←keyIs_eq hk];exact List.mem_map_of_mem hq) hn.1
    rw [this]
   ·rcases List.mem_cons.1 hp with rfl|hp
    ·exact ⟨m,rfl⟩
    ·exact hne p hp
   ·simpa using hn
  ·have:(m==n)=false:=by simpa using hmn
   simp only [this]
   obtain ⟨es2,g1,g2,g3,g4⟩:=rH (m:=m) (v:=v) (kk:=kk) hne hn.2
   rw [g1]
   refine ⟨_,rfl,?_,fun p hp=>?_,?_⟩
   ·rw [List.filter_cons_of_pos (by simp [xQ];exact fun e=>hmn e.symm)]
    exact (g2.cons _).trans (.swap _ _ _)
   ·rcases List.mem_cons.1 hp with rfl|hp
    ·exact ⟨n,rfl⟩
    ·exact g3 p hp
   ·simp only [List.map_cons,List.nodup_cons]
    refine ⟨fun hmem=>?_,g4⟩
    have:=(g2.map (·.1)).mem_iff.1 hmem
    simp only [List.map_cons,List.mem_cons] at this
    rcases this with e|hm2
    ·simp at e
     exact hmn e.symm
    ·obtain ⟨q,hq,eq⟩:=List.mem_map.1 hm2
     exact hn.1 (by rw [←eq];exact List.mem_map_of_mem (List.mem_filter.1 hq).1)
theorem set_perm {d:TypeDesc} {k v:Value} {es es' es2:List (Value × Value)} (p:es'.Perm es) (o:es'=es∨iZ es) (h:gT d k v es=some es2):∃ es2',gT d k v es'=some es2'∧es2'.Perm es2∧(es2'=es2∨iZ es2):=by
 rcases o with rfl|ka
 ·exact ⟨es2,h,.refl _,.inl rfl⟩
 ·cases es with
  |nil=>
   have:=p.eq_nil
   subst this
   exact ⟨es2,h,.refl _,.inl rfl⟩
  |cons x l=>
   obtain ⟨kd,h1,h2⟩:=ka
   obtain ⟨x1,x2⟩:=x
   obtain ⟨n,e⟩:=h1 (x1,x2) (by simp)
   simp only at e
   subst e
   have hs:∃ b,Instr.sameNow d k (.int kd n)=some b:=by
    simp only [gT] at h
    split at h
    ·exact ⟨_,by assumption⟩
    ·exact ⟨_,by assumption⟩
    ·cases h
   obtain ⟨b,hb⟩:=hs
   obtain ⟨m,kk,rfl,rfl,_⟩:=same_int hb
   obtain ⟨r1,g1,g2,g3,g4⟩:=rH (m:=m) (kk:=kk) (v:=v) h1 h2
   obtain ⟨r2,f1,f2,f3,f4⟩:=rH (m:=m) (kk:=kk) (v:=v) (es:=es') (fun q hq=>h1 q (p.mem_iff.1 hq)) ((p.map _).nodup_iff.2 h2)
   rw [h] at g1
   cases g1
   exact ⟨r2,f1,f2.trans (((p.filter _).cons _).trans g2.symm),.inr ⟨kd,g3,g4⟩⟩
theorem MR.snoc {B:Nat} {es:List (Value × Value)} {ents:List MapEntry} {k v:Value} {e:MapEntry} (h:MR ι B es ents) (hk:e.key=k) (hv:VR ι B v e.val):MR ι B (es++[(k,v)]) (ents++[e]):=by
 refine ⟨by simp [h.1],fun j k0 v0 e0 a b=>?_⟩
 by_cases hj:j<es.length
 ·rw [List.getElem?_append_left hj] at a
  rw [List.getElem?_append_left (by have:=h.1;omega)] at b
  exact h.2 j k0 v0 e0 a b
 ·rw [List.getElem?_append_right (by omega)] at a
  rw [List.getElem?_append_right (by have:=h.1;omega),←h.1] at b
  have hj0:j - es.length=0:=by
   have:=(List.getElem?_eq_some_iff.1 a).1
   simp at this
   omega
  rw [hj0] at a b
  simp at a b
  obtain ⟨rfl,rfl⟩:=a
  subst b
  exact ⟨hk,hv⟩
theorem uo.push {ents:Array MapEntry} {clock:Nat} (h:uo ents.toList clock) {e:MapEntry} (he:e.born=clock):uo (ents.push e).toList (clock+1):=by
 unfold uo at h ⊢
 rw [Array.toList_push,List.map_append]
 refine ⟨fun b hb=>?_,List.nodup_append.2 ⟨h.2,by simp,fun a ha b hb=>?_⟩⟩
 ·rcases List.mem_append.1 hb with hb|hb
  ·have:=h.1 b hb
   omega
  ·simp only [List.map_cons,List.map_nil,List.mem_singleton] at hb
   omega
 ·simp only [List.map_cons,List.map_nil,List.mem_singleton] at hb
  have:=h.1 a ha
  omega
theorem uo.modify {ents:Array MapEntry} {clock j:Nat} {f:MapEntry→MapEntry} (h:uo ents.toList clock) (hf:∀ e,(f e).born=e.born):uo (ents.modify j f).toList clock:=by
 have e:(ents.modify j f).toList.map (·.born)=ents.toList.map (·.born):=by
  apply List.ext_getElem?
  intro i
  simp only [Array.toList_modify,List.getElem?_map,List.getElem?_modify]
  cases ents.toList[i]? with
  |none=>simp
  |some x=>
   simp only [Option.map_some]
   split<;>simp [hf]
 unfold uo at h ⊢
 rw [e]
 exact h
theorem plainVR1 {B:Nat} {v:Value} (h:bX 0 v=true):VR ι B v v:=by
 cases v with
 |bool b=>exact .bool b
 |int k n=>exact .int k n
 |string s=>exact .string s
 |pointer a=>cases a with
  |none=>exact .ptrNil
  |some a=>cases h
 |slice a n c=>cases a with
  |none=>exact .sliceNil n c
  |some a=>cases h
 |map r=>cases r with
  |none=>exact .mapNil
  |some r=>cases h
 |nilFunc=>exact .nilFunc
 |nilIface=>exact .nilIface
 |_=>cases h
theorem uX {B:Nat} {l:List Value} (h:l.all (bX 0)=true):VRL ι B l l:=
 ⟨rfl,fun j v v' a b=>by
  rw [a] at b
  cases b
  exact plainVR1 (List.all_eq_true.1 h _ (List.mem_of_getElem? a))⟩
theorem plainEq1 {B:Nat} {v v':Value} (hv:bX 0 v=true) (h:VR ι B v v'):v'=v:=by
 cases h<;>first
  |rfl
  |exact Bool.noConfusion hv
theorem uB {B:Nat}:∀ {l m:List Value},l.all (bX 0)=true→VRL ι B l m→m=l
 |[],[],_,_=>rfl
 |[],_::_,_,h=>by have:=h.1;simp at this
 |_::_,[],_,h=>by have:=h.1;simp at this
 |a::l,b::m,hp,h=>by
  simp only [List.all_cons,Bool.and_eq_true] at hp
  have h1:b=a:=plainEq1 hp.1 (h.2 0 a b rfl rfl)
  have h2:m=l:=uB hp.2 ⟨by have:=h.1;simpa using this,fun j v v' e1 e2=>h.2 (j+1) v v' (by simpa using e1) (by simpa using e2)⟩
  rw [h1,h2]
theorem scEq_eq {a b:Value} (h:scEq a b=true):a=b∧∀ n,Instr.sameBits n a a=true:=by
 unfold scEq at h
 split at h
 ·simp at h;subst h;exact ⟨rfl,fun n=>by cases n<;>simp [Instr.sameBits]⟩
 ·simp at h;obtain ⟨rfl,rfl⟩:=h;exact ⟨rfl,fun n=>by cases n<;>simp [Instr.sameBits]⟩
 ·rename_i s t
  have:s=t:=by
   cases s;cases t;rename_i x y;cases x;cases y;simp_all
  subst this
  exact ⟨rfl,fun n=>by cases n<;>simp [Instr.sameBits,bytes_beq]⟩
 ·cases h
theorem scEqL_eq:∀ {l m:List Value},scEqL l m=true→l=m∧∀ n,(l.zip l).all (fun (x,y)=>Instr.sameBits n x y)=true
 |[],[],_=>⟨rfl,fun _=>rfl⟩
 |[],_::_,h=>by cases h
 |_::_,[],h=>by cases h
 |a::l,b::m,h=>by
  simp only [scEqL,Bool.and_eq_true] at h
  obtain ⟨rfl,h1⟩:=scEq_eq h.1
  obtain ⟨rfl,h2⟩:=scEqL_eq h.2
  exact ⟨rfl,fun n=>by simp only [List.zip_cons_cons,List.all_cons,h1 n,h2 n,Bool.and_self]⟩
theorem zf {kt:TypeId} {k:Value} (h:qR P kt k=true):∃ cs:Array Value,k=.agg cs∧(∃ b,mO P kt cs.toList cs.toList=some b)∧cs.toList.all (bX 0)=true:=by
 unfold qR at h
 split at h
 ·rename_i cs
  simp only [Bool.and_eq_true,Option.isSome_iff_exists] at h
  exact ⟨cs,rfl,h.1,h.2⟩
 ·cases h
theorem vJ {kt:TypeId} {xs ys:List Value} {b:Bool} (h:mO P kt xs ys=some b):∃ fs,P.underlying kt=some (.struct fs)∧mU P fs.toList xs ys=some b:=by
 unfold mO at h
 split at h
 ·rename_i fs hd
  obtain ⟨_,h⟩:=lW h
  exact ⟨fs,hd,h⟩
 ·cases h
def noInj0:Inj:=⟨fun _ _=>none,fun _=>False,fun _ _=>False⟩
theorem yX {W:World} {kt:TypeId} {cs:Array Value} (em:Bool) (n:Nat) {b:Bool} (h:mO P kt cs.toList cs.toList=some b) (hp:cs.toList.all (bX 0)=true):(Instr.checkKey em (n+2) kt (.agg cs)).run P W=.ok () W:=by
 obtain ⟨fs,hd,hf⟩:=vJ h
 clear h
 rw [Instr.checkKey,Sem.run_bind,bD hd]
 simp only [Result.andThen]
 rw [←Array.forIn_toList]
 generalize fs.toList=l at hf
 clear hd
 revert b
 induction l with
 |nil=>intro b h;try rfl
 |cons f l ih=>
  intro b h
  unfold mU at h
  cases hn:f.name== "_" with
  |true=>rw [hn] at h;cases h
  |false=>
   rw [hn] at h
   simp only [cond_false] at h
   split at h
   ·rename_i x y hpx hpy
    rw [hpx] at hpy
    cases hpy
    split at h
    ·rename_i b1 hb1
     split at h
     ·rename_i c hc
      have hne:f.name≠ "_" :=by simpa using hn
      obtain ⟨x',h1,h2⟩:=lV (ι:=noInj0) (W0:=W) (W:=W) hpx (uX hp)
      have hd':∃ d,P.underlying f.type=some d∧IsKey d x:=by
       unfold sM at hb1
       split at hb1
       ·exact ⟨_,by assumption,by simp [IsKey]⟩
       ·obtain ⟨h1,_⟩:=bY hb1
        simp only [Bool.and_eq_true,decide_eq_true_eq] at h1
        refine ⟨_,by assumption,?_⟩
        exact h1.2
       ·exact ⟨_,by assumption,by simp [IsKey]⟩
       ·cases hb1
      obtain ⟨d,hd1,hd2⟩:=hd'
      have hx:x'=x:=by
       have:bX 0 x=true:=by
        cases x<;>simp_all [IsKey,bX]
       exact plainEq1 this h1
      subst hx
      rw [List.forIn_cons,Sem.run_bind,if_pos hne,Sem.run_bind,Sem.run_bind]
      rw [show cs.toList.toArray=cs by simp] at h2
      rw [h2]
      simp only [Result.andThen]
      rw [Sem.run_bind,run_checkKey hd1 hd2 em n]
      simp only [Result.andThen,Sem.run_pure]
      have:=ih hc
      rw [Sem.run_bind] at this
      simpa only [Result.andThen,Sem.run_pure] using this
     ·cases h
    ·cases h
   ·cases h
theorem zK {W:World} {kt:TypeId} {cs:Array Value} {k':Value} {b:Bool} (hp:cs.toList.all (bX 0)=true) (h:dR P kt (.agg cs) k'=some b):
  (Op.equal kt (.agg cs) k').run P W=.ok b W∧(b=true→k'=.agg cs∧Instr.sameBits 10000 k' (.agg cs)=true):=by
 unfold dR at h
 split at h
 ·rename_i xs ys hk
  cases hk
  obtain ⟨hy,h⟩:=lW h
  split at h
  ·rename_i b1 hb
   obtain ⟨hs,rfl⟩:=bY h
   refine ⟨(vH (ι:=noInj0) (W0:=W) (W:=W) hb (uX hp) (uX hy)).2,fun hbt=>?_⟩
   subst hbt
   have hs':scEqL cs.toList ys.toList=true:=by simpa using hs
   obtain ⟨e,hb'⟩:=scEqL_eq hs'
   have e':cs=ys:=Array.toList_inj.1 e
   subst e'
   refine ⟨rfl,?_⟩
   show (cs.size==cs.size&&(cs.toList.zip cs.toList).all fun (x,y)=>Instr.sameBits 9999 x y)=true
   rw [hb' 9999]
   simp
  ·cases h
 ·cases h
theorem xd {B:Nat} {W:World} {kt:TypeId} {cs:Array Value} (hp:cs.toList.all (bX 0)=true):∀ (es:List (Value × Value)) (ents:List MapEntry) (i:Nat) (r:Option Value),MR ι B es ents→eJ (dR P kt) (.agg cs) es=some r→
  (r=none∧(Instr.findAsking kt (.agg cs) ents i).run P W=.ok none W)∨∃ v j e,r=some v∧(Instr.findAsking kt (.agg cs) ents i).run P W=.ok (some (i+j,e.val)) W∧ents[j]?=some e∧VR ι B v e.val
 |[],ents,i,r,hm,h=>by
  have:ents=[]:=by have:=hm.1;simpa using this.symm
  subst this
  simp [eJ] at h
  exact .inl ⟨h.symm,rfl⟩
 |(k',v)::es,ents,i,r,hm,h=>by
  obtain ⟨e,m,rfl,hk,hv,hm'⟩:=hm.cons_inv
  simp only [eJ] at h
  cases hs:dR P kt (.agg cs) k' with
  |none=>rw [hs] at h;cases h
  |some b=>
   rw [hs] at h
   have hq:=(zK (W:=W) hp hs).1
   unfold Instr.findAsking
   rw [Sem.run_bind,hk,hq]
   simp only [Result.andThen]
   cases b with
   |true=>
    simp at h
    subst h
    exact .inr ⟨v,0,e,rfl,rfl,rfl,hv⟩
   |false=>
    simp only at h
    simp only [Bool.false_eq_true,if_false]
    rcases xd (W:=W) hp es m (i+1) r hm' h with h|⟨v',j,e',h1,h2,h3,h4⟩
    ·exact .inl h
    ·exact .inr ⟨v',j+1,e',h1,by rw [h2,show i+1+j=i+(j+1) by omega],by simpa using h3,h4⟩
theorem uA {kt:TypeId} {xs ys:List Value} {b:Bool} (h:mO P kt xs ys=some b):(match P.underlying kt with|some (.array _ _)|some (.struct _)=>true|_=>false)=true:=by
 obtain ⟨fs,hd,_⟩:=vJ h
 rw [hd]
theorem xj {kt et:TypeId} {z:Value} {ok:Bool} {es:Array MapEntry} {t:TypeId} {x:Value} {cs:Array Value} {b:Bool} (hd:P.underlying t=some (.map kt et)) (hz:dU P et=some z) (hfl:mO P kt cs.toList cs.toList=some b) (hp:cs.toList.all (bX 0)=true)
  (hx:(x=.map none∧es= #[])∨∃ r0 clock,x=.map (some r0)∧W.heap[r0]?=some (.map es clock)) {a:Option (Nat × Value)} (ha:(Instr.findAsking kt (.agg cs) es.toList).run P W=.ok a W):
  (Instr.lookup t x (.agg cs) ok).run P W=.ok (match a with
   |some (_,v)=>if ok then .tuple #[v,.bool true] else v
   |none=>if ok then .tuple #[z,.bool false] else z) W:=by
 unfold Instr.lookup
 rw [Sem.run_bind,bD hd]
 simp only [Result.andThen]
 have hchk:∀ b,(Instr.checkKey b 10000 kt (.agg cs)).run P W=.ok () W:=fun b=>yX b 9998 hfl hp
 have hfk:(Instr.findKey kt (.agg cs) es.toList).run P W=.ok a W:=by rw [run_findKey_eq W (uA hfl)];exact ha
 rcases hx with ⟨rfl,rfl⟩|⟨r0,clock,rfl,hr⟩
 ·simp only [pure_bind]
  rw [Sem.run_bind,hchk]
  simp only [Result.andThen]
  rw [Sem.run_bind,hfk]
  simp only [Result.andThen]
  cases a with
  |none=>
   simp only
   rw [Sem.run_bind,eX hz]
   try rfl
  |some p=>rfl
 ·simp only
  rw [Sem.run_bind,Go.MapKept.run_getObj_map hr]
  simp only [Result.andThen,pure_bind]
  rw [Sem.run_bind,hchk]
  simp only [Result.andThen]
  rw [Sem.run_bind,hfk]
  simp only [Result.andThen]
  cases a with
  |none=>
   simp only
   rw [Sem.run_bind,eX hz]
   try rfl
  |some p=>rfl
theorem findA_perm {kt:TypeId} {cs:Array Value} {es es':List (Value × Value)} {r:Option Value} (p:es'.Perm es) (o:es'=es∨iZ es) (h:eJ (dR P kt) (.agg cs) es=some r):eJ (dR P kt) (.agg cs) es'=some r:=by
 rcases o with rfl|⟨kd,h1,_⟩
 ·exact h
 ·cases es with
  |nil=>
   have:=p.eq_nil
   subst this
   exact h
  |cons x l=>
   obtain ⟨x1,x2⟩:=x
   obtain ⟨n,e⟩:=h1 (x1,x2) (by simp)
   simp only at e
   subst e
   simp [eJ,dR] at h
theorem setA_perm {kt:TypeId} {cs:Array Value} {v:Value} {es es' es2:List (Value × Value)} (p:es'.Perm es) (o:es'=es∨iZ es) (h:iM (dR P kt) (.agg cs) v es=some es2):∃ es2',iM (dR P kt) (.agg cs) v es'=some es2'∧es2'.Perm es2∧(es2'=es2∨iZ es2):=by
 rcases o with rfl|⟨kd,h1,_⟩
 ·exact ⟨es2,h,.refl _,.inl rfl⟩
 ·cases es with
  |nil=>
   have:=p.eq_nil
   subst this
   exact ⟨es2,h,.refl _,.inl rfl⟩
  |cons x l=>
   obtain ⟨x1,x2⟩:=x
   obtain ⟨n,e⟩:=h1 (x1,x2) (by simp)
   simp only at e
   subst e
   simp [iM,dR] at h
theorem yn {t kt et:TypeId} {m m' k k' v z:Value} {ok:Bool} (R:Rel ι W0 σ W) (hd:P.underlying t=some (.map kt et)) (hz:dU P et=some z) (hfk:qR P kt k=true) (hm:VR ι W0.heap.size m m') (hk:VR ι W0.heap.size k k')
  (h:(match (match m with
     | .map none=>some (some none)
     | .map (some r)=>(σ.getMap r).map (eJ (dR P kt) k)
     |_=>none) with
    |some (some (some v))=>some (bif ok then .tuple #[v,.bool true] else v,σ)
    |some (some none)=>some (bif ok then .tuple #[z,.bool false] else z,σ)
    |_=>none)=some (v,σ')):σ'=σ∧∃ v',VR ι W0.heap.size v v'∧(Instr.lookup t m' k' ok).run P W=.ok v' W:=by
 obtain ⟨cs,rfl,⟨b,hfl⟩,hp⟩:=zf hfk
 obtain ⟨cs',rfl,hcs⟩:=hk.agg_inv
 have hcc:cs'=cs:=by
  exact Array.toList_inj.1 (uB hp hcs)
 subst hcc
 have fin:∀ (r:Option Value) (es:List (Value × Value)) (ents:Array MapEntry),MR ι W0.heap.size es ents.toList→eJ (dR P kt) (.agg cs') es=some r→((m'=.map none∧ents= #[])∨∃ r0 clock,m'=.map (some r0)∧W.heap[r0]?=some (.map ents clock))→
   ∃ v',VR ι W0.heap.size (match r with|some v=>bif ok then .tuple #[v,.bool true] else v|none=>bif ok then .tuple #[z,.bool false] else z) v'∧(Instr.lookup t m' (.agg cs') ok).run P W=.ok v' W:=by
  intro r es ents hmr hf hx
  rcases xd (W:=W) hp es ents.toList 0 r hmr hf with ⟨rfl,h2⟩|⟨v0,j,e,rfl,h2,h3,h4⟩
  ·exact ⟨_,okV (kD hz),xj hd hz hfl hp hx h2⟩
  ·exact ⟨_,okV h4,xj hd hz hfl hp hx h2⟩
 have fin2:∀ r,(match m with
   | .map none=>some (some none)
   | .map (some r)=>(σ.getMap r).map (eJ (dR P kt) (.agg cs'))
   |_=>none)=some (some r)→∃ v',VR ι W0.heap.size (match r with|some v=>bif ok then .tuple #[v,.bool true] else v|none=>bif ok then .tuple #[z,.bool false] else z) v'∧(Instr.lookup t m' (.agg cs') ok).run P W=.ok v' W:=by
  intro r hr
  cases hm<;>try (exact absurd (show (none:Option (Option (Option Value)))=some (some r) from hr) nofun)
  ·cases hr
   exact fin none [] #[] ⟨rfl,fun j k v e a _=>by simp at a⟩ rfl (.inl ⟨rfl,rfl⟩)
  ·rename_i b i hi
   replace hr:(σ.getMap b).map (eJ (dR P kt) (.agg cs'))=some (some r):=hr
   cases hg:σ.getMap b with
   |none=>rw [hg] at hr;cases hr
   |some es=>
    rw [hg] at hr
    simp only [Option.map_some,Option.some.injEq] at hr
    obtain ⟨i',h1,ents,clock,h2,h3⟩:=R.map b es _ _ (rD hg) hi
    rw [hi] at h1
    cases h1
    obtain ⟨es',hp1,hp2,hp3⟩:=h3.order
    exact fin r es' ents hp3 (findA_perm hp1 hp2 hr) (.inr ⟨_,clock,rfl,h2⟩)
 split at h
 ·rename_i v0 hv
  simp only [Option.some.injEq,Prod.mk.injEq] at h
  obtain ⟨rfl,rfl⟩:=h
  exact ⟨rfl,fin2 _ hv⟩
 ·rename_i hv
  simp only [Option.some.injEq,Prod.mk.injEq] at h
  obtain ⟨rfl,rfl⟩:=h
  exact ⟨rfl,fin2 _ hv⟩
 ·cases h
theorem wo {B:Nat} {W:World} {kt:TypeId} {cs:Array Value} {v v':Value} (hp:cs.toList.all (bX 0)=true) (hv:VR ι B v v'):∀ (es:List (Value × Value)) (ents:List MapEntry) (i:Nat) (es':List (Value × Value)),MR ι B es ents→iM (dR P kt) (.agg cs) v es=some es'→
  ((Instr.findAsking kt (.agg cs) ents i).run P W=.ok none W∧es'=es++[(.agg cs,v)])∨∃ j e x,(Instr.findAsking kt (.agg cs) ents i).run P W=.ok (some (i+j,x)) W∧ents[j]?=some e∧Instr.sameBits 10000 e.key (.agg cs)=true∧MR ι B es' (ents.modify j fun e=>{ e with key:=.agg cs,val:=v' })
 |[],ents,i,es',hm,h=>by
  have:ents=[]:=by have:=hm.1;simpa using this.symm
  subst this
  simp [iM] at h
  exact .inl ⟨rfl,by simp [h]⟩
 |(k',w)::es,ents,i,es',hm,h=>by
  obtain ⟨e,m,rfl,hk,hw,hm'⟩:=hm.cons_inv
  simp only [iM] at h
  cases hs:dR P kt (.agg cs) k' with
  |none=>rw [hs] at h;cases h
  |some b=>
   rw [hs] at h
   obtain ⟨hq,hbt⟩:=zK (W:=W) hp hs
   unfold Instr.findAsking
   rw [Sem.run_bind,hk,hq]
   simp only [Result.andThen]
   cases b with
   |true=>
    simp at h
    subst h
    right
    refine ⟨0,e,e.val,rfl,rfl,by rw [hk];exact (hbt rfl).2,?_⟩
    refine ⟨by simp [hm'.1],fun j k0 v0 e0 a b=>?_⟩
    cases j with
    |zero=>simp at a b;obtain ⟨rfl,rfl⟩:=a;subst b;exact ⟨rfl,hv⟩
    |succ j=>simp at a b;exact hm'.2 j k0 v0 e0 a b
   |false=>
    simp only [Bool.false_eq_true,if_false] at h ⊢
    cases hr:iM (dR P kt) (.agg cs) v es with
    |none=>rw [hr] at h;cases h
    |some r'=>
     rw [hr] at h
     simp at h
     subst h
     rcases wo (W:=W) hp hv es m (i+1) r' hm' hr with ⟨h1,rfl⟩|⟨j,e1,x,h1,h2,h3,h4⟩
     ·exact .inl ⟨h1,by simp⟩
     ·right
      refine ⟨j+1,e1,x,by rw [h1,show i+1+j=i+(j+1) by omega],by simpa using h2,h3,?_⟩
      refine ⟨by have:=h4.1;simp at this ⊢;exact this,fun q k0 v0 e0 a b=>?_⟩
      cases q with
      |zero=>simp at a b;obtain ⟨rfl,rfl⟩:=a;subst b;exact ⟨hk,hw⟩
      |succ q=>simp at a b;exact h4.2 q k0 v0 e0 a b
theorem ug {t:TypeId} {m m' k k' v:Value} {ok:Bool} (R:Rel ι W0 σ W) (hm:VR ι W0.heap.size m m') (hk:VR ι W0.heap.size k k') (h:mX P t m k ok σ=some (v,σ')):
  σ'=σ∧∃ v',VR ι W0.heap.size v v'∧(Instr.lookup t m' k' ok).run P W=.ok v' W:=by
 unfold mX at h
 split at h
 ·rename_i kt et hd
  split at h
  ·rename_i kd z hkd hz
   cases hik:nY kd k with
   |false=>
    rw [hik] at h
    simp only [cond_false] at h
    cases hfk:qR P kt k with
    |false=>rw [hfk] at h;cases h
    |true=>
     rw [hfk] at h
     simp only [cond_true] at h
     exact yn R hd hz hfk hm hk h
   |true=>
   rw [hik] at h
   simp only [cond_true] at h
   obtain rfl:=isKey_eq hik hk
   have fin:∀ (r:Option Value) (es:List (Value × Value)) (ents:Array MapEntry),MR ι W0.heap.size es ents.toList→dH kd k' es=some r→((m'=.map none∧ents= #[])∨∃ r0 clock,m'=.map (some r0)∧W.heap[r0]?=some (.map ents clock))→
     ∃ v',VR ι W0.heap.size (match r with|some v=>bif ok then .tuple #[v,.bool true] else v|none=>bif ok then .tuple #[z,.bool false] else z) v'∧(Instr.lookup t m' k' ok).run P W=.ok v' W:=by
    intro r es ents hmr hf hx
    rcases wi es ents.toList 0 r hmr hf with ⟨rfl,h2⟩|⟨v0,j,e,rfl,h2,h3,h4⟩
    ·exact ⟨_,okV (kD hz),zm hd hkd hz hik hx h2⟩
    ·exact ⟨_,okV h4,zm hd hkd hz hik hx h2⟩
   have fin2:∀ r,(match m with
     | .map none=>some (some none)
     | .map (some r)=>(σ.getMap r).map (dH kd k')
     |_=>none)=some (some r)→∃ v',VR ι W0.heap.size (match r with|some v=>bif ok then .tuple #[v,.bool true] else v|none=>bif ok then .tuple #[z,.bool false] else z) v'∧(Instr.lookup t m' k' ok).run P W=.ok v' W:=by
    intro r hr
    cases hm<;>try (exact absurd (show (none:Option (Option (Option Value)))=some (some r) from hr) nofun)
    ·cases hr
     exact fin none [] #[] ⟨rfl,fun j k v e a _=>by simp at a⟩ rfl (.inl ⟨rfl,rfl⟩)
    ·rename_i b i hi
     replace hr:(σ.getMap b).map (dH kd k')=some (some r):=hr
     cases hg:σ.getMap b with
     |none=>rw [hg] at hr;cases hr
     |some es=>
      rw [hg] at hr
      simp only [Option.map_some,Option.some.injEq] at hr
      obtain ⟨i',h1,ents,clock,h2,h3⟩:=R.map b es _ _ (rD hg) hi
      rw [hi] at h1
      cases h1
      obtain ⟨es',hp1,hp2,hp3⟩:=h3.order
      exact fin r es' ents hp3 (find_perm hp1 hp2 hr) (.inr ⟨_,clock,rfl,h2⟩)
   split at h
   ·rename_i v0 hv
    simp only [Option.some.injEq,Prod.mk.injEq] at h
    obtain ⟨rfl,rfl⟩:=h
    exact ⟨rfl,fin2 _ hv⟩
   ·rename_i hv
    simp only [Option.some.injEq,Prod.mk.injEq] at h
    obtain ⟨rfl,rfl⟩:=h
    exact ⟨rfl,fin2 _ hv⟩
   ·cases h
  ·cases h
 ·cases h
theorem vk {B:Nat} {d:TypeDesc} {k v v':Value} (hv:VR ι B v v'):∀ (es:List (Value × Value)) (ents:List MapEntry) (i:Nat) (es':List (Value × Value)),MR ι B es ents→gT d k v es=some es'→
  (Instr.findNow d k ents i=some none∧es'=es++[(k,v)])∨∃ j e x,Instr.findNow d k ents i=some (some (i+j,x))∧ents[j]?=some e∧Instr.sameNow d k e.key=some true∧MR ι B es' (ents.modify j fun e=>{ e with key:=k,val:=v' })
 |[],ents,i,es',hm,h=>by
  have:ents=[]:=by have:=hm.1;simpa using this.symm
  subst this
  simp [gT] at h
  exact .inl ⟨rfl,by simp [h]⟩
 |(k',w)::es,ents,i,es',hm,h=>by
  obtain ⟨e,m,rfl,hk,hw,hm'⟩:=hm.cons_inv
  simp only [gT] at h
  simp only [Instr.findNow,hk]
  cases hs:Instr.sameNow d k k' with
  |none=>rw [hs] at h;cases h
  |some b=>
   rw [hs] at h
   cases b with
   |true=>
    simp at h
    subst h
    right
    refine ⟨0,e,e.val,rfl,rfl,by rw [hk];exact hs,?_⟩
    refine ⟨by simp [hm'.1],fun j k0 v0 e0 a b=>?_⟩
    cases j with
    |zero=>simp at a b;obtain ⟨rfl,rfl⟩:=a;subst b;exact ⟨rfl,hv⟩
    |succ j=>simp at a b;exact hm'.2 j k0 v0 e0 a b
   |false=>
    simp only at h ⊢
    cases hr:gT d k v es with
    |none=>rw [hr] at h;cases h
    |some r'=>
     rw [hr] at h
     simp at h
     subst h
     rcases vk hv es m (i+1) r' hm' hr with ⟨h1,rfl⟩|⟨j,e1,x,h1,h2,h3,h4⟩
     ·exact .inl ⟨h1,by simp⟩
     ·right
      refine ⟨j+1,e1,x,by rw [h1,show i+1+j=i+(j+1) by omega],by simpa using h2,h3,?_⟩
      refine ⟨by have:=h4.1;simp at this ⊢;exact this,fun q k0 v0 e0 a b=>?_⟩
      cases q with
      |zero=>simp at a b;obtain ⟨rfl,rfl⟩:=a;subst b;exact ⟨hk,hw⟩
      |succ q=>simp at a b;exact h4.2 q k0 v0 e0 a b
theorem same_bits {d:TypeDesc} {a b:Value} (h:Instr.sameNow d a b=some true):Instr.sameBits 10000 b a=true:=by
 unfold Instr.sameNow at h
 split at h
 ·split at h
  ·rename_i hk
   subst hk
   simp at h
   subst h
   simp [Instr.sameBits]
  ·cases h
 ·simp [bytes_beq] at h
  subst h
  simp [Instr.sameBits,bytes_beq]
 ·simp at h
  simp [Instr.sameBits,h]
 ·cases h
theorem update_inv {t:TypeId} {m k x:Value} {r0:Option (Value × aB)} (h:pO P t m k x σ=r0) (hr:r0.isSome=true):∃ kt et r kd es,P.underlying t=some (.map kt et)∧m=.map (some r)∧P.underlying kt=some kd∧σ.getMapW r=some es∧
  (bif nY kd k&&iV x then
    match gT kd k x es with
    |some es'=>some (.tuple #[],σ.put r (.map es'))
    |none=>none
   else bif qR P kt k&&iV x then
    match iM (dR P kt) k x es with
    |some es'=>some (.tuple #[],σ.put r (.map es'))
    |none=>none
   else none)=r0:=by
 subst h
 unfold pO at hr ⊢
 split at hr
 ·rename_i kt et hd
  split at hr
  ·rename_i r
   split at hr
   ·rename_i r
    split at hr
    ·rename_i kd hkd
     split at hr
     ·rename_i es hg
      exact ⟨kt,et,r,kd,es,hd,rfl,hkd,hg,rfl⟩
     ·cases hr
    ·cases hr
   ·cases hr
  ·cases hr
 ·cases hr
theorem yg {t kt et:TypeId} {r:Nat} {es:List (Value × Value)} {m' x x' v:Value} {cs':Array Value} {b:Bool} (R:Rel ι W0 σ W) (hm:VR ι W0.heap.size (.map (some r)) m') (hx:VR ι W0.heap.size x x') (hd:P.underlying t=some (.map kt et)) (hg:σ.getMapW r=some es)
  (hfl:mO P kt cs'.toList cs'.toList=some b) (hp:cs'.toList.all (bX 0)=true)
  (h:(match iM (dR P kt) (.agg cs') x es with
    |some es'=>some (.tuple #[],σ.put r (.map es'))
    |none=>none)=some (v,σ')):eY P ι W0 W (do Instr.mapUpdate t m' (.agg cs') x';pure Next.skip) v σ':=by
 split at h
 ·rename_i es' hes
  simp only [Option.some.injEq,Prod.mk.injEq] at h
  obtain ⟨rfl,rfl⟩:=h
  obtain ⟨i,rfl,hi⟩:=hm.map_inv
  have hgm:=wB hg
  obtain ⟨i',h1,ents,clock,h2,h3⟩:=R.map r es _ _ (.inl hgm) hi
  rw [hi] at h1
  cases h1
  obtain ⟨es0,hp1,hp2,hp3⟩:=h3.order
  obtain ⟨es2,hq1,hq2,hq3⟩:=setA_perm hp1 hp2 hes
  have hchk:(Instr.checkKey false 10000 kt (.agg cs')).run P W=.ok () W:=yX false 9998 hfl hp
  have fin:∀ o,(∃ ents2 clock2,o=.map ents2 clock2∧lD ι W0.heap.size es' ents2 clock2)→
    (Instr.mapUpdate t (.map (some i.c)) (.agg cs') x').run P W=.ok () { W with heap:=W.heap.setIfInBounds i.c o }→eY P ι W0 W (do Instr.mapUpdate t (.map (some i.c)) (.agg cs') x';pure Next.skip) (.tuple #[]) (σ.put r (.map es')):=by
   intro o ho hrun
   exact ub ι.le_refl (R.setObj hi ⟨_,hgm,nofun⟩ nofun (fun es2 h=>by cases h;exact ho) nofun) hrun rfl
  have hset:∀ o,(setObj i.c o).run P W=.ok () { W with heap:=W.heap.setIfInBounds i.c o }:=fun o=>Go.MapKept.run_setObj_map o h2
  rcases wo (W:=W) hp hx es0 ents.toList 0 es2 hp3 hq1 with ⟨hf,rfl⟩|⟨j,e,y,hf,hj,hsame,hmr⟩
  ·refine fin (.map (ents.push { key:=(.agg cs'),val:=x',born:=clock }) (clock+1)) ⟨_,_,rfl,h3.born.push rfl,_,hq2,hq3,?_⟩ ?_
   ·rw [Array.toList_push]
    exact hp3.snoc rfl hx
   ·unfold Instr.mapUpdate
    rw [Sem.run_bind,bD hd]
    simp only [Result.andThen]
    rw [Sem.run_bind,Go.MapKept.run_getObj_map h2]
    simp only [Result.andThen]
    rw [Sem.run_bind,hchk]
    simp only [Result.andThen]
    rw [Sem.run_bind,run_findKey_eq W (uA hfl),hf]
    exact hset _
  ·refine fin (.map (ents.modify j fun e=>{ e with key:=(.agg cs'),val:=x' }) clock) ⟨_,_,rfl,h3.born.modify fun _=>rfl,_,hq2,hq3,by rw [Array.toList_modify];exact hmr⟩ ?_
   unfold Instr.mapUpdate
   rw [Sem.run_bind,bD hd]
   simp only [Result.andThen]
   rw [Sem.run_bind,Go.MapKept.run_getObj_map h2]
   simp only [Result.andThen]
   rw [Sem.run_bind,hchk]
   simp only [Result.andThen]
   rw [Sem.run_bind,run_findKey_eq W (uA hfl),hf]
   simp only [Result.andThen,Nat.zero_add]
   have hej:ents[j]?=some e:=by simpa using hj
   have hkey:(((ents[j]?).map (·.key)).getD (.agg cs'))=e.key:=by rw [hej];try rfl
   rw [hkey,Sem.run_bind]
   have hks:(Instr.keyThatStays e.key (.agg cs')).run P W=.ok (.agg cs') W:=by
    unfold Instr.keyThatStays
    rw [if_pos hsame]
    try rfl
   rw [hks]
   exact hset _
 ·cases h
theorem qs {t:TypeId} {m m' k k' x x' v:Value} (R:Rel ι W0 σ W) (hm:VR ι W0.heap.size m m') (hk:VR ι W0.heap.size k k') (hx:VR ι W0.heap.size x x') (h:pO P t m k x σ=some (v,σ')):
  eY P ι W0 W (do Instr.mapUpdate t m' k' x';pure Next.skip) v σ':=by
 obtain ⟨kt,et,r,kd,es,hd,rfl,hkd,hg,h⟩:=update_inv h rfl
 ···cases hik:(nY kd k&&iV x) with
   |false=>
    rw [hik] at h
    simp only [cond_false] at h
    cases hfx:(qR P kt k&&iV x) with
    |false=>rw [hfx] at h;cases h
    |true=>
    rw [hfx] at h
    simp only [cond_true] at h
    simp only [Bool.and_eq_true] at hfx
    obtain ⟨cs,rfl,⟨b,hfl⟩,hp⟩:=zf hfx.1
    obtain ⟨cs',rfl,hcs⟩:=hk.agg_inv
    have hcc:cs'=cs:=by
     exact Array.toList_inj.1 (uB hp hcs)
    subst hcc
    exact yg R hm hx hd hg hfl hp h
   |true=>
   rw [hik] at h
   simp only [cond_true] at h
   simp only [Bool.and_eq_true] at hik
   obtain rfl:=isKey_eq hik.1 hk
   split at h
   ·rename_i es' hes
    simp only [Option.some.injEq,Prod.mk.injEq] at h
    obtain ⟨rfl,rfl⟩:=h
    obtain ⟨i,rfl,hi⟩:=hm.map_inv
    have hgm:=wB hg
    obtain ⟨i',h1,ents,clock,h2,h3⟩:=R.map r es _ _ (.inl hgm) hi
    rw [hi] at h1
    cases h1
    obtain ⟨es0,hp1,hp2,hp3⟩:=h3.order
    obtain ⟨es2,hq1,hq2,hq3⟩:=set_perm hp1 hp2 hes
    have hchk:(Instr.checkKey false 10000 kt k').run P W=.ok () W:=run_checkKey hkd (vR hik.1) false 9999
    have fin:∀ o,(∃ ents2 clock2,o=.map ents2 clock2∧lD ι W0.heap.size es' ents2 clock2)→
      (Instr.mapUpdate t (.map (some i.c)) k' x').run P W=.ok () { W with heap:=W.heap.setIfInBounds i.c o }→eY P ι W0 W (do Instr.mapUpdate t (.map (some i.c)) k' x';pure Next.skip) (.tuple #[]) (σ.put r (.map es')):=by
     intro o ho hrun
     exact ub ι.le_refl (R.setObj hi ⟨_,hgm,nofun⟩ nofun (fun es2 h=>by cases h;exact ho) nofun) hrun rfl
    have hset:∀ o,(setObj i.c o).run P W=.ok () { W with heap:=W.heap.setIfInBounds i.c o }:=fun o=>Go.MapKept.run_setObj_map o h2
    rcases vk hx es0 ents.toList 0 es2 hp3 hq1 with ⟨hf,rfl⟩|⟨j,e,y,hf,hj,hsame,hmr⟩
    ·refine fin (.map (ents.push { key:=k',val:=x',born:=clock }) (clock+1)) ⟨_,_,rfl,h3.born.push rfl,_,hq2,hq3,?_⟩ ?_
     ·rw [Array.toList_push]
      exact hp3.snoc rfl hx
     ·unfold Instr.mapUpdate
      rw [Sem.run_bind,bD hd]
      simp only [Result.andThen]
      rw [Sem.run_bind,Go.MapKept.run_getObj_map h2]
      simp only [Result.andThen]
      rw [Sem.run_bind,hchk]
      simp only [Result.andThen]
      rw [Sem.run_bind,run_findKey hkd hf]
      exact hset _
    ·refine fin (.map (ents.modify j fun e=>{ e with key:=k',val:=x' }) clock) ⟨_,_,rfl,h3.born.modify fun _=>rfl,_,hq2,hq3,by rw [Array.toList_modify];exact hmr⟩ ?_
     unfold Instr.mapUpdate
     rw [Sem.run_bind,bD hd]
     simp only [Result.andThen]
     rw [Sem.run_bind,Go.MapKept.run_getObj_map h2]
     simp only [Result.andThen]
     rw [Sem.run_bind,hchk]
     simp only [Result.andThen]
     rw [Sem.run_bind,run_findKey hkd hf]
     simp only [Result.andThen,Nat.zero_add]
     have hej:ents[j]?=some e:=by simpa using hj
     have hkey:(((ents[j]?).map (·.key)).getD k')=e.key:=by rw [hej];try rfl
     rw [hkey,Sem.run_bind]
     have hks:(Instr.keyThatStays e.key k').run P W=.ok k' W:=by
      unfold Instr.keyThatStays
      rw [if_pos (same_bits hsame)]
      try rfl
     rw [hks]
     exact hset _
   ·cases h
theorem ua {r:Option Nat} {m' v:Value} {t a b:TypeId} {ts:Array TypeId} {ty:TypeId} {cs:Array Bool} (R:Rel ι W0 σ W) (hm:VR ι W0.heap.size (.map r) m') (ht:ts[0]?=some t) (hd:P.underlying t=some (.map a b)) (h:mR r σ=some (v,σ')):
  σ'=σ∧∃ n,v=.int .i64 n∧(builtin .len ts ty cs #[m']).run P W=.ok (.value (.int .i64 n)) W:=by
 unfold mR at h
 split at h
 ·simp only [Option.some.injEq,Prod.mk.injEq] at h
  obtain ⟨rfl,rfl⟩:=h
  cases hm
  refine ⟨rfl,_,rfl,?_⟩
  refine run_v (s:=Builtin.len_ ts ty #[.map none]) ?_
  unfold Builtin.len_
  simp only [ht,List.getElem?_toArray,List.getElem?_cons_zero]
  rw [Sem.run_bind,bD hd]
  try rfl
 ·rename_i r
  split at h
  ·rename_i es hg
   simp only [Option.some.injEq,Prod.mk.injEq] at h
   obtain ⟨rfl,rfl⟩:=h
   obtain ⟨i,rfl,hi⟩:=hm.map_inv
   obtain ⟨i',h1,ents,clock,h2,hE⟩:=R.map r es _ _ (rD hg) hi
   have h3:=hE.size
   rw [hi] at h1
   cases h1
   refine ⟨rfl,_,rfl,?_⟩
   refine run_v (s:=Builtin.len_ ts ty #[.map (some i.c)]) ?_
   unfold Builtin.len_
   simp only [ht,List.getElem?_toArray,List.getElem?_cons_zero]
   rw [Sem.run_bind,bD hd]
   simp only [Result.andThen]
   rw [Sem.run_bind,Go.MapKept.run_getObj_map h2]
   simp only [Result.andThen,h3]
   try rfl
  ·cases h
theorem next_sound {it it' v:Value} {s:Bool} {ty:TypeId} (R:Rel ι W0 σ W) (hx:VR ι W0.heap.size it it') (h:pX it s σ=some (v,σ')):eY P ι W0 W (do pure (Next.value (←Instr.next it' s ty))) v σ':=by
 unfold pX at h
 split at h
 ·rename_i r
  cases s with
  |false=>cases h
  |true=>
  simp only [cond_true] at h
  split at h
  ·rename_i str pos hg
   obtain ⟨a',rfl,ha⟩:=hx.ptr_inv
   cases ha with
   |old _ q=>cases q
   | @new _ _ _ i q1 q2=>
   obtain ⟨i',h1,h0,h2⟩:=R.iter r str pos _ _ hg q1
   rw [show (0:Nat) / 64=0 from rfl,h1] at q1
   cases q1
   have hgo:(getObj i.c).run P W=.ok (.stringIter str pos) W:=by simp [getObj,Sem.run,h2]
   have hset:∀ o,(setObj i.c o).run P W=.ok () { W with heap:=W.heap.setIfInBounds i.c o }:=fun o=>by simp [setObj,Sem.run,h2]
   cases hp:Nat.blt pos str.size with
   |true=>
    rw [hp] at h
    simp only [cond_true,Option.some.injEq,Prod.mk.injEq] at h
    obtain ⟨rfl,rfl⟩:=h
    have hlt:pos<str.size:=by simp only [Nat.blt,Nat.ble_eq] at hp;exact hp
    have R':=R.setObj (o:=.stringIter str (pos+(Utf8.decode str pos).2)) (ao:=.iter str (pos+(Utf8.decode str pos).2)) h1 ⟨_,hg,nofun⟩ nofun nofun (fun s p h=>by cases h;exact ⟨rfl,h0⟩)
    refine fJ ι.le_refl R' (v':=.tuple #[.bool true,goInt pos,.int .i32 (Utf8.decode str pos).1]) ?_ (VRL.cons (.bool true) (VRL.cons (.int .i64 pos) (VRL.cons (.int .i32 (Utf8.decode str pos).1) .nil))).tuple
    unfold Instr.next
    simp only [h0]
    rw [Sem.run_bind,hgo]
    simp only [Result.andThen]
    rw [if_pos hlt,Sem.run_bind,hset]
    try rfl
   |false=>
    rw [hp] at h
    simp only [cond_false,Option.some.injEq,Prod.mk.injEq] at h
    obtain ⟨rfl,rfl⟩:=h
    have hge:¬ pos<str.size:=by
     intro hlt
     have:Nat.blt pos str.size=true:=by simp only [Nat.blt,Nat.ble_eq];exact hlt
     rw [hp] at this;cases this
    refine fJ ι.le_refl R (v':=.tuple #[.bool false]) ?_ (VRL.cons (.bool false) .nil).tuple
    unfold Instr.next
    simp only [h0]
    rw [Sem.run_bind,hgo]
    simp only [Result.andThen]
    rw [if_neg hge]
    try rfl
  ·cases h
 ·cases h
end
end Go.Pg
namespace Go.Pg
section
variable {P:Program} {ι:Inj} {W0 W:World} {σ σ':aB}
theorem xP {s:Sem Value} {v:Value} (R:Rel ι W0 σ W) (h:∃ v',VR ι W0.heap.size v v'∧s.run P W=.ok v' W):eY P ι W0 W (do pure (Next.value (←s))) v σ:=by
 obtain ⟨v',h1,h2⟩:=h
 exact fJ ι.le_refl R h2 h1
theorem map_ev {fr:List Value} {a:Go.Act} (hG:P.globals.size≤W0.heap.size) (r:FR ι W0.heap.size fr a.tmps) (x:Option Operand) (d n:Int) (h:iT d (x.map (ev P fr))=some n):x.map a.eval=x.map (ev P fr):=by
 cases x with
 |none=>rfl
 |some x=>
  simp only [Option.map_some] at h ⊢
  rcases gW h with ⟨h1,_⟩|⟨k,h1⟩
  ·cases h1
  ·have:=gI hG r x
   simp only [Option.some.injEq] at h1
   rw [h1] at this
   rw [this.int_inv,h1]
theorem actOK_congr {s1 s2:Sem Value} {v:Value} (h:eY P ι W0 W (do pure (Next.value (←s1))) v σ') (e:s2.run P W=s1.run P W):eY P ι W0 W (do pure (Next.value (←s2))) v σ':=by
 obtain ⟨κ,W',nx,v',g1,g2,g3,g4,g5⟩:=h
 refine ⟨κ,W',nx,v',g1,g2,?_,g4,g5⟩
 rw [Sem.run_bind] at g3 ⊢
 rw [e]
 exact g3
theorem wu {o:Oper} {fr:List Value} {a:Go.Act} {v:Value} (hG:P.globals.size≤W0.heap.size) (r:FR ι W0.heap.size fr a.tmps) (h:bE P o fr=.tot v∨bE P o fr=.pure true v):
  jY P ι W0.heap.size W (execOp a.eval o) v:=by
 have E:=fun x=>gI (P:=P) (ι:=ι) (W0:=W0) hG r x
 unfold bE at h
 unfold execOp
 cases hop:o.op with
 |move x=>rw [hop] at h;simp at h;subst h;exact ⟨_,E x,rfl⟩
 |assign x=>rw [hop] at h;simp at h;subst h;exact ⟨_,E x,rfl⟩
 |pick c x y=>
  rw [hop] at h
  simp only at h
  split at h
  ·rename_i t ht
   simp at h
   subst h
   have hc:=E c
   rw [ht] at hc
   refine ⟨if t then a.eval x else a.eval y,?_,?_⟩
   ·cases t with
    |true=>exact E x
    |false=>exact E y
   ·simp only [hc.bool_inv]
    try rfl
  ·simp at h
 |nilCheck x=>
  rw [hop] at h
  simp only at h
  have hx:=E x
  split at h
  ·rename_i p hp
   simp at h
   subst h
   rw [hp] at hx
   obtain ⟨p',e,hp'⟩:=hx.ptr_inv
   exact ⟨_,.ptr hp',by simp only [e];rfl⟩
  ·rename_i f first captured hp
   simp at h
   subst h
   rw [hp] at hx
   obtain ⟨x',y',e,h1,h2⟩:=hx.func_inv
   refine ⟨_,hx,by simp only [e];rfl⟩
  ·simp at h
 |build t parts=>
  rw [hop] at h
  simp only at h
  split at h
  ·rename_i w hw
   simp at h
   subst h
   obtain ⟨h1,h2⟩:=lX hG r parts.toList
   obtain ⟨v',h3,h4⟩:=um (W:=W) hw h1 h2
   refine cM h3 ?_
   have:parts.map (fun p=>(p.1,a.eval p.2))=(parts.toList.map fun p=>(p.1,a.eval p.2)).toArray:=by rw [←Array.toList_map]
   rw [←this] at h4
   exact h4
  ·simp at h
 |binOp op t x y yt=>rw [hop] at h;exact binV_sound h (E x) (E y)
 |unOp op t x=>rw [hop] at h;exact unV_sound h (E x)
 |convert src dst x=>rw [hop] at h;exact convV_sound h (E x)
 |makeFunc fn first captured=>
  rw [hop] at h
  cases fn with
  |func f=>
   simp at h
   subst h
   refine ⟨.func (.func f) (first.map a.eval) (captured.map a.eval),?_,rfl⟩
   have h1:=gZ (P:=P) hG r first.toList
   have h2:=gZ (P:=P) hG r captured.toList
   refine .func _ (by simp) (by simp) (fun j v v' q1 q2=>h1.2 j v v' ?_ ?_) (fun j v v' q1 q2=>h2.2 j v v' ?_ ?_)
   ·rw [←Array.toList_map,Array.getElem?_toList];exact q1
   ·rw [←Array.toList_map,Array.getElem?_toList];exact q2
   ·rw [←Array.toList_map,Array.getElem?_toList];exact q1
   ·rw [←Array.toList_map,Array.getElem?_toList];exact q2
  |_=>simp at h
 |slice t x lo hi mx=>rw [hop] at h;exact qp h (E x) (map_ev hG r lo) (map_ev hG r hi) (map_ev hG r mx)
 |fieldAddr s x f=>rw [hop] at h;exact uL h (E x)
 |field t x f=>rw [hop] at h;exact fieldV_sound h (E x)
 |indexAddr t x i=>rw [hop] at h;exact uJ h (E x) (E i)
 |index t x i=>rw [hop] at h;exact indexV_sound h (E x) (E i)
 |extract t i=>
  rw [hop] at h
  simp only at h
  split at h
  ·rename_i vs hvs
   have ht:=E t
   rw [hvs] at ht
   obtain ⟨vs',e,hr⟩:=ht.tuple_inv
   split at h
   ·rename_i w hw
    simp at h
    subst h
    obtain ⟨v',h1,h2⟩:=hr.get (j:=i) (by simpa using hw)
    refine cM h2 ?_
    simp only [e,Instr.extract]
    rw [show vs'[i]?=some v' by simpa using h1]
    try rfl
   ·simp at h
  ·simp at h
 |call c=>
  rw [hop] at h
  simp only at h
  cases hc:c.callee with
  |builtin b=>
   rw [hc] at h
   simp only at h
   have hargs:c.args.map a.eval=(c.args.toList.map a.eval).toArray:=by rw [←Array.toList_map]
   have key:∀ cs,jY P ι W0.heap.size W (builtin b c.argTypes o.type cs (c.args.map a.eval)) v:=fun cs=>by
    rw [hargs]
    exact zZ h (gZ (P:=P) hG r c.args.toList)
   simp only [resolve,hc,pure_bind,invoke]
   exact key _
  |value f=>
   rw [hc] at h
   simp only at h
   cases hnf:rI f with
   |some g=>
    rw [hnf] at h
    simp only at h
    obtain rfl:f=.func g:=by cases f<;>simp [rI] at hnf;rw [hnf]
    have hA:=gZ (P:=P) hG r c.args.toList
    unfold callR at h
    split at h
    ·rename_i w hw
     simp at h
     subst h
     obtain ⟨v',q1,q2⟩:=natV_sound (W:=W) (args':=c.args.map a.eval) hw (by rw [Array.toList_map];exact hA)
     refine ⟨v',q1,?_⟩
     have e: #[]++c.args.map a.eval++ #[]=c.args.map a.eval:=by simp
     simp only [resolve,hc,Go.Act.eval,Deferred.ofValue,pure_bind,invoke,e]
     exact q2
    ·simp at h
   |none=>
    rw [hnf] at h
    simp only [callV] at h
    split at h<;>simp at h
  |invoke recv m=>rw [hc] at h;simp at h
 |load t x=>rw [hop] at h;simp only at h;split at h<;>simp at h
 |store t x y=>rw [hop] at h;simp only at h;split at h<;>simp at h
 |makeMap t x=>
  rw [hop] at h
  cases x with
  |none=>simp at h
  |some x=>simp only at h;split at h<;>simp at h
 |_=>rw [hop] at h;simp at h
theorem qf (op:BinOp) (k:IntKind) (a b:Int) (h:Act):oF op k a b≠ .act h:=by cases op<;>simp [oF]
theorem qy (op:BinOp) (a b:ByteArray) (h:Act):uD op a b≠ .act h:=by cases op<;>simp [uD]
theorem binV_noact (op:BinOp) (t:TypeId) (x y:Value) (h:Act):binV P op t x y≠ .act h:=by
 unfold binV
 split
 ·rename_i k a k' b
  split
  ·simp
  ·simp
  ·cases decide (k=k') with
   |true=>exact qf _ _ _ _ _
   |false=>simp
 ·exact qy _ _ _ _
 ·split
  ·split<;>simp
  ·split<;>simp
  ·simp
theorem unV_noact (op:UnOp) (x:Value) (h:Act):unV op x≠ .act h:=by
 unfold unV
 split<;>simp
theorem jC {c:Bool} {x y:iF} {h:Act} (hx:x≠ .act h) (hy:y≠ .act h):(bif c then x else y)≠ .act h:=by cases c<;>simpa
theorem ux (t:TypeId) (x:Value) (lo hi mx:Option Value) (h:Act):oS P t x lo hi mx≠ .act h:=by
 unfold oS
 split
 ·split<;>simp
 ·split
  ·exact jC (by simp) (by simp)
  ·simp
 ·split
  ·exact jC (by simp) (by simp)
  ·simp
 ·simp
theorem uF (t:TypeId) (x:Value) (f:Nat) (h:Act):fK P t x f≠ .act h:=by
 unfold fK
 split
 ·split
  ·exact jC (by simp) (by simp)
  ·simp
 ·simp
theorem vx (t:TypeId) (x:Value) (f:Nat) (h:Act):oT P t x f≠ .act h:=by
 unfold oT
 split
 ·split
  ·refine jC ?_ (by simp)
   split<;>simp
  ·simp
 ·simp
theorem uN (t:TypeId) (x i:Value) (h:Act):eG P t x i≠ .act h:=by
 unfold eG
 split
 ·exact jC (by simp) (by simp)
 ·exact jC (by simp) (by simp)
 ·simp
theorem ul (t:TypeId) (x i:Value) (h:Act):oG P t x i≠ .act h:=by
 unfold oG
 split<;>simp
theorem rM (f:Int→Int→Int) (k:IntKind):∀ (l:List Value) (a:Int) (h:Act),cZ f k a l≠ .act h
 |[],a,h=>by simp [cZ]
 |x::l,a,h=>by
  cases x with
  |int k' b=>simp only [cZ];exact rM f k l _ h
  |_=>simp [cZ]
theorem builtin_act {b:Builtin} {ts:Array TypeId} {ty:TypeId} {xs xs':List Value} {v:Value} {h:Act} (R:Rel ι W0 σ W) (hA:VRL ι W0.heap.size xs xs') (ho:fC P b ts xs=.act h) (hh:h σ=some (v,σ')) (cs:Array Bool):
  eY P ι W0 W (builtin b ts ty cs xs'.toArray) v σ':=by
 unfold fC at ho
 split at ho
 ·rename_i x
  obtain ⟨x',m,rfl,hx,hm⟩:=hA.cons_inv
  cases hm.nil_inv
  cases ht:ts[0]? with
  |none=>rw [ht] at ho;simp at ho
  |some t=>
   rw [ht] at ho
   simp only [Option.bind_some] at ho
   cases hd:P.underlying t with
   |none=>rw [hd] at ho;simp at ho
   |some d=>
    rw [hd] at ho
    simp only at ho
    unfold vl at ho
    split at ho<;>simp at ho
    subst ho
    obtain ⟨rfl,n,rfl,hrun⟩:=ua (P:=P) (ty:=ty) (cs:=cs) R hx ht hd hh
    exact ⟨ι,W,_,_,ι.le_refl,R,hrun,rfl,.int _ _⟩
 ·rename_i s x
  obtain ⟨s',m,rfl,hs,hm⟩:=hA.cons_inv
  obtain ⟨x',m,rfl,hx,hm⟩:=hm.cons_inv
  cases hm.nil_inv
  cases ht:ts[0]? with
  |none=>rw [ht] at ho;simp at ho
  |some t=>
   rw [ht] at ho
   simp at ho
   subst ho
   exact append_sound R ht hs hx hh
 ·rename_i s x
  obtain ⟨s',m,rfl,hs,hm⟩:=hA.cons_inv
  obtain ⟨x',m,rfl,hx,hm⟩:=hm.cons_inv
  cases hm.nil_inv
  cases ht:ts[0]? with
  |none=>rw [ht] at ho;simp at ho
  |some t=>
   rw [ht] at ho
   simp at ho
   subst ho
   exact copy_sound R ht hs hx hh
 ·rename_i x
  obtain ⟨x',m,rfl,hx,hm⟩:=hA.cons_inv
  cases hm.nil_inv
  cases ht:ts[0]? with
  |none=>rw [ht] at ho;simp at ho
  |some t=>
   rw [ht] at ho
   simp at ho
   subst ho
   exact clear_sound R ht hx hh
 ·rename_i k a r
  exact absurd ho (rM _ _ _ _ _)
 ·rename_i k a r
  exact absurd ho (rM _ _ _ _ _)
 ·simp at ho
theorem op_act {o:Oper} {fr:List Value} {a:Go.Act} {v:Value} {h:Act} (hG:P.globals.size≤W0.heap.size) (R:Rel ι W0 σ W) (r:FR ι W0.heap.size fr a.tmps) (ho:bE P o fr=.act h) (hh:h σ=some (v,σ')):
  eY P ι W0 W (execOp a.eval o) v σ':=by
 have E:=fun x=>gI (P:=P) (ι:=ι) (W0:=W0) hG r x
 unfold bE at ho
 unfold execOp
 cases hop:o.op with
 |alloc t=>rw [hop] at ho;simp at ho;subst ho;exact alloc_sound R hh
 |box t x=>rw [hop] at ho;simp at ho;subst ho;exact box_sound t R (E x) hh
 |buildSlice t len parts=>
  rw [hop] at ho;simp at ho;subst ho
  obtain ⟨h1,h2⟩:=lX (P:=P) hG r parts.toList
  have:=uM (t:=t) (len:=len) R h1 h2 (by simpa using hh)
  have e:parts.map (fun p=>(p.1,a.eval p.2))=(parts.toList.map fun p=>(p.1,a.eval p.2)).toArray:=by rw [←Array.toList_map]
  rw [←e] at this
  exact this
 |load t x=>
  rw [hop] at ho
  simp only at ho
  split at ho
  ·rename_i p hp
   simp at ho;subst ho
   have hx:=E x
   rw [hp] at hx
   obtain ⟨p',e,hp'⟩:=hx.ptr_inv
   obtain ⟨rfl,v',h1,h2⟩:=ld_sound (P:=P) R hp' hh
   refine xP R ⟨v',h1,?_⟩
   simp only [e,Instr.loadAt,Instr.sureAddr,pure_bind]
   exact h2
  ·simp at ho
 |store t x y=>
  rw [hop] at ho
  simp only at ho
  split at ho
  ·rename_i p hp
   simp at ho;subst ho
   have hx:=E x
   rw [hp] at hx
   obtain ⟨p',e,hp'⟩:=hx.ptr_inv
   obtain ⟨rfl,W',R',h2⟩:=st_sound (P:=P) R hp' (E y) hh
   refine ub ι.le_refl R' ?_ rfl
   simp only [e,Instr.storeAt,Instr.sureAddr,pure_bind]
   exact h2
  ·simp at ho
 |convert src dst x=>
  rw [hop] at ho
  have hx:=E x
  simp only at ho
  unfold oL at ho
  split at ho
  ·simp at ho
  ·simp at ho
  ·simp at ho
  ·have hs:= ‹P.underlying src=some _›
   have hd:= ‹P.underlying dst=some _›
   split at ho
   ·rename_i he
    simp at ho;subst ho
    rename_i e s q1 q2 q3 q4 _
    rw [q4] at hx
    have hx':=hx.string_inv
    simp only [hx']
    refine actOK_congr (qJ (P:=P) (e:=s) R hh) ?_
    unfold convert
    rw [Sem.run_bind,bD hs]
    simp only [Result.andThen]
    rw [Sem.run_bind,bD hd]
    simp only [Result.andThen]
    rw [Sem.run_bind,bD he]
    try rfl
   ·simp at ho
  ·have hs:= ‹P.underlying src=some _›
   have hd:= ‹P.underlying dst=some _›
   split at ho
   ·rename_i he
    simp at ho;subst ho
    have hsh:∃ p n c,ev P fr x=.slice p n c:=by
     unfold cW at hh
     split at hh
     ·exact ⟨_,_,_,by assumption⟩
     ·exact ⟨_,_,_,by assumption⟩
     ·cases hh
    obtain ⟨rfl,s,rfl,hrun⟩:=qK (P:=P) R hx hh
    obtain ⟨p,n,c,hsh⟩:=hsh
    rw [hsh] at hx
    obtain ⟨p',c',hx',_,_⟩:=hx.slice_inv
    rw [hx'] at hrun
    simp only [hx']
    refine fJ ι.le_refl R ?_ (.string s)
    unfold convert
    rw [Sem.run_bind,bD hs]
    simp only [Result.andThen]
    rw [Sem.run_bind,bD hd]
    simp only [Result.andThen]
    rw [Sem.run_bind,bD he]
    exact hrun
   ·simp at ho
  ·simp at ho
 |makeSlice t l c=>rw [hop] at ho;simp at ho;subst ho;exact wR R (E l) (E c) hh
 |makeMap t x=>
  rw [hop] at ho
  cases x with
  |none=>simp at ho;subst ho;exact qW R (fun x h=>by cases h) hh
  |some x=>
   simp only at ho
   split at ho
   ·rename_i q1 q2 q3 q4 q5 q6
    simp at ho;subst ho
    have hx:=E x
    rw [show ev P fr x=_ from by assumption] at hx
    refine qW R (fun y h=>?_) hh
    simp only [Option.map_some,Option.some.injEq] at h
    subst h
    exact ⟨⟨_,_,hx.int_inv⟩,_,_,by assumption⟩
   ·simp at ho
 |lookup t m k ok=>
  rw [hop] at ho;simp at ho;subst ho
  obtain ⟨rfl,h1⟩:=ug (P:=P) R (E m) (E k) hh
  exact xP R h1
 |mapUpdate t m k x=>rw [hop] at ho;simp at ho;subst ho;exact qs R (E m) (E k) (E x) hh
 |range t x=>rw [hop] at ho;simp at ho;subst ho;exact range_sound R (E x) hh
 |next it s=>rw [hop] at ho;simp at ho;subst ho;exact next_sound R (E it) hh
 |call c=>
  rw [hop] at ho
  simp only at ho
  cases hc:c.callee with
  |builtin b=>
   rw [hc] at ho
   simp only at ho
   have hA:=gZ (P:=P) hG r c.args.toList
   simp only [resolve,hc,pure_bind,invoke]
   have hargs:c.args.map a.eval=(c.args.toList.map a.eval).toArray:=by rw [←Array.toList_map]
   rw [hargs]
   generalize c.args.toList.map (ev P fr)=xs at hA ho
   generalize c.args.toList.map a.eval=xs' at hA
   exact builtin_act R hA ho hh _
  |value f=>
   rw [hc] at ho
   simp only at ho
   cases hnf:rI f with
   |some g=>
    rw [hnf] at ho
    simp only [callR] at ho
    split at ho<;>simp at ho
   |none=>
    rw [hnf] at ho
    simp only [callV] at ho
    split at ho<;>simp at ho
  |invoke recv m=>rw [hc] at ho;simp at ho
 |move x=>rw [hop] at ho;simp at ho
 |assign x=>rw [hop] at ho;simp at ho
 |pick x y z=>rw [hop] at ho;simp only at ho;split at ho<;>simp at ho
 |build t p=>rw [hop] at ho;simp only at ho;split at ho<;>simp at ho
 |nilCheck x=>rw [hop] at ho;simp only at ho;split at ho<;>simp at ho
 |binOp op t x y yt=>rw [hop] at ho;exact absurd ho (binV_noact _ _ _ _ _)
 |unOp op t x=>rw [hop] at ho;exact absurd ho (unV_noact _ _ _)
 |slice t x lo hi mx=>rw [hop] at ho;exact absurd ho (ux _ _ _ _ _ _)
 |fieldAddr s x f=>rw [hop] at ho;exact absurd ho (uF _ _ _ _)
 |field t x f=>rw [hop] at ho;exact absurd ho (vx _ _ _ _)
 |indexAddr t x i=>rw [hop] at ho;exact absurd ho (uN _ _ _ _)
 |index t x i=>rw [hop] at ho;exact absurd ho (ul _ _ _ _)
 |makeFunc fn first captured=>rw [hop] at ho;cases fn<;>simp at ho
 |extract t i=>
  rw [hop] at ho
  simp only at ho
  split at ho
  ·split at ho<;>simp at ho
  ·simp at ho
 |_=>rw [hop] at ho;simp at ho
theorem ye (op:BinOp) (k:IntKind) (a b:Int) (g:FuncId) (as:List Value):oF op k a b≠ .call g as:=by cases op<;>simp [oF]
theorem xu (op:BinOp) (a b:ByteArray) (g:FuncId) (as:List Value):uD op a b≠ .call g as:=by cases op<;>simp [uD]
theorem binV_nocall (op:BinOp) (t:TypeId) (x y:Value) (g:FuncId) (as:List Value):binV P op t x y≠ .call g as:=by
 unfold binV
 split
 ·rename_i k a k' b
  split
  ·simp
  ·simp
  ·cases decide (k=k') with
   |true=>exact ye _ _ _ _ _ _
   |false=>simp
 ·exact xu _ _ _ _ _
 ·split
  ·split<;>simp
  ·split<;>simp
  ·simp
theorem unV_nocall (op:UnOp) (x:Value) (g:FuncId) (as:List Value):unV op x≠ .call g as:=by
 unfold unV
 split<;>simp
theorem iH {c:Bool} {x y:iF} {g:FuncId} {as:List Value} (hx:x≠ .call g as) (hy:y≠ .call g as):(bif c then x else y)≠ .call g as:=by cases c<;>simpa
theorem ya (t:TypeId) (x:Value) (lo hi mx:Option Value) (g:FuncId) (as:List Value):oS P t x lo hi mx≠ .call g as:=by
 unfold oS
 split
 ·split<;>simp
 ·split
  ·exact iH (by simp) (by simp)
  ·simp
 ·split
  ·exact iH (by simp) (by simp)
  ·simp
 ·simp
theorem tC (t:TypeId) (x:Value) (f:Nat) (g:FuncId) (as:List Value):fK P t x f≠ .call g as:=by
 unfold fK
 split
 ·split
  ·exact iH (by simp) (by simp)
  ·simp
 ·simp
theorem xp (t:TypeId) (x:Value) (f:Nat) (g:FuncId) (as:List Value):oT P t x f≠ .call g as:=by
 unfold oT
 split
 ·split
  ·refine iH ?_ (by simp)
   split<;>simp
  ·simp
 ·simp
theorem sK (t:TypeId) (x i:Value) (g:FuncId) (as:List Value):eG P t x i≠ .call g as:=by
 unfold eG
 split
 ·exact iH (by simp) (by simp)
 ·exact iH (by simp) (by simp)
 ·simp
theorem yl (t:TypeId) (x i:Value) (g:FuncId) (as:List Value):oG P t x i≠ .call g as:=by
 unfold oG
 split<;>simp
theorem oQ (f:Int→Int→Int) (k:IntKind):∀ (l:List Value) (a:Int) (g:FuncId) (as:List Value),cZ f k a l≠ .call g as
 |[],a,g,as=>by simp [cZ]
 |x::l,a,g,as=>by
  cases x with
  |int k' b=>simp only [cZ];exact oQ f k l _ g as
  |_=>simp [cZ]
theorem ur (src dst:TypeId) (x:Value) (g:FuncId) (as:List Value):oL P src dst x≠ .call g as:=by
 unfold oL
 split
 ·simp
 ·simp
 ·simp
 ·split<;>simp
 ·split<;>simp
 ·simp
theorem wP (b:Builtin) (ts:Array TypeId) (xs:List Value) (g:FuncId) (as:List Value):fC P b ts xs≠ .call g as:=by
 unfold fC
 split
 ·split
  ·unfold vl;split<;>simp
  ·simp
 ·split<;>simp
 ·split<;>simp
 ·split<;>simp
 ·exact oQ _ _ _ _ _ _
 ·exact oQ _ _ _ _ _ _
 ·simp
theorem op_call {o:Oper} {fr:List Value} {a:Go.Act} {f:FuncId} {args:List Value} (hG:P.globals.size≤W0.heap.size) (r:FR ι W0.heap.size fr a.tmps) (ho:bE P o fr=.call f args):
  ∃ args':Array Value,VRL ι W0.heap.size args args'.toList∧(execOp a.eval o).run P W=(callFunc f args').run P W:=by
 have E:=fun x=>gI (P:=P) (ι:=ι) (W0:=W0) hG r x
 have key:∀ c,o.op=.call c→∃ args':Array Value,VRL ι W0.heap.size args args'.toList∧(execOp a.eval o).run P W=(callFunc f args').run P W:=by
  intro c hop
  unfold bE at ho
  rw [hop] at ho
  simp only at ho
  cases hc:c.callee with
  |builtin b=>rw [hc] at ho;exact absurd ho (wP _ _ _ _ _)
  |value fv=>
   rw [hc] at ho
   simp only at ho
   cases hnf:rI fv with
   |some g=>
    rw [hnf] at ho
    simp only [callR] at ho
    split at ho
    ·simp at ho
    ·simp at ho
     obtain ⟨rfl,rfl⟩:=ho
     obtain rfl:fv=.func g:=by cases fv<;>simp [rI] at hnf;rw [hnf]
     have hA:=gZ (P:=P) hG r c.args.toList
     refine ⟨c.args.map a.eval,by rw [Array.toList_map];exact hA,?_⟩
     unfold execOp
     rw [hop]
     have e: #[]++c.args.map a.eval++ #[]=c.args.map a.eval:=by simp
     simp only [resolve,hc,Go.Act.eval,Deferred.ofValue,pure_bind,invoke,e]
   |none=>
    rw [hnf] at ho
    simp only [callV] at ho
    split at ho
    ·rename_i g first captured hf
     simp at ho
     obtain ⟨rfl,rfl⟩:=ho
     have hx:=E fv
     rw [hf] at hx
     obtain ⟨x',y',e,h1,h2⟩:=hx.func_inv
     have hA:=gZ (P:=P) hG r c.args.toList
     refine ⟨x'++c.args.map a.eval++y',?_,?_⟩
     ·simp only [Array.toList_append,Array.toList_map]
      rw [List.append_assoc]
      exact h1.append (hA.append h2)
     ·unfold execOp
      rw [hop]
      simp only [resolve,hc,e,Deferred.ofValue,pure_bind,invoke]
    ·simp at ho
  |invoke recv m=>rw [hc] at ho;simp at ho
 cases hop:o.op with
 |call c=>exact key c hop
 |load t x=>unfold bE at ho;rw [hop] at ho;simp only at ho;split at ho<;>simp at ho
 |store t x y=>unfold bE at ho;rw [hop] at ho;simp only at ho;split at ho<;>simp at ho
 |makeMap t x=>
  unfold bE at ho;rw [hop] at ho
  cases x with
  |none=>simp at ho
  |some x=>simp only at ho;split at ho<;>simp at ho
 |pick x y z=>unfold bE at ho;rw [hop] at ho;simp only at ho;split at ho<;>simp at ho
 |build t p=>unfold bE at ho;rw [hop] at ho;simp only at ho;split at ho<;>simp at ho
 |nilCheck x=>unfold bE at ho;rw [hop] at ho;simp only at ho;split at ho<;>simp at ho
 |binOp op t x y yt=>unfold bE at ho;rw [hop] at ho;exact absurd ho (binV_nocall _ _ _ _ _ _)
 |unOp op t x=>unfold bE at ho;rw [hop] at ho;exact absurd ho (unV_nocall _ _ _ _)
 |convert a b x=>unfold bE at ho;rw [hop] at ho;exact absurd ho (ur _ _ _ _ _)
 |slice t x lo hi mx=>unfold bE at ho;rw [hop] at ho;exact absurd ho (ya _ _ _ _ _ _ _)
 |fieldAddr s x f=>unfold bE at ho;rw [hop] at ho;exact absurd ho (tC _ _ _ _ _)
 |field t x f=>unfold bE at ho;rw [hop] at ho;exact absurd ho (xp _ _ _ _ _)
 |indexAddr t x i=>unfold bE at ho;rw [hop] at ho;exact absurd ho (sK _ _ _ _ _)
 |index t x i=>unfold bE at ho;rw [hop] at ho;exact absurd ho (yl _ _ _ _ _)
 |makeFunc fn first captured=>unfold bE at ho;rw [hop] at ho;cases fn<;>simp at ho
 |extract t i=>
  unfold bE at ho
  rw [hop] at ho
  simp only at ho
  split at ho
  ·split at ho<;>simp at ho
  ·simp at ho
 |_=>unfold bE at ho;rw [hop] at ho;simp at ho
end
end Go.Pg
namespace Go.Pg
section
variable {P:Program} {ι:Inj} {W0 W:World} {σ σ':aB}
theorem qQ {t:TypeId} {r:Option Value} {v:Value} (hr:∀ x,r=some x→(∃ k n,x=.int k n)∧∃ a b,P.underlying t=some (.map a b)) (h:eQ σ=some (v,σ')):
  kC P ι W0 W (Instr.makeMap t r) v σ σ':=by
 unfold eQ at h
 cases h
 refine ⟨.map [],.map #[] 0,⟨W.heap.size,0,0,0,0⟩,.map (some W.heap.size),rfl,?_,fun τ b R hb hbn hu=>R.linkObj hb hbn hu nofun (fun es h=>by cases h;exact ⟨rfl,rfl⟩) nofun,fun κ _ hk=>VR.map hk⟩
 unfold Instr.makeMap
 cases r with
 |none=>rfl
 |some x=>
  obtain ⟨⟨k,n,rfl⟩,a,b,hd⟩:=hr x rfl
  simp only
  rw [Sem.run_bind,bD hd]
  try rfl
theorem op_alloc {o:Oper} {fr:List Value} {a:Go.Act} {v:Value} {h:Act} (hal:dN o=true) (hG:P.globals.size≤W0.heap.size) (r:FR ι W0.heap.size fr a.tmps) (ho:bE P o fr=.act h) (hh:h σ=some (v,σ')):
  ∃ s:Sem Value,execOp a.eval o=(do pure (Next.value (←s)))∧kC P ι W0 W s v σ σ':=by
 have E:=fun x=>gI (P:=P) (ι:=ι) (W0:=W0) hG r x
 unfold bE at ho
 unfold execOp
 unfold dN at hal
 cases hop:o.op with
 |alloc t=>rw [hop] at ho;simp at ho;subst ho;exact ⟨_,rfl,vN hh⟩
 |box t x=>rw [hop] at ho;simp at ho;subst ho;exact ⟨_,rfl,uZ t (E x) hh⟩
 |buildSlice t len parts=>
  rw [hop] at ho;simp at ho;subst ho
  obtain ⟨h1,h2⟩:=lX (P:=P) hG r parts.toList
  have:=mP (P:=P) (W:=W) (t:=t) (len:=len) h1 h2 (by simpa using hh)
  have e:parts.map (fun p=>(p.1,a.eval p.2))=(parts.toList.map fun p=>(p.1,a.eval p.2)).toArray:=by rw [←Array.toList_map]
  rw [←e] at this
  exact ⟨_,rfl,this⟩
 |makeSlice t l c=>rw [hop] at ho;simp at ho;subst ho;exact ⟨_,rfl,nW (E l) (E c) hh⟩
 |makeMap t x=>
  rw [hop] at ho
  cases x with
  |none=>simp at ho;subst ho;exact ⟨_,rfl,qQ (fun x h=>by cases h) hh⟩
  |some x=>
   simp only at ho
   split at ho
   ·simp at ho;subst ho
    have hx:=E x
    rw [show ev P fr x=_ from by assumption] at hx
    refine ⟨_,rfl,qQ (fun y h=>?_) hh⟩
    simp only [Option.map_some,Option.some.injEq] at h
    subst h
    exact ⟨⟨_,_,hx.int_inv⟩,_,_,by assumption⟩
   ·simp at ho
 |_=>rw [hop] at hal;cases hal
theorem alloc_push {o:Oper} {fr:List Value} {h:Act} {v:Value} (hal:dN o=true) (ho:bE P o fr=.act h) (hh:h σ=some (v,σ')):∃ ao,σ'=σ.push ao:=by
 unfold bE at ho
 unfold dN at hal
 have hbox:∀ {x:Value},nE x σ=some (v,σ')→∃ ao,σ'=σ.push ao:=by
  intro x h
  unfold nE at h
  obtain ⟨_,h2⟩:=bY h
  cases h2
  exact ⟨_,rfl⟩
 cases hop:o.op with
 |alloc t=>
  rw [hop] at ho;simp at ho;subst ho
  unfold mN at hh
  split at hh
  ·exact hbox hh
  ·cases hh
 |box t x=>rw [hop] at ho;simp at ho;subst ho;exact hbox hh
 |buildSlice t len parts=>
  rw [hop] at ho;simp at ho;subst ho
  unfold fF at hh
  split at hh
  ·cases hh
  ·split at hh
   ·cases hh
   ·obtain ⟨_,hh⟩:=lW hh
    split at hh
    ·obtain ⟨_,h2⟩:=bY hh
     cases h2
     exact ⟨_,rfl⟩
    ·cases hh
 |makeSlice t l c=>
  rw [hop] at ho;simp at ho;subst ho
  unfold iP at hh
  split at hh
  ·split at hh
   ·obtain ⟨_,h2⟩:=bY hh
    cases h2
    exact ⟨_,rfl⟩
   ·cases hh
  ·cases hh
 |makeMap t x=>
  rw [hop] at ho
  cases x with
  |none=>simp at ho;subst ho;cases hh;exact ⟨_,rfl⟩
  |some x=>
   simp only at ho
   split at ho
   ·simp at ho;subst ho;cases hh;exact ⟨_,rfl⟩
   ·simp at ho
 |_=>rw [hop] at hal;cases hal
end
end Go.Pg
namespace Go.Pg
inductive Ex where
 |normal
 |exit (id:Nat)
 |ret
def Ex.beq:Ex→Ex→Bool
 | .normal,.normal=>true
 | .ret,.ret=>true
 | .exit a,.exit b=>Nat.beq a b
 |_,_=>false
inductive Pg where
 |ret (e:Ex) (vs:List Value)
 |fail
 |act (h:Act) (k:Value→Pg)
 |get (k:aB→Pg)
 |call (f:FuncId) (args:List Value) (k:Value→Pg)
 |join (p:Pg) (k:Ex→List Value→Pg)
 |loop (st:List Value) (body:List Value→Pg) (k:Ex→List Value→Pg)
def iter (f:List Value→aB→Option ((Ex × List Value) × aB)):Nat→List Value→aB→Option ((Ex × List Value) × aB)
 |0,_,_=>none
 |n+1,st,σ=>match f st σ with
  |some ((.normal,st'),σ')=>iter f n st' σ'
  |r=>r
abbrev gB:=FuncId→List Value→aB→Option (Value × aB)
def exec (cf:gB) (N:Nat):Pg→aB→Option ((Ex × List Value) × aB)
 | .ret e vs,σ=>some ((e,vs),σ)
 | .fail,_=>none
 | .act h k,σ=>match h σ with
  |some (v,σ')=>exec cf N (k v) σ'
  |none=>none
 | .get k,σ=>exec cf N (k σ) σ
 | .call f args k,σ=>match cf f args σ with
  |some (v,σ')=>exec cf N (k v) σ'
  |none=>none
 | .join p k,σ=>match exec cf N p σ with
  |some ((e,vs),σ')=>exec cf N (k e vs) σ'
  |none=>none
 | .loop st body k,σ=>match iter (fun st σ=>exec cf N (body st) σ) N st σ with
  |some ((e,vs),σ')=>exec cf N (k e vs) σ'
  |none=>none
def asInt (k:IntKind) (v:Value) (f:Int→Pg):Pg:=match v with
 | .int k' n=>bif decide (k=k') then f n else .fail
 |_=>.fail
def eU (v:Value) (f:Bool→Pg):Pg:=match v with
 | .bool b=>f b
 |_=>.fail
def jX (v:Value) (f:ByteArray→Pg):Pg:=match v with
 | .string s=>f s
 |_=>.fail
def aK (v:Value) (f:Option Addr→Pg):Pg:=match v with
 | .pointer a=>f a
 |_=>.fail
def aF (a:Option Addr) (f:Addr→Pg):Pg:=match a with
 |some a=>f a
 |none=>.fail
def aN (v:Value) (f:Option Addr→Nat→Nat→Pg):Pg:=match v with
 | .slice a n c=>f a n c
 |_=>.fail
def zn (v:Value) (f:Option Nat→Pg):Pg:=match v with
 | .map r=>f r
 |_=>.fail
def aM (l:List Value) (f:Value→List Value→Pg):Pg:=match l with
 |[]=>.fail
 |c::r=>f c r
def aA (l:List Value) (p:Pg):Pg:=match l with
 |[]=>p
 |_::_=>.fail
def asAgg (v:Value) (f:List Value→Pg):Pg:=match v with
 | .agg cs=>f cs.toList
 |_=>.fail
def cA (v:Value) (f:List Value→Pg):Pg:=match v with
 | .tuple cs=>f cs.toList
 |_=>.fail
def nD (v:Value) (f:FuncId→List Value→List Value→Pg):Pg:=match v with
 | .func (.func g) x y=>f g x.toList y.toList
 |_=>.fail
def asNext (v:Value) (k:Value→Pg):Pg:=cA v fun l=>aM l fun c r=>eU c fun b=>bif b then
  (aM r fun x r=>asInt .i64 x fun n=>aM r fun y r=>asInt .i32 y fun m=>aA r (k (.tuple #[.bool true,.int .i64 n,.int .i32 m])))
 else aA r (k (.tuple #[.bool false]))
def grd (c:Bool) (p:Pg):Pg:=bif c then p else .fail
section
variable (P:Program)
def qo (t:TypeId) (v:Value) (k:Value→Pg):Pg:=
 match P.underlying t with
 |some (.int kd)=>asInt kd v fun n=>k (.int kd n)
 |some .bool=>eU v fun b=>k (.bool b)
 |some .string=>jX v fun s=>k (.string s)
 |some (.pointer _)=>aK v fun a=>k (.pointer a)
 |some (.slice _)=>aN v fun a n c=>k (.slice a n c)
 |some (.map _ _)=>zn v fun r=>k (.map r)
 |_=>k v
def pU:List TypeId→List Value→(List Value→Pg)→Pg
 |t::ts,l,k=>aM l fun c r=>qo P t c fun c'=>pU ts r fun r'=>k (c'::r')
 |[],l,k=>aA l (k [])
def sR:Nat→TypeId→List TypeId
 |0,t=>[t]
 |n+1,t=>match P.underlying t with
  |some (.struct fields)=>fields.toList.flatMap fun f=>sR n f.type
  |some (.array m e)=>(List.replicate m (sR n e)).flatten
  |_=>[t]
def typed1 (t:TypeId) (v:Value) (k:Value→Pg):Pg:=
 match P.underlying t with
 |some (.struct _)=>asAgg v fun l=>pU P (sR P 8 t) l fun cs=>k (.agg cs.toArray)
 |some (.array m _)=>bif Nat.blt 64 m then k v else asAgg v fun l=>pU P (sR P 8 t) l fun cs=>k (.agg cs.toArray)
 |_=>qo P t v k
def vy:List TypeId→List Value→(List Value→Pg)→Pg
 |t::ts,l,k=>aM l fun c r=>typed1 P t c fun c'=>vy ts r fun r'=>k (c'::r')
 |[],l,k=>aA l (k [])
def typed (t:TypeId) (v:Value) (k:Value→Pg):Pg:=
 match P.underlying t with
 |some (.tuple ts)=>cA v fun l=>vy P ts.toList l fun vs'=>k (.tuple vs'.toArray)
 |_=>typed1 P t v k
inductive RT where
 |ptr
 |next
 |ty (t:TypeId)
def wd (o:Oper):RT:=match o.op with
 | .alloc _| .box _ _| .fieldAddr _ _ _| .indexAddr _ _ _| .range _ _=>.ptr
 | .nilCheck _=>match P.underlying o.type with
  |some (.tuple _)=>.ptr
  |_=>.ty o.type
 | .next _ _=>.next
 |_=>.ty o.type
def iU (r:RT) (v:Value) (k:Value→Pg):Pg:=match r with
 | .ptr=>aK v fun a=>aF a fun a=>k (.pointer (some a))
 | .next=>asNext v k
 | .ty t=>typed P t v k
def ue:List RT→List Value→(List Value→Pg)→Pg
 |t::ts,l,k=>aM l fun c r=>iU P t c fun c'=>ue ts r fun r'=>k (c'::r')
 |[],l,k=>aA l (k [])
def simpleOp (o:Oper):Bool:=match o.op with
 | .move _| .assign _| .pick _ _ _| .unOp _ _ _| .field _ _ _| .extract _ _=>true
 | .binOp op _ _ _ _=>match op with
  | .quo| .rem| .shl| .shr=>false
  |_=>true
 |_=>false
inductive HC where
 |none|quiet|eff
def mL (o:Oper):HC:=
 match o.op with
 | .load _ _| .lookup _ _ _ _=>.quiet
 | .alloc _| .box _ _| .buildSlice _ _ _| .store _ _ _| .makeMap _ _| .makeSlice _ _ _| .mapUpdate _ _ _ _| .range _ _| .next _ _=>.eff
 | .convert src dst _=>match P.underlying src,P.underlying dst with
  |some .string,some (.slice _)=>.eff
  |some (.slice _),some .string=>.quiet
  |_,_=>.none
 | .call c=>match c.callee with
  | .builtin .len=>match (c.argTypes[0]?).bind P.underlying with
   |some (.map _ _)=>.quiet
   |_=>.none
  | .builtin .append| .builtin .copy| .builtin .clear=>.eff
  | .builtin _=>.none
  |_=>.eff
 |_=>.none
def HC.isEff:HC→Bool
 | .eff=>true
 |_=>false
def HC.isQuiet:HC→Bool
 | .quiet=>true
 |_=>false
def unord (bf:Array Nat) (i j:Nat):Bool:=bif Nat.blt i j then !(bf.getD j 0).testBit i else !(bf.getD i 0).testBit j
noncomputable def sameV (a b:Value):Bool:= @decide (a=b) (Classical.propDecidable _)
def qN (f:Value→Value→Bool):List Value→List Value→Bool
 |[],[]=>true
 |a::x,b::y=>f a b&&qN f x y
 |_,_=>false
def vG {α:Type} (f:α→α→Bool):Option α→Option α→Bool
 |none,none=>true
 |some a,some b=>f a b
 |_,_=>false
def uk (a b:Addr):Bool:=Nat.beq a.block b.block&&Nat.beq a.off b.off&&vG Nat.beq a.spot b.spot
def yY:Nat→Value→Value→Bool
 |_,.bool a,.bool b=>a==b
 |_,.int k a,.int k' b=>decide (k=k')&&decide (a=b)
 |_,.string a,.string b=>decide (a.data.toList=b.data.toList)
 |_,.pointer a,.pointer b=>vG uk a b
 |_,.slice a n c,.slice b m d=>vG uk a b&&Nat.beq n m&&Nat.beq c d
 |_,.map a,.map b=>vG Nat.beq a b
 |n+1,.agg a,.agg b=>qN (yY n) a.toList b.toList
 |n+1,.tuple a,.tuple b=>qN (yY n) a.toList b.toList
 |n+1,.func (.func f) a c,.func (.func g) b d=>Nat.beq f g&&(qN (yY n) a.toList b.toList&&qN (yY n) c.toList d.toList)
 |_,.nilFunc,.nilFunc=>true
 |_,_,_=>false
noncomputable def eqv (a b:Value):Bool:=yY 4 a b||sameV a b
noncomputable def oN (h:Act) (v:Value) (σ:aB):Bool:=match h σ with
 |some (v',_)=>eqv v' v
 |none=>false
abbrev IOp:=Nat × Oper
def vt (g:Nat × Bool) (h:Option (Nat × Bool)):Bool:=match h with
 |some (j,w)=>Nat.beq g.1 j&&(g.2==w)
 |none=>false
def within (i:Nat) (g:Nat × Bool) (x:IOp):Bool:=vt g x.2.guard||(match x.2.guard with
 |some (j,_)=>Nat.ble i j&&Nat.blt j x.1
 |none=>false)
def vW (d:Nat) (o:Oper):Bool:=match o.dst with
 |some e=>!Nat.beq e d
 |none=>true
def wC (p:IOp→Bool):List IOp→List IOp × List IOp
 |[]=>([],[])
 |x::r=>bif p x then ((x::(wC p r).1),(wC p r).2) else ([],x::r)
def poisonOps (fr:List Value):List IOp→List Value
 |[]=>fr
 |x::r=>poisonOps (dQ fr x.2.dst top) r
def pickB (b:Bool) (want:Bool) (p:Oper) (fr:List Value):Option Value:=
 match p.op,want with
 | .pick _ v (.const (.bool false)),true=>match ev P fr v with
  | .bool x=>some (.bool (b&&x))
  |_=>none
 | .pick _ (.const (.bool true)) v,false=>match ev P fr v with
  | .bool x=>some (.bool (b||x))
  |_=>none
 |_,_=>none
def cU (ops:Array Oper) (j:Nat):Option Tmp:=(ops[j]?).bind (·.dst)
def tV (ops:Array Oper) (j:Nat) (p:Oper):Bool:=match p.op,cU ops j with
 | .pick (.tmp c) _ _,some d=>Nat.beq c d
 |_,_=>false
def nP (ops:Array Oper):Nat→(g:Nat × Bool)→List IOp→List Value→Option (List Value)
 |0,_,_,_=>none
 |_+1,_,[],fr=>some fr
 |n+1,g,x::r,fr=>
  bif vt g x.2.guard then
   match bE P x.2 fr with
   | .tot v=>nP ops n g r (dQ fr x.2.dst v)
   |_=>none
  else match x.2.guard with
   |none=>none
   |some (j,w)=>match cU ops j with
    |none=>none
    |some d=>match getD fr d with
     | .bool b=>
      match wC (within x.1 (j,w)) (x::r) with
      |(run,p::rest)=>match nP ops n (j,w) run fr with
       |some fr'=>match pickB P b w p.2 fr',tV ops j p.2&&vt g p.2.guard&&(run.all fun y=>vW d y.2) with
        |some v,true=>nP ops n g rest (dQ (poisonOps fr run) p.2.dst v)
        |_,_=>none
       |none=>none
      |_=>none
     |_=>none
noncomputable def chks:List (Act × Value)→aB→Bool
 |[],_=>true
 |(h,v)::l,σ=>oN h v σ&&chks l σ
noncomputable def past (h:Act) (v:Value):List aB→Bool
 |[]=>true
 |σ::l=>oN h v σ&&past h v l
def wD {α:Type} (i:Nat) (bf:Array Nat):List (Nat × α)→List α
 |[]=>[]
 |x::l=>bif unord bf x.1 i then x.2::wD i bf l else wD i bf l
noncomputable def chkAll (i:Nat) (bf:Array Nat) (σ:aB) (l:List (Nat × Act × Value)):Bool:=chks (wD i bf l) σ
noncomputable def xN (i:Nat) (bf:Array Nat) (h:Act) (v:Value) (l:List (Nat × aB)):Bool:=past h v (wD i bf l)
def yQ (i:Nat) (bf:Array Nat) (l:List (Nat × Act × Value)):Bool:=l.any fun x=>unord bf x.1 i
def gF (i:Nat) (bf:Array Nat) (ops:List IOp):Bool:=ops.any fun x=>Nat.blt i x.1&&(mL P x.2).isQuiet&&unord bf i x.1
def aX (ops:Array Oper):List IOp:=ops.toList.zipIdx.map fun x=>(x.2,x.1)
def xH (o:Oper) (fr:List Value) (k:iF→Pg):Pg:=
 match o.op with
 | .nilCheck c=>match ev P fr c with
  | .pointer a=>aF a fun a=>k (.tot (.pointer (some a)))
  | .func (.func f) first captured=>k (.tot (.func (.func f) first captured))
  |_=>.fail
 | .indexAddr t x i=>match ev P fr x with
  | .slice a n c=>aF a fun a=>k (eG P t (.slice (some a) n c) (ev P fr i))
  |x=>k (eG P t x (ev P fr i))
 | .call c=>match c.callee with
  | .value f=>match rI f with
   |some g=>k (callR P g (c.args.toList.map (ev P fr)))
   |none=>nD (ev P fr f) fun g first captured=>k (.call g (first++c.args.toList.map (ev P fr)++captured))
  |_=>k (bE P o fr)
 |_=>k (bE P o fr)
noncomputable def yK (x:IOp) (fr:List Value) (k:List Value→Pg):Pg:=
 xH P x.2 fr fun
 | .fail=>.fail
 | .tot v=>k (dQ fr x.2.dst v)
 | .pure c v=>grd c (k (dQ fr x.2.dst v))
 | .act h=>.act h fun v=>iU P (wd P x.2) v fun v'=>k (dQ fr x.2.dst v')
 | .call f args=>.call f args fun v=>iU P (wd P x.2) v fun v'=>k (dQ fr x.2.dst v')
def noneB {α:Type}:Option α→Bool
 |none=>true
 |some _=>false
def cellsEq (l m:List Value):Bool:=qN (yY 4) l m
def xV:Option dS→Option dS→Bool
 |some (.blk a),some (.blk b)=>cellsEq a.cells b.cells&&Nat.beq a.esz b.esz&&allNat a.his b.his&&Nat.beq a.dirty b.dirty
 |some (.map []),some (.map [])=>true
 |none,none=>true
 |_,_=>false
where
 allNat:List Nat→List Nat→Bool
  |[],[]=>true
  |a::l,b::m=>Nat.beq a b&&allNat l m
  |_,_=>false
noncomputable def objEq (a b:Option dS):Bool:=xV a b|| @decide (a=b) (Classical.propDecidable _)
abbrev rN:=Nat × Nat × Option dS
noncomputable def yj:List (Nat × Option dS)→aB→Bool
 |[],_=>true
 |(b,o)::l,σ=>objEq (σ.get b) o&&yj l σ
noncomputable def xJ (i:Nat) (bf:Array Nat) (σ:aB) (l:List rN):Bool:=yj (wD i bf l) σ
def uw (n0:Nat) (σ:aB) (bs:List Nat):Bool:=Nat.ble n0 σ.n&&noneB (σ.get σ.n)&&bs.all fun b=>!Nat.beq b σ.n
def pS (i:Nat) (bf:Array Nat) (l:List rN):Bool:=l.any fun x=>unord bf x.1 i
def newOk (n0:Nat) (σ:aB) (al:List rN):Bool:=uw n0 σ (al.map fun x=>x.2.1)
noncomputable def behind (i:Nat) (bf:Array Nat) (ld:List (Nat × Act × Value)) (al:List rN) (p:Pg):Pg:=
 let p1:=bif pS i bf al then .get fun σ=>grd (xJ i bf σ al) p else p
 bif yQ i bf ld then .get fun σ=>grd (chkAll i bf σ ld) p1 else p1
noncomputable def sH (late:Option Nat) (bf:Array Nat) (all:List IOp) (x:IOp) (fr:List Value) (sn:List (Nat × aB)) (ld:List (Nat × Act × Value)) (al:List rN)
  (k:List Value→List (Nat × aB)→List (Nat × Act × Value)→List rN→Pg):Pg:=
 xH P x.2 fr fun
 | .fail=>.fail
 | .tot v=>k (dQ fr x.2.dst v) sn ld al
 | .pure c v=>grd c (k (dQ fr x.2.dst v) sn ld al)
 | .act h=>
  bif (mL P x.2).isQuiet then
   .act h fun v=>grd (xN x.1 bf h v sn) (iU P (wd P x.2) v fun v'=>k (dQ fr x.2.dst v') sn ((x.1,h,v)::ld) al)
  else bif (mL P x.2).isEff then
   let go (sn:List (Nat × aB)):Pg:=.act h fun v=>iU P (wd P x.2) v fun v'=>behind x.1 bf ld al (k (dQ fr x.2.dst v') sn ld al)
   let plain:Pg:=bif gF P x.1 bf all then .get fun σ=>go ((x.1,σ)::sn) else go sn
   match late with
   |some n0=>bif dN x.2 then .get fun σ=>grd (newOk n0 σ al) (.act h fun v=>iU P (wd P x.2) v fun v'=>.get fun σ1=>k (dQ fr x.2.dst v') sn ld ((x.1,σ.n,σ1.get σ.n)::al)) else plain
   |none=>plain
  else .fail
 | .call f args=>
  bif (mL P x.2).isEff then
   let go (sn:List (Nat × aB)):Pg:=.call f args fun v=>iU P (wd P x.2) v fun v'=>behind x.1 bf ld al (k (dQ fr x.2.dst v') sn ld al)
   bif gF P x.1 bf all then .get fun σ=>go ((x.1,σ)::sn) else go sn
  else .fail
noncomputable def jF (ops:Array Oper):Nat→List IOp→List Value→(List Value→Pg)→Pg
 |0,_,_,_=>.fail
 |_+1,[],fr,k=>k fr
 |n+1,x::r,fr,k=>
  match x.2.guard with
  |none=>yK P x fr fun fr=>jF ops n r fr k
  |some (j,w)=>match cU ops j with
   |none=>.fail
   |some d=>match getD fr d with
    | .tuple _=>jF ops n r (dQ fr x.2.dst undef') k
    | .bool b=>
     match (match wC (within x.1 (j,w)) (x::r) with
      |(run,p::rest)=>bif run.all fun y=>simpleOp y.2 then (match nP P ops (n+1) (j,w) run fr with
       |some fr'=>match pickB P b w p.2 fr',tV ops j p.2&&(run.all fun y=>vW d y.2)&&(match p.2.guard with
         |none=>true
         |some _=>false) with
        |some v,true=>some (dQ (poisonOps fr run) p.2.dst v,rest)
        |_,_=>none
       |none=>none) else none
      |_=>none) with
     |some (fr',rest)=>jF ops n rest fr' k
     |none=>
      bif b==w then yK P x (kO fr d (.bool w)) fun fr=>jF ops n r fr k
      else jF ops n r (dQ (kO fr d (.bool (!w))) x.2.dst undef') k
    |_=>.fail
noncomputable def dY (late:Option Nat) (bf:Array Nat) (ops:Array Oper) (all:List IOp):List IOp→List Value→List (Nat × aB)→List (Nat × Act × Value)→List rN→(List Value→Pg)→Pg
 |[],fr,_,_,_,k=>k fr
 |x::r,fr,sn,ld,al,k=>
  match x.2.guard with
  |none=>sH P late bf all x fr sn ld al fun fr sn ld al=>dY late bf ops all r fr sn ld al k
  |some (j,w)=>match cU ops j with
   |none=>.fail
   |some d=>match getD fr d with
    | .tuple _=>dY late bf ops all r (dQ fr x.2.dst undef') sn ld al k
    | .bool b=>
     bif b==w then sH P late bf all x (kO fr d (.bool w)) sn ld al fun fr sn ld al=>dY late bf ops all r fr sn ld al k
     else dY late bf ops all r (dQ (kO fr d (.bool (!w))) x.2.dst undef') sn ld al k
    |_=>.fail
def mI (late:Bool) (o:Oper):Bool:=(mL P o).isEff&&!(late&&dN o)
def dL (late:Bool) (bf:Array Nat) (l:List IOp):Bool:=
 l.all fun x=>!mI P late x.2||l.all fun y=>!mI P late y.2||Nat.ble y.1 x.1||!unord bf x.1 y.1
def eO (bf:Array Nat) (l:List IOp):Bool:=
 l.all fun x=>!mI P true x.2||l.all fun y=>!dN y.2||Nat.ble y.1 x.1||!unord bf x.1 y.1
def jT (ops:Array Oper) (o:Oper):List Nat:=
 (o.op.operands.toList.filterMap fun
  | .tmp t=>some t
  |_=>none)++(match o.guard with
  |some (j,_)=>(cU ops j).toList
  |none=>[])
def cJ (bf:Array Nat) (ops:Array Oper) (l:List IOp):Bool:=
 (l.all fun x=>x.2.after.toList.all fun e=>!Region.binds .any e||Nat.blt e.on x.1)&&
 l.all fun y=>match y.2.dst with
  |none=>true
  |some d=>l.all fun x=>Nat.beq x.1 y.1||!unord bf x.1 y.1||!(vG Nat.beq x.2.dst (some d)||(jT ops x.2).any (Nat.beq d))
def sN (x:Nat) (l:List Nat):Bool:=l.any (Nat.beq x)
def readyC (done:List Nat) (o:Oper):Bool:=o.after.toList.all fun e=>!Region.binds .any e||sN e.on done
def dropI (i:Nat):List IOp→List IOp
 |[]=>[]
 |x::r=>bif Nat.beq x.1 i then r else x::dropI i r
def firstI (p:IOp→Bool):List IOp→Option Nat
 |[]=>none
 |x::r=>bif p x then some x.1 else firstI p r
def canon:Nat→List IOp→List Nat→List Nat
 |0,_,done=>done.reverse
 |n+1,rem,done=>match firstI (fun x=>readyC done x.2&&!mI P true x.2) rem with
  |some i=>canon n (dropI i rem) (i::done)
  |none=>match firstI (fun x=>readyC done x.2) rem with
   |some i=>canon n (dropI i rem) (i::done)
   |none=>done.reverse
def gN (i:Nat):List Nat→Nat
 |[]=>0
 |x::r=>bif Nat.beq x i then 0 else gN i r+1
def moved (π:List Nat) (o:Oper):Oper:={ o with after:=o.after.map fun e=>{ e with on:=gN e.on π },guard:=match o.guard with
 |some (j,w)=>some (gN j π,w)
 |none=>none }
def bS (ops:Array Oper) (π:List Nat):Array Oper:=(π.map fun i=>moved π (ops.getD i default)).toArray
def xl (ops:Array Oper) (π:List Nat):Bool:=
 Nat.beq π.length ops.size&&((List.range ops.size).all fun i=>sN i π)&&(π.all fun i=>Nat.blt i ops.size)&&(π.zipIdx.all fun x=>Nat.beq (gN x.1 π) x.2)&&
  ops.toList.all fun o=>o.after.toList.all (fun e=>!Region.binds .any e||Nat.blt e.on ops.size)&&(match o.guard with
   |some (j,_)=>Nat.blt j ops.size
   |none=>true)
def wa (l:List Nat) (x:Nat):List Nat:=bif sN x l then l else x::l
def unionN (a b:List Nat):List Nat:=a.foldl wa b
def fM:List Oper→List Nat→List Nat
 |[],acc=>acc
 |o::r,acc=>fM r (match o.dst with
  |some d=>wa acc d
  |_=>acc)
def sW (o:Oper):Bool:=!(mL P o).isEff||match o.op with
 | .store _ _ _| .alloc _| .box _ _| .buildSlice _ _ _=>true
 | .call c=>(match c.callee with
  | .builtin .append=>true
  |_=>false)
 |_=>false
def yy (bf:Array Nat) (x:IOp):List IOp→Option Nat
 |[]=>none
 |y::r=>bif Nat.blt x.1 y.1&&mI P true y.2&&unord bf x.1 y.1 then some y.1 else yy bf x r
def clash (bf:Array Nat) (all:List IOp):List IOp→Option (Nat × Nat)
 |[]=>none
 |x::r=>match (bif mI P true x.2 then yy P bf x all else none) with
  |some j=>some (x.1,j)
  |none=>clash bf all r
def bF (ops:Array Oper) (j i:Nat):Array Oper:=(ops.toList.zipIdx.map fun x=>bif Nat.beq x.2 j then { x.1 with after:=x.1.after.push ⟨i,.data⟩ } else x.1).toArray
def jQ (n i j:Nat):List Nat:=((List.range n).map fun x=>bif Nat.beq x i then [] else bif Nat.beq x j then [j,i] else [x]).flatten
noncomputable def eqvs (l m:List Value):Bool:=qN eqv l m
def wW:List (Value × Value)→List (Value × Value)→Bool
 |[],[]=>true
 |x::l,y::m=>yY 4 x.1 y.1&&(yY 4 x.2 y.2&&wW l m)
 |_,_=>false
def objEqT:Option dS→Option dS→Bool
 |some (.iter s n),some (.iter t m)=>decide (s.data.toList=t.data.toList)&&Nat.beq n m
 |some (.map a),some (.map b)=>wW a b
 |a,b=>xV a b
def triEq:Tri→Tri→Bool
 | .nil,.nil=>true
 | .node v l r,.node v' l' r'=>objEqT v v'&&(triEq l l'&&triEq r r')
 |_,_=>false
noncomputable def oI (σ τ:aB):Bool:=Nat.beq σ.n τ.n&&(triEq σ.mem τ.mem|| @decide (σ.mem=τ.mem) (Classical.propDecidable _))
def wt (ops:Array Oper) (fr:List Value):List Value:=(fM ops.toList []).map (getD fr)
def drawOk (ops:Array Oper):Bool:=cJ (CheckFast.beforeF ops) ops (aX ops)&&dL P true (CheckFast.beforeF ops) (aX ops)&&eO P (CheckFast.beforeF ops) (aX ops)
noncomputable def qx (ops:Array Oper) (i j:Nat) (fr:List Value) (k:List Value→Pg):Pg:=
 let A:=bF ops j i
 let π:=jQ ops.size i j
 let B:=bS (bF ops i j) π
 bif Nat.blt i j&&Nat.blt j ops.size&&ops.toList.all (sW P)&&drawOk P A&&xl (bF ops i j) π&&drawOk P B then
  .get fun σ=>.join (dY P (some σ.n) (CheckFast.beforeF B) B (aX B) (aX B) fr [] [] [] fun fr=>.ret .normal (wt ops fr)) fun _ st=>.get fun σ2=>.act (fun _=>some (.tuple #[],σ)) fun _=>
   dY P (some σ.n) (CheckFast.beforeF A) A (aX A) (aX A) fr [] [] [] fun fr'=>.get fun σ1=>grd (oI σ1 σ2&&eqvs (wt ops fr') st) (k fr')
 else .fail
noncomputable def pR (ops:Array Oper) (draw:Bool) (fr:List Value) (k:List Value→Pg):Pg:=
 bif draw then
  bif cJ (CheckFast.beforeF ops) ops (aX ops)&&dL P false (CheckFast.beforeF ops) (aX ops) then dY P none (CheckFast.beforeF ops) ops (aX ops) (aX ops) fr [] [] [] k
  else bif cJ (CheckFast.beforeF ops) ops (aX ops)&&dL P true (CheckFast.beforeF ops) (aX ops)&&eO P (CheckFast.beforeF ops) (aX ops) then
   .get fun σ=>dY P (some σ.n) (CheckFast.beforeF ops) ops (aX ops) (aX ops) fr [] [] [] k
  else
   let π:=canon P ops.size (aX ops) []
   let ops':=bS ops π
   bif xl ops π&&cJ (CheckFast.beforeF ops') ops' (aX ops')&&dL P true (CheckFast.beforeF ops') (aX ops')&&eO P (CheckFast.beforeF ops') (aX ops') then
    .get fun σ=>dY P (some σ.n) (CheckFast.beforeF ops') ops' (aX ops') (aX ops') fr [] [] [] k
   else match clash P (CheckFast.beforeF ops) (aX ops) (aX ops) with
    |some (i,j)=>qx P ops i j fr k
    |none=>.fail
 else jF P ops (ops.size+1) (aX ops) fr k
def written:Code→List Nat→List Nat
 | .region _ ops _,acc=>fM ops.toList acc
 | .seq a b,acc=>written b (written a acc)
 | .cond _ a b,acc=>written b (written a acc)
 | .block _ a,acc| .loop a,acc| .scope a,acc=>written a acc
 |_,acc=>acc
def tmpsOf:List Operand→List Nat→List Nat
 |[],acc=>acc
 | .tmp t::r,acc=>tmpsOf r (wa acc t)
 |_::r,acc=>tmpsOf r acc
def qi:List Oper→List Nat→List Nat
 |[],out=>out
 |o::r,out=>tmpsOf o.op.operands.toList (match o.dst with
  |some d=>(qi r out).filter fun x=>!Nat.beq x d
  |none=>qi r out)
def live:Code→(Ex→List Nat)→List Nat
 | .skip,out| .label _,out=>out .normal
 | .region _ ops _,out=>qi ops.toList (out .normal)
 | .seq a b,out=>live a fun
  | .normal=>live b out
  |e=>out e
 | .cond c a b,out=>tmpsOf [c] (unionN (live a out) (live b out))
 | .block id a,out=>live a fun
  | .exit i=>bif Nat.beq i id then out .normal else out (.exit i)
  |e=>out e
 | .loop a,out=>live a fun
  | .normal=>[]
  |e=>out e
 | .scope a,out=>live a out
 | .exit id,out=>out (.exit id)
 | .ret,out=>out .ret
 |_,_=>[]
def exIn (e:Ex) (l:List Ex):Bool:=l.any (Ex.beq e)
def exAdd (l:List Ex):List Ex→List Ex
 |[]=>l
 |e::r=>exAdd (bif exIn e l then l else l++[e]) r
def exDrop (e:Ex) (l:List Ex):List Ex:=l.filter fun x=>!Ex.beq e x
def exits:Code→List Ex
 | .skip| .region _ _ _| .label _=>[.normal]
 | .seq a b=>bif exIn .normal (exits a) then exAdd (exDrop .normal (exits a)) (exits b) else exits a
 | .cond _ a b=>exAdd (exits a) (exits b)
 | .block id a=>bif exIn (.exit id) (exits a) then exAdd (exDrop (.exit id) (exits a)) [.normal] else exits a
 | .loop a=>exDrop .normal (exits a)
 | .scope a=>exits a
 | .exit id=>[.exit id]
 | .ret=>[.ret]
 |_=>[]
def tS:List Value→List Nat→List Value→List Value
 |fr,w::ws,v::vs=>tS (kO fr w v) ws vs
 |fr,_,_=>fr
def poison:List Value→List Nat→List Value
 |fr,[]=>fr
 |fr,w::ws=>poison (kO fr w top) ws
def zP (ex:Ex) (f:Ex→Pg):List Ex→Pg
 |[]=>.fail
 |e::r=>bif Ex.beq ex e then f e else zP ex f r
def isLoop:Code→Bool
 | .loop _=>true
 |_=>false
def carried (fast:Bool) (c:Code) (out:Ex→List Nat):List Nat:=
 bif fast then [] else (written c []).filter fun x=>(exits c).any fun e=>sN x (out e)
def tP (fast:Bool) (a:Code) (out:Ex→List Nat):List Nat:=
 bif fast then [] else
  let l:=live (.loop a) out
  (written a []).filter fun x=>sN x l||(exits (.loop a)).any fun e=>sN x (out e)
def pack (fast:Bool) (ws:List Nat) (fr:List Value):List Value:=bif fast then fr else ws.map (getD fr)
def tyOps (t:Nat):List Oper→Option RT
 |[]=>none
 |o::r=>bif vG Nat.beq o.dst (some t) then some (wd P o) else tyOps t r
def tyIn (t:Nat):Code→Option RT
 | .region _ ops _=>tyOps P t ops.toList
 | .seq a b| .cond _ a b=>match tyIn t a with
  |some x=>some x
  |none=>tyIn t b
 | .block _ a| .loop a| .scope a=>tyIn t a
 |_=>none
def tysOf (c:Code) (ws:List Nat):List RT:=ws.map fun t=>(tyIn P t c).getD (.ty 0)
def unpack (fast:Bool) (c:Code) (ws:List Nat) (fr st:List Value):List Value:=bif fast then st else tS (poison fr (written c [])) ws st
def lU (fast:Bool) (c:Code) (ws:List Nat) (fr st:List Value) (k:List Value→Pg):Pg:=
 bif fast then k st else ue P (tysOf P c ws) st fun vs=>k (unpack false c ws fr vs)
def parts (ops:Array Oper) (draw:Bool):Bool:=ops.toList.any fun o=>o.guard.isSome&&(draw||!simpleOp o)
def exK (fast:Bool) (c:Code) (ex:Ex) (f:Ex→Pg):Pg:=bif fast then f ex else zP ex f (exits c)
noncomputable def comp (fast:Bool):Code→(Ex→List Nat)→List Value→(Ex→List Value→Pg)→Pg
 | .skip,_,fr,k| .label _,_,fr,k=>k .normal fr
 | .region id ops draw,out,fr,k=>
  bif !fast&&parts ops draw then
   let ws:=carried fast (.region id ops draw) out
   .join (pR P ops draw fr fun fr=>.ret .normal (pack fast ws fr))
    fun ex st=>exK fast (.region id ops draw) ex fun ex=>lU P fast (.region id ops draw) ws fr st fun fr=>k ex fr
  else pR P ops draw fr fun fr=>k .normal fr
 | .seq a b,out,fr,k=>comp fast a (fun
   | .normal=>live b out
   |e=>out e) fr fun ex fr=>match ex with
  | .normal=>comp fast b out fr k
  |ex=>k ex fr
 | .cond c a b,out,fr,k=>match ev P fr c with
  | .bool t=>
   bif !fast&&exIn .normal (exits a)&&exIn .normal (exits b) then
    let ws:=carried fast (.cond c a b) out
    .join (bif t then comp fast a out fr fun ex fr=>.ret ex (pack fast ws fr) else comp fast b out fr fun ex fr=>.ret ex (pack fast ws fr))
     fun ex st=>exK fast (.cond c a b) ex fun ex=>lU P fast (.cond c a b) ws fr st fun fr=>k ex fr
   else bif t then comp fast a out fr k else comp fast b out fr k
  |_=>.fail
 | .block id a,out,fr,k=>
  let out':Ex→List Nat:=fun
   | .exit i=>bif Nat.beq i id then out .normal else out (.exit i)
   |e=>out e
  bif fast||isLoop a then
   comp fast a out' fr fun ex fr=>match ex with
    | .exit i=>bif Nat.beq i id then k .normal fr else k (.exit i) fr
    |ex=>k ex fr
  else
   let ws:=carried fast (.block id a) out
   .join (comp fast a out' fr fun ex fr=>match ex with
    | .exit i=>bif Nat.beq i id then .ret .normal (pack fast ws fr) else .ret (.exit i) (pack fast ws fr)
    |ex=>.ret ex (pack fast ws fr))
    fun ex st=>exK fast (.block id a) ex fun ex=>lU P fast (.block id a) ws fr st fun fr=>k ex fr
 | .loop a,out,fr,k=>
  let ws:=tP fast a out
  .loop (pack fast ws fr) (fun st=>lU P fast (.loop a) ws fr st fun fr=>comp fast a (fun
    | .normal=>live (.loop a) out
    |e=>out e) fr fun ex fr=>.ret ex (pack fast ws fr))
   fun ex st=>exK fast (.loop a) ex fun ex=>lU P fast (.loop a) ws fr st fun fr=>k ex fr
 | .scope a,out,fr,k=>comp fast a out fr k
 | .exit id,_,fr,k=>k (.exit id) fr
 | .ret,_,fr,k=>k .ret fr
 |_,_,_,_=>.fail
def resSlots:List ResultVar→List Nat
 |[]=>[]
 | .tmp t::r| .cell t _::r=>t::resSlots r
def retP:List ResultVar→List Value→List Value→Pg
 |[],_,vs=>.ret .ret [match vs with
  |[v]=>v
  |vs=>.tuple vs.toArray]
 | .tmp t::r,fr,vs=>retP r fr (vs++[getD fr t])
 | .cell a t::r,fr,vs=>match getD fr a with
  | .pointer a=>aF a fun a=>.act (ldAt P t a) fun v=>retP r fr (vs++[v])
  |_=>.fail
noncomputable def aH (fast:Bool) (f:FuncId) (args:List Value):Pg:=
 match P.funcs[f]? with
 |none=>.fail
 |some fn=>match fn.body with
  |none=>.fail
  |some c=>comp P fast c (fun _=>resSlots fn.results.toList) (args++List.replicate (fn.ntmps - args.length) undef') fun ex fr=>match ex with
   | .normal| .ret=>retP P fn.results.toList fr []
   | .exit _=>.fail
abbrev Ov:=FuncId→Option (List Value→aB→Option (Value × aB))
noncomputable def jR (ov:Ov) (fast:Bool):Nat→gB
 |0,_,_,_=>none
 |n+1,f,args,σ=>match ov f with
  |some g=>g args σ
  |none=>match exec (jR ov fast n) n (aH P fast f args) σ with
   |some ((_,[v]),σ')=>some (v,σ')
   |_=>none
end
end Go.Pg
namespace Go.Pg
abbrev wi32 (n:Int):Int:=IntKind.i32.wrap n
abbrev aT (n:Int):Int:=IntKind.i64.wrap n
abbrev wu8 (n:Int):Int:=IntKind.u8.wrap n
abbrev rP (n:Int):Int:=IntKind.u64.wrap n
def shlI (k:IntKind) (a b:Int):Int:=k.wrap (a*2 ^ (min b.toNat k.bits))
def shrI (k:IntKind) (a b:Int):Int:=a.fdiv (2 ^ (min b.toNat k.bits))
def bs (l:List UInt8):ByteArray:=⟨l.toArray⟩
def ld1 (a:Addr):Act:=fun σ=>match σ.rdN a 1 with
 |some (v::_)=>some (v,σ)
 |_=>none
def ldN (k:Nat) (a:Addr):Act:=fun σ=>match σ.rdN a k with
 |some cs=>some (.agg cs.toArray,σ)
 |none=>none
def stC (a:Addr) (vs:List Value):Act:=fun σ=>match σ.wrN a vs with
 |some σ'=>some (.tuple #[],σ')
 |none=>none
def newC (vs:List Value):Act:=fun σ=>some (.pointer (some (σ.here 0)),σ.newBlk vs 0)
def wN (esz len:Nat) (cells:List Value):Act:=fun σ=>some (.slice (some (σ.here esz)) len len,σ.newBlk cells esz)
def apS (esz byt:Nat) (base:Option Addr) (len cap:Nat) (a:Option Addr) (n c:Nat):Act:=fun σ=>
 match dP esz n σ (.slice a n c) with
 |some xs=>gE esz byt base len cap n xs σ
 |none=>none
def lkp (kd:TypeDesc) (z:Value) (r:Option Nat) (k:Value) (ok:Bool):Act:=fun σ=>
 match (match r with
  |none=>some (some none)
  |some r=>(σ.getMap r).map (dH kd k)) with
 |some (some (some v))=>some (bif ok then .tuple #[v,.bool true] else v,σ)
 |some (some none)=>some (bif ok then .tuple #[z,.bool false] else z,σ)
 |_=>none
def mup (kd:TypeDesc) (r:Option Nat) (k v:Value):Act:=fun σ=>
 match r with
 |some r=>match σ.getMapW r with
  |some es=>match gT kd k v es with
   |some es'=>some (.tuple #[],σ.put r (.map es'))
   |none=>none
  |none=>none
 |none=>none
def rng (s:ByteArray):Act:=fun σ=>some (.pointer (some (σ.here 0)),σ.push (.iter s 0))
def nxt (a:Option Addr):Act:=pX (.pointer a) true
def qk (v:Value) (f:Int→Int→Pg) (p:Pg):Pg:=cA v fun l=>aM l fun c r=>eU c fun b=>bif b then
  (aM r fun x r=>asInt .i64 x fun n=>aM r fun y r=>asInt .i32 y fun m=>aA r (f n m))
 else aA r p
def sw (ex e:Ex) (p q:Pg):Pg:=bif Ex.beq ex e then p else q
end Go.Pg
namespace Go.Pg
section
variable {P:Program} {cf:gB} {N:Nat}
theorem eZ {c:Bool} {x:Pg} {σ:aB} {r:(Ex × List Value) × aB} (h:exec cf N (bif c then x else .fail) σ=some r):c=true∧exec cf N x σ=some r:=by
 cases c with
 |true=>exact ⟨rfl,h⟩
 |false=>cases h
theorem hZ {l:List Value} {f:Value→List Value→Pg} {σ:aB} {r:(Ex × List Value) × aB} (h:exec cf N (aM l f) σ=some r):∃ c m,l=c::m∧exec cf N (f c m) σ=some r:=by
 cases l with
 |nil=>cases h
 |cons c m=>exact ⟨c,m,rfl,h⟩
theorem lO {l:List Value} {p:Pg} {σ:aB} {r:(Ex × List Value) × aB} (h:exec cf N (aA l p) σ=some r):l=[]∧exec cf N p σ=some r:=by
 cases l with
 |nil=>exact ⟨rfl,h⟩
 |cons c m=>cases h
theorem wJ {t:TypeId} {v:Value} {k:Value→Pg} {σ:aB} {r:(Ex × List Value) × aB} (h:exec cf N (qo P t v k) σ=some r):exec cf N (k v) σ=some r:=by
 unfold qo at h
 split at h
 ·unfold asInt at h
  split at h
  ·obtain ⟨h1,h2⟩:=eZ h
   have:=of_decide_eq_true h1
   subst this
   exact h2
  ·cases h
 ·unfold eU at h
  split at h
  ·exact h
  ·cases h
 ·unfold jX at h
  split at h
  ·exact h
  ·cases h
 ·unfold aK at h
  split at h
  ·exact h
  ·cases h
 ·unfold aN at h
  split at h
  ·exact h
  ·cases h
 ·unfold zn at h
  split at h
  ·exact h
  ·cases h
 ·exact h
theorem tA:∀ (ts:List TypeId) (l:List Value) (k:List Value→Pg) {σ:aB} {r:(Ex × List Value) × aB},exec cf N (pU P ts l k) σ=some r→exec cf N (k l) σ=some r
 |[],l,k,σ,r,h=>by
  obtain ⟨rfl,h⟩:=lO h
  exact h
 |t::ts,l,k,σ,r,h=>by
  obtain ⟨c,m,rfl,h⟩:=hZ h
  exact tA ts m (fun r'=>k (c::r')) (wJ (k:=fun c'=>pU P ts m fun r'=>k (c'::r')) h)
theorem wK {t:TypeId} {v:Value} {k:Value→Pg} {σ:aB} {r:(Ex × List Value) × aB} (h:exec cf N (typed1 P t v k) σ=some r):exec cf N (k v) σ=some r:=by
 have agg:∀ {v},exec cf N (asAgg v fun l=>pU P (sR P 8 t) l fun cs=>k (.agg cs.toArray)) σ=some r→exec cf N (k v) σ=some r:=by
  intro v h
  unfold asAgg at h
  split at h
  ·have:=tA _ _ _ h
   simpa using this
  ·cases h
 unfold typed1 at h
 split at h
 ·exact agg h
 ·rename_i m _ _
  cases hm:Nat.blt 64 m with
  |true=>
   rw [hm] at h
   exact h
  |false=>
   rw [hm] at h
   exact agg h
 ·exact wJ h
theorem vO:∀ (ts:List TypeId) (l:List Value) (k:List Value→Pg) {σ:aB} {r:(Ex × List Value) × aB},exec cf N (vy P ts l k) σ=some r→exec cf N (k l) σ=some r
 |[],l,k,σ,r,h=>by
  obtain ⟨rfl,h⟩:=lO h
  exact h
 |t::ts,l,k,σ,r,h=>by
  obtain ⟨c,m,rfl,h⟩:=hZ h
  exact vO ts m (fun r'=>k (c::r')) (wK (k:=fun c'=>vy P ts m fun r'=>k (c'::r')) h)
theorem typed_exec {t:TypeId} {v:Value} {k:Value→Pg} {σ:aB} {r:(Ex × List Value) × aB} (h:exec cf N (typed P t v k) σ=some r):exec cf N (k v) σ=some r:=by
 unfold typed at h
 split at h
 ·unfold cA at h
  split at h
  ·have:=vO _ _ _ h
   simpa using this
  ·cases h
 ·exact wK h
theorem yA {kd:IntKind} {v:Value} {f:Int→Pg} {σ:aB} {r:(Ex × List Value) × aB} (h:exec cf N (asInt kd v f) σ=some r):∃ n,v=.int kd n∧exec cf N (f n) σ=some r:=by
 unfold asInt at h
 split at h
 ·obtain ⟨h1,h2⟩:=eZ h
  have:=of_decide_eq_true h1
  subst this
  exact ⟨_,rfl,h2⟩
 ·cases h
theorem asNext_exec {v:Value} {k:Value→Pg} {σ:aB} {r:(Ex × List Value) × aB} (h:exec cf N (asNext v k) σ=some r):exec cf N (k v) σ=some r:=by
 unfold asNext cA at h
 split at h
 ·rename_i cs
  obtain ⟨c,m,hcs,h⟩:=hZ h
  have hcs':cs=(c::m).toArray:=by rw [←hcs]
  unfold eU at h
  split at h
  ·rename_i b
   cases b with
   |true=>
    simp only [cond_true] at h
    obtain ⟨x,m1,e1,h1⟩:=hZ h
    obtain ⟨n,e2,h2⟩:=yA (kd:=.i64) (v:=x) h1
    obtain ⟨y,m2,e3,h3⟩:=hZ (l:=m1) h2
    obtain ⟨n2,e4,h4⟩:=yA (kd:=.i32) (v:=y) h3
    obtain ⟨e5,h5⟩:=lO (l:=m2) h4
    subst e5 e4 e3 e2 e1
    rw [hcs']
    exact h5
   |false=>
    simp only [cond_false] at h
    obtain ⟨rfl,h⟩:=lO h
    rw [hcs']
    exact h
  ·cases h
 ·cases h
theorem fN {t:RT} {v:Value} {k:Value→Pg} {σ:aB} {r:(Ex × List Value) × aB} (h:exec cf N (iU P t v k) σ=some r):exec cf N (k v) σ=some r:=by
 unfold iU at h
 split at h
 ·unfold aK at h
  split at h
  ·simp only [aF] at h
   split at h
   ·exact h
   ·cases h
  ·cases h
 ·exact asNext_exec h
 ·exact typed_exec h
theorem vY:∀ (ts:List RT) (l:List Value) (k:List Value→Pg) {σ:aB} {r:(Ex × List Value) × aB},exec cf N (ue P ts l k) σ=some r→exec cf N (k l) σ=some r
 |[],l,k,σ,r,h=>by
  obtain ⟨rfl,h⟩:=lO h
  exact h
 |t::ts,l,k,σ,r,h=>by
  obtain ⟨c,m,rfl,h⟩:=hZ h
  exact vY ts m (fun r'=>k (c::r')) (fN (k:=fun c'=>ue P ts m fun r'=>k (c'::r')) h)
def zR (P:Program) (W0:World) (cf:gB):Prop:=
 ∀ f args σ v σ',cf f args σ=some (v,σ')→∀ (ι:Inj) (W:World) (args':Array Value),Rel ι W0 σ W→VRL ι W0.heap.size args args'.toList→
  (callFunc f args').run P W=.ok (.enter f args') W∧Calls P f args' W fun e w'=>∃ v' κ,e=.returned v'∧ι.le κ∧VR κ W0.heap.size v v'∧Rel κ W0 σ' w'
variable {ι:Inj} {W0 W:World} {σ:aB} {res:(Ex × List Value) × aB}
theorem gX (a:Go.Act) (d:Option Tmp) (v:Value):(a.put d v).defers=a.defers:=by cases d<;>rfl
theorem op_step {o:Oper} {fr:List Value} {a:Go.Act} {next:Go.Act→World→Prop} {Q:Exit→Go.Act→World→Prop} {v:Value} {σ':aB} (hG:P.globals.size≤W0.heap.size) (hcf:zR P W0 cf) (R:Rel ι W0 σ W) (r:FR ι W0.heap.size fr a.tmps)
  (h:(σ'=σ∧(bE P o fr=.tot v∨bE P o fr=.pure true v))∨(∃ h,bE P o fr=.act h∧h σ=some (v,σ'))∨(∃ f args,bE P o fr=.call f args∧cf f args σ=some (v,σ')))
  (hn:∀ κ a1 W1,ι.le κ→Rel κ W0 σ' W1→FR κ W0.heap.size (dQ fr o.dst v) a1.tmps→a1.defers=a.defers→next a1 W1):o.wp P a W next Q:=by
 unfold Oper.wp
 rcases h with ⟨rfl,h⟩|⟨g,h1,h2⟩|⟨f,args,h1,h2⟩
 ·obtain ⟨v',hv,hrun⟩:=wu (W:=W) hG r h
  rw [hrun,Oper.upon_value]
  exact hn ι _ _ ι.le_refl R (r.put o.dst hv) (gX _ _ _)
 ·obtain ⟨κ,W',nx,v',hle,R',hrun,ho,hv⟩:=op_act hG R r h1 h2
  rw [hrun]
  cases nx with
  |value x=>
   simp only [outV,Option.some.injEq] at ho
   subst ho
   rw [Oper.upon_value]
   exact hn κ _ _ hle R' ((r.mono hle).put o.dst hv) (gX _ _ _)
  |skip=>
   simp only [outV,Option.some.injEq] at ho
   subst ho
   rw [Oper.upon_skip]
   exact hn κ _ _ hle R' ((r.mono hle).put o.dst hv) (gX _ _ _)
  |_=>simp [outV] at ho
 ·obtain ⟨args',hA,hrun⟩:=op_call (W:=W) hG r h1
  obtain ⟨hc,hcalls⟩:=hcf f args σ v σ' h2 ι W args' R hA
  rw [hrun,hc,Oper.upon_enter]
  refine hcalls.mono fun e w' he=>?_
  obtain ⟨v',κ,rfl,hle,hv,R'⟩:=he
  exact hn κ _ _ hle R' ((r.mono hle).put o.dst hv) (gX _ _ _)
theorem sS {o:Oper} {fr:List Value} {k:iF→Pg} {σ:aB} {res:(Ex × List Value) × aB} (h:exec cf N (xH P o fr k) σ=some res):exec cf N (k (bE P o fr)) σ=some res:=by
 unfold xH at h
 split at h
 ·rename_i c hop
  unfold bE
  rw [hop]
  simp only
  split at h
  ·rename_i a ha
   rw [ha]
   unfold aF at h
   split at h
   ·exact h
   ·cases h
  ·rename_i ha
   rw [ha]
   exact h
  ·cases h
 ·rename_i t x i hop
  unfold bE
  rw [hop]
  simp only
  split at h
  ·rename_i a n c ha
   rw [ha]
   unfold aF at h
   split at h
   ·exact h
   ·cases h
  ·exact h
 ·rename_i c hop
  split at h
  ·rename_i f hf
   split at h
   ·rename_i g hg
    unfold bE
    rw [hop]
    simp only [hf,hg]
    exact h
   ·rename_i hg
    unfold nD at h
    split at h
    ·rename_i g x y hv
     unfold bE
     rw [hop]
     simp only [hf,hg,callV,hv]
     exact h
    ·cases h
  ·exact h
 ·exact h
theorem compOp_exec {x:IOp} {fr:List Value} {k:List Value→Pg}
  (h:exec cf N (yK P x fr k) σ=some res):
  ∃ v σ',((σ'=σ∧(bE P x.2 fr=.tot v∨bE P x.2 fr=.pure true v))∨(∃ h,bE P x.2 fr=.act h∧h σ=some (v,σ'))∨(∃ f args,bE P x.2 fr=.call f args∧cf f args σ=some (v,σ')))∧
   exec cf N (k (dQ fr x.2.dst v)) σ'=some res:=by
 unfold yK at h
 have h:=sS h
 split at h
 ·cases h
 ·rename_i v hv
  exact ⟨v,σ,.inl ⟨rfl,.inl hv⟩,h⟩
 ·rename_i c v hv
  obtain ⟨rfl,h2⟩:=eZ h
  exact ⟨v,σ,.inl ⟨rfl,.inr hv⟩,h2⟩
 ·rename_i g hg
  simp only [exec] at h
  split at h
  ·rename_i v σ' hgs
   exact ⟨v,σ',.inr (.inl ⟨g,hg,hgs⟩),fN (k:=fun v'=>k (dQ fr x.2.dst v')) h⟩
  ·cases h
 ·rename_i f args hg
  simp only [exec] at h
  split at h
  ·rename_i v σ' hgs
   exact ⟨v,σ',.inr (.inr ⟨f,args,hg,hgs⟩),fN (k:=fun v'=>k (dQ fr x.2.dst v')) h⟩
  ·cases h
end
end Go.Pg
namespace Go.Pg
section
variable {P:Program} {cf:gB} {N:Nat} {ι:Inj} {W0 W:World} {σ:aB} {res:(Ex × List Value) × aB} {ops:Array Oper}
theorem getD_of {ts:Array Value} {d:Nat} {v:Value} (h:ts.getD d Go.undef=v) (hv:v≠Go.undef):ts[d]?=some v:=by
 rw [Array.getD_eq_getD_getElem?] at h
 cases hd:ts[d]? with
 |none=>rw [hd] at h;simp at h;exact absurd h.symm hv
 |some x=>rw [hd] at h;simp at h;rw [h]
theorem kP {fr:List Value} {ts:Array Value} {j d:Nat} {b:Bool} (r:FR ι W0.heap.size fr ts) (hs:cU ops j=some d) (hb:getD fr d=.bool b):yielded ops ts j=some b:=by
 have:=r.2 d
 rw [hb] at this
 have h2:=getD_of this.bool_inv nofun
 unfold yielded
 unfold cU at hs
 rw [hs]
 simp only [Option.bind_some,h2]
theorem vT {fr:List Value} {ts:Array Value} {j d:Nat} {t:Array Value} (r:FR ι W0.heap.size fr ts) (hs:cU ops j=some d) (hb:getD fr d=.tuple t):yielded ops ts j=none:=by
 have:=r.2 d
 rw [hb] at this
 obtain ⟨t',h1,_⟩:=this.tuple_inv
 unfold yielded
 unfold cU at hs
 rw [hs]
 simp only [Option.bind_some]
 rw [Array.getD_eq_getD_getElem?] at h1
 cases hd:ts[d]? with
 |none=>rfl
 |some x=>rw [hd] at h1;simp at h1;rw [h1]
theorem yield_put {a:Go.Act} {o:Oper} {v:Value} {j d:Nat} (hs:cU ops j=some d) (hd:vW d o=true):yielded ops (a.put o.dst v).tmps j=yielded ops a.tmps j:=by
 unfold yielded
 unfold cU at hs
 rw [hs]
 simp only [Option.bind_some]
 cases ho:o.dst with
 |none=>rfl
 |some e=>
  unfold vW at hd
  rw [ho] at hd
  have hne:e≠d:=by
   intro he
   subst he
   simp at hd
  have:(a.put (some e) v).tmps[d]?=a.tmps[d]?:=by
   show (a.tmps.setIfInBounds e v)[d]?=_
   rw [Array.getElem?_setIfInBounds,if_neg hne]
  rw [this]
theorem vM {a:Go.Act} {o:Oper} {j d:Nat} (hs:cU ops j=some d) (h:o.dst=some d∨yielded ops a.tmps j=none):yielded ops (a.put o.dst Go.undef).tmps j=none:=by
 unfold yielded at h ⊢
 unfold cU at hs
 rw [hs] at h ⊢
 simp only [Option.bind_some] at h ⊢
 cases ho:o.dst with
 |none=>
  rw [ho] at h
  rcases h with h|h
  ·cases h
  ·exact h
 |some e=>
  show (match (a.tmps.setIfInBounds e Go.undef)[d]? with|some (.bool b)=>some b|_=>none)=none
  rw [Array.getElem?_setIfInBounds]
  by_cases he:e=d
  ·rw [if_pos he]
   split
   ·rename_i b hb
    split at hb
    ·simp [Go.undef] at hb
    ·cases hb
   ·rfl
  ·rw [if_neg he]
   rw [ho] at h
   rcases h with h|h
   ·simp at h;exact absurd h he
   ·exact h
def IX (ops:Array Oper) (xs:List IOp):Prop:=∀ x∈xs,ops[x.1]?=some x.2
theorem yW {Q:Exit→Go.Act→World→Prop} {i:Nat} {o:Oper} {rest:List Nat} {a:Go.Act} (ho:ops[i]?=some o) (hw:Region.wanted o (yielded ops a.tmps)=true) (h:o.wp P a W (wpOps P ops Q rest) Q):wpOps P ops Q (i::rest) a W:=by
 simp only [wpOps,ho,hw,if_true]
 exact .inl h
theorem zG {Q:Exit→Go.Act→World→Prop} {i:Nat} {o:Oper} {rest:List Nat} {a:Go.Act} (ho:ops[i]?=some o) (hw:Region.wanted o (yielded ops a.tmps)=false) (h:wpOps P ops Q rest (a.put o.dst Go.undef) W):wpOps P ops Q (i::rest) a W:=by
 simp only [wpOps,ho,hw,Bool.false_eq_true,if_false]
 exact h
theorem pH {o:Oper} {y:Nat→Option Bool} (h:o.guard=none):Region.wanted o y=true:=by unfold Region.wanted;rw [h]
theorem dZ {o:Oper} {y:Nat→Option Bool} {j:Nat} {w:Bool} (h:o.guard=some (j,w)):Region.wanted o y=(y j==some w):=by unfold Region.wanted;rw [h]
theorem vE {g:Nat × Bool} {h:Option (Nat × Bool)} (e:vt g h=true):h=some g:=by
 unfold vt at e
 split at e
 ·simp only [Bool.and_eq_true,Nat.beq_eq,beq_iff_eq] at e
  rw [show g=(g.1,g.2) from rfl,e.1,e.2]
 ·cases e
theorem FR.undefPut {fr:List Value} {a:Go.Act} (r:FR ι W0.heap.size fr a.tmps) (d:Option Tmp):FR ι W0.heap.size (dQ fr d undef') (a.put d Go.undef).tmps:=r.put d VR.undef
theorem FR.topPut {fr:List Value} {a:Go.Act} (r:FR ι W0.heap.size fr a.tmps) (d:Option Tmp) (v:Value):FR ι W0.heap.size (dQ fr d top) (a.put d v).tmps:=r.put d (.top v)
structure gO (ops:Array Oper) (ι:Inj) (B:Nat) (run:List IOp) (a a':Go.Act):Prop where
 defers:a'.defers=a.defers
 yields:∀ j e,cU ops j=some e→(run.all fun y=>vW e y.2)=true→yielded ops a'.tmps j=yielded ops a.tmps j
 frame:∀ fr,FR ι B fr a.tmps→FR ι B (poisonOps fr run) a'.tmps
theorem gO.refl {a:Go.Act}:gO ops ι W0.heap.size [] a a:=⟨rfl,fun _ _ _ _=>rfl,fun _ r=>r⟩
theorem yk (fr:List Value) (l m:List IOp):poisonOps fr (l++m)=poisonOps (poisonOps fr l) m:=by
 induction l generalizing fr with
 |nil=>rfl
 |cons x l ih=>exact ih _
theorem gO.trans {l m:List IOp} {a b c:Go.Act} (h:gO ops ι W0.heap.size l a b) (k:gO ops ι W0.heap.size m b c):gO ops ι W0.heap.size (l++m) a c:=
 ⟨k.defers.trans h.defers,fun j e hs hall=>by
  simp only [List.all_append,Bool.and_eq_true] at hall
  rw [k.yields j e hs hall.2,h.yields j e hs hall.1],fun fr r=>by rw [yk];exact k.frame _ (h.frame fr r)⟩
theorem gO.one {y:IOp} {a:Go.Act} (v:Value):gO ops ι W0.heap.size [y] a (a.put y.2.dst v):=
 ⟨gX _ _ _,fun j e hs hall=>by
  simp only [List.all_cons,List.all_nil,Bool.and_true] at hall
  exact yield_put hs hall,fun fr r=>r.topPut _ _⟩
theorem skip_run {Q:Exit→Go.Act→World→Prop} {i:Nat} {g:Nat × Bool} {d:Nat} (hd:cU ops g.1=some d):∀ (todo:List IOp) (m:Nat) (a:Go.Act) (rest:List Nat),
  IX ops todo→(∀ (t:Nat) y,todo[t]?=some y→y.1=m+t)→i≤m→(todo.all fun y=>vW d y.2)=true→(∀ y∈todo,within i g y=true)→yielded ops a.tmps g.1≠some g.2→
  (∀ q,i≤q→q<m→∀ e,cU ops q=some e→yielded ops a.tmps q=none)→
  (∀ a',gO ops ι W0.heap.size todo a a'→wpOps P ops Q rest a' W)→
  wpOps P ops Q (todo.map (·.1)++rest) a W
 |[],m,a,rest,_,_,_,_,_,_,_,hn=>hn a gO.refl
 |y::todo,m,a,rest,hix,hc,hi,hne,hw,hy,hq,hn=>by
  have hyi:=hix y (by simp)
  have hym:y.1=m:=hc 0 y rfl
  simp only [List.all_cons,Bool.and_eq_true] at hne
  have hnone0:∀ q,cU ops q=none→yielded ops a.tmps q=none:=by
   intro q hs
   unfold yielded
   unfold cU at hs
   rw [hs]
   try rfl
  have hwant:Region.wanted y.2 (yielded ops a.tmps)=false:=by
   have hwy:=hw y (by simp)
   unfold within at hwy
   simp only [Bool.or_eq_true] at hwy
   rcases hwy with h|h
   ·rw [dZ (show y.2.guard=some (g.1,g.2) from vE h)]
    simpa using hy
   ·split at h
    ·rename_i j w hg
     simp only [Bool.and_eq_true,Nat.ble_eq,Nat.blt] at h
     rw [dZ hg]
     have hnone:yielded ops a.tmps j=none:=by
      cases hs:cU ops j with
      |none=>exact hnone0 j hs
      |some e=>exact hq j h.1 (by omega) e hs
     rw [hnone]
     try rfl
    ·cases h
  refine zG hyi hwant ?_
  have hk1:gO ops ι W0.heap.size [y] a (a.put y.2.dst Go.undef):=gO.one _
  refine skip_run hd todo (m+1) _ rest (fun z hz=>hix z (by simp [hz])) (fun t z hz=>by have:=hc (t+1) z (by simpa using hz);omega) (by omega) hne.2 (fun z hz=>hw z (by simp [hz]))
   (by rw [hk1.yields _ _ hd (by simp [hne.1])];exact hy) ?_ fun a' hk=>hn a' (hk1.trans hk)
  intro q h1 h2 e he
  by_cases hqm:q=m
  ·refine vM he (.inl ?_)
   subst hqm
   unfold cU at he
   rw [←hym,hyi] at he
   exact he
  ·exact vM he (.inr (hq q h1 (by omega) e he))
end
end Go.Pg
namespace Go.Pg
section
variable {P:Program} {cf:gB} {N:Nat} {ι:Inj} {W0 W:World} {σ:aB} {res:(Ex × List Value) × aB} {ops:Array Oper}
theorem vB (p:IOp→Bool):∀ l:List IOp,l=(wC p l).1++(wC p l).2∧∀ y∈(wC p l).1,p y=true
 |[]=>⟨rfl,fun y h=>by cases h⟩
 |x::l=>by
  obtain ⟨h1,h2⟩:=vB p l
  unfold wC
  cases hp:p x with
  |true=>
   simp only [cond_true]
   refine ⟨by rw [List.cons_append,←h1],fun y hy=>?_⟩
   rcases List.mem_cons.1 hy with rfl|hy
   ·exact hp
   ·exact h2 y hy
  |false=>simp only [cond_false];exact ⟨rfl,fun y h=>by cases h⟩
def gS (xs:List IOp) (m:Nat):Prop:=∀ (t:Nat) y,xs[t]?=some y→y.1=m+t
theorem gS.tail {x:IOp} {xs:List IOp} {m:Nat} (h:gS (x::xs) m):gS xs (m+1):=fun t y hy=>by have:=h (t+1) y (by simpa using hy);omega
theorem gS.left {xs ys:List IOp} {m:Nat} (h:gS (xs++ys) m):gS xs m:=fun t y hy=>h t y (by rw [List.getElem?_append_left (List.getElem?_eq_some_iff.1 hy).1];exact hy)
theorem gS.right {xs ys:List IOp} {m:Nat} (h:gS (xs++ys) m):gS ys (m+xs.length):=fun t y hy=>by
 have:=h (xs.length+t) y (by rw [List.getElem?_append_right (by omega)];simpa using hy)
 omega
theorem pick_wp {p:Oper} {a:Go.Act} {next:Go.Act→World→Prop} {Q:Exit→Go.Act→World→Prop} {d:Nat} {x y:Operand} {t:Bool} (hop:p.op=.pick (.tmp d) x y) (hd:a.tmps[d]?=some (.bool t)) (h:next (a.put p.dst (if t then a.eval x else a.eval y)) W):p.wp P a W next Q:=by
 unfold Oper.wp execOp
 rw [hop]
 have:a.eval (.tmp d)=.bool t:=by
  show a.tmps.getD d Go.undef=_
  rw [Array.getD_eq_getD_getElem?,hd]
  try rfl
 simp only [this]
 exact h
theorem yield_slot {ts:Array Value} {j d:Nat} {b:Bool} (hs:cU ops j=some d) (h:yielded ops ts j=some b):ts[d]?=some (.bool b):=by
 unfold yielded at h
 unfold cU at hs
 rw [hs] at h
 simp only [Option.bind_some] at h
 split at h
 ·rename_i b' hb
  cases h
  exact hb
 ·cases h
theorem wF {Q:Exit→Go.Act→World→Prop} {i j d:Nat} {b w:Bool} {run:List IOp} {p:IOp} {fr fr1:List Value} {v:Value} {a:Go.Act} {rest:List Nat} (hix:IX ops (run++[p])) (hc:gS (run++[p]) i) (hd:cU ops j=some d)
  (hw:∀ y∈run,within i (j,w) y=true) (hne:(run.all fun y=>vW d y.2)=true) (hy:yielded ops a.tmps j=some b) (hp:tV ops j p.2=true) (hv:pickB P b w p.2 fr1=some v)
  (hG:P.globals.size≤W0.heap.size) (r:FR ι W0.heap.size fr a.tmps) (hwant:∀ a':Go.Act,gO ops ι W0.heap.size run a a'→Region.wanted p.2 (yielded ops a'.tmps)=true)
  (hrun:b=w→∀ K:List Nat,(∀ a',FR ι W0.heap.size fr1 a'.tmps→gO ops ι W0.heap.size run a a'→wpOps P ops Q K a' W)→wpOps P ops Q (run.map (·.1)++K) a W)
  (hn:∀ a',FR ι W0.heap.size (dQ (poisonOps fr run) p.2.dst v) a'.tmps→gO ops ι W0.heap.size (run++[p]) a a'→wpOps P ops Q rest a' W):
  wpOps P ops Q ((run++[p]).map (·.1)++rest) a W:=by
 have hpi:=hix p (by simp)
 have fin:∀ a':Go.Act,gO ops ι W0.heap.size run a a'→(b=w→FR ι W0.heap.size fr1 a'.tmps)→wpOps P ops Q (p.1::rest) a' W:=by
  intro a' hk hfr1
  have hyb:a'.tmps[d]?=some (.bool b):=yield_slot hd (by rw [hk.yields j d hd hne];exact hy)
  refine yW hpi (hwant a' hk) ?_
  have done:∀ u,VR ι W0.heap.size v u→wpOps P ops Q rest (a'.put p.2.dst u) W:=fun u hu=>
   hn _ ((hk.frame fr r).put _ hu) (hk.trans (gO.one u))
  unfold tV at hp
  split at hp
  ·rename_i c x y d' hop hs
   rw [hd] at hs
   cases hs
   simp only [Nat.beq_eq] at hp
   subst hp
   refine pick_wp hop hyb (done _ ?_)
   unfold pickB at hv
   rw [hop] at hv
   split at hv
   ·rename_i heq
    cases heq
    split at hv
    ·rename_i xb hx
     cases hv
     cases b with
     |true=>
      have:=gI (P:=P) hG (hfr1 rfl) x
      rw [hx] at this
      simpa using this
     |false=>exact .bool _
    ·cases hv
   ·rename_i heq
    cases heq
    split at hv
    ·rename_i xb hx
     cases hv
     cases b with
     |false=>
      have:=gI (P:=P) hG (hfr1 rfl) y
      rw [hx] at this
      simpa using this
     |true=>exact .bool _
    ·cases hv
   ·cases hv
  ·cases hp
 rw [List.map_append,List.append_assoc]
 by_cases hbw:b=w
 ·exact hrun hbw _ fun a' q1 q2=>fin a' q2 fun _=>q1
 ·refine skip_run (ι:=ι) (W0:=W0) (i:=i) (g:=(j,w)) hd run i a _ (fun y hy=>hix y (by simp [hy])) hc.left (Nat.le_refl _) hne hw (by rw [hy];simpa using hbw) (fun q h1 h2=>by omega) fun a' hk=>?_
  exact fin a' hk fun e=>absurd e hbw
theorem nQ {Q:Exit→Go.Act→World→Prop} (hG:P.globals.size≤W0.heap.size):∀ (n:Nat) (g:Nat × Bool) (run:List IOp) (fr fr':List Value) (m:Nat) (a:Go.Act) (d:Nat) (K:List Nat),nP P ops n g run fr=some fr'→IX ops run→gS run m→
  cU ops g.1=some d→(run.all fun y=>vW d y.2)=true→yielded ops a.tmps g.1=some g.2→FR ι W0.heap.size fr a.tmps→
  (∀ a',FR ι W0.heap.size fr' a'.tmps→gO ops ι W0.heap.size run a a'→wpOps P ops Q K a' W)→wpOps P ops Q (run.map (·.1)++K) a W
 |0,g,run,fr,fr',m,a,d,K,h,_,_,_,_,_,_,_=>by cases h
 |n+1,g,[],fr,fr',m,a,d,K,h,_,_,_,_,_,r,hn=>by
  simp only [nP,Option.some.injEq] at h
  subst h
  exact hn a r gO.refl
 |n+1,g,x::xs,fr,fr',m,a,d,K,h,hix,hc,hd,hne,hy,r,hn=>by
  unfold nP at h
  have hxi:=hix x (by simp)
  cases hs:vt g x.2.guard with
  |true=>
   rw [hs] at h
   simp only [cond_true] at h
   split at h
   ·rename_i v hv
    simp only [List.all_cons,Bool.and_eq_true] at hne
    refine yW hxi (by rw [dZ (show x.2.guard=some (g.1,g.2) from vE hs),hy];simp) ?_
    obtain ⟨v',hv',hrun⟩:=wu (W:=W) (o:=x.2) hG r (.inl hv)
    unfold Oper.wp
    rw [hrun,Oper.upon_value]
    have hk1:gO ops ι W0.heap.size [x] a (a.put x.2.dst v'):=gO.one _
    exact nQ hG n g xs _ fr' (m+1) _ d K h (fun z hz=>hix z (by simp [hz])) hc.tail hd hne.2 (by rw [hk1.yields _ _ hd (by simp [hne.1])];exact hy) (r.put _ hv') fun a' q1 q2=>hn a' q1 (hk1.trans q2)
   ·cases h
  |false=>
   rw [hs] at h
   simp only [cond_false] at h
   split at h
   ·cases h
   ·rename_i j w hg
    split at h
    ·cases h
    ·rename_i d' hd'
     split at h
     ·rename_i b hb
      obtain ⟨hsp,hwi⟩:=vB (within x.1 (j,w)) (x::xs)
      split at h
      ·rename_i run1 p rest1 hspan
       rw [hspan] at hsp hwi
       simp only at hsp hwi
       split at h
       ·rename_i fr1 hfr1
        split at h
        ·rename_i v hv hcond
         simp only [Bool.and_eq_true] at hcond
         obtain ⟨⟨hp,hpg⟩,hne1⟩:=hcond
         have hx1:x.1=m:=hc 0 x rfl
         rw [hsp] at hix hc hne
         have hsplit:run1++p::rest1=(run1++[p])++rest1:=by simp
         rw [hsplit] at hix hc hne
         rw [hsp,hsplit,List.map_append,List.append_assoc]
         simp only [List.all_append,Bool.and_eq_true] at hne
         refine wF (i:=m) (fun z hz=>hix z (by simp only [List.mem_append];exact .inl (by simpa using hz))) hc.left hd' (by rw [←hx1];exact hwi) hne1 (kP r hd' hb) hp hv hG r ?_ ?_ ?_
         ·intro a' hk
          rw [dZ (show p.2.guard=some (g.1,g.2) from vE hpg),hk.yields _ _ hd hne.1.1,hy]
          simp
         ·intro hbw K' hK'
          refine nQ hG n (j,w) run1 fr fr1 m a d' K' hfr1 (fun z hz=>hix z (by simp only [List.mem_append];exact .inl (.inl hz))) hc.left.left hd' hne1 (by rw [kP r hd' hb,hbw]) r hK'
         ·intro a' q1 q2
          refine nQ hG n g rest1 _ fr' (m+(run1++[p]).length) a' d K h (fun z hz=>hix z (by simp only [List.mem_append];exact .inr hz)) hc.right hd hne.2 (by rw [q2.yields _ _ hd (by simp only [List.all_append,Bool.and_eq_true];exact hne.1)];exact hy) q1 fun a2 q3 q4=>hn a2 q3 ?_
          have:=q2.trans q4
          rw [hsp,hsplit]
          exact this
        ·cases h
       ·cases h
      ·cases h
     ·cases h
end
end Go.Pg
namespace Go.Pg
section
variable {P:Program} {cf:gB} {N:Nat} {ι:Inj} {W0:World} {σ:aB} {res:(Ex × List Value) × aB} {ops:Array Oper}
theorem mQ:∀ (l:List Value) (d:Nat) (v:Value),getD l d=v→v≠ .tuple #[]→kO l d v=l
 |[],_,_,_,_=>rfl
 |x::l,0,v,h,_=>by simp only [getD] at h;subst h;try rfl
 |x::l,n+1,v,h,hv=>by simp only [getD] at h;simp only [kO];rw [mQ l n v h hv]
def bG (w:Nat→Prop) (fr fr':List Value):Prop:=fr'.length=fr.length∧∀ t,¬ w t→getD fr' t=getD fr t
theorem bG.refl (w:Nat→Prop) (fr:List Value):bG w fr fr:=⟨rfl,fun _ _=>rfl⟩
theorem bG.trans {w:Nat→Prop} {a b c:List Value} (h:bG w a b) (k:bG w b c):bG w a c:=⟨k.1.trans h.1,fun t ht=>(k.2 t ht).trans (h.2 t ht)⟩
theorem bG.mono {w w':Nat→Prop} {a b:List Value} (h:bG w a b) (hw:∀ t,w t→w' t):bG w' a b:=⟨h.1,fun t ht=>h.2 t fun e=>ht (hw t e)⟩
theorem bG.set {w:Nat→Prop} (fr:List Value) {d:Nat} (v:Value) (h:w d):bG w fr (kO fr d v):=by
 refine ⟨jL _ _ _,fun t ht=>?_⟩
 rw [kJ,if_neg]
 rintro ⟨rfl,_⟩
 exact ht h
theorem bG.put {w:Nat→Prop} (fr:List Value) (d:Option Tmp) (v:Value) (h:∀ e,d=some e→w e):bG w fr (dQ fr d v):=by
 cases d with
 |none=>exact .refl _ _
 |some d=>exact .set fr v (h d rfl)
theorem bG.poisonOps {w:Nat→Prop}:∀ (l:List IOp) (fr:List Value),(∀ x∈l,∀ e,x.2.dst=some e→w e)→bG w fr (poisonOps fr l)
 |[],fr,_=>.refl _ _
 |x::l,fr,h=>(bG.put fr x.2.dst top (h x (by simp))).trans (bG.poisonOps l _ fun y hy=>h y (by simp [hy]))
def WrL (xs:List IOp) (t:Nat):Prop:=∃ x∈xs,x.2.dst=some t
theorem pT {Q:Exit→Go.Act→World→Prop} {k:List Value→Pg} (hG:P.globals.size≤W0.heap.size) (hcf:zR P W0 cf):∀ (n:Nat) (xs:List IOp) (m:Nat) (fr:List Value) (σ:aB) (ι:Inj) (W:World) (a:Go.Act),
  IX ops xs→gS xs m→exec cf N (jF P ops n xs fr k) σ=some res→Rel ι W0 σ W→FR ι W0.heap.size fr a.tmps→
  (∀ κ fr' σ' a' W',ι.le κ→Rel κ W0 σ' W'→FR κ W0.heap.size fr' a'.tmps→a'.defers=a.defers→bG (WrL xs) fr fr'→exec cf N (k fr') σ'=some res→Q .normal a' W')→wpOps P ops Q (xs.map (·.1)) a W
 |0,xs,m,fr,σ,ι,W,a,_,_,h,_,_,_=>by cases h
 |n+1,[],m,fr,σ,ι,W,a,hix,hc,h,R,r,hn=>hn ι fr σ a W ι.le_refl R r rfl (.refl _ _) h
 |n+1,x::xs,m,fr,σ,ι,W,a,hix,hc,h,R,r,hn=>by
  have hxi:=hix x (by simp)
  have step:Region.wanted x.2 (yielded ops a.tmps)=true→exec cf N (yK P x fr fun fr=>jF P ops n xs fr k) σ=some res→wpOps P ops Q (x.1::xs.map (·.1)) a W:=by
   intro hw h0
   refine yW hxi hw ?_
   obtain ⟨v,σ',h1,h2⟩:=compOp_exec h0
   refine op_step hG hcf R r h1 fun κ a1 W1 hle R1 r1 hd=>?_
   exact pT hG hcf n xs (m+1) _ σ' κ W1 a1 (fun z hz=>hix z (by simp [hz])) hc.tail h2 R1 r1 fun κ' fr' σ2 a' W' hle' R' r' hd' hot hk=>hn κ' fr' σ2 a' W' (Inj.le_trans hle hle') R' r' (hd'.trans hd) ((bG.put fr x.2.dst _ fun e he=>⟨x,by simp,he⟩).trans (hot.mono fun t ⟨y,hy,hd⟩=>⟨y,by simp [hy],hd⟩)) hk
  have skip:Region.wanted x.2 (yielded ops a.tmps)=false→exec cf N (jF P ops n xs (dQ fr x.2.dst undef') k) σ=some res→wpOps P ops Q (x.1::xs.map (·.1)) a W:=by
   intro hw h0
   refine zG hxi hw ?_
   exact pT hG hcf n xs (m+1) _ σ ι W _ (fun z hz=>hix z (by simp [hz])) hc.tail h0 R (r.undefPut _) fun κ' fr' σ2 a' W' hle' R' r' hd' hot hk=>hn κ' fr' σ2 a' W' hle' R' r' (by rw [hd',gX]) ((bG.put fr x.2.dst _ fun e he=>⟨x,by simp,he⟩).trans (hot.mono fun t ⟨y,hy,hd⟩=>⟨y,by simp [hy],hd⟩)) hk
  simp only [List.map_cons]
  unfold jF at h
  cases hg:x.2.guard with
  |none=>
   rw [hg] at h
   exact step (pH hg) h
  |some g=>
   obtain ⟨j,w⟩:=g
   rw [hg] at h
   simp only at h
   split at h
   ·cases h
   ·rename_i d hd
    split at h
    ·rename_i t ht
     exact skip (by rw [dZ hg,vT r hd ht];rfl) h
    ·rename_i b hb
     have hyb:=kP (W0:=W0) r hd hb
     split at h
     ·rename_i fr1 rest1 hgrp
      split at hgrp
      ·rename_i run p rest hspan
       replace hgrp:=(lW hgrp).2
       split at hgrp
       ·rename_i fr2 hpure
        split at hgrp
        ·rename_i v hv hcond
         simp only [Option.some.injEq,Prod.mk.injEq] at hgrp
         obtain ⟨rfl,rfl⟩:=hgrp
         simp only [Bool.and_eq_true] at hcond
         obtain ⟨⟨hp,hne⟩,hpg⟩:=hcond
         obtain ⟨hsp,hwi⟩:=vB (within x.1 (j,w)) (x::xs)
         rw [hspan] at hsp hwi
         simp only at hsp hwi
         have hx1:x.1=m:=hc 0 x rfl
         rw [hsp] at hix hc
         have hsplit:run++p::rest=(run++[p])++rest:=by simp
         rw [hsplit] at hix hc
         have hgn:p.2.guard=none:=by
          cases hq:p.2.guard with
          |none=>rfl
          |some _=>rw [hq] at hpg;cases hpg
         have e1:x.1::xs.map (·.1)=(x::xs).map (·.1):=rfl
         rw [e1,hsp,hsplit,List.map_append]
         refine wF (i:=m) (fun z hz=>hix z (by simp only [List.mem_append];exact .inl (by simpa using hz))) hc.left hd (by rw [←hx1];exact hwi) hne hyb hp hv hG r (fun a' _=>pH hgn) ?_ ?_
         ·intro hbw K' hK'
          exact nQ hG (n+1) (j,w) run fr fr2 m a d K' hpure (fun z hz=>hix z (by simp only [List.mem_append];exact .inl (.inl hz))) hc.left.left hd hne (by rw [hyb,hbw]) r hK'
         ·intro a' q1 q2
          exact pT hG hcf n rest _ _ σ ι W a' (fun z hz=>hix z (by simp only [List.mem_append];exact .inr hz)) hc.right h R q1 fun κ' fr' σ2 a2 W' hle' R' r' hd' hot hk=>hn κ' fr' σ2 a2 W' hle' R' r' (by rw [hd',q2.defers]) (by
           rw [hsp]
           refine (bG.poisonOps run fr fun y hy e he=>⟨y,by simp [hy],he⟩).trans ((bG.put _ p.2.dst _ fun e he=>⟨p,by simp,he⟩).trans (hot.mono fun t ⟨y,hy,hd⟩=>⟨y,?_,hd⟩))
           rw [hsplit]
           simp only [List.mem_append]
           exact .inr hy) hk
        ·cases hgrp
       ·cases hgrp
      ·cases hgrp
     ·cases hbw:b==w with
      |true=>
       rw [hbw] at h
       simp only [cond_true] at h
       simp only [beq_iff_eq] at hbw
       subst hbw
       rw [mQ fr d _ hb nofun] at h
       exact step (by rw [dZ hg,hyb];simp) h
      |false=>
       rw [hbw] at h
       simp only [cond_false] at h
       have hbw':b=!w:=by cases b<;>cases w<;>simp_all
       subst hbw'
       rw [mQ fr d _ hb nofun] at h
       exact skip (by rw [dZ hg,hyb];cases w<;>rfl) h
    ·cases h
end
end Go.Pg
namespace Go.Pg
variable {P:Program} {W0:World} {cf:gB} {N:Nat} {res:(Ex × List Value) × aB} {ops:Array Oper}
theorem dX (ops:Array Oper) (t:Nat):(aX ops)[t]?=(ops[t]?).map fun o=>(t,o):=by
 simp [aX,List.getElem?_zipIdx]
 cases ops[t]?<;>rfl
theorem yC (ops:Array Oper):IX ops (aX ops):=by
 intro x hx
 obtain ⟨t,ht⟩:=List.getElem?_of_mem hx
 rw [dX] at ht
 cases ho:ops[t]? with
 |none=>rw [ho] at ht;cases ht
 |some o=>
  rw [ho] at ht
  cases ht
  exact ho
theorem iK (ops:Array Oper):gS (aX ops) 0:=by
 intro t y ht
 rw [dX] at ht
 cases ho:ops[t]? with
 |none=>rw [ho] at ht;cases ht
 |some o=>rw [ho] at ht;cases ht;simp
theorem fQ (ops:Array Oper):(aX ops).map (·.1)=List.range ops.size:=by
 apply List.ext_getElem?
 intro t
 rw [List.getElem?_map,dX]
 by_cases h:t<ops.size
 ·simp [h]
 ·simp [h]
theorem region_sound {Q:Exit→Go.Act→World→Prop} {id:Nat} {k:List Value→Pg} {fr:List Value} {σ:aB} {ι:Inj} {W:World} {a:Go.Act} (hG:P.globals.size≤W0.heap.size) (hcf:zR P W0 cf)
  (h:exec cf N (pR P ops false fr k) σ=some res) (R:Rel ι W0 σ W) (r:FR ι W0.heap.size fr a.tmps)
  (hn:∀ κ fr' σ' a' W',ι.le κ→Rel κ W0 σ' W'→FR κ W0.heap.size fr' a'.tmps→a'.defers=a.defers→bG (fun t=>∃ o∈ops,o.dst=some t) fr fr'→exec cf N (k fr') σ'=some res→Q .normal a' W'):(Code.region id ops false).wp P Q a W:=by
 apply wp_region
 rw [←fQ]
 exact pT hG hcf _ _ 0 fr σ ι W a (yC ops) (iK ops) h R r fun κ fr' σ' a' W' h1 h2 h3 h4 h5 h6=>hn κ fr' σ' a' W' h1 h2 h3 h4 (h5.mono fun t ⟨x,hx,hd⟩=>⟨x.2,Array.mem_of_getElem? (yC ops x hx),hd⟩) h6
end Go.Pg
namespace Go.Pg
section
variable {P:Program} {cf:gB} {N:Nat} {res:(Ex × List Value) × aB} {ops:Array Oper} {bf:Array Nat}
def oD (h:Act) (v:Value) (σ:aB):Prop:=∃ σ',h σ=some (v,σ')
theorem lJ {f:Value→Value→Bool} (hf:∀ a b,f a b=true→a=b):∀ (l m:List Value),qN f l m=true→l=m
 |[],[],_=>rfl
 |a::l,b::m,h=>by
  simp only [qN,Bool.and_eq_true] at h
  rw [hf a b h.1,lJ hf l m h.2]
 |[],_::_,h=>by cases h
 |_::_,[],h=>by cases h
theorem kQ {α:Type} {f:α→α→Bool} (hf:∀ a b,f a b=true→a=b):∀ (a b:Option α),vG f a b=true→a=b
 |none,none,_=>rfl
 |some a,some b,h=>by rw [hf a b h]
 |none,some _,h=>by cases h
 |some _,none,h=>by cases h
theorem pY (a b:Addr) (h:uk a b=true):a=b:=by
 obtain ⟨x,y,z⟩:=a
 obtain ⟨x',y',z'⟩:=b
 simp only [uk,Bool.and_eq_true,Nat.beq_eq] at h
 obtain ⟨⟨rfl,rfl⟩,h⟩:=h
 rw [kQ (fun a b h=>Nat.eq_of_beq_eq_true h) _ _ h]
theorem wT:∀ (n:Nat) (a b:Value),yY n a b=true→a=b:=by
 intro n
 induction n with
 |zero=>
  intro a b h
  unfold yY at h
  split at h<;>simp_all
  ·rename_i s t
   cases s
   cases t
   rename_i x y
   cases x
   cases y
   simp_all
  ·exact kQ pY _ _ h
  ·exact kQ pY _ _ h.1.1
  ·exact kQ (fun a b h=>Nat.eq_of_beq_eq_true h) _ _ h
 |succ n ih=>
  intro a b h
  unfold yY at h
  split at h<;>simp_all
  ·rename_i s t
   cases s
   cases t
   rename_i x y
   cases x
   cases y
   simp_all
  ·exact kQ pY _ _ h
  ·exact kQ pY _ _ h.1.1
  ·exact kQ (fun a b h=>Nat.eq_of_beq_eq_true h) _ _ h
  ·rename_i x y _
   have:=lJ ih _ _ h
   exact Array.toList_inj.1 this
  ·rename_i x y _
   have:=lJ ih _ _ h
   exact Array.toList_inj.1 this
  ·exact ⟨Array.toList_inj.1 (lJ ih _ _ h.2.1),Array.toList_inj.1 (lJ ih _ _ h.2.2)⟩
theorem eqv_eq {a b:Value} (h:eqv a b=true):a=b:=by
 unfold eqv at h
 rw [Bool.or_eq_true] at h
 rcases h with h|h
 ·exact wT 4 a b h
 ·unfold sameV at h
  exact @of_decide_eq_true _ (Classical.propDecidable _) h
theorem yN {h:Act} {v:Value} {σ:aB} (hc:oN h v σ=true):oD h v σ:=by
 unfold oN at hc
 split at hc
 ·rename_i v' σ' hh
  rw [←eqv_eq hc]
  exact ⟨σ',hh⟩
 ·cases hc
theorem oX {i:Nat} {σ:aB}:∀ {ld:List (Nat × Act × Value)},chkAll i bf σ ld=true→∀ r h v,(r,h,v)∈ld→unord bf r i=true→oD h v σ
 |[],_,r,h,v,hm,_=>by cases hm
 |(r0,h0,v0)::ld,hc,r,h,v,hm,hu=>by
  unfold chkAll wD at hc
  dsimp only at hc
  rcases List.mem_cons.1 hm with e|hm
  ·cases e
   rw [hu] at hc
   simp only [cond_true,chks,Bool.and_eq_true] at hc
   exact yN hc.1
  ·cases hq:unord bf r0 i with
   |true=>
    rw [hq] at hc
    simp only [cond_true,chks,Bool.and_eq_true] at hc
    exact oX hc.2 r h v hm hu
   |false=>
    rw [hq] at hc
    exact oX hc r h v hm hu
theorem nG {i:Nat} {h:Act} {v:Value}:∀ {sn:List (Nat × aB)},xN i bf h v sn=true→∀ e σ,(e,σ)∈sn→unord bf e i=true→oD h v σ
 |[],_,e,σ,hm,_=>by cases hm
 |(e0,σ0)::sn,hc,e,σ,hm,hu=>by
  unfold xN wD at hc
  dsimp only at hc
  rcases List.mem_cons.1 hm with q|hm
  ·cases q
   rw [hu] at hc
   simp only [cond_true,past,Bool.and_eq_true] at hc
   exact yN hc.1
  ·cases hq:unord bf e0 i with
   |true=>
    rw [hq] at hc
    simp only [cond_true,past,Bool.and_eq_true] at hc
    exact nG hc.2 e σ hm hu
   |false=>
    rw [hq] at hc
    exact nG hc e σ hm hu
theorem conv_act {src dst e:TypeId} {y:Value} {h:Act} (h1:P.underlying src=some (.slice e)) (h2:P.underlying dst=some .string) (hy:oL P src dst y=.act h):h=cW y:=by
 unfold oL at hy
 cases y<;>simp only [h1,h2] at hy<;>(try cases hy)<;>
 ·split at hy
  ·cases hy;try rfl
  ·cases hy
theorem rW {o:Oper} {fr:List Value} {h:Act} {σ σ':aB} {v:Value} (hq:(mL P o).isQuiet=true) (ho:bE P o fr=.act h) (hh:h σ=some (v,σ')):σ'=σ:=by
 unfold bE at ho
 unfold mL at hq
 cases hop:o.op with
 |load t x=>
  rw [hop] at ho
  simp only at ho
  split at ho
  ·simp at ho
   subst ho
   unfold ldAt at hh
   split at hh
   ·cases hh
   ·rename_i d hd
    cases hdd:rQ d with
    |true=>
     rw [hdd] at hh
     simp only [cond_true] at hh
     split at hh
     ·cases hh;try rfl
     ·cases hh
    |false=>
     rw [hdd] at hh
     simp only [cond_false] at hh
     split at hh
     ·cases hh;try rfl
     ·cases hh
  ·cases ho
 |lookup t m k ok=>
  rw [hop] at ho
  simp at ho
  subst ho
  unfold mX at hh
  split at hh
  ·split at hh
   ·rename_i kt et hd _ _ kd z _ _
    cases hk:nY kd (ev P fr k) with
    |true=>
     rw [hk] at hh
     simp only [cond_true] at hh
     split at hh<;>cases hh<;>rfl
    |false=>
     rw [hk] at hh
     simp only [cond_false] at hh
     cases hfl:qR P kt (ev P fr k) with
     |true=>
      rw [hfl] at hh
      simp only [cond_true] at hh
      split at hh<;>cases hh<;>rfl
     |false=>rw [hfl] at hh;cases hh
   ·cases hh
  ·cases hh
 |convert src dst x=>
  rw [hop] at ho hq
  simp only at ho hq
  unfold oL at ho
  split at hq
  ·exact Bool.noConfusion (show false=true from hq)
  ·rename_i h1 h2
   rw [h1,h2] at ho
   have:=conv_act (y:=ev P fr x) h1 h2 (h:=h) (by unfold oL;rw [h1,h2];exact ho)
   subst this
   unfold cW at hh
   split at hh
   ·cases hh;try rfl
   ·split at hh
    ·split at hh
     ·cases hh;try rfl
     ·cases hh
    ·cases hh
   ·cases hh
  ·exact Bool.noConfusion (show false=true from hq)
 |call c=>
  rw [hop] at ho hq
  simp only at ho hq
  cases hc:c.callee with
  |builtin b=>
   rw [hc] at ho hq
   cases b with
   |len=>
    simp only at ho hq
    rcases hl:c.args.toList.map (ev P fr) with _|⟨y,_|⟨z,l⟩⟩
    ·rw [hl] at ho;cases ho
    ·rw [hl] at ho
     simp only [fC] at ho
     cases hd:(c.argTypes[0]?).bind P.underlying with
     |none=>rw [hd] at ho;cases ho
     |some d=>
      rw [hd] at ho
      simp only at ho
      unfold vl at ho
      split at ho<;>try (cases ho;done)
      cases ho
      unfold mR at hh
      split at hh
      ·cases hh;try rfl
      ·split at hh
       ·cases hh;try rfl
       ·cases hh
    ·rw [hl] at ho;cases ho
   |_=>exact Bool.noConfusion (show false=true from hq)
  |value f=>rw [hc] at hq;exact Bool.noConfusion (show false=true from hq)
  |invoke r m=>rw [hc] at hq;exact Bool.noConfusion (show false=true from hq)
 |_=>rw [hop] at hq;exact Bool.noConfusion (show false=true from hq)
theorem zd:∀ (l m:List Nat),xV.allNat l m=true→l=m
 |[],[],_=>rfl
 |a::l,b::m,h=>by
  simp only [xV.allNat,Bool.and_eq_true,Nat.beq_eq] at h
  rw [h.1,zd l m h.2]
 |[],_::_,h=>by cases h
 |_::_,[],h=>by cases h
theorem objEq_eq {a b:Option dS} (h:objEq a b=true):a=b:=by
 unfold objEq at h
 rw [Bool.or_eq_true] at h
 rcases h with h|h
 ·unfold xV at h
  split at h
  ·rename_i a b
   simp only [Bool.and_eq_true,Nat.beq_eq] at h
   obtain ⟨⟨⟨h1,h2⟩,h3⟩,h4⟩:=h
   obtain ⟨a1,a2,a3,a4⟩:=a
   obtain ⟨b1,b2,b3,b4⟩:=b
   simp only at h1 h2 h3 h4
   rw [lJ (wT 4) _ _ h1,h2,zd _ _ h3,h4]
  ·rfl
  ·rfl
  ·cases h
 ·exact @of_decide_eq_true _ (Classical.propDecidable _) h
theorem rO {i:Nat} {σ:aB}:∀ {al:List rN},xJ i bf σ al=true→∀ r b o,(r,b,o)∈al→unord bf r i=true→σ.get b=o
 |[],_,r,b,o,hm,_=>by cases hm
 |(r0,b0,o0)::al,hc,r,b,o,hm,hu=>by
  unfold xJ wD at hc
  dsimp only at hc
  rcases List.mem_cons.1 hm with e|hm
  ·cases e
   rw [hu] at hc
   simp only [cond_true,yj,Bool.and_eq_true] at hc
   exact objEq_eq hc.1
  ·cases hq:unord bf r0 i with
   |true=>
    rw [hq] at hc
    simp only [cond_true,yj,Bool.and_eq_true] at hc
    exact rO hc.2 r b o hm hu
   |false=>
    rw [hq] at hc
    exact rO hc r b o hm hu
theorem vP {i:Nat} {ld:List (Nat × Act × Value)} {al:List rN} {p:Pg} {σ:aB} (h:exec cf N (behind i bf ld al p) σ=some res):
  (∀ r g v,(r,g,v)∈ld→unord bf r i=true→oD g v σ)∧(∀ r b o,(r,b,o)∈al→unord bf r i=true→σ.get b=o)∧exec cf N p σ=some res:=by
 unfold behind at h
 have inner:exec cf N (bif pS i bf al then .get fun σ=>grd (xJ i bf σ al) p else p) σ=some res→(∀ r b o,(r,b,o)∈al→unord bf r i=true→σ.get b=o)∧exec cf N p σ=some res:=by
  intro h
  cases ha:pS i bf al with
  |true=>
   rw [ha] at h
   simp only [cond_true,exec] at h
   obtain ⟨h3,h4⟩:=eZ h
   exact ⟨rO h3,h4⟩
  |false=>
   rw [ha] at h
   refine ⟨fun r b o hm hu=>?_,h⟩
   unfold pS at ha
   rw [List.any_eq_false] at ha
   exact absurd hu (ha _ hm)
 simp only at h
 cases ha:yQ i bf ld with
 |true=>
  rw [ha] at h
  simp only [cond_true,exec] at h
  obtain ⟨h3,h4⟩:=eZ h
  exact ⟨oX h3,inner h4⟩
 |false=>
  rw [ha] at h
  refine ⟨fun r g v hm hu=>?_,inner h⟩
  unfold yQ at ha
  rw [List.any_eq_false] at ha
  exact absurd hu (ha _ hm)
theorem uh {late:Option Nat} {x:IOp} {fr:List Value} {all:List IOp} {sn:List (Nat × aB)} {ld:List (Nat × Act × Value)} {al:List rN} {σ:aB} {k:List Value→List (Nat × aB)→List (Nat × Act × Value)→List rN→Pg}
  (h:exec cf N (sH P late bf all x fr sn ld al k) σ=some res):
  (∃ v,(bE P x.2 fr=.tot v∨bE P x.2 fr=.pure true v)∧exec cf N (k (dQ fr x.2.dst v) sn ld al) σ=some res)∨
  (∃ h v,bE P x.2 fr=.act h∧(mL P x.2).isQuiet=true∧h σ=some (v,σ)∧xN x.1 bf h v sn=true∧exec cf N (k (dQ fr x.2.dst v) sn ((x.1,h,v)::ld) al) σ=some res)∨
  (∃ v σ',((∃ h,bE P x.2 fr=.act h∧h σ=some (v,σ'))∨(∃ f args,bE P x.2 fr=.call f args∧cf f args σ=some (v,σ')))∧mI P late.isSome x.2=true∧(∀ r h v,(r,h,v)∈ld→unord bf r x.1=true→oD h v σ')∧(∀ r b o,(r,b,o)∈al→unord bf r x.1=true→σ'.get b=o)∧
   exec cf N (k (dQ fr x.2.dst v) (bif gF P x.1 bf all then (x.1,σ)::sn else sn) ld al) σ'=some res)∨
  (∃ n0 h v σ',late=some n0∧bE P x.2 fr=.act h∧dN x.2=true∧h σ=some (v,σ')∧newOk n0 σ al=true∧exec cf N (k (dQ fr x.2.dst v) sn ld ((x.1,σ.n,σ'.get σ.n)::al)) σ'=some res):=by
 unfold sH at h
 have h:=sS h
 split at h
 ·cases h
 ·rename_i v hv
  exact .inl ⟨v,.inl hv,h⟩
 ·rename_i c v hv
  obtain ⟨rfl,h2⟩:=eZ h
  exact .inl ⟨v,.inr hv,h2⟩
 ·rename_i g hg
  cases hq:(mL P x.2).isQuiet with
  |true=>
   rw [hq] at h
   simp only [cond_true,exec] at h
   split at h
   ·rename_i v σ' hgs
    obtain ⟨hc,h2⟩:=eZ h
    have:=rW hq hg hgs
    subst this
    exact .inr (.inl ⟨g,v,hg,rfl,hgs,hc,fN (k:=fun v'=>k (dQ fr x.2.dst v') sn ((x.1,g,v)::ld) al) h2⟩)
   ·cases h
  |false=>
   rw [hq] at h
   simp only [cond_false] at h
   obtain ⟨he,h⟩:=eZ h
   have key:∀ sn',exec cf N (.act g fun v=>iU P (wd P x.2) v fun v'=>behind x.1 bf ld al (k (dQ fr x.2.dst v') sn' ld al)) σ=some res→
     ∃ v σ',g σ=some (v,σ')∧(∀ r h v,(r,h,v)∈ld→unord bf r x.1=true→oD h v σ')∧(∀ r b o,(r,b,o)∈al→unord bf r x.1=true→σ'.get b=o)∧exec cf N (k (dQ fr x.2.dst v) sn' ld al) σ'=some res:=by
    intro sn' h
    simp only [exec] at h
    split at h
    ·rename_i v σ' hgs
     have h2:=fN (k:=fun v'=>behind x.1 bf ld al (k (dQ fr x.2.dst v') sn' ld al)) h
     obtain ⟨h3,h4,h5⟩:=vP h2
     exact ⟨v,σ',hgs,h3,h4,h5⟩
    ·cases h
   have plain:mI P late.isSome x.2=true→exec cf N (bif gF P x.1 bf all then .get fun σ=>.act g fun v=>iU P (wd P x.2) v fun v'=>behind x.1 bf ld al (k (dQ fr x.2.dst v') ((x.1,σ)::sn) ld al)
     else .act g fun v=>iU P (wd P x.2) v fun v'=>behind x.1 bf ld al (k (dQ fr x.2.dst v') sn ld al)) σ=some res→
     ∃ v σ',((∃ h,bE P x.2 fr=.act h∧h σ=some (v,σ'))∨(∃ f args,bE P x.2 fr=.call f args∧cf f args σ=some (v,σ')))∧mI P late.isSome x.2=true∧(∀ r h v,(r,h,v)∈ld→unord bf r x.1=true→oD h v σ')∧(∀ r b o,(r,b,o)∈al→unord bf r x.1=true→σ'.get b=o)∧
      exec cf N (k (dQ fr x.2.dst v) (bif gF P x.1 bf all then (x.1,σ)::sn else sn) ld al) σ'=some res:=by
    intro hl h
    cases hs:gF P x.1 bf all with
    |true=>
     rw [hs] at h
     simp only [cond_true] at h
     unfold exec at h
     obtain ⟨v,σ',h1,h2,h3,h4⟩:=key _ h
     exact ⟨v,σ',.inl ⟨g,hg,h1⟩,hl,h2,h3,h4⟩
    |false=>
     rw [hs] at h
     simp only [cond_false] at h
     obtain ⟨v,σ',h1,h2,h3,h4⟩:=key _ h
     exact ⟨v,σ',.inl ⟨g,hg,h1⟩,hl,h2,h3,h4⟩
   cases hlate:late with
   |none=>
    rw [hlate] at h plain
    exact .inr (.inr (.inl (plain (by unfold mI;rw [he];rfl) h)))
   |some n0=>
    rw [hlate] at h plain
    simp only at h
    cases hal:dN x.2 with
    |false=>
     rw [hal] at h
     exact .inr (.inr (.inl (plain (by unfold mI;rw [he,hal];rfl) h)))
    |true=>
     rw [hal] at h
     simp only [cond_true] at h
     unfold exec at h
     obtain ⟨hok,h⟩:=eZ h
     simp only [exec] at h
     split at h
     ·rename_i v σ' hgs
      have h2:=fN (k:=fun v'=>.get fun σ1=>k (dQ fr x.2.dst v') sn ld ((x.1,σ.n,σ1.get σ.n)::al)) h
      simp only [exec] at h2
      exact .inr (.inr (.inr ⟨n0,g,v,σ',rfl,hg,rfl,hgs,hok,h2⟩))
     ·cases h
 ·rename_i f args hg
  obtain ⟨he,h⟩:=eZ h
  have hnal:dN x.2=false:=by
   cases hal:dN x.2 with
   |false=>rfl
   |true=>
    exfalso
    unfold dN at hal
    unfold bE at hg
    split at hal
    ·rename_i hop;rw [hop] at hg;cases hg
    ·rename_i hop;rw [hop] at hg;cases hg
    ·rename_i hop;rw [hop] at hg;cases hg
    ·rename_i hop;rw [hop] at hg;cases hg
    ·rename_i t r hop
     rw [hop] at hg
     cases r with
     |none=>cases hg
     |some y=>
      simp only at hg
      split at hg<;>cases hg
    ·cases hal
  have hl:mI P late.isSome x.2=true:=by unfold mI;rw [he,hnal];cases late<;>rfl
  have key:∀ sn',exec cf N (.call f args fun v=>iU P (wd P x.2) v fun v'=>behind x.1 bf ld al (k (dQ fr x.2.dst v') sn' ld al)) σ=some res→
    ∃ v σ',cf f args σ=some (v,σ')∧(∀ r h v,(r,h,v)∈ld→unord bf r x.1=true→oD h v σ')∧(∀ r b o,(r,b,o)∈al→unord bf r x.1=true→σ'.get b=o)∧exec cf N (k (dQ fr x.2.dst v) sn' ld al) σ'=some res:=by
   intro sn' h
   simp only [exec] at h
   split at h
   ·rename_i v σ' hgs
    have h2:=fN (k:=fun v'=>behind x.1 bf ld al (k (dQ fr x.2.dst v') sn' ld al)) h
    obtain ⟨h3,h4,h5⟩:=vP h2
    exact ⟨v,σ',hgs,h3,h4,h5⟩
   ·cases h
  cases hs:gF P x.1 bf all with
  |true=>
   rw [hs] at h
   simp only [cond_true] at h
   unfold exec at h
   obtain ⟨v,σ',h1,h2,h3,h4⟩:=key _ h
   exact .inr (.inr (.inl ⟨v,σ',.inr ⟨f,args,hg,h1⟩,hl,h2,h3,h4⟩))
  |false=>
   rw [hs] at h
   simp only [cond_false] at h
   obtain ⟨v,σ',h1,h2,h3,h4⟩:=key _ h
   exact .inr (.inr (.inl ⟨v,σ',.inr ⟨f,args,hg,h1⟩,hl,h2,h3,h4⟩))
inductive eP:aB→aB→Prop
 |refl (σ:aB):eP σ σ
 |push {σ τ:aB} (o:dS) (h:eP σ τ) (hf:τ.get τ.n=none):eP σ (τ.push o)
theorem eP.n_le {σ τ:aB} (h:eP σ τ):σ.n≤τ.n:=by
 induction h with
 |refl=>exact Nat.le_refl _
 |push o h hf ih=>simp only [aB.push_n];omega
theorem eP.old {σ τ:aB} (h:eP σ τ):τ.old=σ.old:=by
 induction h with
 |refl=>rfl
 |push o h hf ih=>simpa using ih
theorem eP.get {σ τ:aB} (h:eP σ τ) {b:Nat} {o:dS} (hb:σ.get b=some o):τ.get b=some o:=by
 induction h with
 |refl=>exact hb
 | @push τ' o' h hf ih=>
  have hne:b≠τ'.n:=fun e=>by rw [e,hf] at ih;cases ih
  rw [aB.get_push,if_neg hne]
  exact ih
theorem eP.rel {ι:Inj} {W0 W:World} {σ τ:aB} (h:eP σ τ) (R:Rel ι W0 σ W):Rel ι W0 τ W:=by
 induction h with
 |refl=>exact R
 |push o _ _ ih=>exact ih.push o
theorem eP.rdN {σ τ:aB} (h:eP σ τ) {a:Addr} {k:Nat} {vs:List Value} (hr:σ.rdN a k=some vs):τ.rdN a k=some vs:=by
 unfold aB.rdN at hr ⊢
 split at hr
 ·rw [h.old]
  exact hr
 ·split at hr
  ·rename_i B hB
   rw [h.get hB]
   exact hr
  ·cases hr
theorem eP.getMap {σ τ:aB} (h:eP σ τ) {r:Nat} {es:List (Value × Value)} (hr:σ.getMap r=some es):τ.getMap r=some es:=by
 unfold aB.getMap at hr ⊢
 split at hr
 ·rename_i es' hB
  rw [h.get hB]
  exact hr
 ·rename_i es' hB
  rw [h.get hB]
  exact hr
 ·cases hr
theorem wh {o:Oper} {fr:List Value} {h:Act} {σ τ:aB} {v:Value} (hp:eP σ τ) (hq:(mL P o).isQuiet=true) (ho:bE P o fr=.act h) (hh:oD h v σ):oD h v τ:=by
 obtain ⟨σ',hh⟩:=hh
 have hs:=rW hq ho hh
 subst hs
 unfold bE at ho
 unfold mL at hq
 cases hop:o.op with
 |load t x=>
  rw [hop] at ho
  simp only at ho
  split at ho
  ·simp at ho
   subst ho
   unfold ldAt at hh ⊢
   split at hh
   ·cases hh
   ·rename_i d hd
    cases hdd:rQ d with
    |true=>
     rw [hdd] at hh
     simp only [cond_true] at hh
     split at hh
     ·rename_i cs hcs
      cases hh
      refine ⟨τ,?_⟩
      simp only [cond_true,hp.rdN hcs]
     ·cases hh
    |false=>
     rw [hdd] at hh
     simp only [cond_false] at hh
     split at hh
     ·rename_i w l hcs
      cases hh
      refine ⟨τ,?_⟩
      simp only [cond_false,hp.rdN hcs]
     ·cases hh
  ·cases ho
 |lookup t m k ok=>
  rw [hop] at ho
  simp at ho
  subst ho
  unfold mX at hh ⊢
  split at hh
  ·rename_i kt et hd
   split at hh
   ·rename_i kd z hk hz
    cases hkk:nY kd (ev P fr k) with
    |true=>
     rw [hkk] at hh
     simp only [cond_true] at hh
     refine ⟨τ,?_⟩
     simp only [cond_true]
     cases hm:ev P fr m with
     |map r=>
      rw [hm] at hh
      cases r with
      |none=>
       simp only at hh ⊢
       cases hh
       rfl
      |some r=>
       simp only at hh ⊢
       cases hg:aB.getMap σ' r with
       |none=>rw [hg] at hh;cases hh
       |some es=>
        rw [hg] at hh
        rw [hp.getMap hg]
        simp only [Option.map_some] at hh ⊢
        cases hf:dH kd (ev P fr k) es with
        |none=>rw [hf] at hh;cases hh
        |some x=>
         rw [hf] at hh
         cases x with
         |none=>cases hh;try rfl
         |some y=>cases hh;try rfl
     |_=>rw [hm] at hh;cases hh
    |false=>
     rw [hkk] at hh
     simp only [cond_false] at hh ⊢
     cases hfl:qR P kt (ev P fr k) with
     |false=>rw [hfl] at hh;cases hh
     |true=>
      rw [hfl] at hh
      simp only [cond_true] at hh
      refine ⟨τ,?_⟩
      simp only [cond_true]
      cases hm:ev P fr m with
      |map r=>
       rw [hm] at hh
       cases r with
       |none=>
        simp only at hh ⊢
        cases hh
        rfl
       |some r=>
        simp only at hh ⊢
        cases hg:aB.getMap σ' r with
        |none=>rw [hg] at hh;cases hh
        |some es=>
         rw [hg] at hh
         rw [hp.getMap hg]
         simp only [Option.map_some] at hh ⊢
         cases hf:eJ (dR P kt) (ev P fr k) es with
         |none=>rw [hf] at hh;cases hh
         |some x=>
          rw [hf] at hh
          cases x with
          |none=>cases hh;try rfl
          |some y=>cases hh;try rfl
      |_=>rw [hm] at hh;cases hh
   ·cases hh
  ·cases hh
 |convert src dst x=>
  rw [hop] at ho hq
  simp only at ho hq
  split at hq
  ·exact Bool.noConfusion (show false=true from hq)
  ·rename_i h1 h2
   have:=conv_act (y:=ev P fr x) h1 h2 (h:=h) ho
   subst this
   unfold cW at hh ⊢
   split at hh
   ·cases hh
    exact ⟨τ,rfl⟩
   ·split at hh
    ·rename_i cs hcs
     split at hh
     ·rename_i l hl
      cases hh
      refine ⟨τ,?_⟩
      simp only [hp.rdN hcs,hl]
     ·cases hh
    ·cases hh
   ·cases hh
  ·exact Bool.noConfusion (show false=true from hq)
 |call c=>
  rw [hop] at ho hq
  simp only at ho hq
  cases hc:c.callee with
  |builtin b=>
   rw [hc] at ho hq
   cases b with
   |len=>
    simp only at ho hq
    rcases hl:c.args.toList.map (ev P fr) with _|⟨y,_|⟨z,l⟩⟩
    ·rw [hl] at ho;cases ho
    ·rw [hl] at ho
     simp only [fC] at ho
     cases hd:(c.argTypes[0]?).bind P.underlying with
     |none=>rw [hd] at ho;cases ho
     |some d=>
      rw [hd] at ho
      simp only at ho
      unfold vl at ho
      split at ho<;>try (cases ho;done)
      cases ho
      unfold mR at hh ⊢
      split at hh
      ·cases hh;exact ⟨τ,rfl⟩
      ·split at hh
       ·rename_i es hg
        cases hh
        refine ⟨τ,?_⟩
        simp only [hp.getMap hg]
       ·cases hh
    ·rw [hl] at ho;cases ho
   |_=>exact Bool.noConfusion (show false=true from hq)
  |value f=>rw [hc] at hq;exact Bool.noConfusion (show false=true from hq)
  |invoke r m=>rw [hc] at hq;exact Bool.noConfusion (show false=true from hq)
 |_=>rw [hop] at hq;exact Bool.noConfusion (show false=true from hq)
end
end Go.Pg
namespace Go.Pg
section
variable {P:Program} {cf:gB} {N:Nat} {res:(Ex × List Value) × aB} {ops:Array Oper} {bf:Array Nat}
structure Tc where
 F:Nat→List Value
 H:Nat→aB
 V:Nat→Value
 eff:Nat→Bool
 q:Nat→Option Act
 al:Nat→Bool
def OnT (ops:Array Oper) (o:Oper) (fr:List Value):Prop:=o.guard=none∨∃ j w d,o.guard=some (j,w)∧cU ops j=some d∧getD fr d=.bool w
def OffT (ops:Array Oper) (o:Oper) (fr:List Value):Prop:=∃ j w d,o.guard=some (j,w)∧cU ops j=some d∧((∃ t,getD fr d=.tuple t)∨getD fr d=.bool (!w))
def DidT (P:Program) (cf:gB) (late:Bool) (T:Tc) (i:Nat) (o:Oper):Prop:=
 ((bE P o (T.F i)=.tot (T.V i)∨bE P o (T.F i)=.pure true (T.V i))∧T.H (i+1)=T.H i∧T.eff i=false∧T.q i=none∧T.al i=false)∨
 (∃ h,bE P o (T.F i)=.act h∧(mL P o).isQuiet=true∧h (T.H i)=some (T.V i,T.H i)∧T.H (i+1)=T.H i∧T.eff i=false∧T.q i=some h∧T.al i=false)∨
 (((∃ h,bE P o (T.F i)=.act h∧h (T.H i)=some (T.V i,T.H (i+1)))∨(∃ f args,bE P o (T.F i)=.call f args∧cf f args (T.H i)=some (T.V i,T.H (i+1))))∧mI P late o=true∧T.eff i=true∧T.q i=none∧T.al i=false)∨
 (∃ h,bE P o (T.F i)=.act h∧dN o=true∧h (T.H i)=some (T.V i,T.H (i+1))∧T.eff i=false∧T.q i=none∧T.al i=true∧late=true)
def kM (P:Program) (cf:gB) (ops:Array Oper) (late:Bool) (T:Tc) (i:Nat) (o:Oper):Prop:=
 T.F (i+1)=dQ (T.F i) o.dst (T.V i)∧((OffT ops o (T.F i)∧T.V i=undef'∧T.H (i+1)=T.H i∧T.eff i=false∧T.q i=none∧T.al i=false)∨(OnT ops o (T.F i)∧DidT P cf late T i o))
structure pI (P:Program) (cf:gB) (ops:Array Oper) (bf:Array Nat) (late:Option Nat) (T:Tc) (xs:List IOp) (m:Nat) (sn:List (Nat × aB)) (ld:List (Nat × Act × Value)) (al:List rN):Prop where
 step:∀ (t:Nat) x,xs[t]?=some x→kM P cf ops late.isSome T (m+t) x.2
 past:∀ (t:Nat) h,t<xs.length→T.q (m+t)=some h→∀ e σ,(e,σ)∈sn→unord bf e (m+t)=true→oD h (T.V (m+t)) σ
 back:∀ (t:Nat) h (e:Nat),t<xs.length→e<t→T.q (m+t)=some h→T.eff (m+e)=true→unord bf (m+e) (m+t)=true→oD h (T.V (m+t)) (T.H (m+e))
 ahead:∀ (t:Nat) h (e:Nat),e<xs.length→t<e→T.q (m+t)=some h→T.eff (m+e)=true→unord bf (m+t) (m+e)=true→oD h (T.V (m+t)) (T.H (m+e+1))
 loads:∀ r h v,(r,h,v)∈ld→∀ e,e<xs.length→T.eff (m+e)=true→unord bf r (m+e)=true→oD h v (T.H (m+e+1))
 intact:∀ (t e:Nat),e<xs.length→t<e→T.al (m+t)=true→T.eff (m+e)=true→unord bf (m+t) (m+e)=true→(T.H (m+e+1)).get (T.H (m+t)).n=(T.H (m+t+1)).get (T.H (m+t)).n
 objs:∀ r b o,(r,b,o)∈al→∀ e,e<xs.length→T.eff (m+e)=true→unord bf r (m+e)=true→(T.H (m+e+1)).get b=o
 news:∀ t,t<xs.length→T.al (m+t)=true→(∀ n0,late=some n0→n0≤(T.H (m+t)).n)∧(T.H (m+t)).get (T.H (m+t)).n=none∧∀ x∈al,x.2.1≠(T.H (m+t)).n
 apart:∀ (t u:Nat),u<xs.length→t<u→T.al (m+t)=true→T.al (m+u)=true→(T.H (m+t)).n≠(T.H (m+u)).n
def Tc.cons (m:Nat) (fr:List Value) (σ:aB) (v:Value) (eff:Bool) (q:Option Act) (al:Bool) (T:Tc):Tc where
 F i:=if i=m then fr else T.F i
 H i:=if i=m then σ else T.H i
 V i:=if i=m then v else T.V i
 eff i:=if i=m then eff else T.eff i
 q i:=if i=m then q else T.q i
 al i:=if i=m then al else T.al i
theorem newOk_parts {n0:Nat} {σ:aB} {al:List rN} (h:newOk n0 σ al=true):n0≤σ.n∧σ.get σ.n=none∧∀ x∈al,x.2.1≠σ.n:=by
 unfold newOk uw at h
 simp only [Bool.and_eq_true,Nat.ble_eq,List.all_eq_true,List.mem_map,Bool.not_eq_true',forall_exists_index,and_imp,forall_apply_eq_imp_iff₂] at h
 obtain ⟨⟨h1,h2⟩,h3⟩:=h
 refine ⟨h1,?_,fun x hx e=>?_⟩
 ·cases hg:σ.get σ.n with
  |none=>rfl
  |some o=>rw [hg] at h2;cases h2
 ·have:=h3 x hx
  rw [e] at this
  simp at this
theorem kL {late:Option Nat} {T:Tc} {x:IOp} {xs:List IOp} {m:Nat} {fr:List Value} {σ:aB} {v:Value} {eff alv:Bool} {q:Option Act} {sn sn':List (Nat × aB)} {ld ld':List (Nat × Act × Value)} {al al':List rN} {all:List IOp}
  (h:pI P cf ops bf late T xs (m+1) sn' ld' al') (hF:T.F (m+1)=dQ fr x.2.dst v)
  (hs:(OffT ops x.2 fr∧v=undef'∧T.H (m+1)=σ∧eff=false∧q=none∧alv=false)∨(OnT ops x.2 fr∧
   (((bE P x.2 fr=.tot v∨bE P x.2 fr=.pure true v)∧T.H (m+1)=σ∧eff=false∧q=none∧alv=false)∨
   (∃ h,bE P x.2 fr=.act h∧(mL P x.2).isQuiet=true∧h σ=some (v,σ)∧T.H (m+1)=σ∧eff=false∧q=some h∧alv=false)∨
   (((∃ h,bE P x.2 fr=.act h∧h σ=some (v,T.H (m+1)))∨(∃ f args,bE P x.2 fr=.call f args∧cf f args σ=some (v,T.H (m+1))))∧mI P late.isSome x.2=true∧eff=true∧q=none∧alv=false)∨
   (∃ h,bE P x.2 fr=.act h∧dN x.2=true∧h σ=some (v,T.H (m+1))∧eff=false∧q=none∧alv=true∧late.isSome=true))))
  (hall:∀ x∈xs,x∈all) (hc:gS xs (m+1))
  (hsn:∀ p,p∈sn→p∈sn') (hsn1:eff=true→gF P m bf all=true→(m,σ)∈sn')
  (hld:∀ p,p∈ld→p∈ld') (hld1:∀ g,q=some g→(m,g,v)∈ld')
  (hpast:∀ g,q=some g→∀ e σ,(e,σ)∈sn→unord bf e m=true→oD g v σ)
  (hchk:eff=true→∀ r g u,(r,g,u)∈ld→unord bf r m=true→oD g u (T.H (m+1)))
  (hal:∀ p,p∈al→p∈al') (hal1:alv=true→(m,σ.n,(T.H (m+1)).get σ.n)∈al')
  (hnew:alv=true→(∀ n0,late=some n0→n0≤σ.n)∧σ.get σ.n=none∧∀ x∈al,x.2.1≠σ.n)
  (hchkO:eff=true→∀ r b o,(r,b,o)∈al→unord bf r m=true→(T.H (m+1)).get b=o):
  pI P cf ops bf late (Tc.cons m fr σ v eff q alv T) (x::xs) m sn ld al:=by
 have sh:∀ t:Nat,m+(t+1)=m+1+t:=fun t=>by omega
 have n0:∀ t:Nat,¬ (m+1+t=m):=fun t=>by omega
 have n1:∀ t:Nat,¬ (m+1+t+1=m):=fun t=>by omega
 have n2:¬ (m+1=m):=by omega
 constructor
 ·intro t y hy
  cases t with
  |zero=>
   simp only [List.getElem?_cons_zero,Option.some.injEq] at hy
   subst hy
   unfold kM DidT
   simp only [Tc.cons,Nat.add_zero,if_true,if_neg n2]
   exact ⟨hF,hs⟩
  |succ t=>
   rw [sh]
   have:=h.step t y (by simpa using hy)
   unfold kM DidT at this ⊢
   simpa only [Tc.cons,if_neg (n0 t),if_neg (n1 t)] using this
 ·intro t g ht hq e s hm hu
  cases t with
  |zero=>
   simp only [Tc.cons,Nat.add_zero,if_true] at hq ⊢
   exact hpast g hq e s hm hu
  |succ t=>
   rw [sh] at hq hu ⊢
   simp only [Tc.cons,if_neg (n0 t)] at hq ⊢
   exact h.past t g (by simpa using ht) hq e s (hsn _ hm) hu
 ·intro t g e ht het hq he hu
  cases t with
  |zero=>omega
  |succ t=>
   rw [sh] at hq hu ⊢
   simp only [Tc.cons,if_neg (n0 t)] at hq ⊢
   cases e with
   |zero=>
    simp only [Nat.add_zero] at hu ⊢
    simp only [Tc.cons,Nat.add_zero,if_true] at he ⊢
    have htl:t<xs.length:=by simpa using ht
    refine h.past t g htl hq m σ (hsn1 he ?_) hu
    unfold gF
    rw [List.any_eq_true]
    refine ⟨xs[t],hall _ (List.getElem_mem htl),?_⟩
    have hx:(xs[t]).1=m+1+t:=hc t _ (List.getElem?_eq_getElem htl)
    have hst:=h.step t xs[t] (List.getElem?_eq_getElem htl)
    have hqt:(mL P (xs[t]).2).isQuiet=true:=by
     rcases hst.2 with ⟨_,_,_,_,hn,_⟩|⟨_,⟨_,_,_,hn,_⟩|⟨g',_,hh,_⟩|⟨_,_,_,hn,_⟩|⟨_,_,_,_,_,hn,_⟩⟩
     ·rw [hq] at hn;cases hn
     ·rw [hq] at hn;cases hn
     ·exact hh
     ·rw [hq] at hn;cases hn
     ·rw [hq] at hn;cases hn
    rw [hx,hqt,hu]
    simp
    omega
   |succ e=>
    rw [sh e] at he hu ⊢
    simp only [if_neg (n0 e)] at ⊢
    simp only [Tc.cons,if_neg (n0 e)] at he
    exact h.back t g e (by simpa using ht) (by omega) hq he hu
 ·intro t g e he0 het hq he hu
  cases e with
  |zero=>omega
  |succ e=>
   rw [sh] at he hu ⊢
   simp only [Tc.cons,if_neg (n0 e),if_neg (n1 e)] at he ⊢
   cases t with
   |zero=>
    simp only [Nat.add_zero,if_true] at hq hu ⊢
    simp only [Tc.cons,if_true] at hq
    exact h.loads m g v (hld1 g hq) e (by simpa using he0) he hu
   |succ t=>
    rw [sh] at hq hu ⊢
    simp only [Tc.cons,if_neg (n0 t)] at hq ⊢
    exact h.ahead t g e (by simpa using he0) (by omega) hq he hu
 ·intro r g u hm e he0 he hu
  cases e with
  |zero=>
   simp only [Nat.add_zero] at hu ⊢
   simp only [Tc.cons,Nat.add_zero,if_true,if_neg n2] at he ⊢
   exact hchk he r g u hm hu
  |succ e=>
   rw [sh] at he hu ⊢
   simp only [Tc.cons,if_neg (n0 e),if_neg (n1 e)] at he ⊢
   exact h.loads r g u (hld _ hm) e (by simpa using he0) he hu
 ·intro t e he0 het ha he hu
  cases e with
  |zero=>omega
  |succ e=>
   rw [sh e] at he hu ⊢
   simp only [Tc.cons,if_neg (n0 e)] at he
   cases t with
   |zero=>
    simp only [Nat.add_zero] at ha hu ⊢
    simp only [Tc.cons,if_true] at ha
    simp only [Tc.cons,if_true,if_neg (n1 e),if_neg n2]
    exact h.objs m _ _ (hal1 ha) e (by simpa using he0) he hu
   |succ t=>
    rw [sh t] at ha hu ⊢
    simp only [Tc.cons,if_neg (n0 t)] at ha
    simp only [Tc.cons,if_neg (n0 t),if_neg (n1 t),if_neg (n1 e)]
    exact h.intact t e (by simpa using he0) (by omega) ha he hu
 ·intro r b o hm e he0 he hu
  cases e with
  |zero=>
   simp only [Nat.add_zero] at hu ⊢
   simp only [Tc.cons,Nat.add_zero,if_true,if_neg n2] at he ⊢
   exact hchkO he r b o hm hu
  |succ e=>
   rw [sh] at he hu ⊢
   simp only [Tc.cons,if_neg (n0 e),if_neg (n1 e)] at he ⊢
   exact h.objs r b o (hal _ hm) e (by simpa using he0) he hu
 ·intro t ht ha
  cases t with
  |zero=>
   simp only [Tc.cons,Nat.add_zero,if_true] at ha ⊢
   exact hnew ha
  |succ t=>
   rw [sh t] at ha ⊢
   simp only [Tc.cons,if_neg (n0 t)] at ha ⊢
   obtain ⟨g1,g2,g3⟩:=h.news t (by simpa using ht) ha
   exact ⟨g1,g2,fun x hx=>g3 x (hal x hx)⟩
 ·intro t u hu htu ha hb
  cases u with
  |zero=>omega
  |succ u=>
   rw [sh u] at hb ⊢
   simp only [Tc.cons,if_neg (n0 u)] at hb
   cases t with
   |zero=>
    simp only [Nat.add_zero] at ha ⊢
    simp only [Tc.cons,if_true] at ha
    simp only [Tc.cons,if_true,if_neg (n0 u)]
    exact (h.news u (by simpa using hu) hb).2.2 _ (hal1 ha)
   |succ t=>
    rw [sh t] at ha ⊢
    simp only [Tc.cons,if_neg (n0 t)] at ha
    simp only [Tc.cons,if_neg (n0 t),if_neg (n0 u)]
    exact h.apart t u (by simpa using hu) (by omega) ha hb
theorem jH {late:Option Nat} {all:List IOp} {k:List Value→Pg}:∀ (xs:List IOp) (m:Nat) (fr:List Value) (sn:List (Nat × aB)) (ld:List (Nat × Act × Value)) (al:List rN) (σ:aB),gS xs m→(∀ x∈xs,x∈all)→
  exec cf N (dY P late bf ops all xs fr sn ld al k) σ=some res→∃ T:Tc,T.F m=fr∧T.H m=σ∧exec cf N (k (T.F (m+xs.length))) (T.H (m+xs.length))=some res∧pI P cf ops bf late T xs m sn ld al
 |[],m,fr,sn,ld,al,σ,_,_,h=>by
  refine ⟨⟨fun _=>fr,fun _=>σ,fun _=>undef',fun _=>false,fun _=>none,fun _=>false⟩,rfl,rfl,h,?_⟩
  exact ⟨fun t x hx=>by simp at hx,fun t h ht=>by simp at ht,fun t h e ht=>by simp at ht,fun t h e he=>by simp at he,fun r h v _ e he=>by simp at he,fun t e he=>by simp at he,fun r b o _ e he=>by simp at he,fun t ht=>by simp at ht,fun t u hu=>by simp at hu⟩
 |x::xs,m,fr,sn,ld,al,σ,hc,ha,h=>by
  have hx1:x.1=m:=hc 0 x rfl
  have ha':∀ y∈xs,y∈all:=fun y hy=>ha y (by simp [hy])
  have len:∀ (v:Value) (eff:Bool) (q:Option Act) (a:Bool) (T:Tc),(Tc.cons m fr σ v eff q a T).F (m+(x::xs).length)=T.F (m+1+xs.length)∧(Tc.cons m fr σ v eff q a T).H (m+(x::xs).length)=T.H (m+1+xs.length)∧(Tc.cons m fr σ v eff q a T).F m=fr∧(Tc.cons m fr σ v eff q a T).H m=σ:=by
   intro v eff q a T
   have e:m+(x::xs).length=m+1+xs.length:=by simp;omega
   rw [e]
   have n:¬ (m+1+xs.length=m):=by omega
   simp [Tc.cons,n]
  have step:OnT ops x.2 fr→exec cf N (sH P late bf all x fr sn ld al fun fr sn ld al=>dY P late bf ops all xs fr sn ld al k) σ=some res→∃ T:Tc,T.F m=fr∧T.H m=σ∧exec cf N (k (T.F (m+(x::xs).length))) (T.H (m+(x::xs).length))=some res∧pI P cf ops bf late T (x::xs) m sn ld al:=by
   intro hon h
   rcases uh h with ⟨v,hv,h2⟩|⟨g,v,hg,hq,hgs,hck,h2⟩|⟨v,σ',hv,he,hck,hco,h2⟩|⟨n0,g,v,σ',hlate,hg,hal,hgs,hok,h2⟩
   ·obtain ⟨T,t1,t2,t3,t4⟩:=jH xs (m+1) _ sn ld al σ hc.tail ha' h2
    obtain ⟨l1,l2,l3,l4⟩:=len v false none false T
    refine ⟨Tc.cons m fr σ v false none false T,l3,l4,by rw [l1,l2];exact t3,?_⟩
    exact kL t4 t1 (.inr ⟨hon,.inl ⟨hv,t2,rfl,rfl,rfl⟩⟩) ha' hc.tail (fun _ h=>h) nofun (fun _ h=>h) nofun nofun nofun (fun _ h=>h) nofun nofun nofun
   ·obtain ⟨T,t1,t2,t3,t4⟩:=jH xs (m+1) _ sn _ al σ hc.tail ha' h2
    obtain ⟨l1,l2,l3,l4⟩:=len v false (some g) false T
    refine ⟨Tc.cons m fr σ v false (some g) false T,l3,l4,by rw [l1,l2];exact t3,?_⟩
    refine kL t4 t1 (.inr ⟨hon,.inr (.inl ⟨g,hg,hq,hgs,t2,rfl,rfl,rfl⟩)⟩) ha' hc.tail (fun _ h=>h) nofun (fun _ h=>by simp [h]) ?_ ?_ nofun (fun _ h=>h) nofun nofun nofun
    ·intro g' e
     cases e
     rw [hx1]
     simp
    ·intro g' e e2 s hm hu
     cases e
     rw [hx1] at hck
     exact nG hck e2 s hm hu
   ·obtain ⟨T,t1,t2,t3,t4⟩:=jH xs (m+1) _ _ ld al σ' hc.tail ha' h2
    obtain ⟨l1,l2,l3,l4⟩:=len v true none false T
    refine ⟨Tc.cons m fr σ v true none false T,l3,l4,by rw [l1,l2];exact t3,?_⟩
    rw [hx1] at t4 hck hco
    refine kL t4 t1 (.inr ⟨hon,.inr (.inr (.inl ⟨by rw [t2];exact hv,he,rfl,rfl,rfl⟩))⟩) ha' hc.tail ?_ ?_ (fun _ h=>h) nofun nofun ?_ (fun _ h=>h) nofun nofun ?_
    ·intro p hp
     cases gF P m bf all<;>simp [hp]
    ·intro _ hs
     rw [hs]
     simp
    ·intro _
     rw [t2]
     exact hck
    ·intro _
     rw [t2]
     exact hco
   ·obtain ⟨T,t1,t2,t3,t4⟩:=jH xs (m+1) _ sn ld _ σ' hc.tail ha' h2
    obtain ⟨l1,l2,l3,l4⟩:=len v false none true T
    refine ⟨Tc.cons m fr σ v false none true T,l3,l4,by rw [l1,l2];exact t3,?_⟩
    rw [hx1] at t4
    obtain ⟨o1,o2,o3⟩:=newOk_parts hok
    refine kL t4 t1 (.inr ⟨hon,.inr (.inr (.inr ⟨g,hg,hal,by rw [t2];exact hgs,rfl,rfl,rfl,by rw [hlate];rfl⟩))⟩) ha' hc.tail (fun _ h=>h) nofun (fun _ h=>h) nofun nofun nofun (fun _ h=>by simp [h]) ?_ ?_ nofun
    ·intro _
     rw [t2]
     simp
    ·intro _
     refine ⟨fun n1 e=>?_,o2,o3⟩
     rw [hlate] at e
     cases e
     exact o1
  have off:OffT ops x.2 fr→exec cf N (dY P late bf ops all xs (dQ fr x.2.dst undef') sn ld al k) σ=some res→∃ T:Tc,T.F m=fr∧T.H m=σ∧exec cf N (k (T.F (m+(x::xs).length))) (T.H (m+(x::xs).length))=some res∧pI P cf ops bf late T (x::xs) m sn ld al:=by
   intro hoff h
   obtain ⟨T,t1,t2,t3,t4⟩:=jH xs (m+1) _ sn ld al σ hc.tail ha' h
   obtain ⟨l1,l2,l3,l4⟩:=len undef' false none false T
   refine ⟨Tc.cons m fr σ undef' false none false T,l3,l4,by rw [l1,l2];exact t3,?_⟩
   exact kL t4 t1 (.inl ⟨hoff,rfl,t2,rfl,rfl,rfl⟩) ha' hc.tail (fun _ h=>h) nofun (fun _ h=>h) nofun nofun nofun (fun _ h=>h) nofun nofun nofun
  unfold dY at h
  cases hg:x.2.guard with
  |none=>
   rw [hg] at h
   exact step (.inl hg) h
  |some g=>
   obtain ⟨j,w⟩:=g
   rw [hg] at h
   simp only at h
   split at h
   ·cases h
   ·rename_i d hd
    split at h
    ·rename_i t ht
     exact off ⟨j,w,d,hg,hd,.inl ⟨t,ht⟩⟩ h
    ·rename_i b hb
     cases hbw:b==w with
     |true=>
      rw [hbw] at h
      simp only [cond_true] at h
      simp only [beq_iff_eq] at hbw
      subst hbw
      rw [mQ fr d _ hb nofun] at h
      exact step (.inr ⟨j,b,d,hg,hd,hb⟩) h
     |false=>
      rw [hbw] at h
      simp only [cond_false] at h
      have hbw':b=!w:=by cases b<;>cases w<;>simp_all
      subst hbw'
      rw [mQ fr d _ hb nofun] at h
      exact off ⟨j,w,d,hg,hd,.inr hb⟩ h
    ·cases h
end
end Go.Pg
namespace Go.Pg
section
variable {P:Program} {cf:gB} {N:Nat} {res:(Ex × List Value) × aB} {ops:Array Oper}
theorem opSem_congr {o:Oper} {fr fr':List Value} (h:∀ t,t∈jT ops o→getD fr t=getD fr' t):bE P o fr=bE P o fr':=by
 have hE:∀ x,x∈o.op.operands→ev P fr x=ev P fr' x:=by
  intro x hx
  cases x with
  |tmp t=>
   refine h t ?_
   unfold jT
   refine List.mem_append_left _ (List.mem_filterMap.2 ⟨.tmp t,by simpa using hx,rfl⟩)
  |_=>rfl
 have pairs:∀ ps:Array (Nat × Operand),(∀ x∈ps.toList.map (·.2),ev P fr x=ev P fr' x)→
   (ps.toList.map fun p=>(p.1,ev P fr p.2))=(ps.toList.map fun p=>(p.1,ev P fr' p.2)):=fun ps hp=>
  List.map_congr_left fun p hm=>by
   obtain ⟨i,x⟩:=p
   simp only [hp x (List.mem_map.2 ⟨(i,x),hm,rfl⟩)]
 unfold bE
 cases hop:o.op<;>rw [hop] at hE<;>simp only [Op.operands] at hE
 case build t ps=>simp only [pairs ps fun x hx=>hE x (by simpa using hx)]
 case buildSlice t n ps=>simp only [pairs ps fun x hx=>hE x (by simpa using hx)]
 case makeFunc fn first captured=>
  cases fn<;>simp only
  simp only [Array.map_congr_left (xs:=first) fun x hx=>hE x (by simp [hx]),Array.map_congr_left (xs:=captured) fun x hx=>hE x (by simp [hx])]
 case call c=>
  have hargs:c.args.toList.map (ev P fr)=c.args.toList.map (ev P fr'):=List.map_congr_left fun x hx=>hE x (by simp only [Call.operands];simp at hx;simp [hx])
  simp only [hargs]
  cases hc:c.callee with
  |value f=>have hf:ev P fr f=ev P fr' f:=hE f (by simp [Call.operands,hc]);simp only [hf]
  |_=>rfl
 case makeMap t r=>cases r<;>simp_all
 case slice t x lo hi mx=>cases lo<;>cases hi<;>cases mx<;>simp_all
 all_goals (first|rfl|(simp_all;done))
def lZ (L:List Nat):Nat→List Value→List Value
 |_,[]=>[]
 |i,v::r=>(bif sN i L then v else top)::lZ L (i+1) r
theorem sA (L:List Nat):∀ (i:Nat) (l:List Value),(lZ L i l).length=l.length
 |_,[]=>rfl
 |i,v::r=>by simp [lZ,sA L (i+1) r]
theorem tZ (L:List Nat):∀ (i:Nat) (l:List Value) (t:Nat),getD (lZ L i l) t=if t<l.length then (bif sN (i+t) L then getD l t else top) else .tuple #[]
 |i,[],t=>by simp [lZ,getD_nil]
 |i,v::r,0=>by simp [lZ,getD]
 |i,v::r,t+1=>by
  simp only [lZ,getD]
  rw [tZ L (i+1) r t]
  simp [show i+1+t=i+(t+1) by omega]
theorem pF {x:Nat} {L:List Nat}:sN x L=true↔x∈L:=by
 unfold sN
 rw [List.any_eq_true]
 constructor
 ·rintro ⟨y,hy,e⟩
  rw [Nat.eq_of_beq_eq_true e]
  exact hy
 ·intro h
  exact ⟨x,h,Nat.beq_refl x⟩
theorem getD_ge {l:List Value} {t:Nat} (h:¬ t<l.length):getD l t=.tuple #[]:=by
 rw [pK]
 simp at h
 simp [h]
theorem mask_FR {ι:Inj} {B:Nat} {L:List Nat} {fr:List Value} {ts:Array Value} (hl:fr.length=ts.size) (h:∀ t,t∈L→VR ι B (getD fr t) (ts.getD t Go.undef)):FR ι B (lZ L 0 fr) ts:=by
 refine ⟨by rw [sA];exact hl,fun t=>?_⟩
 rw [tZ]
 by_cases ht:t<fr.length
 ·rw [if_pos ht]
  cases hm:sN (0+t) L with
  |true=>simp only [cond_true];exact h t (by simpa using pF.1 hm)
  |false=>exact .top _
 ·rw [if_neg ht]
  have:ts.getD t Go.undef=Go.undef:=by
   have:¬ t<ts.size:=by omega
   simp [Array.getD,this]
  rw [this]
  exact VR.undef
theorem vb {L:List Nat} {fr:List Value} {t:Nat} (h:t∈L):getD (lZ L 0 fr) t=getD fr t:=by
 rw [tZ]
 by_cases ht:t<fr.length
 ·rw [if_pos ht,show sN (0+t) L=true from by rw [Nat.zero_add];exact pF.2 h]
  try rfl
 ·rw [if_neg ht,getD_ge ht]
theorem zJ {ι:Inj} {W0 W:World} {σ:aB} {o:Oper} {fr:List Value} {a:Go.Act} {next:Go.Act→World→Prop} {Q:Exit→Go.Act→World→Prop} {v:Value} {σ':aB} (hG:P.globals.size≤W0.heap.size) (hcf:zR P W0 cf) (R:Rel ι W0 σ W) (r:FR ι W0.heap.size fr a.tmps)
  (h:(σ'=σ∧(bE P o fr=.tot v∨bE P o fr=.pure true v))∨(∃ h,bE P o fr=.act h∧h σ=some (v,σ'))∨(∃ f args,bE P o fr=.call f args∧cf f args σ=some (v,σ')))
  (hn:∀ κ v' W1,ι.le κ→Rel κ W0 σ' W1→VR κ W0.heap.size v v'→next (a.put o.dst v') W1):o.wp P a W next Q:=by
 unfold Oper.wp
 rcases h with ⟨rfl,h⟩|⟨g,h1,h2⟩|⟨f,args,h1,h2⟩
 ·obtain ⟨v',hv,hrun⟩:=wu (W:=W) hG r h
  rw [hrun,Oper.upon_value]
  exact hn ι _ _ ι.le_refl R hv
 ·obtain ⟨κ,W',nx,v',hle,R',hrun,ho,hv⟩:=op_act hG R r h1 h2
  rw [hrun]
  cases nx with
  |value x=>
   simp only [outV,Option.some.injEq] at ho
   subst ho
   rw [Oper.upon_value]
   exact hn κ _ _ hle R' hv
  |skip=>
   simp only [outV,Option.some.injEq] at ho
   subst ho
   rw [Oper.upon_skip]
   exact hn κ _ _ hle R' hv
  |_=>simp [outV] at ho
 ·obtain ⟨args',hA,hrun⟩:=op_call (W:=W) hG r h1
  obtain ⟨hc,hcalls⟩:=hcf f args σ v σ' h2 ι W args' R hA
  rw [hrun,hc,Oper.upon_enter]
  refine hcalls.mono fun e w' he=>?_
  obtain ⟨v',κ,rfl,hle,hv,R'⟩:=he
  exact hn κ _ _ hle R' hv
def tX (ops:Array Oper) (S:Nat→Prop):Prop:=∀ j o,ops[j]?=some o→S j→∀ e∈o.after,Region.binds .any e=true→S e.on
theorem zk {A:Nat→Nat} {i:Nat}:∀ (l:List Edge) (s0:Nat),(l.foldl (fun s e=>if Region.binds .any e then s ||| 2 ^ e.on ||| A e.on else s) s0).testBit i=true→
  s0.testBit i=true∨∃ e∈l,Region.binds .any e=true∧(i=e.on∨(A e.on).testBit i=true)
 |[],s0,h=>.inl h
 |e::l,s0,h=>by
  simp only [List.foldl_cons] at h
  rcases zk l _ h with h|⟨e',h1,h2⟩
  ·cases hb:Region.binds .any e with
   |true=>
    rw [if_pos hb] at h
    simp only [Nat.testBit_or,Bool.or_eq_true,Nat.testBit_two_pow,decide_eq_true_eq] at h
    rcases h with (h|h)|h
    ·exact .inl h
    ·exact .inr ⟨e,by simp,hb,.inl h.symm⟩
    ·exact .inr ⟨e,by simp,hb,.inr h⟩
   |false=>
    rw [if_neg (by simp [hb])] at h
    exact .inl h
  ·exact .inr ⟨e',by simp [h1],h2⟩
theorem before_anc {S:Nat→Prop} (hS:tX ops S) {i j:Nat} (h:((Region.before ops).getD j 0).testBit i=true):∀ o,ops[j]?=some o→(∀ e∈o.after,Region.binds .any e=true→S e.on)→S i:=by
 have key:∀ (l:List Oper) (acc:Array Nat),(∀ t o,l[t]?=some o→ops[acc.size+t]?=some o)→
   (∀ j i,(acc.getD j 0).testBit i=true→∀ o,ops[j]?=some o→(∀ e∈o.after,Region.binds .any e=true→S e.on)→S i)→
   ∀ j i,((l.foldl (fun acc o=>acc.push (o.after.foldl (fun s e=>if Region.binds .any e then s ||| 2 ^ e.on ||| acc.getD e.on 0 else s) 0)) acc).getD j 0).testBit i=true→∀ o,ops[j]?=some o→(∀ e∈o.after,Region.binds .any e=true→S e.on)→S i:=by
  intro l
  induction l with
  |nil=>intro acc _ h;exact h
  |cons o l ih=>
   intro acc hl hacc
   simp only [List.foldl_cons]
   refine ih _ ?_ ?_
   ·intro t o' ho'
    have:=hl (t+1) o' (by simpa using ho')
    rw [Array.size_push,show acc.size+1+t=acc.size+(t+1) by omega]
    exact this
   ·intro j i hb o' ho' hdeps
    by_cases hj:j=acc.size
    ·subst hj
     have ho:=hl 0 o rfl
     rw [Nat.add_zero] at ho
     rw [ho] at ho'
     cases ho'
     have e1:(acc.push (o.after.foldl (fun s e=>if Region.binds .any e then s ||| 2 ^ e.on ||| acc.getD e.on 0 else s) 0)).getD acc.size 0=o.after.foldl (fun s e=>if Region.binds .any e then s ||| 2 ^ e.on ||| acc.getD e.on 0 else s) 0:=by simp
     rw [e1,←Array.foldl_toList] at hb
     rcases zk (A:=fun k=>acc.getD k 0) _ _ hb with h0|⟨e,he,hbind,h1⟩
     ·simp at h0
     ·have hm:e∈o.after:=by simpa using he
      have hse:=hdeps e hm hbind
      rcases h1 with rfl|h1
      ·exact hse
      ·have hlt:e.on<acc.size:=by
        rcases Nat.lt_or_ge e.on acc.size with h'|h'
        ·exact h'
        ·rw [show acc.getD e.on 0=0 by simp [h']] at h1
         simp at h1
       cases hoe:ops[e.on]? with
       |none=>
        rw [Array.getElem?_eq_none_iff] at hoe
        have:=(Array.getElem?_eq_some_iff.1 ho).1
        omega
       |some oe=>exact hacc e.on i h1 oe hoe (hS e.on oe hoe hse)
    ·have e1:(acc.push (o.after.foldl (fun s e=>if Region.binds .any e then s ||| 2 ^ e.on ||| acc.getD e.on 0 else s) 0)).getD j 0=acc.getD j 0:=by
      simp only [Array.getD_eq_getD_getElem?,Array.getElem?_push]
      rw [if_neg hj]
     rw [e1] at hb
     exact hacc j i hb o' ho' hdeps
 intro o ho hdeps
 unfold Region.before at h
 rw [←Array.foldl_toList] at h
 refine key ops.toList #[] ?_ ?_ j i h o ho hdeps
 ·intro t o' ho'
  simpa using ho'
 ·intro j i hb
  simp at hb
theorem unord_symm {bf:Array Nat} {i j:Nat} (h:i≠j):unord bf i j=unord bf j i:=by
 unfold unord
 rcases Nat.lt_or_gt_of_ne h with h|h
 ·have h1:Nat.blt i j=true:=by simp;omega
  have h2:Nat.blt j i=false:=by rw [Bool.eq_false_iff];simp;omega
  rw [h1,h2]
  try rfl
 ·have h1:Nat.blt j i=true:=by simp;omega
  have h2:Nat.blt i j=false:=by rw [Bool.eq_false_iff];simp;omega
  rw [h1,h2]
  try rfl
theorem anc {S:Nat→Prop} (hS:tX ops S) {i j:Nat} (h:unord (Region.before ops) i j=false) (hij:i<j) {o:Oper} (ho:ops[j]?=some o) (hd:∀ e∈o.after,Region.binds .any e=true→S e.on):S i:=by
 refine before_anc hS ?_ o ho hd
 unfold unord at h
 rw [show Nat.blt i j=true by simp;omega] at h
 simpa using h
theorem anc' {S:Nat→Prop} (hS:tX ops S) {i j:Nat} (h:unord (Region.before ops) i j=false) (hij:i<j) {o:Oper} (ho:ops[j]?=some o) (hj:S j):S i:=anc hS h hij ho (hS j o ho hj)
end
end Go.Pg
namespace Go.Pg
section
variable {P:Program} {cf:gB} {N:Nat} {res:(Ex × List Value) × aB} {ops:Array Oper}
def SL (listed:Array Bool):Nat→Prop:=fun j=>listed.getD j false=true
theorem uQ {listed:Array Bool} {k j:Nat} (hk:k<listed.size):SL (listed.setIfInBounds k true) j↔(j=k∨SL listed j):=by
 unfold SL
 simp only [Array.getD_eq_getD_getElem?,Array.getElem?_setIfInBounds]
 by_cases h:k=j
 ·subst h
  simp [hk]
 ·rw [if_neg h]
  constructor
  ·exact .inr
  ·rintro (e|e)
   ·exact absurd e.symm h
   ·exact e
theorem SL_not {listed:Array Bool} {j:Nat} (h:listed.getD j true=false):¬ SL listed j∧j<listed.size:=by
 unfold SL
 by_cases hj:j<listed.size
 ·simp [hj] at h ⊢
  exact h
 ·simp [hj] at h
theorem SL_of_not {listed:Array Bool} {j:Nat} (hj:j<listed.size) (h:¬ SL listed j):listed.getD j true=false:=by
 unfold SL at h
 simp [hj] at h ⊢
 exact h
def tG (listed:Array Bool):List Nat→Nat
 |[]=>0
 |j::r=>(if listed.getD j true=true then 0 else 1)+tG listed r
theorem cntU_le {listed:Array Bool} {k:Nat}:∀ l:List Nat,tG (listed.setIfInBounds k true) l≤tG listed l
 |[]=>Nat.le_refl _
 |j::r=>by
  have ih:=cntU_le (listed:=listed) (k:=k) r
  unfold tG
  by_cases hk:k=j
  ·subst hk
   have:(listed.setIfInBounds k true).getD k true=true:=by
    simp only [Array.getD_eq_getD_getElem?,Array.getElem?_setIfInBounds]
    split<;>rename_i h
    ·split<;>rfl
    ·exact absurd trivial h
   rw [if_pos this]
   omega
  ·rw [getD_set_ne true hk]
   omega
theorem cntU_lt {listed:Array Bool} {k:Nat} (hk:listed.getD k true=false):∀ l:List Nat,k∈l→tG (listed.setIfInBounds k true) l+1≤tG listed l
 |[],h=>by cases h
 |j::r,h=>by
  have ih2:=cntU_le (listed:=listed) (k:=k) r
  by_cases hj:k=j
  ·subst hj
   unfold tG
   have:(listed.setIfInBounds k true).getD k true=true:=by
    simp only [Array.getD_eq_getD_getElem?,Array.getElem?_setIfInBounds]
    split<;>rename_i h
    ·split<;>rfl
    ·exact absurd trivial h
   rw [if_pos this,if_neg (by rw [hk];decide)]
   omega
  ·have ih:=cntU_lt hk r (by simpa [hj] using h)
   unfold tG
   rw [getD_set_ne true hj]
   omega
theorem yw {listed:Array Bool}:∀ l:List Nat,tG listed l=0→∀ j,j∈l→listed.getD j true=true
 |[],_,j,h=>by cases h
 |i::r,hc,j,h=>by
  unfold tG at hc
  rcases List.mem_cons.1 h with rfl|h
  ·by_cases e:listed.getD j true=true
   ·exact e
   ·rw [if_neg e] at hc;omega
  ·exact yw r (by omega) j h
theorem slots_of {bf:Array Nat} (h:cJ bf ops (aX ops)=true):
  (∀ (i:Nat) o,ops[i]?=some o→∀ e∈o.after,Region.binds .any e=true→e.on<i)∧
  (∀ (i j:Nat) oi oj d,ops[i]?=some oi→ops[j]?=some oj→oj.dst=some d→i≠j→(oi.dst=some d∨d∈jT ops oi)→unord bf i j=false):=by
 have mem:∀ (i:Nat) o,ops[i]?=some o→(i,o)∈aX ops:=fun i o ho=>List.mem_of_getElem? (i:=i) (by rw [dX,ho];rfl)
 unfold cJ at h
 rw [Bool.and_eq_true] at h
 obtain ⟨h1,h2⟩:=h
 rw [List.all_eq_true] at h1 h2
 constructor
 ·intro i o ho e he hb
  have:=h1 _ (mem i o ho)
  rw [List.all_eq_true] at this
  have:=this e (by simpa using he)
  rw [hb] at this
  simpa using this
 ·intro i j oi oj d hi hj hd hne hlook
  have:=h2 _ (mem j oj hj)
  simp only [hd] at this
  rw [List.all_eq_true] at this
  have:=this _ (mem i oi hi)
  simp only [Bool.or_eq_true,Bool.not_eq_true'] at this
  rcases this with (h|h)|h
  ·exact absurd (Nat.eq_of_beq_eq_true h) hne
  ·exact h
  ·exfalso
   rw [Bool.or_eq_false_iff] at h
   rcases hlook with hl|hl
   ·rw [hl] at h
    simp [vG] at h
   ·have:(jT ops oi).any (Nat.beq d)=true:=by
     rw [List.any_eq_true]
     exact ⟨d,hl,Nat.beq_refl d⟩
    rw [this] at h
    exact absurd h.2 (by decide)
theorem eff_of {late:Bool} {bf:Array Nat} (h:dL P late bf (aX ops)=true) {i j:Nat} {oi oj:Oper} (hi:ops[i]?=some oi) (hj:ops[j]?=some oj) (h1:mI P late oi=true) (h2:mI P late oj=true) (hij:i<j):unord bf i j=false:=by
 have mem:∀ (i:Nat) o,ops[i]?=some o→(i,o)∈aX ops:=fun i o ho=>List.mem_of_getElem? (i:=i) (by rw [dX,ho];rfl)
 unfold dL at h
 rw [List.all_eq_true] at h
 have:=h _ (mem i oi hi)
 rw [h1] at this
 simp only [Bool.not_true,Bool.false_or] at this
 rw [List.all_eq_true] at this
 have:=this _ (mem j oj hj)
 rw [h2] at this
 simp only [Bool.not_true,Bool.false_or,Bool.or_eq_true,Nat.ble_eq,Bool.not_eq_true'] at this
 rcases this with h|h
 ·omega
 ·exact h
theorem first_of {bf:Array Nat} (h:eO P bf (aX ops)=true) {i j:Nat} {oi oj:Oper} (hi:ops[i]?=some oi) (hj:ops[j]?=some oj) (h1:mI P true oi=true) (h2:dN oj=true) (hij:i<j):unord bf i j=false:=by
 have mem:∀ (i:Nat) o,ops[i]?=some o→(i,o)∈aX ops:=fun i o ho=>List.mem_of_getElem? (i:=i) (by rw [dX,ho];rfl)
 unfold eO at h
 rw [List.all_eq_true] at h
 have:=h _ (mem i oi hi)
 rw [h1] at this
 simp only [Bool.not_true,Bool.false_or] at this
 rw [List.all_eq_true] at this
 have:=this _ (mem j oj hj)
 rw [h2] at this
 simp only [Bool.not_true,Bool.false_or,Bool.or_eq_true,Nat.ble_eq,Bool.not_eq_true'] at this
 rcases this with h|h
 ·omega
 ·exact h
variable {W0:World} {T:Tc} {n:Nat} {late:Bool}
theorem xB (hst:∀ (i:Nat) o,ops[i]?=some o→kM P cf ops late T i o) {i:Nat} {o:Oper} (ho:ops[i]?=some o) (ha:T.al i=true):
  OnT ops o (T.F i)∧T.eff i=false∧dN o=true∧∃ h ao,bE P o (T.F i)=.act h∧h (T.H i)=some (T.V i,T.H (i+1))∧T.H (i+1)=(T.H i).push ao:=by
 rcases (hst i o ho).2 with ⟨_,_,_,_,_,h⟩|⟨hon,⟨_,_,_,_,h⟩|⟨_,_,_,_,_,_,_,h⟩|⟨_,_,_,_,h⟩|⟨h,h1,h2,h3,h4,_⟩⟩
 ·rw [ha] at h;cases h
 ·rw [ha] at h;cases h
 ·rw [ha] at h;cases h
 ·rw [ha] at h;cases h
 ·obtain ⟨ao,hp⟩:=alloc_push h2 h1 h3
  exact ⟨hon,h4,h2,h,ao,h1,h3,hp⟩
theorem pB (hst:∀ (i:Nat) o,ops[i]?=some o→kM P cf ops late T i o) (hfr:∀ i,i<ops.size→T.al i=true→(T.H i).get (T.H i).n=none) {a:Nat}:∀ (b:Nat),a≤b→b≤ops.size→(∀ e,a≤e→e<b→T.eff e=false)→eP (T.H a) (T.H b):=by
 intro b
 induction b with
 |zero=>intro h _ _;rw [Nat.le_zero.1 h];exact .refl _
 |succ b ih=>
  intro h1 h2 h3
  by_cases hb:a=b+1
  ·rw [hb];exact .refl _
  ·have hp:=ih (by omega) (by omega) fun e h4 h5=>h3 e h4 (by omega)
   have ho:ops[b]?=some ops[b]:=Array.getElem?_eq_getElem (by omega)
   have hf:=h3 b (by omega) (by omega)
   cases ha:T.al b with
   |true=>
    obtain ⟨_,_,_,_,ao,_,_,hpu⟩:=xB hst ho ha
    rw [hpu]
    exact .push ao hp (hfr b (by omega) ha)
   |false=>
    have:T.H (b+1)=T.H b:=by
     rcases (hst b _ ho).2 with ⟨_,_,h,_⟩|⟨_,⟨_,h,_⟩|⟨_,_,_,_,h,_⟩|⟨_,_,h,_⟩|⟨_,_,_,_,_,_,h,_⟩⟩
     ·exact h
     ·exact h
     ·exact h
     ·rw [hf] at h;cases h
     ·rw [ha] at h;cases h
    rw [this]
    exact hp
theorem last_in (p:Nat→Bool) (a:Nat):∀ b,(∀ e,a≤e→e<b→p e=false)∨∃ e,a≤e∧e<b∧p e=true∧∀ f,e<f→f<b→p f=false
 |0=>.inl fun e _ h=>by omega
 |b+1=>by
  by_cases hb:a≤b∧p b=true
  ·exact .inr ⟨b,hb.1,by omega,hb.2,fun f h1 h2=>by omega⟩
  ·rcases last_in p a b with h|⟨e,h1,h2,h3,h4⟩
   ·refine .inl fun e h1 h2=>?_
    by_cases he:e=b
    ·subst he
     cases hp:p e with
     |false=>rfl
     |true=>exact absurd ⟨h1,hp⟩ hb
    ·exact h e h1 (by omega)
   ·refine .inr ⟨e,h1,by omega,h3,fun f h5 h6=>?_⟩
    by_cases he:f=b
    ·subst he
     cases hp:p f with
     |false=>rfl
     |true=>exact absurd ⟨by omega,hp⟩ hb
    ·exact h4 f h5 (by omega)
theorem first_in (p:Nat→Bool) (a:Nat):∀ b,(∀ e,a≤e→e<b→p e=false)∨∃ e,a≤e∧e<b∧p e=true∧∀ f,a≤f→f<e→p f=false
 |0=>.inl fun e _ h=>by omega
 |b+1=>by
  rcases first_in p a b with h|⟨e,h1,h2,h3,h4⟩
  ·by_cases hb:a≤b∧p b=true
   ·exact .inr ⟨b,hb.1,by omega,hb.2,fun f h1 h2=>h f h1 h2⟩
   ·refine .inl fun e h1 h2=>?_
    by_cases he:e=b
    ·subst he
     cases hp:p e with
     |false=>rfl
     |true=>exact absurd ⟨h1,hp⟩ hb
    ·exact h e h1 (by omega)
  ·exact .inr ⟨e,h1,by omega,h3,h4⟩
def Pend (ops:Array Oper) (T:Tc) (S:Nat→Prop) (m:Nat) (κ:Inj):Prop:=
 ∀ i,i<m→i<ops.size→T.al i=true→¬ S i→κ.dead (T.H i).n∧(T.H m).get (T.H i).n=(T.H (i+1)).get (T.H i).n
structure InvT (ops:Array Oper) (W0:World) (T:Tc) (ι:Inj) (d:List Deferred) (listed:Array Bool) (a:Go.Act) (W:World):Prop where
 size:listed.size=ops.size
 closed:tX ops (SL listed)
 heap:∃ m κ,m≤ops.size∧ι.le κ∧Rel κ W0 (T.H m) W∧(∀ e,e<ops.size→T.eff e=true→(SL listed e↔e<m))∧(m=ops.size∨T.eff m=true)∧Pend ops T (SL listed) m κ∧
  ∀ i,i≤ops.size→∀ t,(∀ (j:Nat) o,ops[j]?=some o→o.dst=some t→(SL listed j↔j<i))→VR κ W0.heap.size (getD (T.F i) t) (a.tmps.getD t Go.undef)
 len:(T.F 0).length=a.tmps.size
 defers:a.defers=d
theorem zu (hst:∀ (i:Nat) o,ops[i]?=some o→kM P cf ops late T i o):∀ i,i≤ops.size→(T.F i).length=(T.F 0).length
 |0,_=>rfl
 |i+1,h=>by
  rw [(hst i ops[i] (Array.getElem?_eq_getElem (by omega))).1]
  rw [←zu hst i (by omega)]
  cases (ops[i]).dst with
  |none=>rfl
  |some d=>exact jL _ _ _
theorem wj (hst:∀ (i:Nat) o,ops[i]?=some o→kM P cf ops late T i o) {t a:Nat}:∀ b,a≤b→b≤ops.size→(∀ (j:Nat) o,a≤j→j<b→ops[j]?=some o→o.dst≠some t)→getD (T.F b) t=getD (T.F a) t
 |0,h,_,_=>by rw [Nat.le_zero.1 h]
 |b+1,h1,h2,h3=>by
  by_cases hb:a=b+1
  ·rw [hb]
  ·have ho:ops[b]?=some ops[b]:=Array.getElem?_eq_getElem (by omega)
   rw [(hst b _ ho).1,←wj hst b (by omega) (by omega) fun j o h4 h5=>h3 j o h4 (by omega)]
   have hne:=h3 b _ (by omega) (by omega) ho
   cases hd:(ops[b]).dst with
   |none=>rfl
   |some d=>
    show getD (kO (T.F b) d _) t=_
    rw [kJ,if_neg]
    rintro ⟨rfl,_⟩
    exact hne hd
theorem put_size (a:Go.Act) (d:Option Tmp) (v:Value):(a.put d v).tmps.size=a.tmps.size:=by
 cases d with
 |none=>rfl
 |some d=>simp [Go.Act.put]
theorem InvT.put {ι κ:Inj} {d:List Deferred} {listed:Array Bool} {a:Go.Act} {W W1:World} (I:InvT ops W0 T ι d listed a W) (hst:∀ (i:Nat) o,ops[i]?=some o→kM P cf ops late T i o)
  (hso:cJ (Region.before ops) ops (aX ops)=true) {k:Nat} {o:Oper} (ho:ops[k]?=some o) (hnk:¬ SL listed k) (hdep:∀ e∈o.after,Region.binds .any e=true→SL listed e.on)
  {m':Nat} {v':Value} {κ':Inj} (hκ:ι.le κ') (hκ':κ.lem κ') (hm':m'≤ops.size) (R':Rel κ' W0 (T.H m') W1) (hv:VR κ' W0.heap.size (T.V k) v')
  (hfr:∀ i,i≤ops.size→∀ t,(∀ (j:Nat) o,ops[j]?=some o→o.dst=some t→(SL listed j↔j<i))→VR κ W0.heap.size (getD (T.F i) t) (a.tmps.getD t Go.undef))
  (heff:∀ e,e<ops.size→T.eff e=true→((e=k∨SL listed e)↔e<m')) (hmax:m'=ops.size∨T.eff m'=true) (hpend:Pend ops T (fun j=>j=k∨SL listed j) m' κ'):
  InvT ops W0 T ι d (listed.setIfInBounds k true) (a.put o.dst v') W1:=by
 have hk:k<ops.size:=(Array.getElem?_eq_some_iff.1 ho).1
 have hk':k<listed.size:=by rw [I.size];exact hk
 obtain ⟨hback,hslots⟩:=slots_of hso
 refine ⟨by simp [I.size],?_,⟨m',κ',hm',hκ,R',?_,hmax,fun i h1 h2 h3 h4=>hpend i h1 h2 h3 fun h5=>h4 ((uQ hk').2 h5),?_⟩,by rw [put_size];exact I.len,by rw [gX];exact I.defers⟩
 ·intro j oj hj hs e he hb
  rw [uQ hk'] at hs ⊢
  rcases hs with rfl|hs
  ·rw [ho] at hj
   cases hj
   exact .inr (hdep e he hb)
  ·exact .inr (I.closed j oj hj hs e he hb)
 ·intro e he hee
  rw [uQ hk']
  exact heff e he hee
 ·intro i hi t hwr
  by_cases hd:o.dst=some t
  ·have hki:k<i:=(hwr k o ho hd).1 ((uQ hk').2 (.inl rfl))
   have e1:getD (T.F i) t=getD (T.F (k+1)) t:=by
    refine wj hst i (by omega) hi fun j oj h1 h2 hj hdj=>?_
    have hs:=(hwr j oj hj hdj).2 h2
    rw [uQ hk'] at hs
    rcases hs with rfl|hs
    ·omega
    ·exact hnk (anc' I.closed (hslots k j o oj t ho hj hdj (by omega) (.inl hd)) (by omega) hj hs)
   rw [e1,(hst k o ho).1,hd]
   show VR κ' W0.heap.size (getD (kO (T.F k) t (T.V k)) t) ((a.tmps.setIfInBounds t v').getD t Go.undef)
   have hl:(T.F k).length=a.tmps.size:=by rw [zu hst k (by omega)];exact I.len
   rw [kJ]
   by_cases ht:t<(T.F k).length
   ·rw [if_pos ⟨rfl,ht⟩]
    have ht':t<a.tmps.size:=hl▸ht
    have:(a.tmps.setIfInBounds t v').getD t Go.undef=v':=by simp [Array.getD,ht']
    rw [this]
    exact hv
   ·rw [if_neg fun h=>ht h.2,getD_ge ht]
    have:(a.tmps.setIfInBounds t v').getD t Go.undef=Go.undef:=by
     have:¬ t<a.tmps.size:=hl▸ht
     simp [Array.getD,this]
    rw [this]
    exact VR.undef
  ·have e1:(a.put o.dst v').tmps.getD t Go.undef=a.tmps.getD t Go.undef:=by
    cases hdo:o.dst with
    |none=>rfl
    |some d'=>
     show (a.tmps.setIfInBounds d' v').getD t Go.undef=_
     simp only [Array.getD_eq_getD_getElem?,Array.getElem?_setIfInBounds]
     rw [if_neg]
     rintro rfl
     exact hd hdo
   rw [e1]
   refine (hfr i hi t fun j oj hj hdj=>?_).monoM hκ'
   rw [←hwr j oj hj hdj,uQ hk']
   constructor
   ·exact .inr
   ·rintro (rfl|h)
    ·rw [ho] at hj
     cases hj
     exact absurd hdj hd
    ·exact h
end
end Go.Pg
namespace Go.Pg
section
variable {P:Program} {cf:gB} {N:Nat} {res:(Ex × List Value) × aB} {ops:Array Oper} {W0:World} {T:Tc} {late:Option Nat}
theorem wg (htr:pI P cf ops (Region.before ops) late T (aX ops) 0 [] [] []):∀ i,i<ops.size→T.al i=true→(T.H i).get (T.H i).n=none:=by
 intro i hi ha
 have hlen:(aX ops).length=ops.size:=by have:=congrArg List.length (fQ ops);simpa using this
 have:=(htr.news i (by omega) (by rw [Nat.zero_add];exact ha)).2.1
 simpa using this
theorem quiet_look (hst:∀ (i:Nat) o,ops[i]?=some o→kM P cf ops late.isSome T i o) (htr:pI P cf ops (Region.before ops) late T (aX ops) 0 [] [] []) {S:Nat→Prop} (hS:tX ops S) {k m:Nat} {o:Oper} {h:Act} (ho:ops[k]?=some o) (hnk:¬ S k)
  (hdep:∀ e∈o.after,Region.binds .any e=true→S e.on) (hm:m≤ops.size) (heff:∀ e,e<ops.size→T.eff e=true→(S e↔e<m)) (hmax:m=ops.size∨T.eff m=true) (hq:T.q k=some h) (hqq:(mL P o).isQuiet=true) (hact:bE P o (T.F k)=.act h) (hek:T.eff k=false) (hh:oD h (T.V k) (T.H k)):oD h (T.V k) (T.H m):=by
 have hk:k<ops.size:=(Array.getElem?_eq_some_iff.1 ho).1
 have hlen:(aX ops).length=ops.size:=by have:=congrArg List.length (fQ ops);simpa using this
 have hfr:=wg htr
 by_cases hmk:m≤k
 ·have hem:T.eff m=true:=hmax.resolve_left (by omega)
  have hlt:m<k:=by
   rcases Nat.lt_or_ge m k with h|h
   ·exact h
   ·have:m=k:=by omega
    rw [this,hek] at hem
    cases hem
  have hne:¬ S m:=fun hs=>by have:=(heff m (by omega) hem).1 hs;omega
  have hu:unord (Region.before ops) m k=true:=by
   cases hu:unord (Region.before ops) m k with
   |true=>rfl
   |false=>exact absurd (anc hS hu hlt ho hdep) hne
  have:=htr.back k h m (by omega) hlt (by rw [Nat.zero_add];exact hq) (by rw [Nat.zero_add];exact hem) (by rw [Nat.zero_add,Nat.zero_add];exact hu)
  simpa using this
 ·rcases last_in T.eff k m with h0|⟨e,h1,h2,h3,h4⟩
  ·exact wh (pB hst hfr m (by omega) hm h0) hqq hact hh
  ·have hke:k<e:=by
    rcases Nat.lt_or_ge k e with h|h
    ·exact h
    ·have:e=k:=by omega
     subst this
     rw [hek] at h3
     cases h3
   have hse:S e:=(heff e (by omega) h3).2 h2
   have hu:unord (Region.before ops) k e=true:=by
    cases hu:unord (Region.before ops) k e with
    |true=>rfl
    |false=>exact absurd (anc' hS hu hke (Array.getElem?_eq_getElem (by omega)) hse) hnk
   have:=htr.ahead k h e (by omega) hke (by rw [Nat.zero_add];exact hq) (by rw [Nat.zero_add];exact h3) (by rw [Nat.zero_add,Nat.zero_add];exact hu)
   simp only [Nat.zero_add] at this
   exact wh (pB hst hfr m (by omega) hm fun f h5 h6=>h4 f (by omega) h6) hqq hact this
theorem Rel.redead {κ:Inj} {W:World} {σ:aB} (R:Rel κ W0 σ W) (D:Nat→Prop) (hD:∀ b,D b→b<σ.n∧∀ v,κ b v=none):Rel ⟨κ.map,D,κ.keep⟩ W0 σ W:=by
 have hl:κ.lem ⟨κ.map,D,κ.keep⟩:=fun _ _ _ h=>h
 refine { below:=R.below,old:=R.old,dom:=R.dom,inj:=R.inj,samelo:=R.samelo,blk:=?_,vers:=R.vers,map:=?_,iter:=R.iter,dead:=hD,fresh:=R.fresh,kept:=R.kept }
 ·intro b B v i hB hi
  have OK:=R.blk b B v i hB hi
  refine { last:=OK.last,ne:=OK.ne,dirty:=OK.dirty,one:=OK.one,ver:=fun v hi hh=>?_ }
  obtain ⟨i,f1,f2,f3,f4⟩:=OK.ver v hi hh
  refine ⟨i,f1,f2,f3,fun hd=>?_⟩
  obtain ⟨g1,g2,g3,g4,g5⟩:=f4 hd
  refine ⟨g1,g2,g3,g4,fun o h1 h2=>?_⟩
  obtain ⟨x,y,r1,r2,r3⟩:=g5 o h1 h2
  exact ⟨x,y,r1,r2,r3.monoM hl⟩
 ·intro b es v i hB hi
  obtain ⟨i,f1,ents,clock,f2,f3⟩:=R.map b es v i hB hi
  exact ⟨i,f1,ents,clock,f2,f3.monoM hl⟩
theorem Rel.ahead {κ:Inj} {W:World} (hst:∀ (i:Nat) o,ops[i]?=some o→kM P cf ops late.isSome T i o) (hfr:∀ i,i<ops.size→T.al i=true→(T.H i).get (T.H i).n=none) {a b:Nat} (hab:a≤b) (hb:b≤ops.size)
  (hne:∀ e,a≤e→e<b→T.eff e=false) (R:Rel κ W0 (T.H a) W):
  Rel ⟨κ.map,fun c=>κ.dead c∨∃ i,a≤i∧i<b∧T.al i=true∧c=(T.H i).n,κ.keep⟩ W0 (T.H b) W:=by
 have hp:=pB hst hfr b hab hb hne
 have R':=hp.rel R
 refine R'.redead _ ?_
 rintro c (hc|⟨i,h1,h2,h3,rfl⟩)
 ·exact R'.dead c hc
 ·obtain ⟨_,_,_,_,ao,_,_,hpu⟩:=xB hst (Array.getElem?_eq_getElem (show i<ops.size by omega)) h3
  have hp1:eP (T.H a) (T.H i):=pB hst hfr i h1 (by omega) fun e h4 h5=>hne e h4 (by omega)
  have hp2:eP (T.H (i+1)) (T.H b):=pB hst hfr b (by omega) hb fun e h4 h5=>hne e (by omega) h5
  have e1:=hp2.n_le
  rw [hpu] at e1
  simp only [aB.push_n] at e1
  refine ⟨by omega,fun v=>?_⟩
  cases hv:κ (T.H i).n v with
  |none=>rfl
  |some x=>
   have:=(R.dom _ _ _ hv).1
   have:=hp1.n_le
   omega
theorem next_eff (p:Nat→Bool) (a n:Nat) (h:a≤n):∃ m,a≤m∧m≤n∧(m=n∨p m=true)∧∀ e,a≤e→e<m→p e=false:=by
 rcases first_in p a n with h0|⟨e,h1,h2,h3,h4⟩
 ·exact ⟨n,h,Nat.le_refl _,.inl rfl,h0⟩
 ·exact ⟨e,h1,by omega,.inr h3,h4⟩
theorem any_sound {Q:Exit→Go.Act→World→Prop} {ι:Inj} {d:List Deferred} (hG:P.globals.size≤W0.heap.size) (hcf:zR P W0 cf) (hst:∀ (i:Nat) o,ops[i]?=some o→kM P cf ops late.isSome T i o) (htr:pI P cf ops (Region.before ops) late T (aX ops) 0 [] [] [])
  (hso:cJ (Region.before ops) ops (aX ops)=true) (heo:dL P late.isSome (Region.before ops) (aX ops)=true) (hfo:late.isSome=true→eO P (Region.before ops) (aX ops)=true)
  (hdead:∀ n0,late=some n0→∀ b,ι.dead b→b<n0)
  (hn:∀ κ a' W',ι.le κ→Rel κ W0 (T.H ops.size) W'→FR κ W0.heap.size (T.F ops.size) a'.tmps→a'.defers=d→Q .normal a' W'):
  ∀ (fuel:Nat) (listed:Array Bool) (a:Go.Act) (W:World),tG listed (List.range ops.size)≤fuel→InvT ops W0 T ι d listed a W→wpAny P .any ops Q fuel listed a W:=by
 obtain ⟨hback,hslots⟩:=slots_of hso
 have hlen:(aX ops).length=ops.size:=by have:=congrArg List.length (fQ ops);simpa using this
 have hfr:=wg htr
 have done:∀ (listed:Array Bool) (a:Go.Act) (W:World),InvT ops W0 T ι d listed a W→(∀ j,j<ops.size→SL listed j)→Q .normal a W:=by
  intro listed a W I hall
  obtain ⟨m,κ,hm,hle,R,heff,hmax,hpend,hfrm⟩:=I.heap
  have hmn:m=ops.size:=by
   rcases Nat.lt_or_ge m ops.size with h|h
   ·have he:=hmax.resolve_left (by omega)
    have:=(heff m h he).1 (hall m h)
    omega
   ·omega
  subst hmn
  refine hn κ a W hle R ⟨by rw [zu hst _ (Nat.le_refl _)];exact I.len,fun t=>hfrm _ (Nat.le_refl _) t fun j o hj _=>?_⟩ I.defers
  have hlt:=(Array.getElem?_eq_some_iff.1 hj).1
  exact ⟨fun _=>hlt,fun _=>hall j hlt⟩
 have all_of_nil:∀ (listed:Array Bool),listed.size=ops.size→Region.ready .any ops listed=[]→∀ j,j<ops.size→SL listed j:=by
  intro listed hsz hnil j
  induction j using Nat.strongRecOn with
  |_ j ih=>
   intro hj
   refine Classical.byContradiction fun hns=>?_
   have:j∈Region.ready .any ops listed:=by
    rw [mem_ready]
    refine ⟨SL_of_not (by omega) hns,ops[j],Array.getElem?_eq_getElem hj,fun e he hb=>?_⟩
    have:=hback j _ (Array.getElem?_eq_getElem hj) e he hb
    exact ih e.on this (by omega)
   rw [hnil] at this
   cases this
 intro fuel
 induction fuel with
 |zero=>
  intro listed a W hc I
  have hall:∀ j,j<ops.size→listed.getD j true=true:=fun j hj=>yw _ (Nat.le_zero.1 hc) j (List.mem_range.2 hj)
  refine ⟨?_,done listed a W I fun j hj=>?_⟩
  ·apply List.eq_nil_iff_forall_not_mem.2
   intro j hj
   rw [mem_ready] at hj
   obtain ⟨h0,o,ho,_⟩:=hj
   rw [hall j (Array.getElem?_eq_some_iff.1 ho).1] at h0
   cases h0
  ·have h1:=hall j hj
   unfold SL
   have:j<listed.size:=by rw [I.size];exact hj
   simp [this] at h1 ⊢
   exact h1
 |succ fuel ih=>
  intro listed a W hc I
  refine ⟨fun hnil=>done listed a W I (all_of_nil listed I.size hnil),fun k hk=>?_⟩
  obtain ⟨hk0,o,ho,hdep'⟩:=mem_ready.1 hk
  have hdep:∀ e∈o.after,Region.binds .any e=true→SL listed e.on:=hdep'
  obtain ⟨hnk,hkl⟩:=SL_not hk0
  have hkn:k<ops.size:=(Array.getElem?_eq_some_iff.1 ho).1
  have hc':tG (listed.setIfInBounds k true) (List.range ops.size)≤fuel:=by
   have:=cntU_lt hk0 _ (List.mem_range.2 hkn)
   omega
  obtain ⟨m,κ,hm,hle,R,heff,hmax,hpend,hfrm⟩:=I.heap
  have hlook:∀ t,t∈jT ops o→VR κ W0.heap.size (getD (T.F k) t) (a.tmps.getD t Go.undef):=by
   intro t ht
   refine hfrm k (by omega) t fun j oj hj hdj=>?_
   by_cases hjk:j=k
   ·subst hjk
    exact ⟨fun h=>absurd h hnk,fun h=>by omega⟩
   ·have hu:=hslots k j o oj t ho hj hdj (fun e=>hjk e.symm) (.inr ht)
    rcases Nat.lt_or_gt_of_ne hjk with h|h
    ·refine ⟨fun _=>h,fun _=>?_⟩
     rw [unord_symm (fun e=>hjk e.symm)] at hu
     exact anc I.closed hu h ho hdep
    ·refine ⟨fun hs=>absurd (anc' I.closed hu h hj hs) hnk,fun h'=>by omega⟩
  have hFl:(T.F k).length=a.tmps.size:=by rw [zu hst k (by omega)];exact I.len
  have r:FR κ W0.heap.size (lZ (jT ops o) 0 (T.F k)) a.tmps:=mask_FR hFl hlook
  have hsem:bE P o (lZ (jT ops o) 0 (T.F k))=bE P o (T.F k):=opSem_congr fun t ht=>vb ht
  have gslot:∀ j w d',o.guard=some (j,w)→cU ops j=some d'→getD (lZ (jT ops o) 0 (T.F k)) d'=getD (T.F k) d':=by
   intro j w d' hg hs
   refine vb ?_
   unfold jT
   rw [hg]
   refine List.mem_append_right _ ?_
   simp [hs]
  have hmem:∀ e,e<ops.size→T.eff e=true→T.eff k=false→((e=k∨SL listed e)↔e<m):=by
   intro e he hee hek
   rw [←heff e he hee]
   refine ⟨fun h=>h.resolve_left ?_,.inr⟩
   rintro rfl
   rw [hee] at hek
   cases hek
  have hpend':∀ κ':Inj,(∀ b,κ.dead b→κ'.dead b)→Pend ops T (fun j=>j=k∨SL listed j) m κ':=by
   intro κ' hd i h1 h2 h3 h4
   obtain ⟨g1,g2⟩:=hpend i h1 h2 h3 fun hs=>h4 (.inr hs)
   exact ⟨hd _ g1,g2⟩
  unfold wpOp
  simp only [ho]
  obtain ⟨_,hstep⟩:=hst k o ho
  rcases hstep with ⟨⟨j,w,d',hg,hs,hoff⟩,hV,hH,heffk,_,_⟩|⟨hon,hdid⟩
  ·have hw:Region.wanted o (yielded ops a.tmps)=false:=by
    rw [dZ hg]
    rcases hoff with ⟨t,ht⟩|hb
    ·rw [vT r hs (by rw [gslot j w d' hg hs];exact ht)]
     try rfl
    ·rw [kP r hs (by rw [gslot j w d' hg hs];exact hb)]
     cases w<;>rfl
   rw [if_neg (by rw [hw];decide)]
   exact ih _ _ _ hc' (I.put hst hso ho hnk hdep hle (fun _ _ _ h=>h) hm R (by rw [hV];exact VR.undef) hfrm (fun e he hee=>hmem e he hee heffk) hmax (hpend' κ fun _ h=>h))
  ·have hw:Region.wanted o (yielded ops a.tmps)=true:=by
    rcases hon with hg|⟨j,w,d',hg,hs,hb⟩
    ·exact pH hg
    ·rw [dZ hg,kP r hs (by rw [gslot j w d' hg hs];exact hb)]
     simp
   rw [if_pos hw]
   refine .inl ?_
   rcases hdid with ⟨hv,hH,heffk,_,_⟩|⟨h,hact,hqq,hrun,hH,heffk,hq,_⟩|⟨hcall,heo',heffk,_,halk⟩|⟨h,hact,hal,hrun,heffk,_,halk,hls⟩
   ·refine zJ (v:=T.V k) (σ':=T.H m) hG hcf R r (.inl ⟨rfl,by rw [hsem];exact hv⟩) fun κ' v' W1 hle' R' hv'=>?_
    exact ih _ _ _ hc' (I.put hst hso ho hnk hdep (Inj.le_trans hle hle') hle'.1 hm R' hv' hfrm (fun e he hee=>hmem e he hee heffk) hmax (hpend' κ' hle'.2.1))
   ·obtain ⟨σ',hlk⟩:=quiet_look hst htr I.closed ho hnk hdep hm heff hmax hq hqq hact heffk ⟨_,hrun⟩
    have hsame:=rW hqq hact hlk
    subst hsame
    refine zJ (v:=T.V k) (σ':=T.H m) hG hcf R r (.inr (.inl ⟨h,by rw [hsem];exact hact,hlk⟩)) fun κ' v' W1 hle' R' hv'=>?_
    exact ih _ _ _ hc' (I.put hst hso ho hnk hdep (Inj.le_trans hle hle') hle'.1 hm R' hv' hfrm (fun e he hee=>hmem e he hee heffk) hmax (hpend' κ' hle'.2.1))
   ·have heffop:∀ e oe,ops[e]?=some oe→T.eff e=true→mI P late.isSome oe=true:=by
     intro e oe hoe hee
     rcases (hst e oe hoe).2 with ⟨_,_,_,h,_⟩|⟨_,⟨_,_,h,_⟩|⟨_,_,_,_,_,h,_⟩|⟨_,h,_⟩|⟨_,_,_,_,h,_⟩⟩
     ·rw [hee] at h;cases h
     ·rw [hee] at h;cases h
     ·rw [hee] at h;cases h
     ·exact h
     ·rw [hee] at h;cases h
    have hmk:m≤k:=by
     rcases Nat.lt_or_ge k m with h|h
     ·exact absurd ((heff k hkn heffk).2 h) hnk
     ·exact h
    have before_k:∀ e,e<k→T.eff e=true→SL listed e:=by
     intro e hek hee
     have hoe:ops[e]?=some ops[e]:=Array.getElem?_eq_getElem (by omega)
     exact anc I.closed (eff_of heo hoe ho (heffop e _ hoe hee) heo' hek) hek ho hdep
    have hmk':m=k:=by
     rcases Nat.lt_or_ge m k with h|h
     ·have hem:=hmax.resolve_left (by omega)
      have:=(heff m (by omega) hem).1 (before_k m h hem)
      omega
     ·omega
    subst hmk'
    have key:(∃ h,bE P o (lZ (jT ops o) 0 (T.F m))=.act h∧h (T.H m)=some (T.V m,T.H (m+1)))∨(∃ f args,bE P o (lZ (jT ops o) 0 (T.F m))=.call f args∧cf f args (T.H m)=some (T.V m,T.H (m+1))):=by
     rw [hsem]
     exact hcall
    refine zJ (v:=T.V m) (σ':=T.H (m+1)) hG hcf R r (.inr key) fun κ' v' W1 hle' R' hv'=>?_
    obtain ⟨m',q1,q2,q3,q4⟩:=next_eff T.eff (m+1) ops.size (by omega)
    have R2:=Rel.ahead hst hfr q1 q2 q4 R'
    refine ih _ _ _ hc' (I.put hst hso ho hnk hdep (m':=m') (κ':=⟨κ'.map,fun c=>κ'.dead c∨∃ i,m+1≤i∧i<m'∧T.al i=true∧c=(T.H i).n,κ'.keep⟩) ⟨(Inj.le_trans hle hle').1,fun b hb=>.inl (hle'.2.1 b (hle.2.1 b hb)),fun c o h=>hle'.2.2 c o (hle.2.2 c o h)⟩ hle'.1 q2 R2 (VR.monoM (ι:=κ') (fun _ _ _ h=>h) hv') hfrm (fun e he hee=>?_) q3 ?_)
    ·constructor
     ·rintro (rfl|hs)
      ·omega
      ·have:=(heff e he hee).1 hs
       omega
     ·intro hlt
      by_cases hek:e=m
      ·exact .inl hek
      ·right
       rcases Nat.lt_or_ge e m with h|h
       ·exact before_k e h hee
       ·have:=q4 e (by omega) hlt
        rw [hee] at this
        cases this
    ·intro i h1 h2 h3 h4
     obtain ⟨_,hei,hali,_,ao,_,_,hpu⟩:=xB hst (Array.getElem?_eq_getElem h2) h3
     have hget:(T.H (i+1)).get (T.H i).n=some ao:=by rw [hpu,aB.get_push,if_pos rfl]
     rcases Nat.lt_or_ge i m with h|h
     ·obtain ⟨g1,g2⟩:=hpend i h h2 h3 fun hs=>h4 (.inr hs)
      refine ⟨.inl (hle'.2.1 _ g1),?_⟩
      have hu:unord (Region.before ops) i m=true:=by
       cases hu:unord (Region.before ops) i m with
       |true=>rfl
       |false=>exact absurd (.inr (anc I.closed hu h ho hdep)) h4
      have:=htr.intact i m (by omega) h (by rw [Nat.zero_add];exact h3) (by rw [Nat.zero_add];exact heffk) (by rw [Nat.zero_add,Nat.zero_add];exact hu)
      simp only [Nat.zero_add] at this
      rw [hget] at this ⊢
      exact (pB hst hfr m' q1 q2 q4).get this
     ·have hne:i≠m:=fun e=>h4 (.inl e)
      refine ⟨.inr ⟨i,by omega,h1,h3,rfl⟩,?_⟩
      rw [hget]
      exact (pB hst hfr m' (by omega) q2 fun e h5 h6=>q4 e (by omega) h6).get hget
   ·obtain ⟨n0,hn0⟩:=Option.isSome_iff_exists.1 hls
    have hkm:k<m:=by
     rcases Nat.lt_or_ge k m with h|h
     ·exact h
     ·exfalso
      have hem:=hmax.resolve_left (by omega)
      have hlt:m<k:=by
       rcases Nat.lt_or_ge m k with h'|h'
       ·exact h'
       ·have:m=k:=by omega
        rw [this,heffk] at hem
        cases hem
      have hom:ops[m]?=some ops[m]:=Array.getElem?_eq_getElem (by omega)
      have hel:mI P true ops[m]=true:=by
       rcases (hst m _ hom).2 with ⟨_,_,_,h,_⟩|⟨_,⟨_,_,h,_⟩|⟨_,_,_,_,_,h,_⟩|⟨_,h,_⟩|⟨_,_,_,_,h,_⟩⟩
       ·rw [hem] at h;cases h
       ·rw [hem] at h;cases h
       ·rw [hem] at h;cases h
       ·rw [hls] at h;exact h
       ·rw [hem] at h;cases h
      have hs:=anc I.closed (first_of (hfo hls) hom ho hel hal hlt) hlt ho hdep
      have:=(heff m (by omega) hem).1 hs
      omega
    obtain ⟨g1,g2⟩:=hpend k hkm hkn halk hnk
    obtain ⟨d1,d2⟩:=R.dead _ g1
    obtain ⟨s,hex,ao,ob,i,v',hpu,hr1,hr2,hr3⟩:=op_alloc (W:=W) hal hG r (by rw [hsem];exact hact) hrun
    have hget:(T.H (k+1)).get (T.H k).n=some ao:=by rw [hpu,aB.get_push,if_pos rfl]
    rw [hget] at g2
    have R':=hr2 (T.H m) (T.H k).n R g2 d1 d2
    unfold Oper.wp
    rw [hex,Sem.run_bind,hr1]
    show wpAny P .any ops Q fuel (listed.setIfInBounds k true) (a.put o.dst v') (W.alloc ob)
    have hn0k:=((htr.news k (by omega) (by rw [Nat.zero_add];exact halk)).1 n0 hn0)
    rw [Nat.zero_add] at hn0k
    refine ih _ _ _ hc' (I.put hst hso ho hnk hdep (κ':=link κ (T.H k).n i) ⟨fun b v x hx=>jI (d2 0) b v x (hle.1 b v x hx),fun b hb=>⟨hle.2.1 b hb,fun e=>by have:=hdead n0 hn0 b hb;omega⟩,fun c o h=>hle.2.2 c o h⟩ (jI (d2 0)) hm R' (hr3 _ (jI (d2 0)) iC) hfrm (fun e he hee=>hmem e he hee heffk) hmax ?_)
    intro i' h1 h2 h3 h4
    obtain ⟨q1,q2⟩:=hpend i' h1 h2 h3 fun hs=>h4 (.inr hs)
    refine ⟨⟨q1,?_⟩,q2⟩
    have hne:i'≠k:=fun e=>h4 (.inl e)
    rcases Nat.lt_or_gt_of_ne hne with hlt|hlt
    ·have:=htr.apart i' k (by omega) hlt (by rw [Nat.zero_add];exact h3) (by rw [Nat.zero_add];exact halk)
     simpa using this
    ·have:=htr.apart k i' (by omega) hlt (by rw [Nat.zero_add];exact halk) (by rw [Nat.zero_add];exact h3)
     simp only [Nat.zero_add] at this
     exact fun e=>this e.symm
end
end Go.Pg
