/- Pg2 -/
import Derived.WideKeyRuns
import Derived.CheckFast
import Derived.Test.YtkbefekajgfldaaGreatDoorU1
set_option maxHeartbeats 1000000
namespace Go.Pg
open Go.MapKept
section
variable{P:Program}{ι:Inj}{W0 W:World}{σ σ':aC}
theorem wT{d:TypeDesc}{k:Value}(h:oN d k=true):IsKey d k:=by cases d<;>cases k<;>simp_all[oN,IsKey]
theorem isKey_eq{B:Nat}{d:TypeDesc}{k k':Value}(h:oN d k=true)(hk:VR ι B k k'):k'=k:=by
 cases k with
 |bool b=>exact hk.bool_inv
 |int kd n=>exact hk.int_inv
 |string s=>exact hk.string_inv
 |_=>cases d<;>simp[oN]at h
theorem MR.cons_inv{B:Nat}{k v:Value}{es:List (Value×Value)}{ents:List MapEntry}(h:MR ι B ((k,v)::es) ents):∃e r,ents=e::r/\e.key=k/\VR ι B v e.val/\MR ι B es r:=by
 cases ents with
 |nil=>exact absurd h.1 (by simp)
 |cons e r=>exact⟨e,r,rfl,(h.2 0 k v e rfl rfl).1,(h.2 0 k v e rfl rfl).2,by simpa using h.1,fun j k v e a b=>h.2 (j+1) k v e (by simpa using a) (by simpa using b)⟩
theorem zh{B:Nat}{d:TypeDesc}{k:Value}:∀(es:List (Value×Value)) (ents:List MapEntry) (i:Nat) (r:Option Value),MR ι B es ents->dK d k es=some r->
  (r=none/\Instr.findNow d k ents i=some none)\/∃v j e,r=some v/\Instr.findNow d k ents i=some (some (i+j,e.val))/\ents[j]?=some e/\VR ι B v e.val
 |[],ents,i,r,hm,h=>by
  have:ents=[]:=by have:=hm.1;simpa using this.symm
  subst this;simp[dK]at h;exact .inl ⟨h.symm,rfl⟩
 |(k',v)::es,ents,i,r,hm,h=>by
  obtain⟨e,m,rfl,hk,hv,a0⟩:=hm.cons_inv;simp only[dK]at h;simp only[Instr.findNow,hk];cases hs:Instr.sameNow d k k' with
  |none=>rw[hs]at h;cases h
  |some b=>
   rw[hs]at h;cases b with
   |true=>simp at h;subst h;exact .inr ⟨v,0,e,rfl,rfl,rfl,hv⟩
   |false=>
    simp only at h ⊢;rcases zh es m (i+1) r a0 h with h|⟨v',j,e',h1,h2,h3,h4⟩
    ·exact .inl h
    ·exact .inr ⟨v',j+1,e',h1,by rw[h2,show i+1+j=i+(j+1) by omega],by simpa using h3,h4⟩
theorem sD{r:Nat}{es:List (Value×Value)}(h:σ.getMap r=some es):σ.get r=some (.map es)\/σ.get r=some (.rom es):=by
 unfold aC.getMap at h;split at h
 ·rename_i es' h1;cases h;exact .inl h1
 ·rename_i es' h1;cases h;exact .inr h1
 ·cases h
theorem wV{r:Nat}{es:List (Value×Value)}(h:σ.getMapW r=some es):σ.get r=some (.map es):=by
 unfold aC.getMapW at h;split at h
 ·rename_i es' h1;cases h;exact h1
 ·cases h
theorem qo{kt et:TypeId}{kd:TypeDesc}{k z:Value}{ok:Bool}{es:Array MapEntry}{t:TypeId}{x:Value}(hd:P.underlying t=some (.map kt et))(a1:P.underlying kt=some kd)(hz:dW P et=some z)(a3:oN kd k=true)
  (hx:(x=.map none/\es= #[])\/∃r0 clock,x=.map (some r0)/\W.heap[r0]?=some (.map es clock)) {a:Option (Nat×Value)} (ha:Instr.findNow kd k es.toList 0=some a):
  (Instr.lookup t x k ok).run P W=.ok (match a with
   |some (_,v)=>if ok then .tuple #[v,.bool true] else v
   |none=>if ok then .tuple #[z,.bool false] else z) W:=by
 unfold Instr.lookup;rw[Sem.run_bind,bD hd];simp only[Result.andThen];have a0:∀b n,(Instr.checkKey b (n+1) kt k).run P W=.ok () W:=fun b n=>run_checkKey a1 (wT a3) b n;have a2:(Instr.findKey kt k es.toList).run P W=.ok a W:=run_findKey a1 ha;rcases hx with⟨rfl,rfl⟩|⟨r0,clock,rfl,hr⟩
 ·simp only[pure_bind];rw[Sem.run_bind,a0];simp only[Result.andThen];rw[Sem.run_bind,a2];simp only[Result.andThen];cases a with
  |none=>simp only;rw[Sem.run_bind,fE hz];try rfl
  |some p=>rfl
 ·simp only;rw[Sem.run_bind,Go.MapKept.run_getObj_map hr];simp only[Result.andThen,pure_bind];rw[Sem.run_bind,a0];simp only[Result.andThen];rw[Sem.run_bind,a2];simp only[Result.andThen];cases a with
  |none=>simp only;rw[Sem.run_bind,fE hz];try rfl
  |some p=>rfl
theorem okV{B:Nat}{ok b:Bool}{v v':Value}(h:VR ι B v v'):VR ι B (bif ok then .tuple #[v,.bool b] else v) (if ok=true then .tuple #[v',.bool b] else v'):=by
 cases ok with
 |true=>exact(VRL.cons h (VRL.cons (.bool b) .nil)).tuple
 |false=>exact h
theorem same_int{d:TypeDesc}{k:Value}{kd:IntKind}{n:Int}{b:Bool}(h:Instr.sameNow d k (.int kd n)=some b):∃m kk,d=.int kk/\k=.int kd m/\b=(m==n):=by
 unfold Instr.sameNow at h;split at h
 ·rename_i a0;split at h
  ·rename_i hk;cases a0;subst hk;exact⟨_,_,rfl,rfl,(Option.some.inj h).symm⟩
  ·cases h
 ·rename_i a0;cases a0
 ·rename_i a0;cases a0
 ·cases h
theorem oX(kk kd:IntKind)(m n:Int):Instr.sameNow (.int kk) (.int kd m) (.int kd n)=some (m==n):=by simp[Instr.sameNow]
theorem pZ{kk kd:IntKind}{m:Int}:∀{es:List (Value×Value)},(∀p∈es,∃n:Int,p.1=.int kd n)->∃r,dK (.int kk) (.int kd m) es=some r/\∀v,r=some v->(.int kd m,v)∈es
 |[],_=>⟨none,rfl,fun v h=>by cases h⟩
 |(k',v)::es,h=>by
  obtain⟨n,e⟩:=h (k',v) (by simp);simp only at e;subst e;simp only[dK,oX];by_cases a0:m=n
  ·subst a0;simp only[beq_self_eq_true];exact⟨some v,rfl,fun u hu=>by cases hu;simp⟩
  ·have:(m==n)=false:=by simpa using a0
   simp only[this];obtain⟨r,h1,h2⟩:=pZ (m:=m) (kk:=kk) (es:=es) fun p hp=>h p (by simp[hp]);exact⟨r,h1,fun u hu=>by simp[h2 u hu]⟩
theorem pR{kk kd:IntKind}{m:Int}:∀{es:List (Value×Value)},(∀p∈es,∃n:Int,p.1=.int kd n)->dK (.int kk) (.int kd m) es=some none->∀v,(.int kd m,v)∉es
 |[],_,_,v,h=>by cases h
 |(k',u)::es,hk,hf,v,h=>by
  obtain⟨n,e⟩:=hk (k',u) (by simp);simp only at e;subst e;simp only[dK,oX]at hf;by_cases a0:m=n
  ·subst a0;simp at hf
  ·have:(m==n)=false:=by simpa using a0
   simp only[this]at hf;rcases List.mem_cons.1 h with h|h
   ·simp at h;exact a0 h.1
   ·exact pR (fun p hp=>hk p (by simp[hp])) hf v h
theorem find_perm{d:TypeDesc}{k:Value}{es es':List (Value×Value)}{r:Option Value}(p:es'.Perm es)(o:es'=es\/jW es)(h:dK d k es=some r):dK d k es'=some r:=by
 rcases o with rfl|ka
 ·exact h
 ·cases es with
  |nil=>have:=p.eq_nil;subst this;exact h
  |cons x l=>
   obtain⟨kd,h1,h2⟩:=ka;obtain⟨x1,x2⟩:=x;obtain⟨n,e⟩:=h1 (x1,x2) (by simp);simp only at e;subst e;have hs:∃b,Instr.sameNow d k (.int kd n)=some b:=by
    simp only[dK]at h;split at h
    ·exact⟨_,by assumption⟩
    ·exact⟨_,by assumption⟩
    ·cases h
   obtain⟨b,hb⟩:=hs;obtain⟨m,kk,rfl,rfl,_⟩:=same_int hb;obtain⟨r',g1,g2⟩:=pZ (m:=m) (kk:=kk) (es:=es') fun q hq=>h1 q (p.mem_iff.1 hq);obtain⟨r2,g3,g4⟩:=pZ (m:=m) (kk:=kk) h1;rw[h]at g3;cases g3;rw[g1]
   congr 1
   cases r' with
   |none=>
    cases r with
    |none=>rfl
    |some v=>exact absurd (p.mem_iff.2 (g4 v rfl)) (pR (fun q hq=>h1 q (p.mem_iff.1 hq)) g1 v)
   |some u=>
    have hu:=p.mem_iff.1 (g2 u rfl);cases r with
    |none=>exact absurd hu (pR h1 h u)
    |some v=>
     have hv:=g4 v rfl;have key:∀{l:List (Value×Value)},(l.map (·.1)).Nodup->∀{k u v:Value},(k,u)∈l->(k,v)∈l->u=v:=by
      intro l;induction l with
      |nil=>intro _ k u v h;cases h
      |cons y l ih=>
       intro hn k u v hu hv;simp only[List.map_cons,List.nodup_cons,List.mem_map,not_exists,not_and]at hn;rcases List.mem_cons.1 hu with a1|a1
       ·subst a1;rcases List.mem_cons.1 hv with a0|a0
        ·cases a0;try rfl
        ·exact(hn.1 (k,v) a0 rfl).elim
       ·rcases List.mem_cons.1 hv with a0|a0
        ·subst a0;exact(hn.1 (k,u) a1 rfl).elim
        ·exact ih hn.2 a1 a0
     rw[key h2 hu hv]
def wn(kd:IntKind)(m:Int)(p:Value×Value):Bool:=match p.1 with
 |.int k n=>decide (k=kd)&&decide (n=m)
 |_=>false
theorem keyIs_eq{kd:IntKind}{m:Int}{p:Value×Value}(h:wn kd m p=true):p.1=.int kd m:=by
 unfold wn at h;split at h
 ·rename_i a0;simp at h;rw[a0,h.1,h.2]
 ·cases h
theorem sU{kk kd:IntKind}{m:Int}{v:Value}:∀{es:List (Value×Value)},(∀p∈es,∃n:Int,p.1=.int kd n)->(es.map (·.1)).Nodup->
  ∃es2,iL (.int kk) (.int kd m) v es=some es2/\es2.Perm ((.int kd m,v)::es.filter fun p=>!wn kd m p)/\(∀p∈es2,∃n:Int,p.1=.int kd n)/\(es2.map (·.1)).Nodup
 |[],_,_=>⟨[(.int kd m,v)],rfl,by simp,by simp,by simp⟩
 |(k',u)::es,h,hn=>by
  obtain⟨n,e⟩:=h (k',u) (by simp);simp only at e;subst e;simp only[iL,oX];have a2:(∀p∈es,∃n:Int,p.1=.int kd n):=fun p hp=>h p (by simp[hp]);simp only[List.map_cons,List.nodup_cons]at hn;by_cases a0:m=n
  ·subst a0;simp only[beq_self_eq_true];refine⟨_,rfl,?_,fun p hp=>?_,?_⟩
   ·have:((Value.int kd m,u)::es).filter (fun p=>!wn kd m p)=es:=by
     rw[List.filter_cons_of_neg (by simp[wn]),List.filter_eq_self];intro q hq;cases hk:wn kd m q with
     |false=>rfl
     |true=>exact absurd (by rw[<-keyIs_eq hk];exact List.mem_map_of_mem hq) hn.1
    rw[this]
   ·rcases List.mem_cons.1 hp with rfl|hp
    ·exact⟨m,rfl⟩
    ·exact a2 p hp
   ·simpa using hn
  ·have:(m==n)=false:=by simpa using a0
   simp only[this];obtain⟨es2,g1,g2,g3,g4⟩:=sU (m:=m) (v:=v) (kk:=kk) a2 hn.2;rw[g1];refine⟨_,rfl,?_,fun p hp=>?_,?_⟩
   ·rw[List.filter_cons_of_pos (by simp[wn];exact fun e=>a0 e.symm)];exact(g2.cons _).trans (.swap _ _ _)
   ·rcases List.mem_cons.1 hp with rfl|hp
    ·exact⟨n,rfl⟩
    ·exact g3 p hp
   ·simp only[List.map_cons,List.nodup_cons];refine⟨fun a1=>?_,g4⟩;have:=(g2.map (·.1)).mem_iff.1 a1;simp only[List.map_cons,List.mem_cons]at this;rcases this with e|a3
    ·simp at e;exact a0 e.symm
    ·obtain⟨q,hq,eq⟩:=List.mem_map.1 a3;exact hn.1 (by rw[<-eq];exact List.mem_map_of_mem (List.mem_filter.1 hq).1)
theorem set_perm{d:TypeDesc}{k v:Value}{es es' es2:List (Value×Value)}(p:es'.Perm es)(o:es'=es\/jW es)(h:iL d k v es=some es2):∃es2',iL d k v es'=some es2'/\es2'.Perm es2/\(es2'=es2\/jW es2):=by
 rcases o with rfl|ka
 ·exact⟨es2,h,.refl _,.inl rfl⟩
 ·cases es with
  |nil=>have:=p.eq_nil;subst this;exact⟨es2,h,.refl _,.inl rfl⟩
  |cons x l=>
   obtain⟨kd,h1,h2⟩:=ka;obtain⟨x1,x2⟩:=x;obtain⟨n,e⟩:=h1 (x1,x2) (by simp);simp only at e;subst e;have hs:∃b,Instr.sameNow d k (.int kd n)=some b:=by
    simp only[iL]at h;split at h
    ·exact⟨_,by assumption⟩
    ·exact⟨_,by assumption⟩
    ·cases h
   obtain⟨b,hb⟩:=hs;obtain⟨m,kk,rfl,rfl,_⟩:=same_int hb;obtain⟨r1,g1,g2,g3,g4⟩:=sU (m:=m) (kk:=kk) (v:=v) h1 h2;obtain⟨r2,f1,f2,f3,f4⟩:=sU (m:=m) (kk:=kk) (v:=v) (es:=es') (fun q hq=>h1 q (p.mem_iff.1 hq)) ((p.map _).nodup_iff.2 h2);rw[h]at g1;cases g1;exact⟨r2,f1,f2.trans (((p.filter _).cons _).trans g2.symm),.inr ⟨kd,g3,g4⟩⟩
theorem MR.snoc{B:Nat}{es:List (Value×Value)}{ents:List MapEntry}{k v:Value}{e:MapEntry}(h:MR ι B es ents)(hk:e.key=k)(hv:VR ι B v e.val):MR ι B (es++[(k,v)]) (ents++[e]):=by
 refine⟨by simp[h.1],fun j k0 v0 e0 a b=>?_⟩;by_cases hj:j<es.length
 ·rw[List.getElem?_append_left hj]at a;rw[List.getElem?_append_left (by have:=h.1;omega)]at b;exact h.2 j k0 v0 e0 a b
 ·rw[List.getElem?_append_right (by omega)]at a;rw[List.getElem?_append_right (by have:=h.1;omega),<-h.1]at b;have a0:j-es.length=0:=by have:=(List.getElem?_eq_some_iff.1 a).1;simp at this;omega
  rw[a0]at a b;simp at a b;obtain⟨rfl,rfl⟩:=a;subst b;exact⟨hk,hv⟩
theorem Born.push{ents:Array MapEntry}{clock:Nat}(h:Born ents.toList clock){e:MapEntry}(he:e.born=clock):Born (ents.push e).toList (clock+1):=by
 unfold Born at h ⊢;rw[Array.toList_push,List.map_append];refine⟨fun b hb=>?_,List.nodup_append.2 ⟨h.2,by simp,fun a ha b hb=>?_⟩⟩
 ·rcases List.mem_append.1 hb with hb|hb
  ·have:=h.1 b hb;omega
  ·simp only[List.map_cons,List.map_nil,List.mem_singleton]at hb;omega
 ·simp only[List.map_cons,List.map_nil,List.mem_singleton]at hb;have:=h.1 a ha;omega
theorem Born.modify{ents:Array MapEntry}{clock j:Nat}{f:MapEntry->MapEntry}(h:Born ents.toList clock)(hf:∀e,(f e).born=e.born):Born (ents.modify j f).toList clock:=by
 have e:(ents.modify j f).toList.map (·.born)=ents.toList.map (·.born):=by
  apply List.ext_getElem?;intro i;simp only[Array.toList_modify,List.getElem?_map,List.getElem?_modify];cases ents.toList[i]? with
  |none=>simp
  |some x=>simp only[Option.map_some];split<;>simp[hf]
 unfold Born at h ⊢;rw[e];exact h
theorem plainVR1{B:Nat}{v:Value}(h:cA 0 v=true):VR ι B v v:=by
 cases v with
 |bool b=>exact .bool b
 |int k n=>exact .int k n
 |string s=>exact .string s
 |pointer a=>cases a with
  |none=>exact .ptrNil
  |some a=>cases h
 |slice a n c=>cases a with
  |none=>exact .sliceNil n c
  |some a=>cases h
 |map r=>cases r with
  |none=>exact .mapNil
  |some r=>cases h
 |nilFunc=>exact .nilFunc
 |nilIface=>exact .nilIface
 |_=>cases h
theorem vK{B:Nat}{l:List Value}(h:l.all (cA 0)=true):VRL ι B l l:=
 ⟨rfl,fun j v v' a b=>by
  rw[a]at b;cases b;exact plainVR1 (List.all_eq_true.1 h _ (List.mem_of_getElem? a))⟩
theorem plainEq1{B:Nat}{v v':Value}(hv:cA 0 v=true)(h:VR ι B v v'):v'=v:=by
 cases h<;>first
  |rfl
  |exact Bool.noConfusion hv
theorem uZ{B:Nat}:∀{l m:List Value},l.all (cA 0)=true->VRL ι B l m->m=l
 |[],[],_,_=>rfl
 |[],_::_,_,h=>by have:=h.1;simp at this
 |_::_,[],_,h=>by have:=h.1;simp at this
 |a::l,b::m,hp,h=>by simp only[List.all_cons,Bool.and_eq_true]at hp;have h1:b=a:=plainEq1 hp.1 (h.2 0 a b rfl rfl);have h2:m=l:=uZ hp.2 ⟨by have:=h.1;simpa using this,fun j v v' e1 e2=>h.2 (j+1) v v' (by simpa using e1) (by simpa using e2)⟩;rw[h1,h2]
theorem scEq_eq{a b:Value}(h:scEq a b=true):a=b/\∀n,Instr.sameBits n a a=true:=by
 unfold scEq at h;split at h
 ·simp at h;subst h;exact⟨rfl,fun n=>by cases n<;>simp[Instr.sameBits]⟩
 ·simp at h;obtain⟨rfl,rfl⟩:=h;exact⟨rfl,fun n=>by cases n<;>simp[Instr.sameBits]⟩
 ·rename_i s t;have:s=t:=by cases s;cases t;rename_i x y;cases x;cases y;simp_all
  subst this;exact⟨rfl,fun n=>by cases n<;>simp[Instr.sameBits,bytes_beq]⟩
 ·cases h
theorem scEqL_eq:∀{l m:List Value},scEqL l m=true->l=m/\∀n,(l.zip l).all (fun(x,y)=>Instr.sameBits n x y)=true
 |[],[],_=>⟨rfl,fun _=>rfl⟩
 |[],_::_,h=>by cases h
 |_::_,[],h=>by cases h
 |a::l,b::m,h=>by simp only[scEqL,Bool.and_eq_true]at h;obtain⟨rfl,h1⟩:=scEq_eq h.1;obtain⟨rfl,h2⟩:=scEqL_eq h.2;exact⟨rfl,fun n=>by simp only[List.zip_cons_cons,List.all_cons,h1 n,h2 n,Bool.and_self]⟩
theorem uf{kt:TypeId}{k:Value}(h:rQ P kt k=true):∃cs:Array Value,k=.agg cs/\(∃b,nB P kt cs.toList cs.toList=some b)/\cs.toList.all (cA 0)=true:=by
 unfold rQ at h;split at h
 ·rename_i cs;simp only[Bool.and_eq_true,Option.isSome_iff_exists]at h;exact⟨cs,rfl,h.1,h.2⟩
 ·cases h
theorem xN{kt:TypeId}{xs ys:List Value}{b:Bool}(h:nB P kt xs ys=some b):∃fs,P.underlying kt=some (.struct fs)/\nO P fs.toList xs ys=some b:=by
 unfold nB at h;split at h
 ·rename_i fs hd;obtain⟨_,h⟩:=mR h;exact⟨fs,hd,h⟩
 ·cases h
def noInj0:Inj:=⟨fun _ _=>none,fun _=>False,fun _ _=>False⟩
theorem yl{W:World}{kt:TypeId}{cs:Array Value}(em:Bool)(n:Nat){b:Bool}(h:nB P kt cs.toList cs.toList=some b)(hp:cs.toList.all (cA 0)=true):(Instr.checkKey em (n+2) kt (.agg cs)).run P W=.ok () W:=by
 obtain⟨fs,hd,hf⟩:=xN h;clear h;rw[Instr.checkKey,Sem.run_bind,bD hd];simp only[Result.andThen];rw[<-Array.forIn_toList];generalize fs.toList=l at hf;clear hd
 revert b
 induction l with
 |nil=>intro b h;try rfl
 |cons f l ih=>
  intro b h;unfold nO at h;cases hn:f.name== "_" with
  |true=>rw[hn]at h;cases h
  |false=>
   rw[hn]at h;simp only[cond_false]at h;split at h
   ·rename_i x y a2 a1;rw[a2]at a1;cases a1;split at h
    ·rename_i b1 a0;split at h
     ·rename_i c hc;have a3:f.name≠ "_" :=by simpa using hn
      obtain⟨x',h1,h2⟩:=mK (ι:=noInj0) (W0:=W) (W:=W) a2 (vK hp);have a6:∃d,P.underlying f.type=some d/\IsKey d x:=by
       unfold tN at a0;split at a0
       ·exact⟨_,by assumption,by simp[IsKey]⟩
       ·obtain⟨h1,_⟩:=cD a0;simp only[Bool.and_eq_true,decide_eq_true_eq]at h1;refine⟨_,by assumption,?_⟩;exact h1.2
       ·exact⟨_,by assumption,by simp[IsKey]⟩
       ·cases a0
      obtain⟨d,a5,a4⟩:=a6;have hx:x'=x:=by
       have:cA 0 x=true:=by cases x<;>simp_all[IsKey,cA]
       exact plainEq1 this h1
      subst hx;rw[List.forIn_cons,Sem.run_bind,if_pos a3,Sem.run_bind,Sem.run_bind];rw[show cs.toList.toArray=cs by simp]at h2;rw[h2];simp only[Result.andThen];rw[Sem.run_bind,run_checkKey a5 a4 em n];simp only[Result.andThen,Sem.run_pure];have:=ih hc;rw[Sem.run_bind]at this;simpa only[Result.andThen,Sem.run_pure]using this
     ·cases h
    ·cases h
   ·cases h
theorem zB{W:World}{kt:TypeId}{cs:Array Value}{k':Value}{b:Bool}(hp:cs.toList.all (cA 0)=true)(h:dS P kt (.agg cs) k'=some b):
  (Op.equal kt (.agg cs) k').run P W=.ok b W/\(b=true->k'=.agg cs/\Instr.sameBits 10000 k' (.agg cs)=true):=by
 unfold dS at h;split at h
 ·rename_i xs ys hk;cases hk;obtain⟨hy,h⟩:=mR h;split at h
  ·rename_i b1 hb;obtain⟨hs,rfl⟩:=cD h;refine⟨(wK (ι:=noInj0) (W0:=W) (W:=W) hb (vK hp) (vK hy)).2,fun a1=>?_⟩;subst a1;have a0:scEqL cs.toList ys.toList=true:=by simpa using hs
   obtain⟨e,a2⟩:=scEqL_eq a0;have e':cs=ys:=Array.toList_inj.1 e;subst e';refine⟨rfl,?_⟩;show(cs.size==cs.size&&(cs.toList.zip cs.toList).all fun(x,y)=>Instr.sameBits 9999 x y)=true;rw[a2 9999];simp
  ·cases h
 ·cases h
theorem yz{B:Nat}{W:World}{kt:TypeId}{cs:Array Value}(hp:cs.toList.all (cA 0)=true):∀(es:List (Value×Value)) (ents:List MapEntry) (i:Nat) (r:Option Value),MR ι B es ents->eQ (dS P kt) (.agg cs) es=some r->
  (r=none/\(Instr.findAsking kt (.agg cs) ents i).run P W=.ok none W)\/∃v j e,r=some v/\(Instr.findAsking kt (.agg cs) ents i).run P W=.ok (some (i+j,e.val)) W/\ents[j]?=some e/\VR ι B v e.val
 |[],ents,i,r,hm,h=>by
  have:ents=[]:=by have:=hm.1;simpa using this.symm
  subst this;simp[eQ]at h;exact .inl ⟨h.symm,rfl⟩
 |(k',v)::es,ents,i,r,hm,h=>by
  obtain⟨e,m,rfl,hk,hv,a0⟩:=hm.cons_inv;simp only[eQ]at h;cases hs:dS P kt (.agg cs) k' with
  |none=>rw[hs]at h;cases h
  |some b=>
   rw[hs]at h;have hq:=(zB (W:=W) hp hs).1;unfold Instr.findAsking;rw[Sem.run_bind,hk,hq];simp only[Result.andThen];cases b with
   |true=>simp at h;subst h;exact .inr ⟨v,0,e,rfl,rfl,rfl,hv⟩
   |false=>
    simp only at h;simp only[Bool.false_eq_true,if_false];rcases yz (W:=W) hp es m (i+1) r a0 h with h|⟨v',j,e',h1,h2,h3,h4⟩
    ·exact .inl h
    ·exact .inr ⟨v',j+1,e',h1,by rw[h2,show i+1+j=i+(j+1) by omega],by simpa using h3,h4⟩
theorem vO{kt:TypeId}{xs ys:List Value}{b:Bool}(h:nB P kt xs ys=some b):(match P.underlying kt with|some (.array _ _)|some (.struct _)=>true|_=>false)=true:=by
 obtain⟨fs,hd,_⟩:=xN h;rw[hd]
theorem yp{kt et:TypeId}{z:Value}{ok:Bool}{es:Array MapEntry}{t:TypeId}{x:Value}{cs:Array Value}{b:Bool}(hd:P.underlying t=some (.map kt et))(hz:dW P et=some z)(a1:nB P kt cs.toList cs.toList=some b)(hp:cs.toList.all (cA 0)=true)
  (hx:(x=.map none/\es= #[])\/∃r0 clock,x=.map (some r0)/\W.heap[r0]?=some (.map es clock)) {a:Option (Nat×Value)} (ha:(Instr.findAsking kt (.agg cs) es.toList).run P W=.ok a W):
  (Instr.lookup t x (.agg cs) ok).run P W=.ok (match a with
   |some (_,v)=>if ok then .tuple #[v,.bool true] else v
   |none=>if ok then .tuple #[z,.bool false] else z) W:=by
 unfold Instr.lookup;rw[Sem.run_bind,bD hd];simp only[Result.andThen];have a0:∀b,(Instr.checkKey b 10000 kt (.agg cs)).run P W=.ok () W:=fun b=>yl b 9998 a1 hp;have a2:(Instr.findKey kt (.agg cs) es.toList).run P W=.ok a W:=by rw[run_findKey_eq W (vO a1)];exact ha
 rcases hx with⟨rfl,rfl⟩|⟨r0,clock,rfl,hr⟩
 ·simp only[pure_bind];rw[Sem.run_bind,a0];simp only[Result.andThen];rw[Sem.run_bind,a2];simp only[Result.andThen];cases a with
  |none=>simp only;rw[Sem.run_bind,fE hz];try rfl
  |some p=>rfl
 ·simp only;rw[Sem.run_bind,Go.MapKept.run_getObj_map hr];simp only[Result.andThen,pure_bind];rw[Sem.run_bind,a0];simp only[Result.andThen];rw[Sem.run_bind,a2];simp only[Result.andThen];cases a with
  |none=>simp only;rw[Sem.run_bind,fE hz];try rfl
  |some p=>rfl
theorem findA_perm{kt:TypeId}{cs:Array Value}{es es':List (Value×Value)}{r:Option Value}(p:es'.Perm es)(o:es'=es\/jW es)(h:eQ (dS P kt) (.agg cs) es=some r):eQ (dS P kt) (.agg cs) es'=some r:=by
 rcases o with rfl|⟨kd,h1,_⟩
 ·exact h
 ·cases es with
  |nil=>have:=p.eq_nil;subst this;exact h
  |cons x l=>obtain⟨x1,x2⟩:=x;obtain⟨n,e⟩:=h1 (x1,x2) (by simp);simp only at e;subst e;simp[eQ,dS]at h
theorem setA_perm{kt:TypeId}{cs:Array Value}{v:Value}{es es' es2:List (Value×Value)}(p:es'.Perm es)(o:es'=es\/jW es)(h:jA (dS P kt) (.agg cs) v es=some es2):∃es2',jA (dS P kt) (.agg cs) v es'=some es2'/\es2'.Perm es2/\(es2'=es2\/jW es2):=by
 rcases o with rfl|⟨kd,h1,_⟩
 ·exact⟨es2,h,.refl _,.inl rfl⟩
 ·cases es with
  |nil=>have:=p.eq_nil;subst this;exact⟨es2,h,.refl _,.inl rfl⟩
  |cons x l=>obtain⟨x1,x2⟩:=x;obtain⟨n,e⟩:=h1 (x1,x2) (by simp);simp only at e;subst e;simp[jA,dS]at h
theorem zo{t kt et:TypeId}{m m' k k' v z:Value}{ok:Bool}(R:Rel ι W0 σ W)(hd:P.underlying t=some (.map kt et))(hz:dW P et=some z)(a5:rQ P kt k=true)(hm:VR ι W0.heap.size m m')(hk:VR ι W0.heap.size k k')
  (h:(match (match m with
     |.map none=>some (some none)
     |.map (some r)=>(σ.getMap r).map (eQ (dS P kt) k)
     |_=>none)with
    |some (some (some v))=>some (bif ok then .tuple #[v,.bool true] else v,σ)
    |some (some none)=>some (bif ok then .tuple #[z,.bool false] else z,σ)
    |_=>none)=some (v,σ')):σ'=σ/\∃v',VR ι W0.heap.size v v'/\(Instr.lookup t m' k' ok).run P W=.ok v' W:=by
 obtain⟨cs,rfl,⟨b,a0⟩,hp⟩:=uf a5;obtain⟨cs',rfl,a6⟩:=hk.agg_inv;have a7:cs'=cs:=by exact Array.toList_inj.1 (uZ hp a6)
 subst a7;have fin:∀(r:Option Value) (es:List (Value×Value)) (ents:Array MapEntry),MR ι W0.heap.size es ents.toList->eQ (dS P kt) (.agg cs') es=some r->((m'=.map none/\ents= #[])\/∃r0 clock,m'=.map (some r0)/\W.heap[r0]?=some (.map ents clock))->
   ∃v',VR ι W0.heap.size (match r with|some v=>bif ok then .tuple #[v,.bool true] else v|none=>bif ok then .tuple #[z,.bool false] else z) v'/\(Instr.lookup t m' (.agg cs') ok).run P W=.ok v' W:=by
  intro r es ents a4 hf hx;rcases yz (W:=W) hp es ents.toList 0 r a4 hf with⟨rfl,h2⟩|⟨v0,j,e,rfl,h2,h3,h4⟩
  ·exact⟨_,okV (kU hz),yp hd hz a0 hp hx h2⟩
  ·exact⟨_,okV h4,yp hd hz a0 hp hx h2⟩
 have fin2:∀r,(match m with
   |.map none=>some (some none)
   |.map (some r)=>(σ.getMap r).map (eQ (dS P kt) (.agg cs'))
   |_=>none)=some (some r)->∃v',VR ι W0.heap.size (match r with|some v=>bif ok then .tuple #[v,.bool true] else v|none=>bif ok then .tuple #[z,.bool false] else z) v'/\(Instr.lookup t m' (.agg cs') ok).run P W=.ok v' W:=by
  intro r hr;cases hm<;>try (exact absurd (show(none:Option (Option (Option Value)))=some (some r) from hr) nofun)
  ·cases hr;exact fin none [] #[] ⟨rfl,fun j k v e a _=>by simp at a⟩ rfl (.inl ⟨rfl,rfl⟩)
  ·rename_i b i hi
   replace hr:(σ.getMap b).map (eQ (dS P kt) (.agg cs'))=some (some r):=hr
   cases hg:σ.getMap b with
   |none=>rw[hg]at hr;cases hr
   |some es=>rw[hg]at hr;simp only[Option.map_some,Option.some.injEq]at hr;obtain⟨i',h1,ents,clock,h2,h3⟩:=R.map b es _ _ (sD hg) hi;rw[hi]at h1;cases h1;obtain⟨es',a3,a2,a1⟩:=h3.order;exact fin r es' ents a1 (findA_perm a3 a2 hr) (.inr ⟨_,clock,rfl,h2⟩)
 split at h
 ·rename_i v0 hv;simp only[Option.some.injEq,Prod.mk.injEq]at h;obtain⟨rfl,rfl⟩:=h;exact⟨rfl,fin2 _ hv⟩
 ·rename_i hv;simp only[Option.some.injEq,Prod.mk.injEq]at h;obtain⟨rfl,rfl⟩:=h;exact⟨rfl,fin2 _ hv⟩
 ·cases h
theorem xh{B:Nat}{W:World}{kt:TypeId}{cs:Array Value}{v v':Value}(hp:cs.toList.all (cA 0)=true)(hv:VR ι B v v'):∀(es:List (Value×Value)) (ents:List MapEntry) (i:Nat) (es':List (Value×Value)),MR ι B es ents->jA (dS P kt) (.agg cs) v es=some es'->
  ((Instr.findAsking kt (.agg cs) ents i).run P W=.ok none W/\es'=es++[(.agg cs,v)])\/∃j e x,(Instr.findAsking kt (.agg cs) ents i).run P W=.ok (some (i+j,x)) W/\ents[j]?=some e/\Instr.sameBits 10000 e.key (.agg cs)=true/\MR ι B es' (ents.modify j fun e=>{e with key:=.agg cs,val:=v'})
 |[],ents,i,es',hm,h=>by
  have:ents=[]:=by have:=hm.1;simpa using this.symm
  subst this;simp[jA]at h;exact .inl ⟨rfl,by simp[h]⟩
 |(k',w)::es,ents,i,es',hm,h=>by
  obtain⟨e,m,rfl,hk,hw,a0⟩:=hm.cons_inv;simp only[jA]at h;cases hs:dS P kt (.agg cs) k' with
  |none=>rw[hs]at h;cases h
  |some b=>
   rw[hs]at h;obtain⟨hq,a1⟩:=zB (W:=W) hp hs;unfold Instr.findAsking;rw[Sem.run_bind,hk,hq];simp only[Result.andThen];cases b with
   |true=>
    simp at h;subst h;right;refine⟨0,e,e.val,rfl,rfl,by rw[hk];exact(a1 rfl).2,?_⟩;refine⟨by simp[a0.1],fun j k0 v0 e0 a b=>?_⟩;cases j with
    |zero=>simp at a b;obtain⟨rfl,rfl⟩:=a;subst b;exact⟨rfl,hv⟩
    |succ j=>simp at a b;exact a0.2 j k0 v0 e0 a b
   |false=>
    simp only[Bool.false_eq_true,if_false]at h ⊢;cases hr:jA (dS P kt) (.agg cs) v es with
    |none=>rw[hr]at h;cases h
    |some r'=>
     rw[hr]at h;simp at h;subst h;rcases xh (W:=W) hp hv es m (i+1) r' a0 hr with⟨h1,rfl⟩|⟨j,e1,x,h1,h2,h3,h4⟩
     ·exact .inl ⟨h1,by simp⟩
     ·right;refine⟨j+1,e1,x,by rw[h1,show i+1+j=i+(j+1) by omega],by simpa using h2,h3,?_⟩;refine⟨by have:=h4.1;simp at this ⊢;exact this,fun q k0 v0 e0 a b=>?_⟩;cases q with
      |zero=>simp at a b;obtain⟨rfl,rfl⟩:=a;subst b;exact⟨hk,hw⟩
      |succ q=>simp at a b;exact h4.2 q k0 v0 e0 a b
theorem qw{t:TypeId}{m m' k k' v:Value}{ok:Bool}(R:Rel ι W0 σ W)(hm:VR ι W0.heap.size m m')(hk:VR ι W0.heap.size k k')(h:nP P t m k ok σ=some (v,σ')):
  σ'=σ/\∃v',VR ι W0.heap.size v v'/\(Instr.lookup t m' k' ok).run P W=.ok v' W:=by
 unfold nP at h;split at h
 ·rename_i kt et hd;split at h
  ·rename_i kd z a2 hz;cases a0:oN kd k with
   |false=>
    rw[a0]at h;simp only[cond_false]at h;cases a1:rQ P kt k with
    |false=>rw[a1]at h;cases h
    |true=>rw[a1]at h;simp only[cond_true]at h;exact zo R hd hz a1 hm hk h
   |true=>
   rw[a0]at h;simp only[cond_true]at h;obtain rfl:=isKey_eq a0 hk;have fin:∀(r:Option Value) (es:List (Value×Value)) (ents:Array MapEntry),MR ι W0.heap.size es ents.toList->dK kd k' es=some r->((m'=.map none/\ents= #[])\/∃r0 clock,m'=.map (some r0)/\W.heap[r0]?=some (.map ents clock))->
     ∃v',VR ι W0.heap.size (match r with|some v=>bif ok then .tuple #[v,.bool true] else v|none=>bif ok then .tuple #[z,.bool false] else z) v'/\(Instr.lookup t m' k' ok).run P W=.ok v' W:=by
    intro r es ents a6 hf hx;rcases zh es ents.toList 0 r a6 hf with⟨rfl,h2⟩|⟨v0,j,e,rfl,h2,h3,h4⟩
    ·exact⟨_,okV (kU hz),qo hd a2 hz a0 hx h2⟩
    ·exact⟨_,okV h4,qo hd a2 hz a0 hx h2⟩
   have fin2:∀r,(match m with
     |.map none=>some (some none)
     |.map (some r)=>(σ.getMap r).map (dK kd k')
     |_=>none)=some (some r)->∃v',VR ι W0.heap.size (match r with|some v=>bif ok then .tuple #[v,.bool true] else v|none=>bif ok then .tuple #[z,.bool false] else z) v'/\(Instr.lookup t m' k' ok).run P W=.ok v' W:=by
    intro r hr;cases hm<;>try (exact absurd (show(none:Option (Option (Option Value)))=some (some r) from hr) nofun)
    ·cases hr;exact fin none [] #[] ⟨rfl,fun j k v e a _=>by simp at a⟩ rfl (.inl ⟨rfl,rfl⟩)
    ·rename_i b i hi
     replace hr:(σ.getMap b).map (dK kd k')=some (some r):=hr
     cases hg:σ.getMap b with
     |none=>rw[hg]at hr;cases hr
     |some es=>rw[hg]at hr;simp only[Option.map_some,Option.some.injEq]at hr;obtain⟨i',h1,ents,clock,h2,h3⟩:=R.map b es _ _ (sD hg) hi;rw[hi]at h1;cases h1;obtain⟨es',a5,a4,a3⟩:=h3.order;exact fin r es' ents a3 (find_perm a5 a4 hr) (.inr ⟨_,clock,rfl,h2⟩)
   split at h
   ·rename_i v0 hv;simp only[Option.some.injEq,Prod.mk.injEq]at h;obtain⟨rfl,rfl⟩:=h;exact⟨rfl,fin2 _ hv⟩
   ·rename_i hv;simp only[Option.some.injEq,Prod.mk.injEq]at h;obtain⟨rfl,rfl⟩:=h;exact⟨rfl,fin2 _ hv⟩
   ·cases h
  ·cases h
 ·cases h
theorem vv{B:Nat}{d:TypeDesc}{k v v':Value}(hv:VR ι B v v'):∀(es:List (Value×Value)) (ents:List MapEntry) (i:Nat) (es':List (Value×Value)),MR ι B es ents->iL d k v es=some es'->
  (Instr.findNow d k ents i=some none/\es'=es++[(k,v)])\/∃j e x,Instr.findNow d k ents i=some (some (i+j,x))/\ents[j]?=some e/\Instr.sameNow d k e.key=some true/\MR ι B es' (ents.modify j fun e=>{e with key:=k,val:=v'})
 |[],ents,i,es',hm,h=>by
  have:ents=[]:=by have:=hm.1;simpa using this.symm
  subst this;simp[iL]at h;exact .inl ⟨rfl,by simp[h]⟩
 |(k',w)::es,ents,i,es',hm,h=>by
  obtain⟨e,m,rfl,hk,hw,a0⟩:=hm.cons_inv;simp only[iL]at h;simp only[Instr.findNow,hk];cases hs:Instr.sameNow d k k' with
  |none=>rw[hs]at h;cases h
  |some b=>
   rw[hs]at h;cases b with
   |true=>
    simp at h;subst h;right;refine⟨0,e,e.val,rfl,rfl,by rw[hk];exact hs,?_⟩;refine⟨by simp[a0.1],fun j k0 v0 e0 a b=>?_⟩;cases j with
    |zero=>simp at a b;obtain⟨rfl,rfl⟩:=a;subst b;exact⟨rfl,hv⟩
    |succ j=>simp at a b;exact a0.2 j k0 v0 e0 a b
   |false=>
    simp only at h ⊢;cases hr:iL d k v es with
    |none=>rw[hr]at h;cases h
    |some r'=>
     rw[hr]at h;simp at h;subst h;rcases vv hv es m (i+1) r' a0 hr with⟨h1,rfl⟩|⟨j,e1,x,h1,h2,h3,h4⟩
     ·exact .inl ⟨h1,by simp⟩
     ·right;refine⟨j+1,e1,x,by rw[h1,show i+1+j=i+(j+1) by omega],by simpa using h2,h3,?_⟩;refine⟨by have:=h4.1;simp at this ⊢;exact this,fun q k0 v0 e0 a b=>?_⟩;cases q with
      |zero=>simp at a b;obtain⟨rfl,rfl⟩:=a;subst b;exact⟨hk,hw⟩
      |succ q=>simp at a b;exact h4.2 q k0 v0 e0 a b
theorem same_bits{d:TypeDesc}{a b:Value}(h:Instr.sameNow d a b=some true):Instr.sameBits 10000 b a=true:=by
 unfold Instr.sameNow at h;split at h
 ·split at h
  ·rename_i hk;subst hk;simp at h;subst h;simp[Instr.sameBits]
  ·cases h
 ·simp[bytes_beq]at h;subst h;simp[Instr.sameBits,bytes_beq]
 ·simp at h;simp[Instr.sameBits,h]
 ·cases h
theorem update_inv{t:TypeId}{m k x:Value}{r0:Option (Value×aC)}(h:rC P t m k x σ=r0)(hr:r0.isSome=true):∃kt et r kd es,P.underlying t=some (.map kt et)/\m=.map (some r)/\P.underlying kt=some kd/\σ.getMapW r=some es/\
  (bif oN kd k&&jM x then
    match iL kd k x es with
    |some es'=>some (.tuple #[],σ.put r (.map es'))
    |none=>none
   else bif rQ P kt k&&jM x then
    match jA (dS P kt) k x es with
    |some es'=>some (.tuple #[],σ.put r (.map es'))
    |none=>none
   else none)=r0:=by
 subst h;unfold rC at hr ⊢;split at hr
 ·rename_i kt et hd;split at hr
  ·rename_i r;split at hr
   ·rename_i r;split at hr
    ·rename_i kd a0;split at hr
     ·rename_i es hg;exact⟨kt,et,r,kd,es,hd,rfl,a0,hg,rfl⟩
     ·cases hr
    ·cases hr
   ·cases hr
  ·cases hr
 ·cases hr
theorem zx{t kt et:TypeId}{r:Nat}{es:List (Value×Value)}{m' x x' v:Value}{cs':Array Value}{b:Bool}(R:Rel ι W0 σ W)(hm:VR ι W0.heap.size (.map (some r)) m')(hx:VR ι W0.heap.size x x')(hd:P.underlying t=some (.map kt et))(hg:σ.getMapW r=some es)
  (a5:nB P kt cs'.toList cs'.toList=some b) (hp:cs'.toList.all (cA 0)=true)
  (h:(match jA (dS P kt) (.agg cs') x es with
    |some es'=>some (.tuple #[],σ.put r (.map es'))
    |none=>none)=some (v,σ')):fF P ι W0 W (do Instr.mapUpdate t m' (.agg cs') x';pure Next.skip) v σ':=by
 split at h
 ·rename_i es' b5;simp only[Option.some.injEq,Prod.mk.injEq]at h;obtain⟨rfl,rfl⟩:=h;obtain⟨i,rfl,hi⟩:=hm.map_inv;have a9:=wV hg;obtain⟨i',h1,ents,clock,h2,h3⟩:=R.map r es _ _ (.inl a9) hi;rw[hi]at h1;cases h1;obtain⟨es0,b2,b1,a8⟩:=h3.order;obtain⟨es2,b0,a7,a6⟩:=setA_perm b2 b1 b5;have a2:(Instr.checkKey false 10000 kt (.agg cs')).run P W=.ok () W:=yl false 9998 a5 hp;have fin:∀o,(∃ents2 clock2,o=.map ents2 clock2/\lY ι W0.heap.size es' ents2 clock2)->
    (Instr.mapUpdate t (.map (some i.c)) (.agg cs') x').run P W=.ok () {W with heap:=W.heap.setIfInBounds i.c o}->fF P ι W0 W (do Instr.mapUpdate t (.map (some i.c)) (.agg cs') x';pure Next.skip) (.tuple #[]) (σ.put r (.map es')):=by
   intro o ho a3;exact actOK_u ι.le_refl (R.setObj hi ⟨_,a9,nofun⟩ nofun (fun es2 h=>by cases h;exact ho) nofun) a3 rfl
  have a0:∀o,(setObj i.c o).run P W=.ok () {W with heap:=W.heap.setIfInBounds i.c o}:=fun o=>Go.MapKept.run_setObj_map o h2;rcases xh (W:=W) hp hx es0 ents.toList 0 es2 a8 b0 with⟨hf,rfl⟩|⟨j,e,y,hf,hj,a1,b3⟩
  ·refine fin (.map (ents.push {key:=(.agg cs'),val:=x',born:=clock}) (clock+1)) ⟨_,_,rfl,h3.born.push rfl,_,a7,a6,?_⟩ ?_
   ·rw[Array.toList_push];exact a8.snoc rfl hx
   ·unfold Instr.mapUpdate;rw[Sem.run_bind,bD hd];simp only[Result.andThen];rw[Sem.run_bind,Go.MapKept.run_getObj_map h2];simp only[Result.andThen];rw[Sem.run_bind,a2];simp only[Result.andThen];rw[Sem.run_bind,run_findKey_eq W (vO a5),hf];exact a0 _
  ·refine fin (.map (ents.modify j fun e=>{e with key:=(.agg cs'),val:=x'}) clock) ⟨_,_,rfl,h3.born.modify fun _=>rfl,_,a7,a6,by rw[Array.toList_modify];exact b3⟩ ?_;unfold Instr.mapUpdate;rw[Sem.run_bind,bD hd];simp only[Result.andThen];rw[Sem.run_bind,Go.MapKept.run_getObj_map h2];simp only[Result.andThen];rw[Sem.run_bind,a2];simp only[Result.andThen];rw[Sem.run_bind,run_findKey_eq W (vO a5),hf];simp only[Result.andThen,Nat.zero_add];have b6:ents[j]?=some e:=by simpa using hj
   have a4:(((ents[j]?).map (·.key)).getD (.agg cs'))=e.key:=by rw[b6];try rfl
   rw[a4,Sem.run_bind];have b4:(Instr.keyThatStays e.key (.agg cs')).run P W=.ok (.agg cs') W:=by unfold Instr.keyThatStays;rw[if_pos a1];try rfl
   rw[b4];exact a0 _
 ·cases h
theorem update_sound{t:TypeId}{m m' k k' x x' v:Value}(R:Rel ι W0 σ W)(hm:VR ι W0.heap.size m m')(hk:VR ι W0.heap.size k k')(hx:VR ι W0.heap.size x x')(h:rC P t m k x σ=some (v,σ')):
  fF P ι W0 W (do Instr.mapUpdate t m' k' x';pure Next.skip) v σ':=by
 obtain⟨kt,et,r,kd,es,hd,rfl,a7,hg,h⟩:=update_inv h rfl
 ···cases a2:(oN kd k&&jM x)with
   |false=>
    rw[a2]at h;simp only[cond_false]at h;cases a4:(rQ P kt k&&jM x)with
    |false=>rw[a4]at h;cases h
    |true=>
    rw[a4]at h;simp only[cond_true]at h;simp only[Bool.and_eq_true]at a4;obtain⟨cs,rfl,⟨b,b7⟩,hp⟩:=uf a4.1;obtain⟨cs',rfl,c0⟩:=hk.agg_inv;have c1:cs'=cs:=by exact Array.toList_inj.1 (uZ hp c0)
    subst c1;exact zx R hm hx hd hg b7 hp h
   |true=>
   rw[a2]at h;simp only[cond_true]at h;simp only[Bool.and_eq_true]at a2;obtain rfl:=isKey_eq a2.1 hk;split at h
   ·rename_i es' b8;simp only[Option.some.injEq,Prod.mk.injEq]at h;obtain⟨rfl,rfl⟩:=h;obtain⟨i,rfl,hi⟩:=hm.map_inv;have b1:=wV hg;obtain⟨i',h1,ents,clock,h2,h3⟩:=R.map r es _ _ (.inl b1) hi;rw[hi]at h1;cases h1;obtain⟨es0,b4,b3,b0⟩:=h3.order;obtain⟨es2,b2,a9,a8⟩:=set_perm b4 b3 b8;have a3:(Instr.checkKey false 10000 kt k').run P W=.ok () W:=run_checkKey a7 (wT a2.1) false 9999;have fin:∀o,(∃ents2 clock2,o=.map ents2 clock2/\lY ι W0.heap.size es' ents2 clock2)->
      (Instr.mapUpdate t (.map (some i.c)) k' x').run P W=.ok () {W with heap:=W.heap.setIfInBounds i.c o}->fF P ι W0 W (do Instr.mapUpdate t (.map (some i.c)) k' x';pure Next.skip) (.tuple #[]) (σ.put r (.map es')):=by
     intro o ho a5;exact actOK_u ι.le_refl (R.setObj hi ⟨_,b1,nofun⟩ nofun (fun es2 h=>by cases h;exact ho) nofun) a5 rfl
    have a0:∀o,(setObj i.c o).run P W=.ok () {W with heap:=W.heap.setIfInBounds i.c o}:=fun o=>Go.MapKept.run_setObj_map o h2;rcases vv hx es0 ents.toList 0 es2 b0 b2 with⟨hf,rfl⟩|⟨j,e,y,hf,hj,a1,b5⟩
    ·refine fin (.map (ents.push {key:=k',val:=x',born:=clock}) (clock+1)) ⟨_,_,rfl,h3.born.push rfl,_,a9,a8,?_⟩ ?_
     ·rw[Array.toList_push];exact b0.snoc rfl hx
     ·unfold Instr.mapUpdate;rw[Sem.run_bind,bD hd];simp only[Result.andThen];rw[Sem.run_bind,Go.MapKept.run_getObj_map h2];simp only[Result.andThen];rw[Sem.run_bind,a3];simp only[Result.andThen];rw[Sem.run_bind,run_findKey a7 hf];exact a0 _
    ·refine fin (.map (ents.modify j fun e=>{e with key:=k',val:=x'}) clock) ⟨_,_,rfl,h3.born.modify fun _=>rfl,_,a9,a8,by rw[Array.toList_modify];exact b5⟩ ?_;unfold Instr.mapUpdate;rw[Sem.run_bind,bD hd];simp only[Result.andThen];rw[Sem.run_bind,Go.MapKept.run_getObj_map h2];simp only[Result.andThen];rw[Sem.run_bind,a3];simp only[Result.andThen];rw[Sem.run_bind,run_findKey a7 hf];simp only[Result.andThen,Nat.zero_add];have b9:ents[j]?=some e:=by simpa using hj
     have a6:(((ents[j]?).map (·.key)).getD k')=e.key:=by rw[b9];try rfl
     rw[a6,Sem.run_bind];have b6:(Instr.keyThatStays e.key k').run P W=.ok k' W:=by unfold Instr.keyThatStays;rw[if_pos (same_bits a1)];try rfl
     rw[b6];exact a0 _
   ·cases h
theorem lenMap_sound{r:Option Nat}{m' v:Value}{t a b:TypeId}{ts:Array TypeId}{ty:TypeId}{cs:Array Bool}(R:Rel ι W0 σ W)(hm:VR ι W0.heap.size (.map r) m')(ht:ts[0]?=some t)(hd:P.underlying t=some (.map a b))(h:nN r σ=some (v,σ')):
  σ'=σ/\∃n,v=.int .i64 n/\(builtin .len ts ty cs #[m']).run P W=.ok (.value (.int .i64 n)) W:=by
 unfold nN at h;split at h
 ·simp only[Option.some.injEq,Prod.mk.injEq]at h;obtain⟨rfl,rfl⟩:=h;cases hm;refine⟨rfl,_,rfl,?_⟩;refine run_v (s:=Builtin.len_ ts ty #[.map none]) ?_;unfold Builtin.len_;simp only[ht,List.getElem?_toArray,List.getElem?_cons_zero];rw[Sem.run_bind,bD hd];try rfl
 ·rename_i r;split at h
  ·rename_i es hg;simp only[Option.some.injEq,Prod.mk.injEq]at h;obtain⟨rfl,rfl⟩:=h;obtain⟨i,rfl,hi⟩:=hm.map_inv;obtain⟨i',h1,ents,clock,h2,hE⟩:=R.map r es _ _ (sD hg) hi;have h3:=hE.size;rw[hi]at h1;cases h1;refine⟨rfl,_,rfl,?_⟩;refine run_v (s:=Builtin.len_ ts ty #[.map (some i.c)]) ?_;unfold Builtin.len_;simp only[ht,List.getElem?_toArray,List.getElem?_cons_zero];rw[Sem.run_bind,bD hd];simp only[Result.andThen];rw[Sem.run_bind,Go.MapKept.run_getObj_map h2];simp only[Result.andThen,h3];try rfl
  ·cases h
theorem next_sound{it it' v:Value}{s:Bool}{ty:TypeId}(R:Rel ι W0 σ W)(hx:VR ι W0.heap.size it it')(h:qZ it s σ=some (v,σ')):fF P ι W0 W (do pure (Next.value (<-Instr.next it' s ty))) v σ':=by
 unfold qZ at h;split at h
 ·rename_i r;cases s with
  |false=>cases h
  |true=>
  simp only[cond_true]at h;split at h
  ·rename_i str pos hg;obtain⟨a',rfl,ha⟩:=hx.ptr_inv;cases ha with
   |old _ q=>cases q
   | @new _ _ _ i q1 q2=>
   obtain⟨i',h1,h0,h2⟩:=R.iter r str pos _ _ hg q1;rw[show(0:Nat)/64=0 from rfl,h1]at q1;cases q1;have a2:(getObj i.c).run P W=.ok (.stringIter str pos) W:=by simp[getObj,Sem.run,h2]
   have a0:∀o,(setObj i.c o).run P W=.ok () {W with heap:=W.heap.setIfInBounds i.c o}:=fun o=>by simp[setObj,Sem.run,h2]
   cases hp:Nat.blt pos str.size with
   |true=>
    rw[hp]at h;simp only[cond_true,Option.some.injEq,Prod.mk.injEq]at h;obtain⟨rfl,rfl⟩:=h;have a1:pos<str.size:=by simp only[Nat.blt,Nat.ble_eq]at hp;exact hp
    have R':=R.setObj (o:=.stringIter str (pos+(Utf8.decode str pos).2)) (ao:=.iter str (pos+(Utf8.decode str pos).2)) h1 ⟨_,hg,nofun⟩ nofun nofun (fun s p h=>by cases h;exact⟨rfl,h0⟩);refine fO ι.le_refl R' (v':=.tuple #[.bool true,goInt pos,.int .i32 (Utf8.decode str pos).1]) ?_ (VRL.cons (.bool true) (VRL.cons (.int .i64 pos) (VRL.cons (.int .i32 (Utf8.decode str pos).1) .nil))).tuple;unfold Instr.next;simp only[h0];rw[Sem.run_bind,a2];simp only[Result.andThen];rw[if_pos a1,Sem.run_bind,a0];try rfl
   |false=>
    rw[hp]at h;simp only[cond_false,Option.some.injEq,Prod.mk.injEq]at h;obtain⟨rfl,rfl⟩:=h;have a3:¬pos<str.size:=by
     intro a1;have:Nat.blt pos str.size=true:=by simp only[Nat.blt,Nat.ble_eq];exact a1
     rw[hp]at this;cases this
    refine fO ι.le_refl R (v':=.tuple #[.bool false]) ?_ (VRL.cons (.bool false) .nil).tuple;unfold Instr.next;simp only[h0];rw[Sem.run_bind,a2];simp only[Result.andThen];rw[if_neg a3];try rfl
  ·cases h
 ·cases h
end
section
variable{P:Program}{ι:Inj}{W0 W:World}{σ σ':aC}
theorem wm{s:Sem Value}{v:Value}(R:Rel ι W0 σ W)(h:∃v',VR ι W0.heap.size v v'/\s.run P W=.ok v' W):fF P ι W0 W (do pure (Next.value (<-s))) v σ:=by obtain⟨v',h1,h2⟩:=h;exact fO ι.le_refl R h2 h1
theorem map_ev{fr:List Value}{a:Go.Act}(hG:P.globals.size<=W0.heap.size)(r:FR ι W0.heap.size fr a.tmps)(x:Option Operand)(d n:Int)(h:jJ d (x.map (ev P fr))=some n):x.map a.eval=x.map (ev P fr):=by
 cases x with
 |none=>rfl
 |some x=>
  simp only[Option.map_some]at h ⊢;rcases iM h with⟨h1,_⟩|⟨k,h1⟩
  ·cases h1
  ·have:=gS hG r x;simp only[Option.some.injEq]at h1;rw[h1]at this;rw[this.int_inv,h1]
theorem actOK_congr{s1 s2:Sem Value}{v:Value}(h:fF P ι W0 W (do pure (Next.value (<-s1))) v σ')(e:s2.run P W=s1.run P W):fF P ι W0 W (do pure (Next.value (<-s2))) v σ':=by obtain⟨κ,W',nx,v',g1,g2,g3,g4,g5⟩:=h;refine⟨κ,W',nx,v',g1,g2,?_,g4,g5⟩;rw[Sem.run_bind]at g3 ⊢;rw[e];exact g3
theorem xm{o:Oper}{fr:List Value}{a:Go.Act}{v:Value}(hG:P.globals.size<=W0.heap.size)(r:FR ι W0.heap.size fr a.tmps)(h:bE P o fr=.tot v\/bE P o fr=.pure true v):
  kQ P ι W0.heap.size W (execOp a.eval o) v:=by
 have E:=fun x=>gS (P:=P) (ι:=ι) (W0:=W0) hG r x;unfold bE at h;unfold execOp;cases a0:o.op with
 |move x=>rw[a0]at h;simp at h;subst h;exact⟨_,E x,rfl⟩
 |assign x=>rw[a0]at h;simp at h;subst h;exact⟨_,E x,rfl⟩
 |pick c x y=>
  rw[a0]at h;simp only at h;split at h
  ·rename_i t ht;simp at h;subst h;have hc:=E c;rw[ht]at hc;refine⟨if t then a.eval x else a.eval y,?_,?_⟩
   ·cases t with
    |true=>exact E x
    |false=>exact E y
   ·simp only[hc.bool_inv];try rfl
  ·simp at h
 |nilCheck x=>
  rw[a0]at h;simp only at h;have hx:=E x;split at h
  ·rename_i p hp;simp at h;subst h;rw[hp]at hx;obtain⟨p',e,a4⟩:=hx.ptr_inv;exact⟨_,.ptr a4,by simp only[e];rfl⟩
  ·rename_i f first captured hp
   simp at h;subst h;rw[hp]at hx;obtain⟨x',y',e,h1,h2⟩:=hx.func_inv;refine⟨_,hx,by simp only[e];rfl⟩
  ·simp at h
 |build t parts=>
  rw[a0]at h;simp only at h;split at h
  ·rename_i w hw;simp at h;subst h;obtain⟨h1,h2⟩:=mM hG r parts.toList;obtain⟨v',h3,h4⟩:=buildV_sound (W:=W) hw h1 h2;refine cT h3 ?_;have:parts.map (fun p=>(p.1,a.eval p.2))=(parts.toList.map fun p=>(p.1,a.eval p.2)).toArray:=by rw[<-Array.toList_map]
   rw[<-this]at h4;exact h4
  ·simp at h
 |binOp op t x y yt=>rw[a0]at h;exact binV_sound h (E x) (E y)
 |unOp op t x=>rw[a0]at h;exact unV_sound h (E x)
 |convert src dst x=>rw[a0]at h;exact convV_sound h (E x)
 |makeFunc fn first captured=>
  rw[a0]at h;cases fn with
  |func f=>
   simp at h;subst h;refine⟨.func (.func f) (first.map a.eval) (captured.map a.eval),?_,rfl⟩;have h1:=iG (P:=P) hG r first.toList
   have h2:=iG (P:=P) hG r captured.toList;refine .func _ (by simp) (by simp) (fun j v v' q1 q2=>h1.2 j v v' ?_ ?_) (fun j v v' q1 q2=>h2.2 j v v' ?_ ?_)
   ·rw[<-Array.toList_map,Array.getElem?_toList];exact q1
   ·rw[<-Array.toList_map,Array.getElem?_toList];exact q2
   ·rw[<-Array.toList_map,Array.getElem?_toList];exact q1
   ·rw[<-Array.toList_map,Array.getElem?_toList];exact q2
  |_=>simp at h
 |slice t x lo hi mx=>rw[a0]at h;exact sliceV_sound h (E x) (map_ev hG r lo) (map_ev hG r hi) (map_ev hG r mx)
 |fieldAddr s x f=>rw[a0]at h;exact vN h (E x)
 |field t x f=>rw[a0]at h;exact fieldV_sound h (E x)
 |indexAddr t x i=>rw[a0]at h;exact vI h (E x) (E i)
 |index t x i=>rw[a0]at h;exact indexV_sound h (E x) (E i)
 |extract t i=>
  rw[a0]at h;simp only at h;split at h
  ·rename_i vs a3;have ht:=E t;rw[a3]at ht;obtain⟨vs',e,hr⟩:=ht.tuple_inv;split at h
   ·rename_i w hw;simp at h;subst h;obtain⟨v',h1,h2⟩:=hr.get (j:=i) (by simpa using hw);refine cT h2 ?_;simp only[e,Instr.extract];rw[show vs'[i]?=some v' by simpa using h1];try rfl
   ·simp at h
  ·simp at h
 |call c=>
  rw[a0]at h;simp only at h;cases hc:c.callee with
  |builtin b=>
   rw[hc]at h;simp only at h;have a1:c.args.map a.eval=(c.args.toList.map a.eval).toArray:=by rw[<-Array.toList_map]
   have key:∀cs,kQ P ι W0.heap.size W (builtin b c.argTypes o.type cs (c.args.map a.eval)) v:=fun cs=>by rw[a1];exact yo h (iG (P:=P) hG r c.args.toList)
   simp only[resolve,hc,pure_bind,invoke];exact key _
  |value f=>
   rw[hc]at h;simp only at h;cases a2:sP f with
   |some g=>
    rw[a2]at h;simp only at h;obtain rfl:f=.func g:=by cases f<;>simp[sP]at a2;rw[a2]
    have hA:=iG (P:=P) hG r c.args.toList;unfold callR at h;split at h
    ·rename_i w hw;simp at h;subst h;obtain⟨v',q1,q2⟩:=natV_sound (W:=W) (args':=c.args.map a.eval) hw (by rw[Array.toList_map];exact hA);refine⟨v',q1,?_⟩;have e: #[]++c.args.map a.eval++ #[]=c.args.map a.eval:=by simp
     simp only[resolve,hc,Go.Act.eval,Deferred.ofValue,pure_bind,invoke,e];exact q2
    ·simp at h
   |none=>rw[a2]at h;simp only[callV]at h;split at h<;>simp at h
  |invoke recv m=>rw[hc]at h;simp at h
 |load t x=>rw[a0]at h;simp only at h;split at h<;>simp at h
 |store t x y=>rw[a0]at h;simp only at h;split at h<;>simp at h
 |makeMap t x=>
  rw[a0]at h;cases x with
  |none=>simp at h
  |some x=>simp only at h;split at h<;>simp at h
 |_=>rw[a0]at h;simp at h
theorem intBin_noact(op:BinOp)(k:IntKind)(a b:Int)(h:Act):pG op k a b≠ .act h:=by cases op<;>simp[pG]
theorem strBin_noact(op:BinOp)(a b:ByteArray)(h:Act):vT op a b≠ .act h:=by cases op<;>simp[vT]
theorem binV_noact(op:BinOp)(t:TypeId)(x y:Value)(h:Act):binV P op t x y≠ .act h:=by
 unfold binV;split
 ·rename_i k a k' b;split
  ·simp
  ·simp
  ·cases decide (k=k')with
   |true=>exact intBin_noact _ _ _ _ _
   |false=>simp
 ·exact strBin_noact _ _ _ _
 ·split
  ·split<;>simp
  ·split<;>simp
  ·simp
theorem unV_noact(op:UnOp)(x:Value)(h:Act):unV op x≠ .act h:=by unfold unV;split<;>simp
theorem jQ{c:Bool}{x y:iP}{h:Act}(hx:x≠ .act h)(hy:y≠ .act h):(bif c then x else y)≠ .act h:=by cases c<;>simpa
theorem sliceV_noact(t:TypeId)(x:Value)(lo hi mx:Option Value)(h:Act):oZ P t x lo hi mx≠ .act h:=by
 unfold oZ;split
 ·split<;>simp
 ·split
  ·exact jQ (by simp) (by simp)
  ·simp
 ·split
  ·exact jQ (by simp) (by simp)
  ·simp
 ·simp
theorem vA(t:TypeId)(x:Value)(f:Nat)(h:Act):fY P t x f≠ .act h:=by
 unfold fY;split
 ·split
  ·exact jQ (by simp) (by simp)
  ·simp
 ·simp
theorem fieldV_noact(t:TypeId)(x:Value)(f:Nat)(h:Act):pV P t x f≠ .act h:=by
 unfold pV;split
 ·split
  ·refine jQ ?_ (by simp);split<;>simp
  ·simp
 ·simp
theorem wG(t:TypeId)(x i:Value)(h:Act):eK P t x i≠ .act h:=by
 unfold eK;split
 ·exact jQ (by simp) (by simp)
 ·exact jQ (by simp) (by simp)
 ·simp
theorem indexV_noact(t:TypeId)(x i:Value)(h:Act):pF P t x i≠ .act h:=by unfold pF;split<;>simp
theorem sF(f:Int->Int->Int)(k:IntKind):∀(l:List Value) (a:Int) (h:Act),dD f k a l≠ .act h
 |[],a,h=>by simp[dD]
 |x::l,a,h=>by
  cases x with
  |int k' b=>simp only[dD];exact sF f k l _ h
  |_=>simp[dD]
theorem builtin_act{b:Builtin}{ts:Array TypeId}{ty:TypeId}{xs xs':List Value}{v:Value}{h:Act}(R:Rel ι W0 σ W)(hA:VRL ι W0.heap.size xs xs')(ho:fG P b ts xs=.act h)(hh:h σ=some (v,σ'))(cs:Array Bool):
  fF P ι W0 W (builtin b ts ty cs xs'.toArray) v σ':=by
 unfold fG at ho;split at ho
 ·rename_i x;obtain⟨x',m,rfl,hx,hm⟩:=hA.cons_inv;cases hm.nil_inv;cases ht:ts[0]? with
  |none=>rw[ht]at ho;simp at ho
  |some t=>
   rw[ht]at ho;simp only[Option.bind_some]at ho;cases hd:P.underlying t with
   |none=>rw[hd]at ho;simp at ho
   |some d=>rw[hd]at ho;simp only at ho;unfold qk at ho;split at ho<;>simp at ho;subst ho;obtain⟨rfl,n,rfl,a0⟩:=lenMap_sound (P:=P) (ty:=ty) (cs:=cs) R hx ht hd hh;exact⟨ι,W,_,_,ι.le_refl,R,a0,rfl,.int _ _⟩
 ·rename_i s x;obtain⟨s',m,rfl,hs,hm⟩:=hA.cons_inv;obtain⟨x',m,rfl,hx,hm⟩:=hm.cons_inv;cases hm.nil_inv;cases ht:ts[0]? with
  |none=>rw[ht]at ho;simp at ho
  |some t=>rw[ht]at ho;simp at ho;subst ho;exact append_sound R ht hs hx hh
 ·rename_i s x;obtain⟨s',m,rfl,hs,hm⟩:=hA.cons_inv;obtain⟨x',m,rfl,hx,hm⟩:=hm.cons_inv;cases hm.nil_inv;cases ht:ts[0]? with
  |none=>rw[ht]at ho;simp at ho
  |some t=>rw[ht]at ho;simp at ho;subst ho;exact copy_sound R ht hs hx hh
 ·rename_i x;obtain⟨x',m,rfl,hx,hm⟩:=hA.cons_inv;cases hm.nil_inv;cases ht:ts[0]? with
  |none=>rw[ht]at ho;simp at ho
  |some t=>rw[ht]at ho;simp at ho;subst ho;exact clear_sound R ht hx hh
 ·rename_i k a r;exact absurd ho (sF _ _ _ _ _)
 ·rename_i k a r;exact absurd ho (sF _ _ _ _ _)
 ·simp at ho
theorem op_act{o:Oper}{fr:List Value}{a:Go.Act}{v:Value}{h:Act}(hG:P.globals.size<=W0.heap.size)(R:Rel ι W0 σ W)(r:FR ι W0.heap.size fr a.tmps)(ho:bE P o fr=.act h)(hh:h σ=some (v,σ')):
  fF P ι W0 W (execOp a.eval o) v σ':=by
 have E:=fun x=>gS (P:=P) (ι:=ι) (W0:=W0) hG r x;unfold bE at ho;unfold execOp;cases a0:o.op with
 |alloc t=>rw[a0]at ho;simp at ho;subst ho;exact alloc_sound R hh
 |box t x=>rw[a0]at ho;simp at ho;subst ho;exact box_sound t R (E x) hh
 |buildSlice t len parts=>
  rw[a0]at ho;simp at ho;subst ho;obtain⟨h1,h2⟩:=mM (P:=P) hG r parts.toList;have:=vY (t:=t) (len:=len) R h1 h2 (by simpa using hh);have e:parts.map (fun p=>(p.1,a.eval p.2))=(parts.toList.map fun p=>(p.1,a.eval p.2)).toArray:=by rw[<-Array.toList_map]
  rw[<-e]at this;exact this
 |load t x=>
  rw[a0]at ho;simp only at ho;split at ho
  ·rename_i p hp;simp at ho;subst ho;have hx:=E x;rw[hp]at hx;obtain⟨p',e,a5⟩:=hx.ptr_inv;obtain⟨rfl,v',h1,h2⟩:=ld_sound (P:=P) R a5 hh;refine wm R ⟨v',h1,?_⟩;simp only[e,Instr.loadAt,Instr.sureAddr,pure_bind];exact h2
  ·simp at ho
 |store t x y=>
  rw[a0]at ho;simp only at ho;split at ho
  ·rename_i p hp;simp at ho;subst ho;have hx:=E x;rw[hp]at hx;obtain⟨p',e,a5⟩:=hx.ptr_inv;obtain⟨rfl,W',R',h2⟩:=st_sound (P:=P) R a5 (E y) hh;refine actOK_u ι.le_refl R' ?_ rfl;simp only[e,Instr.storeAt,Instr.sureAddr,pure_bind];exact h2
  ·simp at ho
 |convert src dst x=>
  rw[a0]at ho;have hx:=E x;simp only at ho;unfold pA at ho;split at ho
  ·simp at ho
  ·simp at ho
  ·simp at ho
  ·have hs:= ‹P.underlying src=some _›;have hd:= ‹P.underlying dst=some _›;split at ho
   ·rename_i he;simp at ho;subst ho;rename_i e s q1 q2 q3 q4 _;rw[q4]at hx;have a3:=hx.string_inv;simp only[a3];refine actOK_congr (rH (P:=P) (e:=s) R hh) ?_;unfold convert;rw[Sem.run_bind,bD hs];simp only[Result.andThen];rw[Sem.run_bind,bD hd];simp only[Result.andThen];rw[Sem.run_bind,bD he];try rfl
   ·simp at ho
  ·have hs:= ‹P.underlying src=some _›;have hd:= ‹P.underlying dst=some _›;split at ho
   ·rename_i he;simp at ho;subst ho;have a4:∃p n c,ev P fr x=.slice p n c:=by
     unfold dB at hh;split at hh
     ·exact⟨_,_,_,by assumption⟩
     ·exact⟨_,_,_,by assumption⟩
     ·cases hh
    obtain⟨rfl,s,rfl,a1⟩:=rI (P:=P) R hx hh;obtain⟨p,n,c,a4⟩:=a4;rw[a4]at hx;obtain⟨p',c',a3,_,_⟩:=hx.slice_inv;rw[a3]at a1;simp only[a3];refine fO ι.le_refl R ?_ (.string s);unfold convert;rw[Sem.run_bind,bD hs];simp only[Result.andThen];rw[Sem.run_bind,bD hd];simp only[Result.andThen];rw[Sem.run_bind,bD he];exact a1
   ·simp at ho
  ·simp at ho
 |makeSlice t l c=>rw[a0]at ho;simp at ho;subst ho;exact xQ R (E l) (E c) hh
 |makeMap t x=>
  rw[a0]at ho;cases x with
  |none=>simp at ho;subst ho;exact rN R (fun x h=>by cases h) hh
  |some x=>
   simp only at ho;split at ho
   ·rename_i q1 q2 q3 q4 q5 q6;simp at ho;subst ho;have hx:=E x;rw[show ev P fr x=_ from by assumption]at hx;refine rN R (fun y h=>?_) hh;simp only[Option.map_some,Option.some.injEq]at h;subst h;exact⟨⟨_,_,hx.int_inv⟩,_,_,by assumption⟩
   ·simp at ho
 |lookup t m k ok=>rw[a0]at ho;simp at ho;subst ho;obtain⟨rfl,h1⟩:=qw (P:=P) R (E m) (E k) hh;exact wm R h1
 |mapUpdate t m k x=>rw[a0]at ho;simp at ho;subst ho;exact update_sound R (E m) (E k) (E x) hh
 |range t x=>rw[a0]at ho;simp at ho;subst ho;exact range_sound R (E x) hh
 |next it s=>rw[a0]at ho;simp at ho;subst ho;exact next_sound R (E it) hh
 |call c=>
  rw[a0]at ho;simp only at ho;cases hc:c.callee with
  |builtin b=>
   rw[hc]at ho;simp only at ho;have hA:=iG (P:=P) hG r c.args.toList;simp only[resolve,hc,pure_bind,invoke];have a2:c.args.map a.eval=(c.args.toList.map a.eval).toArray:=by rw[<-Array.toList_map]
   rw[a2];generalize c.args.toList.map (ev P fr)=xs at hA ho;generalize c.args.toList.map a.eval=xs' at hA;exact builtin_act R hA ho hh _
  |value f=>
   rw[hc]at ho;simp only at ho;cases a6:sP f with
   |some g=>rw[a6]at ho;simp only[callR]at ho;split at ho<;>simp at ho
   |none=>rw[a6]at ho;simp only[callV]at ho;split at ho<;>simp at ho
  |invoke recv m=>rw[hc]at ho;simp at ho
 |move x=>rw[a0]at ho;simp at ho
 |assign x=>rw[a0]at ho;simp at ho
 |pick x y z=>rw[a0]at ho;simp only at ho;split at ho<;>simp at ho
 |build t p=>rw[a0]at ho;simp only at ho;split at ho<;>simp at ho
 |nilCheck x=>rw[a0]at ho;simp only at ho;split at ho<;>simp at ho
 |binOp op t x y yt=>rw[a0]at ho;exact absurd ho (binV_noact _ _ _ _ _)
 |unOp op t x=>rw[a0]at ho;exact absurd ho (unV_noact _ _ _)
 |slice t x lo hi mx=>rw[a0]at ho;exact absurd ho (sliceV_noact _ _ _ _ _ _)
 |fieldAddr s x f=>rw[a0]at ho;exact absurd ho (vA _ _ _ _)
 |field t x f=>rw[a0]at ho;exact absurd ho (fieldV_noact _ _ _ _)
 |indexAddr t x i=>rw[a0]at ho;exact absurd ho (wG _ _ _ _)
 |index t x i=>rw[a0]at ho;exact absurd ho (indexV_noact _ _ _ _)
 |makeFunc fn first captured=>rw[a0]at ho;cases fn<;>simp at ho
 |extract t i=>
  rw[a0]at ho;simp only at ho;split at ho
  ·split at ho<;>simp at ho
  ·simp at ho
 |_=>rw[a0]at ho;simp at ho
theorem ve(op:BinOp)(k:IntKind)(a b:Int)(g:FuncId)(as:List Value):pG op k a b≠ .call g as:=by cases op<;>simp[pG]
theorem zk(op:BinOp)(a b:ByteArray)(g:FuncId)(as:List Value):vT op a b≠ .call g as:=by cases op<;>simp[vT]
theorem binV_nocall(op:BinOp)(t:TypeId)(x y:Value)(g:FuncId)(as:List Value):binV P op t x y≠ .call g as:=by
 unfold binV;split
 ·rename_i k a k' b;split
  ·simp
  ·simp
  ·cases decide (k=k')with
   |true=>exact ve _ _ _ _ _ _
   |false=>simp
 ·exact zk _ _ _ _ _
 ·split
  ·split<;>simp
  ·split<;>simp
  ·simp
theorem unV_nocall(op:UnOp)(x:Value)(g:FuncId)(as:List Value):unV op x≠ .call g as:=by unfold unV;split<;>simp
theorem iU{c:Bool}{x y:iP}{g:FuncId}{as:List Value}(hx:x≠ .call g as)(hy:y≠ .call g as):(bif c then x else y)≠ .call g as:=by cases c<;>simpa
theorem zn(t:TypeId)(x:Value)(lo hi mx:Option Value)(g:FuncId)(as:List Value):oZ P t x lo hi mx≠ .call g as:=by
 unfold oZ;split
 ·split<;>simp
 ·split
  ·exact iU (by simp) (by simp)
  ·simp
 ·split
  ·exact iU (by simp) (by simp)
  ·simp
 ·simp
theorem uM(t:TypeId)(x:Value)(f:Nat)(g:FuncId)(as:List Value):fY P t x f≠ .call g as:=by
 unfold fY;split
 ·split
  ·exact iU (by simp) (by simp)
  ·simp
 ·simp
theorem zw(t:TypeId)(x:Value)(f:Nat)(g:FuncId)(as:List Value):pV P t x f≠ .call g as:=by
 unfold pV;split
 ·split
  ·refine iU ?_ (by simp);split<;>simp
  ·simp
 ·simp
theorem uL(t:TypeId)(x i:Value)(g:FuncId)(as:List Value):eK P t x i≠ .call g as:=by
 unfold eK;split
 ·exact iU (by simp) (by simp)
 ·exact iU (by simp) (by simp)
 ·simp
theorem zp(t:TypeId)(x i:Value)(g:FuncId)(as:List Value):pF P t x i≠ .call g as:=by unfold pF;split<;>simp
theorem qC(f:Int->Int->Int)(k:IntKind):∀(l:List Value) (a:Int) (g:FuncId) (as:List Value),dD f k a l≠ .call g as
 |[],a,g,as=>by simp[dD]
 |x::l,a,g,as=>by
  cases x with
  |int k' b=>simp only[dD];exact qC f k l _ g as
  |_=>simp[dD]
theorem convV_nocall(src dst:TypeId)(x:Value)(g:FuncId)(as:List Value):pA P src dst x≠ .call g as:=by
 unfold pA;split
 ·simp
 ·simp
 ·simp
 ·split<;>simp
 ·split<;>simp
 ·simp
theorem xP(b:Builtin)(ts:Array TypeId)(xs:List Value)(g:FuncId)(as:List Value):fG P b ts xs≠ .call g as:=by
 unfold fG;split
 ·split
  ·unfold qk;split<;>simp
  ·simp
 ·split<;>simp
 ·split<;>simp
 ·split<;>simp
 ·exact qC _ _ _ _ _ _
 ·exact qC _ _ _ _ _ _
 ·simp
theorem op_call{o:Oper}{fr:List Value}{a:Go.Act}{f:FuncId}{args:List Value}(hG:P.globals.size<=W0.heap.size)(r:FR ι W0.heap.size fr a.tmps)(ho:bE P o fr=.call f args):
  ∃args':Array Value,VRL ι W0.heap.size args args'.toList/\(execOp a.eval o).run P W=(callFunc f args').run P W:=by
 have E:=fun x=>gS (P:=P) (ι:=ι) (W0:=W0) hG r x;have key:∀c,o.op=.call c->∃args':Array Value,VRL ι W0.heap.size args args'.toList/\(execOp a.eval o).run P W=(callFunc f args').run P W:=by
  intro c a0;unfold bE at ho;rw[a0]at ho;simp only at ho;cases hc:c.callee with
  |builtin b=>rw[hc]at ho;exact absurd ho (xP _ _ _ _ _)
  |value fv=>
   rw[hc]at ho;simp only at ho;cases a1:sP fv with
   |some g=>
    rw[a1]at ho;simp only[callR]at ho;split at ho
    ·simp at ho
    ·simp at ho;obtain⟨rfl,rfl⟩:=ho;obtain rfl:fv=.func g:=by cases fv<;>simp[sP]at a1;rw[a1]
     have hA:=iG (P:=P) hG r c.args.toList;refine⟨c.args.map a.eval,by rw[Array.toList_map];exact hA,?_⟩;unfold execOp;rw[a0];have e: #[]++c.args.map a.eval++ #[]=c.args.map a.eval:=by simp
     simp only[resolve,hc,Go.Act.eval,Deferred.ofValue,pure_bind,invoke,e]
   |none=>
    rw[a1]at ho;simp only[callV]at ho;split at ho
    ·rename_i g first captured hf
     simp at ho;obtain⟨rfl,rfl⟩:=ho;have hx:=E fv;rw[hf]at hx;obtain⟨x',y',e,h1,h2⟩:=hx.func_inv;have hA:=iG (P:=P) hG r c.args.toList;refine⟨x'++c.args.map a.eval++y',?_,?_⟩
     ·simp only[Array.toList_append,Array.toList_map];rw[List.append_assoc];exact h1.append (hA.append h2)
     ·unfold execOp;rw[a0];simp only[resolve,hc,e,Deferred.ofValue,pure_bind,invoke]
    ·simp at ho
  |invoke recv m=>rw[hc]at ho;simp at ho
 cases a0:o.op with
 |call c=>exact key c a0
 |load t x=>unfold bE at ho;rw[a0]at ho;simp only at ho;split at ho<;>simp at ho
 |store t x y=>unfold bE at ho;rw[a0]at ho;simp only at ho;split at ho<;>simp at ho
 |makeMap t x=>
  unfold bE at ho;rw[a0]at ho;cases x with
  |none=>simp at ho
  |some x=>simp only at ho;split at ho<;>simp at ho
 |pick x y z=>unfold bE at ho;rw[a0]at ho;simp only at ho;split at ho<;>simp at ho
 |build t p=>unfold bE at ho;rw[a0]at ho;simp only at ho;split at ho<;>simp at ho
 |nilCheck x=>unfold bE at ho;rw[a0]at ho;simp only at ho;split at ho<;>simp at ho
 |binOp op t x y yt=>unfold bE at ho;rw[a0]at ho;exact absurd ho (binV_nocall _ _ _ _ _ _)
 |unOp op t x=>unfold bE at ho;rw[a0]at ho;exact absurd ho (unV_nocall _ _ _ _)
 |convert a b x=>unfold bE at ho;rw[a0]at ho;exact absurd ho (convV_nocall _ _ _ _ _)
 |slice t x lo hi mx=>unfold bE at ho;rw[a0]at ho;exact absurd ho (zn _ _ _ _ _ _ _)
 |fieldAddr s x f=>unfold bE at ho;rw[a0]at ho;exact absurd ho (uM _ _ _ _ _)
 |field t x f=>unfold bE at ho;rw[a0]at ho;exact absurd ho (zw _ _ _ _ _)
 |indexAddr t x i=>unfold bE at ho;rw[a0]at ho;exact absurd ho (uL _ _ _ _ _)
 |index t x i=>unfold bE at ho;rw[a0]at ho;exact absurd ho (zp _ _ _ _ _)
 |makeFunc fn first captured=>unfold bE at ho;rw[a0]at ho;cases fn<;>simp at ho
 |extract t i=>
  unfold bE at ho;rw[a0]at ho;simp only at ho;split at ho
  ·split at ho<;>simp at ho
  ·simp at ho
 |_=>unfold bE at ho;rw[a0]at ho;simp at ho
end
section
variable{P:Program}{ι:Inj}{W0 W:World}{σ σ':aC}
theorem rL{t:TypeId}{r:Option Value}{v:Value}(hr:∀x,r=some x->(∃k n,x=.int k n)/\∃a b,P.underlying t=some (.map a b))(h:eZ σ=some (v,σ')):
  kW P ι W0 W (Instr.makeMap t r) v σ σ':=by
 unfold eZ at h;cases h;refine⟨.map [],.map #[] 0,⟨W.heap.size,0,0,0,0⟩,.map (some W.heap.size),rfl,?_,fun τ b R hb a0 hu=>R.linkObj hb a0 hu nofun (fun es h=>by cases h;exact⟨rfl,rfl⟩) nofun,fun κ _ hk=>VR.map hk⟩;unfold Instr.makeMap;cases r with
 |none=>rfl
 |some x=>obtain⟨⟨k,n,rfl⟩,a,b,hd⟩:=hr x rfl;simp only;rw[Sem.run_bind,bD hd];try rfl
theorem op_alloc{o:Oper}{fr:List Value}{a:Go.Act}{v:Value}{h:Act}(a1:dP o=true)(hG:P.globals.size<=W0.heap.size)(r:FR ι W0.heap.size fr a.tmps)(ho:bE P o fr=.act h)(hh:h σ=some (v,σ')):
  ∃s:Sem Value,execOp a.eval o=(do pure (Next.value (<-s)))/\kW P ι W0 W s v σ σ':=by
 have E:=fun x=>gS (P:=P) (ι:=ι) (W0:=W0) hG r x;unfold bE at ho;unfold execOp;unfold dP at a1;cases a0:o.op with
 |alloc t=>rw[a0]at ho;simp at ho;subst ho;exact⟨_,rfl,xF hh⟩
 |box t x=>rw[a0]at ho;simp at ho;subst ho;exact⟨_,rfl,vJ t (E x) hh⟩
 |buildSlice t len parts=>
  rw[a0]at ho;simp at ho;subst ho;obtain⟨h1,h2⟩:=mM (P:=P) hG r parts.toList;have:=nD (P:=P) (W:=W) (t:=t) (len:=len) h1 h2 (by simpa using hh);have e:parts.map (fun p=>(p.1,a.eval p.2))=(parts.toList.map fun p=>(p.1,a.eval p.2)).toArray:=by rw[<-Array.toList_map]
  rw[<-e]at this;exact⟨_,rfl,this⟩
 |makeSlice t l c=>rw[a0]at ho;simp at ho;subst ho;exact⟨_,rfl,oQ (E l) (E c) hh⟩
 |makeMap t x=>
  rw[a0]at ho;cases x with
  |none=>simp at ho;subst ho;exact⟨_,rfl,rL (fun x h=>by cases h) hh⟩
  |some x=>
   simp only at ho;split at ho
   ·simp at ho;subst ho;have hx:=E x;rw[show ev P fr x=_ from by assumption]at hx;refine⟨_,rfl,rL (fun y h=>?_) hh⟩;simp only[Option.map_some,Option.some.injEq]at h;subst h;exact⟨⟨_,_,hx.int_inv⟩,_,_,by assumption⟩
   ·simp at ho
 |_=>rw[a0]at a1;cases a1
theorem alloc_push{o:Oper}{fr:List Value}{h:Act}{v:Value}(a2:dP o=true)(ho:bE P o fr=.act h)(hh:h σ=some (v,σ')):∃ao,σ'=σ.push ao:=by
 unfold bE at ho;unfold dP at a2;have a1:∀{x:Value},oB x σ=some (v,σ')->∃ao,σ'=σ.push ao:=by
  intro x h;unfold oB at h;obtain⟨_,h2⟩:=cD h;cases h2;exact⟨_,rfl⟩
 cases a0:o.op with
 |alloc t=>
  rw[a0]at ho;simp at ho;subst ho;unfold nH at hh;split at hh
  ·exact a1 hh
  ·cases hh
 |box t x=>rw[a0]at ho;simp at ho;subst ho;exact a1 hh
 |buildSlice t len parts=>
  rw[a0]at ho;simp at ho;subst ho;unfold fI at hh;split at hh
  ·cases hh
  ·split at hh
   ·cases hh
   ·obtain⟨_,hh⟩:=mR hh;split at hh
    ·obtain⟨_,h2⟩:=cD hh;cases h2;exact⟨_,rfl⟩
    ·cases hh
 |makeSlice t l c=>
  rw[a0]at ho;simp at ho;subst ho;unfold jG at hh;split at hh
  ·split at hh
   ·obtain⟨_,h2⟩:=cD hh;cases h2;exact⟨_,rfl⟩
   ·cases hh
  ·cases hh
 |makeMap t x=>
  rw[a0]at ho;cases x with
  |none=>simp at ho;subst ho;cases hh;exact⟨_,rfl⟩
  |some x=>
   simp only at ho;split at ho
   ·simp at ho;subst ho;cases hh;exact⟨_,rfl⟩
   ·simp at ho
 |_=>rw[a0]at a2;cases a2
end
inductive Ex where
 |normal
 |exit (id:Nat)
 |ret
def Ex.beq:Ex->Ex->Bool
 |.normal,.normal=>true
 |.ret,.ret=>true
 |.exit a,.exit b=>Nat.beq a b
 |_,_=>false
inductive Pg where
 |ret (e:Ex) (vs:List Value)
 |fail
 |act (h:Act) (k:Value->Pg)
 |get (k:aC->Pg)
 |call (f:FuncId) (args:List Value) (k:Value->Pg)
 |join (p:Pg) (k:Ex->List Value->Pg)
 |loop (st:List Value) (body:List Value->Pg) (k:Ex->List Value->Pg)
def iter(f:List Value->aC->Option ((Ex×List Value)×aC)):Nat->List Value->aC->Option ((Ex×List Value)×aC)
 |0,_,_=>none
 |n+1,st,σ=>match f st σ with
  |some ((.normal,st'),σ')=>iter f n st' σ'
  |r=>r
abbrev gO:=FuncId->List Value->aC->Option (Value×aC)
def exec(cf:gO)(N:Nat):Pg->aC->Option ((Ex×List Value)×aC)
 |.ret e vs,σ=>some ((e,vs),σ)
 |.fail,_=>none
 |.act h k,σ=>match h σ with
  |some (v,σ')=>exec cf N (k v) σ'
  |none=>none
 |.get k,σ=>exec cf N (k σ) σ
 |.call f args k,σ=>match cf f args σ with
  |some (v,σ')=>exec cf N (k v) σ'
  |none=>none
 |.join p k,σ=>match exec cf N p σ with
  |some ((e,vs),σ')=>exec cf N (k e vs) σ'
  |none=>none
 |.loop st body k,σ=>match iter (fun st σ=>exec cf N (body st) σ) N st σ with
  |some ((e,vs),σ')=>exec cf N (k e vs) σ'
  |none=>none
def asInt(k:IntKind)(v:Value)(f:Int->Pg):Pg:=match v with
 |.int k' n=>bif decide (k=k') then f n else .fail
 |_=>.fail
def eF(v:Value)(f:Bool->Pg):Pg:=match v with
 |.bool b=>f b
 |_=>.fail
def kF(v:Value)(f:ByteArray->Pg):Pg:=match v with
 |.string s=>f s
 |_=>.fail
def aR(v:Value)(f:Option Addr->Pg):Pg:=match v with
 |.pointer a=>f a
 |_=>.fail
def aD(a:Option Addr)(f:Addr->Pg):Pg:=match a with
 |some a=>f a
 |none=>.fail
def aI(v:Value)(f:Option Addr->Nat->Nat->Pg):Pg:=match v with
 |.slice a n c=>f a n c
 |_=>.fail
def qt(v:Value)(f:Option Nat->Pg):Pg:=match v with
 |.map r=>f r
 |_=>.fail
def aU(l:List Value)(f:Value->List Value->Pg):Pg:=match l with
 |[]=>.fail
 |c::r=>f c r
def aH(l:List Value)(p:Pg):Pg:=match l with
 |[]=>p
 |_::_=>.fail
def asAgg(v:Value)(f:List Value->Pg):Pg:=match v with
 |.agg cs=>f cs.toList
 |_=>.fail
def bM(v:Value)(f:List Value->Pg):Pg:=match v with
 |.tuple cs=>f cs.toList
 |_=>.fail
def oM(v:Value)(f:FuncId->List Value->List Value->Pg):Pg:=match v with
 |.func (.func g) x y=>f g x.toList y.toList
 |_=>.fail
def asNext(v:Value)(k:Value->Pg):Pg:=bM v fun l=>aU l fun c r=>eF c fun b=>bif b then
  (aU r fun x r=>asInt .i64 x fun n=>aU r fun y r=>asInt .i32 y fun m=>aH r (k (.tuple #[.bool true,.int .i64 n,.int .i32 m])))
 else aH r (k (.tuple #[.bool false]))
def grd(c:Bool)(p:Pg):Pg:=bif c then p else .fail
section
variable(P:Program)
def typed0(t:TypeId)(v:Value)(k:Value->Pg):Pg:=
 match P.underlying t with
 |some (.int kd)=>asInt kd v fun n=>k (.int kd n)
 |some .bool=>eF v fun b=>k (.bool b)
 |some .string=>kF v fun s=>k (.string s)
 |some (.pointer _)=>aR v fun a=>k (.pointer a)
 |some (.slice _)=>aI v fun a n c=>k (.slice a n c)
 |some (.map _ _)=>qt v fun r=>k (.map r)
 |_=>k v
def qH:List TypeId->List Value->(List Value->Pg)->Pg
 |t::ts,l,k=>aU l fun c r=>typed0 P t c fun c'=>qH ts r fun r'=>k (c'::r')
 |[],l,k=>aH l (k [])
def uR:Nat->TypeId->List TypeId
 |0,t=>[t]
 |n+1,t=>match P.underlying t with
  |some (.struct fields)=>fields.toList.flatMap fun f=>uR n f.type
  |some (.array m e)=>(List.replicate m (uR n e)).flatten
  |_=>[t]
def typed1(t:TypeId)(v:Value)(k:Value->Pg):Pg:=
 match P.underlying t with
 |some (.struct _)=>asAgg v fun l=>qH P (uR P 8 t) l fun cs=>k (.agg cs.toArray)
 |some (.array m _)=>bif Nat.blt 64 m then k v else asAgg v fun l=>qH P (uR P 8 t) l fun cs=>k (.agg cs.toArray)
 |_=>typed0 P t v k
def typedT:List TypeId->List Value->(List Value->Pg)->Pg
 |t::ts,l,k=>aU l fun c r=>typed1 P t c fun c'=>typedT ts r fun r'=>k (c'::r')
 |[],l,k=>aH l (k [])
def typed(t:TypeId)(v:Value)(k:Value->Pg):Pg:=
 match P.underlying t with
 |some (.tuple ts)=>bM v fun l=>typedT P ts.toList l fun vs'=>k (.tuple vs'.toArray)
 |_=>typed1 P t v k
inductive RT where
 |ptr
 |next
 |ty (t:TypeId)
def xy(o:Oper):RT:=match o.op with
 |.alloc _|.box _ _|.fieldAddr _ _ _|.indexAddr _ _ _|.range _ _=>.ptr
 |.nilCheck _=>match P.underlying o.type with
  |some (.tuple _)=>.ptr
  |_=>.ty o.type
 |.next _ _=>.next
 |_=>.ty o.type
def jO(r:RT)(v:Value)(k:Value->Pg):Pg:=match r with
 |.ptr=>aR v fun a=>aD a fun a=>k (.pointer (some a))
 |.next=>asNext v k
 |.ty t=>typed P t v k
def qv:List RT->List Value->(List Value->Pg)->Pg
 |t::ts,l,k=>aU l fun c r=>jO P t c fun c'=>qv ts r fun r'=>k (c'::r')
 |[],l,k=>aH l (k [])
def simpleOp(o:Oper):Bool:=match o.op with
 |.move _|.assign _|.pick _ _ _|.unOp _ _ _|.field _ _ _|.extract _ _=>true
 |.binOp op _ _ _ _=>match op with
  |.quo|.rem|.shl|.shr=>false
  |_=>true
 |_=>false
inductive HC where
 |none|quiet|eff
def mV(o:Oper):HC:=
 match o.op with
 |.load _ _|.lookup _ _ _ _=>.quiet
 |.alloc _|.box _ _|.buildSlice _ _ _|.store _ _ _|.makeMap _ _|.makeSlice _ _ _|.mapUpdate _ _ _ _|.range _ _|.next _ _=>.eff
 |.convert src dst _=>match P.underlying src,P.underlying dst with
  |some .string,some (.slice _)=>.eff
  |some (.slice _),some .string=>.quiet
  |_,_=>.none
 |.call c=>match c.callee with
  |.builtin .len=>match (c.argTypes[0]?).bind P.underlying with
   |some (.map _ _)=>.quiet
   |_=>.none
  |.builtin .append|.builtin .copy|.builtin .clear=>.eff
  |.builtin _=>.none
  |_=>.eff
 |_=>.none
def HC.isEff:HC->Bool
 |.eff=>true
 |_=>false
def HC.isQuiet:HC->Bool
 |.quiet=>true
 |_=>false
def unord(bf:Array Nat)(i j:Nat):Bool:=bif Nat.blt i j then !(bf.getD j 0).testBit i else !(bf.getD i 0).testBit j
noncomputable def sameV (a b:Value):Bool:= @decide (a=b) (Classical.propDecidable _)
def rS(f:Value->Value->Bool):List Value->List Value->Bool
 |[],[]=>true
 |a::x,b::y=>f a b&&rS f x y
 |_,_=>false
def wU{α:Type}(f:α->α->Bool):Option α->Option α->Bool
 |none,none=>true
 |some a,some b=>f a b
 |_,_=>false
def addrEq(a b:Addr):Bool:=Nat.beq a.block b.block&&Nat.beq a.off b.off&&wU Nat.beq a.spot b.spot
def xp:Nat->Value->Value->Bool
 |_,.bool a,.bool b=>a==b
 |_,.int k a,.int k' b=>decide (k=k')&&decide (a=b)
 |_,.string a,.string b=>decide (a.data.toList=b.data.toList)
 |_,.pointer a,.pointer b=>wU addrEq a b
 |_,.slice a n c,.slice b m d=>wU addrEq a b&&Nat.beq n m&&Nat.beq c d
 |_,.map a,.map b=>wU Nat.beq a b
 |n+1,.agg a,.agg b=>rS (xp n) a.toList b.toList
 |n+1,.tuple a,.tuple b=>rS (xp n) a.toList b.toList
 |n+1,.func (.func f) a c,.func (.func g) b d=>Nat.beq f g&&(rS (xp n) a.toList b.toList&&rS (xp n) c.toList d.toList)
 |_,.nilFunc,.nilFunc=>true
 |_,_,_=>false
noncomputable def eqv (a b:Value):Bool:=xp 4 a b||sameV a b
noncomputable def pK (h:Act) (v:Value) (σ:aC):Bool:=match h σ with
 |some (v',_)=>eqv v' v
 |none=>false
abbrev IOp:=Nat×Oper
def ud(g:Nat×Bool)(h:Option (Nat×Bool)):Bool:=match h with
 |some (j,w)=>Nat.beq g.1 j&&(g.2==w)
 |none=>false
def within(i:Nat)(g:Nat×Bool)(x:IOp):Bool:=ud g x.2.guard||(match x.2.guard with
 |some (j,_)=>Nat.ble i j&&Nat.blt j x.1
 |none=>false)
def wS(d:Nat)(o:Oper):Bool:=match o.dst with
 |some e=>!Nat.beq e d
 |none=>true
def xE(p:IOp->Bool):List IOp->List IOp×List IOp
 |[]=>([],[])
 |x::r=>bif p x then((x::(xE p r).1),(xE p r).2) else([],x::r)
def poisonOps(fr:List Value):List IOp->List Value
 |[]=>fr
 |x::r=>poisonOps (dR fr x.2.dst top) r
def pickB(b:Bool)(want:Bool)(p:Oper)(fr:List Value):Option Value:=
 match p.op,want with
 |.pick _ v (.const (.bool false)),true=>match ev P fr v with
  |.bool x=>some (.bool (b&&x))
  |_=>none
 |.pick _ (.const (.bool true)) v,false=>match ev P fr v with
  |.bool x=>some (.bool (b||x))
  |_=>none
 |_,_=>none
def dC(ops:Array Oper)(j:Nat):Option Tmp:=(ops[j]?).bind (·.dst)
def tX(ops:Array Oper)(j:Nat)(p:Oper):Bool:=match p.op,dC ops j with
 |.pick (.tmp c) _ _,some d=>Nat.beq c d
 |_,_=>false
def nT(ops:Array Oper):Nat->(g:Nat×Bool)->List IOp->List Value->Option (List Value)
 |0,_,_,_=>none
 |_+1,_,[],fr=>some fr
 |n+1,g,x::r,fr=>
  bif ud g x.2.guard then
   match bE P x.2 fr with
   |.tot v=>nT ops n g r (dR fr x.2.dst v)
   |_=>none
  else match x.2.guard with
   |none=>none
   |some (j,w)=>match dC ops j with
    |none=>none
    |some d=>match getD fr d with
     |.bool b=>
      match xE (within x.1 (j,w)) (x::r)with
      |(run,p::rest)=>match nT ops n (j,w) run fr with
       |some fr'=>match pickB P b w p.2 fr',tX ops j p.2&&ud g p.2.guard&&(run.all fun y=>wS d y.2)with
        |some v,true=>nT ops n g rest (dR (poisonOps fr run) p.2.dst v)
        |_,_=>none
       |none=>none
      |_=>none
     |_=>none
noncomputable def chks:List (Act×Value)->aC->Bool
 |[],_=>true
 |(h,v)::l,σ=>pK h v σ&&chks l σ
noncomputable def past (h:Act) (v:Value):List aC->Bool
 |[]=>true
 |σ::l=>pK h v σ&&past h v l
def xI{α:Type}(i:Nat)(bf:Array Nat):List (Nat×α)->List α
 |[]=>[]
 |x::l=>bif unord bf x.1 i then x.2::xI i bf l else xI i bf l
noncomputable def chkAll (i:Nat) (bf:Array Nat) (σ:aC) (l:List (Nat×Act×Value)):Bool:=chks (xI i bf l) σ
noncomputable def yK (i:Nat) (bf:Array Nat) (h:Act) (v:Value) (l:List (Nat×aC)):Bool:=past h v (xI i bf l)
def zc(i:Nat)(bf:Array Nat)(l:List (Nat×Act×Value)):Bool:=l.any fun x=>unord bf x.1 i
def iC(i:Nat)(bf:Array Nat)(ops:List IOp):Bool:=ops.any fun x=>Nat.blt i x.1&&(mV P x.2).isQuiet&&unord bf i x.1
def aY(ops:Array Oper):List IOp:=ops.toList.zipIdx.map fun x=>(x.2,x.1)
def yF(o:Oper)(fr:List Value)(k:iP->Pg):Pg:=
 match o.op with
 |.nilCheck c=>match ev P fr c with
  |.pointer a=>aD a fun a=>k (.tot (.pointer (some a)))
  |.func (.func f) first captured=>k (.tot (.func (.func f) first captured))
  |_=>.fail
 |.indexAddr t x i=>match ev P fr x with
  |.slice a n c=>aD a fun a=>k (eK P t (.slice (some a) n c) (ev P fr i))
  |x=>k (eK P t x (ev P fr i))
 |.call c=>match c.callee with
  |.value f=>match sP f with
   |some g=>k (callR P g (c.args.toList.map (ev P fr)))
   |none=>oM (ev P fr f) fun g first captured=>k (.call g (first++c.args.toList.map (ev P fr)++captured))
  |_=>k (bE P o fr)
 |_=>k (bE P o fr)
noncomputable def zD (x:IOp) (fr:List Value) (k:List Value->Pg):Pg:=
 yF P x.2 fr fun
 |.fail=>.fail
 |.tot v=>k (dR fr x.2.dst v)
 |.pure c v=>grd c (k (dR fr x.2.dst v))
 |.act h=>.act h fun v=>jO P (xy P x.2) v fun v'=>k (dR fr x.2.dst v')
 |.call f args=>.call f args fun v=>jO P (xy P x.2) v fun v'=>k (dR fr x.2.dst v')
def noneB{α:Type}:Option α->Bool
 |none=>true
 |some _=>false
def cellsEq(l m:List Value):Bool:=rS (xp 4) l m
def xf:Option dV->Option dV->Bool
 |some (.blk a),some (.blk b)=>cellsEq a.cells b.cells&&Nat.beq a.esz b.esz&&allNat a.his b.his&&Nat.beq a.dirty b.dirty
 |some (.map []),some (.map [])=>true
 |none,none=>true
 |_,_=>false
where
 allNat:List Nat->List Nat->Bool
  |[],[]=>true
  |a::l,b::m=>Nat.beq a b&&allNat l m
  |_,_=>false
noncomputable def objEq (a b:Option dV):Bool:=xf a b|| @decide (a=b) (Classical.propDecidable _)
abbrev sJ:=Nat×Nat×Option dV
noncomputable def pE:List (Nat×Option dV)->aC->Bool
 |[],_=>true
 |(b,o)::l,σ=>objEq (σ.get b) o&&pE l σ
noncomputable def yI (i:Nat) (bf:Array Nat) (σ:aC) (l:List sJ):Bool:=pE (xI i bf l) σ
def mH(n0:Nat)(σ:aC)(bs:List Nat):Bool:=Nat.ble n0 σ.n&&noneB (σ.get σ.n)&&bs.all fun b=>!Nat.beq b σ.n
def rF(i:Nat)(bf:Array Nat)(l:List sJ):Bool:=l.any fun x=>unord bf x.1 i
def newOk(n0:Nat)(σ:aC)(al:List sJ):Bool:=mH n0 σ (al.map fun x=>x.2.1)
noncomputable def behind (i:Nat) (bf:Array Nat) (ld:List (Nat×Act×Value)) (al:List sJ) (p:Pg):Pg:=
 let p1:=bif rF i bf al then .get fun σ=>grd (yI i bf σ al) p else p
 bif zc i bf ld then .get fun σ=>grd (chkAll i bf σ ld) p1 else p1
noncomputable def uC (late:Option Nat) (bf:Array Nat) (all:List IOp) (x:IOp) (fr:List Value) (sn:List (Nat×aC)) (ld:List (Nat×Act×Value)) (al:List sJ)
  (k:List Value->List (Nat×aC)->List (Nat×Act×Value)->List sJ->Pg):Pg:=
 yF P x.2 fr fun
 |.fail=>.fail
 |.tot v=>k (dR fr x.2.dst v) sn ld al
 |.pure c v=>grd c (k (dR fr x.2.dst v) sn ld al)
 |.act h=>
  bif(mV P x.2).isQuiet then
   .act h fun v=>grd (yK x.1 bf h v sn) (jO P (xy P x.2) v fun v'=>k (dR fr x.2.dst v') sn ((x.1,h,v)::ld) al)
  else bif(mV P x.2).isEff then
   let go (sn:List (Nat×aC)):Pg:=.act h fun v=>jO P (xy P x.2) v fun v'=>behind x.1 bf ld al (k (dR fr x.2.dst v') sn ld al)
   let plain:Pg:=bif iC P x.1 bf all then .get fun σ=>go ((x.1,σ)::sn) else go sn
   match late with
   |some n0=>bif dP x.2 then .get fun σ=>grd (newOk n0 σ al) (.act h fun v=>jO P (xy P x.2) v fun v'=>.get fun σ1=>k (dR fr x.2.dst v') sn ld ((x.1,σ.n,σ1.get σ.n)::al)) else plain
   |none=>plain
  else .fail
 |.call f args=>
  bif(mV P x.2).isEff then
   let go (sn:List (Nat×aC)):Pg:=.call f args fun v=>jO P (xy P x.2) v fun v'=>behind x.1 bf ld al (k (dR fr x.2.dst v') sn ld al)
   bif iC P x.1 bf all then .get fun σ=>go ((x.1,σ)::sn) else go sn
  else .fail
noncomputable def jX (ops:Array Oper):Nat->List IOp->List Value->(List Value->Pg)->Pg
 |0,_,_,_=>.fail
 |_+1,[],fr,k=>k fr
 |n+1,x::r,fr,k=>
  match x.2.guard with
  |none=>zD P x fr fun fr=>jX ops n r fr k
  |some (j,w)=>match dC ops j with
   |none=>.fail
   |some d=>match getD fr d with
    |.tuple _=>jX ops n r (dR fr x.2.dst undef') k
    |.bool b=>
     match (match xE (within x.1 (j,w)) (x::r)with
      |(run,p::rest)=>bif run.all fun y=>simpleOp y.2 then(match nT P ops (n+1) (j,w) run fr with
       |some fr'=>match pickB P b w p.2 fr',tX ops j p.2&&(run.all fun y=>wS d y.2)&&(match p.2.guard with
         |none=>true
         |some _=>false)with
        |some v,true=>some (dR (poisonOps fr run) p.2.dst v,rest)
        |_,_=>none
       |none=>none) else none
      |_=>none)with
     |some (fr',rest)=>jX ops n rest fr' k
     |none=>
      bif b==w then zD P x (lF fr d (.bool w)) fun fr=>jX ops n r fr k
      else jX ops n r (dR (lF fr d (.bool (!w))) x.2.dst undef') k
    |_=>.fail
noncomputable def eA (late:Option Nat) (bf:Array Nat) (ops:Array Oper) (all:List IOp):List IOp->List Value->List (Nat×aC)->List (Nat×Act×Value)->List sJ->(List Value->Pg)->Pg
 |[],fr,_,_,_,k=>k fr
 |x::r,fr,sn,ld,al,k=>
  match x.2.guard with
  |none=>uC P late bf all x fr sn ld al fun fr sn ld al=>eA late bf ops all r fr sn ld al k
  |some (j,w)=>match dC ops j with
   |none=>.fail
   |some d=>match getD fr d with
    |.tuple _=>eA late bf ops all r (dR fr x.2.dst undef') sn ld al k
    |.bool b=>
     bif b==w then uC P late bf all x (lF fr d (.bool w)) sn ld al fun fr sn ld al=>eA late bf ops all r fr sn ld al k
     else eA late bf ops all r (dR (lF fr d (.bool (!w))) x.2.dst undef') sn ld al k
    |_=>.fail
def mW(late:Bool)(o:Oper):Bool:=(mV P o).isEff&&!(late&&dP o)
def dN(late:Bool)(bf:Array Nat)(l:List IOp):Bool:=
 l.all fun x=>!mW P late x.2||l.all fun y=>!mW P late y.2||Nat.ble y.1 x.1||!unord bf x.1 y.1
def eX(bf:Array Nat)(l:List IOp):Bool:=
 l.all fun x=>!mW P true x.2||l.all fun y=>!dP y.2||Nat.ble y.1 x.1||!unord bf x.1 y.1
def kL(ops:Array Oper)(o:Oper):List Nat:=
 (o.op.operands.toList.filterMap fun
  |.tmp t=>some t
  |_=>none)++(match o.guard with
  |some (j,_)=>(dC ops j).toList
  |none=>[])
def cO(bf:Array Nat)(ops:Array Oper)(l:List IOp):Bool:=
 (l.all fun x=>x.2.after.toList.all fun e=>!Region.binds .any e||Nat.blt e.on x.1)&&
 l.all fun y=>match y.2.dst with
  |none=>true
  |some d=>l.all fun x=>Nat.beq x.1 y.1||!unord bf x.1 y.1||!(wU Nat.beq x.2.dst (some d)||(kL ops x.2).any (Nat.beq d))
def uB(x:Nat)(l:List Nat):Bool:=l.any (Nat.beq x)
def readyC(done:List Nat)(o:Oper):Bool:=o.after.toList.all fun e=>!Region.binds .any e||uB e.on done
def dropI(i:Nat):List IOp->List IOp
 |[]=>[]
 |x::r=>bif Nat.beq x.1 i then r else x::dropI i r
def firstI(p:IOp->Bool):List IOp->Option Nat
 |[]=>none
 |x::r=>bif p x then some x.1 else firstI p r
def canon:Nat->List IOp->List Nat->List Nat
 |0,_,done=>done.reverse
 |n+1,rem,done=>match firstI (fun x=>readyC done x.2&&!mW P true x.2) rem with
  |some i=>canon n (dropI i rem) (i::done)
  |none=>match firstI (fun x=>readyC done x.2) rem with
   |some i=>canon n (dropI i rem) (i::done)
   |none=>done.reverse
def hZ(i:Nat):List Nat->Nat
 |[]=>0
 |x::r=>bif Nat.beq x i then 0 else hZ i r+1
def moved(π:List Nat)(o:Oper):Oper:={o with after:=o.after.map fun e=>{e with on:=hZ e.on π},guard:=match o.guard with
 |some (j,w)=>some (hZ j π,w)
 |none=>none}
def bU(ops:Array Oper)(π:List Nat):Array Oper:=(π.map fun i=>moved π (ops.getD i default)).toArray
def yT(ops:Array Oper)(π:List Nat):Bool:=
 Nat.beq π.length ops.size&&((List.range ops.size).all fun i=>uB i π)&&(π.all fun i=>Nat.blt i ops.size)&&(π.zipIdx.all fun x=>Nat.beq (hZ x.1 π) x.2)&&
  ops.toList.all fun o=>o.after.toList.all (fun e=>!Region.binds .any e||Nat.blt e.on ops.size)&&(match o.guard with
   |some (j,_)=>Nat.blt j ops.size
   |none=>true)
def ww(l:List Nat)(x:Nat):List Nat:=bif uB x l then l else x::l
def unionN(a b:List Nat):List Nat:=a.foldl ww b
def fT:List Oper->List Nat->List Nat
 |[],acc=>acc
 |o::r,acc=>fT r (match o.dst with
  |some d=>ww acc d
  |_=>acc)
def uI(o:Oper):Bool:=!(mV P o).isEff||match o.op with
 |.store _ _ _|.alloc _|.box _ _|.buildSlice _ _ _=>true
 |.call c=>(match c.callee with
  |.builtin .append=>true
  |_=>false)
 |_=>false
def qh(bf:Array Nat)(x:IOp):List IOp->Option Nat
 |[]=>none
 |y::r=>bif Nat.blt x.1 y.1&&mW P true y.2&&unord bf x.1 y.1 then some y.1 else qh bf x r
def clash(bf:Array Nat)(all:List IOp):List IOp->Option (Nat×Nat)
 |[]=>none
 |x::r=>match (bif mW P true x.2 then qh P bf x all else none)with
  |some j=>some (x.1,j)
  |none=>clash bf all r
def bG(ops:Array Oper)(j i:Nat):Array Oper:=(ops.toList.zipIdx.map fun x=>bif Nat.beq x.2 j then {x.1 with after:=x.1.after.push ⟨i,.data⟩} else x.1).toArray
def kO(n i j:Nat):List Nat:=((List.range n).map fun x=>bif Nat.beq x i then [] else bif Nat.beq x j then [j,i] else [x]).flatten
noncomputable def eqvs (l m:List Value):Bool:=rS eqv l m
def yB:List (Value×Value)->List (Value×Value)->Bool
 |[],[]=>true
 |x::l,y::m=>xp 4 x.1 y.1&&(xp 4 x.2 y.2&&yB l m)
 |_,_=>false
def objEqT:Option dV->Option dV->Bool
 |some (.iter s n),some (.iter t m)=>decide (s.data.toList=t.data.toList)&&Nat.beq n m
 |some (.map a),some (.map b)=>yB a b
 |a,b=>xf a b
def triEq:Tri->Tri->Bool
 |.nil,.nil=>true
 |.node v l r,.node v' l' r'=>objEqT v v'&&(triEq l l'&&triEq r r')
 |_,_=>false
noncomputable def pY (σ τ:aC):Bool:=Nat.beq σ.n τ.n&&(triEq σ.mem τ.mem|| @decide (σ.mem=τ.mem) (Classical.propDecidable _))
def zN(ops:Array Oper)(fr:List Value):List Value:=(fT ops.toList []).map (getD fr)
def drawOk(ops:Array Oper):Bool:=cO (CheckFast.beforeF ops) ops (aY ops)&&dN P true (CheckFast.beforeF ops) (aY ops)&&eX P (CheckFast.beforeF ops) (aY ops)
noncomputable def compTwo (ops:Array Oper) (i j:Nat) (fr:List Value) (k:List Value->Pg):Pg:=
 let A:=bG ops j i
 let π:=kO ops.size i j
 let B:=bU (bG ops i j) π
 bif Nat.blt i j&&Nat.blt j ops.size&&ops.toList.all (uI P)&&drawOk P A&&yT (bG ops i j) π&&drawOk P B then
  .get fun σ=>.join (eA P (some σ.n) (CheckFast.beforeF B) B (aY B) (aY B) fr [] [] [] fun fr=>.ret .normal (zN ops fr)) fun _ st=>.get fun σ2=>.act (fun _=>some (.tuple #[],σ)) fun _=>
   eA P (some σ.n) (CheckFast.beforeF A) A (aY A) (aY A) fr [] [] [] fun fr'=>.get fun σ1=>grd (pY σ1 σ2&&eqvs (zN ops fr') st) (k fr')
 else .fail
noncomputable def qM (ops:Array Oper) (draw:Bool) (fr:List Value) (k:List Value->Pg):Pg:=
 bif draw then
  bif cO (CheckFast.beforeF ops) ops (aY ops)&&dN P false (CheckFast.beforeF ops) (aY ops) then eA P none (CheckFast.beforeF ops) ops (aY ops) (aY ops) fr [] [] [] k
  else bif cO (CheckFast.beforeF ops) ops (aY ops)&&dN P true (CheckFast.beforeF ops) (aY ops)&&eX P (CheckFast.beforeF ops) (aY ops) then
   .get fun σ=>eA P (some σ.n) (CheckFast.beforeF ops) ops (aY ops) (aY ops) fr [] [] [] k
  else
   let π:=canon P ops.size (aY ops) []
   let ops':=bU ops π
   bif yT ops π&&cO (CheckFast.beforeF ops') ops' (aY ops')&&dN P true (CheckFast.beforeF ops') (aY ops')&&eX P (CheckFast.beforeF ops') (aY ops') then
    .get fun σ=>eA P (some σ.n) (CheckFast.beforeF ops') ops' (aY ops') (aY ops') fr [] [] [] k
   else match clash P (CheckFast.beforeF ops) (aY ops) (aY ops)with
    |some (i,j)=>compTwo P ops i j fr k
    |none=>.fail
 else jX P ops (ops.size+1) (aY ops) fr k
def written:Code->List Nat->List Nat
 |.region _ ops _,acc=>fT ops.toList acc
 |.seq a b,acc=>written b (written a acc)
 |.cond _ a b,acc=>written b (written a acc)
 |.block _ a,acc|.loop a,acc|.scope a,acc=>written a acc
 |_,acc=>acc
def tmpsOf:List Operand->List Nat->List Nat
 |[],acc=>acc
 |.tmp t::r,acc=>tmpsOf r (ww acc t)
 |_::r,acc=>tmpsOf r acc
def liveOps:List Oper->List Nat->List Nat
 |[],out=>out
 |o::r,out=>tmpsOf o.op.operands.toList (match o.dst with
  |some d=>(liveOps r out).filter fun x=>!Nat.beq x d
  |none=>liveOps r out)
def live:Code->(Ex->List Nat)->List Nat
 |.skip,out|.label _,out=>out .normal
 |.region _ ops _,out=>liveOps ops.toList (out .normal)
 |.seq a b,out=>live a fun
  |.normal=>live b out
  |e=>out e
 |.cond c a b,out=>tmpsOf [c] (unionN (live a out) (live b out))
 |.block id a,out=>live a fun
  |.exit i=>bif Nat.beq i id then out .normal else out (.exit i)
  |e=>out e
 |.loop a,out=>live a fun
  |.normal=>[]
  |e=>out e
 |.scope a,out=>live a out
 |.exit id,out=>out (.exit id)
 |.ret,out=>out .ret
 |_,_=>[]
def exIn(e:Ex)(l:List Ex):Bool:=l.any (Ex.beq e)
def exAdd(l:List Ex):List Ex->List Ex
 |[]=>l
 |e::r=>exAdd (bif exIn e l then l else l++[e]) r
def exDrop(e:Ex)(l:List Ex):List Ex:=l.filter fun x=>!Ex.beq e x
def exits:Code->List Ex
 |.skip|.region _ _ _|.label _=>[.normal]
 |.seq a b=>bif exIn .normal (exits a) then exAdd (exDrop .normal (exits a)) (exits b) else exits a
 |.cond _ a b=>exAdd (exits a) (exits b)
 |.block id a=>bif exIn (.exit id) (exits a) then exAdd (exDrop (.exit id) (exits a)) [.normal] else exits a
 |.loop a=>exDrop .normal (exits a)
 |.scope a=>exits a
 |.exit id=>[.exit id]
 |.ret=>[.ret]
 |_=>[]
def uD:List Value->List Nat->List Value->List Value
 |fr,w::ws,v::vs=>uD (lF fr w v) ws vs
 |fr,_,_=>fr
def poison:List Value->List Nat->List Value
 |fr,[]=>fr
 |fr,w::ws=>poison (lF fr w top) ws
def zG(ex:Ex)(f:Ex->Pg):List Ex->Pg
 |[]=>.fail
 |e::r=>bif Ex.beq ex e then f e else zG ex f r
def isLoop:Code->Bool
 |.loop _=>true
 |_=>false
def carried(fast:Bool)(c:Code)(out:Ex->List Nat):List Nat:=
 bif fast then [] else(written c []).filter fun x=>(exits c).any fun e=>uB x (out e)
def uN(fast:Bool)(a:Code)(out:Ex->List Nat):List Nat:=
 bif fast then [] else
  let l:=live (.loop a) out
  (written a []).filter fun x=>uB x l||(exits (.loop a)).any fun e=>uB x (out e)
def pack(fast:Bool)(ws:List Nat)(fr:List Value):List Value:=bif fast then fr else ws.map (getD fr)
def tyOps(t:Nat):List Oper->Option RT
 |[]=>none
 |o::r=>bif wU Nat.beq o.dst (some t) then some (xy P o) else tyOps t r
def tyIn(t:Nat):Code->Option RT
 |.region _ ops _=>tyOps P t ops.toList
 |.seq a b|.cond _ a b=>match tyIn t a with
  |some x=>some x
  |none=>tyIn t b
 |.block _ a|.loop a|.scope a=>tyIn t a
 |_=>none
def tysOf(c:Code)(ws:List Nat):List RT:=ws.map fun t=>(tyIn P t c).getD (.ty 0)
def unpack(fast:Bool)(c:Code)(ws:List Nat)(fr st:List Value):List Value:=bif fast then st else uD (poison fr (written c [])) ws st
def mN(fast:Bool)(c:Code)(ws:List Nat)(fr st:List Value)(k:List Value->Pg):Pg:=
 bif fast then k st else qv P (tysOf P c ws) st fun vs=>k (unpack false c ws fr vs)
def parts(ops:Array Oper)(draw:Bool):Bool:=ops.toList.any fun o=>o.guard.isSome&&(draw||!simpleOp o)
def exK(fast:Bool)(c:Code)(ex:Ex)(f:Ex->Pg):Pg:=bif fast then f ex else zG ex f (exits c)
noncomputable def comp (fast:Bool):Code->(Ex->List Nat)->List Value->(Ex->List Value->Pg)->Pg
 |.skip,_,fr,k|.label _,_,fr,k=>k .normal fr
 |.region id ops draw,out,fr,k=>
  bif !fast&&parts ops draw then
   let ws:=carried fast (.region id ops draw) out
   .join (qM P ops draw fr fun fr=>.ret .normal (pack fast ws fr))
    fun ex st=>exK fast (.region id ops draw) ex fun ex=>mN P fast (.region id ops draw) ws fr st fun fr=>k ex fr
  else qM P ops draw fr fun fr=>k .normal fr
 |.seq a b,out,fr,k=>comp fast a (fun
   |.normal=>live b out
   |e=>out e) fr fun ex fr=>match ex with
  |.normal=>comp fast b out fr k
  |ex=>k ex fr
 |.cond c a b,out,fr,k=>match ev P fr c with
  |.bool t=>
   bif !fast&&exIn .normal (exits a)&&exIn .normal (exits b) then
    let ws:=carried fast (.cond c a b) out
    .join (bif t then comp fast a out fr fun ex fr=>.ret ex (pack fast ws fr) else comp fast b out fr fun ex fr=>.ret ex (pack fast ws fr))
     fun ex st=>exK fast (.cond c a b) ex fun ex=>mN P fast (.cond c a b) ws fr st fun fr=>k ex fr
   else bif t then comp fast a out fr k else comp fast b out fr k
  |_=>.fail
 |.block id a,out,fr,k=>
  let out':Ex->List Nat:=fun
   |.exit i=>bif Nat.beq i id then out .normal else out (.exit i)
   |e=>out e
  bif fast||isLoop a then
   comp fast a out' fr fun ex fr=>match ex with
    |.exit i=>bif Nat.beq i id then k .normal fr else k (.exit i) fr
    |ex=>k ex fr
  else
   let ws:=carried fast (.block id a) out
   .join (comp fast a out' fr fun ex fr=>match ex with
    |.exit i=>bif Nat.beq i id then .ret .normal (pack fast ws fr) else .ret (.exit i) (pack fast ws fr)
    |ex=>.ret ex (pack fast ws fr))
    fun ex st=>exK fast (.block id a) ex fun ex=>mN P fast (.block id a) ws fr st fun fr=>k ex fr
 |.loop a,out,fr,k=>
  let ws:=uN fast a out
  .loop (pack fast ws fr) (fun st=>mN P fast (.loop a) ws fr st fun fr=>comp fast a (fun
    |.normal=>live (.loop a) out
    |e=>out e) fr fun ex fr=>.ret ex (pack fast ws fr))
   fun ex st=>exK fast (.loop a) ex fun ex=>mN P fast (.loop a) ws fr st fun fr=>k ex fr
 |.scope a,out,fr,k=>comp fast a out fr k
 |.exit id,_,fr,k=>k (.exit id) fr
 |.ret,_,fr,k=>k .ret fr
 |_,_,_,_=>.fail
def resSlots:List ResultVar->List Nat
 |[]=>[]
 |.tmp t::r|.cell t _::r=>t::resSlots r
def retP:List ResultVar->List Value->List Value->Pg
 |[],_,vs=>.ret .ret [match vs with
  |[v]=>v
  |vs=>.tuple vs.toArray]
 |.tmp t::r,fr,vs=>retP r fr (vs++[getD fr t])
 |.cell a t::r,fr,vs=>match getD fr a with
  |.pointer a=>aD a fun a=>.act (ldAt P t a) fun v=>retP r fr (vs++[v])
  |_=>.fail
noncomputable def nX (fast:Bool) (f:FuncId) (args:List Value):Pg:=
 match P.funcs[f]? with
 |none=>.fail
 |some fn=>match fn.body with
  |none=>.fail
  |some c=>comp P fast c (fun _=>resSlots fn.results.toList) (args++List.replicate (fn.ntmps-args.length) undef') fun ex fr=>match ex with
   |.normal|.ret=>retP P fn.results.toList fr []
   |.exit _=>.fail
abbrev Ov:=FuncId->Option (List Value->aC->Option (Value×aC))
noncomputable def kP (ov:Ov) (fast:Bool):Nat->gO
 |0,_,_,_=>none
 |n+1,f,args,σ=>match ov f with
  |some g=>g args σ
  |none=>match exec (kP ov fast n) n (nX P fast f args) σ with
   |some ((_,[v]),σ')=>some (v,σ')
   |_=>none
end
abbrev wi32(n:Int):Int:=IntKind.i32.wrap n
abbrev aP(n:Int):Int:=IntKind.i64.wrap n
abbrev wu8(n:Int):Int:=IntKind.u8.wrap n
abbrev sX(n:Int):Int:=IntKind.u64.wrap n
def shlI(k:IntKind)(a b:Int):Int:=k.wrap (a*2^(min b.toNat k.bits))
def shrI(k:IntKind)(a b:Int):Int:=a.fdiv (2^(min b.toNat k.bits))
def bs(l:List UInt8):ByteArray:=⟨l.toArray⟩
def ld1(a:Addr):Act:=fun σ=>match σ.rdN a 1 with
 |some (v::_)=>some (v,σ)
 |_=>none
def ldN(k:Nat)(a:Addr):Act:=fun σ=>match σ.rdN a k with
 |some cs=>some (.agg cs.toArray,σ)
 |none=>none
def stC(a:Addr)(vs:List Value):Act:=fun σ=>match σ.wrN a vs with
 |some σ'=>some (.tuple #[],σ')
 |none=>none
def newC(vs:List Value):Act:=fun σ=>some (.pointer (some (σ.here 0)),σ.newBlk vs 0)
def tU(esz len:Nat)(cells:List Value):Act:=fun σ=>some (.slice (some (σ.here esz)) len len,σ.newBlk cells esz)
def apS(esz byt:Nat)(base:Option Addr)(len cap:Nat)(a:Option Addr)(n c:Nat):Act:=fun σ=>
 match dO esz n σ (.slice a n c)with
 |some xs=>gP esz byt base len cap n xs σ
 |none=>none
def lkp(kd:TypeDesc)(z:Value)(r:Option Nat)(k:Value)(ok:Bool):Act:=fun σ=>
 match (match r with
  |none=>some (some none)
  |some r=>(σ.getMap r).map (dK kd k))with
 |some (some (some v))=>some (bif ok then .tuple #[v,.bool true] else v,σ)
 |some (some none)=>some (bif ok then .tuple #[z,.bool false] else z,σ)
 |_=>none
def mup(kd:TypeDesc)(r:Option Nat)(k v:Value):Act:=fun σ=>
 match r with
 |some r=>match σ.getMapW r with
  |some es=>match iL kd k v es with
   |some es'=>some (.tuple #[],σ.put r (.map es'))
   |none=>none
  |none=>none
 |none=>none
def rng(s:ByteArray):Act:=fun σ=>some (.pointer (some (σ.here 0)),σ.push (.iter s 0))
def nxt(a:Option Addr):Act:=qZ (.pointer a) true
def asNx(v:Value)(f:Int->Int->Pg)(p:Pg):Pg:=bM v fun l=>aU l fun c r=>eF c fun b=>bif b then
  (aU r fun x r=>asInt .i64 x fun n=>aU r fun y r=>asInt .i32 y fun m=>aH r (f n m))
 else aH r p
def sw(ex e:Ex)(p q:Pg):Pg:=bif Ex.beq ex e then p else q
section
variable{P:Program}{cf:gO}{N:Nat}
theorem fD{c:Bool}{x:Pg}{σ:aC}{r:(Ex×List Value)×aC}(h:exec cf N (bif c then x else .fail) σ=some r):c=true/\exec cf N x σ=some r:=by
 cases c with
 |true=>exact⟨rfl,h⟩
 |false=>cases h
theorem iS{l:List Value}{f:Value->List Value->Pg}{σ:aC}{r:(Ex×List Value)×aC}(h:exec cf N (aU l f) σ=some r):∃c m,l=c::m/\exec cf N (f c m) σ=some r:=by
 cases l with
 |nil=>cases h
 |cons c m=>exact⟨c,m,rfl,h⟩
theorem lM{l:List Value}{p:Pg}{σ:aC}{r:(Ex×List Value)×aC}(h:exec cf N (aH l p) σ=some r):l=[]/\exec cf N p σ=some r:=by
 cases l with
 |nil=>exact⟨rfl,h⟩
 |cons c m=>cases h
theorem xJ{t:TypeId}{v:Value}{k:Value->Pg}{σ:aC}{r:(Ex×List Value)×aC}(h:exec cf N (typed0 P t v k) σ=some r):exec cf N (k v) σ=some r:=by
 unfold typed0 at h;split at h
 ·unfold asInt at h;split at h
  ·obtain⟨h1,h2⟩:=fD h;have:=of_decide_eq_true h1;subst this;exact h2
  ·cases h
 ·unfold eF at h;split at h
  ·exact h
  ·cases h
 ·unfold kF at h;split at h
  ·exact h
  ·cases h
 ·unfold aR at h;split at h
  ·exact h
  ·cases h
 ·unfold aI at h;split at h
  ·exact h
  ·cases h
 ·unfold qt at h;split at h
  ·exact h
  ·cases h
 ·exact h
theorem uV:∀(ts:List TypeId) (l:List Value) (k:List Value->Pg) {σ:aC} {r:(Ex×List Value)×aC},exec cf N (qH P ts l k) σ=some r->exec cf N (k l) σ=some r
 |[],l,k,σ,r,h=>by obtain⟨rfl,h⟩:=lM h;exact h
 |t::ts,l,k,σ,r,h=>by obtain⟨c,m,rfl,h⟩:=iS h;exact uV ts m (fun r'=>k (c::r')) (xJ (k:=fun c'=>qH P ts m fun r'=>k (c'::r')) h)
theorem xM{t:TypeId}{v:Value}{k:Value->Pg}{σ:aC}{r:(Ex×List Value)×aC}(h:exec cf N (typed1 P t v k) σ=some r):exec cf N (k v) σ=some r:=by
 have agg:∀{v},exec cf N (asAgg v fun l=>qH P (uR P 8 t) l fun cs=>k (.agg cs.toArray)) σ=some r->exec cf N (k v) σ=some r:=by
  intro v h;unfold asAgg at h;split at h
  ·have:=uV _ _ _ h;simpa using this
  ·cases h
 unfold typed1 at h;split at h
 ·exact agg h
 ·rename_i m _ _;cases hm:Nat.blt 64 m with
  |true=>rw[hm]at h;exact h
  |false=>rw[hm]at h;exact agg h
 ·exact xJ h
theorem wW:∀(ts:List TypeId) (l:List Value) (k:List Value->Pg) {σ:aC} {r:(Ex×List Value)×aC},exec cf N (typedT P ts l k) σ=some r->exec cf N (k l) σ=some r
 |[],l,k,σ,r,h=>by obtain⟨rfl,h⟩:=lM h;exact h
 |t::ts,l,k,σ,r,h=>by obtain⟨c,m,rfl,h⟩:=iS h;exact wW ts m (fun r'=>k (c::r')) (xM (k:=fun c'=>typedT P ts m fun r'=>k (c'::r')) h)
theorem typed_exec{t:TypeId}{v:Value}{k:Value->Pg}{σ:aC}{r:(Ex×List Value)×aC}(h:exec cf N (typed P t v k) σ=some r):exec cf N (k v) σ=some r:=by
 unfold typed at h;split at h
 ·unfold bM at h;split at h
  ·have:=wW _ _ _ h;simpa using this
  ·cases h
 ·exact xM h
theorem yV{kd:IntKind}{v:Value}{f:Int->Pg}{σ:aC}{r:(Ex×List Value)×aC}(h:exec cf N (asInt kd v f) σ=some r):∃n,v=.int kd n/\exec cf N (f n) σ=some r:=by
 unfold asInt at h;split at h
 ·obtain⟨h1,h2⟩:=fD h;have:=of_decide_eq_true h1;subst this;exact⟨_,rfl,h2⟩
 ·cases h
theorem asNext_exec{v:Value}{k:Value->Pg}{σ:aC}{r:(Ex×List Value)×aC}(h:exec cf N (asNext v k) σ=some r):exec cf N (k v) σ=some r:=by
 unfold asNext bM at h;split at h
 ·rename_i cs;obtain⟨c,m,a1,h⟩:=iS h;have a0:cs=(c::m).toArray:=by rw[<-a1]
  unfold eF at h;split at h
  ·rename_i b;cases b with
   |true=>simp only[cond_true]at h;obtain⟨x,m1,e1,h1⟩:=iS h;obtain⟨n,e2,h2⟩:=yV (kd:=.i64) (v:=x) h1;obtain⟨y,m2,e3,h3⟩:=iS (l:=m1) h2;obtain⟨n2,e4,h4⟩:=yV (kd:=.i32) (v:=y) h3;obtain⟨e5,h5⟩:=lM (l:=m2) h4;subst e5 e4 e3 e2 e1;rw[a0];exact h5
   |false=>simp only[cond_false]at h;obtain⟨rfl,h⟩:=lM h;rw[a0];exact h
  ·cases h
 ·cases h
theorem fX{t:RT}{v:Value}{k:Value->Pg}{σ:aC}{r:(Ex×List Value)×aC}(h:exec cf N (jO P t v k) σ=some r):exec cf N (k v) σ=some r:=by
 unfold jO at h;split at h
 ·unfold aR at h;split at h
  ·simp only[aD]at h;split at h
   ·exact h
   ·cases h
  ·cases h
 ·exact asNext_exec h
 ·exact typed_exec h
theorem wL:∀(ts:List RT) (l:List Value) (k:List Value->Pg) {σ:aC} {r:(Ex×List Value)×aC},exec cf N (qv P ts l k) σ=some r->exec cf N (k l) σ=some r
 |[],l,k,σ,r,h=>by obtain⟨rfl,h⟩:=lM h;exact h
 |t::ts,l,k,σ,r,h=>by obtain⟨c,m,rfl,h⟩:=iS h;exact wL ts m (fun r'=>k (c::r')) (fX (k:=fun c'=>qv P ts m fun r'=>k (c'::r')) h)
def zI(P:Program)(W0:World)(cf:gO):Prop:=
 ∀f args σ v σ',cf f args σ=some (v,σ')->∀(ι:Inj) (W:World) (args':Array Value),Rel ι W0 σ W->VRL ι W0.heap.size args args'.toList->
  (callFunc f args').run P W=.ok (.enter f args') W/\Calls P f args' W fun e w'=>∃v' κ,e=.returned v'/\ι.le κ/\VR κ W0.heap.size v v'/\Rel κ W0 σ' w'
variable{ι:Inj}{W0 W:World}{σ:aC}{res:(Ex×List Value)×aC}
theorem iH(a:Go.Act)(d:Option Tmp)(v:Value):(a.put d v).defers=a.defers:=by cases d<;>rfl
theorem op_step{o:Oper}{fr:List Value}{a:Go.Act}{next:Go.Act->World->Prop}{Q:Exit->Go.Act->World->Prop}{v:Value}{σ':aC}(hG:P.globals.size<=W0.heap.size)(a4:zI P W0 cf)(R:Rel ι W0 σ W)(r:FR ι W0.heap.size fr a.tmps)
  (h:(σ'=σ/\(bE P o fr=.tot v\/bE P o fr=.pure true v))\/(∃h,bE P o fr=.act h/\h σ=some (v,σ'))\/(∃f args,bE P o fr=.call f args/\cf f args σ=some (v,σ')))
  (hn:∀κ a1 W1,ι.le κ->Rel κ W0 σ' W1->FR κ W0.heap.size (dR fr o.dst v) a1.tmps->a1.defers=a.defers->next a1 W1):o.wp P a W next Q:=by
 unfold Oper.wp;rcases h with⟨rfl,h⟩|⟨g,h1,h2⟩|⟨f,args,h1,h2⟩
 ·obtain⟨v',hv,a0⟩:=xm (W:=W) hG r h;rw[a0,Oper.upon_value];exact hn ι _ _ ι.le_refl R (r.put o.dst hv) (iH _ _ _)
 ·obtain⟨κ,W',nx,v',a2,R',a0,ho,hv⟩:=op_act hG R r h1 h2;rw[a0];cases nx with
  |value x=>simp only[outV,Option.some.injEq]at ho;subst ho;rw[Oper.upon_value];exact hn κ _ _ a2 R' ((r.mono a2).put o.dst hv) (iH _ _ _)
  |skip=>simp only[outV,Option.some.injEq]at ho;subst ho;rw[Oper.upon_skip];exact hn κ _ _ a2 R' ((r.mono a2).put o.dst hv) (iH _ _ _)
  |_=>simp[outV]at ho
 ·obtain⟨args',hA,a0⟩:=op_call (W:=W) hG r h1;obtain⟨hc,a3⟩:=a4 f args σ v σ' h2 ι W args' R hA;rw[a0,hc,Oper.upon_enter];refine a3.mono fun e w' he=>?_;obtain⟨v',κ,rfl,a2,hv,R'⟩:=he;exact hn κ _ _ a2 R' ((r.mono a2).put o.dst hv) (iH _ _ _)
theorem tL{o:Oper}{fr:List Value}{k:iP->Pg}{σ:aC}{res:(Ex×List Value)×aC}(h:exec cf N (yF P o fr k) σ=some res):exec cf N (k (bE P o fr)) σ=some res:=by
 unfold yF at h;split at h
 ·rename_i c a0;unfold bE;rw[a0];simp only;split at h
  ·rename_i a ha;rw[ha];unfold aD at h;split at h
   ·exact h
   ·cases h
  ·rename_i ha;rw[ha];exact h
  ·cases h
 ·rename_i t x i a0;unfold bE;rw[a0];simp only;split at h
  ·rename_i a n c ha;rw[ha];unfold aD at h;split at h
   ·exact h
   ·cases h
  ·exact h
 ·rename_i c a0;split at h
  ·rename_i f hf;split at h
   ·rename_i g hg;unfold bE;rw[a0];simp only[hf,hg];exact h
   ·rename_i hg;unfold oM at h;split at h
    ·rename_i g x y hv;unfold bE;rw[a0];simp only[hf,hg,callV,hv];exact h
    ·cases h
  ·exact h
 ·exact h
theorem compOp_exec{x:IOp}{fr:List Value}{k:List Value->Pg}
  (h:exec cf N (zD P x fr k) σ=some res):
  ∃v σ',((σ'=σ/\(bE P x.2 fr=.tot v\/bE P x.2 fr=.pure true v))\/(∃h,bE P x.2 fr=.act h/\h σ=some (v,σ'))\/(∃f args,bE P x.2 fr=.call f args/\cf f args σ=some (v,σ')))/\
   exec cf N (k (dR fr x.2.dst v)) σ'=some res:=by
 unfold zD at h;have h:=tL h;split at h
 ·cases h
 ·rename_i v hv;exact⟨v,σ,.inl ⟨rfl,.inl hv⟩,h⟩
 ·rename_i c v hv;obtain⟨rfl,h2⟩:=fD h;exact⟨v,σ,.inl ⟨rfl,.inr hv⟩,h2⟩
 ·rename_i g hg;simp only[exec]at h;split at h
  ·rename_i v σ' a0;exact⟨v,σ',.inr (.inl ⟨g,hg,a0⟩),fX (k:=fun v'=>k (dR fr x.2.dst v')) h⟩
  ·cases h
 ·rename_i f args hg;simp only[exec]at h;split at h
  ·rename_i v σ' a0;exact⟨v,σ',.inr (.inr ⟨f,args,hg,a0⟩),fX (k:=fun v'=>k (dR fr x.2.dst v')) h⟩
  ·cases h
end
section
variable{P:Program}{cf:gO}{N:Nat}{ι:Inj}{W0 W:World}{σ:aC}{res:(Ex×List Value)×aC}{ops:Array Oper}
theorem getD_of{ts:Array Value}{d:Nat}{v:Value}(h:ts.getD d Go.undef=v)(hv:v≠Go.undef):ts[d]?=some v:=by
 rw[Array.getD_eq_getD_getElem?]at h;cases hd:ts[d]? with
 |none=>rw[hd]at h;simp at h;exact absurd h.symm hv
 |some x=>rw[hd]at h;simp at h;rw[h]
theorem lE{fr:List Value}{ts:Array Value}{j d:Nat}{b:Bool}(r:FR ι W0.heap.size fr ts)(hs:dC ops j=some d)(hb:getD fr d=.bool b):yielded ops ts j=some b:=by have:=r.2 d;rw[hb]at this;have h2:=getD_of this.bool_inv nofun;unfold yielded;unfold dC at hs;rw[hs];simp only[Option.bind_some,h2]
theorem wI{fr:List Value}{ts:Array Value}{j d:Nat}{t:Array Value}(r:FR ι W0.heap.size fr ts)(hs:dC ops j=some d)(hb:getD fr d=.tuple t):yielded ops ts j=none:=by
 have:=r.2 d;rw[hb]at this;obtain⟨t',h1,_⟩:=this.tuple_inv;unfold yielded;unfold dC at hs;rw[hs];simp only[Option.bind_some];rw[Array.getD_eq_getD_getElem?]at h1;cases hd:ts[d]? with
 |none=>rfl
 |some x=>rw[hd]at h1;simp at h1;rw[h1]
theorem yield_put{a:Go.Act}{o:Oper}{v:Value}{j d:Nat}(hs:dC ops j=some d)(hd:wS d o=true):yielded ops (a.put o.dst v).tmps j=yielded ops a.tmps j:=by
 unfold yielded;unfold dC at hs;rw[hs];simp only[Option.bind_some];cases ho:o.dst with
 |none=>rfl
 |some e=>
  unfold wS at hd;rw[ho]at hd;have a0:e≠d:=by
   intro he;subst he;simp at hd
  have:(a.put (some e) v).tmps[d]?=a.tmps[d]?:=by show(a.tmps.setIfInBounds e v)[d]?=_;rw[Array.getElem?_setIfInBounds,if_neg a0]
  rw[this]
theorem xG{a:Go.Act}{o:Oper}{j d:Nat}(hs:dC ops j=some d)(h:o.dst=some d\/yielded ops a.tmps j=none):yielded ops (a.put o.dst Go.undef).tmps j=none:=by
 unfold yielded at h ⊢;unfold dC at hs;rw[hs]at h ⊢;simp only[Option.bind_some]at h ⊢;cases ho:o.dst with
 |none=>
  rw[ho]at h;rcases h with h|h
  ·cases h
  ·exact h
 |some e=>
  show(match (a.tmps.setIfInBounds e Go.undef)[d]? with|some (.bool b)=>some b|_=>none)=none;rw[Array.getElem?_setIfInBounds];by_cases he:e=d
  ·rw[if_pos he];split
   ·rename_i b hb;split at hb
    ·simp[Go.undef]at hb
    ·cases hb
   ·rfl
  ·rw[if_neg he];rw[ho]at h;rcases h with h|h
   ·simp at h;exact absurd h he
   ·exact h
def IX(ops:Array Oper)(xs:List IOp):Prop:=∀x∈xs,ops[x.1]?=some x.2
theorem wu{Q:Exit->Go.Act->World->Prop}{i:Nat}{o:Oper}{rest:List Nat}{a:Go.Act}(ho:ops[i]?=some o)(hw:Region.wanted o (yielded ops a.tmps)=true)(h:o.wp P a W (wpOps P ops Q rest) Q):wpOps P ops Q (i::rest) a W:=by simp only[wpOps,ho,hw,if_true];exact .inl h
theorem wg{Q:Exit->Go.Act->World->Prop}{i:Nat}{o:Oper}{rest:List Nat}{a:Go.Act}(ho:ops[i]?=some o)(hw:Region.wanted o (yielded ops a.tmps)=false)(h:wpOps P ops Q rest (a.put o.dst Go.undef) W):wpOps P ops Q (i::rest) a W:=by simp only[wpOps,ho,hw,Bool.false_eq_true,if_false];exact h
theorem pU{o:Oper}{y:Nat->Option Bool}(h:o.guard=none):Region.wanted o y=true:=by unfold Region.wanted;rw[h]
theorem dY{o:Oper}{y:Nat->Option Bool}{j:Nat}{w:Bool}(h:o.guard=some (j,w)):Region.wanted o y=(y j==some w):=by unfold Region.wanted;rw[h]
theorem vM{g:Nat×Bool}{h:Option (Nat×Bool)}(e:ud g h=true):h=some g:=by
 unfold ud at e;split at e
 ·simp only[Bool.and_eq_true,Nat.beq_eq,beq_iff_eq]at e;rw[show g=(g.1,g.2) from rfl,e.1,e.2]
 ·cases e
theorem FR.undefPut{fr:List Value}{a:Go.Act}(r:FR ι W0.heap.size fr a.tmps)(d:Option Tmp):FR ι W0.heap.size (dR fr d undef') (a.put d Go.undef).tmps:=r.put d VR.undef
theorem FR.topPut{fr:List Value}{a:Go.Act}(r:FR ι W0.heap.size fr a.tmps)(d:Option Tmp)(v:Value):FR ι W0.heap.size (dR fr d top) (a.put d v).tmps:=r.put d (.top v)
structure iA(ops:Array Oper)(ι:Inj)(B:Nat)(run:List IOp)(a a':Go.Act):Prop where
 defers:a'.defers=a.defers
 yields:∀j e,dC ops j=some e->(run.all fun y=>wS e y.2)=true->yielded ops a'.tmps j=yielded ops a.tmps j
 frame:∀fr,FR ι B fr a.tmps->FR ι B (poisonOps fr run) a'.tmps
theorem iA.refl{a:Go.Act}:iA ops ι W0.heap.size [] a a:=⟨rfl,fun _ _ _ _=>rfl,fun _ r=>r⟩
theorem zr(fr:List Value)(l m:List IOp):poisonOps fr (l++m)=poisonOps (poisonOps fr l) m:=by
 induction l generalizing fr with
 |nil=>rfl
 |cons x l ih=>exact ih _
theorem iA.trans{l m:List IOp}{a b c:Go.Act}(h:iA ops ι W0.heap.size l a b)(k:iA ops ι W0.heap.size m b c):iA ops ι W0.heap.size (l++m) a c:=
 ⟨k.defers.trans h.defers,fun j e hs a0=>by
  simp only[List.all_append,Bool.and_eq_true]at a0;rw[k.yields j e hs a0.2,h.yields j e hs a0.1],fun fr r=>by rw[zr];exact k.frame _ (h.frame fr r)⟩
theorem iA.one{y:IOp}{a:Go.Act}(v:Value):iA ops ι W0.heap.size [y] a (a.put y.2.dst v):=
 ⟨iH _ _ _,fun j e hs a0=>by
  simp only[List.all_cons,List.all_nil,Bool.and_true]at a0;exact yield_put hs a0,fun fr r=>r.topPut _ _⟩
theorem skip_run{Q:Exit->Go.Act->World->Prop}{i:Nat}{g:Nat×Bool}{d:Nat}(hd:dC ops g.1=some d):∀(todo:List IOp) (m:Nat) (a:Go.Act) (rest:List Nat),
  IX ops todo->(∀(t:Nat) y,todo[t]?=some y->y.1=m+t)->i<=m->(todo.all fun y=>wS d y.2)=true->(∀y∈todo,within i g y=true)->yielded ops a.tmps g.1≠some g.2->
  (∀q,i<=q->q<m->∀e,dC ops q=some e->yielded ops a.tmps q=none)->
  (∀a',iA ops ι W0.heap.size todo a a'->wpOps P ops Q rest a' W)->
  wpOps P ops Q (todo.map (·.1)++rest) a W
 |[],m,a,rest,_,_,_,_,_,_,_,hn=>hn a iA.refl
 |y::todo,m,a,rest,a7,hc,hi,a4,hw,hy,hq,hn=>by
  have a5:=a7 y (by simp);have a8:y.1=m:=hc 0 y rfl;simp only[List.all_cons,Bool.and_eq_true]at a4;have a0:∀q,dC ops q=none->yielded ops a.tmps q=none:=by intro q hs;unfold yielded;unfold dC at hs;rw[hs];try rfl
  have a1:Region.wanted y.2 (yielded ops a.tmps)=false:=by
   have a3:=hw y (by simp);unfold within at a3;simp only[Bool.or_eq_true]at a3;rcases a3 with h|h
   ·rw[dY (show y.2.guard=some (g.1,g.2) from vM h)];simpa using hy
   ·split at h
    ·rename_i j w hg;simp only[Bool.and_eq_true,Nat.ble_eq,Nat.blt]at h;rw[dY hg];have a2:yielded ops a.tmps j=none:=by
      cases hs:dC ops j with
      |none=>exact a0 j hs
      |some e=>exact hq j h.1 (by omega) e hs
     rw[a2];try rfl
    ·cases h
  refine wg a5 a1 ?_;have a6:iA ops ι W0.heap.size [y] a (a.put y.2.dst Go.undef):=iA.one _;refine skip_run hd todo (m+1) _ rest (fun z hz=>a7 z (by simp[hz])) (fun t z hz=>by have:=hc (t+1) z (by simpa using hz);omega) (by omega) a4.2 (fun z hz=>hw z (by simp[hz]))
   (by rw[a6.yields _ _ hd (by simp[a4.1])];exact hy) ?_ fun a' hk=>hn a' (a6.trans hk)
  intro q h1 h2 e he;by_cases a9:q=m
  ·refine xG he (.inl ?_);subst a9;unfold dC at he;rw[<-a8,a5]at he;exact he
  ·exact xG he (.inr (hq q h1 (by omega) e he))
end
section
variable{P:Program}{cf:gO}{N:Nat}{ι:Inj}{W0 W:World}{σ:aC}{res:(Ex×List Value)×aC}{ops:Array Oper}
theorem wB(p:IOp->Bool):∀l:List IOp,l=(xE p l).1++(xE p l).2/\∀y∈(xE p l).1,p y=true
 |[]=>⟨rfl,fun y h=>by cases h⟩
 |x::l=>by
  obtain⟨h1,h2⟩:=wB p l;unfold xE;cases hp:p x with
  |true=>
   simp only[cond_true];refine⟨by rw[List.cons_append,<-h1],fun y hy=>?_⟩;rcases List.mem_cons.1 hy with rfl|hy
   ·exact hp
   ·exact h2 y hy
  |false=>simp only[cond_false];exact⟨rfl,fun y h=>by cases h⟩
def iJ(xs:List IOp)(m:Nat):Prop:=∀(t:Nat) y,xs[t]?=some y->y.1=m+t
theorem iJ.tail{x:IOp}{xs:List IOp}{m:Nat}(h:iJ (x::xs) m):iJ xs (m+1):=fun t y hy=>by have:=h (t+1) y (by simpa using hy);omega
theorem iJ.left{xs ys:List IOp}{m:Nat}(h:iJ (xs++ys) m):iJ xs m:=fun t y hy=>h t y (by rw[List.getElem?_append_left (List.getElem?_eq_some_iff.1 hy).1];exact hy)
theorem iJ.right{xs ys:List IOp}{m:Nat}(h:iJ (xs++ys) m):iJ ys (m+xs.length):=fun t y hy=>by have:=h (xs.length+t) y (by rw[List.getElem?_append_right (by omega)];simpa using hy);omega
theorem pick_wp{p:Oper}{a:Go.Act}{next:Go.Act->World->Prop}{Q:Exit->Go.Act->World->Prop}{d:Nat}{x y:Operand}{t:Bool}(a0:p.op=.pick (.tmp d) x y)(hd:a.tmps[d]?=some (.bool t))(h:next (a.put p.dst (if t then a.eval x else a.eval y)) W):p.wp P a W next Q:=by
 unfold Oper.wp execOp;rw[a0];have:a.eval (.tmp d)=.bool t:=by
  show a.tmps.getD d Go.undef=_;rw[Array.getD_eq_getD_getElem?,hd];try rfl
 simp only[this];exact h
theorem yield_slot{ts:Array Value}{j d:Nat}{b:Bool}(hs:dC ops j=some d)(h:yielded ops ts j=some b):ts[d]?=some (.bool b):=by
 unfold yielded at h;unfold dC at hs;rw[hs]at h;simp only[Option.bind_some]at h;split at h
 ·rename_i b' hb;cases h;exact hb
 ·cases h
theorem wP{Q:Exit->Go.Act->World->Prop}{i j d:Nat}{b w:Bool}{run:List IOp}{p:IOp}{fr fr1:List Value}{v:Value}{a:Go.Act}{rest:List Nat}(a7:IX ops (run++[p]))(hc:iJ (run++[p]) i)(hd:dC ops j=some d)
  (hw:∀y∈run,within i (j,w) y=true) (a6:(run.all fun y=>wS d y.2)=true) (hy:yielded ops a.tmps j=some b) (hp:tX ops j p.2=true) (hv:pickB P b w p.2 fr1=some v)
  (hG:P.globals.size<=W0.heap.size) (r:FR ι W0.heap.size fr a.tmps) (a0:∀a':Go.Act,iA ops ι W0.heap.size run a a'->Region.wanted p.2 (yielded ops a'.tmps)=true)
  (a2:b=w->∀K:List Nat,(∀a',FR ι W0.heap.size fr1 a'.tmps->iA ops ι W0.heap.size run a a'->wpOps P ops Q K a' W)->wpOps P ops Q (run.map (·.1)++K) a W)
  (hn:∀a',FR ι W0.heap.size (dR (poisonOps fr run) p.2.dst v) a'.tmps->iA ops ι W0.heap.size (run++[p]) a a'->wpOps P ops Q rest a' W):
  wpOps P ops Q ((run++[p]).map (·.1)++rest) a W:=by
 have a9:=a7 p (by simp);have fin:∀a':Go.Act,iA ops ι W0.heap.size run a a'->(b=w->FR ι W0.heap.size fr1 a'.tmps)->wpOps P ops Q (p.1::rest) a' W:=by
  intro a' hk a1;have a8:a'.tmps[d]?=some (.bool b):=yield_slot hd (by rw[hk.yields j d hd a6];exact hy);refine wu a9 (a0 a' hk) ?_;have done:∀u,VR ι W0.heap.size v u->wpOps P ops Q rest (a'.put p.2.dst u) W:=fun u hu=>
   hn _ ((hk.frame fr r).put _ hu) (hk.trans (iA.one u))
  unfold tX at hp;split at hp
  ·rename_i c x y d' a5 hs;rw[hd]at hs;cases hs;simp only[Nat.beq_eq]at hp;subst hp;refine pick_wp a5 a8 (done _ ?_);unfold pickB at hv;rw[a5]at hv;split at hv
   ·rename_i a3;cases a3;split at hv
    ·rename_i xb hx;cases hv;cases b with
     |true=>have:=gS (P:=P) hG (a1 rfl) x;rw[hx]at this;simpa using this
     |false=>exact .bool _
    ·cases hv
   ·rename_i a3;cases a3;split at hv
    ·rename_i xb hx;cases hv;cases b with
     |false=>have:=gS (P:=P) hG (a1 rfl) y;rw[hx]at this;simpa using this
     |true=>exact .bool _
    ·cases hv
   ·cases hv
  ·cases hp
 rw[List.map_append,List.append_assoc];by_cases a4:b=w
 ·exact a2 a4 _ fun a' q1 q2=>fin a' q2 fun _=>q1
 ·refine skip_run (ι:=ι) (W0:=W0) (i:=i) (g:=(j,w)) hd run i a _ (fun y hy=>a7 y (by simp[hy])) hc.left (Nat.le_refl _) a6 hw (by rw[hy];simpa using a4) (fun q h1 h2=>by omega) fun a' hk=>?_;exact fin a' hk fun e=>absurd e a4
theorem oD{Q:Exit->Go.Act->World->Prop}(hG:P.globals.size<=W0.heap.size):∀(n:Nat) (g:Nat×Bool) (run:List IOp) (fr fr':List Value) (m:Nat) (a:Go.Act) (d:Nat) (K:List Nat),nT P ops n g run fr=some fr'->IX ops run->iJ run m->
  dC ops g.1=some d->(run.all fun y=>wS d y.2)=true->yielded ops a.tmps g.1=some g.2->FR ι W0.heap.size fr a.tmps->
  (∀a',FR ι W0.heap.size fr' a'.tmps->iA ops ι W0.heap.size run a a'->wpOps P ops Q K a' W)->wpOps P ops Q (run.map (·.1)++K) a W
 |0,g,run,fr,fr',m,a,d,K,h,_,_,_,_,_,_,_=>by cases h
 |n+1,g,[],fr,fr',m,a,d,K,h,_,_,_,_,_,r,hn=>by simp only[nT,Option.some.injEq]at h;subst h;exact hn a r iA.refl
 |n+1,g,x::xs,fr,fr',m,a,d,K,h,a4,hc,hd,a1,hy,r,hn=>by
  unfold nT at h;have b3:=a4 x (by simp);cases hs:ud g x.2.guard with
  |true=>
   rw[hs]at h;simp only[cond_true]at h;split at h
   ·rename_i v hv;simp only[List.all_cons,Bool.and_eq_true]at a1;refine wu b3 (by rw[dY (show x.2.guard=some (g.1,g.2) from vM hs),hy];simp) ?_;obtain⟨v',b5,b0⟩:=xm (W:=W) (o:=x.2) hG r (.inl hv);unfold Oper.wp;rw[b0,Oper.upon_value];have b2:iA ops ι W0.heap.size [x] a (a.put x.2.dst v'):=iA.one _;exact oD hG n g xs _ fr' (m+1) _ d K h (fun z hz=>a4 z (by simp[hz])) hc.tail hd a1.2 (by rw[b2.yields _ _ hd (by simp[a1.1])];exact hy) (r.put _ b5) fun a' q1 q2=>hn a' q1 (b2.trans q2)
   ·cases h
  |false=>
   rw[hs]at h;simp only[cond_false]at h;split at h
   ·cases h
   ·rename_i j w hg;split at h
    ·cases h
    ·rename_i d' a8;split at h
     ·rename_i b hb;obtain⟨a6,a9⟩:=wB (within x.1 (j,w)) (x::xs);split at h
      ·rename_i run1 p rest1 a5;rw[a5]at a6 a9;simp only at a6 a9;split at h
       ·rename_i fr1 b1;split at h
        ·rename_i v hv a3;simp only[Bool.and_eq_true]at a3;obtain⟨⟨hp,b6⟩,a7⟩:=a3;have b4:x.1=m:=hc 0 x rfl;rw[a6]at a4 hc a1;have a0:run1++p::rest1=(run1++[p])++rest1:=by simp
         rw[a0]at a4 hc a1;rw[a6,a0,List.map_append,List.append_assoc];simp only[List.all_append,Bool.and_eq_true]at a1;refine wP (i:=m) (fun z hz=>a4 z (by simp only[List.mem_append];exact .inl (by simpa using hz))) hc.left a8 (by rw[<-b4];exact a9) a7 (lE r a8 hb) hp hv hG r ?_ ?_ ?_
         ·intro a' hk;rw[dY (show p.2.guard=some (g.1,g.2) from vM b6),hk.yields _ _ hd a1.1.1,hy];simp
         ·intro b7 K' b8;refine oD hG n (j,w) run1 fr fr1 m a d' K' b1 (fun z hz=>a4 z (by simp only[List.mem_append];exact .inl (.inl hz))) hc.left.left a8 a7 (by rw[lE r a8 hb,b7]) r b8
         ·intro a' q1 q2;refine oD hG n g rest1 _ fr' (m+(run1++[p]).length) a' d K h (fun z hz=>a4 z (by simp only[List.mem_append];exact .inr hz)) hc.right hd a1.2 (by rw[q2.yields _ _ hd (by simp only[List.all_append,Bool.and_eq_true];exact a1.1)];exact hy) q1 fun a2 q3 q4=>hn a2 q3 ?_;have:=q2.trans q4;rw[a6,a0];exact this
        ·cases h
       ·cases h
      ·cases h
     ·cases h
end
section
variable{P:Program}{cf:gO}{N:Nat}{ι:Inj}{W0:World}{σ:aC}{res:(Ex×List Value)×aC}{ops:Array Oper}
theorem nR:∀(l:List Value) (d:Nat) (v:Value),getD l d=v->v≠ .tuple #[]->lF l d v=l
 |[],_,_,_,_=>rfl
 |x::l,0,v,h,_=>by simp only[getD]at h;subst h;try rfl
 |x::l,n+1,v,h,hv=>by simp only[getD]at h;simp only[lF];rw[nR l n v h hv]
def bH(w:Nat->Prop)(fr fr':List Value):Prop:=fr'.length=fr.length/\∀t,¬w t->getD fr' t=getD fr t
theorem bH.refl(w:Nat->Prop)(fr:List Value):bH w fr fr:=⟨rfl,fun _ _=>rfl⟩
theorem bH.trans{w:Nat->Prop}{a b c:List Value}(h:bH w a b)(k:bH w b c):bH w a c:=⟨k.1.trans h.1,fun t ht=>(k.2 t ht).trans (h.2 t ht)⟩
theorem bH.mono{w w':Nat->Prop}{a b:List Value}(h:bH w a b)(hw:∀t,w t->w' t):bH w' a b:=⟨h.1,fun t ht=>h.2 t fun e=>ht (hw t e)⟩
theorem bH.set{w:Nat->Prop}(fr:List Value){d:Nat}(v:Value)(h:w d):bH w fr (lF fr d v):=by refine⟨kG _ _ _,fun t ht=>?_⟩;rw[kY,if_neg];rintro⟨rfl,_⟩;exact ht h
theorem bH.put{w:Nat->Prop}(fr:List Value)(d:Option Tmp)(v:Value)(h:∀e,d=some e->w e):bH w fr (dR fr d v):=by
 cases d with
 |none=>exact .refl _ _
 |some d=>exact .set fr v (h d rfl)
theorem bH.poisonOps{w:Nat->Prop}:∀(l:List IOp) (fr:List Value),(∀x∈l,∀e,x.2.dst=some e->w e)->bH w fr (poisonOps fr l)
 |[],fr,_=>.refl _ _
 |x::l,fr,h=>(bH.put fr x.2.dst top (h x (by simp))).trans (bH.poisonOps l _ fun y hy=>h y (by simp[hy]))
def WrL(xs:List IOp)(t:Nat):Prop:=∃x∈xs,x.2.dst=some t
theorem qR{Q:Exit->Go.Act->World->Prop}{k:List Value->Pg}(hG:P.globals.size<=W0.heap.size)(b4:zI P W0 cf):∀(n:Nat) (xs:List IOp) (m:Nat) (fr:List Value) (σ:aC) (ι:Inj) (W:World) (a:Go.Act),
  IX ops xs->iJ xs m->exec cf N (jX P ops n xs fr k) σ=some res->Rel ι W0 σ W->FR ι W0.heap.size fr a.tmps->
  (∀κ fr' σ' a' W',ι.le κ->Rel κ W0 σ' W'->FR κ W0.heap.size fr' a'.tmps->a'.defers=a.defers->bH (WrL xs) fr fr'->exec cf N (k fr') σ'=some res->Q .normal a' W')->wpOps P ops Q (xs.map (·.1)) a W
 |0,xs,m,fr,σ,ι,W,a,_,_,h,_,_,_=>by cases h
 |n+1,[],m,fr,σ,ι,W,a,a5,hc,h,R,r,hn=>hn ι fr σ a W ι.le_refl R r rfl (.refl _ _) h
 |n+1,x::xs,m,fr,σ,ι,W,a,a5,hc,h,R,r,hn=>by
  have b7:=a5 x (by simp);have step:Region.wanted x.2 (yielded ops a.tmps)=true->exec cf N (zD P x fr fun fr=>jX P ops n xs fr k) σ=some res->wpOps P ops Q (x.1::xs.map (·.1)) a W:=by intro hw h0;refine wu b7 hw ?_;obtain⟨v,σ',h1,h2⟩:=compOp_exec h0;refine op_step hG b4 R r h1 fun κ a1 W1 c1 R1 r1 hd=>?_;exact qR hG b4 n xs (m+1) _ σ' κ W1 a1 (fun z hz=>a5 z (by simp[hz])) hc.tail h2 R1 r1 fun κ' fr' σ2 a' W' a4 R' r' b2 b1 hk=>hn κ' fr' σ2 a' W' (Inj.le_trans c1 a4) R' r' (b2.trans hd) ((bH.put fr x.2.dst _ fun e he=>⟨x,by simp,he⟩).trans (b1.mono fun t ⟨y,hy,hd⟩=>⟨y,by simp[hy],hd⟩)) hk
  have skip:Region.wanted x.2 (yielded ops a.tmps)=false->exec cf N (jX P ops n xs (dR fr x.2.dst undef') k) σ=some res->wpOps P ops Q (x.1::xs.map (·.1)) a W:=by intro hw h0;refine wg b7 hw ?_;exact qR hG b4 n xs (m+1) _ σ ι W _ (fun z hz=>a5 z (by simp[hz])) hc.tail h0 R (r.undefPut _) fun κ' fr' σ2 a' W' a4 R' r' b2 b1 hk=>hn κ' fr' σ2 a' W' a4 R' r' (by rw[b2,iH]) ((bH.put fr x.2.dst _ fun e he=>⟨x,by simp,he⟩).trans (b1.mono fun t ⟨y,hy,hd⟩=>⟨y,by simp[hy],hd⟩)) hk
  simp only[List.map_cons];unfold jX at h;cases hg:x.2.guard with
  |none=>rw[hg]at h;exact step (pU hg) h
  |some g=>
   obtain⟨j,w⟩:=g;rw[hg]at h;simp only at h;split at h
   ·cases h
   ·rename_i d hd;split at h
    ·rename_i t ht;exact skip (by rw[dY hg,wI r hd ht];rfl) h
    ·rename_i b hb;have b3:=lE (W0:=W0) r hd hb;split at h
     ·rename_i fr1 rest1 a0;split at a0
      ·rename_i run p rest a8
       replace a0:=(mR a0).2
       split at a0
       ·rename_i fr2 b0;split at a0
        ·rename_i v hv a6;simp only[Option.some.injEq,Prod.mk.injEq]at a0;obtain⟨rfl,rfl⟩:=a0;simp only[Bool.and_eq_true]at a6;obtain⟨⟨hp,b9⟩,b8⟩:=a6;obtain⟨a9,b5⟩:=wB (within x.1 (j,w)) (x::xs);rw[a8]at a9 b5;simp only at a9 b5;have c0:x.1=m:=hc 0 x rfl;rw[a9]at a5 hc;have a3:run++p::rest=(run++[p])++rest:=by simp
         rw[a3]at a5 hc;have c3:p.2.guard=none:=by
          cases hq:p.2.guard with
          |none=>rfl
          |some _=>rw[hq]at b8;cases b8
         have e1:x.1::xs.map (·.1)=(x::xs).map (·.1):=rfl;rw[e1,a9,a3,List.map_append];refine wP (i:=m) (fun z hz=>a5 z (by simp only[List.mem_append];exact .inl (by simpa using hz))) hc.left hd (by rw[<-c0];exact b5) b9 b3 hp hv hG r (fun a' _=>pU c3) ?_ ?_
         ·intro a7 K' c4;exact oD hG (n+1) (j,w) run fr fr2 m a d K' b0 (fun z hz=>a5 z (by simp only[List.mem_append];exact .inl (.inl hz))) hc.left.left hd b9 (by rw[b3,a7]) r c4
         ·intro a' q1 q2;exact qR hG b4 n rest _ _ σ ι W a' (fun z hz=>a5 z (by simp only[List.mem_append];exact .inr hz)) hc.right h R q1 fun κ' fr' σ2 a2 W' a4 R' r' b2 b1 hk=>hn κ' fr' σ2 a2 W' a4 R' r' (by rw[b2,q2.defers]) (by rw[a9];refine(bH.poisonOps run fr fun y hy e he=>⟨y,by simp[hy],he⟩).trans ((bH.put _ p.2.dst _ fun e he=>⟨p,by simp,he⟩).trans (b1.mono fun t ⟨y,hy,hd⟩=>⟨y,?_,hd⟩));rw[a3];simp only[List.mem_append];exact .inr hy) hk
        ·cases a0
       ·cases a0
      ·cases a0
     ·cases a7:b==w with
      |true=>rw[a7]at h;simp only[cond_true]at h;simp only[beq_iff_eq]at a7;subst a7;rw[nR fr d _ hb nofun]at h;exact step (by rw[dY hg,b3];simp) h
      |false=>
       rw[a7]at h;simp only[cond_false]at h;have b6:b=!w:=by cases b<;>cases w<;>simp_all
       subst b6;rw[nR fr d _ hb nofun]at h;exact skip (by rw[dY hg,b3];cases w<;>rfl) h
    ·cases h
end
variable{P:Program}{W0:World}{cf:gO}{N:Nat}{res:(Ex×List Value)×aC}{ops:Array Oper}
theorem dZ(ops:Array Oper)(t:Nat):(aY ops)[t]?=(ops[t]?).map fun o=>(t,o):=by simp[aY,List.getElem?_zipIdx];cases ops[t]?<;>rfl
theorem zL(ops:Array Oper):IX ops (aY ops):=by
 intro x hx;obtain⟨t,ht⟩:=List.getElem?_of_mem hx;rw[dZ]at ht;cases ho:ops[t]? with
 |none=>rw[ho]at ht;cases ht
 |some o=>rw[ho]at ht;cases ht;exact ho
theorem jB(ops:Array Oper):iJ (aY ops) 0:=by
 intro t y ht;rw[dZ]at ht;cases ho:ops[t]? with
 |none=>rw[ho]at ht;cases ht
 |some o=>rw[ho]at ht;cases ht;simp
theorem fW(ops:Array Oper):(aY ops).map (·.1)=List.range ops.size:=by
 apply List.ext_getElem?;intro t;rw[List.getElem?_map,dZ];by_cases h:t<ops.size
 ·simp[h]
 ·simp[h]
theorem region_sound{Q:Exit->Go.Act->World->Prop}{id:Nat}{k:List Value->Pg}{fr:List Value}{σ:aC}{ι:Inj}{W:World}{a:Go.Act}(hG:P.globals.size<=W0.heap.size)(a0:zI P W0 cf)
  (h:exec cf N (qM P ops false fr k) σ=some res) (R:Rel ι W0 σ W) (r:FR ι W0.heap.size fr a.tmps)
  (hn:∀κ fr' σ' a' W',ι.le κ->Rel κ W0 σ' W'->FR κ W0.heap.size fr' a'.tmps->a'.defers=a.defers->bH (fun t=>∃o∈ops,o.dst=some t) fr fr'->exec cf N (k fr') σ'=some res->Q .normal a' W'):(Code.region id ops false).wp P Q a W:=by
 apply wp_region;rw[<-fW];exact qR hG a0 _ _ 0 fr σ ι W a (zL ops) (jB ops) h R r fun κ fr' σ' a' W' h1 h2 h3 h4 h5 h6=>hn κ fr' σ' a' W' h1 h2 h3 h4 (h5.mono fun t ⟨x,hx,hd⟩=>⟨x.2,Array.mem_of_getElem? (zL ops x hx),hd⟩) h6
section
variable{P:Program}{cf:gO}{N:Nat}{res:(Ex×List Value)×aC}{ops:Array Oper}{bf:Array Nat}
def oV(h:Act)(v:Value)(σ:aC):Prop:=∃σ',h σ=some (v,σ')
theorem lU{f:Value->Value->Bool}(hf:∀a b,f a b=true->a=b):∀(l m:List Value),rS f l m=true->l=m
 |[],[],_=>rfl
 |a::l,b::m,h=>by simp only[rS,Bool.and_eq_true]at h;rw[hf a b h.1,lU hf l m h.2]
 |[],_::_,h=>by cases h
 |_::_,[],h=>by cases h
theorem mB{α:Type}{f:α->α->Bool}(hf:∀a b,f a b=true->a=b):∀(a b:Option α),wU f a b=true->a=b
 |none,none,_=>rfl
 |some a,some b,h=>by rw[hf a b h]
 |none,some _,h=>by cases h
 |some _,none,h=>by cases h
theorem rE(a b:Addr)(h:addrEq a b=true):a=b:=by obtain⟨x,y,z⟩:=a;obtain⟨x',y',z'⟩:=b;simp only[addrEq,Bool.and_eq_true,Nat.beq_eq]at h;obtain⟨⟨rfl,rfl⟩,h⟩:=h;rw[mB (fun a b h=>Nat.eq_of_beq_eq_true h) _ _ h]
theorem xW:∀(n:Nat) (a b:Value),xp n a b=true->a=b:=by
 intro n;induction n with
 |zero=>
  intro a b h;unfold xp at h;split at h<;>simp_all
  ·rename_i s t;cases s;cases t;rename_i x y;cases x;cases y
   simp_all
  ·exact mB rE _ _ h
  ·exact mB rE _ _ h.1.1
  ·exact mB (fun a b h=>Nat.eq_of_beq_eq_true h) _ _ h
 |succ n ih=>
  intro a b h;unfold xp at h;split at h<;>simp_all
  ·rename_i s t;cases s;cases t;rename_i x y;cases x;cases y
   simp_all
  ·exact mB rE _ _ h
  ·exact mB rE _ _ h.1.1
  ·exact mB (fun a b h=>Nat.eq_of_beq_eq_true h) _ _ h
  ·rename_i x y _;have:=lU ih _ _ h;exact Array.toList_inj.1 this
  ·rename_i x y _;have:=lU ih _ _ h;exact Array.toList_inj.1 this
  ·exact⟨Array.toList_inj.1 (lU ih _ _ h.2.1),Array.toList_inj.1 (lU ih _ _ h.2.2)⟩
theorem eqv_eq{a b:Value}(h:eqv a b=true):a=b:=by
 unfold eqv at h;rw[Bool.or_eq_true]at h;rcases h with h|h
 ·exact xW 4 a b h
 ·unfold sameV at h;exact @of_decide_eq_true _ (Classical.propDecidable _) h
theorem wa{h:Act}{v:Value}{σ:aC}(hc:pK h v σ=true):oV h v σ:=by
 unfold pK at hc;split at hc
 ·rename_i v' σ' hh;rw[<-eqv_eq hc];exact⟨σ',hh⟩
 ·cases hc
theorem pS{i:Nat}{σ:aC}:∀{ld:List (Nat×Act×Value)},chkAll i bf σ ld=true->∀r h v,(r,h,v)∈ld->unord bf r i=true->oV h v σ
 |[],_,r,h,v,hm,_=>by cases hm
 |(r0,h0,v0)::ld,hc,r,h,v,hm,hu=>by
  unfold chkAll xI at hc;dsimp only at hc;rcases List.mem_cons.1 hm with e|hm
  ·cases e;rw[hu]at hc;simp only[cond_true,chks,Bool.and_eq_true]at hc;exact wa hc.1
  ·cases hq:unord bf r0 i with
   |true=>rw[hq]at hc;simp only[cond_true,chks,Bool.and_eq_true]at hc;exact pS hc.2 r h v hm hu
   |false=>rw[hq]at hc;exact pS hc r h v hm hu
theorem nZ{i:Nat}{h:Act}{v:Value}:∀{sn:List (Nat×aC)},yK i bf h v sn=true->∀e σ,(e,σ)∈sn->unord bf e i=true->oV h v σ
 |[],_,e,σ,hm,_=>by cases hm
 |(e0,σ0)::sn,hc,e,σ,hm,hu=>by
  unfold yK xI at hc;dsimp only at hc;rcases List.mem_cons.1 hm with q|hm
  ·cases q;rw[hu]at hc;simp only[cond_true,past,Bool.and_eq_true]at hc;exact wa hc.1
  ·cases hq:unord bf e0 i with
   |true=>rw[hq]at hc;simp only[cond_true,past,Bool.and_eq_true]at hc;exact nZ hc.2 e σ hm hu
   |false=>rw[hq]at hc;exact nZ hc e σ hm hu
theorem conv_act{src dst e:TypeId}{y:Value}{h:Act}(h1:P.underlying src=some (.slice e))(h2:P.underlying dst=some .string)(hy:pA P src dst y=.act h):h=dB y:=by
 unfold pA at hy;cases y<;>simp only[h1,h2]at hy<;>(try cases hy)<;>
 ·split at hy
  ·cases hy;try rfl
  ·cases hy
theorem sK{o:Oper}{fr:List Value}{h:Act}{σ σ':aC}{v:Value}(hq:(mV P o).isQuiet=true)(ho:bE P o fr=.act h)(hh:h σ=some (v,σ')):σ'=σ:=by
 unfold bE at ho;unfold mV at hq;cases a0:o.op with
 |load t x=>
  rw[a0]at ho;simp only at ho;split at ho
  ·simp at ho;subst ho;unfold ldAt at hh;split at hh
   ·cases hh
   ·rename_i d hd;cases a2:rY d with
    |true=>
     rw[a2]at hh;simp only[cond_true]at hh;split at hh
     ·cases hh;try rfl
     ·cases hh
    |false=>
     rw[a2]at hh;simp only[cond_false]at hh;split at hh
     ·cases hh;try rfl
     ·cases hh
  ·cases ho
 |lookup t m k ok=>
  rw[a0]at ho;simp at ho;subst ho;unfold nP at hh;split at hh
  ·split at hh
   ·rename_i kt et hd _ _ kd z _ _;cases hk:oN kd (ev P fr k)with
    |true=>rw[hk]at hh;simp only[cond_true]at hh;split at hh<;>cases hh<;>rfl
    |false=>
     rw[hk]at hh;simp only[cond_false]at hh;cases a1:rQ P kt (ev P fr k)with
     |true=>rw[a1]at hh;simp only[cond_true]at hh;split at hh<;>cases hh<;>rfl
     |false=>rw[a1]at hh;cases hh
   ·cases hh
  ·cases hh
 |convert src dst x=>
  rw[a0]at ho hq;simp only at ho hq;unfold pA at ho;split at hq
  ·exact Bool.noConfusion (show false=true from hq)
  ·rename_i h1 h2;rw[h1,h2]at ho;have:=conv_act (y:=ev P fr x) h1 h2 (h:=h) (by unfold pA;rw[h1,h2];exact ho);subst this;unfold dB at hh;split at hh
   ·cases hh;try rfl
   ·split at hh
    ·split at hh
     ·cases hh;try rfl
     ·cases hh
    ·cases hh
   ·cases hh
  ·exact Bool.noConfusion (show false=true from hq)
 |call c=>
  rw[a0]at ho hq;simp only at ho hq;cases hc:c.callee with
  |builtin b=>
   rw[hc]at ho hq;cases b with
   |len=>
    simp only at ho hq;rcases hl:c.args.toList.map (ev P fr)with _|⟨y,_|⟨z,l⟩⟩
    ·rw[hl]at ho;cases ho
    ·rw[hl]at ho;simp only[fG]at ho;cases hd:(c.argTypes[0]?).bind P.underlying with
     |none=>rw[hd]at ho;cases ho
     |some d=>
      rw[hd]at ho;simp only at ho;unfold qk at ho;split at ho<;>try (cases ho;done)
      cases ho;unfold nN at hh;split at hh
      ·cases hh;try rfl
      ·split at hh
       ·cases hh;try rfl
       ·cases hh
    ·rw[hl]at ho;cases ho
   |_=>exact Bool.noConfusion (show false=true from hq)
  |value f=>rw[hc]at hq;exact Bool.noConfusion (show false=true from hq)
  |invoke r m=>rw[hc]at hq;exact Bool.noConfusion (show false=true from hq)
 |_=>rw[a0]at hq;exact Bool.noConfusion (show false=true from hq)
theorem qm:∀(l m:List Nat),xf.allNat l m=true->l=m
 |[],[],_=>rfl
 |a::l,b::m,h=>by simp only[xf.allNat,Bool.and_eq_true,Nat.beq_eq]at h;rw[h.1,qm l m h.2]
 |[],_::_,h=>by cases h
 |_::_,[],h=>by cases h
theorem objEq_eq{a b:Option dV}(h:objEq a b=true):a=b:=by
 unfold objEq at h;rw[Bool.or_eq_true]at h;rcases h with h|h
 ·unfold xf at h;split at h
  ·rename_i a b;simp only[Bool.and_eq_true,Nat.beq_eq]at h;obtain⟨⟨⟨h1,h2⟩,h3⟩,h4⟩:=h;obtain⟨a1,a2,a3,a4⟩:=a;obtain⟨b1,b2,b3,b4⟩:=b;simp only at h1 h2 h3 h4;rw[lU (xW 4) _ _ h1,h2,qm _ _ h3,h4]
  ·rfl
  ·rfl
  ·cases h
 ·exact @of_decide_eq_true _ (Classical.propDecidable _) h
theorem rZ{i:Nat}{σ:aC}:∀{al:List sJ},yI i bf σ al=true->∀r b o,(r,b,o)∈al->unord bf r i=true->σ.get b=o
 |[],_,r,b,o,hm,_=>by cases hm
 |(r0,b0,o0)::al,hc,r,b,o,hm,hu=>by
  unfold yI xI at hc;dsimp only at hc;rcases List.mem_cons.1 hm with e|hm
  ·cases e;rw[hu]at hc;simp only[cond_true,pE,Bool.and_eq_true]at hc;exact objEq_eq hc.1
  ·cases hq:unord bf r0 i with
   |true=>rw[hq]at hc;simp only[cond_true,pE,Bool.and_eq_true]at hc;exact rZ hc.2 r b o hm hu
   |false=>rw[hq]at hc;exact rZ hc r b o hm hu
theorem wO{i:Nat}{ld:List (Nat×Act×Value)}{al:List sJ}{p:Pg}{σ:aC}(h:exec cf N (behind i bf ld al p) σ=some res):
  (∀r g v,(r,g,v)∈ld->unord bf r i=true->oV g v σ)/\(∀r b o,(r,b,o)∈al->unord bf r i=true->σ.get b=o)/\exec cf N p σ=some res:=by
 unfold behind at h;have inner:exec cf N (bif rF i bf al then .get fun σ=>grd (yI i bf σ al) p else p) σ=some res->(∀r b o,(r,b,o)∈al->unord bf r i=true->σ.get b=o)/\exec cf N p σ=some res:=by
  intro h;cases ha:rF i bf al with
  |true=>rw[ha]at h;simp only[cond_true,exec]at h;obtain⟨h3,h4⟩:=fD h;exact⟨rZ h3,h4⟩
  |false=>rw[ha]at h;refine⟨fun r b o hm hu=>?_,h⟩;unfold rF at ha;rw[List.any_eq_false]at ha;exact absurd hu (ha _ hm)
 simp only at h;cases ha:zc i bf ld with
 |true=>rw[ha]at h;simp only[cond_true,exec]at h;obtain⟨h3,h4⟩:=fD h;exact⟨pS h3,inner h4⟩
 |false=>rw[ha]at h;refine⟨fun r g v hm hu=>?_,inner h⟩;unfold zc at ha;rw[List.any_eq_false]at ha;exact absurd hu (ha _ hm)
theorem compOpD_exec{late:Option Nat}{x:IOp}{fr:List Value}{all:List IOp}{sn:List (Nat×aC)}{ld:List (Nat×Act×Value)}{al:List sJ}{σ:aC}{k:List Value->List (Nat×aC)->List (Nat×Act×Value)->List sJ->Pg}
  (h:exec cf N (uC P late bf all x fr sn ld al k) σ=some res):
  (∃v,(bE P x.2 fr=.tot v\/bE P x.2 fr=.pure true v)/\exec cf N (k (dR fr x.2.dst v) sn ld al) σ=some res)\/
  (∃h v,bE P x.2 fr=.act h/\(mV P x.2).isQuiet=true/\h σ=some (v,σ)/\yK x.1 bf h v sn=true/\exec cf N (k (dR fr x.2.dst v) sn ((x.1,h,v)::ld) al) σ=some res)\/
  (∃v σ',((∃h,bE P x.2 fr=.act h/\h σ=some (v,σ'))\/(∃f args,bE P x.2 fr=.call f args/\cf f args σ=some (v,σ')))/\mW P late.isSome x.2=true/\(∀r h v,(r,h,v)∈ld->unord bf r x.1=true->oV h v σ')/\(∀r b o,(r,b,o)∈al->unord bf r x.1=true->σ'.get b=o)/\
   exec cf N (k (dR fr x.2.dst v) (bif iC P x.1 bf all then(x.1,σ)::sn else sn) ld al) σ'=some res)\/
  (∃n0 h v σ',late=some n0/\bE P x.2 fr=.act h/\dP x.2=true/\h σ=some (v,σ')/\newOk n0 σ al=true/\exec cf N (k (dR fr x.2.dst v) sn ld ((x.1,σ.n,σ'.get σ.n)::al)) σ'=some res):=by
 unfold uC at h;have h:=tL h;split at h
 ·cases h
 ·rename_i v hv;exact .inl ⟨v,.inl hv,h⟩
 ·rename_i c v hv;obtain⟨rfl,h2⟩:=fD h;exact .inl ⟨v,.inr hv,h2⟩
 ·rename_i g hg;cases hq:(mV P x.2).isQuiet with
  |true=>
   rw[hq]at h;simp only[cond_true,exec]at h;split at h
   ·rename_i v σ' a2;obtain⟨hc,h2⟩:=fD h;have:=sK hq hg a2;subst this;exact .inr (.inl ⟨g,v,hg,rfl,a2,hc,fX (k:=fun v'=>k (dR fr x.2.dst v') sn ((x.1,g,v)::ld) al) h2⟩)
   ·cases h
  |false=>
   rw[hq]at h;simp only[cond_false]at h;obtain⟨he,h⟩:=fD h;have key:∀sn',exec cf N (.act g fun v=>jO P (xy P x.2) v fun v'=>behind x.1 bf ld al (k (dR fr x.2.dst v') sn' ld al)) σ=some res->
     ∃v σ',g σ=some (v,σ')/\(∀r h v,(r,h,v)∈ld->unord bf r x.1=true->oV h v σ')/\(∀r b o,(r,b,o)∈al->unord bf r x.1=true->σ'.get b=o)/\exec cf N (k (dR fr x.2.dst v) sn' ld al) σ'=some res:=by
    intro sn' h;simp only[exec]at h;split at h
    ·rename_i v σ' a2;have h2:=fX (k:=fun v'=>behind x.1 bf ld al (k (dR fr x.2.dst v') sn' ld al)) h;obtain⟨h3,h4,h5⟩:=wO h2;exact⟨v,σ',a2,h3,h4,h5⟩
    ·cases h
   have plain:mW P late.isSome x.2=true->exec cf N (bif iC P x.1 bf all then .get fun σ=>.act g fun v=>jO P (xy P x.2) v fun v'=>behind x.1 bf ld al (k (dR fr x.2.dst v') ((x.1,σ)::sn) ld al)
     else .act g fun v=>jO P (xy P x.2) v fun v'=>behind x.1 bf ld al (k (dR fr x.2.dst v') sn ld al)) σ=some res->
     ∃v σ',((∃h,bE P x.2 fr=.act h/\h σ=some (v,σ'))\/(∃f args,bE P x.2 fr=.call f args/\cf f args σ=some (v,σ')))/\mW P late.isSome x.2=true/\(∀r h v,(r,h,v)∈ld->unord bf r x.1=true->oV h v σ')/\(∀r b o,(r,b,o)∈al->unord bf r x.1=true->σ'.get b=o)/\
      exec cf N (k (dR fr x.2.dst v) (bif iC P x.1 bf all then(x.1,σ)::sn else sn) ld al) σ'=some res:=by
    intro hl h;cases hs:iC P x.1 bf all with
    |true=>rw[hs]at h;simp only[cond_true]at h;unfold exec at h;obtain⟨v,σ',h1,h2,h3,h4⟩:=key _ h;exact⟨v,σ',.inl ⟨g,hg,h1⟩,hl,h2,h3,h4⟩
    |false=>rw[hs]at h;simp only[cond_false]at h;obtain⟨v,σ',h1,h2,h3,h4⟩:=key _ h;exact⟨v,σ',.inl ⟨g,hg,h1⟩,hl,h2,h3,h4⟩
   cases a1:late with
   |none=>rw[a1]at h plain;exact .inr (.inr (.inl (plain (by unfold mW;rw[he];rfl) h)))
   |some n0=>
    rw[a1]at h plain;simp only at h;cases a3:dP x.2 with
    |false=>rw[a3]at h;exact .inr (.inr (.inl (plain (by unfold mW;rw[he,a3];rfl) h)))
    |true=>
     rw[a3]at h;simp only[cond_true]at h;unfold exec at h;obtain⟨a5,h⟩:=fD h;simp only[exec]at h;split at h
     ·rename_i v σ' a2;have h2:=fX (k:=fun v'=>.get fun σ1=>k (dR fr x.2.dst v') sn ld ((x.1,σ.n,σ1.get σ.n)::al)) h;simp only[exec]at h2;exact .inr (.inr (.inr ⟨n0,g,v,σ',rfl,hg,rfl,a2,a5,h2⟩))
     ·cases h
 ·rename_i f args hg;obtain⟨he,h⟩:=fD h;have a4:dP x.2=false:=by
   cases a3:dP x.2 with
   |false=>rfl
   |true=>
    exfalso;unfold dP at a3;unfold bE at hg;split at a3
    ·rename_i a0;rw[a0]at hg;cases hg
    ·rename_i a0;rw[a0]at hg;cases hg
    ·rename_i a0;rw[a0]at hg;cases hg
    ·rename_i a0;rw[a0]at hg;cases hg
    ·rename_i t r a0;rw[a0]at hg;cases r with
     |none=>cases hg
     |some y=>simp only at hg;split at hg<;>cases hg
    ·cases a3
  have hl:mW P late.isSome x.2=true:=by unfold mW;rw[he,a4];cases late<;>rfl
  have key:∀sn',exec cf N (.call f args fun v=>jO P (xy P x.2) v fun v'=>behind x.1 bf ld al (k (dR fr x.2.dst v') sn' ld al)) σ=some res->
    ∃v σ',cf f args σ=some (v,σ')/\(∀r h v,(r,h,v)∈ld->unord bf r x.1=true->oV h v σ')/\(∀r b o,(r,b,o)∈al->unord bf r x.1=true->σ'.get b=o)/\exec cf N (k (dR fr x.2.dst v) sn' ld al) σ'=some res:=by
   intro sn' h;simp only[exec]at h;split at h
   ·rename_i v σ' a2;have h2:=fX (k:=fun v'=>behind x.1 bf ld al (k (dR fr x.2.dst v') sn' ld al)) h;obtain⟨h3,h4,h5⟩:=wO h2;exact⟨v,σ',a2,h3,h4,h5⟩
   ·cases h
  cases hs:iC P x.1 bf all with
  |true=>rw[hs]at h;simp only[cond_true]at h;unfold exec at h;obtain⟨v,σ',h1,h2,h3,h4⟩:=key _ h;exact .inr (.inr (.inl ⟨v,σ',.inr ⟨f,args,hg,h1⟩,hl,h2,h3,h4⟩))
  |false=>rw[hs]at h;simp only[cond_false]at h;obtain⟨v,σ',h1,h2,h3,h4⟩:=key _ h;exact .inr (.inr (.inl ⟨v,σ',.inr ⟨f,args,hg,h1⟩,hl,h2,h3,h4⟩))
inductive fC:aC->aC->Prop
 |refl (σ:aC):fC σ σ
 |push {σ τ:aC} (o:dV) (h:fC σ τ) (hf:τ.get τ.n=none):fC σ (τ.push o)
theorem fC.n_le{σ τ:aC}(h:fC σ τ):σ.n<=τ.n:=by
 induction h with
 |refl=>exact Nat.le_refl _
 |push o h hf ih=>simp only[aC.push_n];omega
theorem fC.old{σ τ:aC}(h:fC σ τ):τ.old=σ.old:=by
 induction h with
 |refl=>rfl
 |push o h hf ih=>simpa using ih
theorem fC.get{σ τ:aC}(h:fC σ τ){b:Nat}{o:dV}(hb:σ.get b=some o):τ.get b=some o:=by
 induction h with
 |refl=>exact hb
 | @push τ' o' h hf ih=>
  have a0:b≠τ'.n:=fun e=>by rw[e,hf]at ih;cases ih
  rw[aC.get_push,if_neg a0];exact ih
theorem fC.rel{ι:Inj}{W0 W:World}{σ τ:aC}(h:fC σ τ)(R:Rel ι W0 σ W):Rel ι W0 τ W:=by
 induction h with
 |refl=>exact R
 |push o _ _ ih=>exact ih.push o
theorem fC.rdN{σ τ:aC}(h:fC σ τ){a:Addr}{k:Nat}{vs:List Value}(hr:σ.rdN a k=some vs):τ.rdN a k=some vs:=by
 unfold aC.rdN at hr ⊢;split at hr
 ·rw[h.old];exact hr
 ·split at hr
  ·rename_i B hB;rw[h.get hB];exact hr
  ·cases hr
theorem fC.getMap{σ τ:aC}(h:fC σ τ){r:Nat}{es:List (Value×Value)}(hr:σ.getMap r=some es):τ.getMap r=some es:=by
 unfold aC.getMap at hr ⊢;split at hr
 ·rename_i es' hB;rw[h.get hB];exact hr
 ·rename_i es' hB;rw[h.get hB];exact hr
 ·cases hr
theorem xj{o:Oper}{fr:List Value}{h:Act}{σ τ:aC}{v:Value}(hp:fC σ τ)(hq:(mV P o).isQuiet=true)(ho:bE P o fr=.act h)(hh:oV h v σ):oV h v τ:=by
 obtain⟨σ',hh⟩:=hh;have hs:=sK hq ho hh;subst hs;unfold bE at ho;unfold mV at hq;cases a0:o.op with
 |load t x=>
  rw[a0]at ho;simp only at ho;split at ho
  ·simp at ho;subst ho;unfold ldAt at hh ⊢;split at hh
   ·cases hh
   ·rename_i d hd;cases a4:rY d with
    |true=>
     rw[a4]at hh;simp only[cond_true]at hh;split at hh
     ·rename_i cs a1;cases hh;refine⟨τ,?_⟩;simp only[cond_true,hp.rdN a1]
     ·cases hh
    |false=>
     rw[a4]at hh;simp only[cond_false]at hh;split at hh
     ·rename_i w l a1;cases hh;refine⟨τ,?_⟩;simp only[cond_false,hp.rdN a1]
     ·cases hh
  ·cases ho
 |lookup t m k ok=>
  rw[a0]at ho;simp at ho;subst ho;unfold nP at hh ⊢;split at hh
  ·rename_i kt et hd;split at hh
   ·rename_i kd z hk hz;cases a2:oN kd (ev P fr k)with
    |true=>
     rw[a2]at hh;simp only[cond_true]at hh;refine⟨τ,?_⟩;simp only[cond_true];cases hm:ev P fr m with
     |map r=>
      rw[hm]at hh;cases r with
      |none=>simp only at hh ⊢;cases hh;rfl
      |some r=>
       simp only at hh ⊢;cases hg:aC.getMap σ' r with
       |none=>rw[hg]at hh;cases hh
       |some es=>
        rw[hg]at hh;rw[hp.getMap hg];simp only[Option.map_some]at hh ⊢;cases hf:dK kd (ev P fr k) es with
        |none=>rw[hf]at hh;cases hh
        |some x=>
         rw[hf]at hh;cases x with
         |none=>cases hh;try rfl
         |some y=>cases hh;try rfl
     |_=>rw[hm]at hh;cases hh
    |false=>
     rw[a2]at hh;simp only[cond_false]at hh ⊢;cases a3:rQ P kt (ev P fr k)with
     |false=>rw[a3]at hh;cases hh
     |true=>
      rw[a3]at hh;simp only[cond_true]at hh;refine⟨τ,?_⟩;simp only[cond_true];cases hm:ev P fr m with
      |map r=>
       rw[hm]at hh;cases r with
       |none=>simp only at hh ⊢;cases hh;rfl
       |some r=>
        simp only at hh ⊢;cases hg:aC.getMap σ' r with
        |none=>rw[hg]at hh;cases hh
        |some es=>
         rw[hg]at hh;rw[hp.getMap hg];simp only[Option.map_some]at hh ⊢;cases hf:eQ (dS P kt) (ev P fr k) es with
         |none=>rw[hf]at hh;cases hh
         |some x=>
          rw[hf]at hh;cases x with
          |none=>cases hh;try rfl
          |some y=>cases hh;try rfl
      |_=>rw[hm]at hh;cases hh
   ·cases hh
  ·cases hh
 |convert src dst x=>
  rw[a0]at ho hq;simp only at ho hq;split at hq
  ·exact Bool.noConfusion (show false=true from hq)
  ·rename_i h1 h2;have:=conv_act (y:=ev P fr x) h1 h2 (h:=h) ho;subst this;unfold dB at hh ⊢;split at hh
   ·cases hh;exact⟨τ,rfl⟩
   ·split at hh
    ·rename_i cs a1;split at hh
     ·rename_i l hl;cases hh;refine⟨τ,?_⟩;simp only[hp.rdN a1,hl]
     ·cases hh
    ·cases hh
   ·cases hh
  ·exact Bool.noConfusion (show false=true from hq)
 |call c=>
  rw[a0]at ho hq;simp only at ho hq;cases hc:c.callee with
  |builtin b=>
   rw[hc]at ho hq;cases b with
   |len=>
    simp only at ho hq;rcases hl:c.args.toList.map (ev P fr)with _|⟨y,_|⟨z,l⟩⟩
    ·rw[hl]at ho;cases ho
    ·rw[hl]at ho;simp only[fG]at ho;cases hd:(c.argTypes[0]?).bind P.underlying with
     |none=>rw[hd]at ho;cases ho
     |some d=>
      rw[hd]at ho;simp only at ho;unfold qk at ho;split at ho<;>try (cases ho;done)
      cases ho;unfold nN at hh ⊢;split at hh
      ·cases hh;exact⟨τ,rfl⟩
      ·split at hh
       ·rename_i es hg;cases hh;refine⟨τ,?_⟩;simp only[hp.getMap hg]
       ·cases hh
    ·rw[hl]at ho;cases ho
   |_=>exact Bool.noConfusion (show false=true from hq)
  |value f=>rw[hc]at hq;exact Bool.noConfusion (show false=true from hq)
  |invoke r m=>rw[hc]at hq;exact Bool.noConfusion (show false=true from hq)
 |_=>rw[a0]at hq;exact Bool.noConfusion (show false=true from hq)
end
section
variable{P:Program}{cf:gO}{N:Nat}{res:(Ex×List Value)×aC}{ops:Array Oper}{bf:Array Nat}
structure Tc where
 F:Nat->List Value
 H:Nat->aC
 V:Nat->Value
 eff:Nat->Bool
 q:Nat->Option Act
 al:Nat->Bool
def OnT(ops:Array Oper)(o:Oper)(fr:List Value):Prop:=o.guard=none\/∃j w d,o.guard=some (j,w)/\dC ops j=some d/\getD fr d=.bool w
def OffT(ops:Array Oper)(o:Oper)(fr:List Value):Prop:=∃j w d,o.guard=some (j,w)/\dC ops j=some d/\((∃t,getD fr d=.tuple t)\/getD fr d=.bool (!w))
def DidT(P:Program)(cf:gO)(late:Bool)(T:Tc)(i:Nat)(o:Oper):Prop:=
 ((bE P o (T.F i)=.tot (T.V i)\/bE P o (T.F i)=.pure true (T.V i))/\T.H (i+1)=T.H i/\T.eff i=false/\T.q i=none/\T.al i=false)\/
 (∃h,bE P o (T.F i)=.act h/\(mV P o).isQuiet=true/\h (T.H i)=some (T.V i,T.H i)/\T.H (i+1)=T.H i/\T.eff i=false/\T.q i=some h/\T.al i=false)\/
 (((∃h,bE P o (T.F i)=.act h/\h (T.H i)=some (T.V i,T.H (i+1)))\/(∃f args,bE P o (T.F i)=.call f args/\cf f args (T.H i)=some (T.V i,T.H (i+1))))/\mW P late o=true/\T.eff i=true/\T.q i=none/\T.al i=false)\/
 (∃h,bE P o (T.F i)=.act h/\dP o=true/\h (T.H i)=some (T.V i,T.H (i+1))/\T.eff i=false/\T.q i=none/\T.al i=true/\late=true)
def mA(P:Program)(cf:gO)(ops:Array Oper)(late:Bool)(T:Tc)(i:Nat)(o:Oper):Prop:=
 T.F (i+1)=dR (T.F i) o.dst (T.V i)/\((OffT ops o (T.F i)/\T.V i=undef'/\T.H (i+1)=T.H i/\T.eff i=false/\T.q i=none/\T.al i=false)\/(OnT ops o (T.F i)/\DidT P cf late T i o))
structure pW(P:Program)(cf:gO)(ops:Array Oper)(bf:Array Nat)(late:Option Nat)(T:Tc)(xs:List IOp)(m:Nat)(sn:List (Nat×aC))(ld:List (Nat×Act×Value))(al:List sJ):Prop where
 step:∀(t:Nat) x,xs[t]?=some x->mA P cf ops late.isSome T (m+t) x.2
 past:∀(t:Nat) h,t<xs.length->T.q (m+t)=some h->∀e σ,(e,σ)∈sn->unord bf e (m+t)=true->oV h (T.V (m+t)) σ
 back:∀(t:Nat) h (e:Nat),t<xs.length->e<t->T.q (m+t)=some h->T.eff (m+e)=true->unord bf (m+e) (m+t)=true->oV h (T.V (m+t)) (T.H (m+e))
 ahead:∀(t:Nat) h (e:Nat),e<xs.length->t<e->T.q (m+t)=some h->T.eff (m+e)=true->unord bf (m+t) (m+e)=true->oV h (T.V (m+t)) (T.H (m+e+1))
 loads:∀r h v,(r,h,v)∈ld->∀e,e<xs.length->T.eff (m+e)=true->unord bf r (m+e)=true->oV h v (T.H (m+e+1))
 intact:∀(t e:Nat),e<xs.length->t<e->T.al (m+t)=true->T.eff (m+e)=true->unord bf (m+t) (m+e)=true->(T.H (m+e+1)).get (T.H (m+t)).n=(T.H (m+t+1)).get (T.H (m+t)).n
 objs:∀r b o,(r,b,o)∈al->∀e,e<xs.length->T.eff (m+e)=true->unord bf r (m+e)=true->(T.H (m+e+1)).get b=o
 news:∀t,t<xs.length->T.al (m+t)=true->(∀n0,late=some n0->n0<=(T.H (m+t)).n)/\(T.H (m+t)).get (T.H (m+t)).n=none/\∀x∈al,x.2.1≠(T.H (m+t)).n
 apart:∀(t u:Nat),u<xs.length->t<u->T.al (m+t)=true->T.al (m+u)=true->(T.H (m+t)).n≠(T.H (m+u)).n
def Tc.cons(m:Nat)(fr:List Value)(σ:aC)(v:Value)(eff:Bool)(q:Option Act)(al:Bool)(T:Tc):Tc where
 F i:=if i=m then fr else T.F i
 H i:=if i=m then σ else T.H i
 V i:=if i=m then v else T.V i
 eff i:=if i=m then eff else T.eff i
 q i:=if i=m then q else T.q i
 al i:=if i=m then al else T.al i
theorem newOk_parts{n0:Nat}{σ:aC}{al:List sJ}(h:newOk n0 σ al=true):n0<=σ.n/\σ.get σ.n=none/\∀x∈al,x.2.1≠σ.n:=by
 unfold newOk mH at h;simp only[Bool.and_eq_true,Nat.ble_eq,List.all_eq_true,List.mem_map,Bool.not_eq_true',forall_exists_index,and_imp,forall_apply_eq_imp_iff₂]at h;obtain⟨⟨h1,h2⟩,h3⟩:=h;refine⟨h1,?_,fun x hx e=>?_⟩
 ·cases hg:σ.get σ.n with
  |none=>rfl
  |some o=>rw[hg]at h2;cases h2
 ·have:=h3 x hx;rw[e]at this;simp at this
theorem lT{late:Option Nat}{T:Tc}{x:IOp}{xs:List IOp}{m:Nat}{fr:List Value}{σ:aC}{v:Value}{eff alv:Bool}{q:Option Act}{sn sn':List (Nat×aC)}{ld ld':List (Nat×Act×Value)}{al al':List sJ}{all:List IOp}
  (h:pW P cf ops bf late T xs (m+1) sn' ld' al') (hF:T.F (m+1)=dR fr x.2.dst v)
  (hs:(OffT ops x.2 fr/\v=undef'/\T.H (m+1)=σ/\eff=false/\q=none/\alv=false)\/(OnT ops x.2 fr/\
   (((bE P x.2 fr=.tot v\/bE P x.2 fr=.pure true v)/\T.H (m+1)=σ/\eff=false/\q=none/\alv=false)\/
   (∃h,bE P x.2 fr=.act h/\(mV P x.2).isQuiet=true/\h σ=some (v,σ)/\T.H (m+1)=σ/\eff=false/\q=some h/\alv=false)\/
   (((∃h,bE P x.2 fr=.act h/\h σ=some (v,T.H (m+1)))\/(∃f args,bE P x.2 fr=.call f args/\cf f args σ=some (v,T.H (m+1))))/\mW P late.isSome x.2=true/\eff=true/\q=none/\alv=false)\/
   (∃h,bE P x.2 fr=.act h/\dP x.2=true/\h σ=some (v,T.H (m+1))/\eff=false/\q=none/\alv=true/\late.isSome=true))))
  (a9:∀x∈xs,x∈all) (hc:iJ xs (m+1))
  (b3:∀p,p∈sn->p∈sn') (a5:eff=true->iC P m bf all=true->(m,σ)∈sn')
  (b5:∀p,p∈ld->p∈ld') (a7:∀g,q=some g->(m,g,v)∈ld')
  (a1:∀g,q=some g->∀e σ,(e,σ)∈sn->unord bf e m=true->oV g v σ)
  (a8:eff=true->∀r g u,(r,g,u)∈ld->unord bf r m=true->oV g u (T.H (m+1)))
  (b1:∀p,p∈al->p∈al') (a3:alv=true->(m,σ.n,(T.H (m+1)).get σ.n)∈al')
  (a6:alv=true->(∀n0,late=some n0->n0<=σ.n)/\σ.get σ.n=none/\∀x∈al,x.2.1≠σ.n)
  (a2:eff=true->∀r b o,(r,b,o)∈al->unord bf r m=true->(T.H (m+1)).get b=o):
  pW P cf ops bf late (Tc.cons m fr σ v eff q alv T) (x::xs) m sn ld al:=by
 have sh:∀t:Nat,m+(t+1)=m+1+t:=fun t=>by omega
 have n0:∀t:Nat,¬(m+1+t=m):=fun t=>by omega
 have n1:∀t:Nat,¬(m+1+t+1=m):=fun t=>by omega
 have n2:¬(m+1=m):=by omega
 constructor
 ·intro t y hy;cases t with
  |zero=>simp only[List.getElem?_cons_zero,Option.some.injEq]at hy;subst hy;unfold mA DidT;simp only[Tc.cons,Nat.add_zero,if_true,if_neg n2];exact⟨hF,hs⟩
  |succ t=>rw[sh];have:=h.step t y (by simpa using hy);unfold mA DidT at this ⊢;simpa only[Tc.cons,if_neg (n0 t),if_neg (n1 t)]using this
 ·intro t g ht hq e s hm hu;cases t with
  |zero=>simp only[Tc.cons,Nat.add_zero,if_true]at hq ⊢;exact a1 g hq e s hm hu
  |succ t=>rw[sh]at hq hu ⊢;simp only[Tc.cons,if_neg (n0 t)]at hq ⊢;exact h.past t g (by simpa using ht) hq e s (b3 _ hm) hu
 ·intro t g e ht b0 hq he hu;cases t with
  |zero=>omega
  |succ t=>
   rw[sh]at hq hu ⊢;simp only[Tc.cons,if_neg (n0 t)]at hq ⊢;cases e with
   |zero=>
    simp only[Nat.add_zero]at hu ⊢;simp only[Tc.cons,Nat.add_zero,if_true]at he ⊢;have a4:t<xs.length:=by simpa using ht
    refine h.past t g a4 hq m σ (a5 he ?_) hu;unfold iC;rw[List.any_eq_true];refine⟨xs[t],a9 _ (List.getElem_mem a4),?_⟩;have hx:(xs[t]).1=m+1+t:=hc t _ (List.getElem?_eq_getElem a4);have b2:=h.step t xs[t] (List.getElem?_eq_getElem a4);have b4:(mV P (xs[t]).2).isQuiet=true:=by
     rcases b2.2 with⟨_,_,_,_,hn,_⟩|⟨_,⟨_,_,_,hn,_⟩|⟨g',_,hh,_⟩|⟨_,_,_,hn,_⟩|⟨_,_,_,_,_,hn,_⟩⟩
     ·rw[hq]at hn;cases hn
     ·rw[hq]at hn;cases hn
     ·exact hh
     ·rw[hq]at hn;cases hn
     ·rw[hq]at hn;cases hn
    rw[hx,b4,hu];simp;omega
   |succ e=>rw[sh e]at he hu ⊢;simp only[if_neg (n0 e)]at ⊢;simp only[Tc.cons,if_neg (n0 e)]at he;exact h.back t g e (by simpa using ht) (by omega) hq he hu
 ·intro t g e a0 b0 hq he hu;cases e with
  |zero=>omega
  |succ e=>
   rw[sh]at he hu ⊢;simp only[Tc.cons,if_neg (n0 e),if_neg (n1 e)]at he ⊢;cases t with
   |zero=>simp only[Nat.add_zero,if_true]at hq hu ⊢;simp only[Tc.cons,if_true]at hq;exact h.loads m g v (a7 g hq) e (by simpa using a0) he hu
   |succ t=>rw[sh]at hq hu ⊢;simp only[Tc.cons,if_neg (n0 t)]at hq ⊢;exact h.ahead t g e (by simpa using a0) (by omega) hq he hu
 ·intro r g u hm e a0 he hu;cases e with
  |zero=>simp only[Nat.add_zero]at hu ⊢;simp only[Tc.cons,Nat.add_zero,if_true,if_neg n2]at he ⊢;exact a8 he r g u hm hu
  |succ e=>rw[sh]at he hu ⊢;simp only[Tc.cons,if_neg (n0 e),if_neg (n1 e)]at he ⊢;exact h.loads r g u (b5 _ hm) e (by simpa using a0) he hu
 ·intro t e a0 b0 ha he hu;cases e with
  |zero=>omega
  |succ e=>
   rw[sh e]at he hu ⊢;simp only[Tc.cons,if_neg (n0 e)]at he;cases t with
   |zero=>simp only[Nat.add_zero]at ha hu ⊢;simp only[Tc.cons,if_true]at ha;simp only[Tc.cons,if_true,if_neg (n1 e),if_neg n2];exact h.objs m _ _ (a3 ha) e (by simpa using a0) he hu
   |succ t=>rw[sh t]at ha hu ⊢;simp only[Tc.cons,if_neg (n0 t)]at ha;simp only[Tc.cons,if_neg (n0 t),if_neg (n1 t),if_neg (n1 e)];exact h.intact t e (by simpa using a0) (by omega) ha he hu
 ·intro r b o hm e a0 he hu;cases e with
  |zero=>simp only[Nat.add_zero]at hu ⊢;simp only[Tc.cons,Nat.add_zero,if_true,if_neg n2]at he ⊢;exact a2 he r b o hm hu
  |succ e=>rw[sh]at he hu ⊢;simp only[Tc.cons,if_neg (n0 e),if_neg (n1 e)]at he ⊢;exact h.objs r b o (b1 _ hm) e (by simpa using a0) he hu
 ·intro t ht ha;cases t with
  |zero=>simp only[Tc.cons,Nat.add_zero,if_true]at ha ⊢;exact a6 ha
  |succ t=>rw[sh t]at ha ⊢;simp only[Tc.cons,if_neg (n0 t)]at ha ⊢;obtain⟨g1,g2,g3⟩:=h.news t (by simpa using ht) ha;exact⟨g1,g2,fun x hx=>g3 x (b1 x hx)⟩
 ·intro t u hu b6 ha hb;cases u with
  |zero=>omega
  |succ u=>
   rw[sh u]at hb ⊢;simp only[Tc.cons,if_neg (n0 u)]at hb;cases t with
   |zero=>simp only[Nat.add_zero]at ha ⊢;simp only[Tc.cons,if_true]at ha;simp only[Tc.cons,if_true,if_neg (n0 u)];exact(h.news u (by simpa using hu) hb).2.2 _ (a3 ha)
   |succ t=>rw[sh t]at ha ⊢;simp only[Tc.cons,if_neg (n0 t)]at ha;simp only[Tc.cons,if_neg (n0 t),if_neg (n0 u)];exact h.apart t u (by simpa using hu) (by omega) ha hb
theorem kD{late:Option Nat}{all:List IOp}{k:List Value->Pg}:∀(xs:List IOp) (m:Nat) (fr:List Value) (sn:List (Nat×aC)) (ld:List (Nat×Act×Value)) (al:List sJ) (σ:aC),iJ xs m->(∀x∈xs,x∈all)->
  exec cf N (eA P late bf ops all xs fr sn ld al k) σ=some res->∃T:Tc,T.F m=fr/\T.H m=σ/\exec cf N (k (T.F (m+xs.length))) (T.H (m+xs.length))=some res/\pW P cf ops bf late T xs m sn ld al
 |[],m,fr,sn,ld,al,σ,_,_,h=>by refine⟨⟨fun _=>fr,fun _=>σ,fun _=>undef',fun _=>false,fun _=>none,fun _=>false⟩,rfl,rfl,h,?_⟩;exact⟨fun t x hx=>by simp at hx,fun t h ht=>by simp at ht,fun t h e ht=>by simp at ht,fun t h e he=>by simp at he,fun r h v _ e he=>by simp at he,fun t e he=>by simp at he,fun r b o _ e he=>by simp at he,fun t ht=>by simp at ht,fun t u hu=>by simp at hu⟩
 |x::xs,m,fr,sn,ld,al,σ,hc,ha,h=>by
  have a3:x.1=m:=hc 0 x rfl;have a0:∀y∈xs,y∈all:=fun y hy=>ha y (by simp[hy]);have len:∀(v:Value) (eff:Bool) (q:Option Act) (a:Bool) (T:Tc),(Tc.cons m fr σ v eff q a T).F (m+(x::xs).length)=T.F (m+1+xs.length)/\(Tc.cons m fr σ v eff q a T).H (m+(x::xs).length)=T.H (m+1+xs.length)/\(Tc.cons m fr σ v eff q a T).F m=fr/\(Tc.cons m fr σ v eff q a T).H m=σ:=by
   intro v eff q a T;have e:m+(x::xs).length=m+1+xs.length:=by simp;omega
   rw[e];have n:¬(m+1+xs.length=m):=by omega
   simp[Tc.cons,n]
  have step:OnT ops x.2 fr->exec cf N (uC P late bf all x fr sn ld al fun fr sn ld al=>eA P late bf ops all xs fr sn ld al k) σ=some res->∃T:Tc,T.F m=fr/\T.H m=σ/\exec cf N (k (T.F (m+(x::xs).length))) (T.H (m+(x::xs).length))=some res/\pW P cf ops bf late T (x::xs) m sn ld al:=by
   intro a4 h;rcases compOpD_exec h with⟨v,hv,h2⟩|⟨g,v,hg,hq,a7,a2,h2⟩|⟨v,σ',hv,he,a2,a9,h2⟩|⟨n0,g,v,σ',a1,hg,b1,a7,b0,h2⟩
   ·obtain⟨T,t1,t2,t3,t4⟩:=kD xs (m+1) _ sn ld al σ hc.tail a0 h2;obtain⟨l1,l2,l3,l4⟩:=len v false none false T;refine⟨Tc.cons m fr σ v false none false T,l3,l4,by rw[l1,l2];exact t3,?_⟩;exact lT t4 t1 (.inr ⟨a4,.inl ⟨hv,t2,rfl,rfl,rfl⟩⟩) a0 hc.tail (fun _ h=>h) nofun (fun _ h=>h) nofun nofun nofun (fun _ h=>h) nofun nofun nofun
   ·obtain⟨T,t1,t2,t3,t4⟩:=kD xs (m+1) _ sn _ al σ hc.tail a0 h2;obtain⟨l1,l2,l3,l4⟩:=len v false (some g) false T;refine⟨Tc.cons m fr σ v false (some g) false T,l3,l4,by rw[l1,l2];exact t3,?_⟩;refine lT t4 t1 (.inr ⟨a4,.inr (.inl ⟨g,hg,hq,a7,t2,rfl,rfl,rfl⟩)⟩) a0 hc.tail (fun _ h=>h) nofun (fun _ h=>by simp[h]) ?_ ?_ nofun (fun _ h=>h) nofun nofun nofun
    ·intro g' e;cases e;rw[a3];simp
    ·intro g' e e2 s hm hu;cases e;rw[a3]at a2;exact nZ a2 e2 s hm hu
   ·obtain⟨T,t1,t2,t3,t4⟩:=kD xs (m+1) _ _ ld al σ' hc.tail a0 h2;obtain⟨l1,l2,l3,l4⟩:=len v true none false T;refine⟨Tc.cons m fr σ v true none false T,l3,l4,by rw[l1,l2];exact t3,?_⟩;rw[a3]at t4 a2 a9;refine lT t4 t1 (.inr ⟨a4,.inr (.inr (.inl ⟨by rw[t2];exact hv,he,rfl,rfl,rfl⟩))⟩) a0 hc.tail ?_ ?_ (fun _ h=>h) nofun nofun ?_ (fun _ h=>h) nofun nofun ?_
    ·intro p hp;cases iC P m bf all<;>simp[hp]
    ·intro _ hs;rw[hs];simp
    ·intro _;rw[t2];exact a2
    ·intro _;rw[t2];exact a9
   ·obtain⟨T,t1,t2,t3,t4⟩:=kD xs (m+1) _ sn ld _ σ' hc.tail a0 h2;obtain⟨l1,l2,l3,l4⟩:=len v false none true T;refine⟨Tc.cons m fr σ v false none true T,l3,l4,by rw[l1,l2];exact t3,?_⟩;rw[a3]at t4;obtain⟨o1,o2,o3⟩:=newOk_parts b0;refine lT t4 t1 (.inr ⟨a4,.inr (.inr (.inr ⟨g,hg,b1,by rw[t2];exact a7,rfl,rfl,rfl,by rw[a1];rfl⟩))⟩) a0 hc.tail (fun _ h=>h) nofun (fun _ h=>h) nofun nofun nofun (fun _ h=>by simp[h]) ?_ ?_ nofun
    ·intro _;rw[t2];simp
    ·intro _;refine⟨fun n1 e=>?_,o2,o3⟩;rw[a1]at e;cases e;exact o1
  have off:OffT ops x.2 fr->exec cf N (eA P late bf ops all xs (dR fr x.2.dst undef') sn ld al k) σ=some res->∃T:Tc,T.F m=fr/\T.H m=σ/\exec cf N (k (T.F (m+(x::xs).length))) (T.H (m+(x::xs).length))=some res/\pW P cf ops bf late T (x::xs) m sn ld al:=by intro a6 h;obtain⟨T,t1,t2,t3,t4⟩:=kD xs (m+1) _ sn ld al σ hc.tail a0 h;obtain⟨l1,l2,l3,l4⟩:=len undef' false none false T;refine⟨Tc.cons m fr σ undef' false none false T,l3,l4,by rw[l1,l2];exact t3,?_⟩;exact lT t4 t1 (.inl ⟨a6,rfl,t2,rfl,rfl,rfl⟩) a0 hc.tail (fun _ h=>h) nofun (fun _ h=>h) nofun nofun nofun (fun _ h=>h) nofun nofun nofun
  unfold eA at h;cases hg:x.2.guard with
  |none=>rw[hg]at h;exact step (.inl hg) h
  |some g=>
   obtain⟨j,w⟩:=g;rw[hg]at h;simp only at h;split at h
   ·cases h
   ·rename_i d hd;split at h
    ·rename_i t ht;exact off ⟨j,w,d,hg,hd,.inl ⟨t,ht⟩⟩ h
    ·rename_i b hb;cases a5:b==w with
     |true=>rw[a5]at h;simp only[cond_true]at h;simp only[beq_iff_eq]at a5;subst a5;rw[nR fr d _ hb nofun]at h;exact step (.inr ⟨j,b,d,hg,hd,hb⟩) h
     |false=>
      rw[a5]at h;simp only[cond_false]at h;have a8:b=!w:=by cases b<;>cases w<;>simp_all
      subst a8;rw[nR fr d _ hb nofun]at h;exact off ⟨j,w,d,hg,hd,.inr hb⟩ h
    ·cases h
end
section
variable{P:Program}{cf:gO}{N:Nat}{res:(Ex×List Value)×aC}{ops:Array Oper}
theorem opSem_congr{o:Oper}{fr fr':List Value}(h:∀t,t∈kL ops o->getD fr t=getD fr' t):bE P o fr=bE P o fr':=by
 have hE:∀x,x∈o.op.operands->ev P fr x=ev P fr' x:=by
  intro x hx;cases x with
  |tmp t=>refine h t ?_;unfold kL;refine List.mem_append_left _ (List.mem_filterMap.2 ⟨.tmp t,by simpa using hx,rfl⟩)
  |_=>rfl
 have pairs:∀ps:Array (Nat×Operand),(∀x∈ps.toList.map (·.2),ev P fr x=ev P fr' x)->
   (ps.toList.map fun p=>(p.1,ev P fr p.2))=(ps.toList.map fun p=>(p.1,ev P fr' p.2)):=fun ps hp=>
  List.map_congr_left fun p hm=>by
   obtain⟨i,x⟩:=p;simp only[hp x (List.mem_map.2 ⟨(i,x),hm,rfl⟩)]
 unfold bE;cases a1:o.op<;>rw[a1]at hE<;>simp only[Op.operands]at hE
 case build t ps=>simp only[pairs ps fun x hx=>hE x (by simpa using hx)]
 case buildSlice t n ps=>simp only[pairs ps fun x hx=>hE x (by simpa using hx)]
 case makeFunc fn first captured=>cases fn<;>simp only;simp only[Array.map_congr_left (xs:=first) fun x hx=>hE x (by simp[hx]),Array.map_congr_left (xs:=captured) fun x hx=>hE x (by simp[hx])]
 case call c=>
  have a0:c.args.toList.map (ev P fr)=c.args.toList.map (ev P fr'):=List.map_congr_left fun x hx=>hE x (by simp only[Call.operands];simp at hx;simp[hx]);simp only[a0];cases hc:c.callee with
  |value f=>have hf:ev P fr f=ev P fr' f:=hE f (by simp[Call.operands,hc]);simp only[hf]
  |_=>rfl
 case makeMap t r=>cases r<;>simp_all
 case slice t x lo hi mx=>cases lo<;>cases hi<;>cases mx<;>simp_all
 all_goals (first|rfl|(simp_all;done))
def mL(L:List Nat):Nat->List Value->List Value
 |_,[]=>[]
 |i,v::r=>(bif uB i L then v else top)::mL L (i+1) r
theorem tP(L:List Nat):∀(i:Nat) (l:List Value),(mL L i l).length=l.length
 |_,[]=>rfl
 |i,v::r=>by simp[mL,tP L (i+1) r]
theorem wA(L:List Nat):∀(i:Nat) (l:List Value) (t:Nat),getD (mL L i l) t=if t<l.length then(bif uB (i+t) L then getD l t else top) else .tuple #[]
 |i,[],t=>by simp[mL,getD_nil]
 |i,v::r,0=>by simp[mL,getD]
 |i,v::r,t+1=>by simp only[mL,getD];rw[wA L (i+1) r t];simp[show i+1+t=i+(t+1) by omega]
theorem qE{x:Nat}{L:List Nat}:uB x L=true↔x∈L:=by
 unfold uB;rw[List.any_eq_true];constructor
 ·rintro⟨y,hy,e⟩;rw[Nat.eq_of_beq_eq_true e];exact hy
 ·intro h;exact⟨x,h,Nat.beq_refl x⟩
theorem getD_ge{l:List Value}{t:Nat}(h:¬t<l.length):getD l t=.tuple #[]:=by rw[qY];simp at h;simp[h]
theorem mask_FR{ι:Inj}{B:Nat}{L:List Nat}{fr:List Value}{ts:Array Value}(hl:fr.length=ts.size)(h:∀t,t∈L->VR ι B (getD fr t) (ts.getD t Go.undef)):FR ι B (mL L 0 fr) ts:=by
 refine⟨by rw[tP];exact hl,fun t=>?_⟩;rw[wA];by_cases ht:t<fr.length
 ·rw[if_pos ht];cases hm:uB (0+t) L with
  |true=>simp only[cond_true];exact h t (by simpa using qE.1 hm)
  |false=>exact .top _
 ·rw[if_neg ht];have:ts.getD t Go.undef=Go.undef:=by
   have:¬t<ts.size:=by omega
   simp[Array.getD,this]
  rw[this];exact VR.undef
theorem qs{L:List Nat}{fr:List Value}{t:Nat}(h:t∈L):getD (mL L 0 fr) t=getD fr t:=by
 rw[wA];by_cases ht:t<fr.length
 ·rw[if_pos ht,show uB (0+t) L=true from by rw[Nat.zero_add];exact qE.2 h];try rfl
 ·rw[if_neg ht,getD_ge ht]
theorem yh{ι:Inj}{W0 W:World}{σ:aC}{o:Oper}{fr:List Value}{a:Go.Act}{next:Go.Act->World->Prop}{Q:Exit->Go.Act->World->Prop}{v:Value}{σ':aC}(hG:P.globals.size<=W0.heap.size)(a3:zI P W0 cf)(R:Rel ι W0 σ W)(r:FR ι W0.heap.size fr a.tmps)
  (h:(σ'=σ/\(bE P o fr=.tot v\/bE P o fr=.pure true v))\/(∃h,bE P o fr=.act h/\h σ=some (v,σ'))\/(∃f args,bE P o fr=.call f args/\cf f args σ=some (v,σ')))
  (hn:∀κ v' W1,ι.le κ->Rel κ W0 σ' W1->VR κ W0.heap.size v v'->next (a.put o.dst v') W1):o.wp P a W next Q:=by
 unfold Oper.wp;rcases h with⟨rfl,h⟩|⟨g,h1,h2⟩|⟨f,args,h1,h2⟩
 ·obtain⟨v',hv,a0⟩:=xm (W:=W) hG r h;rw[a0,Oper.upon_value];exact hn ι _ _ ι.le_refl R hv
 ·obtain⟨κ,W',nx,v',a2,R',a0,ho,hv⟩:=op_act hG R r h1 h2;rw[a0];cases nx with
  |value x=>simp only[outV,Option.some.injEq]at ho;subst ho;rw[Oper.upon_value];exact hn κ _ _ a2 R' hv
  |skip=>simp only[outV,Option.some.injEq]at ho;subst ho;rw[Oper.upon_skip];exact hn κ _ _ a2 R' hv
  |_=>simp[outV]at ho
 ·obtain⟨args',hA,a0⟩:=op_call (W:=W) hG r h1;obtain⟨hc,a1⟩:=a3 f args σ v σ' h2 ι W args' R hA;rw[a0,hc,Oper.upon_enter];refine a1.mono fun e w' he=>?_;obtain⟨v',κ,rfl,a2,hv,R'⟩:=he;exact hn κ _ _ a2 R' hv
def tE(ops:Array Oper)(S:Nat->Prop):Prop:=∀j o,ops[j]?=some o->S j->∀e∈o.after,Region.binds .any e=true->S e.on
theorem ul{A:Nat->Nat}{i:Nat}:∀(l:List Edge) (s0:Nat),(l.foldl (fun s e=>if Region.binds .any e then s ||| 2^e.on ||| A e.on else s) s0).testBit i=true->
  s0.testBit i=true\/∃e∈l,Region.binds .any e=true/\(i=e.on\/(A e.on).testBit i=true)
 |[],s0,h=>.inl h
 |e::l,s0,h=>by
  simp only[List.foldl_cons]at h;rcases ul l _ h with h|⟨e',h1,h2⟩
  ·cases hb:Region.binds .any e with
   |true=>
    rw[if_pos hb]at h;simp only[Nat.testBit_or,Bool.or_eq_true,Nat.testBit_two_pow,decide_eq_true_eq]at h;rcases h with(h|h)|h
    ·exact .inl h
    ·exact .inr ⟨e,by simp,hb,.inl h.symm⟩
    ·exact .inr ⟨e,by simp,hb,.inr h⟩
   |false=>rw[if_neg (by simp[hb])]at h;exact .inl h
  ·exact .inr ⟨e',by simp[h1],h2⟩
theorem before_anc{S:Nat->Prop}(hS:tE ops S){i j:Nat}(h:((Region.before ops).getD j 0).testBit i=true):∀o,ops[j]?=some o->(∀e∈o.after,Region.binds .any e=true->S e.on)->S i:=by
 have key:∀(l:List Oper) (acc:Array Nat),(∀t o,l[t]?=some o->ops[acc.size+t]?=some o)->
   (∀j i,(acc.getD j 0).testBit i=true->∀o,ops[j]?=some o->(∀e∈o.after,Region.binds .any e=true->S e.on)->S i)->
   ∀j i,((l.foldl (fun acc o=>acc.push (o.after.foldl (fun s e=>if Region.binds .any e then s ||| 2^e.on ||| acc.getD e.on 0 else s) 0)) acc).getD j 0).testBit i=true->∀o,ops[j]?=some o->(∀e∈o.after,Region.binds .any e=true->S e.on)->S i:=by
  intro l;induction l with
  |nil=>intro acc _ h;exact h
  |cons o l ih=>
   intro acc hl a3;simp only[List.foldl_cons];refine ih _ ?_ ?_
   ·intro t o' a1;have:=hl (t+1) o' (by simpa using a1);rw[Array.size_push,show acc.size+1+t=acc.size+(t+1) by omega];exact this
   ·intro j i hb o' a1 a0;by_cases hj:j=acc.size
    ·subst hj;have ho:=hl 0 o rfl;rw[Nat.add_zero]at ho;rw[ho]at a1;cases a1;have e1:(acc.push (o.after.foldl (fun s e=>if Region.binds .any e then s ||| 2^e.on ||| acc.getD e.on 0 else s) 0)).getD acc.size 0=o.after.foldl (fun s e=>if Region.binds .any e then s ||| 2^e.on ||| acc.getD e.on 0 else s) 0:=by simp
     rw[e1,<-Array.foldl_toList]at hb;rcases ul (A:=fun k=>acc.getD k 0) _ _ hb with h0|⟨e,he,a2,h1⟩
     ·simp at h0
     ·have hm:e∈o.after:=by simpa using he
      have a5:=a0 e hm a2;rcases h1 with rfl|h1
      ·exact a5
      ·have a6:e.on<acc.size:=by
        rcases Nat.lt_or_ge e.on acc.size with h'|h'
        ·exact h'
        ·rw[show acc.getD e.on 0=0 by simp[h']]at h1;simp at h1
       cases a4:ops[e.on]? with
       |none=>rw[Array.getElem?_eq_none_iff]at a4;have:=(Array.getElem?_eq_some_iff.1 ho).1;omega
       |some oe=>exact a3 e.on i h1 oe a4 (hS e.on oe a4 a5)
    ·have e1:(acc.push (o.after.foldl (fun s e=>if Region.binds .any e then s ||| 2^e.on ||| acc.getD e.on 0 else s) 0)).getD j 0=acc.getD j 0:=by simp only[Array.getD_eq_getD_getElem?,Array.getElem?_push];rw[if_neg hj]
     rw[e1]at hb;exact a3 j i hb o' a1 a0
 intro o ho a0;unfold Region.before at h;rw[<-Array.foldl_toList]at h;refine key ops.toList #[] ?_ ?_ j i h o ho a0
 ·intro t o' a1;simpa using a1
 ·intro j i hb;simp at hb
theorem unord_symm{bf:Array Nat}{i j:Nat}(h:i≠j):unord bf i j=unord bf j i:=by
 unfold unord;rcases Nat.lt_or_gt_of_ne h with h|h
 ·have h1:Nat.blt i j=true:=by simp;omega
  have h2:Nat.blt j i=false:=by rw[Bool.eq_false_iff];simp;omega
  rw[h1,h2];try rfl
 ·have h1:Nat.blt j i=true:=by simp;omega
  have h2:Nat.blt i j=false:=by rw[Bool.eq_false_iff];simp;omega
  rw[h1,h2];try rfl
theorem anc{S:Nat->Prop}(hS:tE ops S){i j:Nat}(h:unord (Region.before ops) i j=false)(a0:i<j){o:Oper}(ho:ops[j]?=some o)(hd:∀e∈o.after,Region.binds .any e=true->S e.on):S i:=by refine before_anc hS ?_ o ho hd;unfold unord at h;rw[show Nat.blt i j=true by simp;omega]at h;simpa using h
theorem anc'{S:Nat->Prop}(hS:tE ops S){i j:Nat}(h:unord (Region.before ops) i j=false)(a0:i<j){o:Oper}(ho:ops[j]?=some o)(hj:S j):S i:=anc hS h a0 ho (hS j o ho hj)
end
section
variable{P:Program}{cf:gO}{N:Nat}{res:(Ex×List Value)×aC}{ops:Array Oper}
def SL(listed:Array Bool):Nat->Prop:=fun j=>listed.getD j false=true
theorem vP{listed:Array Bool}{k j:Nat}(hk:k<listed.size):SL (listed.setIfInBounds k true) j↔(j=k\/SL listed j):=by
 unfold SL;simp only[Array.getD_eq_getD_getElem?,Array.getElem?_setIfInBounds];by_cases h:k=j
 ·subst h;simp[hk]
 ·rw[if_neg h];constructor
  ·exact .inr
  ·rintro(e|e)
   ·exact absurd e.symm h
   ·exact e
theorem SL_not{listed:Array Bool}{j:Nat}(h:listed.getD j true=false):¬SL listed j/\j<listed.size:=by
 unfold SL;by_cases hj:j<listed.size
 ·simp[hj]at h ⊢;exact h
 ·simp[hj]at h
theorem SL_of_not{listed:Array Bool}{j:Nat}(hj:j<listed.size)(h:¬SL listed j):listed.getD j true=false:=by unfold SL at h;simp[hj]at h ⊢;exact h
def tB(listed:Array Bool):List Nat->Nat
 |[]=>0
 |j::r=>(if listed.getD j true=true then 0 else 1)+tB listed r
theorem cntU_le{listed:Array Bool}{k:Nat}:∀l:List Nat,tB (listed.setIfInBounds k true) l<=tB listed l
 |[]=>Nat.le_refl _
 |j::r=>by
  have ih:=cntU_le (listed:=listed) (k:=k) r;unfold tB;by_cases hk:k=j
  ·subst hk;have:(listed.setIfInBounds k true).getD k true=true:=by
    simp only[Array.getD_eq_getD_getElem?,Array.getElem?_setIfInBounds];split<;>rename_i h
    ·split<;>rfl
    ·exact absurd trivial h
   rw[if_pos this];omega
  ·rw[getD_set_ne true hk];omega
theorem cntU_lt{listed:Array Bool}{k:Nat}(hk:listed.getD k true=false):∀l:List Nat,k∈l->tB (listed.setIfInBounds k true) l+1<=tB listed l
 |[],h=>by cases h
 |j::r,h=>by
  have ih2:=cntU_le (listed:=listed) (k:=k) r;by_cases hj:k=j
  ·subst hj;unfold tB;have:(listed.setIfInBounds k true).getD k true=true:=by
    simp only[Array.getD_eq_getD_getElem?,Array.getElem?_setIfInBounds];split<;>rename_i h
    ·split<;>rfl
    ·exact absurd trivial h
   rw[if_pos this,if_neg (by rw[hk];decide)];omega
  ·have ih:=cntU_lt hk r (by simpa[hj]using h);unfold tB;rw[getD_set_ne true hj];omega
theorem qi{listed:Array Bool}:∀l:List Nat,tB listed l=0->∀j,j∈l->listed.getD j true=true
 |[],_,j,h=>by cases h
 |i::r,hc,j,h=>by
  unfold tB at hc;rcases List.mem_cons.1 h with rfl|h
  ·by_cases e:listed.getD j true=true
   ·exact e
   ·rw[if_neg e]at hc;omega
  ·exact qi r (by omega) j h
theorem slots_of{bf:Array Nat}(h:cO bf ops (aY ops)=true):
  (∀(i:Nat) o,ops[i]?=some o->∀e∈o.after,Region.binds .any e=true->e.on<i)/\
  (∀(i j:Nat) oi oj d,ops[i]?=some oi->ops[j]?=some oj->oj.dst=some d->i≠j->(oi.dst=some d\/d∈kL ops oi)->unord bf i j=false):=by
 have mem:∀(i:Nat) o,ops[i]?=some o->(i,o)∈aY ops:=fun i o ho=>List.mem_of_getElem? (i:=i) (by rw[dZ,ho];rfl);unfold cO at h;rw[Bool.and_eq_true]at h;obtain⟨h1,h2⟩:=h;rw[List.all_eq_true]at h1 h2;constructor
 ·intro i o ho e he hb;have:=h1 _ (mem i o ho);rw[List.all_eq_true]at this;have:=this e (by simpa using he);rw[hb]at this;simpa using this
 ·intro i j oi oj d hi hj hd a1 a0;have:=h2 _ (mem j oj hj);simp only[hd]at this;rw[List.all_eq_true]at this;have:=this _ (mem i oi hi);simp only[Bool.or_eq_true,Bool.not_eq_true']at this;rcases this with(h|h)|h
  ·exact absurd (Nat.eq_of_beq_eq_true h) a1
  ·exact h
  ·exfalso;rw[Bool.or_eq_false_iff]at h;rcases a0 with hl|hl
   ·rw[hl]at h;simp[wU]at h
   ·have:(kL ops oi).any (Nat.beq d)=true:=by rw[List.any_eq_true];exact⟨d,hl,Nat.beq_refl d⟩
    rw[this]at h;exact absurd h.2 (by decide)
theorem eff_of{late:Bool}{bf:Array Nat}(h:dN P late bf (aY ops)=true){i j:Nat}{oi oj:Oper}(hi:ops[i]?=some oi)(hj:ops[j]?=some oj)(h1:mW P late oi=true)(h2:mW P late oj=true)(a0:i<j):unord bf i j=false:=by
 have mem:∀(i:Nat) o,ops[i]?=some o->(i,o)∈aY ops:=fun i o ho=>List.mem_of_getElem? (i:=i) (by rw[dZ,ho];rfl);unfold dN at h;rw[List.all_eq_true]at h;have:=h _ (mem i oi hi);rw[h1]at this;simp only[Bool.not_true,Bool.false_or]at this;rw[List.all_eq_true]at this;have:=this _ (mem j oj hj);rw[h2]at this;simp only[Bool.not_true,Bool.false_or,Bool.or_eq_true,Nat.ble_eq,Bool.not_eq_true']at this;rcases this with h|h
 ·omega
 ·exact h
theorem first_of{bf:Array Nat}(h:eX P bf (aY ops)=true){i j:Nat}{oi oj:Oper}(hi:ops[i]?=some oi)(hj:ops[j]?=some oj)(h1:mW P true oi=true)(h2:dP oj=true)(a0:i<j):unord bf i j=false:=by
 have mem:∀(i:Nat) o,ops[i]?=some o->(i,o)∈aY ops:=fun i o ho=>List.mem_of_getElem? (i:=i) (by rw[dZ,ho];rfl);unfold eX at h;rw[List.all_eq_true]at h;have:=h _ (mem i oi hi);rw[h1]at this;simp only[Bool.not_true,Bool.false_or]at this;rw[List.all_eq_true]at this;have:=this _ (mem j oj hj);rw[h2]at this;simp only[Bool.not_true,Bool.false_or,Bool.or_eq_true,Nat.ble_eq,Bool.not_eq_true']at this;rcases this with h|h
 ·omega
 ·exact h
variable{W0:World}{T:Tc}{n:Nat}{late:Bool}
theorem yC(a0:∀(i:Nat) o,ops[i]?=some o->mA P cf ops late T i o){i:Nat}{o:Oper}(ho:ops[i]?=some o)(ha:T.al i=true):
  OnT ops o (T.F i)/\T.eff i=false/\dP o=true/\∃h ao,bE P o (T.F i)=.act h/\h (T.H i)=some (T.V i,T.H (i+1))/\T.H (i+1)=(T.H i).push ao:=by
 rcases(a0 i o ho).2 with⟨_,_,_,_,_,h⟩|⟨a1,⟨_,_,_,_,h⟩|⟨_,_,_,_,_,_,_,h⟩|⟨_,_,_,_,h⟩|⟨h,h1,h2,h3,h4,_⟩⟩
 ·rw[ha]at h;cases h
 ·rw[ha]at h;cases h
 ·rw[ha]at h;cases h
 ·rw[ha]at h;cases h
 ·obtain⟨ao,hp⟩:=alloc_push h2 h1 h3;exact⟨a1,h4,h2,h,ao,h1,h3,hp⟩
theorem pD(a0:∀(i:Nat) o,ops[i]?=some o->mA P cf ops late T i o)(a2:∀i,i<ops.size->T.al i=true->(T.H i).get (T.H i).n=none){a:Nat}:∀(b:Nat),a<=b->b<=ops.size->(∀e,a<=e->e<b->T.eff e=false)->fC (T.H a) (T.H b):=by
 intro b;induction b with
 |zero=>intro h _ _;rw[Nat.le_zero.1 h];exact .refl _
 |succ b ih=>
  intro h1 h2 h3;by_cases hb:a=b+1
  ·rw[hb];exact .refl _
  ·have hp:=ih (by omega) (by omega) fun e h4 h5=>h3 e h4 (by omega);have ho:ops[b]?=some ops[b]:=Array.getElem?_eq_getElem (by omega);have hf:=h3 b (by omega) (by omega);cases ha:T.al b with
   |true=>obtain⟨_,_,_,_,ao,_,_,a1⟩:=yC a0 ho ha;rw[a1];exact .push ao hp (a2 b (by omega) ha)
   |false=>
    have:T.H (b+1)=T.H b:=by
     rcases(a0 b _ ho).2 with⟨_,_,h,_⟩|⟨_,⟨_,h,_⟩|⟨_,_,_,_,h,_⟩|⟨_,_,h,_⟩|⟨_,_,_,_,_,_,h,_⟩⟩
     ·exact h
     ·exact h
     ·exact h
     ·rw[hf]at h;cases h
     ·rw[ha]at h;cases h
    rw[this];exact hp
theorem last_in(p:Nat->Bool)(a:Nat):∀b,(∀e,a<=e->e<b->p e=false)\/∃e,a<=e/\e<b/\p e=true/\∀f,e<f->f<b->p f=false
 |0=>.inl fun e _ h=>by omega
 |b+1=>by
  by_cases hb:a<=b/\p b=true
  ·exact .inr ⟨b,hb.1,by omega,hb.2,fun f h1 h2=>by omega⟩
  ·rcases last_in p a b with h|⟨e,h1,h2,h3,h4⟩
   ·refine .inl fun e h1 h2=>?_;by_cases he:e=b
    ·subst he;cases hp:p e with
     |false=>rfl
     |true=>exact absurd ⟨h1,hp⟩ hb
    ·exact h e h1 (by omega)
   ·refine .inr ⟨e,h1,by omega,h3,fun f h5 h6=>?_⟩;by_cases he:f=b
    ·subst he;cases hp:p f with
     |false=>rfl
     |true=>exact absurd ⟨by omega,hp⟩ hb
    ·exact h4 f h5 (by omega)
theorem first_in(p:Nat->Bool)(a:Nat):∀b,(∀e,a<=e->e<b->p e=false)\/∃e,a<=e/\e<b/\p e=true/\∀f,a<=f->f<e->p f=false
 |0=>.inl fun e _ h=>by omega
 |b+1=>by
  rcases first_in p a b with h|⟨e,h1,h2,h3,h4⟩
  ·by_cases hb:a<=b/\p b=true
   ·exact .inr ⟨b,hb.1,by omega,hb.2,fun f h1 h2=>h f h1 h2⟩
   ·refine .inl fun e h1 h2=>?_;by_cases he:e=b
    ·subst he;cases hp:p e with
     |false=>rfl
     |true=>exact absurd ⟨h1,hp⟩ hb
    ·exact h e h1 (by omega)
  ·exact .inr ⟨e,h1,by omega,h3,h4⟩
def Pend(ops:Array Oper)(T:Tc)(S:Nat->Prop)(m:Nat)(κ:Inj):Prop:=
 ∀i,i<m->i<ops.size->T.al i=true->¬S i->κ.dead (T.H i).n/\(T.H m).get (T.H i).n=(T.H (i+1)).get (T.H i).n
structure InvT(ops:Array Oper)(W0:World)(T:Tc)(ι:Inj)(d:List Deferred)(listed:Array Bool)(a:Go.Act)(W:World):Prop where
 size:listed.size=ops.size
 closed:tE ops (SL listed)
 heap:∃m κ,m<=ops.size/\ι.le κ/\Rel κ W0 (T.H m) W/\(∀e,e<ops.size->T.eff e=true->(SL listed e↔e<m))/\(m=ops.size\/T.eff m=true)/\Pend ops T (SL listed) m κ/\
  ∀i,i<=ops.size->∀t,(∀(j:Nat) o,ops[j]?=some o->o.dst=some t->(SL listed j↔j<i))->VR κ W0.heap.size (getD (T.F i) t) (a.tmps.getD t Go.undef)
 len:(T.F 0).length=a.tmps.size
 defers:a.defers=d
theorem vo(a0:∀(i:Nat) o,ops[i]?=some o->mA P cf ops late T i o):∀i,i<=ops.size->(T.F i).length=(T.F 0).length
 |0,_=>rfl
 |i+1,h=>by
  rw[(a0 i ops[i] (Array.getElem?_eq_getElem (by omega))).1];rw[<-vo a0 i (by omega)];cases (ops[i]).dst with
  |none=>rfl
  |some d=>exact kG _ _ _
theorem ya(a0:∀(i:Nat) o,ops[i]?=some o->mA P cf ops late T i o){t a:Nat}:∀b,a<=b->b<=ops.size->(∀(j:Nat) o,a<=j->j<b->ops[j]?=some o->o.dst≠some t)->getD (T.F b) t=getD (T.F a) t
 |0,h,_,_=>by rw[Nat.le_zero.1 h]
 |b+1,h1,h2,h3=>by
  by_cases hb:a=b+1
  ·rw[hb]
  ·have ho:ops[b]?=some ops[b]:=Array.getElem?_eq_getElem (by omega);rw[(a0 b _ ho).1,<-ya a0 b (by omega) (by omega) fun j o h4 h5=>h3 j o h4 (by omega)];have a1:=h3 b _ (by omega) (by omega) ho;cases hd:(ops[b]).dst with
   |none=>rfl
   |some d=>show getD (lF (T.F b) d _) t=_;rw[kY,if_neg];rintro⟨rfl,_⟩;exact a1 hd
theorem put_size(a:Go.Act)(d:Option Tmp)(v:Value):(a.put d v).tmps.size=a.tmps.size:=by
 cases d with
 |none=>rfl
 |some d=>simp[Go.Act.put]
theorem InvT.put{ι κ:Inj}{d:List Deferred}{listed:Array Bool}{a:Go.Act}{W W1:World}(I:InvT ops W0 T ι d listed a W)(a5:∀(i:Nat) o,ops[i]?=some o->mA P cf ops late T i o)
  (b1:cO (Region.before ops) ops (aY ops)=true) {k:Nat} {o:Oper} (ho:ops[k]?=some o) (b2:¬SL listed k) (a8:∀e∈o.after,Region.binds .any e=true->SL listed e.on)
  {m':Nat} {v':Value} {κ':Inj} (hκ:ι.le κ') (hκ':κ.lem κ') (b3:m'<=ops.size) (R':Rel κ' W0 (T.H m') W1) (hv:VR κ' W0.heap.size (T.V k) v')
  (b4:∀i,i<=ops.size->∀t,(∀(j:Nat) o,ops[j]?=some o->o.dst=some t->(SL listed j↔j<i))->VR κ W0.heap.size (getD (T.F i) t) (a.tmps.getD t Go.undef))
  (a7:∀e,e<ops.size->T.eff e=true->((e=k\/SL listed e)↔e<m')) (a6:m'=ops.size\/T.eff m'=true) (a2:Pend ops T (fun j=>j=k\/SL listed j) m' κ'):
  InvT ops W0 T ι d (listed.setIfInBounds k true) (a.put o.dst v') W1:=by
 have hk:k<ops.size:=(Array.getElem?_eq_some_iff.1 ho).1;have a1:k<listed.size:=by rw[I.size];exact hk
 obtain⟨a9,a0⟩:=slots_of b1;refine⟨by simp[I.size],?_,⟨m',κ',b3,hκ,R',?_,a6,fun i h1 h2 h3 h4=>a2 i h1 h2 h3 fun h5=>h4 ((vP a1).2 h5),?_⟩,by rw[put_size];exact I.len,by rw[iH];exact I.defers⟩
 ·intro j oj hj hs e he hb;rw[vP a1]at hs ⊢;rcases hs with rfl|hs
  ·rw[ho]at hj;cases hj;exact .inr (a8 e he hb)
  ·exact .inr (I.closed j oj hj hs e he hb)
 ·intro e he b5;rw[vP a1];exact a7 e he b5
 ·intro i hi t a4;by_cases hd:o.dst=some t
  ·have b7:k<i:=(a4 k o ho hd).1 ((vP a1).2 (.inl rfl));have e1:getD (T.F i) t=getD (T.F (k+1)) t:=by
    refine ya a5 i (by omega) hi fun j oj h1 h2 hj a3=>?_;have hs:=(a4 j oj hj a3).2 h2;rw[vP a1]at hs;rcases hs with rfl|hs
    ·omega
    ·exact b2 (anc' I.closed (a0 k j o oj t ho hj a3 (by omega) (.inl hd)) (by omega) hj hs)
   rw[e1,(a5 k o ho).1,hd];show VR κ' W0.heap.size (getD (lF (T.F k) t (T.V k)) t) ((a.tmps.setIfInBounds t v').getD t Go.undef);have hl:(T.F k).length=a.tmps.size:=by rw[vo a5 k (by omega)];exact I.len
   rw[kY];by_cases ht:t<(T.F k).length
   ·rw[if_pos ⟨rfl,ht⟩];have b0:t<a.tmps.size:=hl▸ht;have:(a.tmps.setIfInBounds t v').getD t Go.undef=v':=by simp[Array.getD,b0]
    rw[this];exact hv
   ·rw[if_neg fun h=>ht h.2,getD_ge ht];have:(a.tmps.setIfInBounds t v').getD t Go.undef=Go.undef:=by have:¬t<a.tmps.size:=hl▸ht;simp[Array.getD,this]
    rw[this];exact VR.undef
  ·have e1:(a.put o.dst v').tmps.getD t Go.undef=a.tmps.getD t Go.undef:=by
    cases b6:o.dst with
    |none=>rfl
    |some d'=>show(a.tmps.setIfInBounds d' v').getD t Go.undef=_;simp only[Array.getD_eq_getD_getElem?,Array.getElem?_setIfInBounds];rw[if_neg];rintro rfl;exact hd b6
   rw[e1];refine(b4 i hi t fun j oj hj a3=>?_).monoM hκ';rw[<-a4 j oj hj a3,vP a1];constructor
   ·exact .inr
   ·rintro(rfl|h)
    ·rw[ho]at hj;cases hj;exact absurd a3 hd
    ·exact h
end
section
variable{P:Program}{cf:gO}{N:Nat}{res:(Ex×List Value)×aC}{ops:Array Oper}{W0:World}{T:Tc}{late:Option Nat}
theorem yr(a0:pW P cf ops (Region.before ops) late T (aY ops) 0 [] [] []):∀i,i<ops.size->T.al i=true->(T.H i).get (T.H i).n=none:=by
 intro i hi ha;have a1:(aY ops).length=ops.size:=by have:=congrArg List.length (fW ops);simpa using this
 have:=(a0.news i (by omega) (by rw[Nat.zero_add];exact ha)).2.1;simpa using this
theorem quiet_look(a6:∀(i:Nat) o,ops[i]?=some o->mA P cf ops late.isSome T i o)(a3:pW P cf ops (Region.before ops) late T (aY ops) 0 [] [] []){S:Nat->Prop}(hS:tE ops S){k m:Nat}{o:Oper}{h:Act}(ho:ops[k]?=some o)(b3:¬S k)
  (a5:∀e∈o.after,Region.binds .any e=true->S e.on) (hm:m<=ops.size) (a0:∀e,e<ops.size->T.eff e=true->(S e↔e<m)) (a4:m=ops.size\/T.eff m=true) (hq:T.q k=some h) (a7:(mV P o).isQuiet=true) (a1:bE P o (T.F k)=.act h) (b1:T.eff k=false) (hh:oV h (T.V k) (T.H k)):oV h (T.V k) (T.H m):=by
 have hk:k<ops.size:=(Array.getElem?_eq_some_iff.1 ho).1;have b5:(aY ops).length=ops.size:=by have:=congrArg List.length (fW ops);simpa using this
 have b0:=yr a3;by_cases b6:m<=k
 ·have a2:T.eff m=true:=a4.resolve_left (by omega);have a8:m<k:=by
   rcases Nat.lt_or_ge m k with h|h
   ·exact h
   ·have:m=k:=by omega
    rw[this,b1]at a2;cases a2
  have b4:¬S m:=fun hs=>by have:=(a0 m (by omega) a2).1 hs;omega
  have hu:unord (Region.before ops) m k=true:=by
   cases hu:unord (Region.before ops) m k with
   |true=>rfl
   |false=>exact absurd (anc hS hu a8 ho a5) b4
  have:=a3.back k h m (by omega) a8 (by rw[Nat.zero_add];exact hq) (by rw[Nat.zero_add];exact a2) (by rw[Nat.zero_add,Nat.zero_add];exact hu);simpa using this
 ·rcases last_in T.eff k m with h0|⟨e,h1,h2,h3,h4⟩
  ·exact xj (pD a6 b0 m (by omega) hm h0) a7 a1 hh
  ·have a9:k<e:=by
    rcases Nat.lt_or_ge k e with h|h
    ·exact h
    ·have:e=k:=by omega
     subst this;rw[b1]at h3;cases h3
   have b2:S e:=(a0 e (by omega) h3).2 h2;have hu:unord (Region.before ops) k e=true:=by
    cases hu:unord (Region.before ops) k e with
    |true=>rfl
    |false=>exact absurd (anc' hS hu a9 (Array.getElem?_eq_getElem (by omega)) b2) b3
   have:=a3.ahead k h e (by omega) a9 (by rw[Nat.zero_add];exact hq) (by rw[Nat.zero_add];exact h3) (by rw[Nat.zero_add,Nat.zero_add];exact hu);simp only[Nat.zero_add]at this;exact xj (pD a6 b0 m (by omega) hm fun f h5 h6=>h4 f (by omega) h6) a7 a1 this
theorem Rel.redead{κ:Inj}{W:World}{σ:aC}(R:Rel κ W0 σ W)(D:Nat->Prop)(hD:∀b,D b->b<σ.n/\∀v,κ b v=none):Rel ⟨κ.map,D,κ.keep⟩ W0 σ W:=by
 have hl:κ.lem ⟨κ.map,D,κ.keep⟩:=fun _ _ _ h=>h;refine {below:=R.below,old:=R.old,dom:=R.dom,inj:=R.inj,samelo:=R.samelo,blk:=?_,vers:=R.vers,map:=?_,iter:=R.iter,dead:=hD,fresh:=R.fresh,kept:=R.kept}
 ·intro b B v i hB hi;have OK:=R.blk b B v i hB hi;refine {last:=OK.last,ne:=OK.ne,dirty:=OK.dirty,one:=OK.one,ver:=fun v hi hh=>?_};obtain⟨i,f1,f2,f3,f4⟩:=OK.ver v hi hh;refine⟨i,f1,f2,f3,fun hd=>?_⟩;obtain⟨g1,g2,g3,g4,g5⟩:=f4 hd;refine⟨g1,g2,g3,g4,fun o h1 h2=>?_⟩;obtain⟨x,y,r1,r2,r3⟩:=g5 o h1 h2;exact⟨x,y,r1,r2,r3.monoM hl⟩
 ·intro b es v i hB hi;obtain⟨i,f1,ents,clock,f2,f3⟩:=R.map b es v i hB hi;exact⟨i,f1,ents,clock,f2,f3.monoM hl⟩
theorem Rel.ahead{κ:Inj}{W:World}(a0:∀(i:Nat) o,ops[i]?=some o->mA P cf ops late.isSome T i o)(a2:∀i,i<ops.size->T.al i=true->(T.H i).get (T.H i).n=none){a b:Nat}(a6:a<=b)(hb:b<=ops.size)
  (a1:∀e,a<=e->e<b->T.eff e=false) (R:Rel κ W0 (T.H a) W):
  Rel ⟨κ.map,fun c=>κ.dead c\/∃i,a<=i/\i<b/\T.al i=true/\c=(T.H i).n,κ.keep⟩ W0 (T.H b) W:=by
 have hp:=pD a0 a2 b a6 hb a1;have R':=hp.rel R;refine R'.redead _ ?_;rintro c (hc|⟨i,h1,h2,h3,rfl⟩)
 ·exact R'.dead c hc
 ·obtain⟨_,_,_,_,ao,_,_,a3⟩:=yC a0 (Array.getElem?_eq_getElem (show i<ops.size by omega)) h3;have a5:fC (T.H a) (T.H i):=pD a0 a2 i h1 (by omega) fun e h4 h5=>a1 e h4 (by omega);have a4:fC (T.H (i+1)) (T.H b):=pD a0 a2 b (by omega) hb fun e h4 h5=>a1 e (by omega) h5;have e1:=a4.n_le;rw[a3]at e1;simp only[aC.push_n]at e1;refine⟨by omega,fun v=>?_⟩;cases hv:κ (T.H i).n v with
  |none=>rfl
  |some x=>have:=(R.dom _ _ _ hv).1;have:=a5.n_le;omega
theorem next_eff(p:Nat->Bool)(a n:Nat)(h:a<=n):∃m,a<=m/\m<=n/\(m=n\/p m=true)/\∀e,a<=e->e<m->p e=false:=by
 rcases first_in p a n with h0|⟨e,h1,h2,h3,h4⟩
 ·exact⟨n,h,Nat.le_refl _,.inl rfl,h0⟩
 ·exact⟨e,h1,by omega,.inr h3,h4⟩
theorem any_sound{Q:Exit->Go.Act->World->Prop}{ι:Inj}{d:List Deferred}(hG:P.globals.size<=W0.heap.size)(f0:zI P W0 cf)(a8:∀(i:Nat) o,ops[i]?=some o->mA P cf ops late.isSome T i o)(c6:pW P cf ops (Region.before ops) late T (aY ops) 0 [] [] [])
  (c7:cO (Region.before ops) ops (aY ops)=true) (i0:dN P late.isSome (Region.before ops) (aY ops)=true) (g8:late.isSome=true->eX P (Region.before ops) (aY ops)=true)
  (d5:∀n0,late=some n0->∀b,ι.dead b->b<n0)
  (hn:∀κ a' W',ι.le κ->Rel κ W0 (T.H ops.size) W'->FR κ W0.heap.size (T.F ops.size) a'.tmps->a'.defers=d->Q .normal a' W'):
  ∀(fuel:Nat) (listed:Array Bool) (a:Go.Act) (W:World),tB listed (List.range ops.size)<=fuel->InvT ops W0 T ι d listed a W->wpAny P .any ops Q fuel listed a W:=by
 obtain⟨d8,c0⟩:=slots_of c7;have g6:(aY ops).length=ops.size:=by have:=congrArg List.length (fW ops);simpa using this
 have e7:=yr c6;have done:∀(listed:Array Bool) (a:Go.Act) (W:World),InvT ops W0 T ι d listed a W->(∀j,j<ops.size->SL listed j)->Q .normal a W:=by
  intro listed a W I b3;obtain⟨m,κ,hm,b1,R,a7,a4,a5,a6⟩:=I.heap;have g5:m=ops.size:=by
   rcases Nat.lt_or_ge m ops.size with h|h
   ·have he:=a4.resolve_left (by omega);have:=(a7 m h he).1 (b3 m h);omega
   ·omega
  subst g5;refine hn κ a W b1 R ⟨by rw[vo a8 _ (Nat.le_refl _)];exact I.len,fun t=>a6 _ (Nat.le_refl _) t fun j o hj _=>?_⟩ I.defers;have b0:=(Array.getElem?_eq_some_iff.1 hj).1;exact⟨fun _=>b0,fun _=>b3 j b0⟩
 have all_of_nil:∀(listed:Array Bool),listed.size=ops.size->Region.ready .any ops listed=[]->∀j,j<ops.size->SL listed j:=by
  intro listed i5 c3 j;induction j using Nat.strongRecOn with
  |_ j ih=>
   intro hj;refine Classical.byContradiction fun g4=>?_;have:j∈Region.ready .any ops listed:=by
    rw[mem_ready];refine⟨SL_of_not (by omega) g4,ops[j],Array.getElem?_eq_getElem hj,fun e he hb=>?_⟩;have:=d8 j _ (Array.getElem?_eq_getElem hj) e he hb;exact ih e.on this (by omega)
   rw[c3]at this;cases this
 intro fuel;induction fuel with
 |zero=>
  intro listed a W hc I;have b3:∀j,j<ops.size->listed.getD j true=true:=fun j hj=>qi _ (Nat.le_zero.1 hc) j (List.mem_range.2 hj);refine⟨?_,done listed a W I fun j hj=>?_⟩
  ·apply List.eq_nil_iff_forall_not_mem.2;intro j hj;rw[mem_ready]at hj;obtain⟨h0,o,ho,_⟩:=hj;rw[b3 j (Array.getElem?_eq_some_iff.1 ho).1]at h0;cases h0
  ·have h1:=b3 j hj;unfold SL;have:j<listed.size:=by rw[I.size];exact hj
   simp[this]at h1 ⊢;exact h1
 |succ fuel ih=>
  intro listed a W hc I;refine⟨fun c3=>done listed a W I (all_of_nil listed I.size c3),fun k hk=>?_⟩;obtain⟨f6,o,ho,d4⟩:=mem_ready.1 hk;have a3:∀e∈o.after,Region.binds .any e=true->SL listed e.on:=d4;obtain⟨b6,i7⟩:=SL_not f6;have e6:k<ops.size:=(Array.getElem?_eq_some_iff.1 ho).1;have d7:tB (listed.setIfInBounds k true) (List.range ops.size)<=fuel:=by
   have:=cntU_lt f6 _ (List.mem_range.2 e6);omega
  obtain⟨m,κ,hm,b1,R,a7,a4,a5,a6⟩:=I.heap;have d3:∀t,t∈kL ops o->VR κ W0.heap.size (getD (T.F k) t) (a.tmps.getD t Go.undef):=by
   intro t ht;refine a6 k (by omega) t fun j oj hj i2=>?_;by_cases e0:j=k
   ·subst e0;exact⟨fun h=>absurd h b6,fun h=>by omega⟩
   ·have hu:=c0 k j o oj t ho hj i2 (fun e=>e0 e.symm) (.inr ht);rcases Nat.lt_or_gt_of_ne e0 with h|h
    ·refine⟨fun _=>h,fun _=>?_⟩;rw[unord_symm (fun e=>e0 e.symm)]at hu;exact anc I.closed hu h ho a3
    ·refine⟨fun hs=>absurd (anc' I.closed hu h hj hs) b6,fun h'=>by omega⟩
  have i4:(T.F k).length=a.tmps.size:=by rw[vo a8 k (by omega)];exact I.len
  have r:FR κ W0.heap.size (mL (kL ops o) 0 (T.F k)) a.tmps:=mask_FR i4 d3;have b8:bE P o (mL (kL ops o) 0 (T.F k))=bE P o (T.F k):=opSem_congr fun t ht=>qs ht;have gslot:∀j w d',o.guard=some (j,w)->dC ops j=some d'->getD (mL (kL ops o) 0 (T.F k)) d'=getD (T.F k) d':=by intro j w d' hg hs;refine qs ?_;unfold kL;rw[hg];refine List.mem_append_right _ ?_;simp[hs]
  have b9:∀e,e<ops.size->T.eff e=true->T.eff k=false->((e=k\/SL listed e)↔e<m):=by intro e he a2 c4;rw[<-a7 e he a2];refine⟨fun h=>h.resolve_left ?_,.inr⟩;rintro rfl;rw[a2]at c4;cases c4
  have a9:∀κ':Inj,(∀b,κ.dead b->κ'.dead b)->Pend ops T (fun j=>j=k\/SL listed j) m κ':=by intro κ' hd i h1 h2 h3 h4;obtain⟨g1,g2⟩:=a5 i h1 h2 h3 fun hs=>h4 (.inr hs);exact⟨hd _ g1,g2⟩
  unfold wpOp;simp only[ho];obtain⟨_,c9⟩:=a8 k o ho;rcases c9 with⟨⟨j,w,d',hg,hs,e2⟩,hV,hH,a0,_,_⟩|⟨g3,e9⟩
  ·have hw:Region.wanted o (yielded ops a.tmps)=false:=by
    rw[dY hg];rcases e2 with⟨t,ht⟩|hb
    ·rw[wI r hs (by rw[gslot j w d' hg hs];exact ht)];try rfl
    ·rw[lE r hs (by rw[gslot j w d' hg hs];exact hb)];cases w<;>rfl
   rw[if_neg (by rw[hw];decide)];exact ih _ _ _ d7 (I.put a8 c7 ho b6 a3 b1 (fun _ _ _ h=>h) hm R (by rw[hV];exact VR.undef) a6 (fun e he a2=>b9 e he a2 a0) a4 (a9 κ fun _ h=>h))
  ·have hw:Region.wanted o (yielded ops a.tmps)=true:=by
    rcases g3 with hg|⟨j,w,d',hg,hs,hb⟩
    ·exact pU hg
    ·rw[dY hg,lE r hs (by rw[gslot j w d' hg hs];exact hb)];simp
   rw[if_pos hw];refine .inl ?_;rcases e9 with⟨hv,hH,a0,_,_⟩|⟨h,b5,f1,c1,hH,a0,hq,_⟩|⟨d6,e8,a0,_,b4⟩|⟨h,b5,f7,c1,a0,_,b4,e5⟩
   ·refine yh (v:=T.V k) (σ':=T.H m) hG f0 R r (.inl ⟨rfl,by rw[b8];exact hv⟩) fun κ' v' W1 a1 R' c8=>?_;exact ih _ _ _ d7 (I.put a8 c7 ho b6 a3 (Inj.le_trans b1 a1) a1.1 hm R' c8 a6 (fun e he a2=>b9 e he a2 a0) a4 (a9 κ' a1.2.1))
   ·obtain⟨σ',f5⟩:=quiet_look a8 c6 I.closed ho b6 a3 hm a7 a4 hq f1 b5 a0 ⟨_,c1⟩;have d0:=sK f1 b5 f5;subst d0;refine yh (v:=T.V k) (σ':=T.H m) hG f0 R r (.inr (.inl ⟨h,by rw[b8];exact b5,f5⟩)) fun κ' v' W1 a1 R' c8=>?_;exact ih _ _ _ d7 (I.put a8 c7 ho b6 a3 (Inj.le_trans b1 a1) a1.1 hm R' c8 a6 (fun e he a2=>b9 e he a2 a0) a4 (a9 κ' a1.2.1))
   ·have c5:∀e oe,ops[e]?=some oe->T.eff e=true->mW P late.isSome oe=true:=by
     intro e oe d9 a2;rcases(a8 e oe d9).2 with⟨_,_,_,h,_⟩|⟨_,⟨_,_,h,_⟩|⟨_,_,_,_,_,h,_⟩|⟨_,h,_⟩|⟨_,_,_,_,h,_⟩⟩
     ·rw[a2]at h;cases h
     ·rw[a2]at h;cases h
     ·rw[a2]at h;cases h
     ·exact h
     ·rw[a2]at h;cases h
    have i6:m<=k:=by
     rcases Nat.lt_or_ge k m with h|h
     ·exact absurd ((a7 k e6 a0).2 h) b6
     ·exact h
    have before_k:∀e,e<k->T.eff e=true->SL listed e:=by intro e c4 a2;have d9:ops[e]?=some ops[e]:=Array.getElem?_eq_getElem (by omega);exact anc I.closed (eff_of i0 d9 ho (c5 e _ d9 a2) e8 c4) c4 ho a3
    have e4:m=k:=by
     rcases Nat.lt_or_ge m k with h|h
     ·have b7:=a4.resolve_left (by omega);have:=(a7 m (by omega) b7).1 (before_k m h b7);omega
     ·omega
    subst e4;have key:(∃h,bE P o (mL (kL ops o) 0 (T.F m))=.act h/\h (T.H m)=some (T.V m,T.H (m+1)))\/(∃f args,bE P o (mL (kL ops o) 0 (T.F m))=.call f args/\cf f args (T.H m)=some (T.V m,T.H (m+1))):=by
     rw[b8];exact d6
    refine yh (v:=T.V m) (σ':=T.H (m+1)) hG f0 R r (.inr key) fun κ' v' W1 a1 R' c8=>?_;obtain⟨m',q1,q2,q3,q4⟩:=next_eff T.eff (m+1) ops.size (by omega);have R2:=Rel.ahead a8 e7 q1 q2 q4 R';refine ih _ _ _ d7 (I.put a8 c7 ho b6 a3 (m':=m') (κ':=⟨κ'.map,fun c=>κ'.dead c\/∃i,m+1<=i/\i<m'/\T.al i=true/\c=(T.H i).n,κ'.keep⟩) ⟨(Inj.le_trans b1 a1).1,fun b hb=>.inl (a1.2.1 b (b1.2.1 b hb)),fun c o h=>a1.2.2 c o (b1.2.2 c o h)⟩ a1.1 q2 R2 (VR.monoM (ι:=κ') (fun _ _ _ h=>h) c8) a6 (fun e he a2=>?_) q3 ?_)
    ·constructor
     ·rintro(rfl|hs)
      ·omega
      ·have:=(a7 e he a2).1 hs;omega
     ·intro b0;by_cases c4:e=m
      ·exact .inl c4
      ·right;rcases Nat.lt_or_ge e m with h|h
       ·exact before_k e h a2
       ·have:=q4 e (by omega) b0;rw[a2]at this;cases this
    ·intro i h1 h2 h3 h4;obtain⟨_,i8,i3,_,ao,_,_,e1⟩:=yC a8 (Array.getElem?_eq_getElem h2) h3;have b2:(T.H (i+1)).get (T.H i).n=some ao:=by rw[e1,aC.get_push,if_pos rfl]
     rcases Nat.lt_or_ge i m with h|h
     ·obtain⟨g1,g2⟩:=a5 i h h2 h3 fun hs=>h4 (.inr hs);refine⟨.inl (a1.2.1 _ g1),?_⟩;have hu:unord (Region.before ops) i m=true:=by
       cases hu:unord (Region.before ops) i m with
       |true=>rfl
       |false=>exact absurd (.inr (anc I.closed hu h ho a3)) h4
      have:=c6.intact i m (by omega) h (by rw[Nat.zero_add];exact h3) (by rw[Nat.zero_add];exact a0) (by rw[Nat.zero_add,Nat.zero_add];exact hu);simp only[Nat.zero_add]at this;rw[b2]at this ⊢;exact(pD a8 e7 m' q1 q2 q4).get this
     ·have f3:i≠m:=fun e=>h4 (.inl e);refine⟨.inr ⟨i,by omega,h1,h3,rfl⟩,?_⟩;rw[b2];exact(pD a8 e7 m' (by omega) q2 fun e h5 h6=>q4 e (by omega) h6).get b2
   ·obtain⟨n0,f4⟩:=Option.isSome_iff_exists.1 e5;have g7:k<m:=by
     rcases Nat.lt_or_ge k m with h|h
     ·exact h
     ·exfalso;have b7:=a4.resolve_left (by omega);have b0:m<k:=by
       rcases Nat.lt_or_ge m k with h'|h'
       ·exact h'
       ·have:m=k:=by omega
        rw[this,a0]at b7;cases b7
      have f2:ops[m]?=some ops[m]:=Array.getElem?_eq_getElem (by omega);have i1:mW P true ops[m]=true:=by
       rcases(a8 m _ f2).2 with⟨_,_,_,h,_⟩|⟨_,⟨_,_,h,_⟩|⟨_,_,_,_,_,h,_⟩|⟨_,h,_⟩|⟨_,_,_,_,h,_⟩⟩
       ·rw[b7]at h;cases h
       ·rw[b7]at h;cases h
       ·rw[b7]at h;cases h
       ·rw[e5]at h;exact h
       ·rw[b7]at h;cases h
      have hs:=anc I.closed (first_of (g8 e5) f2 ho i1 f7 b0) b0 ho a3;have:=(a7 m (by omega) b7).1 hs;omega
    obtain⟨g1,g2⟩:=a5 k g7 e6 b4 b6;obtain⟨d1,d2⟩:=R.dead _ g1;obtain⟨s,g9,ao,ob,i,v',e1,g0,f9,f8⟩:=op_alloc (W:=W) f7 hG r (by rw[b8];exact b5) c1;have b2:(T.H (k+1)).get (T.H k).n=some ao:=by rw[e1,aC.get_push,if_pos rfl]
    rw[b2]at g2;have R':=f9 (T.H m) (T.H k).n R g2 d1 d2;unfold Oper.wp;rw[g9,Sem.run_bind,g0];show wpAny P .any ops Q fuel (listed.setIfInBounds k true) (a.put o.dst v') (W.alloc ob);have e3:=((c6.news k (by omega) (by rw[Nat.zero_add];exact b4)).1 n0 f4);rw[Nat.zero_add]at e3;refine ih _ _ _ d7 (I.put a8 c7 ho b6 a3 (κ':=link κ (T.H k).n i) ⟨fun b v x hx=>kH (d2 0) b v x (b1.1 b v x hx),fun b hb=>⟨b1.2.1 b hb,fun e=>by have:=d5 n0 f4 b hb;omega⟩,fun c o h=>b1.2.2 c o h⟩ (kH (d2 0)) hm R' (f8 _ (kH (d2 0)) iX) a6 (fun e he a2=>b9 e he a2 a0) a4 ?_);intro i' h1 h2 h3 h4;obtain⟨q1,q2⟩:=a5 i' h1 h2 h3 fun hs=>h4 (.inr hs);refine⟨⟨q1,?_⟩,q2⟩;have f3:i'≠k:=fun e=>h4 (.inl e);rcases Nat.lt_or_gt_of_ne f3 with b0|b0
    ·have:=c6.apart i' k (by omega) b0 (by rw[Nat.zero_add];exact h3) (by rw[Nat.zero_add];exact b4);simpa using this
    ·have:=c6.apart k i' (by omega) b0 (by rw[Nat.zero_add];exact b4) (by rw[Nat.zero_add];exact h3);simp only[Nat.zero_add]at this;exact fun e=>this e.symm
end
end Go.Pg
