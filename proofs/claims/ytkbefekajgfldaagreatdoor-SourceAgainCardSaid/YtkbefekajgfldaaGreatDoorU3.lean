/- Pg3 -/
import Derived.Scope
import Derived.ChangeSame
import Derived.Lib.LaidTab
import Derived.Lib.LaidU8
import Derived.LaidLaws
import Derived.Stop.Joined
import Derived.ChangeSlices
import Derived.WideKeyArgs
import Derived.OpenShut
import Derived.Shelf.Unicode.PredsPay
import Derived.PinnedBridge
import Derived.Shelf.Unicode.DecodeAny
import Derived.Test.YtkbefekajgfldaaGreatDoorU2
set_option maxHeartbeats 1000000
namespace Go.Pg
section
variable{P:Program}{cf:gO}{N:Nat}{res:(Ex×List Value)×aC}{ops:Array Oper}{W0:World}
theorem nJ{Q:Exit->Go.Act->World->Prop}{late:Option Nat}{ι:Inj}{W:World}{σ:aC}{a:Go.Act}{fr:List Value}{k:List Value->Pg}(hG:P.globals.size<=W0.heap.size)(b3:zI P W0 cf)
  (a7:cO (Region.before ops) ops (aY ops)=true) (b1:dN P late.isSome (Region.before ops) (aY ops)=true) (b0:late.isSome=true->eX P (Region.before ops) (aY ops)=true) (a1:∀n0,late=some n0->n0=σ.n)
  (h:exec cf N (eA P late (Region.before ops) ops (aY ops) (aY ops) fr [] [] [] k) σ=some res) (R:Rel ι W0 σ W) (r:FR ι W0.heap.size fr a.tmps)
  (hn:∀κ fr' σ' a' W',ι.le κ->Rel κ W0 σ' W'->FR κ W0.heap.size fr' a'.tmps->a'.defers=a.defers->bH (fun t=>∃o∈ops,o.dst=some t) fr fr'->exec cf N (k fr') σ'=some res->Q .normal a' W'):
  wpAny P .any ops Q ops.size (Array.replicate ops.size false) a {W with drawn:=W.drawn+1}:=by
 obtain⟨T,t1,t2,t3,t4⟩:=kD _ 0 fr [] [] [] σ (jB ops) (fun _ h=>h) h;have a4:(aY ops).length=ops.size:=by have:=congrArg List.length (fW ops);simpa using this
 rw[a4,Nat.zero_add]at t3;have a0:∀(i:Nat) o,ops[i]?=some o->mA P cf ops late.isSome T i o:=by intro i o ho;have:=t4.step i (i,o) (by rw[dZ,ho];rfl);rw[Nat.zero_add]at this;exact this
 have a5:=yr t4;refine any_sound (ι:=ι) (d:=a.defers) hG b3 a0 t4 a7 b1 b0 (fun n0 e b hb=>by rw[a1 n0 e];exact(R.dead b hb).1) ?_ ops.size _ a _ ?_ ?_
 ·intro κ a' W' h1 h2 h3 h4;refine hn κ _ _ a' W' h1 h2 h3 h4 ⟨?_,fun t ht=>?_⟩ t3
  ·rw[<-t1];exact vo a0 _ (Nat.le_refl _)
  ·rw[<-t1];exact ya a0 ops.size (Nat.zero_le _) (Nat.le_refl _) fun j o _ _ ho hd=>ht ⟨o,Array.mem_of_getElem? ho,hd⟩
 ·have:∀(l:List Nat) (listed:Array Bool),tB listed l<=l.length:=by
   intro l listed;induction l with
   |nil=>exact Nat.le_refl _
   |cons j l ih=>unfold tB;simp only[List.length_cons];split<;>omega
  have:=this (List.range ops.size) (Array.replicate ops.size false);simpa using this
 ·have a3:∀j,¬SL (Array.replicate ops.size false) j:=by
   intro j;unfold SL;by_cases hj:j<ops.size
   ·simp[hj]
   ·simp[hj]
  obtain⟨m,_,q2,q3,q4⟩:=next_eff T.eff 0 ops.size (Nat.zero_le _);have R0:Rel ι W0 (T.H 0) {W with drawn:=W.drawn+1}:=by rw[t2];exact R.drew
  have R1:=Rel.ahead a0 a5 (Nat.zero_le m) q2 (fun e h1 h2=>q4 e h1 h2) R0;refine⟨by simp,fun j o _ hs=>absurd hs (a3 j),⟨m,⟨ι.map,fun c=>ι.dead c\/∃i,0<=i/\i<m/\T.al i=true/\c=(T.H i).n,ι.keep⟩,q2,⟨fun _ _ _ h=>h,fun b hb=>.inl hb,fun _ _ h=>h⟩,R1,?_,q3,?_,?_⟩,by rw[t1];exact r.1,rfl⟩
  ·intro e he b2;refine⟨fun hs=>absurd hs (a3 e),fun a9=>?_⟩;have:=q4 e (Nat.zero_le _) a9;rw[b2]at this;cases this
  ·intro i h1 h2 h3 _;obtain⟨_,_,_,_,ao,_,_,a8⟩:=yC a0 (Array.getElem?_eq_getElem h2) h3;have a2:(T.H (i+1)).get (T.H i).n=some ao:=by rw[a8,aC.get_push,if_pos rfl]
   refine⟨.inr ⟨i,Nat.zero_le _,h1,h3,rfl⟩,?_⟩;rw[a2];exact(pD a0 a5 m (by omega) q2 fun e h5 h6=>q4 e (Nat.zero_le _) h6).get a2
  ·intro i hi t a6;rw[ya a0 (a:=0) i (Nat.zero_le _) hi fun j o _ hj ho hd=>a3 j ((a6 j o ho hd).2 hj),t1];exact VR.monoM (ι:=ι) (fun _ _ _ h=>h) (r.2 t)
theorem kZ{π:List Nat}{i:Nat}(h:i∈π):π[hZ i π]?=some i/\hZ i π<π.length:=by
 induction π with
 |nil=>cases h
 |cons x π ih=>
  unfold hZ;cases hx:Nat.beq x i with
  |true=>simp only[cond_true];rw[Nat.eq_of_beq_eq_true hx];exact⟨rfl,by simp⟩
  |false=>
   simp only[cond_false];have hi:i∈π:=by
    rcases List.mem_cons.1 h with e|h
    ·subst e;simp at hx
    ·exact h
   obtain⟨h1,h2⟩:=ih hi;exact⟨by simpa using h1,by simp;omega⟩
structure Perm(ops:Array Oper)(π:List Nat):Prop where
 len:π.length=ops.size
 all:∀i,i<ops.size->i∈π
 lt:∀i∈π,i<ops.size
 pos:∀(t i:Nat),π[t]?=some i->hZ i π=t
 deps:∀o∈ops,∀e∈o.after,Region.binds .any e=true->e.on<ops.size
 guards:∀o∈ops,∀j w,o.guard=some (j,w)->j<ops.size
theorem perm_of{π:List Nat}(h:yT ops π=true):Perm ops π:=by
 unfold yT at h;simp only[Bool.and_eq_true,Nat.beq_eq,List.all_eq_true,List.mem_range]at h;obtain⟨⟨⟨⟨h1,h2⟩,h3⟩,h4⟩,h5⟩:=h;refine⟨h1,fun i hi=>qE.1 (h2 i hi),fun i hi=>by simpa using h3 i hi,fun t i ht=>?_,fun o ho e he hb=>?_,fun o ho j w hg=>?_⟩
 ·have:(i,t)∈π.zipIdx:=by refine List.mem_of_getElem? (i:=t) ?_;rw[List.getElem?_zipIdx,ht];simp
  exact h4 _ this
 ·have:=(h5 o (by simpa using ho)).1 e (by simpa using he);rw[hb]at this;simpa using this
 ·have:=(h5 o (by simpa using ho)).2;rw[hg]at this;simpa using this
variable{π:List Nat}
theorem Perm.size(_:Perm ops π):(bU ops π).size=π.length:=by simp[bU]
theorem Perm.at(h:Perm ops π){i:Nat}{o:Oper}(ho:ops[i]?=some o):(bU ops π)[hZ i π]?=some (moved π o):=by have hi:=(Array.getElem?_eq_some_iff.1 ho).1;obtain⟨h1,_⟩:=kZ (h.all i hi);unfold bU;rw[List.getElem?_toArray,List.getElem?_map,h1];simp[ho]
theorem Perm.slot(h:Perm ops π){j:Nat}(hj:j<ops.size):((bU ops π)[hZ j π]?).bind (·.dst)=(ops[j]?).bind (·.dst):=by have ho:ops[j]?=some ops[j]:=Array.getElem?_eq_getElem hj;rw[h.at ho,ho];try rfl
theorem Perm.yield(h:Perm ops π){j:Nat}(hj:j<ops.size)(ts:Array Value):yielded (bU ops π) ts (hZ j π)=yielded ops ts j:=by unfold yielded;rw[h.slot hj]
theorem Perm.wanted(h:Perm ops π){o:Oper}(ho:o∈ops)(ts:Array Value):Region.wanted (moved π o) (yielded (bU ops π) ts)=Region.wanted o (yielded ops ts):=by
 unfold Region.wanted moved;cases hg:o.guard with
 |none=>rfl
 |some g=>obtain⟨j,w⟩:=g;simp only;rw[h.yield (h.guards o ho j w hg)]
theorem wpOp_moved(h:Perm ops π){Q:Exit->Go.Act->World->Prop}{i:Nat}{o:Oper}(ho:ops[i]?=some o){K K':Go.Act->World->Prop}{a:Go.Act}{w:World}(hK:∀a w,K a w->K' a w)(hh:wpOp P (bU ops π) Q (hZ i π) K a w):wpOp P ops Q i K' a w:=by refine wpOp_mono hK ?_;unfold wpOp at hh ⊢;rw[h.at ho]at hh;simp only[ho];simp only at hh;rw[h.wanted (Array.mem_of_getElem? ho)]at hh;exact hh
theorem wY(h:Perm ops π){Q:Exit->Go.Act->World->Prop}:∀(fuel:Nat) (l l':Array Bool) (a:Go.Act) (w:World),l.size=ops.size->l'.size=ops.size->(∀i,i<ops.size->∀d,l'.getD (hZ i π) d=l.getD i d)->
  wpAny P .any (bU ops π) Q fuel l' a w->wpAny P .any ops Q fuel l a w:=by
 have a0:∀(l l':Array Bool),l.size=ops.size->(∀i,i<ops.size->∀d,l'.getD (hZ i π) d=l.getD i d)->∀i,i∈Region.ready .any ops l->hZ i π∈Region.ready .any (bU ops π) l':=by intro l l' _ hl i hi;rw[mem_ready]at hi ⊢;obtain⟨h0,o,ho,hd⟩:=hi;have a1:=(Array.getElem?_eq_some_iff.1 ho).1;refine⟨by rw[hl i a1];exact h0,moved π o,h.at ho,fun e he hb=>?_⟩;unfold moved at he;simp only[Array.mem_map]at he;obtain⟨e0,a8,rfl⟩:=he;have a9:Region.binds .any e0=true:=hb;show l'.getD (hZ e0.on π) false=true;rw[hl _ (h.deps o (Array.mem_of_getElem? ho) e0 a8 a9)];exact hd e0 a8 a9
 have a4:∀(l l':Array Bool),l.size=ops.size->(∀i,i<ops.size->∀d,l'.getD (hZ i π) d=l.getD i d)->Region.ready .any ops l=[]->Region.ready .any (bU ops π) l'=[]:=by
  intro l l' hs hl a2;apply List.eq_nil_iff_forall_not_mem.2;intro t ht;rw[mem_ready]at ht;obtain⟨h0,o',a7,hd⟩:=ht;have a1:=(Array.getElem?_eq_some_iff.1 a7).1;rw[h.size]at a1;have hπ:π[t]?=some π[t]:=List.getElem?_eq_getElem a1;have hi:=h.lt π[t] (List.getElem_mem a1);have a3:=h.pos t π[t] hπ;have ho:ops[π[t]]?=some ops[π[t]]:=Array.getElem?_eq_getElem hi;have b0:=h.at ho;rw[a3,a7]at b0;cases b0;have:π[t]∈Region.ready .any ops l:=by
   rw[mem_ready];refine⟨by rw[<-hl _ hi,a3];exact h0,_,ho,fun e he hb=>?_⟩;rw[<-hl _ (h.deps _ (Array.mem_of_getElem? ho) e he hb)];exact hd {e with on:=hZ e.on π} (by unfold moved;simp only[Array.mem_map];exact⟨e,he,rfl⟩) hb
  rw[a2]at this;cases this
 intro fuel;induction fuel with
 |zero=>intro l l' a w hs a6 hl hw;refine⟨?_,hw.2⟩;apply List.eq_nil_iff_forall_not_mem.2;intro i hi;have:=a0 l l' hs hl i hi;rw[hw.1]at this;cases this
 |succ fuel ih=>
  intro l l' a w hs a6 hl hw;refine⟨fun a2=>hw.1 (a4 l l' hs hl a2),fun i hi=>?_⟩;obtain⟨_,o,ho,_⟩:=mem_ready.1 hi;have a1:=(Array.getElem?_eq_some_iff.1 ho).1;refine wpOp_moved h ho (fun a w b1=>ih _ _ a w (by simpa using hs) (by simpa using a6) ?_ b1) (hw.2 _ (a0 l l' hs hl i hi));intro j hj d;by_cases a5:i=j
  ·subst a5;have h1:=(kZ (h.all i a1)).2;rw[h.len]at h1;simp[show hZ i π<l'.size by omega,show i<l.size by omega]
  ·have b2:hZ i π≠hZ j π:=by intro e;have h1:=(kZ (h.all i a1)).1;have h2:=(kZ (h.all j hj)).1;rw[e,h2]at h1;exact a5 (Option.some.inj h1).symm
   rw[getD_set_ne d b2,getD_set_ne d a5];exact hl j hj d
section
variable{i j:Nat}
theorem eY(k:Nat):(bG ops j i)[k]?=(ops[k]?).map fun o=>bif Nat.beq k j then {o with after:=o.after.push ⟨i,.data⟩} else o:=by unfold bG;rw[List.getElem?_toArray,List.getElem?_map,List.getElem?_zipIdx,Array.getElem?_toList];cases ops[k]?<;>simp
theorem fK:(bG ops j i).size=ops.size:=by simp[bG]
theorem xe(ts:Array Value):yielded (bG ops j i) ts=yielded ops ts:=by
 funext k
 unfold yielded;rw[eY];cases ops[k]? with
 |none=>rfl
 |some o=>simp only[Option.map_some];cases Nat.beq k j<;>rfl
theorem wpOp_edge{Q:Exit->Go.Act->World->Prop}{k:Nat}{K:Go.Act->World->Prop}{a:Go.Act}{w:World}(hh:wpOp P (bG ops j i) Q k K a w):wpOp P ops Q k K a w:=by
 unfold wpOp at hh ⊢;rw[eY]at hh;cases ho:ops[k]? with
 |none=>rw[ho]at hh;exact hh
 |some o=>
  rw[ho]at hh;simp only[Option.map_some,xe]at hh;cases hb:Nat.beq k j with
  |false=>rw[hb]at hh;exact hh
  |true=>rw[hb]at hh;exact hh
theorem ready_edge{l:Array Bool}{k:Nat}(hk:k∈Region.ready .any ops l)(hj:k=j->l.getD i false=true):k∈Region.ready .any (bG ops j i) l:=by
 rw[mem_ready]at hk ⊢;obtain⟨h0,o,ho,hd⟩:=hk;refine⟨h0,(bif Nat.beq k j then {o with after:=o.after.push ⟨i,.data⟩} else o),by rw[eY,ho];rfl,?_⟩;cases hb:Nat.beq k j with
 |false=>exact hd
 |true=>
  simp only[cond_true];intro e he a0;rcases Array.mem_push.1 he with he|rfl
  ·exact hd e he a0
  ·exact hj (Nat.eq_of_beq_eq_true hb)
theorem zl{l:Array Bool}{k:Nat}(hk:k∈Region.ready .any (bG ops j i) l):k∈Region.ready .any ops l:=by
 rw[mem_ready]at hk ⊢;obtain⟨h0,o,ho,hd⟩:=hk;rw[eY,Option.map_eq_some_iff]at ho;obtain⟨o0,h1,rfl⟩:=ho;refine⟨h0,o0,h1,fun e he hb=>hd e ?_ hb⟩;cases Nat.beq k j with
 |false=>exact he
 |true=>exact Array.mem_push.2 (.inl he)
def qU(i j:Nat):Array Bool->List Nat->Prop
 |_,[]=>True
 |l,k::r=>(k=j->l.getD i false=true)/\qU i j (l.setIfInBounds k true) r
theorem listed_keep{l:Array Bool}{i k:Nat}(h:l.getD i false=true):(l.setIfInBounds k true).getD i false=true:=by
 by_cases hk:k=i
 ·subst hk;have a0:k<l.size:=by
   rcases Nat.lt_or_ge k l.size with h'|h'
   ·exact h'
   ·rw[Array.getD_eq_getD_getElem?,Array.getElem?_eq_none h']at h;cases h
  rw[Array.getD_eq_getD_getElem?,Array.getElem?_setIfInBounds,if_pos rfl,if_pos a0];try rfl
 ·rw[Array.getD_eq_getD_getElem?,Array.getElem?_setIfInBounds,if_neg hk,<-Array.getD_eq_getD_getElem?];exact h
theorem zb{l:Array Bool}{k:Nat}(h:k<l.size):(l.setIfInBounds k true).getD k false=true:=by rw[Array.getD_eq_getD_getElem?,Array.getElem?_setIfInBounds,if_pos rfl,if_pos h];try rfl
theorem sG{i j:Nat}:∀(L:List Nat) (l:Array Bool),l.getD i false=true->qU i j l L
 |[],_,_=>trivial
 |_::r,_,h=>⟨fun _=>h,sG r _ (listed_keep h)⟩
theorem first_or{i j:Nat}(a0:i≠j):∀(L:List Nat) (l:Array Bool),i<l.size->j<l.size->qU i j l L\/qU j i l L
 |[],_,_,_=>.inl trivial
 |k::r,l,hi,hj=>by
  by_cases h1:k=i
  ·subst h1;exact .inl ⟨fun e=>absurd e a0,sG r _ (zb hi)⟩
  ·by_cases h2:k=j
   ·subst h2;exact .inr ⟨fun e=>absurd e h1,sG r _ (zb hj)⟩
   ·rcases first_or a0 r (l.setIfInBounds k true) (by simpa using hi) (by simpa using hj)with h|h
    ·exact .inl ⟨fun e=>absurd e h2,h⟩
    ·exact .inr ⟨fun e=>absurd e h1,h⟩
theorem xC{Q:Exit->Go.Act->World->Prop}:∀(fuel t:Nat) (l:Array Bool) (a:Go.Act) (w:World),qU i j l (Region.linearise.go .any ops fuel t l [])->wpAny P .any (bG ops j i) Q fuel l a w->
  wpOps P ops Q (Region.linearise.go .any ops fuel t l []) a w:=by
 intro fuel;induction fuel with
 |zero=>intro t l a w _ h;simpa[Region.linearise.go,wpOps]using h.2
 |succ fuel ih=>
  intro t l a w ho h;obtain⟨h0,h1⟩:=h;simp only[Region.linearise.go]at ho ⊢;change wpOps P ops Q (match (Region.ready .any ops l)[t%(Region.ready .any ops l).length]? with
   |some i=>Region.linearise.go .any ops fuel (t/(Region.ready .any ops l).length) (l.setIfInBounds i true) [i]
   |none=>[].reverse) a w
  change qU i j l (match (Region.ready .any ops l)[t%(Region.ready .any ops l).length]? with
   |some i=>Region.linearise.go .any ops fuel (t/(Region.ready .any ops l).length) (l.setIfInBounds i true) [i]
   |none=>[].reverse)at ho
  cases hi:(Region.ready .any ops l)[t%(Region.ready .any ops l).length]? with
  |none=>
   have a1:Region.ready .any ops l=[]:=by
    cases hr:Region.ready .any ops l with
    |nil=>rfl
    |cons x xs=>rw[hr]at hi;have a2:t%(x::xs).length<(x::xs).length:=Nat.mod_lt _ (by simp);simp at hi;simp at a2;omega
   have a0:Region.ready .any (bG ops j i) l=[]:=by apply List.eq_nil_iff_forall_not_mem.2;intro k hk;have:=zl hk;rw[a1]at this;cases this
   simpa[wpOps]using h0 a0
  |some k=>rw[hi]at ho;simp only[]at ho ⊢;rw[linearise_go_acc,List.reverse_singleton,List.singleton_append]at ho ⊢;rw[wpOps_cons];exact wpOp_mono (fun a w=>ih _ _ a w ho.2) (wpOp_edge (h1 k (ready_edge (List.mem_of_getElem? hi) ho.1)))
theorem zi{Q:Exit->Go.Act->World->Prop}{id:Nat}{a:Go.Act}{w:World}(hm:P.follows .mixedOrders=true)(a0:i≠j)(hi:i<ops.size)(hj:j<ops.size)
  (hA:wpAny P .any (bG ops j i) Q ops.size (Array.replicate ops.size false) a {w with drawn:=w.drawn+1}) (hB:wpAny P .any (bG ops i j) Q ops.size (Array.replicate ops.size false) a {w with drawn:=w.drawn+1}):(Code.region id ops true).wp P Q a w:=
 wp_region_draw fun t=>by
  simp only[Region.schedule,hm,Bool.true_or,if_true];unfold Region.linearise;rcases first_or a0 (Region.linearise.go .any ops ops.size t (Array.replicate ops.size false) []) (Array.replicate ops.size false) (by simpa using hi) (by simpa using hj)with h|h
  ·exact xC _ _ _ _ _ h hA
  ·exact xC _ _ _ _ _ h hB
end
theorem apCore_old{esz byt len cap n:Nat}{base:Option Addr}{xs:List Value}{σ σ':aC}{v:Value}(h:gP esz byt base len cap n xs σ=some (v,σ')):σ'.old=σ.old:=by
 unfold gP at h;have wr:∀{a:Addr} {ys:List Value} {τ:aC},σ.wrN a ys=some τ->τ.old=σ.old:=fun {a ys τ} hw=>by
  unfold aC.wrN at hw;split at hw
  ·cases hw
  ·split at hw
   ·rw[cond_eq_ite]at hw;split at hw
    ·cases hw;try rfl
    ·cases hw
   ·cases hw
 simp only[cond_eq_ite]at h
 repeat' split at h
 all_goals first
  |(cases h;done)
  |(cases h;rfl)
  |(rename_i hw;cases h;exact wr hw)
theorem um{o:Oper}{fr:List Value}{h:Act}{σ σ':aC}{v:Value}(hk:uI P o=true)(he:(mV P o).isEff=true)(ho:bE P o fr=.act h)(hh:h σ=some (v,σ')):σ'.old=σ.old:=by
 unfold uI at hk;rw[he]at hk;simp only[Bool.not_true,Bool.false_or]at hk;have box:∀{x:Value},oB x σ=some (v,σ')->σ'.old=σ.old:=fun hb=>by
  unfold oB at hb;rw[cond_eq_ite]at hb;split at hb
  ·cases hb;try rfl
  ·cases hb
 unfold bE at ho;split at hk
 ·rename_i t a x a0;rw[a0]at ho;simp only at ho;split at ho
  ·cases ho;unfold stAt at hh;rw[cond_eq_ite]at hh;split at hh
   ·split at hh
    ·rename_i τ hw;cases hh;unfold aC.wrN at hw;split at hw
     ·cases hw
     ·split at hw
      ·rw[cond_eq_ite]at hw;split at hw
       ·cases hw;try rfl
       ·cases hw
      ·cases hw
    ·cases hh
   ·cases hh
  ·cases ho
 ·rename_i t a0;rw[a0]at ho;cases ho;unfold nH at hh;split at hh
  ·exact box hh
  ·cases hh
 ·rename_i t x a0;rw[a0]at ho;cases ho;exact box hh
 ·rename_i t n parts a0;rw[a0]at ho;cases ho;unfold fI at hh;simp only[cond_eq_ite]at hh
  repeat' split at hh
  all_goals first
   |(cases hh;done)
   |(cases hh;rfl)
 ·rename_i c a0;split at hk
  ·rename_i hc;rw[a0]at ho;simp only[hc]at ho;unfold fG at ho;split at ho
   case h_2=>
    split at ho
    ·cases ho;unfold rD at hh;simp only[cond_eq_ite]at hh
     repeat' split at hh
     all_goals first
      |(cases hh;done)
      |exact apCore_old hh
    ·cases ho
   all_goals first
    |(cases ho;done)
    |contradiction
  ·cases hk
 ·cases hk
theorem okEff_call{o:Oper}{fr:List Value}{f:FuncId}{args:List Value}(hk:uI P o=true)(he:(mV P o).isEff=true)(ho:bE P o fr=.call f args):False:=by
 unfold uI at hk;rw[he]at hk;simp only[Bool.not_true,Bool.false_or]at hk;unfold bE at ho;split at hk
 ·rename_i t a x a0;rw[a0]at ho;simp only at ho;split at ho<;>cases ho
 ·rename_i t a0;rw[a0]at ho;cases ho
 ·rename_i t x a0;rw[a0]at ho;cases ho
 ·rename_i t n parts a0;rw[a0]at ho;cases ho
 ·rename_i c a0;split at hk
  ·rename_i hc;rw[a0]at ho;simp only[hc]at ho;unfold fG at ho;split at ho
   case h_2=>split at ho<;>cases ho
   all_goals first
    |(cases ho;done)
    |contradiction
  ·cases hk
 ·cases hk
theorem alloc_eff{o:Oper}(h:dP o=true):(mV P o).isEff=true:=by
 unfold dP at h;unfold mV;split at h<;>first
  |(rename_i a0;simp only[a0];rfl)
  |cases h
theorem vQ{T:Tc}{late:Bool}(a0:∀(i:Nat) o,ops[i]?=some o->mA P cf ops late T i o)(a1:∀o∈ops,uI P o=true):∀n,n<=ops.size->(T.H n).old=(T.H 0).old
 |0,_=>rfl
 |n+1,hn=>by
  rw[<-vQ a0 a1 n (by omega)];have ho:ops[n]?=some ops[n]:=Array.getElem?_eq_getElem hn;have hk:=a1 _ (Array.mem_of_getElem? ho);rcases(a0 n _ ho).2 with⟨_,_,e,_⟩|⟨_,h⟩
  ·rw[e]
  ·rcases h with⟨_,e,_⟩|⟨_,_,_,_,e,_⟩|⟨h,he,_⟩|⟨h,h1,h2,h3,_⟩
   ·rw[e]
   ·rw[e]
   ·have hi:(mV P ops[n]).isEff=true:=by unfold mW at he;rw[Bool.and_eq_true]at he;exact he.1
    rcases h with⟨h,h1,h2⟩|⟨f,args,h1,_⟩
    ·exact um hk hi h1 h2
    ·exact(okEff_call hk hi h1).elim
   ·exact um hk (alloc_eff h2) h1 h3
theorem ym{l:List Nat}{x y:Nat}(h:x∈l\/x=y):x∈ww l y:=by
 unfold ww;cases hm:uB y l with
 |true=>
  rcases h with h|rfl
  ·exact h
  ·exact qE.1 hm
 |false=>
  simp only[cond_false,List.mem_cons]
  first
   |exact h
   |exact h.symm
theorem oP:∀(l:List Oper) (acc:List Nat) (t:Nat),t∈acc\/(∃o∈l,o.dst=some t)->t∈fT l acc
 |[],acc,t,h=>by
  rcases h with h|⟨o,ho,_⟩
  ·exact h
  ·cases ho
 |o::l,acc,t,h=>by
  unfold fT;refine oP l _ t ?_;rcases h with h|⟨o',ho,hd⟩
  ·left;split
   ·exact ym (.inl h)
   ·exact h
  ·rcases List.mem_cons.1 ho with rfl|ho
   ·left;rw[hd];exact ym (.inr rfl)
   ·exact .inr ⟨o',ho,hd⟩
theorem qx:∀(l:List Value) (t:Nat) (h:t<l.length),getD l t=l[t]
 |_::_,0,_=>rfl
 |_::l,t+1,h=>qx l t (by simpa using h)
theorem frames_eq{w:Nat->Prop}{fr a b:List Value}(ha:bH w fr a)(hb:bH w fr b)(h:∀t,w t->getD a t=getD b t):a=b:=by
 have hl:a.length=b.length:=ha.1.trans hb.1.symm;have key:∀t,getD a t=getD b t:=fun t=>by
  by_cases ht:w t
  ·exact h t ht
  ·rw[ha.2 t ht,hb.2 t ht]
 refine List.ext_getElem hl fun t h1 h2=>?_;rw[<-qx a t h1,<-qx b t h2];exact key t
theorem yc:∀(a b:List (Value×Value)),yB a b=true->a=b
 |[],[],_=>rfl
 |[],_::_,h=>by cases h
 |_::_,[],h=>by cases h
 |(x,u)::l,(y,w)::m,h=>by unfold yB at h;simp only[Bool.and_eq_true]at h;rw[xW 4 _ _ h.1,xW 4 _ _ h.2.1,yc l m h.2.2]
theorem objEqT_eq(a b:Option dV)(h:objEqT a b=true):a=b:=by
 unfold objEqT at h;split at h
 ·rename_i s n t m;rw[Bool.and_eq_true]at h;have h1:s.data.toList=t.data.toList:=of_decide_eq_true h.1;have h2:n=m:=Nat.eq_of_beq_eq_true h.2;obtain⟨s⟩:=s;obtain⟨t⟩:=t;have h3:s=t:=Array.ext' h1;rw[h2,h3]
 ·rw[yc _ _ h]
 ·exact objEq_eq (by unfold objEq;rw[h];rfl)
theorem yb:∀(a b:Tri),triEq a b=true->a=b
 |.nil,.nil,_=>rfl
 |.nil,.node _ _ _,h=>by cases h
 |.node _ _ _,.nil,h=>by cases h
 |.node v l r,.node v' l' r',h=>by unfold triEq at h;simp only[Bool.and_eq_true]at h;have hv:v=v':=objEqT_eq _ _ h.1;rw[hv,yb l l' h.2.1,yb r r' h.2.2]
theorem heapEq_eq{σ τ:aC}(h:pY σ τ=true)(ho:σ.old=τ.old):σ=τ:=by
 unfold pY at h;rw[Bool.and_eq_true,Bool.or_eq_true]at h;have h1:σ.n=τ.n:=Nat.eq_of_beq_eq_true h.1;have h2:σ.mem=τ.mem:=by
  rcases h.2 with h|h
  ·exact yb _ _ h
  ·exact @of_decide_eq_true _ (Classical.propDecidable _) h
 cases σ;cases τ;simp only at h1 h2 ho;rw[h1,h2,ho]
theorem two_sound{Q:Exit->Go.Act->World->Prop}{ι:Inj}{W:World}{σ:aC}{a:Go.Act}{id:Nat}{k:List Value->Pg}{fr:List Value}{i j:Nat}(hm:P.follows .mixedOrders=true)(hG:P.globals.size<=W0.heap.size)(c0:zI P W0 cf)
  (h:exec cf N (compTwo P ops i j fr k) σ=some res) (R:Rel ι W0 σ W) (r:FR ι W0.heap.size fr a.tmps)
  (hn:∀κ fr' σ' a' W',ι.le κ->Rel κ W0 σ' W'->FR κ W0.heap.size fr' a'.tmps->a'.defers=a.defers->bH (fun t=>∃o∈ops,o.dst=some t) fr fr'->exec cf N (k fr') σ'=some res->Q .normal a' W'):(Code.region id ops true).wp P Q a W:=by
 unfold compTwo at h;obtain⟨hc,h⟩:=fD h;simp only[Bool.and_eq_true,Nat.blt_eq]at hc;obtain⟨⟨⟨⟨⟨c3,hj⟩,b8⟩,hA⟩,hp⟩,hB⟩:=hc;unfold drawOk at hA hB;simp only[Bool.and_eq_true,CheckFast.beforeF_eq]at hA hB h;have b6:∀o∈bG ops j i,uI P o=true:=fun o ho=>by
  obtain⟨t,ht⟩:=Array.getElem?_of_mem ho;rw[eY,Option.map_eq_some_iff]at ht;obtain⟨o0,h1,rfl⟩:=ht;have:=List.all_eq_true.1 b8 o0 (Array.mem_toList_iff.2 (Array.mem_of_getElem? h1));cases Nat.beq t j<;>exact this
 have b0:∀o∈bG ops i j,uI P o=true:=fun o ho=>by obtain⟨t,ht⟩:=Array.getElem?_of_mem ho;rw[eY,Option.map_eq_some_iff]at ht;obtain⟨o0,h1,rfl⟩:=ht;have:=List.all_eq_true.1 b8 o0 (Array.mem_toList_iff.2 (Array.mem_of_getElem? h1));cases Nat.beq t i<;>exact this
 have a6:=perm_of hp;have dstE:∀{i j t:Nat},(∃o∈bG ops j i,o.dst=some t)->∃o∈ops,o.dst=some t:=fun {i j t} ⟨o,ho,hd⟩=>by obtain⟨u,hu⟩:=Array.getElem?_of_mem ho;rw[eY,Option.map_eq_some_iff]at hu;obtain⟨o0,h1,rfl⟩:=hu;refine⟨o0,Array.mem_of_getElem? h1,?_⟩;cases hb:Nat.beq u j<;>rw[hb]at hd<;>exact hd
 have movE:∀o∈bU (bG ops i j) (kO ops.size i j),∃o0∈bG ops i j,o=moved (kO ops.size i j) o0:=fun o ho=>by
  obtain⟨t',a0⟩:=Array.getElem?_of_mem ho;unfold bU at a0;rw[List.getElem?_toArray,List.getElem?_map]at a0;cases hx:(kO ops.size i j)[t']? with
  |none=>rw[hx]at a0;cases a0
  |some x=>rw[hx]at a0;simp only[Option.map_some,Option.some.injEq]at a0;have b9:=a6.lt x (List.mem_of_getElem? hx);refine⟨(bG ops i j)[x],Array.getElem_mem b9,?_⟩;rw[<-a0];simp[b9]
 simp only[exec]at h;split at h
 case h_2=>cases h
 rename_i e st σ2 hx;obtain⟨TA,a1,a2,a3,a4⟩:=kD _ 0 fr [] [] [] σ (jB _) (fun _ h=>h) h;have a8:(aY (bG ops j i)).length=(bG ops j i).size:=by have:=congrArg List.length (fW (bG ops j i));simpa using this
 rw[a8,Nat.zero_add]at a3;have a5:∀(t:Nat) o,(bG ops j i)[t]?=some o->mA P cf (bG ops j i) true TA t o:=by intro t o ho;have:=a4.step t (t,o) (by rw[dZ,ho];rfl);rw[Nat.zero_add]at this;exact this
 have kA:∀fr' σ',exec cf N (.get fun σ1=>grd (pY σ1 σ2&&eqvs (zN ops fr') st) (k fr')) σ'=some res->(pY σ' σ2=true/\zN ops fr'=st)/\exec cf N (k fr') σ'=some res:=fun fr' σ' hh=>by simp only[exec]at hh;unfold grd at hh;obtain⟨h1,h2⟩:=fD hh;rw[Bool.and_eq_true]at h1;exact⟨⟨h1.1,lU (fun _ _=>eqv_eq) _ _ h1.2⟩,h2⟩
 obtain⟨⟨q1,q2⟩,q3⟩:=kA _ _ a3;have sameA:bH (fun t=>∃o∈ops,o.dst=some t) fr (TA.F (bG ops j i).size):=by
  refine⟨?_,fun t ht=>?_⟩
  ·rw[<-a1];exact vo a5 _ (Nat.le_refl _)
  ·rw[<-a1];exact ya a5 (bG ops j i).size (Nat.zero_le _) (Nat.le_refl _) fun u o _ _ ho hd=>ht (dstE ⟨o,Array.mem_of_getElem? ho,hd⟩)
 have oldA:(TA.H (bG ops j i).size).old=σ.old:=by rw[vQ a5 b6 _ (Nat.le_refl _),a2]
 obtain⟨TB,b1,b2,b3,b4⟩:=kD _ 0 fr [] [] [] σ (jB _) (fun _ h=>h) hx;have a7:(aY (bU (bG ops i j) (kO ops.size i j))).length=(bU (bG ops i j) (kO ops.size i j)).size:=by have:=congrArg List.length (fW (bU (bG ops i j) (kO ops.size i j)));simpa using this
 rw[a7,Nat.zero_add]at b3;have a9:∀(t:Nat) o,(bU (bG ops i j) (kO ops.size i j))[t]?=some o->mA P cf (bU (bG ops i j) (kO ops.size i j)) true TB t o:=by intro t o ho;have:=b4.step t (t,o) (by rw[dZ,ho];rfl);rw[Nat.zero_add]at this;exact this
 have b5:∀o∈bU (bG ops i j) (kO ops.size i j),uI P o=true:=fun o ho=>by obtain⟨o0,h1,rfl⟩:=movE o ho;exact b0 o0 h1
 simp only[exec,Option.some.injEq,Prod.mk.injEq]at b3;have old2:σ2.old=σ.old:=by rw[<-b3.2,vQ a9 b5 _ (Nat.le_refl _),b2]
 have hh:TA.H (bG ops j i).size=σ2:=heapEq_eq q1 (oldA.trans old2.symm);rw[hh]at q3;refine zi hm (Nat.ne_of_lt c3) (by omega) hj ?_ ?_
 ·have:=nJ (ops:=bG ops j i) (late:=some σ.n) (Q:=Q) hG c0 hA.1.1 hA.1.2 (fun _=>hA.2) (fun n0 e=>by cases e;rfl) h R r fun κ fr' σ' a' W' g1 g2 g3 g4 g5 g6=>hn κ fr' σ' a' W' g1 g2 g3 g4 (g5.mono fun t ht=>dstE ht) (kA fr' σ' g6).2;rw[fK]at this;exact this
 ·have c1:(bU (bG ops i j) (kO ops.size i j)).size=ops.size:=by rw[a6.size,a6.len,fK]
  have mv:=wY (P:=P) a6 (Q:=Q) ops.size (Array.replicate ops.size false) (Array.replicate ops.size false) a {W with drawn:=W.drawn+1} (by rw[fK];simp) (by rw[fK];simp) (fun u hu d=>by have h1:=(kZ (a6.all u hu)).2;rw[a6.len,fK]at h1;rw[fK]at hu;simp[h1,hu]);refine mv ?_;have:=nJ (ops:=bU (bG ops i j) (kO ops.size i j)) (late:=some σ.n) (Q:=Q) hG c0 hB.1.1 hB.1.2 (fun _=>hB.2) (fun n0 e=>by cases e;rfl) hx R r fun κ fr' σ' a' W' g1 g2 g3 g4 g5 g6=>by
   simp only[exec,Option.some.injEq,Prod.mk.injEq]at g6;have g5':bH (fun t=>∃o∈ops,o.dst=some t) fr fr':=g5.mono fun t ⟨o,ho,hd⟩=>by
    obtain⟨o0,h1,rfl⟩:=movE o ho;exact dstE ⟨o0,h1,hd⟩
   have efr:TA.F (bG ops j i).size=fr':=frames_eq sameA g5' fun t ⟨o,ho,hd⟩=>by
    have hp:zN ops (TA.F (bG ops j i).size)=zN ops fr':=by rw[q2,g6.1.2]
    unfold zN at hp;have b7:=oP ops.toList [] t (.inr ⟨o,Array.mem_toList_iff.2 ho,hd⟩);exact(List.map_inj_left.1 hp) t b7
   exact hn κ fr' σ' a' W' g1 g2 g3 g4 g5' (by rw[<-efr,g6.2];exact q3)
  rw[c1]at this;exact this
theorem draw_sound{Q:Exit->Go.Act->World->Prop}{ι:Inj}{W:World}{σ:aC}{a:Go.Act}{id:Nat}{k:List Value->Pg}{fr:List Value}(hm:P.follows .mixedOrders=true)(hG:P.globals.size<=W0.heap.size)(a1:zI P W0 cf)
  (h:exec cf N (qM P ops true fr k) σ=some res) (R:Rel ι W0 σ W) (r:FR ι W0.heap.size fr a.tmps)
  (hn:∀κ fr' σ' a' W',ι.le κ->Rel κ W0 σ' W'->FR κ W0.heap.size fr' a'.tmps->a'.defers=a.defers->bH (fun t=>∃o∈ops,o.dst=some t) fr fr'->exec cf N (k fr') σ'=some res->Q .normal a' W'):(Code.region id ops true).wp P Q a W:=by
 unfold qM at h;simp only[cond_true,CheckFast.beforeF_eq]at h;cases h1:(cO (Region.before ops) ops (aY ops)&&dN P false (Region.before ops) (aY ops))with
 |true=>rw[h1]at h;rw[Bool.and_eq_true]at h1;exact wp_region_any hm (nJ (late:=none) hG a1 h1.1 h1.2 nofun nofun h R r hn)
 |false=>
  rw[h1]at h;simp only[cond_false]at h;cases h2:(cO (Region.before ops) ops (aY ops)&&dN P true (Region.before ops) (aY ops)&&eX P (Region.before ops) (aY ops))with
  |true=>rw[h2]at h;simp only[Bool.and_eq_true]at h2;exact wp_region_any hm (nJ (late:=some σ.n) hG a1 h2.1.1 h2.1.2 (fun _=>h2.2) (fun n0 e=>by cases e;rfl) h R r hn)
  |false=>
   rw[h2]at h;simp only[cond_false]at h;cases h3:(yT ops (canon P ops.size (aY ops) [])&&cO (Region.before (bU ops (canon P ops.size (aY ops) []))) (bU ops (canon P ops.size (aY ops) [])) (aY (bU ops (canon P ops.size (aY ops) [])))&&dN P true (Region.before (bU ops (canon P ops.size (aY ops) []))) (aY (bU ops (canon P ops.size (aY ops) [])))&&eX P (Region.before (bU ops (canon P ops.size (aY ops) []))) (aY (bU ops (canon P ops.size (aY ops) []))))with
   |false=>
    rw[h3]at h;simp only[cond_false]at h;split at h
    ·exact two_sound hm hG a1 h R r hn
    ·cases h
   |true=>
   rw[h3]at h;simp only[cond_true]at h;simp only[Bool.and_eq_true]at h3;obtain⟨⟨⟨h3,h4⟩,h5⟩,h6⟩:=h3;have hp:=perm_of h3;have a3:(bU ops (canon P ops.size (aY ops) [])).size=ops.size:=by rw[hp.size,hp.len]
   refine wp_region_any hm ?_;refine wY hp ops.size (Array.replicate ops.size false) (Array.replicate ops.size false) a _ (by simp) (by simp) (fun i hi d=>?_) ?_
   ·have h1:=(kZ (hp.all i hi)).2;rw[hp.len]at h1;simp[h1,hi]
   ·have:=nJ (late:=some σ.n) (Q:=Q) hG a1 h4 h5 (fun _=>h6) (fun n0 e=>by cases e;rfl) h R r fun κ fr' σ' a' W' g1 g2 g3 g4 g5 g6=>hn κ fr' σ' a' W' g1 g2 g3 g4 (g5.mono fun t ⟨o,ho,hd⟩=>?_) g6
    ·rw[a3]at this;exact this
    ·obtain⟨t',a0⟩:=Array.getElem?_of_mem ho;unfold bU at a0;rw[List.getElem?_toArray,List.getElem?_map]at a0;cases hx:(canon P ops.size (aY ops) [])[t']? with
     |none=>rw[hx]at a0;cases a0
     |some x=>rw[hx]at a0;simp only[Option.map_some,Option.some.injEq]at a0;subst a0;have a2:=hp.lt x (List.mem_of_getElem? hx);refine⟨ops[x],Array.getElem_mem a2,?_⟩;simpa[moved,a2]using hd
end
open Go
theorem least{p:Nat->Prop}(h:∃n,p n):∃n,p n/\∀m,p m->n<=m:=by
 obtain⟨n,hn⟩:=h;induction n using Nat.strongRecOn with
 |_ n ih=>
  by_cases hm:∃m,m<n/\p m
  ·obtain⟨m,h1,h2⟩:=hm;exact ih m h1 h2
  ·exact⟨n,hn,fun m h=>Nat.le_of_not_lt fun l=>hm ⟨m,l,h⟩⟩
open Classical in
theorem wp_loop_idx{P:Program}{Q:Exit->Go.Act->World->Prop}{c:Code}{a:Go.Act}{w:World}(J:Nat->Go.Act->World->Prop){n:Nat}(h0:J n a w)
  (round:∀n a w,J n a w->c.wp P (Exit.then (fun a' w'=>∃m,m<n/\J m a' w') Q) a w):(Code.loop c).wp P Q a w:=by
 refine wp_loop (fun a w=>∃n,J n a w) (fun a w=>if h:∃n,J n a w then Classical.choose (least h) else 0) ⟨n,h0⟩ ?_;intro a w h;have hs:=Classical.choose_spec (least h);refine wp_mono (round _ a w hs.1) ?_;intro e a' w' q;cases e with
 |normal=>obtain⟨m,hm,hj⟩:=q;refine⟨⟨m,hj⟩,?_⟩;have h':∃n,J n a' w':=⟨m,hj⟩;rw[dif_pos h',dif_pos h];exact Nat.lt_of_le_of_lt ((Classical.choose_spec (least h')).2 m hj) hm
 |_=>exact q
def Ex.out:Ex->Exit
 |.normal=>.normal
 |.ret=>.ret
 |.exit i=>.exit i
def Wr:Code->Nat->Prop
 |.region _ ops _,t=>∃o∈ops,o.dst=some t
 |.seq a b,t=>Wr a t\/Wr b t
 |.cond _ a b,t=>Wr a t\/Wr b t
 |.block _ a,t|.loop a,t|.scope a,t=>Wr a t
 |_,_=>False
theorem mem_addTo{l:List Nat}{x t:Nat}:t∈ww l x↔t∈l\/t=x:=by
 unfold ww;cases h:uB x l with
 |true=>simp only[cond_true];refine⟨.inl,fun h'=>h'.elim id ?_⟩;rintro rfl;exact qE.1 h
 |false=>simp only[cond_false,List.mem_cons];exact or_comm
theorem qG{t:Nat}:∀(l:List Oper) (acc:List Nat),t∈fT l acc↔t∈acc\/∃o∈l,o.dst=some t
 |[],acc=>by simp[fT]
 |o::l,acc=>by
  unfold fT;rw[qG l];cases hd:o.dst with
  |none=>
   simp only;constructor
   ·rintro(h|⟨o',h1,h2⟩)
    ·exact .inl h
    ·exact .inr ⟨o',by simp[h1],h2⟩
   ·rintro(h|⟨o',h1,h2⟩)
    ·exact .inl h
    ·rcases List.mem_cons.1 h1 with rfl|h1
     ·rw[hd]at h2;cases h2
     ·exact .inr ⟨o',h1,h2⟩
  |some d=>
   simp only[mem_addTo];constructor
   ·rintro((h|rfl)|⟨o',h1,h2⟩)
    ·exact .inl h
    ·exact .inr ⟨o,by simp,hd⟩
    ·exact .inr ⟨o',by simp[h1],h2⟩
   ·rintro(h|⟨o',h1,h2⟩)
    ·exact .inl (.inl h)
    ·rcases List.mem_cons.1 h1 with rfl|h1
     ·rw[hd]at h2;cases h2;exact .inl (.inr rfl)
     ·exact .inr ⟨o',h1,h2⟩
theorem fU{t:Nat}:∀(c:Code) (acc:List Nat),t∈written c acc↔t∈acc\/Wr c t:=by
 intro c;induction c with
 |region id ops draw=>intro acc;simp only[written,qG,Wr,Array.mem_toList_iff]
 |seq a b iha ihb=>intro acc;simp only[written,iha,ihb,Wr,or_assoc]
 |cond c a b iha ihb=>intro acc;simp only[written,iha,ihb,Wr,or_assoc]
 |block id a ih=>intro acc;simp only[written,ih,Wr]
 |loop a ih=>intro acc;simp only[written,ih,Wr]
 |scope a ih=>intro acc;simp only[written,ih,Wr]
 |_=>intro acc;simp[written,Wr]
theorem mT{w:Nat->Prop}:∀(ws:List Nat) (fr:List Value),(∀t∈ws,w t)->bH w fr (poison fr ws)
 |[],fr,_=>.refl _ _
 |t::ws,fr,h=>(bH.set fr top (h t (by simp))).trans (mT ws _ fun u hu=>h u (by simp[hu]))
theorem tW{w:Nat->Prop}:∀(ws:List Nat) (fr vs:List Value),(∀t∈ws,w t)->bH w fr (uD fr ws vs)
 |[],fr,vs,_=>by cases vs<;>exact .refl _ _
 |t::ws,fr,[],_=>.refl _ _
 |t::ws,fr,v::vs,h=>(bH.set fr v (h t (by simp))).trans (tW ws _ vs fun u hu=>h u (by simp[hu]))
theorem iO{fast:Bool}{c:Code}{ws:List Nat}{fr fr':List Value}(h:bH (Wr c) fr fr')(a0:∀t∈ws,Wr c t):bH (Wr c) fr (unpack fast c ws fr (pack fast ws fr')):=by
 unfold unpack pack;cases fast with
 |true=>exact h
 |false=>exact(mT _ fr fun t ht=>((fU c []).1 ht).resolve_left (by simp)).trans (tW ws _ _ a0)
theorem poison_get:∀(ws:List Nat) (fr:List Value) (t:Nat),t<fr.length->t∈ws->getD (poison fr ws) t=top:=by
 intro ws;induction ws with
 |nil=>intro fr t _ h;cases h
 |cons w ws ih=>
  intro fr t hl h;unfold poison;by_cases hm:t∈ws
  ·exact ih _ t (by rw[kG];exact hl) hm
  ·have:t=w:=by
    rcases List.mem_cons.1 h with h|h
    ·exact h
    ·exact absurd h hm
   subst this;rw[(mT (w:=fun u=>u∈ws) ws (lF fr t top) fun _ h=>h).2 t hm,kY,if_pos ⟨rfl,hl⟩]
theorem yy{κ:Inj}{B:Nat}{fr':List Value}{ts:Array Value}(r:FR κ B fr' ts):∀(ws:List Nat) (b:List Value),FR κ B b ts->FR κ B (uD b ws (ws.map (getD fr'))) ts
 |[],b,h=>h
 |w::ws,b,h=>by
  show FR κ B (uD (lF b w (getD fr' w)) ws (ws.map (getD fr'))) ts;refine yy r ws _ ⟨by rw[kG];exact h.1,fun t=>?_⟩;rw[kY];split
  ·rename_i e;rw[e.1];exact r.2 w
  ·exact h.2 t
theorem lD{κ:Inj}{B:Nat}{fast:Bool}{c:Code}{ws:List Nat}{fr fr':List Value}{ts:Array Value}(h:bH (Wr c) fr fr')(r:FR κ B fr' ts):FR κ B (unpack fast c ws fr (pack fast ws fr')) ts:=by
 unfold unpack pack;cases fast with
 |true=>exact r
 |false=>
  refine yy r ws _ ?_;have hp:=mT (w:=Wr c) (written c []) fr fun t ht=>((fU c []).1 ht).resolve_left (by simp);refine⟨by rw[hp.1,<-h.1];exact r.1,fun t=>?_⟩;by_cases hw:Wr c t
  ·by_cases hl:t<fr.length
   ·rw[poison_get _ fr t hl ((fU c []).2 (.inr hw))];exact .top _
   ·have h1:=hp.1;rw[getD_ge (by rw[h1];exact hl)];have:ts.getD t Go.undef=Go.undef:=by
     have:¬t<ts.size:=by have:=r.1;have:=h.1;omega
     simp[Array.getD,this]
    rw[this];exact VR.undef
  ·rw[hp.2 t hw,<-h.2 t hw];exact r.2 t
theorem Ex.beq_eq{a b:Ex}(h:Ex.beq a b=true):a=b:=by cases a<;>cases b<;>first|rfl|(cases h;done)|(rw[Nat.eq_of_beq_eq_true h])
section
variable{P:Program}{W0:World}{cf:gO}{N:Nat}
theorem tO{fast:Bool}{c:Code}{ex:Ex}{f:Ex->Pg}{σ:aC}{res:(Ex×List Value)×aC}(h:exec cf N (exK fast c ex f) σ=some res):exec cf N (f ex) σ=some res:=by
 unfold exK at h;cases fast with
 |true=>exact h
 |false=>
  simp only[cond_false]at h;generalize exits c=l at h;induction l with
  |nil=>cases h
  |cons e r ih=>
   unfold zG at h;cases hb:Ex.beq ex e with
   |true=>rw[hb]at h;rw[Ex.beq_eq hb];exact h
   |false=>rw[hb]at h;exact ih h
theorem gM{fast:Bool}{c:Code}{ws:List Nat}{fr st:List Value}{k:List Value->Pg}{σ:aC}{res:(Ex×List Value)×aC}(h:exec cf N (mN P fast c ws fr st k) σ=some res):exec cf N (k (unpack fast c ws fr st)) σ=some res:=by
 unfold mN at h;cases fast with
 |true=>exact h
 |false=>exact wL (P:=P) (tysOf P c ws) _ (fun vs=>k (unpack false c ws fr vs)) h
def After(W0:World)(cf:gO)(N:Nat)(c:Code)(fr:List Value)(k:Ex->List Value->Pg)(res:(Ex×List Value)×aC)(ι:Inj)(d:List Deferred)(Q:Exit->Go.Act->World->Prop):Prop:=
 ∀κ ex fr' σ' a' W',ι.le κ->Rel κ W0 σ' W'->FR κ W0.heap.size fr' a'.tmps->a'.defers=d->bH (Wr c) fr fr'->exec cf N (k ex fr') σ'=some res->Q ex.out a' W'
theorem code_sound(hm:P.follows .mixedOrders=true)(hG:P.globals.size<=W0.heap.size)(a4:zI P W0 cf)(fast:Bool):∀(c:Code) (out:Ex->List Nat) (fr:List Value) (k:Ex->List Value->Pg) (σ:aC) (ι:Inj) (W:World) (a:Go.Act) (Q:Exit->Go.Act->World->Prop) res,
  exec cf N (comp P fast c out fr k) σ=some res->Rel ι W0 σ W->FR ι W0.heap.size fr a.tmps->After W0 cf N c fr k res ι a.defers Q->c.wp P Q a W:=by
 intro c;induction c with
 |skip=>intro out fr k σ ι W a Q res h R r hn;exact wp_skip (hn ι .normal fr σ a W ι.le_refl R r rfl (.refl _ _) h)
 |label l=>intro out fr k σ ι W a Q res h R r hn;exact wp_label (hn ι .normal fr σ a W ι.le_refl R r rfl (.refl _ _) h)
 |exit i=>intro out fr k σ ι W a Q res h R r hn;exact wp_exit (hn ι (.exit i) fr σ a W ι.le_refl R r rfl (.refl _ _) h)
 |ret=>intro out fr k σ ι W a Q res h R r hn;exact wp_ret (hn ι .ret fr σ a W ι.le_refl R r rfl (.refl _ _) h)
 |region id ops draw=>
  intro out fr k σ ι W a Q res h R r hn;have plain:∀(k:List Value->Pg) (σ:aC) (res:(Ex×List Value)×aC),exec cf N (qM P ops draw fr k) σ=some res->Rel ι W0 σ W->(∀κ fr' σ' a' W',ι.le κ->Rel κ W0 σ' W'->FR κ W0.heap.size fr' a'.tmps->a'.defers=a.defers->bH (fun t=>∃o∈ops,o.dst=some t) fr fr'->exec cf N (k fr') σ'=some res->Q .normal a' W')->(Code.region id ops draw).wp P Q a W:=by
   intro k σ res h R a3;cases draw with
   |false=>exact region_sound hG a4 h R r a3
   |true=>exact draw_sound hm hG a4 h R r a3
  simp only[comp]at h;cases hj:(!fast&&parts ops draw)with
  |false=>rw[hj]at h;exact plain _ σ res h R fun κ fr' σ' a' W' h1 h2 h3 h4 h5 h6=>hn κ .normal fr' σ' a' W' h1 h2 h3 h4 h5 h6
  |true=>
   rw[hj]at h;simp only[cond_true,exec]at h;split at h
   ·rename_i e vs σ1 hx;have h:=gM (tO h);have a0:∀u∈carried fast (.region id ops draw) out,Wr (.region id ops draw) u:=by
     intro u hu;unfold carried at hu;cases fast with
     |true=>cases hu
     |false=>exact((fU (.region id ops draw) []).1 (List.mem_filter.1 hu).1).resolve_left (by simp)
    refine plain _ σ _ hx R fun κ fr' σ' a' W' h1 h2 h3 h4 h5 h6=>?_;simp only[exec,Option.some.injEq,Prod.mk.injEq]at h6;obtain⟨⟨rfl,rfl⟩,rfl⟩:=h6;have h5:bH (Wr (.region id ops draw)) fr fr':=h5;exact hn κ .normal _ σ' a' W' h1 h2 (lD h5 h3) h4 (iO h5 a0) h
   ·cases h
 |seq x y ihx ihy=>
  intro out fr k σ ι W a Q res h R r hn;refine wp_seq (ihx _ fr _ σ ι W a _ res h R r ?_);intro κ ex fr' σ' a' W' h1 h2 h3 h4 h5 h6;have s1:bH (Wr (.seq x y)) fr fr':=h5.mono fun t=>.inl;cases ex with
  |normal=>exact ihy _ fr' k σ' κ W' a' Q res h6 h2 h3 fun μ ex fr'' σ'' a'' W'' g1 g2 g3 g4 g5 g6=>hn μ ex fr'' σ'' a'' W'' (Inj.le_trans h1 g1) g2 g3 (g4.trans h4) (s1.trans (g5.mono fun t=>.inr)) g6
  |ret=>exact hn κ .ret fr' σ' a' W' h1 h2 h3 h4 s1 h6
  |exit i=>exact hn κ (.exit i) fr' σ' a' W' h1 h2 h3 h4 s1 h6
 |scope x ih=>intro out fr k σ ι W a Q res h R r hn;refine wp_scope_straight (ih out fr k σ ι W a _ res h R r ?_);intro κ ex fr' σ' a' W' h1 h2 h3 h4 h5 h6;have:=hn κ ex fr' σ' a' W' h1 h2 h3 h4 h5 h6;cases ex<;>exact this
 |cond c x y ihx ihy=>
  intro out fr k σ ι W a Q res h R r hn;have hv:=gS hG r c;simp only[comp]at h;split at h
  ·rename_i t ht;rw[ht]at hv;have he:a.eval c=.bool t:=by generalize a.eval c=v at hv ⊢;cases hv;rfl
   cases hj:(!fast&&exIn .normal (exits x)&&exIn .normal (exits y))with
   |false=>
    rw[hj]at h;simp only[cond_false]at h;cases t with
    |true=>exact wp_cond_true he (ihx out fr k σ ι W a Q res h R r fun κ ex fr' σ' a' W' h1 h2 h3 h4 h5 h6=>hn κ ex fr' σ' a' W' h1 h2 h3 h4 (h5.mono fun t=>.inl) h6)
    |false=>exact wp_cond_false he (ihy out fr k σ ι W a Q res h R r fun κ ex fr' σ' a' W' h1 h2 h3 h4 h5 h6=>hn κ ex fr' σ' a' W' h1 h2 h3 h4 (h5.mono fun t=>.inr) h6)
   |true=>
    rw[hj]at h;simp only[cond_true,exec]at h;split at h
    ·rename_i e vs σ1 hx;have h:=gM (tO h);have a0:∀u∈carried fast (.cond c x y) out,Wr (.cond c x y) u:=by
      intro u hu;unfold carried at hu;cases fast with
      |true=>cases hu
      |false=>exact((fU (.cond c x y) []).1 (List.mem_filter.1 hu).1).resolve_left (by simp)
     have fin:∀(κ:Inj) (ex:Ex) (fr':List Value) (σ':aC) (a':Go.Act) (W':World),ι.le κ->Rel κ W0 σ' W'->FR κ W0.heap.size fr' a'.tmps->a'.defers=a.defers->bH (Wr (.cond c x y)) fr fr'->
       exec cf N (.ret ex (pack fast (carried fast (.cond c x y) out) fr')) σ'=some ((e,vs),σ1)->Q ex.out a' W':=by
      intro κ ex fr' σ' a' W' h1 h2 h3 h4 h5 h6;simp only[exec,Option.some.injEq,Prod.mk.injEq]at h6;obtain⟨⟨rfl,rfl⟩,rfl⟩:=h6;exact hn κ ex _ σ' a' W' h1 h2 (lD h5 h3) h4 (iO h5 a0) h
     cases t with
     |true=>exact wp_cond_true he (ihx out fr _ σ ι W a Q _ hx R r fun κ ex fr' σ' a' W' h1 h2 h3 h4 h5 h6=>fin κ ex fr' σ' a' W' h1 h2 h3 h4 (h5.mono fun t=>.inl) h6)
     |false=>exact wp_cond_false he (ihy out fr _ σ ι W a Q _ hx R r fun κ ex fr' σ' a' W' h1 h2 h3 h4 h5 h6=>fin κ ex fr' σ' a' W' h1 h2 h3 h4 (h5.mono fun t=>.inr) h6)
    ·cases h
  ·cases h
 |block id x ih=>
  intro out fr k σ ι W a Q res h R r hn;simp only[comp]at h;have nb:∀{i:Nat},i≠id->Nat.beq i id=false:=by
   intro i hi;cases hb:Nat.beq i id with
   |true=>exact absurd (Nat.eq_of_beq_eq_true hb) hi
   |false=>rfl
  cases hj:(fast||isLoop x)with
  |true=>
   rw[hj]at h;simp only[cond_true]at h;refine wp_block (ih _ fr _ σ ι W a _ res h R r ?_);intro κ ex fr' σ' a' W' h1 h2 h3 h4 h5 h6;cases ex with
   |normal=>exact hn κ .normal fr' σ' a' W' h1 h2 h3 h4 h5 h6
   |ret=>exact hn κ .ret fr' σ' a' W' h1 h2 h3 h4 h5 h6
   |exit i=>
    by_cases hi:i=id
    ·subst hi;simp only[Nat.beq_refl,cond_true]at h6;simp only[Ex.out,Exit.inBlock,if_true];exact hn κ .normal fr' σ' a' W' h1 h2 h3 h4 h5 h6
    ·simp only[nb hi,cond_false]at h6;simp only[Ex.out,Exit.inBlock,if_neg hi];exact hn κ (.exit i) fr' σ' a' W' h1 h2 h3 h4 h5 h6
  |false=>
   rw[hj]at h;simp only[cond_false,exec]at h;split at h
   ·rename_i e vs σ1 hx;have h:=gM (tO h);have a0:∀u∈carried fast (.block id x) out,Wr (.block id x) u:=by
     intro u hu;unfold carried at hu;cases fast with
     |true=>cases hu
     |false=>exact((fU (.block id x) []).1 (List.mem_filter.1 hu).1).resolve_left (by simp)
    refine wp_block (ih _ fr _ σ ι W a _ _ hx R r ?_);have fin:∀(κ:Inj) (ex:Ex) (fr':List Value) (σ':aC) (a':Go.Act) (W':World),ι.le κ->Rel κ W0 σ' W'->FR κ W0.heap.size fr' a'.tmps->a'.defers=a.defers->bH (Wr (.block id x)) fr fr'->
      exec cf N (.ret ex (pack fast (carried fast (.block id x) out) fr')) σ'=some ((e,vs),σ1)->Q ex.out a' W':=by
     intro κ ex fr' σ' a' W' h1 h2 h3 h4 h5 h6;simp only[exec,Option.some.injEq,Prod.mk.injEq]at h6;obtain⟨⟨rfl,rfl⟩,rfl⟩:=h6;exact hn κ ex _ σ' a' W' h1 h2 (lD h5 h3) h4 (iO h5 a0) h
    intro κ ex fr' σ' a' W' h1 h2 h3 h4 h5 h6;cases ex with
    |normal=>exact fin κ .normal fr' σ' a' W' h1 h2 h3 h4 h5 h6
    |ret=>exact fin κ .ret fr' σ' a' W' h1 h2 h3 h4 h5 h6
    |exit i=>
     by_cases hi:i=id
     ·subst hi;simp only[Nat.beq_refl,cond_true]at h6;simp only[Ex.out,Exit.inBlock,if_true];exact fin κ .normal fr' σ' a' W' h1 h2 h3 h4 h5 h6
     ·simp only[nb hi,cond_false]at h6;simp only[Ex.out,Exit.inBlock,if_neg hi];exact fin κ (.exit i) fr' σ' a' W' h1 h2 h3 h4 h5 h6
   ·cases h
 |loop x ih=>
  intro out fr k σ ι W a Q res h R r hn;simp only[comp,exec]at h;have a0:∀u∈uN fast x out,Wr (.loop x) u:=by
   intro u hu;unfold uN at hu;cases fast with
   |true=>cases hu
   |false=>exact((fU x []).1 (List.mem_filter.1 hu).1).resolve_left (by simp)
  generalize a5:uN fast x out=ws at h a0;split at h
  ·rename_i e vs σ1 a7;have h:=gM (tO h);refine wp_loop_idx (n:=N) (fun n a1 W1=>∃κ st σ2,ι.le κ/\Rel κ W0 σ2 W1/\FR κ W0.heap.size (unpack fast (.loop x) ws fr st) a1.tmps/\bH (Wr (.loop x)) fr (unpack fast (.loop x) ws fr st)/\a1.defers=a.defers/\iter (fun st σ=>exec cf N (mN P fast (.loop x) ws fr st fun fr=>comp P fast x (fun
    |.normal=>live (.loop x) out
    |e=>out e) fr fun ex fr=>.ret ex (pack fast ws fr)) σ) n st σ2=some ((e,vs),σ1)) ⟨ι,pack fast ws fr,σ,ι.le_refl,R,lD (.refl _ _) r,iO (.refl _ _) a0,rfl,a7⟩ ?_
   rintro n a1 W1 ⟨κ,st,σ2,h1,h2,h3,a2,h4,h5⟩;cases n with
   |zero=>cases h5
   |succ n=>
    simp only[iter]at h5;split at h5
    ·rename_i st' σ' hb;refine ih _ _ _ σ2 κ W1 a1 _ _ (gM hb) h2 h3 ?_;intro μ ex fr' σ'' a' W' g1 g2 g3 g4 gs g5;simp only[exec,Option.some.injEq,Prod.mk.injEq]at g5;obtain⟨⟨rfl,rfl⟩,rfl⟩:=g5;have sb:bH (Wr (.loop x)) fr fr':=a2.trans gs;exact⟨n,Nat.lt_succ_self n,μ,pack fast ws fr',σ'',Inj.le_trans h1 g1,g2,lD sb g3,iO sb a0,g4.trans h4,h5⟩
    ·rename_i a6;refine ih _ _ _ σ2 κ W1 a1 _ _ (gM h5) h2 h3 ?_;intro μ ex fr' σ'' a' W' g1 g2 g3 g4 gs g5;simp only[exec,Option.some.injEq,Prod.mk.injEq]at g5;obtain⟨⟨rfl,rfl⟩,rfl⟩:=g5;have sb:bH (Wr (.loop x)) fr fr':=a2.trans gs;have:=hn μ ex _ σ'' a' W' (Inj.le_trans h1 g1) g2 (lD sb g3) (g4.trans h4) (iO sb a0) h;cases ex with
     |normal=>exact(a6 _ _ h5).elim
     |ret=>exact this
     |exit i=>exact this
  ·cases h
 |_=>intro out fr k σ ι W a Q res h R r hn;cases h
end
section
variable{P:Program}{W0:World}{cf:gO}{N:Nat}
def uH(P:Program):Prop:=(P.funcs.toList.all fun fn=>!(fn.name== "runtime.NumGoroutine"))=true
theorem ue{f:FuncId}{fn:Func}{c:Code}(hn:uH P)(hf:P.funcs[f]?=some fn)(hb:fn.body=some c)(args:Array Value)(w:World):(callFunc f args).run P w=.ok (.enter f args) w:=by
 have h0:fn∈P.funcs.toList:=by have:=Array.mem_of_getElem? hf;simpa using this
 unfold uH at hn;rw[List.all_eq_true]at hn;have h1:fn.name≠ "runtime.NumGoroutine" :=by simpa using hn fn h0
 simp[callFunc,hf,h1,hb]
def tup:List Value->Value
 |[v]=>v
 |vs=>.tuple vs.toArray
def mY(tmps:Array Value)(r:ResultVar):Sem Value:=
 match r with
 |.tmp t=>pure (tmps.getD t undef)
 |.cell a t=>do loadVar t (<-asAddr (tmps.getD a undef))
theorem results_run(fn:Func)(tmps:Array Value)(w:World)(vs:List Value)(h:(fn.results.toList.mapM (mY tmps)).run P w=.ok vs w):
  (results fn tmps).run P w=.ok (tup vs) w:=by
 have e:results fn tmps=(do
   let l<-fn.results.toList.mapM (mY tmps)
   pure (tup l)):=by
  unfold results;have e1:fn.results.mapM (mY tmps)=List.toArray<$>fn.results.toList.mapM (mY tmps):=by
   rw[<-List.mapM_toArray,Array.toArray_toList]
  show(fn.results.mapM (mY tmps) >>= fun vs=>pure (if h:vs.size=1 then vs[0] else .tuple vs))=_;rw[e1,map_eq_pure_bind,bind_assoc];simp only[pure_bind]
  congr 1
  funext l
  congr 1
  rcases l with _|⟨a,_|⟨b,l⟩⟩<;>simp[tup]
 rw[e,Sem.run_bind,h];try rfl
theorem rX{κ:Inj}{σ:aC}{W:World}{fr:List Value}{ts:Array Value}(R:Rel κ W0 σ W)(r:FR κ W0.heap.size fr ts):∀(rs:List ResultVar) (vs vs':List Value) (e:Ex) (v:Value) (σ':aC),
  exec cf N (retP P rs fr vs) σ=some ((e,[v]),σ')->VRL κ W0.heap.size vs vs'->σ'=σ/\∃us,(rs.mapM (mY ts)).run P W=.ok us W/\VR κ W0.heap.size v (tup (vs'++us))
 |[],vs,vs',e,v,σ',h,hv=>by
  simp only[retP,exec,Option.some.injEq,Prod.mk.injEq,List.cons.injEq,and_true]at h;obtain⟨⟨_,rfl⟩,rfl⟩:=h;refine⟨rfl,[],rfl,?_⟩;rw[List.append_nil];rcases vs with _|⟨a,_|⟨b,l⟩⟩
  ·rw[hv.nil_inv];exact VRL.tuple .nil
  ·obtain⟨a',m,rfl,h1,h2⟩:=hv.cons_inv;rw[h2.nil_inv];exact h1
  ·obtain⟨a',m,rfl,h1,h2⟩:=hv.cons_inv;obtain⟨b',m',rfl,h3,h4⟩:=h2.cons_inv;exact VRL.tuple (.cons h1 (.cons h3 h4))
 |.tmp t::rs,vs,vs',e,v,σ',h,hv=>by
  unfold retP at h;obtain⟨h1,us,h2,h3⟩:=rX R r rs _ (vs'++[ts.getD t undef]) e v σ' h (hv.append (.cons (r.2 t) .nil));refine⟨h1,ts.getD t undef::us,?_,?_⟩
  ·rw[List.mapM_cons];show(pure (ts.getD t undef) >>= fun a=>rs.mapM (mY ts) >>= fun l=>pure (a::l):Sem (List Value)).run P W=_;rw[pure_bind,Sem.run_bind,h2];try rfl
  ·rw[List.append_assoc]at h3;exact h3
 |.cell a t::rs,vs,vs',e,v,σ',h,hv=>by
  unfold retP at h;split at h
  ·rename_i a0 ha;unfold aD at h;split at h
   ·rename_i a1;simp only[exec]at h;split at h
    ·rename_i x σ1 hx;have hp:=r.2 a;rw[ha]at hp;obtain⟨a',a5,a4⟩:∃a',ts.getD a undef=.pointer (some a')/\AR κ W0.heap.size a1 a':=by
      generalize ts.getD a undef=y at hp;cases hp with
      |ptr h=>exact⟨_,rfl,h⟩
     obtain⟨h1,x',a3,a2⟩:=ld_sound (P:=P) R a4 hx;subst h1;obtain⟨h1,us,h2,h3⟩:=rX R r rs _ (vs'++[x']) e v σ' h (hv.append (.cons a3 .nil));refine⟨h1,x'::us,?_,?_⟩
     ·rw[List.mapM_cons];show((do loadVar t (<-asAddr (ts.getD a undef))) >>= fun a=>rs.mapM (mY ts) >>= fun l=>pure (a::l):Sem (List Value)).run P W=_;rw[a5];show((pure a' >>= fun y=>loadVar t y) >>= fun a=>rs.mapM (mY ts) >>= fun l=>pure (a::l):Sem (List Value)).run P W=_;rw[pure_bind,Sem.run_bind,a2];show(rs.mapM (mY ts) >>= fun l=>pure (x'::l):Sem (List Value)).run P W=_;rw[Sem.run_bind,h2];try rfl
     ·rw[List.append_assoc]at h3;exact h3
    ·cases h
   ·cases h
  ·cases h
def vh(P:Program)(W0:World)(ov:Ov):Prop:=
 ∀f g,ov f=some g->∀args σ v σ',g args σ=some (v,σ')->∀(ι:Inj) (W:World) (args':Array Value),Rel ι W0 σ W->VRL ι W0.heap.size args args'.toList->
  (callFunc f args').run P W=.ok (.enter f args') W/\Calls P f args' W fun e w'=>∃v' κ,e=.returned v'/\ι.le κ/\VR κ W0.heap.size v v'/\Rel κ W0 σ' w'
theorem getD_append(l m:List Value)(t:Nat):getD (l++m) t=if t<l.length then getD l t else getD m (t-l.length):=by
 rw[qY,qY,qY];split
 ·rename_i h;rw[List.getElem?_append_left h]
 ·rename_i h;rw[List.getElem?_append_right (by omega)]
theorem start_FR{ι:Inj}{B:Nat}{args:List Value}{args':Array Value}(n:Nat)(hA:VRL ι B args args'.toList):FR ι B (args++List.replicate (n-args.length) undef') (args'++Array.replicate (n-args'.size) undef):=by
 have hl:args.length=args'.size:=by have:=hA.1;simpa using this
 refine⟨by simp[hl],fun t=>?_⟩;rw[getD_append];by_cases ht:t<args.length
 ·rw[if_pos ht];have e1:(args'++Array.replicate (n-args'.size) undef).getD t undef=args'[t]'(by omega):=by
   have:t<args'.size:=by omega
   rw[Array.getD_eq_getD_getElem?,Array.getElem?_append_left this,Array.getElem?_eq_getElem this];try rfl
  rw[e1,qY,List.getElem?_eq_getElem ht];exact hA.2 t args[t] _ (List.getElem?_eq_getElem ht) (by simp[show t<args'.size by omega])
 ·rw[if_neg ht];have e1:getD (List.replicate (n-args.length) undef') (t-args.length)=.tuple #[]:=by rw[qY,List.getElem?_replicate];split<;>rfl
  have e2:(args'++Array.replicate (n-args'.size) undef).getD t undef=undef:=by rw[Array.getD_eq_getD_getElem?,Array.getElem?_append,if_neg (by omega),Array.getElem?_replicate];split<;>rfl
  rw[e1,e2];exact VR.undef
theorem prog_sound{f:FuncId}{args:List Value}{fast:Bool}{σ σ':aC}{v:Value}{e:Ex}(hn:uH P)(hm:P.follows .mixedOrders=true)(hG:P.globals.size<=W0.heap.size)(a0:zI P W0 cf)
  (h:exec cf N (nX P fast f args) σ=some ((e,[v]),σ')) {ι:Inj} {W:World} {args':Array Value} (R:Rel ι W0 σ W) (hA:VRL ι W0.heap.size args args'.toList):
  (callFunc f args').run P W=.ok (.enter f args') W/\Calls P f args' W fun e w'=>∃v' κ,e=.returned v'/\ι.le κ/\VR κ W0.heap.size v v'/\Rel κ W0 σ' w':=by
 unfold nX at h;split at h
 ·cases h
 ·rename_i fn hf;split at h
  ·cases h
  ·rename_i c hb;refine⟨ue hn hf hb args' W,calls_of_wp hf hb (code_sound hm hG a0 fast c _ _ _ σ ι W _ _ _ h R (start_FR fn.ntmps hA) ?_)⟩;intro κ ex fr' σ2 a' W' h1 h2 h3 h4 _ h6;have fin:∀{x:Ex},exec cf N (retP P fn.results.toList fr' []) σ2=some ((x,[v]),σ')->a'.defers=[]/\∃u,(results fn a'.tmps).run P W'=.ok u W'/\∃v' κ,Ending.returned u=.returned v'/\ι.le κ/\VR κ W0.heap.size v v'/\Rel κ W0 σ' W':=by intro x h;obtain⟨rfl,us,g1,g2⟩:=rX h2 h3 _ _ [] _ _ _ h .nil;exact⟨h4,_,results_run fn _ _ us g1,_,κ,rfl,h1,g2,h2⟩
   cases ex with
   |normal=>exact fin h6
   |ret=>exact fin h6
   |exit i=>cases h6
theorem sY{ov:Ov}{fast:Bool}(hn:uH P)(hm:P.follows .mixedOrders=true)(hG:P.globals.size<=W0.heap.size)(a0:vh P W0 ov):∀n,zI P W0 (kP P ov fast n)
 |0=>fun f args σ v σ' h=>by cases h
 |n+1=>by
  intro f args σ v σ' h ι W args' R hA;unfold kP at h;split at h
  ·rename_i g hg;exact a0 f g hg args σ v σ' h ι W args' R hA
  ·split at h
   ·rename_i hx;simp only[Option.some.injEq,Prod.mk.injEq]at h;obtain⟨rfl,rfl⟩:=h;exact prog_sound hn hm hG (sY hn hm hG a0 n) hx R hA
   ·cases h
end
section
variable(P:Program)(ov:Ov)
def EvF(f:FuncId)(args:List Value)(σ:aC)(v:Value)(σ':aC):Prop:=∃n0,∀n,n0<=n->kP P ov false n f args σ=some (v,σ')
def WpF(f:FuncId)(args:List Value)(σ:aC)(Q:Value->aC->Prop):Prop:=∃v σ',EvF P ov f args σ v σ'/\Q v σ'
abbrev bW:=Ex->List Value->aC->Prop
def It(B:List Value->aC->bW->Prop):Nat->List Value->aC->bW->Prop
 |0,_,_,_=>False
 |n+1,st,σ,Q=>B st σ fun e st' σ'=>match e with
  |.normal=>It B n st' σ' Q
  |e=>Q e st' σ'
def Wp:Pg->aC->bW->Prop
 |.ret e vs,σ,Q=>Q e vs σ
 |.fail,_,_=>False
 |.act h k,σ,Q=>match h σ with
  |some (v,σ')=>Wp (k v) σ' Q
  |none=>False
 |.get k,σ,Q=>Wp (k σ) σ Q
 |.call f args k,σ,Q=>WpF P ov f args σ fun v σ'=>Wp (k v) σ' Q
 |.join p k,σ,Q=>Wp p σ fun e vs σ'=>Wp (k e vs) σ' Q
 |.loop st body k,σ,Q=>∃m,It (fun st σ Q=>Wp (body st) σ Q) m st σ fun e vs σ'=>Wp (k e vs) σ' Q
end
section
variable{P:Program}{ov:Ov}
theorem It.mono{B:List Value->aC->bW->Prop}(hB:∀st σ (Q Q':bW),(∀e vs σ,Q e vs σ->Q' e vs σ)->B st σ Q->B st σ Q'):∀(n:Nat) (st:List Value) (σ:aC) (Q Q':bW),(∀e vs σ,Q e vs σ->Q' e vs σ)->It B n st σ Q->It B n st σ Q'
 |0,_,_,_,_,_,h=>h
 |n+1,st,σ,Q,Q',hQ,h=>by
  unfold It at h ⊢;refine hB st σ _ _ ?_ h;intro e vs σ' h;cases e with
  |normal=>exact It.mono hB n vs σ' Q Q' hQ h
  |ret=>exact hQ _ _ _ h
  |exit i=>exact hQ _ _ _ h
theorem Wp.mono:∀(p:Pg) (σ:aC) (Q Q':bW),(∀e vs σ,Q e vs σ->Q' e vs σ)->Wp P ov p σ Q->Wp P ov p σ Q':=by
 intro p;induction p with
 |ret e vs=>intro σ Q Q' hQ h;exact hQ _ _ _ h
 |fail=>intro σ Q Q' hQ h;exact h
 |act a k ih=>
  intro σ Q Q' hQ h;unfold Wp at h ⊢;split at h
  ·exact ih _ _ _ _ hQ h
  ·exact h
 |get k ih=>intro σ Q Q' hQ h;exact ih _ _ _ _ hQ h
 |call f args k ih=>intro σ Q Q' hQ h;obtain⟨v,σ',h1,h2⟩:=h;exact⟨v,σ',h1,ih _ _ _ _ hQ h2⟩
 |join p k ihp ihk=>intro σ Q Q' hQ h;exact ihp _ _ _ (fun e vs σ' h'=>ihk e vs _ _ _ hQ h') h
 |loop st body k ihb ihk=>intro σ Q Q' hQ h;obtain⟨m,h⟩:=h;exact⟨m,It.mono (fun st σ Q Q' hq h=>ihb st σ Q Q' hq h) m st σ _ _ (fun e vs σ' h'=>ihk e vs _ _ _ hQ h') h⟩
theorem It.run(body:List Value->Pg)(hb:∀st σ (Q:bW),Wp P ov (body st) σ Q->∃e vs σ',(∃n0,∀n,n0<=n->exec (kP P ov false n) n (body st) σ=some ((e,vs),σ'))/\Q e vs σ'):
  ∀(m:Nat) (st:List Value) (σ:aC) (Q:bW),It (fun st σ Q=>Wp P ov (body st) σ Q) m st σ Q->∃e vs σ',(∃n0,∀n N,n0<=n->m<=N->iter (fun st σ=>exec (kP P ov false n) n (body st) σ) N st σ=some ((e,vs),σ'))/\Q e vs σ'
 |0,_,_,_,h=>h.elim
 |m+1,st,σ,Q,h=>by
  obtain⟨e,vs,σ',⟨n0,hn⟩,hq⟩:=hb _ _ _ h;cases e with
  |normal=>
   obtain⟨e2,vs2,σ2,⟨n1,a1⟩,a0⟩:=It.run body hb m vs σ' Q hq;refine⟨e2,vs2,σ2,⟨max n0 n1,fun n N h1 h2=>?_⟩,a0⟩;cases N with
   |zero=>omega
   |succ N=>unfold iter;rw[hn n (by omega)];exact a1 n N (by omega) (by omega)
  |ret=>
   refine⟨.ret,vs,σ',⟨n0,fun n N h1 h2=>?_⟩,hq⟩;cases N with
   |zero=>omega
   |succ N=>unfold iter;rw[hn n h1]
  |exit i=>
   refine⟨.exit i,vs,σ',⟨n0,fun n N h1 h2=>?_⟩,hq⟩;cases N with
   |zero=>omega
   |succ N=>unfold iter;rw[hn n h1]
theorem Wp.run:∀(p:Pg) (σ:aC) (Q:bW),Wp P ov p σ Q->∃e vs σ',(∃n0,∀n,n0<=n->exec (kP P ov false n) n p σ=some ((e,vs),σ'))/\Q e vs σ':=by
 intro p;induction p with
 |ret e vs=>intro σ Q h;exact⟨e,vs,σ,⟨0,fun n _=>rfl⟩,h⟩
 |fail=>intro σ Q h;exact h.elim
 |act a k ih=>
  intro σ Q h;unfold Wp at h;split at h
  ·rename_i v σ1 ha;obtain⟨e,vs,σ',⟨n0,hn⟩,hq⟩:=ih _ _ _ h;refine⟨e,vs,σ',⟨n0,fun n h1=>?_⟩,hq⟩;unfold exec;rw[ha];exact hn n h1
  ·exact h.elim
 |get k ih=>intro σ Q h;obtain⟨e,vs,σ',⟨n0,hn⟩,hq⟩:=ih _ _ _ h;exact⟨e,vs,σ',⟨n0,fun n h1=>by unfold exec;exact hn n h1⟩,hq⟩
 |call f args k ih=>intro σ Q h;obtain⟨v,σ1,⟨n0,h1⟩,h2⟩:=h;obtain⟨e,vs,σ',⟨n1,hn⟩,hq⟩:=ih _ _ _ h2;refine⟨e,vs,σ',⟨max n0 n1,fun n a0=>?_⟩,hq⟩;unfold exec;rw[h1 n (by omega)];exact hn n (by omega)
 |join p k ihp ihk=>intro σ Q h;obtain⟨e,vs,σ1,⟨n0,h1⟩,h2⟩:=ihp _ _ h;obtain⟨e',vs',σ',⟨n1,hn⟩,hq⟩:=ihk _ _ _ _ h2;refine⟨e',vs',σ',⟨max n0 n1,fun n a0=>?_⟩,hq⟩;unfold exec;rw[h1 n (by omega)];exact hn n (by omega)
 |loop st body k ihb ihk=>intro σ Q h;obtain⟨m,h⟩:=h;obtain⟨e,vs,σ1,⟨n0,h1⟩,h2⟩:=It.run body (fun st σ Q h=>ihb st σ Q h) m st σ _ h;obtain⟨e',vs',σ',⟨n1,hn⟩,hq⟩:=ihk _ _ _ _ h2;refine⟨e',vs',σ',⟨max m (max n0 n1),fun n a0=>?_⟩,hq⟩;unfold exec;rw[h1 n n (by omega) (by omega)];exact hn n (by omega)
theorem WpF.of{f:FuncId}{args:List Value}{σ:aC}{Q:Value->aC->Prop}{p:Pg}(hp:nX P false f args=p)(a0:ov f=none)(h:Wp P ov p σ fun _ vs σ'=>∃v,vs=[v]/\Q v σ'):WpF P ov f args σ Q:=by
 subst hp;obtain⟨e,vs,σ',⟨n0,hn⟩,v,rfl,hq⟩:=Wp.run _ _ _ h;refine⟨v,σ',⟨n0+1,fun n a1=>?_⟩,hq⟩;cases n with
 |zero=>omega
 |succ n=>unfold kP;rw[a0];simp only[hn n (by omega)]
theorem EvF.of{f:FuncId}{args:List Value}{σ σ':aC}{v:Value}{p:Pg}(hp:nX P false f args=p)(a0:ov f=none)(h:Wp P ov p σ fun _ vs σ1=>vs=[v]/\σ1=σ'):EvF P ov f args σ v σ':=by obtain⟨v1,σ1,h1,h2,h3⟩:=WpF.of (P:=P) (ov:=ov) (Q:=fun v1 σ1=>v1=v/\σ1=σ') hp a0 (Wp.mono _ _ _ _ (fun e vs σ1 ⟨h,k⟩=>⟨v,h,rfl,k⟩) h);subst h2 h3;exact h1
theorem WpF.eq{f:FuncId}{args:List Value}{σ σ':aC}{v:Value}{Q:Value->aC->Prop}(h:EvF P ov f args σ v σ'):WpF P ov f args σ Q=Q v σ':=by
 apply propext;constructor
 ·rintro⟨v1,σ1,⟨n1,h1⟩,hq⟩;obtain⟨n0,h0⟩:=h;have e1:=h0 (max n0 n1) (by omega);rw[h1 (max n0 n1) (by omega)]at e1;cases e1;exact hq
 ·exact fun hq=>⟨v,σ',h,hq⟩
theorem WpF.mono{f:FuncId}{args:List Value}{σ:aC}{Q Q':Value->aC->Prop}(h:WpF P ov f args σ Q)(hq:∀v σ',Q v σ'->Q' v σ'):WpF P ov f args σ Q':=by obtain⟨v,σ',h1,h2⟩:=h;exact⟨v,σ',h1,hq _ _ h2⟩
theorem It.of{B:List Value->aC->bW->Prop}(hB:∀st σ (Q Q':bW),(∀e vs σ,Q e vs σ->Q' e vs σ)->B st σ Q->B st σ Q'){Q:bW}(I:Nat->List Value->aC->Prop)
  (round:∀m st σ,I m st σ->B st σ fun e st' σ'=>match e with
   |.normal=>∃m',m'<m/\I m' st' σ'
   |e=>Q e st' σ'):∀(m:Nat) (st:List Value) (σ:aC),I m st σ->∃n,It B n st σ Q:=by
 have key:∀(n m:Nat) (st:List Value) (σ:aC),m<n->I m st σ->It B n st σ Q:=by
  intro n;induction n with
  |zero=>intro m st σ h _;omega
  |succ n ih=>
   intro m st σ hm hI;unfold It;refine hB _ _ _ _ ?_ (round m st σ hI);intro e vs σ' h;cases e with
   |normal=>obtain⟨m',h1,h2⟩:=h;exact ih m' vs σ' (by omega) h2
   |ret=>exact h
   |exit i=>exact h
 exact fun m st σ h=>⟨m+1,key (m+1) m st σ (by omega) h⟩
theorem Wp.loop{st:List Value}{body:List Value->Pg}{k:Ex->List Value->Pg}{σ:aC}{Q:bW}(I:Nat->List Value->aC->Prop)(m:Nat)(h0:I m st σ)
  (round:∀m st σ,I m st σ->Wp P ov (body st) σ fun e st' σ'=>match e with
   |.normal=>∃m',m'<m/\I m' st' σ'
   |e=>Wp P ov (k e st') σ' Q):Wp P ov (.loop st body k) σ Q:=
 It.of (B:=fun st σ Q=>Wp P ov (body st) σ Q) (fun _ _ _ _ hq h=>Wp.mono _ _ _ _ hq h) I round m st σ h0
theorem wp_ret(e:Ex)(vs:List Value)(σ:aC)(Q:bW):Wp P ov (.ret e vs) σ Q=Q e vs σ:=by rw[Wp]
theorem aV(h:Act)(k:Value->Pg)(σ:aC)(Q:bW):Wp P ov (.act h k) σ Q=match h σ with
  |some (v,σ')=>Wp P ov (k v) σ' Q
  |none=>False:=by
 rw[Wp]
theorem bC(k:aC->Pg)(σ:aC)(Q:bW):Wp P ov (.get k) σ Q=Wp P ov (k σ) σ Q:=by rw[Wp]
theorem aE(f:FuncId)(args:List Value)(k:Value->Pg)(σ:aC)(Q:bW):Wp P ov (.call f args k) σ Q=WpF P ov f args σ fun v σ'=>Wp P ov (k v) σ' Q:=by rw[Wp]
theorem aF(p:Pg)(k:Ex->List Value->Pg)(σ:aC)(Q:bW):Wp P ov (.join p k) σ Q=Wp P ov p σ fun e vs σ'=>Wp P ov (k e vs) σ' Q:=by rw[Wp]
theorem aA(c:Bool)(p q:Pg)(σ:aC)(Q:bW):Wp P ov (bif c then p else q) σ Q=(if c=true then Wp P ov p σ Q else Wp P ov q σ Q):=by cases c<;>rfl
theorem aO(c:Bool)(p:Pg)(σ:aC)(Q:bW):Wp P ov (grd c p) σ Q=(c=true/\Wp P ov p σ Q):=by cases c<;>simp[grd,Wp]
end
theorem aQ(k:IntKind)(n:Int)(f:Int->Pg):asInt k (.int k n) f=f n:=by simp[asInt]
theorem bB(b:Bool)(f:Bool->Pg):eF (.bool b) f=f b:=by rw[eF]
theorem fH(s:ByteArray)(f:ByteArray->Pg):kF (.string s) f=f s:=by rw[kF]
theorem jV(a:Option Addr)(f:Option Addr->Pg):aR (.pointer a) f=f a:=by rw[aR]
theorem bP(a:Addr)(f:Addr->Pg):aD (some a) f=f a:=by rw[aD]
theorem bO(a:Option Addr)(n c:Nat)(f:Option Addr->Nat->Nat->Pg):aI (.slice a n c) f=f a n c:=by rw[aI]
theorem asMap_map(r:Option Nat)(f:Option Nat->Pg):qt (.map r) f=f r:=by rw[qt]
theorem aM(c:Value)(r:List Value)(f:Value->List Value->Pg):aU (c::r) f=f c r:=by rw[aU]
theorem aK(p:Pg):aH [] p=p:=by rw[aH]
theorem nF(cs:Array Value)(f:List Value->Pg):asAgg (.agg cs) f=f cs.toList:=by rw[asAgg]
theorem cU(cs:Array Value)(f:List Value->Pg):bM (.tuple cs) f=f cs.toList:=by rw[bM]
theorem aX(e:Ex)(p q:Pg):sw e e p q=p:=by
 unfold sw;have:Ex.beq e e=true:=by cases e<;>simp[Ex.beq]
 rw[this];try rfl
theorem jY(p q:Pg):sw .normal .ret p q=q:=by simp[sw,Ex.beq]
theorem sw_rn(p q:Pg):sw .ret .normal p q=q:=by simp[sw,Ex.beq]
theorem sw_ne(i:Nat)(p q:Pg):sw .normal (.exit i) p q=q:=by simp[sw,Ex.beq]
theorem sw_en(i:Nat)(p q:Pg):sw (.exit i) .normal p q=q:=by simp[sw,Ex.beq]
theorem wR(i:Nat)(p q:Pg):sw .ret (.exit i) p q=q:=by simp[sw,Ex.beq]
theorem sw_er(i:Nat)(p q:Pg):sw (.exit i) .ret p q=q:=by simp[sw,Ex.beq]
open Go.RowKit Go.WideShapes Go.ChangeShapes
section
variable{P:Program}{ov:Ov}
def jP(old:Addr->Option Value):aC:=⟨old,0,.nil⟩
def ql:Inj:=⟨fun _ _=>none,fun _=>False,fun _ _=>False⟩
theorem start_rel'{W:World}{old:Addr->Option Value}(a0:∀b o v,old ⟨b,o,none⟩=some v->b<W.heap.size/\∃v',W.cell? ⟨b,o,none⟩=some v'/\∀κ:Inj,VR κ W.heap.size v v'):Rel ql W (jP old) W where
 below:=Below.refl _ _
 old:=a0
 dom:=fun _ _ _ h=>by cases h
 inj:=fun _ _ _ _ _ _ h=>by cases h
 samelo:=fun _ _ _ _ _ h=>by cases h
 blk:=fun b B v i h=>by simp[jP,aC.get,Tri.get]at h
 vers:=fun b B v i h=>by simp[jP,aC.get,Tri.get]at h
 map:=fun b es v i _ h=>by cases h
 iter:=fun b s pos v i h=>by simp[jP,aC.get,Tri.get]at h
 dead:=fun b h=>h.elim
 kept:=fun c o h=>h.elim
 fresh:=fun b _=>by simp[jP,aC.get,Tri.get]
theorem law_calls'{W:World}{old:Addr->Option Value}{f:FuncId}{args:List Value}{args':Array Value}(hn:uH P)(hm:P.follows .mixedOrders=true)(hG:P.globals.size<=W.heap.size)(a1:vh P W ov)
  (a0:∀b o v,old ⟨b,o,none⟩=some v->b<W.heap.size/\∃v',W.cell? ⟨b,o,none⟩=some v'/\∀κ:Inj,VR κ W.heap.size v v') (hA:VRL ql W.heap.size args args'.toList)
  (h:WpF P ov f args (jP old) fun v _=>v=.bool true):Calls P f args' W fun e W'=>e=.returned (.bool true)/\Below W.heap.size W W':=by
 obtain⟨v,σ',⟨n0,h1⟩,h2⟩:=h;subst h2;refine((sY (fast:=false) hn hm hG a1 n0 f args (jP old) _ _ (h1 n0 (Nat.le_refl _)) _ W args' (start_rel' a0) hA).2).mono ?_;rintro e W' ⟨v',κ,rfl,_,hv,R⟩;cases hv;exact⟨rfl,R.below⟩
theorem vh.none{W:World}:vh P W fun _=>none:=fun _ _ h=>by cases h
theorem globals_le{W:World}(h:W.ShapedOpen P)(hl:(P.globals.size==0||(((begin P (fun _ _=>0) default).world.heap[P.globals.size-1]?).bind Obj.row?).isSome)=true):P.globals.size<=W.heap.size:=by
 by_cases h0:P.globals.size=0
 ·omega
 ·rw[Bool.or_eq_true]at hl;rcases hl with hl|hl
  ·exact absurd (by simpa using hl) h0
  ·obtain⟨⟨zero,t⟩,hz⟩:=Option.isSome_iff_exists.1 hl;obtain⟨cs,a0,_⟩:=h.1 (P.globals.size-1) zero t (by omega) hz;have:=(Array.getElem?_eq_some_iff.1 a0).1;omega
variable{H:Type}{enc:TypeId×Value->H}
theorem zm{f:Func}{s:ChangeSpec}{apart fresh a0 again:Bool}{W W':World}{args:Array Value}{v:Value}{ds gs:List (DataW H)}{before pa pv:List MemPlace}
  (hW:DataW.Whole enc P f.params.toList s.vars apart W args.toList ds gs before)
  (a3:∀(b:Nat) (sp:Nat->Bool) (hd:Bool),DataW.TrodAll enc P W' b sp hd f.resultTypes.toList (v.resultList f.resultTypes.size) (s.fn H (ds++gs)).results [])
  (a2:∀sp:Nat->Bool,(∀p∈before,sp p.block=true)->DataW.TrodAll enc P W' 0 sp true f.params.toList args.toList (s.fn H (ds++gs)).args pa)
  (a1:∀sp:Nat->Bool,(∀p∈before,sp p.block=true)->DataW.TrodVars enc P W' sp s.vars (s.fn H (ds++gs)).vars pv)
  (a5:before=pa++pv) (hb:Below W.heap.size W W')
  (a8:∀(j:Nat) (t:TypeId) (r:Value),f.resultTypes[j]?=some t->(v.resultList f.resultTypes.size)[j]?=some r->Value.okWide P W' .any 0 t r):
  s.post enc P f apart fresh a0 again W args v W':=by
 have a6:∀p∈before,p.block<W.heap.size:=fun p hp=>hW.lt p hp;have a4:∀p∈before,(fun b=>decide (b<W.heap.size)) p.block=true:=fun p hp=>by simpa using a6 p hp
 refine⟨ds,gs,before,[],pa,pv,hW,a3 _ _ _,a2 _ a4,a1 _ a4,World.keptBut_mono (fun p hp=>⟨hp,?_⟩) (hb.frame (· ∈before)),fun _=>?_⟩
 ·rw[a5,List.mem_append]at hp;exact Or.inr hp
 ·obtain⟨_,_,_,_,_,hz,hn⟩:=hW;refine⟨a8,_,_,([]++pa)++pv,⟨[]++pa,pv,trodAll_append (a2 _ (fun _ _=>rfl)) (a3 _ _ _),a1 _ (fun _ _=>rfl),rfl,?_,?_⟩,?_⟩
  ·intro b off hp;have a7:MemPlace.cell b off∈before:=by rw[a5];simpa using hp
   rw[hb.frozen (a6 _ a7)];exact hz b off a7
  ·intro ha;have:=hn ha;rw[a5]at this;simpa using this
  ·intro p hp _;rw[a5];simpa using hp
end
theorem wu64_eq(n:Int):sX n=n%18446744073709551616:=by simp[sX,IntKind.wrap,IntKind.bits,IntKind.signed]
theorem wu8_eq(n:Int):wu8 n=n%256:=by simp[wu8,IntKind.wrap,IntKind.bits,IntKind.signed]
theorem wi64_eq(n:Int):aP n=(n+9223372036854775808)%18446744073709551616-9223372036854775808:=by exact IntKind.wrap_i64 n
theorem wi32_eq(n:Int):wi32 n=(n+2147483648)%4294967296-2147483648:=by exact IntKind.wrap_i32 n
theorem aS{n:Int}(h: -9223372036854775808<=n/\n<=9223372036854775807):aP n=n:=by rw[wi64_eq];omega
theorem wu64_in{n:Int}(h:0<=n/\n<=18446744073709551615):sX n=n:=by rw[wu64_eq];omega
theorem wi32_in{n:Int}(h: -2147483648<=n/\n<=2147483647):wi32 n=n:=by rw[wi32_eq];omega
theorem wu8_in{n:Int}(h:0<=n/\n<=255):wu8 n=n:=by rw[wu8_eq];omega
section
variable{P:Program}{ov:Ov}
abbrev Tab:=FuncId->List Value->Option Pg
def Tab.nil:Tab:=fun _ _=>none
def Tab.one(k:Nat)(A:List Value->Option Pg)(t:Tab):Tab:=fun f args=>bif Nat.beq f k then A args else t f args
def Tab.low(m:Nat)(a b:Tab):Tab:=fun f args=>bif Nat.ble f m then a f args else b f args
def lK(P:Program)(t:Tab):Prop:=∀f args p,t f args=some p->nX P false f args=p
theorem lK.nil:lK P .nil:=fun _ _ _ h=>by cases h
theorem lK.one{k:Nat}{A:List Value->Option Pg}{t:Tab}(h:∀args p,A args=some p->nX P false k args=p)(ht:lK P t):lK P (.one k A t):=by
 intro f args p hp;unfold Tab.one at hp;cases hb:Nat.beq f k with
 |true=>rw[hb]at hp;have:=Nat.eq_of_beq_eq_true hb;subst this;exact h args p hp
 |false=>rw[hb]at hp;exact ht f args p hp
theorem lK.low{m:Nat}{a b:Tab}(ha:lK P a)(hb:lK P b):lK P (.low m a b):=by
 intro f args p hp;unfold Tab.low at hp;cases h:Nat.ble f m with
 |true=>rw[h]at hp;exact ha f args p hp
 |false=>rw[h]at hp;exact hb f args p hp
def kS(ov:Ov)(tab:Tab):Nat->gO
 |0,_,_,_=>none
 |n+1,f,args,σ=>match ov f with
  |some g=>g args σ
  |none=>match tab f args with
   |some p=>match exec (kS ov tab n) (n+1) p σ with
    |some ((_,[v]),σ')=>some (v,σ')
    |_=>none
   |none=>none
theorem ur{f g:List Value->aC->Option ((Ex×List Value)×aC)}(h:∀st σ r,f st σ=some r->g st σ=some r):∀(n m:Nat) (st:List Value) (σ:aC) r,n<=m->iter f n st σ=some r->iter g m st σ=some r
 |0,_,_,_,_,_,e=>by cases e
 |n+1,0,_,_,_,hl,_=>by omega
 |n+1,m+1,st,σ,r,hl,e=>by
  unfold iter at e ⊢;cases hf:f st σ with
  |none=>rw[hf]at e;cases e
  |some q=>
   rw[hf]at e;rw[h _ _ _ hf];obtain⟨⟨ex,st'⟩,σ'⟩:=q;cases ex with
   |normal=>exact ur h n m st' σ' r (by omega) e
   |ret=>exact e
   |exit i=>exact e
theorem exec_mono{cf cg:gO}(h:∀f args σ r,cf f args σ=some r->cg f args σ=some r){N M:Nat}(hN:N<=M):∀(p:Pg) (σ:aC) r,exec cf N p σ=some r->exec cg M p σ=some r:=by
 intro p;induction p with
 |ret e vs=>intro σ r e;exact e
 |fail=>intro σ r e;exact e
 |act a k ih=>
  intro σ r e;unfold exec at e ⊢;split at e
  ·rename_i v σ1 ha;exact ih _ _ _ e
  ·cases e
 |get k ih=>intro σ r e;unfold exec at e ⊢;exact ih _ _ _ e
 |call f args k ih=>
  intro σ r e;unfold exec at e ⊢;split at e
  ·rename_i v σ1 ha;rw[h _ _ _ _ ha];exact ih _ _ _ e
  ·cases e
 |join p k ihp ihk=>
  intro σ r e;unfold exec at e ⊢;split at e
  ·rename_i ha;rw[ihp _ _ ha];exact ihk _ _ _ _ e
  ·cases e
 |loop st body k ihb ihk=>
  intro σ r e;unfold exec at e ⊢;split at e
  ·rename_i ha;rw[ur (fun st σ r=>ihb st σ r) _ _ _ _ _ hN ha];exact ihk _ _ _ _ e
  ·cases e
theorem execTab_fn{tab:Tab}(ht:lK P tab):∀n f args σ r,kS ov tab n f args σ=some r->∃m,∀k,m<=k->kP P ov false k f args σ=some r:=by
 have key:∀n m f args σ r,n+1<=m->kS ov tab n f args σ=some r->kP P ov false m f args σ=some r:=by
  intro n;induction n with
  |zero=>intro m f args σ r _ h;cases h
  |succ n ih=>
   intro m f args σ r hm h;cases m with
   |zero=>omega
   |succ m=>
    unfold kS at h;unfold kP;cases hg:ov f with
    |some g=>rw[hg]at h;exact h
    |none=>
     rw[hg]at h;cases hp:tab f args with
     |none=>rw[hp]at h;cases h
     |some p=>
      rw[hp]at h;dsimp only at h ⊢;rw[ht _ _ _ hp];cases hx:exec (kS ov tab n) (n+1) p σ with
      |none=>rw[hx]at h;cases h
      |some q=>rw[hx]at h;have:=exec_mono (N:=n+1) (M:=m) (fun f args σ r=>ih m f args σ r (by omega)) (by omega) _ _ _ hx;simp only[this];exact h
 exact fun n f args σ r h=>⟨n+1,fun k hk=>key n k f args σ r hk h⟩
theorem EvF.tab{tab:Tab}(ht:lK P tab){f:FuncId}{args:List Value}{σ σ':aC}{v:Value}(n:Nat)(h:kS ov tab n f args σ=some (v,σ')):EvF P ov f args σ v σ':=by obtain⟨m,hm⟩:=execTab_fn (P:=P) ht n f args σ _ h;exact⟨m,hm⟩
theorem agg_of{cs:Array Value}{l:List Value}(h:cs.toList=l):cs=l.toArray:=by subst h;simp
end
theorem eC(σ:aC)(b:Nat)(o:dV):(σ.put b o).get b=some o:=by rw[aC.get_put,if_pos rfl]
theorem lR(σ:aC){b c:Nat}(o:dV)(h:c≠b):(σ.put b o).get c=σ.get c:=by rw[aC.get_put,if_neg h]
theorem eJ(σ:aC)(o:dV):(σ.push o).get σ.n=some o:=by rw[aC.get_push,if_pos rfl]
theorem pJ(σ:aC){c:Nat}(o:dV)(h:c<σ.n):(σ.push o).get c=σ.get c:=by rw[aC.get_push,if_neg (by omega)]
def St(σ:aC)(b:Nat)(cs:List Value):Prop:=b<σ.n/\σ.get b=some (.blk ⟨cs,0,[cs.length],0⟩)
theorem St.ld{σ:aC}{b:Nat}{cs:List Value}(h:St σ b cs){off:Nat}{v:Value}(hv:cs[off]?=some v):ld1 ⟨b,off,some 0⟩ σ=some (v,σ):=by
 obtain⟨_,h⟩:=h;have hl:=(List.getElem?_eq_some_iff.1 hv).1;have hd:(cs.drop off).take 1=[v]:=by rw[List.drop_eq_getElem_cons hl,List.take_succ_cons,List.take_zero,(List.getElem?_eq_some_iff.1 hv).2]
 unfold ld1 aC.rdN;simp only[h,Nat.zero_div,List.getElem?_cons_zero];have:(Nat.ble 0 0&&Nat.ble (off+1) cs.length)=true:=by simp;omega
 rw[this,cond_true,hd]
theorem St.ldN{σ:aC}{b:Nat}{cs:List Value}(h:St σ b cs){off k:Nat}(hk:off+k<=cs.length):ldN k ⟨b,off,some 0⟩ σ=some (.agg ((cs.drop off).take k).toArray,σ):=by
 obtain⟨_,h⟩:=h;unfold Go.Pg.ldN aC.rdN;simp only[h,Nat.zero_div,List.getElem?_cons_zero];have:(Nat.ble 0 0&&Nat.ble (off+k) cs.length)=true:=by simp;omega
 rw[this,cond_true]
theorem St.stC{σ:aC}{b:Nat}{cs:List Value}(h:St σ b cs){off:Nat}{v:Value}(hl:off<cs.length)(hv:one v=true):
  stC ⟨b,off,some 0⟩ [v] σ=some (.tuple #[],σ.put b (.blk ⟨cs.set off v,0,[cs.length],0⟩)):=by
 obtain⟨_,h⟩:=h;unfold Go.Pg.stC aC.wrN;simp only[h,Nat.zero_div];have:(Nat.beq (0+1) [cs.length].length&&Nat.ble (off+[v].length) cs.length&&[v].all one)=true:=by simp[hv];omega
 rw[this,cond_true];have e:cs.take off++[v]++cs.drop (off+[v].length)=cs.set off v:=by rw[List.set_eq_take_append_cons_drop,if_pos hl];simp
 rw[e]
theorem St.put{σ:aC}{b:Nat}{cs cs':List Value}(h:St σ b cs)(hl:cs'.length=cs.length):St (σ.put b (.blk ⟨cs',0,[cs.length],0⟩)) b cs':=
 ⟨h.1,by rw[eC,hl]⟩
theorem St.frame{σ σ':aC}{b:Nat}{cs:List Value}(h:St σ b cs)(hn:σ.n<=σ'.n)(hg:σ'.get b=σ.get b):St σ' b cs:=⟨Nat.lt_of_lt_of_le h.1 hn,hg▸h.2⟩
theorem St.new(σ:aC)(cs:List Value):St (σ.newBlk cs 0) σ.n cs:=⟨by simp[aC.newBlk,aC.push],by simp[aC.newBlk,eJ]⟩
theorem newC_eq(cs:List Value)(σ:aC):newC cs σ=some (.pointer (some ⟨σ.n,0,some 0⟩),σ.newBlk cs 0):=rfl
theorem iD(σ:aC)(cs:List Value)(e:Nat):(σ.newBlk cs e).n=σ.n+1:=rfl
theorem newBlk_get(σ:aC)(cs:List Value)(e:Nat){c:Nat}(h:c<σ.n):(σ.newBlk cs e).get c=σ.get c:=pJ σ _ h
structure Row(σ:aC)(b off s cap esz:Nat)(xs:List Value):Prop where
 lt:b<σ.n
 blk:∃B,σ.get b=some (.blk B)/\B.his.length=s/64+1/\B.his[s/64]?=some B.cells.length/\B.esz=esz/\B.dirty<=s/64/\off+cap*esz=B.cells.length/\(B.cells.drop off).take xs.length=xs
 sesz:s%64=esz
 len:xs.length<=cap*esz
 ones:∀x∈xs,one x=true
theorem Row.frame{σ σ':aC}{b off s cap esz:Nat}{xs:List Value}(h:Row σ b off s cap esz xs)(hn:σ.n<=σ'.n)(hg:σ'.get b=σ.get b):Row σ' b off s cap esz xs:=
 ⟨Nat.lt_of_lt_of_le h.lt hn,hg▸h.blk,h.sesz,h.len,h.ones⟩
theorem Row.rdN{σ:aC}{b off s cap esz:Nat}{xs:List Value}(h:Row σ b off s cap esz xs){i k:Nat}(hk:i+k<=xs.length):σ.rdN ⟨b,off+i,some s⟩ k=some ((xs.drop i).take k):=by
 obtain⟨B,hg,hl,hh,he,hd,hc,hx⟩:=h.blk;have:=h.len;unfold aC.rdN;simp only[hg,hh];have:(Nat.ble B.dirty (s/64)&&Nat.ble (off+i+k) B.cells.length)=true:=by simp[hd];omega
 rw[this,cond_true]
 congr 1
 conv=>rhs;rw[<-hx]
 rw[List.drop_take,List.take_take,List.drop_drop,Nat.min_eq_left (by omega)]
theorem Row.ld{σ:aC}{b off s cap esz:Nat}{xs:List Value}(h:Row σ b off s cap esz xs){i:Nat}{v:Value}(hv:xs[i]?=some v):ld1 ⟨b,off+i,some s⟩ σ=some (v,σ):=by have hl:=(List.getElem?_eq_some_iff.1 hv).1;unfold ld1;rw[h.rdN (i:=i) (k:=1) (by omega),List.drop_eq_getElem_cons hl,List.take_succ_cons,List.take_zero,(List.getElem?_eq_some_iff.1 hv).2]
theorem Row.wrN{σ:aC}{b off s cap esz:Nat}{xs:List Value}(h:Row σ b off s cap esz xs){i:Nat}{vs:List Value}(hi:i<=xs.length)(hk:i+vs.length<=cap*esz)(hv:∀x∈vs,one x=true):
  ∃σ',σ.wrN ⟨b,off+i,some s⟩ vs=some σ'/\σ'.n=σ.n/\σ'.old=σ.old/\(∀j,j≠b->σ'.get j=σ.get j)/\Row σ' b off s cap esz (xs.take i++vs++xs.drop (i+vs.length)):=by
 obtain⟨B,hg,hl,hh,he,hd,hc,hx⟩:=h.blk;have h1:=h.len;refine⟨σ.put b (.blk {B with cells:=B.cells.take (off+i)++vs++B.cells.drop (off+i+vs.length),dirty:=s/64}),?_,rfl,rfl,fun j hj=>lR _ _ hj,?_⟩
 ·unfold aC.wrN;simp only[hg];have:(Nat.beq (s/64+1) B.his.length&&Nat.ble (off+i+vs.length) B.cells.length&&vs.all one)=true:=by simp only[Bool.and_eq_true,Nat.beq_eq,Nat.ble_eq,List.all_eq_true];exact⟨⟨hl.symm,by omega⟩,hv⟩
  rw[this,cond_true]
 ·have a0:(B.cells.take (off+i)++vs++B.cells.drop (off+i+vs.length)).length=B.cells.length:=by simp only[List.length_append,List.length_take,List.length_drop];omega
  refine⟨h.lt,⟨_,eC _ _ _,hl,by rw[a0];exact hh,he,Nat.le_refl _,by rw[a0];exact hc,?_⟩,h.sesz,?_,?_⟩
  ·simp only;have a1:xs.length<=B.cells.length-off:=by have:=congrArg List.length hx;simp only[List.length_take,List.length_drop]at this;omega
   have e1:List.drop off (B.cells.take (off+i)++vs++B.cells.drop (off+i+vs.length))=xs.take i++vs++B.cells.drop (off+i+vs.length):=by
    rw[List.append_assoc,List.drop_append_of_le_length (by simp;omega),List.append_assoc]
    congr 1
    conv=>rhs;rw[<-hx]
    rw[List.take_take,Nat.min_eq_left hi,List.drop_take]
    congr 1
    omega
   rw[e1];have e2:xs.drop (i+vs.length)=(B.cells.drop (off+i+vs.length)).take (xs.length-(i+vs.length)):=by
    conv=>lhs;rw[<-hx]
    rw[List.drop_take,List.drop_drop]
    congr 2
    omega
   have e3:(xs.take i++vs++xs.drop (i+vs.length)).length=(xs.take i++vs).length+(xs.length-(i+vs.length)):=by simp only[List.length_append,List.length_take,List.length_drop]
   rw[e3,List.take_length_add_append,<-e2]
  ·simp only[List.length_append,List.length_take,List.length_drop];omega
  ·intro x hx;simp only[List.mem_append]at hx;rcases hx with(hx|hx)|hx
   ·exact h.ones x (List.mem_of_mem_take hx)
   ·exact hv x hx
   ·exact h.ones x (List.mem_of_mem_drop hx)
theorem Row.append{σ:aC}{b off s cap esz:Nat}{xs:List Value}(h:Row σ b off s cap esz xs){byt len n:Nat}{ys:List Value}(hx:xs.length=len*esz)(hy:ys.length=n*esz)(h0:1<=esz)(hn:1<=n)
  (a1:∀y∈ys,one y=true) (hb:2*(len+n)*byt<=281474976710656) (a6:len+n<=4611686018427387904):
  ∃σ' s' cap',gP esz byt (some ⟨b,off,some s⟩) len cap n ys σ=some (.slice (some ⟨b,off,some s'⟩) (len+n) cap',σ')/\σ'.n=σ.n/\σ'.old=σ.old/\(∀j,j≠b->σ'.get j=σ.get j)/\Row σ' b off s' cap' esz (xs++ys):=by
 have a8:=h.len;have a5:len<=cap:=Nat.le_of_mul_le_mul_right (by omega:len*esz<=cap*esz) h0;unfold gP;have g1:(!(Nat.beq ys.length (n*esz)))=false:=by rw[hy];simp
 rw[g1,cond_false];by_cases a0:len+n<=cap
 ·have g2:Nat.ble (len+n) cap=true:=by simpa using a0
  have g3:Nat.beq n 0=false:=by rw[Bool.eq_false_iff];intro h;have:=Nat.eq_of_beq_eq_true h;omega
  have hm:(len+n)*esz<=cap*esz:=Nat.mul_le_mul_right _ a0;rw[Nat.add_mul]at hm;obtain⟨σ',w1,w2,w3,w4,w5⟩:=h.wrN (i:=len*esz) (vs:=ys) (by omega) (by omega) a1;refine⟨σ',s,cap,?_,w2,w3,w4,?_⟩
  ·rw[g2,cond_true];simp only[g3,cond_false];rw[show aadd ⟨b,off,some s⟩ (len*esz)=⟨b,off+len*esz,some s⟩ from rfl,w1]
  ·rw[<-hx,List.take_length,List.drop_of_length_le (by omega),List.append_nil]at w5;exact w5
 ·obtain⟨B,hg,hl,hh,he,hd,hc,a3⟩:=h.blk;have g2:Nat.ble (len+n) cap=false:=by rw[Bool.eq_false_iff];intro h;have:=Nat.le_of_ble_eq_true h;omega
  have hs:=h.sesz;have a2:esz<64:=by omega
  have g3:(Nat.ble (2*(len+n)*byt) 281474976710656&&Nat.ble (len+n) 4611686018427387904&&ys.all one&&Nat.blt esz 64)=true:=by simp only[Bool.and_eq_true,Nat.ble_eq,List.all_eq_true,Nat.blt_eq];exact⟨⟨⟨hb,a6⟩,a1⟩,a2⟩
  have g4:(Nat.beq (s/64+1) B.his.length&&Nat.beq esz B.esz&&Nat.ble len cap)=true:=by simp only[Bool.and_eq_true,Nat.beq_eq,Nat.ble_eq];exact⟨⟨hl.symm,he.symm⟩,a5⟩
  have g5:Nat.beq (off+cap*esz) B.cells.length=true:=by rw[hc];simp
  have a7:xs.length<=B.cells.length-off:=by have:=congrArg List.length a3;simp only[List.length_take,List.length_drop]at this;omega
  have a4:(B.cells.take (off+len*esz)++ys).length=off+len*esz+ys.length:=by simp only[List.length_append,List.length_take];omega
  refine⟨σ.put b (.blk {B with
    cells:=B.cells.take (off+len*esz)++ys
    his:=B.his++[off+len*esz+ys.length]
    dirty:=bif Nat.blt (off+len*esz) B.cells.length then s/64+1 else B.dirty}),(s/64+1)*64+esz,len+n,?_,?_,?_,?_,?_⟩
  ·rw[g2,cond_false,g3,cond_true];simp only[hg,g4,cond_true,g5]
  ·rfl
  ·rfl
  ·exact fun j hj=>lR _ _ hj
  ·have q1:((s/64+1)*64+esz)/64=s/64+1:=by omega
   have q2:((s/64+1)*64+esz)%64=esz:=by omega
   refine⟨h.lt,⟨_,eC _ _ _,?_,?_,he,?_,?_,?_⟩,q2,?_,?_⟩
   ·simp only[List.length_append,List.length_singleton];omega
   ·simp only;rw[q1,a4,List.getElem?_append_right (by omega),show s/64+1-B.his.length=0 by omega];try rfl
   ·simp only;rw[q1];cases Nat.blt (off+len*esz) B.cells.length<;>simp;omega
   ·simp only;rw[a4,Nat.add_mul,hy];omega
   ·simp only;rw[List.drop_append_of_le_length (by simp;omega)];have e:(B.cells.take (off+len*esz)).drop off=xs:=by
     conv=>rhs;rw[<-a3]
     rw[List.drop_take,hx]
     congr 1
     omega
    rw[e,List.take_length]
   ·simp only[List.length_append];rw[Nat.add_mul];omega
   ·intro x hx;rcases List.mem_append.1 hx with hx|hx
    ·exact h.ones x hx
    ·exact a1 x hx
theorem Row.new(σ:aC)(esz:Nat)(ys:List Value)(n:Nat)(he:esz<64)(hy:ys.length=n*esz)(a0:∀y∈ys,one y=true):Row (σ.newBlk ys esz) σ.n 0 esz n esz ys:=by
 have q1:esz/64=0:=by omega
 refine⟨by rw[iD];omega,⟨_,eJ _ _,by simp[q1],by simp[q1],rfl,by simp,by simp[hy],by simp⟩,by omega,by omega,a0⟩
theorem lX{σ:aC}{esz byt n:Nat}{ys:List Value}(he:esz<64)(hn:1<=n)(hy:ys.length=n*esz)(a0:∀y∈ys,one y=true)(hb:2*n*byt<=281474976710656)(a1:n<=4611686018427387904):
  gP esz byt none 0 0 n ys σ=some (.slice (some ⟨σ.n,0,some esz⟩) n n,σ.newBlk ys esz):=by
 unfold gP;have g1:(!(Nat.beq ys.length (n*esz)))=false:=by rw[hy];simp
 have g2:Nat.ble (0+n) 0=false:=by rw[Bool.eq_false_iff];intro h;have:=Nat.le_of_ble_eq_true h;omega
 have g3:(Nat.ble (2*(0+n)*byt) 281474976710656&&Nat.ble (0+n) 4611686018427387904&&ys.all one&&Nat.blt esz 64)=true:=by simp only[Bool.and_eq_true,Nat.ble_eq,List.all_eq_true,Nat.blt_eq,Nat.zero_add];exact⟨⟨⟨hb,a1⟩,a0⟩,he⟩
 rw[g1,cond_false,g2,cond_false,g3,cond_true];simp[aC.here]
section
variable{P:Program}{ov:Ov}
theorem Wp.count{st:List Value}{body:List Value->Pg}{k:Ex->List Value->Pg}{σ:aC}{Q:bW}(n:Nat)(I:Nat->List Value->aC->Prop)(h0:I 0 st σ)
  (hb:∀j st σ,j<n->I j st σ->Wp P ov (body st) σ fun e st' σ'=>match e with
   |.normal=>I (j+1) st' σ'
   |e=>Wp P ov (k e st') σ' Q)
  (he:∀st σ,I n st σ->Wp P ov (body st) σ fun e st' σ'=>match e with
   |.normal=>False
   |e=>Wp P ov (k e st') σ' Q):Wp P ov (.loop st body k) σ Q:=by
 refine Wp.loop (fun m st σ=>∃j,j+m=n/\I j st σ) n ⟨0,by omega,h0⟩ ?_;rintro m st σ ⟨j,hj,hI⟩;by_cases a0:j<n
 ·refine Wp.mono _ _ _ _ ?_ (hb j st σ a0 hI);intro e vs σ' h;cases e with
  |normal=>exact⟨m-1,by omega,j+1,by omega,h⟩
  |ret=>exact h
  |exit i=>exact h
 ·obtain rfl:j=n:=by omega
  refine Wp.mono _ _ _ _ ?_ (he st σ hI);intro e vs σ' h;cases e with
  |normal=>exact h.elim
  |ret=>exact h
  |exit i=>exact h
def RdI(σ:aC)(k:IntKind)(p:Option Addr)(l:List Int):Prop:=∀i:Nat,i<l.length->∃a,p=some a/\ld1 (aadd a (i*1)) σ=some (.int k (l.getD i 0),σ)
theorem wp_rdI{σ:aC}{k:IntKind}{p:Option Addr}{l:List Int}(h:RdI σ k p l){i:Int}(h0:0<=i)(h1:i<(l.length:Nat))(f:Int->Pg)(Q:bW):
  Wp P ov (aD p fun a=>grd (decide (0<=i)&&decide (i<((l.length:Nat):Int))) (.act (ld1 (aadd a (Int.toNat i*1))) fun v=>asInt k v f)) σ Q=Wp P ov (f (l.getD i.toNat 0)) σ Q:=by
 obtain⟨a,rfl,hl⟩:=h i.toNat (by omega);simp only[bP,aO,h0,h1,decide_true,Bool.and_self,aV,hl,aQ,true_and]
def eS(σ:aC):Prop:=∀j,σ.n<=j->σ.get j=none
structure Frm(σ σ':aC)(S:Nat->Prop):Prop where
 n:σ.n<=σ'.n
 old:σ'.old=σ.old
 get:∀j,j<σ.n->¬S j->σ'.get j=σ.get j
 fr:eS σ->eS σ'
theorem Frm.refl(σ:aC)(S:Nat->Prop):Frm σ σ S:=⟨Nat.le_refl _,rfl,fun _ _ _=>rfl,fun h=>h⟩
theorem Frm.trans{σ σ' σ'':aC}{S T U:Nat->Prop}(h:Frm σ σ' S)(k:Frm σ' σ'' T)(h1:∀j,j<σ.n->S j->U j)(h2:∀j,j<σ.n->T j->U j):Frm σ σ'' U:=
 ⟨Nat.le_trans h.n k.n,k.old.trans h.old,fun j hj hU=>(k.get j (Nat.lt_of_lt_of_le hj h.n) fun t=>hU (h2 j hj t)).trans (h.get j hj fun s=>hU (h1 j hj s)),fun f=>k.fr (h.fr f)⟩
theorem Frm.of1{σ σ':aC}{b:Nat}(hb:b<σ.n)(hn:σ'.n=σ.n)(ho:σ'.old=σ.old)(hg:∀j,j≠b->σ'.get j=σ.get j):Frm σ σ' (· =b):=
 ⟨by rw[hn];exact Nat.le_refl _,ho,fun j _ hj=>hg j hj,fun f j hj=>(hg j (by omega)).trans (f j (by omega))⟩
theorem Frm.put(σ:aC)(b:Nat)(o:dV)(hb:b<σ.n):Frm σ (σ.put b o) (· =b):=Frm.of1 hb rfl rfl fun _ hj=>lR _ _ hj
theorem Frm.new(σ:aC)(cs:List Value)(e:Nat)(S:Nat->Prop):Frm σ (σ.newBlk cs e) S:=
 ⟨by rw[iD];omega,rfl,fun _ hj _=>newBlk_get _ _ _ hj,fun f j hj=>by
  rw[iD]at hj;unfold aC.newBlk;rw[aC.get_push,if_neg (by omega)];exact f j (by omega)⟩
theorem Frm.mono{σ σ':aC}{S T:Nat->Prop}(h:Frm σ σ' S)(k:∀j,j<σ.n->S j->T j):Frm σ σ' T:=⟨h.n,h.old,fun j hj ht=>h.get j hj fun s=>ht (k j hj s),h.fr⟩
theorem Frm.st{σ σ':aC}{S:Nat->Prop}{b:Nat}{cs:List Value}(h:Frm σ σ' S)(k:St σ b cs)(hb:¬S b):St σ' b cs:=k.frame h.n (h.get b k.1 hb)
theorem Frm.row{σ σ':aC}{S:Nat->Prop}{b off s cap esz:Nat}{xs:List Value}(h:Frm σ σ' S)(k:Row σ b off s cap esz xs)(hb:¬S b):Row σ' b off s cap esz xs:=k.frame h.n (h.get b k.lt hb)
theorem gY{σ:aC}{esz byt len cap n c:Nat}{base:Option Addr}{a:Addr}{ys:List Value}(h:σ.rdN a (n*esz)=some ys):apS esz byt base len cap (some a) n c σ=gP esz byt base len cap n ys σ:=by unfold apS dO;simp only[h]
theorem zV{σ:aC}{esz byt len cap n c:Nat}{base:Option Addr}:apS esz byt base len cap none n c σ=gP esz byt base len cap n [] σ:=by unfold apS dO;rfl
theorem cM(esz len:Nat)(cs:List Value)(σ:aC):tU esz len cs σ=some (.slice (some ⟨σ.n,0,some esz⟩) len len,σ.newBlk cs esz):=rfl
end
open Go.Utf8
def xi(s:ByteArray)(i:Nat):Nat:=((s.data.toList[i]?).getD 0).toNat
theorem get_byteN(s:ByteArray)(i:Nat):(s.get! i).toNat=xi s i:=by
 unfold xi ByteArray.get!;cases s with
 |mk d=>
  simp only;rw[getElem!_def];cases h:d[i]? with
  |none=>simp[h];try rfl
  |some x=>simp[h]
def dec(g:Nat->Nat)(n i:Nat):Nat×Nat:=
 let cont (k:Nat):Bool:=decide (i+k<n)&&(g (i+k)/64==2)
 let b0:=g i
 if b0<0x80 then(b0,1)
 else if b0/32==6&&cont 1 then
  let c:=(b0%32)*64+g (i+1)%64
  if c>=0x80 then(c,2) else(runeError,1)
 else if b0/16==14&&cont 1&&cont 2 then
  let c:=(b0%16)*4096+(g (i+1)%64)*64+g (i+2)%64
  if c>=0x800&&valid c then(c,3) else(runeError,1)
 else if b0/8==30&&cont 1&&cont 2&&cont 3 then
  let c:=(b0%8)*262144+(g (i+1)%64)*4096+(g (i+2)%64)*64+g (i+3)%64
  if c>=0x10000&&valid c then(c,4) else(runeError,1)
 else(runeError,1)
theorem yP(s:ByteArray)(i:Nat):Utf8.decode s i=dec (xi s) s.size i:=by unfold Utf8.decode dec;simp only[get_byteN,Nat.add_zero]
theorem dec_width(g:Nat->Nat)(n i:Nat)(h:i<n):1<=(dec g n i).2/\i+(dec g n i).2<=n:=by
 unfold dec;simp only
 repeat' split
 all_goals first
  |(simp only;omega)
  |(rename_i h1 _;simp only[Bool.and_eq_true,decide_eq_true_eq]at h1;simp only;omega)
theorem dec_shift(g g':Nat->Nat)(m n i:Nat)(hg:∀k,g' (m+k)=g k):dec g' (m+n) (m+i)=dec g n i:=by
 have h:∀k,decide (m+i+k<m+n)=decide (i+k<n):=fun k=>by rw[decide_eq_decide];omega
 have e:∀k,g' (m+i+k)=g (i+k):=fun k=>by rw[Nat.add_assoc];exact hg _
 unfold dec;simp only[h,e,hg]
section
variable{P:Program}{ov:Ov}
theorem iN{σ:aC}{r pos:Nat}{s:ByteArray}(h:σ.get r=some (.iter s pos))(hp:pos<s.size)(f:Int->Int->Pg)(p:Pg)(Q:bW):
  Wp P ov (.act (nxt (some ⟨r,0,some 0⟩)) fun v=>asNx v f p) σ Q=Wp P ov (f (pos:Nat) ((Utf8.decode s pos).1:Nat)) (σ.put r (.iter s (pos+(Utf8.decode s pos).2))) Q:=by
 rw[aV];unfold nxt qZ;have:Nat.blt pos s.size=true:=by simpa[Nat.blt_eq]using hp
 simp only[cond_true,h,this,asNx,cU,aM,bB,aQ,aK]
theorem oE{σ:aC}{r pos:Nat}{s:ByteArray}(h:σ.get r=some (.iter s pos))(hp:¬pos<s.size)(f:Int->Int->Pg)(p:Pg)(Q:bW):
  Wp P ov (.act (nxt (some ⟨r,0,some 0⟩)) fun v=>asNx v f p) σ Q=Wp P ov p σ Q:=by
 rw[aV];unfold nxt qZ;have:Nat.blt pos s.size=false:=by rw[Bool.eq_false_iff];intro h;rw[Nat.blt_eq]at h;omega
 simp only[cond_true,cond_false,h,this,asNx,cU,aM,bB,aK]
theorem yX(s:ByteArray)(σ:aC):rng s σ=some (.pointer (some ⟨σ.n,0,some 0⟩),σ.push (.iter s 0)):=rfl
end
section
variable{P:Program}{ι:Inj}{W0 W W':World}{σ σ':aC}
theorem Rel.more(R:Rel ι W0 σ W)(hb:Below W.heap.size W W'):Rel ι W0 σ W':=by
 have a4:W0.heap.size<=W.heap.size:=R.below.size;have a0:∀j v i,ι j v=some i->W'.heap[i.c]?=W.heap[i.c]?:=fun j v i h=>hb.block _ (R.dom _ _ _ h).2.2;refine {below:=R.below.trans ⟨hb.os,hb.tape,hb.output,hb.size,fun k hk=>hb.block k (by omega)⟩,old:=R.old,dom:=fun j v i h=>?_,inj:=R.inj,samelo:=R.samelo,blk:=?_,vers:=R.vers,map:=?_,iter:=?_,dead:=R.dead,fresh:=R.fresh,kept:=fun c o h=>⟨by rw[hb.block c (R.kept_lt h)];exact(R.kept c o h).1,(R.kept c o h).2⟩}
 ·have:=R.dom j v i h;exact⟨this.1,this.2.1,Nat.lt_of_lt_of_le this.2.2 hb.size⟩
 ·intro j B v0 i0 hB a1;have OK:=R.blk j B v0 i0 hB a1;refine {last:=OK.last,ne:=OK.ne,dirty:=OK.dirty,one:=OK.one,ver:=fun v hi hh=>?_};obtain⟨i,f1,f2,f3,f4⟩:=OK.ver v hi hh;refine⟨i,f1,f2,f3,fun hd=>?_⟩;obtain⟨g1,g2,g3,g4,g5⟩:=f4 hd;have hk:=a0 j v i f1;refine⟨g1,g2,g3,fun o a2=>⟨by rw[gJ hk];exact(g4 o a2).1,by rw[mG hk];exact(g4 o a2).2⟩,fun o h1 h2=>?_⟩;obtain⟨x,y,r1,r2,r3⟩:=g5 o h1 h2;exact⟨x,y,r1,by rw[gJ hk];exact r2,r3⟩
 ·intro j es v0 i0 a3 a1;obtain⟨i,f1,ents,clock,f2,f3⟩:=R.map j es v0 i0 a3 a1;exact⟨i,f1,ents,clock,by rw[a0 j 0 i f1];exact f2,f3⟩
 ·intro j s p v0 i0 hs a1;obtain⟨i,f1,f2,f3⟩:=R.iter j s p v0 i0 hs a1;exact⟨i,f1,f2,by rw[a0 j 0 i f1];exact f3⟩
theorem plain_eq{B:Nat}{v v':Value}(hv:cA 0 v=true)(h:VR ι B v v'):v'=v:=by
 cases h<;>first
  |rfl
  |exact Bool.noConfusion hv
def kJ(g:List Value->Option Value):List Value->Act:=fun args σ=>match g args with
 |some v=>some (v,σ)
 |none=>none
structure mX(P:Program)(W0:World)(f:FuncId)(g:List Value->Option Value):Prop where
 body:∃fn c,P.funcs[f]?=some fn/\fn.body=some c
 says:∀args v,g args=some v->(∀a∈args,cA 0 a=true)/\(∀(κ:Inj) B,VR κ B v v)/\∀W,Below W0.heap.size W0 W->Calls P f args.toArray W fun e W'=>e=.returned v/\Below W.heap.size W W'
theorem VRL.plain{B:Nat}:∀{l m:List Value},(∀a∈l,cA 0 a=true)->VRL ι B l m->m=l
 |[],[],_,_=>rfl
 |[],_::_,_,h=>by have:=h.1;simp at this
 |_::_,[],_,h=>by have:=h.1;simp at this
 |a::l,b::m,hp,h=>by have h1:b=a:=plain_eq (hp a (by simp)) (h.2 0 a b rfl rfl);have h2:m=l:=VRL.plain (fun x hx=>hp x (by simp[hx])) ⟨by have:=h.1;simpa using this,fun j v v' e1 e2=>h.2 (j+1) v v' (by simpa using e1) (by simpa using e2)⟩;rw[h1,h2]
theorem mX.ov(hn:uH P){f:FuncId}{g:List Value->Option Value}(h:mX P W0 f g):
  ∀args σ v σ',kJ g args σ=some (v,σ')->∀(ι:Inj) (W:World) (args':Array Value),Rel ι W0 σ W->VRL ι W0.heap.size args args'.toList->
  (callFunc f args').run P W=.ok (.enter f args') W/\Calls P f args' W fun e w'=>∃v' κ,e=.returned v'/\ι.le κ/\VR κ W0.heap.size v v'/\Rel κ W0 σ' w':=by
 intro args σ v σ' hg ι W args' R hA;obtain⟨fn,c,hf,hb⟩:=h.body;refine⟨ue hn hf hb args' W,?_⟩;unfold kJ at hg;cases hv:g args with
 |none=>rw[hv]at hg;cases hg
 |some u=>
  rw[hv]at hg;simp only[Option.some.injEq,Prod.mk.injEq]at hg;obtain⟨rfl,rfl⟩:=hg;obtain⟨h1,h2,h3⟩:=h.says _ _ hv;have e:=VRL.plain h1 hA;have e':args'=args.toArray:=by rw[<-e]
  subst e';refine(h3 W R.below).mono ?_;rintro e W' ⟨rfl,hb⟩;exact⟨_,ι,rfl,Inj.le_refl _,h2 _ _,R.more hb⟩
theorem vh.cons{ov:Ov}{f:FuncId}{G:List Value->Act}
  (h:∀args σ v σ',G args σ=some (v,σ')->∀(ι:Inj) (W:World) (args':Array Value),Rel ι W0 σ W->VRL ι W0.heap.size args args'.toList->
   (callFunc f args').run P W=.ok (.enter f args') W/\Calls P f args' W fun e w'=>∃v' κ,e=.returned v'/\ι.le κ/\VR κ W0.heap.size v v'/\Rel κ W0 σ' w')
  (ho:vh P W0 ov):vh P W0 fun k=>bif Nat.beq k f then some G else ov k:=by
 intro k g hk;dsimp only at hk;cases hb:Nat.beq k f with
 |true=>rw[hb]at hk;simp only[cond_true,Option.some.injEq]at hk;subst hk;have:=Nat.eq_of_beq_eq_true hb;subst this;exact h
 |false=>rw[hb]at hk;exact ho k g hk
def mD:List (Nat×IntKind×List Int)->Addr->Option Value
 |[],_=>none
 |(g,k,zs)::r,a=>bif Nat.beq a.block g then(match zs[a.off]? with
  |some z=>some (.int k z)
  |none=>none) else mD r a
theorem uu{W:World}:∀{l:List (Nat×IntKind×List Int)},(∀x∈l,x.1<W.heap.size/\∀i,i<x.2.2.length->W.cell? ⟨x.1,i,none⟩=some (.int x.2.1 (x.2.2.getD i 0)))->
  ∀b o v,mD l ⟨b,o,none⟩=some v->b<W.heap.size/\W.cell? ⟨b,o,none⟩=some v/\∀κ:Inj,VR κ W.heap.size v v
 |[],_,b,o,v,h=>by cases h
 |(g,k,zs)::r,hl,b,o,v,h=>by
  unfold mD at h;cases hb:Nat.beq b g with
  |true=>
   simp only[hb,cond_true]at h;have:=Nat.eq_of_beq_eq_true hb;subst this;obtain⟨h1,h2⟩:=hl (b,k,zs) (by simp);split at h
   ·rename_i z hz;cases h;have a0:=(List.getElem?_eq_some_iff.1 hz).1;refine⟨h1,?_,fun κ=>.int _ _⟩;rw[h2 o a0];simp[List.getD,hz]
   ·cases h
  |false=>simp only[hb,cond_false]at h;exact uu (fun x hx=>hl x (by simp[hx])) b o v h
def numsD:DataW Unit->List Int
 |.agg ds=>ds.map fun
  |.lit (.int _ z)=>z
  |_=>0
 |_=>[]
theorem xd{name:String}{k:IntKind}{d:DataW Unit}{g:Nat}{t e:TypeId}{n:Nat}(hd:d=Lib.tabData k (numsD d))
  (hg:P.globalNamed name=some g) (a1:(P.globals[g]?).map (·.type)=some t) (ht:P.underlying t=some (.array n e)) (he:P.underlying e=some (.int k)) (a5:P.cellsOf e=1) (a4:P.cellsOf t=n)
  (h:Lib.VarReads P W name d):Lib.TabIs P W name k (numsD d):=by
 rw[hd]at h;obtain⟨g',t',cs,fuel,p,a3,a2,a0,hr⟩:=h;obtain rfl:=Option.some.inj (hg.symm.trans a3);obtain rfl:=Option.some.inj (a1.symm.trans a2);unfold Lib.TabIs;rw[a0,<-Lib.cells_of_tab ht he a5 a4 hr]
theorem sV{H:Type}{enc:TypeId×Value->H}{C:Checked}{os:Os}{f:FuncId}{fn:Func}{s:OpenSpec}{conds:List PathCond}{apart:Bool}{laid:List (String×DataW Unit)}(w0:World)(args:Array Value)(a3:w0.os=os)
  (a2:(w0.forCall (fun _ _=>0) ⟨#[],args,[]⟩).Shaped C.prog)
  (a1:Input.okWideB C.prog (w0.forCall (fun _ _=>0) ⟨#[],args,[]⟩) f ⟨#[],args,[]⟩=true)
  (a0:s.preRow enc C.prog fn conds apart laid (w0.forCall (fun _ _=>0) ⟨#[],args,[]⟩).memory args):
  ∃(w:World) (tape:Tape) (i:Input),w.os=os/\(w.forCall tape i).Shaped C.prog/\i.vars=[]/\Input.okWide C.prog (w.forCall tape i) .any w.heap.size f i/\
   s.preRow enc C.prog fn conds apart laid (w.forCall tape i).memory i.args/\({}:Assume).holds C.prog (lone (Frame.enter C.prog f i.args .normal) [] (w.forCall tape i)):=
 ⟨w0,fun _ _=>0,⟨#[],args,[]⟩,a3,a2,(Input.okWide_of_okWideB (base:=0) a1).1,(Input.okWide_of_okWideB a1).2,a0,by
  simp only[Assume.holds];exact⟨by simp,by simp,by simp,by simp,by simp⟩⟩
theorem tab_cells{name:String}{k:IntKind}{zs:List Int}{g:Nat}(h:Lib.TabIs P W name k zs)(hg:P.globalNamed name=some g)(hG:g<W.heap.size):
  g<W.heap.size/\∀i,i<zs.length->W.cell? ⟨g,i,none⟩=some (.int k (zs.getD i 0)):=⟨hG,fun i hi=>h.cell hg i hi⟩
end
theorem plainVR0{κ:Inj}{B:Nat}{v:Value}(h:cA 0 v=true):VR κ B v v:=by
 cases v with
 |bool b=>exact .bool b
 |int k n=>exact .int k n
 |string s=>exact .string s
 |pointer a=>cases a with
  |none=>exact .ptrNil
  |some a=>cases h
 |slice a n c=>cases a with
  |none=>exact .sliceNil n c
  |some a=>cases h
 |map r=>cases r with
  |none=>exact .mapNil
  |some r=>cases h
 |nilFunc=>exact .nilFunc
 |nilIface=>exact .nilIface
 |_=>cases h
theorem uA{W:World}{b o:Nat}{v:Value}(h:W.cell? ⟨b,o,none⟩=some v):b<W.heap.size:=by
 unfold World.cell? at h;rcases Nat.lt_or_ge b W.heap.size with hl|hl
 ·exact hl
 ·simp[hl]at h
section
variable{H:Type}{enc:TypeId×Value->H}{P:Program}{W W':World}
theorem rP(hl:laidOutB P=true):∀{ts:List TypeId} {vs:List Value} {ds:List (DataW H)} {p:List MemPlace},(∀t∈ts,P.readableRec t=true/\t<P.types.size)->DataW.TrodAll enc P W 0 (fun _=>true) true ts vs ds p->
  Below W.heap.size W W'->(∀x∈p,x.block<W.heap.size)->∀sp:Nat->Bool,(∀x∈p,sp x.block=true)->DataW.TrodAll enc P W' 0 sp true ts vs ds p
 |[],[],[],p,_,h,_,_,_,_=>h
 |t::ts,v::vs,d::ds,p,hr,h,hb,a1,sp,a0=>by
  obtain⟨p1,q,h1,h2,rfl⟩:=h;obtain⟨r1,r2⟩:=hr t (by simp);exact⟨p1,q,WideElems.Trod_stays hl r1 r2 h1 (fun x hx=>hb.same (a1 x (by simp[hx]))) (fun x hx=>a0 x (by simp[hx])),
   rP hl (fun u hu=>hr u (by simp[hu])) h2 hb (fun x hx=>a1 x (by simp[hx])) sp (fun x hx=>a0 x (by simp[hx])),rfl⟩
 |[],[],_::_,_,_,h,_,_,_,_=>h.elim
 |[],_::_,_,_,_,h,_,_,_,_=>h.elim
 |_::_,[],_,_,_,h,_,_,_,_=>h.elim
 |_::_,_::_,[],_,_,h,_,_,_,_=>h.elim
theorem arg_string{r:Reach}{b0:Nat}{t:TypeId}{v:Value}{d:DataW H}{ps:List MemPlace}(ht:P.underlying t=some .string)
  (a0:Value.okWide P W r b0 t v) (h:DataW.Trod enc P W 0 (fun _=>true) true t v d ps):∃s:ByteArray,v=.string s/\s.size<=maxLen/\VR ql W.heap.size (.string s) v:=by
 obtain⟨s,rfl,_,_,hs⟩:=Go.ChangeMaps.open_string ht a0 h;exact⟨s,rfl,hs,.string s⟩
end
inductive Sh where
 |int (k:IntKind)
 |str
 |bool
 |ptr
 |opq
 |row (c:Nat) (s:Sh)
 |fin
 |fld (off:Nat) (s:Sh) (r:Sh)
@[reducible] def Sh.D:Sh->Type
 |.int _=>Int
 |.str=>ByteArray
 |.bool=>Bool
 |.ptr=>Option Addr
 |.opq=>Option Addr×Nat×Nat
 |.row _ s=>List s.D
 |.fin=>Unit
 |.fld _ s r=>s.D×r.D
def Cl(old:Addr->Option Value)(a:Addr)(v:Value):Prop:=∀σ:aC,σ.old=old->ld1 a σ=some (v,σ)
def Rd(old:Addr->Option Value):(s:Sh)->Addr->s.D->Prop
 |.int k,a,n=>Cl old a (.int k n)
 |.str,a,s=>Cl old a (.string s)
 |.bool,a,b=>Cl old a (.bool b)
 |.ptr,a,p=>Cl old a (.pointer p)
 |.opq,a,x=>Cl old a (.slice x.1 x.2.1 x.2.2)
 |.row c s,a,l=>∃p cap,Cl old a (.slice p l.length cap)/\∀i (h:i<l.length),∃x,p=some x/\Rd old s (aadd x (i*c)) l[i]
 |.fin,_,_=>True
 |.fld o s r,a,d=>Rd old s (aadd a o) d.1/\Rd old r a d.2
def RdR(old:Addr->Option Value)(c:Nat)(s:Sh)(p:Option Addr)(l:List s.D):Prop:=∀i (h:i<l.length),∃x,p=some x/\Rd old s (aadd x (i*c)) l[i]
def Sh.ok:(s:Sh)->s.D->Prop
 |.int k,n=>(Lit.int k n).wf=true
 |.str,s=>s.size<=maxLen
 |.bool,_=>True
 |.ptr,_=>True
 |.opq,x=>x.2.1<=maxLen
 |.row _ s,l=>l.length<=maxLen/\∀x∈l,s.ok x
 |.fin,_=>True
 |.fld _ s r,d=>s.ok d.1/\r.ok d.2
def fieldsOf(P:Program):TypeId ⊕ List Field->Option (List Field)
 |.inl t=>match P.underlying t with
  |some (.struct fs)=>some fs.toList
  |_=>none
 |.inr l=>some l
def shC(P:Program):Sh->TypeId ⊕ List Field->Bool
 |.int k,.inl t=>match P.underlying t with
  |some (.int k')=>decide (k'=k)
  |_=>false
 |.str,.inl t=>match P.underlying t with
  |some .string=>true
  |_=>false
 |.bool,.inl t=>match P.underlying t with
  |some .bool=>true
  |_=>false
 |.ptr,.inl t=>match P.underlying t with
  |some (.pointer e)=>Nat.ble 1 (P.cellsOf e)
  |_=>false
 |.opq,.inl t=>match P.underlying t with
  |some (.slice e)=>Nat.ble 1 (P.cellsOf e)
  |_=>false
 |.row c s,.inl t=>match P.underlying t with
  |some (.slice e)=>Nat.beq (P.cellsOf e) c&&Nat.ble 1 c&&shC P s (.inl e)
  |_=>false
 |.fin,x=>match fieldsOf P x with
  |some []=>true
  |_=>false
 |.fld o s r,x=>match fieldsOf P x with
  |some (f::fs)=>Nat.beq f.offset o&&shC P s (.inl f.type)&&shC P r (.inr fs)
  |_=>false
 |_,_=>false
def lO(W:World):Value->Option Value
 |.slice (some _) 0 0=>some (.slice (some ⟨0,0,none⟩) 0 0)
 |.slice (some a) n c=>bif Option.isNone a.spot&&decide (a.block<W.heap.size)&&Nat.ble n c then some (.slice (some a) n c) else none
 |.pointer (some a)=>bif Option.isNone a.spot&&decide (a.block<W.heap.size) then some (.pointer (some a)) else none
 |v=>bif cA 0 v then some v else none
def nY(W:World):Addr->Option Value:=fun a=>match W.cell? a with
 |some v=>bif decide (a.block<W.heap.size) then lO W v else none
 |none=>none
theorem ug{W:World}{v u:Value}(h:lO W v=some u){κ:Inj}:VR κ W.heap.size u v:=by
 unfold lO at h;split at h
 ·cases h;exact .sliceZero _ _ fun v hv=>by cases hv
 ·obtain⟨hc,rfl⟩:=cD h;simp only[Bool.and_eq_true,decide_eq_true_eq]at hc;exact .sliceOld _ _ hc.1.2 (by simpa using hc.1.1)
 ·obtain⟨hc,rfl⟩:=cD h;simp only[Bool.and_eq_true,decide_eq_true_eq]at hc;exact .ptr (.old hc.2 (by simpa using hc.1))
 ·obtain⟨hc,rfl⟩:=cD h;exact plainVR0 hc
theorem oldS_ok{W:World}:∀b o v,nY W ⟨b,o,none⟩=some v->b<W.heap.size/\∃v',W.cell? ⟨b,o,none⟩=some v'/\∀κ:Inj,VR κ W.heap.size v v':=by
 intro b o v h;unfold nY at h;split at h
 ·rename_i u hu;cases hd:decide (b<W.heap.size)with
  |false=>rw[hd]at h;cases h
  |true=>rw[hd]at h;exact⟨of_decide_eq_true hd,u,hu,fun κ=>ug h⟩
 ·cases h
theorem qV{W:World}{b o:Nat}{v u:Value}(h:W.cell? ⟨b,o,none⟩=some v)(hv:lO W v=some u):Cl (nY W) ⟨b,o,none⟩ u:=by
 intro σ hσ;have ho:nY W ⟨b,o,none⟩=some u:=by
  unfold nY;rw[h];simp[hv,uA h]
 unfold ld1 aC.rdN;simp only[wC,hσ,ho]
section
variable{H:Type}{enc:TypeId×Value->H}{P:Program}{W W':World}
def yn(W:World)(b o:Nat)(cs:List Value):Prop:=∀(i:Nat) v,cs[i]?=some v->W.cell? ⟨b,o+i,none⟩=some v
theorem yn.sub{b o:Nat}{cs:List Value}(h:yn W b o cs)(k n:Nat):yn W b (o+k) ((cs.drop k).take n):=by
 intro i v hv;rw[List.getElem?_take]at hv;split at hv
 ·rw[List.getElem?_drop]at hv;rw[Nat.add_assoc];exact h _ v hv
 ·cases hv
theorem yn.of_cells{b o c:Nat}{cs:List Value}(h:W.cells? 0 ⟨b,o,none⟩ c=some cs):yn W b o cs:=by
 obtain⟨_,h1,h2⟩:=World.cells?_some h;intro i v hv;have hi:i<c:=by have:=(List.getElem?_eq_some_iff.1 hv).1;omega
 have:=h2 i hi;rw[Go.WideShapes.add_plain]at this;rw[this,hv]
def ShOne(enc:TypeId×Value->H)(P:Program)(W:World)(s:Sh):Prop:=∀t fuel cs x b o,shC P s (.inl t)=true->DataW.trod enc P W 0 (fun _=>true) true fuel t cs=some x->yn W b o cs->∃d,Rd (nY W) s ⟨b,o,none⟩ d/\s.ok d
theorem slice_rd{s:Sh}{c:Nat}{t e:TypeId}{fuel:Nat}{cs:List Value}{x:DataW H×List MemPlace}(ih:ShOne enc P W s)(ht:P.underlying t=some (.slice e))(hc:P.cellsOf e=c)(h1:1<=c)(hs:shC P s (.inl e)=true)
  (h:DataW.trod enc P W 0 (fun _=>true) true fuel t cs=some x):∃(v:Value) (p:Option Addr) (cap:Nat) (l:List s.D),cs=[v]/\lO W v=some (.slice p l.length cap)/\RdR (nY W) c s p l/\(Sh.row c s).ok l:=by
 rcases DataW.trod_slice ht h with⟨rfl,_⟩|⟨a,len,cap,elems,rest,n,_,rfl,rfl,_,hl,hm,a7,b0,a6,_⟩
 ·exact⟨_,none,0,[],rfl,rfl,(fun i hi=>by cases hi),by simp,(fun y hy=>by cases hy)⟩
 obtain⟨hr,a1⟩:=a6 rfl;by_cases h0:cap=0
 ·have a8:len=0:=by omega
  subst h0;subst a8;exact⟨_,some ⟨0,0,none⟩,0,[],rfl,rfl,(fun i hi=>by cases hi),by simp,(fun y hy=>by cases hy)⟩
 ·have a3:∀i,i<cap->∃cs' y,W.cells? 0 (a.add (i*c)) c=some cs'/\DataW.trod enc P W 0 (fun _=>true) true n e cs'=some y:=by
   intro i hi;have hb:∃y,(W.cells? 0 (a.add (i*c)) c).bind (DataW.trod enc P W 0 (fun _=>true) true n e)=some y:=by
    rw[<-hc];by_cases a9:i<len
    ·exact⟨elems[i],by rw[b0 i a9];exact List.getElem?_eq_getElem (by omega)⟩
    ·refine⟨rest[i-len]'(by omega),?_⟩;have:=a1 (i-len) (by omega);rw[show len+(i-len)=i by omega]at this;rw[this];exact List.getElem?_eq_getElem (by omega)
   obtain⟨y,hy⟩:=hb;rw[Option.bind_eq_some_iff]at hy;obtain⟨cs',q1,q2⟩:=hy;exact⟨cs',y,q1,q2⟩
  obtain⟨cs0,y0,q1,_⟩:=a3 0 (by omega);obtain⟨b,off,spot⟩:=a;have a2:∃v,W.cell? ⟨b,off,spot⟩=some v:=by obtain⟨_,w1,w2⟩:=World.cells?_some q1;have:=w2 0 (by omega);rw[List.getElem?_eq_getElem (by omega)]at this;exact⟨_,by simpa[Addr.add]using this⟩
  obtain⟨v0,a4⟩:=a2;have a0:spot=none:=by simpa using World.cell?_spot a4
  subst a0;have hb:=uA a4;have mk:∀m,m<=len->∃l:List s.D,l.length=m/\(∀i (hi:i<l.length),Rd (nY W) s (aadd ⟨b,off,none⟩ (i*c)) l[i])/\∀y∈l,s.ok y:=by
   intro m;induction m with
   |zero=>exact fun _=>⟨[],rfl,(fun i hi=>by cases hi),(fun y hy=>by cases hy)⟩
   |succ m ihm=>
    intro b1;obtain⟨l,e1,e2,e3⟩:=ihm (by omega);obtain⟨cs',y,q1,q2⟩:=a3 m (by omega);rw[Go.WideShapes.add_plain]at q1;obtain⟨d,d1,d2⟩:=ih e n cs' y b (off+m*c) hs q2 (yn.of_cells q1);refine⟨l++[d],by simp[e1],fun i hi=>?_,fun y hy=>?_⟩
    ·by_cases a5:i<l.length
     ·rw[List.getElem_append_left a5];exact e2 i a5
     ·have:i=l.length:=by simp at hi;omega
      subst this;rw[List.getElem_append_right (by omega)];simp only[Nat.sub_self,List.getElem_singleton];rw[e1];exact d1
    ·rcases List.mem_append.1 hy with hy|hy
     ·exact e3 y hy
     ·simp at hy;subst hy;exact d2
  obtain⟨l,e1,e2,e3⟩:=mk len (Nat.le_refl _);subst e1;refine⟨_,some ⟨b,off,none⟩,cap,l,rfl,?_,fun i hi=>⟨_,rfl,e2 i hi⟩,by omega,e3⟩;unfold lO;split
  ·rename_i q;simp only[Value.slice.injEq]at q;omega
  ·rename_i q;cases q;simp[hb];rw[show Nat.ble l.length cap=true by rw[Nat.ble_eq];exact hl];try rfl
  ·rename_i q;cases q
  ·rename_i q1 q2 _;exact absurd rfl (q2 _ _ _)
theorem ptr_rd{t e:TypeId}{fuel:Nat}{cs:List Value}{x:DataW H×List MemPlace}(ht:P.underlying t=some (.pointer e))(h1:1<=P.cellsOf e)
  (h:DataW.trod enc P W 0 (fun _=>true) true fuel t cs=some x):∃p:Option Addr,cs=[.pointer p]/\lO W (.pointer p)=some (.pointer p):=by
 rcases DataW.trod_pointer ht h with⟨rfl,_⟩|⟨a,cs',y,n,_,rfl,_,q1,_⟩
 ·exact⟨none,rfl,rfl⟩
 ·refine⟨some a,rfl,?_⟩;obtain⟨b,off,spot⟩:=a;obtain⟨_,w1,w2⟩:=World.cells?_some q1;have:=w2 0 (by omega);rw[List.getElem?_eq_getElem (by omega)]at this;have a1:W.cell? ⟨b,off,spot⟩=some (cs'[0]'(by omega)):=by simpa[Addr.add]using this
  have a0:spot=none:=by simpa using World.cell?_spot a1
  subst a0;have hb:=uA a1;simp[lO,hb]
theorem opq_rd{t e:TypeId}{fuel:Nat}{cs:List Value}{x:DataW H×List MemPlace}(ht:P.underlying t=some (.slice e))(h1:1<=P.cellsOf e)
  (h:DataW.trod enc P W 0 (fun _=>true) true fuel t cs=some x):∃(p:Option Addr) (n c:Nat) (v:Value),cs=[v]/\lO W v=some (.slice p n c)/\n<=maxLen:=by
 rcases DataW.trod_slice ht h with⟨rfl,_⟩|⟨a,len,cap,elems,rest,n,_,rfl,rfl,_,hl,hm,a4,a7,a3,_⟩
 ·exact⟨none,0,0,_,rfl,rfl,by simp⟩
 obtain⟨hr,a1⟩:=a3 rfl;by_cases h0:cap=0
 ·have a5:len=0:=by omega
  subst h0;subst a5;exact⟨some ⟨0,0,none⟩,0,0,_,rfl,rfl,by simp⟩
 ·have hb:∃y,(W.cells? 0 (a.add (0*P.cellsOf e)) (P.cellsOf e)).bind (DataW.trod enc P W 0 (fun _=>true) true n e)=some y:=by
   by_cases a6:0<len
   ·exact⟨elems[0],by rw[a7 0 a6];exact List.getElem?_eq_getElem (by omega)⟩
   ·refine⟨rest[0-len]'(by omega),?_⟩;have:=a1 (0-len) (by omega);rw[show len+(0-len)=0 by omega]at this;rw[this];exact List.getElem?_eq_getElem (by omega)
  obtain⟨y,hy⟩:=hb;rw[Option.bind_eq_some_iff]at hy;obtain⟨cs',q1,_⟩:=hy;obtain⟨b,off,spot⟩:=a;obtain⟨_,w1,w2⟩:=World.cells?_some q1;have:=w2 0 (by omega);rw[List.getElem?_eq_getElem (by omega)]at this;have a2:W.cell? ⟨b,off,spot⟩=some (cs'[0]'(by omega)):=by simpa[Addr.add]using this
  have a0:spot=none:=by simpa using World.cell?_spot a2
  subst a0;have hb:=uA a2;refine⟨some ⟨b,off,none⟩,len,cap,_,rfl,?_,by omega⟩;unfold lO;split
  ·rename_i q;simp only[Value.slice.injEq]at q;omega
  ·rename_i q;cases q;simp[hb];rw[show Nat.ble len cap=true by rw[Nat.ble_eq];exact hl];try rfl
  ·rename_i q;cases q
  ·rename_i q1 q2 _;exact absurd rfl (q2 _ _ _)
theorem shC_inl{s:Sh}{t:TypeId}{fs:Array Field}(ht:P.underlying t=some (.struct fs))(hs:s=.fin\/∃o a r,s=.fld o a r):shC P s (.inl t)=shC P s (.inr fs.toList):=by rcases hs with rfl|⟨o,a,r,rfl⟩<;>simp[shC,fieldsOf,ht]
theorem sh_rd:∀s:Sh,ShOne enc P W s/\
  ∀(fs:List Field) fuel cs b o,shC P s (.inr fs)=true->(∀f∈fs,∃x,DataW.trod enc P W 0 (fun _=>true) true fuel f.type ((cs.drop f.offset).take (P.cellsOf f.type))=some x)->yn W b o cs->∃d,Rd (nY W) s ⟨b,o,none⟩ d/\s.ok d:=by
 have lift:∀s:Sh,(s=.fin\/∃o a r,s=.fld o a r)->(∀(fs:List Field) fuel cs b o,shC P s (.inr fs)=true->(∀f∈fs,∃x,DataW.trod enc P W 0 (fun _=>true) true fuel f.type ((cs.drop f.offset).take (P.cellsOf f.type))=some x)->yn W b o cs->∃d,Rd (nY W) s ⟨b,o,none⟩ d/\s.ok d)->ShOne enc P W s:=by
  intro s hs h2 t fuel cs x b o hc h hh;have hu:∃fs,P.underlying t=some (.struct fs):=by
   rcases hs with rfl|⟨o,a,r,rfl⟩
   ·simp only[shC,fieldsOf]at hc;cases hu:P.underlying t with
    |none=>simp[hu]at hc
    |some d=>cases d<;>simp_all
   ·simp only[shC,fieldsOf]at hc;cases hu:P.underlying t with
    |none=>simp[hu]at hc
    |some d=>cases d<;>simp_all
  obtain⟨fs,hu⟩:=hu;obtain⟨xs,n,_,_,_,a4,hx⟩:=DataW.trod_struct hu h;rw[shC_inl hu hs]at hc;refine h2 fs.toList n cs b o hc (fun f hf=>?_) hh;obtain⟨i,hi,rfl⟩:=List.mem_iff_getElem.1 hf;simp at hi;have:=hx i fs[i] (Array.getElem?_eq_getElem hi);refine⟨xs[i]'(by omega),?_⟩;simp only[Array.getElem_toList];rw[this];exact List.getElem?_eq_getElem (by omega)
 intro s;induction s with
 |int k=>
  refine⟨fun t fuel cs x b o hc h hh=>?_,fun fs fuel cs b o hc=>by simp[shC]at hc⟩;simp only[shC]at hc;split at hc
  ·rename_i k' hu;obtain rfl:=of_decide_eq_true hc;obtain⟨n,rfl,_,hw⟩:=DataW.trod_int hu h;exact⟨n,qV (hh 0 _ rfl) rfl,hw⟩
  ·cases hc
 |str=>
  refine⟨fun t fuel cs x b o hc h hh=>?_,fun fs fuel cs b o hc=>by simp[shC]at hc⟩;simp only[shC]at hc;split at hc
  ·rename_i hu;obtain⟨n,rfl,_,hw⟩:=DataW.trod_string hu h;exact⟨n,qV (hh 0 _ rfl) rfl,hw⟩
  ·cases hc
 |bool=>
  refine⟨fun t fuel cs x b o hc h hh=>?_,fun fs fuel cs b o hc=>by simp[shC]at hc⟩;simp only[shC]at hc;split at hc
  ·rename_i hu;obtain⟨n,rfl,_⟩:=DataW.trod_bool hu h;exact⟨n,qV (hh 0 _ rfl) rfl,trivial⟩
  ·cases hc
 |ptr=>
  refine⟨fun t fuel cs x b o hc h hh=>?_,fun fs fuel cs b o hc=>by simp[shC]at hc⟩;simp only[shC]at hc;split at hc
  ·rename_i e hu;simp only[Nat.ble_eq]at hc;obtain⟨p,rfl,hp⟩:=ptr_rd hu hc h;exact⟨p,qV (hh 0 _ rfl) hp,trivial⟩
  ·cases hc
 |opq=>
  refine⟨fun t fuel cs x b o hc h hh=>?_,fun fs fuel cs b o hc=>by simp[shC]at hc⟩;simp only[shC]at hc;split at hc
  ·rename_i e hu;simp only[Nat.ble_eq]at hc;obtain⟨p,n,c,v,rfl,hp,hm⟩:=opq_rd hu hc h;exact⟨(p,n,c),qV (hh 0 _ rfl) hp,hm⟩
  ·cases hc
 |row c s ih=>
  refine⟨fun t fuel cs x b o hc h hh=>?_,fun fs fuel cs b o hc=>by simp[shC]at hc⟩;simp only[shC]at hc;split at hc
  ·rename_i e hu;simp only[Bool.and_eq_true,Nat.beq_eq,Nat.ble_eq]at hc;obtain⟨v,p,cap,l,rfl,e2,e3,e4⟩:=slice_rd ih.1 hu hc.1.1 hc.1.2 hc.2 h;exact⟨l,⟨p,cap,qV (hh 0 _ rfl) e2,e3⟩,e4⟩
  ·cases hc
 |fin=>have h2:∀(fs:List Field) fuel cs b o,shC P .fin (.inr fs)=true->(∀f∈fs,∃x,DataW.trod enc P W 0 (fun _=>true) true fuel f.type ((cs.drop f.offset).take (P.cellsOf f.type))=some x)->yn W b o cs->∃d,Rd (nY W) .fin ⟨b,o,none⟩ d/\Sh.fin.ok d:=fun _ _ _ _ _ _ _ _=>⟨(),trivial,trivial⟩;exact⟨lift _ (.inl rfl) h2,h2⟩
 |fld off s r ihs ihr=>
  have h2:∀(fs:List Field) fuel cs b o,shC P (.fld off s r) (.inr fs)=true->(∀f∈fs,∃x,DataW.trod enc P W 0 (fun _=>true) true fuel f.type ((cs.drop f.offset).take (P.cellsOf f.type))=some x)->yn W b o cs->∃d,Rd (nY W) (.fld off s r) ⟨b,o,none⟩ d/\(Sh.fld off s r).ok d:=by
   intro fs fuel cs b o hc hf hh;cases fs with
   |nil=>simp[shC,fieldsOf]at hc
   |cons f fs=>simp only[shC,fieldsOf,Bool.and_eq_true,Nat.beq_eq]at hc;obtain⟨⟨rfl,a3⟩,a0⟩:=hc;obtain⟨x,hx⟩:=hf f (by simp);obtain⟨d1,a1,a2⟩:=ihs.1 f.type fuel _ x b (o+f.offset) a3 hx (hh.sub _ _);obtain⟨d2,b1,b2⟩:=ihr.2 fs fuel cs b o a0 (fun g hg=>hf g (by simp[hg])) hh;exact⟨(d1,d2),⟨a1,b1⟩,a2,b2⟩
  exact⟨lift _ (.inr ⟨_,_,_,rfl⟩) h2,h2⟩
theorem arg_row{r:Reach}{b0 c:Nat}{s:Sh}{t:TypeId}{v:Value}{d:DataW H}{ps:List MemPlace}(hc:shC P (.row c s) (.inl t)=true)
  (a1:Value.okWide P W r b0 t v) (h:DataW.Trod enc P W 0 (fun _=>true) true t v d ps):
  ∃(p:Option Addr) (cap:Nat) (l:List s.D),VR ql W.heap.size (.slice p l.length cap) v/\RdR (nY W) c s p l/\(Sh.row c s).ok l:=by
 simp only[shC]at hc;split at hc
 ·rename_i e hu;simp only[Bool.and_eq_true,Nat.beq_eq,Nat.ble_eq]at hc;obtain⟨a0,len,cap,rfl⟩:=okWide_slice hu a1;obtain⟨fuel,hf⟩:=h;obtain⟨v,p,cap,l,e1,e2,e3,e4⟩:=slice_rd (sh_rd s).1 hu hc.1.1 hc.1.2 hc.2 hf;simp[Value.cells]at e1;subst e1;exact⟨p,cap,l,ug e2,e3,e4⟩
 ·cases hc
end
def unO(l:List (Nat×IntKind×List Int))(old:Addr->Option Value):Addr->Option Value:=fun a=>match a.spot with
 |none=>(match mD l a with
  |some v=>some v
  |none=>old a)
 |some _=>old a
theorem xx:∀{l:List (Nat×IntKind×List Int)} {a:Addr} {v:Value},mD l a=some v->∃k n,v=.int k n
 |[],_,_,h=>by cases h
 |(g,k,zs)::r,a,v,h=>by
  unfold mD at h;cases hb:Nat.beq a.block g with
  |true=>
   rw[hb,cond_true]at h;split at h
   ·exact⟨_,_,(Option.some.inj h).symm⟩
   ·cases h
  |false=>rw[hb,cond_false]at h;exact xx h
theorem unO_eq{W:World}{l:List (Nat×IntKind×List Int)}(h:∀b o v,mD l ⟨b,o,none⟩=some v->b<W.heap.size/\W.cell? ⟨b,o,none⟩=some v/\∀κ:Inj,VR κ W.heap.size v v):unO l (nY W)=nY W:=by
 funext a
 obtain⟨b,o,spot⟩:=a;cases spot with
 |some s=>rfl
 |none=>
  unfold unO;simp only;cases ht:mD l ⟨b,o,none⟩with
  |none=>rfl
  |some v=>obtain⟨h1,h2,_⟩:=h b o v ht;obtain⟨k,n,rfl⟩:=xx ht;unfold nY;rw[h2];simp[h1,lO,cA]
section
variable{P:Program}{ι:Inj}{W0 W:World}
theorem mX.up{f:FuncId}{g:List Value->Option Value}(h:mX P W0 f g)(hb:Below W0.heap.size W0 W):mX P W f g where
 body:=h.body
 says args v hv:=by
  obtain⟨h1,h2,h3⟩:=h.says args v hv;exact⟨h1,h2,fun W' a0=>h3 W' (hb.trans ⟨a0.os,a0.tape,a0.output,a0.size,fun k hk=>a0.block k (Nat.lt_of_lt_of_le hk hb.size)⟩)⟩
def Ground(P:Program)(W0:World)(ov:Ov)(old:Addr->Option Value):Prop:=
 ∀W,Below W0.heap.size W0 W->vh P W ov/\∀b o v,old ⟨b,o,none⟩=some v->b<W.heap.size/\W.cell? ⟨b,o,none⟩=some v/\∀κ:Inj,VR κ W.heap.size v v
theorem Ground.cons{ov:Ov}{old:Addr->Option Value}{f:FuncId}{g:List Value->Option Value}(hn:uH P)(h:mX P W0 f g)(hg:Ground P W0 ov old):Ground P W0 (fun k=>bif Nat.beq k f then some (kJ g) else ov k) old:=
 fun W hb=>⟨vh.cons (mX.ov hn (h.up hb)) (hg W hb).1,(hg W hb).2⟩
theorem Ground.tabs{l:List (Nat×IntKind×List Int)}(h:∀x∈l,x.1<W0.heap.size/\∀i,i<x.2.2.length->W0.cell? ⟨x.1,i,none⟩=some (.int x.2.1 (x.2.2.getD i 0))):Ground P W0 (fun _=>none) (mD l):=
 fun W hb=>⟨vh.none,uu fun x hx=>⟨Nat.lt_of_lt_of_le (h x hx).1 hb.size,fun i hi=>by rw[cell_old hb (h x hx).1];exact(h x hx).2 i hi⟩⟩
end
open Go.Shelf Go.Lib Go.Proofs
def tF:List Value->Option Value
 |[.int .i32 r]=>bif decide (-2147483648<=r)&&decide (r<=2147483647) then some (.bool (isLetterU r)) else none
 |_=>none
def zA:List Value->Option Value
 |[.int .i32 r]=>bif decide (-2147483648<=r)&&decide (r<=2147483647) then some (.bool (isUpperU r)) else none
 |_=>none
section
variable{P:Program}{ρ:Ren}{W:World}
theorem letter_ok(L:Lays.n200 P ρ)(hf:∃fn c,P.funcs[ρ.f 200]?=some fn/\fn.body=some c)(hg:P.globalNamed "unicode.properties" =some (ρ.g 7))(a0:Lib.TabIs P W "unicode.properties" .u8 Lib.propertiesTab)(hV:RVar (ρ.g 8) letterT W):
  mX P W (ρ.f 200) tF where
 body:=hf
 says:=by
  intro args v h;unfold tF at h;split at h
  ·rename_i r;obtain⟨hc,rfl⟩:=cD h;simp only[Bool.and_eq_true,decide_eq_true_eq]at hc;exact⟨by intro a ha;simp at ha;subst ha;rfl,fun _ _=>.bool _,fun W' hb=>Any.unicode_IsLetter_all L hg r W' hc.1 hc.2 (TabIs_below hg a0 hb) (RVar_below hV hb)⟩
  ·cases h
theorem upper_ok(L:Lays.n201 P ρ)(hf:∃fn c,P.funcs[ρ.f 201]?=some fn/\fn.body=some c)(hg:P.globalNamed "unicode.properties" =some (ρ.g 7))(a0:Lib.TabIs P W "unicode.properties" .u8 Lib.propertiesTab)(hV:RVar (ρ.g 9) upperT W):
  mX P W (ρ.f 201) zA where
 body:=hf
 says:=by
  intro args v h;unfold zA at h;split at h
  ·rename_i r;obtain⟨hc,rfl⟩:=cD h;simp only[Bool.and_eq_true,decide_eq_true_eq]at hc;exact⟨by intro a ha;simp at ha;subst ha;rfl,fun _ _=>.bool _,fun W' hb=>Any.unicode_IsUpper_all L hg r W' hc.1 hc.2 (TabIs_below hg a0 hb) (RVar_below hV hb)⟩
  ·cases h
end
def uE:List Value->Option Value
 |[.string s]=>some (.tuple #[.int .i32 (Lib.decodeGo s).1,.int .i64 (Lib.decodeGo s).2])
 |_=>none
section
variable{P:Program}{ρ:Ren}{W:World}
theorem rW{W':World}{b o:Nat}{v:Value}(hb:Below W.heap.size W W')(h:W.cell? ⟨b,o,none⟩=some v):W'.cell? ⟨b,o,none⟩=some v:=by have:=uA h;rw[Below.cell hb (show(⟨b,o,none⟩:Addr).block<W.heap.size from this)];exact h
theorem VR.pair{κ:Inj}{B:Nat}{a b:Value}(ha:VR κ B a a)(hb:VR κ B b b):VR κ B (.tuple #[a,b]) (.tuple #[a,b]):=
 VRL.tuple (.cons ha (.cons hb .nil))
theorem decode_ok(L:Lays.n197 P ρ)(hf:∃fn c,P.funcs[ρ.f 197]?=some fn/\fn.body=some c)(hT:Lib.Utf8Tabs (ρ.g 3) (ρ.g 4) W):mX P W (ρ.f 197) uE where
 body:=hf
 says:=by
  intro args v h;unfold uE at h;split at h
  ·rename_i s;cases h;refine⟨by intro a ha;simp at ha;subst ha;rfl,fun _ _=>VR.pair (.int _ _) (.int _ _),fun W' hb=>Any.utf8_DecodeRuneInString L s W' ⟨fun c hc=>rW hb (hT.1 c hc),fun i hi=>⟨rW hb (hT.2 i hi).1,rW hb (hT.2 i hi).2⟩⟩⟩
  ·cases h
end
end Go.Pg
