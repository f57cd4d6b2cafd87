/- GdD, GdE, MvC, MvD, MvE, MvF, MvG, MdA, MvH, MvI, MvJ, MvK, MvL, McD, MvM, MvN, MvO, MdB, MdC, TabF, Awk, MwA, McE, MwD, Shelf -/
import Derived.Ground.NamesProg
import Derived.Shelf.Unicode.PredsPay
import Derived.Shelf.Unicode.DecodeAny
import Derived.Test.YtkbefekajgfldaaGreatDoorProg
import Derived.Test.YtkbefekajgfldaaGreatDoorP6
set_option maxHeartbeats 1000000
namespace Go.Pg
open Go.Proofs Go.Utf8 Go.Lib
set_option linter.unusedSimpArgs false
section
variable {σ σ':aB} {N:List NV} {D:List Dc} {Y:Nat→Prop} {pn pd:Option Addr} {cn cd A:Nat}
theorem zM {w p:Nat} {b:Bool} {e:Nat} (h:bZ N D (w+1) p b=some e) {v:NV} (hv:N[p]?=some v):v.kids.length≤N.length:=by
 have a0:=gW h
 have hr:=h
 rw [bZ,hv] at hr
 simp only at hr
 split at hr
 ·obtain ⟨a,h1,hr⟩:=aU hr
  have:=qX (g:=fun _=>[()]) (fun p' b' e' h'=>by have:=gW h';simp;omega) _ _ _ _ _ h1
  have h2:∀ l:List Nat,(l.flatMap fun _=>[()]).length=l.length:=fun l=>by
   induction l with
   |nil=>rfl
   |cons x l ih=>rw [List.flatMap_cons,List.length_append,ih];simp;omega
  have h2:=h2 v.kids
  split at hr
  ·cases hr
  ·cases ofS hr
   omega
 ·cases hr
theorem wp_binds35 (hN:N.length≤1000):∀ (w p:Nat) (b:Bool) (e m:Nat) (σ:aB),bZ N D w p b=some e→N.length≤m+p→dK σ Y pn N pd D→
  WpF aG ovD 51 [trV pn N.length cn pd D.length cd,.int .i64 ((p:Nat):Int)] σ fun v σ'=>∃ rb q k,v=.slice q (bJ N m p).length k∧SlV σ' rb q k ((bJ N m p).map cW)∧(q≠none→σ.n≤rb)∧Frm σ σ' NoB:=by
 intro w
 induction w with
 |zero=>intro p b e m σ h;cases h
 |succ w ih=>
  intro p b e m σ h hm hT
  obtain ⟨v,hv,a5⟩:=uS h
  have d0:=nE _ _ _ _ h
  have d9:=gW h
  obtain ⟨m,rfl⟩:∃ m',m=m'+1:=⟨m - 1,by omega⟩
  have b8:p<N.length:=by omega
  have c6:N[p]=v:=by
   rw [List.getElem?_eq_getElem b8] at hv
   exact Option.some.inj hv
  have e1:=zM h hv
  refine WpF.of (T51_eq _ _ _ _ _ _ _) rfl ?_
  rw [T51]
  refine aP fun σ1 c5 d8 b5=>?_
  generalize hA:σ.n=A at b5
  rw [aE b5 rfl]
  simp only [wpS]
  have b9:=hT.frm c5
  refine dM b9.nodes b8 rfl fun cs a7=>?_
  rw [c6] at a7
  obtain ⟨q,k,rfl,b1,_⟩:=a7
  simp only [wpS]
  refine aP fun σ2 d6 c9 c1=>?_
  refine bC c1 rfl rfl fun σ3 c4 d7 c0=>?_
  generalize hC:σ1.n=C at c1 c0 c4 c9
  have a2:Frm σ1 σ3 NoB:=d6.fresh c4 fun j hj h=>by omega
  have a0:=c5.seq a2
  have b4:=a2.stN b5
  have d2:=b9.frm a2
  have a4:=b1.later a2
  have a1:St σ3 C (nvC v q k):=c0
  rw [aE a1 rfl]
  simp only [wpS]
  rw [aC]
  have hb:=d0 (m+1)
  by_cases a9:v.x.k=22
  ·have eb:bJ N (m+1) p=[v.x.nm]:=by
    rw [bJ,hv]
    simp only
    rw [if_pos a9]
   rw [if_pos (by simpa using a9),aE a1 rfl]
   simp only [wpS]
   rw [aY,cT]
   simp only [wpS]
   rw [eb]
   refine ⟨_,rfl,σ3.n,_,1,rfl,.inr ⟨0,1,rfl,Row.new σ3 1 [cW v.x.nm] 1 (by decide) rfl (by intro y hy;simp at hy;subst hy;rfl)⟩,fun _=>by have:=a0.n;omega,a0.seq (Frm.new _ _ _ _)⟩
  have eb:bJ N (m+1) p=v.kids.flatMap fun k=>if p<k∧k<N.length∧v.x.k=26 then bJ N m k else []:=by
   rw [bJ,hv]
   simp only
   rw [if_neg a9]
  rw [if_neg (by simpa using a9),eb,aE a1 rfl]
  simp only [wpS]
  rw [eb] at hb
  rw [aC]
  by_cases a8:v.x.k=26
  case neg=>
   have e0:(v.kids.flatMap fun k=>if p<k∧k<N.length∧v.x.k=26 then bJ N m k else [])=[]:=by
    rw [List.flatMap_eq_nil_iff]
    intro k _
    rw [if_neg fun h=>a8 h.2.2]
   rw [if_neg (by simpa using a8)]
   simp only [wpS,T51k2]
   rw [e0]
   exact ⟨_,rfl,0,none,0,rfl,.inl ⟨rfl,rfl,rfl⟩,fun h=>absurd rfl h,a0⟩
  generalize hg:(fun k=>if p<k∧k<N.length∧v.x.k=26 then bJ N m k else [])=g at hb
  have b2:∀ j,((v.kids.take j).flatMap g).length≤(v.kids.flatMap g).length:=fun j=>by
   conv=>rhs;rw [←List.take_append_drop j v.kids,List.flatMap_append,List.length_append]
   omega
  rw [if_pos (by simpa using a8),aE a1 (i:=4) rfl]
  simp only [wpS]
  refine Wp.count v.kids.length (fun j st σ'=>∃ rb qq kk,st=[.int .i64 ((j:Nat):Int),.slice qq ((v.kids.take j).flatMap g).length kk]∧SlV σ' rb qq kk (((v.kids.take j).flatMap g).map cW)∧(qq≠none→σ3.n≤rb)∧Frm σ3 σ' NoB)
   ⟨0,none,0,by simp,.inl ⟨rfl,rfl,by simp⟩,fun h=>absurd rfl h,Frm.refl _ _⟩ ?_ ?_
  ·rintro j st σ4 hj ⟨rb,qq,kk,rfl,hL,a6,a3⟩
   obtain ⟨k1,k2,b',e',k3⟩:=a5 j hj
   have ej:aT ((j:Int)+1)=((j+1:Nat):Int):=by rw [aV (by omega)];omega
   have b3:=a3.stN b4
   have d1:=d2.frm a3
   unfold T51b0
   simp only [wpS]
   rw [aC,if_pos (by simp;omega),aI]
   refine dF (a4.later a3) hj rfl fun cs a7=>⟨_,a7,?_⟩
   simp only [wpS]
   have b0:(v.kids.take (j+1)).flatMap g=(v.kids.take j).flatMap g++g v.kids[j]:=by
    rw [List.take_succ_eq_append_getElem hj,List.flatMap_append]
    simp
   have eg:g v.kids[j]=bJ N m v.kids[j]:=by rw [←hg];simp only;rw [if_pos ⟨k1,k2,a8⟩]
   rw [aS b3 2 rfl]
   simp only [wpS]
   rw [aD]
   refine WpF.mono (ih v.kids[j] b' e' m σ4 k3 (by omega) d1) ?_
   rintro _ σ5 ⟨rb2,q2,kk2,rfl,c3,c7,b6⟩
   simp only [wpS]
   have d4:=hL.frm b6 fun _ h=>h
   have p1:=b2 (j+1)
   rw [b0,eg,List.length_append] at p1
   rw [←eg] at c3 ⊢
   refine qz d4 (by simp) c3 (by simp) (by rw [eg];omega) (by rw [eg];omega) fun σ6 rb6 q6 kk6 d5 c8 d3=>?_
   simp only [wpS,T51k0,ej]
   have b7:Frm σ3 σ6 NoB:=(a3.seq b6).trans d5 (fun _ _ h=>h) fun i hi h=>by have:=a6 h.1;omega
   refine ⟨rb6,q6,kk6,?_,?_,?_,b7⟩
   ·rw [b0,List.length_append]
   ·rw [b0,List.map_append];exact d3
   ·intro h
    have:=a3.n
    have:=b6.n
    rcases c8 with h6|⟨h6,h7⟩|h6
    ·exact absurd h6 h
    ·have:=a6 h6;omega
    ·omega
  ·rintro st σ4 ⟨rb,qq,kk,rfl,hL,a6,a3⟩
   rw [List.take_length] at hL ⊢
   unfold T51b0
   simp only [wpS]
   rw [aC,if_neg (by simp)]
   simp only [wpS,T51k1,T51k2]
   exact ⟨_,rfl,rb,qq,kk,rfl,hL,fun h=>by have:=a6 h;have:=a0.n;omega,a0.seq a3⟩
theorem wp_walk32 (hN:N.length≤1000):∀ (n p:Nat) (pat:Bool) (e:Nat) (σ:aB),n≤60→bZ N D n p pat=some e→Ask σ A pn N cn pd D cd p→
  WpF aG ovD 48 [bP A,.bool pat,.int .i64 ((60 - n:Nat):Int)] σ fun v σ'=>v=.bool true∧Ask σ' A pn N cn pd D cd e∧Frm σ σ' (· =A):=by
 intro n
 induction n with
 |zero=>intro p pat e σ _ h;cases h
 |succ n ih=>
  intro p pat e σ hn h hA
  have e3:=gW h
  have b7:p<N.length:=by omega
  obtain ⟨v,hv⟩:∃ v,N[p]?=some v:=⟨_,List.getElem?_eq_getElem b7⟩
  have d0:N[p]=v:=by
   rw [List.getElem?_eq_getElem b7] at hv
   exact Option.some.inj hv
  have e4:=zM h hv
  have hw:=h
  rw [bZ,hv] at hw
  simp only at hw
  split at hw
  case isFalse=>cases hw
  rename_i hc
  obtain ⟨b0,d1,b8⟩:=hc
  obtain ⟨e1,c4,hw⟩:=aU hw
  split at hw
  ·cases hw
  obtain rfl:=ofS hw
  refine WpF.of (T48_eq _ _ _) rfl ?_
  have e5:=hA.st.1
  rw [T48]
  simp only [wpS]
  rw [aE hA.st (i:=2) rfl]
  simp only [wpS]
  rw [cG,aE hA.st (v:=.slice pn N.length cn) rfl]
  simp only [wpS]
  rw [aC,if_neg (by simp;omega),aE hA.st (v:=.slice pn N.length cn) rfl]
  simp only [wpS]
  refine dM hA.tree.nodes b7 rfl fun cs b1=>?_
  rw [d0] at b1
  obtain ⟨q,k,rfl,b6,_⟩:=b1
  simp only [wpS]
  refine aP fun σ1 c6 d3 c0=>?_
  refine bC c0 rfl rfl fun σ2 c1 e0 a1=>?_
  generalize hC:σ.n=C at c0 a1 c1 d3
  have a3:Frm σ σ2 NoB:=c6.fresh c1 fun j hj h=>by omega
  have a1:St σ2 C (nvC v q k):=a1
  clear c0 c6 c1
  have a4:=hA.frm a3
  rw [aI,aE a1 (i:=0) rfl]
  simp only [wpS]
  rw [aD]
  refine WpF.mono (tY _) ?_
  rintro _ _ ⟨rfl,rfl⟩
  simp only [wpS]
  have epat:decide (21≤v.x.k∧v.x.k≤26)=pat:=by
   have d8:v.x.k≤26:=by
    unfold bR at b0
    simp only [Bool.and_eq_true,decide_eq_true_eq] at b0
    exact b0.1.1.1.1.2
   rw [←d1]
   by_cases c8:v.x.k>20
   ·rw [decide_eq_true c8,decide_eq_true ⟨by omega,d8⟩]
   ·rw [decide_eq_false c8,decide_eq_false (by omega)]
  rw [epat]
  rw [aC,if_pos (by simp),aY,show aadd ⟨A,0,some 0⟩ 0=⟨A,0,some 0⟩ from rfl,a4.st.ldN (off:=0) (k:=2) (by simp)]
  simp only [wpS,List.drop_zero,List.take_succ_cons,List.take_zero]
  rw [aS a1 7 rfl]
  simp only [nvC,wpS]
  rw [aD]
  refine WpF.mono (wp_alone62 a4.tree a4.dl a4.cl q k b0 (by omega) b8) ?_
  rintro _ σ3 ⟨rfl,b2⟩
  have c5:=b2.stN a1
  have b4:=a4.frm b2
  have a2:=a3.seq b2
  have c7:C≠A:=by omega
  simp only [wpS,T48k3,Bool.not_true]
  rw [aC,if_neg (by simp),aE b4.st (i:=2) rfl]
  simp only [wpS]
  have ep:aT (((p:Nat):Int)+1)=((p+1:Nat):Int):=by rw [aV (by omega)];omega
  have ed:aT (((60 - (n+1):Nat):Int)+1)=((60 - n:Nat):Int):=by rw [aV (by omega)];omega
  rw [ep]
  refine bB b4.st (by simp) rfl fun σ4 a9 d9 d4=>?_
  have d7:Ask σ4 A pn N cn pd D cd (p+1):=b4.bump a9 d4
  have a7:=a9.st c5 c7
  have a6:aR σ4 (· =A) 1 kO q v.kids:=(b6.later a2).step (Y':=(· =A)) a9 (fun _ _ h=>h) (fun _ _ h=>h) fun _ _ h=>h
  have c3:Frm σ σ4 (· =A):=(a2.mono fun _ _ h=>h.elim).trans a9 (fun _ _ h=>h) fun _ _ h=>h
  clear b4 c5 a4 a1 b2 a9 a2 a3
  rw [aE a7 (i:=4) (v:=.slice q v.kids.length k) rfl]
  simp only [wpS]
  generalize hR:(fun i=>pat||(decide (v.x.k=11)&&decide (i % 2=1)))=pt at c4
  refine Wp.count v.kids.length (fun j st σ'=>∃ next,st=[.int .i64 ((j:Nat):Int),.bool false]∧Ask σ' A pn N cn pd D cd next∧gI (bZ N D n) pt (v.kids.drop j) j next=some e∧Frm σ4 σ' (· =A))
   ⟨p+1,rfl,d7,by rw [List.drop_zero];exact c4,Frm.refl _ _⟩ ?_ ?_
  ·rintro j st σ5 hj ⟨next,rfl,b3,a0,a8⟩
   have ej:aT ((j:Int)+1)=((j+1:Nat):Int):=by rw [aV (by omega)];omega
   have b9:=a8.st a7 c7
   have a5:=a6.step (Y':=(· =A)) a8 (fun _ _ h=>h) (fun _ _ h=>h) fun _ _ h=>h
   rw [List.drop_eq_getElem_cons hj,gI] at a0
   split at a0
   case isFalse=>cases a0
   rename_i d2
   obtain ⟨e2,c9,a0⟩:=aU a0
   unfold T48b0
   simp only [wpS]
   rw [aC,if_pos (by simp;omega),aI]
   refine dF a5 hj rfl fun cs b1=>⟨_,b1,?_⟩
   simp only [wpS]
   rw [aE b3.st (i:=2) rfl]
   simp only [wpS]
   rw [aC,if_pos (by rw [d2];simp),ed]
   have back:∀ (b:Bool),b=pt j→Wp aG ovD (.call 48 [.pointer (some ⟨A,0,some 0⟩),.bool b,.int .i64 ((60 - n:Nat):Int)] fun v=>eR v fun b124=>.ret .normal [.bool (!b124)]) σ5 fun e_1 vs σ'=>Wp aG ovD (T48k0 false e_1 vs) σ' fun e_1 vs σ'=>Wp aG ovD (T48k1 ((j:Nat):Int) e_1 vs) σ' fun e_1 st' σ'=>match e_1 with
     | .normal=>∃ next,st'=[.int .i64 ((j+1:Nat):Int),.bool false]∧Ask σ' A pn N cn pd D cd next∧gI (bZ N D n) pt (v.kids.drop (j+1)) (j+1) next=some e∧Frm σ4 σ' (· =A)
     |e_2=>Wp aG ovD (T48k2 e_2 st') σ' fun _ vs σ'=>∃ w,vs=[w]∧w=.bool true∧Ask σ' A pn N cn pd D cd e∧Frm σ σ' (· =A):=by
    rintro b rfl
    rw [aD]
    refine WpF.mono (ih next (pt j) e2 σ5 (by omega) c9 b3) ?_
    rintro _ σ6 ⟨rfl,d6,d5⟩
    simp only [wpS,T48k0,Bool.not_true]
    rw [aC,if_neg (by simp)]
    simp only [wpS,T48k1,ej]
    exact ⟨e2,trivial,d6,a0,a8.trans d5 (fun _ _ h=>h) fun _ _ h=>h⟩
   rw [aC]
   cases pat with
   |true=>
    rw [if_neg (by simp)]
    exact back true (by rw [←hR];simp)
   |false=>
    rw [if_pos (by rfl),aE b9 (i:=0) rfl]
    simp only [wpS]
    rw [aC]
    by_cases b5:v.x.k=11
    ·rw [if_pos (by simpa using b5),aD]
     refine WpF.of (T85_eq _) rfl ?_
     rw [T85]
     simp only [wpS]
     refine ⟨_,rfl,?_⟩
     simp only [wpS]
     refine back _ ?_
     rw [←hR,Int.tmod_eq_emod_of_nonneg (by omega)]
     simp only [Bool.false_or,b5,decide_true,Bool.true_and]
     by_cases h2:j % 2=1
     ·rw [decide_eq_true h2,beq_iff_eq];omega
     ·rw [decide_eq_false h2,beq_eq_false_iff_ne];omega
    ·rw [if_neg (by simpa using b5)]
     exact back false (by rw [←hR];simp [b5])
  ·rintro st σ5 ⟨next,rfl,b3,a0,a8⟩
   rw [List.drop_length,gI] at a0
   obtain rfl:=ofS a0
   unfold T48b0
   simp only [wpS]
   rw [aC,if_neg (by simp)]
   simp only [wpS,T48k2]
   exact ⟨_,rfl,rfl,b3,c3.trans a8 (fun _ _ h=>h) fun _ _ h=>h⟩
end
end Go.Pg
namespace Go.Pg
open Go.Proofs Go.Utf8 Go.Lib
set_option linter.unusedSimpArgs false
theorem sZ:∀ l:List (List UInt8),cP l=false↔l.Nodup
 |[]=>by simp [cP]
 |s::l=>by
  rw [cP,Bool.or_eq_false_iff,sZ l,List.nodup_cons]
  constructor
  ·rintro ⟨h1,h2⟩
   exact ⟨fun h=>(by rw [List.contains_iff_mem.2 h] at h1;cases h1),h2⟩
  ·rintro ⟨h1,h2⟩
   exact ⟨by rw [Bool.eq_false_iff];exact fun h=>h1 (List.contains_iff_mem.1 h),h2⟩
theorem wQ {α β:Type} (f:α→List β) {a:α}:∀ {l:List α},a∈l→(f a).Sublist (l.flatMap f)
 |x::l,h=>by
  rw [List.flatMap_cons]
  rcases List.mem_cons.1 h with rfl|h
  ·exact List.sublist_append_left _ _
  ·exact (wQ f h).trans (List.sublist_append_right _ _)
section
variable {N:List NV} {D:List Dc}
theorem yM:∀ (m m' p:Nat),N.length≤m+p→N.length≤m'+p→bJ N m p=bJ N m' p
 |0,0,_,_,_=>rfl
 |0,m'+1,p,h,_=>by rw [bJ,bJ,List.getElem?_eq_none (by omega)]
 |m+1,0,p,_,h=>by rw [bJ,bJ,List.getElem?_eq_none (by omega)]
 |m+1,m'+1,p,h,h'=>by
  rw [bJ,bJ]
  cases hv:N[p]? with
  |none=>rfl
  |some v=>
   simp only
   split
   ·rfl
   ·congr 1
    funext k
    split
    ·rename_i hk
     exact yM m m' k (by omega) (by omega)
    ·rfl
theorem vP {q:Nat→Bool→Option Nat} (hq:∀ p b e,q p b=some e→p<e) (pat:Nat→Bool):∀ (l:List Nat) (i next e:Nat),gI q pat l i next=some e→∀ x,next≤x→x<e→∃ j,∃ hj:j<l.length,∃ e',q l[j] (pat (i+j))=some e'∧l[j]≤x∧x<e'
 |[],i,next,e,h,x,h1,h2=>by
  cases ofS h
  omega
 |k::l,i,next,e,h,x,h1,h2=>by
  rw [gI] at h
  split at h
  ·rename_i hk
   obtain ⟨a,ha,h⟩:=aU h
   by_cases hx:x<a
   ·exact ⟨0,by simp,a,by rw [List.getElem_cons_zero,hk];exact ha,by rw [List.getElem_cons_zero];omega,hx⟩
   ·obtain ⟨j,hj,e',p1,p2,p3⟩:=vP hq pat l (i+1) a e h x (by omega) h2
    refine ⟨j+1,by simpa using hj,e',?_,?_,p3⟩
    ·rw [List.getElem_cons_succ,show i+(j+1)=i+1+j by omega];exact p1
    ·rw [List.getElem_cons_succ];exact p2
  ·cases h
theorem zu {n p:Nat} {pat:Bool} {e:Nat} (h:bZ N D (n+1) p pat=some e):∃ v,N[p]?=some v∧bR v=true∧decide (v.x.k>20)=pat∧gI (bZ N D n) (fun i=>pat||(decide (v.x.k=11)&&decide (i % 2=1))) v.kids 0 (p+1)=some e∧(v.x.k=11→∀ i (hi:i<v.kids.length),i % 2=1→cP (bJ N N.length v.kids[i])=false):=by
 rw [bZ] at h
 split at h
 ·cases h
 rename_i v hv
 split at h
 case isFalse=>cases h
 rename_i hc
 obtain ⟨e1,hk,h⟩:=aU h
 split at h
 ·cases h
 rename_i a0
 obtain rfl:=ofS h
 refine ⟨v,hv,hc.1,hc.2.1,hk,fun a1 i hi h2=>?_⟩
 cases ht:cP (bJ N N.length v.kids[i]) with
 |false=>rfl
 |true=>exact absurd ⟨a1,i,hi,h2,by simpa [List.getD,hi] using ht⟩ a0
theorem pat_kids {v:NV} (h:bR v=true) (hk:v.x.k>20) (hl:v.kids≠[]):v.x.k=26:=by
 unfold bR at h
 simp only [Bool.and_eq_true,decide_eq_true_eq] at h
 obtain ⟨⟨⟨⟨⟨h1,h2⟩,h3⟩,_⟩,_⟩,_⟩:=h
 have hn:v.kids.length≠0:=fun h=>hl (List.eq_nil_of_length_eq_zero h)
 obtain ⟨i,hi⟩:∃ i:Nat,v.x.k=(i:Int):=⟨v.x.k.toNat,by omega⟩
 rw [hi] at h3 hk h2 ⊢
 unfold kV at h3
 rw [Int.toNat_natCast] at h3
 have:i=21∨i=22∨i=23∨i=24∨i=25∨i=26:=by omega
 rcases this with rfl|rfl|rfl|rfl|rfl|rfl
 all_goals first
  |rfl
  |(exfalso;apply hn;simpa [eQ] using h3)
theorem binds_kid {p:Nat} {v:NV} (hv:N[p]?=some v) (hk:v.x.k=26) {k:Nat} (hm:k∈v.kids) (hp:p<k) (hN:k<N.length):(bJ N N.length k).Sublist (bJ N N.length p):=by
 obtain ⟨m,a0⟩:∃ m,N.length=m+1:=⟨N.length - 1,by omega⟩
 have e:bJ N N.length p=v.kids.flatMap fun k=>if p<k∧k<N.length∧v.x.k=26 then bJ N m k else []:=by
  conv=>lhs;rw [a0]
  rw [bJ,hv]
  simp only
  rw [if_neg (by omega)]
 rw [e,yM N.length m k (by omega) (by omega)]
 have:=wQ (fun k=>if p<k∧k<N.length∧v.x.k=26 then bJ N m k else []) hm
 rwa [if_pos ⟨hp,hN,hk⟩] at this
theorem walk_pat:∀ (n p e:Nat),bZ N D n p true=some e→∀ i,p≤i→i<e→(bJ N N.length i).Sublist (bJ N N.length p)
 |0,_,_,h,_,_,_=>by cases h
 |n+1,p,e,h,i,h1,h2=>by
  by_cases hi:i=p
  ·subst hi;exact .refl _
  have a5:=gW h
  obtain ⟨v,hv,hs,hk,a3,_⟩:=zu h
  obtain ⟨j,hj,e',p1,p2,p3⟩:=vP (fun p b e h=>(gW h).1) _ _ _ _ _ a3 i (by omega) h2
  rw [Bool.true_or] at p1
  have a0:=List.getElem_mem hj
  have a2:v.kids≠[]:=fun h=>by rw [h] at hj;exact absurd hj (Nat.not_lt_zero _)
  obtain ⟨v2,a1,a4⟩:=uS h
  rw [hv] at a1
  cases a1
  obtain ⟨q1,q2,_⟩:=a4 j hj
  exact (walk_pat n _ _ p1 i p2 p3).trans (binds_kid hv (pat_kids hs (by simpa using hk) a2) a0 q1 q2)
theorem yW:∀ (n p e:Nat),bZ N D n p false=some e→∀ i,p≤i→i<e→∀ hN:i<N.length,20<N[i].x.k→cP (bJ N N.length i)=false
 |0,_,_,h,_,_,_,_,_=>by cases h
 |n+1,p,e,h,i,h1,h2,hN,hk=>by
  obtain ⟨v,hv,hs,a2,a1,a0⟩:=zu h
  have hi:i≠p:=by
   rintro rfl
   rw [List.getElem?_eq_getElem hN] at hv
   rw [Option.some.inj hv] at hk
   simp at a2
   omega
  obtain ⟨j,hj,e',p1,p2,p3⟩:=vP (fun p b e h=>(gW h).1) _ _ _ _ _ a1 i (by omega) h2
  rw [Bool.false_or,Nat.zero_add] at p1
  cases hb:(decide (v.x.k=11)&&decide (j % 2=1)) with
  |false=>
   rw [hb] at p1
   exact yW n _ _ p1 i p2 p3 hN hk
  |true=>
   rw [hb] at p1
   simp only [Bool.and_eq_true,decide_eq_true_eq] at hb
   have:=a0 hb.1 j hj hb.2
   rw [sZ] at this ⊢
   exact (walk_pat n _ _ p1 i p2 p3).nodup this
theorem dD.binds (g:dD N D) {i:Nat} (hi:i<N.length) (hk:20<N[i].x.k):cP (bJ N N.length i)=false:=yW _ _ _ g.walk i (Nat.zero_le _) hi hi hk
end
section
variable {σ σ':aB} {N:List NV} {D:List Dc} {Y:Nat→Prop} {pn pd:Option Addr} {cn cd:Nat}
theorem wp_Good21 (g:dD N D) (h:lR σ Y pn N pd D):WpF aG ovD 32 [trV pn N.length cn pd D.length cd] σ fun v σ'=>v=.bool true∧Frm σ σ' NoB:=by
 have hN:=g.most
 refine WpF.of (T32_eq _ _ _ _ _ _) rfl ?_
 rw [T32]
 refine aP fun σ1 b1 b4 a3=>?_
 generalize hA:σ.n=A at a3 b4
 have h1:=h.frm b1
 rw [aI,aE a3 rfl]
 simp only [wpS]
 have hp:=g.pos
 rw [aC,if_pos (by simp;omega),aE a3 rfl]
 simp only [wpS]
 rw [aC,if_pos (by simp;omega),aE a3 rfl]
 simp only [wpS]
 rw [aD]
 refine WpF.mono (wp_decls31 (aR.later h1.tree.decls (Frm.refl _ _):aR σ1 Y 2 (dcR σ1 Y) pd D) g.types) ?_
 rintro _ σ2 ⟨rfl,a8⟩
 have a6:=a8.stN a3
 have h2:=h1.frm a8
 simp only [wpS,T32k4,Bool.not_true]
 rw [aC,if_neg (by simp),aS a6 2 rfl]
 simp only [wpS]
 refine aP fun σ3 a7 b3 b0=>?_
 generalize hB:σ2.n=B at b0 b3
 have b9:=a7.stN a6
 have h3:lR σ3 (· =B) pn N pd D:=h2.step (S:=NoB) a7 (fun _ _ h=>h.elim) fun j hj h=>by omega
 have c8:Ask σ3 B pn N cn pd D cd 0:=⟨b0,h3.tree,h3.nl,h3.dl,h3.cl,h3.kl,h3.al⟩
 rw [aI,aD]
 refine WpF.mono (wp_walk32 hN 60 0 false N.length σ3 (Nat.le_refl _) g.walk c8) ?_
 rintro _ σ4 ⟨rfl,c7,c6⟩
 have a1:Frm σ2 σ4 NoB:=(a7).fresh c6 fun j hj h=>by omega
 have a4:=a1.stN a6
 have h4:=h2.frm a1
 simp only [wpS]
 rw [aC,if_pos (by rfl),aE c7.st (i:=2) rfl]
 simp only [wpS]
 rw [aE a4 (v:=.slice pn N.length cn) rfl]
 simp only [wpS,T32k3]
 rw [show (((N.length:Nat):Int) !=((N.length:Nat):Int))=false by simp,aC,if_neg (by simp),aE a4 (v:=.slice pn N.length cn) rfl]
 simp only [wpS]
 have a9:=(b1.seq a8).seq a1
 refine Wp.count N.length (fun i st σ'=>st=[.int .i64 ((i:Nat):Int),.bool false]∧Frm σ4 σ' NoB) ⟨rfl,Frm.refl _ _⟩ ?_ ?_
 ·rintro i st σ5 hi ⟨rfl,a2⟩
  have ei:aT ((i:Int)+1)=((i+1:Nat):Int):=by rw [aV (by omega)];omega
  have h5:=h4.frm a2
  have b8:=a2.stN a4
  unfold T32b0
  simp only [wpS]
  rw [aC,if_pos (by simp;omega),aI]
  refine dM h5.tree.nodes hi rfl fun cs b5=>?_
  obtain ⟨q,k,rfl,b2,_⟩:=b5
  simp only [wpS]
  refine aP fun σ6 c5 d0 b7=>?_
  refine bC b7 rfl rfl fun σ7 c4 c9 b6=>?_
  have a0:Frm σ5 σ7 NoB:=c5.fresh c4 fun j hj h=>by omega
  have a5:=a0.stN b8
  have h7:=h5.frm a0
  rw [aI,aE b6 (i:=0) rfl]
  simp only [wpS]
  rw [aD]
  refine WpF.mono (tY _) ?_
  rintro _ _ ⟨rfl,rfl⟩
  simp only [wpS]
  rw [aC]
  by_cases hk:21≤N[i].x.k∧N[i].x.k≤26
  case neg=>
   rw [if_neg (by simp;omega)]
   simp only [wpS,T32k0]
   rw [aC,if_neg (by simp)]
   simp only [wpS,T32k1,ei]
   exact ⟨trivial,a2.seq a0⟩
  rw [if_pos (by simp;omega),aS a5 2 rfl]
  simp only [wpS]
  rw [aD]
  obtain ⟨m,b',e',_,hw⟩:=(walk_at _ _ _ _ g.walk).2 i (Nat.zero_le _) hi
  refine WpF.mono (wp_binds35 hN m i b' e' N.length _ hw (by omega) h7.tree) ?_
  rintro _ σ8 ⟨rb,q8,k8,rfl,c0,_,c3⟩
  simp only [wpS]
  rw [aD]
  have d2:=nE _ _ _ _ hw N.length
  have d1:=gW hw
  refine WpF.mono (rZ (gV c0) (by omega) (g.binds hi (by omega))) ?_
  rintro _ σ9 ⟨rfl,c1⟩
  simp only [wpS,T32k0]
  rw [aC,if_neg (by simp)]
  simp only [wpS,T32k1,ei]
  exact ⟨trivial,a2.seq (a0.seq (c3.seq c1))⟩
 ·rintro st σ5 ⟨rfl,a2⟩
  unfold T32b0
  simp only [wpS]
  rw [aC,if_neg (by simp)]
  simp only [wpS,T32k2]
  exact ⟨_,rfl,rfl,a9.seq a2⟩
end
end Go.Pg
namespace Go.Pg
open Go.Proofs Go.Utf8 Go.Lib
set_option linter.unusedSimpArgs false
section
variable {σ σ':aB} {Y:Nat→Prop}
theorem VlP.plain {v:Vl} (h1:v.args=[]) (h2:v.env=.nil):VlP σ Y v none none:=⟨by rw [h1];exact aR.nil,Emp.none,by rw [h2];exact tF.2 rfl⟩
abbrev zC:List Value:=[.int .i64 0,.int .i64 0,.string (bs []),.slice none 0 0,.int .i64 0,.pointer none,.int .i64 0]
theorem zc (n:Int):EvF aG ovD 31 [.int .i64 n] σ (.int .i64 (w63 n)) σ:=by
 refine EvF.of (T31_eq _) rfl ?_
 rw [T31,wp_ret]
 exact ⟨rfl,rfl⟩
theorem pS (n:Int) {Q:Value→aB→Prop} (hQ:∀ σ',Frm σ σ' NoB→Q (.agg (vC (bN n) none 0 none).toArray) σ'):WpF aG ovD 61 [.int .i64 n] σ Q:=by
 refine WpF.of (T61_eq _) rfl ?_
 rw [T61]
 refine aP fun σ1 a3 a5 a1=>?_
 rw [aD,WpF.eq (zc n)]
 simp only [wpS]
 refine bC a1 rfl rfl fun σ2 a2 a4 a0=>?_
 rw [aS a0 7 rfl]
 simp only [wpS]
 exact ⟨_,rfl,hQ σ2 (a3.fresh a2 fun j hj h=>by omega)⟩
theorem vB {Q:Value→aB→Prop} (hQ:∀ σ',Frm σ σ' NoB→Q (.agg (vC nH none 0 none).toArray) σ'):WpF aG ovD 62 [] σ Q:=by
 refine WpF.of T62_eq rfl ?_
 rw [T62]
 refine aP fun σ1 a3 a5 a1=>?_
 refine bC a1 rfl rfl fun σ2 a2 a4 a0=>?_
 rw [aS a0 7 rfl]
 simp only [wpS]
 exact ⟨_,rfl,hQ σ2 (a3.fresh a2 fun j hj h=>by omega)⟩
theorem wp_truth114 (b:Bool) {Q:Value→aB→Prop} (hQ:∀ σ',Frm σ σ' NoB→Q (.agg (vC (iW b) none 0 none).toArray) σ'):WpF aG ovD 114 [.bool b] σ Q:=by
 refine WpF.of (T114_eq _) rfl ?_
 rw [T114]
 refine aP fun σ1 a3 b1 a6=>?_
 generalize hA:σ.n=A at a6 b1
 refine aP fun σ2 a9 b0 a5=>?_
 have a2:=a9.stN a6
 generalize hB:σ1.n=B at a5 b0
 refine bC a5 rfl rfl fun σ3 a8 b7 a4=>?_
 have a0:=a8.st a2 (by omega)
 have a1:Frm σ σ3 NoB:=(a3.seq a9).fresh a8 fun j hj h=>by have:=a3.n;omega
 have fin:∀ (τ:aB) (z:Int),Frm σ τ NoB→St τ A zC→St τ B [.int .i64 2,.int .i64 z,.string (bs []),.slice none 0 0,.int .i64 0,.pointer none,.int .i64 0]→z=(if b=true then 1 else 0)→Wp aG ovD (T114k0 ⟨B,0,some 0⟩ ⟨A,0,some 0⟩ .normal []) τ fun _ vs σ'=>∃ v,vs=[v]∧Q v σ':=by
  rintro τ z hτ hA hB rfl
  simp only [wpS,T114k0]
  rw [aS hB 7 rfl]
  simp only [wpS]
  refine bC hA rfl rfl fun σ5 b4 b5 b2=>?_
  rw [aS b2 7 rfl]
  simp only [wpS]
  exact ⟨_,rfl,hQ σ5 (hτ.fresh b4 fun j hj h=>by omega)⟩
 rw [aI,aC]
 cases b with
 |true=>
  rw [if_pos rfl]
  refine bB a4 (by simp) rfl fun σ4 a7 b6 b3=>?_
  simp only [wpS]
  exact fin σ4 1 (a1.fresh a7 fun j hj h=>by have:=a3.n;omega) (a7.st a0 (by omega)) b3 rfl
 |false=>
  rw [if_neg (by simp)]
  simp only [wpS]
  exact fin σ3 0 a1 a0 a4 rfl
theorem wp_op89 (t:List UInt8) (a b:Int) {Q:Value→aB→Prop} (hQ:∀ σ',Frm σ σ' NoB→Q (.tuple #[.agg (vC ((opV t a b).getD cA) none 0 none).toArray,.bool (opV t a b).isSome]) σ'):WpF aG ovD 89 [.string (mkB t),.int .i64 a,.int .i64 b] σ Q:=by
 refine WpF.of (T89_eq _ _ _) rfl ?_
 rw [T89]
 refine aP fun σ1 a3 a5 a1=>?_
 generalize hA:σ.n=A at a1 a5
 have fin:∀ (τ:aB) (v:Vl),Frm σ1 τ NoB→v.args=[]→opV t a b=some v→Wp aG ovD (.act (stC ⟨A,0,some 0⟩ (vC v none 0 none)) fun v31=>cE v31 fun l32=>aA l32 (.ret .ret [.bool true])) τ fun e vs σ'=>Wp aG ovD (T89k0 ⟨A,0,some 0⟩ e vs) σ' fun _ vs σ'=>∃ v,vs=[v]∧Q v σ':=by
  intro τ v hτ ha hv
  refine bC (hτ.stN a1) rfl rfl fun σ3 a2 a4 a0=>?_
  simp only [wpS,T89k0]
  rw [aS a0 7 rfl]
  simp only [wpS]
  have:=hQ σ3 ((a3.seq hτ).fresh a2 fun j hj h=>by omega)
  rw [hv] at this
  exact ⟨_,rfl,this⟩
 have num:∀ n:Int,opV t a b=some (bN n)→Wp aG ovD (.call 61 [.int .i64 n] fun v6=>asAgg v6 fun l7=>aM l7 fun v8 l9=>asInt .i64 v8 fun i10=>aM l9 fun v11 l12=>asInt .i64 v11 fun i13=>aM l12 fun v14 l15=>jP v14 fun s16=>aM l15 fun v17 l18=>aN v17 fun p19 n20 n21=>aM l18 fun v22 l23=>asInt .i64 v22 fun i24=>aM l23 fun v25 l26=>aK v25 fun p27=>aM l26 fun v28 l29=>asInt .i64 v28 fun i30=>aA l29 (.act (stC ⟨A,0,some 0⟩ [.int .i64 i10,.int .i64 i13,.string s16,.slice p19 n20 n21,.int .i64 i24,.pointer p27,.int .i64 i30]) fun v31=>cE v31 fun l32=>aA l32 (.ret .ret [.bool true]))) σ1 fun e vs σ'=>Wp aG ovD (T89k0 ⟨A,0,some 0⟩ e vs) σ' fun _ vs σ'=>∃ v,vs=[v]∧Q v σ':=by
  intro n hn
  rw [aD]
  refine pS n fun τ hτ=>?_
  have:=fin τ (bN n) hτ rfl hn
  unfold vC at this ⊢
  simp only [wpS]
  exact this
 have tru:∀ c:Bool,opV t a b=some (iW c)→Wp aG ovD (.call 114 [.bool c] fun v6=>asAgg v6 fun l7=>aM l7 fun v8 l9=>asInt .i64 v8 fun i10=>aM l9 fun v11 l12=>asInt .i64 v11 fun i13=>aM l12 fun v14 l15=>jP v14 fun s16=>aM l15 fun v17 l18=>aN v17 fun p19 n20 n21=>aM l18 fun v22 l23=>asInt .i64 v22 fun i24=>aM l23 fun v25 l26=>aK v25 fun p27=>aM l26 fun v28 l29=>asInt .i64 v28 fun i30=>aA l29 (.act (stC ⟨A,0,some 0⟩ [.int .i64 i10,.int .i64 i13,.string s16,.slice p19 n20 n21,.int .i64 i24,.pointer p27,.int .i64 i30]) fun v31=>cE v31 fun l32=>aA l32 (.ret .ret [.bool true]))) σ1 fun e vs σ'=>Wp aG ovD (T89k0 ⟨A,0,some 0⟩ e vs) σ' fun _ vs σ'=>∃ v,vs=[v]∧Q v σ':=by
  intro c hc
  rw [aD]
  refine wp_truth114 c fun τ hτ=>?_
  have:=fin τ (iW c) hτ rfl hc
  unfold vC at this ⊢
  simp only [wpS]
  exact this
 rw [aI,bS,aC]
 unfold opV at num tru hQ
 by_cases c1:t=[43]
 ·rw [if_pos (by simpa using c1)]
  exact num _ (by rw [if_pos c1])
 rw [if_neg (by simpa using c1),bS,aC]
 by_cases c2:t=[45]
 ·rw [if_pos (by simpa using c2)]
  exact num _ (by rw [if_neg c1,if_pos c2])
 rw [if_neg (by simpa using c2),bS,aC]
 by_cases c3:t=[42]
 ·rw [if_pos (by simpa using c3)]
  exact num _ (by rw [if_neg c1,if_neg c2,if_pos c3])
 rw [if_neg (by simpa using c3),bS,aC]
 by_cases c4:t=[60]
 ·rw [if_pos (by simpa using c4)]
  exact tru _ (by rw [if_neg c1,if_neg c2,if_neg c3,if_pos c4])
 rw [if_neg (by simpa using c4),bS,aC]
 by_cases c5:t=[61]
 ·rw [if_pos (by simpa using c5)]
  exact tru _ (by rw [if_neg c1,if_neg c2,if_neg c3,if_neg c4,if_pos c5])
 rw [if_neg (by simpa using c5)]
 simp only [wpS,T89k0]
 refine bC a1 rfl rfl fun σ3 a2 a4 a0=>?_
 rw [aS a0 7 rfl]
 simp only [wpS]
 have:=hQ σ3 (a3.fresh a2 fun j hj h=>by omega)
 rw [if_neg c1,if_neg c2,if_neg c3,if_neg c4,if_neg c5] at this
 exact ⟨_,rfl,this⟩
def En.len:En→Nat
 | .nil=>0
 | .cons _ _ u=>u.len+1
theorem wp_find63 {e:En} {p:Option Addr} (h:EnR σ Y e p) (t:List UInt8) {Q:Value→aB→Prop}
  (a5:rE t e=none→∀ σ',Frm σ σ' NoB→Q (.tuple #[.agg zC.toArray,.bool false]) σ')
  (a0:∀ v,rE t e=some v→∀ q c p' σ',Frm σ σ' NoB→VlP σ' Y v q p'→Q (.tuple #[.agg (vC v q c p').toArray,.bool true]) σ'):WpF aG ovD 63 [.pointer p,.string (mkB t)] σ Q:=by
 refine WpF.of (T63_eq _ _) rfl ?_
 rw [T63]
 refine aP fun σ1 a4 a7 a2=>?_
 generalize hA:σ.n=A at a2 a7
 refine Wp.loop (fun m st σ'=>σ'=σ1∧∃ e' p',st=[.pointer p',.bool false]∧EnR σ Y e' p'∧rE t e'=rE t e∧m=e'.len) e.len ⟨rfl,e,p,rfl,h,rfl,rfl⟩ ?_
 rintro m st σ2 ⟨rfl,e',p',rfl,hE,hf,rfl⟩
 unfold T63b0
 simp only [wpS]
 cases e' with
 |nil=>
  rw [tF] at hE
  subst hE
  rw [aC,if_neg (by simp)]
  simp only [wpS,T63k1]
  refine bC a2 rfl rfl fun σ3 a3 a6 a1=>?_
  rw [aS a1 7 rfl]
  simp only [wpS]
  exact ⟨_,rfl,a5 (by rw [←hf];rfl) σ3 (a4.fresh a3 fun j hj h=>by omega)⟩
 |cons nm v u=>
  obtain ⟨x,cs,pu,rfl,h1,h2,h3,h4⟩:=EnR_cons.1 hE
  have hl:=h3.len
  have hz:Cz σ2 Y x 9 (.string (mkB nm)::(cs++[.pointer pu])):=Cz.frm ⟨h1,h2,by simp [hl]⟩ a4
  rw [aC,if_pos (by simp),aI]
  simp only [wpS]
  rw [dL hz (i:=0) rfl]
  simp only [wpS,fD]
  rw [aC]
  by_cases hn:nm=t
  ·rw [if_pos (by simpa using hn),aY,hz.ldN (i:=1) (k:=7) (by decide)]
   have ecs:((Value.string (mkB nm)::(cs++[.pointer pu])).drop 1).take 7=cs:=by
    rw [List.drop_succ_cons,List.drop_zero,List.take_append_of_le_length (by omega),List.take_of_length_le (by omega)]
   rw [ecs]
   obtain ⟨q,c,p2,rfl,hP⟩:=dH.1 h3
   unfold vC
   simp only [wpS]
   refine bC a2 rfl rfl fun σ3 a3 a6 a1=>?_
   simp only [wpS,T63k0,T63k1]
   rw [aS a1 7 rfl]
   simp only [wpS]
   have hF:=a4.fresh a3 fun j hj h=>by omega
   exact ⟨_,rfl,a0 v (by rw [←hf,rE,if_pos hn]) q c p2 σ3 hF (hP.step (S:=NoB) (Y':=Y) hF (fun _ _ h=>h.elim) fun _ _ h=>h)⟩
  ·rw [if_neg (by simpa using hn)]
   simp only [wpS,T63k0]
   rw [dL hz (i:=8) (v:=.pointer pu) (by
    show (cs++[Value.pointer pu])[7]?=_
    rw [List.getElem?_append_right (by omega),hl]
    rfl)]
   simp only [wpS]
   exact ⟨u.len,Nat.lt_succ_self _,trivial,u,pu,rfl,h4,by rw [←hf,rE,if_neg hn],rfl⟩
end
section
variable {σ σ':aB} {X:Nat→Prop} {A:Nat} {T:TrA} {N:List NV} {D:List Dc} {s:Slt} {m:MS}
theorem eY (h:Mac σ X A T N D s m) {v:Vl} {q p:Option Addr} (c:Nat) (hv:VlP σ (FX X A s) v q p):WpF aG ovD 56 [bP A,.agg (vC v q c p).toArray] σ (QM σ X A T N D s (m.value v)):=by
 refine WpF.of (T56_eq _ _ _ _ _ _ _ _ _ _) rfl ?_
 rw [T56]
 refine aP fun σ1 a1 b0 a5=>?_
 have h1:=h.frmN a1
 have a2:=hv.step (S:=NoB) (Y':=FX X A s) a1 (fun _ _ h=>h.elim) fun _ _ h=>h
 rw [aS a5 7 rfl]
 simp only [wpS]
 refine wp_stKQ h1.st (by simp [eV]) rfl fun σ2 a7 a9 a4=>?_
 refine bB (i:=11) a4 (by simp [eV]) rfl fun σ3 a6 a8 a3=>?_
 simp only [wpS]
 have a0:=a7.seq a6
 refine ⟨_,rfl,rfl,{ s with vq:=q,vc:=c,vp:=p },?_,(Mov.ofN a1).trans (Mov.ofA a0 rfl)⟩
 exact h1.upd a0 a3 (by constructor<;>rfl) a2 h1.env h1.k h1.calls
theorem fI (h:Mac σ X A T N D s m) {i:Nat} {e:En} {p:Option Addr} (he:EnR σ (FX X A s) e p):WpF aG ovD 57 [bP A,.int .i64 ((i:Nat):Int),.pointer p] σ (QM σ X A T N D s (m.goTo i e)):=by
 refine WpF.of (T57_eq _ _ _) rfl ?_
 rw [T57]
 simp only [wpS]
 refine bB (i:=19) h.st (by simp [eV]) rfl fun σ1 a5 a8 a2=>?_
 refine bB (i:=20) a2 (by simp [eV]) rfl fun σ2 a4 a7 a1=>?_
 refine bB (i:=11) a1 (by simp [eV]) rfl fun σ3 a3 a6 a0=>?_
 simp only [wpS]
 have hF:=(a5.seq a4).seq a3
 refine ⟨_,rfl,rfl,{ s with pe:=p },?_,Mov.ofA hF rfl⟩
 exact h.upd hF a0 (by constructor<;>rfl) h.v he h.k h.calls
theorem fP (h:Mac σ X A T N D s m):WpF aG ovD 64 [bP A] σ (QM σ X A T N D s m.stuck):=by
 refine WpF.of (T64_eq _) rfl ?_
 rw [T64]
 simp only [wpS]
 refine bB (i:=9) h.st (by simp [eV]) rfl fun σ1 a0 a2 a1=>?_
 simp only [wpS]
 refine ⟨_,rfl,rfl,s,?_,Mov.ofA a0 rfl⟩
 exact h.upd a0 a1 (by constructor<;>rfl) h.v h.env h.k h.calls
theorem ev_isStop55 (k:Int):EvF aG ovD 55 [.int .i64 k] σ (.bool (stopK k)) σ:=by
 refine EvF.of (T55_eq _) rfl ?_
 have p:∀ {K:Ex→List Value→Pg},(∀ x,K .normal [.bool x]=.ret .normal [.bool x])→∀ x,EvB (K .normal [.bool x]) σ x:=fun h=>EvB.pass h
 rw [T55,aI,aI]
 refine EvB.wp (EvB.cond (EvB.join (EvB.cond (EvB.join (EvB.cond (EvB.join (EvB.cond (EvB.join (EvB.cond (EvB.join (EvB.cond (EvB.join (EvB.cond (EvB.join (EvB.cond (EvB.join (EvB.cond (EvB.ret _ _)) (p fun x=>by simp only [wpS,T55k0]))) (p fun x=>by simp only [wpS,T55k1]))) (p fun x=>by simp only [wpS,T55k2]))) (p fun x=>by simp only [wpS,T55k3]))) (p fun x=>by simp only [wpS,T55k4]))) (p fun x=>by simp only [wpS,T55k5]))) (p fun x=>by simp only [wpS,T55k6]))) (p fun x=>by simp only [wpS,T55k7]))) ?_
 simp only [wpS,T55k8]
 unfold stopK
 rw [aC]
 by_cases c:k=7∨k=8∨k=9∨k=10∨k=11∨k=13∨k=17∨k=18∨k=19∨k=20
 ·rw [if_pos (by simpa using c),decide_eq_true c]
  simp only [wpS,T55k9]
  exact ⟨trivial,trivial⟩
 ·rw [if_neg (by simpa using c),decide_eq_false c]
  simp only [wpS,T55k9]
  exact ⟨trivial,trivial⟩
theorem ev_here37 (h:Mac σ X A T N D s m) (a0:m.at_<N.length):EvF aG ovD 37 [bP A] σ (.bool (zn N m)) σ:=by
 refine EvF.of (T37_eq _) rfl ?_
 rw [T37,aI]
 simp only [wpS]
 rw [aE h.st (i:=9) rfl]
 simp only [wpS]
 unfold zn
 rw [aC]
 by_cases h0:m.over=0
 case neg=>
  rw [if_neg (by simpa using h0),decide_eq_false h0]
  simp only [wpS,T37k0]
  exact ⟨rfl,trivial⟩
 rw [if_pos (by simpa using h0),decide_eq_true h0,aE h.st (i:=11) rfl]
 simp only [wpS]
 rw [aC]
 cases hb:m.back with
 |true=>
  rw [if_neg (by simp)]
  simp only [wpS,T37k0]
  exact ⟨rfl,trivial⟩
 |false=>
  rw [if_pos (by rfl),cG,aE h.st (i:=0) rfl]
  simp only [wpS]
  rw [aE h.st (i:=19) rfl]
  simp only [wpS]
  refine dI h.tree.tree.nodes a0 rfl (o:=0) (by decide) fun cs a1=>?_
  obtain ⟨q,k,rfl,_,_⟩:=a1
  refine ⟨_,rfl,?_⟩
  simp only [wpS]
  rw [aD,WpF.eq (ev_isStop55 _)]
  simp only [wpS,T37k0]
  rw [iT a0]
  exact ⟨rfl,trivial⟩
end
end Go.Pg
namespace Go.Pg
open Go.Proofs Go.Utf8 Go.Lib
set_option linter.unusedSimpArgs false
section
variable {σ σ':aB} {X:Nat→Prop} {A:Nat} {T:TrA} {N:List NV} {D:List Dc} {s:Slt} {m:MS}
theorem wp_input65 (h:Mac σ X A T N D s m) (_hr:m.read≤m.inp.length) (hl:m.inp.length≤1000000):WpF aG ovD 65 [bP A] σ (QM σ X A T N D s (sK m)):=by
 refine WpF.of (T65_eq _) rfl ?_
 rw [T65]
 simp only [wpS]
 rw [aE h.st (i:=3) rfl]
 simp only [wpS]
 rw [aE h.st (i:=2) rfl]
 simp only [wpS]
 unfold sK
 rw [aC]
 by_cases c1:m.inp.length≤m.read
 ·rw [if_pos (by simp;omega),if_pos c1]
  refine bB (i:=9) h.st (by simp [eV]) rfl fun σ1 a0 a3 a1=>?_
  simp only [wpS]
  refine ⟨_,rfl,rfl,s,?_,Mov.ofA a0 rfl⟩
  exact h.upd a0 a1 (by constructor<;>rfl) h.v h.env h.k h.calls
 rw [if_neg (by simp;omega),if_neg c1,aE h.st (i:=3) rfl]
 simp only [wpS]
 have e1:aT (((m.read:Nat):Int)+1)=((m.read+1:Nat):Int):=by rw [aV (by omega)];omega
 have e2:aT (((m.read+1:Nat):Int) - 1)=((m.read:Nat):Int):=by rw [aV (by omega)];omega
 rw [e1]
 refine bB (i:=3) h.st (by simp [eV]) rfl fun σ1 a0 a3 a1=>?_
 have h1:Mac σ1 X A T N D s { m with read:=m.read+1 }:=h.upd a0 a1 (by constructor<;>rfl) h.v h.env h.k h.calls
 rw [aE h1.st (i:=2) rfl]
 simp only [wpS]
 rw [aE h1.st (i:=3) rfl]
 simp only [wpS]
 rw [e2]
 have hi:m.read<m.inp.length:=by omega
 refine dF h1.inp hi rfl fun cs a4=>⟨_,a4,?_⟩
 simp only [wpS]
 rw [aD]
 refine pS _ fun σ2 a2=>?_
 have h2:=h1.frmN a2
 have key:=eY h2 0 (v:=bN m.inp[m.read]) (q:=none) (p:=none) (VlP.plain rfl rfl)
 unfold vC at key ⊢
 simp only [wpS]
 rw [aD]
 refine WpF.mono key ?_
 intro v σ3 hq
 obtain ⟨rfl,_⟩:=id hq
 simp only [wpS]
 refine ⟨_,rfl,?_⟩
 have eg:m.inp.getD m.read 0=m.inp[m.read]:=by simp [List.getD,hi]
 rw [eg]
 exact hq.up ((Mov.ofA a0 rfl).trans (Mov.ofN a2))
theorem wp_branch58 (h:Mac σ X A T N D s m) {x:NV} {q:Option Addr} {k:Nat} (a4:aR σ (FX X A s) 1 kO q x.kids) (hl:x.kids.length=3) {xw:Addr} {w:Wt} {pe:Option Addr} {c0 c2 c3 c4:Value} (hw:Cz σ (FX X A s) xw 5 [c0,.pointer pe,c2,c3,c4]) (he:EnR σ (FX X A s) w.env pe) (v:Vl) (vq vp:Option Addr) (vc:Nat):
  WpF aG ovD 58 [bP A,.agg (nvC x q k).toArray,.pointer (some xw),.agg (vC v vq vc vp).toArray] σ (QM σ X A T N D s (tB m x w v)):=by
 refine WpF.of (T58_eq _ _ _ _ _ _ _ _ _ _ _ _ _ _ _ _ _ _ _ _) rfl ?_
 rw [T58]
 refine aP fun σ1 b1 b0 a7=>?_
 generalize hB:σ.n=B at a7 b0
 refine aP fun σ2 a8 a9 a3=>?_
 have a0:=a8.stN a7
 generalize hC:σ1.n=C at a3 a9
 have a0:St σ2 B (nvC x q k):=a0
 have a3:St σ2 C (vC v vq vc vp):=a3
 have hF:=b1.seq a8
 have h2:=h.frmN hF
 have a1:=a4.later hF
 have a5:=hw.frm hF
 have a6:EnR σ2 (FX X A s) w.env pe:=EnR_step (S:=NoB) hF (fun _ _ h=>h.elim) (fun _ _ h=>h) _ _ he
 have fin:∀ (m':MS) (τ:aB),QM σ2 X A T N D s m' (.tuple #[]) τ→QM σ X A T N D s m' (.tuple #[]) τ:=fun m' τ hq=>hq.up (Mov.ofN hF)
 rw [aI,aE a3 (i:=0) rfl]
 simp only [wpS]
 unfold tB
 rw [aC]
 by_cases c1:v.k=2
 case neg=>
  rw [if_pos (by simpa using c1),aD,if_pos c1]
  refine WpF.mono (fP h2) ?_
  intro v' σ3 hq
  obtain ⟨rfl,_⟩:=id hq
  simp only [wpS,T58k1,T58k2]
  exact ⟨_,rfl,fin _ _ hq⟩
 rw [if_neg (by simp [c1]),if_neg (by simp [c1]),aE a3 (i:=1) rfl]
 simp only [wpS]
 rw [aC]
 by_cases c2:v.n=1
 ·rw [if_pos (by simpa using c2),if_pos c2,aE a0 (i:=4) rfl]
  simp only [wpS]
  refine mS a1 (i:=1) (o:=0) rfl (by omega) rfl (by decide) rfl fun cs a2=>?_
  unfold kO at a2
  subst a2
  refine ⟨_,rfl,?_⟩
  simp only [wpS]
  rw [dL a5 (i:=1) rfl]
  simp only [wpS]
  rw [aD]
  refine WpF.mono (fI h2 a6) ?_
  intro v' σ3 hq
  obtain ⟨rfl,_⟩:=id hq
  simp only [wpS,T58k0,T58k1,T58k2]
  have ek:gC x 1=x.kids[1]:=by unfold gC;simp [List.getD,show 1<x.kids.length by omega]
  rw [ek]
  exact ⟨_,rfl,fin _ _ hq⟩
 ·rw [if_neg (by simpa using c2),if_neg c2,aE a0 (i:=4) rfl]
  simp only [wpS]
  refine mS a1 (i:=2) (o:=0) rfl (by omega) rfl (by decide) rfl fun cs a2=>?_
  unfold kO at a2
  subst a2
  refine ⟨_,rfl,?_⟩
  simp only [wpS]
  rw [dL a5 (i:=1) rfl]
  simp only [wpS]
  rw [aD]
  refine WpF.mono (fI h2 a6) ?_
  intro v' σ3 hq
  obtain ⟨rfl,_⟩:=id hq
  simp only [wpS,T58k0,T58k1,T58k2]
  have ek:gC x 2=x.kids[2]:=by unfold gC;simp [List.getD,show 2<x.kids.length by omega]
  rw [ek]
  exact ⟨_,rfl,fin _ _ hq⟩
def MeetQ (σ:aB) (Y:Nat→Prop) (r:Option En) (v:Value) (σ':aB):Prop:=∃ p b,v=.tuple #[.pointer p,.bool b]∧(∀ e,r=some e→b=true∧EnR σ' Y e p)∧(r=none→b=false)∧Frm σ σ' NoB
theorem wp_meets87 (g:dD N D):∀ (f i:Nat) (σ:aB) (v:Vl) (e:En) (q p pe:Option Addr) (c:Nat),Mac σ X A T N D s m→i<N.length→N.length≤f+i→VlP σ (FX X A s) v q p→EnR σ (FX X A s) e pe→
  WpF aG ovD 87 [bP A,.int .i64 ((i:Nat):Int),.agg (vC v q c p).toArray,.pointer pe] σ (MeetQ σ (FX X A s) (nP N f i v e)):=by
 intro f
 induction f with
 |zero=>intro i σ v e q p pe c _ hi hf;omega
 |succ f ih=>
  intro i σ v e q p pe c h hi hf hv he
  have d8:=h.tree.nl
  refine WpF.of (T87_eq _ _ _ _ _ _ _ _ _ _ _ _) rfl ?_
  rw [T87]
  refine aP fun σ1 c0 c8 b0=>?_
  generalize hB:σ.n=B at b0 c8
  have b0:St σ1 B (vC v q c p):=b0
  have h1:=h.frmN c0
  simp only [wpS]
  rw [cG,aE h1.st (i:=0) rfl]
  simp only [wpS]
  refine dM h1.tree.tree.nodes hi rfl fun cs a7=>?_
  have a9:=fun j hj=>g.kid (i:=i) (j:=j) hi hj
  have c9:=h.tree.kl _ (List.getElem_mem hi)
  rw [nP,iT hi]
  generalize N[i]=x at a7 a9 c9
  obtain ⟨xq,xk,rfl,b1,_⟩:=a7
  simp only [wpS]
  refine aP fun σ2 b9 c7 b3=>?_
  refine bC b3 rfl rfl fun σ3 b4 d7 a2=>?_
  generalize hC:σ1.n=C at b3 a2 b4 c7
  have a4:Frm σ1 σ3 NoB:=b9.fresh b4 fun j hj h=>by omega
  have a2:St σ3 C (nvC x xq xk):=a2
  have a0:=a4.stN b0
  have a5:=c0.seq a4
  have h3:=h1.frmN a4
  have a8:=b1.later a4
  have b5:=hv.step (S:=NoB) (Y':=FX X A s) a5 (fun _ _ h=>h.elim) fun _ _ h=>h
  have a6:EnR σ3 (FX X A s) e pe:=EnR_step (S:=NoB) a5 (fun _ _ h=>h.elim) (fun _ _ h=>h) _ _ he
  clear b3 b9 b4
  rw [aE a2 (i:=0) rfl]
  simp only [wpS]
  have out:∀ (τ:aB) (b:Bool) (p':Option Addr) (r:Option En),Frm σ3 τ NoB→(∀ e,r=some e→b=true∧EnR τ (FX X A s) e p')→(r=none→b=false)→MeetQ σ (FX X A s) r (.tuple #[.pointer p',.bool b]) τ:=fun τ b p' r hτ h1 h2=>⟨p',b,rfl,h1,h2,a5.seq hτ⟩
  rw [aC]
  by_cases c1:x.x.k=21
  ·rw [if_pos (by simpa using c1),if_pos c1]
   simp only [wpS,T87k5]
   exact ⟨_,rfl,out σ3 _ _ _ (Frm.refl _ _) (fun e' h=>by cases h;exact ⟨rfl,a6⟩) fun h=>by cases h⟩
  rw [if_neg (by simpa using c1),if_neg c1,aC]
  by_cases c2:x.x.k=22
  ·rw [if_pos (by simpa using c2),if_pos c2,aE a2 (i:=2) rfl]
   simp only [wpS]
   rw [aS a0 7 rfl]
   unfold vC
   simp only [wpS]
   refine aP fun σ4 a1 d6 d4=>?_
   simp only [wpS,T87k5]
   refine ⟨_,rfl,out σ4 _ _ _ a1 (fun e' h=>?_) fun h=>by cases h⟩
   cases h
   refine ⟨rfl,qJ (cs:=vC v q c p) (pu:=pe) d4 ?_ ?_ ?_⟩
   ·intro hX
    have:=h3.fn _ hX
    omega
   ·exact dH.2 ⟨q,c,p,rfl,b5.step (S:=NoB) a1 (fun _ _ h=>h.elim) fun _ _ h=>h⟩
   ·exact EnR_step (S:=NoB) a1 (fun _ _ h=>h.elim) (fun _ _ h=>h) _ _ a6
  rw [if_neg (by simpa using c2),if_neg c2,aC]
  by_cases c3:x.x.k=23
  ·rw [if_pos (by simpa using c3),if_pos c3,aI,aE a0 (i:=0) rfl]
   simp only [wpS]
   rw [aC]
   by_cases d1:v.k=1
   ·rw [if_pos (by simpa using d1),aE a0 (i:=1) rfl]
    simp only [wpS]
    rw [aE a2 (i:=1) rfl]
    simp only [wpS,T87k0,T87k5]
    refine ⟨_,rfl,?_⟩
    by_cases d2:v.n=x.x.n
    ·rw [if_pos ⟨d1,d2⟩]
     exact out σ3 _ _ _ (Frm.refl _ _) (fun e' h=>by cases h;exact ⟨by simpa using d2,a6⟩) fun h=>by cases h
    ·rw [if_neg fun h=>d2 h.2]
     exact out σ3 _ _ _ (Frm.refl _ _) (fun e' h=>by cases h) fun _=>by simpa using d2
   ·rw [if_neg (by simpa using d1)]
    simp only [wpS,T87k0,T87k5]
    rw [if_neg fun h=>d1 h.1]
    exact ⟨_,rfl,out σ3 _ _ _ (Frm.refl _ _) (fun e' h=>by cases h) fun _=>rfl⟩
  rw [if_neg (by simpa using c3),if_neg c3,aC]
  by_cases c4:x.x.k=24
  ·rw [if_pos (by simpa using c4),if_pos c4,aI,aE a0 (i:=0) rfl]
   simp only [wpS]
   rw [aC]
   by_cases d1:v.k=2
   ·rw [if_pos (by simpa using d1),aE a0 (i:=1) rfl]
    simp only [wpS]
    rw [aE a2 (i:=1) rfl]
    simp only [wpS,T87k1,T87k5]
    refine ⟨_,rfl,?_⟩
    by_cases d2:v.n=x.x.n
    ·rw [if_pos ⟨d1,d2⟩]
     exact out σ3 _ _ _ (Frm.refl _ _) (fun e' h=>by cases h;exact ⟨by simpa using d2,a6⟩) fun h=>by cases h
    ·rw [if_neg fun h=>d2 h.2]
     exact out σ3 _ _ _ (Frm.refl _ _) (fun e' h=>by cases h) fun _=>by simpa using d2
   ·rw [if_neg (by simpa using d1)]
    simp only [wpS,T87k1,T87k5]
    rw [if_neg fun h=>d1 h.1]
    exact ⟨_,rfl,out σ3 _ _ _ (Frm.refl _ _) (fun e' h=>by cases h) fun _=>rfl⟩
  rw [if_neg (by simpa using c4),if_neg c4,aC]
  by_cases c5:x.x.k=25
  ·rw [if_pos (by simpa using c5),if_pos c5,aE a0 (i:=0) rfl]
   simp only [wpS,T87k5]
   refine ⟨_,rfl,?_⟩
   by_cases d1:v.k=3
   ·rw [if_pos d1]
    exact out σ3 _ _ _ (Frm.refl _ _) (fun e' h=>by cases h;exact ⟨by simpa using d1,a6⟩) fun h=>by cases h
   ·rw [if_neg d1]
    exact out σ3 _ _ _ (Frm.refl _ _) (fun e' h=>by cases h) fun _=>by simpa using d1
  rw [if_neg (by simpa using c5),if_neg c5]
  simp only [wpS,T87k5]
  rw [aE a0 (i:=0) rfl]
  simp only [wpS]
  have no:v.k≠4∨v.nm≠x.x.nm∨v.args.length≠x.kids.length→Wp aG ovD (T87k4 pe ⟨C,0,some 0⟩ false none ⟨B,0,some 0⟩ (some ⟨A,0,some 0⟩) .normal [.bool true]) σ3 fun _ vs σ'=>∃ w,vs=[w]∧MeetQ σ (FX X A s) (if v.k≠4∨v.nm≠x.x.nm∨v.args.length≠x.kids.length then none else meetsL N f x.kids v.args e) w σ':=by
   intro hc
   simp only [wpS,T87k4]
   rw [aC,if_pos rfl,if_pos hc]
   simp only [wpS]
   exact ⟨_,rfl,out σ3 _ _ _ (Frm.refl _ _) (fun e' h=>by cases h) fun _=>rfl⟩
  rw [aC]
  by_cases d1:v.k=4
  case neg=>
   rw [if_neg (by simpa using d1)]
   simp only [wpS]
   exact no (.inl d1)
  rw [if_pos (by simp [d1]),aE a0 (i:=2) rfl]
  simp only [wpS]
  rw [aE a2 (i:=2) rfl]
  simp only [wpS,fD]
  rw [aC]
  by_cases d2:v.nm=x.x.nm
  case neg=>
   rw [if_neg (by simpa using d2)]
   simp only [wpS]
   exact no (.inr (.inl d2))
  rw [if_pos (by simp [d2]),aE a0 (i:=3) rfl]
  simp only [wpS]
  rw [aE a2 (i:=4) rfl]
  simp only [wpS]
  by_cases d3:v.args.length=x.kids.length
  case neg=>
   rw [show (((v.args.length:Nat):Int) !=((x.kids.length:Nat):Int))=true from bne_iff_ne.2 fun h=>d3 (by omega)]
   exact no (.inr (.inr d3))
  rw [show (((v.args.length:Nat):Int) !=((x.kids.length:Nat):Int))=false by simp [d3]]
  simp only [wpS,T87k4]
  rw [aC,if_neg (by simp),if_neg (by simp [d1,d2,d3]),aE a2 (i:=4) rfl]
  simp only [wpS]
  generalize hR:meetsL N f x.kids v.args e=R
  refine Wp.count x.kids.length (fun j st σ'=>∃ b p1 p2 e',st=[.int .i64 ((j:Nat):Int),.bool b,.pointer p1,.pointer p2]∧Frm σ3 σ' NoB∧EnR σ' (FX X A s) e' p2∧meetsL N f (x.kids.drop j) (v.args.drop j) e'=R)
   ⟨_,_,_,e,rfl,Frm.refl _ _,a6,by rw [List.drop_zero,List.drop_zero];exact hR⟩ ?_ ?_
  ·rintro j st σ4 hj ⟨b,p1,p2,e',rfl,a1,b2,a3⟩
   have ej:aT ((j:Int)+1)=((j+1:Nat):Int):=by rw [aV (by omega)];omega
   have b7:j<v.args.length:=by omega
   obtain ⟨k1,k2⟩:=a9 j hj
   rw [List.drop_eq_getElem_cons hj,List.drop_eq_getElem_cons b7,meetsL] at a3
   have h4:=h3.frmN a1
   have c6:=b5.step (S:=NoB) (Y':=FX X A s) a1 (fun _ _ h=>h.elim) fun _ _ h=>h
   unfold T87b0
   simp only [wpS]
   rw [aC,if_pos (by simp;omega),aI]
   refine dF (a8.later a1) hj rfl fun cs a7=>⟨_,a7,?_⟩
   simp only [wpS]
   rw [aE (a1.stN a0) (i:=3) rfl]
   simp only [wpS]
   refine dM c6.row b7 rfl fun cs a7=>?_
   obtain ⟨q5,c5',p5,rfl,d5⟩:=dH.1 a7
   have key:=ih x.kids[j] σ4 v.args[j] e' q5 p5 p2 c5' h4 k2 (by omega) d5 b2
   unfold vC at key ⊢
   simp only [wpS]
   rw [aD]
   refine WpF.mono key ?_
   rintro _ σ5 ⟨p6,b6,rfl,hy,hn,b8⟩
   simp only [wpS]
   rw [aC]
   cases hm:nP N f x.kids[j] v.args[j] e' with
   |none=>
    rw [hm] at a3
    obtain rfl:=hn hm
    rw [if_pos (by rfl)]
    simp only [wpS,T87k2,T87k3]
    exact ⟨_,rfl,out σ5 _ _ _ (a1.seq b8) (fun e1 h=>by rw [←a3] at h;cases h) fun _=>rfl⟩
   |some e1=>
    rw [hm] at a3
    obtain ⟨rfl,d0⟩:=hy e1 hm
    rw [if_neg (by simp)]
    simp only [wpS,T87k2,ej]
    exact ⟨_,_,_,e1,rfl,a1.seq b8,d0,a3⟩
  ·rintro st σ4 ⟨b,p1,p2,e',rfl,a1,b2,a3⟩
   rw [List.drop_length,meetsL] at a3
   ·unfold T87b0
    simp only [wpS]
    rw [aC,if_neg (by simp)]
    simp only [wpS,T87k3]
    exact ⟨_,rfl,out σ4 _ _ _ a1 (fun e1 h=>by rw [←a3] at h;cases h;exact ⟨rfl,b2⟩) fun h=>by rw [←a3] at h;cases h⟩
   ·intro i l v r h;cases h
theorem wp_match59 (g:dD N D) (h:Mac σ X A T N D s m) {x:NV} {q:Option Addr} {k:Nat} (a7:aR σ (FX X A s) 1 kO q x.kids) (hl:x.kids.length % 2=1) (c9:x.kids.length≤1000000) (c1:∀ j (hj:j<x.kids.length),x.kids[j]<N.length) {xw:Addr} {w:Wt} {pe:Option Addr} {c0 c2 c3 c4:Value} (hw:Cz σ (FX X A s) xw 5 [c0,.pointer pe,c2,c3,c4]) (he:EnR σ (FX X A s) w.env pe) {v:Vl} {vq vp:Option Addr} (vc:Nat) (hv:VlP σ (FX X A s) v vq vp):
  WpF aG ovD 59 [bP A,.agg (nvC x q k).toArray,.pointer (some xw),.agg (vC v vq vc vp).toArray] σ (QM σ X A T N D s (zX N m x w v)):=by
 refine WpF.of (T59_eq _ _ _ _ _ _ _ _ _ _ _ _ _ _ _ _ _ _ _ _) rfl ?_
 rw [T59]
 refine aP fun σ1 c8 b9 b2=>?_
 generalize hB:σ.n=B at b2 b9
 refine aP fun σ2 b3 b8 a5=>?_
 have a2:=b3.stN b2
 generalize hC:σ1.n=C at a5 b8
 have a2:St σ2 B (nvC x q k):=a2
 have a5:St σ2 C (vC v vq vc vp):=a5
 have hF:=c8.seq b3
 unfold zX
 generalize hR:vS N v w.env (x.kids.drop 1)=R
 refine Wp.loop (fun n st σ'=>∃ i:Nat,st=[.int .i64 ((i:Nat):Int)]∧Frm σ2 σ' NoB∧i+n=x.kids.length+2∧i % 2=1∧vS N v w.env (x.kids.drop i)=R) (x.kids.length+1) ⟨1,rfl,Frm.refl _ _,by omega,rfl,hR⟩ ?_
 rintro n st σ3 ⟨i,rfl,a6,d0,b7,a3⟩
 have a0:=hF.seq a6
 have h3:=h.frmN a0
 have a1:=a7.later a0
 have b5:=hw.frm a0
 have c6:EnR σ3 (FX X A s) w.env pe:=EnR_step (S:=NoB) a0 (fun _ _ h=>h.elim) (fun _ _ h=>h) _ _ he
 have b6:=hv.step (S:=NoB) (Y':=FX X A s) a0 (fun _ _ h=>h.elim) fun _ _ h=>h
 have a9:=a6.stN a2
 have c7:=a6.stN a5
 unfold T59b0
 simp only [wpS]
 rw [aE a9 (i:=4) rfl]
 simp only [wpS]
 rw [aC]
 by_cases hi:i<x.kids.length
 case neg=>
  rw [List.drop_eq_nil_of_le (by omega),vS] at a3
  ·rw [if_neg (by simp;omega),←a3]
   simp only [wpS,T59k1]
   rw [aD]
   refine WpF.mono (fP h3) ?_
   intro v' σ4 hq
   obtain ⟨rfl,_⟩:=id hq
   simp only [wpS]
   exact ⟨_,rfl,hq.up (Mov.ofN a0)⟩
  ·intro p b r h;cases h
 have b1:i+1<x.kids.length:=by omega
 have e1:aT (((i:Nat):Int)+1)=((i+1:Nat):Int):=by rw [aV (by omega)];omega
 have e2:aT (((i:Nat):Int)+2)=((i+2:Nat):Int):=by rw [aV (by omega)];omega
 rw [if_pos (by simp;omega),aI,aE a9 (i:=4) rfl]
 simp only [wpS]
 refine dF a1 hi rfl fun cs a8=>⟨_,a8,?_⟩
 simp only [wpS]
 rw [aS c7 7 rfl]
 have key:=wp_meets87 g (N.length+1) x.kids[i] σ3 v w.env vq vp pe vc h3 (c1 i hi) (by omega) b6 c6
 unfold vC at key ⊢
 simp only [wpS]
 rw [dL b5 (i:=1) rfl]
 simp only [wpS]
 rw [aD]
 refine WpF.mono key ?_
 rintro _ σ4 ⟨p4,b4,rfl,hy,hn,a4⟩
 rw [List.drop_eq_getElem_cons hi,List.drop_eq_getElem_cons b1,vS] at a3
 simp only [wpS]
 rw [aC]
 have b0:=a0.seq a4
 cases hm:nP N (N.length+1) x.kids[i] v w.env with
 |none=>
  rw [hm] at a3
  obtain rfl:=hn hm
  rw [if_neg (by simp)]
  simp only [wpS,T59k0,e2]
  exact ⟨n - 2,by omega,i+2,rfl,a6.seq a4,by omega,by omega,a3⟩
 |some e'=>
  rw [hm] at a3
  obtain ⟨rfl,c5⟩:=hy e' hm
  have h4:=h3.frmN a4
  rw [if_pos rfl,aE (a4.stN a9) (i:=4) rfl]
  simp only [wpS]
  rw [e1]
  refine dF (a1.later a4) b1 rfl fun cs a8=>⟨_,a8,?_⟩
  simp only [wpS]
  rw [aD]
  refine WpF.mono (fI h4 c5) ?_
  intro v' σ5 hq
  obtain ⟨rfl,_⟩:=id hq
  simp only [wpS,T59k0,T59k1]
  rw [←a3]
  exact ⟨_,rfl,hq.up (Mov.ofN b0)⟩
end
end Go.Pg
namespace Go.Pg
open Go.Proofs Go.Utf8 Go.Lib
set_option linter.unusedSimpArgs false
section
variable {σ σ':aB} {X Y:Nat→Prop} {A:Nat} {T:TrA} {N:List NV} {D:List Dc} {s:Slt} {m:MS} {P:Program} {ov:Ov}
theorem uD {β:Type} {c:Nat} {R:List Value→β→Prop} {p:Option Addr} {ts:List β} (h:aR σ Y c R p ts) {i n:Nat} (hi:i<ts.length) (hn:n=ts.length) {f:Addr→Value→Pg} {Q:cN}
  (k:∀ x cs,R cs ts[i]→(∀ τ,Frm σ τ NoB→Go.Pg.ldN c (aadd x (Int.toNat ((i:Nat):Int)*c)) τ=some (.agg cs.toArray,τ))→Wp P ov (f x (.agg cs.toArray)) σ Q):
  Wp P ov (aF p fun a=>grd (decide (0≤((i:Nat):Int))&&decide (((i:Nat):Int)<((n:Nat):Int))) (.act (Go.Pg.ldN c (aadd a (Int.toNat ((i:Nat):Int)*c))) (f a))) σ Q:=by
 subst hn
 obtain ⟨x,cs,rfl,h1,h2⟩:=keepN h hi
 have e:(decide (0≤((i:Nat):Int))&&decide (((i:Nat):Int)<((ts.length:Nat):Int)))=true:=by simp;omega
 simp only [bO]
 have h3:=h2 σ (Frm.refl _ _)
 rw [aQ,e,aY,Int.toNat_natCast,h3]
 exact ⟨rfl,k x cs h1 (by rw [Int.toNat_natCast];exact h2)⟩
theorem pX {β:Type} {c:Nat} {R:List Value→β→Prop} {p:Option Addr} {ts:List β} (h:aR σ Y c R p ts) {i n o:Nat} {J:Int} (hJ:J=((i:Nat):Int)) (hi:i<ts.length) (hn:n=ts.length) (ho:o<c) {w:Nat} (hw:w=i*c+o) {f:Addr→Value→Pg} {Q:cN}
  (k:∀ x cs,R cs ts[i]→∃ v,cs[o]?=some v∧(Kp σ (aadd x w) v→Wp P ov (f x v) σ Q)):Wp P ov (aF p fun a=>grd (decide (J<((n:Nat):Int))) (.act (ld1 (aadd a w)) (f a))) σ Q:=by
 obtain ⟨x,cs,rfl,h2,h3⟩:=Kp.ofRow h hi
 subst hw hJ hn
 obtain ⟨v,hv,hk⟩:=k x cs h2
 simp only [bO]
 rw [aQ]
 refine ⟨by simp;omega,?_⟩
 have h4:=h3 o v ho hv
 rw [show aadd (aadd x (i*c)) o=aadd x (i*c+o) by simp [aadd,Nat.add_assoc]] at h4
 rw [oF h4 (f x) Q]
 exact hk h4
theorem EnR.frmN {e:En} {p:Option Addr} (h:EnR σ Y e p) (f:Frm σ σ' NoB):EnR σ' Y e p:=EnR_step (S:=NoB) f (fun _ _ h=>h.elim) (fun _ _ h=>h) _ _ h
theorem VlP.frmN {v:Vl} {q p:Option Addr} (h:VlP σ Y v q p) (f:Frm σ σ' NoB):VlP σ' Y v q p:=h.step (S:=NoB) f (fun _ _ h=>h.elim) fun _ _ h=>h
theorem LkR.none {l:List (Int × Int)} {p:Option Addr} (h:LkR σ Y l p):l=[]∧p=none∨∃ c r x,l=c::r∧p=some x:=by
 cases l with
 |nil=>exact .inl ⟨rfl,h⟩
 |cons c r=>
  obtain ⟨x,pu,h1,_⟩:=h
  exact .inr ⟨c,r,x,rfl,h1⟩
theorem wp_call88 (h:Mac σ X A T N D s m) (i:Nat) {F a:Vl} {fq fp aq ap:Option Addr} (fc ac:Nat) (hF:VlP σ (FX X A s) F fq fp) (ha:VlP σ (FX X A s) a aq ap) (hn:F.k=5→zm N F.node) (g:dD N D) (f4:m.calls.length≤1000000000000):
  WpF aG ovD 88 [bP A,.int .i64 ((i:Nat):Int),.agg (vC F fq fc fp).toArray,.agg (vC a aq ac ap).toArray] σ (QM σ X A T N D s (yO N m i F a)):=by
 refine WpF.of (T88_eq _ _ _ _ _ _ _ _ _ _ _ _ _ _ _ _ _ _ _ _) rfl ?_
 rw [T88]
 refine aP fun σ1 g5 e4 d4=>?_
 generalize hB:σ.n=B at d4 e4
 refine aP fun σ2 d5 e0 b7=>?_
 have a1:=d5.stN d4
 generalize hC:σ1.n=C at b7 e0
 have a1:St σ2 B (vC F fq fc fp):=a1
 have b7:St σ2 C (vC a aq ac ap):=b7
 have a3:=g5.seq d5
 have h2:=h.frmN a3
 have g6:=hF.frmN a3
 have f8:=ha.frmN a3
 rw [aE a1 (i:=0) rfl]
 simp only [wpS]
 unfold yO
 rw [aC]
 by_cases c1:F.k=5
 case neg=>
  rw [if_pos (by simpa using c1),if_pos c1,aD]
  refine WpF.mono (fP h2) ?_
  intro v' σ3 hq
  obtain ⟨rfl,_⟩:=id hq
  simp only [wpS]
  exact ⟨_,rfl,hq.up (Mov.ofN a3)⟩
 rw [if_neg (by simp [c1]),if_neg (by simp [c1])]
 obtain ⟨j,hj,b6,f0⟩:=hn c1
 rw [cG,aE h2.st (i:=0) rfl]
 simp only [wpS]
 rw [aE a1 (i:=4) rfl]
 simp only [wpS]
 have e8:Kp σ2 (aadd ⟨B,0,some 0⟩ 4) (.int .i64 ((j:Nat):Int)):=Kp.st a1 (i:=4) (by show some (Value.int .i64 F.node)=_;rw [hj])
 rw [hj,Int.toNat_natCast,iT b6]
 refine uD h2.tree.tree.nodes b6 rfl fun x cs b2 e7=>?_
 have d2:N[j].kids.length=if N[j].x.k=9 then 2 else 1:=by
  rcases f0 with hk|hk
  ·rw [if_neg (by omega)];exact g.kidsOf b6 6 1 hk rfl
  ·rw [if_pos hk];exact g.kidsOf b6 9 2 hk rfl
 generalize N[j]=nv at b2 d2 ⊢
 obtain ⟨xq,xk,rfl,b9,_⟩:=b2
 simp only [wpS]
 refine aP fun σ3 b8 d9 d3=>?_
 generalize hE:σ2.n=E at d3 d9
 rw [bK,aQ]
 refine ⟨jN (e7 σ3 b8) (bU (e8.frm b8) (bU ((Kp.st h2.st (i:=0) rfl).frm b8) rfl)),?_⟩
 refine bC d3 rfl rfl fun σ4 g4 i7 b3=>?_
 have a0:Frm σ2 σ4 NoB:=b8.fresh g4 fun j hj h=>by omega
 have b4:=a3.seq a0
 have b3:St σ4 E (nvC nv xq xk):=b3
 have d0:=a0.stN a1
 have i0:=a0.stN b7
 have h4:=h2.frmN a0
 have c0:=g6.frmN a0
 have f7:=f8.frmN a0
 have b0:=b9.later a0
 rw [aE d0 (i:=5) rfl]
 simp only [wpS]
 rw [aE b3 (i:=0) rfl]
 simp only [wpS]
 have fin:∀ (τ:aB) (e:En) (pe:Option Addr),Frm σ4 τ NoB→EnR τ (FX X A s) e pe→e=(if nv.x.k=9 then .cons nv.x.nm F F.env else F.env)→
   Wp aG ovD (T88k1 (some ⟨A,0,some 0⟩) ⟨B,0,some 0⟩ ((i:Nat):Int) ⟨E,0,some 0⟩ ⟨C,0,some 0⟩ .normal [.pointer pe]) τ fun _ vs σ'=>∃ v,vs=[v]∧QM σ X A T N D s (MS.goTo { m with k:=⟨none,.nil,[],m.calls⟩::m.k,calls:=(((i:Nat):Int),((j:Nat):Int))::m.calls } (gC nv 0) (.cons nv.x.pm a (if nv.x.k=9 then .cons nv.x.nm F F.env else F.env))) v σ':=by
  rintro τ e pe hτ he rfl
  generalize (if nv.x.k=9 then En.cons nv.x.nm F F.env else F.env)=e at he ⊢
  have h5:=h4.frmN hτ
  unfold T88k1
  simp only [wpS]
  rw [aE h5.st (i:=22) rfl]
  simp only [wpS]
  rw [aE h5.st (i:=21) rfl]
  simp only [wpS]
  refine aP fun σ5 a2 d8 c5=>?_
  have h6:=h5.frmN a2
  have nX5:¬ FX X A s τ.n:=fun hX=>by have:=h5.fn _ hX;omega
  have e9:WtR σ5 (FX X A s) (⟨none,.nil,[],m.calls⟩::m.k) (some ⟨τ.n,0,some 0⟩):=qe (w:=⟨none,.nil,[],m.calls⟩) c5 nX5 (tF.2 rfl) aR.nil Emp.none h6.calls h6.k
  refine bB (i:=21) h6.st (by simp [eV]) rfl fun σ6 a4 i6 g2=>?_
  have h7:Mac σ6 X A T N D { s with pk:=some ⟨τ.n,0,some 0⟩ } { m with k:=⟨none,.nil,[],m.calls⟩::m.k }:=h6.upd a4 g2 (by constructor<;>rfl) h6.v h6.env e9 h6.calls
  have b5:∀ k,σ4.n≤k∨k=B∨k=C∨k=E→¬ k=A:=fun k hk he=>by
   have:=h.st.1
   have:=b4.n
   omega
  have g3:=a2
  have i1:=a4.st (a2.stN (hτ.stN d0)) (b5 B (by omega))
  have g9:=a4.st (a2.stN (hτ.stN i0)) (b5 C (by omega))
  have g7:=a4.st (a2.stN (hτ.stN b3)) (b5 E (by omega))
  have c4:∀ j,j<σ5.n→j=A→FX X A s j:=fun j _ h=>.inr (.inl h)
  have f3:EnR σ6 (FX X A s) e pe:=EnR_step a4 c4 (fun _ _ h=>h) _ _ (he.frmN a2)
  have f6:VlP σ6 (FX X A s) a aq ap:=((f7.frmN hτ).frmN a2).step a4 c4 fun _ _ h=>h
  have a9:aR σ6 (FX X A s) 1 kO xq nv.kids:=aR.step a4 c4 (fun _ _ h=>h) (fun _ _ h=>h) ((b0.later hτ).later a2)
  have c7:Mov σ σ6 A s { s with pk:=some ⟨τ.n,0,some 0⟩ }:=(Mov.ofN ((b4.seq hτ).seq a2)).trans (Mov.ofA a4 rfl)
  rw [aE h7.st (i:=22) rfl]
  simp only [wpS]
  have fin2:Wp aG ovD (T88k0 ⟨B,0,some 0⟩ (some ⟨A,0,some 0⟩) ((i:Nat):Int) ⟨E,0,some 0⟩ ⟨C,0,some 0⟩ pe .normal [.int .i64 ((m.calls.length+1:Nat):Int)]) σ6 fun _ vs σ'=>∃ v,vs=[v]∧QM σ X A T N D s (MS.goTo { m with k:=⟨none,.nil,[],m.calls⟩::m.k,calls:=(((i:Nat):Int),((j:Nat):Int))::m.calls } (gC nv 0) (.cons nv.x.pm a e)) v σ':=by
   unfold T88k0
   simp only [wpS]
   rw [aE i1 (i:=4) rfl]
   simp only [wpS]
   rw [aE h7.st (i:=22) rfl]
   simp only [wpS]
   rw [hj]
   refine aP fun σ7 a6 i5 g1=>?_
   have h8:=h7.frmN a6
   have nX7:¬ FX X A s σ6.n:=fun hX=>by have:=h7.fn _ hX;omega
   have e5:LkR σ7 (FX X A s) ((((i:Nat):Int),((j:Nat):Int))::m.calls) (some ⟨σ6.n,0,some 0⟩):=LkR_new (c:=(((i:Nat):Int),((j:Nat):Int))) g1 nX7 h8.calls
   refine bB (i:=22) h8.st (by simp [eV]) rfl fun σ8 a5 i4 g0=>?_
   have h9:Mac σ8 X A T N D { s with pk:=some ⟨τ.n,0,some 0⟩,pl:=some ⟨σ6.n,0,some 0⟩ } { m with k:=⟨none,.nil,[],m.calls⟩::m.k,calls:=(((i:Nat):Int),((j:Nat):Int))::m.calls }:=h8.upd a5 g0 (by constructor<;>rfl) h8.v h8.env h8.k e5
   have g8:=a5.st (a6.stN g9) (b5 C (by omega))
   have c8:=a5.st (a6.stN g7) (b5 E (by omega))
   have c3:∀ j,j<σ7.n→j=A→FX X A s j:=fun j _ h=>.inr (.inl h)
   have f2:EnR σ8 (FX X A s) e pe:=EnR_step a5 c3 (fun _ _ h=>h) _ _ (f3.frmN a6)
   have f5:VlP σ8 (FX X A s) a aq ap:=(f6.frmN a6).step a5 c3 fun _ _ h=>h
   have a8:aR σ8 (FX X A s) 1 kO xq nv.kids:=aR.step a5 c3 (fun _ _ h=>h) (fun _ _ h=>h) (a9.later a6)
   have c6:Mov σ σ8 A s { s with pk:=some ⟨τ.n,0,some 0⟩,pl:=some ⟨σ6.n,0,some 0⟩ }:=c7.trans ((Mov.ofN a6).trans (Mov.ofA a5 rfl))
   rw [aE c8 (i:=4) rfl]
   simp only [wpS]
   have d1:0<nv.kids.length:=by rw [d2];split<;>omega
   refine pX a8 (i:=0) (o:=0) rfl d1 rfl (by decide) rfl fun y cs b2=>?_
   unfold kO at b2
   subst b2
   refine ⟨_,rfl,fun e6=>?_⟩
   simp only [wpS]
   rw [aE c8 (i:=3) rfl]
   simp only [wpS]
   rw [aS g8 7 rfl]
   unfold vC
   simp only [wpS]
   refine aP fun σ9 a7 i3 f9=>?_
   rw [bK,aQ]
   refine ⟨bU (e6.frm a7) (bU ((Kp.st c8 (i:=4) rfl).frm a7) rfl),?_⟩
   have i2:=h9.frmN a7
   have nX9:¬ FX X A s σ8.n:=fun hX=>by have:=h9.fn _ hX;omega
   have f1:EnR σ9 (FX X A s) (.cons nv.x.pm a e) (some ⟨σ8.n,0,some 0⟩):=qJ (cs:=vC a aq ac ap) (pu:=pe) f9 nX9 (dH.2 ⟨_,_,_,rfl,f5.frmN a7⟩) (f2.frmN a7)
   have ek:gC nv 0=nv.kids[0]:=by unfold gC;simp [List.getD,d1]
   rw [aD,ek]
   refine WpF.mono (fI i2 f1) ?_
   intro v' σ10 hq
   obtain ⟨rfl,_⟩:=id hq
   simp only [wpS]
   exact ⟨_,rfl,hq.up (c6.trans (Mov.ofN a7))⟩
  rw [aC]
  have b1:=h7.calls
  rcases LkR.none b1 with ⟨e1,e2⟩|⟨c,r,y,e1,e2⟩
  ·have e1:m.calls=[]:=e1
   have e2:s.pl=none:=e2
   have e3:((m.calls.length+1:Nat):Int)=1:=by rw [e1];try rfl
   rw [e3] at fin2
   rw [if_neg (by simp [e2])]
   simp only [wpS]
   exact fin2
  ·have e1:m.calls=c::r:=e1
   have e2:s.pl=some y:=e2
   rw [if_pos (by simp [e2]),aE h7.st (i:=22) rfl]
   simp only [wpS]
   have b1:LkR σ6 (FX X A s) m.calls s.pl:=b1
   rw [e1] at b1
   obtain ⟨y',pu,h1,d7,d6,_⟩:=b1
   rw [h1]
   simp only [wpS]
   have hz:Cz σ6 (FX X A s) y' 4 _:=⟨d7,d6,rfl⟩
   rw [dL hz (i:=3) rfl]
   simp only [wpS]
   have ew:aT (((r.length+1:Nat):Int)+1)=((m.calls.length+1:Nat):Int):=by
    rw [e1,List.length_cons,aV (by rw [e1,List.length_cons] at f4;omega)]
    omega
   rw [ew]
   exact fin2
 rw [aC]
 by_cases c9:nv.x.k=9
 ·rw [if_pos (by simpa using c9),aE b3 (i:=2) rfl]
  simp only [wpS]
  rw [aS d0 7 rfl]
  unfold vC
  simp only [wpS]
  refine aP fun σ5 a2 d8 c5=>?_
  simp only [wpS]
  have nX5:¬ FX X A s σ4.n:=fun hX=>by have:=h4.fn _ hX;omega
  refine fin σ5 _ _ a2 (qJ (cs:=vC F fq fc fp) (pu:=fp) c5 nX5 (dH.2 ⟨_,_,_,rfl,c0.frmN a2⟩) (c0.env.frmN a2)) ?_
  rw [if_pos c9]
 ·rw [if_neg (by simpa using c9)]
  simp only [wpS]
  exact fin σ4 _ _ (Frm.refl _ _) c0.env (by rw [if_neg c9])
end
end Go.Pg
namespace Go.Pg
open Go.Proofs Go.Utf8 Go.Lib
set_option linter.unusedSimpArgs false
section
variable {σ σ':aB} {X Y:Nat→Prop} {A:Nat} {T:TrA} {N:List NV} {D:List Dc} {s:Slt} {m:MS} {P:Program} {ov:Ov}
theorem okW.at_ {c:Nat} {w:Wt} (h:okW N c w) {i:Nat} (hi:w.at_=some i):i<N.length:=(h.2.2 i hi).1
theorem wp_raise90 (g:dD N D) (h:Mac σ X A T N D s m) (ok:okM N m) {v:Vl} {vq vp:Option Addr} (vc:Nat) (hv:VlP σ (FX X A s) v vq vp):
  WpF aG ovD 90 [bP A,.agg (vC v vq vc vp).toArray] σ (QM σ X A T N D s (rP N m v)):=by
 refine WpF.of (T90_eq _ _ _ _ _ _ _ _ _ _) rfl ?_
 rw [T90]
 refine aP fun σ1 b6 e0 b3=>?_
 generalize hB:σ.n=B at b3 e0
 have b3:St σ1 B (vC v vq vc vp):=b3
 have h1:=h.frmN b6
 have d7:=hv.frmN b6
 rw [aE b3 (i:=0) rfl]
 simp only [wpS]
 unfold rP
 rw [aC]
 by_cases c1:v.k=1
 case neg=>
  rw [if_pos (by simpa using c1),if_pos c1,aD]
  refine WpF.mono (fP h1) ?_
  intro v' σ3 hq
  obtain ⟨rfl,_⟩:=id hq
  simp only [wpS]
  exact ⟨_,rfl,hq.up (Mov.ofN b6)⟩
 rw [if_neg (by simp [c1]),if_neg (by simp [c1])]
 have hA:¬ B=A:=fun e=>by have:=h.st.1;omega
 generalize hR:zO N m.k=R
 refine Wp.loop (fun n st σ'=>st=[]∧∃ k' pk',Mac σ' X A T N D { s with pk:=pk' } { m with k:=k' }∧Mov σ1 σ' A s { s with pk:=pk' }∧St σ' B (vC v vq vc vp)∧VlP σ' (FX X A s) v vq vp∧(∀ w∈k',w∈m.k)∧zO N k'=R∧n=k'.length) m.k.length ⟨rfl,m.k,s.pk,h1,Mov.refl,b3,d7,fun _ h=>h,hR,rfl⟩ ?_
 rintro n st σ2 ⟨rfl,k',pk',h2,c8,b5,c7,a9,a7,rfl⟩
 unfold T90b0
 simp only [wpS]
 rw [aE h2.st (i:=21) rfl]
 simp only [wpS]
 rw [aC]
 have b4:=(Mov.ofN b6).trans c8
 cases k' with
 |nil=>
  have e2:pk'=none:=h2.k
  subst e2
  rw [if_neg (by simp)]
  simp only [wpS,T90k2]
  rw [aE b5 (i:=1) rfl]
  simp only [wpS]
  refine bB (i:=9) h2.st (by simp [eV]) rfl fun σ3 a2 b9 a6=>?_
  rw [bK,aQ]
  have f9:=a2.st b5 hA
  refine ⟨jN (f9.ldF (i:=1) rfl) rfl,?_⟩
  refine bB (i:=10) a6 (by simp [eV]) rfl fun σ4 c3 d9 b2=>?_
  simp only [wpS]
  have hF:=a2.seq c3
  rw [zO] at a7
  subst a7
  refine ⟨_,rfl,rfl,{ s with pk:=none },?_,b4.trans (Mov.ofA hF rfl)⟩
  exact h2.upd hF b2 (by constructor<;>rfl) h2.v h2.env h2.k h2.calls
 |cons w r=>
  have e6:WtR σ2 (FX X A s) (w::r) pk':=h2.k
  obtain ⟨x,pe,q,c,pc,pu,rfl,d3,d2,d1,g1,g0,d0,c5⟩:=e6
  have hz:Cz σ2 (FX X A s) x 5 [.int .i64 (atI w.at_),.pointer pe,.slice q w.vals.length c,.pointer pc,.pointer pu]:=⟨d3,d2,rfl⟩
  rw [if_pos (by simp),aI]
  rw [aE h2.st (i:=21) rfl]
  simp only [wpS]
  rw [dL hz (i:=0) rfl]
  simp only [wpS]
  have d4:w∈m.k:=a9 w (by simp)
  have c6:=ok.k w d4
  refine Wp.mono _ _ (fun e vs σ'=>e=.normal∧vs=[.bool (decide (∃ i,w.at_=some i∧(cZ N i).x.k=20))]∧σ'=σ2) _ ?_ ?_
  ·rintro _ _ τ ⟨rfl,rfl,rfl⟩
   simp only [wpS,T90k0]
   rw [aC]
   by_cases hc:∃ i,w.at_=some i∧(cZ N i).x.k=20
   ·rw [if_pos (by simpa using hc)]
    obtain ⟨i,hi,c0⟩:=hc
    have a4:=c6.at_ hi
    rw [zO,hi] at a7
    simp only [c0,if_true] at a7
    subst a7
    simp only
    rw [iT a4] at c0 ⊢
    have e1:=g.kidsOf a4 20 2 c0 rfl
    rw [cG,aE h2.st (i:=0) rfl]
    simp only [wpS]
    rw [dL hz (i:=0) rfl]
    have e3:Kp τ (aadd x 0) (.int .i64 ((i:Nat):Int)):=hz.kp (i:=0) (by rw [hi];rfl)
    rw [hi]
    unfold atI
    simp only [wpS]
    refine uD h2.tree.tree.nodes a4 rfl fun xn cs a3 e5=>?_
    generalize N[i]=nv at a3 e1 ⊢
    obtain ⟨xq,xk,rfl,b8,_⟩:=a3
    simp only [wpS]
    refine aP fun σ3 a2 b9 a6=>?_
    generalize hE:τ.n=E at a6 b9
    rw [bK,aQ]
    refine ⟨jN (e5 σ3 a2) (bU (e3.frm a2) (bU ((Kp.st h2.st (i:=0) rfl).frm a2) rfl)),?_⟩
    refine bC a6 rfl rfl fun σ4 c3 d9 b2=>?_
    have a0:Frm τ σ4 NoB:=a2.fresh c3 fun j hj h=>by omega
    have b2:St σ4 E (nvC nv xq xk):=b2
    have h4:=h2.frmN a0
    have b7:=hz.frm a0
    rw [dL b7 (i:=4) rfl]
    simp only [wpS]
    rw [dL b7 (i:=3) rfl]
    simp only [wpS]
    refine bB (i:=21) h4.st (by simp [eV]) rfl fun σ5 f6 g4 f3=>?_
    refine bB (i:=22) f3 (by simp [eV]) rfl fun σ6 f5 g3 f2=>?_
    have a1:=f6.seq f5
    have a5:∀ j,j<σ4.n→j=A→FX X A s j:=fun j _ h=>.inr (.inl h)
    have d8:WtR σ4 (FX X A s) r pu:=mR (S:=NoB) a0 (fun _ _ h=>h.elim) (fun _ _ h=>h) c5
    have f0:LkR σ4 (FX X A s) w.calls pc:=iQ (S:=NoB) a0 (fun _ _ h=>h.elim) (fun _ _ h=>h) d0
    have e9:EnR σ4 (FX X A s) w.env pe:=d1.frmN a0
    have b1:=b8.later a0
    have h6:Mac σ6 X A T N D { s with pk:=pu,pl:=pc } { m with k:=r,calls:=w.calls }:=h4.upd a1 f2 (by constructor<;>rfl) h4.v h4.env d8 f0
    have f7:¬ E=A:=fun e=>by have:=h2.st.1;omega
    have c4:=a1.st b2 f7
    have f8:=a1.st (a0.stN b5) hA
    have e8:EnR σ6 (FX X A s) w.env pe:=EnR_step a1 a5 (fun _ _ h=>h) _ _ e9
    have d6:VlP σ6 (FX X A s) v vq vp:=(c7.frmN a0).step a1 a5 fun _ _ h=>h
    have b0:aR σ6 (FX X A s) 1 kO xq nv.kids:=aR.step a1 a5 (fun _ _ h=>h) (fun _ _ h=>h) b1
    have c9:Cz σ6 (FX X A s) x 5 _:=b7.step a1 a5 fun _ _ h=>h
    rw [aE c4 (i:=4) rfl]
    simp only [wpS]
    refine pX b0 (i:=1) (o:=0) rfl (by omega) rfl (by decide) rfl fun y cs a3=>?_
    unfold kO at a3
    subst a3
    refine ⟨_,rfl,fun e4=>?_⟩
    simp only [wpS]
    rw [aE c4 (i:=3) rfl]
    simp only [wpS]
    rw [aS f8 7 rfl]
    unfold vC
    simp only [wpS]
    rw [dL c9 (i:=1) rfl]
    simp only [wpS]
    refine aP fun σ7 a8 g2 f1=>?_
    rw [bK,aQ]
    refine ⟨bU (e4.frm a8) (bU ((Kp.st c4 (i:=4) rfl).frm a8) rfl),?_⟩
    have h7:=h6.frmN a8
    have nX7:¬ FX X A s σ6.n:=fun hX=>by have:=h6.fn _ hX;omega
    have e7:EnR σ7 (FX X A s) (.cons nv.x.pm v w.env) (some ⟨σ6.n,0,some 0⟩):=qJ (cs:=vC v vq vc vp) (pu:=pe) f1 nX7 (dH.2 ⟨_,_,_,rfl,d6.frmN a8⟩) (e8.frmN a8)
    have ek:gC nv 1=nv.kids[1]:=by unfold gC;simp [List.getD,show 1<nv.kids.length by omega]
    rw [aD,ek]
    refine WpF.mono (fI h7 e7) ?_
    intro v' σ10 hq
    obtain ⟨rfl,_⟩:=id hq
    simp only [wpS,T90k1,T90k2]
    have f4:Mov τ σ6 A { s with pk:=some x } { s with pk:=pu,pl:=pc }:=(Mov.ofN a0).trans (Mov.ofA a1 rfl)
    exact ⟨_,rfl,hq.up ((b4.trans f4).trans (Mov.ofN a8))⟩
   ·rw [if_neg (by simpa using hc)]
    simp only [wpS,T90k1]
    rw [aE h2.st (i:=21) rfl]
    simp only [wpS]
    rw [dL hz (i:=4) rfl]
    simp only [wpS]
    refine bB (i:=21) h2.st (by simp [eV]) rfl fun σ3 a2 b9 a6=>?_
    simp only [wpS]
    have a5:∀ j,j<τ.n→j=A→FX X A s j:=fun j _ h=>.inr (.inl h)
    have h3:Mac σ3 X A T N D { s with pk:=pu } { m with k:=r }:=h2.upd a2 a6 (by constructor<;>rfl) h2.v h2.env c5 h2.calls
    refine ⟨r.length,Nat.lt_succ_self _,trivial,r,pu,h3,c8.trans (Mov.ofA a2 rfl),a2.st b5 hA,c7.step a2 a5 (fun _ _ h=>h),fun w' d5=>a9 w' (by simp [d5]),?_,rfl⟩
    rw [←a7,zO]
    cases ha:w.at_ with
    |none=>rfl
    |some i=>simp only;rw [if_neg fun hk=>hc ⟨i,ha,hk⟩]
  ·rw [aC]
   cases ha:w.at_ with
   |none=>
    rw [if_neg (by simp [atI])]
    simp only [wpS]
    exact ⟨trivial,by simp,trivial⟩
   |some i=>
    have a4:=c6.at_ ha
    rw [if_pos (by simp [atI]),cG,aE h2.st (i:=0) rfl]
    simp only [wpS]
    rw [dL hz (i:=0) rfl,ha]
    unfold atI
    simp only [wpS]
    refine dI h2.tree.tree.nodes a4 rfl (o:=0) (by decide) fun cs a3=>?_
    obtain ⟨q',k',rfl,_,_⟩:=a3
    refine ⟨_,rfl,?_⟩
    simp only [wpS]
    refine ⟨trivial,?_,trivial⟩
    have e:(∃ i_1,some i=some i_1∧(cZ N i_1).x.k=20)↔N[i].x.k=20:=by
     rw [←iT a4]
     exact ⟨fun ⟨j,h1,h2⟩=>by cases h1;exact h2,fun h=>⟨i,rfl,h⟩⟩
    rw [show (N[i].x.k==20)=decide (N[i].x.k=20) from rfl]
    simp only [e]
end
end Go.Pg
namespace Go.Pg
open Go.Proofs Go.Utf8 Go.Lib
set_option linter.unusedSimpArgs false
theorem Tri.setF_comm:∀ (fa fb:Nat) (t:Tri) (a b:Nat) (x y:dS),a≠b→Tri.setF fb (Tri.setF fa t a x) b y=Tri.setF fa (Tri.setF fb t b y) a x
 |0,fb,t,a,b,x,y,_=>by rw [Tri.setF,Tri.setF]
 |fa+1,0,t,a,b,x,y,_=>by rw [Tri.setF,Tri.setF]
 |fa+1,fb+1,t,0,0,x,y,h=>absurd rfl h
 |fa+1,fb+1,t,0,b+1,x,y,_=>by
  simp only [Tri.setF]
  cases Nat.beq (b % 2) 0<;>rfl
 |fa+1,fb+1,t,a+1,0,x,y,_=>by
  simp only [Tri.setF]
  cases Nat.beq (a % 2) 0<;>rfl
 |fa+1,fb+1,t,a+1,b+1,x,y,h=>by
  simp only [Tri.setF]
  cases ha:Nat.beq (a % 2) 0<;>cases hb:Nat.beq (b % 2) 0<;>simp only [cond_true,cond_false,Tri.lft,Tri.rgt,Tri.val]
  ·have h1:a % 2≠0:=Nat.ne_of_beq_eq_false ha
   have h2:b % 2≠0:=Nat.ne_of_beq_eq_false hb
   exact congrArg (Tri.node _ _) (Tri.setF_comm fa fb _ (a / 2) (b / 2) x y (by omega))
  ·have h1:a % 2=0:=Nat.eq_of_beq_eq_true ha
   have h2:b % 2=0:=Nat.eq_of_beq_eq_true hb
   exact congrArg (fun l=>Tri.node _ l _) (Tri.setF_comm fa fb _ (a / 2) (b / 2) x y (by omega))
theorem put_comm (σ:aB) {a b:Nat} (h:a≠b) (x y:dS):(σ.put a x).put b y=(σ.put b y).put a x:=by
 unfold aB.put
 simp only [Tri.setF_comm (a+1) (b+1) σ.mem a b x y h]
theorem heapEq_same (σ:aB):oT σ σ=true:=by
 unfold oT
 simp
theorem vh:∀ l:List Value,eqvs l l=true
 |[]=>rfl
 |v::l=>by
  have:=vh l
  unfold eqvs at this ⊢
  rw [rD,lG,this]
  try rfl
section
variable {σ σ':aB}
theorem app_ex {b cap len byt esz:Nat} {p:Option Addr} {xs ys:List Value} (h:SlE σ b p cap esz xs) (a0:xs.length=len*esz) (h0:1≤esz) (he:esz<64) (hy:ys.length=esz) (a1:∀ y∈ys,one y=true)
  (hb:2*(len+1)*byt≤281474976710656) (a3:len+1≤4611686018427387904):
  ∃ σ' b' off s cap',apS esz byt p len cap (some ⟨σ.n,0,some esz⟩) 1 1 (σ.newBlk ys esz)=some (.slice (some ⟨b',off,some s⟩) (len+1) cap',σ')∧Frm σ σ' (fun j=>p≠none∧j=b)∧((p≠none∧b'=b)∨σ.n≤b')∧Row σ' b' off s cap' esz (xs++ys):=by
 have hF:=Frm.new σ ys esz NoB
 have hN:=Row.new σ esz ys 1 he (by omega) a1
 rw [jU (show (σ.newBlk ys esz).rdN ⟨σ.n,0,some esz⟩ (1*esz)=some ys from by
  have:=hN.rdN (i:=0) (k:=1*esz) (by omega)
  rw [this,List.drop_zero,List.take_of_length_le (by omega)])]
 rcases h with ⟨rfl,rfl,rfl⟩|⟨off,s,rfl,h⟩
 ·have a2:len=0:=by
   simp only [List.length_nil] at a0
   rcases Nat.mul_eq_zero.1 a0.symm with h|h
   ·exact h
   ·omega
  subst a2
  refine ⟨_,_,_,_,_,lU he (by decide) (by omega) a1 (by simpa using hb) (by decide),?_,.inr (by rw [gT];omega),Row.new (σ.newBlk ys esz) esz ys 1 he (by omega) a1⟩
  exact hF.no.trans (Frm.new _ ys esz NoB) (fun _ _ h=>h) (fun _ _ h=>h.elim)
 ·obtain ⟨σ',s',cap',e1,e2,e3,e4,e5⟩:=(hF.rowN h).append (byt:=byt) (len:=len) (n:=1) (ys:=ys) a0 (by omega) h0 (by decide) a1 hb a3
  have hk:Frm (σ.newBlk ys esz) σ' (· =b):=Frm.of1 (by rw [gT];exact Nat.lt_succ_of_lt h.lt) e2 e3 e4
  exact ⟨σ',b,off,s',cap',e1,hF.trans hk (fun _ _ h=>h.elim) (fun j _ h=>⟨by simp,h⟩),.inl ⟨by simp,rfl⟩,e5⟩
theorem Row.putEx {b off s cap esz:Nat} {xs:List Value} (h:Row σ b off s cap esz xs) {i:Nat} {vs:List Value} (hi:i≤xs.length) (hk:i+vs.length≤cap*esz) (hv:∀ x∈vs,one x=true):
  ∃ o,∀ τ:aB,σ.n≤τ.n→τ.get b=σ.get b→stC ⟨b,off+i,some s⟩ vs τ=some (.tuple #[],τ.put b o)∧Row (τ.put b o) b off s cap esz (xs.take i++vs++xs.drop (i+vs.length)):=by
 obtain ⟨B,hg,hl,hh,he,hd,hc,hx⟩:=id h.blk
 have h1:=h.len
 refine ⟨.blk { B with cells:=B.cells.take (off+i)++vs++B.cells.drop (off+i+vs.length),dirty:=s / 64 },fun τ hn hτ=>?_⟩
 have e:τ.wrN ⟨b,off+i,some s⟩ vs=some (τ.put b (.blk { B with cells:=B.cells.take (off+i)++vs++B.cells.drop (off+i+vs.length),dirty:=s / 64 })):=by
  unfold aB.wrN
  simp only [hτ,hg]
  have:(Nat.beq (s / 64+1) B.his.length&&Nat.ble (off+i+vs.length) B.cells.length&&vs.all one)=true:=by
   simp only [Bool.and_eq_true,Nat.beq_eq,Nat.ble_eq,List.all_eq_true]
   exact ⟨⟨hl.symm,by omega⟩,hv⟩
  rw [this,cond_true]
 obtain ⟨σ1,e1,_,_,_,e5⟩:=(h.frame hn hτ).wrN hi hk hv
 rw [e] at e1
 cases e1
 refine ⟨?_,e5⟩
 unfold Go.Pg.stC
 rw [e]
theorem St.putEx {A:Nat} {cs:List Value} (h:St σ A cs) {i:Nat} {v:Value} (hi:i<cs.length) (hv:one v=true):∃ o,∀ τ:aB,σ.n≤τ.n→τ.get A=σ.get A→Go.Pg.stC (aadd ⟨A,0,some 0⟩ i) [v] τ=some (.tuple #[],τ.put A o)∧St (τ.put A o) A (cs.set i v):=
 ⟨_,fun τ hn hτ=>by
  have h2:=h.frame hn hτ
  have e:=h2.stC (off:=0+i) (v:=v) (by omega) hv
  rw [Nat.zero_add] at e
  exact ⟨by rw [show aadd ⟨A,0,some 0⟩ i=⟨A,i,some 0⟩ by simp [aadd]];exact e,h2.put (by simp)⟩⟩
end
section
variable {σ σ':aB} {X S:Nat→Prop} {A:Nat} {T:TrA} {N:List NV} {D:List Dc} {s s':Slt} {m m':MS} {P:Program} {ov:Ov}
theorem Mov.fx (k:Mov σ σ' A s s'):∀ j,j<σ.n→FX X A s' j→FX X A s j:=fun j hj h=>h.elim .inl fun h=>.inr (k.sub j hj h)
theorem VlP.mov {v:Vl} {q p:Option Addr} (h:VlP σ (FX X A s) v q p) (k:Mov σ σ' A s s'):VlP σ' (FX X A s') v q p:=h.step k.frm (fun _ _ h=>.inr h) k.fx
theorem EnR.mov {e:En} {p:Option Addr} (h:EnR σ (FX X A s) e p) (k:Mov σ σ' A s s'):EnR σ' (FX X A s') e p:=EnR_step k.frm (fun _ _ h=>.inr h) k.fx _ _ h
theorem VlR.mov {v:Vl} {cs:List Value} (h:VlR σ (FX X A s) v cs) (k:Mov σ σ' A s s'):VlR σ' (FX X A s') v cs:=jL k.frm (fun _ _ h=>.inr h) k.fx _ _ h
theorem WtR.mov {l:List Wt} {p:Option Addr} (h:WtR σ (FX X A s) l p) (k:Mov σ σ' A s s'):WtR σ' (FX X A s') l p:=mR k.frm (fun _ _ h=>.inr h) k.fx h
theorem LkR.mov {l:List (Int × Int)} {p:Option Addr} (h:LkR σ (FX X A s) l p) (k:Mov σ σ' A s s'):LkR σ' (FX X A s') l p:=iQ k.frm (fun _ _ h=>.inr h) k.fx h
theorem VRow.mov {l:List Vl} {q:Option Addr} (h:aR σ (FX X A s) 7 (vlR σ (FX X A s)) q l) (k:Mov σ σ' A s s'):aR σ' (FX X A s') 7 (vlR σ' (FX X A s')) q l:=qG k.frm (fun _ _ h=>.inr h) k.fx h
theorem natRow.mov {l:List Nat} {q:Option Addr} (h:aR σ (FX X A s) 1 kO q l) (k:Mov σ σ' A s s'):aR σ' (FX X A s') 1 kO q l:=aR.step k.frm (fun _ _ h=>.inr h) k.fx (fun _ _ h=>h) h
theorem Cz.mov {x:Addr} {n:Nat} {cs:List Value} (h:Cz σ (FX X A s) x n cs) (k:Mov σ σ' A s s'):Cz σ' (FX X A s') x n cs:=h.step k.frm (fun _ _ h=>.inr h) k.fx
theorem Mac.cl7 (h:Mac σ X A T N D s m):∀ cs∈s.css,cs.length=7:=by
 intro cs hc
 obtain ⟨i,hi,rfl⟩:=List.getElem_of_mem hc
 exact (h.cel i hi (by rw [←h.clen];exact hi)).len
theorem Mac.clf (h:Mac σ X A T N D s m):s.css.flatten.length=m.cells.length*7:=by rw [fB h.cl7,h.clen]
theorem Mac.upw (h:Mac σ X A T N D s m) (k:Mov σ σ' A s s') (a5:St σ' A (eV T N D s' m')) (e1:s'.pi=s.pi) (e2:m'.inp=m.inp) (a1:SlE σ' s'.ro s'.po s'.co 1 (m'.out.map yK)) (a0:SlE σ' s'.rc s'.pc s'.cc 7 s'.css.flatten)
  (a6:s'.css.length=m'.cells.length) (a2:∀ i (h:i<s'.css.length) (h':i<m'.cells.length),VlR σ (FX X A s) m'.cells[i] s'.css[i]) (a3:SlE σ' s'.rw_ s'.pw s'.cw 8 s'.ws) (a4:s'.ws.length=m'.nw*8)
  (hv:VlP σ (FX X A s) m'.v s'.vq s'.vp) (he:EnR σ (FX X A s) m'.env s'.pe) (hk:WtR σ (FX X A s) m'.k s'.pk) (hl:LkR σ (FX X A s) m'.calls s'.pl)
  (xo:s'.po≠none→¬ X s'.ro∧s'.ro≠A) (xc:s'.pc≠none→¬ X s'.rc∧s'.rc≠A∧(s'.po≠none→s'.rc≠s'.ro)) (xw:s'.pw≠none→¬ X s'.rw_∧s'.rw_≠A∧(s'.po≠none→s'.rw_≠s'.ro)∧(s'.pc≠none→s'.rw_≠s'.rc)):Mac σ' X A T N D s' m' where
 st:=a5
 tree:=h.tree.step k.frm (fun _ _ h=>.inr h) k.fx
 inp:=by rw [e1,e2];exact h.inp.step k.frm (fun _ _ h=>.inr h) k.fx fun _ _ h=>h
 out:=a1
 cells:=a0
 clen:=a6
 cel:=fun i h1 h2=>(a2 i h1 h2).mov k
 wr:=a3
 wl:=a4
 v:=hv.mov k
 env:=he.mov k
 k:=hk.mov k
 calls:=hl.mov k
 xn:=fun j hj=>Nat.lt_of_lt_of_le (h.xn j hj) k.frm.n
 xA:=h.xA
 xo:=xo
 xc:=xc
 xw:=xw
theorem Mac.newW (h:Mac σ X A T N D s m) {b' off sp cap':Nat} {ys:List Value} (hy:ys.length=8) (f:Frm σ σ' fun j=>j=A∨(s.pw≠none∧j=s.rw_)) (hb:(s.pw≠none∧b'=s.rw_)∨σ.n≤b') (hR:Row σ' b' off sp cap' 8 (s.ws++ys))
  (a0:St σ' A (eV T N D { s with pw:=some ⟨b',off,some sp⟩,cw:=cap',rw_:=b',ws:=s.ws++ys } { m with nw:=m.nw+1 })):
  Mac σ' X A T N D { s with pw:=some ⟨b',off,some sp⟩,cw:=cap',rw_:=b',ws:=s.ws++ys } { m with nw:=m.nw+1 }∧Mov σ σ' A s { s with pw:=some ⟨b',off,some sp⟩,cw:=cap',rw_:=b',ws:=s.ws++ys }:=by
 have k:Mov σ σ' A s { s with pw:=some ⟨b',off,some sp⟩,cw:=cap',rw_:=b',ws:=s.ws++ys }:=by
  refine ⟨f.mono fun j _ h=>h.elim .inl fun h=>.inr (.inr (.inr h)),?_⟩
  rintro j hj (h1|h1|h1|⟨_,h1⟩)
  ·exact .inl h1
  ·exact .inr (.inl h1)
  ·exact .inr (.inr (.inl h1))
  ·have h1:j=b':=h1
   rcases hb with ⟨hp,e⟩|hb
   ·exact .inr (.inr (.inr ⟨hp,by rw [h1,e]⟩))
   ·omega
 refine ⟨h.upw k a0 rfl rfl ?_ ?_ h.clen h.cel (.inr ⟨off,sp,rfl,hR⟩) ?_ h.v h.env h.k h.calls h.xo h.xc ?_,k⟩
 ·refine h.out.frm f fun hp hs=>?_
  rcases hs with hs|⟨h1,h2⟩
  ·exact (h.xo hp).2 hs
  ·exact (h.xw h1).2.2.1 hp h2.symm
 ·refine h.cells.frm f fun hp hs=>?_
  rcases hs with hs|⟨h1,h2⟩
  ·exact (h.xc hp).2.1 hs
  ·exact (h.xw h1).2.2.2 hp h2.symm
 ·show (s.ws++ys).length=(m.nw+1)*8
  rw [List.length_append,hy,h.wl,Nat.add_mul]
 ·intro _
  rcases hb with ⟨hp,e⟩|hb
  ·rw [e]
   exact h.xw hp
  ·have h1:=h.st.1
   refine ⟨fun hx=>?_,fun e=>?_,fun hp e=>?_,fun hp e=>?_⟩
   ·have:b'<σ.n:=h.xn _ hx
    omega
   ·have e:b'=A:=e
    omega
   ·have e:b'=s.ro:=e
    have:=h.out.lt hp
    omega
   ·have e:b'=s.rc:=e
    have:=h.cells.lt hp
    omega
theorem Mac.newO (h:Mac σ X A T N D s m) {b' off sp cap':Nat} {z:Int} (f:Frm σ σ' fun j=>j=A∨(s.po≠none∧j=s.ro)) (hb:(s.po≠none∧b'=s.ro)∨σ.n≤b') (hR:Row σ' b' off sp cap' 1 (m.out.map yK++[yK z]))
  (a1:St σ' A (eV T N D { s with po:=some ⟨b',off,some sp⟩,co:=cap',ro:=b' } { m with out:=m.out++[z] })):
  Mac σ' X A T N D { s with po:=some ⟨b',off,some sp⟩,co:=cap',ro:=b' } { m with out:=m.out++[z] }∧Mov σ σ' A s { s with po:=some ⟨b',off,some sp⟩,co:=cap',ro:=b' }:=by
 have k:Mov σ σ' A s { s with po:=some ⟨b',off,some sp⟩,co:=cap',ro:=b' }:=by
  refine ⟨f.mono fun j _ h=>h.elim .inl fun h=>.inr (.inl h),?_⟩
  rintro j hj (h1|⟨_,h1⟩|h1|h1)
  ·exact .inl h1
  ·have h1:j=b':=h1
   rcases hb with ⟨hp,e⟩|hb
   ·exact .inr (.inl ⟨hp,by rw [h1,e]⟩)
   ·omega
  ·exact .inr (.inr (.inl h1))
  ·exact .inr (.inr (.inr h1))
 have h1:=h.st.1
 refine ⟨h.upw k a1 rfl rfl (.inr ⟨off,sp,rfl,?_⟩) ?_ h.clen h.cel ?_ h.wl h.v h.env h.k h.calls ?_ ?_ ?_,k⟩
 ·show Row σ' b' off sp cap' 1 ((m.out++[z]).map yK)
  rw [List.map_append]
  exact hR
 ·refine h.cells.frm f fun hp hs=>?_
  rcases hs with hs|⟨h1,h2⟩
  ·exact (h.xc hp).2.1 hs
  ·exact (h.xc hp).2.2 h1 h2
 ·refine h.wr.frm f fun hp hs=>?_
  rcases hs with hs|⟨h1,h2⟩
  ·exact (h.xw hp).2.1 hs
  ·exact (h.xw hp).2.2.1 h1 h2
 ·intro _
  rcases hb with ⟨hp,e⟩|hb
  ·rw [e]
   exact h.xo hp
  ·refine ⟨fun hx=>?_,fun e=>?_⟩
   ·have:b'<σ.n:=h.xn _ hx
    omega
   ·have e:b'=A:=e
    omega
 ·intro hp
  refine ⟨(h.xc hp).1,(h.xc hp).2.1,fun _ e=>?_⟩
  have e:s.rc=b':=e
  rcases hb with ⟨a0,e2⟩|hb
  ·exact (h.xc hp).2.2 a0 (e.trans e2)
  ·have:=h.cells.lt hp
   omega
 ·intro hp
  refine ⟨(h.xw hp).1,(h.xw hp).2.1,fun _ e=>?_,(h.xw hp).2.2.2⟩
  have e:s.rw_=b':=e
  rcases hb with ⟨a0,e2⟩|hb
  ·exact (h.xw hp).2.2.1 a0 (e.trans e2)
  ·have:=h.wr.lt hp
   omega
theorem Mac.newC (h:Mac σ X A T N D s m) {b' off sp cap':Nat} {css':List (List Value)} {cells':List Vl} (a3:css'.length=cells'.length) (a0:∀ i (h:i<css'.length) (h':i<cells'.length),VlR σ (FX X A s) cells'[i] css'[i]) (f:Frm σ σ' fun j=>j=A∨(s.pc≠none∧j=s.rc)) (hb:(s.pc≠none∧b'=s.rc)∨σ.n≤b') (hR:Row σ' b' off sp cap' 7 css'.flatten)
  (a1:St σ' A (eV T N D { s with pc:=some ⟨b',off,some sp⟩,cc:=cap',rc:=b',css:=css' } { m with cells:=cells' })):
  Mac σ' X A T N D { s with pc:=some ⟨b',off,some sp⟩,cc:=cap',rc:=b',css:=css' } { m with cells:=cells' }∧Mov σ σ' A s { s with pc:=some ⟨b',off,some sp⟩,cc:=cap',rc:=b',css:=css' }:=by
 have k:Mov σ σ' A s { s with pc:=some ⟨b',off,some sp⟩,cc:=cap',rc:=b',css:=css' }:=by
  refine ⟨f.mono fun j _ h=>h.elim .inl fun h=>.inr (.inr (.inl h)),?_⟩
  rintro j hj (h1|h1|⟨_,h1⟩|h1)
  ·exact .inl h1
  ·exact .inr (.inl h1)
  ·have h1:j=b':=h1
   rcases hb with ⟨hp,e⟩|hb
   ·exact .inr (.inr (.inl ⟨hp,by rw [h1,e]⟩))
   ·omega
  ·exact .inr (.inr (.inr h1))
 have h1:=h.st.1
 refine ⟨h.upw k a1 rfl rfl ?_ (.inr ⟨off,sp,rfl,hR⟩) a3 a0 ?_ h.wl h.v h.env h.k h.calls h.xo ?_ ?_,k⟩
 ·refine h.out.frm f fun hp hs=>?_
  rcases hs with hs|⟨h1,h2⟩
  ·exact (h.xo hp).2 hs
  ·exact (h.xc h1).2.2 hp h2.symm
 ·refine h.wr.frm f fun hp hs=>?_
  rcases hs with hs|⟨h1,h2⟩
  ·exact (h.xw hp).2.1 hs
  ·exact (h.xw hp).2.2.2 h1 h2
 ·intro _
  rcases hb with ⟨hp,e⟩|hb
  ·rw [e]
   exact h.xc hp
  ·refine ⟨fun hx=>?_,fun e=>?_,fun hp e=>?_⟩
   ·have:b'<σ.n:=h.xn _ hx
    omega
   ·have e:b'=A:=e
    omega
   ·have e:b'=s.ro:=e
    have:=h.out.lt hp
    omega
 ·intro hp
  refine ⟨(h.xw hp).1,(h.xw hp).2.1,(h.xw hp).2.2.1,fun _ e=>?_⟩
  have e:s.rw_=b':=e
  rcases hb with ⟨a2,e2⟩|hb
  ·exact (h.xw hp).2.2.2 a2 (e.trans e2)
  ·have:=h.wr.lt hp
   omega
end
end Go.Pg
namespace Go.Pg
open Go.Proofs Go.Utf8 Go.Lib
set_option linter.unusedSimpArgs false
theorem SlV.emp {σ:aB} {Y:Nat→Prop} {b c:Nat} {p:Option Addr} {xs:List Value} (h:SlV σ b p c xs) (hb:p≠none→¬ Y b):Emp σ Y p:=SlE.emp (esz:=1) h hb
theorem slV_nats {σ:aB} {Y:Nat→Prop} {b c:Nat} {p:Option Addr} {bl:List Nat} (h:SlV σ b p c (bl.map ql)) (hb:p≠none→¬ Y b):aR σ Y 1 kO p bl:=slE_nats h hb
section
variable {σ:aB} {N:List NV} {D:List Dc} {pn pd:Option Addr} {cn cd U V:Nat}
theorem yo (hU:U≠V) (b7:St σ U [.slice pn N.length cn,.slice pd D.length cd]) (c7:St σ V [.slice none 0 0,.slice none 0 0]) (hT:dK σ (· =V) pn N pd D) (hK:∀ v∈N,v.kids.length≤1000000) (hN:N.length≤1000000) {K:Ex→List Value→Pg} {Q:cN}
  (k:∀ σ' p c rb css,Frm σ σ' (· =V)→St σ' V [.slice p N.length c,.slice none 0 0]→GR nvR 7 σ' (fun j=>j<σ.n) rb N css p c→Wp aG ovD (K (.exit 0) [.int .i64 ((N.length:Nat):Int)]) σ' Q):
  Wp aG ovD (.loop [.int .i64 0] (T10b0 ⟨U,0,some 0⟩ ⟨V,0,some 0⟩) K) σ Q:=by
 have f1:=b7.1
 have d8:=c7.1
 refine Wp.count N.length (fun i st σ'=>∃ p c rb css,st=[.int .i64 ((i:Nat):Int)]∧Frm σ σ' (· =V)∧St σ' V [.slice p i c,.slice none 0 0]∧GR nvR 7 σ' (fun j=>j<σ.n) rb (N.take i) css p c)
  ⟨none,0,0,[],rfl,Frm.refl _ _,c7,.zero⟩ ?_ ?_
 ·rintro i st σ1 hi ⟨p,c,rb,css,rfl,a7,b1,a3⟩
  have ei:aT ((i:Int)+1)=((i+1:Nat):Int):=by rw [aV (by omega)];omega
  have c5:=a7.st b7 hU
  have d9:dK σ1 (· =V) pn N pd D:=hT.step (Y':=(· =V)) a7 (fun _ _ h=>h) fun _ _ h=>h
  have f0:=a7.n
  unfold T10b0
  simp only [wpS]
  rw [aE c5 (v:=.slice pn N.length cn) rfl]
  simp only [wpS]
  rw [aC,if_pos (by simp;omega),aI,aE c5 (v:=.slice pn N.length cn) rfl]
  simp only [wpS]
  refine dM d9.nodes hi rfl fun cs c1=>?_
  generalize hv:N[i]=v at c1
  have e4:v.kids.length≤1000000:=hK v (by rw [←hv];exact List.getElem_mem hi)
  obtain ⟨q,kq,rfl,b3,b6⟩:=c1
  simp only [wpS]
  refine aP fun σ2 e3 e9 d0=>?_
  generalize hX:σ1.n=X at d0
  refine bC d0 rfl rfl fun σ3 e2 e8 a0=>?_
  have a1:Frm σ1 σ3 NoB:=e3.fresh e2 fun j hj h=>by omega
  have c4:=a1.stN b1
  rw [aE c4 (v:=.slice p i c) rfl]
  simp only [wpS]
  rw [aE a0 (v:=.int .i64 v.x.k) rfl]
  simp only [wpS]
  rw [aE a0 (v:=.int .i64 v.x.n) rfl]
  simp only [wpS]
  rw [aE a0 (v:=.string (mkB v.x.nm)) rfl]
  simp only [wpS]
  rw [aE a0 (v:=.string (mkB v.x.pm)) rfl]
  simp only [wpS]
  rw [bK,aY,cT]
  simp only [wpS]
  have a4:Frm σ3 (σ3.newBlk [] 1) NoB:=Frm.new _ _ _ _
  have d1:Row (σ3.newBlk [] 1) σ3.n 0 1 0 1 []:=Row.new σ3 1 [] 0 (by decide) rfl (by simp)
  generalize σ3.newBlk [] 1=σ4 at a4 d1 ⊢
  have e7:=a4.n
  have ckA:∀ {τ:aB},Frm σ3 τ NoB→chks [((ld1 (aadd ⟨X,0,some 0⟩ 3)),.string (mkB v.x.pm)),((ld1 (aadd ⟨X,0,some 0⟩ 2)),.string (mkB v.x.nm)),((ld1 (aadd ⟨X,0,some 0⟩ 1)),.int .i64 v.x.n),((ld1 (aadd ⟨X,0,some 0⟩ 0)),.int .i64 v.x.k),((ld1 (aadd ⟨V,0,some 0⟩ 0)),.slice p i c)] τ=true:=fun f=>
   bU ((Kp.st a0 (i:=3) rfl).frm f) (bU ((Kp.st a0 (i:=2) rfl).frm f) (bU ((Kp.st a0 (i:=1) rfl).frm f) (bU ((Kp.st a0 (i:=0) rfl).frm f) (bU ((Kp.st c4 (i:=0) rfl).frm f) rfl))))
  rw [bK,aQ]
  refine ⟨ckA a4,?_⟩
  rw [aE (a4.stN a0) (v:=.slice q v.kids.length kq) rfl,aQ]
  refine ⟨xW fun τ hτ=>by rw [List.mem_singleton.1 hτ];exact Kp.st a0 rfl,?_⟩
  simp only [wpS]
  rw [bK]
  have b0:=a1.seq a4
  have a8:=b3.later b0
  have a9:Emp σ4 (· =V) q:=b6.step (Y':=(· =V)) b0 (fun _ _ h=>h.elim) fun _ _ h=>h
  refine xR (b:=σ3.n) (xs:=[]) (ys:=v.kids.map ql) (.inr ⟨0,1,rfl,d1⟩) rfl (a8.src (fun _ _ h=>h) a9) (by simp) (by intro y hy;obtain ⟨j,_,rfl⟩:=List.mem_map.1 hy;rfl) (by omega) (by omega) fun σ5 kb kp kc d4 d5 d2=>?_
  have a5:Frm σ3 σ5 NoB:=a4.fresh d4 fun j hj h=>by omega
  have c9:=a5.stN a0
  rw [bK,aQ]
  refine ⟨ckA a5,?_⟩
  have a2:∀ {o:Nat} {w:Value},[(.int .i64 v.x.k:Value),.int .i64 v.x.n,.string (mkB v.x.nm),.string (mkB v.x.pm),.slice q v.kids.length kq,.int .i64 v.x.fr,.int .i64 v.x.to][o]?=some w→past (ld1 (aadd ⟨X,0,some 0⟩ o)) w [σ4,σ3]=true:=fun h=>xW fun τ hτ=>by
   simp only [List.mem_cons,List.mem_nil_iff,or_false] at hτ
   rcases hτ with rfl|rfl
   ·exact (Kp.st a0 h).frm a4
   ·exact Kp.st a0 h
  rw [aE c9 (v:=.int .i64 v.x.fr) rfl,aQ]
  refine ⟨a2 rfl,?_⟩
  simp only [wpS]
  rw [aE c9 (v:=.int .i64 v.x.to) rfl,aQ]
  refine ⟨a2 rfl,?_⟩
  simp only [wpS]
  rw [Nat.zero_add]
  have a6:=a1.seq a5
  have c3:=a6.stN b1
  have b2:=a3.frmN dE a6
  have e6:=d4.n
  have b5:kp≠none→σ3.n≤kb:=fun h=>by
   rcases d5 with h2|⟨_,h2⟩|h2
   ·exact absurd h2 h
   ·omega
   ·omega
  have d6:(N.take i).length=i:=by rw [List.length_take];omega
  refine qE (len:=i) b2.row (by rw [fB b2.cl,b2.len,d6]) (by decide) (by decide) rfl (by intro y hy;simp at hy;rcases hy with rfl|rfl|rfl|rfl|rfl|rfl|rfl<;>rfl) (by omega) (by omega) (fun τ f=>bU ((Kp.st c3 (i:=0) rfl).frm f) rfl) fun σ6 rb6 off6 s6 c6 b8 b4 e0=>?_
  have c0:kp≠none→¬ (kb<σ.n∨p≠none∧kb=rb):=fun h h2=>by
   have h3:=b5 h
   rcases h2 with h2|⟨h2,h4⟩
   ·omega
   ·have:=a3.lt h2
    have:=a1.n
    omega
  have e1:=b2.more dE (fun j h=>by omega) (b:=v) rfl ⟨kp,kc,rfl,slV_nats (by simpa using d2) c0,d2.emp c0⟩ b8 b4 e0
  have d7:¬ (p≠none∧V=rb):=fun h=>a3.hr h.1 (by show rb<σ.n;omega)
  refine bB (b8.st c3 d7) (by simp) rfl fun σ7 d3 e5 c8=>?_
  simp only [List.set_cons_zero] at c8
  simp only [wpS,T10k0,ei]
  have b9:Frm σ σ6 (· =V):=(a7.seq a6.no).trans b8 (fun _ _ h=>h) fun j hj h=>absurd hj (a3.hr h.1 |> fun h2=>by rw [h.2];exact h2)
  rw [List.take_succ_eq_append_getElem hi,hv]
  exact ⟨_,_,rb6,_,trivial,b9.seq d3,c8,e1.frm dE d3 fun j _ h=>by rw [h];exact d8⟩
 ·rintro st σ1 ⟨p,c,rb,css,rfl,a7,b1,a3⟩
  unfold T10b0
  simp only [wpS]
  rw [aE (a7.st b7 hU) (v:=.slice pn N.length cn) rfl]
  simp only [wpS]
  rw [aC,if_neg (by simp)]
  simp only [wpS]
  rw [List.take_length] at a3
  exact k σ1 p c rb css a7 b1 a3
end
end Go.Pg
namespace Go.Pg
open Go.Proofs Go.Utf8 Go.Lib
set_option linter.unusedSimpArgs false
theorem oL {σ:aB} {n0:Nat} {bs:List Nat} (hn:n0≤σ.n) (hf:mI σ) (hb:∀ b∈bs,b≠σ.n):qv n0 σ bs=true:=by
 unfold qv
 rw [hf σ.n (Nat.le_refl _)]
 simp only [noneB,Bool.and_true,Bool.and_eq_true,Nat.ble_eq,List.all_eq_true,Bool.not_eq_true']
 refine ⟨hn,fun b h=>?_⟩
 rw [Bool.eq_false_iff]
 intro e
 exact hb b h (Nat.eq_of_beq_eq_true e)
theorem vl {k:Nat} (vs:List Value) (hv:vs.length=k):∀ (css:List (List Value)) (i:Nat) (_:i<css.length),(∀ cs∈css,cs.length=k)→css.flatten.take (i*k)++vs++css.flatten.drop (i*k+k)=(css.set i vs).flatten
 |cs::css,0,_,h=>by
  have hc:=h cs (by simp)
  rw [List.set_cons_zero,List.flatten_cons,List.flatten_cons,Nat.zero_mul,Nat.zero_add,List.take_zero,List.nil_append,List.drop_append_of_le_length (by omega),List.drop_of_length_le (by omega),List.nil_append]
 |cs::css,i+1,hi,h=>by
  have hc:=h cs (by simp)
  have ih:=vl vs hv css i (by simpa using hi) (fun x hx=>h x (by simp [hx]))
  rw [List.set_cons_succ,List.flatten_cons,List.flatten_cons,←ih,show (i+1)*k=cs.length+i*k by rw [hc,Nat.add_mul,Nat.one_mul,Nat.add_comm],List.take_append,List.take_of_length_le (by omega),Nat.add_sub_cancel_left,Nat.add_assoc,List.drop_append,List.drop_of_length_le (by omega),Nat.add_sub_cancel_left,List.nil_append,List.append_assoc,List.append_assoc,List.append_assoc]
section
variable {σ σ':aB} {X Y:Nat→Prop} {A:Nat} {T:TrA} {N:List NV} {D:List Dc} {s:Slt} {m:MS} {P:Program} {ov:Ov}
theorem VRow.frmN {l:List Vl} {q:Option Addr} (h:aR σ Y 7 (vlR σ Y) q l) (f:Frm σ σ' NoB):aR σ' Y 7 (vlR σ' Y) q l:=qG (S:=NoB) f (fun _ _ h=>h.elim) (fun _ _ h=>h) h
theorem Cz.all {x:Addr} {n:Nat} {cs:List Value} (h:Cz σ Y x n cs):Go.Pg.ldN n x σ=some (.agg cs.toArray,σ):=by
 unfold Go.Pg.ldN
 rw [h.2.1]
theorem Mac.cellsRow (h:Mac σ X A T N D s m):aR σ NoB 7 (vlR σ (FX X A s)) s.pc m.cells:=by
 rcases h.cells with ⟨hp,_,h0⟩|⟨off,sp,hp,hR⟩
 ·have h1:=h.clf
  rw [h0] at h1
  have:m.cells=[]:=List.eq_nil_of_length_eq_zero (by simp at h1;omega)
  rw [this]
  exact aR.nil
 ·rw [hp]
  exact aR.own hR (fun h=>h) h.clen h.cl7 h.cel
abbrev zv (v:Vl) (q:Option Addr) (c:Nat) (p:Option Addr):∀ y∈vC v q c p,one y=true:=by
 intro y hy
 unfold vC at hy
 simp at hy
 rcases hy with rfl|rfl|rfl|rfl|rfl|rfl|rfl<;>rfl
theorem wp_cell91 (h:Mac σ X A T N D s m) (f9:mI σ) {x:NV} {q:Option Addr} {k:Nat} {vals:List Vl} {vq:Option Addr} (vc:Nat) (hv:aR σ (FX X A s) 7 (vlR σ (FX X A s)) vq vals) (h0:0<vals.length) (h1:x.x.k≠15→x.x.k≠16→1<vals.length)
  (hc:(vals.getD 0 cA).k=6→0≤(vals.getD 0 cA).at_∧(vals.getD 0 cA).at_<(m.cells.length:Int)) (hb:m.cells.length≤1000000000) (hw:m.nw≤1000000000):
  WpF aG ovD 91 [bP A,.agg (nvC x q k).toArray,.slice vq vals.length vc] σ (QM σ X A T N D s (xd m x vals)):=by
 refine WpF.of (T91_eq _ _ _ _ _ _ _ _ _ _ _ _ _) rfl ?_
 rw [T91]
 refine aP fun σ1 c3 f8 b8=>?_
 generalize hB:σ.n=B at b8 f8
 have b8:St σ1 B (nvC x q k):=b8
 have a1:=h.frmN c3
 have c9:=VRow.frmN hv c3
 rw [aE b8 (i:=0) rfl]
 simp only [wpS]
 unfold xd
 have e0:vals.getD 0 cA=vals[0]:=by simp [List.getD,h0]
 rw [e0] at hc ⊢
 rw [aC]
 by_cases c1:x.x.k=15
 ·rw [if_pos (by simpa using c1),if_pos c1]
  rw [aE a1.st (i:=6) rfl]
  simp only [wpS]
  rw [aE a1.st (i:=5) rfl]
  simp only [wpS]
  obtain ⟨xv,cs,rfl,a5,d1,b5⟩:=c9 0 h0
  have hz:Cz σ1 (FX X A s) (aadd xv 0) 7 cs:=⟨a5,d1,VlR.len b5⟩
  obtain ⟨q0,k0,p0,rfl,e6⟩:=dH.1 b5
  have b1:decide (0<((vals.length:Nat):Int))=true:=decide_eq_true (by omega)
  simp only [bO]
  rw [aQ]
  refine ⟨b1,?_⟩
  rw [aY,hz.all]
  unfold vC
  simp only [wpS]
  refine qE (len:=m.nw) a1.wr a1.wl (by decide) (by decide) rfl (by intro y hy;simp at hy;rcases hy with rfl|rfl|rfl|rfl|rfl|rfl|rfl|rfl<;>rfl) (by omega) (by omega) (fun τ f=>bU ((Kp.st a1.st (i:=6) rfl).frm f) rfl) fun σ2 b2 off2 sp2 cap2 c8 a7 d5=>?_
  refine bB (i:=6) (c8.st a1.st fun hs=>(a1.xw hs.1).2.1 hs.2.symm) (by simp [eV]) rfl fun σ3 c0 f6 a4=>?_
  have a0:Frm σ1 σ3 (fun j=>j=A∨(s.pw≠none∧j=s.rw_)):=c8.trans c0 (fun _ _ h=>.inr h) (fun _ _ h=>.inl h)
  have a6:¬ b2=A:=by
   rcases a7 with ⟨hp,e⟩|a7
   ·rw [e];exact (a1.xw hp).2.1
   ·have:=a1.st.1;omega
  obtain ⟨s3,h3,d8⟩:∃ s3,Mac σ3 X A T N D s3 { m with nw:=m.nw+1 }∧Mov σ1 σ3 A s s3:=⟨_,a1.newW rfl a0 a7 (c0.row d5 a6) a4⟩
  have d9:=hz.mov d8
  have g6:=e6.mov d8
  have b3:mI σ3:=a0.fr (c3.fr f9)
  obtain ⟨H1,b',off,sp,cap',ea,e7,b7,d4⟩:=app_ex (byt:=80) (len:=m.cells.length) (ys:=zC) h3.cells h3.clf (by decide) (by decide) rfl (zv cA none 0 none) (by omega) (by omega)
  have f2:St H1 A (eV T N D s3 { m with nw:=m.nw+1 }):=e7.st h3.st fun hs=>(h3.xc hs.1).2.1 hs.2.symm
  have a3:¬ b'=A:=by
   rcases b7 with ⟨hp,e⟩|b7
   ·rw [e];exact (h3.xc hp).2.1
   ·have:=h3.st.1;omega
  have c5:s3.css.flatten.length=m.cells.length*7:=h3.clf
  obtain ⟨oR,c4⟩:=d4.putEx (i:=m.cells.length*7) (vs:=vC vals[0] q0 k0 p0) (by rw [List.length_append,c5];omega) (by have:=d4.len;rw [List.length_append,c5] at this;exact this) (zv _ _ _ _)
  obtain ⟨oA,e3⟩:=f2.putEx (i:=5) (v:=.slice (some ⟨b',off,some sp⟩) (m.cells.length+1) cap') (by simp [eV]) rfl
  have ecs:(s3.css.flatten++zC).take (m.cells.length*7)++vC vals[0] q0 k0 p0++(s3.css.flatten++zC).drop (m.cells.length*7+(vC vals[0] q0 k0 p0).length)=(s3.css++[vC vals[0] q0 k0 p0]).flatten:=by
   rw [List.take_left' c5,List.drop_of_length_le (by rw [List.length_append,c5];exact Nat.le_refl _),List.append_nil,List.flatten_append]
   simp
  rw [ecs] at c4
  have eR1:Go.Pg.stC (aadd ⟨b',off,some sp⟩ (m.cells.length*7)) (vC vals[0] q0 k0 p0) H1=some (.tuple #[],H1.put b' oR):=(c4 H1 (Nat.le_refl _) rfl).1
  have eA2:=e3 (H1.put b' oR) (Nat.le_refl _) (lN _ _ fun e=>a3 e.symm)
  have eA1:=(e3 H1 (Nat.le_refl _) rfl).1
  have eR2:Go.Pg.stC (aadd ⟨b',off,some sp⟩ (m.cells.length*7)) (vC vals[0] q0 k0 p0) (H1.put A oA)=some (.tuple #[],(H1.put A oA).put b' oR):=(c4 (H1.put A oA) (Nat.le_refl _) (lN _ _ a3)).1
  have fR:Frm H1 (H1.put b' oR) (· =b'):=Frm.put _ _ _ d4.lt
  have fA:Frm (H1.put b' oR) ((H1.put b' oR).put A oA) (· =A):=Frm.put _ _ _ f2.1
  have f4:Frm σ3 ((H1.put b' oR).put A oA) (fun j=>j=A∨(s3.pc≠none∧j=s3.rc)):=
   (e7.trans fR (U:=fun j=>s3.pc≠none∧j=s3.rc) (fun _ _ h=>h) fun j hj h=>by
    rcases b7 with ⟨hp,e⟩|b7
    ·exact ⟨hp,by rw [←e];exact h⟩
    ·have h:j=b':=h
     omega).trans fA (fun _ _ h=>.inr h) (fun _ _ h=>.inl h)
  have b6:s3.css.length=m.cells.length:=h3.clen
  obtain ⟨s4,h4,g8⟩:∃ s4,Mac ((H1.put b' oR).put A oA) X A T N D s4 { m with nw:=m.nw+1,cells:=m.cells++[vals[0]] }∧Mov σ3 ((H1.put b' oR).put A oA) A s3 s4:=by
   refine ⟨_,h3.newC (cells':=m.cells++[vals[0]]) (css':=s3.css++[vC vals[0] q0 k0 p0]) (by simp [b6]) ?_ f4 b7 (fA.row (c4 H1 (Nat.le_refl _) rfl).2 a3) ?_⟩
   ·intro i hi c7
    by_cases hl:i<m.cells.length
    ·rw [List.getElem_append_left (show i<m.cells.length from hl),List.getElem_append_left (by omega)]
     exact h3.cel i _ _
    ·have:i=m.cells.length:=by simp at c7;omega
     subst this
     have g1:(m.cells++[vals[0]])[m.cells.length]'c7=vals[0]:=by simp
     have g2:(s3.css++[vC vals[0] q0 k0 p0])[m.cells.length]'hi=vC vals[0] q0 k0 p0:=by simp [←b6]
     rw [g1,g2]
     exact dH.2 ⟨q0,k0,p0,rfl,g6⟩
   ·have:=eA2.2
    rw [show m.cells.length+1=(m.cells++[vals[0]]).length by simp] at this
    exact this
  unfold vC at eR1 eR2
  unfold zC at ea
  rw [bK,aI]
  refine Wp.mono _ _ (fun e vs τ=>e=.normal∧τ=(H1.put A oA).put b' oR∧vs=[(.pointer (some (aadd ⟨A,0,some 0⟩ 5))),(.pointer (some ⟨A,0,some 0⟩)),(.pointer (some (aadd ⟨b',off,some sp⟩ (m.cells.length*7)))),(.slice (some ⟨b',off,some sp⟩) (m.cells.length+1) cap'),(.slice (some ⟨σ3.n,0,some 7⟩) 1 1),(.int .i64 ((m.cells.length:Nat):Int)),(.agg (vC vals[0] q0 k0 p0).toArray),(.pointer (some (aadd xv 0))),(.slice (some xv) vals.length vc),(.slice s3.pc m.cells.length s3.cc),(.pointer (some (aadd ⟨A,0,some 0⟩ 5))),(.pointer (some ⟨A,0,some 0⟩)),(.pointer (some ⟨A,0,some 0⟩))]) _ ?_ ?_
  ·rintro _ _ _ ⟨rfl,rfl,rfl⟩
   rw [bK,aY]
   simp only
   rw [aE h3.st (i:=5) rfl]
   simp only [wpS]
   rw [aQ]
   refine ⟨b1,?_⟩
   rw [aY,d9.all]
   unfold vC
   simp only [wpS]
   rw [bK,aQ]
   refine ⟨oL (Nat.le_refl _) b3 (fun _ h=>by cases h),?_⟩
   rw [aY,cT]
   simp only [wpS]
   rw [bK,aY,ea]
   simp only [wpS]
   rw [aQ]
   refine ⟨decide_eq_true (by omega),?_⟩
   rw [aY,eR1]
   simp only [wpS]
   rw [aY,eA2.1]
   simp only [wpS]
   rw [bK,aQ]
   refine ⟨by rw [put_comm H1 a3 oR oA,heapEq_same];exact vh _,?_⟩
   rw [aE h4.st (i:=5) rfl]
   simp only [wpS]
   have e1:aT ((((m.cells++[vals[0]]).length:Nat):Int) - 1)=((m.cells.length:Nat):Int):=by
    rw [List.length_append,List.length_singleton,aV (by omega)]
    omega
   rw [e1]
   have key:=eY h4 0 (v:=cellV m.cells.length) (q:=none) (p:=none) (VlP.plain rfl rfl)
   unfold vC at key
   rw [aD]
   refine WpF.mono key ?_
   intro v' σ9 hq
   obtain ⟨rfl,_⟩:=id hq
   simp only [wpS]
   exact ⟨_,rfl,hq.up (((Mov.ofN c3).trans d8).trans g8)⟩
  ·rw [aE h3.st (i:=5) rfl]
   simp only [wpS]
   rw [aQ]
   refine ⟨b1,?_⟩
   rw [aY,d9.all]
   unfold vC
   simp only [wpS]
   rw [bK,aQ]
   refine ⟨oL (Nat.le_refl _) b3 (fun _ h=>by cases h),?_⟩
   rw [aY,cT]
   simp only [wpS]
   rw [bK,aY,ea]
   simp only [wpS]
   rw [aQ]
   refine ⟨decide_eq_true (by omega),?_⟩
   rw [aY,eA1]
   simp only [wpS]
   rw [aY,eR2]
   simp only [wpS]
   refine ⟨?_,?_,?_⟩<;>first|trivial|rfl
 rw [if_neg (by simpa using c1),if_neg c1]
 obtain ⟨xv,cs,rfl,a5,d1,b5⟩:=c9 0 h0
 have hz:Cz σ1 (FX X A s) (aadd xv 0) 7 cs:=⟨a5,d1,VlR.len b5⟩
 obtain ⟨q0,k0,p0,rfl,e6⟩:=dH.1 b5
 have b1:decide (0<((vals.length:Nat):Int))=true:=decide_eq_true (by omega)
 simp only [bO]
 rw [aQ]
 refine ⟨b1,?_⟩
 rw [aY,hz.all]
 unfold vC
 simp only [wpS]
 refine aP fun σ2 c8 f7 e5=>?_
 refine bC e5 rfl rfl fun σ3 c0 f6 a4=>?_
 generalize hE:σ1.n=E at e5 a4 c0 f7
 have a0:Frm σ1 σ3 NoB:=c8.fresh c0 fun j hj h=>by omega
 have a4:St σ3 E (vC vals[0] q0 k0 p0):=a4
 have h3:=a1.frmN a0
 have a8:Mov σ σ3 A s s:=Mov.ofN (c3.seq a0)
 rw [aE a4 (i:=0) rfl]
 simp only [wpS]
 rw [aC]
 by_cases c6:vals[0].k=6
 case neg=>
  rw [if_pos (by simpa using c6),if_pos c6,aD]
  refine WpF.mono (fP h3) ?_
  intro v' σ9 hq
  obtain ⟨rfl,_⟩:=id hq
  simp only [wpS]
  exact ⟨_,rfl,hq.up a8⟩
 rw [if_neg (by simp [c6]),if_neg (by simp [c6]),aE (a0.stN b8) (i:=0) rfl]
 simp only [wpS]
 rw [aC]
 obtain ⟨z1,z2⟩:=hc c6
 obtain ⟨j,hj⟩:=Int.eq_ofNat_of_zero_le z1
 have e4:j<m.cells.length:=by omega
 have ejn:vals[0].at_.toNat=j:=by rw [hj];try rfl
 rw [ejn]
 by_cases c16:x.x.k=16
 ·rw [if_pos (by simpa using c16),if_pos c16,aE h3.st (i:=5) rfl]
  simp only [wpS]
  rw [aE a4 (i:=6) rfl]
  simp only [wpS]
  rw [hj,show m.cells.getD j cA=m.cells[j] by simp [List.getD,e4]]
  refine dM h3.cellsRow e4 rfl fun cs g0=>?_
  obtain ⟨q1,k1,p1,rfl,d6⟩:=dH.1 g0
  have key:=eY h3 k1 d6
  unfold vC at key ⊢
  simp only [wpS]
  rw [aD]
  refine WpF.mono key ?_
  intro v' σ9 hq
  obtain ⟨rfl,_⟩:=id hq
  simp only [wpS]
  exact ⟨_,rfl,hq.up a8⟩
 ·rw [if_neg (by simpa using c16),if_neg c16]
  have f3:=h1 c1 c16
  obtain ⟨xv1,cs1,ex,a9,d0,b4⟩:=c9 1 f3
  cases ex
  have e2:Cz σ1 (FX X A s) (aadd xv 7) 7 cs1:=⟨a9,d0,VlR.len b4⟩
  rw [show vals.getD 1 cA=vals[1] by simp [List.getD,f3]]
  obtain ⟨q1,k1,p1,rfl,d6⟩:=dH.1 b4
  have b0:decide (1<((vals.length:Nat):Int))=true:=decide_eq_true (by omega)
  rw [aE h3.st (i:=6) rfl]
  simp only [wpS]
  rw [aE a4 (i:=6) rfl]
  simp only [wpS]
  rw [aQ]
  refine ⟨b0,?_⟩
  rw [aY,(e2.frm a0).all]
  unfold vC
  simp only [wpS]
  refine qE (len:=m.nw) h3.wr h3.wl (by decide) (by decide) rfl (by intro y hy;simp at hy;rcases hy with rfl|rfl|rfl|rfl|rfl|rfl|rfl|rfl<;>rfl) (by omega) (by omega) (fun τ f=>bU ((Kp.st h3.st (i:=6) rfl).frm f) rfl) fun σ4 b2 off2 sp2 cap2 f1 a7 d5=>?_
  refine bB (i:=6) (f1.st h3.st fun hs=>(h3.xw hs.1).2.1 hs.2.symm) (by simp [eV]) rfl fun σ5 f0 i1 g3=>?_
  have b9:Frm σ3 σ5 (fun j=>j=A∨(s.pw≠none∧j=s.rw_)):=f1.trans f0 (fun _ _ h=>.inr h) (fun _ _ h=>.inl h)
  have a6:¬ b2=A:=by
   rcases a7 with ⟨hp,e⟩|a7
   ·rw [e];exact (h3.xw hp).2.1
   ·have:=h3.st.1;omega
  obtain ⟨s5,h5,d7⟩:∃ s5,Mac σ5 X A T N D s5 { m with nw:=m.nw+1 }∧Mov σ3 σ5 A s s5:=⟨_,h3.newW rfl b9 a7 (f0.row d5 a6) g3⟩
  have g9:=b9.st a4 (by
   rintro (e|⟨hp,e⟩)
   ·have:=a1.st.1;omega
   ·have:=a1.wr.lt hp;omega)
  have f5:=(e2.frm a0).mov d7
  have g5:=(d6.frmN a0).mov d7
  rw [aE h5.st (i:=5) rfl]
  simp only [wpS]
  rw [aE g9 (i:=6) rfl]
  simp only [wpS]
  rw [aQ]
  refine ⟨b0,?_⟩
  rw [aY,f5.all]
  unfold vC
  simp only [wpS]
  have d3:s5.css.length=m.cells.length:=h5.clen
  have a2:s5.css.flatten.length=m.cells.length*7:=h5.clf
  rcases h5.cells with ⟨_,_,i0⟩|⟨off,sp,hp,hR⟩
  ·rw [i0] at a2
   simp at a2
   omega
  have g4:=hR.len
  rw [a2] at g4
  obtain ⟨σ7,w1,w2,w3,w4,w5⟩:=hR.wrN (i:=j*7) (vs:=vC vals[1] q1 k1 p1) (by rw [a2];omega) (by show j*7+7≤_;omega) (zv _ _ _ _)
  have ew:Go.Pg.stC (aadd ⟨s5.rc,off,some sp⟩ (Int.toNat ((j:Nat):Int)*7)) (vC vals[1] q1 k1 p1) σ5=some (.tuple #[],σ7):=by
   unfold Go.Pg.stC
   rw [show aadd ⟨s5.rc,off,some sp⟩ (Int.toNat ((j:Nat):Int)*7)=⟨s5.rc,off+j*7,some sp⟩ from rfl,w1]
  have e9:Frm σ5 σ7 (· =s5.rc):=Frm.of1 hR.lt w2 w3 w4
  have d2:s5.pc≠none:=by rw [hp];simp
  obtain ⟨s7,h7,g7⟩:∃ s7,Mac σ7 X A T N D s7 { m with nw:=m.nw+1,cells:=m.cells.set j vals[1] }∧Mov σ5 σ7 A s5 s7:=by
   refine ⟨_,h5.newC (b':=s5.rc) (off:=off) (sp:=sp) (cap':=s5.cc) (cells':=m.cells.set j vals[1]) (css':=s5.css.set j (vC vals[1] q1 k1 p1)) (by simp [d3]) ?_ (e9.mono fun _ _ h=>.inr ⟨d2,h⟩) (.inl ⟨d2,rfl⟩) ?_ ?_⟩
   ·intro i hi c7
    rw [List.getElem_set,List.getElem_set]
    split
    ·exact dH.2 ⟨q1,k1,p1,rfl,g5⟩
    ·exact h5.cel i (by simpa using hi) (by simpa using c7)
   ·rw [←vl (k:=7) (vC vals[1] q1 k1 p1) rfl s5.css j (by omega) h5.cl7]
    exact w5
   ·have:=e9.st h5.st fun e=>(h5.xc d2).2.1 e.symm
    have e:eV T N D { s5 with pc:=some ⟨s5.rc,off,some sp⟩,cc:=s5.cc,rc:=s5.rc,css:=s5.css.set j (vC vals[1] q1 k1 p1) } { m with nw:=m.nw+1,cells:=m.cells.set j vals[1] }=eV T N D s5 { m with nw:=m.nw+1 }:=by
     unfold eV
     simp only [List.length_set,←hp]
    rw [e]
    exact this
  unfold vC at ew
  rw [hj,hp]
  simp only [wpS]
  rw [aQ]
  refine ⟨by simp;omega,?_⟩
  rw [aY,ew]
  simp only [wpS]
  rw [aD]
  refine vB fun σ8 e8=>?_
  have h8:=h7.frmN e8
  have key:=eY h8 0 (v:=nH) (q:=none) (p:=none) (VlP.plain rfl rfl)
  unfold vC at key ⊢
  simp only [wpS]
  rw [aD]
  refine WpF.mono key ?_
  intro v' σ9 hq
  obtain ⟨rfl,_⟩:=id hq
  simp only [wpS]
  exact ⟨_,rfl,hq.up (((a8.trans d7).trans g7).trans (Mov.ofN e8))⟩
end
end Go.Pg
namespace Go.Pg
open Go.Proofs Go.Utf8 Go.Lib
set_option linter.unusedSimpArgs false
theorem nO {σ:aB} {b:Nat} {o:Option dS} (h:σ.get b=o):ye [(b,o)] σ=true:=by
 unfold ye ye objEq
 rw [h]
 simp
theorem op_plain {t:List UInt8} {a b:Int} {v:Vl} (h:opV t a b=some v):v.args=[]∧v.env=.nil:=by
 unfold opV at h
 repeat' split at h
 all_goals first|(cases h;exact ⟨rfl,rfl⟩)|cases h
section
variable {σ σ':aB} {X Y:Nat→Prop} {A:Nat} {T:TrA} {N:List NV} {D:List Dc} {s:Slt} {m:MS} {P:Program} {ov:Ov}
theorem wp_done60 (g:dD N D) (h:Mac σ X A T N D s m) (ok:okM N m) (e3:mI σ) (i:Nat) {x:NV} {q:Option Addr} (k:Nat) {vals:List Vl} {vq:Option Addr} (vc:Nat) (hv:aR σ (FX X A s) 7 (vlR σ (FX X A s)) vq vals) (e4:Emp σ (FX X A s) vq) (d9:lOK N m.cells.length vals) (h0:0<vals.length)
  (h1:x.x.k≠5→x.x.k≠15→x.x.k≠16→x.x.k≠17→x.x.k≠19→1<vals.length) (hb:m.cells.length≤1000000000) (hw:m.nw≤1000000000) (ho:m.out.length≤1000000000) (f0:m.calls.length≤1000000000):
  WpF aG ovD 60 [bP A,.int .i64 ((i:Nat):Int),.agg (nvC x q k).toArray,.slice vq vals.length vc] σ (QM σ X A T N D s (yC N m i x vals)):=by
 refine WpF.of (T60_eq _ _ _ _ _ _ _ _ _ _ _ _ _ _) rfl ?_
 rw [T60]
 refine aP fun σ1 a3 e2 a7=>?_
 generalize hB:σ.n=B at a7 e2
 have a7:St σ1 B (nvC x q k):=a7
 have a0:=h.frmN a3
 have b5:=VRow.frmN hv a3
 have c0:Emp σ1 (FX X A s) vq:=e4.step (S:=NoB) a3 (fun _ _ h=>h.elim) fun _ _ h=>h
 have b1:=a3.fr e3
 rw [aE a7 (i:=0) rfl]
 simp only [wpS]
 unfold yC
 have e0:vals.getD 0 cA=vals[0]:=by simp [List.getD,h0]
 have b0:vOK N m.cells.length vals[0]:=by have:=lP d9 0;rw [e0] at this;exact this
 have c6:=b5
 obtain ⟨xv,cs0,rfl,b9,d8,c9⟩:=b5 0 h0
 have hz:Cz σ1 (FX X A s) (aadd xv 0) 7 cs0:=⟨b9,d8,VlR.len c9⟩
 obtain ⟨q0,k0,p0,rfl,d5⟩:=dH.1 c9
 have a8:decide (0<((vals.length:Nat):Int))=true:=decide_eq_true (by omega)
 rw [aC]
 by_cases c7:x.x.k=7
 ·have b3:=h1 (by omega) (by omega) (by omega) (by omega) (by omega)
  obtain ⟨xv1,cs1,ex,a1,a6,a2⟩:=b5 1 b3
  cases ex
  have b4:Cz σ1 (FX X A s) (aadd xv 7) 7 cs1:=⟨a1,a6,VlR.len a2⟩
  obtain ⟨q1,k1,p1,rfl,d4⟩:=dH.1 a2
  have a4:decide (1<((vals.length:Nat):Int))=true:=decide_eq_true (by omega)
  rw [if_pos (by simpa using c7),if_pos c7,e0,show vals.getD 1 cA=vals[1] by simp [List.getD,b3]]
  simp only [bO]
  rw [aQ]
  refine ⟨a8,?_⟩
  rw [aY,hz.all]
  have key:=wp_call88 a0 i k0 k1 d5 d4 (fun hk=>vOK_fun b0 hk) g (by omega)
  unfold vC at key ⊢
  simp only [wpS]
  rw [aQ]
  refine ⟨a4,?_⟩
  rw [aY,b4.all]
  unfold vC
  simp only [wpS]
  rw [aD]
  refine WpF.mono key ?_
  intro v' σ9 hq
  obtain ⟨rfl,_⟩:=id hq
  simp only [wpS,T60k0,T60k1,T60k2,T60k3,T60k4,T60k5,T60k6]
  exact ⟨_,rfl,hq.up (Mov.ofN a3)⟩
 rw [if_neg (by simpa using c7),if_neg c7,aI,aC]
 by_cases c5:x.x.k=5
 ·rw [if_pos (by simpa using c5),if_pos c5,aE a7 (i:=2) rfl]
  simp only [wpS]
  have key:=eY a0 vc (v:=conV x.x.nm vals) (q:=some xv) (p:=none) ⟨c6,c0,tF.2 rfl⟩
  unfold vC at key
  rw [aD]
  refine WpF.mono key ?_
  intro v' σ9 hq
  obtain ⟨rfl,_⟩:=id hq
  simp only [wpS,T60k0,T60k1,T60k2,T60k3,T60k4,T60k5,T60k6]
  exact ⟨_,rfl,hq.up (Mov.ofN a3)⟩
 rw [if_neg (by simpa using c5),if_neg c5,aI,aC]
 by_cases c14:x.x.k=14
 ·have b3:=h1 (by omega) (by omega) (by omega) (by omega) (by omega)
  obtain ⟨xv1,cs1,ex,a1,a6,a2⟩:=b5 1 b3
  cases ex
  have b4:Cz σ1 (FX X A s) (aadd xv 7) 7 cs1:=⟨a1,a6,VlR.len a2⟩
  obtain ⟨q1,k1,p1,rfl,d4⟩:=dH.1 a2
  have a4:decide (1<((vals.length:Nat):Int))=true:=decide_eq_true (by omega)
  rw [if_pos (by simpa using c14),if_pos c14,e0,show vals.getD 1 cA=vals[1] by simp [List.getD,b3]]
  rw [bK,aE a7 (i:=2) rfl]
  simp only [wpS]
  rw [aQ]
  refine ⟨a8,?_⟩
  rw [dL hz (i:=1) rfl]
  simp only [wpS]
  rw [aQ]
  refine ⟨a4,?_⟩
  rw [dL b4 (i:=1) rfl]
  simp only [wpS]
  rw [bK,aQ]
  refine ⟨oL (Nat.le_refl _) b1 (fun _ h=>by cases h),?_⟩
  refine aP fun σ2 b7 e1 d3=>?_
  generalize hC:σ1.n=C at d3 e1
  rw [bK,aD]
  refine wp_op89 _ _ _ fun σ3 a9=>?_
  have c8:=fun v (hv:opV x.x.nm vals[0].n vals[1].n=some v)=>op_plain hv
  generalize opV x.x.nm vals[0].n vals[1].n=O at c8 ⊢
  unfold vC
  simp only [wpS]
  rw [bK,aQ]
  refine ⟨nO (a9.get C (by omega) fun h=>h),?_⟩
  refine bC (a9.stN d3) rfl rfl fun σ4 b6 e8 e5=>?_
  have a5:Frm σ1 σ4 NoB:=(b7.seq a9).fresh b6 fun j hj h=>by omega
  have h4:=a0.frmN a5
  have d7:=hz.frm a5
  have b8:=b4.frm a5
  have d6:Mov σ σ4 A s s:=Mov.ofN (a3.seq a5)
  rw [aI,aC]
  have stk:Wp aG ovD (T60k0 (some ⟨A,0,some 0⟩) ⟨C,0,some 0⟩ .normal [.bool true]) σ4 fun e vs σ'=>Wp aG ovD (T60k3 e vs) σ' fun e vs σ'=>Wp aG ovD (T60k4 e vs) σ' fun e vs σ'=>Wp aG ovD (T60k5 e vs) σ' fun e vs σ'=>Wp aG ovD (T60k6 e vs) σ' fun _ vs σ'=>∃ v,vs=[v]∧QM σ X A T N D s m.stuck v σ':=by
   unfold T60k0
   simp only [wpS]
   rw [aC,if_pos rfl,aD]
   have key:=fP h4
   refine WpF.mono key ?_
   intro v' σ9 hq
   obtain ⟨rfl,_⟩:=id hq
   simp only [wpS,T60k0,T60k1,T60k2,T60k3,T60k4,T60k5,T60k6]
   exact ⟨_,rfl,hq.up (d6)⟩
  cases O with
  |none=>
   rw [if_neg (by simp)]
   simp only [wpS]
   exact stk
  |some v=>
   obtain ⟨g1,g2⟩:=c8 v rfl
   rw [if_pos (by rfl),aQ]
   refine ⟨a8,?_⟩
   rw [dL d7 (i:=0) rfl]
   simp only [wpS]
   rw [aC]
   by_cases d0:vals[0].k=1
   case neg=>
    rw [if_neg (by simpa using d0),if_neg fun h=>d0 h.1]
    simp only [wpS]
    exact stk
   rw [if_pos (by simp [d0]),aQ]
   refine ⟨a4,?_⟩
   rw [dL b8 (i:=0) rfl]
   simp only [wpS]
   by_cases d1:vals[1].k=1
   case neg=>
    rw [if_neg fun h=>d1 h.2,show (vals[1].k !=1)=true by simpa using d1]
    exact stk
   rw [if_pos ⟨d0,d1⟩,show (vals[1].k !=1)=false by simp [d1]]
   unfold T60k0
   simp only [wpS]
   rw [aC,if_neg (by simp),aS e5 7 rfl]
   simp only [wpS]
   have key:=eY h4 0 (v:=v) (q:=none) (p:=none) (VlP.plain g1 g2)
   unfold vC at key
   rw [aD]
   refine WpF.mono key ?_
   intro v' σ9 hq
   obtain ⟨rfl,_⟩:=id hq
   simp only [wpS,T60k0,T60k1,T60k2,T60k3,T60k4,T60k5,T60k6]
   exact ⟨_,rfl,hq.up (d6)⟩
 rw [if_neg (by simpa using c14),if_neg c14,aI,aC]
 by_cases c17:x.x.k=17
 ·rw [if_pos (by simpa using c17),if_pos c17,e0]
  simp only [bO]
  rw [aQ]
  refine ⟨a8,?_⟩
  rw [dL hz (i:=0) rfl]
  simp only [wpS]
  rw [aC]
  by_cases d0:vals[0].k=1
  case neg=>
   rw [if_pos (by simpa using d0),if_neg d0,aD]
   have key:=fP a0
   refine WpF.mono key ?_
   intro v' σ9 hq
   obtain ⟨rfl,_⟩:=id hq
   simp only [wpS,T60k0,T60k1,T60k2,T60k3,T60k4,T60k5,T60k6]
   exact ⟨_,rfl,hq.up (Mov.ofN a3)⟩
  rw [if_neg (by simp [d0]),if_pos d0,aE a0.st (i:=4) rfl]
  simp only [wpS]
  rw [aQ]
  refine ⟨a8,?_⟩
  rw [dL hz (i:=1) rfl]
  simp only [wpS]
  refine qE (len:=m.out.length) a0.out (by simp) (by decide) (by decide) rfl (by intro y hy;simp at hy;subst hy;rfl) (by omega) (by omega) (fun τ f=>bU ((Kp.st a0.st (i:=4) rfl).frm f) rfl) fun σ2 b2 off2 sp2 cap2 b7 c3 e6=>?_
  refine bB (i:=4) (b7.st a0.st fun hs=>(a0.xo hs.1).2 hs.2.symm) (by simp [eV]) rfl fun σ3 a9 e9 d2=>?_
  have c4:Frm σ1 σ3 (fun j=>j=A∨(s.po≠none∧j=s.ro)):=b7.trans a9 (fun _ _ h=>.inr h) (fun _ _ h=>.inl h)
  have c1:¬ b2=A:=by
   rcases c3 with ⟨hp,e⟩|c3
   ·rw [e];exact (a0.xo hp).2
   ·have:=a0.st.1;omega
  obtain ⟨s3,h3,e7⟩:∃ s3,Mac σ3 X A T N D s3 { m with out:=m.out++[vals[0].n] }∧Mov σ1 σ3 A s s3:=⟨_,a0.newO c4 c3 (a9.row e6 c1) (by
   rw [show m.out.length+1=(m.out++[vals[0].n]).length by simp] at d2
   exact d2)⟩
  rw [aD]
  refine vB fun σ4 b6=>?_
  have h4:=h3.frmN b6
  have key:=eY h4 0 (v:=nH) (q:=none) (p:=none) (VlP.plain rfl rfl)
  unfold vC at key ⊢
  simp only [wpS]
  rw [aD]
  refine WpF.mono key ?_
  intro v' σ9 hq
  obtain ⟨rfl,_⟩:=id hq
  simp only [wpS,T60k0,T60k1,T60k2,T60k3,T60k4,T60k5,T60k6]
  exact ⟨_,rfl,hq.up (((Mov.ofN a3).trans e7).trans (Mov.ofN b6))⟩
 rw [if_neg (by simpa using c17),if_neg c17,aI,aC]
 by_cases c19:x.x.k=19
 ·rw [if_pos (by simpa using c19),if_pos c19,e0]
  simp only [bO]
  rw [aQ]
  refine ⟨a8,?_⟩
  rw [aY,hz.all]
  have key:=wp_raise90 g a0 ok k0 d5
  unfold vC at key ⊢
  simp only [wpS]
  rw [aD]
  refine WpF.mono key ?_
  intro v' σ9 hq
  obtain ⟨rfl,_⟩:=id hq
  simp only [wpS,T60k0,T60k1,T60k2,T60k3,T60k4,T60k5,T60k6]
  exact ⟨_,rfl,hq.up (Mov.ofN a3)⟩
 rw [if_neg (by simpa using c19),if_neg c19,aS a7 7 rfl]
 have key:=wp_cell91 a0 b1 (x:=x) (q:=q) (k:=k) vc c6 h0 (fun a b=>h1 c5 a b c17 c19) (by rw [e0];exact fun hk=>vOK_cell b0 hk) hb hw
 unfold nvC at key ⊢
 simp only [wpS]
 rw [aD]
 refine WpF.mono key ?_
 intro v' σ9 hq
 obtain ⟨rfl,_⟩:=id hq
 simp only [wpS,T60k0,T60k1,T60k2,T60k3,T60k4,T60k5,T60k6]
 exact ⟨_,rfl,hq.up (Mov.ofN a3)⟩
end
end Go.Pg
namespace Go.Pg
open Go.Proofs Go.Utf8 Go.Lib
set_option linter.unusedSimpArgs false
section
variable {σ σ':aB} {X Y:Nat→Prop} {A:Nat} {T:TrA} {N:List NV} {D:List Dc} {s:Slt} {m:MS} {P:Program} {ov:Ov}
theorem one7 {cs:List Value} {v:Vl} (h:VlR σ Y v cs):∀ y∈cs,one y=true:=by
 obtain ⟨q,c,p,rfl,_⟩:=dH.1 h
 exact zv v q c p
theorem VRow.whole {a:Addr} {l:List Vl} (h:aR σ Y 7 (vlR σ Y) (some a) l) (he:Emp σ Y (some a)):∃ css:List (List Value),css.length=l.length∧σ.rdN a (l.length*7)=some css.flatten∧∀ i (h1:i<css.length) (h2:i<l.length),VlR σ Y l[i] css[i]:=by
 have:∀ m,m≤l.length→∃ css:List (List Value),css.length=m∧σ.rdN a (m*7)=some css.flatten∧∀ i (h1:i<css.length) (h2:i<l.length),VlR σ Y l[i] css[i]:=by
  intro m
  induction m with
  |zero=>exact fun _=>⟨[],rfl,by simpa using (he a rfl).2,fun i h=>by cases h⟩
  |succ m ih=>
   intro hm
   obtain ⟨css,h1,h2,h3⟩:=ih (by omega)
   obtain ⟨x,cs,hx,_,h4,h5⟩:=h m hm
   cases hx
   refine ⟨css++[cs],by simp [h1],?_,fun i hi a0=>?_⟩
   ·rw [Nat.add_mul,Nat.one_mul,rdN_join h2 h4,List.flatten_append]
    simp
   ·by_cases hl:i<m
    ·have g:(css++[cs])[i]=css[i]'(by omega):=List.getElem_append_left (by omega)
     rw [g]
     exact h3 i _ _
    ·have:i=m:=by simp at hi;omega
     subst this
     have g:(css++[cs])[i]=cs:=by simp [←h1]
     rw [g]
     exact h5
 exact this _ (Nat.le_refl _)
theorem flat7 {css:List (List Value)} {l:List Vl} (hl:css.length=l.length) (h:∀ i (h1:i<css.length) (h2:i<l.length),VlR σ Y l[i] css[i]):(∀ cs∈css,cs.length=7)∧(∀ y∈css.flatten,one y=true):=by
 refine ⟨fun cs hc=>?_,fun y hy=>?_⟩
 ·obtain ⟨i,hi,rfl⟩:=List.getElem_of_mem hc
  exact (h i hi (by omega)).len
 ·obtain ⟨cs,hc,hy⟩:=List.mem_flatten.1 hy
  obtain ⟨i,hi,rfl⟩:=List.getElem_of_mem hc
  exact one7 (h i hi (by omega)) y hy
theorem wp_clone36 {p:Option Addr} {l:List Vl} {c:Nat} (h:aR σ Y 7 (vlR σ Y) p l) (he:Emp σ Y p) (hl:l.length≤1000000000) {Q:Value→aB→Prop}
  (hQ:∀ (σ':aB) (p':Option Addr) (c':Nat) (css:List (List Value)),Frm σ σ' NoB→SlE σ' σ.n p' c' 7 css.flatten→css.length=l.length→(∀ i (h1:i<css.length) (h2:i<l.length),VlR σ Y l[i] css[i])→Q (.slice p' l.length c') σ'):WpF aG ovD 36 [.slice p l.length c] σ Q:=by
 refine WpF.of (T36_eq _ _ _) rfl ?_
 rw [T36,aC]
 cases p with
 |none=>
  rw [if_pos (by rfl)]
  have a0:l=[]:=by
   cases l with
   |nil=>rfl
   |cons v l=>
    obtain ⟨x,cs,hx,_⟩:=h 0 (by simp)
    cases hx
  subst a0
  simp only [wpS]
  exact ⟨_,rfl,hQ σ none 0 [] (Frm.refl _ _) (.inl ⟨rfl,rfl,rfl⟩) rfl fun i h=>by cases h⟩
 |some a=>
  rw [if_neg (by simp),aY,cT]
  simp only [wpS]
  obtain ⟨css,h1,h2,h3⟩:=VRow.whole h he
  obtain ⟨g1,g2⟩:=flat7 h1 h3
  have hF:=Frm.new σ [] 7 NoB
  have hN:=Row.new σ 7 [] 0 (by decide) rfl (fun _ h=>by cases h)
  have h4:(σ.newBlk [] 7).rdN a (l.length*7)=some css.flatten:=by
   by_cases h0:l.length=0
   ·obtain ⟨e1,e2⟩:=he.step (S:=NoB) hF (fun _ _ h=>h.elim) (fun _ _ h=>h) a rfl
    have:css=[]:=List.eq_nil_of_length_eq_zero (by omega)
    rw [h0,this,Nat.zero_mul]
    exact e2
   ·obtain ⟨x,cs,hx,hv,_⟩:=h 0 (by omega)
    cases hx
    have:=gN (k:=0) (n:=l.length*7) hF hv fun _ _ h=>h.elim
    rw [show aadd a 0=a from rfl] at this
    rw [this]
    exact h2
  rw [aY,jU h4]
  by_cases h0:l.length=0
  ·have hc:css=[]:=List.eq_nil_of_length_eq_zero (by omega)
   subst hc
   rw [h0,List.flatten_nil,jW (Nat.le_refl _)]
   simp only [wpS]
   have:=hQ (σ.newBlk [] 7) (some ⟨σ.n,0,some 7⟩) 0 [] hF (.inr ⟨0,7,rfl,hN⟩) h1 h3
   rw [h0] at this
   exact ⟨_,rfl,this⟩
  ·obtain ⟨σ1,s1,c1,e1,e2,e3,e4,e5⟩:=hN.append (byt:=80) (len:=0) (n:=l.length) (ys:=css.flatten) rfl (by rw [fB g1,h1]) (by decide) (by omega) g2 (by omega) (by omega)
   rw [e1]
   simp only [wpS]
   have a1:Frm σ σ1 NoB:=hF.fresh (Frm.of1 (by rw [gT];omega) e2 e3 e4) fun j hj h=>by omega
   have:=hQ σ1 (some ⟨σ.n,0,some s1⟩) c1 css a1 (.inr ⟨0,s1,rfl,e5⟩) h1 h3
   rw [Nat.zero_add]
   exact ⟨_,rfl,this⟩
theorem app_ex2 {b cap len byt esz c2:Nat} {p:Option Addr} {a2:Addr} {xs ys:List Value} (h:SlE σ b p cap esz xs) (hs:σ.rdN a2 (1*esz)=some ys) (a0:xs.length=len*esz) (h0:1≤esz) (he:esz<64) (hy:ys.length=esz) (a1:∀ y∈ys,one y=true)
  (hb:2*(len+1)*byt≤281474976710656) (a4:len+1≤4611686018427387904):
  ∃ σ' b' off s cap',apS esz byt p len cap (some a2) 1 c2 σ=some (.slice (some ⟨b',off,some s⟩) (len+1) cap',σ')∧Frm σ σ' (fun j=>p≠none∧j=b)∧((p≠none∧b'=b)∨σ.n≤b')∧Row σ' b' off s cap' esz (xs++ys):=by
 rw [jU hs]
 rcases h with ⟨rfl,rfl,rfl⟩|⟨off,s,rfl,h⟩
 ·have a3:len=0:=by
   simp only [List.length_nil] at a0
   rcases Nat.mul_eq_zero.1 a0.symm with h|h
   ·exact h
   ·omega
  subst a3
  exact ⟨_,_,_,_,_,lU he (by decide) (by omega) a1 (by simpa using hb) (by decide),Frm.new _ _ _ _,.inr (Nat.le_refl _),Row.new σ esz ys 1 he (by omega) a1⟩
 ·obtain ⟨σ',s',cap',e1,e2,e3,e4,e5⟩:=h.append (byt:=byt) (len:=len) (n:=1) (ys:=ys) a0 (by omega) h0 (by decide) a1 hb a4
  exact ⟨σ',b,off,s',cap',e1,(Frm.of1 h.lt e2 e3 e4).mono fun j _ h=>⟨by simp,h⟩,.inl ⟨by simp,rfl⟩,e5⟩
end
end Go.Pg
namespace Go.Pg
open Go.Proofs Go.Utf8 Go.Lib
set_option linter.unusedSimpArgs false
section
variable {σ σ':aB} {X Y:Nat→Prop} {A:Nat} {T:TrA} {N:List NV} {D:List Dc} {s:Slt} {m:MS} {P:Program} {ov:Ov}
theorem dD.two (g:dD N D) {i:Nat} (hi:i<N.length) (hp:¬ 20<N[i].x.k) (h0:0<N[i].kids.length) (h5:N[i].x.k≠5) (h6:N[i].x.k≠6) (a4:N[i].x.k≠11) (a3:N[i].x.k≠15) (a2:N[i].x.k≠16) (a1:N[i].x.k≠17) (a0:N[i].x.k≠19):2≤N[i].kids.length:=by
 have hs:=(g.node i hi).shape
 unfold bR at hs
 simp only [Bool.and_eq_true,decide_eq_true_eq] at hs
 have h1:=hs.1.1.1.1.1
 have:N[i].x.k=1∨N[i].x.k=2∨N[i].x.k=3∨N[i].x.k=4∨N[i].x.k=18∨N[i].x.k=7∨N[i].x.k=8∨N[i].x.k=9∨N[i].x.k=10∨N[i].x.k=12∨N[i].x.k=13∨N[i].x.k=14∨N[i].x.k=20:=by omega
 rcases this with h|h|h|h|h|h|h|h|h|h|h|h|h
 ·have:=g.kidsOf hi 1 0 h rfl;omega
 ·have:=g.kidsOf hi 2 0 h rfl;omega
 ·have:=g.kidsOf hi 3 0 h rfl;omega
 ·have:=g.kidsOf hi 4 0 h rfl;omega
 ·have:=g.kidsOf hi 18 0 h rfl;omega
 ·have:=g.kidsOf hi 7 2 h rfl;omega
 ·have:=g.kidsOf hi 8 2 h rfl;omega
 ·have:=g.kidsOf hi 9 2 h rfl;omega
 ·have:=g.kidsOf hi 10 3 h rfl;omega
 ·have:=g.kidsOf hi 12 2 h rfl;omega
 ·have:=g.kidsOf hi 13 2 h rfl;omega
 ·have:=g.kidsOf hi 14 2 h rfl;omega
 ·have:=g.kidsOf hi 20 2 h rfl;omega
structure Few (m:MS):Prop where
 cells:m.cells.length≤1000000000
 nw:m.nw≤1000000000
 out:m.out.length≤1000000000
 calls:m.calls.length≤1000000000
 read:m.read≤m.inp.length
 inp:m.inp.length≤1000000
theorem eT (g:dD N D) (h:Mac σ X A T N D s m) (ok:okM N m) (k1:mI σ) (few:Few m) {v:Vl} {vq vp:Option Addr} (vc:Nat) (hv:VlP σ (FX X A s) v vq vp) (i6:vOK N m.cells.length v):
  WpF aG ovD 39 [bP A,.agg (vC v vq vc vp).toArray] σ (QM σ X A T N D s (eO N m v)):=by
 refine WpF.of (T39_eq _ _ _ _ _ _ _ _ _ _) rfl ?_
 rw [T39]
 refine aP fun σ1 c6 j4 b5=>?_
 generalize hB:σ.n=B at b5 j4
 have b5:St σ1 B (vC v vq vc vp):=b5
 have h1:=h.frmN c6
 have f2:=hv.frmN c6
 simp only [wpS]
 rw [aE h1.st (i:=21) rfl]
 simp only [wpS]
 rw [aC]
 have hA:¬ B=A:=fun e=>by have:=h.st.1;omega
 have d0:WtR σ1 (FX X A s) m.k s.pk:=h1.k
 unfold eO
 cases hk:m.k with
 |nil=>
  rw [hk] at d0
  have e2:s.pk=none:=d0
  rw [if_pos (by rw [e2];rfl),aS b5 7 rfl]
  unfold vC
  simp only [wpS]
  refine bB (i:=9) h1.st (by simp [eV]) rfl fun σ2 b3 j3 d1=>?_
  rw [bK,aQ]
  refine ⟨jN ((b3.st b5 hA).ldAll 7 rfl) rfl,?_⟩
  refine wp_stKQ (i:=12) d1 (by simp [eV]) rfl fun σ3 a6 b7 e4=>?_
  simp only [wpS]
  have hF:=b3.seq a6
  refine ⟨_,rfl,rfl,{ s with vq:=vq,vc:=vc,vp:=vp },?_,(Mov.ofN c6).trans (Mov.ofA hF rfl)⟩
  exact h1.upd hF e4 (by constructor<;>rfl) f2 h1.env e2 h1.calls
 |cons w r=>
  rw [hk] at d0
  obtain ⟨x,pe,q,c,pc,pu,e2,i2,i1,i0,g9,g8,g7,f0⟩:=d0
  have e9:Cz σ1 (FX X A s) x 5 [.int .i64 (atI w.at_),.pointer pe,.slice q w.vals.length c,.pointer pc,.pointer pu]:=⟨i2,i1,rfl⟩
  have f1:=ok.k w (by rw [hk];simp)
  rw [e2,if_neg (by simp)]
  simp only [wpS]
  rw [dL e9 (i:=4) rfl]
  simp only [wpS]
  refine bB (i:=21) h1.st (by simp [eV]) rfl fun σ2 b3 j3 d1=>?_
  obtain ⟨s2,h2,b1⟩:∃ s2,Mac σ2 X A T N D s2 { m with k:=r }∧Mov σ1 σ2 A s s2:=⟨{ s with pk:=pu },h1.upd b3 d1 (by constructor<;>rfl) h1.v h1.env f0 h1.calls,Mov.ofA b3 rfl⟩
  have c1:Mov σ σ2 A s s2:=(Mov.ofN c6).trans b1
  have d4:=b3.st b5 hA
  have c7:Cz σ2 (FX X A s2) x 5 [.int .i64 (atI w.at_),.pointer pe,.slice q w.vals.length c,.pointer pc,.pointer pu]:=e9.mov b1
  have d7:VlP σ2 (FX X A s2) v vq vp:=f2.mov b1
  have k5:EnR σ2 (FX X A s2) w.env pe:=i0.mov b1
  have j0:aR σ2 (FX X A s2) 7 (vlR σ2 (FX X A s2)) q w.vals:=VRow.mov g9 b1
  have j5:Emp σ2 (FX X A s2) q:=g8.step b1.frm (fun _ _ h=>.inr h) b1.fx
  have f5:LkR σ2 (FX X A s2) w.calls pc:=g7.mov b1
  have i4:WtR σ2 (FX X A s2) r pu:=f0.mov b1
  clear d1
  rw [dL c7 (i:=0) rfl]
  simp only [wpS]
  rw [aC]
  cases ha:w.at_ with
  |none=>
   rw [if_pos (by simp [atI]),dL c7 (i:=3) rfl]
   simp only [wpS]
   refine bB (i:=22) h2.st (by simp [eV]) rfl fun σ3 a6 b7 e4=>?_
   obtain ⟨s3,h3,g4⟩:∃ s3,Mac σ3 X A T N D s3 { m with k:=r,calls:=w.calls }∧Mov σ2 σ3 A s2 s3:=⟨{ s2 with pl:=pc },h2.upd a6 e4 (by constructor<;>rfl) h2.v h2.env h2.k f5,Mov.ofA a6 rfl⟩
   have i8:=d7.mov g4
   rw [aS (a6.st d4 hA) 7 rfl]
   have key:=eY h3 vc i8
   unfold vC at key ⊢
   simp only [wpS]
   rw [aD]
   refine WpF.mono key ?_
   intro v' σ9 hq
   obtain ⟨rfl,_⟩:=id hq
   simp only [wpS]
   exact ⟨_,rfl,hq.up (c1.trans g4)⟩
  |some i=>
   rw [if_neg (by rw [decide_eq_true_eq];show ¬ ((i:Nat):Int)<0;omega)]
   obtain ⟨a9,d9,j6,f4⟩:=f1.2.2 i ha
   have l7:w.vals.length≤1000000:=by have:=h.tree.kl _ (List.getElem_mem a9);omega
   have b8:mI σ2:=b3.fr (c6.fr k1)
   rw [bK,dL c7 (i:=2) rfl]
   simp only [wpS]
   rw [aS d4 7 rfl]
   have i3:VlR σ2 (FX X A s2) v (vC v vq vc vp):=dH.2 ⟨vq,vc,vp,rfl,d7⟩
   unfold vC
   simp only [wpS]
   rw [bK,aQ]
   refine ⟨oL (Nat.le_refl _) b8 (fun _ h=>by cases h),?_⟩
   rw [aY,cT]
   simp only [wpS]
   have a6:=Frm.new σ2 (vC v vq vc vp) 7 NoB
   have b9:=Row.new σ2 7 (vC v vq vc vp) 1 (by decide) rfl (zv v vq vc vp)
   have b7:=gT σ2 (vC v vq vc vp) 7
   unfold vC at a6 b9 b7
   generalize σ2.newBlk _ 7=σ3 at a6 b9 b7 ⊢
   generalize hC:σ2.n=C at b9 b7 ⊢
   rw [bK,aD]
   refine wp_clone36 (Y:=FX X A s2) (VRow.frmN j0 a6) (j5.step (S:=NoB) a6 (fun _ _ h=>h.elim) fun _ _ h=>h) (by omega) fun σ4 p4 c4 css c3 g3 c9 b2=>?_
   have e8:=a6.seq c3
   simp only [wpS]
   rw [bK,aQ]
   refine ⟨jN ((e8.stN d4).ldAll 7 rfl) rfl,?_⟩
   rw [bK,aQ]
   refine ⟨nO (c3.get C (by omega) fun h=>h),?_⟩
   obtain ⟨g1,g2⟩:=flat7 c9 b2
   have f8:=c3.rowN b9
   have b6:σ4.rdN ⟨C,0,some 7⟩ (1*7)=some (vC v vq vc vp):=by
    have:=f8.rdN (i:=0) (k:=1*7) (Nat.le_refl _)
    exact this
   obtain ⟨σ5,b',off,sp,cap',ea,g5,f6,e5⟩:=app_ex2 (byt:=80) (c2:=1) (len:=w.vals.length) g3 b6 (by rw [fB g1,c9]) (by decide) (by decide) rfl (zv v vq vc vp) (by omega) (by omega)
   have c5:Frm σ3 σ5 NoB:=c3.fresh g5 fun j hj h=>by omega
   have a1:=a6.seq c5
   have k9:σ2.n≤b':=by
    rcases f6 with ⟨_,e⟩|e
    ·omega
    ·have:=c3.n;omega
   have f7:∀ τ:aB,¬ FX X A s2 b':=fun _ hX=>by have:=h2.fn _ hX;omega
   have l1:aR σ5 (FX X A s2) 7 (vlR σ5 (FX X A s2)) (some ⟨b',off,some sp⟩) (w.vals++[v]):=by
    refine aR.own (css:=css++[vC v vq vc vp]) (by rw [List.flatten_append];simpa using e5) (f7 σ5) (by simp [c9]) (fun cs hc=>?_) fun j hj k0=>?_
    ·rcases List.mem_append.1 hc with hc|hc
     ·exact g1 _ hc
     ·rw [List.mem_singleton.1 hc];try rfl
    ·by_cases hl:j<w.vals.length
     ·have e1:(css++[vC v vq vc vp])[j]=css[j]'(by omega):=List.getElem_append_left (by omega)
      have e2:(w.vals++[v])[j]=w.vals[j]:=List.getElem_append_left hl
      rw [e1,e2]
      exact jL (S:=NoB) c5 (fun _ _ h=>h.elim) (fun _ _ h=>h) _ _ (b2 j _ hl)
     ·have:j=w.vals.length:=by simp at k0;omega
      subst this
      have e1:(css++[vC v vq vc vp])[w.vals.length]=vC v vq vc vp:=by simp [←c9]
      have e2:(w.vals++[v])[w.vals.length]=v:=by simp
      rw [e1,e2]
      exact jL (S:=NoB) a1 (fun _ _ h=>h.elim) (fun _ _ h=>h) _ _ i3
   have l5:Emp σ5 (FX X A s2) (some ⟨b',off,some sp⟩):=e5.emp (f7 σ5)
   rw [aY,ea]
   simp only [wpS]
   have h5:=h2.frmN a1
   have d5:=c7.frm a1
   have l6:=a1.stN d4
   have i7:=d7.frmN a1
   have k4:=k5.frmN a1
   have k7:LkR σ5 (FX X A s2) w.calls pc:=iQ (S:=NoB) a1 (fun _ _ h=>h.elim) (fun _ _ h=>h) f5
   have e6:Mov σ σ5 A s s2:=c1.trans (Mov.ofN a1)
   have e3:=a1.fr b8
   clear e5 ea f6 g5 g3 f8 b9 b6 b2
   rw [cG,aE h5.st (i:=0) rfl]
   simp only [wpS]
   rw [dL d5 (i:=0) rfl]
   have j7:Kp σ5 (aadd x 0) (.int .i64 ((i:Nat):Int)):=d5.kp (i:=0) (by rw [ha];rfl)
   rw [ha]
   unfold atI
   simp only [wpS]
   refine uD h5.tree.tree.nodes a9 rfl fun xn cs a7 f3=>?_
   unfold uW
   rw [iT a9]
   have k8:=fun hk=>g.kidsOf a9 8 2 hk rfl
   have k10:=fun hk=>g.kidsOf a9 10 3 hk rfl
   have k11:=fun hk=>g.matchOdd a9 hk
   have k12:=fun hk=>g.kidsOf a9 12 2 hk rfl
   have k2:=fun a b c d e f=>g.two a9 d9 (by omega) a f4 b c d e f
   have kN:=fun j hj=>(g.kid (i:=i) (j:=j) a9 hj).2
   have kl:=h.tree.kl _ (List.getElem_mem a9)
   generalize N[i]=nv at a7 f3 j6 f4 k8 k10 k11 k12 k2 kN kl ⊢
   obtain ⟨xq,xk,rfl,d8,_⟩:=a7
   simp only [wpS]
   refine aP fun σ6 d2 j2 f9=>?_
   generalize hE:σ5.n=E at f9 j2
   rw [bK,aQ]
   refine ⟨jN (f3 σ6 d2) (bU (j7.frm d2) (bU ((Kp.st h5.st (i:=0) rfl).frm d2) rfl)),?_⟩
   refine bC f9 rfl rfl fun σ7 l3 l9 a5=>?_
   have a0:Frm σ5 σ7 NoB:=d2.fresh l3 fun j hj h=>by omega
   have a5:St σ7 E (nvC nv xq xk):=a5
   have h7:=h5.frmN a0
   have a8:=d5.frm a0
   have d3:=a0.stN l6
   have d6:=i7.frmN a0
   have b4:=k4.frmN a0
   have k6:LkR σ7 (FX X A s2) w.calls pc:=iQ (S:=NoB) a0 (fun _ _ h=>h.elim) (fun _ _ h=>h) k7
   have g0:=VRow.frmN l1 a0
   have g6:Emp σ7 (FX X A s2) (some ⟨b',off,some sp⟩):=l5.step (S:=NoB) a0 (fun _ _ h=>h.elim) fun _ _ h=>h
   have a3:Mov σ σ7 A s s2:=e6.trans (Mov.ofN a0)
   have e0:=a0.fr e3
   have a2:=d8.later a0
   rw [aE a5 (i:=0) rfl]
   simp only [wpS]
   rw [aC]
   by_cases c8:nv.x.k=8
   ·have kk:=k8 c8
    rw [if_pos (by simpa using c8),if_pos c8,aE a5 (i:=4) rfl]
    simp only [wpS]
    refine pX a2 (i:=1) (o:=0) rfl (by omega) rfl (by decide) rfl fun y cs a7=>?_
    unfold kO at a7
    subst a7
    refine ⟨_,rfl,fun j8=>?_⟩
    simp only [wpS]
    rw [aE a5 (i:=2) rfl]
    simp only [wpS]
    rw [aS d3 7 rfl]
    unfold vC
    simp only [wpS]
    rw [dL a8 (i:=1) rfl]
    simp only [wpS]
    refine aP fun σ8 a4 j1 c0=>?_
    rw [bK,aQ]
    refine ⟨bU (j8.frm a4) (bU ((Kp.st a5 (i:=4) rfl).frm a4) rfl),?_⟩
    have h8:=h7.frmN a4
    have nX8:¬ FX X A s2 σ7.n:=fun hX=>by have:=h7.fn _ hX;omega
    have k3:EnR σ8 (FX X A s2) (.cons nv.x.nm v w.env) (some ⟨σ7.n,0,some 0⟩):=qJ (cs:=vC v vq vc vp) (pu:=pe) c0 nX8 (dH.2 ⟨_,_,_,rfl,d6.frmN a4⟩) (b4.frmN a4)
    have ek:gC nv 1=nv.kids[1]:=by unfold gC;simp [List.getD,show 1<nv.kids.length by omega]
    rw [aD,ek]
    have key:=fI (i:=nv.kids[1]) h8 k3
    refine WpF.mono key ?_
    intro v' σ9 hq
    obtain ⟨rfl,_⟩:=id hq
    simp only [wpS,T39k0]
    exact ⟨_,rfl,hq.up (a3.trans (Mov.ofN a4))⟩
   rw [if_neg (by simpa using c8),if_neg c8,aC]
   by_cases c10:nv.x.k=10
   ·rw [if_pos (by simpa using c10),if_pos c10,aS a5 7 rfl]
    have key:=wp_branch58 (k:=xk) h7 a2 (k10 c10) a8 b4 v vq vp vc
    unfold nvC vC at*
    simp only [wpS]
    rw [aS d3 7 rfl]
    simp only [wpS]
    rw [aD]
    refine WpF.mono key ?_
    intro v' σ9 hq
    obtain ⟨rfl,_⟩:=id hq
    simp only [wpS,T39k0]
    exact ⟨_,rfl,hq.up (a3)⟩
   rw [if_neg (by simpa using c10),if_neg c10,aC]
   by_cases c11:nv.x.k=11
   ·rw [if_pos (by simpa using c11),if_pos c11,aS a5 7 rfl]
    have key:=wp_match59 (k:=xk) g h7 a2 (k11 c11).1 kl kN a8 b4 vc d6
    unfold nvC vC at*
    simp only [wpS]
    rw [aS d3 7 rfl]
    simp only [wpS]
    rw [aD]
    refine WpF.mono key ?_
    intro v' σ9 hq
    obtain ⟨rfl,_⟩:=id hq
    simp only [wpS,T39k0]
    exact ⟨_,rfl,hq.up (a3)⟩
   rw [if_neg (by simpa using c11),if_neg c11,aC]
   by_cases c12:nv.x.k=12
   ·have kk:=k12 c12
    rw [if_pos (by simpa using c12),if_pos c12,aE a5 (i:=4) rfl]
    simp only [wpS]
    refine mS a2 (i:=1) (o:=0) rfl (by omega) rfl (by decide) rfl fun cs a7=>?_
    unfold kO at a7
    subst a7
    refine ⟨_,rfl,?_⟩
    simp only [wpS]
    rw [dL a8 (i:=1) rfl]
    simp only [wpS]
    have ek:gC nv 1=nv.kids[1]:=by unfold gC;simp [List.getD,show 1<nv.kids.length by omega]
    rw [aD,ek]
    have key:=fI (i:=nv.kids[1]) h7 b4
    refine WpF.mono key ?_
    intro v' σ9 hq
    obtain ⟨rfl,_⟩:=id hq
    simp only [wpS,T39k0]
    exact ⟨_,rfl,hq.up (a3)⟩
   rw [if_neg (by simpa using c12),if_neg c12,aC]
   by_cases c20:nv.x.k=20
   ·rw [if_pos (by simpa using c20),if_pos c20,aS d3 7 rfl]
    have key:=eY h7 vc d6
    unfold vC at*
    simp only [wpS]
    rw [aD]
    refine WpF.mono key ?_
    intro v' σ9 hq
    obtain ⟨rfl,_⟩:=id hq
    simp only [wpS,T39k0]
    exact ⟨_,rfl,hq.up (a3)⟩
   rw [if_neg (by simpa using c20),if_neg c20]
   simp only [wpS,T39k0]
   rw [aE a5 (i:=4) rfl]
   simp only [wpS]
   rw [aC]
   have elen:(w.vals++[v]).length=w.vals.length+1:=by simp
   by_cases cl:w.vals.length+1<nv.kids.length
   ·rw [if_pos (by simp;omega),if_pos cl,dL a8 (i:=0) rfl]
    simp only [wpS]
    rw [dL a8 (i:=1) rfl]
    simp only [wpS]
    rw [dL a8 (i:=3) rfl]
    simp only [wpS]
    rw [dL a8 (i:=4) rfl]
    simp only [wpS]
    rw [ha]
    refine aP fun σ8 a4 j1 c0=>?_
    have c0:St σ8 σ7.n [.int .i64 (atI (some i)),.pointer pe,.slice (some ⟨b',off,some sp⟩) (w.vals++[v]).length cap',.pointer pc,.pointer pu]:=by rw [elen];exact c0
    have h8:=h7.frmN a4
    have nX8:¬ FX X A s2 σ7.n:=fun hX=>by have:=h7.fn _ hX;omega
    have i9:WtR σ8 (FX X A s2) r pu:=mR (S:=NoB) ((a1.seq a0).seq a4) (fun _ _ h=>h.elim) (fun _ _ h=>h) i4
    have j9:WtR σ8 (FX X A s2) (⟨some i,w.env,w.vals++[v],w.calls⟩::r) (some ⟨σ7.n,0,some 0⟩):=qe (w:=⟨some i,w.env,w.vals++[v],w.calls⟩) c0 nX8 (b4.frmN a4) (VRow.frmN g0 a4) (g6.step (S:=NoB) a4 (fun _ _ h=>h.elim) fun _ _ h=>h) (iQ (S:=NoB) a4 (fun _ _ h=>h.elim) (fun _ _ h=>h) k6) i9
    refine bB (i:=21) h8.st (by simp [eV]) rfl fun σ9 e7 l8 l0=>?_
    obtain ⟨s9,h9,l2⟩:∃ s9,Mac σ9 X A T N D s9 { m with k:=⟨some i,w.env,w.vals++[v],w.calls⟩::r }∧Mov σ8 σ9 A s2 s9:=⟨{ s2 with pk:=some ⟨σ7.n,0,some 0⟩ },h8.upd e7 l0 (by constructor<;>rfl) h8.v h8.env j9 h8.calls,Mov.ofA e7 rfl⟩
    have b0:Mov σ7 σ9 A s2 s9:=(Mov.ofN a4).trans l2
    have l4:¬ E=A:=fun e=>by have:=h5.st.1;omega
    rw [aE (e7.st (a4.stN a5) l4) (i:=4) rfl]
    simp only [wpS]
    refine mS (natRow.mov a2 b0) (i:=w.vals.length+1) (o:=0) rfl (by omega) rfl (by decide) rfl fun cs a7=>?_
    unfold kO at a7
    subst a7
    refine ⟨_,rfl,?_⟩
    simp only [wpS]
    rw [dL (a8.mov b0) (i:=1) rfl]
    simp only [wpS]
    have ek:gC nv (w.vals.length+1)=nv.kids[w.vals.length+1]:=by unfold gC;simp [List.getD,show w.vals.length+1<nv.kids.length by omega]
    rw [aD,ek]
    have key:=fI (i:=nv.kids[w.vals.length+1]) h9 (b4.mov b0)
    refine WpF.mono key ?_
    intro v' σ10 hq
    obtain ⟨rfl,_⟩:=id hq
    simp only [wpS,T39k0]
    exact ⟨_,rfl,hq.up (a3.trans b0)⟩
   ·rw [if_neg (by simp;omega),if_neg cl,dL a8 (i:=0) rfl]
    simp only [wpS]
    rw [ha,aS a5 7 rfl]
    have okr:okM N { m with k:=r }:=⟨ok.at_,ok.env,ok.v,ok.cells,fun w' i5=>ok.k w' (by rw [hk];simp [i5])⟩
    have key:=wp_done60 g h7 okr e0 i (x:=nv) (q:=xq) xk (vals:=w.vals++[v]) (vq:=some ⟨b',off,some sp⟩) cap' g0 g6 (xJ f1.2.1 (xO i6)) (by rw [elen];omega) (fun a b c d e=>by have:=k2 a c11 b c d e;rw [elen];omega) few.cells few.nw few.out few.calls
    rw [elen] at key
    unfold nvC at key ⊢
    unfold atI
    simp only [wpS]
    rw [aD]
    refine WpF.mono key ?_
    intro v' σ10 hq
    obtain ⟨rfl,_⟩:=id hq
    simp only [wpS,T39k0]
    exact ⟨_,rfl,hq.up (a3)⟩
end
end Go.Pg
namespace Go.Pg
open Go.Proofs Go.Utf8 Go.Lib
set_option linter.unusedSimpArgs false
section
variable {σ σ':aB} {X Y:Nat→Prop} {A:Nat} {T:TrA} {N:List NV} {D:List Dc} {s:Slt} {m:MS} {P:Program} {ov:Ov}
theorem wp_begin40 (g:dD N D) (h:Mac σ X A T N D s m) (ok:okM N m) (d6:mI σ) (few:Few m):WpF aG ovD 40 [bP A] σ (QM σ X A T N D s (rT N m)):=by
 refine WpF.of (T40_eq _) rfl ?_
 rw [T40]
 simp only [wpS]
 rw [cG,aE h.st (i:=0) rfl]
 simp only [wpS]
 rw [aE h.st (i:=19) rfl]
 simp only [wpS]
 obtain ⟨b4,d0⟩:=ok.at_
 refine uD h.tree.tree.nodes b4 rfl fun xn cs a9 c7=>?_
 unfold rT
 rw [iT b4]
 have k9:=fun hk=>g.kidsOf b4 9 2 hk rfl
 have f6:N[m.at_].x.k=6→zm N ((m.at_:Nat):Int):=fun hk=>⟨_,rfl,b4,.inl hk⟩
 generalize N[m.at_]=nv at a9 c7 k9 f6 ⊢
 obtain ⟨xq,xk,rfl,b7,_⟩:=a9
 simp only [wpS]
 refine aP fun σ1 b6 d3 c8=>?_
 generalize hE:σ.n=E at c8 d3
 rw [bK,aQ]
 refine ⟨jN (c7 σ1 b6) (bU ((Kp.st h.st (i:=19) rfl).frm b6) (bU ((Kp.st h.st (i:=0) rfl).frm b6) rfl)),?_⟩
 refine bC c8 rfl rfl fun σ2 e1 e3 a4=>?_
 have hF:Frm σ σ2 NoB:=b6.fresh e1 fun j hj h=>by omega
 have a4:St σ2 E (nvC nv xq xk):=a4
 have h2:=h.frmN hF
 have a8:=b7.later hF
 have a1:=hF.fr d6
 have a5:Mov σ σ2 A s s:=Mov.ofN hF
 rw [aE a4 (i:=0) rfl]
 simp only [wpS]
 rw [aC]
 by_cases c1:nv.x.k=1
 ·rw [if_pos (by simpa using c1),if_pos c1,aE a4 (i:=1) rfl]
  simp only [wpS]
  rw [aD]
  refine pS _ fun σ3 a0=>?_
  have key:=eT g (h2.frmN a0) ok (a0.fr a1) few 0 (v:=bN nv.x.n) (vq:=none) (vp:=none) (VlP.plain rfl rfl) vK
  unfold vC at key ⊢
  simp only [wpS]
  rw [aD]
  refine WpF.mono key ?_
  intro v' σ9 hq
  obtain ⟨rfl,_⟩:=id hq
  simp only [wpS,T40k0,T40k1,T40k2,T40k3,T40k4,T40k5,T40k6,T40k7]
  exact ⟨_,rfl,hq.up (a5.trans (Mov.ofN a0))⟩
 rw [if_neg (by simpa using c1),if_neg c1,aI,aC]
 by_cases c2:nv.x.k=2
 ·rw [if_pos (by simpa using c2),if_pos c2,aE a4 (i:=1) rfl]
  simp only [wpS]
  have key:=eT g h2 ok a1 few 0 (v:=boolV nv.x.n) (vq:=none) (vp:=none) (VlP.plain rfl rfl) xP
  unfold vC at key
  rw [aD]
  refine WpF.mono key ?_
  intro v' σ9 hq
  obtain ⟨rfl,_⟩:=id hq
  simp only [wpS,T40k0,T40k1,T40k2,T40k3,T40k4,T40k5,T40k6,T40k7]
  exact ⟨_,rfl,hq.up (a5)⟩
 rw [if_neg (by simpa using c2),if_neg c2,aI,aC]
 by_cases c3:nv.x.k=3
 ·rw [if_pos (by simpa using c3),if_pos c3,aD]
  refine vB fun σ3 a0=>?_
  have key:=eT g (h2.frmN a0) ok (a0.fr a1) few 0 (v:=nH) (vq:=none) (vp:=none) (VlP.plain rfl rfl) xV
  unfold vC at key ⊢
  simp only [wpS]
  rw [aD]
  refine WpF.mono key ?_
  intro v' σ9 hq
  obtain ⟨rfl,_⟩:=id hq
  simp only [wpS,T40k0,T40k1,T40k2,T40k3,T40k4,T40k5,T40k6,T40k7]
  exact ⟨_,rfl,hq.up (a5.trans (Mov.ofN a0))⟩
 rw [if_neg (by simpa using c3),if_neg c3,aI,aC]
 by_cases c4:nv.x.k=4
 ·rw [if_pos (by simpa using c4),if_pos c4,bK]
  rw [aE h2.st (i:=20) rfl]
  simp only [wpS]
  rw [aE a4 (i:=2) rfl]
  simp only [wpS]
  rw [bK,aQ]
  refine ⟨oL (Nat.le_refl _) a1 (fun _ h=>by cases h),?_⟩
  refine aP fun σ3 a0 b3 b0=>?_
  generalize hC:σ2.n=C at b0 b3
  rw [bK,aD]
  have d8:EnR σ3 (fun j=>FX X A s j∨j=C) m.env s.pe:=EnR_step (S:=NoB) a0 (fun _ _ h=>h.elim) (fun j hj h=>h.elim id fun h=>by omega) _ _ h2.env
  refine wp_find63 d8 nv.x.nm (fun d1 σ4 a2=>?_) fun v b1 q c p σ4 a2 hP=>?_
  ·rw [d1]
   simp only [wpS]
   rw [bK,aQ]
   refine ⟨nO (a2.get C (by omega) fun h=>h),?_⟩
   refine bC (a2.stN b0) rfl rfl fun σ5 a6 c5 b5=>?_
   have a3:Frm σ2 σ5 NoB:=(a0.seq a2).fresh a6 fun j hj h=>by omega
   rw [aC,if_pos (by rfl),aD]
   have key:=fP (h2.frmN a3)
   refine WpF.mono key ?_
   intro v' σ9 hq
   obtain ⟨rfl,_⟩:=id hq
   simp only [wpS,T40k0,T40k1,T40k2,T40k3,T40k4,T40k5,T40k6,T40k7]
   exact ⟨_,rfl,hq.up (a5.trans (Mov.ofN a3))⟩
  ·rw [b1]
   unfold vC
   simp only [wpS]
   rw [bK,aQ]
   refine ⟨nO (a2.get C (by omega) fun h=>h),?_⟩
   refine bC (a2.stN b0) rfl rfl fun σ5 a6 c5 b5=>?_
   have a3:Frm σ2 σ5 NoB:=(a0.seq a2).fresh a6 fun j hj h=>by omega
   have d9:VlP σ5 (FX X A s) v q p:=hP.step a6 (fun _ _ h=>.inr h) fun _ _ h=>.inl h
   rw [aC,if_neg (by simp),aS b5 7 rfl]
   simp only [wpS]
   have key:=eT g (h2.frmN a3) ok (a3.fr a1) few c (v:=v) (vq:=q) (vp:=p) d9 (ue ok.env b1)
   unfold vC at key
   rw [aD]
   refine WpF.mono key ?_
   intro v' σ9 hq
   obtain ⟨rfl,_⟩:=id hq
   simp only [wpS,T40k0,T40k1,T40k2,T40k3,T40k4,T40k5,T40k6,T40k7]
   exact ⟨_,rfl,hq.up (a5.trans (Mov.ofN a3))⟩
 rw [if_neg (by simpa using c4),if_neg c4,aI,aC]
 by_cases c6:nv.x.k=6
 ·rw [if_pos (by simpa using c6),if_pos c6,aE h2.st (i:=19) rfl]
  simp only [wpS]
  rw [aE h2.st (i:=20) rfl]
  simp only [wpS]
  have key:=eT g h2 ok a1 few 0 (v:=kL m.at_ m.env) (vq:=none) (vp:=s.pe) ⟨aR.nil,Emp.none,h2.env⟩ (ok_fun (f6 c6) ok.env)
  unfold vC at key
  rw [aD]
  refine WpF.mono key ?_
  intro v' σ9 hq
  obtain ⟨rfl,_⟩:=id hq
  simp only [wpS,T40k0,T40k1,T40k2,T40k3,T40k4,T40k5,T40k6,T40k7]
  exact ⟨_,rfl,hq.up (a5)⟩
 rw [if_neg (by simpa using c6),if_neg c6,aI,aC]
 by_cases c9:nv.x.k=9
 ·have kk:=k9 c9
  rw [if_pos (by simpa using c9),if_pos c9,aE h2.st (i:=19) rfl]
  simp only [wpS]
  rw [aE h2.st (i:=20) rfl]
  simp only [wpS]
  refine aP fun σ3 a0 b3 b0=>?_
  generalize hC:σ2.n=C at b0 b3
  rw [bK,aQ]
  refine ⟨bU ((Kp.st h2.st (i:=20) rfl).frm a0) (bU ((Kp.st h2.st (i:=19) rfl).frm a0) rfl),?_⟩
  refine bC b0 rfl rfl fun σ4 a2 d2 b8=>?_
  have a7:Frm σ2 σ4 NoB:=a0.fresh a2 fun j hj h=>by omega
  have h4:=h2.frmN a7
  have b9:=a7.stN a4
  rw [aE b9 (i:=4) rfl]
  simp only [wpS]
  refine pX (a8.later a7) (i:=1) (o:=0) rfl (by omega) rfl (by decide) rfl fun y cs a9=>?_
  unfold kO at a9
  subst a9
  refine ⟨_,rfl,fun d4=>?_⟩
  simp only [wpS]
  rw [aE b9 (i:=2) rfl]
  simp only [wpS]
  rw [aS b8 7 rfl]
  simp only [wpS]
  rw [aE h4.st (i:=20) rfl]
  simp only [wpS]
  refine aP fun σ5 a6 c5 b5=>?_
  rw [bK,aQ]
  refine ⟨bU (d4.frm a6) (bU ((Kp.st b9 (i:=4) rfl).frm a6) rfl),?_⟩
  have h5:=h4.frmN a6
  have nX5:¬ FX X A s σ4.n:=fun hX=>by have:=h4.fn _ hX;omega
  have d7:EnR σ5 (FX X A s) (.cons nv.x.nm (kL m.at_ m.env) m.env) (some ⟨σ4.n,0,some 0⟩):=qJ (cs:=vC (kL m.at_ m.env) none 0 s.pe) (pu:=s.pe) b5 nX5 (dH.2 ⟨_,_,_,rfl,aR.nil,Emp.none,h5.env⟩) h5.env
  have ek:gC nv 1=nv.kids[1]:=by unfold gC;simp [List.getD,show 1<nv.kids.length by omega]
  rw [aD,ek]
  have key:=fI (i:=nv.kids[1]) h5 d7
  refine WpF.mono key ?_
  intro v' σ9 hq
  obtain ⟨rfl,_⟩:=id hq
  simp only [wpS,T40k0,T40k1,T40k2,T40k3,T40k4,T40k5,T40k6,T40k7]
  exact ⟨_,rfl,hq.up ((a5.trans (Mov.ofN a7)).trans (Mov.ofN a6))⟩
 rw [if_neg (by simpa using c9),if_neg c9,aI,aC]
 by_cases c18:nv.x.k=18
 ·rw [if_pos (by simpa using c18),if_pos c18,aD]
  have key:=wp_input65 h2 few.read few.inp
  refine WpF.mono key ?_
  intro v' σ9 hq
  obtain ⟨rfl,_⟩:=id hq
  simp only [wpS,T40k0,T40k1,T40k2,T40k3,T40k4,T40k5,T40k6,T40k7]
  exact ⟨_,rfl,hq.up (a5)⟩
 rw [if_neg (by simpa using c18),if_neg c18,aE a4 (i:=4) rfl]
 simp only [wpS]
 rw [aC]
 by_cases c0:nv.kids=[]
 ·rw [if_pos (by simp [c0]),if_pos c0,aE a4 (i:=2) rfl]
  simp only [wpS]
  have key:=eT g h2 ok a1 few 0 (v:=conV nv.x.nm []) (vq:=none) (vp:=none) (VlP.plain rfl rfl) (ok_con iS)
  unfold vC at key
  rw [aD]
  refine WpF.mono key ?_
  intro v' σ9 hq
  obtain ⟨rfl,_⟩:=id hq
  simp only [wpS,T40k0,T40k1,T40k2,T40k3,T40k4,T40k5,T40k6,T40k7]
  exact ⟨_,rfl,hq.up (a5)⟩
 ·have hl:0<nv.kids.length:=List.length_pos_iff.2 c0
  rw [if_neg (by simp;omega),if_neg c0,aE h2.st (i:=19) rfl]
  simp only [wpS]
  rw [aE h2.st (i:=20) rfl]
  simp only [wpS]
  rw [aE h2.st (i:=22) rfl]
  simp only [wpS]
  rw [aE h2.st (i:=21) rfl]
  simp only [wpS]
  refine aP fun σ3 a0 b3 b0=>?_
  have h3:=h2.frmN a0
  have nX3:¬ FX X A s σ2.n:=fun hX=>by have:=h2.fn _ hX;omega
  have d5:WtR σ3 (FX X A s) (⟨some m.at_,m.env,[],m.calls⟩::m.k) (some ⟨σ2.n,0,some 0⟩):=qe (w:=⟨some m.at_,m.env,[],m.calls⟩) b0 nX3 h3.env aR.nil Emp.none h3.calls h3.k
  refine bB (i:=21) h3.st (by simp [eV]) rfl fun σ4 a2 d2 b8=>?_
  obtain ⟨s4,h4,e0⟩:∃ s4,Mac σ4 X A T N D s4 { m with k:=⟨some m.at_,m.env,[],m.calls⟩::m.k }∧Mov σ3 σ4 A s s4:=⟨{ s with pk:=some ⟨σ2.n,0,some 0⟩ },h3.upd a2 b8 (by constructor<;>rfl) h3.v h3.env d5 h3.calls,Mov.ofA a2 rfl⟩
  have b2:Mov σ2 σ4 A s s4:=(Mov.ofN a0).trans e0
  have e2:¬ E=A:=fun e=>by have:=h.st.1;omega
  rw [aE (a2.st (a0.stN a4) e2) (i:=4) rfl]
  simp only [wpS]
  refine mS (natRow.mov a8 b2) (i:=0) (o:=0) rfl hl rfl (by decide) rfl fun cs a9=>?_
  unfold kO at a9
  subst a9
  refine ⟨_,rfl,?_⟩
  simp only [wpS]
  rw [aE h4.st (i:=20) rfl]
  simp only [wpS]
  have ek:gC nv 0=nv.kids[0]:=by unfold gC;simp [List.getD,hl]
  rw [aD,ek]
  have key:=fI (i:=nv.kids[0]) h4 h4.env
  refine WpF.mono key ?_
  intro v' σ9 hq
  obtain ⟨rfl,_⟩:=id hq
  simp only [wpS,T40k0,T40k1,T40k2,T40k3,T40k4,T40k5,T40k6,T40k7]
  exact ⟨_,rfl,hq.up (a5.trans b2)⟩
end
end Go.Pg
namespace Go.Pg
section
variable {N:List NV} {D:List Dc} {m:MS}
theorem iG (h:m.over≠0):∀ n,eI N n m=(m,0)
 |0=>rfl
 |n+1=>by rw [eI,if_neg h]
theorem jA (h:m.over=0) (n:Nat):eI N (n+1) m=((eI N n (jV N m)).1,(eI N n (jV N m)).2+1):=by rw [eI,if_pos h]
theorem oU:∀ (a b:Nat) (m:MS),eI N (a+b) m=((eI N b (eI N a m).1).1,(eI N a m).2+(eI N b (eI N a m).1).2)
 |0,b,m=>by rw [Nat.zero_add];simp [eI]
 |a+1,b,m=>by
  by_cases h:m.over=0
  ·rw [show a+1+b=(a+b)+1 by omega,jA h,jA h,oU a b (jV N m)]
   simp only
   rw [Prod.mk.injEq]
   exact ⟨rfl,by omega⟩
  ·rw [iG h,iG h]
   simp only
   rw [iG h]
   simp
theorem runM_le:∀ (n:Nat) (m:MS),(eI N n m).2≤n
 |0,_=>Nat.le_refl _
 |n+1,m=>by
  by_cases h:m.over=0
  ·rw [jA h];have:=runM_le n (jV N m);simp only;omega
  ·rw [iG h];exact Nat.zero_le _
theorem qH {P:MS→Prop} (hs:∀ m,m.over=0→P m→P (jV N m)):∀ (n:Nat) (m:MS),P m→P (eI N n m).1
 |0,_,h=>h
 |n+1,m,h=>by
  by_cases h0:m.over=0
  ·rw [jA h0];exact qH hs n _ (hs m h0 h)
  ·rw [iG h0];exact h
theorem runM_ok (g:dD N D) (n:Nat) (h:okM N m):okM N (eI N n m).1:=qH (fun _ _ h=>step_ok g h) n m h
theorem runM_bnd (n:Nat) (h:bndM m):bndM (eI N n m).1:=qH (fun _ _ h=>step_bnd h) n m h
theorem yL:∀ (n:Nat) (m:MS),(eI N n m).1.steps=m.steps+(eI N n m).2
 |0,_=>rfl
 |n+1,m=>by
  by_cases h0:m.over=0
  ·rw [jA h0]
   simp only
   rw [yL n,(zJ m).steps]
   show m.steps+1+_=_
   omega
  ·rw [iG h0];try rfl
structure Mono1 (m m':MS):Prop where
 out:m.out <+: m'.out
 read:m.read≤m'.read
 cells:m.cells.length≤m'.cells.length
 inp:m'.inp=m.inp
theorem runM_mono (n:Nat) (m:MS):Mono1 m (eI N n m).1:=
 qH (P:=fun x=>Mono1 m x) (fun x _ h=>by
  have e:=zJ (N:=N) x
  exact ⟨h.out.trans e.out,Nat.le_trans h.read e.read,Nat.le_trans h.cells e.cells,e.inp.trans h.inp⟩) n m ⟨List.prefix_refl _,Nat.le_refl _,Nat.le_refl _,rfl⟩
end
end Go.Pg
namespace Go.Pg
open Go.Proofs Go.Utf8 Go.Lib
set_option linter.unusedSimpArgs false
section
variable {σ σ':aB} {X Y:Nat→Prop} {A:Nat} {T:TrA} {N:List NV} {D:List Dc} {s:Slt} {m:MS} {P:Program} {ov:Ov}
theorem wp_Step27 (g:dD N D) (h:Mac σ X A T N D s m) (ok:okM N m) (a2:mI σ) (few:Few m) (a6:m.steps≤1000000000) (a7:m.stops≤1000000000):
  WpF aG ovD 27 [bP A] σ fun v σ'=>∃ s',v=.bool (decide (m.over=0))∧Mac σ' X A T N D s' (if m.over=0 then jV N m else m)∧Mov σ σ' A s s':=by
 refine WpF.of (T27_eq _) rfl ?_
 rw [T27]
 simp only [wpS]
 rw [aE h.st (i:=9) rfl]
 simp only [wpS]
 rw [aC]
 by_cases h0:m.over=0
 case neg=>
  rw [if_pos (by simpa using h0),if_neg h0,decide_eq_false h0]
  simp only [wpS]
  exact ⟨_,rfl,s,rfl,h,Mov.refl⟩
 rw [if_neg (by simp [h0]),if_pos h0,decide_eq_true h0,aE h.st (i:=7) rfl]
 simp only [wpS]
 have e1:aT (((m.steps:Nat):Int)+1)=((m.steps+1:Nat):Int):=by rw [aV (by omega)];omega
 rw [e1]
 refine bB (i:=7) h.st (by simp [eV]) rfl fun σ1 a0 a9 a5=>?_
 have h1:Mac σ1 X A T N D s { m with steps:=m.steps+1 }:=h.upd a0 a5 (by constructor<;>rfl) h.v h.env h.k h.calls
 have a3:Mov σ σ1 A s s:=Mov.ofA a0 rfl
 have hh:zn N { m with steps:=m.steps+1 }=zn N m:=rfl
 rw [aD,WpF.eq (ev_here37 h1 ok.at_.1),hh]
 simp only [wpS]
 have fin:∀ τ,Mac τ X A T N D s (gH N m)→Mov σ τ A s s→mI τ→Wp aG ovD (T27k1 (some ⟨A,0,some 0⟩) .normal []) τ fun _ vs σ'=>∃ v,vs=[v]∧∃ s',v=.bool true∧Mac σ' X A T N D s' (jV N m)∧Mov σ σ' A s s':=by
  intro τ hτ hM hf
  have okt:okM N (gH N m):=tick_ok ok
  have fewt:Few (gH N m):=⟨few.cells,few.nw,few.out,few.calls,few.read,few.inp⟩
  unfold T27k1
  simp only [wpS]
  rw [aE hτ.st (i:=11) rfl]
  simp only [wpS]
  rw [aC]
  have hb:(gH N m).back=m.back:=rfl
  unfold jV
  by_cases c:m.back=true
  ·rw [if_pos (by rw [hb];exact c),if_pos c,aY,show aadd ⟨A,0,some 0⟩ 12=⟨A,12,some 0⟩ from rfl,hτ.st.ldN (off:=12) (k:=7) (by simp [eV])]
   have key:=eT g hτ okt hf fewt s.vc hτ.v okt.v
   have ev:(((eV T N D s (gH N m)).drop 12).take 7)=vC (gH N m).v s.vq s.vc s.vp:=rfl
   rw [ev]
   unfold vC at key ⊢
   simp only [wpS]
   rw [aD]
   refine WpF.mono key ?_
   rintro v' σ9 ⟨rfl,s9,k1,k2⟩
   simp only [wpS,T27k0]
   exact ⟨_,rfl,s9,rfl,k1,hM.trans k2⟩
  ·rw [if_neg (by rw [hb];exact c),if_neg c,aD]
   refine WpF.mono (wp_begin40 g hτ okt hf fewt) ?_
   rintro v' σ9 ⟨rfl,s9,k1,k2⟩
   simp only [wpS,T27k0]
   exact ⟨_,rfl,s9,rfl,k1,hM.trans k2⟩
 rw [aC]
 by_cases c:zn N m=true
 ·rw [if_pos c,aE h1.st (i:=8) rfl]
  simp only [wpS]
  have e2:aT (((m.stops:Nat):Int)+1)=((m.stops+1:Nat):Int):=by rw [aV (by omega)];omega
  rw [e2]
  refine bB (i:=8) h1.st (by simp [eV]) rfl fun σ2 a1 a8 a4=>?_
  simp only [wpS]
  have et:gH N m={ m with steps:=m.steps+1,stops:=m.stops+1 }:=by unfold gH;rw [if_pos c]
  refine fin σ2 ?_ (a3.trans (Mov.ofA a1 rfl)) (a1.fr (a0.fr a2))
  rw [et]
  exact h1.upd a1 a4 (by constructor<;>rfl) h1.v h1.env h1.k h1.calls
 ·rw [if_neg c]
  simp only [wpS]
  have et:gH N m={ m with steps:=m.steps+1 }:=by unfold gH;rw [if_neg c]
  refine fin σ1 ?_ a3 (a0.fr a2)
  rw [et]
  exact h1
theorem Few.of (b:bndM m) (hs:m.steps≤1000000000) (hi:m.inp.length≤1000000):Few m:=by
 obtain ⟨b1,b2,b3,b4,b5,b6,b7⟩:=b
 exact ⟨by omega,by omega,by omega,by omega,b7,hi⟩
theorem runM_one {i:Nat} (hi:(eI N i m).2=i) (h0:(eI N i m).1.over=0):(eI N (i+1) m).1=jV N (eI N i m).1∧(eI N (i+1) m).2=i+1:=by
 rw [oU i 1 m,jA h0]
 exact ⟨rfl,by simp only [hi];rfl⟩
theorem runM_end {i n:Nat} (a0:i≤n) (hi:(eI N i m).2=i) (h0:(eI N i m).1.over≠0):(eI N n m).1=(eI N i m).1∧(eI N n m).2=i:=by
 rw [show n=i+(n - i) by omega,oU i (n - i) m,iG h0]
 exact ⟨rfl,by simp only [hi];rfl⟩
theorem wp_Run13 (g:dD N D) (h:Mac σ X A T N D s m) (ok:okM N m) (a5:mI σ) (b:bndM m) (a2:m.inp.length≤1000000) (a6:m.steps≤100000000) (n:Int) (hn:n≤100000000):
  WpF aG ovD 13 [bP A,.int .i64 n] σ fun v σ'=>∃ s',v=.int .i64 (((eI N n.toNat m).2:Nat):Int)∧Mac σ' X A T N D s' (eI N n.toNat m).1∧Mov σ σ' A s s':=by
 refine WpF.of (T13_eq _ _) rfl ?_
 rw [T13]
 refine Wp.loop (fun k st σ'=>∃ (i:Nat) (s':Slt),st=[.int .i64 ((i:Nat):Int)]∧i+k=n.toNat∧(eI N i m).2=i∧Mac σ' X A T N D s' (eI N i m).1∧Mov σ σ' A s s') n.toNat ⟨0,s,rfl,by omega,rfl,h,Mov.refl⟩ ?_
 rintro k st σ1 ⟨i,s1,rfl,a8,hi,h1,a1⟩
 unfold T13b0
 simp only [wpS]
 rw [aC]
 by_cases a7:((i:Nat):Int)<n
 case neg=>
  have e:i=n.toNat:=by omega
  rw [if_neg (by simp;omega)]
  simp only [wpS,T13k1]
  rw [aC,if_neg (by simp)]
  simp only [wpS,T13k2]
  rw [←e,hi]
  exact ⟨_,rfl,s1,rfl,h1,a1⟩
 rw [if_pos (by simp;omega),aD]
 have bi:=runM_bnd (N:=N) i b
 have a4:=yL (N:=N) i m
 rw [hi] at a4
 have a0:=(runM_mono (N:=N) i m).inp
 refine WpF.mono (wp_Step27 g h1 (runM_ok g i ok) (a1.frm.fr a5) (Few.of bi (by omega) (by rw [a0];exact a2)) (by omega) (by have:=bi.stops;omega)) ?_
 rintro v' σ2 ⟨s2,rfl,h2,a3⟩
 simp only [wpS,T13k1]
 rw [aC]
 by_cases h0:(eI N i m).1.over=0
 ·rw [if_pos (by simpa using h0)]
  rw [if_pos h0] at h2
  obtain ⟨r1,r2⟩:=runM_one hi h0
  have e1:aT (((i:Nat):Int)+1)=((i+1:Nat):Int):=by rw [aV (by omega)];omega
  simp only [wpS,T13k0]
  rw [e1]
  exact ⟨k - 1,by omega,i+1,s2,rfl,by omega,r2,by rw [r1];exact h2,a1.trans a3⟩
 ·rw [if_neg (by simpa using h0)]
  rw [if_neg h0] at h2
  obtain ⟨r1,r2⟩:=runM_end (n:=n.toNat) (by omega) hi h0
  simp only [wpS,T13k2]
  rw [r1,r2]
  exact ⟨_,rfl,s2,rfl,h2,a1.trans a3⟩
end
end Go.Pg
namespace Go.Pg
open Go.Proofs Go.Utf8 Go.Lib
set_option linter.unusedSimpArgs false
section
variable {σ σ':aB} {X Y:Nat→Prop} {A:Nat} {T:TrA} {N:List NV} {D:List Dc} {s:Slt} {m:MS} {P:Program} {ov:Ov}
theorem SlE.row9 {b c:Nat} {p:Option Addr} {l:List Int} (h:SlE σ b p c 1 (l.map yK)) (hb:p≠none→¬ Y b):aR σ Y 1 tZ p l:=by
 rcases h with ⟨rfl,_,h0⟩|⟨off,s,rfl,hR⟩
 ·have:l=[]:=by simpa using h0
  rw [this]
  exact aR.nil
 ·intro i hi
  refine ⟨_,[yK l[i]],rfl,.inr ⟨hR.lt,hb (by simp)⟩,?_,rfl⟩
  have:=hR.rdN (i:=i*1) (k:=1) (by rw [List.length_map];omega)
  rw [show aadd ⟨b,off,some s⟩ (i*1)=⟨b,off+i*1,some s⟩ from rfl,this,Nat.mul_one,List.drop_eq_getElem_cons (by simpa using hi),List.take_succ_cons,List.take_zero,List.getElem_map]
theorem aR.rdI9 {p:Option Addr} {l:List Int} (h:aR σ Y 1 tZ p l):RdI σ .i64 p l:=by
 intro i hi
 obtain ⟨x,cs,rfl,_,h2,h3⟩:=h i hi
 refine ⟨x,rfl,?_⟩
 unfold tZ at h3
 subst h3
 unfold ld1
 rw [h2]
 simp [List.getD,hi]
theorem yB {p:Option Addr} {l:List Int} {c:Nat} (h:aR σ Y 1 tZ p l) (he:Emp σ Y p) (hl:l.length≤1000000000) {Q:Value→aB→Prop}
  (hQ:∀ (σ':aB) (b:Nat) (p':Option Addr) (c':Nat),Frm σ σ' NoB→SlE σ' b p' c' 1 (l.map yK)→(p'≠none→σ.n≤b)→Q (.slice p' l.length c') σ'):WpF aG ovD 34 [.slice p l.length c] σ Q:=by
 refine WpF.of (T34_eq _ _ _) rfl ?_
 rw [T34,aC]
 cases p with
 |none=>
  rw [if_pos (by rfl)]
  have a0:l=[]:=by
   cases l with
   |nil=>rfl
   |cons v l=>
    obtain ⟨x,cs,hx,_⟩:=h 0 (by simp)
    cases hx
  subst a0
  simp only [wpS]
  exact ⟨_,rfl,hQ σ 0 none 0 (Frm.refl _ _) (.inl ⟨rfl,rfl,rfl⟩) (fun h=>absurd rfl h)⟩
 |some a=>
  rw [if_neg (by simp),aY,cT]
  simp only [wpS]
  have hF:=Frm.new σ [] 1 NoB
  have hN:=Row.new σ 1 [] 0 (by decide) rfl (fun _ h=>by cases h)
  have h1:aR (σ.newBlk [] 1) Y 1 tZ (some a) l:=aR.step (S:=NoB) hF (fun _ _ h=>h.elim) (fun _ _ h=>h) (fun _ _ h=>h) h
  have a1:Emp (σ.newBlk [] 1) Y (some a):=he.step (S:=NoB) hF (fun _ _ h=>h.elim) fun _ _ h=>h
  have h2:=aR.src (f:=yK) (fun cs t h=>h) h1 a1
  refine xR (xs:=[]) (ys:=l.map yK) (b:=σ.n) (.inr ⟨0,1,rfl,hN⟩) rfl h2 (by simp) (by intro y hy;obtain ⟨z,_,rfl⟩:=List.mem_map.1 hy;rfl) (by omega) (by omega) fun σ2 b2 p2 c2 a4 a2 a3=>?_
  simp only [wpS]
  rw [Nat.zero_add]
  refine ⟨_,rfl,hQ σ2 b2 p2 c2 (hF.fresh a4 fun j hj h=>by omega) a3 fun hp=>?_⟩
  rcases a2 with h|⟨_,h⟩|h
  ·exact absurd h hp
  ·omega
  ·rw [gT] at h
   omega
theorem Mac.outRow (h:Mac σ X A T N D s m):aR σ NoB 1 tZ s.po m.out:=h.out.row9 fun _ h=>h
theorem wp_Out14 (h:Mac σ X A T N D s m) (hl:m.out.length≤1000000000) {Q:Value→aB→Prop}
  (hQ:∀ (σ':aB) (b:Nat) (p':Option Addr) (c':Nat),Frm σ σ' NoB→SlE σ' b p' c' 1 (m.out.map yK)→(p'≠none→σ.n≤b)→Q (.slice p' m.out.length c') σ'):WpF aG ovD 14 [bP A] σ Q:=by
 refine WpF.of (T14_eq _) rfl ?_
 rw [T14]
 simp only [wpS]
 rw [aE h.st (i:=4) rfl]
 simp only [wpS]
 rw [aD]
 refine yB h.outRow (h.out.emp fun _ h=>h) hl fun σ' b p' c' h1 h2 h3=>?_
 simp only [wpS]
 exact ⟨_,rfl,hQ σ' b p' c' h1 h2 h3⟩
theorem ev_Over16 (h:Mac σ X A T N D s m):EvF aG ovD 16 [bP A] σ (.int .i64 m.over) σ:=by
 refine EvF.of (T16_eq _) rfl ?_
 rw [T16]
 simp only [wpS]
 rw [aE h.st (i:=9) rfl]
 simp only [wpS]
 exact ⟨trivial,trivial⟩
theorem ev_Read20 (h:Mac σ X A T N D s m):EvF aG ovD 20 [bP A] σ (.int .i64 ((m.read:Nat):Int)) σ:=by
 refine EvF.of (T20_eq _) rfl ?_
 rw [T20]
 simp only [wpS]
 rw [aE h.st (i:=3) rfl]
 simp only [wpS]
 exact ⟨trivial,trivial⟩
theorem zd (n:Int):EvF aG ovD 18 [.int .i64 n] σ (.int .i64 (w63 n)) σ:=by
 refine EvF.of (T18_eq _) rfl ?_
 rw [T18,wp_ret]
 exact ⟨rfl,rfl⟩
def inpB (l:List Int):Bool:=decide (∀ x∈l,w63 x=x)&&decide (l.length≤20)
theorem wp_inputs11 {p:Option Addr} {l:List Int} {c:Nat} (h:RdI σ .i64 p l) (hl:l.length≤9223372036854775807):EvF aG ovD 11 [.slice p l.length c] σ (.bool (inpB l)) σ:=by
 refine EvF.of (T11_eq _ _ _) rfl ?_
 rw [T11]
 refine Wp.count l.length (fun j st σ'=>σ'=σ∧∃ b,st=[.int .i64 ((j:Nat):Int),.bool b]∧∀ x∈l.take j,w63 x=x) ⟨rfl,_,rfl,by simp⟩ ?_ ?_
 ·rintro j st σ' hj ⟨rfl,b,rfl,a0⟩
  have ej:aT ((j:Int)+1)=((j+1:Nat):Int):=by rw [aV (by omega)];omega
  have hg:l.getD ((j:Nat):Int).toNat 0=l[j]:=by simp [List.getD,hj]
  unfold T11b0
  simp only [wpS]
  rw [aC,if_pos (by simp;omega),aI]
  obtain ⟨x,hx,a2⟩:=h j hj
  subst hx
  rw [wp_rdI h (by omega) (by omega),hg,bK,aD,WpF.eq (zd _)]
  simp only [wpS]
  rw [aQ]
  refine ⟨by simp;omega,?_⟩
  have a1:ld1 (aadd x (Int.toNat ((j:Nat):Int)*1)) σ'=some (.int .i64 l[j],σ'):=by
   rw [Int.toNat_natCast,a2]
   simp [List.getD,hj]
  rw [aY,a1]
  simp only
  rw [aQ]
  refine ⟨past_ok a1,?_⟩
  simp only [wpS]
  rw [aC]
  by_cases hw:w63 l[j]=l[j]
  ·rw [if_neg (by simp [hw])]
   simp only [wpS,T11k0,ej]
   refine ⟨trivial,b,rfl,fun y hy=>?_⟩
   rw [List.take_succ_eq_append_getElem hj] at hy
   rcases List.mem_append.1 hy with hy|hy
   ·exact a0 y hy
   ·rw [List.mem_singleton.1 hy];exact hw
  ·rw [if_pos (by simpa using hw)]
   simp only [wpS,T11k0,T11k1]
   refine ⟨?_,trivial⟩
   unfold inpB
   rw [decide_eq_false fun h=>hw (h _ (List.getElem_mem hj))]
   try rfl
 ·rintro st σ' ⟨rfl,b,rfl,a0⟩
  unfold T11b0
  simp only [wpS]
  rw [aC,if_neg (by simp)]
  simp only [wpS,T11k1]
  refine ⟨?_,trivial⟩
  unfold inpB
  rw [List.take_length] at a0
  rw [decide_eq_true a0]
  simp
  omega
end
end Go.Pg
namespace Go.Pg
open Go.Proofs Go.Utf8 Go.Lib
set_option linter.unusedSimpArgs false
section
variable {σ σ':aB} {X Y Z:Nat→Prop} {A:Nat} {T:TrA} {N:List NV} {D:List Dc} {s:Slt} {m:MS} {P:Program} {ov:Ov}
theorem ev_new30 (n:Int):EvF aG ovD 30 [.int .i64 n] σ (.bool (w63 n !=n)) σ:=by
 refine EvF.of (T30_eq _) rfl ?_
 rw [T30,aD,WpF.eq (zc n)]
 simp only [wpS]
 exact ⟨trivial,trivial⟩
theorem ev_index52 {p:Option Addr} {l:List Int} {c:Nat} (h:RdI σ .i64 p l) (hl:l.length≤1000000000) (hw:∀ x∈l,w63 x=x):EvF aG ovD 52 [.slice p l.length c,.func (.func 30) #[] #[]] σ (.int .i64 (-1)) σ:=by
 refine EvF.of (T52_eq _ _ _ _) rfl ?_
 rw [T52]
 refine Wp.count l.length (fun j st σ'=>σ'=σ∧∃ z:Int,st=[.int .i64 ((j:Nat):Int),.int .i64 z]) ⟨rfl,_,rfl⟩ ?_ ?_
 ·rintro j st σ' hj ⟨rfl,z,rfl⟩
  have ej:aT ((j:Int)+1)=((j+1:Nat):Int):=by rw [aV (by omega)];omega
  have hg:l.getD ((j:Nat):Int).toNat 0=l[j]:=by simp [List.getD,hj]
  unfold T52b0
  simp only [wpS]
  rw [aC,if_pos (by simp;omega),aI,wp_rdI h (by omega) (by omega),hg]
  unfold nV
  simp only [List.nil_append,List.append_nil]
  rw [aD,WpF.eq (ev_new30 _)]
  simp only [wpS]
  rw [aC,if_neg (by simp [hw _ (List.getElem_mem hj)])]
  simp only [wpS,T52k0,ej]
  exact ⟨trivial,z,rfl⟩
 ·rintro st σ' ⟨rfl,z,rfl⟩
  unfold T52b0
  simp only [wpS]
  rw [aC,if_neg (by simp)]
  simp only [wpS,T52k1]
  exact ⟨trivial,trivial⟩
theorem yd {p:Option Addr} {l:List Int} {c:Nat} (h:RdI σ .i64 p l) (hl:l.length≤1000000000) (hw:∀ x∈l,w63 x=x):EvF aG ovD 33 [.slice p l.length c,.func (.func 30) #[] #[]] σ (.bool false) σ:=by
 refine EvF.of (T33_eq _ _ _ _) rfl ?_
 rw [T33,aD,WpF.eq (ev_index52 h hl hw)]
 simp only [wpS]
 exact ⟨rfl,trivial⟩
theorem wp_New12 {pn pd:Option Addr} {cn cd:Nat} (g:dD N D) (hT:lR σ Y pn N pd D) {p:Option Addr} {l:List Int} {c:Nat} (b2:aR σ Z 1 tZ p l) (he:Emp σ Z p) (hw:∀ x∈l,w63 x=x) (hl:l.length≤200) {Q:Value→aB→Prop}
  (hQ:∀ (σ':aB) (A:Nat) (s:Slt),Frm σ σ' NoB→σ.n≤A→(∀ X:Nat→Prop,(∀ j,X j→j<σ.n∧Y j)→Mac σ' X A ⟨pn,cn,pd,cd⟩ N D s (xi l))→(∀ j,Ft A s j→j=A)→Q (.tuple #[bP A,.int .i64 0]) σ'):WpF aG ovD 12 [trV pn N.length cn pd D.length cd,.slice p l.length c] σ Q:=by
 refine WpF.of (T12_eq _ _ _ _ _ _ _ _ _) rfl ?_
 rw [T12]
 refine aP fun σ1 a9 b1 a4=>?_
 generalize hB:σ.n=B at a4 b1
 rw [aI,aS a4 2 rfl]
 simp only [wpS]
 rw [aD]
 refine WpF.mono (wp_Good21 g (hT.frm a9)) ?_
 rintro _ σ2 ⟨rfl,a5⟩
 have a0:=a9.seq a5
 have a3:aR σ2 Z 1 tZ p l:=aR.step (S:=NoB) a0 (fun _ _ h=>h.elim) (fun _ _ h=>h) (fun _ _ h=>h) b2
 have b3:Emp σ2 Z p:=he.step (S:=NoB) a0 (fun _ _ h=>h.elim) fun _ _ h=>h
 simp only [wpS]
 rw [aC,if_pos (by rfl),aC,if_pos (by simp;omega),aD,WpF.eq (yd a3.rdI9 (by omega) hw)]
 simp only [wpS,T12k0]
 rw [aC,if_neg (by simp),aS (a5.stN a4) 2 rfl]
 simp only [wpS]
 rw [aD]
 refine yB a3 b3 (by omega) fun σ3 b p' c' a8 b0 b4=>?_
 simp only [wpS]
 rw [bK,aQ]
 refine ⟨jN ((a8.stN (a5.stN a4)).ldAll 2 rfl) rfl,?_⟩
 refine aP fun σ4 a7 b6 b5=>?_
 simp only [wpS]
 have a2:=a0.seq a8
 have a1:=a2.seq a7
 refine ⟨_,rfl,hQ σ4 σ3.n ⟨p',c',none,0,0,none,0,0,[],none,0,0,[],none,0,none,none,none,none⟩ a1 a2.n (fun X hX=>?_) (fun j hj=>?_)⟩
 ·have a6:∀ j,FX X σ3.n ⟨p',c',none,0,0,none,0,0,[],none,0,0,[],none,0,none,none,none,none⟩ j→X j∨j=σ3.n:=by
   rintro j (h|h|⟨h,_⟩|⟨h,_⟩|⟨h,_⟩)
   ·exact .inl h
   ·exact .inr h
   ·exact absurd rfl h
   ·exact absurd rfl h
   ·exact absurd rfl h
  have b7:=a2.n
  refine ⟨b5,?_,?_,.inl ⟨rfl,rfl,rfl⟩,.inl ⟨rfl,rfl,rfl⟩,rfl,(fun i h=>by cases h),.inl ⟨rfl,rfl,rfl⟩,rfl,VlP.plain rfl rfl,tF.2 rfl,rfl,rfl,fun j hj=>Nat.lt_of_lt_of_le (hX j hj).1 a1.n,fun h=>by have:=(hX _ h).1;omega,(fun h=>absurd rfl h),(fun h=>absurd rfl h),fun h=>absurd rfl h⟩
  ·refine hT.step (S:=NoB) a1 (fun _ _ h=>h.elim) fun j hj h=>?_
   rcases a6 j h with h|h
   ·exact (hX j h).2
   ·omega
  ·refine aR.step (S:=NoB) (Y:=FX X σ3.n ⟨p',c',none,0,0,none,0,0,[],none,0,0,[],none,0,none,none,none,none⟩) a7 (fun _ _ h=>h.elim) (fun _ _ h=>h) (fun _ _ h=>h) (b0.row9 fun hp h=>?_)
   have h1:=b4 hp
   have h2:=b0.lt hp
   have h3:=a0.n
   rcases a6 _ h with h|h
   ·have:=(hX _ h).1
    omega
   ·omega
 ·rcases hj with h|⟨h,_⟩|⟨h,_⟩|⟨h,_⟩
  ·exact h
  ·exact absurd rfl h
  ·exact absurd rfl h
  ·exact absurd rfl h
theorem newM_bnd (l:List Int):bndM (xi l):=⟨Nat.le_refl _,Nat.le_refl _,Nat.le_refl _,Nat.le_refl _,Nat.le_refl _,(fun _ h=>by cases h),Nat.zero_le _⟩
end
end Go.Pg
namespace Go.Pg
open Go.Proofs Go.Utf8 Go.Lib
set_option linter.unusedSimpArgs false
theorem slV_strs2 {σ:aB} {Y:Nat→Prop} {b c:Nat} {p:Option Addr} {l:List (List UInt8)} (h:SlV σ b p c (l.map cW)) (hb:p≠none→¬ Y b):aR σ Y 1 (qZ σ Y) p l:=by
 rcases h with ⟨rfl,_,h0⟩|⟨off,s,rfl,hR⟩
 ·have:l=[]:=by simpa using h0
  rw [this]
  exact aR.nil
 ·exact aR.own (css:=l.map fun t=>[cW t]) (by
   have e:(l.map fun t=>[cW t]).flatten=l.map cW:=by
    clear hR
    induction l with
    |nil=>rfl
    |cons t r ih=>rw [List.map_cons,List.flatten_cons,List.map_cons,←ih];try rfl
   rw [e];exact hR) (hb (by simp)) (by simp) (by intro cs a0;obtain ⟨t,_,rfl⟩:=List.mem_map.1 a0;rfl) (fun i h1 h2=>by simp [qZ])
section
variable {σ:aB} {N:List NV} {D:List Dc} {pn pd:Option Addr} {cn cd U V W:Nat} {Y:Nat→Prop}
theorem wp_made_cons {j:Nat} (hj:j<D.length) (hU:U≠W) (b9:St σ U [.slice pn N.length cn,.slice pd D.length cd]) {nm:List UInt8} (c9:St σ W [.string (mkB nm),.slice none 0 0]) (c7:Y W) (hT:aR σ Y 2 (dcR σ Y) pd D) (hC:D[j].cons.length≤1000000) (hA:∀ c∈D[j].cons,c.args.length≤1000000) {K:Ex→List Value→Pg} {Q:cN}
  (k:∀ σ' p c rb css,Frm σ σ' (· =W)→St σ' W [.string (mkB nm),.slice p D[j].cons.length c]→GR cnR 2 σ' (fun j=>j<σ.n) rb D[j].cons css p c→Wp aG ovD (K (.exit 4) [.int .i64 ((D[j].cons.length:Nat):Int)]) σ' Q):
  Wp aG ovD (.loop [.int .i64 0] (T10b1 ⟨U,0,some 0⟩ ((j:Nat):Int) ⟨W,0,some 0⟩) K) σ Q:=by
 have e9:=b9.1
 have e0:=c9.1
 have c8:∀ {τ:aB},Frm σ τ (· =W)→aR τ Y 2 (dcR τ Y) pd D:=fun f=>aR.step f (fun j _ h=>by rw [h];exact c7) (fun _ _ h=>h) (fun _ _ h=>cU _ _ _ _ _ _ _ f (fun j _ h=>by rw [h];exact c7) (fun _ _ h=>h) h) hT
 refine Wp.count D[j].cons.length (fun i st σ'=>∃ p c rb css,st=[.int .i64 ((i:Nat):Int)]∧Frm σ σ' (· =W)∧St σ' W [.string (mkB nm),.slice p i c]∧GR cnR 2 σ' (fun j=>j<σ.n) rb (D[j].cons.take i) css p c)
  ⟨none,0,0,[],rfl,Frm.refl _ _,c9,.zero⟩ ?_ ?_
 ·rintro i st σ1 hi ⟨p,c,rb,css,rfl,a2,b2,a3⟩
  have ei:aT ((i:Int)+1)=((i+1:Nat):Int):=by rw [aV (by omega)];omega
  have e1:=a2.st b9 hU
  obtain ⟨x,cs,hx,b8,d6⟩:=Kp.ofRow (c8 a2) hj
  obtain ⟨q,kq,rfl,b4⟩:=b8
  have a5:=d6 1 _ (by decide) rfl
  obtain ⟨x2,cs2,d5,b1,a8⟩:=Kp.ofRow b4 hi
  generalize hv:D[j].cons[i]=v at b1
  have e4:v.args.length≤1000000:=hA v (by rw [←hv];exact List.getElem_mem hi)
  obtain ⟨q2,kq2,rfl,a7,b0⟩:=b1
  have c5:=a8 0 _ (by decide) rfl
  have c4:=a8 1 _ (by decide) rfl
  have e8:=a2.n
  have a4:Kp σ1 (aadd ⟨U,0,some 0⟩ 1) (.slice pd D.length cd):=Kp.st e1 rfl
  have b7:Kp σ1 (aadd ⟨W,0,some 0⟩ 1) (.slice p i c):=Kp.st b2 rfl
  rw [hx] at a4
  rw [d5] at a5
  have gj:(decide (0≤((j:Nat):Int))&&decide (((j:Nat):Int)<((D.length:Nat):Int)))=true:=by simp;omega
  have gi:(decide (0≤((i:Nat):Int))&&decide (((i:Nat):Int)<((D[j].cons.length:Nat):Int)))=true:=by simp;omega
  unfold T10b1
  simp only [wpS]
  rw [oF a4]
  simp only [wpS]
  rw [aQ]
  refine ⟨gj,?_⟩
  rw [Int.toNat_natCast,oF a5]
  simp only [wpS]
  rw [aC,if_pos (by simp;omega),aI,oF b7]
  simp only [wpS]
  rw [oF a4]
  simp only [wpS]
  rw [aQ]
  refine ⟨gj,?_⟩
  rw [oF a5]
  simp only [wpS]
  rw [aQ]
  refine ⟨gi,?_⟩
  rw [Int.toNat_natCast,oF c5]
  simp only [wpS]
  rw [bK,aY,cT]
  simp only [wpS]
  have a1:Frm σ1 (σ1.newBlk [] 1) NoB:=Frm.new _ _ _ _
  have d1:Row (σ1.newBlk [] 1) σ1.n 0 1 0 1 []:=Row.new σ1 1 [] 0 (by decide) rfl (by simp)
  generalize σ1.newBlk [] 1=σ4 at a1 d1 ⊢
  have e7:=a1.n
  have ckA:∀ {τ:aB},Frm σ1 τ NoB→chks [((ld1 (aadd (aadd x2 (i*2)) 0)),.string (mkB v.nm)),((ld1 (aadd (aadd x (j*2)) 1)),.slice (some x2) D[j].cons.length kq),((ld1 (aadd ⟨U,0,some 0⟩ 1)),.slice (some x) D.length cd),((ld1 (aadd ⟨W,0,some 0⟩ 1)),.slice p i c)] τ=true:=fun f=>
   bU (c5.frm f) (bU (a5.frm f) (bU (a4.frm f) (bU (b7.frm f) rfl)))
  rw [bK,aQ]
  refine ⟨ckA a1,?_⟩
  have pst:∀ {a:Addr} {w:Value},Kp σ1 a w→past (ld1 a) w [σ1]=true:=fun h=>xW fun τ hτ=>by rw [List.mem_singleton.1 hτ];exact h
  rw [oF (a4.frm a1),aQ]
  refine ⟨pst a4,?_⟩
  simp only [wpS]
  rw [aQ]
  refine ⟨gj,?_⟩
  rw [oF (a5.frm a1),aQ]
  refine ⟨pst a5,?_⟩
  simp only [wpS]
  rw [aQ]
  refine ⟨gi,?_⟩
  rw [oF (c4.frm a1),aQ]
  refine ⟨pst c4,?_⟩
  simp only [wpS]
  have a6:aR σ4 Y 1 (qZ σ1 Y) q2 v.args:=a7.later a1
  have a9:Emp σ4 Y q2:=b0.step (Y':=Y) a1 (fun _ _ h=>h.elim) fun _ _ h=>h
  refine xR (b:=σ1.n) (xs:=[]) (ys:=v.args.map cW) (.inr ⟨0,1,rfl,d1⟩) rfl (a6.src (fun _ _ h=>h) a9) (by simp) (by intro y hy;obtain ⟨j,_,rfl⟩:=List.mem_map.1 hy;rfl) (by omega) (by omega) fun σ5 kb kp kc d4 d7 d2=>?_
  have a0:Frm σ1 σ5 NoB:=a1.fresh d4 fun j hj h=>by omega
  rw [bK,aQ]
  refine ⟨ckA a0,?_⟩
  rw [Nat.zero_add]
  have b3:=a3.frmN eB a0
  have e6:=d4.n
  have b6:kp≠none→σ1.n≤kb:=fun h=>by
   rcases d7 with h2|⟨_,h2⟩|h2
   ·exact absurd h2 h
   ·omega
   ·omega
  have d8:(D[j].cons.take i).length=i:=by rw [List.length_take];omega
  refine qE (len:=i) b3.row (by rw [fB b3.cl,b3.len,d8]) (by decide) (by decide) rfl (by intro y hy;simp at hy;rcases hy with rfl|rfl<;>rfl) (by omega) (by omega) (fun τ f=>bU ((b7.frm a0).frm f) rfl) fun σ6 rb6 off6 s6 c6 c0 b5 e2=>?_
  have c3:kp≠none→¬ (kb<σ.n∨p≠none∧kb=rb):=fun h h2=>by
   have h3:=b6 h
   rcases h2 with h2|⟨h2,h4⟩
   ·omega
   ·have:=a3.lt h2
    omega
  have e3:=b3.more eB (fun j h=>by omega) (b:=v) rfl ⟨kp,kc,rfl,slV_strs2 (by simpa using d2) c3,d2.emp c3⟩ c0 b5 e2
  have d9:¬ (p≠none∧W=rb):=fun h=>a3.hr h.1 (by show rb<σ.n;omega)
  refine bB (c0.st (a0.stN b2) d9) (by simp) rfl fun σ7 d3 e5 d0=>?_
  simp only [List.set_cons_succ,List.set_cons_zero] at d0
  simp only [wpS,T10k1,ei]
  have c1:Frm σ σ6 (· =W):=(a2.seq a0.no).trans c0 (fun _ _ h=>h) fun j hj h=>absurd hj (a3.hr h.1 |> fun h2=>by rw [h.2];exact h2)
  rw [List.take_succ_eq_append_getElem hi,hv]
  exact ⟨_,_,rb6,_,trivial,c1.seq d3,d0,e3.frm eB d3 fun j _ h=>by rw [h];exact e0⟩
 ·rintro st σ1 ⟨p,c,rb,css,rfl,a2,b2,a3⟩
  unfold T10b1
  simp only [wpS]
  rw [aE (a2.st b9 hU) (v:=.slice pd D.length cd) rfl]
  simp only [wpS]
  refine dI (c8 a2) hj rfl (o:=1) (by decide) fun cs b8=>?_
  obtain ⟨q,kq,rfl,_⟩:=b8
  refine ⟨_,rfl,?_⟩
  simp only [wpS]
  rw [aC,if_neg (by simp)]
  simp only [wpS]
  rw [List.take_length] at a3
  exact k σ1 p c rb css a2 b2 a3
theorem yh (hU:U≠V) (a6:St σ U [.slice pn N.length cn,.slice pd D.length cd]) {v0:Value} (b5:St σ V [v0,.slice none 0 0]) (hT:aR σ (· =V) 2 (dcR σ (· =V)) pd D) (hD:D.length≤1000000) (hC:∀ d∈D,d.cons.length≤1000000) (hA:∀ d∈D,∀ c∈d.cons,c.args.length≤1000000) {K:Ex→List Value→Pg} {Q:cN}
  (k:∀ σ' p c rb css,Frm σ σ' (· =V)→St σ' V [v0,.slice p D.length c]→GR dcR 2 σ' (fun j=>j<σ.n) rb D css p c→Wp aG ovD (K (.exit 2) [.int .i64 ((D.length:Nat):Int)]) σ' Q):
  Wp aG ovD (.loop [.int .i64 0] (T10b2 ⟨U,0,some 0⟩ ⟨V,0,some 0⟩) K) σ Q:=by
 have e2:=a6.1
 have c6:=b5.1
 have d1:∀ {τ:aB},Frm σ τ (· =V)→aR τ (· =V) 2 (dcR τ (· =V)) pd D:=fun f=>aR.step f (fun _ _ h=>h) (fun _ _ h=>h) (fun _ _ h=>cU _ _ _ _ _ _ _ f (fun _ _ h=>h) (fun _ _ h=>h) h) hT
 refine Wp.count D.length (fun i st σ'=>∃ p c rb css,st=[.int .i64 ((i:Nat):Int)]∧Frm σ σ' (· =V)∧St σ' V [v0,.slice p i c]∧GR dcR 2 σ' (fun j=>j<σ.n) rb (D.take i) css p c)
  ⟨none,0,0,[],rfl,Frm.refl _ _,b5,.zero⟩ ?_ ?_
 ·rintro i st σ1 hi ⟨p,c,rb,css,rfl,a2,a8,a1⟩
  have ei:aT ((i:Int)+1)=((i+1:Nat):Int):=by rw [aV (by omega)];omega
  have a5:=a2.st a6 hU
  have e1:=a2.n
  have b4:=d1 a2
  unfold T10b2
  simp only [wpS]
  rw [aE a5 (v:=.slice pd D.length cd) rfl]
  simp only [wpS]
  rw [aC,if_pos (by simp;omega),aI,aE a5 (v:=.slice pd D.length cd) rfl]
  simp only [wpS]
  refine dI b4 hi rfl (o:=0) (by decide) fun cs c1=>?_
  obtain ⟨q,kq,rfl,_⟩:=c1
  refine ⟨_,rfl,?_⟩
  simp only [wpS]
  refine aP fun σ2 d7 e0 b6=>?_
  generalize hW:σ1.n=W at b6
  refine bC b6 rfl rfl fun σ3 d6 d9 d3=>?_
  have a0:Frm σ1 σ3 NoB:=d7.fresh d6 fun j hj h=>by omega
  have c9:=a0.stN a5
  have d0:aR σ3 (fun j=>j=V∨j=W) 2 (dcR σ3 (fun j=>j=V∨j=W)) pd D:=by
   have hy:∀ j,j<σ1.n→(j=V∨j=W)→j=V:=fun j h1 h2=>by omega
   exact aR.step a0 (fun _ _ h=>h.elim) hy (fun _ _ h=>cU _ _ _ _ _ _ _ a0 (fun _ _ h=>h.elim) hy h) b4
  have c7:V≠W:=by omega
  refine wp_made_cons hi (by omega) c9 d3 (.inr rfl) d0 (hC _ (List.getElem_mem hi)) (hA _ (List.getElem_mem hi)) fun σ4 p4 c4 rb4 css4 b0 d2 d5=>?_
  simp only [wpS,T10k2]
  have c8:=a0.stN a8
  have b3:=b0.st c8 c7
  rw [aE b3 (v:=.slice p i c) rfl]
  simp only [wpS]
  rw [aS d2 2 rfl]
  simp only [wpS]
  have a4:Frm σ1 σ4 NoB:=a0.fresh b0 fun j hj h=>by omega
  have a9:=a1.frmN cU a4
  have c0:=a0.n
  have hb:dcR σ4 (fun j=>j<σ.n∨p≠none∧j=rb) [.string (mkB D[i].nm),.slice p4 D[i].cons.length c4] D[i]:=by
   refine cU σ4 σ4 NoB (fun j=>j<σ3.n) _ _ _ (Frm.refl _ _) (fun _ _ h=>h.elim) ?_ ⟨p4,c4,rfl,d5.close eB (by decide)⟩
   rintro j _ (h|⟨h1,h2⟩)
   ·omega
   ·have:=a1.lt h1;omega
  have b2:(D.take i).length=i:=by rw [List.length_take];omega
  have a3:=uj (P:=aG) (ov:=ovD) (byt:=40) (Q:=fun e vs σ'=>Wp aG ovD (T10k3 ((i:Nat):Int) e vs) σ' fun e st' σ'=>match e with
    | .normal=>∃ p c rb css,st'=[.int .i64 ((i+1:Nat):Int)]∧Frm σ σ' (· =V)∧St σ' V [v0,.slice p (i+1) c]∧GR dcR 2 σ' (fun j=>j<σ.n) rb (D.take (i+1)) css p c
    |e=>Wp aG ovD (K e st') σ' Q) cU (fun j h=>by have:=b0.n;omega) a9 (by decide) (by decide) rfl (by intro y hy;simp at hy;rcases hy with rfl|rfl<;>rfl) hb (by omega) (by decide)
    (g:=fun p' n' c'=>.act (stC (aadd ⟨V,0,some 0⟩ 1) [.slice p' n' c']) fun v=>cE v fun l=>aA l (.ret .normal [])) fun σ5 rb5 p5 c5 b8 b9 d4=>by
   have c3:¬ (p≠none∧V=rb):=fun h=>a1.hr h.1 (by show rb<σ.n;omega)
   refine bB (b8.st b3 c3) (by simp) rfl fun σ6 b7 d8 a7=>?_
   simp only [List.set_cons_succ,List.set_cons_zero] at a7
   simp only [wpS,T10k3,ei]
   rw [b2] at a7
   have b1:Frm σ σ5 (· =V):=(a2.seq a4.no).trans b8 (fun _ _ h=>h) fun j hj h=>absurd hj (a1.hr h.1 |> fun h2=>by rw [h.2];exact h2)
   rw [List.take_succ_eq_append_getElem hi]
   exact ⟨_,_,rb5,_,trivial,b1.seq b7,a7,d4.frm cU b7 fun j _ h=>by rw [h];exact c6⟩
  rw [b2] at a3
  exact a3
 ·rintro st σ1 ⟨p,c,rb,css,rfl,a2,a8,a1⟩
  unfold T10b2
  simp only [wpS]
  rw [aE (a2.st a6 hU) (v:=.slice pd D.length cd) rfl]
  simp only [wpS]
  rw [aC,if_neg (by simp)]
  simp only [wpS]
  rw [List.take_length] at a1
  exact k σ1 p c rb css a2 a8 a1
end
end Go.Pg
namespace Go.Pg
open Go.Proofs Go.Utf8 Go.Lib
set_option linter.unusedSimpArgs false
section
variable {σ:aB}
theorem wp_made12 (S:List UInt8) {Q:Value→aB→Prop}
  (b9:1500<S.length∨jR S=none→∀ pn cn pd cd σ',Frm σ σ' NoB→Q (.tuple #[trV pn 0 cn pd 0 cd,.bool false]) σ')
  (b0:∀ N D,S.length≤1500→jR S=some (N,D)→∀ pn cn pd cd σ',Frm σ σ' NoB→dK σ' (fun j=>j<σ.n) pn N pd D→(∀ v∈N,v.kids.length≤1000000)→D.length≤1000000→(∀ d∈D,d.cons.length≤1000000)→(∀ d∈D,∀ c∈d.cons,c.args.length≤1000000)→(cR D).length≤100000000→Q (.tuple #[trV pn N.length cn pd D.length cd,.bool true]) σ'):
  WpF aG ovD 10 [.string (mkB S)] σ Q:=by
 refine WpF.of (T10_eq _) rfl ?_
 rw [T10]
 refine aP fun σ1 c9 f8 b3=>?_
 generalize hA:σ.n=A at b3
 rw [aC]
 have f1:=bW S
 by_cases f0:1500<S.length
 ·rw [if_pos (by simp;omega)]
  refine bC b3 rfl rfl fun σ2 a0 d1 b2=>?_
  rw [aS b2 2 rfl]
  simp only [wpS]
  exact ⟨_,rfl,b9 (.inl f0) _ _ _ _ σ2 (c9.fresh a0 fun j hj h=>by omega)⟩
 rw [if_neg (by simp;omega),aD]
 have core:∀ (N:List NV) (D:List Dc) (pn pd:Option Addr) (cn cd:Nat) (e a:Int) (σ2:aB),Frm σ1 σ2 NoB→dK σ2 (fun j=>j<σ1.n) pn N pd D→(∀ v∈N,v.kids.length≤1000000)→N.length≤1000000→D.length≤1000000→(∀ d∈D,d.cons.length≤1000000)→(∀ d∈D,∀ c∈d.cons,c.args.length≤1000000)→
   (∀ pn' cn' pd' cd' σ',Frm σ σ' NoB→dK σ' (fun j=>j<A) pn' N pd' D→Q (.tuple #[trV pn' N.length cn' pd' D.length cd',.bool (e==0)]) σ')→
   Wp aG ovD (cE (.tuple #[trV pn N.length cn pd D.length cd,.int .i64 e,.int .i64 a]) fun l8=>aM l8 fun v9 l10=>asAgg v9 fun l11=>aM l11 fun v12 l13=>aN v12 fun p14 n15 n16=>aM l13 fun v17 l18=>aN v17 fun p19 n20 n21=>aA l18 (aM l10 fun v22 l23=>asInt .i64 v22 fun i24=>aM l23 fun v25 l26=>asInt .i64 v25 fun i27=>aA l26 (.act (newC [(.slice none 0 0),(.slice none 0 0)]) fun v28=>aK v28 fun p29=>aF p29 fun a30=>.act (stC a30 [(.slice p14 n15 n16),(.slice p19 n20 n21)]) fun v31=>cE v31 fun l32=>aA l32 (.act (newC [(.slice none 0 0),(.slice none 0 0)]) fun v33=>aK v33 fun p34=>aF p34 fun a35=>.act (stC a35 [(.slice none 0 0),(.slice none 0 0)]) fun v36=>cE v36 fun l37=>aA l37 (.loop [(.int .i64 0)] (T10b0 a30 a35) (T10k5 a30 a35 ⟨A,0,some 0⟩ i24)))))) σ2 fun _ vs σ'=>∃ v,vs=[v]∧Q v σ':=by
  intro N D pn pd cn cd e a σ2 a0 d6 hK hN hD hC a9 hq
  simp only [wpS]
  have b2:=a0.stN b3
  have d1:=a0.n
  refine aP fun σ3 e7 f7 c5=>?_
  generalize hU:σ2.n=U at c5
  refine bC c5 rfl rfl fun σ4 e6 f6 e1=>?_
  have a3:Frm σ2 σ4 NoB:=e7.fresh e6 fun j hj h=>by omega
  refine aP fun σ5 e5 f5 c4=>?_
  generalize hV:σ4.n=V at c4
  refine bC c4 rfl rfl fun σ6 e4 f4 c3=>?_
  have a7:Frm σ4 σ6 NoB:=e5.fresh e4 fun j hj h=>by omega
  have c0:=a7.stN e1
  have a2:=a3.seq a7
  have c1:dK σ6 (· =V) pn N pd D:=d6.step (S:=NoB) a2 (fun _ _ h=>h.elim) fun j hj h=>by omega
  have b1:U≠V:=by omega
  have a4:Frm σ σ6 NoB:=(c9.seq a0).seq a2
  have a5:=a2.stN b2
  refine yo b1 c0 c3 c1 hK hN fun σ7 p7 c7 rb7 css7 a8 e0 e3=>?_
  simp only [wpS,T10k5]
  have d4:=a8.st c0 b1
  have d5:aR σ7 (· =V) 2 (dcR σ7 (· =V)) pd D:=(c1.step (Y':=(· =V)) a8 (fun _ _ h=>h) fun _ _ h=>h).decls
  refine yh b1 d4 e0 d5 hD hC a9 fun σ8 p8 c8 rb8 css8 c6 d9 e2=>?_
  simp only [wpS,T10k4]
  rw [aS d9 2 rfl]
  simp only [wpS]
  have a6:=a8.seq c6
  have b8:Frm σ σ8 NoB:=a4.fresh a6 fun j hj h=>by have:=a4.n;have:=a3.n;omega
  have e9:A≠V:=by have:=a3.n;omega
  refine bC (a6.st a5 e9) rfl rfl fun σ9 b6 f2 d8=>?_
  rw [aS d8 2 rfl]
  simp only [wpS]
  have b7:Frm σ σ9 NoB:=b8.fresh b6 fun j hj h=>by omega
  have d0:=a4.n
  have f3:=a8.n
  have e8:A<σ6.n:=by have:=a5.1;exact this
  have d3:V<σ6.n:=c3.1
  refine ⟨_,rfl,hq _ _ _ _ σ9 b7 ⟨?_,?_⟩⟩
  ·have b5:=e3.frm dE c6 fun j _ h=>by rw [h];exact d3
   have b4:=b5.frm dE b6 fun j _ h=>by rw [h];exact e8
   have a1:=GR.step (S:=NoB) (Y':=fun j=>j<A) dE b4 (Frm.refl _ _) (fun _ _ h=>h.elim) fun j _ h=>by show j<σ6.n;omega
   exact a1.close dE (by decide)
  ·have b4:=e2.frm cU b6 fun j _ h=>by rw [h];show A<σ7.n;omega
   have a1:=GR.step (S:=NoB) (Y':=fun j=>j<A) cU b4 (Frm.refl _ _) (fun _ _ h=>h.elim) fun j _ h=>by show j<σ7.n;omega
   exact a1.close cU (by decide)
 refine wp_Parse25 S (by omega) ?_ ?_
 ·intro hd e a σ2 a0 he
  refine core [] [] none none 0 0 e a σ2 a0 ⟨aR.nil,aR.nil⟩ (by simp) (by simp) (by simp) (by simp) (by simp) fun pn' cn' pd' cd' σ' hF _=>?_
  have:(e==0)=false:=by simpa using he
  rw [this]
  exact b9 (.inr hd) _ _ _ _ σ' hF
 ·intro N D hd pn cn pd cd σ2 a0 hT hK hD hC a9 d2
  have hg:=vm hd
  refine core N D pn pd cn cd 0 0 σ2 a0 hT hK (Nat.le_trans hg.most (by decide)) hD hC a9 fun pn' cn' pd' cd' σ' hF d7=>?_
  have h:=b0 N D (by omega) hd pn' cn' pd' cd' σ' hF (by rw [hA];exact d7) hK hD hC a9 d2
  exact h
end
end Go.Pg
namespace Go.Pg
def Tri.bnd:Tri→Nat
 | .nil=>0
 | .node _ l r=>max 1 (max (2*l.bnd) (bif Nat.beq r.bnd 0 then 0 else 2*r.bnd+1))
theorem Tri.bnd_ok:∀ (t:Tri) (j:Nat),t.bnd≤j→t.get j=none
 | .nil,j,_=>by cases j<;>rfl
 | .node v l r,j,h=>by
  unfold Tri.bnd at h
  cases j with
  |zero=>omega
  |succ m=>
   unfold Tri.get
   simp only
   cases hm:Nat.beq (m % 2) 0 with
   |true=>
    have:m % 2=0:=Nat.eq_of_beq_eq_true hm
    exact Tri.bnd_ok l _ (by omega)
   |false=>
    have a0:m % 2≠0:=fun e=>by rw [e] at hm;cases hm
    refine Tri.bnd_ok r _ ?_
    cases hr:Nat.beq r.bnd 0 with
    |true=>
     have:=Nat.eq_of_beq_eq_true hr
     omega
    |false=>
     rw [hr] at h
     simp only [cond_false] at h
     omega
def goodR:Option (Value × aB)→Bool
 |some (.bool b,σ)=>b&&Nat.ble σ.mem.bnd σ.n
 |_=>false
def oldR (old:Addr→Option Value):Option (Value × aB)→Addr→Option Value
 |some (_,σ)=>σ.old
 |none=>old
theorem WpF.tabQ {P:Program} {ov:Ov} {tab:Tab} (ht:mW P tab) {f:FuncId} {args:List Value} {old:Addr→Option Value} (n:Nat) (h:goodR (kI ov tab n f args (iZ old))=true) (ho:oldR old (kI ov tab n f args (iZ old))=old):
  WpF P ov f args (iZ old) fun v σ'=>v=.bool true∧σ'.old=old∧mI σ':=by
 cases hx:kI ov tab n f args (iZ old) with
 |none=>rw [hx] at h;cases h
 |some r=>
  obtain ⟨v,σ'⟩:=r
  rw [hx] at h ho
  refine ⟨v,σ',EvF.tab ht n hx,?_⟩
  unfold goodR at h
  split at h
  ·rename_i a0
   simp only [Option.some.injEq,Prod.mk.injEq] at a0
   obtain ⟨rfl,rfl⟩:=a0
   simp only [Bool.and_eq_true,Nat.ble_eq] at h
   exact ⟨by rw [h.1],ho,fun j hj=>Tri.bnd_ok _ _ (Nat.le_trans h.2 hj)⟩
  ·cases h
end Go.Pg
namespace Go.Pg
theorem awake8 (old:Addr→Option Value):WpF aG ovD 9 [] (iZ old) fun v σ'=>v=.bool true∧σ'.old=old∧mI σ':=
 WpF.tabQ TAB_ok 1000000 (by kernel_rfl) (by kernel_rfl)
end Go.Pg
namespace Go.Pg
open Go.Proofs Go.Utf8 Go.Lib
set_option linter.unusedSimpArgs false
theorem vr_spot {B n c:Nat} {v:Value} {p:Option Addr} (h:VR noInj B (.slice p n c) v):∀ q,p=some q→q.spot=none:=by
 intro q hq
 cases h with
 |sliceNil=>cases hq
 |sliceZero _ _ hl=>
  cases hq
  cases hs:q.spot with
  |none=>rfl
  |some v=>
   obtain ⟨i,hi⟩:=hl v hs
   cases hi
 |sliceOld=>
  cases hq
  assumption
 |sliceNew h=>cases h
section
variable {σ σ':aB} {X Y Z:Nat→Prop} {A:Nat} {T:TrA} {N:List NV} {D:List Dc} {s:Slt} {m:MS}
theorem row_in {old:Addr→Option Value} (ho:σ.old=old) {p:Option Addr} {l:List Int} (h:RdR old 1 (.int .i64) p l) (hs:∀ q,p=some q→q.spot=none):aR σ Y 1 tZ p l:=by
 intro i hi
 obtain ⟨x,hx,h1⟩:=h i hi
 refine ⟨x,[.int .i64 l[i]],hx,.inl (hs x hx),?_,rfl⟩
 have:=(rdN_cl (σ:=σ) ho (a:=aadd x (i*1)) (vs:=[.int .i64 l[i]]) (by simp) fun j v hv=>by
  have hj:=(List.getElem?_eq_some_iff.1 hv).1
  have hj:j=0:=by simpa using hj
  subst hj
  simp at hv
  subst hv
  exact h1).2
 exact this
theorem emp_in {p:Option Addr} (hs:∀ q,p=some q→q.spot=none):Emp σ Y p:=by
 intro a ha
 have h:=hs a ha
 refine ⟨.inl h,?_⟩
 obtain ⟨b,o,s⟩:=a
 simp only at h
 subst h
 rfl
theorem emp_step {p:Option Addr} (h:Emp σ Y p) (f:Frm σ σ' NoB):Emp σ' Y p:=h.step (S:=NoB) f (fun _ _ h=>h.elim) fun _ _ h=>h
theorem row9_step {p:Option Addr} {l:List Int} (h:aR σ Y 1 tZ p l) (f:Frm σ σ' NoB):aR σ' Y 1 tZ p l:=aR.step (S:=NoB) f (fun _ _ h=>h.elim) (fun _ _ h=>h) (fun _ _ h=>h) h
theorem inpB_true {l:List Int} (h:inpB l=true):(∀ x∈l,w63 x=x)∧l.length≤20:=by
 unfold inpB at h
 simpa using h
end
end Go.Pg
namespace Go.Pg
set_option maxRecDepth 10000
def preS:List UInt8:=[108,101,116,32,114,101,99,32,102,32,110,32,61,32,105,102,32,110,32,60,32,49,32,116,104,101,110,32,48,32,101,108,115,101,32,40,108,101,116,32,120,32,61,32,114,101,97,100,32,105,110,32,120,32,43,32,102,32,40,110,32,45,32,49,41,41,32,105,110,32,112,114,105,110,116,32,40,102,32]
def mQ (n:Nat):List UInt8:=preS++[UInt8.ofNat (48+n / 10),UInt8.ofNat (48+n % 10)]++[41]
def NS (n:Nat):List NV:=
 [⟨{ k:=9,nm:=[102],pm:=[110],fr:=0,to:=81 },[1,15]⟩,⟨{ k:=10,fr:=14,to:=64 },[2,5,6]⟩,⟨{ k:=14,nm:=[60],fr:=17,to:=22 },[3,4]⟩,⟨{ k:=4,nm:=[110],fr:=17,to:=18 },[]⟩,
 ⟨{ k:=1,n:=1,fr:=21,to:=22 },[]⟩,⟨{ k:=1,fr:=28,to:=29 },[]⟩,⟨{ k:=8,nm:=[120],fr:=36,to:=64 },[7,8]⟩,⟨{ k:=18,fr:=44,to:=48 },[]⟩,⟨{ k:=14,nm:=[43],fr:=52,to:=64 },[9,10]⟩,
 ⟨{ k:=4,nm:=[120],fr:=52,to:=53 },[]⟩,⟨{ k:=7,fr:=56,to:=64 },[11,12]⟩,⟨{ k:=4,nm:=[102],fr:=56,to:=57 },[]⟩,⟨{ k:=14,nm:=[45],fr:=59,to:=64 },[13,14]⟩,⟨{ k:=4,nm:=[110],fr:=59,to:=60 },[]⟩,
 ⟨{ k:=1,n:=1,fr:=63,to:=64 },[]⟩,⟨{ k:=17,fr:=70,to:=81 },[16]⟩,⟨{ k:=7,fr:=77,to:=81 },[17,18]⟩,⟨{ k:=4,nm:=[102],fr:=77,to:=78 },[]⟩,⟨{ k:=1,n:=(n:Int),fr:=79,to:=81 },[]⟩]
def bQ (N:List NV) (n:Nat) (m m':MS):Prop:=∀ s t,∃ s' t',eI N n { m with steps:=s,stops:=t }=({ m' with steps:=s',stops:=t' },n)
section
variable {N:List NV} {m m' m'':MS}
theorem bQ.trans {a b:Nat} (h:bQ N a m m') (k:bQ N b m' m''):bQ N (a+b) m m'':=fun s t=>by
 obtain ⟨s1,t1,h1⟩:=h s t
 obtain ⟨s2,t2,h2⟩:=k s1 t1
 refine ⟨s2,t2,?_⟩
 rw [oU,h1]
 simp only
 rw [h2]
theorem bQ.one (h0:m.over=0) (h:∀ s t,∃ s' t',jV N { m with steps:=s,stops:=t }={ m' with steps:=s',stops:=t' }):bQ N 1 m m':=fun s t=>by
 obtain ⟨s1,t1,h1⟩:=h s t
 refine ⟨s1,t1,?_⟩
 rw [jA (show ({ m with steps:=s,stops:=t }:MS).over=0 from h0),h1]
 try rfl
end
def stS (l:List Int) (r:Nat) (out:List Int) (back:Bool) (v:Vl) (at_:Nat) (env:En) (k:List Wt) (c:List (Int × Int)):MS:=⟨l,r,out,[],0,0,0,0,0,back,v,at_,env,k,c⟩
section
variable {n:Nat} {l:List Int} {r:Nat} {out:List Int} {v:Vl} {at_:Nat} {env:En} {k:List Wt} {c d:List (Int × Int)} {j z:Int} {e u:En}
abbrev eF:En:=.cons [102] (kL 0 .nil) .nil
abbrev eN (j:Int):En:=.cons [110] (bN j) eF
theorem s1:bQ (NS n) 1 (stS l r out false v 1 env k c) (stS l r out false v 2 env (⟨some 1,env,[],c⟩::k) c):=bQ.one rfl fun _s _t=>⟨_,_,rfl⟩
theorem s2:bQ (NS n) 1 (stS l r out false v 2 env k c) (stS l r out false v 3 env (⟨some 2,env,[],c⟩::k) c):=bQ.one rfl fun _s _t=>⟨_,_,rfl⟩
theorem s3:bQ (NS n) 1 (stS l r out false v 3 (eN j) (⟨some 2,env,[],d⟩::k) c) (stS l r out false v 4 env (⟨some 2,env,[bN j],d⟩::k) c):=bQ.one rfl fun _s _t=>⟨_,_,rfl⟩
theorem s4:bQ (NS n) 1 (stS l r out false v 4 env (⟨some 2,e,[bN j],d⟩::k) c) (stS l r out true (iW (decide (w63 j<w63 1))) 4 env k c):=bQ.one rfl fun _s _t=>⟨_,_,rfl⟩
theorem s5:bQ (NS n) 1 (stS l r out true (iW true) 4 env (⟨some 1,e,[],d⟩::k) c) (stS l r out false (iW true) 5 e k c):=bQ.one rfl fun _s _t=>⟨_,_,rfl⟩
theorem s5f:bQ (NS n) 1 (stS l r out true (iW false) 4 env (⟨some 1,e,[],d⟩::k) c) (stS l r out false (iW false) 6 e k c):=bQ.one rfl fun _s _t=>⟨_,_,rfl⟩
theorem s6:bQ (NS n) 1 (stS l r out false v 5 env (⟨none,.nil,[],d⟩::k) c) (stS l r out true (bN 0) 5 env k d):=bQ.one rfl fun _s _t=>⟨_,_,rfl⟩
theorem s6f:bQ (NS n) 1 (stS l r out false v 6 env k c) (stS l r out false v 7 env (⟨some 6,env,[],c⟩::k) c):=bQ.one rfl fun _s _t=>⟨_,_,rfl⟩
theorem s7 (hr:r<l.length):bQ (NS n) 1 (stS l r out false v 7 env k c) (stS l (r+1) out true (bN (l.getD r 0)) 7 env k c):=bQ.one rfl fun s t=>by
 have e:sK (gH (NS n) { stS l r out false v 7 env k c with steps:=s,stops:=t })=MS.value { gH (NS n) { stS l r out false v 7 env k c with steps:=s,stops:=t } with read:=r+1 } (bN (l.getD r 0)):=by
  unfold sK
  exact if_neg (show ¬ l.length≤r by omega)
 exact ⟨_,_,e⟩
theorem s8:bQ (NS n) 1 (stS l r out true v 7 env (⟨some 6,e,[],d⟩::k) c) (stS l r out false v 8 (.cons [120] v e) k c):=bQ.one rfl fun _s _t=>⟨_,_,rfl⟩
theorem s9:bQ (NS n) 1 (stS l r out false v 8 env k c) (stS l r out false v 9 env (⟨some 8,env,[],c⟩::k) c):=bQ.one rfl fun _s _t=>⟨_,_,rfl⟩
theorem s10:bQ (NS n) 1 (stS l r out false v 9 (.cons [120] (bN z) u) (⟨some 8,e,[],d⟩::k) c) (stS l r out false v 10 e (⟨some 8,e,[bN z],d⟩::k) c):=bQ.one rfl fun _s _t=>⟨_,_,rfl⟩
theorem s11:bQ (NS n) 1 (stS l r out false v 10 env k c) (stS l r out false v 11 env (⟨some 10,env,[],c⟩::k) c):=bQ.one rfl fun _s _t=>⟨_,_,rfl⟩
theorem s12:bQ (NS n) 1 (stS l r out false v 11 (.cons [120] (bN z) (eN j)) (⟨some 10,e,[],d⟩::k) c) (stS l r out false v 12 e (⟨some 10,e,[kL 0 .nil],d⟩::k) c):=bQ.one rfl fun _s _t=>⟨_,_,rfl⟩
theorem s13:bQ (NS n) 1 (stS l r out false v 12 env k c) (stS l r out false v 13 env (⟨some 12,env,[],c⟩::k) c):=bQ.one rfl fun _s _t=>⟨_,_,rfl⟩
theorem s14:bQ (NS n) 1 (stS l r out false v 13 (.cons [120] (bN z) (eN j)) (⟨some 12,e,[],d⟩::k) c) (stS l r out false v 14 e (⟨some 12,e,[bN j],d⟩::k) c):=bQ.one rfl fun _s _t=>⟨_,_,rfl⟩
theorem s15:bQ (NS n) 1 (stS l r out false v 14 env (⟨some 12,e,[bN j],d⟩::k) c) (stS l r out true (bN (aT (w63 j - w63 1))) 14 env k c):=bQ.one rfl fun _s _t=>⟨_,_,rfl⟩
theorem s16:bQ (NS n) 1 (stS l r out true (bN z) 14 env (⟨some 10,e,[kL 0 .nil],d⟩::k) c) (stS l r out false (bN z) 1 (eN z) (⟨none,.nil,[],c⟩::k) ((((10:Nat):Int),((0:Nat):Int))::c)):=bQ.one rfl fun _s _t=>⟨_,_,rfl⟩
theorem s17:bQ (NS n) 1 (stS l r out true (bN j) at_ env (⟨some 8,e,[bN z],d⟩::k) c) (stS l r out true (bN (aT (w63 z+w63 j))) at_ env k c):=bQ.one rfl fun _s _t=>⟨_,_,rfl⟩
theorem s18:bQ (NS n) 1 (stS l r out true v at_ env (⟨none,.nil,[],d⟩::k) c) (stS l r out true v at_ env k d):=bQ.one rfl fun _s _t=>⟨_,_,rfl⟩
theorem t1:bQ (NS n) 1 (stS l r out false v 0 .nil k c) (stS l r out false v 15 eF k c):=bQ.one rfl fun _s _t=>⟨_,_,rfl⟩
theorem t2:bQ (NS n) 1 (stS l r out false v 15 env k c) (stS l r out false v 16 env (⟨some 15,env,[],c⟩::k) c):=bQ.one rfl fun _s _t=>⟨_,_,rfl⟩
theorem t3:bQ (NS n) 1 (stS l r out false v 16 env k c) (stS l r out false v 17 env (⟨some 16,env,[],c⟩::k) c):=bQ.one rfl fun _s _t=>⟨_,_,rfl⟩
theorem t4:bQ (NS n) 1 (stS l r out false v 17 eF (⟨some 16,e,[],d⟩::k) c) (stS l r out false v 18 e (⟨some 16,e,[kL 0 .nil],d⟩::k) c):=bQ.one rfl fun _s _t=>⟨_,_,rfl⟩
theorem t5:bQ (NS n) 1 (stS l r out false v 18 env (⟨some 16,e,[kL 0 .nil],d⟩::k) c) (stS l r out false v 1 (eN (n:Int)) (⟨none,.nil,[],c⟩::k) ((((16:Nat):Int),((0:Nat):Int))::c)):=bQ.one rfl fun _s _t=>⟨_,_,rfl⟩
theorem t6:bQ (NS n) 1 (stS l r out true (bN z) at_ env (⟨some 15,e,[],d⟩::k) c) (stS l r (out++[w63 z]) true nH at_ env k c):=bQ.one rfl fun _s _t=>⟨_,_,rfl⟩
theorem t7:bQ (NS n) 1 (stS l r out true v at_ env [] c) { (stS l r out true v at_ env [] c) with over:=1 }:=bQ.one rfl fun _s _t=>⟨_,_,rfl⟩
end
def uZ:List Int→Int
 |[]=>0
 |x::t=>aT (w63 x+w63 (uZ t))
theorem less0:decide (w63 ((0:Nat):Int)<w63 1)=true:=by decide
theorem lessS:∀ j:Nat,j<15→decide (w63 ((j+1:Nat):Int)<w63 1)=false:=by decide
theorem pred15:∀ j:Nat,j<15→aT (w63 ((j+1:Nat):Int) - w63 1)=((j:Nat):Int):=by decide
section
variable {n:Nat} {l:List Int} {r:Nat} {out:List Int} {v:Vl} {env:En} {k:List Wt} {c:List (Int × Int)} {j z:Int}
theorem pA:bQ (NS n) 3 (stS l r out false v 1 (eN j) k c) (stS l r out false v 4 (eN j) (⟨some 2,eN j,[bN j],c⟩::⟨some 1,eN j,[],c⟩::k) c):=(s1.trans s2).trans s3
theorem pB (hj:decide (w63 j<w63 1)=true):bQ (NS n) 2 (stS l r out false v 4 (eN j) (⟨some 2,eN j,[bN j],c⟩::⟨some 1,eN j,[],c⟩::k) c) (stS l r out false (iW true) 5 (eN j) k c):=by
 have h:bQ (NS n) 1 (stS l r out false v 4 (eN j) (⟨some 2,eN j,[bN j],c⟩::⟨some 1,eN j,[],c⟩::k) c) (stS l r out true (iW (decide (w63 j<w63 1))) 4 (eN j) (⟨some 1,eN j,[],c⟩::k) c):=s4
 rw [hj] at h
 exact h.trans s5
theorem pC (hj:decide (w63 j<w63 1)=false):bQ (NS n) 2 (stS l r out false v 4 (eN j) (⟨some 2,eN j,[bN j],c⟩::⟨some 1,eN j,[],c⟩::k) c) (stS l r out false (iW false) 6 (eN j) k c):=by
 have h:bQ (NS n) 1 (stS l r out false v 4 (eN j) (⟨some 2,eN j,[bN j],c⟩::⟨some 1,eN j,[],c⟩::k) c) (stS l r out true (iW (decide (w63 j<w63 1))) 4 (eN j) (⟨some 1,eN j,[],c⟩::k) c):=s4
 rw [hj] at h
 exact h.trans s5f
theorem pD (hr:r<l.length) (hz:l.getD r 0=z):bQ (NS n) 3 (stS l r out false v 6 env k c) (stS l (r+1) out false (bN z) 8 (.cons [120] (bN z) env) k c):=by
 have h:=s7 (n:=n) (out:=out) (v:=v) (env:=env) (k:=⟨some 6,env,[],c⟩::k) (c:=c) hr
 rw [hz] at h
 exact (s6f.trans h).trans s8
theorem pE:bQ (NS n) 4 (stS l r out false v 8 (.cons [120] (bN z) (eN j)) k c) (stS l r out false v 12 (.cons [120] (bN z) (eN j)) (⟨some 10,.cons [120] (bN z) (eN j),[kL 0 .nil],c⟩::⟨some 8,.cons [120] (bN z) (eN j),[bN z],c⟩::k) c):=by
 have h0:bQ (NS n) 1 (stS l r out false v 8 (.cons [120] (bN z) (eN j)) k c) (stS l r out false v 9 (.cons [120] (bN z) (eN j)) (⟨some 8,.cons [120] (bN z) (eN j),[],c⟩::k) c):=s9
 have h1:bQ (NS n) 1 (stS l r out false v 9 (.cons [120] (bN z) (eN j)) (⟨some 8,.cons [120] (bN z) (eN j),[],c⟩::k) c) (stS l r out false v 10 (.cons [120] (bN z) (eN j)) (⟨some 8,.cons [120] (bN z) (eN j),[bN z],c⟩::k) c):=s10
 have h2:bQ (NS n) 1 (stS l r out false v 10 (.cons [120] (bN z) (eN j)) (⟨some 8,.cons [120] (bN z) (eN j),[bN z],c⟩::k) c) (stS l r out false v 11 (.cons [120] (bN z) (eN j)) (⟨some 10,.cons [120] (bN z) (eN j),[],c⟩::⟨some 8,.cons [120] (bN z) (eN j),[bN z],c⟩::k) c):=s11
 have h3:bQ (NS n) 1 (stS l r out false v 11 (.cons [120] (bN z) (eN j)) (⟨some 10,.cons [120] (bN z) (eN j),[],c⟩::⟨some 8,.cons [120] (bN z) (eN j),[bN z],c⟩::k) c) (stS l r out false v 12 (.cons [120] (bN z) (eN j)) (⟨some 10,.cons [120] (bN z) (eN j),[kL 0 .nil],c⟩::⟨some 8,.cons [120] (bN z) (eN j),[bN z],c⟩::k) c):=s12
 have z:=((h0.trans h1).trans h2).trans h3
 exact z
theorem pF {z':Int} (hz:aT (w63 j - w63 1)=z'):bQ (NS n) 4 (stS l r out false v 12 (.cons [120] (bN z) (eN j)) (⟨some 10,.cons [120] (bN z) (eN j),[kL 0 .nil],c⟩::k) c) (stS l r out false (bN z') 1 (eN z') (⟨none,.nil,[],c⟩::k) ((((10:Nat):Int),((0:Nat):Int))::c)):=by
 have h0:bQ (NS n) 1 (stS l r out false v 12 (.cons [120] (bN z) (eN j)) (⟨some 10,.cons [120] (bN z) (eN j),[kL 0 .nil],c⟩::k) c) (stS l r out false v 13 (.cons [120] (bN z) (eN j)) (⟨some 12,.cons [120] (bN z) (eN j),[],c⟩::⟨some 10,.cons [120] (bN z) (eN j),[kL 0 .nil],c⟩::k) c):=s13
 have h1:bQ (NS n) 1 (stS l r out false v 13 (.cons [120] (bN z) (eN j)) (⟨some 12,.cons [120] (bN z) (eN j),[],c⟩::⟨some 10,.cons [120] (bN z) (eN j),[kL 0 .nil],c⟩::k) c) (stS l r out false v 14 (.cons [120] (bN z) (eN j)) (⟨some 12,.cons [120] (bN z) (eN j),[bN j],c⟩::⟨some 10,.cons [120] (bN z) (eN j),[kL 0 .nil],c⟩::k) c):=s14
 have h2:bQ (NS n) 1 (stS l r out false v 14 (.cons [120] (bN z) (eN j)) (⟨some 12,.cons [120] (bN z) (eN j),[bN j],c⟩::⟨some 10,.cons [120] (bN z) (eN j),[kL 0 .nil],c⟩::k) c) (stS l r out true (bN (aT (w63 j - w63 1))) 14 (.cons [120] (bN z) (eN j)) (⟨some 10,.cons [120] (bN z) (eN j),[kL 0 .nil],c⟩::k) c):=s15
 have h3:bQ (NS n) 1 (stS l r out true (bN (aT (w63 j - w63 1))) 14 (.cons [120] (bN z) (eN j)) (⟨some 10,.cons [120] (bN z) (eN j),[kL 0 .nil],c⟩::k) c) (stS l r out false (bN (aT (w63 j - w63 1))) 1 (eN (aT (w63 j - w63 1))) (⟨none,.nil,[],c⟩::k) ((((10:Nat):Int),((0:Nat):Int))::c)):=s16
 rw [hz] at h2 h3
 have z:=((h0.trans h1).trans h2).trans h3
 exact z
end
theorem bQ.cast {N:List NV} {a b:Nat} {m m':MS} (h:bQ N a m m') (e:a=b):bQ N b m m':=e▸h
theorem loopS {n:Nat} {l:List Int} {out:List Int}:∀ (j:Nat) (r:Nat) (v:Vl) (k:List Wt) (c d:List (Int × Int)),r+j=l.length→j≤15→
  ∃ at_ env,bQ (NS n) (6+18*j) (stS l r out false v 1 (eN ((j:Nat):Int)) (⟨none,.nil,[],d⟩::k) c) (stS l (r+j) out true (bN (uZ (l.drop r))) at_ env k d):=by
 intro j
 induction j with
 |zero=>
  intro r v k c d hr _
  rw [List.drop_of_length_le (by omega)]
  generalize hj:((0:Nat):Int)=j0
  have h0:decide (w63 j0<w63 1)=true:=by rw [←hj];exact less0
  refine ⟨5,eN j0,?_⟩
  exact ((pA.trans (pB h0)).trans s6).cast (by omega)
 |succ j ih=>
  intro r v k c d hr hj
  have a0:r<l.length:=by omega
  rw [List.drop_eq_getElem_cons a0,uZ]
  have eg:l.getD r 0=l[r]:=by simp [List.getD,a0]
  have hl:=lessS j (by omega)
  have hp:=pred15 j (by omega)
  generalize ((j+1:Nat):Int)=j1 at hl hp ⊢
  obtain ⟨at1,env1,a1⟩:=ih (r+1) (bN ((j:Nat):Int)) (⟨some 8,.cons [120] (bN l[r]) (eN j1),[bN l[r]],c⟩::⟨none,.nil,[],d⟩::k) ((((10:Nat):Int),((0:Nat):Int))::c) c (by omega) (by omega)
  refine ⟨at1,env1,?_⟩
  have a:=(((pA (n:=n) (l:=l) (r:=r) (out:=out) (v:=v) (k:=⟨none,.nil,[],d⟩::k) (c:=c) (j:=j1)).trans (pC hl)).trans (pD a0 eg)).trans pE
  have b:=(a.trans (pF hp)).trans a1
  rw [show r+1+j=r+(j+1) by omega] at b
  exact ((b.trans s17).trans s18).cast (by omega)
theorem topS {n:Nat} {l:List Int} (hn:n=l.length) (h:n≤15):∃ at_ env,bQ (NS n) (13+18*n) (xi l) { stS l n [w63 (uZ l)] true nH at_ env [] [] with over:=1 }:=by
 obtain ⟨at1,env1,h1⟩:=loopS (n:=n) (l:=l) (out:=[]) n 0 cA [⟨some 15,eF,[],[]⟩] [(((16:Nat):Int),((0:Nat):Int))] [] (by omega) h
 refine ⟨at1,env1,?_⟩
 have a1:bQ (NS n) 1 (xi l) (stS l 0 [] false cA 15 eF [] []):=t1
 have a2:bQ (NS n) 1 (stS l 0 [] false cA 15 eF [] []) (stS l 0 [] false cA 16 eF [⟨some 15,eF,[],[]⟩] []):=t2
 have a3:bQ (NS n) 1 (stS l 0 [] false cA 16 eF [⟨some 15,eF,[],[]⟩] []) (stS l 0 [] false cA 17 eF [⟨some 16,eF,[],[]⟩,⟨some 15,eF,[],[]⟩] []):=t3
 have a4:bQ (NS n) 1 (stS l 0 [] false cA 17 eF [⟨some 16,eF,[],[]⟩,⟨some 15,eF,[],[]⟩] []) (stS l 0 [] false cA 18 eF [⟨some 16,eF,[kL 0 .nil],[]⟩,⟨some 15,eF,[],[]⟩] []):=t4
 have a5:bQ (NS n) 1 (stS l 0 [] false cA 18 eF [⟨some 16,eF,[kL 0 .nil],[]⟩,⟨some 15,eF,[],[]⟩] []) (stS l 0 [] false cA 1 (eN (n:Int)) [⟨none,.nil,[],[]⟩,⟨some 15,eF,[],[]⟩] [(((16:Nat):Int),((0:Nat):Int))]):=t5
 have a6:bQ (NS n) 1 (stS l (0+n) [] true (bN (uZ (l.drop 0))) at1 env1 [⟨some 15,eF,[],[]⟩] []) (stS l (0+n) ([]++[w63 (uZ (l.drop 0))]) true nH at1 env1 [] []):=t6
 have a7:bQ (NS n) 1 (stS l (0+n) ([]++[w63 (uZ (l.drop 0))]) true nH at1 env1 [] []) { stS l (0+n) ([]++[w63 (uZ (l.drop 0))]) true nH at1 env1 [] [] with over:=1 }:=t7
 have z:=((((((a1.trans a2).trans a3).trans a4).trans a5).trans h1).trans a6).trans a7
 rw [show 1+1+1+1+1+(6+18*n)+1+1=13+18*n by omega,Nat.zero_add,List.drop_zero,List.nil_append] at z
 exact z
theorem runS {n:Nat} {l:List Int} (hn:n=l.length) (h:n≤15):(eI (NS n) 100000 (xi l)).1.over=1∧(eI (NS n) 100000 (xi l)).1.out=[w63 (uZ l)]∧(eI (NS n) 100000 (xi l)).1.read=n:=by
 obtain ⟨at1,env1,hg⟩:=topS hn h
 obtain ⟨s',t',h1⟩:=hg 0 0
 have h1:eI (NS n) (13+18*n) (xi l)=_:=h1
 have e:100000=(13+18*n)+(100000 - (13+18*n)):=by omega
 rw [e,oU,h1]
 simp only
 rw [iG (by show (1:Int)≠0;decide)]
 exact ⟨rfl,rfl,rfl⟩
end Go.Pg
namespace Go.Pg
open Go.Proofs Go.Utf8 Go.Lib
set_option linter.unusedSimpArgs false
theorem yV (x:Int):w63 x=(x+4611686018427387904) % 9223372036854775808 - 4611686018427387904:=by
 rw [show w63 x=shrI .i64 (shlI .i64 x ((1:Nat):Int)) ((1:Nat):Int) from rfl,shrI_eq _ _ 1 (by decide),shlI_eq _ _ 1 (by decide)]
 have h:=IntKind.wrap_i64 (x*2 ^ 1)
 rw [h]
 omega
theorem w63_wi (x:Int):w63 (aT x)=w63 x:=by rw [yV,yV,wi64_eq];omega
theorem qt (a b:Int):w63 (w63 a+w63 b)=w63 (a+b):=by simp only [yV];omega
theorem w63_id (a:Int):w63 (w63 a)=w63 a:=by simp only [yV];omega
def sumL (l:List Int) (s:Int):Int:=l.foldl (fun s x=>w63 (aT (s+x))) s
def tot:List Int→Int
 |[]=>0
 |x::t=>x+tot t
theorem sumF_tot:∀ l:List Int,w63 (uZ l)=w63 (tot l)
 |[]=>rfl
 |x::t=>by
  rw [uZ,tot,w63_wi,qt,←qt x (uZ t),sumF_tot t,qt]
theorem sumL_tot:∀ (l:List Int) (s:Int),w63 s=s→sumL l s=w63 (s+tot l)
 |[],s,hs=>by simp [sumL,tot,hs]
 |x::t,s,hs=>by
  have h:=sumL_tot t (w63 (aT (s+x))) (w63_id _)
  unfold sumL at h ⊢
  rw [List.foldl_cons,h,tot,w63_wi]
  simp only [yV]
  omega
theorem sum_same (l:List Int):w63 (uZ l)=sumL l 0:=by rw [sumF_tot,sumL_tot l 0 (by decide),Int.zero_add]
theorem docS1:jR (mQ 1)=some (NS 1,[]):=by kernel_rfl
theorem docS2:jR (mQ 2)=some (NS 2,[]):=by kernel_rfl
theorem docS3:jR (mQ 3)=some (NS 3,[]):=by kernel_rfl
theorem docS4:jR (mQ 4)=some (NS 4,[]):=by kernel_rfl
theorem docS5:jR (mQ 5)=some (NS 5,[]):=by kernel_rfl
theorem docS6:jR (mQ 6)=some (NS 6,[]):=by kernel_rfl
theorem docS7:jR (mQ 7)=some (NS 7,[]):=by kernel_rfl
theorem docS8:jR (mQ 8)=some (NS 8,[]):=by kernel_rfl
theorem docS9:jR (mQ 9)=some (NS 9,[]):=by kernel_rfl
theorem docS10:jR (mQ 10)=some (NS 10,[]):=by kernel_rfl
theorem docS11:jR (mQ 11)=some (NS 11,[]):=by kernel_rfl
theorem docS12:jR (mQ 12)=some (NS 12,[]):=by kernel_rfl
theorem docS13:jR (mQ 13)=some (NS 13,[]):=by kernel_rfl
theorem docS14:jR (mQ 14)=some (NS 14,[]):=by kernel_rfl
theorem docS15:jR (mQ 15)=some (NS 15,[]):=by kernel_rfl
theorem docS (n:Nat) (h1:1≤n) (h2:n≤15):jR (mQ n)=some (NS n,[]):=by
 have:n=1∨n=2∨n=3∨n=4∨n=5∨n=6∨n=7∨n=8∨n=9∨n=10∨n=11∨n=12∨n=13∨n=14∨n=15:=by omega
 rcases this with rfl|rfl|rfl|rfl|rfl|rfl|rfl|rfl|rfl|rfl|rfl|rfl|rfl|rfl|rfl
 ·exact docS1
 ·exact docS2
 ·exact docS3
 ·exact docS4
 ·exact docS5
 ·exact docS6
 ·exact docS7
 ·exact docS8
 ·exact docS9
 ·exact docS10
 ·exact docS11
 ·exact docS12
 ·exact docS13
 ·exact docS14
 ·exact docS15
section
variable {σ:aB}
theorem wp_digits19 (n:Nat) (hn:n≤15) {Q:Value→aB→Prop} (hQ:∀ σ',Frm σ σ' NoB→Q (.string (mkB [UInt8.ofNat (48+n / 10),UInt8.ofNat (48+n % 10)])) σ'):WpF aG ovD 19 [.int .i64 ((n:Nat):Int)] σ Q:=by
 refine WpF.of (T19_eq _) rfl ?_
 have e1:wu8 (48+wu8 (aT (Int.tdiv ((n:Nat):Int) 10)))=((48+n / 10:Nat):Int):=by
  have:∀ n:Nat,n<16→wu8 (48+wu8 (aT (Int.tdiv ((n:Nat):Int) 10)))=((48+n / 10:Nat):Int):=by decide
  exact this n (by omega)
 have e2:wu8 (48+wu8 (Int.tmod ((n:Nat):Int) 10))=((48+n % 10:Nat):Int):=by
  have:∀ n:Nat,n<16→wu8 (48+wu8 (Int.tmod ((n:Nat):Int) 10))=((48+n % 10:Nat):Int):=by decide
  exact this n (by omega)
 rw [T19,e1,e2,aY,cT]
 simp only [bT]
 have hF:=Frm.new σ [.int .u8 ((48+n / 10:Nat):Int),.int .u8 ((48+n % 10:Nat):Int)] 1 NoB
 have hN:=Row.new σ 1 [.int .u8 ((48+n / 10:Nat):Int),.int .u8 ((48+n % 10:Nat):Int)] 2 (by decide) rfl (by intro y hy;simp at hy;rcases hy with rfl|rfl<;>rfl)
 have hr:(σ.newBlk [.int .u8 ((48+n / 10:Nat):Int),.int .u8 ((48+n % 10:Nat):Int)] 1).rdN ⟨σ.n,0,some 1⟩ 2=some [.int .u8 ((48+n / 10:Nat):Int),.int .u8 ((48+n % 10:Nat):Int)]:=hN.rdN (i:=0) (k:=2) (by simp)
 rw [aY]
 unfold cH
 simp only [hr,fZ]
 simp only [wpS]
 exact ⟨_,rfl,hQ _ hF⟩
end
theorem yu (p0:Option Addr) (c0:Nat) (l0:List Int) (old0:Addr→Option Value) (rd0:RdR (unO vr old0) 1 (.int .i64) p0 l0) (ok0:(Sh.row 1 (.int .i64)).ok l0) (sp0:∀ q,p0=some q→q.spot=none):
  WpF aG ovD 5 [.slice p0 l0.length c0] (iZ (unO vr old0)) fun v _=>v=.bool true:=by
 refine WpF.of (T5_eq _ _ _) rfl ?_
 rw [T5,aD]
 refine (awake8 _).mono ?_
 rintro v σ ⟨rfl,a4,b6⟩
 have a8:aR σ NoB 1 tZ p0 l0:=row_in a4 rd0 sp0
 have b8:Emp σ NoB p0:=emp_in sp0
 have a6:l0.length≤maxLen:=ok0.1
 clear rd0 ok0 a4
 simp only [wpS]
 rw [aC,if_neg (by simp),aI,aC]
 by_cases h1:l0.length<1
 ·rw [if_neg (by simp;omega)]
  simp only [wpS,T5k3]
  rw [aC,if_pos rfl]
  simp only [wpS]
  exact ⟨_,rfl,rfl⟩
 rw [if_pos (by simp;omega),aC]
 by_cases e1:15<l0.length
 ·rw [if_neg (by simp;omega)]
  simp only [wpS,T5k3]
  rw [aC,if_pos rfl]
  simp only [wpS]
  exact ⟨_,rfl,rfl⟩
 rw [if_pos (by simp;omega),aD,WpF.eq (wp_inputs11 a8.rdI9 a6)]
 simp only [wpS,T5k3]
 rw [aC]
 by_cases a1:(!inpB l0)=true
 ·rw [if_pos a1]
  simp only [wpS]
  exact ⟨_,rfl,rfl⟩
 rw [if_neg a1]
 have a7:inpB l0=true:=by simpa using a1
 obtain ⟨hw,b3⟩:=inpB_true a7
 refine Wp.count l0.length (fun j st σ'=>σ'=σ∧st=[.int .i64 ((j:Nat):Int),.int .i64 (sumL (l0.take j) 0)]) ⟨rfl,rfl⟩ ?_ ?_
 ·rintro j st σ' hj ⟨rfl,rfl⟩
  have ej:aT ((j:Int)+1)=((j+1:Nat):Int):=by rw [aV (by omega)];omega
  have hg:l0.getD ((j:Nat):Int).toNat 0=l0[j]:=by simp [List.getD,hj]
  unfold T5b0
  simp only [wpS]
  rw [aC,if_pos (by simp;omega),aI,wp_rdI a8.rdI9 (by omega) (by omega),hg,aD,WpF.eq (zd _)]
  simp only [wpS,T5k0,ej]
  refine ⟨trivial,?_⟩
  rw [List.take_succ_eq_append_getElem hj]
  unfold sumL
  rw [List.foldl_append]
  try rfl
 rintro st σ' ⟨rfl,rfl⟩
 unfold T5b0
 simp only [wpS]
 rw [aC,if_neg (by simp),List.take_length]
 simp only [wpS,T5k2]
 rw [aD]
 refine wp_digits19 l0.length (by omega) fun σ1 d0=>?_
 simp only [wpS,bs_mkB,app_mkB]
 rw [aQ]
 refine ⟨by rw [bW];simp only [List.length_cons,List.length_nil];rw [Nat.ble_eq];omega,?_⟩
 rw [aQ]
 refine ⟨by rw [bW];simp only [List.length_append,List.length_cons,List.length_nil];rw [Nat.ble_eq];omega,?_⟩
 rw [aD]
 have a0:=docS l0.length (by omega) (by omega)
 have d3:(mQ l0.length).length=82:=by unfold mQ preS;try rfl
 have et:∀ D:List UInt8,D=mQ l0.length→∀ R,WpF aG ovD 10 [.string (mkB (mQ l0.length))] σ1 R→WpF aG ovD 10 [.string (mkB D)] σ1 R:=fun D h R hR=>by rw [h];exact hR
 refine et _ rfl _ ?_
 refine wp_made12 (mQ l0.length) ?_ ?_
 ·rintro (h|h)
  ·omega
  ·rw [a0] at h;cases h
 intro N D _ b0 pn cn pd cd σ2 c9 b9 hK hD hC hA d7
 have b4:=vm a0
 rw [a0] at b0
 simp only [Option.some.injEq,Prod.mk.injEq] at b0
 obtain ⟨rfl,rfl⟩:=b0
 have hg:dD (NS l0.length) []:=b4
 have d8:=hg.most
 have d2:lR σ2 NoB pn (NS l0.length) pd []:=(⟨b9,by omega,hD,hC,hK,hA⟩:lR σ2 (fun j=>j<σ1.n) pn (NS l0.length) pd []).low
 simp only [wpS]
 refine aP fun σ3 c8 d6 b2=>?_
 generalize hV:σ2.n=V at b2
 refine bC b2 rfl rfl fun σ4 c6 d5 c1=>?_
 have a5:Frm σ2 σ4 NoB:=c8.fresh c6 fun j hj h=>by omega
 have a2:=(d0.seq c9).seq a5
 rw [aC,if_neg (by simp),aS c1 2 rfl]
 simp only [wpS]
 rw [aD]
 refine wp_New12 hg (d2.frm a5) (row9_step a8 a2) (emp_step b8 a2) hw (by omega) fun σ5 A s5 c5 e0 c3 b5=>?_
 have h5:Mac σ5 NoB A ⟨pn,cn,pd,cd⟩ (NS l0.length) [] s5 (xi l0):=c3 NoB fun _ h=>h.elim
 have a9:=(a2.seq c5).fr b6
 simp only [wpS]
 rw [aC,if_neg (by simp),aD]
 refine WpF.mono (wp_Run13 hg h5 (new_ok hg l0) a9 (newM_bnd l0) (by show l0.length≤_;omega) (Nat.zero_le _) 100000 (by decide)) ?_
 rintro v σ6 ⟨s6,rfl,h6,d9⟩
 rw [show (100000:Int).toNat=100000 from rfl] at h6
 obtain ⟨r1,r2,r3⟩:=runS (l:=l0) rfl (by omega)
 generalize (eI (NS l0.length) 100000 (xi l0)).1=m at h6 r1 r2 r3
 simp only [wpS]
 rw [aD]
 refine wp_Out14 h6 (by rw [r2];simp) fun σ7 b7 p7 c7 c4 d1 d4=>?_
 have h7:=h6.frmN c4
 simp only [wpS]
 rw [aD,WpF.eq (ev_Over16 h7)]
 simp only [wpS]
 rw [aC,if_pos (by rw [r1];rfl),aC,if_pos (by rw [r2];rfl)]
 have a3:=d1.row9 (Y:=NoB) fun _ h=>h
 rw [r2] at a3 ⊢
 refine mS a3 (i:=0) (o:=0) rfl (by simp) rfl (by decide) rfl fun cs b1=>?_
 unfold tZ at b1
 subst b1
 refine ⟨_,rfl,?_⟩
 simp only [wpS]
 rw [aC,if_pos (by simp [sum_same]),aD,WpF.eq (ev_Read20 h7)]
 simp only [wpS,T5k1]
 exact ⟨_,rfl,by rw [r3];simp⟩
end Go.Pg
namespace Go.Proofs
open Go.Shelf
def Tryz.laysLetter_ren:Go.Shelf.Ren:=⟨fun|200=>92|261=>115|311=>128|312=>129|n=>n,fun|21=>21|4=>4|51=>182|5=>5|119=>183|0=>0|141=>185|196=>203|193=>200|3=>3|198=>206|49=>204|194=>201|201=>209|226=>218|46=>87|227=>219|n=>n,fun|7=>0|8=>1|n=>n⟩
theorem Tryz.laysLetter:Go.Proofs.Lays.n200 Tryz.prog Tryz.laysLetter_ren:={
 mixed:=by kernel_rfl
 f200:=Tryz.func92.trans (congrArg some (by kernel_rfl))
 f261:=Tryz.func115.trans (congrArg some (by kernel_rfl))
 f311:=Tryz.func128.trans (congrArg some (by kernel_rfl))
 f312:=Tryz.func129.trans (congrArg some (by kernel_rfl))
 t0:=Tryz.underlying0
 a0:=Tryz.isAgg0
 z0:=Tryz.sizeOf0
 v0:=Tryz.zeroValue0
 t3:=Tryz.underlying3
 a3:=Tryz.isAgg3
 z3:=Tryz.sizeOf3
 v3:=Tryz.zeroValue3
 t4:=Tryz.underlying4
 a4:=Tryz.isAgg4
 z4:=Tryz.sizeOf4
 v4:=Tryz.zeroValue4
 t5:=Tryz.underlying5
 a5:=Tryz.isAgg5
 z5:=Tryz.sizeOf5
 v5:=Tryz.zeroValue5
 t21:=Tryz.underlying21
 a21:=Tryz.isAgg21
 z21:=Tryz.sizeOf21
 v21:=Tryz.zeroValue21
 t46:=Tryz.underlying87
 a46:=Tryz.isAgg87
 z46:=Tryz.sizeOf87
 v46:=Tryz.zeroValue87
 t49:=Tryz.underlying204
 a49:=Tryz.isAgg204
 z49:=Tryz.sizeOf204
 v49:=Tryz.zeroValue204
 t51:=Tryz.underlying182
 a51:=Tryz.isAgg182
 z51:=Tryz.sizeOf182
 v51:=Tryz.zeroValue182
 t119:=Tryz.underlying183
 a119:=Tryz.isAgg183
 z119:=Tryz.sizeOf183
 t141:=Tryz.underlying185
 a141:=Tryz.isAgg185
 z141:=Tryz.sizeOf185
 v141:=Tryz.zeroValue185
 t193:=Tryz.underlying200
 a193:=Tryz.isAgg200
 z193:=Tryz.sizeOf200
 v193:=Tryz.zeroValue200
 t194:=Tryz.underlying201
 a194:=Tryz.isAgg201
 z194:=Tryz.sizeOf201
 v194:=Tryz.zeroValue201
 t196:=Tryz.underlying203
 a196:=Tryz.isAgg203
 z196:=Tryz.sizeOf203
 v196:=Tryz.zeroValue203
 t198:=Tryz.underlying206
 a198:=Tryz.isAgg206
 z198:=Tryz.sizeOf206
 v198:=Tryz.zeroValue206
 t201:=Tryz.underlying209
 a201:=Tryz.isAgg209
 z201:=Tryz.sizeOf209
 v201:=Tryz.zeroValue209
 t226:=Tryz.underlying218
 a226:=Tryz.isAgg218
 z226:=Tryz.sizeOf218
 v226:=Tryz.zeroValue218
 t227:=Tryz.underlying219
 a227:=Tryz.isAgg219
 z227:=Tryz.sizeOf219
 v227:=Tryz.zeroValue219
 g7:=by kernel_rfl
 g8:=by kernel_rfl }
def Tryz.laysUpper_ren:Go.Shelf.Ren:=⟨fun|201=>94|261=>115|311=>128|312=>129|n=>n,fun|21=>21|4=>4|51=>182|5=>5|119=>183|0=>0|141=>185|196=>203|193=>200|3=>3|198=>206|49=>204|194=>201|201=>209|226=>218|46=>87|227=>219|n=>n,fun|7=>0|9=>2|n=>n⟩
theorem Tryz.laysUpper:Go.Proofs.Lays.n201 Tryz.prog Tryz.laysUpper_ren:={
 mixed:=by kernel_rfl
 f201:=Tryz.func94.trans (congrArg some (by kernel_rfl))
 f261:=Tryz.func115.trans (congrArg some (by kernel_rfl))
 f311:=Tryz.func128.trans (congrArg some (by kernel_rfl))
 f312:=Tryz.func129.trans (congrArg some (by kernel_rfl))
 t0:=Tryz.underlying0
 a0:=Tryz.isAgg0
 z0:=Tryz.sizeOf0
 v0:=Tryz.zeroValue0
 t3:=Tryz.underlying3
 a3:=Tryz.isAgg3
 z3:=Tryz.sizeOf3
 v3:=Tryz.zeroValue3
 t4:=Tryz.underlying4
 a4:=Tryz.isAgg4
 z4:=Tryz.sizeOf4
 v4:=Tryz.zeroValue4
 t5:=Tryz.underlying5
 a5:=Tryz.isAgg5
 z5:=Tryz.sizeOf5
 v5:=Tryz.zeroValue5
 t21:=Tryz.underlying21
 a21:=Tryz.isAgg21
 z21:=Tryz.sizeOf21
 v21:=Tryz.zeroValue21
 t46:=Tryz.underlying87
 a46:=Tryz.isAgg87
 z46:=Tryz.sizeOf87
 v46:=Tryz.zeroValue87
 t49:=Tryz.underlying204
 a49:=Tryz.isAgg204
 z49:=Tryz.sizeOf204
 v49:=Tryz.zeroValue204
 t51:=Tryz.underlying182
 a51:=Tryz.isAgg182
 z51:=Tryz.sizeOf182
 v51:=Tryz.zeroValue182
 t119:=Tryz.underlying183
 a119:=Tryz.isAgg183
 z119:=Tryz.sizeOf183
 t141:=Tryz.underlying185
 a141:=Tryz.isAgg185
 z141:=Tryz.sizeOf185
 v141:=Tryz.zeroValue185
 t193:=Tryz.underlying200
 a193:=Tryz.isAgg200
 z193:=Tryz.sizeOf200
 v193:=Tryz.zeroValue200
 t194:=Tryz.underlying201
 a194:=Tryz.isAgg201
 z194:=Tryz.sizeOf201
 v194:=Tryz.zeroValue201
 t196:=Tryz.underlying203
 a196:=Tryz.isAgg203
 z196:=Tryz.sizeOf203
 v196:=Tryz.zeroValue203
 t198:=Tryz.underlying206
 a198:=Tryz.isAgg206
 z198:=Tryz.sizeOf206
 v198:=Tryz.zeroValue206
 t201:=Tryz.underlying209
 a201:=Tryz.isAgg209
 z201:=Tryz.sizeOf209
 v201:=Tryz.zeroValue209
 t226:=Tryz.underlying218
 a226:=Tryz.isAgg218
 z226:=Tryz.sizeOf218
 v226:=Tryz.zeroValue218
 t227:=Tryz.underlying219
 a227:=Tryz.isAgg219
 z227:=Tryz.sizeOf219
 v227:=Tryz.zeroValue219
 g7:=by kernel_rfl
 g9:=by kernel_rfl }
def Tryz.laysDecode_ren:Go.Shelf.Ren:=⟨fun|197=>131|260=>143|n=>n,fun|9=>9|21=>21|3=>3|4=>4|5=>5|105=>143|119=>183|0=>0|46=>87|139=>224|138=>223|n=>n,fun|3=>3|4=>4|n=>n⟩
theorem Tryz.laysDecode:Go.Proofs.Lays.n197 Tryz.prog Tryz.laysDecode_ren:={
 mixed:=by kernel_rfl
 f197:=Tryz.func131.trans (congrArg some (by kernel_rfl))
 f260:=Tryz.func143.trans (congrArg some (by kernel_rfl))
 t0:=Tryz.underlying0
 a0:=Tryz.isAgg0
 z0:=Tryz.sizeOf0
 v0:=Tryz.zeroValue0
 t3:=Tryz.underlying3
 a3:=Tryz.isAgg3
 z3:=Tryz.sizeOf3
 v3:=Tryz.zeroValue3
 t4:=Tryz.underlying4
 a4:=Tryz.isAgg4
 z4:=Tryz.sizeOf4
 v4:=Tryz.zeroValue4
 t5:=Tryz.underlying5
 a5:=Tryz.isAgg5
 z5:=Tryz.sizeOf5
 v5:=Tryz.zeroValue5
 t9:=Tryz.underlying9
 a9:=Tryz.isAgg9
 z9:=Tryz.sizeOf9
 v9:=Tryz.zeroValue9
 t21:=Tryz.underlying21
 a21:=Tryz.isAgg21
 z21:=Tryz.sizeOf21
 v21:=Tryz.zeroValue21
 t46:=Tryz.underlying87
 a46:=Tryz.isAgg87
 z46:=Tryz.sizeOf87
 v46:=Tryz.zeroValue87
 t105:=Tryz.underlying143
 a105:=Tryz.isAgg143
 z105:=Tryz.sizeOf143
 v105:=Tryz.zeroValue143
 t119:=Tryz.underlying183
 a119:=Tryz.isAgg183
 z119:=Tryz.sizeOf183
 t138:=Tryz.underlying223
 a138:=Tryz.isAgg223
 z138:=Tryz.sizeOf223
 v138:=Tryz.zeroValue223
 t139:=Tryz.underlying224
 a139:=Tryz.isAgg224
 z139:=Tryz.sizeOf224
 v139:=Tryz.zeroValue224
 g3:=by kernel_rfl
 g4:=by kernel_rfl }
end Go.Proofs
