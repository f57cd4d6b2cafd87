/- GdD, GdE, MvC, MvD, MvE, MvF, MvG, MdA, MvH, MvI, MvJ, MvK, MvL, McD, MvM, MvN, MvO, MdB, MdC, TabF, Awk, MwA, MwB, Shelf -/
import Derived.Ground.NamesProg
import Derived.Shelf.Unicode.PredsPay
import Derived.Shelf.Unicode.DecodeAny
import Derived.Test.YtkbefekajgfldaaGreatDoorProg
import Derived.Test.YtkbefekajgfldaaGreatDoorQ6
set_option maxHeartbeats 1000000
namespace Go.Pg
open Go.Proofs Go.Utf8 Go.Lib
set_option linter.unusedSimpArgs false
section
variable {σ σ':aB} {N:List NV} {D:List Dc} {Y:Nat→Prop} {pn pd:Option Addr} {cn cd A:Nat}
theorem zO {w p:Nat} {b:Bool} {e:Nat} (h:bW N D (w+1) p b=some e) {v:NV} (hv:N[p]?=some v):v.kids.length≤N.length:=by
 have hlt:=gR h
 have hr:=h
 rw [bW,hv] at hr
 simp only at hr
 split at hr
 ·obtain ⟨a,h1,hr⟩:=aU hr
  have:=qC (g:=fun _=>[()]) (fun p' b' e' h'=>by have:=gR h';simp;omega) _ _ _ _ _ h1
  have h2:∀ l:List Nat,(l.flatMap fun _=>[()]).length=l.length:=fun l=>by
   induction l with
   |nil=>rfl
   |cons x l ih=>rw [List.flatMap_cons,List.length_append,ih];simp;omega
  have h2:=h2 v.kids
  split at hr
  ·cases hr
  ·cases ofS hr
   omega
 ·cases hr
theorem wp_binds35 (hN:N.length≤1000):∀ (w p:Nat) (b:Bool) (e m:Nat) (σ:aB),bW N D w p b=some e→N.length≤m+p→dI σ Y pn N pd D→
  WpF aG ovD 51 [trV pn N.length cn pd D.length cd,.int .i64 ((p:Nat):Int)] σ fun v σ'=>∃ rb q k,v=.slice q (bJ N m p).length k∧SlV σ' rb q k ((bJ N m p).map cT)∧(q≠none→σ.n≤rb)∧Frm σ σ' NoB:=by
 intro w
 induction w with
 |zero=>intro p b e m σ h;cases h
 |succ w ih=>
  intro p b e m σ h hm hT
  obtain ⟨v,hv,hkids⟩:=uI h
  have hbl:=mT _ _ _ _ h
  have hlt:=gR h
  obtain ⟨m,rfl⟩:∃ m',m=m'+1:=⟨m - 1,by omega⟩
  have hpN:p<N.length:=by omega
  have hvN:N[p]=v:=by
   rw [List.getElem?_eq_getElem hpN] at hv
   exact Option.some.inj hv
  have hkl:=zO h hv
  refine WpF.of (T51_eq _ _ _ _ _ _ _) rfl ?_
  rw [T51]
  refine aP fun σ1 hF1 hn1 hS1=>?_
  generalize hA:σ.n=A at hS1
  rw [aE hS1 rfl]
  simp only [wpS]
  have hT1:=hT.frm hF1
  refine dM hT1.nodes hpN rfl fun cs hcs=>?_
  rw [hvN] at hcs
  obtain ⟨q,k,rfl,hrow,_⟩:=hcs
  simp only [wpS]
  refine aP fun σ2 hF2 hn2 hS2=>?_
  refine bC hS2 rfl rfl fun σ3 hF3 hn3 hS3=>?_
  generalize hC:σ1.n=C at hS2 hS3 hF3 hn2
  have hF13:Frm σ1 σ3 NoB:=hF2.fresh hF3 fun j hj h=>by omega
  have hF03:=hF1.seq hF13
  have hS13:=hF13.stN hS1
  have hT3:=hT1.frm hF13
  have hrow3:=hrow.later hF13
  have hS3':St σ3 C (nvC v q k):=hS3
  rw [aE hS3' rfl]
  simp only [wpS]
  rw [aC]
  have hb:=hbl (m+1)
  by_cases h22:v.x.k=22
  ·have eb:bJ N (m+1) p=[v.x.nm]:=by
    rw [bJ,hv]
    simp only
    rw [if_pos h22]
   rw [if_pos (by simpa using h22),aE hS3' rfl]
   simp only [wpS]
   rw [aZ,cR]
   simp only [wpS]
   rw [eb]
   refine ⟨_,rfl,σ3.n,_,1,rfl,.inr ⟨0,1,rfl,Row.new σ3 1 [cT v.x.nm] 1 (by decide) rfl (by intro y hy;simp at hy;subst hy;rfl)⟩,fun _=>by have:=hF03.n;omega,hF03.seq (Frm.new _ _ _ _)⟩
  have eb:bJ N (m+1) p=v.kids.flatMap fun k=>if p<k∧k<N.length∧v.x.k=26 then bJ N m k else []:=by
   rw [bJ,hv]
   simp only
   rw [if_neg h22]
  rw [if_neg (by simpa using h22),eb,aE hS3' rfl]
  simp only [wpS]
  rw [eb] at hb
  rw [aC]
  by_cases h26:v.x.k=26
  case neg=>
   have e0:(v.kids.flatMap fun k=>if p<k∧k<N.length∧v.x.k=26 then bJ N m k else [])=[]:=by
    rw [List.flatMap_eq_nil_iff]
    intro k _
    rw [if_neg fun h=>h26 h.2.2]
   rw [if_neg (by simpa using h26)]
   simp only [wpS,T51k2]
   rw [e0]
   exact ⟨_,rfl,0,none,0,rfl,.inl ⟨rfl,rfl,rfl⟩,fun h=>absurd rfl h,hF03⟩
  generalize hg:(fun k=>if p<k∧k<N.length∧v.x.k=26 then bJ N m k else [])=g at hb
  have hpre:∀ j,((v.kids.take j).flatMap g).length≤(v.kids.flatMap g).length:=fun j=>by
   conv=>rhs;rw [←List.take_append_drop j v.kids,List.flatMap_append,List.length_append]
   omega
  rw [if_pos (by simpa using h26),aE hS3' (i:=4) rfl]
  simp only [wpS]
  refine Wp.count v.kids.length (fun j st σ'=>∃ rb qq kk,st=[.int .i64 ((j:Nat):Int),.slice qq ((v.kids.take j).flatMap g).length kk]∧SlV σ' rb qq kk (((v.kids.take j).flatMap g).map cT)∧(qq≠none→σ3.n≤rb)∧Frm σ3 σ' NoB)
   ⟨0,none,0,by simp,.inl ⟨rfl,rfl,by simp⟩,fun h=>absurd rfl h,Frm.refl _ _⟩ ?_ ?_
  ·rintro j st σ4 hj ⟨rb,qq,kk,rfl,hL,hrb,hF4⟩
   obtain ⟨k1,k2,b',e',k3⟩:=hkids j hj
   have ej:aT ((j:Int)+1)=((j+1:Nat):Int):=by rw [aV (by omega)];omega
   have hS14:=hF4.stN hS13
   have hT4:=hT3.frm hF4
   unfold T51b0
   simp only [wpS]
   rw [aC,if_pos (by simp;omega),aI]
   refine dD (hrow3.later hF4) hj rfl fun cs hcs=>⟨_,hcs,?_⟩
   simp only [wpS]
   have htk:(v.kids.take (j+1)).flatMap g=(v.kids.take j).flatMap g++g v.kids[j]:=by
    rw [List.take_succ_eq_append_getElem hj,List.flatMap_append]
    simp
   have eg:g v.kids[j]=bJ N m v.kids[j]:=by rw [←hg];simp only;rw [if_pos ⟨k1,k2,h26⟩]
   rw [aS hS14 2 rfl]
   simp only [wpS]
   rw [aD]
   refine WpF.mono (ih v.kids[j] b' e' m σ4 k3 (by omega) hT4) ?_
   rintro _ σ5 ⟨rb2,q2,kk2,rfl,hL2,hrb2,hF5⟩
   simp only [wpS]
   have hL5:=hL.frm hF5 fun _ h=>h
   have p1:=hpre (j+1)
   rw [htk,eg,List.length_append] at p1
   rw [←eg] at hL2 ⊢
   refine qm hL5 (by simp) hL2 (by simp) (by rw [eg];omega) (by rw [eg];omega) fun σ6 rb6 q6 kk6 hF6 hq6 hL6=>?_
   simp only [wpS,T51k0,ej]
   have hF46:Frm σ3 σ6 NoB:=(hF4.seq hF5).trans hF6 (fun _ _ h=>h) fun i hi h=>by have:=hrb h.1;omega
   refine ⟨rb6,q6,kk6,?_,?_,?_,hF46⟩
   ·rw [htk,List.length_append]
   ·rw [htk,List.map_append];exact hL6
   ·intro h
    have:=hF4.n
    have:=hF5.n
    rcases hq6 with h6|⟨h6,h7⟩|h6
    ·exact absurd h6 h
    ·have:=hrb h6;omega
    ·omega
  ·rintro st σ4 ⟨rb,qq,kk,rfl,hL,hrb,hF4⟩
   rw [List.take_length] at hL ⊢
   unfold T51b0
   simp only [wpS]
   rw [aC,if_neg (by simp)]
   simp only [wpS,T51k1,T51k2]
   exact ⟨_,rfl,rb,qq,kk,rfl,hL,fun h=>by have:=hrb h;have:=hF03.n;omega,hF03.seq hF4⟩
theorem wp_walk32 (hN:N.length≤1000):∀ (n p:Nat) (pat:Bool) (e:Nat) (σ:aB),n≤60→bW N D n p pat=some e→Ask σ A pn N cn pd D cd p→
  WpF aG ovD 48 [bO A,.bool pat,.int .i64 ((60 - n:Nat):Int)] σ fun v σ'=>v=.bool true∧Ask σ' A pn N cn pd D cd e∧Frm σ σ' (· =A):=by
 intro n
 induction n with
 |zero=>intro p pat e σ _ h;cases h
 |succ n ih=>
  intro p pat e σ hn h hA
  have hlt:=gR h
  have hpN:p<N.length:=by omega
  obtain ⟨v,hv⟩:∃ v,N[p]?=some v:=⟨_,List.getElem?_eq_getElem hpN⟩
  have hvN:N[p]=v:=by
   rw [List.getElem?_eq_getElem hpN] at hv
   exact Option.some.inj hv
  have hkl:=zO h hv
  have hw:=h
  rw [bW,hv] at hw
  simp only at hw
  split at hw
  case isFalse=>cases hw
  rename_i hc
  obtain ⟨hsh,hpt,hcon⟩:=hc
  obtain ⟨e1,hkw,hw⟩:=aU hw
  split at hw
  ·cases hw
  obtain rfl:=ofS hw
  refine WpF.of (T48_eq _ _ _) rfl ?_
  have hAn:=hA.st.1
  rw [T48]
  simp only [wpS]
  rw [aE hA.st (i:=2) rfl]
  simp only [wpS]
  rw [cD,aE hA.st (v:=.slice pn N.length cn) rfl]
  simp only [wpS]
  rw [aC,if_neg (by simp;omega),aE hA.st (v:=.slice pn N.length cn) rfl]
  simp only [wpS]
  refine dM hA.tree.nodes hpN rfl fun cs hcs=>?_
  rw [hvN] at hcs
  obtain ⟨q,k,rfl,hrow,_⟩:=hcs
  simp only [wpS]
  refine aP fun σ1 hF1 hn1 hS1=>?_
  refine bC hS1 rfl rfl fun σ2 hF2 hn2 hS2=>?_
  generalize hC:σ.n=C at hS1 hS2 hF2 hn1
  have hF02:Frm σ σ2 NoB:=hF1.fresh hF2 fun j hj h=>by omega
  have hS2:St σ2 C (nvC v q k):=hS2
  clear hS1 hF1 hF2
  have hA2:=hA.frm hF02
  rw [aI,aE hS2 (i:=0) rfl]
  simp only [wpS]
  rw [aD]
  refine WpF.mono (sI _) ?_
  rintro _ _ ⟨rfl,rfl⟩
  simp only [wpS]
  have epat:decide (21≤v.x.k∧v.x.k≤26)=pat:=by
   have h26:v.x.k≤26:=by
    unfold bP at hsh
    simp only [Bool.and_eq_true,decide_eq_true_eq] at hsh
    exact hsh.1.1.1.1.2
   rw [←hpt]
   by_cases h21:v.x.k>20
   ·rw [decide_eq_true h21,decide_eq_true ⟨by omega,h26⟩]
   ·rw [decide_eq_false h21,decide_eq_false (by omega)]
  rw [epat]
  rw [aC,if_pos (by simp),aZ,show aadd ⟨A,0,some 0⟩ 0=⟨A,0,some 0⟩ from rfl,hA2.st.ldN (off:=0) (k:=2) (by simp)]
  simp only [wpS,List.drop_zero,List.take_succ_cons,List.take_zero]
  rw [aS hS2 7 rfl]
  simp only [nvC,wpS]
  rw [aD]
  refine WpF.mono (wp_alone62 hA2.tree hA2.dl hA2.cl q k hsh (by omega) hcon) ?_
  rintro _ σ3 ⟨rfl,hF3⟩
  have hS3:=hF3.stN hS2
  have hA3:=hA2.frm hF3
  have hF03:=hF02.seq hF3
  have hCA:C≠A:=by omega
  simp only [wpS,T48k3,Bool.not_true]
  rw [aC,if_neg (by simp),aE hA3.st (i:=2) rfl]
  simp only [wpS]
  have ep:aT (((p:Nat):Int)+1)=((p+1:Nat):Int):=by rw [aV (by omega)];omega
  have ed:aT (((60 - (n+1):Nat):Int)+1)=((60 - n:Nat):Int):=by rw [aV (by omega)];omega
  rw [ep]
  refine bB hA3.st (by simp) rfl fun σ4 hF4 hn4 hS4=>?_
  have hA4:Ask σ4 A pn N cn pd D cd (p+1):=hA3.bump hF4 hS4
  have hSC4:=hF4.st hS3 hCA
  have hrow4:aR σ4 (· =A) 1 kE q v.kids:=(hrow.later hF03).step (Y':=(· =A)) hF4 (fun _ _ h=>h) (fun _ _ h=>h) fun _ _ h=>h
  have hF04:Frm σ σ4 (· =A):=(hF03.mono fun _ _ h=>h.elim).trans hF4 (fun _ _ h=>h) fun _ _ h=>h
  clear hA3 hS3 hA2 hS2 hF3 hF4 hF03 hF02
  rw [aE hSC4 (i:=4) (v:=.slice q v.kids.length k) rfl]
  simp only [wpS]
  generalize hR:(fun i=>pat||(decide (v.x.k=11)&&decide (i % 2=1)))=pt at hkw
  refine Wp.count v.kids.length (fun j st σ'=>∃ next,st=[.int .i64 ((j:Nat):Int),.bool false]∧Ask σ' A pn N cn pd D cd next∧gA (bW N D n) pt (v.kids.drop j) j next=some e∧Frm σ4 σ' (· =A))
   ⟨p+1,rfl,hA4,by rw [List.drop_zero];exact hkw,Frm.refl _ _⟩ ?_ ?_
  ·rintro j st σ5 hj ⟨next,rfl,hA5,hk5,hF5⟩
   have ej:aT ((j:Int)+1)=((j+1:Nat):Int):=by rw [aV (by omega)];omega
   have hSC5:=hF5.st hSC4 hCA
   have hrow5:=hrow4.step (Y':=(· =A)) hF5 (fun _ _ h=>h) (fun _ _ h=>h) fun _ _ h=>h
   rw [List.drop_eq_getElem_cons hj,gA] at hk5
   split at hk5
   case isFalse=>cases hk5
   rename_i hnx
   obtain ⟨e2,hw2,hk5⟩:=aU hk5
   unfold T48b0
   simp only [wpS]
   rw [aC,if_pos (by simp;omega),aI]
   refine dD hrow5 hj rfl fun cs hcs=>⟨_,hcs,?_⟩
   simp only [wpS]
   rw [aE hA5.st (i:=2) rfl]
   simp only [wpS]
   rw [aC,if_pos (by rw [hnx];simp),ed]
   have back:∀ (b:Bool),b=pt j→Wp aG ovD (.call 48 [.pointer (some ⟨A,0,some 0⟩),.bool b,.int .i64 ((60 - n:Nat):Int)] fun v=>eU v fun b124=>.ret .normal [.bool (!b124)]) σ5 fun e_1 vs σ'=>Wp aG ovD (T48k0 false e_1 vs) σ' fun e_1 vs σ'=>Wp aG ovD (T48k1 ((j:Nat):Int) e_1 vs) σ' fun e_1 st' σ'=>match e_1 with
     | .normal=>∃ next,st'=[.int .i64 ((j+1:Nat):Int),.bool false]∧Ask σ' A pn N cn pd D cd next∧gA (bW N D n) pt (v.kids.drop (j+1)) (j+1) next=some e∧Frm σ4 σ' (· =A)
     |e_2=>Wp aG ovD (T48k2 e_2 st') σ' fun _ vs σ'=>∃ w,vs=[w]∧w=.bool true∧Ask σ' A pn N cn pd D cd e∧Frm σ σ' (· =A):=by
    rintro b rfl
    rw [aD]
    refine WpF.mono (ih next (pt j) e2 σ5 (by omega) hw2 hA5) ?_
    rintro _ σ6 ⟨rfl,hA6,hF6⟩
    simp only [wpS,T48k0,Bool.not_true]
    rw [aC,if_neg (by simp)]
    simp only [wpS,T48k1,ej]
    exact ⟨e2,trivial,hA6,hk5,hF5.trans hF6 (fun _ _ h=>h) fun _ _ h=>h⟩
   rw [aC]
   cases pat with
   |true=>
    rw [if_neg (by simp)]
    exact back true (by rw [←hR];simp)
   |false=>
    rw [if_pos (by rfl),aE hSC5 (i:=0) rfl]
    simp only [wpS]
    rw [aC]
    by_cases h11:v.x.k=11
    ·rw [if_pos (by simpa using h11),aD]
     refine WpF.of (T85_eq _) rfl ?_
     rw [T85]
     simp only [wpS]
     refine ⟨_,rfl,?_⟩
     simp only [wpS]
     refine back _ ?_
     rw [←hR,Int.tmod_eq_emod_of_nonneg (by omega)]
     simp only [Bool.false_or,h11,decide_true,Bool.true_and]
     by_cases h2:j % 2=1
     ·rw [decide_eq_true h2,beq_iff_eq];omega
     ·rw [decide_eq_false h2,beq_eq_false_iff_ne];omega
    ·rw [if_neg (by simpa using h11)]
     exact back false (by rw [←hR];simp [h11])
  ·rintro st σ5 ⟨next,rfl,hA5,hk5,hF5⟩
   rw [List.drop_length,gA] at hk5
   obtain rfl:=ofS hk5
   unfold T48b0
   simp only [wpS]
   rw [aC,if_neg (by simp)]
   simp only [wpS,T48k2]
   exact ⟨_,rfl,rfl,hA5,hF04.trans hF5 (fun _ _ h=>h) fun _ _ h=>h⟩
end
end Go.Pg
namespace Go.Pg
open Go.Proofs Go.Utf8 Go.Lib
set_option linter.unusedSimpArgs false
theorem tB:∀ l:List (List UInt8),cK l=false↔l.Nodup
 |[]=>by simp [cK]
 |s::l=>by
  rw [cK,Bool.or_eq_false_iff,tB l,List.nodup_cons]
  constructor
  ·rintro ⟨h1,h2⟩
   exact ⟨fun h=>(by rw [List.contains_iff_mem.2 h] at h1;cases h1),h2⟩
  ·rintro ⟨h1,h2⟩
   exact ⟨by rw [Bool.eq_false_iff];exact fun h=>h1 (List.contains_iff_mem.1 h),h2⟩
theorem vX {α β:Type} (f:α→List β) {a:α}:∀ {l:List α},a∈l→(f a).Sublist (l.flatMap f)
 |x::l,h=>by
  rw [List.flatMap_cons]
  rcases List.mem_cons.1 h with rfl|h
  ·exact List.sublist_append_left _ _
  ·exact (vX f h).trans (List.sublist_append_right _ _)
section
variable {N:List NV} {D:List Dc}
theorem xg:∀ (m m' p:Nat),N.length≤m+p→N.length≤m'+p→bJ N m p=bJ N m' p
 |0,0,_,_,_=>rfl
 |0,m'+1,p,h,_=>by rw [bJ,bJ,List.getElem?_eq_none (by omega)]
 |m+1,0,p,_,h=>by rw [bJ,bJ,List.getElem?_eq_none (by omega)]
 |m+1,m'+1,p,h,h'=>by
  rw [bJ,bJ]
  cases hv:N[p]? with
  |none=>rfl
  |some v=>
   simp only
   split
   ·rfl
   ·congr 1
    funext k
    split
    ·rename_i hk
     exact xg m m' k (by omega) (by omega)
    ·rfl
theorem uT {q:Nat→Bool→Option Nat} (hq:∀ p b e,q p b=some e→p<e) (pat:Nat→Bool):∀ (l:List Nat) (i next e:Nat),gA q pat l i next=some e→∀ x,next≤x→x<e→∃ j,∃ hj:j<l.length,∃ e',q l[j] (pat (i+j))=some e'∧l[j]≤x∧x<e'
 |[],i,next,e,h,x,h1,h2=>by
  cases ofS h
  omega
 |k::l,i,next,e,h,x,h1,h2=>by
  rw [gA] at h
  split at h
  ·rename_i hk
   obtain ⟨a,ha,h⟩:=aU h
   by_cases hx:x<a
   ·exact ⟨0,by simp,a,by rw [List.getElem_cons_zero,hk];exact ha,by rw [List.getElem_cons_zero];omega,hx⟩
   ·obtain ⟨j,hj,e',p1,p2,p3⟩:=uT hq pat l (i+1) a e h x (by omega) h2
    refine ⟨j+1,by simpa using hj,e',?_,?_,p3⟩
    ·rw [List.getElem_cons_succ,show i+(j+1)=i+1+j by omega];exact p1
    ·rw [List.getElem_cons_succ];exact p2
  ·cases h
theorem vn {n p:Nat} {pat:Bool} {e:Nat} (h:bW N D (n+1) p pat=some e):∃ v,N[p]?=some v∧bP v=true∧decide (v.x.k>20)=pat∧gA (bW N D n) (fun i=>pat||(decide (v.x.k=11)&&decide (i % 2=1))) v.kids 0 (p+1)=some e∧(v.x.k=11→∀ i (hi:i<v.kids.length),i % 2=1→cK (bJ N N.length v.kids[i])=false):=by
 rw [bW] at h
 split at h
 ·cases h
 rename_i v hv
 split at h
 case isFalse=>cases h
 rename_i hc
 obtain ⟨e1,hk,h⟩:=aU h
 split at h
 ·cases h
 rename_i hno
 obtain rfl:=ofS h
 refine ⟨v,hv,hc.1,hc.2.1,hk,fun h11 i hi h2=>?_⟩
 cases ht:cK (bJ N N.length v.kids[i]) with
 |false=>rfl
 |true=>exact absurd ⟨h11,i,hi,h2,by simpa [List.getD,hi] using ht⟩ hno
theorem pat_kids {v:NV} (h:bP v=true) (hk:v.x.k>20) (hl:v.kids≠[]):v.x.k=26:=by
 unfold bP at h
 simp only [Bool.and_eq_true,decide_eq_true_eq] at h
 obtain ⟨⟨⟨⟨⟨h1,h2⟩,h3⟩,_⟩,_⟩,_⟩:=h
 have hn:v.kids.length≠0:=fun h=>hl (List.eq_nil_of_length_eq_zero h)
 obtain ⟨i,hi⟩:∃ i:Nat,v.x.k=(i:Int):=⟨v.x.k.toNat,by omega⟩
 rw [hi] at h3 hk h2 ⊢
 unfold lP at h3
 rw [Int.toNat_natCast] at h3
 have:i=21∨i=22∨i=23∨i=24∨i=25∨i=26:=by omega
 rcases this with rfl|rfl|rfl|rfl|rfl|rfl
 all_goals first
  |rfl
  |(exfalso;apply hn;simpa [eM] using h3)
theorem binds_kid {p:Nat} {v:NV} (hv:N[p]?=some v) (hk:v.x.k=26) {k:Nat} (hm:k∈v.kids) (hp:p<k) (hN:k<N.length):(bJ N N.length k).Sublist (bJ N N.length p):=by
 obtain ⟨m,hm1⟩:∃ m,N.length=m+1:=⟨N.length - 1,by omega⟩
 have e:bJ N N.length p=v.kids.flatMap fun k=>if p<k∧k<N.length∧v.x.k=26 then bJ N m k else []:=by
  conv=>lhs;rw [hm1]
  rw [bJ,hv]
  simp only
  rw [if_neg (by omega)]
 rw [e,xg N.length m k (by omega) (by omega)]
 have:=vX (fun k=>if p<k∧k<N.length∧v.x.k=26 then bJ N m k else []) hm
 rwa [if_pos ⟨hp,hN,hk⟩] at this
theorem walk_pat:∀ (n p e:Nat),bW N D n p true=some e→∀ i,p≤i→i<e→(bJ N N.length i).Sublist (bJ N N.length p)
 |0,_,_,h,_,_,_=>by cases h
 |n+1,p,e,h,i,h1,h2=>by
  by_cases hi:i=p
  ·subst hi;exact .refl _
  have hlt:=gR h
  obtain ⟨v,hv,hs,hk,hkw,_⟩:=vn h
  obtain ⟨j,hj,e',p1,p2,p3⟩:=uT (fun p b e h=>(gR h).1) _ _ _ _ _ hkw i (by omega) h2
  rw [Bool.true_or] at p1
  have hmem:=List.getElem_mem hj
  have hne:v.kids≠[]:=fun h=>by rw [h] at hj;exact absurd hj (Nat.not_lt_zero _)
  obtain ⟨v2,hv2,hkk⟩:=uI h
  rw [hv] at hv2
  cases hv2
  obtain ⟨q1,q2,_⟩:=hkk j hj
  exact (walk_pat n _ _ p1 i p2 p3).trans (binds_kid hv (pat_kids hs (by simpa using hk) hne) hmem q1 q2)
theorem yZ:∀ (n p e:Nat),bW N D n p false=some e→∀ i,p≤i→i<e→∀ hN:i<N.length,20<N[i].x.k→cK (bJ N N.length i)=false
 |0,_,_,h,_,_,_,_,_=>by cases h
 |n+1,p,e,h,i,h1,h2,hN,hk=>by
  obtain ⟨v,hv,hs,hkp,hkw,hno⟩:=vn h
  have hi:i≠p:=by
   rintro rfl
   rw [List.getElem?_eq_getElem hN] at hv
   rw [Option.some.inj hv] at hk
   simp at hkp
   omega
  obtain ⟨j,hj,e',p1,p2,p3⟩:=uT (fun p b e h=>(gR h).1) _ _ _ _ _ hkw i (by omega) h2
  rw [Bool.false_or,Nat.zero_add] at p1
  cases hb:(decide (v.x.k=11)&&decide (j % 2=1)) with
  |false=>
   rw [hb] at p1
   exact yZ n _ _ p1 i p2 p3 hN hk
  |true=>
   rw [hb] at p1
   simp only [Bool.and_eq_true,decide_eq_true_eq] at hb
   have:=hno hb.1 j hj hb.2
   rw [tB] at this ⊢
   exact (walk_pat n _ _ p1 i p2 p3).nodup this
theorem dB.binds (g:dB N D) {i:Nat} (hi:i<N.length) (hk:20<N[i].x.k):cK (bJ N N.length i)=false:=yZ _ _ _ g.walk i (Nat.zero_le _) hi hi hk
end
section
variable {σ σ':aB} {N:List NV} {D:List Dc} {Y:Nat→Prop} {pn pd:Option Addr} {cn cd:Nat}
theorem wp_Good21 (g:dB N D) (h:lE σ Y pn N pd D):WpF aG ovD 32 [trV pn N.length cn pd D.length cd] σ fun v σ'=>v=.bool true∧Frm σ σ' NoB:=by
 have hN:=g.most
 refine WpF.of (T32_eq _ _ _ _ _ _) rfl ?_
 rw [T32]
 refine aP fun σ1 hF1 hn1 hS1=>?_
 generalize hA:σ.n=A at hS1 hn1
 have h1:=h.frm hF1
 rw [aI,aE hS1 rfl]
 simp only [wpS]
 have hp:=g.pos
 rw [aC,if_pos (by simp;omega),aE hS1 rfl]
 simp only [wpS]
 rw [aC,if_pos (by simp;omega),aE hS1 rfl]
 simp only [wpS]
 rw [aD]
 refine WpF.mono (wp_decls31 (aR.later h1.tree.decls (Frm.refl _ _):aR σ1 Y 2 (dcR σ1 Y) pd D) g.types) ?_
 rintro _ σ2 ⟨rfl,hF2⟩
 have hS2:=hF2.stN hS1
 have h2:=h1.frm hF2
 simp only [wpS,T32k4,Bool.not_true]
 rw [aC,if_neg (by simp),aS hS2 2 rfl]
 simp only [wpS]
 refine aP fun σ3 hF3 hn3 hS3=>?_
 generalize hB:σ2.n=B at hS3 hn3
 have hS23:=hF3.stN hS2
 have h3:lE σ3 (· =B) pn N pd D:=h2.step (S:=NoB) hF3 (fun _ _ h=>h.elim) fun j hj h=>by omega
 have hA3:Ask σ3 B pn N cn pd D cd 0:=⟨hS3,h3.tree,h3.nl,h3.dl,h3.cl,h3.kl,h3.al⟩
 rw [aI,aD]
 refine WpF.mono (wp_walk32 hN 60 0 false N.length σ3 (Nat.le_refl _) g.walk hA3) ?_
 rintro _ σ4 ⟨rfl,hA4,hF4⟩
 have hF24:Frm σ2 σ4 NoB:=(hF3).fresh hF4 fun j hj h=>by omega
 have hS4:=hF24.stN hS2
 have h4:=h2.frm hF24
 simp only [wpS]
 rw [aC,if_pos (by rfl),aE hA4.st (i:=2) rfl]
 simp only [wpS]
 rw [aE hS4 (v:=.slice pn N.length cn) rfl]
 simp only [wpS,T32k3]
 rw [show (((N.length:Nat):Int) !=((N.length:Nat):Int))=false by simp,aC,if_neg (by simp),aE hS4 (v:=.slice pn N.length cn) rfl]
 simp only [wpS]
 have hF04:=(hF1.seq hF2).seq hF24
 refine Wp.count N.length (fun i st σ'=>st=[.int .i64 ((i:Nat):Int),.bool false]∧Frm σ4 σ' NoB) ⟨rfl,Frm.refl _ _⟩ ?_ ?_
 ·rintro i st σ5 hi ⟨rfl,hF5⟩
  have ei:aT ((i:Int)+1)=((i+1:Nat):Int):=by rw [aV (by omega)];omega
  have h5:=h4.frm hF5
  have hS5:=hF5.stN hS4
  unfold T32b0
  simp only [wpS]
  rw [aC,if_pos (by simp;omega),aI]
  refine dM h5.tree.nodes hi rfl fun cs hcs=>?_
  obtain ⟨q,k,rfl,hrow,_⟩:=hcs
  simp only [wpS]
  refine aP fun σ6 hF6 hn6 hS6=>?_
  refine bC hS6 rfl rfl fun σ7 hF7 hn7 hS7=>?_
  have hF57:Frm σ5 σ7 NoB:=hF6.fresh hF7 fun j hj h=>by omega
  have hS27:=hF57.stN hS5
  have h7:=h5.frm hF57
  rw [aI,aE hS7 (i:=0) rfl]
  simp only [wpS]
  rw [aD]
  refine WpF.mono (sI _) ?_
  rintro _ _ ⟨rfl,rfl⟩
  simp only [wpS]
  rw [aC]
  by_cases hk:21≤N[i].x.k∧N[i].x.k≤26
  case neg=>
   rw [if_neg (by simp;omega)]
   simp only [wpS,T32k0]
   rw [aC,if_neg (by simp)]
   simp only [wpS,T32k1,ei]
   exact ⟨trivial,hF5.seq hF57⟩
  rw [if_pos (by simp;omega),aS hS27 2 rfl]
  simp only [wpS]
  rw [aD]
  obtain ⟨m,b',e',_,hw⟩:=(walk_at _ _ _ _ g.walk).2 i (Nat.zero_le _) hi
  refine WpF.mono (wp_binds35 hN m i b' e' N.length _ hw (by omega) h7.tree) ?_
  rintro _ σ8 ⟨rb,q8,k8,rfl,hL8,_,hF8⟩
  simp only [wpS]
  rw [aD]
  have hbl:=mT _ _ _ _ hw N.length
  have hlt:=gR hw
  refine WpF.mono (rB (gK hL8) (by omega) (g.binds hi (by omega))) ?_
  rintro _ σ9 ⟨rfl,hF9⟩
  simp only [wpS,T32k0]
  rw [aC,if_neg (by simp)]
  simp only [wpS,T32k1,ei]
  exact ⟨trivial,hF5.seq (hF57.seq (hF8.seq hF9))⟩
 ·rintro st σ5 ⟨rfl,hF5⟩
  unfold T32b0
  simp only [wpS]
  rw [aC,if_neg (by simp)]
  simp only [wpS,T32k2]
  exact ⟨_,rfl,rfl,hF04.seq hF5⟩
end
end Go.Pg
namespace Go.Pg
open Go.Proofs Go.Utf8 Go.Lib
set_option linter.unusedSimpArgs false
section
variable {σ σ':aB} {Y:Nat→Prop}
theorem VlP.plain {v:Vl} (h1:v.args=[]) (h2:v.env=.nil):VlP σ Y v none none:=⟨by rw [h1];exact aR.nil,Emp.none,by rw [h2];exact sD.2 rfl⟩
abbrev zC:List Value:=[.int .i64 0,.int .i64 0,.string (bs []),.slice none 0 0,.int .i64 0,.pointer none,.int .i64 0]
theorem zj (n:Int):EvF aG ovD 31 [.int .i64 n] σ (.int .i64 (w63 n)) σ:=by
 refine EvF.of (T31_eq _) rfl ?_
 rw [T31,wp_ret]
 exact ⟨rfl,rfl⟩
theorem oO (n:Int) {Q:Value→aB→Prop} (hQ:∀ σ',Frm σ σ' NoB→Q (.agg (vC (yR n) none 0 none).toArray) σ'):WpF aG ovD 61 [.int .i64 n] σ Q:=by
 refine WpF.of (T61_eq _) rfl ?_
 rw [T61]
 refine aP fun σ1 hF1 hn1 hS1=>?_
 rw [aD,WpF.eq (zj n)]
 simp only [wpS]
 refine bC hS1 rfl rfl fun σ2 hF2 hn2 hS2=>?_
 rw [aS hS2 7 rfl]
 simp only [wpS]
 exact ⟨_,rfl,hQ σ2 (hF1.fresh hF2 fun j hj h=>by omega)⟩
theorem uH {Q:Value→aB→Prop} (hQ:∀ σ',Frm σ σ' NoB→Q (.agg (vC vS none 0 none).toArray) σ'):WpF aG ovD 62 [] σ Q:=by
 refine WpF.of T62_eq rfl ?_
 rw [T62]
 refine aP fun σ1 hF1 hn1 hS1=>?_
 refine bC hS1 rfl rfl fun σ2 hF2 hn2 hS2=>?_
 rw [aS hS2 7 rfl]
 simp only [wpS]
 exact ⟨_,rfl,hQ σ2 (hF1.fresh hF2 fun j hj h=>by omega)⟩
theorem wp_truth114 (b:Bool) {Q:Value→aB→Prop} (hQ:∀ σ',Frm σ σ' NoB→Q (.agg (vC (zY b) none 0 none).toArray) σ'):WpF aG ovD 114 [.bool b] σ Q:=by
 refine WpF.of (T114_eq _) rfl ?_
 rw [T114]
 refine aP fun σ1 hF1 hn1 hS1=>?_
 generalize hA:σ.n=A at hS1 hn1
 refine aP fun σ2 hF2 hn2 hS2=>?_
 have hS12:=hF2.stN hS1
 generalize hB:σ1.n=B at hS2 hn2
 refine bC hS2 rfl rfl fun σ3 hF3 hn3 hS3=>?_
 have hS13:=hF3.st hS12 (by omega)
 have hF03:Frm σ σ3 NoB:=(hF1.seq hF2).fresh hF3 fun j hj h=>by have:=hF1.n;omega
 have fin:∀ (τ:aB) (z:Int),Frm σ τ NoB→St τ A zC→St τ B [.int .i64 2,.int .i64 z,.string (bs []),.slice none 0 0,.int .i64 0,.pointer none,.int .i64 0]→z=(if b=true then 1 else 0)→Wp aG ovD (T114k0 ⟨B,0,some 0⟩ ⟨A,0,some 0⟩ .normal []) τ fun _ vs σ'=>∃ v,vs=[v]∧Q v σ':=by
  rintro τ z hτ hA hB rfl
  simp only [wpS,T114k0]
  rw [aS hB 7 rfl]
  simp only [wpS]
  refine bC hA rfl rfl fun σ5 hF5 hn5 hS5=>?_
  rw [aS hS5 7 rfl]
  simp only [wpS]
  exact ⟨_,rfl,hQ σ5 (hτ.fresh hF5 fun j hj h=>by omega)⟩
 rw [aI,aC]
 cases b with
 |true=>
  rw [if_pos rfl]
  refine bB hS3 (by simp) rfl fun σ4 hF4 hn4 hS4=>?_
  simp only [wpS]
  exact fin σ4 1 (hF03.fresh hF4 fun j hj h=>by have:=hF1.n;omega) (hF4.st hS13 (by omega)) hS4 rfl
 |false=>
  rw [if_neg (by simp)]
  simp only [wpS]
  exact fin σ3 0 hF03 hS13 hS3 rfl
theorem wp_op89 (t:List UInt8) (a b:Int) {Q:Value→aB→Prop} (hQ:∀ σ',Frm σ σ' NoB→Q (.tuple #[.agg (vC ((opV t a b).getD cN) none 0 none).toArray,.bool (opV t a b).isSome]) σ'):WpF aG ovD 89 [.string (mkB t),.int .i64 a,.int .i64 b] σ Q:=by
 refine WpF.of (T89_eq _ _ _) rfl ?_
 rw [T89]
 refine aP fun σ1 hF1 hn1 hS1=>?_
 generalize hA:σ.n=A at hS1 hn1
 have fin:∀ (τ:aB) (v:Vl),Frm σ1 τ NoB→v.args=[]→opV t a b=some v→Wp aG ovD (.act (stC ⟨A,0,some 0⟩ (vC v none 0 none)) fun v31=>cA v31 fun l32=>aA l32 (.ret .ret [.bool true])) τ fun e vs σ'=>Wp aG ovD (T89k0 ⟨A,0,some 0⟩ e vs) σ' fun _ vs σ'=>∃ v,vs=[v]∧Q v σ':=by
  intro τ v hτ ha hv
  refine bC (hτ.stN hS1) rfl rfl fun σ3 hF3 hn3 hS3=>?_
  simp only [wpS,T89k0]
  rw [aS hS3 7 rfl]
  simp only [wpS]
  have:=hQ σ3 ((hF1.seq hτ).fresh hF3 fun j hj h=>by omega)
  rw [hv] at this
  exact ⟨_,rfl,this⟩
 have num:∀ n:Int,opV t a b=some (yR n)→Wp aG ovD (.call 61 [.int .i64 n] fun v6=>asAgg v6 fun l7=>aM l7 fun v8 l9=>asInt .i64 v8 fun i10=>aM l9 fun v11 l12=>asInt .i64 v11 fun i13=>aM l12 fun v14 l15=>jX v14 fun s16=>aM l15 fun v17 l18=>aN v17 fun p19 n20 n21=>aM l18 fun v22 l23=>asInt .i64 v22 fun i24=>aM l23 fun v25 l26=>aK v25 fun p27=>aM l26 fun v28 l29=>asInt .i64 v28 fun i30=>aA l29 (.act (stC ⟨A,0,some 0⟩ [.int .i64 i10,.int .i64 i13,.string s16,.slice p19 n20 n21,.int .i64 i24,.pointer p27,.int .i64 i30]) fun v31=>cA v31 fun l32=>aA l32 (.ret .ret [.bool true]))) σ1 fun e vs σ'=>Wp aG ovD (T89k0 ⟨A,0,some 0⟩ e vs) σ' fun _ vs σ'=>∃ v,vs=[v]∧Q v σ':=by
  intro n hn
  rw [aD]
  refine oO n fun τ hτ=>?_
  have:=fin τ (yR n) hτ rfl hn
  unfold vC at this ⊢
  simp only [wpS]
  exact this
 have tru:∀ c:Bool,opV t a b=some (zY c)→Wp aG ovD (.call 114 [.bool c] fun v6=>asAgg v6 fun l7=>aM l7 fun v8 l9=>asInt .i64 v8 fun i10=>aM l9 fun v11 l12=>asInt .i64 v11 fun i13=>aM l12 fun v14 l15=>jX v14 fun s16=>aM l15 fun v17 l18=>aN v17 fun p19 n20 n21=>aM l18 fun v22 l23=>asInt .i64 v22 fun i24=>aM l23 fun v25 l26=>aK v25 fun p27=>aM l26 fun v28 l29=>asInt .i64 v28 fun i30=>aA l29 (.act (stC ⟨A,0,some 0⟩ [.int .i64 i10,.int .i64 i13,.string s16,.slice p19 n20 n21,.int .i64 i24,.pointer p27,.int .i64 i30]) fun v31=>cA v31 fun l32=>aA l32 (.ret .ret [.bool true]))) σ1 fun e vs σ'=>Wp aG ovD (T89k0 ⟨A,0,some 0⟩ e vs) σ' fun _ vs σ'=>∃ v,vs=[v]∧Q v σ':=by
  intro c hc
  rw [aD]
  refine wp_truth114 c fun τ hτ=>?_
  have:=fin τ (zY c) hτ rfl hc
  unfold vC at this ⊢
  simp only [wpS]
  exact this
 rw [aI,bQ,aC]
 unfold opV at num tru hQ
 by_cases c1:t=[43]
 ·rw [if_pos (by simpa using c1)]
  exact num _ (by rw [if_pos c1])
 rw [if_neg (by simpa using c1),bQ,aC]
 by_cases c2:t=[45]
 ·rw [if_pos (by simpa using c2)]
  exact num _ (by rw [if_neg c1,if_pos c2])
 rw [if_neg (by simpa using c2),bQ,aC]
 by_cases c3:t=[42]
 ·rw [if_pos (by simpa using c3)]
  exact num _ (by rw [if_neg c1,if_neg c2,if_pos c3])
 rw [if_neg (by simpa using c3),bQ,aC]
 by_cases c4:t=[60]
 ·rw [if_pos (by simpa using c4)]
  exact tru _ (by rw [if_neg c1,if_neg c2,if_neg c3,if_pos c4])
 rw [if_neg (by simpa using c4),bQ,aC]
 by_cases c5:t=[61]
 ·rw [if_pos (by simpa using c5)]
  exact tru _ (by rw [if_neg c1,if_neg c2,if_neg c3,if_neg c4,if_pos c5])
 rw [if_neg (by simpa using c5)]
 simp only [wpS,T89k0]
 refine bC hS1 rfl rfl fun σ3 hF3 hn3 hS3=>?_
 rw [aS hS3 7 rfl]
 simp only [wpS]
 have:=hQ σ3 (hF1.fresh hF3 fun j hj h=>by omega)
 rw [if_neg c1,if_neg c2,if_neg c3,if_neg c4,if_neg c5] at this
 exact ⟨_,rfl,this⟩
def En.len:En→Nat
 | .nil=>0
 | .cons _ _ u=>u.len+1
theorem wp_find63 {e:En} {p:Option Addr} (h:EnR σ Y e p) (t:List UInt8) {Q:Value→aB→Prop}
  (hno:qO t e=none→∀ σ',Frm σ σ' NoB→Q (.tuple #[.agg zC.toArray,.bool false]) σ')
  (hyes:∀ v,qO t e=some v→∀ q c p' σ',Frm σ σ' NoB→VlP σ' Y v q p'→Q (.tuple #[.agg (vC v q c p').toArray,.bool true]) σ'):WpF aG ovD 63 [.pointer p,.string (mkB t)] σ Q:=by
 refine WpF.of (T63_eq _ _) rfl ?_
 rw [T63]
 refine aP fun σ1 hF1 hn1 hS1=>?_
 generalize hA:σ.n=A at hS1 hn1
 refine Wp.loop (fun m st σ'=>σ'=σ1∧∃ e' p',st=[.pointer p',.bool false]∧EnR σ Y e' p'∧qO t e'=qO t e∧m=e'.len) e.len ⟨rfl,e,p,rfl,h,rfl,rfl⟩ ?_
 rintro m st σ2 ⟨rfl,e',p',rfl,hE,hf,rfl⟩
 unfold T63b0
 simp only [wpS]
 cases e' with
 |nil=>
  rw [sD] at hE
  subst hE
  rw [aC,if_neg (by simp)]
  simp only [wpS,T63k1]
  refine bC hS1 rfl rfl fun σ3 hF3 hn3 hS3=>?_
  rw [aS hS3 7 rfl]
  simp only [wpS]
  exact ⟨_,rfl,hno (by rw [←hf];rfl) σ3 (hF1.fresh hF3 fun j hj h=>by omega)⟩
 |cons nm v u=>
  obtain ⟨x,cs,pu,rfl,h1,h2,h3,h4⟩:=EnR_cons.1 hE
  have hl:=h3.len
  have hz:Cz σ2 Y x 9 (.string (mkB nm)::(cs++[.pointer pu])):=Cz.frm ⟨h1,h2,by simp [hl]⟩ hF1
  rw [aC,if_pos (by simp),aI]
  simp only [wpS]
  rw [dJ hz (i:=0) rfl]
  simp only [wpS,eV]
  rw [aC]
  by_cases hn:nm=t
  ·rw [if_pos (by simpa using hn),aZ,hz.ldN (i:=1) (k:=7) (by decide)]
   have ecs:((Value.string (mkB nm)::(cs++[.pointer pu])).drop 1).take 7=cs:=by
    rw [List.drop_succ_cons,List.drop_zero,List.take_append_of_le_length (by omega),List.take_of_length_le (by omega)]
   rw [ecs]
   obtain ⟨q,c,p2,rfl,hP⟩:=dF.1 h3
   unfold vC
   simp only [wpS]
   refine bC hS1 rfl rfl fun σ3 hF3 hn3 hS3=>?_
   simp only [wpS,T63k0,T63k1]
   rw [aS hS3 7 rfl]
   simp only [wpS]
   have hF:=hF1.fresh hF3 fun j hj h=>by omega
   exact ⟨_,rfl,hyes v (by rw [←hf,qO,if_pos hn]) q c p2 σ3 hF (hP.step (S:=NoB) (Y':=Y) hF (fun _ _ h=>h.elim) fun _ _ h=>h)⟩
  ·rw [if_neg (by simpa using hn)]
   simp only [wpS,T63k0]
   rw [dJ hz (i:=8) (v:=.pointer pu) (by
    show (cs++[Value.pointer pu])[7]?=_
    rw [List.getElem?_append_right (by omega),hl]
    rfl)]
   simp only [wpS]
   exact ⟨u.len,Nat.lt_succ_self _,trivial,u,pu,rfl,h4,by rw [←hf,qO,if_neg hn],rfl⟩
end
section
variable {σ σ':aB} {X:Nat→Prop} {A:Nat} {T:TrA} {N:List NV} {D:List Dc} {s:Slt} {m:MS}
theorem eN (h:Mac σ X A T N D s m) {v:Vl} {q p:Option Addr} (c:Nat) (hv:VlP σ (FX X A s) v q p):WpF aG ovD 56 [bO A,.agg (vC v q c p).toArray] σ (QM σ X A T N D s (m.value v)):=by
 refine WpF.of (T56_eq _ _ _ _ _ _ _ _ _ _) rfl ?_
 rw [T56]
 refine aP fun σ1 hF1 hn1 hS1=>?_
 have h1:=h.frmN hF1
 have hv1:=hv.step (S:=NoB) (Y':=FX X A s) hF1 (fun _ _ h=>h.elim) fun _ _ h=>h
 rw [aS hS1 7 rfl]
 simp only [wpS]
 refine wp_stKQ h1.st (by simp [eT]) rfl fun σ2 hF2 hn2 hS2=>?_
 refine bB (i:=11) hS2 (by simp [eT]) rfl fun σ3 hF3 hn3 hS3=>?_
 simp only [wpS]
 have hF13:=hF2.seq hF3
 refine ⟨_,rfl,rfl,{ s with vq:=q,vc:=c,vp:=p },?_,(Mov.ofN hF1).trans (Mov.ofA hF13 rfl)⟩
 exact h1.upd hF13 hS3 (by constructor<;>rfl) hv1 h1.env h1.k h1.calls
theorem fG (h:Mac σ X A T N D s m) {i:Nat} {e:En} {p:Option Addr} (he:EnR σ (FX X A s) e p):WpF aG ovD 57 [bO A,.int .i64 ((i:Nat):Int),.pointer p] σ (QM σ X A T N D s (m.goTo i e)):=by
 refine WpF.of (T57_eq _ _ _) rfl ?_
 rw [T57]
 simp only [wpS]
 refine bB (i:=19) h.st (by simp [eT]) rfl fun σ1 hF1 hn1 hS1=>?_
 refine bB (i:=20) hS1 (by simp [eT]) rfl fun σ2 hF2 hn2 hS2=>?_
 refine bB (i:=11) hS2 (by simp [eT]) rfl fun σ3 hF3 hn3 hS3=>?_
 simp only [wpS]
 have hF:=(hF1.seq hF2).seq hF3
 refine ⟨_,rfl,rfl,{ s with pe:=p },?_,Mov.ofA hF rfl⟩
 exact h.upd hF hS3 (by constructor<;>rfl) h.v he h.k h.calls
theorem fO (h:Mac σ X A T N D s m):WpF aG ovD 64 [bO A] σ (QM σ X A T N D s m.stuck):=by
 refine WpF.of (T64_eq _) rfl ?_
 rw [T64]
 simp only [wpS]
 refine bB (i:=9) h.st (by simp [eT]) rfl fun σ1 hF1 hn1 hS1=>?_
 simp only [wpS]
 refine ⟨_,rfl,rfl,s,?_,Mov.ofA hF1 rfl⟩
 exact h.upd hF1 hS1 (by constructor<;>rfl) h.v h.env h.k h.calls
theorem ev_isStop55 (k:Int):EvF aG ovD 55 [.int .i64 k] σ (.bool (stopK k)) σ:=by
 refine EvF.of (T55_eq _) rfl ?_
 have p:∀ {K:Ex→List Value→Pg},(∀ x,K .normal [.bool x]=.ret .normal [.bool x])→∀ x,EvB (K .normal [.bool x]) σ x:=fun h=>EvB.pass h
 rw [T55,aI,aI]
 refine EvB.wp (EvB.cond (EvB.join (EvB.cond (EvB.join (EvB.cond (EvB.join (EvB.cond (EvB.join (EvB.cond (EvB.join (EvB.cond (EvB.join (EvB.cond (EvB.join (EvB.cond (EvB.join (EvB.cond (EvB.ret _ _)) (p fun x=>by simp only [wpS,T55k0]))) (p fun x=>by simp only [wpS,T55k1]))) (p fun x=>by simp only [wpS,T55k2]))) (p fun x=>by simp only [wpS,T55k3]))) (p fun x=>by simp only [wpS,T55k4]))) (p fun x=>by simp only [wpS,T55k5]))) (p fun x=>by simp only [wpS,T55k6]))) (p fun x=>by simp only [wpS,T55k7]))) ?_
 simp only [wpS,T55k8]
 unfold stopK
 rw [aC]
 by_cases c:k=7∨k=8∨k=9∨k=10∨k=11∨k=13∨k=17∨k=18∨k=19∨k=20
 ·rw [if_pos (by simpa using c),decide_eq_true c]
  simp only [wpS,T55k9]
  exact ⟨trivial,trivial⟩
 ·rw [if_neg (by simpa using c),decide_eq_false c]
  simp only [wpS,T55k9]
  exact ⟨trivial,trivial⟩
theorem ev_here37 (h:Mac σ X A T N D s m) (hat:m.at_<N.length):EvF aG ovD 37 [bO A] σ (.bool (yp N m)) σ:=by
 refine EvF.of (T37_eq _) rfl ?_
 rw [T37,aI]
 simp only [wpS]
 rw [aE h.st (i:=9) rfl]
 simp only [wpS]
 unfold yp
 rw [aC]
 by_cases h0:m.over=0
 case neg=>
  rw [if_neg (by simpa using h0),decide_eq_false h0]
  simp only [wpS,T37k0]
  exact ⟨rfl,trivial⟩
 rw [if_pos (by simpa using h0),decide_eq_true h0,aE h.st (i:=11) rfl]
 simp only [wpS]
 rw [aC]
 cases hb:m.back with
 |true=>
  rw [if_neg (by simp)]
  simp only [wpS,T37k0]
  exact ⟨rfl,trivial⟩
 |false=>
  rw [if_pos (by rfl),cD,aE h.st (i:=0) rfl]
  simp only [wpS]
  rw [aE h.st (i:=19) rfl]
  simp only [wpS]
  refine dG h.tree.tree.nodes hat rfl (o:=0) (by decide) fun cs hcs=>?_
  obtain ⟨q,k,rfl,_,_⟩:=hcs
  refine ⟨_,rfl,?_⟩
  simp only [wpS]
  rw [aD,WpF.eq (ev_isStop55 _)]
  simp only [wpS,T37k0]
  rw [iR hat]
  exact ⟨rfl,trivial⟩
end
end Go.Pg
namespace Go.Pg
open Go.Proofs Go.Utf8 Go.Lib
set_option linter.unusedSimpArgs false
section
variable {σ σ':aB} {X:Nat→Prop} {A:Nat} {T:TrA} {N:List NV} {D:List Dc} {s:Slt} {m:MS}
theorem wp_input65 (h:Mac σ X A T N D s m) (_hr:m.read≤m.inp.length) (hl:m.inp.length≤1000000):WpF aG ovD 65 [bO A] σ (QM σ X A T N D s (yD m)):=by
 refine WpF.of (T65_eq _) rfl ?_
 rw [T65]
 simp only [wpS]
 rw [aE h.st (i:=3) rfl]
 simp only [wpS]
 rw [aE h.st (i:=2) rfl]
 simp only [wpS]
 unfold yD
 rw [aC]
 by_cases c1:m.inp.length≤m.read
 ·rw [if_pos (by simp;omega),if_pos c1]
  refine bB (i:=9) h.st (by simp [eT]) rfl fun σ1 hF1 hn1 hS1=>?_
  simp only [wpS]
  refine ⟨_,rfl,rfl,s,?_,Mov.ofA hF1 rfl⟩
  exact h.upd hF1 hS1 (by constructor<;>rfl) h.v h.env h.k h.calls
 rw [if_neg (by simp;omega),if_neg c1,aE h.st (i:=3) rfl]
 simp only [wpS]
 have e1:aT (((m.read:Nat):Int)+1)=((m.read+1:Nat):Int):=by rw [aV (by omega)];omega
 have e2:aT (((m.read+1:Nat):Int) - 1)=((m.read:Nat):Int):=by rw [aV (by omega)];omega
 rw [e1]
 refine bB (i:=3) h.st (by simp [eT]) rfl fun σ1 hF1 hn1 hS1=>?_
 have h1:Mac σ1 X A T N D s { m with read:=m.read+1 }:=h.upd hF1 hS1 (by constructor<;>rfl) h.v h.env h.k h.calls
 rw [aE h1.st (i:=2) rfl]
 simp only [wpS]
 rw [aE h1.st (i:=3) rfl]
 simp only [wpS]
 rw [e2]
 have hi:m.read<m.inp.length:=by omega
 refine dD h1.inp hi rfl fun cs hcs=>⟨_,hcs,?_⟩
 simp only [wpS]
 rw [aD]
 refine oO _ fun σ2 hF2=>?_
 have h2:=h1.frmN hF2
 have key:=eN h2 0 (v:=yR m.inp[m.read]) (q:=none) (p:=none) (VlP.plain rfl rfl)
 unfold vC at key ⊢
 simp only [wpS]
 rw [aD]
 refine WpF.mono key ?_
 intro v σ3 hq
 obtain ⟨rfl,_⟩:=id hq
 simp only [wpS]
 refine ⟨_,rfl,?_⟩
 have eg:m.inp.getD m.read 0=m.inp[m.read]:=by simp [List.getD,hi]
 rw [eg]
 exact hq.up ((Mov.ofA hF1 rfl).trans (Mov.ofN hF2))
theorem wp_branch58 (h:Mac σ X A T N D s m) {x:NV} {q:Option Addr} {k:Nat} (hrow:aR σ (FX X A s) 1 kE q x.kids) (hl:x.kids.length=3) {xw:Addr} {w:Wt} {pe:Option Addr} {c0 c2 c3 c4:Value} (hw:Cz σ (FX X A s) xw 5 [c0,.pointer pe,c2,c3,c4]) (he:EnR σ (FX X A s) w.env pe) (v:Vl) (vq vp:Option Addr) (vc:Nat):
  WpF aG ovD 58 [bO A,.agg (nvC x q k).toArray,.pointer (some xw),.agg (vC v vq vc vp).toArray] σ (QM σ X A T N D s (rZ m x w v)):=by
 refine WpF.of (T58_eq _ _ _ _ _ _ _ _ _ _ _ _ _ _ _ _ _ _ _ _) rfl ?_
 rw [T58]
 refine aP fun σ1 hF1 hn1 hS1=>?_
 generalize hB:σ.n=B at hS1 hn1
 refine aP fun σ2 hF2 hn2 hS2=>?_
 have hS12:=hF2.stN hS1
 generalize hC:σ1.n=C at hS2 hn2
 have hS12:St σ2 B (nvC x q k):=hS12
 have hS2:St σ2 C (vC v vq vc vp):=hS2
 have hF:=hF1.seq hF2
 have h2:=h.frmN hF
 have hrow2:=hrow.later hF
 have hw2:=hw.frm hF
 have he2:EnR σ2 (FX X A s) w.env pe:=EnR_step (S:=NoB) hF (fun _ _ h=>h.elim) (fun _ _ h=>h) _ _ he
 have fin:∀ (m':MS) (τ:aB),QM σ2 X A T N D s m' (.tuple #[]) τ→QM σ X A T N D s m' (.tuple #[]) τ:=fun m' τ hq=>hq.up (Mov.ofN hF)
 rw [aI,aE hS2 (i:=0) rfl]
 simp only [wpS]
 unfold rZ
 rw [aC]
 by_cases c1:v.k=2
 case neg=>
  rw [if_pos (by simpa using c1),aD,if_pos c1]
  refine WpF.mono (fO h2) ?_
  intro v' σ3 hq
  obtain ⟨rfl,_⟩:=id hq
  simp only [wpS,T58k1,T58k2]
  exact ⟨_,rfl,fin _ _ hq⟩
 rw [if_neg (by simp [c1]),if_neg (by simp [c1]),aE hS2 (i:=1) rfl]
 simp only [wpS]
 rw [aC]
 by_cases c2:v.n=1
 ·rw [if_pos (by simpa using c2),if_pos c2,aE hS12 (i:=4) rfl]
  simp only [wpS]
  refine pJ hrow2 (i:=1) (o:=0) rfl (by omega) rfl (by decide) rfl fun cs hcs=>?_
  unfold kE at hcs
  subst hcs
  refine ⟨_,rfl,?_⟩
  simp only [wpS]
  rw [dJ hw2 (i:=1) rfl]
  simp only [wpS]
  rw [aD]
  refine WpF.mono (fG h2 he2) ?_
  intro v' σ3 hq
  obtain ⟨rfl,_⟩:=id hq
  simp only [wpS,T58k0,T58k1,T58k2]
  have ek:fW x 1=x.kids[1]:=by unfold fW;simp [List.getD,show 1<x.kids.length by omega]
  rw [ek]
  exact ⟨_,rfl,fin _ _ hq⟩
 ·rw [if_neg (by simpa using c2),if_neg c2,aE hS12 (i:=4) rfl]
  simp only [wpS]
  refine pJ hrow2 (i:=2) (o:=0) rfl (by omega) rfl (by decide) rfl fun cs hcs=>?_
  unfold kE at hcs
  subst hcs
  refine ⟨_,rfl,?_⟩
  simp only [wpS]
  rw [dJ hw2 (i:=1) rfl]
  simp only [wpS]
  rw [aD]
  refine WpF.mono (fG h2 he2) ?_
  intro v' σ3 hq
  obtain ⟨rfl,_⟩:=id hq
  simp only [wpS,T58k0,T58k1,T58k2]
  have ek:fW x 2=x.kids[2]:=by unfold fW;simp [List.getD,show 2<x.kids.length by omega]
  rw [ek]
  exact ⟨_,rfl,fin _ _ hq⟩
def MeetQ (σ:aB) (Y:Nat→Prop) (r:Option En) (v:Value) (σ':aB):Prop:=∃ p b,v=.tuple #[.pointer p,.bool b]∧(∀ e,r=some e→b=true∧EnR σ' Y e p)∧(r=none→b=false)∧Frm σ σ' NoB
theorem wp_meets87 (g:dB N D):∀ (f i:Nat) (σ:aB) (v:Vl) (e:En) (q p pe:Option Addr) (c:Nat),Mac σ X A T N D s m→i<N.length→N.length≤f+i→VlP σ (FX X A s) v q p→EnR σ (FX X A s) e pe→
  WpF aG ovD 87 [bO A,.int .i64 ((i:Nat):Int),.agg (vC v q c p).toArray,.pointer pe] σ (MeetQ σ (FX X A s) (nS N f i v e)):=by
 intro f
 induction f with
 |zero=>intro i σ v e q p pe c _ hi hf;omega
 |succ f ih=>
  intro i σ v e q p pe c h hi hf hv he
  have hNl:=h.tree.nl
  refine WpF.of (T87_eq _ _ _ _ _ _ _ _ _ _ _ _) rfl ?_
  rw [T87]
  refine aP fun σ1 hF1 hn1 hS1=>?_
  generalize hB:σ.n=B at hS1 hn1
  have hS1:St σ1 B (vC v q c p):=hS1
  have h1:=h.frmN hF1
  simp only [wpS]
  rw [cD,aE h1.st (i:=0) rfl]
  simp only [wpS]
  refine dM h1.tree.tree.nodes hi rfl fun cs hcs=>?_
  have hkid:=fun j hj=>g.kid (i:=i) (j:=j) hi hj
  have hkl:=h.tree.kl _ (List.getElem_mem hi)
  rw [nS,iR hi]
  generalize N[i]=x at hcs hkid hkl
  obtain ⟨xq,xk,rfl,hrow,_⟩:=hcs
  simp only [wpS]
  refine aP fun σ2 hF2 hn2 hS2=>?_
  refine bC hS2 rfl rfl fun σ3 hF3 hn3 hS3=>?_
  generalize hC:σ1.n=C at hS2 hS3 hF3 hn2
  have hF13:Frm σ1 σ3 NoB:=hF2.fresh hF3 fun j hj h=>by omega
  have hS3:St σ3 C (nvC x xq xk):=hS3
  have hS13:=hF13.stN hS1
  have hF03:=hF1.seq hF13
  have h3:=h1.frmN hF13
  have hrow3:=hrow.later hF13
  have hv3:=hv.step (S:=NoB) (Y':=FX X A s) hF03 (fun _ _ h=>h.elim) fun _ _ h=>h
  have he3:EnR σ3 (FX X A s) e pe:=EnR_step (S:=NoB) hF03 (fun _ _ h=>h.elim) (fun _ _ h=>h) _ _ he
  clear hS2 hF2 hF3
  rw [aE hS3 (i:=0) rfl]
  simp only [wpS]
  have out:∀ (τ:aB) (b:Bool) (p':Option Addr) (r:Option En),Frm σ3 τ NoB→(∀ e,r=some e→b=true∧EnR τ (FX X A s) e p')→(r=none→b=false)→MeetQ σ (FX X A s) r (.tuple #[.pointer p',.bool b]) τ:=fun τ b p' r hτ h1 h2=>⟨p',b,rfl,h1,h2,hF03.seq hτ⟩
  rw [aC]
  by_cases c1:x.x.k=21
  ·rw [if_pos (by simpa using c1),if_pos c1]
   simp only [wpS,T87k5]
   exact ⟨_,rfl,out σ3 _ _ _ (Frm.refl _ _) (fun e' h=>by cases h;exact ⟨rfl,he3⟩) fun h=>by cases h⟩
  rw [if_neg (by simpa using c1),if_neg c1,aC]
  by_cases c2:x.x.k=22
  ·rw [if_pos (by simpa using c2),if_pos c2,aE hS3 (i:=2) rfl]
   simp only [wpS]
   rw [aS hS13 7 rfl]
   unfold vC
   simp only [wpS]
   refine aP fun σ4 hF4 hn4 hS4=>?_
   simp only [wpS,T87k5]
   refine ⟨_,rfl,out σ4 _ _ _ hF4 (fun e' h=>?_) fun h=>by cases h⟩
   cases h
   refine ⟨rfl,pM (cs:=vC v q c p) (pu:=pe) hS4 ?_ ?_ ?_⟩
   ·intro hX
    have:=h3.fn _ hX
    omega
   ·exact dF.2 ⟨q,c,p,rfl,hv3.step (S:=NoB) hF4 (fun _ _ h=>h.elim) fun _ _ h=>h⟩
   ·exact EnR_step (S:=NoB) hF4 (fun _ _ h=>h.elim) (fun _ _ h=>h) _ _ he3
  rw [if_neg (by simpa using c2),if_neg c2,aC]
  by_cases c3:x.x.k=23
  ·rw [if_pos (by simpa using c3),if_pos c3,aI,aE hS13 (i:=0) rfl]
   simp only [wpS]
   rw [aC]
   by_cases d1:v.k=1
   ·rw [if_pos (by simpa using d1),aE hS13 (i:=1) rfl]
    simp only [wpS]
    rw [aE hS3 (i:=1) rfl]
    simp only [wpS,T87k0,T87k5]
    refine ⟨_,rfl,?_⟩
    by_cases d2:v.n=x.x.n
    ·rw [if_pos ⟨d1,d2⟩]
     exact out σ3 _ _ _ (Frm.refl _ _) (fun e' h=>by cases h;exact ⟨by simpa using d2,he3⟩) fun h=>by cases h
    ·rw [if_neg fun h=>d2 h.2]
     exact out σ3 _ _ _ (Frm.refl _ _) (fun e' h=>by cases h) fun _=>by simpa using d2
   ·rw [if_neg (by simpa using d1)]
    simp only [wpS,T87k0,T87k5]
    rw [if_neg fun h=>d1 h.1]
    exact ⟨_,rfl,out σ3 _ _ _ (Frm.refl _ _) (fun e' h=>by cases h) fun _=>rfl⟩
  rw [if_neg (by simpa using c3),if_neg c3,aC]
  by_cases c4:x.x.k=24
  ·rw [if_pos (by simpa using c4),if_pos c4,aI,aE hS13 (i:=0) rfl]
   simp only [wpS]
   rw [aC]
   by_cases d1:v.k=2
   ·rw [if_pos (by simpa using d1),aE hS13 (i:=1) rfl]
    simp only [wpS]
    rw [aE hS3 (i:=1) rfl]
    simp only [wpS,T87k1,T87k5]
    refine ⟨_,rfl,?_⟩
    by_cases d2:v.n=x.x.n
    ·rw [if_pos ⟨d1,d2⟩]
     exact out σ3 _ _ _ (Frm.refl _ _) (fun e' h=>by cases h;exact ⟨by simpa using d2,he3⟩) fun h=>by cases h
    ·rw [if_neg fun h=>d2 h.2]
     exact out σ3 _ _ _ (Frm.refl _ _) (fun e' h=>by cases h) fun _=>by simpa using d2
   ·rw [if_neg (by simpa using d1)]
    simp only [wpS,T87k1,T87k5]
    rw [if_neg fun h=>d1 h.1]
    exact ⟨_,rfl,out σ3 _ _ _ (Frm.refl _ _) (fun e' h=>by cases h) fun _=>rfl⟩
  rw [if_neg (by simpa using c4),if_neg c4,aC]
  by_cases c5:x.x.k=25
  ·rw [if_pos (by simpa using c5),if_pos c5,aE hS13 (i:=0) rfl]
   simp only [wpS,T87k5]
   refine ⟨_,rfl,?_⟩
   by_cases d1:v.k=3
   ·rw [if_pos d1]
    exact out σ3 _ _ _ (Frm.refl _ _) (fun e' h=>by cases h;exact ⟨by simpa using d1,he3⟩) fun h=>by cases h
   ·rw [if_neg d1]
    exact out σ3 _ _ _ (Frm.refl _ _) (fun e' h=>by cases h) fun _=>by simpa using d1
  rw [if_neg (by simpa using c5),if_neg c5]
  simp only [wpS,T87k5]
  rw [aE hS13 (i:=0) rfl]
  simp only [wpS]
  have no:v.k≠4∨v.nm≠x.x.nm∨v.args.length≠x.kids.length→Wp aG ovD (T87k4 pe ⟨C,0,some 0⟩ false none ⟨B,0,some 0⟩ (some ⟨A,0,some 0⟩) .normal [.bool true]) σ3 fun _ vs σ'=>∃ w,vs=[w]∧MeetQ σ (FX X A s) (if v.k≠4∨v.nm≠x.x.nm∨v.args.length≠x.kids.length then none else meetsL N f x.kids v.args e) w σ':=by
   intro hc
   simp only [wpS,T87k4]
   rw [aC,if_pos rfl,if_pos hc]
   simp only [wpS]
   exact ⟨_,rfl,out σ3 _ _ _ (Frm.refl _ _) (fun e' h=>by cases h) fun _=>rfl⟩
  rw [aC]
  by_cases d1:v.k=4
  case neg=>
   rw [if_neg (by simpa using d1)]
   simp only [wpS]
   exact no (.inl d1)
  rw [if_pos (by simp [d1]),aE hS13 (i:=2) rfl]
  simp only [wpS]
  rw [aE hS3 (i:=2) rfl]
  simp only [wpS,eV]
  rw [aC]
  by_cases d2:v.nm=x.x.nm
  case neg=>
   rw [if_neg (by simpa using d2)]
   simp only [wpS]
   exact no (.inr (.inl d2))
  rw [if_pos (by simp [d2]),aE hS13 (i:=3) rfl]
  simp only [wpS]
  rw [aE hS3 (i:=4) rfl]
  simp only [wpS]
  by_cases d3:v.args.length=x.kids.length
  case neg=>
   rw [show (((v.args.length:Nat):Int) !=((x.kids.length:Nat):Int))=true from bne_iff_ne.2 fun h=>d3 (by omega)]
   exact no (.inr (.inr d3))
  rw [show (((v.args.length:Nat):Int) !=((x.kids.length:Nat):Int))=false by simp [d3]]
  simp only [wpS,T87k4]
  rw [aC,if_neg (by simp),if_neg (by simp [d1,d2,d3]),aE hS3 (i:=4) rfl]
  simp only [wpS]
  generalize hR:meetsL N f x.kids v.args e=R
  refine Wp.count x.kids.length (fun j st σ'=>∃ b p1 p2 e',st=[.int .i64 ((j:Nat):Int),.bool b,.pointer p1,.pointer p2]∧Frm σ3 σ' NoB∧EnR σ' (FX X A s) e' p2∧meetsL N f (x.kids.drop j) (v.args.drop j) e'=R)
   ⟨_,_,_,e,rfl,Frm.refl _ _,he3,by rw [List.drop_zero,List.drop_zero];exact hR⟩ ?_ ?_
  ·rintro j st σ4 hj ⟨b,p1,p2,e',rfl,hF4,he4,hR4⟩
   have ej:aT ((j:Int)+1)=((j+1:Nat):Int):=by rw [aV (by omega)];omega
   have hj2:j<v.args.length:=by omega
   obtain ⟨k1,k2⟩:=hkid j hj
   rw [List.drop_eq_getElem_cons hj,List.drop_eq_getElem_cons hj2,meetsL] at hR4
   have h4:=h3.frmN hF4
   have hv4:=hv3.step (S:=NoB) (Y':=FX X A s) hF4 (fun _ _ h=>h.elim) fun _ _ h=>h
   unfold T87b0
   simp only [wpS]
   rw [aC,if_pos (by simp;omega),aI]
   refine dD (hrow3.later hF4) hj rfl fun cs hcs=>⟨_,hcs,?_⟩
   simp only [wpS]
   rw [aE (hF4.stN hS13) (i:=3) rfl]
   simp only [wpS]
   refine dM hv4.row hj2 rfl fun cs hcs=>?_
   obtain ⟨q5,c5',p5,rfl,hP5⟩:=dF.1 hcs
   have key:=ih x.kids[j] σ4 v.args[j] e' q5 p5 p2 c5' h4 k2 (by omega) hP5 he4
   unfold vC at key ⊢
   simp only [wpS]
   rw [aD]
   refine WpF.mono key ?_
   rintro _ σ5 ⟨p6,b6,rfl,hy,hn,hF5⟩
   simp only [wpS]
   rw [aC]
   cases hm:nS N f x.kids[j] v.args[j] e' with
   |none=>
    rw [hm] at hR4
    obtain rfl:=hn hm
    rw [if_pos (by rfl)]
    simp only [wpS,T87k2,T87k3]
    exact ⟨_,rfl,out σ5 _ _ _ (hF4.seq hF5) (fun e1 h=>by rw [←hR4] at h;cases h) fun _=>rfl⟩
   |some e1=>
    rw [hm] at hR4
    obtain ⟨rfl,he5⟩:=hy e1 hm
    rw [if_neg (by simp)]
    simp only [wpS,T87k2,ej]
    exact ⟨_,_,_,e1,rfl,hF4.seq hF5,he5,hR4⟩
  ·rintro st σ4 ⟨b,p1,p2,e',rfl,hF4,he4,hR4⟩
   rw [List.drop_length,meetsL] at hR4
   ·unfold T87b0
    simp only [wpS]
    rw [aC,if_neg (by simp)]
    simp only [wpS,T87k3]
    exact ⟨_,rfl,out σ4 _ _ _ hF4 (fun e1 h=>by rw [←hR4] at h;cases h;exact ⟨rfl,he4⟩) fun h=>by rw [←hR4] at h;cases h⟩
   ·intro i l v r h;cases h
theorem wp_match59 (g:dB N D) (h:Mac σ X A T N D s m) {x:NV} {q:Option Addr} {k:Nat} (hrow:aR σ (FX X A s) 1 kE q x.kids) (hl:x.kids.length % 2=1) (hl2:x.kids.length≤1000000) (hkN:∀ j (hj:j<x.kids.length),x.kids[j]<N.length) {xw:Addr} {w:Wt} {pe:Option Addr} {c0 c2 c3 c4:Value} (hw:Cz σ (FX X A s) xw 5 [c0,.pointer pe,c2,c3,c4]) (he:EnR σ (FX X A s) w.env pe) {v:Vl} {vq vp:Option Addr} (vc:Nat) (hv:VlP σ (FX X A s) v vq vp):
  WpF aG ovD 59 [bO A,.agg (nvC x q k).toArray,.pointer (some xw),.agg (vC v vq vc vp).toArray] σ (QM σ X A T N D s (wk N m x w v)):=by
 refine WpF.of (T59_eq _ _ _ _ _ _ _ _ _ _ _ _ _ _ _ _ _ _ _ _) rfl ?_
 rw [T59]
 refine aP fun σ1 hF1 hn1 hS1=>?_
 generalize hB:σ.n=B at hS1 hn1
 refine aP fun σ2 hF2 hn2 hS2=>?_
 have hS12:=hF2.stN hS1
 generalize hC:σ1.n=C at hS2 hn2
 have hS12:St σ2 B (nvC x q k):=hS12
 have hS2:St σ2 C (vC v vq vc vp):=hS2
 have hF:=hF1.seq hF2
 unfold wk
 generalize hR:wG N v w.env (x.kids.drop 1)=R
 refine Wp.loop (fun n st σ'=>∃ i:Nat,st=[.int .i64 ((i:Nat):Int)]∧Frm σ2 σ' NoB∧i+n=x.kids.length+2∧i % 2=1∧wG N v w.env (x.kids.drop i)=R) (x.kids.length+1) ⟨1,rfl,Frm.refl _ _,by omega,rfl,hR⟩ ?_
 rintro n st σ3 ⟨i,rfl,hF3,hin,hodd,hRi⟩
 have hF03:=hF.seq hF3
 have h3:=h.frmN hF03
 have hrow3:=hrow.later hF03
 have hw3:=hw.frm hF03
 have he3:EnR σ3 (FX X A s) w.env pe:=EnR_step (S:=NoB) hF03 (fun _ _ h=>h.elim) (fun _ _ h=>h) _ _ he
 have hv3:=hv.step (S:=NoB) (Y':=FX X A s) hF03 (fun _ _ h=>h.elim) fun _ _ h=>h
 have hSB:=hF3.stN hS12
 have hSC:=hF3.stN hS2
 unfold T59b0
 simp only [wpS]
 rw [aE hSB (i:=4) rfl]
 simp only [wpS]
 rw [aC]
 by_cases hi:i<x.kids.length
 case neg=>
  rw [List.drop_eq_nil_of_le (by omega),wG] at hRi
  ·rw [if_neg (by simp;omega),←hRi]
   simp only [wpS,T59k1]
   rw [aD]
   refine WpF.mono (fO h3) ?_
   intro v' σ4 hq
   obtain ⟨rfl,_⟩:=id hq
   simp only [wpS]
   exact ⟨_,rfl,hq.up (Mov.ofN hF03)⟩
  ·intro p b r h;cases h
 have hi1:i+1<x.kids.length:=by omega
 have e1:aT (((i:Nat):Int)+1)=((i+1:Nat):Int):=by rw [aV (by omega)];omega
 have e2:aT (((i:Nat):Int)+2)=((i+2:Nat):Int):=by rw [aV (by omega)];omega
 rw [if_pos (by simp;omega),aI,aE hSB (i:=4) rfl]
 simp only [wpS]
 refine dD hrow3 hi rfl fun cs hcs=>⟨_,hcs,?_⟩
 simp only [wpS]
 rw [aS hSC 7 rfl]
 have key:=wp_meets87 g (N.length+1) x.kids[i] σ3 v w.env vq vp pe vc h3 (hkN i hi) (by omega) hv3 he3
 unfold vC at key ⊢
 simp only [wpS]
 rw [dJ hw3 (i:=1) rfl]
 simp only [wpS]
 rw [aD]
 refine WpF.mono key ?_
 rintro _ σ4 ⟨p4,b4,rfl,hy,hn,hF4⟩
 rw [List.drop_eq_getElem_cons hi,List.drop_eq_getElem_cons hi1,wG] at hRi
 simp only [wpS]
 rw [aC]
 have hF04:=hF03.seq hF4
 cases hm:nS N (N.length+1) x.kids[i] v w.env with
 |none=>
  rw [hm] at hRi
  obtain rfl:=hn hm
  rw [if_neg (by simp)]
  simp only [wpS,T59k0,e2]
  exact ⟨n - 2,by omega,i+2,rfl,hF3.seq hF4,by omega,by omega,hRi⟩
 |some e'=>
  rw [hm] at hRi
  obtain ⟨rfl,he4⟩:=hy e' hm
  have h4:=h3.frmN hF4
  rw [if_pos rfl,aE (hF4.stN hSB) (i:=4) rfl]
  simp only [wpS]
  rw [e1]
  refine dD (hrow3.later hF4) hi1 rfl fun cs hcs=>⟨_,hcs,?_⟩
  simp only [wpS]
  rw [aD]
  refine WpF.mono (fG h4 he4) ?_
  intro v' σ5 hq
  obtain ⟨rfl,_⟩:=id hq
  simp only [wpS,T59k0,T59k1]
  rw [←hRi]
  exact ⟨_,rfl,hq.up (Mov.ofN hF04)⟩
end
end Go.Pg
namespace Go.Pg
open Go.Proofs Go.Utf8 Go.Lib
set_option linter.unusedSimpArgs false
section
variable {σ σ':aB} {X Y:Nat→Prop} {A:Nat} {T:TrA} {N:List NV} {D:List Dc} {s:Slt} {m:MS} {P:Program} {ov:Ov}
theorem tL {β:Type} {c:Nat} {R:List Value→β→Prop} {p:Option Addr} {ts:List β} (h:aR σ Y c R p ts) {i n:Nat} (hi:i<ts.length) (hn:n=ts.length) {f:Addr→Value→Pg} {Q:cH}
  (k:∀ x cs,R cs ts[i]→(∀ τ,Frm σ τ NoB→Go.Pg.ldN c (aadd x (Int.toNat ((i:Nat):Int)*c)) τ=some (.agg cs.toArray,τ))→Wp P ov (f x (.agg cs.toArray)) σ Q):
  Wp P ov (aF p fun a=>grd (decide (0≤((i:Nat):Int))&&decide (((i:Nat):Int)<((n:Nat):Int))) (.act (Go.Pg.ldN c (aadd a (Int.toNat ((i:Nat):Int)*c))) (f a))) σ Q:=by
 subst hn
 obtain ⟨x,cs,rfl,h1,h2⟩:=keepN h hi
 have e:(decide (0≤((i:Nat):Int))&&decide (((i:Nat):Int)<((ts.length:Nat):Int)))=true:=by simp;omega
 simp only [bN]
 have h3:=h2 σ (Frm.refl _ _)
 rw [aQ,e,aZ,Int.toNat_natCast,h3]
 exact ⟨rfl,k x cs h1 (by rw [Int.toNat_natCast];exact h2)⟩
theorem qG {β:Type} {c:Nat} {R:List Value→β→Prop} {p:Option Addr} {ts:List β} (h:aR σ Y c R p ts) {i n o:Nat} {J:Int} (hJ:J=((i:Nat):Int)) (hi:i<ts.length) (hn:n=ts.length) (ho:o<c) {w:Nat} (hw:w=i*c+o) {f:Addr→Value→Pg} {Q:cH}
  (k:∀ x cs,R cs ts[i]→∃ v,cs[o]?=some v∧(Kp σ (aadd x w) v→Wp P ov (f x v) σ Q)):Wp P ov (aF p fun a=>grd (decide (J<((n:Nat):Int))) (.act (ld1 (aadd a w)) (f a))) σ Q:=by
 obtain ⟨x,cs,rfl,h2,h3⟩:=Kp.ofRow h hi
 subst hw hJ hn
 obtain ⟨v,hv,hk⟩:=k x cs h2
 simp only [bN]
 rw [aQ]
 refine ⟨by simp;omega,?_⟩
 have h4:=h3 o v ho hv
 rw [show aadd (aadd x (i*c)) o=aadd x (i*c+o) by simp [aadd,Nat.add_assoc]] at h4
 rw [nV h4 (f x) Q]
 exact hk h4
theorem EnR.frmN {e:En} {p:Option Addr} (h:EnR σ Y e p) (f:Frm σ σ' NoB):EnR σ' Y e p:=EnR_step (S:=NoB) f (fun _ _ h=>h.elim) (fun _ _ h=>h) _ _ h
theorem VlP.frmN {v:Vl} {q p:Option Addr} (h:VlP σ Y v q p) (f:Frm σ σ' NoB):VlP σ' Y v q p:=h.step (S:=NoB) f (fun _ _ h=>h.elim) fun _ _ h=>h
theorem LkR.none {l:List (Int × Int)} {p:Option Addr} (h:LkR σ Y l p):l=[]∧p=none∨∃ c r x,l=c::r∧p=some x:=by
 cases l with
 |nil=>exact .inl ⟨rfl,h⟩
 |cons c r=>
  obtain ⟨x,pu,h1,_⟩:=h
  exact .inr ⟨c,r,x,rfl,h1⟩
theorem wp_call88 (h:Mac σ X A T N D s m) (i:Nat) {F a:Vl} {fq fp aq ap:Option Addr} (fc ac:Nat) (hF:VlP σ (FX X A s) F fq fp) (ha:VlP σ (FX X A s) a aq ap) (hn:F.k=5→zy N F.node) (g:dB N D) (hcl:m.calls.length≤1000000000000):
  WpF aG ovD 88 [bO A,.int .i64 ((i:Nat):Int),.agg (vC F fq fc fp).toArray,.agg (vC a aq ac ap).toArray] σ (QM σ X A T N D s (ww N m i F a)):=by
 refine WpF.of (T88_eq _ _ _ _ _ _ _ _ _ _ _ _ _ _ _ _ _ _ _ _) rfl ?_
 rw [T88]
 refine aP fun σ1 hF1 hn1 hS1=>?_
 generalize hB:σ.n=B at hS1 hn1
 refine aP fun σ2 hF2 hn2 hS2=>?_
 have hS12:=hF2.stN hS1
 generalize hC:σ1.n=C at hS2 hn2
 have hS12:St σ2 B (vC F fq fc fp):=hS12
 have hS2:St σ2 C (vC a aq ac ap):=hS2
 have hF02:=hF1.seq hF2
 have h2:=h.frmN hF02
 have hF':=hF.frmN hF02
 have ha':=ha.frmN hF02
 rw [aE hS12 (i:=0) rfl]
 simp only [wpS]
 unfold ww
 rw [aC]
 by_cases c1:F.k=5
 case neg=>
  rw [if_pos (by simpa using c1),if_pos c1,aD]
  refine WpF.mono (fO h2) ?_
  intro v' σ3 hq
  obtain ⟨rfl,_⟩:=id hq
  simp only [wpS]
  exact ⟨_,rfl,hq.up (Mov.ofN hF02)⟩
 rw [if_neg (by simp [c1]),if_neg (by simp [c1])]
 obtain ⟨j,hj,hjN,hjk⟩:=hn c1
 rw [cD,aE h2.st (i:=0) rfl]
 simp only [wpS]
 rw [aE hS12 (i:=4) rfl]
 simp only [wpS]
 have hkf:Kp σ2 (aadd ⟨B,0,some 0⟩ 4) (.int .i64 ((j:Nat):Int)):=Kp.st hS12 (i:=4) (by show some (Value.int .i64 F.node)=_;rw [hj])
 rw [hj,Int.toNat_natCast,iR hjN]
 refine tL h2.tree.tree.nodes hjN rfl fun x cs hcs hkn=>?_
 have hfk:N[j].kids.length=if N[j].x.k=9 then 2 else 1:=by
  rcases hjk with hk|hk
  ·rw [if_neg (by omega)];exact g.kidsOf hjN 6 1 hk rfl
  ·rw [if_pos hk];exact g.kidsOf hjN 9 2 hk rfl
 generalize N[j]=nv at hcs hfk ⊢
 obtain ⟨xq,xk,rfl,hrow,_⟩:=hcs
 simp only [wpS]
 refine aP fun σ3 hF3 hn3 hS3=>?_
 generalize hE:σ2.n=E at hS3 hn3
 rw [bK,aQ]
 refine ⟨jM (hkn σ3 hF3) (bR (hkf.frm hF3) (bR ((Kp.st h2.st (i:=0) rfl).frm hF3) rfl)),?_⟩
 refine bC hS3 rfl rfl fun σ4 hF4 hn4 hS4=>?_
 have hF24:Frm σ2 σ4 NoB:=hF3.fresh hF4 fun j hj h=>by omega
 have hF04:=hF02.seq hF24
 have hS4:St σ4 E (nvC nv xq xk):=hS4
 have hB4:=hF24.stN hS12
 have hC4:=hF24.stN hS2
 have h4:=h2.frmN hF24
 have hf4:=hF'.frmN hF24
 have ha4:=ha'.frmN hF24
 have hrow4:=hrow.later hF24
 rw [aE hB4 (i:=5) rfl]
 simp only [wpS]
 rw [aE hS4 (i:=0) rfl]
 simp only [wpS]
 have fin:∀ (τ:aB) (e:En) (pe:Option Addr),Frm σ4 τ NoB→EnR τ (FX X A s) e pe→e=(if nv.x.k=9 then .cons nv.x.nm F F.env else F.env)→
   Wp aG ovD (T88k1 (some ⟨A,0,some 0⟩) ⟨B,0,some 0⟩ ((i:Nat):Int) ⟨E,0,some 0⟩ ⟨C,0,some 0⟩ .normal [.pointer pe]) τ fun _ vs σ'=>∃ v,vs=[v]∧QM σ X A T N D s (MS.goTo { m with k:=⟨none,.nil,[],m.calls⟩::m.k,calls:=(((i:Nat):Int),((j:Nat):Int))::m.calls } (fW nv 0) (.cons nv.x.pm a (if nv.x.k=9 then .cons nv.x.nm F F.env else F.env))) v σ':=by
  rintro τ e pe hτ he rfl
  generalize (if nv.x.k=9 then En.cons nv.x.nm F F.env else F.env)=e at he ⊢
  have h5:=h4.frmN hτ
  unfold T88k1
  simp only [wpS]
  rw [aE h5.st (i:=22) rfl]
  simp only [wpS]
  rw [aE h5.st (i:=21) rfl]
  simp only [wpS]
  refine aP fun σ5 hF5 hn5 hS5=>?_
  have h6:=h5.frmN hF5
  have nX5:¬ FX X A s τ.n:=fun hX=>by have:=h5.fn _ hX;omega
  have hk5:WtR σ5 (FX X A s) (⟨none,.nil,[],m.calls⟩::m.k) (some ⟨τ.n,0,some 0⟩):=WtR_new (w:=⟨none,.nil,[],m.calls⟩) hS5 nX5 (sD.2 rfl) aR.nil Emp.none h6.calls h6.k
  refine bB (i:=21) h6.st (by simp [eT]) rfl fun σ6 hF6 hn6 hS6=>?_
  have h7:Mac σ6 X A T N D { s with pk:=some ⟨τ.n,0,some 0⟩ } { m with k:=⟨none,.nil,[],m.calls⟩::m.k }:=h6.upd hF6 hS6 (by constructor<;>rfl) h6.v h6.env hk5 h6.calls
  have hA6:∀ k,σ4.n≤k∨k=B∨k=C∨k=E→¬ k=A:=fun k hk he=>by
   have:=h.st.1
   have:=hF04.n
   omega
  have hF56:=hF5
  have hB6:=hF6.st (hF5.stN (hτ.stN hB4)) (hA6 B (by omega))
  have hC6:=hF6.st (hF5.stN (hτ.stN hC4)) (hA6 C (by omega))
  have hE6:=hF6.st (hF5.stN (hτ.stN hS4)) (hA6 E (by omega))
  have hY6:∀ j,j<σ5.n→j=A→FX X A s j:=fun j _ h=>.inr (.inl h)
  have he6:EnR σ6 (FX X A s) e pe:=EnR_step hF6 hY6 (fun _ _ h=>h) _ _ (he.frmN hF5)
  have ha6:VlP σ6 (FX X A s) a aq ap:=((ha4.frmN hτ).frmN hF5).step hF6 hY6 fun _ _ h=>h
  have hrow6:aR σ6 (FX X A s) 1 kE xq nv.kids:=aR.step hF6 hY6 (fun _ _ h=>h) (fun _ _ h=>h) ((hrow4.later hτ).later hF5)
  have hM06:Mov σ σ6 A s { s with pk:=some ⟨τ.n,0,some 0⟩ }:=(Mov.ofN ((hF04.seq hτ).seq hF5)).trans (Mov.ofA hF6 rfl)
  rw [aE h7.st (i:=22) rfl]
  simp only [wpS]
  have fin2:Wp aG ovD (T88k0 ⟨B,0,some 0⟩ (some ⟨A,0,some 0⟩) ((i:Nat):Int) ⟨E,0,some 0⟩ ⟨C,0,some 0⟩ pe .normal [.int .i64 ((m.calls.length+1:Nat):Int)]) σ6 fun _ vs σ'=>∃ v,vs=[v]∧QM σ X A T N D s (MS.goTo { m with k:=⟨none,.nil,[],m.calls⟩::m.k,calls:=(((i:Nat):Int),((j:Nat):Int))::m.calls } (fW nv 0) (.cons nv.x.pm a e)) v σ':=by
   unfold T88k0
   simp only [wpS]
   rw [aE hB6 (i:=4) rfl]
   simp only [wpS]
   rw [aE h7.st (i:=22) rfl]
   simp only [wpS]
   rw [hj]
   refine aP fun σ7 hF7 hn7 hS7=>?_
   have h8:=h7.frmN hF7
   have nX7:¬ FX X A s σ6.n:=fun hX=>by have:=h7.fn _ hX;omega
   have hl7:LkR σ7 (FX X A s) ((((i:Nat):Int),((j:Nat):Int))::m.calls) (some ⟨σ6.n,0,some 0⟩):=LkR_new (c:=(((i:Nat):Int),((j:Nat):Int))) hS7 nX7 h8.calls
   refine bB (i:=22) h8.st (by simp [eT]) rfl fun σ8 hF8 hn8 hS8=>?_
   have h9:Mac σ8 X A T N D { s with pk:=some ⟨τ.n,0,some 0⟩,pl:=some ⟨σ6.n,0,some 0⟩ } { m with k:=⟨none,.nil,[],m.calls⟩::m.k,calls:=(((i:Nat):Int),((j:Nat):Int))::m.calls }:=h8.upd hF8 hS8 (by constructor<;>rfl) h8.v h8.env h8.k hl7
   have hC8:=hF8.st (hF7.stN hC6) (hA6 C (by omega))
   have hE8:=hF8.st (hF7.stN hE6) (hA6 E (by omega))
   have hY8:∀ j,j<σ7.n→j=A→FX X A s j:=fun j _ h=>.inr (.inl h)
   have he8:EnR σ8 (FX X A s) e pe:=EnR_step hF8 hY8 (fun _ _ h=>h) _ _ (he6.frmN hF7)
   have ha8:VlP σ8 (FX X A s) a aq ap:=(ha6.frmN hF7).step hF8 hY8 fun _ _ h=>h
   have hrow8:aR σ8 (FX X A s) 1 kE xq nv.kids:=aR.step hF8 hY8 (fun _ _ h=>h) (fun _ _ h=>h) (hrow6.later hF7)
   have hM08:Mov σ σ8 A s { s with pk:=some ⟨τ.n,0,some 0⟩,pl:=some ⟨σ6.n,0,some 0⟩ }:=hM06.trans ((Mov.ofN hF7).trans (Mov.ofA hF8 rfl))
   rw [aE hE8 (i:=4) rfl]
   simp only [wpS]
   have hk0:0<nv.kids.length:=by rw [hfk];split<;>omega
   refine qG hrow8 (i:=0) (o:=0) rfl hk0 rfl (by decide) rfl fun y cs hcs=>?_
   unfold kE at hcs
   subst hcs
   refine ⟨_,rfl,fun hky=>?_⟩
   simp only [wpS]
   rw [aE hE8 (i:=3) rfl]
   simp only [wpS]
   rw [aS hC8 7 rfl]
   unfold vC
   simp only [wpS]
   refine aP fun σ9 hF9 hn9 hS9=>?_
   rw [bK,aQ]
   refine ⟨bR (hky.frm hF9) (bR ((Kp.st hE8 (i:=4) rfl).frm hF9) rfl),?_⟩
   have h10:=h9.frmN hF9
   have nX9:¬ FX X A s σ8.n:=fun hX=>by have:=h9.fn _ hX;omega
   have he9:EnR σ9 (FX X A s) (.cons nv.x.pm a e) (some ⟨σ8.n,0,some 0⟩):=pM (cs:=vC a aq ac ap) (pu:=pe) hS9 nX9 (dF.2 ⟨_,_,_,rfl,ha8.frmN hF9⟩) (he8.frmN hF9)
   have ek:fW nv 0=nv.kids[0]:=by unfold fW;simp [List.getD,hk0]
   rw [aD,ek]
   refine WpF.mono (fG h10 he9) ?_
   intro v' σ10 hq
   obtain ⟨rfl,_⟩:=id hq
   simp only [wpS]
   exact ⟨_,rfl,hq.up (hM08.trans (Mov.ofN hF9))⟩
  rw [aC]
  have hl6:=h7.calls
  rcases LkR.none hl6 with ⟨e1,e2⟩|⟨c,r,y,e1,e2⟩
  ·have e1:m.calls=[]:=e1
   have e2:s.pl=none:=e2
   have e3:((m.calls.length+1:Nat):Int)=1:=by rw [e1];try rfl
   rw [e3] at fin2
   rw [if_neg (by simp [e2])]
   simp only [wpS]
   exact fin2
  ·have e1:m.calls=c::r:=e1
   have e2:s.pl=some y:=e2
   rw [if_pos (by simp [e2]),aE h7.st (i:=22) rfl]
   simp only [wpS]
   have hl6:LkR σ6 (FX X A s) m.calls s.pl:=hl6
   rw [e1] at hl6
   obtain ⟨y',pu,h1,hv1,hv2,_⟩:=hl6
   rw [h1]
   simp only [wpS]
   have hz:Cz σ6 (FX X A s) y' 4 _:=⟨hv1,hv2,rfl⟩
   rw [dJ hz (i:=3) rfl]
   simp only [wpS]
   have ew:aT (((r.length+1:Nat):Int)+1)=((m.calls.length+1:Nat):Int):=by
    rw [e1,List.length_cons,aV (by rw [e1,List.length_cons] at hcl;omega)]
    omega
   rw [ew]
   exact fin2
 rw [aC]
 by_cases c9:nv.x.k=9
 ·rw [if_pos (by simpa using c9),aE hS4 (i:=2) rfl]
  simp only [wpS]
  rw [aS hB4 7 rfl]
  unfold vC
  simp only [wpS]
  refine aP fun σ5 hF5 hn5 hS5=>?_
  simp only [wpS]
  have nX5:¬ FX X A s σ4.n:=fun hX=>by have:=h4.fn _ hX;omega
  refine fin σ5 _ _ hF5 (pM (cs:=vC F fq fc fp) (pu:=fp) hS5 nX5 (dF.2 ⟨_,_,_,rfl,hf4.frmN hF5⟩) (hf4.env.frmN hF5)) ?_
  rw [if_pos c9]
 ·rw [if_neg (by simpa using c9)]
  simp only [wpS]
  exact fin σ4 _ _ (Frm.refl _ _) hf4.env (by rw [if_neg c9])
end
end Go.Pg
namespace Go.Pg
open Go.Proofs Go.Utf8 Go.Lib
set_option linter.unusedSimpArgs false
section
variable {σ σ':aB} {X Y:Nat→Prop} {A:Nat} {T:TrA} {N:List NV} {D:List Dc} {s:Slt} {m:MS} {P:Program} {ov:Ov}
theorem okW.at_ {c:Nat} {w:Wt} (h:okW N c w) {i:Nat} (hi:w.at_=some i):i<N.length:=(h.2.2 i hi).1
theorem wp_raise90 (g:dB N D) (h:Mac σ X A T N D s m) (ok:okM N m) {v:Vl} {vq vp:Option Addr} (vc:Nat) (hv:VlP σ (FX X A s) v vq vp):
  WpF aG ovD 90 [bO A,.agg (vC v vq vc vp).toArray] σ (QM σ X A T N D s (rA N m v)):=by
 refine WpF.of (T90_eq _ _ _ _ _ _ _ _ _ _) rfl ?_
 rw [T90]
 refine aP fun σ1 hF1 hn1 hS1=>?_
 generalize hB:σ.n=B at hS1 hn1
 have hS1:St σ1 B (vC v vq vc vp):=hS1
 have h1:=h.frmN hF1
 have hv1:=hv.frmN hF1
 rw [aE hS1 (i:=0) rfl]
 simp only [wpS]
 unfold rA
 rw [aC]
 by_cases c1:v.k=1
 case neg=>
  rw [if_pos (by simpa using c1),if_pos c1,aD]
  refine WpF.mono (fO h1) ?_
  intro v' σ3 hq
  obtain ⟨rfl,_⟩:=id hq
  simp only [wpS]
  exact ⟨_,rfl,hq.up (Mov.ofN hF1)⟩
 rw [if_neg (by simp [c1]),if_neg (by simp [c1])]
 have hA:¬ B=A:=fun e=>by have:=h.st.1;omega
 generalize hR:yP N m.k=R
 refine Wp.loop (fun n st σ'=>st=[]∧∃ k' pk',Mac σ' X A T N D { s with pk:=pk' } { m with k:=k' }∧Mov σ1 σ' A s { s with pk:=pk' }∧St σ' B (vC v vq vc vp)∧VlP σ' (FX X A s) v vq vp∧(∀ w∈k',w∈m.k)∧yP N k'=R∧n=k'.length) m.k.length ⟨rfl,m.k,s.pk,h1,Mov.refl,hS1,hv1,fun _ h=>h,hR,rfl⟩ ?_
 rintro n st σ2 ⟨rfl,k',pk',h2,hM2,hS2,hv2,hsub,hR2,rfl⟩
 unfold T90b0
 simp only [wpS]
 rw [aE h2.st (i:=21) rfl]
 simp only [wpS]
 rw [aC]
 have hM02:=(Mov.ofN hF1).trans hM2
 cases k' with
 |nil=>
  have e2:pk'=none:=h2.k
  subst e2
  rw [if_neg (by simp)]
  simp only [wpS,T90k2]
  rw [aE hS2 (i:=1) rfl]
  simp only [wpS]
  refine bB (i:=9) h2.st (by simp [eT]) rfl fun σ3 hF3 hn3 hS3=>?_
  rw [bK,aQ]
  have hB3:=hF3.st hS2 hA
  refine ⟨jM (hB3.ldF (i:=1) rfl) rfl,?_⟩
  refine bB (i:=10) hS3 (by simp [eT]) rfl fun σ4 hF4 hn4 hS4=>?_
  simp only [wpS]
  have hF:=hF3.seq hF4
  rw [yP] at hR2
  subst hR2
  refine ⟨_,rfl,rfl,{ s with pk:=none },?_,hM02.trans (Mov.ofA hF rfl)⟩
  exact h2.upd hF hS4 (by constructor<;>rfl) h2.v h2.env h2.k h2.calls
 |cons w r=>
  have hk2:WtR σ2 (FX X A s) (w::r) pk':=h2.k
  obtain ⟨x,pe,q,c,pc,pu,rfl,hx1,hx2,hx3,hx4,hx5,hx6,hx7⟩:=hk2
  have hz:Cz σ2 (FX X A s) x 5 [.int .i64 (atI w.at_),.pointer pe,.slice q w.vals.length c,.pointer pc,.pointer pu]:=⟨hx1,hx2,rfl⟩
  rw [if_pos (by simp),aI]
  rw [aE h2.st (i:=21) rfl]
  simp only [wpS]
  rw [dJ hz (i:=0) rfl]
  simp only [wpS]
  have hwm:w∈m.k:=hsub w (by simp)
  have hwk:=ok.k w hwm
  refine Wp.mono _ _ (fun e vs σ'=>e=.normal∧vs=[.bool (decide (∃ i,w.at_=some i∧(cX N i).x.k=20))]∧σ'=σ2) _ ?_ ?_
  ·rintro _ _ τ ⟨rfl,rfl,rfl⟩
   simp only [wpS,T90k0]
   rw [aC]
   by_cases hc:∃ i,w.at_=some i∧(cX N i).x.k=20
   ·rw [if_pos (by simpa using hc)]
    obtain ⟨i,hi,hik⟩:=hc
    have hiN:=hwk.at_ hi
    rw [yP,hi] at hR2
    simp only [hik,if_true] at hR2
    subst hR2
    simp only
    rw [iR hiN] at hik ⊢
    have hl2:=g.kidsOf hiN 20 2 hik rfl
    rw [cD,aE h2.st (i:=0) rfl]
    simp only [wpS]
    rw [dJ hz (i:=0) rfl]
    have hkz:Kp τ (aadd x 0) (.int .i64 ((i:Nat):Int)):=hz.kp (i:=0) (by rw [hi];rfl)
    rw [hi]
    unfold atI
    simp only [wpS]
    refine tL h2.tree.tree.nodes hiN rfl fun xn cs hcs hkn=>?_
    generalize N[i]=nv at hcs hl2 ⊢
    obtain ⟨xq,xk,rfl,hrow,_⟩:=hcs
    simp only [wpS]
    refine aP fun σ3 hF3 hn3 hS3=>?_
    generalize hE:τ.n=E at hS3 hn3
    rw [bK,aQ]
    refine ⟨jM (hkn σ3 hF3) (bR (hkz.frm hF3) (bR ((Kp.st h2.st (i:=0) rfl).frm hF3) rfl)),?_⟩
    refine bC hS3 rfl rfl fun σ4 hF4 hn4 hS4=>?_
    have hF24:Frm τ σ4 NoB:=hF3.fresh hF4 fun j hj h=>by omega
    have hS4:St σ4 E (nvC nv xq xk):=hS4
    have h4:=h2.frmN hF24
    have hz4:=hz.frm hF24
    rw [dJ hz4 (i:=4) rfl]
    simp only [wpS]
    rw [dJ hz4 (i:=3) rfl]
    simp only [wpS]
    refine bB (i:=21) h4.st (by simp [eT]) rfl fun σ5 hF5 hn5 hS5=>?_
    refine bB (i:=22) hS5 (by simp [eT]) rfl fun σ6 hF6 hn6 hS6=>?_
    have hF46:=hF5.seq hF6
    have hY4:∀ j,j<σ4.n→j=A→FX X A s j:=fun j _ h=>.inr (.inl h)
    have hr4:WtR σ4 (FX X A s) r pu:=kW (S:=NoB) hF24 (fun _ _ h=>h.elim) (fun _ _ h=>h) hx7
    have hc4:LkR σ4 (FX X A s) w.calls pc:=gQ (S:=NoB) hF24 (fun _ _ h=>h.elim) (fun _ _ h=>h) hx6
    have he4:EnR σ4 (FX X A s) w.env pe:=hx3.frmN hF24
    have hrow4:=hrow.later hF24
    have h6:Mac σ6 X A T N D { s with pk:=pu,pl:=pc } { m with k:=r,calls:=w.calls }:=h4.upd hF46 hS6 (by constructor<;>rfl) h4.v h4.env hr4 hc4
    have hEA:¬ E=A:=fun e=>by have:=h2.st.1;omega
    have hE6:=hF46.st hS4 hEA
    have hB6:=hF46.st (hF24.stN hS2) hA
    have he6:EnR σ6 (FX X A s) w.env pe:=EnR_step hF46 hY4 (fun _ _ h=>h) _ _ he4
    have hv6:VlP σ6 (FX X A s) v vq vp:=(hv2.frmN hF24).step hF46 hY4 fun _ _ h=>h
    have hrow6:aR σ6 (FX X A s) 1 kE xq nv.kids:=aR.step hF46 hY4 (fun _ _ h=>h) (fun _ _ h=>h) hrow4
    have hz6:Cz σ6 (FX X A s) x 5 _:=hz4.step hF46 hY4 fun _ _ h=>h
    rw [aE hE6 (i:=4) rfl]
    simp only [wpS]
    refine qG hrow6 (i:=1) (o:=0) rfl (by omega) rfl (by decide) rfl fun y cs hcs=>?_
    unfold kE at hcs
    subst hcs
    refine ⟨_,rfl,fun hky=>?_⟩
    simp only [wpS]
    rw [aE hE6 (i:=3) rfl]
    simp only [wpS]
    rw [aS hB6 7 rfl]
    unfold vC
    simp only [wpS]
    rw [dJ hz6 (i:=1) rfl]
    simp only [wpS]
    refine aP fun σ7 hF7 hn7 hS7=>?_
    rw [bK,aQ]
    refine ⟨bR (hky.frm hF7) (bR ((Kp.st hE6 (i:=4) rfl).frm hF7) rfl),?_⟩
    have h7:=h6.frmN hF7
    have nX7:¬ FX X A s σ6.n:=fun hX=>by have:=h6.fn _ hX;omega
    have he7:EnR σ7 (FX X A s) (.cons nv.x.pm v w.env) (some ⟨σ6.n,0,some 0⟩):=pM (cs:=vC v vq vc vp) (pu:=pe) hS7 nX7 (dF.2 ⟨_,_,_,rfl,hv6.frmN hF7⟩) (he6.frmN hF7)
    have ek:fW nv 1=nv.kids[1]:=by unfold fW;simp [List.getD,show 1<nv.kids.length by omega]
    rw [aD,ek]
    refine WpF.mono (fG h7 he7) ?_
    intro v' σ10 hq
    obtain ⟨rfl,_⟩:=id hq
    simp only [wpS,T90k1,T90k2]
    have hM6:Mov τ σ6 A { s with pk:=some x } { s with pk:=pu,pl:=pc }:=(Mov.ofN hF24).trans (Mov.ofA hF46 rfl)
    exact ⟨_,rfl,hq.up ((hM02.trans hM6).trans (Mov.ofN hF7))⟩
   ·rw [if_neg (by simpa using hc)]
    simp only [wpS,T90k1]
    rw [aE h2.st (i:=21) rfl]
    simp only [wpS]
    rw [dJ hz (i:=4) rfl]
    simp only [wpS]
    refine bB (i:=21) h2.st (by simp [eT]) rfl fun σ3 hF3 hn3 hS3=>?_
    simp only [wpS]
    have hY4:∀ j,j<τ.n→j=A→FX X A s j:=fun j _ h=>.inr (.inl h)
    have h3:Mac σ3 X A T N D { s with pk:=pu } { m with k:=r }:=h2.upd hF3 hS3 (by constructor<;>rfl) h2.v h2.env hx7 h2.calls
    refine ⟨r.length,Nat.lt_succ_self _,trivial,r,pu,h3,hM2.trans (Mov.ofA hF3 rfl),hF3.st hS2 hA,hv2.step hF3 hY4 (fun _ _ h=>h),fun w' hw'=>hsub w' (by simp [hw']),?_,rfl⟩
    rw [←hR2,yP]
    cases ha:w.at_ with
    |none=>rfl
    |some i=>simp only;rw [if_neg fun hk=>hc ⟨i,ha,hk⟩]
  ·rw [aC]
   cases ha:w.at_ with
   |none=>
    rw [if_neg (by simp [atI])]
    simp only [wpS]
    exact ⟨trivial,by simp,trivial⟩
   |some i=>
    have hiN:=hwk.at_ ha
    rw [if_pos (by simp [atI]),cD,aE h2.st (i:=0) rfl]
    simp only [wpS]
    rw [dJ hz (i:=0) rfl,ha]
    unfold atI
    simp only [wpS]
    refine dG h2.tree.tree.nodes hiN rfl (o:=0) (by decide) fun cs hcs=>?_
    obtain ⟨q',k',rfl,_,_⟩:=hcs
    refine ⟨_,rfl,?_⟩
    simp only [wpS]
    refine ⟨trivial,?_,trivial⟩
    have e:(∃ i_1,some i=some i_1∧(cX N i_1).x.k=20)↔N[i].x.k=20:=by
     rw [←iR hiN]
     exact ⟨fun ⟨j,h1,h2⟩=>by cases h1;exact h2,fun h=>⟨i,rfl,h⟩⟩
    rw [show (N[i].x.k==20)=decide (N[i].x.k=20) from rfl]
    simp only [e]
end
end Go.Pg
namespace Go.Pg
open Go.Proofs Go.Utf8 Go.Lib
set_option linter.unusedSimpArgs false
theorem Tri.setF_comm:∀ (fa fb:Nat) (t:Tri) (a b:Nat) (x y:dS),a≠b→Tri.setF fb (Tri.setF fa t a x) b y=Tri.setF fa (Tri.setF fb t b y) a x
 |0,fb,t,a,b,x,y,_=>by rw [Tri.setF,Tri.setF]
 |fa+1,0,t,a,b,x,y,_=>by rw [Tri.setF,Tri.setF]
 |fa+1,fb+1,t,0,0,x,y,h=>absurd rfl h
 |fa+1,fb+1,t,0,b+1,x,y,_=>by
  simp only [Tri.setF]
  cases Nat.beq (b % 2) 0<;>rfl
 |fa+1,fb+1,t,a+1,0,x,y,_=>by
  simp only [Tri.setF]
  cases Nat.beq (a % 2) 0<;>rfl
 |fa+1,fb+1,t,a+1,b+1,x,y,h=>by
  simp only [Tri.setF]
  cases ha:Nat.beq (a % 2) 0<;>cases hb:Nat.beq (b % 2) 0<;>simp only [cond_true,cond_false,Tri.lft,Tri.rgt,Tri.val]
  ·have h1:a % 2≠0:=Nat.ne_of_beq_eq_false ha
   have h2:b % 2≠0:=Nat.ne_of_beq_eq_false hb
   exact congrArg (Tri.node _ _) (Tri.setF_comm fa fb _ (a / 2) (b / 2) x y (by omega))
  ·have h1:a % 2=0:=Nat.eq_of_beq_eq_true ha
   have h2:b % 2=0:=Nat.eq_of_beq_eq_true hb
   exact congrArg (fun l=>Tri.node _ l _) (Tri.setF_comm fa fb _ (a / 2) (b / 2) x y (by omega))
theorem put_comm (σ:aB) {a b:Nat} (h:a≠b) (x y:dS):(σ.put a x).put b y=(σ.put b y).put a x:=by
 unfold aB.put
 simp only [Tri.setF_comm (a+1) (b+1) σ.mem a b x y h]
theorem heapEq_same (σ:aB):oI σ σ=true:=by
 unfold oI
 simp
theorem ve:∀ l:List Value,eqvs l l=true
 |[]=>rfl
 |v::l=>by
  have:=ve l
  unfold eqvs at this ⊢
  rw [qN,kY,this]
  try rfl
section
variable {σ σ':aB}
theorem app_ex {b cap len byt esz:Nat} {p:Option Addr} {xs ys:List Value} (h:SlE σ b p cap esz xs) (hlen:xs.length=len*esz) (h0:1≤esz) (he:esz<64) (hy:ys.length=esz) (hy1:∀ y∈ys,one y=true)
  (hb:2*(len+1)*byt≤281474976710656) (hb2:len+1≤4611686018427387904):
  ∃ σ' b' off s cap',apS esz byt p len cap (some ⟨σ.n,0,some esz⟩) 1 1 (σ.newBlk ys esz)=some (.slice (some ⟨b',off,some s⟩) (len+1) cap',σ')∧Frm σ σ' (fun j=>p≠none∧j=b)∧((p≠none∧b'=b)∨σ.n≤b')∧Row σ' b' off s cap' esz (xs++ys):=by
 have hF:=Frm.new σ ys esz NoB
 have hN:=Row.new σ esz ys 1 he (by omega) hy1
 rw [jG (show (σ.newBlk ys esz).rdN ⟨σ.n,0,some esz⟩ (1*esz)=some ys from by
  have:=hN.rdN (i:=0) (k:=1*esz) (by omega)
  rw [this,List.drop_zero,List.take_of_length_le (by omega)])]
 rcases h with ⟨rfl,rfl,rfl⟩|⟨off,s,rfl,h⟩
 ·have hl0:len=0:=by
   simp only [List.length_nil] at hlen
   rcases Nat.mul_eq_zero.1 hlen.symm with h|h
   ·exact h
   ·omega
  subst hl0
  refine ⟨_,_,_,_,_,kS he (by decide) (by omega) hy1 (by simpa using hb) (by decide),?_,.inr (by rw [gP];omega),Row.new (σ.newBlk ys esz) esz ys 1 he (by omega) hy1⟩
  exact hF.no.trans (Frm.new _ ys esz NoB) (fun _ _ h=>h) (fun _ _ h=>h.elim)
 ·obtain ⟨σ',s',cap',e1,e2,e3,e4,e5⟩:=(hF.rowN h).append (byt:=byt) (len:=len) (n:=1) (ys:=ys) hlen (by omega) h0 (by decide) hy1 hb hb2
  have hk:Frm (σ.newBlk ys esz) σ' (· =b):=Frm.of1 (by rw [gP];exact Nat.lt_succ_of_lt h.lt) e2 e3 e4
  exact ⟨σ',b,off,s',cap',e1,hF.trans hk (fun _ _ h=>h.elim) (fun j _ h=>⟨by simp,h⟩),.inl ⟨by simp,rfl⟩,e5⟩
theorem Row.putEx {b off s cap esz:Nat} {xs:List Value} (h:Row σ b off s cap esz xs) {i:Nat} {vs:List Value} (hi:i≤xs.length) (hk:i+vs.length≤cap*esz) (hv:∀ x∈vs,one x=true):
  ∃ o,∀ τ:aB,σ.n≤τ.n→τ.get b=σ.get b→stC ⟨b,off+i,some s⟩ vs τ=some (.tuple #[],τ.put b o)∧Row (τ.put b o) b off s cap esz (xs.take i++vs++xs.drop (i+vs.length)):=by
 obtain ⟨B,hg,hl,hh,he,hd,hc,hx⟩:=id h.blk
 have h1:=h.len
 refine ⟨.blk { B with cells:=B.cells.take (off+i)++vs++B.cells.drop (off+i+vs.length),dirty:=s / 64 },fun τ hn hτ=>?_⟩
 have e:τ.wrN ⟨b,off+i,some s⟩ vs=some (τ.put b (.blk { B with cells:=B.cells.take (off+i)++vs++B.cells.drop (off+i+vs.length),dirty:=s / 64 })):=by
  unfold aB.wrN
  simp only [hτ,hg]
  have:(Nat.beq (s / 64+1) B.his.length&&Nat.ble (off+i+vs.length) B.cells.length&&vs.all one)=true:=by
   simp only [Bool.and_eq_true,Nat.beq_eq,Nat.ble_eq,List.all_eq_true]
   exact ⟨⟨hl.symm,by omega⟩,hv⟩
  rw [this,cond_true]
 obtain ⟨σ1,e1,_,_,_,e5⟩:=(h.frame hn hτ).wrN hi hk hv
 rw [e] at e1
 cases e1
 refine ⟨?_,e5⟩
 unfold Go.Pg.stC
 rw [e]
theorem St.putEx {A:Nat} {cs:List Value} (h:St σ A cs) {i:Nat} {v:Value} (hi:i<cs.length) (hv:one v=true):∃ o,∀ τ:aB,σ.n≤τ.n→τ.get A=σ.get A→Go.Pg.stC (aadd ⟨A,0,some 0⟩ i) [v] τ=some (.tuple #[],τ.put A o)∧St (τ.put A o) A (cs.set i v):=
 ⟨_,fun τ hn hτ=>by
  have h2:=h.frame hn hτ
  have e:=h2.stC (off:=0+i) (v:=v) (by omega) hv
  rw [Nat.zero_add] at e
  exact ⟨by rw [show aadd ⟨A,0,some 0⟩ i=⟨A,i,some 0⟩ by simp [aadd]];exact e,h2.put (by simp)⟩⟩
end
section
variable {σ σ':aB} {X S:Nat→Prop} {A:Nat} {T:TrA} {N:List NV} {D:List Dc} {s s':Slt} {m m':MS} {P:Program} {ov:Ov}
theorem Mov.fx (k:Mov σ σ' A s s'):∀ j,j<σ.n→FX X A s' j→FX X A s j:=fun j hj h=>h.elim .inl fun h=>.inr (k.sub j hj h)
theorem VlP.mov {v:Vl} {q p:Option Addr} (h:VlP σ (FX X A s) v q p) (k:Mov σ σ' A s s'):VlP σ' (FX X A s') v q p:=h.step k.frm (fun _ _ h=>.inr h) k.fx
theorem EnR.mov {e:En} {p:Option Addr} (h:EnR σ (FX X A s) e p) (k:Mov σ σ' A s s'):EnR σ' (FX X A s') e p:=EnR_step k.frm (fun _ _ h=>.inr h) k.fx _ _ h
theorem VlR.mov {v:Vl} {cs:List Value} (h:VlR σ (FX X A s) v cs) (k:Mov σ σ' A s s'):VlR σ' (FX X A s') v cs:=gH k.frm (fun _ _ h=>.inr h) k.fx _ _ h
theorem WtR.mov {l:List Wt} {p:Option Addr} (h:WtR σ (FX X A s) l p) (k:Mov σ σ' A s s'):WtR σ' (FX X A s') l p:=kW k.frm (fun _ _ h=>.inr h) k.fx h
theorem LkR.mov {l:List (Int × Int)} {p:Option Addr} (h:LkR σ (FX X A s) l p) (k:Mov σ σ' A s s'):LkR σ' (FX X A s') l p:=gQ k.frm (fun _ _ h=>.inr h) k.fx h
theorem VRow.mov {l:List Vl} {q:Option Addr} (h:aR σ (FX X A s) 7 (vlR σ (FX X A s)) q l) (k:Mov σ σ' A s s'):aR σ' (FX X A s') 7 (vlR σ' (FX X A s')) q l:=pZ k.frm (fun _ _ h=>.inr h) k.fx h
theorem natRow.mov {l:List Nat} {q:Option Addr} (h:aR σ (FX X A s) 1 kE q l) (k:Mov σ σ' A s s'):aR σ' (FX X A s') 1 kE q l:=aR.step k.frm (fun _ _ h=>.inr h) k.fx (fun _ _ h=>h) h
theorem Cz.mov {x:Addr} {n:Nat} {cs:List Value} (h:Cz σ (FX X A s) x n cs) (k:Mov σ σ' A s s'):Cz σ' (FX X A s') x n cs:=h.step k.frm (fun _ _ h=>.inr h) k.fx
theorem Mac.cl7 (h:Mac σ X A T N D s m):∀ cs∈s.css,cs.length=7:=by
 intro cs hc
 obtain ⟨i,hi,rfl⟩:=List.getElem_of_mem hc
 exact (h.cel i hi (by rw [←h.clen];exact hi)).len
theorem Mac.clf (h:Mac σ X A T N D s m):s.css.flatten.length=m.cells.length*7:=by rw [fB h.cl7,h.clen]
theorem Mac.upw (h:Mac σ X A T N D s m) (k:Mov σ σ' A s s') (hst:St σ' A (eT T N D s' m')) (e1:s'.pi=s.pi) (e2:m'.inp=m.inp) (hout:SlE σ' s'.ro s'.po s'.co 1 (m'.out.map wO)) (hcells:SlE σ' s'.rc s'.pc s'.cc 7 s'.css.flatten)
  (hcl:s'.css.length=m'.cells.length) (hcel:∀ i (h:i<s'.css.length) (h':i<m'.cells.length),VlR σ (FX X A s) m'.cells[i] s'.css[i]) (hwr:SlE σ' s'.rw_ s'.pw s'.cw 8 s'.ws) (hwl:s'.ws.length=m'.nw*8)
  (hv:VlP σ (FX X A s) m'.v s'.vq s'.vp) (he:EnR σ (FX X A s) m'.env s'.pe) (hk:WtR σ (FX X A s) m'.k s'.pk) (hl:LkR σ (FX X A s) m'.calls s'.pl)
  (xo:s'.po≠none→¬ X s'.ro∧s'.ro≠A) (xc:s'.pc≠none→¬ X s'.rc∧s'.rc≠A∧(s'.po≠none→s'.rc≠s'.ro)) (xw:s'.pw≠none→¬ X s'.rw_∧s'.rw_≠A∧(s'.po≠none→s'.rw_≠s'.ro)∧(s'.pc≠none→s'.rw_≠s'.rc)):Mac σ' X A T N D s' m' where
 st:=hst
 tree:=h.tree.step k.frm (fun _ _ h=>.inr h) k.fx
 inp:=by rw [e1,e2];exact h.inp.step k.frm (fun _ _ h=>.inr h) k.fx fun _ _ h=>h
 out:=hout
 cells:=hcells
 clen:=hcl
 cel:=fun i h1 h2=>(hcel i h1 h2).mov k
 wr:=hwr
 wl:=hwl
 v:=hv.mov k
 env:=he.mov k
 k:=hk.mov k
 calls:=hl.mov k
 xn:=fun j hj=>Nat.lt_of_lt_of_le (h.xn j hj) k.frm.n
 xA:=h.xA
 xo:=xo
 xc:=xc
 xw:=xw
theorem Mac.newW (h:Mac σ X A T N D s m) {b' off sp cap':Nat} {ys:List Value} (hy:ys.length=8) (f:Frm σ σ' fun j=>j=A∨(s.pw≠none∧j=s.rw_)) (hb:(s.pw≠none∧b'=s.rw_)∨σ.n≤b') (hR:Row σ' b' off sp cap' 8 (s.ws++ys))
  (hst:St σ' A (eT T N D { s with pw:=some ⟨b',off,some sp⟩,cw:=cap',rw_:=b',ws:=s.ws++ys } { m with nw:=m.nw+1 })):
  Mac σ' X A T N D { s with pw:=some ⟨b',off,some sp⟩,cw:=cap',rw_:=b',ws:=s.ws++ys } { m with nw:=m.nw+1 }∧Mov σ σ' A s { s with pw:=some ⟨b',off,some sp⟩,cw:=cap',rw_:=b',ws:=s.ws++ys }:=by
 have k:Mov σ σ' A s { s with pw:=some ⟨b',off,some sp⟩,cw:=cap',rw_:=b',ws:=s.ws++ys }:=by
  refine ⟨f.mono fun j _ h=>h.elim .inl fun h=>.inr (.inr (.inr h)),?_⟩
  rintro j hj (h1|h1|h1|⟨_,h1⟩)
  ·exact .inl h1
  ·exact .inr (.inl h1)
  ·exact .inr (.inr (.inl h1))
  ·have h1:j=b':=h1
   rcases hb with ⟨hp,e⟩|hb
   ·exact .inr (.inr (.inr ⟨hp,by rw [h1,e]⟩))
   ·omega
 refine ⟨h.upw k hst rfl rfl ?_ ?_ h.clen h.cel (.inr ⟨off,sp,rfl,hR⟩) ?_ h.v h.env h.k h.calls h.xo h.xc ?_,k⟩
 ·refine h.out.frm f fun hp hs=>?_
  rcases hs with hs|⟨h1,h2⟩
  ·exact (h.xo hp).2 hs
  ·exact (h.xw h1).2.2.1 hp h2.symm
 ·refine h.cells.frm f fun hp hs=>?_
  rcases hs with hs|⟨h1,h2⟩
  ·exact (h.xc hp).2.1 hs
  ·exact (h.xw h1).2.2.2 hp h2.symm
 ·show (s.ws++ys).length=(m.nw+1)*8
  rw [List.length_append,hy,h.wl,Nat.add_mul]
 ·intro _
  rcases hb with ⟨hp,e⟩|hb
  ·rw [e]
   exact h.xw hp
  ·have h1:=h.st.1
   refine ⟨fun hx=>?_,fun e=>?_,fun hp e=>?_,fun hp e=>?_⟩
   ·have:b'<σ.n:=h.xn _ hx
    omega
   ·have e:b'=A:=e
    omega
   ·have e:b'=s.ro:=e
    have:=h.out.lt hp
    omega
   ·have e:b'=s.rc:=e
    have:=h.cells.lt hp
    omega
theorem Mac.newO (h:Mac σ X A T N D s m) {b' off sp cap':Nat} {z:Int} (f:Frm σ σ' fun j=>j=A∨(s.po≠none∧j=s.ro)) (hb:(s.po≠none∧b'=s.ro)∨σ.n≤b') (hR:Row σ' b' off sp cap' 1 (m.out.map wO++[wO z]))
  (hst:St σ' A (eT T N D { s with po:=some ⟨b',off,some sp⟩,co:=cap',ro:=b' } { m with out:=m.out++[z] })):
  Mac σ' X A T N D { s with po:=some ⟨b',off,some sp⟩,co:=cap',ro:=b' } { m with out:=m.out++[z] }∧Mov σ σ' A s { s with po:=some ⟨b',off,some sp⟩,co:=cap',ro:=b' }:=by
 have k:Mov σ σ' A s { s with po:=some ⟨b',off,some sp⟩,co:=cap',ro:=b' }:=by
  refine ⟨f.mono fun j _ h=>h.elim .inl fun h=>.inr (.inl h),?_⟩
  rintro j hj (h1|⟨_,h1⟩|h1|h1)
  ·exact .inl h1
  ·have h1:j=b':=h1
   rcases hb with ⟨hp,e⟩|hb
   ·exact .inr (.inl ⟨hp,by rw [h1,e]⟩)
   ·omega
  ·exact .inr (.inr (.inl h1))
  ·exact .inr (.inr (.inr h1))
 have h1:=h.st.1
 refine ⟨h.upw k hst rfl rfl (.inr ⟨off,sp,rfl,?_⟩) ?_ h.clen h.cel ?_ h.wl h.v h.env h.k h.calls ?_ ?_ ?_,k⟩
 ·show Row σ' b' off sp cap' 1 ((m.out++[z]).map wO)
  rw [List.map_append]
  exact hR
 ·refine h.cells.frm f fun hp hs=>?_
  rcases hs with hs|⟨h1,h2⟩
  ·exact (h.xc hp).2.1 hs
  ·exact (h.xc hp).2.2 h1 h2
 ·refine h.wr.frm f fun hp hs=>?_
  rcases hs with hs|⟨h1,h2⟩
  ·exact (h.xw hp).2.1 hs
  ·exact (h.xw hp).2.2.1 h1 h2
 ·intro _
  rcases hb with ⟨hp,e⟩|hb
  ·rw [e]
   exact h.xo hp
  ·refine ⟨fun hx=>?_,fun e=>?_⟩
   ·have:b'<σ.n:=h.xn _ hx
    omega
   ·have e:b'=A:=e
    omega
 ·intro hp
  refine ⟨(h.xc hp).1,(h.xc hp).2.1,fun _ e=>?_⟩
  have e:s.rc=b':=e
  rcases hb with ⟨hp2,e2⟩|hb
  ·exact (h.xc hp).2.2 hp2 (e.trans e2)
  ·have:=h.cells.lt hp
   omega
 ·intro hp
  refine ⟨(h.xw hp).1,(h.xw hp).2.1,fun _ e=>?_,(h.xw hp).2.2.2⟩
  have e:s.rw_=b':=e
  rcases hb with ⟨hp2,e2⟩|hb
  ·exact (h.xw hp).2.2.1 hp2 (e.trans e2)
  ·have:=h.wr.lt hp
   omega
theorem Mac.newC (h:Mac σ X A T N D s m) {b' off sp cap':Nat} {css':List (List Value)} {cells':List Vl} (hcl:css'.length=cells'.length) (hcel:∀ i (h:i<css'.length) (h':i<cells'.length),VlR σ (FX X A s) cells'[i] css'[i]) (f:Frm σ σ' fun j=>j=A∨(s.pc≠none∧j=s.rc)) (hb:(s.pc≠none∧b'=s.rc)∨σ.n≤b') (hR:Row σ' b' off sp cap' 7 css'.flatten)
  (hst:St σ' A (eT T N D { s with pc:=some ⟨b',off,some sp⟩,cc:=cap',rc:=b',css:=css' } { m with cells:=cells' })):
  Mac σ' X A T N D { s with pc:=some ⟨b',off,some sp⟩,cc:=cap',rc:=b',css:=css' } { m with cells:=cells' }∧Mov σ σ' A s { s with pc:=some ⟨b',off,some sp⟩,cc:=cap',rc:=b',css:=css' }:=by
 have k:Mov σ σ' A s { s with pc:=some ⟨b',off,some sp⟩,cc:=cap',rc:=b',css:=css' }:=by
  refine ⟨f.mono fun j _ h=>h.elim .inl fun h=>.inr (.inr (.inl h)),?_⟩
  rintro j hj (h1|h1|⟨_,h1⟩|h1)
  ·exact .inl h1
  ·exact .inr (.inl h1)
  ·have h1:j=b':=h1
   rcases hb with ⟨hp,e⟩|hb
   ·exact .inr (.inr (.inl ⟨hp,by rw [h1,e]⟩))
   ·omega
  ·exact .inr (.inr (.inr h1))
 have h1:=h.st.1
 refine ⟨h.upw k hst rfl rfl ?_ (.inr ⟨off,sp,rfl,hR⟩) hcl hcel ?_ h.wl h.v h.env h.k h.calls h.xo ?_ ?_,k⟩
 ·refine h.out.frm f fun hp hs=>?_
  rcases hs with hs|⟨h1,h2⟩
  ·exact (h.xo hp).2 hs
  ·exact (h.xc h1).2.2 hp h2.symm
 ·refine h.wr.frm f fun hp hs=>?_
  rcases hs with hs|⟨h1,h2⟩
  ·exact (h.xw hp).2.1 hs
  ·exact (h.xw hp).2.2.2 h1 h2
 ·intro _
  rcases hb with ⟨hp,e⟩|hb
  ·rw [e]
   exact h.xc hp
  ·refine ⟨fun hx=>?_,fun e=>?_,fun hp e=>?_⟩
   ·have:b'<σ.n:=h.xn _ hx
    omega
   ·have e:b'=A:=e
    omega
   ·have e:b'=s.ro:=e
    have:=h.out.lt hp
    omega
 ·intro hp
  refine ⟨(h.xw hp).1,(h.xw hp).2.1,(h.xw hp).2.2.1,fun _ e=>?_⟩
  have e:s.rw_=b':=e
  rcases hb with ⟨hp2,e2⟩|hb
  ·exact (h.xw hp).2.2.2 hp2 (e.trans e2)
  ·have:=h.wr.lt hp
   omega
end
end Go.Pg
namespace Go.Pg
open Go.Proofs Go.Utf8 Go.Lib
set_option linter.unusedSimpArgs false
theorem SlV.emp {σ:aB} {Y:Nat→Prop} {b c:Nat} {p:Option Addr} {xs:List Value} (h:SlV σ b p c xs) (hb:p≠none→¬ Y b):Emp σ Y p:=SlE.emp (esz:=1) h hb
theorem slV_nats {σ:aB} {Y:Nat→Prop} {b c:Nat} {p:Option Addr} {bl:List Nat} (h:SlV σ b p c (bl.map natW)) (hb:p≠none→¬ Y b):aR σ Y 1 kE p bl:=slE_nats h hb
section
variable {σ:aB} {N:List NV} {D:List Dc} {pn pd:Option Addr} {cn cd U V:Nat}
theorem xm (hU:U≠V) (hSU:St σ U [.slice pn N.length cn,.slice pd D.length cd]) (hSV:St σ V [.slice none 0 0,.slice none 0 0]) (hT:dI σ (· =V) pn N pd D) (hK:∀ v∈N,v.kids.length≤1000000) (hN:N.length≤1000000) {K:Ex→List Value→Pg} {Q:cH}
  (k:∀ σ' p c rb css,Frm σ σ' (· =V)→St σ' V [.slice p N.length c,.slice none 0 0]→GR nvR 7 σ' (fun j=>j<σ.n) rb N css p c→Wp aG ovD (K (.exit 0) [.int .i64 ((N.length:Nat):Int)]) σ' Q):
  Wp aG ovD (.loop [.int .i64 0] (T10b0 ⟨U,0,some 0⟩ ⟨V,0,some 0⟩) K) σ Q:=by
 have hUn:=hSU.1
 have hVn:=hSV.1
 refine Wp.count N.length (fun i st σ'=>∃ p c rb css,st=[.int .i64 ((i:Nat):Int)]∧Frm σ σ' (· =V)∧St σ' V [.slice p i c,.slice none 0 0]∧GR nvR 7 σ' (fun j=>j<σ.n) rb (N.take i) css p c)
  ⟨none,0,0,[],rfl,Frm.refl _ _,hSV,.zero⟩ ?_ ?_
 ·rintro i st σ1 hi ⟨p,c,rb,css,rfl,hF1,hS1,hG1⟩
  have ei:aT ((i:Int)+1)=((i+1:Nat):Int):=by rw [aV (by omega)];omega
  have hU1:=hF1.st hSU hU
  have hT1:dI σ1 (· =V) pn N pd D:=hT.step (Y':=(· =V)) hF1 (fun _ _ h=>h) fun _ _ h=>h
  have hn1:=hF1.n
  unfold T10b0
  simp only [wpS]
  rw [aE hU1 (v:=.slice pn N.length cn) rfl]
  simp only [wpS]
  rw [aC,if_pos (by simp;omega),aI,aE hU1 (v:=.slice pn N.length cn) rfl]
  simp only [wpS]
  refine dM hT1.nodes hi rfl fun cs hcs=>?_
  generalize hv:N[i]=v at hcs
  have hvK:v.kids.length≤1000000:=hK v (by rw [←hv];exact List.getElem_mem hi)
  obtain ⟨q,kq,rfl,hrow,hemp⟩:=hcs
  simp only [wpS]
  refine aP fun σ2 hF2 hn2 hS2=>?_
  generalize hX:σ1.n=X at hS2
  refine bC hS2 rfl rfl fun σ3 hF3 hn3 hS3=>?_
  have hF13:Frm σ1 σ3 NoB:=hF2.fresh hF3 fun j hj h=>by omega
  have hV3:=hF13.stN hS1
  rw [aE hV3 (v:=.slice p i c) rfl]
  simp only [wpS]
  rw [aE hS3 (v:=.int .i64 v.x.k) rfl]
  simp only [wpS]
  rw [aE hS3 (v:=.int .i64 v.x.n) rfl]
  simp only [wpS]
  rw [aE hS3 (v:=.string (mkB v.x.nm)) rfl]
  simp only [wpS]
  rw [aE hS3 (v:=.string (mkB v.x.pm)) rfl]
  simp only [wpS]
  rw [bK,aZ,cR]
  simp only [wpS]
  have hF4:Frm σ3 (σ3.newBlk [] 1) NoB:=Frm.new _ _ _ _
  have hR4:Row (σ3.newBlk [] 1) σ3.n 0 1 0 1 []:=Row.new σ3 1 [] 0 (by decide) rfl (by simp)
  generalize σ3.newBlk [] 1=σ4 at hF4 hR4 ⊢
  have hn4:=hF4.n
  have ckA:∀ {τ:aB},Frm σ3 τ NoB→chks [((ld1 (aadd ⟨X,0,some 0⟩ 3)),.string (mkB v.x.pm)),((ld1 (aadd ⟨X,0,some 0⟩ 2)),.string (mkB v.x.nm)),((ld1 (aadd ⟨X,0,some 0⟩ 1)),.int .i64 v.x.n),((ld1 (aadd ⟨X,0,some 0⟩ 0)),.int .i64 v.x.k),((ld1 (aadd ⟨V,0,some 0⟩ 0)),.slice p i c)] τ=true:=fun f=>
   bR ((Kp.st hS3 (i:=3) rfl).frm f) (bR ((Kp.st hS3 (i:=2) rfl).frm f) (bR ((Kp.st hS3 (i:=1) rfl).frm f) (bR ((Kp.st hS3 (i:=0) rfl).frm f) (bR ((Kp.st hV3 (i:=0) rfl).frm f) rfl))))
  rw [bK,aQ]
  refine ⟨ckA hF4,?_⟩
  rw [aE (hF4.stN hS3) (v:=.slice q v.kids.length kq) rfl,aQ]
  refine ⟨xK fun τ hτ=>by rw [List.mem_singleton.1 hτ];exact Kp.st hS3 rfl,?_⟩
  simp only [wpS]
  rw [bK]
  have hF14:=hF13.seq hF4
  have hrow4:=hrow.later hF14
  have hemp4:Emp σ4 (· =V) q:=hemp.step (Y':=(· =V)) hF14 (fun _ _ h=>h.elim) fun _ _ h=>h
  refine wU (b:=σ3.n) (xs:=[]) (ys:=v.kids.map natW) (.inr ⟨0,1,rfl,hR4⟩) rfl (hrow4.src (fun _ _ h=>h) hemp4) (by simp) (by intro y hy;obtain ⟨j,_,rfl⟩:=List.mem_map.1 hy;rfl) (by omega) (by omega) fun σ5 kb kp kc hF5 hkb hK5=>?_
  have hF35:Frm σ3 σ5 NoB:=hF4.fresh hF5 fun j hj h=>by omega
  have hS5:=hF35.stN hS3
  rw [bK,aQ]
  refine ⟨ckA hF35,?_⟩
  have hpast:∀ {o:Nat} {w:Value},[(.int .i64 v.x.k:Value),.int .i64 v.x.n,.string (mkB v.x.nm),.string (mkB v.x.pm),.slice q v.kids.length kq,.int .i64 v.x.fr,.int .i64 v.x.to][o]?=some w→past (ld1 (aadd ⟨X,0,some 0⟩ o)) w [σ4,σ3]=true:=fun h=>xK fun τ hτ=>by
   simp only [List.mem_cons,List.mem_nil_iff,or_false] at hτ
   rcases hτ with rfl|rfl
   ·exact (Kp.st hS3 h).frm hF4
   ·exact Kp.st hS3 h
  rw [aE hS5 (v:=.int .i64 v.x.fr) rfl,aQ]
  refine ⟨hpast rfl,?_⟩
  simp only [wpS]
  rw [aE hS5 (v:=.int .i64 v.x.to) rfl,aQ]
  refine ⟨hpast rfl,?_⟩
  simp only [wpS]
  rw [Nat.zero_add]
  have hF15:=hF13.seq hF35
  have hV5:=hF15.stN hS1
  have hG5:=hG1.frmN dC hF15
  have hn5:=hF5.n
  have hkbn:kp≠none→σ3.n≤kb:=fun h=>by
   rcases hkb with h2|⟨_,h2⟩|h2
   ·exact absurd h2 h
   ·omega
   ·omega
  have hil:(N.take i).length=i:=by rw [List.length_take];omega
  refine pV (len:=i) hG5.row (by rw [fB hG5.cl,hG5.len,hil]) (by decide) (by decide) rfl (by intro y hy;simp at hy;rcases hy with rfl|rfl|rfl|rfl|rfl|rfl|rfl<;>rfl) (by omega) (by omega) (fun τ f=>bR ((Kp.st hV5 (i:=0) rfl).frm f) rfl) fun σ6 rb6 off6 s6 c6 hF6 hrb6 hR6=>?_
  have hkY:kp≠none→¬ (kb<σ.n∨p≠none∧kb=rb):=fun h h2=>by
   have h3:=hkbn h
   rcases h2 with h2|⟨h2,h4⟩
   ·omega
   ·have:=hG1.lt h2
    have:=hF13.n
    omega
  have hG6:=hG5.more dC (fun j h=>by omega) (b:=v) rfl ⟨kp,kc,rfl,slV_nats (by simpa using hK5) hkY,hK5.emp hkY⟩ hF6 hrb6 hR6
  have hVr:¬ (p≠none∧V=rb):=fun h=>hG1.hr h.1 (by show rb<σ.n;omega)
  refine bB (hF6.st hV5 hVr) (by simp) rfl fun σ7 hF7 hn7 hS7=>?_
  simp only [List.set_cons_zero] at hS7
  simp only [wpS,T10k0,ei]
  have hF16:Frm σ σ6 (· =V):=(hF1.seq hF15.no).trans hF6 (fun _ _ h=>h) fun j hj h=>absurd hj (hG1.hr h.1 |> fun h2=>by rw [h.2];exact h2)
  rw [List.take_succ_eq_append_getElem hi,hv]
  exact ⟨_,_,rb6,_,trivial,hF16.seq hF7,hS7,hG6.frm dC hF7 fun j _ h=>by rw [h];exact hVn⟩
 ·rintro st σ1 ⟨p,c,rb,css,rfl,hF1,hS1,hG1⟩
  unfold T10b0
  simp only [wpS]
  rw [aE (hF1.st hSU hU) (v:=.slice pn N.length cn) rfl]
  simp only [wpS]
  rw [aC,if_neg (by simp)]
  simp only [wpS]
  rw [List.take_length] at hG1
  exact k σ1 p c rb css hF1 hS1 hG1
end
end Go.Pg
namespace Go.Pg
open Go.Proofs Go.Utf8 Go.Lib
set_option linter.unusedSimpArgs false
theorem oP {σ:aB} {n0:Nat} {bs:List Nat} (hn:n0≤σ.n) (hf:lR σ) (hb:∀ b∈bs,b≠σ.n):uw n0 σ bs=true:=by
 unfold uw
 rw [hf σ.n (Nat.le_refl _)]
 simp only [noneB,Bool.and_true,Bool.and_eq_true,Nat.ble_eq,List.all_eq_true,Bool.not_eq_true']
 refine ⟨hn,fun b h=>?_⟩
 rw [Bool.eq_false_iff]
 intro e
 exact hb b h (Nat.eq_of_beq_eq_true e)
theorem zh {k:Nat} (vs:List Value) (hv:vs.length=k):∀ (css:List (List Value)) (i:Nat) (_:i<css.length),(∀ cs∈css,cs.length=k)→css.flatten.take (i*k)++vs++css.flatten.drop (i*k+k)=(css.set i vs).flatten
 |cs::css,0,_,h=>by
  have hc:=h cs (by simp)
  rw [List.set_cons_zero,List.flatten_cons,List.flatten_cons,Nat.zero_mul,Nat.zero_add,List.take_zero,List.nil_append,List.drop_append_of_le_length (by omega),List.drop_of_length_le (by omega),List.nil_append]
 |cs::css,i+1,hi,h=>by
  have hc:=h cs (by simp)
  have ih:=zh vs hv css i (by simpa using hi) (fun x hx=>h x (by simp [hx]))
  rw [List.set_cons_succ,List.flatten_cons,List.flatten_cons,←ih,show (i+1)*k=cs.length+i*k by rw [hc,Nat.add_mul,Nat.one_mul,Nat.add_comm],List.take_append,List.take_of_length_le (by omega),Nat.add_sub_cancel_left,Nat.add_assoc,List.drop_append,List.drop_of_length_le (by omega),Nat.add_sub_cancel_left,List.nil_append,List.append_assoc,List.append_assoc,List.append_assoc]
section
variable {σ σ':aB} {X Y:Nat→Prop} {A:Nat} {T:TrA} {N:List NV} {D:List Dc} {s:Slt} {m:MS} {P:Program} {ov:Ov}
theorem VRow.frmN {l:List Vl} {q:Option Addr} (h:aR σ Y 7 (vlR σ Y) q l) (f:Frm σ σ' NoB):aR σ' Y 7 (vlR σ' Y) q l:=pZ (S:=NoB) f (fun _ _ h=>h.elim) (fun _ _ h=>h) h
theorem Cz.all {x:Addr} {n:Nat} {cs:List Value} (h:Cz σ Y x n cs):Go.Pg.ldN n x σ=some (.agg cs.toArray,σ):=by
 unfold Go.Pg.ldN
 rw [h.2.1]
theorem Mac.cellsRow (h:Mac σ X A T N D s m):aR σ NoB 7 (vlR σ (FX X A s)) s.pc m.cells:=by
 rcases h.cells with ⟨hp,_,h0⟩|⟨off,sp,hp,hR⟩
 ·have h1:=h.clf
  rw [h0] at h1
  have:m.cells=[]:=List.eq_nil_of_length_eq_zero (by simp at h1;omega)
  rw [this]
  exact aR.nil
 ·rw [hp]
  exact aR.own hR (fun h=>h) h.clen h.cl7 h.cel
abbrev za (v:Vl) (q:Option Addr) (c:Nat) (p:Option Addr):∀ y∈vC v q c p,one y=true:=by
 intro y hy
 unfold vC at hy
 simp at hy
 rcases hy with rfl|rfl|rfl|rfl|rfl|rfl|rfl<;>rfl
theorem wp_cell91 (h:Mac σ X A T N D s m) (hfr:lR σ) {x:NV} {q:Option Addr} {k:Nat} {vals:List Vl} {vq:Option Addr} (vc:Nat) (hv:aR σ (FX X A s) 7 (vlR σ (FX X A s)) vq vals) (h0:0<vals.length) (h1:x.x.k≠15→x.x.k≠16→1<vals.length)
  (hc:(vals.getD 0 cN).k=6→0≤(vals.getD 0 cN).at_∧(vals.getD 0 cN).at_<(m.cells.length:Int)) (hb:m.cells.length≤1000000000) (hw:m.nw≤1000000000):
  WpF aG ovD 91 [bO A,.agg (nvC x q k).toArray,.slice vq vals.length vc] σ (QM σ X A T N D s (yL m x vals)):=by
 refine WpF.of (T91_eq _ _ _ _ _ _ _ _ _ _ _ _ _) rfl ?_
 rw [T91]
 refine aP fun σ1 hF1 hn1 hS1=>?_
 generalize hB:σ.n=B at hS1 hn1
 have hS1:St σ1 B (nvC x q k):=hS1
 have h1':=h.frmN hF1
 have hv1:=VRow.frmN hv hF1
 rw [aE hS1 (i:=0) rfl]
 simp only [wpS]
 unfold yL
 have e0:vals.getD 0 cN=vals[0]:=by simp [List.getD,h0]
 rw [e0] at hc ⊢
 rw [aC]
 by_cases c1:x.x.k=15
 ·rw [if_pos (by simpa using c1),if_pos c1]
  rw [aE h1'.st (i:=6) rfl]
  simp only [wpS]
  rw [aE h1'.st (i:=5) rfl]
  simp only [wpS]
  obtain ⟨xv,cs,rfl,hvis,hrd,hcv⟩:=hv1 0 h0
  have hz:Cz σ1 (FX X A s) (aadd xv 0) 7 cs:=⟨hvis,hrd,VlR.len hcv⟩
  obtain ⟨q0,k0,p0,rfl,hP0⟩:=dF.1 hcv
  have hlt:decide (0<((vals.length:Nat):Int))=true:=decide_eq_true (by omega)
  simp only [bN]
  rw [aQ]
  refine ⟨hlt,?_⟩
  rw [aZ,hz.all]
  unfold vC
  simp only [wpS]
  refine pV (len:=m.nw) h1'.wr h1'.wl (by decide) (by decide) rfl (by intro y hy;simp at hy;rcases hy with rfl|rfl|rfl|rfl|rfl|rfl|rfl|rfl<;>rfl) (by omega) (by omega) (fun τ f=>bR ((Kp.st h1'.st (i:=6) rfl).frm f) rfl) fun σ2 b2 off2 sp2 cap2 hF2 hb2 hR2=>?_
  refine bB (i:=6) (hF2.st h1'.st fun hs=>(h1'.xw hs.1).2.1 hs.2.symm) (by simp [eT]) rfl fun σ3 hF3 hn3 hS3=>?_
  have hF13:Frm σ1 σ3 (fun j=>j=A∨(s.pw≠none∧j=s.rw_)):=hF2.trans hF3 (fun _ _ h=>.inr h) (fun _ _ h=>.inl h)
  have hb2A:¬ b2=A:=by
   rcases hb2 with ⟨hp,e⟩|hb2
   ·rw [e];exact (h1'.xw hp).2.1
   ·have:=h1'.st.1;omega
  obtain ⟨s3,h3,hM3⟩:∃ s3,Mac σ3 X A T N D s3 { m with nw:=m.nw+1 }∧Mov σ1 σ3 A s s3:=⟨_,h1'.newW rfl hF13 hb2 (hF3.row hR2 hb2A) hS3⟩
  have hz3:=hz.mov hM3
  have hP3:=hP0.mov hM3
  have hfr3:lR σ3:=hF13.fr (hF1.fr hfr)
  obtain ⟨H1,b',off,sp,cap',ea,hFa,hba,hRa⟩:=app_ex (byt:=80) (len:=m.cells.length) (ys:=zC) h3.cells h3.clf (by decide) (by decide) rfl (za cN none 0 none) (by omega) (by omega)
  have hAa:St H1 A (eT T N D s3 { m with nw:=m.nw+1 }):=hFa.st h3.st fun hs=>(h3.xc hs.1).2.1 hs.2.symm
  have hb'A:¬ b'=A:=by
   rcases hba with ⟨hp,e⟩|hba
   ·rw [e];exact (h3.xc hp).2.1
   ·have:=h3.st.1;omega
  have hl3:s3.css.flatten.length=m.cells.length*7:=h3.clf
  obtain ⟨oR,hoR⟩:=hRa.putEx (i:=m.cells.length*7) (vs:=vC vals[0] q0 k0 p0) (by rw [List.length_append,hl3];omega) (by have:=hRa.len;rw [List.length_append,hl3] at this;exact this) (za _ _ _ _)
  obtain ⟨oA,hoA⟩:=hAa.putEx (i:=5) (v:=.slice (some ⟨b',off,some sp⟩) (m.cells.length+1) cap') (by simp [eT]) rfl
  have ecs:(s3.css.flatten++zC).take (m.cells.length*7)++vC vals[0] q0 k0 p0++(s3.css.flatten++zC).drop (m.cells.length*7+(vC vals[0] q0 k0 p0).length)=(s3.css++[vC vals[0] q0 k0 p0]).flatten:=by
   rw [List.take_left' hl3,List.drop_of_length_le (by rw [List.length_append,hl3];exact Nat.le_refl _),List.append_nil,List.flatten_append]
   simp
  rw [ecs] at hoR
  have eR1:Go.Pg.stC (aadd ⟨b',off,some sp⟩ (m.cells.length*7)) (vC vals[0] q0 k0 p0) H1=some (.tuple #[],H1.put b' oR):=(hoR H1 (Nat.le_refl _) rfl).1
  have eA2:=hoA (H1.put b' oR) (Nat.le_refl _) (lF _ _ fun e=>hb'A e.symm)
  have eA1:=(hoA H1 (Nat.le_refl _) rfl).1
  have eR2:Go.Pg.stC (aadd ⟨b',off,some sp⟩ (m.cells.length*7)) (vC vals[0] q0 k0 p0) (H1.put A oA)=some (.tuple #[],(H1.put A oA).put b' oR):=(hoR (H1.put A oA) (Nat.le_refl _) (lF _ _ hb'A)).1
  have fR:Frm H1 (H1.put b' oR) (· =b'):=Frm.put _ _ _ hRa.lt
  have fA:Frm (H1.put b' oR) ((H1.put b' oR).put A oA) (· =A):=Frm.put _ _ _ hAa.1
  have f4:Frm σ3 ((H1.put b' oR).put A oA) (fun j=>j=A∨(s3.pc≠none∧j=s3.rc)):=
   (hFa.trans fR (U:=fun j=>s3.pc≠none∧j=s3.rc) (fun _ _ h=>h) fun j hj h=>by
    rcases hba with ⟨hp,e⟩|hba
    ·exact ⟨hp,by rw [←e];exact h⟩
    ·have h:j=b':=h
     omega).trans fA (fun _ _ h=>.inr h) (fun _ _ h=>.inl h)
  have hcl3:s3.css.length=m.cells.length:=h3.clen
  obtain ⟨s4,h4,hM4⟩:∃ s4,Mac ((H1.put b' oR).put A oA) X A T N D s4 { m with nw:=m.nw+1,cells:=m.cells++[vals[0]] }∧Mov σ3 ((H1.put b' oR).put A oA) A s3 s4:=by
   refine ⟨_,h3.newC (cells':=m.cells++[vals[0]]) (css':=s3.css++[vC vals[0] q0 k0 p0]) (by simp [hcl3]) ?_ f4 hba (fA.row (hoR H1 (Nat.le_refl _) rfl).2 hb'A) ?_⟩
   ·intro i hi hi'
    by_cases hl:i<m.cells.length
    ·rw [List.getElem_append_left (show i<m.cells.length from hl),List.getElem_append_left (by omega)]
     exact h3.cel i _ _
    ·have:i=m.cells.length:=by simp at hi';omega
     subst this
     have g1:(m.cells++[vals[0]])[m.cells.length]'hi'=vals[0]:=by simp
     have g2:(s3.css++[vC vals[0] q0 k0 p0])[m.cells.length]'hi=vC vals[0] q0 k0 p0:=by simp [←hcl3]
     rw [g1,g2]
     exact dF.2 ⟨q0,k0,p0,rfl,hP3⟩
   ·have:=eA2.2
    rw [show m.cells.length+1=(m.cells++[vals[0]]).length by simp] at this
    exact this
  unfold vC at eR1 eR2
  unfold zC at ea
  rw [bK,aI]
  refine Wp.mono _ _ (fun e vs τ=>e=.normal∧τ=(H1.put A oA).put b' oR∧vs=[(.pointer (some (aadd ⟨A,0,some 0⟩ 5))),(.pointer (some ⟨A,0,some 0⟩)),(.pointer (some (aadd ⟨b',off,some sp⟩ (m.cells.length*7)))),(.slice (some ⟨b',off,some sp⟩) (m.cells.length+1) cap'),(.slice (some ⟨σ3.n,0,some 7⟩) 1 1),(.int .i64 ((m.cells.length:Nat):Int)),(.agg (vC vals[0] q0 k0 p0).toArray),(.pointer (some (aadd xv 0))),(.slice (some xv) vals.length vc),(.slice s3.pc m.cells.length s3.cc),(.pointer (some (aadd ⟨A,0,some 0⟩ 5))),(.pointer (some ⟨A,0,some 0⟩)),(.pointer (some ⟨A,0,some 0⟩))]) _ ?_ ?_
  ·rintro _ _ _ ⟨rfl,rfl,rfl⟩
   rw [bK,aZ]
   simp only
   rw [aE h3.st (i:=5) rfl]
   simp only [wpS]
   rw [aQ]
   refine ⟨hlt,?_⟩
   rw [aZ,hz3.all]
   unfold vC
   simp only [wpS]
   rw [bK,aQ]
   refine ⟨oP (Nat.le_refl _) hfr3 (fun _ h=>by cases h),?_⟩
   rw [aZ,cR]
   simp only [wpS]
   rw [bK,aZ,ea]
   simp only [wpS]
   rw [aQ]
   refine ⟨decide_eq_true (by omega),?_⟩
   rw [aZ,eR1]
   simp only [wpS]
   rw [aZ,eA2.1]
   simp only [wpS]
   rw [bK,aQ]
   refine ⟨by rw [put_comm H1 hb'A oR oA,heapEq_same];exact ve _,?_⟩
   rw [aE h4.st (i:=5) rfl]
   simp only [wpS]
   have e1:aT ((((m.cells++[vals[0]]).length:Nat):Int) - 1)=((m.cells.length:Nat):Int):=by
    rw [List.length_append,List.length_singleton,aV (by omega)]
    omega
   rw [e1]
   have key:=eN h4 0 (v:=cellV m.cells.length) (q:=none) (p:=none) (VlP.plain rfl rfl)
   unfold vC at key
   rw [aD]
   refine WpF.mono key ?_
   intro v' σ9 hq
   obtain ⟨rfl,_⟩:=id hq
   simp only [wpS]
   exact ⟨_,rfl,hq.up (((Mov.ofN hF1).trans hM3).trans hM4)⟩
  ·rw [aE h3.st (i:=5) rfl]
   simp only [wpS]
   rw [aQ]
   refine ⟨hlt,?_⟩
   rw [aZ,hz3.all]
   unfold vC
   simp only [wpS]
   rw [bK,aQ]
   refine ⟨oP (Nat.le_refl _) hfr3 (fun _ h=>by cases h),?_⟩
   rw [aZ,cR]
   simp only [wpS]
   rw [bK,aZ,ea]
   simp only [wpS]
   rw [aQ]
   refine ⟨decide_eq_true (by omega),?_⟩
   rw [aZ,eA1]
   simp only [wpS]
   rw [aZ,eR2]
   simp only [wpS]
   refine ⟨?_,?_,?_⟩<;>first|trivial|rfl
 rw [if_neg (by simpa using c1),if_neg c1]
 obtain ⟨xv,cs,rfl,hvis,hrd,hcv⟩:=hv1 0 h0
 have hz:Cz σ1 (FX X A s) (aadd xv 0) 7 cs:=⟨hvis,hrd,VlR.len hcv⟩
 obtain ⟨q0,k0,p0,rfl,hP0⟩:=dF.1 hcv
 have hlt:decide (0<((vals.length:Nat):Int))=true:=decide_eq_true (by omega)
 simp only [bN]
 rw [aQ]
 refine ⟨hlt,?_⟩
 rw [aZ,hz.all]
 unfold vC
 simp only [wpS]
 refine aP fun σ2 hF2 hn2 hS2=>?_
 refine bC hS2 rfl rfl fun σ3 hF3 hn3 hS3=>?_
 generalize hE:σ1.n=E at hS2 hS3 hF3 hn2
 have hF13:Frm σ1 σ3 NoB:=hF2.fresh hF3 fun j hj h=>by omega
 have hS3:St σ3 E (vC vals[0] q0 k0 p0):=hS3
 have h3:=h1'.frmN hF13
 have hM03:Mov σ σ3 A s s:=Mov.ofN (hF1.seq hF13)
 rw [aE hS3 (i:=0) rfl]
 simp only [wpS]
 rw [aC]
 by_cases c6:vals[0].k=6
 case neg=>
  rw [if_pos (by simpa using c6),if_pos c6,aD]
  refine WpF.mono (fO h3) ?_
  intro v' σ9 hq
  obtain ⟨rfl,_⟩:=id hq
  simp only [wpS]
  exact ⟨_,rfl,hq.up hM03⟩
 rw [if_neg (by simp [c6]),if_neg (by simp [c6]),aE (hF13.stN hS1) (i:=0) rfl]
 simp only [wpS]
 rw [aC]
 obtain ⟨z1,z2⟩:=hc c6
 obtain ⟨j,hj⟩:=Int.eq_ofNat_of_zero_le z1
 have hjl:j<m.cells.length:=by omega
 have ejn:vals[0].at_.toNat=j:=by rw [hj];try rfl
 rw [ejn]
 by_cases c16:x.x.k=16
 ·rw [if_pos (by simpa using c16),if_pos c16,aE h3.st (i:=5) rfl]
  simp only [wpS]
  rw [aE hS3 (i:=6) rfl]
  simp only [wpS]
  rw [hj,show m.cells.getD j cN=m.cells[j] by simp [List.getD,hjl]]
  refine dM h3.cellsRow hjl rfl fun cs hcs=>?_
  obtain ⟨q1,k1,p1,rfl,hP1⟩:=dF.1 hcs
  have key:=eN h3 k1 hP1
  unfold vC at key ⊢
  simp only [wpS]
  rw [aD]
  refine WpF.mono key ?_
  intro v' σ9 hq
  obtain ⟨rfl,_⟩:=id hq
  simp only [wpS]
  exact ⟨_,rfl,hq.up hM03⟩
 ·rw [if_neg (by simpa using c16),if_neg c16]
  have h11:=h1 c1 c16
  obtain ⟨xv1,cs1,ex,hvis1,hrd1,hcv1⟩:=hv1 1 h11
  cases ex
  have hz1:Cz σ1 (FX X A s) (aadd xv 7) 7 cs1:=⟨hvis1,hrd1,VlR.len hcv1⟩
  rw [show vals.getD 1 cN=vals[1] by simp [List.getD,h11]]
  obtain ⟨q1,k1,p1,rfl,hP1⟩:=dF.1 hcv1
  have hlt1:decide (1<((vals.length:Nat):Int))=true:=decide_eq_true (by omega)
  rw [aE h3.st (i:=6) rfl]
  simp only [wpS]
  rw [aE hS3 (i:=6) rfl]
  simp only [wpS]
  rw [aQ]
  refine ⟨hlt1,?_⟩
  rw [aZ,(hz1.frm hF13).all]
  unfold vC
  simp only [wpS]
  refine pV (len:=m.nw) h3.wr h3.wl (by decide) (by decide) rfl (by intro y hy;simp at hy;rcases hy with rfl|rfl|rfl|rfl|rfl|rfl|rfl|rfl<;>rfl) (by omega) (by omega) (fun τ f=>bR ((Kp.st h3.st (i:=6) rfl).frm f) rfl) fun σ4 b2 off2 sp2 cap2 hF4 hb2 hR2=>?_
  refine bB (i:=6) (hF4.st h3.st fun hs=>(h3.xw hs.1).2.1 hs.2.symm) (by simp [eT]) rfl fun σ5 hF5 hn5 hS5=>?_
  have hF35:Frm σ3 σ5 (fun j=>j=A∨(s.pw≠none∧j=s.rw_)):=hF4.trans hF5 (fun _ _ h=>.inr h) (fun _ _ h=>.inl h)
  have hb2A:¬ b2=A:=by
   rcases hb2 with ⟨hp,e⟩|hb2
   ·rw [e];exact (h3.xw hp).2.1
   ·have:=h3.st.1;omega
  obtain ⟨s5,h5,hM5⟩:∃ s5,Mac σ5 X A T N D s5 { m with nw:=m.nw+1 }∧Mov σ3 σ5 A s s5:=⟨_,h3.newW rfl hF35 hb2 (hF5.row hR2 hb2A) hS5⟩
  have hE5:=hF35.st hS3 (by
   rintro (e|⟨hp,e⟩)
   ·have:=h1'.st.1;omega
   ·have:=h1'.wr.lt hp;omega)
  have hz5:=(hz1.frm hF13).mov hM5
  have hP5:=(hP1.frmN hF13).mov hM5
  rw [aE h5.st (i:=5) rfl]
  simp only [wpS]
  rw [aE hE5 (i:=6) rfl]
  simp only [wpS]
  rw [aQ]
  refine ⟨hlt1,?_⟩
  rw [aZ,hz5.all]
  unfold vC
  simp only [wpS]
  have hcl5:s5.css.length=m.cells.length:=h5.clen
  have hfl5:s5.css.flatten.length=m.cells.length*7:=h5.clf
  rcases h5.cells with ⟨_,_,h0'⟩|⟨off,sp,hp,hR⟩
  ·rw [h0'] at hfl5
   simp at hfl5
   omega
  have hRl:=hR.len
  rw [hfl5] at hRl
  obtain ⟨σ7,w1,w2,w3,w4,w5⟩:=hR.wrN (i:=j*7) (vs:=vC vals[1] q1 k1 p1) (by rw [hfl5];omega) (by show j*7+7≤_;omega) (za _ _ _ _)
  have ew:Go.Pg.stC (aadd ⟨s5.rc,off,some sp⟩ (Int.toNat ((j:Nat):Int)*7)) (vC vals[1] q1 k1 p1) σ5=some (.tuple #[],σ7):=by
   unfold Go.Pg.stC
   rw [show aadd ⟨s5.rc,off,some sp⟩ (Int.toNat ((j:Nat):Int)*7)=⟨s5.rc,off+j*7,some sp⟩ from rfl,w1]
  have hF7:Frm σ5 σ7 (· =s5.rc):=Frm.of1 hR.lt w2 w3 w4
  have hpn:s5.pc≠none:=by rw [hp];simp
  obtain ⟨s7,h7,hM7⟩:∃ s7,Mac σ7 X A T N D s7 { m with nw:=m.nw+1,cells:=m.cells.set j vals[1] }∧Mov σ5 σ7 A s5 s7:=by
   refine ⟨_,h5.newC (b':=s5.rc) (off:=off) (sp:=sp) (cap':=s5.cc) (cells':=m.cells.set j vals[1]) (css':=s5.css.set j (vC vals[1] q1 k1 p1)) (by simp [hcl5]) ?_ (hF7.mono fun _ _ h=>.inr ⟨hpn,h⟩) (.inl ⟨hpn,rfl⟩) ?_ ?_⟩
   ·intro i hi hi'
    rw [List.getElem_set,List.getElem_set]
    split
    ·exact dF.2 ⟨q1,k1,p1,rfl,hP5⟩
    ·exact h5.cel i (by simpa using hi) (by simpa using hi')
   ·rw [←zh (k:=7) (vC vals[1] q1 k1 p1) rfl s5.css j (by omega) h5.cl7]
    exact w5
   ·have:=hF7.st h5.st fun e=>(h5.xc hpn).2.1 e.symm
    have e:eT T N D { s5 with pc:=some ⟨s5.rc,off,some sp⟩,cc:=s5.cc,rc:=s5.rc,css:=s5.css.set j (vC vals[1] q1 k1 p1) } { m with nw:=m.nw+1,cells:=m.cells.set j vals[1] }=eT T N D s5 { m with nw:=m.nw+1 }:=by
     unfold eT
     simp only [List.length_set,←hp]
    rw [e]
    exact this
  unfold vC at ew
  rw [hj,hp]
  simp only [wpS]
  rw [aQ]
  refine ⟨by simp;omega,?_⟩
  rw [aZ,ew]
  simp only [wpS]
  rw [aD]
  refine uH fun σ8 hF8=>?_
  have h8:=h7.frmN hF8
  have key:=eN h8 0 (v:=vS) (q:=none) (p:=none) (VlP.plain rfl rfl)
  unfold vC at key ⊢
  simp only [wpS]
  rw [aD]
  refine WpF.mono key ?_
  intro v' σ9 hq
  obtain ⟨rfl,_⟩:=id hq
  simp only [wpS]
  exact ⟨_,rfl,hq.up (((hM03.trans hM5).trans hM7).trans (Mov.ofN hF8))⟩
end
end Go.Pg
namespace Go.Pg
open Go.Proofs Go.Utf8 Go.Lib
set_option linter.unusedSimpArgs false
theorem nR {σ:aB} {b:Nat} {o:Option dS} (h:σ.get b=o):yj [(b,o)] σ=true:=by
 unfold yj yj objEq
 rw [h]
 simp
theorem op_plain {t:List UInt8} {a b:Int} {v:Vl} (h:opV t a b=some v):v.args=[]∧v.env=.nil:=by
 unfold opV at h
 repeat' split at h
 all_goals first|(cases h;exact ⟨rfl,rfl⟩)|cases h
section
variable {σ σ':aB} {X Y:Nat→Prop} {A:Nat} {T:TrA} {N:List NV} {D:List Dc} {s:Slt} {m:MS} {P:Program} {ov:Ov}
theorem wp_done60 (g:dB N D) (h:Mac σ X A T N D s m) (ok:okM N m) (hfr:lR σ) (i:Nat) {x:NV} {q:Option Addr} (k:Nat) {vals:List Vl} {vq:Option Addr} (vc:Nat) (hv:aR σ (FX X A s) 7 (vlR σ (FX X A s)) vq vals) (hem:Emp σ (FX X A s) vq) (hok:lOK N m.cells.length vals) (h0:0<vals.length)
  (h1:x.x.k≠5→x.x.k≠15→x.x.k≠16→x.x.k≠17→x.x.k≠19→1<vals.length) (hb:m.cells.length≤1000000000) (hw:m.nw≤1000000000) (ho:m.out.length≤1000000000) (hcl:m.calls.length≤1000000000):
  WpF aG ovD 60 [bO A,.int .i64 ((i:Nat):Int),.agg (nvC x q k).toArray,.slice vq vals.length vc] σ (QM σ X A T N D s (xX N m i x vals)):=by
 refine WpF.of (T60_eq _ _ _ _ _ _ _ _ _ _ _ _ _ _) rfl ?_
 rw [T60]
 refine aP fun σ1 hF1 hn1 hS1=>?_
 generalize hB:σ.n=B at hS1 hn1
 have hS1:St σ1 B (nvC x q k):=hS1
 have h1':=h.frmN hF1
 have hv1:=VRow.frmN hv hF1
 have hem1:Emp σ1 (FX X A s) vq:=hem.step (S:=NoB) hF1 (fun _ _ h=>h.elim) fun _ _ h=>h
 have hfr1:=hF1.fr hfr
 rw [aE hS1 (i:=0) rfl]
 simp only [wpS]
 unfold xX
 have e0:vals.getD 0 cN=vals[0]:=by simp [List.getD,h0]
 have hok0:vOK N m.cells.length vals[0]:=by have:=kU hok 0;rw [e0] at this;exact this
 have hvv:=hv1
 obtain ⟨xv,cs0,rfl,hvis,hrd,hcv⟩:=hv1 0 h0
 have hz:Cz σ1 (FX X A s) (aadd xv 0) 7 cs0:=⟨hvis,hrd,VlR.len hcv⟩
 obtain ⟨q0,k0,p0,rfl,hP0⟩:=dF.1 hcv
 have hlt:decide (0<((vals.length:Nat):Int))=true:=decide_eq_true (by omega)
 rw [aC]
 by_cases c7:x.x.k=7
 ·have h11:=h1 (by omega) (by omega) (by omega) (by omega) (by omega)
  obtain ⟨xv1,cs1,ex,hvis1,hrd1,hcv1⟩:=hv1 1 h11
  cases ex
  have hz1:Cz σ1 (FX X A s) (aadd xv 7) 7 cs1:=⟨hvis1,hrd1,VlR.len hcv1⟩
  obtain ⟨q1,k1,p1,rfl,hP1⟩:=dF.1 hcv1
  have hlt1:decide (1<((vals.length:Nat):Int))=true:=decide_eq_true (by omega)
  rw [if_pos (by simpa using c7),if_pos c7,e0,show vals.getD 1 cN=vals[1] by simp [List.getD,h11]]
  simp only [bN]
  rw [aQ]
  refine ⟨hlt,?_⟩
  rw [aZ,hz.all]
  have key:=wp_call88 h1' i k0 k1 hP0 hP1 (fun hk=>vOK_fun hok0 hk) g (by omega)
  unfold vC at key ⊢
  simp only [wpS]
  rw [aQ]
  refine ⟨hlt1,?_⟩
  rw [aZ,hz1.all]
  unfold vC
  simp only [wpS]
  rw [aD]
  refine WpF.mono key ?_
  intro v' σ9 hq
  obtain ⟨rfl,_⟩:=id hq
  simp only [wpS,T60k0,T60k1,T60k2,T60k3,T60k4,T60k5,T60k6]
  exact ⟨_,rfl,hq.up (Mov.ofN hF1)⟩
 rw [if_neg (by simpa using c7),if_neg c7,aI,aC]
 by_cases c5:x.x.k=5
 ·rw [if_pos (by simpa using c5),if_pos c5,aE hS1 (i:=2) rfl]
  simp only [wpS]
  have key:=eN h1' vc (v:=conV x.x.nm vals) (q:=some xv) (p:=none) ⟨hvv,hem1,sD.2 rfl⟩
  unfold vC at key
  rw [aD]
  refine WpF.mono key ?_
  intro v' σ9 hq
  obtain ⟨rfl,_⟩:=id hq
  simp only [wpS,T60k0,T60k1,T60k2,T60k3,T60k4,T60k5,T60k6]
  exact ⟨_,rfl,hq.up (Mov.ofN hF1)⟩
 rw [if_neg (by simpa using c5),if_neg c5,aI,aC]
 by_cases c14:x.x.k=14
 ·have h11:=h1 (by omega) (by omega) (by omega) (by omega) (by omega)
  obtain ⟨xv1,cs1,ex,hvis1,hrd1,hcv1⟩:=hv1 1 h11
  cases ex
  have hz1:Cz σ1 (FX X A s) (aadd xv 7) 7 cs1:=⟨hvis1,hrd1,VlR.len hcv1⟩
  obtain ⟨q1,k1,p1,rfl,hP1⟩:=dF.1 hcv1
  have hlt1:decide (1<((vals.length:Nat):Int))=true:=decide_eq_true (by omega)
  rw [if_pos (by simpa using c14),if_pos c14,e0,show vals.getD 1 cN=vals[1] by simp [List.getD,h11]]
  rw [bK,aE hS1 (i:=2) rfl]
  simp only [wpS]
  rw [aQ]
  refine ⟨hlt,?_⟩
  rw [dJ hz (i:=1) rfl]
  simp only [wpS]
  rw [aQ]
  refine ⟨hlt1,?_⟩
  rw [dJ hz1 (i:=1) rfl]
  simp only [wpS]
  rw [bK,aQ]
  refine ⟨oP (Nat.le_refl _) hfr1 (fun _ h=>by cases h),?_⟩
  refine aP fun σ2 hF2 hn2 hS2=>?_
  generalize hC:σ1.n=C at hS2 hn2
  rw [bK,aD]
  refine wp_op89 _ _ _ fun σ3 hF3=>?_
  have hpl:=fun v (hv:opV x.x.nm vals[0].n vals[1].n=some v)=>op_plain hv
  generalize opV x.x.nm vals[0].n vals[1].n=O at hpl ⊢
  unfold vC
  simp only [wpS]
  rw [bK,aQ]
  refine ⟨nR (hF3.get C (by omega) fun h=>h),?_⟩
  refine bC (hF3.stN hS2) rfl rfl fun σ4 hF4 hn4 hS4=>?_
  have hF14:Frm σ1 σ4 NoB:=(hF2.seq hF3).fresh hF4 fun j hj h=>by omega
  have h4:=h1'.frmN hF14
  have hz4:=hz.frm hF14
  have hz14:=hz1.frm hF14
  have hM4:Mov σ σ4 A s s:=Mov.ofN (hF1.seq hF14)
  rw [aI,aC]
  have stk:Wp aG ovD (T60k0 (some ⟨A,0,some 0⟩) ⟨C,0,some 0⟩ .normal [.bool true]) σ4 fun e vs σ'=>Wp aG ovD (T60k3 e vs) σ' fun e vs σ'=>Wp aG ovD (T60k4 e vs) σ' fun e vs σ'=>Wp aG ovD (T60k5 e vs) σ' fun e vs σ'=>Wp aG ovD (T60k6 e vs) σ' fun _ vs σ'=>∃ v,vs=[v]∧QM σ X A T N D s m.stuck v σ':=by
   unfold T60k0
   simp only [wpS]
   rw [aC,if_pos rfl,aD]
   have key:=fO h4
   refine WpF.mono key ?_
   intro v' σ9 hq
   obtain ⟨rfl,_⟩:=id hq
   simp only [wpS,T60k0,T60k1,T60k2,T60k3,T60k4,T60k5,T60k6]
   exact ⟨_,rfl,hq.up (hM4)⟩
  cases O with
  |none=>
   rw [if_neg (by simp)]
   simp only [wpS]
   exact stk
  |some v=>
   obtain ⟨g1,g2⟩:=hpl v rfl
   rw [if_pos (by rfl),aQ]
   refine ⟨hlt,?_⟩
   rw [dJ hz4 (i:=0) rfl]
   simp only [wpS]
   rw [aC]
   by_cases d0:vals[0].k=1
   case neg=>
    rw [if_neg (by simpa using d0),if_neg fun h=>d0 h.1]
    simp only [wpS]
    exact stk
   rw [if_pos (by simp [d0]),aQ]
   refine ⟨hlt1,?_⟩
   rw [dJ hz14 (i:=0) rfl]
   simp only [wpS]
   by_cases d1:vals[1].k=1
   case neg=>
    rw [if_neg fun h=>d1 h.2,show (vals[1].k !=1)=true by simpa using d1]
    exact stk
   rw [if_pos ⟨d0,d1⟩,show (vals[1].k !=1)=false by simp [d1]]
   unfold T60k0
   simp only [wpS]
   rw [aC,if_neg (by simp),aS hS4 7 rfl]
   simp only [wpS]
   have key:=eN h4 0 (v:=v) (q:=none) (p:=none) (VlP.plain g1 g2)
   unfold vC at key
   rw [aD]
   refine WpF.mono key ?_
   intro v' σ9 hq
   obtain ⟨rfl,_⟩:=id hq
   simp only [wpS,T60k0,T60k1,T60k2,T60k3,T60k4,T60k5,T60k6]
   exact ⟨_,rfl,hq.up (hM4)⟩
 rw [if_neg (by simpa using c14),if_neg c14,aI,aC]
 by_cases c17:x.x.k=17
 ·rw [if_pos (by simpa using c17),if_pos c17,e0]
  simp only [bN]
  rw [aQ]
  refine ⟨hlt,?_⟩
  rw [dJ hz (i:=0) rfl]
  simp only [wpS]
  rw [aC]
  by_cases d0:vals[0].k=1
  case neg=>
   rw [if_pos (by simpa using d0),if_neg d0,aD]
   have key:=fO h1'
   refine WpF.mono key ?_
   intro v' σ9 hq
   obtain ⟨rfl,_⟩:=id hq
   simp only [wpS,T60k0,T60k1,T60k2,T60k3,T60k4,T60k5,T60k6]
   exact ⟨_,rfl,hq.up (Mov.ofN hF1)⟩
  rw [if_neg (by simp [d0]),if_pos d0,aE h1'.st (i:=4) rfl]
  simp only [wpS]
  rw [aQ]
  refine ⟨hlt,?_⟩
  rw [dJ hz (i:=1) rfl]
  simp only [wpS]
  refine pV (len:=m.out.length) h1'.out (by simp) (by decide) (by decide) rfl (by intro y hy;simp at hy;subst hy;rfl) (by omega) (by omega) (fun τ f=>bR ((Kp.st h1'.st (i:=4) rfl).frm f) rfl) fun σ2 b2 off2 sp2 cap2 hF2 hb2 hR2=>?_
  refine bB (i:=4) (hF2.st h1'.st fun hs=>(h1'.xo hs.1).2 hs.2.symm) (by simp [eT]) rfl fun σ3 hF3 hn3 hS3=>?_
  have hF13:Frm σ1 σ3 (fun j=>j=A∨(s.po≠none∧j=s.ro)):=hF2.trans hF3 (fun _ _ h=>.inr h) (fun _ _ h=>.inl h)
  have hb2A:¬ b2=A:=by
   rcases hb2 with ⟨hp,e⟩|hb2
   ·rw [e];exact (h1'.xo hp).2
   ·have:=h1'.st.1;omega
  obtain ⟨s3,h3,hM3⟩:∃ s3,Mac σ3 X A T N D s3 { m with out:=m.out++[vals[0].n] }∧Mov σ1 σ3 A s s3:=⟨_,h1'.newO hF13 hb2 (hF3.row hR2 hb2A) (by
   rw [show m.out.length+1=(m.out++[vals[0].n]).length by simp] at hS3
   exact hS3)⟩
  rw [aD]
  refine uH fun σ4 hF4=>?_
  have h4:=h3.frmN hF4
  have key:=eN h4 0 (v:=vS) (q:=none) (p:=none) (VlP.plain rfl rfl)
  unfold vC at key ⊢
  simp only [wpS]
  rw [aD]
  refine WpF.mono key ?_
  intro v' σ9 hq
  obtain ⟨rfl,_⟩:=id hq
  simp only [wpS,T60k0,T60k1,T60k2,T60k3,T60k4,T60k5,T60k6]
  exact ⟨_,rfl,hq.up (((Mov.ofN hF1).trans hM3).trans (Mov.ofN hF4))⟩
 rw [if_neg (by simpa using c17),if_neg c17,aI,aC]
 by_cases c19:x.x.k=19
 ·rw [if_pos (by simpa using c19),if_pos c19,e0]
  simp only [bN]
  rw [aQ]
  refine ⟨hlt,?_⟩
  rw [aZ,hz.all]
  have key:=wp_raise90 g h1' ok k0 hP0
  unfold vC at key ⊢
  simp only [wpS]
  rw [aD]
  refine WpF.mono key ?_
  intro v' σ9 hq
  obtain ⟨rfl,_⟩:=id hq
  simp only [wpS,T60k0,T60k1,T60k2,T60k3,T60k4,T60k5,T60k6]
  exact ⟨_,rfl,hq.up (Mov.ofN hF1)⟩
 rw [if_neg (by simpa using c19),if_neg c19,aS hS1 7 rfl]
 have key:=wp_cell91 h1' hfr1 (x:=x) (q:=q) (k:=k) vc hvv h0 (fun a b=>h1 c5 a b c17 c19) (by rw [e0];exact fun hk=>vOK_cell hok0 hk) hb hw
 unfold nvC at key ⊢
 simp only [wpS]
 rw [aD]
 refine WpF.mono key ?_
 intro v' σ9 hq
 obtain ⟨rfl,_⟩:=id hq
 simp only [wpS,T60k0,T60k1,T60k2,T60k3,T60k4,T60k5,T60k6]
 exact ⟨_,rfl,hq.up (Mov.ofN hF1)⟩
end
end Go.Pg
namespace Go.Pg
open Go.Proofs Go.Utf8 Go.Lib
set_option linter.unusedSimpArgs false
section
variable {σ σ':aB} {X Y:Nat→Prop} {A:Nat} {T:TrA} {N:List NV} {D:List Dc} {s:Slt} {m:MS} {P:Program} {ov:Ov}
theorem one7 {cs:List Value} {v:Vl} (h:VlR σ Y v cs):∀ y∈cs,one y=true:=by
 obtain ⟨q,c,p,rfl,_⟩:=dF.1 h
 exact za v q c p
theorem VRow.whole {a:Addr} {l:List Vl} (h:aR σ Y 7 (vlR σ Y) (some a) l) (he:Emp σ Y (some a)):∃ css:List (List Value),css.length=l.length∧σ.rdN a (l.length*7)=some css.flatten∧∀ i (h1:i<css.length) (h2:i<l.length),VlR σ Y l[i] css[i]:=by
 have:∀ m,m≤l.length→∃ css:List (List Value),css.length=m∧σ.rdN a (m*7)=some css.flatten∧∀ i (h1:i<css.length) (h2:i<l.length),VlR σ Y l[i] css[i]:=by
  intro m
  induction m with
  |zero=>exact fun _=>⟨[],rfl,by simpa using (he a rfl).2,fun i h=>by cases h⟩
  |succ m ih=>
   intro hm
   obtain ⟨css,h1,h2,h3⟩:=ih (by omega)
   obtain ⟨x,cs,hx,_,h4,h5⟩:=h m hm
   cases hx
   refine ⟨css++[cs],by simp [h1],?_,fun i hi hi'=>?_⟩
   ·rw [Nat.add_mul,Nat.one_mul,rdN_join h2 h4,List.flatten_append]
    simp
   ·by_cases hl:i<m
    ·have g:(css++[cs])[i]=css[i]'(by omega):=List.getElem_append_left (by omega)
     rw [g]
     exact h3 i _ _
    ·have:i=m:=by simp at hi;omega
     subst this
     have g:(css++[cs])[i]=cs:=by simp [←h1]
     rw [g]
     exact h5
 exact this _ (Nat.le_refl _)
theorem flat7 {css:List (List Value)} {l:List Vl} (hl:css.length=l.length) (h:∀ i (h1:i<css.length) (h2:i<l.length),VlR σ Y l[i] css[i]):(∀ cs∈css,cs.length=7)∧(∀ y∈css.flatten,one y=true):=by
 refine ⟨fun cs hc=>?_,fun y hy=>?_⟩
 ·obtain ⟨i,hi,rfl⟩:=List.getElem_of_mem hc
  exact (h i hi (by omega)).len
 ·obtain ⟨cs,hc,hy⟩:=List.mem_flatten.1 hy
  obtain ⟨i,hi,rfl⟩:=List.getElem_of_mem hc
  exact one7 (h i hi (by omega)) y hy
theorem zE {p:Option Addr} {l:List Vl} {c:Nat} (h:aR σ Y 7 (vlR σ Y) p l) (he:Emp σ Y p) (hl:l.length≤1000000000) {Q:Value→aB→Prop}
  (hQ:∀ (σ':aB) (p':Option Addr) (c':Nat) (css:List (List Value)),Frm σ σ' NoB→SlE σ' σ.n p' c' 7 css.flatten→css.length=l.length→(∀ i (h1:i<css.length) (h2:i<l.length),VlR σ Y l[i] css[i])→Q (.slice p' l.length c') σ'):WpF aG ovD 36 [.slice p l.length c] σ Q:=by
 refine WpF.of (T36_eq _ _ _) rfl ?_
 rw [T36,aC]
 cases p with
 |none=>
  rw [if_pos (by rfl)]
  have hl0:l=[]:=by
   cases l with
   |nil=>rfl
   |cons v l=>
    obtain ⟨x,cs,hx,_⟩:=h 0 (by simp)
    cases hx
  subst hl0
  simp only [wpS]
  exact ⟨_,rfl,hQ σ none 0 [] (Frm.refl _ _) (.inl ⟨rfl,rfl,rfl⟩) rfl fun i h=>by cases h⟩
 |some a=>
  rw [if_neg (by simp),aZ,cR]
  simp only [wpS]
  obtain ⟨css,h1,h2,h3⟩:=VRow.whole h he
  obtain ⟨g1,g2⟩:=flat7 h1 h3
  have hF:=Frm.new σ [] 7 NoB
  have hN:=Row.new σ 7 [] 0 (by decide) rfl (fun _ h=>by cases h)
  have h4:(σ.newBlk [] 7).rdN a (l.length*7)=some css.flatten:=by
   by_cases h0:l.length=0
   ·obtain ⟨e1,e2⟩:=he.step (S:=NoB) hF (fun _ _ h=>h.elim) (fun _ _ h=>h) a rfl
    have:css=[]:=List.eq_nil_of_length_eq_zero (by omega)
    rw [h0,this,Nat.zero_mul]
    exact e2
   ·obtain ⟨x,cs,hx,hv,_⟩:=h 0 (by omega)
    cases hx
    have:=gG (k:=0) (n:=l.length*7) hF hv fun _ _ h=>h.elim
    rw [show aadd a 0=a from rfl] at this
    rw [this]
    exact h2
  rw [aZ,jG h4]
  by_cases h0:l.length=0
  ·have hc:css=[]:=List.eq_nil_of_length_eq_zero (by omega)
   subst hc
   rw [h0,List.flatten_nil,jK (Nat.le_refl _)]
   simp only [wpS]
   have:=hQ (σ.newBlk [] 7) (some ⟨σ.n,0,some 7⟩) 0 [] hF (.inr ⟨0,7,rfl,hN⟩) h1 h3
   rw [h0] at this
   exact ⟨_,rfl,this⟩
  ·obtain ⟨σ1,s1,c1,e1,e2,e3,e4,e5⟩:=hN.append (byt:=80) (len:=0) (n:=l.length) (ys:=css.flatten) rfl (by rw [fB g1,h1]) (by decide) (by omega) g2 (by omega) (by omega)
   rw [e1]
   simp only [wpS]
   have hF2:Frm σ σ1 NoB:=hF.fresh (Frm.of1 (by rw [gP];omega) e2 e3 e4) fun j hj h=>by omega
   have:=hQ σ1 (some ⟨σ.n,0,some s1⟩) c1 css hF2 (.inr ⟨0,s1,rfl,e5⟩) h1 h3
   rw [Nat.zero_add]
   exact ⟨_,rfl,this⟩
theorem app_ex2 {b cap len byt esz c2:Nat} {p:Option Addr} {a2:Addr} {xs ys:List Value} (h:SlE σ b p cap esz xs) (hs:σ.rdN a2 (1*esz)=some ys) (hlen:xs.length=len*esz) (h0:1≤esz) (he:esz<64) (hy:ys.length=esz) (hy1:∀ y∈ys,one y=true)
  (hb:2*(len+1)*byt≤281474976710656) (hb2:len+1≤4611686018427387904):
  ∃ σ' b' off s cap',apS esz byt p len cap (some a2) 1 c2 σ=some (.slice (some ⟨b',off,some s⟩) (len+1) cap',σ')∧Frm σ σ' (fun j=>p≠none∧j=b)∧((p≠none∧b'=b)∨σ.n≤b')∧Row σ' b' off s cap' esz (xs++ys):=by
 rw [jG hs]
 rcases h with ⟨rfl,rfl,rfl⟩|⟨off,s,rfl,h⟩
 ·have hl0:len=0:=by
   simp only [List.length_nil] at hlen
   rcases Nat.mul_eq_zero.1 hlen.symm with h|h
   ·exact h
   ·omega
  subst hl0
  exact ⟨_,_,_,_,_,kS he (by decide) (by omega) hy1 (by simpa using hb) (by decide),Frm.new _ _ _ _,.inr (Nat.le_refl _),Row.new σ esz ys 1 he (by omega) hy1⟩
 ·obtain ⟨σ',s',cap',e1,e2,e3,e4,e5⟩:=h.append (byt:=byt) (len:=len) (n:=1) (ys:=ys) hlen (by omega) h0 (by decide) hy1 hb hb2
  exact ⟨σ',b,off,s',cap',e1,(Frm.of1 h.lt e2 e3 e4).mono fun j _ h=>⟨by simp,h⟩,.inl ⟨by simp,rfl⟩,e5⟩
end
end Go.Pg
namespace Go.Pg
open Go.Proofs Go.Utf8 Go.Lib
set_option linter.unusedSimpArgs false
section
variable {σ σ':aB} {X Y:Nat→Prop} {A:Nat} {T:TrA} {N:List NV} {D:List Dc} {s:Slt} {m:MS} {P:Program} {ov:Ov}
theorem dB.two (g:dB N D) {i:Nat} (hi:i<N.length) (hp:¬ 20<N[i].x.k) (h0:0<N[i].kids.length) (h5:N[i].x.k≠5) (h6:N[i].x.k≠6) (h11:N[i].x.k≠11) (h15:N[i].x.k≠15) (h16:N[i].x.k≠16) (h17:N[i].x.k≠17) (h19:N[i].x.k≠19):2≤N[i].kids.length:=by
 have hs:=(g.node i hi).shape
 unfold bP at hs
 simp only [Bool.and_eq_true,decide_eq_true_eq] at hs
 have h1:=hs.1.1.1.1.1
 have:N[i].x.k=1∨N[i].x.k=2∨N[i].x.k=3∨N[i].x.k=4∨N[i].x.k=18∨N[i].x.k=7∨N[i].x.k=8∨N[i].x.k=9∨N[i].x.k=10∨N[i].x.k=12∨N[i].x.k=13∨N[i].x.k=14∨N[i].x.k=20:=by omega
 rcases this with h|h|h|h|h|h|h|h|h|h|h|h|h
 ·have:=g.kidsOf hi 1 0 h rfl;omega
 ·have:=g.kidsOf hi 2 0 h rfl;omega
 ·have:=g.kidsOf hi 3 0 h rfl;omega
 ·have:=g.kidsOf hi 4 0 h rfl;omega
 ·have:=g.kidsOf hi 18 0 h rfl;omega
 ·have:=g.kidsOf hi 7 2 h rfl;omega
 ·have:=g.kidsOf hi 8 2 h rfl;omega
 ·have:=g.kidsOf hi 9 2 h rfl;omega
 ·have:=g.kidsOf hi 10 3 h rfl;omega
 ·have:=g.kidsOf hi 12 2 h rfl;omega
 ·have:=g.kidsOf hi 13 2 h rfl;omega
 ·have:=g.kidsOf hi 14 2 h rfl;omega
 ·have:=g.kidsOf hi 20 2 h rfl;omega
structure Few (m:MS):Prop where
 cells:m.cells.length≤1000000000
 nw:m.nw≤1000000000
 out:m.out.length≤1000000000
 calls:m.calls.length≤1000000000
 read:m.read≤m.inp.length
 inp:m.inp.length≤1000000
theorem eS (g:dB N D) (h:Mac σ X A T N D s m) (ok:okM N m) (hfr:lR σ) (few:Few m) {v:Vl} {vq vp:Option Addr} (vc:Nat) (hv:VlP σ (FX X A s) v vq vp) (hvo:vOK N m.cells.length v):
  WpF aG ovD 39 [bO A,.agg (vC v vq vc vp).toArray] σ (QM σ X A T N D s (eL N m v)):=by
 refine WpF.of (T39_eq _ _ _ _ _ _ _ _ _ _) rfl ?_
 rw [T39]
 refine aP fun σ1 hF1 hn1 hS1=>?_
 generalize hB:σ.n=B at hS1 hn1
 have hS1:St σ1 B (vC v vq vc vp):=hS1
 have h1:=h.frmN hF1
 have hv1:=hv.frmN hF1
 simp only [wpS]
 rw [aE h1.st (i:=21) rfl]
 simp only [wpS]
 rw [aC]
 have hA:¬ B=A:=fun e=>by have:=h.st.1;omega
 have hk1:WtR σ1 (FX X A s) m.k s.pk:=h1.k
 unfold eL
 cases hk:m.k with
 |nil=>
  rw [hk] at hk1
  have e2:s.pk=none:=hk1
  rw [if_pos (by rw [e2];rfl),aS hS1 7 rfl]
  unfold vC
  simp only [wpS]
  refine bB (i:=9) h1.st (by simp [eT]) rfl fun σ2 hF2 hn2 hS2=>?_
  rw [bK,aQ]
  refine ⟨jM ((hF2.st hS1 hA).ldAll 7 rfl) rfl,?_⟩
  refine wp_stKQ (i:=12) hS2 (by simp [eT]) rfl fun σ3 hF3 hn3 hS3=>?_
  simp only [wpS]
  have hF:=hF2.seq hF3
  refine ⟨_,rfl,rfl,{ s with vq:=vq,vc:=vc,vp:=vp },?_,(Mov.ofN hF1).trans (Mov.ofA hF rfl)⟩
  exact h1.upd hF hS3 (by constructor<;>rfl) hv1 h1.env e2 h1.calls
 |cons w r=>
  rw [hk] at hk1
  obtain ⟨x,pe,q,c,pc,pu,e2,hx1,hx2,hx3,hx4,hx5,hx6,hx7⟩:=hk1
  have hz1:Cz σ1 (FX X A s) x 5 [.int .i64 (atI w.at_),.pointer pe,.slice q w.vals.length c,.pointer pc,.pointer pu]:=⟨hx1,hx2,rfl⟩
  have hwk:=ok.k w (by rw [hk];simp)
  rw [e2,if_neg (by simp)]
  simp only [wpS]
  rw [dJ hz1 (i:=4) rfl]
  simp only [wpS]
  refine bB (i:=21) h1.st (by simp [eT]) rfl fun σ2 hF2 hn2 hS2=>?_
  obtain ⟨s2,h2,hM2⟩:∃ s2,Mac σ2 X A T N D s2 { m with k:=r }∧Mov σ1 σ2 A s s2:=⟨{ s with pk:=pu },h1.upd hF2 hS2 (by constructor<;>rfl) h1.v h1.env hx7 h1.calls,Mov.ofA hF2 rfl⟩
  have hM02:Mov σ σ2 A s s2:=(Mov.ofN hF1).trans hM2
  have hB2:=hF2.st hS1 hA
  have hz2:Cz σ2 (FX X A s2) x 5 [.int .i64 (atI w.at_),.pointer pe,.slice q w.vals.length c,.pointer pc,.pointer pu]:=hz1.mov hM2
  have hv2:VlP σ2 (FX X A s2) v vq vp:=hv1.mov hM2
  have he2:EnR σ2 (FX X A s2) w.env pe:=hx3.mov hM2
  have hr2:aR σ2 (FX X A s2) 7 (vlR σ2 (FX X A s2)) q w.vals:=VRow.mov hx4 hM2
  have hm2:Emp σ2 (FX X A s2) q:=hx5.step hM2.frm (fun _ _ h=>.inr h) hM2.fx
  have hc2:LkR σ2 (FX X A s2) w.calls pc:=hx6.mov hM2
  have hw2:WtR σ2 (FX X A s2) r pu:=hx7.mov hM2
  clear hS2
  rw [dJ hz2 (i:=0) rfl]
  simp only [wpS]
  rw [aC]
  cases ha:w.at_ with
  |none=>
   rw [if_pos (by simp [atI]),dJ hz2 (i:=3) rfl]
   simp only [wpS]
   refine bB (i:=22) h2.st (by simp [eT]) rfl fun σ3 hF3 hn3 hS3=>?_
   obtain ⟨s3,h3,hM3⟩:∃ s3,Mac σ3 X A T N D s3 { m with k:=r,calls:=w.calls }∧Mov σ2 σ3 A s2 s3:=⟨{ s2 with pl:=pc },h2.upd hF3 hS3 (by constructor<;>rfl) h2.v h2.env h2.k hc2,Mov.ofA hF3 rfl⟩
   have hv3:=hv2.mov hM3
   rw [aS (hF3.st hB2 hA) 7 rfl]
   have key:=eN h3 vc hv3
   unfold vC at key ⊢
   simp only [wpS]
   rw [aD]
   refine WpF.mono key ?_
   intro v' σ9 hq
   obtain ⟨rfl,_⟩:=id hq
   simp only [wpS]
   exact ⟨_,rfl,hq.up (hM02.trans hM3)⟩
  |some i=>
   rw [if_neg (by rw [decide_eq_true_eq];show ¬ ((i:Nat):Int)<0;omega)]
   obtain ⟨hiN,hp20,hlt,hk6⟩:=hwk.2.2 i ha
   have hwl:w.vals.length≤1000000:=by have:=h.tree.kl _ (List.getElem_mem hiN);omega
   have hfr2:lR σ2:=hF2.fr (hF1.fr hfr)
   rw [bK,dJ hz2 (i:=2) rfl]
   simp only [wpS]
   rw [aS hB2 7 rfl]
   have hwN:VlR σ2 (FX X A s2) v (vC v vq vc vp):=dF.2 ⟨vq,vc,vp,rfl,hv2⟩
   unfold vC
   simp only [wpS]
   rw [bK,aQ]
   refine ⟨oP (Nat.le_refl _) hfr2 (fun _ h=>by cases h),?_⟩
   rw [aZ,cR]
   simp only [wpS]
   have hF3:=Frm.new σ2 (vC v vq vc vp) 7 NoB
   have hV3:=Row.new σ2 7 (vC v vq vc vp) 1 (by decide) rfl (za v vq vc vp)
   have hn3:=gP σ2 (vC v vq vc vp) 7
   unfold vC at hF3 hV3 hn3
   generalize σ2.newBlk _ 7=σ3 at hF3 hV3 hn3 ⊢
   generalize hC:σ2.n=C at hV3 hn3 ⊢
   rw [bK,aD]
   refine zE (Y:=FX X A s2) (VRow.frmN hr2 hF3) (hm2.step (S:=NoB) hF3 (fun _ _ h=>h.elim) fun _ _ h=>h) (by omega) fun σ4 p4 c4 css hF4 hP4 hl4 hcs4=>?_
   have hF24:=hF3.seq hF4
   simp only [wpS]
   rw [bK,aQ]
   refine ⟨jM ((hF24.stN hB2).ldAll 7 rfl) rfl,?_⟩
   rw [bK,aQ]
   refine ⟨nR (hF4.get C (by omega) fun h=>h),?_⟩
   obtain ⟨g1,g2⟩:=flat7 hl4 hcs4
   have hV4:=hF4.rowN hV3
   have hrd4:σ4.rdN ⟨C,0,some 7⟩ (1*7)=some (vC v vq vc vp):=by
    have:=hV4.rdN (i:=0) (k:=1*7) (Nat.le_refl _)
    exact this
   obtain ⟨σ5,b',off,sp,cap',ea,hFa,hba,hRa⟩:=app_ex2 (byt:=80) (c2:=1) (len:=w.vals.length) hP4 hrd4 (by rw [fB g1,hl4]) (by decide) (by decide) rfl (za v vq vc vp) (by omega) (by omega)
   have hF35:Frm σ3 σ5 NoB:=hF4.fresh hFa fun j hj h=>by omega
   have hF25:=hF3.seq hF35
   have hb'n:σ2.n≤b':=by
    rcases hba with ⟨_,e⟩|e
    ·omega
    ·have:=hF4.n;omega
   have hYb:∀ τ:aB,¬ FX X A s2 b':=fun _ hX=>by have:=h2.fn _ hX;omega
   have hR5:aR σ5 (FX X A s2) 7 (vlR σ5 (FX X A s2)) (some ⟨b',off,some sp⟩) (w.vals++[v]):=by
    refine aR.own (css:=css++[vC v vq vc vp]) (by rw [List.flatten_append];simpa using hRa) (hYb σ5) (by simp [hl4]) (fun cs hc=>?_) fun j hj hj'=>?_
    ·rcases List.mem_append.1 hc with hc|hc
     ·exact g1 _ hc
     ·rw [List.mem_singleton.1 hc];try rfl
    ·by_cases hl:j<w.vals.length
     ·have e1:(css++[vC v vq vc vp])[j]=css[j]'(by omega):=List.getElem_append_left (by omega)
      have e2:(w.vals++[v])[j]=w.vals[j]:=List.getElem_append_left hl
      rw [e1,e2]
      exact gH (S:=NoB) hF35 (fun _ _ h=>h.elim) (fun _ _ h=>h) _ _ (hcs4 j _ hl)
     ·have:j=w.vals.length:=by simp at hj';omega
      subst this
      have e1:(css++[vC v vq vc vp])[w.vals.length]=vC v vq vc vp:=by simp [←hl4]
      have e2:(w.vals++[v])[w.vals.length]=v:=by simp
      rw [e1,e2]
      exact gH (S:=NoB) hF25 (fun _ _ h=>h.elim) (fun _ _ h=>h) _ _ hwN
   have hE5:Emp σ5 (FX X A s2) (some ⟨b',off,some sp⟩):=hRa.emp (hYb σ5)
   rw [aZ,ea]
   simp only [wpS]
   have h5:=h2.frmN hF25
   have hz5:=hz2.frm hF25
   have hB5:=hF25.stN hB2
   have hv5:=hv2.frmN hF25
   have he5:=he2.frmN hF25
   have hc5:LkR σ5 (FX X A s2) w.calls pc:=gQ (S:=NoB) hF25 (fun _ _ h=>h.elim) (fun _ _ h=>h) hc2
   have hM05:Mov σ σ5 A s s2:=hM02.trans (Mov.ofN hF25)
   have hfr5:=hF25.fr hfr2
   clear hRa ea hba hFa hP4 hV4 hV3 hrd4 hcs4
   rw [cD,aE h5.st (i:=0) rfl]
   simp only [wpS]
   rw [dJ hz5 (i:=0) rfl]
   have hkz:Kp σ5 (aadd x 0) (.int .i64 ((i:Nat):Int)):=hz5.kp (i:=0) (by rw [ha];rfl)
   rw [ha]
   unfold atI
   simp only [wpS]
   refine tL h5.tree.tree.nodes hiN rfl fun xn cs hcs hkn=>?_
   unfold uK
   rw [iR hiN]
   have k8:=fun hk=>g.kidsOf hiN 8 2 hk rfl
   have k10:=fun hk=>g.kidsOf hiN 10 3 hk rfl
   have k11:=fun hk=>g.matchOdd hiN hk
   have k12:=fun hk=>g.kidsOf hiN 12 2 hk rfl
   have k2:=fun a b c d e f=>g.two hiN hp20 (by omega) a hk6 b c d e f
   have kN:=fun j hj=>(g.kid (i:=i) (j:=j) hiN hj).2
   have kl:=h.tree.kl _ (List.getElem_mem hiN)
   generalize N[i]=nv at hcs hkn hlt hk6 k8 k10 k11 k12 k2 kN kl ⊢
   obtain ⟨xq,xk,rfl,hrow,_⟩:=hcs
   simp only [wpS]
   refine aP fun σ6 hF6 hn6 hS6=>?_
   generalize hE:σ5.n=E at hS6 hn6
   rw [bK,aQ]
   refine ⟨jM (hkn σ6 hF6) (bR (hkz.frm hF6) (bR ((Kp.st h5.st (i:=0) rfl).frm hF6) rfl)),?_⟩
   refine bC hS6 rfl rfl fun σ7 hF7 hn7 hS7=>?_
   have hF57:Frm σ5 σ7 NoB:=hF6.fresh hF7 fun j hj h=>by omega
   have hS7:St σ7 E (nvC nv xq xk):=hS7
   have h7:=h5.frmN hF57
   have hz7:=hz5.frm hF57
   have hB7:=hF57.stN hB5
   have hv7:=hv5.frmN hF57
   have he7:=he5.frmN hF57
   have hc7:LkR σ7 (FX X A s2) w.calls pc:=gQ (S:=NoB) hF57 (fun _ _ h=>h.elim) (fun _ _ h=>h) hc5
   have hR7:=VRow.frmN hR5 hF57
   have hE7:Emp σ7 (FX X A s2) (some ⟨b',off,some sp⟩):=hE5.step (S:=NoB) hF57 (fun _ _ h=>h.elim) fun _ _ h=>h
   have hM07:Mov σ σ7 A s s2:=hM05.trans (Mov.ofN hF57)
   have hfr7:=hF57.fr hfr5
   have hrow7:=hrow.later hF57
   rw [aE hS7 (i:=0) rfl]
   simp only [wpS]
   rw [aC]
   by_cases c8:nv.x.k=8
   ·have kk:=k8 c8
    rw [if_pos (by simpa using c8),if_pos c8,aE hS7 (i:=4) rfl]
    simp only [wpS]
    refine qG hrow7 (i:=1) (o:=0) rfl (by omega) rfl (by decide) rfl fun y cs hcs=>?_
    unfold kE at hcs
    subst hcs
    refine ⟨_,rfl,fun hky=>?_⟩
    simp only [wpS]
    rw [aE hS7 (i:=2) rfl]
    simp only [wpS]
    rw [aS hB7 7 rfl]
    unfold vC
    simp only [wpS]
    rw [dJ hz7 (i:=1) rfl]
    simp only [wpS]
    refine aP fun σ8 hF8 hn8 hS8=>?_
    rw [bK,aQ]
    refine ⟨bR (hky.frm hF8) (bR ((Kp.st hS7 (i:=4) rfl).frm hF8) rfl),?_⟩
    have h8:=h7.frmN hF8
    have nX8:¬ FX X A s2 σ7.n:=fun hX=>by have:=h7.fn _ hX;omega
    have he8:EnR σ8 (FX X A s2) (.cons nv.x.nm v w.env) (some ⟨σ7.n,0,some 0⟩):=pM (cs:=vC v vq vc vp) (pu:=pe) hS8 nX8 (dF.2 ⟨_,_,_,rfl,hv7.frmN hF8⟩) (he7.frmN hF8)
    have ek:fW nv 1=nv.kids[1]:=by unfold fW;simp [List.getD,show 1<nv.kids.length by omega]
    rw [aD,ek]
    have key:=fG (i:=nv.kids[1]) h8 he8
    refine WpF.mono key ?_
    intro v' σ9 hq
    obtain ⟨rfl,_⟩:=id hq
    simp only [wpS,T39k0]
    exact ⟨_,rfl,hq.up (hM07.trans (Mov.ofN hF8))⟩
   rw [if_neg (by simpa using c8),if_neg c8,aC]
   by_cases c10:nv.x.k=10
   ·rw [if_pos (by simpa using c10),if_pos c10,aS hS7 7 rfl]
    have key:=wp_branch58 (k:=xk) h7 hrow7 (k10 c10) hz7 he7 v vq vp vc
    unfold nvC vC at*
    simp only [wpS]
    rw [aS hB7 7 rfl]
    simp only [wpS]
    rw [aD]
    refine WpF.mono key ?_
    intro v' σ9 hq
    obtain ⟨rfl,_⟩:=id hq
    simp only [wpS,T39k0]
    exact ⟨_,rfl,hq.up (hM07)⟩
   rw [if_neg (by simpa using c10),if_neg c10,aC]
   by_cases c11:nv.x.k=11
   ·rw [if_pos (by simpa using c11),if_pos c11,aS hS7 7 rfl]
    have key:=wp_match59 (k:=xk) g h7 hrow7 (k11 c11).1 kl kN hz7 he7 vc hv7
    unfold nvC vC at*
    simp only [wpS]
    rw [aS hB7 7 rfl]
    simp only [wpS]
    rw [aD]
    refine WpF.mono key ?_
    intro v' σ9 hq
    obtain ⟨rfl,_⟩:=id hq
    simp only [wpS,T39k0]
    exact ⟨_,rfl,hq.up (hM07)⟩
   rw [if_neg (by simpa using c11),if_neg c11,aC]
   by_cases c12:nv.x.k=12
   ·have kk:=k12 c12
    rw [if_pos (by simpa using c12),if_pos c12,aE hS7 (i:=4) rfl]
    simp only [wpS]
    refine pJ hrow7 (i:=1) (o:=0) rfl (by omega) rfl (by decide) rfl fun cs hcs=>?_
    unfold kE at hcs
    subst hcs
    refine ⟨_,rfl,?_⟩
    simp only [wpS]
    rw [dJ hz7 (i:=1) rfl]
    simp only [wpS]
    have ek:fW nv 1=nv.kids[1]:=by unfold fW;simp [List.getD,show 1<nv.kids.length by omega]
    rw [aD,ek]
    have key:=fG (i:=nv.kids[1]) h7 he7
    refine WpF.mono key ?_
    intro v' σ9 hq
    obtain ⟨rfl,_⟩:=id hq
    simp only [wpS,T39k0]
    exact ⟨_,rfl,hq.up (hM07)⟩
   rw [if_neg (by simpa using c12),if_neg c12,aC]
   by_cases c20:nv.x.k=20
   ·rw [if_pos (by simpa using c20),if_pos c20,aS hB7 7 rfl]
    have key:=eN h7 vc hv7
    unfold vC at*
    simp only [wpS]
    rw [aD]
    refine WpF.mono key ?_
    intro v' σ9 hq
    obtain ⟨rfl,_⟩:=id hq
    simp only [wpS,T39k0]
    exact ⟨_,rfl,hq.up (hM07)⟩
   rw [if_neg (by simpa using c20),if_neg c20]
   simp only [wpS,T39k0]
   rw [aE hS7 (i:=4) rfl]
   simp only [wpS]
   rw [aC]
   have elen:(w.vals++[v]).length=w.vals.length+1:=by simp
   by_cases cl:w.vals.length+1<nv.kids.length
   ·rw [if_pos (by simp;omega),if_pos cl,dJ hz7 (i:=0) rfl]
    simp only [wpS]
    rw [dJ hz7 (i:=1) rfl]
    simp only [wpS]
    rw [dJ hz7 (i:=3) rfl]
    simp only [wpS]
    rw [dJ hz7 (i:=4) rfl]
    simp only [wpS]
    rw [ha]
    refine aP fun σ8 hF8 hn8 hS8=>?_
    have hS8:St σ8 σ7.n [.int .i64 (atI (some i)),.pointer pe,.slice (some ⟨b',off,some sp⟩) (w.vals++[v]).length cap',.pointer pc,.pointer pu]:=by rw [elen];exact hS8
    have h8:=h7.frmN hF8
    have nX8:¬ FX X A s2 σ7.n:=fun hX=>by have:=h7.fn _ hX;omega
    have hup:WtR σ8 (FX X A s2) r pu:=kW (S:=NoB) ((hF25.seq hF57).seq hF8) (fun _ _ h=>h.elim) (fun _ _ h=>h) hw2
    have hk8:WtR σ8 (FX X A s2) (⟨some i,w.env,w.vals++[v],w.calls⟩::r) (some ⟨σ7.n,0,some 0⟩):=WtR_new (w:=⟨some i,w.env,w.vals++[v],w.calls⟩) hS8 nX8 (he7.frmN hF8) (VRow.frmN hR7 hF8) (hE7.step (S:=NoB) hF8 (fun _ _ h=>h.elim) fun _ _ h=>h) (gQ (S:=NoB) hF8 (fun _ _ h=>h.elim) (fun _ _ h=>h) hc7) hup
    refine bB (i:=21) h8.st (by simp [eT]) rfl fun σ9 hF9 hn9 hS9=>?_
    obtain ⟨s9,h9,hM9⟩:∃ s9,Mac σ9 X A T N D s9 { m with k:=⟨some i,w.env,w.vals++[v],w.calls⟩::r }∧Mov σ8 σ9 A s2 s9:=⟨{ s2 with pk:=some ⟨σ7.n,0,some 0⟩ },h8.upd hF9 hS9 (by constructor<;>rfl) h8.v h8.env hk8 h8.calls,Mov.ofA hF9 rfl⟩
    have hM79:Mov σ7 σ9 A s2 s9:=(Mov.ofN hF8).trans hM9
    have hEA:¬ E=A:=fun e=>by have:=h5.st.1;omega
    rw [aE (hF9.st (hF8.stN hS7) hEA) (i:=4) rfl]
    simp only [wpS]
    refine pJ (natRow.mov hrow7 hM79) (i:=w.vals.length+1) (o:=0) rfl (by omega) rfl (by decide) rfl fun cs hcs=>?_
    unfold kE at hcs
    subst hcs
    refine ⟨_,rfl,?_⟩
    simp only [wpS]
    rw [dJ (hz7.mov hM79) (i:=1) rfl]
    simp only [wpS]
    have ek:fW nv (w.vals.length+1)=nv.kids[w.vals.length+1]:=by unfold fW;simp [List.getD,show w.vals.length+1<nv.kids.length by omega]
    rw [aD,ek]
    have key:=fG (i:=nv.kids[w.vals.length+1]) h9 (he7.mov hM79)
    refine WpF.mono key ?_
    intro v' σ10 hq
    obtain ⟨rfl,_⟩:=id hq
    simp only [wpS,T39k0]
    exact ⟨_,rfl,hq.up (hM07.trans hM79)⟩
   ·rw [if_neg (by simp;omega),if_neg cl,dJ hz7 (i:=0) rfl]
    simp only [wpS]
    rw [ha,aS hS7 7 rfl]
    have okr:okM N { m with k:=r }:=⟨ok.at_,ok.env,ok.v,ok.cells,fun w' hw'=>ok.k w' (by rw [hk];simp [hw'])⟩
    have key:=wp_done60 g h7 okr hfr7 i (x:=nv) (q:=xq) xk (vals:=w.vals++[v]) (vq:=some ⟨b',off,some sp⟩) cap' hR7 hE7 (wY hwk.2.1 (wX hvo)) (by rw [elen];omega) (fun a b c d e=>by have:=k2 a c11 b c d e;rw [elen];omega) few.cells few.nw few.out few.calls
    rw [elen] at key
    unfold nvC at key ⊢
    unfold atI
    simp only [wpS]
    rw [aD]
    refine WpF.mono key ?_
    intro v' σ10 hq
    obtain ⟨rfl,_⟩:=id hq
    simp only [wpS,T39k0]
    exact ⟨_,rfl,hq.up (hM07)⟩
end
end Go.Pg
namespace Go.Pg
open Go.Proofs Go.Utf8 Go.Lib
set_option linter.unusedSimpArgs false
section
variable {σ σ':aB} {X Y:Nat→Prop} {A:Nat} {T:TrA} {N:List NV} {D:List Dc} {s:Slt} {m:MS} {P:Program} {ov:Ov}
theorem wp_begin40 (g:dB N D) (h:Mac σ X A T N D s m) (ok:okM N m) (hfr:lR σ) (few:Few m):WpF aG ovD 40 [bO A] σ (QM σ X A T N D s (rS N m)):=by
 refine WpF.of (T40_eq _) rfl ?_
 rw [T40]
 simp only [wpS]
 rw [cD,aE h.st (i:=0) rfl]
 simp only [wpS]
 rw [aE h.st (i:=19) rfl]
 simp only [wpS]
 obtain ⟨hiN,hp20⟩:=ok.at_
 refine tL h.tree.tree.nodes hiN rfl fun xn cs hcs hkn=>?_
 unfold rS
 rw [iR hiN]
 have k9:=fun hk=>g.kidsOf hiN 9 2 hk rfl
 have f6:N[m.at_].x.k=6→zy N ((m.at_:Nat):Int):=fun hk=>⟨_,rfl,hiN,.inl hk⟩
 generalize N[m.at_]=nv at hcs hkn k9 f6 ⊢
 obtain ⟨xq,xk,rfl,hrow,_⟩:=hcs
 simp only [wpS]
 refine aP fun σ1 hF1 hn1 hS1=>?_
 generalize hE:σ.n=E at hS1 hn1
 rw [bK,aQ]
 refine ⟨jM (hkn σ1 hF1) (bR ((Kp.st h.st (i:=19) rfl).frm hF1) (bR ((Kp.st h.st (i:=0) rfl).frm hF1) rfl)),?_⟩
 refine bC hS1 rfl rfl fun σ2 hF2 hn2 hS2=>?_
 have hF:Frm σ σ2 NoB:=hF1.fresh hF2 fun j hj h=>by omega
 have hS2:St σ2 E (nvC nv xq xk):=hS2
 have h2:=h.frmN hF
 have hrow2:=hrow.later hF
 have hfr2:=hF.fr hfr
 have hM2:Mov σ σ2 A s s:=Mov.ofN hF
 rw [aE hS2 (i:=0) rfl]
 simp only [wpS]
 rw [aC]
 by_cases c1:nv.x.k=1
 ·rw [if_pos (by simpa using c1),if_pos c1,aE hS2 (i:=1) rfl]
  simp only [wpS]
  rw [aD]
  refine oO _ fun σ3 hF3=>?_
  have key:=eS g (h2.frmN hF3) ok (hF3.fr hfr2) few 0 (v:=yR nv.x.n) (vq:=none) (vp:=none) (VlP.plain rfl rfl) vA
  unfold vC at key ⊢
  simp only [wpS]
  rw [aD]
  refine WpF.mono key ?_
  intro v' σ9 hq
  obtain ⟨rfl,_⟩:=id hq
  simp only [wpS,T40k0,T40k1,T40k2,T40k3,T40k4,T40k5,T40k6,T40k7]
  exact ⟨_,rfl,hq.up (hM2.trans (Mov.ofN hF3))⟩
 rw [if_neg (by simpa using c1),if_neg c1,aI,aC]
 by_cases c2:nv.x.k=2
 ·rw [if_pos (by simpa using c2),if_pos c2,aE hS2 (i:=1) rfl]
  simp only [wpS]
  have key:=eS g h2 ok hfr2 few 0 (v:=boolV nv.x.n) (vq:=none) (vp:=none) (VlP.plain rfl rfl) wZ
  unfold vC at key
  rw [aD]
  refine WpF.mono key ?_
  intro v' σ9 hq
  obtain ⟨rfl,_⟩:=id hq
  simp only [wpS,T40k0,T40k1,T40k2,T40k3,T40k4,T40k5,T40k6,T40k7]
  exact ⟨_,rfl,hq.up (hM2)⟩
 rw [if_neg (by simpa using c2),if_neg c2,aI,aC]
 by_cases c3:nv.x.k=3
 ·rw [if_pos (by simpa using c3),if_pos c3,aD]
  refine uH fun σ3 hF3=>?_
  have key:=eS g (h2.frmN hF3) ok (hF3.fr hfr2) few 0 (v:=vS) (vq:=none) (vp:=none) (VlP.plain rfl rfl) xI
  unfold vC at key ⊢
  simp only [wpS]
  rw [aD]
  refine WpF.mono key ?_
  intro v' σ9 hq
  obtain ⟨rfl,_⟩:=id hq
  simp only [wpS,T40k0,T40k1,T40k2,T40k3,T40k4,T40k5,T40k6,T40k7]
  exact ⟨_,rfl,hq.up (hM2.trans (Mov.ofN hF3))⟩
 rw [if_neg (by simpa using c3),if_neg c3,aI,aC]
 by_cases c4:nv.x.k=4
 ·rw [if_pos (by simpa using c4),if_pos c4,bK]
  rw [aE h2.st (i:=20) rfl]
  simp only [wpS]
  rw [aE hS2 (i:=2) rfl]
  simp only [wpS]
  rw [bK,aQ]
  refine ⟨oP (Nat.le_refl _) hfr2 (fun _ h=>by cases h),?_⟩
  refine aP fun σ3 hF3 hn3 hS3=>?_
  generalize hC:σ2.n=C at hS3 hn3
  rw [bK,aD]
  have he3:EnR σ3 (fun j=>FX X A s j∨j=C) m.env s.pe:=EnR_step (S:=NoB) hF3 (fun _ _ h=>h.elim) (fun j hj h=>h.elim id fun h=>by omega) _ _ h2.env
  refine wp_find63 he3 nv.x.nm (fun hno σ4 hF4=>?_) fun v hyes q c p σ4 hF4 hP=>?_
  ·rw [hno]
   simp only [wpS]
   rw [bK,aQ]
   refine ⟨nR (hF4.get C (by omega) fun h=>h),?_⟩
   refine bC (hF4.stN hS3) rfl rfl fun σ5 hF5 hn5 hS5=>?_
   have hF25:Frm σ2 σ5 NoB:=(hF3.seq hF4).fresh hF5 fun j hj h=>by omega
   rw [aC,if_pos (by rfl),aD]
   have key:=fO (h2.frmN hF25)
   refine WpF.mono key ?_
   intro v' σ9 hq
   obtain ⟨rfl,_⟩:=id hq
   simp only [wpS,T40k0,T40k1,T40k2,T40k3,T40k4,T40k5,T40k6,T40k7]
   exact ⟨_,rfl,hq.up (hM2.trans (Mov.ofN hF25))⟩
  ·rw [hyes]
   unfold vC
   simp only [wpS]
   rw [bK,aQ]
   refine ⟨nR (hF4.get C (by omega) fun h=>h),?_⟩
   refine bC (hF4.stN hS3) rfl rfl fun σ5 hF5 hn5 hS5=>?_
   have hF25:Frm σ2 σ5 NoB:=(hF3.seq hF4).fresh hF5 fun j hj h=>by omega
   have hP5:VlP σ5 (FX X A s) v q p:=hP.step hF5 (fun _ _ h=>.inr h) fun _ _ h=>.inl h
   rw [aC,if_neg (by simp),aS hS5 7 rfl]
   simp only [wpS]
   have key:=eS g (h2.frmN hF25) ok (hF25.fr hfr2) few c (v:=v) (vq:=q) (vp:=p) hP5 (qv ok.env hyes)
   unfold vC at key
   rw [aD]
   refine WpF.mono key ?_
   intro v' σ9 hq
   obtain ⟨rfl,_⟩:=id hq
   simp only [wpS,T40k0,T40k1,T40k2,T40k3,T40k4,T40k5,T40k6,T40k7]
   exact ⟨_,rfl,hq.up (hM2.trans (Mov.ofN hF25))⟩
 rw [if_neg (by simpa using c4),if_neg c4,aI,aC]
 by_cases c6:nv.x.k=6
 ·rw [if_pos (by simpa using c6),if_pos c6,aE h2.st (i:=19) rfl]
  simp only [wpS]
  rw [aE h2.st (i:=20) rfl]
  simp only [wpS]
  have key:=eS g h2 ok hfr2 few 0 (v:=funV m.at_ m.env) (vq:=none) (vp:=s.pe) ⟨aR.nil,Emp.none,h2.env⟩ (ok_fun (f6 c6) ok.env)
  unfold vC at key
  rw [aD]
  refine WpF.mono key ?_
  intro v' σ9 hq
  obtain ⟨rfl,_⟩:=id hq
  simp only [wpS,T40k0,T40k1,T40k2,T40k3,T40k4,T40k5,T40k6,T40k7]
  exact ⟨_,rfl,hq.up (hM2)⟩
 rw [if_neg (by simpa using c6),if_neg c6,aI,aC]
 by_cases c9:nv.x.k=9
 ·have kk:=k9 c9
  rw [if_pos (by simpa using c9),if_pos c9,aE h2.st (i:=19) rfl]
  simp only [wpS]
  rw [aE h2.st (i:=20) rfl]
  simp only [wpS]
  refine aP fun σ3 hF3 hn3 hS3=>?_
  generalize hC:σ2.n=C at hS3 hn3
  rw [bK,aQ]
  refine ⟨bR ((Kp.st h2.st (i:=20) rfl).frm hF3) (bR ((Kp.st h2.st (i:=19) rfl).frm hF3) rfl),?_⟩
  refine bC hS3 rfl rfl fun σ4 hF4 hn4 hS4=>?_
  have hF24:Frm σ2 σ4 NoB:=hF3.fresh hF4 fun j hj h=>by omega
  have h4:=h2.frmN hF24
  have hE4:=hF24.stN hS2
  rw [aE hE4 (i:=4) rfl]
  simp only [wpS]
  refine qG (hrow2.later hF24) (i:=1) (o:=0) rfl (by omega) rfl (by decide) rfl fun y cs hcs=>?_
  unfold kE at hcs
  subst hcs
  refine ⟨_,rfl,fun hky=>?_⟩
  simp only [wpS]
  rw [aE hE4 (i:=2) rfl]
  simp only [wpS]
  rw [aS hS4 7 rfl]
  simp only [wpS]
  rw [aE h4.st (i:=20) rfl]
  simp only [wpS]
  refine aP fun σ5 hF5 hn5 hS5=>?_
  rw [bK,aQ]
  refine ⟨bR (hky.frm hF5) (bR ((Kp.st hE4 (i:=4) rfl).frm hF5) rfl),?_⟩
  have h5:=h4.frmN hF5
  have nX5:¬ FX X A s σ4.n:=fun hX=>by have:=h4.fn _ hX;omega
  have he5:EnR σ5 (FX X A s) (.cons nv.x.nm (funV m.at_ m.env) m.env) (some ⟨σ4.n,0,some 0⟩):=pM (cs:=vC (funV m.at_ m.env) none 0 s.pe) (pu:=s.pe) hS5 nX5 (dF.2 ⟨_,_,_,rfl,aR.nil,Emp.none,h5.env⟩) h5.env
  have ek:fW nv 1=nv.kids[1]:=by unfold fW;simp [List.getD,show 1<nv.kids.length by omega]
  rw [aD,ek]
  have key:=fG (i:=nv.kids[1]) h5 he5
  refine WpF.mono key ?_
  intro v' σ9 hq
  obtain ⟨rfl,_⟩:=id hq
  simp only [wpS,T40k0,T40k1,T40k2,T40k3,T40k4,T40k5,T40k6,T40k7]
  exact ⟨_,rfl,hq.up ((hM2.trans (Mov.ofN hF24)).trans (Mov.ofN hF5))⟩
 rw [if_neg (by simpa using c9),if_neg c9,aI,aC]
 by_cases c18:nv.x.k=18
 ·rw [if_pos (by simpa using c18),if_pos c18,aD]
  have key:=wp_input65 h2 few.read few.inp
  refine WpF.mono key ?_
  intro v' σ9 hq
  obtain ⟨rfl,_⟩:=id hq
  simp only [wpS,T40k0,T40k1,T40k2,T40k3,T40k4,T40k5,T40k6,T40k7]
  exact ⟨_,rfl,hq.up (hM2)⟩
 rw [if_neg (by simpa using c18),if_neg c18,aE hS2 (i:=4) rfl]
 simp only [wpS]
 rw [aC]
 by_cases c0:nv.kids=[]
 ·rw [if_pos (by simp [c0]),if_pos c0,aE hS2 (i:=2) rfl]
  simp only [wpS]
  have key:=eS g h2 ok hfr2 few 0 (v:=conV nv.x.nm []) (vq:=none) (vp:=none) (VlP.plain rfl rfl) (ok_con iL)
  unfold vC at key
  rw [aD]
  refine WpF.mono key ?_
  intro v' σ9 hq
  obtain ⟨rfl,_⟩:=id hq
  simp only [wpS,T40k0,T40k1,T40k2,T40k3,T40k4,T40k5,T40k6,T40k7]
  exact ⟨_,rfl,hq.up (hM2)⟩
 ·have hl:0<nv.kids.length:=List.length_pos_iff.2 c0
  rw [if_neg (by simp;omega),if_neg c0,aE h2.st (i:=19) rfl]
  simp only [wpS]
  rw [aE h2.st (i:=20) rfl]
  simp only [wpS]
  rw [aE h2.st (i:=22) rfl]
  simp only [wpS]
  rw [aE h2.st (i:=21) rfl]
  simp only [wpS]
  refine aP fun σ3 hF3 hn3 hS3=>?_
  have h3:=h2.frmN hF3
  have nX3:¬ FX X A s σ2.n:=fun hX=>by have:=h2.fn _ hX;omega
  have hk3:WtR σ3 (FX X A s) (⟨some m.at_,m.env,[],m.calls⟩::m.k) (some ⟨σ2.n,0,some 0⟩):=WtR_new (w:=⟨some m.at_,m.env,[],m.calls⟩) hS3 nX3 h3.env aR.nil Emp.none h3.calls h3.k
  refine bB (i:=21) h3.st (by simp [eT]) rfl fun σ4 hF4 hn4 hS4=>?_
  obtain ⟨s4,h4,hM4⟩:∃ s4,Mac σ4 X A T N D s4 { m with k:=⟨some m.at_,m.env,[],m.calls⟩::m.k }∧Mov σ3 σ4 A s s4:=⟨{ s with pk:=some ⟨σ2.n,0,some 0⟩ },h3.upd hF4 hS4 (by constructor<;>rfl) h3.v h3.env hk3 h3.calls,Mov.ofA hF4 rfl⟩
  have hM24:Mov σ2 σ4 A s s4:=(Mov.ofN hF3).trans hM4
  have hEA:¬ E=A:=fun e=>by have:=h.st.1;omega
  rw [aE (hF4.st (hF3.stN hS2) hEA) (i:=4) rfl]
  simp only [wpS]
  refine pJ (natRow.mov hrow2 hM24) (i:=0) (o:=0) rfl hl rfl (by decide) rfl fun cs hcs=>?_
  unfold kE at hcs
  subst hcs
  refine ⟨_,rfl,?_⟩
  simp only [wpS]
  rw [aE h4.st (i:=20) rfl]
  simp only [wpS]
  have ek:fW nv 0=nv.kids[0]:=by unfold fW;simp [List.getD,hl]
  rw [aD,ek]
  have key:=fG (i:=nv.kids[0]) h4 h4.env
  refine WpF.mono key ?_
  intro v' σ9 hq
  obtain ⟨rfl,_⟩:=id hq
  simp only [wpS,T40k0,T40k1,T40k2,T40k3,T40k4,T40k5,T40k6,T40k7]
  exact ⟨_,rfl,hq.up (hM2.trans hM24)⟩
end
end Go.Pg
namespace Go.Pg
section
variable {N:List NV} {D:List Dc} {m:MS}
theorem iJ (h:m.over≠0):∀ n,dK N n m=(m,0)
 |0=>rfl
 |n+1=>by rw [dK,if_neg h]
theorem kH (h:m.over=0) (n:Nat):dK N (n+1) m=((dK N n (jW N m)).1,(dK N n (jW N m)).2+1):=by rw [dK,if_pos h]
theorem sV:∀ (a b:Nat) (m:MS),dK N (a+b) m=((dK N b (dK N a m).1).1,(dK N a m).2+(dK N b (dK N a m).1).2)
 |0,b,m=>by rw [Nat.zero_add];simp [dK]
 |a+1,b,m=>by
  by_cases h:m.over=0
  ·rw [show a+1+b=(a+b)+1 by omega,kH h,kH h,sV a b (jW N m)]
   simp only
   rw [Prod.mk.injEq]
   exact ⟨rfl,by omega⟩
  ·rw [iJ h,iJ h]
   simp only
   rw [iJ h]
   simp
theorem vw:∀ (n:Nat) (m:MS),(dK N n m).2≤n
 |0,_=>Nat.le_refl _
 |n+1,m=>by
  by_cases h:m.over=0
  ·rw [kH h];have:=vw n (jW N m);simp only;omega
  ·rw [iJ h];exact Nat.zero_le _
theorem qF {P:MS→Prop} (hs:∀ m,m.over=0→P m→P (jW N m)):∀ (n:Nat) (m:MS),P m→P (dK N n m).1
 |0,_,h=>h
 |n+1,m,h=>by
  by_cases h0:m.over=0
  ·rw [kH h0];exact qF hs n _ (hs m h0 h)
  ·rw [iJ h0];exact h
theorem runM_ok (g:dB N D) (n:Nat) (h:okM N m):okM N (dK N n m).1:=qF (fun _ _ h=>step_ok g h) n m h
theorem xO (n:Nat) (h:bndM m):bndM (dK N n m).1:=qF (fun _ _ h=>step_bnd h) n m h
theorem lM:∀ (n:Nat) (m:MS),(dK N n m).1.steps=m.steps+(dK N n m).2
 |0,_=>rfl
 |n+1,m=>by
  by_cases h0:m.over=0
  ·rw [kH h0]
   simp only
   rw [lM n,(xR m).steps]
   show m.steps+1+_=_
   omega
  ·rw [iJ h0];try rfl
structure Mono1 (m m':MS):Prop where
 out:m.out <+: m'.out
 read:m.read≤m'.read
 cells:m.cells.length≤m'.cells.length
 inp:m'.inp=m.inp
theorem vf (n:Nat) (m:MS):Mono1 m (dK N n m).1:=
 qF (P:=fun x=>Mono1 m x) (fun x _ h=>by
  have e:=xR (N:=N) x
  exact ⟨h.out.trans e.out,Nat.le_trans h.read e.read,Nat.le_trans h.cells e.cells,e.inp.trans h.inp⟩) n m ⟨List.prefix_refl _,Nat.le_refl _,Nat.le_refl _,rfl⟩
end
end Go.Pg
namespace Go.Pg
open Go.Proofs Go.Utf8 Go.Lib
set_option linter.unusedSimpArgs false
section
variable {σ σ':aB} {X Y:Nat→Prop} {A:Nat} {T:TrA} {N:List NV} {D:List Dc} {s:Slt} {m:MS} {P:Program} {ov:Ov}
theorem wp_Step27 (g:dB N D) (h:Mac σ X A T N D s m) (ok:okM N m) (hfr:lR σ) (few:Few m) (hst:m.steps≤1000000000) (hss:m.stops≤1000000000):
  WpF aG ovD 27 [bO A] σ fun v σ'=>∃ s',v=.bool (decide (m.over=0))∧Mac σ' X A T N D s' (if m.over=0 then jW N m else m)∧Mov σ σ' A s s':=by
 refine WpF.of (T27_eq _) rfl ?_
 rw [T27]
 simp only [wpS]
 rw [aE h.st (i:=9) rfl]
 simp only [wpS]
 rw [aC]
 by_cases h0:m.over=0
 case neg=>
  rw [if_pos (by simpa using h0),if_neg h0,decide_eq_false h0]
  simp only [wpS]
  exact ⟨_,rfl,s,rfl,h,Mov.refl⟩
 rw [if_neg (by simp [h0]),if_pos h0,decide_eq_true h0,aE h.st (i:=7) rfl]
 simp only [wpS]
 have e1:aT (((m.steps:Nat):Int)+1)=((m.steps+1:Nat):Int):=by rw [aV (by omega)];omega
 rw [e1]
 refine bB (i:=7) h.st (by simp [eT]) rfl fun σ1 hF1 hn1 hS1=>?_
 have h1:Mac σ1 X A T N D s { m with steps:=m.steps+1 }:=h.upd hF1 hS1 (by constructor<;>rfl) h.v h.env h.k h.calls
 have hM1:Mov σ σ1 A s s:=Mov.ofA hF1 rfl
 have hh:yp N { m with steps:=m.steps+1 }=yp N m:=rfl
 rw [aD,WpF.eq (ev_here37 h1 ok.at_.1),hh]
 simp only [wpS]
 have fin:∀ τ,Mac τ X A T N D s (iA N m)→Mov σ τ A s s→lR τ→Wp aG ovD (T27k1 (some ⟨A,0,some 0⟩) .normal []) τ fun _ vs σ'=>∃ v,vs=[v]∧∃ s',v=.bool true∧Mac σ' X A T N D s' (jW N m)∧Mov σ σ' A s s':=by
  intro τ hτ hM hf
  have okt:okM N (iA N m):=ud ok
  have fewt:Few (iA N m):=⟨few.cells,few.nw,few.out,few.calls,few.read,few.inp⟩
  unfold T27k1
  simp only [wpS]
  rw [aE hτ.st (i:=11) rfl]
  simp only [wpS]
  rw [aC]
  have hb:(iA N m).back=m.back:=rfl
  unfold jW
  by_cases c:m.back=true
  ·rw [if_pos (by rw [hb];exact c),if_pos c,aZ,show aadd ⟨A,0,some 0⟩ 12=⟨A,12,some 0⟩ from rfl,hτ.st.ldN (off:=12) (k:=7) (by simp [eT])]
   have key:=eS g hτ okt hf fewt s.vc hτ.v okt.v
   have ev:(((eT T N D s (iA N m)).drop 12).take 7)=vC (iA N m).v s.vq s.vc s.vp:=rfl
   rw [ev]
   unfold vC at key ⊢
   simp only [wpS]
   rw [aD]
   refine WpF.mono key ?_
   rintro v' σ9 ⟨rfl,s9,k1,k2⟩
   simp only [wpS,T27k0]
   exact ⟨_,rfl,s9,rfl,k1,hM.trans k2⟩
  ·rw [if_neg (by rw [hb];exact c),if_neg c,aD]
   refine WpF.mono (wp_begin40 g hτ okt hf fewt) ?_
   rintro v' σ9 ⟨rfl,s9,k1,k2⟩
   simp only [wpS,T27k0]
   exact ⟨_,rfl,s9,rfl,k1,hM.trans k2⟩
 rw [aC]
 by_cases c:yp N m=true
 ·rw [if_pos c,aE h1.st (i:=8) rfl]
  simp only [wpS]
  have e2:aT (((m.stops:Nat):Int)+1)=((m.stops+1:Nat):Int):=by rw [aV (by omega)];omega
  rw [e2]
  refine bB (i:=8) h1.st (by simp [eT]) rfl fun σ2 hF2 hn2 hS2=>?_
  simp only [wpS]
  have et:iA N m={ m with steps:=m.steps+1,stops:=m.stops+1 }:=by unfold iA;rw [if_pos c]
  refine fin σ2 ?_ (hM1.trans (Mov.ofA hF2 rfl)) (hF2.fr (hF1.fr hfr))
  rw [et]
  exact h1.upd hF2 hS2 (by constructor<;>rfl) h1.v h1.env h1.k h1.calls
 ·rw [if_neg c]
  simp only [wpS]
  have et:iA N m={ m with steps:=m.steps+1 }:=by unfold iA;rw [if_neg c]
  refine fin σ1 ?_ hM1 (hF1.fr hfr)
  rw [et]
  exact h1
theorem Few.of (b:bndM m) (hs:m.steps≤1000000000) (hi:m.inp.length≤1000000):Few m:=by
 obtain ⟨b1,b2,b3,b4,b5,b6,b7⟩:=b
 exact ⟨by omega,by omega,by omega,by omega,b7,hi⟩
theorem runM_one {i:Nat} (hi:(dK N i m).2=i) (h0:(dK N i m).1.over=0):(dK N (i+1) m).1=jW N (dK N i m).1∧(dK N (i+1) m).2=i+1:=by
 rw [sV i 1 m,kH h0]
 exact ⟨rfl,by simp only [hi];rfl⟩
theorem runM_end {i n:Nat} (hin:i≤n) (hi:(dK N i m).2=i) (h0:(dK N i m).1.over≠0):(dK N n m).1=(dK N i m).1∧(dK N n m).2=i:=by
 rw [show n=i+(n - i) by omega,sV i (n - i) m,iJ h0]
 exact ⟨rfl,by simp only [hi];rfl⟩
theorem wp_Run13 (g:dB N D) (h:Mac σ X A T N D s m) (ok:okM N m) (hfr:lR σ) (b:bndM m) (hinp:m.inp.length≤1000000) (hst:m.steps≤100000000) (n:Int) (hn:n≤100000000):
  WpF aG ovD 13 [bO A,.int .i64 n] σ fun v σ'=>∃ s',v=.int .i64 (((dK N n.toNat m).2:Nat):Int)∧Mac σ' X A T N D s' (dK N n.toNat m).1∧Mov σ σ' A s s':=by
 refine WpF.of (T13_eq _ _) rfl ?_
 rw [T13]
 refine Wp.loop (fun k st σ'=>∃ (i:Nat) (s':Slt),st=[.int .i64 ((i:Nat):Int)]∧i+k=n.toNat∧(dK N i m).2=i∧Mac σ' X A T N D s' (dK N i m).1∧Mov σ σ' A s s') n.toNat ⟨0,s,rfl,by omega,rfl,h,Mov.refl⟩ ?_
 rintro k st σ1 ⟨i,s1,rfl,hik,hi,h1,hM1⟩
 unfold T13b0
 simp only [wpS]
 rw [aC]
 by_cases hlt:((i:Nat):Int)<n
 case neg=>
  have e:i=n.toNat:=by omega
  rw [if_neg (by simp;omega)]
  simp only [wpS,T13k1]
  rw [aC,if_neg (by simp)]
  simp only [wpS,T13k2]
  rw [←e,hi]
  exact ⟨_,rfl,s1,rfl,h1,hM1⟩
 rw [if_pos (by simp;omega),aD]
 have bi:=xO (N:=N) i b
 have hsi:=lM (N:=N) i m
 rw [hi] at hsi
 have hinpi:=(vf (N:=N) i m).inp
 refine WpF.mono (wp_Step27 g h1 (runM_ok g i ok) (hM1.frm.fr hfr) (Few.of bi (by omega) (by rw [hinpi];exact hinp)) (by omega) (by have:=bi.stops;omega)) ?_
 rintro v' σ2 ⟨s2,rfl,h2,hM2⟩
 simp only [wpS,T13k1]
 rw [aC]
 by_cases h0:(dK N i m).1.over=0
 ·rw [if_pos (by simpa using h0)]
  rw [if_pos h0] at h2
  obtain ⟨r1,r2⟩:=runM_one hi h0
  have e1:aT (((i:Nat):Int)+1)=((i+1:Nat):Int):=by rw [aV (by omega)];omega
  simp only [wpS,T13k0]
  rw [e1]
  exact ⟨k - 1,by omega,i+1,s2,rfl,by omega,r2,by rw [r1];exact h2,hM1.trans hM2⟩
 ·rw [if_neg (by simpa using h0)]
  rw [if_neg h0] at h2
  obtain ⟨r1,r2⟩:=runM_end (n:=n.toNat) (by omega) hi h0
  simp only [wpS,T13k2]
  rw [r1,r2]
  exact ⟨_,rfl,s2,rfl,h2,hM1.trans hM2⟩
end
end Go.Pg
namespace Go.Pg
open Go.Proofs Go.Utf8 Go.Lib
set_option linter.unusedSimpArgs false
section
variable {σ σ':aB} {X Y:Nat→Prop} {A:Nat} {T:TrA} {N:List NV} {D:List Dc} {s:Slt} {m:MS} {P:Program} {ov:Ov}
theorem SlE.row9 {b c:Nat} {p:Option Addr} {l:List Int} (h:SlE σ b p c 1 (l.map wO)) (hb:p≠none→¬ Y b):aR σ Y 1 uW p l:=by
 rcases h with ⟨rfl,_,h0⟩|⟨off,s,rfl,hR⟩
 ·have:l=[]:=by simpa using h0
  rw [this]
  exact aR.nil
 ·intro i hi
  refine ⟨_,[wO l[i]],rfl,.inr ⟨hR.lt,hb (by simp)⟩,?_,rfl⟩
  have:=hR.rdN (i:=i*1) (k:=1) (by rw [List.length_map];omega)
  rw [show aadd ⟨b,off,some s⟩ (i*1)=⟨b,off+i*1,some s⟩ from rfl,this,Nat.mul_one,List.drop_eq_getElem_cons (by simpa using hi),List.take_succ_cons,List.take_zero,List.getElem_map]
theorem aR.rdI9 {p:Option Addr} {l:List Int} (h:aR σ Y 1 uW p l):RdI σ .i64 p l:=by
 intro i hi
 obtain ⟨x,cs,rfl,_,h2,h3⟩:=h i hi
 refine ⟨x,rfl,?_⟩
 unfold uW at h3
 subst h3
 unfold ld1
 rw [h2]
 simp [List.getD,hi]
theorem SlE.len {b c esz n:Nat} {p:Option Addr} {xs:List Value} (h:SlE σ b p c esz xs) (hx:xs.length=n*esz) (h0:1≤esz):n≤c:=by
 rcases h with ⟨_,_,h1⟩|⟨off,s,_,hR⟩
 ·rw [h1] at hx
  simp only [List.length_nil] at hx
  rcases Nat.mul_eq_zero.1 hx.symm with h|h<;>omega
 ·have:=hR.len
  rw [hx] at this
  exact Nat.le_of_mul_le_mul_right this h0
theorem zX {p:Option Addr} {l:List Int} {c:Nat} (h:aR σ Y 1 uW p l) (he:Emp σ Y p) (hl:l.length≤1000000000) {Q:Value→aB→Prop}
  (hQ:∀ (σ':aB) (b:Nat) (p':Option Addr) (c':Nat),Frm σ σ' NoB→SlE σ' b p' c' 1 (l.map wO)→(p'≠none→σ.n≤b)→Q (.slice p' l.length c') σ'):WpF aG ovD 34 [.slice p l.length c] σ Q:=by
 refine WpF.of (T34_eq _ _ _) rfl ?_
 rw [T34,aC]
 cases p with
 |none=>
  rw [if_pos (by rfl)]
  have hl0:l=[]:=by
   cases l with
   |nil=>rfl
   |cons v l=>
    obtain ⟨x,cs,hx,_⟩:=h 0 (by simp)
    cases hx
  subst hl0
  simp only [wpS]
  exact ⟨_,rfl,hQ σ 0 none 0 (Frm.refl _ _) (.inl ⟨rfl,rfl,rfl⟩) (fun h=>absurd rfl h)⟩
 |some a=>
  rw [if_neg (by simp),aZ,cR]
  simp only [wpS]
  have hF:=Frm.new σ [] 1 NoB
  have hN:=Row.new σ 1 [] 0 (by decide) rfl (fun _ h=>by cases h)
  have h1:aR (σ.newBlk [] 1) Y 1 uW (some a) l:=aR.step (S:=NoB) hF (fun _ _ h=>h.elim) (fun _ _ h=>h) (fun _ _ h=>h) h
  have he1:Emp (σ.newBlk [] 1) Y (some a):=he.step (S:=NoB) hF (fun _ _ h=>h.elim) fun _ _ h=>h
  have h2:=aR.src (f:=wO) (fun cs t h=>h) h1 he1
  refine wU (xs:=[]) (ys:=l.map wO) (b:=σ.n) (.inr ⟨0,1,rfl,hN⟩) rfl h2 (by simp) (by intro y hy;obtain ⟨z,_,rfl⟩:=List.mem_map.1 hy;rfl) (by omega) (by omega) fun σ2 b2 p2 c2 hF2 hb2 hS2=>?_
  simp only [wpS]
  rw [Nat.zero_add]
  refine ⟨_,rfl,hQ σ2 b2 p2 c2 (hF.fresh hF2 fun j hj h=>by omega) hS2 fun hp=>?_⟩
  rcases hb2 with h|⟨_,h⟩|h
  ·exact absurd h hp
  ·omega
  ·rw [gP] at h
   omega
theorem Mac.outRow (h:Mac σ X A T N D s m):aR σ NoB 1 uW s.po m.out:=h.out.row9 fun _ h=>h
theorem wp_Out14 (h:Mac σ X A T N D s m) (hl:m.out.length≤1000000000) {Q:Value→aB→Prop}
  (hQ:∀ (σ':aB) (b:Nat) (p':Option Addr) (c':Nat),Frm σ σ' NoB→SlE σ' b p' c' 1 (m.out.map wO)→(p'≠none→σ.n≤b)→Q (.slice p' m.out.length c') σ'):WpF aG ovD 14 [bO A] σ Q:=by
 refine WpF.of (T14_eq _) rfl ?_
 rw [T14]
 simp only [wpS]
 rw [aE h.st (i:=4) rfl]
 simp only [wpS]
 rw [aD]
 refine zX h.outRow (h.out.emp fun _ h=>h) hl fun σ' b p' c' h1 h2 h3=>?_
 simp only [wpS]
 exact ⟨_,rfl,hQ σ' b p' c' h1 h2 h3⟩
theorem uU (h:Mac σ X A T N D s m):EvF aG ovD 16 [bO A] σ (.int .i64 m.over) σ:=by
 refine EvF.of (T16_eq _) rfl ?_
 rw [T16]
 simp only [wpS]
 rw [aE h.st (i:=9) rfl]
 simp only [wpS]
 exact ⟨trivial,trivial⟩
theorem zt (h:Mac σ X A T N D s m):EvF aG ovD 20 [bO A] σ (.int .i64 ((m.read:Nat):Int)) σ:=by
 refine EvF.of (T20_eq _) rfl ?_
 rw [T20]
 simp only [wpS]
 rw [aE h.st (i:=3) rfl]
 simp only [wpS]
 exact ⟨trivial,trivial⟩
theorem nJ (h:Mac σ X A T N D s m):EvF aG ovD 22 [bO A] σ (.int .i64 ((m.steps:Nat):Int)) σ:=by
 refine EvF.of (T22_eq _) rfl ?_
 rw [T22]
 simp only [wpS]
 rw [aE h.st (i:=7) rfl]
 simp only [wpS]
 exact ⟨trivial,trivial⟩
theorem zU (h:Mac σ X A T N D s m) (hl:m.cells.length≤1000000000) {Q:Value→aB→Prop} (hQ:∀ (σ':aB) (p':Option Addr) (c':Nat),Frm σ σ' NoB→Q (.slice p' m.cells.length c') σ'):WpF aG ovD 23 [bO A] σ Q:=by
 refine WpF.of (T23_eq _) rfl ?_
 rw [T23]
 simp only [wpS]
 rw [aE h.st (i:=5) rfl]
 simp only [wpS]
 rw [aD]
 have hr:aR σ NoB 7 (vlR σ NoB) s.pc m.cells:=aR.step (S:=NoB) (Frm.refl _ _) (fun _ _ h=>h) (fun _ _ h=>h) (fun _ _ h=>gH (S:=NoB) (Y':=NoB) (Frm.refl _ _) (fun _ _ h=>h.elim) (fun _ _ h=>h.elim) _ _ h) h.cellsRow
 refine zE hr (h.cells.emp fun _ h=>h) hl fun σ' p' c' css h1 _ _ _=>?_
 simp only [wpS]
 exact ⟨_,rfl,hQ σ' p' c' h1⟩
theorem ev_wrap18 (n:Int):EvF aG ovD 18 [.int .i64 n] σ (.int .i64 (w63 n)) σ:=by
 refine EvF.of (T18_eq _) rfl ?_
 rw [T18,wp_ret]
 exact ⟨rfl,rfl⟩
def inpB (l:List Int):Bool:=decide (∀ x∈l,w63 x=x)&&decide (l.length≤20)
theorem wp_inputs11 {p:Option Addr} {l:List Int} {c:Nat} (h:RdI σ .i64 p l) (hl:l.length≤9223372036854775807):EvF aG ovD 11 [.slice p l.length c] σ (.bool (inpB l)) σ:=by
 refine EvF.of (T11_eq _ _ _) rfl ?_
 rw [T11]
 refine Wp.count l.length (fun j st σ'=>σ'=σ∧∃ b,st=[.int .i64 ((j:Nat):Int),.bool b]∧∀ x∈l.take j,w63 x=x) ⟨rfl,_,rfl,by simp⟩ ?_ ?_
 ·rintro j st σ' hj ⟨rfl,b,rfl,hall⟩
  have ej:aT ((j:Int)+1)=((j+1:Nat):Int):=by rw [aV (by omega)];omega
  have hg:l.getD ((j:Nat):Int).toNat 0=l[j]:=by simp [List.getD,hj]
  unfold T11b0
  simp only [wpS]
  rw [aC,if_pos (by simp;omega),aI]
  obtain ⟨x,hx,hld⟩:=h j hj
  subst hx
  rw [vu h (by omega) (by omega),hg,bK,aD,WpF.eq (ev_wrap18 _)]
  simp only [wpS]
  rw [aQ]
  refine ⟨by simp;omega,?_⟩
  have hld':ld1 (aadd x (Int.toNat ((j:Nat):Int)*1)) σ'=some (.int .i64 l[j],σ'):=by
   rw [Int.toNat_natCast,hld]
   simp [List.getD,hj]
  rw [aZ,hld']
  simp only
  rw [aQ]
  refine ⟨past_ok hld',?_⟩
  simp only [wpS]
  rw [aC]
  by_cases hw:w63 l[j]=l[j]
  ·rw [if_neg (by simp [hw])]
   simp only [wpS,T11k0,ej]
   refine ⟨trivial,b,rfl,fun y hy=>?_⟩
   rw [List.take_succ_eq_append_getElem hj] at hy
   rcases List.mem_append.1 hy with hy|hy
   ·exact hall y hy
   ·rw [List.mem_singleton.1 hy];exact hw
  ·rw [if_pos (by simpa using hw)]
   simp only [wpS,T11k0,T11k1]
   refine ⟨?_,trivial⟩
   unfold inpB
   rw [decide_eq_false fun h=>hw (h _ (List.getElem_mem hj))]
   try rfl
 ·rintro st σ' ⟨rfl,b,rfl,hall⟩
  unfold T11b0
  simp only [wpS]
  rw [aC,if_neg (by simp)]
  simp only [wpS,T11k1]
  refine ⟨?_,trivial⟩
  unfold inpB
  rw [List.take_length] at hall
  rw [decide_eq_true hall]
  simp
  omega
theorem ev_outs15 {p p':Option Addr} {l l':List Int} {c c':Nat} (h:RdI σ .i64 p l) (h':RdI σ .i64 p' l') (hl:l.length≤4611686018427387904):EvF aG ovD 15 [.slice p l.length c,.slice p' l'.length c'] σ (.bool (decide (l=l'))) σ:=by
 refine EvF.of (T15_eq _ _ _ _ _ _) rfl ?_
 rw [T15,aC]
 by_cases hll:l.length=l'.length
 case neg=>
  rw [if_pos (by simp;omega),decide_eq_false fun h=>hll (by rw [h])]
  simp only [wpS]
  exact ⟨trivial,trivial⟩
 rw [if_neg (by simp [hll])]
 refine Wp.count l.length (fun j st σ'=>σ'=σ∧∃ b,st=[.int .i64 ((j:Nat):Int),.bool b]∧l.take j=l'.take j) ⟨rfl,_,rfl,by simp⟩ ?_ ?_
 ·rintro j st σ' hj ⟨rfl,b,rfl,hall⟩
  have ej:aT ((j:Int)+1)=((j+1:Nat):Int):=by rw [aV (by omega)];omega
  have hj':j<l'.length:=by omega
  have hg:l.getD ((j:Nat):Int).toNat 0=l[j]:=by simp [List.getD,hj]
  have hg':l'.getD ((j:Nat):Int).toNat 0=l'[j]:=by simp [List.getD,hj']
  unfold T15b0
  simp only [wpS]
  rw [aC,if_pos (by simp;omega),aI,vu h (by omega) (by omega),hg,vu h' (by omega) (by omega),hg',aC]
  by_cases hw:l[j]=l'[j]
  ·rw [if_neg (by simp [hw])]
   simp only [wpS,T15k0,ej]
   refine ⟨trivial,b,rfl,?_⟩
   rw [List.take_succ_eq_append_getElem hj,List.take_succ_eq_append_getElem hj',hall,hw]
  ·rw [if_pos (by simpa using hw)]
   simp only [wpS,T15k0,T15k1]
   refine ⟨?_,trivial⟩
   rw [decide_eq_false fun h=>hw (by simp [h])]
 ·rintro st σ' ⟨rfl,b,rfl,hall⟩
  unfold T15b0
  simp only [wpS]
  rw [aC,if_neg (by simp)]
  simp only [wpS,T15k1]
  refine ⟨?_,trivial⟩
  rw [List.take_length,List.take_of_length_le (by omega)] at hall
  rw [decide_eq_true hall]
end
end Go.Pg
namespace Go.Pg
open Go.Proofs Go.Utf8 Go.Lib
set_option linter.unusedSimpArgs false
section
variable {σ σ':aB} {X Y Z:Nat→Prop} {A:Nat} {T:TrA} {N:List NV} {D:List Dc} {s:Slt} {m:MS} {P:Program} {ov:Ov}
theorem ev_new30 (n:Int):EvF aG ovD 30 [.int .i64 n] σ (.bool (w63 n !=n)) σ:=by
 refine EvF.of (T30_eq _) rfl ?_
 rw [T30,aD,WpF.eq (zj n)]
 simp only [wpS]
 exact ⟨trivial,trivial⟩
theorem ev_index52 {p:Option Addr} {l:List Int} {c:Nat} (h:RdI σ .i64 p l) (hl:l.length≤1000000000) (hw:∀ x∈l,w63 x=x):EvF aG ovD 52 [.slice p l.length c,.func (.func 30) #[] #[]] σ (.int .i64 (-1)) σ:=by
 refine EvF.of (T52_eq _ _ _ _) rfl ?_
 rw [T52]
 refine Wp.count l.length (fun j st σ'=>σ'=σ∧∃ z:Int,st=[.int .i64 ((j:Nat):Int),.int .i64 z]) ⟨rfl,_,rfl⟩ ?_ ?_
 ·rintro j st σ' hj ⟨rfl,z,rfl⟩
  have ej:aT ((j:Int)+1)=((j+1:Nat):Int):=by rw [aV (by omega)];omega
  have hg:l.getD ((j:Nat):Int).toNat 0=l[j]:=by simp [List.getD,hj]
  unfold T52b0
  simp only [wpS]
  rw [aC,if_pos (by simp;omega),aI,vu h (by omega) (by omega),hg]
  unfold nD
  simp only [List.nil_append,List.append_nil]
  rw [aD,WpF.eq (ev_new30 _)]
  simp only [wpS]
  rw [aC,if_neg (by simp [hw _ (List.getElem_mem hj)])]
  simp only [wpS,T52k0,ej]
  exact ⟨trivial,z,rfl⟩
 ·rintro st σ' ⟨rfl,z,rfl⟩
  unfold T52b0
  simp only [wpS]
  rw [aC,if_neg (by simp)]
  simp only [wpS,T52k1]
  exact ⟨trivial,trivial⟩
theorem yb {p:Option Addr} {l:List Int} {c:Nat} (h:RdI σ .i64 p l) (hl:l.length≤1000000000) (hw:∀ x∈l,w63 x=x):EvF aG ovD 33 [.slice p l.length c,.func (.func 30) #[] #[]] σ (.bool false) σ:=by
 refine EvF.of (T33_eq _ _ _ _) rfl ?_
 rw [T33,aD,WpF.eq (ev_index52 h hl hw)]
 simp only [wpS]
 exact ⟨rfl,trivial⟩
theorem wp_New12 {pn pd:Option Addr} {cn cd:Nat} (g:dB N D) (hT:lE σ Y pn N pd D) {p:Option Addr} {l:List Int} {c:Nat} (hin:aR σ Z 1 uW p l) (he:Emp σ Z p) (hw:∀ x∈l,w63 x=x) (hl:l.length≤200) {Q:Value→aB→Prop}
  (hQ:∀ (σ':aB) (A:Nat) (s:Slt),Frm σ σ' NoB→σ.n≤A→(∀ X:Nat→Prop,(∀ j,X j→j<σ.n∧Y j)→Mac σ' X A ⟨pn,cn,pd,cd⟩ N D s (mE l))→(∀ j,Ft A s j→j=A)→Q (.tuple #[bO A,.int .i64 0]) σ'):WpF aG ovD 12 [trV pn N.length cn pd D.length cd,.slice p l.length c] σ Q:=by
 refine WpF.of (T12_eq _ _ _ _ _ _ _ _ _) rfl ?_
 rw [T12]
 refine aP fun σ1 hF1 hn1 hS1=>?_
 generalize hB:σ.n=B at hS1 hn1
 rw [aI,aS hS1 2 rfl]
 simp only [wpS]
 rw [aD]
 refine WpF.mono (wp_Good21 g (hT.frm hF1)) ?_
 rintro _ σ2 ⟨rfl,hF2⟩
 have hF02:=hF1.seq hF2
 have hin2:aR σ2 Z 1 uW p l:=aR.step (S:=NoB) hF02 (fun _ _ h=>h.elim) (fun _ _ h=>h) (fun _ _ h=>h) hin
 have he2:Emp σ2 Z p:=he.step (S:=NoB) hF02 (fun _ _ h=>h.elim) fun _ _ h=>h
 simp only [wpS]
 rw [aC,if_pos (by rfl),aC,if_pos (by simp;omega),aD,WpF.eq (yb hin2.rdI9 (by omega) hw)]
 simp only [wpS,T12k0]
 rw [aC,if_neg (by simp),aS (hF2.stN hS1) 2 rfl]
 simp only [wpS]
 rw [aD]
 refine zX hin2 he2 (by omega) fun σ3 b p' c' hF3 hE3 hb3=>?_
 simp only [wpS]
 rw [bK,aQ]
 refine ⟨jM ((hF3.stN (hF2.stN hS1)).ldAll 2 rfl) rfl,?_⟩
 refine aP fun σ4 hF4 hn4 hS4=>?_
 simp only [wpS]
 have hF03:=hF02.seq hF3
 have hF04:=hF03.seq hF4
 refine ⟨_,rfl,hQ σ4 σ3.n ⟨p',c',none,0,0,none,0,0,[],none,0,0,[],none,0,none,none,none,none⟩ hF04 hF03.n (fun X hX=>?_) (fun j hj=>?_)⟩
 ·have hfx:∀ j,FX X σ3.n ⟨p',c',none,0,0,none,0,0,[],none,0,0,[],none,0,none,none,none,none⟩ j→X j∨j=σ3.n:=by
   rintro j (h|h|⟨h,_⟩|⟨h,_⟩|⟨h,_⟩)
   ·exact .inl h
   ·exact .inr h
   ·exact absurd rfl h
   ·exact absurd rfl h
   ·exact absurd rfl h
  have hn3:=hF03.n
  refine ⟨hS4,?_,?_,.inl ⟨rfl,rfl,rfl⟩,.inl ⟨rfl,rfl,rfl⟩,rfl,(fun i h=>by cases h),.inl ⟨rfl,rfl,rfl⟩,rfl,VlP.plain rfl rfl,sD.2 rfl,rfl,rfl,fun j hj=>Nat.lt_of_lt_of_le (hX j hj).1 hF04.n,fun h=>by have:=(hX _ h).1;omega,(fun h=>absurd rfl h),(fun h=>absurd rfl h),fun h=>absurd rfl h⟩
  ·refine hT.step (S:=NoB) hF04 (fun _ _ h=>h.elim) fun j hj h=>?_
   rcases hfx j h with h|h
   ·exact (hX j h).2
   ·omega
  ·refine aR.step (S:=NoB) (Y:=FX X σ3.n ⟨p',c',none,0,0,none,0,0,[],none,0,0,[],none,0,none,none,none,none⟩) hF4 (fun _ _ h=>h.elim) (fun _ _ h=>h) (fun _ _ h=>h) (hE3.row9 fun hp h=>?_)
   have h1:=hb3 hp
   have h2:=hE3.lt hp
   have h3:=hF02.n
   rcases hfx _ h with h|h
   ·have:=(hX _ h).1
    omega
   ·omega
 ·rcases hj with h|⟨h,_⟩|⟨h,_⟩|⟨h,_⟩
  ·exact h
  ·exact absurd rfl h
  ·exact absurd rfl h
  ·exact absurd rfl h
theorem Mac.frmW (h:Mac σ X A T N D s m) (f:Frm σ σ' NoB):Mac σ' (fun j=>X j∨(σ.n≤j∧j<σ'.n)) A T N D s m:=by
 have hY:∀ j,j<σ.n→NoB j→FX X A s j:=fun _ _ h=>h.elim
 have hI:∀ j,j<σ.n→FX (fun j=>X j∨(σ.n≤j∧j<σ'.n)) A s j→FX X A s j:=fun j hj h=>by
  rcases h with (h|h)|h
  ·exact .inl h
  ·omega
  ·exact .inr h
 have hn:∀ b,b<σ.n→¬ X b→¬ (X b∨(σ.n≤b∧b<σ'.n)):=fun b hb hx h=>by
  rcases h with h|h
  ·exact hx h
  ·omega
 exact ⟨f.stN h.st,h.tree.step f hY hI,h.inp.step f hY hI fun _ _ h=>h,h.out.frm f fun _ h=>h,h.cells.frm f fun _ h=>h,h.clen,fun i h1 h2=>gH f hY hI _ _ (h.cel i h1 h2),h.wr.frm f fun _ h=>h,h.wl,h.v.step f hY hI,EnR_step f hY hI _ _ h.env,kW f hY hI h.k,gQ f hY hI h.calls,
  fun j hj=>hj.elim (fun h2=>Nat.lt_of_lt_of_le (h.xn j h2) f.n) fun h=>h.2,hn _ h.st.1 h.xA,fun hp=>⟨hn _ (h.out.lt hp) (h.xo hp).1,(h.xo hp).2⟩,fun hp=>⟨hn _ (h.cells.lt hp) (h.xc hp).1,(h.xc hp).2⟩,fun hp=>⟨hn _ (h.wr.lt hp) (h.xw hp).1,(h.xw hp).2⟩⟩
theorem sU (l:List Int):bndM (mE l):=⟨Nat.le_refl _,Nat.le_refl _,Nat.le_refl _,Nat.le_refl _,Nat.le_refl _,(fun _ h=>by cases h),Nat.zero_le _⟩
end
end Go.Pg
namespace Go.Pg
open Go.Proofs Go.Utf8 Go.Lib
set_option linter.unusedSimpArgs false
theorem slV_strs2 {σ:aB} {Y:Nat→Prop} {b c:Nat} {p:Option Addr} {l:List (List UInt8)} (h:SlV σ b p c (l.map cT)) (hb:p≠none→¬ Y b):aR σ Y 1 (qM σ Y) p l:=by
 rcases h with ⟨rfl,_,h0⟩|⟨off,s,rfl,hR⟩
 ·have:l=[]:=by simpa using h0
  rw [this]
  exact aR.nil
 ·exact aR.own (css:=l.map fun t=>[cT t]) (by
   have e:(l.map fun t=>[cT t]).flatten=l.map cT:=by
    clear hR
    induction l with
    |nil=>rfl
    |cons t r ih=>rw [List.map_cons,List.flatten_cons,List.map_cons,←ih];try rfl
   rw [e];exact hR) (hb (by simp)) (by simp) (by intro cs hcs;obtain ⟨t,_,rfl⟩:=List.mem_map.1 hcs;rfl) (fun i h1 h2=>by simp [qM])
section
variable {σ:aB} {N:List NV} {D:List Dc} {pn pd:Option Addr} {cn cd U V W:Nat} {Y:Nat→Prop}
theorem qe {j:Nat} (hj:j<D.length) (hU:U≠W) (hSU:St σ U [.slice pn N.length cn,.slice pd D.length cd]) {nm:List UInt8} (hSW:St σ W [.string (mkB nm),.slice none 0 0]) (hYW:Y W) (hT:aR σ Y 2 (dcR σ Y) pd D) (hC:D[j].cons.length≤1000000) (hA:∀ c∈D[j].cons,c.args.length≤1000000) {K:Ex→List Value→Pg} {Q:cH}
  (k:∀ σ' p c rb css,Frm σ σ' (· =W)→St σ' W [.string (mkB nm),.slice p D[j].cons.length c]→GR cnR 2 σ' (fun j=>j<σ.n) rb D[j].cons css p c→Wp aG ovD (K (.exit 4) [.int .i64 ((D[j].cons.length:Nat):Int)]) σ' Q):
  Wp aG ovD (.loop [.int .i64 0] (T10b1 ⟨U,0,some 0⟩ ((j:Nat):Int) ⟨W,0,some 0⟩) K) σ Q:=by
 have hUn:=hSU.1
 have hWn:=hSW.1
 have hT':∀ {τ:aB},Frm σ τ (· =W)→aR τ Y 2 (dcR τ Y) pd D:=fun f=>aR.step f (fun j _ h=>by rw [h];exact hYW) (fun _ _ h=>h) (fun _ _ h=>cP _ _ _ _ _ _ _ f (fun j _ h=>by rw [h];exact hYW) (fun _ _ h=>h) h) hT
 refine Wp.count D[j].cons.length (fun i st σ'=>∃ p c rb css,st=[.int .i64 ((i:Nat):Int)]∧Frm σ σ' (· =W)∧St σ' W [.string (mkB nm),.slice p i c]∧GR cnR 2 σ' (fun j=>j<σ.n) rb (D[j].cons.take i) css p c)
  ⟨none,0,0,[],rfl,Frm.refl _ _,hSW,.zero⟩ ?_ ?_
 ·rintro i st σ1 hi ⟨p,c,rb,css,rfl,hF1,hS1,hG1⟩
  have ei:aT ((i:Int)+1)=((i+1:Nat):Int):=by rw [aV (by omega)];omega
  have hU1:=hF1.st hSU hU
  obtain ⟨x,cs,hx,hcs,hkp⟩:=Kp.ofRow (hT' hF1) hj
  obtain ⟨q,kq,rfl,hrow⟩:=hcs
  have hk1:=hkp 1 _ (by decide) rfl
  obtain ⟨x2,cs2,hx2,hcs2,hkp2⟩:=Kp.ofRow hrow hi
  generalize hv:D[j].cons[i]=v at hcs2
  have hvA:v.args.length≤1000000:=hA v (by rw [←hv];exact List.getElem_mem hi)
  obtain ⟨q2,kq2,rfl,hrow2,hemp2⟩:=hcs2
  have hk2:=hkp2 0 _ (by decide) rfl
  have hk3:=hkp2 1 _ (by decide) rfl
  have hn1:=hF1.n
  have hkU:Kp σ1 (aadd ⟨U,0,some 0⟩ 1) (.slice pd D.length cd):=Kp.st hU1 rfl
  have hkW:Kp σ1 (aadd ⟨W,0,some 0⟩ 1) (.slice p i c):=Kp.st hS1 rfl
  rw [hx] at hkU
  rw [hx2] at hk1
  have gj:(decide (0≤((j:Nat):Int))&&decide (((j:Nat):Int)<((D.length:Nat):Int)))=true:=by simp;omega
  have gi:(decide (0≤((i:Nat):Int))&&decide (((i:Nat):Int)<((D[j].cons.length:Nat):Int)))=true:=by simp;omega
  unfold T10b1
  simp only [wpS]
  rw [nV hkU]
  simp only [wpS]
  rw [aQ]
  refine ⟨gj,?_⟩
  rw [Int.toNat_natCast,nV hk1]
  simp only [wpS]
  rw [aC,if_pos (by simp;omega),aI,nV hkW]
  simp only [wpS]
  rw [nV hkU]
  simp only [wpS]
  rw [aQ]
  refine ⟨gj,?_⟩
  rw [nV hk1]
  simp only [wpS]
  rw [aQ]
  refine ⟨gi,?_⟩
  rw [Int.toNat_natCast,nV hk2]
  simp only [wpS]
  rw [bK,aZ,cR]
  simp only [wpS]
  have hF4:Frm σ1 (σ1.newBlk [] 1) NoB:=Frm.new _ _ _ _
  have hR4:Row (σ1.newBlk [] 1) σ1.n 0 1 0 1 []:=Row.new σ1 1 [] 0 (by decide) rfl (by simp)
  generalize σ1.newBlk [] 1=σ4 at hF4 hR4 ⊢
  have hn4:=hF4.n
  have ckA:∀ {τ:aB},Frm σ1 τ NoB→chks [((ld1 (aadd (aadd x2 (i*2)) 0)),.string (mkB v.nm)),((ld1 (aadd (aadd x (j*2)) 1)),.slice (some x2) D[j].cons.length kq),((ld1 (aadd ⟨U,0,some 0⟩ 1)),.slice (some x) D.length cd),((ld1 (aadd ⟨W,0,some 0⟩ 1)),.slice p i c)] τ=true:=fun f=>
   bR (hk2.frm f) (bR (hk1.frm f) (bR (hkU.frm f) (bR (hkW.frm f) rfl)))
  rw [bK,aQ]
  refine ⟨ckA hF4,?_⟩
  have pst:∀ {a:Addr} {w:Value},Kp σ1 a w→past (ld1 a) w [σ1]=true:=fun h=>xK fun τ hτ=>by rw [List.mem_singleton.1 hτ];exact h
  rw [nV (hkU.frm hF4),aQ]
  refine ⟨pst hkU,?_⟩
  simp only [wpS]
  rw [aQ]
  refine ⟨gj,?_⟩
  rw [nV (hk1.frm hF4),aQ]
  refine ⟨pst hk1,?_⟩
  simp only [wpS]
  rw [aQ]
  refine ⟨gi,?_⟩
  rw [nV (hk3.frm hF4),aQ]
  refine ⟨pst hk3,?_⟩
  simp only [wpS]
  have hrow4:aR σ4 Y 1 (qM σ1 Y) q2 v.args:=hrow2.later hF4
  have hemp4:Emp σ4 Y q2:=hemp2.step (Y':=Y) hF4 (fun _ _ h=>h.elim) fun _ _ h=>h
  refine wU (b:=σ1.n) (xs:=[]) (ys:=v.args.map cT) (.inr ⟨0,1,rfl,hR4⟩) rfl (hrow4.src (fun _ _ h=>h) hemp4) (by simp) (by intro y hy;obtain ⟨j,_,rfl⟩:=List.mem_map.1 hy;rfl) (by omega) (by omega) fun σ5 kb kp kc hF5 hkb hK5=>?_
  have hF15:Frm σ1 σ5 NoB:=hF4.fresh hF5 fun j hj h=>by omega
  rw [bK,aQ]
  refine ⟨ckA hF15,?_⟩
  rw [Nat.zero_add]
  have hG5:=hG1.frmN eA hF15
  have hn5:=hF5.n
  have hkbn:kp≠none→σ1.n≤kb:=fun h=>by
   rcases hkb with h2|⟨_,h2⟩|h2
   ·exact absurd h2 h
   ·omega
   ·omega
  have hil:(D[j].cons.take i).length=i:=by rw [List.length_take];omega
  refine pV (len:=i) hG5.row (by rw [fB hG5.cl,hG5.len,hil]) (by decide) (by decide) rfl (by intro y hy;simp at hy;rcases hy with rfl|rfl<;>rfl) (by omega) (by omega) (fun τ f=>bR ((hkW.frm hF15).frm f) rfl) fun σ6 rb6 off6 s6 c6 hF6 hrb6 hR6=>?_
  have hkY:kp≠none→¬ (kb<σ.n∨p≠none∧kb=rb):=fun h h2=>by
   have h3:=hkbn h
   rcases h2 with h2|⟨h2,h4⟩
   ·omega
   ·have:=hG1.lt h2
    omega
  have hG6:=hG5.more eA (fun j h=>by omega) (b:=v) rfl ⟨kp,kc,rfl,slV_strs2 (by simpa using hK5) hkY,hK5.emp hkY⟩ hF6 hrb6 hR6
  have hWr:¬ (p≠none∧W=rb):=fun h=>hG1.hr h.1 (by show rb<σ.n;omega)
  refine bB (hF6.st (hF15.stN hS1) hWr) (by simp) rfl fun σ7 hF7 hn7 hS7=>?_
  simp only [List.set_cons_succ,List.set_cons_zero] at hS7
  simp only [wpS,T10k1,ei]
  have hF16:Frm σ σ6 (· =W):=(hF1.seq hF15.no).trans hF6 (fun _ _ h=>h) fun j hj h=>absurd hj (hG1.hr h.1 |> fun h2=>by rw [h.2];exact h2)
  rw [List.take_succ_eq_append_getElem hi,hv]
  exact ⟨_,_,rb6,_,trivial,hF16.seq hF7,hS7,hG6.frm eA hF7 fun j _ h=>by rw [h];exact hWn⟩
 ·rintro st σ1 ⟨p,c,rb,css,rfl,hF1,hS1,hG1⟩
  unfold T10b1
  simp only [wpS]
  rw [aE (hF1.st hSU hU) (v:=.slice pd D.length cd) rfl]
  simp only [wpS]
  refine dG (hT' hF1) hj rfl (o:=1) (by decide) fun cs hcs=>?_
  obtain ⟨q,kq,rfl,_⟩:=hcs
  refine ⟨_,rfl,?_⟩
  simp only [wpS]
  rw [aC,if_neg (by simp)]
  simp only [wpS]
  rw [List.take_length] at hG1
  exact k σ1 p c rb css hF1 hS1 hG1
theorem yh (hU:U≠V) (hSU:St σ U [.slice pn N.length cn,.slice pd D.length cd]) {v0:Value} (hSV:St σ V [v0,.slice none 0 0]) (hT:aR σ (· =V) 2 (dcR σ (· =V)) pd D) (hD:D.length≤1000000) (hC:∀ d∈D,d.cons.length≤1000000) (hA:∀ d∈D,∀ c∈d.cons,c.args.length≤1000000) {K:Ex→List Value→Pg} {Q:cH}
  (k:∀ σ' p c rb css,Frm σ σ' (· =V)→St σ' V [v0,.slice p D.length c]→GR dcR 2 σ' (fun j=>j<σ.n) rb D css p c→Wp aG ovD (K (.exit 2) [.int .i64 ((D.length:Nat):Int)]) σ' Q):
  Wp aG ovD (.loop [.int .i64 0] (T10b2 ⟨U,0,some 0⟩ ⟨V,0,some 0⟩) K) σ Q:=by
 have hUn:=hSU.1
 have hVn:=hSV.1
 have hT':∀ {τ:aB},Frm σ τ (· =V)→aR τ (· =V) 2 (dcR τ (· =V)) pd D:=fun f=>aR.step f (fun _ _ h=>h) (fun _ _ h=>h) (fun _ _ h=>cP _ _ _ _ _ _ _ f (fun _ _ h=>h) (fun _ _ h=>h) h) hT
 refine Wp.count D.length (fun i st σ'=>∃ p c rb css,st=[.int .i64 ((i:Nat):Int)]∧Frm σ σ' (· =V)∧St σ' V [v0,.slice p i c]∧GR dcR 2 σ' (fun j=>j<σ.n) rb (D.take i) css p c)
  ⟨none,0,0,[],rfl,Frm.refl _ _,hSV,.zero⟩ ?_ ?_
 ·rintro i st σ1 hi ⟨p,c,rb,css,rfl,hF1,hS1,hG1⟩
  have ei:aT ((i:Int)+1)=((i+1:Nat):Int):=by rw [aV (by omega)];omega
  have hU1:=hF1.st hSU hU
  have hn1:=hF1.n
  have hT1:=hT' hF1
  unfold T10b2
  simp only [wpS]
  rw [aE hU1 (v:=.slice pd D.length cd) rfl]
  simp only [wpS]
  rw [aC,if_pos (by simp;omega),aI,aE hU1 (v:=.slice pd D.length cd) rfl]
  simp only [wpS]
  refine dG hT1 hi rfl (o:=0) (by decide) fun cs hcs=>?_
  obtain ⟨q,kq,rfl,_⟩:=hcs
  refine ⟨_,rfl,?_⟩
  simp only [wpS]
  refine aP fun σ2 hF2 hn2 hS2=>?_
  generalize hW:σ1.n=W at hS2
  refine bC hS2 rfl rfl fun σ3 hF3 hn3 hS3=>?_
  have hF13:Frm σ1 σ3 NoB:=hF2.fresh hF3 fun j hj h=>by omega
  have hU3:=hF13.stN hU1
  have hT3:aR σ3 (fun j=>j=V∨j=W) 2 (dcR σ3 (fun j=>j=V∨j=W)) pd D:=by
   have hy:∀ j,j<σ1.n→(j=V∨j=W)→j=V:=fun j h1 h2=>by omega
   exact aR.step hF13 (fun _ _ h=>h.elim) hy (fun _ _ h=>cP _ _ _ _ _ _ _ hF13 (fun _ _ h=>h.elim) hy h) hT1
  have hVW:V≠W:=by omega
  refine qe hi (by omega) hU3 hS3 (.inr rfl) hT3 (hC _ (List.getElem_mem hi)) (hA _ (List.getElem_mem hi)) fun σ4 p4 c4 rb4 css4 hF4 hS4 hG4=>?_
  simp only [wpS,T10k2]
  have hV3:=hF13.stN hS1
  have hV4:=hF4.st hV3 hVW
  rw [aE hV4 (v:=.slice p i c) rfl]
  simp only [wpS]
  rw [aS hS4 2 rfl]
  simp only [wpS]
  have hF14:Frm σ1 σ4 NoB:=hF13.fresh hF4 fun j hj h=>by omega
  have hG14:=hG1.frmN cP hF14
  have hn13:=hF13.n
  have hb:dcR σ4 (fun j=>j<σ.n∨p≠none∧j=rb) [.string (mkB D[i].nm),.slice p4 D[i].cons.length c4] D[i]:=by
   refine cP σ4 σ4 NoB (fun j=>j<σ3.n) _ _ _ (Frm.refl _ _) (fun _ _ h=>h.elim) ?_ ⟨p4,c4,rfl,hG4.close eA (by decide)⟩
   rintro j _ (h|⟨h1,h2⟩)
   ·omega
   ·have:=hG1.lt h1;omega
  have hil:(D.take i).length=i:=by rw [List.length_take];omega
  have hadd:=vz (P:=aG) (ov:=ovD) (byt:=40) (Q:=fun e vs σ'=>Wp aG ovD (T10k3 ((i:Nat):Int) e vs) σ' fun e st' σ'=>match e with
    | .normal=>∃ p c rb css,st'=[.int .i64 ((i+1:Nat):Int)]∧Frm σ σ' (· =V)∧St σ' V [v0,.slice p (i+1) c]∧GR dcR 2 σ' (fun j=>j<σ.n) rb (D.take (i+1)) css p c
    |e=>Wp aG ovD (K e st') σ' Q) cP (fun j h=>by have:=hF4.n;omega) hG14 (by decide) (by decide) rfl (by intro y hy;simp at hy;rcases hy with rfl|rfl<;>rfl) hb (by omega) (by decide)
    (g:=fun p' n' c'=>.act (stC (aadd ⟨V,0,some 0⟩ 1) [.slice p' n' c']) fun v=>cA v fun l=>aA l (.ret .normal [])) fun σ5 rb5 p5 c5 hF5 hrb5 hG5=>by
   have hVr:¬ (p≠none∧V=rb):=fun h=>hG1.hr h.1 (by show rb<σ.n;omega)
   refine bB (hF5.st hV4 hVr) (by simp) rfl fun σ6 hF6 hn6 hS6=>?_
   simp only [List.set_cons_succ,List.set_cons_zero] at hS6
   simp only [wpS,T10k3,ei]
   rw [hil] at hS6
   have hF15:Frm σ σ5 (· =V):=(hF1.seq hF14.no).trans hF5 (fun _ _ h=>h) fun j hj h=>absurd hj (hG1.hr h.1 |> fun h2=>by rw [h.2];exact h2)
   rw [List.take_succ_eq_append_getElem hi]
   exact ⟨_,_,rb5,_,trivial,hF15.seq hF6,hS6,hG5.frm cP hF6 fun j _ h=>by rw [h];exact hVn⟩
  rw [hil] at hadd
  exact hadd
 ·rintro st σ1 ⟨p,c,rb,css,rfl,hF1,hS1,hG1⟩
  unfold T10b2
  simp only [wpS]
  rw [aE (hF1.st hSU hU) (v:=.slice pd D.length cd) rfl]
  simp only [wpS]
  rw [aC,if_neg (by simp)]
  simp only [wpS]
  rw [List.take_length] at hG1
  exact k σ1 p c rb css hF1 hS1 hG1
end
end Go.Pg
namespace Go.Pg
open Go.Proofs Go.Utf8 Go.Lib
set_option linter.unusedSimpArgs false
section
variable {σ:aB}
theorem wp_made12 (S:List UInt8) {Q:Value→aB→Prop}
  (hno:1500<S.length∨xt S=none→∀ pn cn pd cd σ',Frm σ σ' NoB→Q (.tuple #[trV pn 0 cn pd 0 cd,.bool false]) σ')
  (hyes:∀ N D,S.length≤1500→xt S=some (N,D)→∀ pn cn pd cd σ',Frm σ σ' NoB→dI σ' (fun j=>j<σ.n) pn N pd D→(∀ v∈N,v.kids.length≤1000000)→D.length≤1000000→(∀ d∈D,d.cons.length≤1000000)→(∀ d∈D,∀ c∈d.cons,c.args.length≤1000000)→(cO D).length≤100000000→Q (.tuple #[trV pn N.length cn pd D.length cd,.bool true]) σ'):
  WpF aG ovD 10 [.string (mkB S)] σ Q:=by
 refine WpF.of (T10_eq _) rfl ?_
 rw [T10]
 refine aP fun σ1 hF1 hn1 hS1=>?_
 generalize hA:σ.n=A at hS1
 rw [aC]
 have hsz:=bZ S
 by_cases h15:1500<S.length
 ·rw [if_pos (by simp;omega)]
  refine bC hS1 rfl rfl fun σ2 hF2 hn2 hS2=>?_
  rw [aS hS2 2 rfl]
  simp only [wpS]
  exact ⟨_,rfl,hno (.inl h15) _ _ _ _ σ2 (hF1.fresh hF2 fun j hj h=>by omega)⟩
 rw [if_neg (by simp;omega),aD]
 have core:∀ (N:List NV) (D:List Dc) (pn pd:Option Addr) (cn cd:Nat) (e a:Int) (σ2:aB),Frm σ1 σ2 NoB→dI σ2 (fun j=>j<σ1.n) pn N pd D→(∀ v∈N,v.kids.length≤1000000)→N.length≤1000000→D.length≤1000000→(∀ d∈D,d.cons.length≤1000000)→(∀ d∈D,∀ c∈d.cons,c.args.length≤1000000)→
   (∀ pn' cn' pd' cd' σ',Frm σ σ' NoB→dI σ' (fun j=>j<A) pn' N pd' D→Q (.tuple #[trV pn' N.length cn' pd' D.length cd',.bool (e==0)]) σ')→
   Wp aG ovD (cA (.tuple #[trV pn N.length cn pd D.length cd,.int .i64 e,.int .i64 a]) fun l8=>aM l8 fun v9 l10=>asAgg v9 fun l11=>aM l11 fun v12 l13=>aN v12 fun p14 n15 n16=>aM l13 fun v17 l18=>aN v17 fun p19 n20 n21=>aA l18 (aM l10 fun v22 l23=>asInt .i64 v22 fun i24=>aM l23 fun v25 l26=>asInt .i64 v25 fun i27=>aA l26 (.act (newC [(.slice none 0 0),(.slice none 0 0)]) fun v28=>aK v28 fun p29=>aF p29 fun a30=>.act (stC a30 [(.slice p14 n15 n16),(.slice p19 n20 n21)]) fun v31=>cA v31 fun l32=>aA l32 (.act (newC [(.slice none 0 0),(.slice none 0 0)]) fun v33=>aK v33 fun p34=>aF p34 fun a35=>.act (stC a35 [(.slice none 0 0),(.slice none 0 0)]) fun v36=>cA v36 fun l37=>aA l37 (.loop [(.int .i64 0)] (T10b0 a30 a35) (T10k5 a30 a35 ⟨A,0,some 0⟩ i24)))))) σ2 fun _ vs σ'=>∃ v,vs=[v]∧Q v σ':=by
  intro N D pn pd cn cd e a σ2 hF2 hT2 hK hN hD hC hA' hq
  simp only [wpS]
  have hS2:=hF2.stN hS1
  have hn2:=hF2.n
  refine aP fun σ3 hF3 hn3 hS3=>?_
  generalize hU:σ2.n=U at hS3
  refine bC hS3 rfl rfl fun σ4 hF4 hn4 hS4=>?_
  have hF24:Frm σ2 σ4 NoB:=hF3.fresh hF4 fun j hj h=>by omega
  refine aP fun σ5 hF5 hn5 hS5=>?_
  generalize hV:σ4.n=V at hS5
  refine bC hS5 rfl rfl fun σ6 hF6 hn6 hS6=>?_
  have hF46:Frm σ4 σ6 NoB:=hF5.fresh hF6 fun j hj h=>by omega
  have hU6:=hF46.stN hS4
  have hF26:=hF24.seq hF46
  have hT6:dI σ6 (· =V) pn N pd D:=hT2.step (S:=NoB) hF26 (fun _ _ h=>h.elim) fun j hj h=>by omega
  have hUV:U≠V:=by omega
  have hF06:Frm σ σ6 NoB:=(hF1.seq hF2).seq hF26
  have hS16:=hF26.stN hS2
  refine xm hUV hU6 hS6 hT6 hK hN fun σ7 p7 c7 rb7 css7 hF7 hS7 hG7=>?_
  simp only [wpS,T10k5]
  have hU7:=hF7.st hU6 hUV
  have hT7:aR σ7 (· =V) 2 (dcR σ7 (· =V)) pd D:=(hT6.step (Y':=(· =V)) hF7 (fun _ _ h=>h) fun _ _ h=>h).decls
  refine yh hUV hU7 hS7 hT7 hD hC hA' fun σ8 p8 c8 rb8 css8 hF8 hS8 hG8=>?_
  simp only [wpS,T10k4]
  rw [aS hS8 2 rfl]
  simp only [wpS]
  have hF68:=hF7.seq hF8
  have hF08:Frm σ σ8 NoB:=hF06.fresh hF68 fun j hj h=>by have:=hF06.n;have:=hF24.n;omega
  have hAV:A≠V:=by have:=hF24.n;omega
  refine bC (hF68.st hS16 hAV) rfl rfl fun σ9 hF9 hn9 hS9=>?_
  rw [aS hS9 2 rfl]
  simp only [wpS]
  have hF09:Frm σ σ9 NoB:=hF08.fresh hF9 fun j hj h=>by omega
  have hn6':=hF06.n
  have hn7:=hF7.n
  have hAl:A<σ6.n:=by have:=hS16.1;exact this
  have hVl:V<σ6.n:=hS6.1
  refine ⟨_,rfl,hq _ _ _ _ σ9 hF09 ⟨?_,?_⟩⟩
  ·have hG8':=hG7.frm dC hF8 fun j _ h=>by rw [h];exact hVl
   have hG9:=hG8'.frm dC hF9 fun j _ h=>by rw [h];exact hAl
   have hG9':=GR.step (S:=NoB) (Y':=fun j=>j<A) dC hG9 (Frm.refl _ _) (fun _ _ h=>h.elim) fun j _ h=>by show j<σ6.n;omega
   exact hG9'.close dC (by decide)
  ·have hG9:=hG8.frm cP hF9 fun j _ h=>by rw [h];show A<σ7.n;omega
   have hG9':=GR.step (S:=NoB) (Y':=fun j=>j<A) cP hG9 (Frm.refl _ _) (fun _ _ h=>h.elim) fun j _ h=>by show j<σ7.n;omega
   exact hG9'.close cP (by decide)
 refine wp_Parse25 S (by omega) ?_ ?_
 ·intro hd e a σ2 hF2 he
  refine core [] [] none none 0 0 e a σ2 hF2 ⟨aR.nil,aR.nil⟩ (by simp) (by simp) (by simp) (by simp) (by simp) fun pn' cn' pd' cd' σ' hF _=>?_
  have:(e==0)=false:=by simpa using he
  rw [this]
  exact hno (.inr hd) _ _ _ _ σ' hF
 ·intro N D hd pn cn pd cd σ2 hF2 hT hK hD hC hA' hcn
  have hg:=yq hd
  refine core N D pn pd cn cd 0 0 σ2 hF2 hT hK (Nat.le_trans hg.most (by decide)) hD hC hA' fun pn' cn' pd' cd' σ' hF hT'=>?_
  have h:=hyes N D (by omega) hd pn' cn' pd' cd' σ' hF (by rw [hA];exact hT') hK hD hC hA' hcn
  exact h
end
end Go.Pg
namespace Go.Pg
def Tri.bnd:Tri→Nat
 | .nil=>0
 | .node _ l r=>max 1 (max (2*l.bnd) (bif Nat.beq r.bnd 0 then 0 else 2*r.bnd+1))
theorem Tri.bnd_ok:∀ (t:Tri) (j:Nat),t.bnd≤j→t.get j=none
 | .nil,j,_=>by cases j<;>rfl
 | .node v l r,j,h=>by
  unfold Tri.bnd at h
  cases j with
  |zero=>omega
  |succ m=>
   unfold Tri.get
   simp only
   cases hm:Nat.beq (m % 2) 0 with
   |true=>
    have:m % 2=0:=Nat.eq_of_beq_eq_true hm
    exact Tri.bnd_ok l _ (by omega)
   |false=>
    have hm':m % 2≠0:=fun e=>by rw [e] at hm;cases hm
    refine Tri.bnd_ok r _ ?_
    cases hr:Nat.beq r.bnd 0 with
    |true=>
     have:=Nat.eq_of_beq_eq_true hr
     omega
    |false=>
     rw [hr] at h
     simp only [cond_false] at h
     omega
def goodR:Option (Value × aB)→Bool
 |some (.bool b,σ)=>b&&Nat.ble σ.mem.bnd σ.n
 |_=>false
def oldR (old:Addr→Option Value):Option (Value × aB)→Addr→Option Value
 |some (_,σ)=>σ.old
 |none=>old
theorem WpF.tabQ {P:Program} {ov:Ov} {tab:Tab} (ht:nB P tab) {f:FuncId} {args:List Value} {old:Addr→Option Value} (n:Nat) (h:goodR (jZ ov tab n f args (jA old))=true) (ho:oldR old (jZ ov tab n f args (jA old))=old):
  WpF P ov f args (jA old) fun v σ'=>v=.bool true∧σ'.old=old∧lR σ':=by
 cases hx:jZ ov tab n f args (jA old) with
 |none=>rw [hx] at h;cases h
 |some r=>
  obtain ⟨v,σ'⟩:=r
  rw [hx] at h ho
  refine ⟨v,σ',EvF.tab ht n hx,?_⟩
  unfold goodR at h
  split at h
  ·rename_i heq
   simp only [Option.some.injEq,Prod.mk.injEq] at heq
   obtain ⟨rfl,rfl⟩:=heq
   simp only [Bool.and_eq_true,Nat.ble_eq] at h
   exact ⟨by rw [h.1],ho,fun j hj=>Tri.bnd_ok _ _ (Nat.le_trans h.2 hj)⟩
  ·cases h
end Go.Pg
namespace Go.Pg
theorem awake8 (old:Addr→Option Value):WpF aG ovD 9 [] (jA old) fun v σ'=>v=.bool true∧σ'.old=old∧lR σ':=
 WpF.tabQ TAB_ok 1000000 (by kernel_rfl) (by kernel_rfl)
end Go.Pg
namespace Go.Pg
open Go.Proofs Go.Utf8 Go.Lib
set_option linter.unusedSimpArgs false
theorem vr_spot {B n c:Nat} {v:Value} {p:Option Addr} (h:VR yr B (.slice p n c) v):∀ q,p=some q→q.spot=none:=by
 intro q hq
 cases h with
 |sliceNil=>cases hq
 |sliceZero _ _ hl=>
  cases hq
  cases hs:q.spot with
  |none=>rfl
  |some v=>
   obtain ⟨i,hi⟩:=hl v hs
   cases hi
 |sliceOld=>
  cases hq
  assumption
 |sliceNew h=>cases h
section
variable {σ σ':aB} {X Y Z:Nat→Prop} {A:Nat} {T:TrA} {N:List NV} {D:List Dc} {s:Slt} {m:MS}
theorem row_in {old:Addr→Option Value} (ho:σ.old=old) {p:Option Addr} {l:List Int} (h:RdR old 1 (.int .i64) p l) (hs:∀ q,p=some q→q.spot=none):aR σ Y 1 uW p l:=by
 intro i hi
 obtain ⟨x,hx,h1⟩:=h i hi
 refine ⟨x,[.int .i64 l[i]],hx,.inl (hs x hx),?_,rfl⟩
 have:=(rdN_cl (σ:=σ) ho (a:=aadd x (i*1)) (vs:=[.int .i64 l[i]]) (by simp) fun j v hv=>by
  have hj:=(List.getElem?_eq_some_iff.1 hv).1
  have hj:j=0:=by simpa using hj
  subst hj
  simp at hv
  subst hv
  exact h1).2
 exact this
theorem emp_in {p:Option Addr} (hs:∀ q,p=some q→q.spot=none):Emp σ Y p:=by
 intro a ha
 have h:=hs a ha
 refine ⟨.inl h,?_⟩
 obtain ⟨b,o,s⟩:=a
 simp only at h
 subst h
 rfl
theorem emp_step {p:Option Addr} (h:Emp σ Y p) (f:Frm σ σ' NoB):Emp σ' Y p:=h.step (S:=NoB) f (fun _ _ h=>h.elim) fun _ _ h=>h
theorem vd {p:Option Addr} {l:List Int} (h:aR σ Y 1 uW p l) (f:Frm σ σ' NoB):aR σ' Y 1 uW p l:=aR.step (S:=NoB) f (fun _ _ h=>h.elim) (fun _ _ h=>h) (fun _ _ h=>h) h
theorem inpB_true {l:List Int} (h:inpB l=true):(∀ x∈l,w63 x=x)∧l.length≤20:=by
 unfold inpB at h
 simpa using h
end
end Go.Pg
namespace Go.Pg
open Go.Proofs Go.Utf8 Go.Lib
set_option linter.unusedSimpArgs false
theorem wM (s0:ByteArray) (_:s0.size≤maxLen) (p1:Option Addr) (c1:Nat) (l1:List Int) (a2:Int) (_:(Lit.int .i64 a2).wf=true) (a3:Int) (_:(Lit.int .i64 a3).wf=true) (old0:Addr→Option Value) (rd1:RdR (unO ze old0) 1 (.int .i64) p1 l1) (ok1:(Sh.row 1 (.int .i64)).ok l1) (sp1:∀ q,p1=some q→q.spot=none):
  WpF aG ovD 7 [.string s0,.slice p1 l1.length c1,.int .i64 a2,.int .i64 a3] (jA (unO ze old0)) fun v _=>v=.bool true:=by
 refine WpF.of (T7_eq _ _ _ _ _ _) rfl ?_
 rw [T7,aD]
 refine (awake8 _).mono ?_
 rintro v σ ⟨rfl,hold,hfr⟩
 have hin:aR σ NoB 1 uW p1 l1:=row_in hold rd1 sp1
 have hem:Emp σ NoB p1:=emp_in sp1
 have hlen:l1.length≤maxLen:=ok1.1
 clear rd1 ok1 hold
 rw [←mkB_self s0]
 generalize s0.data.toList=S
 simp only [wpS]
 rw [aC,if_neg (by simp),aD]
 refine wp_made12 S ?_ ?_
 ·intro _ pn cn pd cd σ1 hF1
  simp only [wpS]
  refine aP fun σ2 hF2 hn2 hS2=>?_
  refine bC hS2 rfl rfl fun σ3 hF3 hn3 hS3=>?_
  rw [aI,aC,if_neg (by simp)]
  simp only [wpS,T7k1]
  rw [aC,if_pos rfl]
  simp only [wpS]
  exact ⟨_,rfl,rfl⟩
 intro N D _ hdoc pn cn pd cd σ1 hF1 hT1 hK hD hC hA hcn
 have hg:dB N D:=yq hdoc
 have hNm:=hg.most
 have hB1:lE σ1 NoB pn N pd D:=(⟨hT1,by omega,hD,hC,hK,hA⟩:lE σ1 (fun j=>j<σ.n) pn N pd D).low
 simp only [wpS]
 refine aP fun σ2 hF2 hn2 hS2=>?_
 generalize hV:σ1.n=V at hS2
 refine bC hS2 rfl rfl fun σ3 hF3 hn3 hS3=>?_
 have hF13:Frm σ1 σ3 NoB:=hF2.fresh hF3 fun j hj h=>by omega
 have hF03:=hF1.seq hF13
 have hB3:=hB1.frm hF13
 have hfr3:=hF03.fr hfr
 have hin3:=vd hin hF03
 have hem3:=emp_step hem hF03
 rw [aI,aC,if_pos (by rfl),aE hS3 (v:=.slice pn N.length cn) rfl]
 simp only [wpS]
 rw [aC]
 by_cases h120:120<N.length
 ·rw [if_neg (by simp;omega)]
  simp only [wpS,T7k1]
  rw [aC,if_pos rfl]
  simp only [wpS]
  exact ⟨_,rfl,rfl⟩
 rw [if_pos (by simp;omega),aD,WpF.eq (wp_inputs11 hin3.rdI9 hlen)]
 simp only [wpS,T7k1]
 rw [aC]
 by_cases hbad:(((!inpB l1||decide (a2<0))||decide (a3<a2))||decide (a3>600))=true
 ·rw [if_pos hbad]
  simp only [wpS]
  exact ⟨_,rfl,rfl⟩
 rw [if_neg hbad]
 simp only [Bool.or_eq_true,Bool.not_eq_true',decide_eq_true_eq,not_or,Bool.not_eq_false,Int.not_lt] at hbad
 obtain ⟨⟨⟨hinp,ha0⟩,ha23⟩,ha1⟩:=hbad
 obtain ⟨hw,hl20⟩:=inpB_true hinp
 rw [aS hS3 2 rfl]
 simp only [wpS]
 rw [aD]
 refine wp_New12 hg hB3 hin3 hem3 hw (by omega) fun σ4 A s4 hF4 hA4 hM4 hft4=>?_
 have h4:Mac σ4 NoB A ⟨pn,cn,pd,cd⟩ N D s4 (mE l1):=hM4 NoB fun _ h=>h.elim
 have hfr4:=hF4.fr hfr3
 simp only [wpS]
 rw [aS (hF4.stN hS3) 2 rfl]
 simp only [wpS]
 rw [aD]
 refine wp_New12 hg h4.tree (vd hin3 hF4) (emp_step hem3 hF4) hw (by omega) fun σ5 B s5 hF5 hB5 hM5 hft5=>?_
 have hAB:A≠B:=by have:=h4.st.1;omega
 have h5:Mac σ5 (fun j=>j=A) B ⟨pn,cn,pd,cd⟩ N D s5 (mE l1):=hM5 (fun j=>j=A) fun j hj=>⟨by have:=h4.st.1;omega,.inr (.inl hj)⟩
 have hfr5:=hF5.fr hfr4
 have h5w:=h4.frmW hF5
 simp only [wpS]
 rw [aC,if_neg (by simp),aD]
 refine WpF.mono (wp_Run13 hg h5w (new_ok hg l1) hfr5 (sU l1) (by show l1.length≤_;omega) (Nat.zero_le _) a2 (by omega)) ?_
 rintro v σ6 ⟨s6,rfl,h6,hM6⟩
 have hfr6:=hM6.frm.fr hfr5
 have k6:=h5.frm hM6.frm fun j _ hj=>hft4 j hj
 simp only [wpS]
 rw [aD]
 refine WpF.mono (wp_Run13 hg k6 (new_ok hg l1) hfr6 (sU l1) (by show l1.length≤_;omega) (Nat.zero_le _) a3 (by omega)) ?_
 rintro v σ7 ⟨s7,rfl,k7,hM7⟩
 have h7:=h6.frm hM7.frm fun j _ hj=>.inr (by rw [hft5 j hj];exact ⟨hB5,h5.st.1⟩)
 have hle1:=vw (N:=N) a2.toNat (mE l1)
 have hle2:=vw (N:=N) a3.toNat (mE l1)
 have hst1:=lM (N:=N) a2.toNat (mE l1)
 have hst2:=lM (N:=N) a3.toNat (mE l1)
 have hb1:=xO (N:=N) a2.toNat (sU l1)
 have hb2:=xO (N:=N) a3.toNat (sU l1)
 have e12:=sV (N:=N) a2.toNat (a3.toNat - a2.toNat) (mE l1)
 rw [show a2.toNat+(a3.toNat - a2.toNat)=a3.toNat by omega] at e12
 have hmono:=vf (N:=N) (a3.toNat - a2.toNat) (dK N a2.toNat (mE l1)).1
 have hst12:=lM (N:=N) (a3.toNat - a2.toNat) (dK N a2.toNat (mE l1)).1
 have hov:=fun h0=>iJ (N:=N) (m:=(dK N a2.toNat (mE l1)).1) h0 (a3.toNat - a2.toNat)
 rw [show (dK N (a3.toNat - a2.toNat) (dK N a2.toNat (mE l1)).1).1=(dK N a3.toNat (mE l1)).1 by rw [e12]] at hmono hst12
 have hov2:(dK N a2.toNat (mE l1)).1.over≠0→(dK N a3.toNat (mE l1)).1=(dK N a2.toNat (mE l1)).1:=fun h0=>by rw [e12,hov h0]
 clear hov e12
 have hz:(mE l1).steps=0:=rfl
 rw [hz] at hst1 hst2
 generalize (dK N a2.toNat (mE l1)).1=m1 at*
 generalize (dK N a3.toNat (mE l1)).1=m2 at*
 have ho1:=hb1.out
 have ho2:=hb2.out
 have hc1:=hb1.cells
 have hc2:=hb2.cells
 have hpre:=hmono.out
 have hlen12:=hpre.length_le
 simp only [wpS]
 rw [aD]
 refine wp_Out14 h7 (by omega) fun σ8 b8 p8 c8 hF8 hE8 hn8=>?_
 simp only [wpS]
 rw [aD]
 refine wp_Out14 (k7.frmN hF8) (by omega) fun σ9 b9 p9 c9 hF9 hE9 hn9=>?_
 have hF79:=hF8.seq hF9
 have h9:=h7.frmN hF79
 have k9:=k7.frmN hF79
 have hE89:SlE σ9 b8 p8 c8 1 (m1.out.map wO):=hE8.frm hF9 fun _ h=>h
 have hcap:m2.out.length≤c9:=hE9.len (by simp) (by decide)
 simp only [wpS]
 rw [aC,if_pos (by simp;omega),aQ]
 refine ⟨by simp;omega,?_⟩
 have el:(m2.out.take m1.out.length).length=m1.out.length:=by simp;omega
 have key:=ev_outs15 (c:=c8) (c':=c9) (l:=m1.out) (l':=m2.out.take m1.out.length) (hE89.row9 (Y:=NoB) fun _ h=>h).rdI9 (fun i hi=>by
  obtain ⟨a,h1,h2⟩:=(hE9.row9 (Y:=NoB) fun _ h=>h).rdI9 i (by omega)
  refine ⟨a,h1,?_⟩
  rw [h2]
  have:i<m1.out.length:=by omega
  simp [List.getD,this]) (by omega)
 rw [el] at key
 rw [aD,WpF.eq key,decide_eq_true (List.prefix_iff_eq_take.1 hpre)]
 simp only [wpS]
 rw [aC,if_pos (by rfl),aD,WpF.eq (zt h9)]
 simp only [wpS]
 rw [aD,WpF.eq (zt k9)]
 simp only [wpS]
 rw [aC,if_pos (by have:=hmono.read;simp;omega),aD]
 refine zU h9 (by omega) fun σ10 p10 c10 hF10=>?_
 simp only [wpS]
 rw [aD]
 refine zU (k9.frmN hF10) (by omega) fun σ11 p11 c11 hF11=>?_
 have hF911:=hF10.seq hF11
 have h11:=h9.frmN hF911
 have k11:=k9.frmN hF911
 simp only [wpS]
 rw [aC,if_pos (by have:=hmono.cells;simp;omega),aD,WpF.eq (nJ h11)]
 simp only [wpS]
 rw [aD,WpF.eq (nJ k11)]
 simp only [wpS]
 rw [aC,if_pos (by simp;omega),aD,WpF.eq (uU h11)]
 simp only [wpS]
 rw [aC]
 by_cases h0:m1.over=0
 ·rw [if_neg (by simp [h0])]
  simp only [wpS,T7k0]
  exact ⟨_,rfl,rfl⟩
 have e2:=hov2 h0
 rw [if_pos (by simp [h0]),aD,WpF.eq (uU h11)]
 simp only [wpS]
 rw [aD,WpF.eq (uU k11)]
 simp only [wpS]
 rw [aC,if_pos (by rw [e2];simp),aD,WpF.eq (nJ h11)]
 simp only [wpS]
 rw [aD,WpF.eq (nJ k11)]
 simp only [wpS,T7k0]
 exact ⟨_,rfl,by rw [e2];simp⟩
end Go.Pg
namespace Go.Proofs
open Go.Shelf
def Tryz.laysLetter_ren:Go.Shelf.Ren:=⟨fun|200=>92|261=>115|311=>128|312=>129|n=>n,fun|21=>21|4=>4|51=>182|5=>5|119=>183|0=>0|141=>185|196=>203|193=>200|3=>3|198=>206|49=>204|194=>201|201=>209|226=>218|46=>87|227=>219|n=>n,fun|7=>0|8=>1|n=>n⟩
theorem Tryz.laysLetter:Go.Proofs.Lays.n200 Tryz.prog Tryz.laysLetter_ren:={
 mixed:=by kernel_rfl
 f200:=Tryz.func92.trans (congrArg some (by kernel_rfl))
 f261:=Tryz.func115.trans (congrArg some (by kernel_rfl))
 f311:=Tryz.func128.trans (congrArg some (by kernel_rfl))
 f312:=Tryz.func129.trans (congrArg some (by kernel_rfl))
 t0:=Tryz.underlying0
 a0:=Tryz.isAgg0
 z0:=Tryz.sizeOf0
 v0:=Tryz.zeroValue0
 t3:=Tryz.underlying3
 a3:=Tryz.isAgg3
 z3:=Tryz.sizeOf3
 v3:=Tryz.zeroValue3
 t4:=Tryz.underlying4
 a4:=Tryz.isAgg4
 z4:=Tryz.sizeOf4
 v4:=Tryz.zeroValue4
 t5:=Tryz.underlying5
 a5:=Tryz.isAgg5
 z5:=Tryz.sizeOf5
 v5:=Tryz.zeroValue5
 t21:=Tryz.underlying21
 a21:=Tryz.isAgg21
 z21:=Tryz.sizeOf21
 v21:=Tryz.zeroValue21
 t46:=Tryz.underlying87
 a46:=Tryz.isAgg87
 z46:=Tryz.sizeOf87
 v46:=Tryz.zeroValue87
 t49:=Tryz.underlying204
 a49:=Tryz.isAgg204
 z49:=Tryz.sizeOf204
 v49:=Tryz.zeroValue204
 t51:=Tryz.underlying182
 a51:=Tryz.isAgg182
 z51:=Tryz.sizeOf182
 v51:=Tryz.zeroValue182
 t119:=Tryz.underlying183
 a119:=Tryz.isAgg183
 z119:=Tryz.sizeOf183
 t141:=Tryz.underlying185
 a141:=Tryz.isAgg185
 z141:=Tryz.sizeOf185
 v141:=Tryz.zeroValue185
 t193:=Tryz.underlying200
 a193:=Tryz.isAgg200
 z193:=Tryz.sizeOf200
 v193:=Tryz.zeroValue200
 t194:=Tryz.underlying201
 a194:=Tryz.isAgg201
 z194:=Tryz.sizeOf201
 v194:=Tryz.zeroValue201
 t196:=Tryz.underlying203
 a196:=Tryz.isAgg203
 z196:=Tryz.sizeOf203
 v196:=Tryz.zeroValue203
 t198:=Tryz.underlying206
 a198:=Tryz.isAgg206
 z198:=Tryz.sizeOf206
 v198:=Tryz.zeroValue206
 t201:=Tryz.underlying209
 a201:=Tryz.isAgg209
 z201:=Tryz.sizeOf209
 v201:=Tryz.zeroValue209
 t226:=Tryz.underlying218
 a226:=Tryz.isAgg218
 z226:=Tryz.sizeOf218
 v226:=Tryz.zeroValue218
 t227:=Tryz.underlying219
 a227:=Tryz.isAgg219
 z227:=Tryz.sizeOf219
 v227:=Tryz.zeroValue219
 g7:=by kernel_rfl
 g8:=by kernel_rfl }
def Tryz.laysUpper_ren:Go.Shelf.Ren:=⟨fun|201=>94|261=>115|311=>128|312=>129|n=>n,fun|21=>21|4=>4|51=>182|5=>5|119=>183|0=>0|141=>185|196=>203|193=>200|3=>3|198=>206|49=>204|194=>201|201=>209|226=>218|46=>87|227=>219|n=>n,fun|7=>0|9=>2|n=>n⟩
theorem Tryz.laysUpper:Go.Proofs.Lays.n201 Tryz.prog Tryz.laysUpper_ren:={
 mixed:=by kernel_rfl
 f201:=Tryz.func94.trans (congrArg some (by kernel_rfl))
 f261:=Tryz.func115.trans (congrArg some (by kernel_rfl))
 f311:=Tryz.func128.trans (congrArg some (by kernel_rfl))
 f312:=Tryz.func129.trans (congrArg some (by kernel_rfl))
 t0:=Tryz.underlying0
 a0:=Tryz.isAgg0
 z0:=Tryz.sizeOf0
 v0:=Tryz.zeroValue0
 t3:=Tryz.underlying3
 a3:=Tryz.isAgg3
 z3:=Tryz.sizeOf3
 v3:=Tryz.zeroValue3
 t4:=Tryz.underlying4
 a4:=Tryz.isAgg4
 z4:=Tryz.sizeOf4
 v4:=Tryz.zeroValue4
 t5:=Tryz.underlying5
 a5:=Tryz.isAgg5
 z5:=Tryz.sizeOf5
 v5:=Tryz.zeroValue5
 t21:=Tryz.underlying21
 a21:=Tryz.isAgg21
 z21:=Tryz.sizeOf21
 v21:=Tryz.zeroValue21
 t46:=Tryz.underlying87
 a46:=Tryz.isAgg87
 z46:=Tryz.sizeOf87
 v46:=Tryz.zeroValue87
 t49:=Tryz.underlying204
 a49:=Tryz.isAgg204
 z49:=Tryz.sizeOf204
 v49:=Tryz.zeroValue204
 t51:=Tryz.underlying182
 a51:=Tryz.isAgg182
 z51:=Tryz.sizeOf182
 v51:=Tryz.zeroValue182
 t119:=Tryz.underlying183
 a119:=Tryz.isAgg183
 z119:=Tryz.sizeOf183
 t141:=Tryz.underlying185
 a141:=Tryz.isAgg185
 z141:=Tryz.sizeOf185
 v141:=Tryz.zeroValue185
 t193:=Tryz.underlying200
 a193:=Tryz.isAgg200
 z193:=Tryz.sizeOf200
 v193:=Tryz.zeroValue200
 t194:=Tryz.underlying201
 a194:=Tryz.isAgg201
 z194:=Tryz.sizeOf201
 v194:=Tryz.zeroValue201
 t196:=Tryz.underlying203
 a196:=Tryz.isAgg203
 z196:=Tryz.sizeOf203
 v196:=Tryz.zeroValue203
 t198:=Tryz.underlying206
 a198:=Tryz.isAgg206
 z198:=Tryz.sizeOf206
 v198:=Tryz.zeroValue206
 t201:=Tryz.underlying209
 a201:=Tryz.isAgg209
 z201:=Tryz.sizeOf209
 v201:=Tryz.zeroValue209
 t226:=Tryz.underlying218
 a226:=Tryz.isAgg218
 z226:=Tryz.sizeOf218
 v226:=Tryz.zeroValue218
 t227:=Tryz.underlying219
 a227:=Tryz.isAgg219
 z227:=Tryz.sizeOf219
 v227:=Tryz.zeroValue219
 g7:=by kernel_rfl
 g9:=by kernel_rfl }
def Tryz.laysDecode_ren:Go.Shelf.Ren:=⟨fun|197=>131|260=>143|n=>n,fun|9=>9|21=>21|3=>3|4=>4|5=>5|105=>143|119=>183|0=>0|46=>87|139=>224|138=>223|n=>n,fun|3=>3|4=>4|n=>n⟩
theorem Tryz.laysDecode:Go.Proofs.Lays.n197 Tryz.prog Tryz.laysDecode_ren:={
 mixed:=by kernel_rfl
 f197:=Tryz.func131.trans (congrArg some (by kernel_rfl))
 f260:=Tryz.func143.trans (congrArg some (by kernel_rfl))
 t0:=Tryz.underlying0
 a0:=Tryz.isAgg0
 z0:=Tryz.sizeOf0
 v0:=Tryz.zeroValue0
 t3:=Tryz.underlying3
 a3:=Tryz.isAgg3
 z3:=Tryz.sizeOf3
 v3:=Tryz.zeroValue3
 t4:=Tryz.underlying4
 a4:=Tryz.isAgg4
 z4:=Tryz.sizeOf4
 v4:=Tryz.zeroValue4
 t5:=Tryz.underlying5
 a5:=Tryz.isAgg5
 z5:=Tryz.sizeOf5
 v5:=Tryz.zeroValue5
 t9:=Tryz.underlying9
 a9:=Tryz.isAgg9
 z9:=Tryz.sizeOf9
 v9:=Tryz.zeroValue9
 t21:=Tryz.underlying21
 a21:=Tryz.isAgg21
 z21:=Tryz.sizeOf21
 v21:=Tryz.zeroValue21
 t46:=Tryz.underlying87
 a46:=Tryz.isAgg87
 z46:=Tryz.sizeOf87
 v46:=Tryz.zeroValue87
 t105:=Tryz.underlying143
 a105:=Tryz.isAgg143
 z105:=Tryz.sizeOf143
 v105:=Tryz.zeroValue143
 t119:=Tryz.underlying183
 a119:=Tryz.isAgg183
 z119:=Tryz.sizeOf183
 t138:=Tryz.underlying223
 a138:=Tryz.isAgg223
 z138:=Tryz.sizeOf223
 v138:=Tryz.zeroValue223
 t139:=Tryz.underlying224
 a139:=Tryz.isAgg224
 z139:=Tryz.sizeOf224
 v139:=Tryz.zeroValue224
 g3:=by kernel_rfl
 g4:=by kernel_rfl }
end Go.Proofs
