/- CvD, CvE, CvF, GdD, CvG, CovC, GdE, CvH, TabF, Awk, CoverAny, CkA, CuA, CuB, CuC, CuD, CuE, CuF, CuG, CuH, CuI, CkB, Shelf -/
import Derived.Ground.NamesProg
import Derived.Shelf.Unicode.PredsPay
import Derived.Shelf.Unicode.DecodeAny
import Derived.Test.YtadmleckoibeeaaGreatDoorProg
import Derived.Test.YtadmleckoibeeaaGreatDoorP6
set_option maxHeartbeats 1000000
namespace Go.Pg
open Go.Proofs Go.Utf8 Go.Lib
set_option linter.unusedSimpArgs false
def shR (_:aC) (_:Nat→Prop) (cs:List Value) (s:Shp):Prop:=cs=[.int .i64 s.k,.int .i64 s.n,.string (mkB s.nm)]
theorem lD:rC shR:=fun _ _ _ _ _ _ _ _ _ _ h=>h
section
variable {σ:aC} {N:List NV} {D:List Dc} {pn pd:Option Addr} {cn cd A steps:Nat} {q:Option Addr} {k:Nat} {L:List (List Int)}
theorem pD {α β:Type} (f:α→Option β) {l:List α} {i:Nat} (hi:i<l.length):(l.take (i+1)).filterMap f=(l.take i).filterMap f++(f l[i]).toList:=by
 rw [List.take_succ_eq_append_getElem hi,List.filterMap_append]
 congr 1
theorem qQ (h:Ask σ A pn N cn pd D cd steps) (s:Shp) (hL:aQ σ (· =A) 1 (rwR σ (· =A)) q L) (hl:L.length≤1000000) (hw:∀ r∈L,1≤r.length∧r.length≤100000000000):
  WpF aF ovD 39 [bU A,.slice q L.length k,shV s] σ fun v σ'=>∃ q' k',v=.slice q' (bX N D s L).length k'∧aQ σ' (· =A) 1 (rwR σ' (· =A)) q' (bX N D s L)∧Frm σ σ' NoB:=by
 refine WpF.of (T39_eq _ _ _ _ _ _ _) rfl ?_
 rw [T39]
 refine aN fun σ1 hF1 hn1 hS1=>?_
 have hA:=h.st.1
 refine Wp.count L.length (fun i st σ'=>∃ p c rb css,st=[.int .i64 ((i:Nat):Int),.slice p (bX N D s (L.take i)).length c]∧Frm σ1 σ' NoB∧GR rwR 1 σ' (· =A) rb (bX N D s (L.take i)) css p c∧(p≠none→σ1.n≤rb))
  ⟨none,0,0,[],rfl,Frm.refl _ _,.zero,fun h=>absurd rfl h⟩ ?_ ?_
 ·rintro i st σ2 hi ⟨p,c,rb,css,rfl,hF2,hG2,hrb⟩
  have ei:aR ((i:Int)+1)=((i+1:Nat):Int):=by rw [aS (by omega)];omega
  have hF02:=hF1.seq hF2
  have hlen:(bX N D s (L.take i)).length≤i:=by
   have:=List.length_filterMap_le (dG N D s) (L.take i)
   rw [List.length_take] at this
   show (List.filterMap (dG N D s) (L.take i)).length≤i
   omega
  have hstep:bX N D s (L.take (i+1))=bX N D s (L.take i)++(dG N D s L[i]).toList:=pD _ hi
  unfold T39b0
  simp only [wpS]
  rw [aB,if_pos (by simp;omega),aI]
  refine bS (hL.frmM aY hF02) hi rfl fun cs hcs=>?_
  obtain ⟨hw1,hw2⟩:=hw L[i] (List.getElem_mem hi)
  generalize hr:L[i]=r at hcs hw1 hw2 hstep
  obtain ⟨qr,kr,rfl,hRI⟩:=hcs
  refine ⟨_,rfl,?_⟩
  simp only [wpS]
  rw [aM (hF2.stN hS1) 3 rfl]
  simp only [wpS]
  cases r with
  |nil=>simp at hw1
  |cons x r=>
  rw [aD]
  refine WpF.mono (nR (h.frm hF02) s hRI (by simpa using Nat.le_of_succ_le hw2)) ?_
  rintro _ σ3 ⟨q',k',rfl,hRI',hF3⟩
  simp only [wpS]
  have hF23:=hF2.seq hF3
  have hG3:=hG2.frmN aY hF3
  have hn3:=hF3.n
  rw [aB]
  cases hs:dG N D s (x::r) with
  |none=>
   rw [if_neg (by simp)]
   simp only [wpS,T39k0,T39k1,ei]
   rw [hs] at hstep
   simp only [Option.toList_none,List.append_nil] at hstep
   rw [hstep]
   exact ⟨_,_,rb,_,rfl,hF23,hG3,hrb⟩
  |some y=>
   rw [if_pos (by rfl)]
   rw [hs] at hRI' hstep
   simp only [Option.getD_some] at hRI' ⊢
   simp only [Option.toList_some] at hstep
   have hb:rwR σ3 (fun j=>j=A∨p≠none∧j=rb) [.slice q' y.length k'] y:=by
    refine ⟨q',k',rfl,hRI'.step (S:=NoB) (Frm.refl _ _) (fun _ _ h=>h.elim) ?_⟩
    rintro j _ (h1|⟨h1,h2⟩)
    ·have:=hF02.n;omega
    ·have:=hG2.lt h1;omega
   refine fI aY (fun j h=>by have:=hF02.n;omega) hG3 (by decide) (by decide) rfl (by intro y hy;simp at hy;subst hy;rfl) hb (by omega) (by decide) fun σ4 rb4 p4 c4 hF4 hrb4 hG4=>?_
   simp only [wpS,T39k0,T39k1,ei]
   rw [hstep]
   refine ⟨some p4,c4,rb4,_,by simp,hF23.fresh hF4 fun j hj h=>by have:=hrb h.1;omega,hG4,fun _=>?_⟩
   have:=hF23.n
   rcases hrb4 with ⟨h1,h2⟩|h1
   ·have:=hrb h1;omega
   ·omega
 ·rintro st σ2 ⟨p,c,rb,css,rfl,hF2,hG2,hrb⟩
  rw [List.take_length] at hG2 ⊢
  unfold T39b0
  simp only [wpS]
  rw [aB,if_neg (by simp)]
  simp only [wpS,T39k2]
  exact ⟨_,rfl,p,c,rfl,hG2.close aY (by decide),hF1.seq hF2⟩
theorem shapesC_take {i:Nat} (hi:i<L.length):cO N (L.take (i+1))=pZ (cO N (L.take i)) (lC N L[i]):=by
 unfold cO
 rw [List.take_succ_eq_append_getElem hi,List.foldl_append]
 try rfl
theorem nZ (L:List (List Int)):(cO N L).length≤L.length:=by
 have:∀ (l:List (List Int)) (a:List Shp),(l.foldl (fun l r=>pZ l (lC N r)) a).length≤a.length+l.length:=by
  intro l
  induction l with
  |nil=>intro a;exact Nat.le_refl _
  |cons r l ih=>
   intro a
   have h1:=ih (pZ a (lC N r))
   have h2:(pZ a (lC N r)).length≤a.length+1:=by unfold pZ;split<;>simp
   rw [List.foldl_cons,List.length_cons]
   omega
 have:=this L []
 rw [List.length_nil,Nat.zero_add] at this
 exact this
theorem wp_shapes40 (h:Ask σ A pn N cn pd D cd steps) (hL:aQ σ (· =A) 1 (rwR σ (· =A)) q L) (hl:L.length≤1000000) (hw:∀ r∈L,1≤r.length):
  WpF aF ovD 40 [bU A,.slice q L.length k] σ fun v σ'=>∃ q' k',v=.slice q' (cO N L).length k'∧aQ σ' (· =A) 3 (shR σ' (· =A)) q' (cO N L)∧Frm σ σ' NoB:=by
 refine WpF.of (T40_eq _ _ _ _) rfl ?_
 rw [T40]
 have hA:=h.st.1
 refine wp_mkMap fun σ1 hF1 hn1 hM1=>?_
 generalize hm:σ.n=m at hM1
 refine Wp.count L.length (fun i st σ'=>∃ p c rb css,st=[.int .i64 ((i:Nat):Int),.slice p (cO N (L.take i)).length c]∧Frm σ σ' NoB∧m<σ'.n∧σ'.get m=some (.map (esS (cO N (L.take i))))∧GR shR 3 σ' (fun j=>j=A∨j=m) rb (cO N (L.take i)) css p c∧(p≠none→σ.n≤rb))
  ⟨none,0,0,[],rfl,hF1,by omega,hM1,.zero,fun h=>absurd rfl h⟩ ?_ ?_
 ·rintro i st σ2 hi ⟨p,c,rb,css,rfl,hF2,hm2,hM2,hG2,hrb⟩
  have ei:aR ((i:Int)+1)=((i+1:Nat):Int):=by rw [aS (by omega)];omega
  have hlen:(cO N (L.take i)).length≤i:=by
   have:=nZ (N:=N) (L.take i)
   rw [List.length_take] at this
   omega
  have hstep:=shapesC_take (N:=N) hi
  generalize hl0:cO N (L.take i)=l at*
  unfold T40b0
  simp only [wpS]
  rw [aB,if_pos (by simp;omega),aI]
  refine bS (hL.frmM aY hF2) hi rfl fun cs hcs=>?_
  have hw1:=hw L[i] (List.getElem_mem hi)
  generalize hr:L[i]=r at hcs hw1 hstep
  obtain ⟨qr,kr,rfl,hRI⟩:=hcs
  refine ⟨_,rfl,?_⟩
  simp only [wpS]
  cases r with
  |nil=>simp at hw1
  |cons x r=>
  have hhead:lC N (x::r)=shp N x:=rfl
  rw [hhead] at hstep
  refine gP hRI rfl ?_
  simp only [wpS]
  rw [aD]
  refine WpF.mono (nA (h.frm hF2) x) ?_
  rintro _ σ3 ⟨rfl,hF3⟩
  generalize shp N x=s at hstep
  unfold shV
  simp only [wpS]
  have hn3:=hF3.n
  refine aN fun σ4 hF4 hn4 hS4=>?_
  generalize hZ:σ3.n=Z at hS4
  refine bA hS4 rfl rfl fun σ5 hF5 hn5 hS5=>?_
  have hF35:Frm σ3 σ5 NoB:=hF4.fresh hF5 fun j hj h=>by omega
  have hF25:=hF3.seq hF35
  have hF05:=hF2.seq hF25
  have hM5:σ5.get m=some (.map (esS l)):=by rw [hF25.get m hm2 fun h=>h];exact hM2
  have hG5:=hG2.frmN lD hF25
  have hn5':=hF25.n
  have next:∀ b:Bool,(b=true↔s.k≠0∧s∉l)→Wp aF ovD (T40k1 ⟨Z,0,some 0⟩ (some m) p l.length c .normal [.bool b]) σ5 fun e vs σ'=>Wp aF ovD (T40k2 ((i:Nat):Int) e vs) σ' fun e st' σ'=>match e with
    | .normal=>∃ p c rb css,st'=[.int .i64 ((i+1:Nat):Int),.slice p (cO N (L.take (i+1))).length c]∧Frm σ σ' NoB∧m<σ'.n∧σ'.get m=some (.map (esS (cO N (L.take (i+1)))))∧GR shR 3 σ' (fun j=>j=A∨j=m) rb (cO N (L.take (i+1))) css p c∧(p≠none→σ.n≤rb)
    |e=>Wp aF ovD (T40k3 e st') σ' fun _ vs σ'=>∃ v,vs=[v]∧∃ q' k',v=.slice q' (cO N L).length k'∧aQ σ' (· =A) 3 (shR σ' (· =A)) q' (cO N L)∧Frm σ σ' NoB:=by
   intro b hb
   simp only [wpS,T40k1]
   rw [aB]
   by_cases hc:s.k≠0∧s∉l
   ·rw [if_pos (hb.2 hc),aM hS5 3 rfl]
    simp only [wpS]
    have hadd:pZ l s=l++[s]:=by unfold pZ;rw [if_pos hc]
    rw [hadd] at hstep
    rw [bB,update127 hM5 hc.2]
    simp only [wpS]
    have hF6:Frm σ5 (σ5.put m (.map (esS (l++[s])))) (· =m):=Frm.put _ _ _ (by omega)
    have hn6:(σ5.put m (.map (esS (l++[s])))).n=σ5.n:=rfl
    have hM6:(σ5.put m (.map (esS (l++[s])))).get m=some (.map (esS (l++[s]))):=dR _ _ _
    generalize σ5.put m (.map (esS (l++[s])))=σ6 at hF6 hn6 hM6 ⊢
    have hZm:Z≠m:=by omega
    rw [aM (hF6.st hS5 hZm) 3 rfl]
    simp only [wpS]
    have hG6:=hG5.frm lD hF6 fun j _ h=>.inr h
    have hF06:Frm σ σ6 NoB:=hF05.fresh hF6 fun j hj h=>by omega
    refine fI lD (by rintro j (h|h);have:=hF06.n;omega;omega) hG6 (by decide) (by decide) rfl (by intro y hy;simp at hy;rcases hy with rfl|rfl|rfl<;>rfl) (b:=s) rfl (by omega) (by decide) fun σ7 rb7 p7 c7 hF7 hrb7 hG7=>?_
    simp only [wpS,T40k0,T40k2,ei]
    rw [hstep]
    have hmr:¬ (p≠none∧m=rb):=fun h=>hG6.hr h.1 (.inr h.2.symm)
    refine ⟨some p7,c7,rb7,_,by simp,hF06.fresh hF7 fun j hj h=>by have:=hrb h.1;omega,by have:=hF7.n;omega,by rw [hF7.get m (by omega) hmr];exact hM6,hG7,fun _=>?_⟩
    rcases hrb7 with ⟨h1,h2⟩|h1
    ·have:=hrb h1;omega
    ·have:=hF06.n;omega
   ·rw [if_neg fun h=>hc (hb.1 h)]
    simp only [wpS,T40k0,T40k2,ei]
    have hadd:pZ l s=l:=by unfold pZ;rw [if_neg hc]
    rw [hadd] at hstep
    rw [hstep]
    exact ⟨p,c,rb,_,rfl,hF05,by omega,hM5,hG5,hrb⟩
  rw [aI,aE hS5 (v:=.int .i64 s.k) rfl]
  simp only [wpS]
  rw [aB]
  by_cases hk:s.k=0
  ·rw [if_neg (by simp [hk])]
   simp only [wpS]
   exact next false (by simp [hk])
  ·rw [if_pos (by simpa using hk),aM hS5 3 rfl]
   simp only [wpS]
   rw [bB,lookup127' hM5 s]
   simp only [wpS]
   exact next _ (by simp [hk])
 ·rintro st σ2 ⟨p,c,rb,css,rfl,hF2,hm2,hM2,hG2,hrb⟩
  rw [List.take_length] at hG2 ⊢
  unfold T40b0
  simp only [wpS]
  rw [aB,if_neg (by simp)]
  simp only [wpS,T40k3]
  have hG2':=GR.step (S:=NoB) (Y':=fun j=>j=A) lD hG2 (Frm.refl _ _) (fun _ _ h=>h.elim) fun j _ h=>.inl h
  exact ⟨_,rfl,p,c,rfl,hG2'.close lD (by decide),hF2⟩
end
end Go.Pg
namespace Go.Pg
open Go.Proofs Go.Utf8 Go.Lib
set_option linter.unusedSimpArgs false
section
variable {σ:aC} {N:List NV} {D:List Dc} {pn pd:Option Addr} {cn cd A steps:Nat} {q:Option Addr} {k:Nat}
theorem wp_shape0 {Y:Nat→Prop} {P:Program} {ov:Ov} {s:Shp} {l:List Shp} (h:aQ σ Y 3 (shR σ Y) q (s::l)) {n o:Nat} (hn:n=l.length+1) (ho:o<3) {f:Value→Pg} {Q:cK}
  (K:∀ v,[(.int .i64 s.k:Value),.int .i64 s.n,.string (mkB s.nm)][o]?=some v→Wp P ov (f v) σ Q):
  Wp P ov (aG q fun a=>grd (decide (0<((n:Nat):Int))) (.act (ld1 (aadd (aadd a 0) o)) f)) σ Q:=by
 subst hn
 obtain ⟨a,cs,rfl,_,h3,h4⟩:=h 0 (by simp)
 simp only [cP]
 rw [aP]
 refine ⟨by simp,?_⟩
 have h4':cs=[.int .i64 s.k,.int .i64 s.n,.string (mkB s.nm)]:=h4
 have hl:cs.length=3:=by rw [h4'];try rfl
 have e:ld1 (aadd (aadd a 0) o) σ=some (cs[o]'(by omega),σ):=by
  unfold ld1
  rw [show aadd a 0=aadd a (0*3) from rfl,kQ (o:=o) (k:=1) h3 (by omega),List.drop_eq_getElem_cons (by omega),List.take_succ_cons,List.take_zero]
 rw [bB,e]
 refine K _ ?_
 rw [←h4']
 exact List.getElem?_eq_getElem (by omega)
theorem wp_whole41 (h:Ask σ A pn N cn pd D cd steps) {l:List Shp} (hl:aQ σ (· =A) 3 (shR σ (· =A)) q l):
  WpF aF ovD 41 [bU A,.slice q l.length k] σ fun v σ'=>v=.bool (gC D l)∧Frm σ σ' NoB:=by
 refine WpF.of (T41_eq _ _ _ _) rfl ?_
 rw [T41,aB]
 cases l with
 |nil=>
  rw [if_pos (by rfl)]
  simp only [wpS]
  exact ⟨_,rfl,rfl,Frm.refl _ _⟩
 |cons s l=>
 rw [if_neg (by simp;omega)]
 refine wp_shape0 hl rfl (by decide) fun v hv=>?_
 cases hv
 simp only [wpS]
 rw [aB]
 by_cases c1:s.k=24
 ·rw [if_pos (by simpa using c1)]
  simp only [wpS,T41k1]
  refine ⟨_,rfl,?_,Frm.refl _ _⟩
  unfold gC
  simp only
  rw [if_pos c1]
  congr 1
  rw [List.length_cons]
  by_cases h2:l.length+1=2
  ·rw [decide_eq_true h2,h2];try rfl
  ·rw [decide_eq_false h2]
   rw [beq_eq_false_iff_ne]
   omega
 rw [if_neg (by simpa using c1),aB]
 by_cases c2:s.k=25
 ·rw [if_pos (by simpa using c2)]
  simp only [wpS,T41k1]
  refine ⟨_,rfl,?_,Frm.refl _ _⟩
  unfold gC
  simp only
  rw [if_neg c1,if_pos c2]
 rw [if_neg (by simpa using c2),aB]
 by_cases c3:s.k=26
 case neg=>
  rw [if_neg (by simpa using c3)]
  simp only [wpS,T41k1]
  refine ⟨_,rfl,?_,Frm.refl _ _⟩
  unfold gC
  simp only
  rw [if_neg c1,if_neg c2,if_neg c3]
 rw [if_pos (by simpa using c3)]
 rw [bB,show aadd ⟨A,0,some 0⟩ 0=⟨A,0,some 0⟩ from rfl,h.st.ldN (off:=0) (k:=2) (by simp)]
 simp only [wpS,List.drop_zero,List.take_succ_cons,List.take_zero]
 refine wp_shape0 hl rfl (by decide) fun v hv=>?_
 cases hv
 simp only [wpS]
 rw [aD]
 refine WpF.mono (mY h.tree.decls h.dl h.cl s.nm) ?_
 rintro _ σ2 ⟨rfl,hF2⟩
 have h2:=h.frm hF2
 have hw:gC D (s::l)=match ofD s.nm 0 D with
  |some x=>decide (l.length+1=(match D[x.1]? with
   |some d=>d.cons.length
   |none=>0))
  |none=>false:=by unfold gC;simp only;rw [if_neg c1,if_neg c2,if_pos c3];try rfl
 cases ho:ofD s.nm 0 D with
 |none=>
  rw [ho] at hw
  simp only [ofV,wpS]
  rw [aB,if_neg (by simp)]
  simp only [wpS,T41k0,T41k1]
  exact ⟨_,rfl,by rw [hw],hF2⟩
 |some x=>
  rw [ho] at hw
  simp only at hw
  obtain ⟨d,c,w⟩:=x
  obtain ⟨_,hd,hc,_⟩:=jK _ _ _ _ ho
  simp only [Nat.sub_zero] at hd hc
  rw [List.getElem?_eq_getElem hd] at hw
  simp only at hw
  simp only [ofV,wpS]
  rw [aB,if_pos (by rfl),aE h2.st (v:=.slice pd D.length cd) rfl]
  simp only [wpS]
  refine cA h2.tree.decls hd rfl (o:=1) (by decide) fun cs hcs=>?_
  obtain ⟨q1,k1,rfl,_⟩:=hcs
  refine ⟨_,rfl,?_⟩
  simp only [wpS,T41k0,T41k1]
  refine ⟨_,rfl,?_,hF2⟩
  rw [hw,List.length_cons]
  congr 1
  by_cases h3:l.length+1=D[d].cons.length
  ·rw [decide_eq_true h3,h3,beq_self_eq_true]
  ·rw [decide_eq_false h3,beq_eq_false_iff_ne]
   omega
end
section
variable {N:List NV} {D:List Dc}
theorem anyS_le {q:Shp→Nat→Bool × Nat} {B:Nat} (hq:∀ s n,n+1≤10000→(q s n).2≤B) (hq2:∀ s n,10000<n+1→(q s n).2≤n+1) (hB:10000≤B):∀ (l:List Shp) (n:Nat),n≤B→(qE q l n).2≤B+l.length
 |[],n,h=>by rw [qE];simpa using h
 |s::l,n,h=>by
  rw [qE,List.length_cons]
  have h1:(q s n).2≤B+1:=by
   by_cases h2:n+1≤10000
   ·have:=hq s n h2;omega
   ·have:=hq2 s n (by omega);omega
  split
  ·simp only;omega
  ·have:=anyS_le (B:=B+1) (fun s n h=>Nat.le_trans (hq s n h) (Nat.le_succ _)) hq2 (by omega) l (q s n).2 h1
   omega
theorem mM:∀ (f R:Nat) (rows:List (List Int)) (row:List Int) (n:Nat),rows.length≤R→(n+1≤10000→(bG N D f rows row n).2≤10000+f*(R+1))∧(10000<n+1→(bG N D f rows row n).2≤n+1)
 |0,R,rows,row,n,_=>by rw [bG];simp only;omega
 |f+1,R,rows,row,n,hR=>by
  have e:(f+1)*(R+1)=f*(R+1)+(R+1):=by rw [Nat.add_mul,Nat.one_mul]
  unfold bG
  split
  ·simp only;omega
  ·have sub:∀ rows' row',rows'.length≤R→(bG N D f rows' row' (n+1)).2≤10000+(f+1)*(R+1):=by
    intro rows' row' h
    obtain ⟨h1,h2⟩:=mM f R rows' row' (n+1) h
    by_cases h3:n+1+1≤10000
    ·have:=h1 h3;omega
    ·have:=h2 (by omega);omega
   have hsp:∀ s,(bX N D s rows).length≤R:=fun s=>Nat.le_trans (List.length_filterMap_le _ _) hR
   refine ⟨fun _=>?_,fun h=>by omega⟩
   split
   ·simp only;omega
   ·split
    ·exact sub _ _ (hsp _)
    ·split
     ·rename_i p r h1 h2
      have:=anyS_le (q:=fun s n=>bG N D f (bX N D s rows) ((dG N D s (p::r)).getD []) n) (B:=10000+f*(R+1)) (fun s n h=>(mM f R _ _ n (hsp s)).1 h) (fun s n h=>(mM f R _ _ n (hsp s)).2 h) (by omega) (cO N rows) (n+1) (by omega)
      have h2:=nZ (N:=N) rows
      exact Nat.le_trans this (by omega)
     ·exact sub _ _ (by
       unfold iS
       rw [List.length_map]
       exact Nat.le_trans (List.length_filter_le _ _) hR)
end
end Go.Pg
namespace Go.Pg
open Go.Proofs Go.Utf8 Go.Lib
set_option linter.unusedSimpArgs false
section
variable {N:List NV} {D:List Dc} {pn pd:Option Addr} {cn cd A:Nat}
theorem specC_len {s:Shp} {p:Int} {r y:List Int} (h:dG N D s (p::r)=some y):y.length=dO D s+r.length:=by
 rw [pO] at h
 split at h
 ·cases h;rw [List.length_append,kG]
 ·split at h
  ·cases h;rw [List.length_append,List.length_replicate]
  ·cases h
theorem nD {s:Shp} {L:List (List Int)} {w:Nat} (h:∀ r∈L,r.length=w+1):∀ y∈bX N D s L,y.length=dO D s+w:=by
 intro y hy
 obtain ⟨r,hr,he⟩:=List.mem_filterMap.1 hy
 have:=h r hr
 cases r with
 |nil=>simp at this
 |cons p r=>rw [specC_len he];simp at this;omega
theorem restC_take {L:List (List Int)} {i:Nat} (hi:i<L.length):iS N (L.take (i+1))=iS N (L.take i)++if (lC N L[i]).k=0 then [L[i].drop 1] else []:=by
 unfold iS
 rw [List.take_succ_eq_append_getElem hi,List.filter_append,List.map_append]
 congr 1
 by_cases h:(lC N L[i]).k=0
 ·rw [if_pos h,List.filter_cons_of_pos (by simpa using h)]
  try rfl
 ·rw [if_neg h,List.filter_cons_of_neg (by simpa using h)]
  try rfl
theorem tG (L:List (List Int)):(iS N L).length≤L.length:=by
 unfold iS
 rw [List.length_map]
 exact List.length_filter_le _ _
theorem restC_len {L:List (List Int)} {w:Nat} (h:∀ r∈L,r.length=w+1):∀ y∈iS N L,y.length=w:=by
 intro y hy
 obtain ⟨r,hr,he⟩:=List.mem_map.1 hy
 rw [←he,List.length_drop,h r (List.mem_filter.1 hr).1]
 try rfl
theorem Ask.bump {σ σ':aC} {n n':Nat} (h:Ask σ A pn N cn pd D cd n) (f:Frm σ σ' (· =A)) (hS:St σ' A [.slice pn N.length cn,.slice pd D.length cd,.int .i64 ((n':Nat):Int)]):Ask σ' A pn N cn pd D cd n':=
 ⟨hS,h.tree.step (Y':=(· =A)) f (fun _ _ h=>h) fun _ _ h=>h,h.nl,h.dl,h.cl,h.kl,h.al⟩
theorem RI.toA {σ:aC} {q:Option Addr} {k m:Nat} {l:List Int} (h:RI σ (fun j=>j<m) q k l) (hA:A<m):RI σ (· =A) q k l:=
 h.step (S:=NoB) (Frm.refl _ _) (fun _ _ h=>h.elim) fun j _ h=>by show j<m;omega
theorem frmA {σ σ':aC} {c:Nat} {β:Type} {R:aC→(Nat→Prop)→List Value→β→Prop} (hM:rC R) {p:Option Addr} {ts:List β} (h:aQ σ (· =A) c (R σ (· =A)) p ts) (f:Frm σ σ' (· =A)):aQ σ' (· =A) c (R σ' (· =A)) p ts:=
 aQ.step f (fun _ _ h=>h) (fun _ _ h=>h) (fun _ _ h=>hM _ _ _ _ _ _ _ f (fun _ _ h=>h) (fun _ _ h=>h) h) h
theorem tF (f:Nat) (rows:List (List Int)) (p:Int) (r:List Int) (n:Nat) (h:n+1≤10000):bG N D (f+1) rows (p::r) n=if (shp N p).k≠0 then bG N D f (bX N D (shp N p) rows) ((dG N D (shp N p) (p::r)).getD []) (n+1)
   else if gC D (cO N rows)=true then qE (fun s n=>bG N D f (bX N D s rows) ((dG N D s (p::r)).getD []) n) (cO N rows) (n+1)
   else bG N D f (iS N rows) r (n+1):=by
 rw [bG,if_neg (by omega)]
theorem anyS_ge {q:Shp→Nat→Bool × Nat} (hq:∀ s n,n≤(q s n).2):∀ (l:List Shp) (n:Nat),n≤(qE q l n).2
 |[],n=>Nat.le_refl _
 |s::l,n=>by
  rw [qE]
  split
  ·exact hq s n
  ·exact Nat.le_trans (hq s n) (anyS_ge hq l _)
theorem mI:∀ (f:Nat) (rows:List (List Int)) (row:List Int) (n:Nat),n≤(bG N D f rows row n).2
 |0,_,_,n=>Nat.le_refl _
 |f+1,rows,row,n=>by
  unfold bG
  split
  ·exact Nat.le_succ _
  ·split
   ·exact Nat.le_succ _
   ·split
    ·exact Nat.le_trans (Nat.le_succ _) (mI f _ _ _)
    ·split
     ·exact Nat.le_trans (Nat.le_succ _) (anyS_ge (fun s n=>mI f _ _ n) _ _)
     ·exact Nat.le_trans (Nat.le_succ _) (mI f _ _ _)
theorem wp_useful24:∀ (f:Nat) (rows:List (List Int)) (row:List Int) (n:Nat) (σ:aC) (q1:Option Addr) (k1:Nat) (q4:Option Addr) (k4:Nat),10001≤f+n→1≤f→f≤10001→n≤20000000000→Ask σ A pn N cn pd D cd n→aQ σ (· =A) 1 (rwR σ (· =A)) q1 rows→RI σ (· =A) q4 k4 row→rows.length≤1000000→(∀ r∈rows,r.length=row.length)→row.length≤1000000*(10002 - f)→
  WpF aF ovD 24 [bU A,.slice q1 rows.length k1,.slice q4 row.length k4] σ fun v σ'=>v=.bool (bG N D f rows row n).1∧Ask σ' A pn N cn pd D cd (bG N D f rows row n).2∧Frm σ σ' (· =A):=by
 intro f
 induction f with
 |zero=>intro rows row n σ q1 k1 q4 k4 _ h;omega
 |succ f ih=>
 intro rows row n σ q1 k1 q4 k4 hfn _ hf hn h hL hR hRl hw hwl
 refine WpF.of (T24_eq _ _ _ _ _ _ _) rfl ?_
 rw [T24]
 simp only [wpS]
 have en:aR (((n:Nat):Int)+1)=((n+1:Nat):Int):=by rw [aS (by omega)];omega
 rw [aE h.st (v:=.int .i64 ((n:Nat):Int)) rfl]
 simp only [wpS,en]
 refine bN h.st (by simp) rfl fun σ1 hF1 hn1 hS1=>?_
 simp only [List.set_cons_succ,List.set_cons_zero] at hS1
 have h1:=h.bump hF1 hS1
 rw [aE hS1 (v:=.int .i64 ((n+1:Nat):Int)) rfl]
 simp only [wpS]
 rw [aB]
 by_cases hst:10000<n+1
 ·rw [if_pos (by simp;omega)]
  simp only [wpS]
  have e:bG N D (f+1) rows row n=(false,n+1):=by unfold bG;rw [if_pos hst]
  rw [e]
  exact ⟨_,rfl,rfl,h1,hF1⟩
 rw [if_neg (by simp;omega),aB]
 cases row with
 |nil=>
  rw [if_pos (by rfl)]
  simp only [wpS]
  have e:bG N D (f+1) rows [] n=(rows.isEmpty,n+1):=by rw [bG,if_neg hst]
  rw [e]
  refine ⟨_,rfl,?_,h1,hF1⟩
  cases rows with
  |nil=>rfl
  |cons a l=>simp;omega
 |cons p r=>
 rw [List.length_cons] at hwl hw
 have hA1:=h1.st.1
 have hL1:=frmA aY hL hF1
 have hR1:RI σ1 (· =A) q4 k4 (p::r):=hR.step hF1 (fun _ _ h=>h) fun _ _ h=>h
 have hu:=tF (N:=N) (D:=D) f rows p r n (by omega)
 have hwl2:r.length+1≤1000000*10002:=Nat.le_trans hwl (Nat.mul_le_mul_left _ (by omega))
 have hrb:r.length≤100000000000:=by omega
 have hwS:∀ x∈rows,1≤x.length∧x.length≤100000000000:=fun x hx=>by have:=hw x hx;omega
 have hme:=sZ h.al
 have hfm:1000000*(10002 - f)=1000000*(10002 - (f+1))+1000000:=by omega
 rw [if_neg (by simp;omega)]
 refine gP hR1 rfl ?_
 simp only [wpS]
 rw [aD]
 refine WpF.mono (nA h1 p) ?_
 rintro _ σ2 ⟨rfl,hF2⟩
 generalize hs:shp N p=s at hu
 unfold shV
 simp only [wpS]
 have hn2:=hF2.n
 refine aN fun σ3 hF3 hn3 hS3=>?_
 generalize hZ:σ2.n=Z at hS3
 refine bA hS3 rfl rfl fun σ4 hF4 hn4 hS4=>?_
 have hF24:Frm σ2 σ4 NoB:=hF3.fresh hF4 fun j hj h=>by omega
 have hF14:=hF2.seq hF24
 have h4:=h1.frm hF14
 have hL4:=hL1.frmM aY hF14
 have hR4:=hR1.frm hF14
 have hF04:Frm σ σ4 (· =A):=hF1.seq hF14.no
 have hn14:=hF14.n
 rw [aE hS4 (v:=.int .i64 s.k) rfl]
 simp only [wpS]
 rw [aB]
 by_cases hk:s.k=0
 case neg=>
  rw [if_pos (by simpa using hk),aM hS4 3 rfl]
  simp only [wpS]
  rw [if_pos hk] at hu
  rw [aD]
  refine WpF.mono (nR h4 s hR4 hrb) ?_
  rintro _ σ5 ⟨q5,k5,rfl,hR5,hF5⟩
  simp only [wpS]
  rw [aM (hF5.stN hS4) 3 rfl]
  simp only [wpS]
  rw [aD]
  refine WpF.mono (qQ (h4.frm hF5) s (hL4.frmM aY hF5) hRl hwS) ?_
  rintro _ σ6 ⟨q6,k6,rfl,hL6,hF6⟩
  simp only [wpS]
  have hsp:dG N D s (p::r)=some (fO (cY N p) (dO D s)++r):=specC_same hs
  rw [hsp,Option.getD_some] at hR5 hu ⊢
  have hlen:(fO (cY N p) (dO D s)++r).length=dO D s+r.length:=by rw [List.length_append,kG]
  rw [aD]
  have hA5:A<σ4.n:=h4.st.1
  refine WpF.mono (ih _ _ (n+1) σ6 q6 k6 q5 k5 (by omega) (by omega) (by omega) (by omega) (h4.frm (hF5.seq hF6)) hL6 ((hR5.toA hA5).frm hF6) (Nat.le_trans (List.length_filterMap_le _ _) hRl) (fun y hy=>by rw [hlen];exact nD hw y hy) (by rw [hlen];have:=hme s;omega)) ?_
  rintro _ σ7 ⟨rfl,h7,hF7⟩
  simp only [wpS]
  rw [hu]
  exact ⟨_,rfl,rfl,h7,(hF04.seq (hF5.seq hF6).no).seq hF7⟩
 rw [if_neg (by simp [hk])]
 rw [if_neg (by simpa using hk)] at hu
 rw [aD]
 refine WpF.mono (wp_shapes40 h4 hL4 hRl fun x hx=>(hwS x hx).1) ?_
 rintro _ σ5 ⟨q5,k5,rfl,hl5,hF5⟩
 simp only [wpS]
 rw [aD]
 refine WpF.mono (wp_whole41 (h4.frm hF5) hl5) ?_
 rintro _ σ6 ⟨rfl,hF6⟩
 simp only [wpS]
 have hF46:=hF5.seq hF6
 have h6:=h4.frm hF46
 have hl6:=hl5.frmM lD hF6
 have hL6:=hL4.frmM aY hF46
 have hR6:=hR4.frm hF46
 have hF06:Frm σ σ6 (· =A):=hF04.seq hF46.no
 have hA6:=h6.st.1
 have hll:=nZ (N:=N) rows
 have hk0:(shp N p).k=0:=by rw [hs];exact hk
 rw [aB]
 by_cases hwh:gC D (cO N rows)=true
 ·rw [if_pos hwh]
  rw [if_pos hwh] at hu
  have hlk:=shapesC_k (N:=N) rows
  generalize hl:cO N rows=l at hu hl6 hll hlk ⊢
  generalize hq:(fun (s:Shp) (n:Nat)=>bG N D f (bX N D s rows) ((dG N D s (p::r)).getD []) n)=q at hu
  refine Wp.count l.length (fun i st σ'=>∃ m,st=[.int .i64 ((i:Nat):Int),.bool false]∧Frm σ6 σ' (· =A)∧Ask σ' A pn N cn pd D cd m∧qE q l (n+1)=qE q (l.drop i) m∧n+1≤m∧m≤10000+f*(1000000+1)+i) ⟨n+1,rfl,Frm.refl _ _,h6,by rw [List.drop_zero],Nat.le_refl _,by omega⟩ ?_ ?_
  ·rintro i st σ7 hi ⟨m,rfl,hF7,h7,hany,hm1,hm2⟩
   have ei:aR ((i:Int)+1)=((i+1:Nat):Int):=by rw [aS (by omega)];omega
   have hmul:f*(1000000+1)≤10000*(1000000+1):=Nat.mul_le_mul_right _ (by omega)
   have hmb:m≤20000000000:=by omega
   have hl7:=frmA lD hl6 hF7
   have hL7:=frmA aY hL6 hF7
   have hR7:RI σ7 (· =A) q4 k4 (p::r):=hR6.step hF7 (fun _ _ h=>h) fun _ _ h=>h
   rw [List.drop_eq_getElem_cons hi,qE] at hany
   unfold T24b0
   simp only [wpS]
   rw [aB,if_pos (by simp;omega),aI]
   refine dA hl7 hi rfl fun cs hcs=>?_
   have hsk:=hlk _ (List.getElem_mem hi)
   generalize l[i]=t at hcs hany hsk
   cases hcs
   simp only [wpS]
   refine aN fun σ8 hF8 hn8 hS8=>?_
   refine bA hS8 rfl rfl fun σ9 hF9 hn9 hS9=>?_
   have hF79:Frm σ7 σ9 NoB:=hF8.fresh hF9 fun j hj h=>by omega
   rw [aM hS9 3 rfl]
   simp only [wpS]
   rw [aD]
   have h9:=h7.frm hF79
   have hsp:dG N D t (p::r)=some (List.replicate (dO D t) (-1)++r):=specC_any hk0 hsk
   have hA9:=h9.st.1
   refine WpF.mono (nR h9 t (hR7.frm hF79) hrb) ?_
   rintro _ σa ⟨qa,ka,rfl,hRa,hFa⟩
   simp only [wpS]
   rw [aM (hFa.stN hS9) 3 rfl]
   simp only [wpS]
   rw [aD]
   refine WpF.mono (qQ (h9.frm hFa) t ((hL7.frmM aY hF79).frmM aY hFa) hRl hwS) ?_
   rintro _ σb ⟨qb,kb,rfl,hLb,hFb⟩
   simp only [wpS]
   have hqt:q t m=bG N D f (bX N D t rows) ((dG N D t (p::r)).getD []) m:=by rw [←hq]
   rw [hsp,Option.getD_some] at hRa hqt ⊢
   have hlen:(List.replicate (dO D t) (-1)++r).length=dO D t+r.length:=by rw [List.length_append,List.length_replicate]
   rw [aD]
   have hspl:(bX N D t rows).length≤1000000:=Nat.le_trans (List.length_filterMap_le _ _) hRl
   refine WpF.mono (ih _ _ m σb qb kb qa ka (by omega) (by omega) (by omega) hmb (h9.frm (hFa.seq hFb)) hLb ((hRa.toA hA9).frm hFb) hspl (fun y hy=>by rw [hlen];exact nD hw y hy) (by rw [hlen];have:=hme t;omega)) ?_
   rintro _ σc ⟨rfl,hc,hFc⟩
   simp only [wpS]
   have hF6c:Frm σ6 σc (· =A):=(hF7.seq (hF79.seq (hFa.seq hFb)).no).seq hFc
   have hle:=mM (N:=N) (D:=D) f 1000000 (bX N D t rows) (List.replicate (dO D t) (-1)++r) m hspl
   rw [←hqt] at hc hle ⊢
   have hge:m≤(q t m).2:=by
    rw [hqt]
    exact mI _ _ _ _
   rw [aB]
   cases hb:(q t m).1 with
   |true=>
    rw [if_pos rfl]
    simp only [wpS,T24k0,T24k1]
    rw [hb,if_pos rfl] at hany
    rw [hu,hany]
    exact ⟨_,rfl,rfl,hc,hF06.seq hF6c⟩
   |false=>
    rw [if_neg (by simp)]
    simp only [wpS,T24k0,ei]
    rw [hb,if_neg (by simp)] at hany
    refine ⟨(q t m).2,trivial,hF6c,hc,hany,by omega,?_⟩
    by_cases h3:m+1≤10000
    ·have:=hle.1 h3;omega
    ·have:=hle.2 (by omega);omega
  ·rintro st σ7 ⟨m,rfl,hF7,h7,hany,hm1,hm2⟩
   unfold T24b0
   simp only [wpS]
   rw [aB,if_neg (by simp)]
   simp only [wpS,T24k1]
   rw [List.drop_length,qE] at hany
   rw [hu,hany]
   exact ⟨_,rfl,rfl,h7,hF06.seq hF7⟩
 ·rw [if_neg hwh]
  rw [if_neg hwh] at hu
  refine Wp.count rows.length (fun i st σ'=>∃ pr c rb css,st=[.int .i64 ((i:Nat):Int),.slice pr (iS N (rows.take i)).length c]∧Frm σ6 σ' NoB∧GR rwR 1 σ' (· =A) rb (iS N (rows.take i)) css pr c∧(pr≠none→σ6.n≤rb)) ⟨none,0,0,[],rfl,Frm.refl _ _,.zero,fun h=>absurd rfl h⟩ ?_ ?_
  ·rintro i st σ7 hi ⟨pr,c,rb,css,rfl,hF7,hG7,hrb7⟩
   have ei:aR ((i:Int)+1)=((i+1:Nat):Int):=by rw [aS (by omega)];omega
   have hlen:(iS N (rows.take i)).length≤i:=by
    have:=tG (N:=N) (rows.take i)
    rw [List.length_take] at this
    omega
   have hstep:=restC_take (N:=N) hi
   unfold T24b1
   simp only [wpS]
   rw [aB,if_pos (by simp;omega),aI]
   have hY:∀ j,j<σ6.n→(j=A∨σ6.n≤j)→j=A:=fun j h1 h2=>by omega
   have hL7:aQ σ7 (fun j=>j=A∨σ6.n≤j) 1 (rwR σ7 (fun j=>j=A∨σ6.n≤j)) q1 rows:=aQ.step (S:=NoB) hF7 (fun _ _ h=>h.elim) hY (fun _ _ h=>aY _ _ _ _ _ _ _ hF7 (fun _ _ h=>h.elim) hY h) hL6
   refine bS hL7 hi rfl fun cs hcs=>?_
   have hw1:=hw rows[i] (List.getElem_mem hi)
   generalize hr:rows[i]=y at hcs hw1 hstep
   obtain ⟨qr,kr,rfl,hRI⟩:=hcs
   refine ⟨_,rfl,?_⟩
   simp only [wpS]
   cases y with
   |nil=>simp at hw1
   |cons x y=>
   have hhead:lC N (x::y)=shp N x:=rfl
   rw [hhead,List.drop_succ_cons,List.drop_zero] at hstep
   refine gP hRI rfl ?_
   simp only [wpS]
   rw [aD]
   refine WpF.mono (nA (h6.frm hF7) x) ?_
   rintro _ σ8 ⟨rfl,hF8⟩
   generalize shp N x=t at hstep
   unfold shV
   simp only [wpS]
   have hF68:=hF7.seq hF8
   have hG8:=hG7.frmN aY hF8
   have hn78:=hF8.n
   have hn67:=hF7.n
   rw [aB]
   by_cases ht:t.k=0
   ·rw [if_pos (by simpa using ht),aP]
    refine ⟨jW hRI rfl,?_⟩
    rw [if_pos ht] at hstep
    have hb:rwR σ8 (fun j=>j=A∨pr≠none∧j=rb) [.slice (qF qr 1) (y.length+1 - 1) (kr - 1)] y:=by
     refine ⟨qF qr 1,kr - 1,rfl,(hRI.cut.frm hF8).step (S:=NoB) (Frm.refl _ _) (fun _ _ h=>h.elim) ?_⟩
     rintro j _ (h1|⟨h1,h2⟩)
     ·exact .inl h1
     ·have:=hrb7 h1;exact .inr (by omega)
    refine fI aY (fun j h=>by omega) hG8 (by decide) (by decide) rfl (by intro y hy;simp at hy;subst hy;rfl) hb (by omega) (by decide) fun σ9 rb9 p9 c9 hF9 hrb9 hG9=>?_
    simp only [wpS,T24k2,T24k3,ei]
    rw [hstep]
    refine ⟨some p9,c9,rb9,_,by simp,hF68.fresh hF9 fun j hj h=>by have:=hrb7 h.1;omega,hG9,fun _=>?_⟩
    rcases hrb9 with ⟨h1,h2⟩|h1
    ·have:=hrb7 h1;omega
    ·omega
   ·rw [if_neg (by simpa using ht)]
    simp only [wpS,T24k2,T24k3,ei]
    rw [if_neg ht,List.append_nil] at hstep
    rw [hstep]
    exact ⟨pr,c,rb,_,rfl,hF68,hG8,hrb7⟩
  ·rintro st σ7 ⟨pr,c,rb,css,rfl,hF7,hG7,hrb7⟩
   rw [List.take_length] at hG7 ⊢
   unfold T24b1
   simp only [wpS]
   rw [aB,if_neg (by simp)]
   simp only [wpS,T24k4]
   rw [aP]
   refine ⟨jW hR6 rfl,?_⟩
   rw [aD,show (p::r).length - 1=r.length from rfl]
   refine WpF.mono (ih _ _ (n+1) σ7 pr c (qF q4 1) (k4 - 1) (by omega) (by omega) (by omega) (by omega) (h6.frm hF7) (hG7.close aY (by decide)) (hR6.frm hF7).cut (Nat.le_trans (tG _) hRl) (restC_len hw) (by omega)) ?_
   rintro _ σ8 ⟨rfl,h8,hF8⟩
   simp only [wpS]
   rw [hu]
   exact ⟨_,rfl,rfl,h8,(hF06.seq hF7.no).seq hF8⟩
end
end Go.Pg
namespace Go.Pg
open Go.Proofs Go.Utf8 Go.Lib
set_option linter.unusedSimpArgs false
section
variable {σ σ':aC} {N:List NV} {D:List Dc} {Y:Nat→Prop} {pn pd:Option Addr} {cn cd A:Nat}
theorem nJ {w p:Nat} {b:Bool} {e:Nat} (h:bZ N D (w+1) p b=some e) {v:NV} (hv:N[p]?=some v):v.kids.length≤N.length:=by
 have hlt:=gO h
 have hr:=h
 rw [bZ,hv] at hr
 simp only at hr
 split at hr
 ·obtain ⟨a,h1,hr⟩:=aT hr
  have:=pN (g:=fun _=>[()]) (fun p' b' e' h'=>by have:=gO h';simp;omega) _ _ _ _ _ h1
  have h2:∀ l:List Nat,(l.flatMap fun _=>[()]).length=l.length:=fun l=>by
   induction l with
   |nil=>rfl
   |cons x l ih=>rw [List.flatMap_cons,List.length_append,ih];simp;omega
  have h2:=h2 v.kids
  split at hr
  ·cases hr
  ·cases ofS hr
   omega
 ·cases hr
theorem wp_binds35 (hN:N.length≤1000):∀ (w p:Nat) (b:Bool) (e m:Nat) (σ:aC),bZ N D w p b=some e→N.length≤m+p→cU σ Y pn N pd D→
  WpF aF ovD 35 [trV pn N.length cn pd D.length cd,.int .i64 ((p:Nat):Int)] σ fun v σ'=>∃ rb q k,v=.slice q (bK N m p).length k∧SlV σ' rb q k ((bK N m p).map dF)∧(q≠none→σ.n≤rb)∧Frm σ σ' NoB:=by
 intro w
 induction w with
 |zero=>intro p b e m σ h;cases h
 |succ w ih=>
  intro p b e m σ h hm hT
  obtain ⟨v,hv,hkids⟩:=walk_node h
  have hbl:=mW _ _ _ _ h
  have hlt:=gO h
  obtain ⟨m,rfl⟩:∃ m',m=m'+1:=⟨m - 1,by omega⟩
  have hpN:p<N.length:=by omega
  have hvN:N[p]=v:=by
   rw [List.getElem?_eq_getElem hpN] at hv
   exact Option.some.inj hv
  have hkl:=nJ h hv
  refine WpF.of (T35_eq _ _ _ _ _ _ _) rfl ?_
  rw [T35]
  refine aN fun σ1 hF1 hn1 hS1=>?_
  generalize hA:σ.n=A at hS1
  rw [aE hS1 rfl]
  simp only [wpS]
  have hT1:=hT.frm hF1
  refine dA hT1.nodes hpN rfl fun cs hcs=>?_
  rw [hvN] at hcs
  obtain ⟨q,k,rfl,hrow,_⟩:=hcs
  simp only [wpS]
  refine aN fun σ2 hF2 hn2 hS2=>?_
  refine bA hS2 rfl rfl fun σ3 hF3 hn3 hS3=>?_
  generalize hC:σ1.n=C at hS2 hS3 hF3 hn2
  have hF13:Frm σ1 σ3 NoB:=hF2.fresh hF3 fun j hj h=>by omega
  have hF03:=hF1.seq hF13
  have hS13:=hF13.stN hS1
  have hT3:=hT1.frm hF13
  have hrow3:=hrow.later hF13
  have hS3':St σ3 C (nvC v q k):=hS3
  rw [aE hS3' rfl]
  simp only [wpS]
  rw [aB]
  have hb:=hbl (m+1)
  by_cases h22:v.x.k=22
  ·have eb:bK N (m+1) p=[v.x.nm]:=by
    rw [bK,hv]
    simp only
    rw [if_pos h22]
   rw [if_pos (by simpa using h22),aE hS3' rfl]
   simp only [wpS]
   rw [bB,dB]
   simp only [wpS]
   rw [eb]
   refine ⟨_,rfl,σ3.n,_,1,rfl,.inr ⟨0,1,rfl,Row.new σ3 1 [dF v.x.nm] 1 (by decide) rfl (by intro y hy;simp at hy;subst hy;rfl)⟩,fun _=>by have:=hF03.n;omega,hF03.seq (Frm.new _ _ _ _)⟩
  have eb:bK N (m+1) p=v.kids.flatMap fun k=>if p<k∧k<N.length∧v.x.k=26 then bK N m k else []:=by
   rw [bK,hv]
   simp only
   rw [if_neg h22]
  rw [if_neg (by simpa using h22),eb,aE hS3' rfl]
  simp only [wpS]
  rw [eb] at hb
  rw [aB]
  by_cases h26:v.x.k=26
  case neg=>
   have e0:(v.kids.flatMap fun k=>if p<k∧k<N.length∧v.x.k=26 then bK N m k else [])=[]:=by
    rw [List.flatMap_eq_nil_iff]
    intro k _
    rw [if_neg fun h=>h26 h.2.2]
   rw [if_neg (by simpa using h26)]
   simp only [wpS,T35k2]
   rw [e0]
   exact ⟨_,rfl,0,none,0,rfl,.inl ⟨rfl,rfl,rfl⟩,fun h=>absurd rfl h,hF03⟩
  generalize hg:(fun k=>if p<k∧k<N.length∧v.x.k=26 then bK N m k else [])=g at hb
  have hpre:∀ j,((v.kids.take j).flatMap g).length≤(v.kids.flatMap g).length:=fun j=>by
   conv=>rhs;rw [←List.take_append_drop j v.kids,List.flatMap_append,List.length_append]
   omega
  rw [if_pos (by simpa using h26),aE hS3' (i:=4) rfl]
  simp only [wpS]
  refine Wp.count v.kids.length (fun j st σ'=>∃ rb qq kk,st=[.int .i64 ((j:Nat):Int),.slice qq ((v.kids.take j).flatMap g).length kk]∧SlV σ' rb qq kk (((v.kids.take j).flatMap g).map dF)∧(qq≠none→σ3.n≤rb)∧Frm σ3 σ' NoB)
   ⟨0,none,0,by simp,.inl ⟨rfl,rfl,by simp⟩,fun h=>absurd rfl h,Frm.refl _ _⟩ ?_ ?_
  ·rintro j st σ4 hj ⟨rb,qq,kk,rfl,hL,hrb,hF4⟩
   obtain ⟨k1,k2,b',e',k3⟩:=hkids j hj
   have ej:aR ((j:Int)+1)=((j+1:Nat):Int):=by rw [aS (by omega)];omega
   have hS14:=hF4.stN hS13
   have hT4:=hT3.frm hF4
   unfold T35b0
   simp only [wpS]
   rw [aB,if_pos (by simp;omega),aI]
   refine bS (hrow3.later hF4) hj rfl fun cs hcs=>⟨_,hcs,?_⟩
   simp only [wpS]
   have htk:(v.kids.take (j+1)).flatMap g=(v.kids.take j).flatMap g++g v.kids[j]:=by
    rw [List.take_succ_eq_append_getElem hj,List.flatMap_append]
    simp
   have eg:g v.kids[j]=bK N m v.kids[j]:=by rw [←hg];simp only;rw [if_pos ⟨k1,k2,h26⟩]
   rw [aM hS14 2 rfl]
   simp only [wpS]
   rw [aD]
   refine WpF.mono (ih v.kids[j] b' e' m σ4 k3 (by omega) hT4) ?_
   rintro _ σ5 ⟨rb2,q2,kk2,rfl,hL2,hrb2,hF5⟩
   simp only [wpS]
   have hL5:=hL.frm hF5 fun _ h=>h
   have p1:=hpre (j+1)
   rw [htk,eg,List.length_append] at p1
   rw [←eg] at hL2 ⊢
   refine wp_appR hL5 (by simp) hL2 (by simp) (by rw [eg];omega) (by rw [eg];omega) fun σ6 rb6 q6 kk6 hF6 hq6 hL6=>?_
   simp only [wpS,T35k0,ej]
   have hF46:Frm σ3 σ6 NoB:=(hF4.seq hF5).trans hF6 (fun _ _ h=>h) fun i hi h=>by have:=hrb h.1;omega
   refine ⟨rb6,q6,kk6,?_,?_,?_,hF46⟩
   ·rw [htk,List.length_append]
   ·rw [htk,List.map_append];exact hL6
   ·intro h
    have:=hF4.n
    have:=hF5.n
    rcases hq6 with h6|⟨h6,h7⟩|h6
    ·exact absurd h6 h
    ·have:=hrb h6;omega
    ·omega
  ·rintro st σ4 ⟨rb,qq,kk,rfl,hL,hrb,hF4⟩
   rw [List.take_length] at hL ⊢
   unfold T35b0
   simp only [wpS]
   rw [aB,if_neg (by simp)]
   simp only [wpS,T35k1,T35k2]
   exact ⟨_,rfl,rb,qq,kk,rfl,hL,fun h=>by have:=hrb h;have:=hF03.n;omega,hF03.seq hF4⟩
theorem wp_walk32 (hN:N.length≤1000):∀ (n p:Nat) (pat:Bool) (e:Nat) (σ:aC),n≤60→bZ N D n p pat=some e→Ask σ A pn N cn pd D cd p→
  WpF aF ovD 32 [bU A,.bool pat,.int .i64 ((60 - n:Nat):Int)] σ fun v σ'=>v=.bool true∧Ask σ' A pn N cn pd D cd e∧Frm σ σ' (· =A):=by
 intro n
 induction n with
 |zero=>intro p pat e σ _ h;cases h
 |succ n ih=>
  intro p pat e σ hn h hA
  have hlt:=gO h
  have hpN:p<N.length:=by omega
  obtain ⟨v,hv⟩:∃ v,N[p]?=some v:=⟨_,List.getElem?_eq_getElem hpN⟩
  have hvN:N[p]=v:=by
   rw [List.getElem?_eq_getElem hpN] at hv
   exact Option.some.inj hv
  have hkl:=nJ h hv
  have hw:=h
  rw [bZ,hv] at hw
  simp only at hw
  split at hw
  case isFalse=>cases hw
  rename_i hc
  obtain ⟨hsh,hpt,hcon⟩:=hc
  obtain ⟨e1,hkw,hw⟩:=aT hw
  split at hw
  ·cases hw
  obtain rfl:=ofS hw
  refine WpF.of (T32_eq _ _ _) rfl ?_
  have hAn:=hA.st.1
  rw [T32]
  simp only [wpS]
  rw [aE hA.st (i:=2) rfl]
  simp only [wpS]
  rw [dI,aE hA.st (v:=.slice pn N.length cn) rfl]
  simp only [wpS]
  rw [aB,if_neg (by simp;omega),aE hA.st (v:=.slice pn N.length cn) rfl]
  simp only [wpS]
  refine dA hA.tree.nodes hpN rfl fun cs hcs=>?_
  rw [hvN] at hcs
  obtain ⟨q,k,rfl,hrow,_⟩:=hcs
  simp only [wpS]
  refine aN fun σ1 hF1 hn1 hS1=>?_
  refine bA hS1 rfl rfl fun σ2 hF2 hn2 hS2=>?_
  generalize hC:σ.n=C at hS1 hS2 hF2 hn1
  have hF02:Frm σ σ2 NoB:=hF1.fresh hF2 fun j hj h=>by omega
  have hS2:St σ2 C (nvC v q k):=hS2
  clear hS1 hF1 hF2
  have hA2:=hA.frm hF02
  rw [aI,aE hS2 (i:=0) rfl]
  simp only [wpS]
  rw [aD]
  refine WpF.mono (nF _) ?_
  rintro _ _ ⟨rfl,rfl⟩
  simp only [wpS]
  have epat:decide (21≤v.x.k∧v.x.k≤26)=pat:=by
   have h26:v.x.k≤26:=by
    unfold bR at hsh
    simp only [Bool.and_eq_true,decide_eq_true_eq] at hsh
    exact hsh.1.1.1.1.2
   rw [←hpt]
   by_cases h21:v.x.k>20
   ·rw [decide_eq_true h21,decide_eq_true ⟨by omega,h26⟩]
   ·rw [decide_eq_false h21,decide_eq_false (by omega)]
  rw [epat]
  rw [aB,if_pos (by simp),bB,show aadd ⟨A,0,some 0⟩ 0=⟨A,0,some 0⟩ from rfl,hA2.st.ldN (off:=0) (k:=2) (by simp)]
  simp only [wpS,List.drop_zero,List.take_succ_cons,List.take_zero]
  rw [aM hS2 7 rfl]
  simp only [nvC,wpS]
  rw [aD]
  refine WpF.mono (wp_alone62 hA2.tree hA2.dl hA2.cl q k hsh (by omega) hcon) ?_
  rintro _ σ3 ⟨rfl,hF3⟩
  have hS3:=hF3.stN hS2
  have hA3:=hA2.frm hF3
  have hF03:=hF02.seq hF3
  have hCA:C≠A:=by omega
  simp only [wpS,T32k3,Bool.not_true]
  rw [aB,if_neg (by simp),aE hA3.st (i:=2) rfl]
  simp only [wpS]
  have ep:aR (((p:Nat):Int)+1)=((p+1:Nat):Int):=by rw [aS (by omega)];omega
  have ed:aR (((60 - (n+1):Nat):Int)+1)=((60 - n:Nat):Int):=by rw [aS (by omega)];omega
  rw [ep]
  refine bN hA3.st (by simp) rfl fun σ4 hF4 hn4 hS4=>?_
  have hA4:Ask σ4 A pn N cn pd D cd (p+1):=hA3.bump hF4 hS4
  have hSC4:=hF4.st hS3 hCA
  have hrow4:aQ σ4 (· =A) 1 natR q v.kids:=(hrow.later hF03).step (Y':=(· =A)) hF4 (fun _ _ h=>h) (fun _ _ h=>h) fun _ _ h=>h
  have hF04:Frm σ σ4 (· =A):=(hF03.mono fun _ _ h=>h.elim).trans hF4 (fun _ _ h=>h) fun _ _ h=>h
  clear hA3 hS3 hA2 hS2 hF3 hF4 hF03 hF02
  rw [aE hSC4 (i:=4) (v:=.slice q v.kids.length k) rfl]
  simp only [wpS]
  generalize hR:(fun i=>pat||(decide (v.x.k=11)&&decide (i % 2=1)))=pt at hkw
  refine Wp.count v.kids.length (fun j st σ'=>∃ next,st=[.int .i64 ((j:Nat):Int),.bool false]∧Ask σ' A pn N cn pd D cd next∧gA (bZ N D n) pt (v.kids.drop j) j next=some e∧Frm σ4 σ' (· =A))
   ⟨p+1,rfl,hA4,by rw [List.drop_zero];exact hkw,Frm.refl _ _⟩ ?_ ?_
  ·rintro j st σ5 hj ⟨next,rfl,hA5,hk5,hF5⟩
   have ej:aR ((j:Int)+1)=((j+1:Nat):Int):=by rw [aS (by omega)];omega
   have hSC5:=hF5.st hSC4 hCA
   have hrow5:=hrow4.step (Y':=(· =A)) hF5 (fun _ _ h=>h) (fun _ _ h=>h) fun _ _ h=>h
   rw [List.drop_eq_getElem_cons hj,gA] at hk5
   split at hk5
   case isFalse=>cases hk5
   rename_i hnx
   obtain ⟨e2,hw2,hk5⟩:=aT hk5
   unfold T32b0
   simp only [wpS]
   rw [aB,if_pos (by simp;omega),aI]
   refine bS hrow5 hj rfl fun cs hcs=>⟨_,hcs,?_⟩
   simp only [wpS]
   rw [aE hA5.st (i:=2) rfl]
   simp only [wpS]
   rw [aB,if_pos (by rw [hnx];simp),ed]
   have back:∀ (b:Bool),b=pt j→Wp aF ovD (.call 32 [.pointer (some ⟨A,0,some 0⟩),.bool b,.int .i64 ((60 - n:Nat):Int)] fun v=>eV v fun b124=>.ret .normal [.bool (!b124)]) σ5 fun e_1 vs σ'=>Wp aF ovD (T32k0 false e_1 vs) σ' fun e_1 vs σ'=>Wp aF ovD (T32k1 ((j:Nat):Int) e_1 vs) σ' fun e_1 st' σ'=>match e_1 with
     | .normal=>∃ next,st'=[.int .i64 ((j+1:Nat):Int),.bool false]∧Ask σ' A pn N cn pd D cd next∧gA (bZ N D n) pt (v.kids.drop (j+1)) (j+1) next=some e∧Frm σ4 σ' (· =A)
     |e_2=>Wp aF ovD (T32k2 e_2 st') σ' fun _ vs σ'=>∃ w,vs=[w]∧w=.bool true∧Ask σ' A pn N cn pd D cd e∧Frm σ σ' (· =A):=by
    rintro b rfl
    rw [aD]
    refine WpF.mono (ih next (pt j) e2 σ5 (by omega) hw2 hA5) ?_
    rintro _ σ6 ⟨rfl,hA6,hF6⟩
    simp only [wpS,T32k0,Bool.not_true]
    rw [aB,if_neg (by simp)]
    simp only [wpS,T32k1,ej]
    exact ⟨e2,trivial,hA6,hk5,hF5.trans hF6 (fun _ _ h=>h) fun _ _ h=>h⟩
   rw [aB]
   cases pat with
   |true=>
    rw [if_neg (by simp)]
    exact back true (by rw [←hR];simp)
   |false=>
    rw [if_pos (by rfl),aE hSC5 (i:=0) rfl]
    simp only [wpS]
    rw [aB]
    by_cases h11:v.x.k=11
    ·rw [if_pos (by simpa using h11),aD]
     refine WpF.of (T36_eq _) rfl ?_
     rw [T36]
     simp only [wpS]
     refine ⟨_,rfl,?_⟩
     simp only [wpS]
     refine back _ ?_
     rw [←hR,Int.tmod_eq_emod_of_nonneg (by omega)]
     simp only [Bool.false_or,h11,decide_true,Bool.true_and]
     by_cases h2:j % 2=1
     ·rw [decide_eq_true h2,beq_iff_eq];omega
     ·rw [decide_eq_false h2,beq_eq_false_iff_ne];omega
    ·rw [if_neg (by simpa using h11)]
     exact back false (by rw [←hR];simp [h11])
  ·rintro st σ5 ⟨next,rfl,hA5,hk5,hF5⟩
   rw [List.drop_length,gA] at hk5
   obtain rfl:=ofS hk5
   unfold T32b0
   simp only [wpS]
   rw [aB,if_neg (by simp)]
   simp only [wpS,T32k2]
   exact ⟨_,rfl,rfl,hA5,hF04.trans hF5 (fun _ _ h=>h) fun _ _ h=>h⟩
end
end Go.Pg
namespace Go.Pg
open Go.Proofs Go.Utf8 Go.Lib
set_option linter.unusedSimpArgs false
def eQ (n:Nat) (L:List (List Int)):List (List Int):=L.map fun r=>r.take n++List.replicate (n - r.length) (-1)
theorem wideC_len {n:Nat} {L:List (List Int)}:∀ y∈eQ n L,y.length=n:=by
 intro y hy
 obtain ⟨r,_,rfl⟩:=List.mem_map.1 hy
 rw [List.length_append,List.length_take,List.length_replicate]
 omega
theorem wideC_same {n:Nat} {L:List (List Int)} (h:∀ r∈L,r.length=n):eQ n L=L:=by
 unfold eQ
 rw [List.map_congr_left (g:=id)]
 ·simp
 ·intro r hr
  rw [List.take_of_length_le (by rw [h r hr];exact Nat.le_refl _),h r hr,Nat.sub_self]
  simp
section
variable {σ σ':aC} {Y:Nat→Prop} {q:Option Addr} {k:Nat} {L:List (List Int)}
theorem RI.take {l:List Int} (h:RI σ Y q k l) (m:Nat):RI σ Y q k (l.take m):=
 ⟨fun i hi=>by
  have hi2:i<l.length:=by rw [List.length_take] at hi;omega
  obtain ⟨x,cs,h1,h2,h3,h4⟩:=h.row i hi2
  exact ⟨x,cs,h1,h2,h3,by rw [List.getElem_take];exact h4⟩,h.emp,by rw [List.length_take];have:=h.cap;omega,h.may⟩
theorem minV_nat (a b:Nat):minV ((a:Nat):Int) ((b:Nat):Int)=((min a b:Nat):Int):=by
 unfold minV
 by_cases h:a≤b
 ·rw [if_neg (by omega),Nat.min_eq_left h]
 ·rw [if_pos (by omega),Nat.min_eq_right (Nat.le_of_not_le h)]
theorem wp_wide23 (n:Nat) (hn:n≤1000000) (hL:aQ σ Y 1 (rwR σ Y) q L) (hl:L.length≤1000000):
  WpF aF ovD 23 [.slice q L.length k,.int .i64 ((n:Nat):Int)] σ fun v σ'=>∃ q' k',v=.slice q' L.length k'∧aQ σ' (fun j=>j<σ.n) 1 (rwR σ' (fun j=>j<σ.n)) q' (eQ n L)∧Frm σ σ' NoB:=by
 refine WpF.of (T23_eq _ _ _ _) rfl ?_
 rw [T23]
 refine Wp.count L.length (fun i st σ'=>∃ p c rb css,st=[.int .i64 ((i:Nat):Int),.slice p i c]∧Frm σ σ' NoB∧GR rwR 1 σ' (fun j=>j<σ.n) rb (eQ n (L.take i)) css p c)
  ⟨none,0,0,[],rfl,Frm.refl _ _,.zero⟩ ?_ ?_
 ·rintro i st σ1 hi ⟨p,c,rb,css,rfl,hF1,hG1⟩
  have ei:aR ((i:Int)+1)=((i+1:Nat):Int):=by rw [aS (by omega)];omega
  have hil:(eQ n (L.take i)).length=i:=by unfold eQ;rw [List.length_map,List.length_take];omega
  have hstep:eQ n (L.take (i+1))=eQ n (L.take i)++[L[i].take n++List.replicate (n - L[i].length) (-1)]:=by
   unfold eQ
   rw [List.take_succ_eq_append_getElem hi,List.map_append]
   try rfl
  unfold T23b1
  simp only [wpS]
  rw [aB,if_pos (by simp;omega),aI]
  refine bS (hL.frmM aY hF1) hi rfl fun cs hcs=>?_
  generalize L[i]=r at hcs hstep
  obtain ⟨qr,kr,rfl,hRI⟩:=hcs
  have hcap:=hRI.cap
  refine ⟨_,rfl,?_⟩
  simp only [wpS]
  rw [bB,dB]
  simp only [wpS,minV_nat]
  have hF2:Frm σ1 (σ1.newBlk [] 1) NoB:=Frm.new _ _ _ _
  have hR2:Row (σ1.newBlk [] 1) σ1.n 0 1 0 1 []:=Row.new σ1 1 [] 0 (by decide) rfl (by simp)
  generalize σ1.newBlk [] 1=σ2 at hF2 hR2 ⊢
  rw [aP]
  refine ⟨by simp;omega,?_⟩
  rw [Int.toNat_natCast]
  have hT:=(hRI.frm hF2).take (min r.length n)
  have hn1:=hF1.n
  have hn2:=hF2.n
  refine jF (b:=σ1.n) (xs:=[]) (ys:=(r.take (min r.length n)).map jY) (.inr ⟨0,1,rfl,hR2⟩) rfl (hT.row.src (fun _ _ h=>h) hT.emp) (by rw [List.length_map,List.length_take];omega) (by intro y hy;obtain ⟨j,_,rfl⟩:=List.mem_map.1 hy;rfl) (by omega) (by omega) fun σ3 b3 p3 c3 hF3 hb3 hO3=>?_
  rw [Nat.zero_add]
  have etake:r.take (min r.length n)=r.take n:=by
   rw [←List.take_take]
   by_cases h:r.length≤n
   ·rw [List.take_of_length_le h,List.take_length]
   ·rw [List.take_take,Nat.min_eq_right (by omega)]
  have hF13:Frm σ1 σ3 NoB:=hF2.fresh hF3 fun j hj h=>by omega
  have hb3n:p3≠none→σ1.n≤b3:=fun h=>by
   rcases hb3 with h2|⟨_,h2⟩|h2
   ·exact absurd h2 h
   ·omega
   ·omega
  rw [List.nil_append,etake] at hO3
  refine Wp.count (n - r.length) (fun t st σ'=>∃ po c b,st=[.slice po (min r.length n+t) c]∧Frm σ3 σ' (fun j=>p3≠none∧j=b3)∧SlV σ' b po c ((r.take n++List.replicate t (-1)).map jY)∧(po≠none→σ1.n≤b)∧(po≠none→(p3≠none∧b=b3)∨σ3.n≤b)) ⟨p3,c3,b3,rfl,Frm.refl _ _,by simpa using hO3,hb3n,fun h=>.inl ⟨h,rfl⟩⟩ ?_ ?_
  ·rintro t st σ4 ht ⟨po,c4,b4,rfl,hF4,hO4,hb4,hb4'⟩
   unfold T23b0
   simp only [wpS]
   rw [aB,if_pos (by simp;omega),aI]
   refine wp_app1 hO4 (by rw [List.length_map,List.length_append,List.length_take,List.length_replicate];omega) rfl (by omega) (by omega) fun σ5 b5 off5 s5 c5 hF5 hb5 hO5=>?_
   simp only [wpS,T23k0]
   have hn4:=hF4.n
   refine ⟨_,c5,b5,by rw [Nat.add_assoc],hF4.trans hF5 (fun _ _ h=>h) ?_,.inr ⟨off5,s5,rfl,?_⟩,fun _=>?_,fun _=>?_⟩
   ·rintro j hj ⟨h1,h2⟩
    rcases hb4' h1 with ⟨h3,h4⟩|h3
    ·exact ⟨h3,by omega⟩
    ·omega
   ·rw [List.replicate_succ',←List.append_assoc,List.map_append]
    exact hO5
   ·have:=hF13.n
    rcases hb5 with ⟨h1,h2⟩|h1
    ·have:=hb4 h1;omega
    ·omega
   ·rcases hb5 with ⟨h1,h2⟩|h1
    ·rw [h2];exact hb4' h1
    ·exact .inr (by omega)
  ·rintro st σ4 ⟨po,c4,b4,rfl,hF4,hO4,hb4,_⟩
   unfold T23b0
   simp only [wpS]
   rw [aB,if_neg (by simp;omega)]
   simp only [wpS,T23k1]
   have hF14:Frm σ1 σ4 NoB:=hF13.fresh hF4 fun j hj h=>by have:=hb3n h.1;omega
   have hG4:=hG1.frmN aY hF14
   have hlen:min r.length n+(n - r.length)=(r.take n++List.replicate (n - r.length) (-1)).length:=by rw [List.length_append,List.length_take,List.length_replicate];omega
   rw [hlen]
   have hb:rwR σ4 (fun j=>j<σ.n∨p≠none∧j=rb) [.slice po (r.take n++List.replicate (n - r.length) (-1)).length c4] (r.take n++List.replicate (n - r.length) (-1)):=by
    refine ⟨po,c4,rfl,RI.own hO4 fun h h2=>?_⟩
    have h3:=hb4 h
    rcases h2 with h2|⟨h2,h4⟩
    ·omega
    ·have:=hG1.lt h2;omega
   have hadd:=fI (P:=aF) (ov:=ovD) (byt:=24) (Q:=fun e vs σ'=>Wp aF ovD (T23k2 ((i:Nat):Int) e vs) σ' fun e st' σ'=>match e with
    | .normal=>∃ p c rb css,st'=[.int .i64 ((i+1:Nat):Int),.slice p (i+1) c]∧Frm σ σ' NoB∧GR rwR 1 σ' (fun j=>j<σ.n) rb (eQ n (L.take (i+1))) css p c
    |e=>Wp aF ovD (T23k3 e st') σ' fun _ vs σ'=>∃ v,vs=[v]∧∃ q' k',v=.slice q' L.length k'∧aQ σ' (fun j=>j<σ.n) 1 (rwR σ' (fun j=>j<σ.n)) q' (eQ n L)∧Frm σ σ' NoB) aY (fun j h=>by have:=hF14.n;omega) hG4 (by decide) (by decide) rfl (by intro y hy;simp at hy;subst hy;rfl) hb (by omega) (by decide)
    (g:=fun p' n' c'=>.ret .normal [.slice p' n' c']) fun σ5 rb5 p5 c5 hF5 hrb5 hG5=>by
     simp only [wpS,T23k2,ei]
     rw [hil,hstep]
     exact ⟨some p5,c5,rb5,_,rfl,(hF1.seq hF14).fresh hF5 fun j hj h=>absurd hj (hG1.hr h.1 |> fun h2=>by rw [h.2];exact h2),hG5⟩
   rw [hil] at hadd
   exact hadd
 ·rintro st σ1 ⟨p,c,rb,css,rfl,hF1,hG1⟩
  rw [List.take_length] at hG1
  unfold T23b1
  simp only [wpS]
  rw [aB,if_neg (by simp)]
  simp only [wpS,T23k3]
  exact ⟨_,rfl,p,c,rfl,hG1.close aY (by decide),hF1⟩
end
structure eP (σ:aC) (Y:Nat→Prop) (pn:Option Addr) (N:List NV) (pd:Option Addr) (D:List Dc):Prop where
 tree:cU σ Y pn N pd D
 nl:N.length≤1000000
 dl:D.length≤1000000
 cl:∀ d∈D,d.cons.length≤1000000
 kl:∀ v∈N,v.kids.length≤1000000
 al:∀ d∈D,∀ c∈d.cons,c.args.length≤1000000
section
variable {σ σ':aC} {Y:Nat→Prop} {N:List NV} {D:List Dc} {pn pd:Option Addr} {cn cd:Nat} {q:Option Addr} {k:Nat} {L:List (List Int)}
theorem eP.step {S Y':Nat→Prop} (h:eP σ Y pn N pd D) (f:Frm σ σ' S) (hS:∀ j,j<σ.n→S j→Y j) (hY:∀ j,j<σ.n→Y' j→Y j):eP σ' Y' pn N pd D:=⟨h.tree.step f hS hY,h.nl,h.dl,h.cl,h.kl,h.al⟩
theorem eP.frm (h:eP σ Y pn N pd D) (f:Frm σ σ' NoB):eP σ' Y pn N pd D:=⟨h.tree.frm f,h.nl,h.dl,h.cl,h.kl,h.al⟩
theorem wp_Useful17 (h:eP σ Y pn N pd D) (hL:aQ σ Y 1 (rwR σ Y) q L) (hl:L.length≤1000000) {q2:Option Addr} {k2:Nat} {row:List Int} (hR:RI σ Y q2 k2 row) (hr:row.length≤1000000):
  WpF aF ovD 17 [trV pn N.length cn pd D.length cd,.slice q L.length k,.slice q2 row.length k2] σ fun v σ'=>v=.bool (bG N D 10001 (eQ row.length L) row 0).1∧Frm σ σ' NoB:=by
 refine WpF.of (T17_eq _ _ _ _ _ _ _ _ _ _ _ _) rfl ?_
 rw [T17]
 refine aN fun σ1 hF1 hn1 hS1=>?_
 rw [aM hS1 2 rfl]
 simp only [wpS]
 refine aN fun σ2 hF2 hn2 hS2=>?_
 generalize hA:σ1.n=A at hS2
 have hF02:=hF1.seq hF2
 rw [aD]
 refine WpF.mono (wp_wide23 row.length hr (hL.frmM aY hF02) hl) ?_
 rintro _ σ3 ⟨q3,k3,rfl,hL3,hF3⟩
 simp only [wpS]
 have hF03:=hF02.seq hF3
 have hA2:A<σ2.n:=hS2.1
 have h3:Ask σ3 A pn N cn pd D cd 0:=⟨hF3.stN hS2,h.tree.step (S:=NoB) hF03 (fun _ _ h=>h.elim) fun j hj h=>by omega,h.nl,h.dl,h.cl,h.kl,h.al⟩
 have hL3':aQ σ3 (· =A) 1 (rwR σ3 (· =A)) q3 (eQ row.length L):=by
  have hy:∀ j,j<σ3.n→j=A→j<σ2.n:=fun j _ h=>by omega
  exact aQ.step (S:=NoB) (Frm.refl _ _) (fun _ _ h=>h.elim) hy (fun _ _ h=>aY _ _ _ _ _ _ _ (Frm.refl _ NoB) (fun _ _ h=>h.elim) hy h) hL3
 have hR3:RI σ3 (· =A) q2 k2 row:=hR.step (S:=NoB) hF03 (fun _ _ h=>h.elim) fun j hj h=>by omega
 have hwl:(eQ row.length L).length=L.length:=by unfold eQ;rw [List.length_map]
 rw [aD]
 have key:=wp_useful24 10001 (eQ row.length L) row 0 σ3 q3 k3 q2 k2 (by omega) (by omega) (by omega) (by omega) h3 hL3' hR3 (by rw [hwl];exact hl) wideC_len (by omega)
 rw [hwl] at key
 refine WpF.mono key ?_
 rintro _ σ4 ⟨rfl,_,hF4⟩
 simp only [wpS]
 exact ⟨_,rfl,rfl,hF03.fresh hF4 fun j hj h=>by omega⟩
def allC (N:List NV) (D:List Dc) (L:List (List Int)):Bool:=match L with
 |[]=>false
 |r::_=>let u:=bG N D 10001 (eQ r.length L) (List.replicate r.length (-1)) 0;!u.1&&decide (u.2≤10000)
theorem wp_All11 (h:eP σ Y pn N pd D) (hL:aQ σ Y 1 (rwR σ Y) q L) (hl:L.length≤1000000) (hr:∀ r∈L,r.length≤1000000):
  WpF aF ovD 11 [trV pn N.length cn pd D.length cd,.slice q L.length k] σ fun v σ'=>v=.bool (allC N D L)∧Frm σ σ' NoB:=by
 refine WpF.of (T11_eq _ _ _ _ _ _ _ _ _) rfl ?_
 rw [T11]
 refine aN fun σ1 hF1 hn1 hS1=>?_
 rw [aB]
 cases L with
 |nil=>
  rw [if_pos (by rfl)]
  simp only [wpS]
  exact ⟨_,rfl,rfl,hF1⟩
 |cons r L=>
 rw [if_neg (by simp;omega),aM hS1 2 rfl]
 simp only [wpS]
 refine aN fun σ2 hF2 hn2 hS2=>?_
 generalize hA:σ1.n=A at hS2
 have hF02:=hF1.seq hF2
 have hA2:A<σ2.n:=hS2.1
 have hL2:=hL.frmM aY hF02
 have hrl:=hr r (by simp)
 obtain ⟨x,cs,rfl,_,h3,h4⟩:=hL2 0 (by simp)
 obtain ⟨qr,kr,rfl,hRI⟩:=h4
 simp only [wpS]
 rw [aP]
 refine ⟨by simp,?_⟩
 have e0:ld1 (aadd x 0) σ2=some (.slice qr r.length kr,σ2):=by
  unfold ld1
  rw [show aadd x 0=aadd x (0*1) from rfl,h3]
  try rfl
 rw [bB,e0]
 simp only [wpS]
 rw [bB,dB]
 simp only [wpS]
 have hFn:Frm σ2 (σ2.newBlk [.slice none 0 0] 1) NoB:=Frm.new _ _ _ _
 have hRn:Row (σ2.newBlk [.slice none 0 0] 1) σ2.n 0 1 1 1 [.slice none 0 0]:=Row.new σ2 1 [.slice none 0 0] 1 (by decide) rfl (by simp [one])
 generalize σ2.newBlk [.slice none 0 0] 1=σ3 at hFn hRn ⊢
 have hL3:aQ σ3 (fun j=>j<σ2.n) 1 (rwR σ3 (fun j=>j<σ2.n)) (some ⟨σ2.n,0,some 1⟩) [[]]:=
  aQ.own (css:=[[.slice none 0 0]]) hRn (by omega) rfl (by simp) fun i h1 h2=>by
   have:i=0:=by simpa using h1
   subst this
   exact ⟨none,0,rfl,RI.nil⟩
 rw [aD]
 refine WpF.mono (wp_wide23 (L:=[[]]) r.length hrl hL3 (by simp)) ?_
 rintro _ σ4 ⟨q4,k4,rfl,hL4,hF4⟩
 simp only [wpS]
 have ew:eQ r.length [[]]=[List.replicate r.length (-1)]:=by simp [eQ]
 rw [ew] at hL4
 obtain ⟨x4,cs4,rfl,_,h5,h6⟩:=hL4 0 (by simp)
 simp only [List.getElem_cons_zero] at h6
 obtain ⟨q5,k5,rfl,hRI5⟩:=h6
 simp only [wpS]
 rw [aP]
 refine ⟨by simp,?_⟩
 have e5:ld1 (aadd x4 0) σ4=some (.slice q5 (List.replicate r.length (-1:Int)).length k5,σ4):=by
  unfold ld1
  rw [show aadd x4 0=aadd x4 (0*1) from rfl,h5]
 rw [bB,e5]
 simp only [wpS]
 rw [aD]
 have hF04:=(hF02.seq hFn).seq hF4
 refine WpF.mono (wp_wide23 r.length hrl (hL.frmM aY hF04) hl) ?_
 rintro _ σ6 ⟨q6,k6,rfl,hL6,hF6⟩
 simp only [wpS]
 have hF06:=hF04.seq hF6
 have hF26:=(hFn.seq hF4).seq hF6
 have hn26:=hF26.n
 have hn24:=(hFn.seq hF4).n
 have h6a:Ask σ6 A pn N cn pd D cd 0:=⟨hF26.stN hS2,h.tree.step (S:=NoB) hF06 (fun _ _ h=>h.elim) fun j hj h=>by omega,h.nl,h.dl,h.cl,h.kl,h.al⟩
 have hL6':aQ σ6 (· =A) 1 (rwR σ6 (· =A)) q6 (eQ r.length (r::L)):=by
  have hy:∀ j,j<σ6.n→j=A→j<σ4.n:=fun j _ h=>by omega
  exact aQ.step (S:=NoB) (Frm.refl _ _) (fun _ _ h=>h.elim) hy (fun _ _ h=>aY _ _ _ _ _ _ _ (Frm.refl _ NoB) (fun _ _ h=>h.elim) hy h) hL6
 have hR6:RI σ6 (· =A) q5 k5 (List.replicate r.length (-1)):=hRI5.step (S:=NoB) hF6 (fun _ _ h=>h.elim) fun j hj h=>by have:=hFn.n;show j<σ3.n;omega
 have hwl:(eQ r.length (r::L)).length=(r::L).length:=by unfold eQ;rw [List.length_map]
 rw [aD]
 have key:=wp_useful24 10001 (eQ r.length (r::L)) (List.replicate r.length (-1)) 0 σ6 q6 k6 q5 k5 (by omega) (by omega) (by omega) (by omega) h6a hL6' hR6 (by rw [hwl];exact hl) (fun y hy=>by rw [List.length_replicate];exact wideC_len y hy) (by rw [List.length_replicate];omega)
 rw [hwl] at key
 refine WpF.mono key ?_
 rintro _ σ7 ⟨rfl,h7,hF7⟩
 simp only [wpS]
 have hF07:Frm σ σ7 NoB:=hF06.fresh hF7 fun j hj h=>by omega
 have ha:allC N D (r::L)=(!(bG N D 10001 (eQ r.length (r::L)) (List.replicate r.length (-1)) 0).1&&decide ((bG N D 10001 (eQ r.length (r::L)) (List.replicate r.length (-1)) 0).2≤10000)):=rfl
 generalize bG N D 10001 (eQ r.length (r::L)) (List.replicate r.length (-1)) 0=u at h7 ha
 obtain ⟨u1,u2⟩:=u
 rw [aB]
 cases u1 with
 |true=>
  rw [if_neg (by simp)]
  simp only [wpS,T11k0]
  exact ⟨_,rfl,by rw [ha];rfl,hF07⟩
 |false=>
  rw [if_pos (by rfl),aE h7.st (v:=.int .i64 ((u2:Nat):Int)) rfl]
  simp only [wpS,T11k0]
  refine ⟨_,rfl,?_,hF07⟩
  rw [ha]
  simp only [Bool.not_false,Bool.true_and]
  congr 1
  exact decide_eq_decide.2 (by omega)
end
end Go.Pg
namespace Go.Pg
section
variable {N:List NV} {D:List Dc}
theorem kidsW_at {q:Nat→Bool→Option Nat} {R:Nat→Nat→Prop} (hq:∀ p b e,q p b=some e→p<e∧∀ i,p≤i→i<e→R i e) (hR:∀ i a b,R i a→a≤b→R i b) (pat:Nat→Bool):
  ∀ (l:List Nat) (i next e:Nat),gA q pat l i next=some e→next≤e∧∀ j,next≤j→j<e→R j e
 |[],i,next,e,h=>by
  cases ofS h
  exact ⟨Nat.le_refl _,fun j h1 h2=>by omega⟩
 |k::l,i,next,e,h=>by
  rw [gA] at h
  split at h
  ·rename_i hk
   subst hk
   obtain ⟨a,h1,h⟩:=aT h
   obtain ⟨p1,p2⟩:=hq _ _ _ h1
   obtain ⟨q1,q2⟩:=kidsW_at hq hR pat l (i+1) a e h
   refine ⟨by omega,fun j h3 h4=>?_⟩
   by_cases h5:j<a
   ·exact hR _ _ _ (p2 j h3 h5) q1
   ·exact q2 j (by omega) h4
  ·cases h
theorem walk_at:∀ (n p:Nat) (pat:Bool) (e:Nat),bZ N D n p pat=some e→p<e∧∀ i,p≤i→i<e→∃ m b e',e'≤e∧bZ N D m i b=some e'
 |0,_,_,_,h=>by cases h
 |n+1,p,pat,e,h=>by
  have h0:=h
  rw [bZ] at h
  split at h
  ·cases h
  ·rename_i v hv
   split at h
   ·rename_i hs
    obtain ⟨a,h1,h⟩:=aT h
    split at h
    ·cases h
    ·have hx:=ofS h
     subst hx
     obtain ⟨q1,q2⟩:=kidsW_at (R:=fun i e=>∃ m b e',e'≤e∧bZ N D m i b=some e') (walk_at n) (fun i a b ⟨m,c,e',h1,h2⟩ h3=>⟨m,c,e',by omega,h2⟩) _ _ _ _ _ h1
     refine ⟨by omega,fun i h2 h3=>?_⟩
     by_cases h4:i=p
     ·subst h4
      exact ⟨n+1,pat,_,Nat.le_refl _,h0⟩
     ·exact q2 i (by omega) h3
   ·cases h
end
end Go.Pg
namespace Go.Pg
open Go.Proofs Go.Utf8 Go.Lib
set_option linter.unusedSimpArgs false
theorem tA:∀ l:List (List UInt8),cW l=false↔l.Nodup
 |[]=>by simp [cW]
 |s::l=>by
  rw [cW,Bool.or_eq_false_iff,tA l,List.nodup_cons]
  constructor
  ·rintro ⟨h1,h2⟩
   exact ⟨fun h=>(by rw [List.contains_iff_mem.2 h] at h1;cases h1),h2⟩
  ·rintro ⟨h1,h2⟩
   exact ⟨by rw [Bool.eq_false_iff];exact fun h=>h1 (List.contains_iff_mem.1 h),h2⟩
theorem sub_flatMap {α β:Type} (f:α→List β) {a:α}:∀ {l:List α},a∈l→(f a).Sublist (l.flatMap f)
 |x::l,h=>by
  rw [List.flatMap_cons]
  rcases List.mem_cons.1 h with rfl|h
  ·exact List.sublist_append_left _ _
  ·exact (sub_flatMap f h).trans (List.sublist_append_right _ _)
section
variable {N:List NV} {D:List Dc}
theorem binds_fuel:∀ (m m' p:Nat),N.length≤m+p→N.length≤m'+p→bK N m p=bK N m' p
 |0,0,_,_,_=>rfl
 |0,m'+1,p,h,_=>by rw [bK,bK,List.getElem?_eq_none (by omega)]
 |m+1,0,p,_,h=>by rw [bK,bK,List.getElem?_eq_none (by omega)]
 |m+1,m'+1,p,h,h'=>by
  rw [bK,bK]
  cases hv:N[p]? with
  |none=>rfl
  |some v=>
   simp only
   split
   ·rfl
   ·congr 1
    funext k
    split
    ·rename_i hk
     exact binds_fuel m m' k (by omega) (by omega)
    ·rfl
theorem kidsW_idx {q:Nat→Bool→Option Nat} (hq:∀ p b e,q p b=some e→p<e) (pat:Nat→Bool):∀ (l:List Nat) (i next e:Nat),gA q pat l i next=some e→∀ x,next≤x→x<e→∃ j,∃ hj:j<l.length,∃ e',q l[j] (pat (i+j))=some e'∧l[j]≤x∧x<e'
 |[],i,next,e,h,x,h1,h2=>by
  cases ofS h
  omega
 |k::l,i,next,e,h,x,h1,h2=>by
  rw [gA] at h
  split at h
  ·rename_i hk
   obtain ⟨a,ha,h⟩:=aT h
   by_cases hx:x<a
   ·exact ⟨0,by simp,a,by rw [List.getElem_cons_zero,hk];exact ha,by rw [List.getElem_cons_zero];omega,hx⟩
   ·obtain ⟨j,hj,e',p1,p2,p3⟩:=kidsW_idx hq pat l (i+1) a e h x (by omega) h2
    refine ⟨j+1,by simpa using hj,e',?_,?_,p3⟩
    ·rw [List.getElem_cons_succ,show i+(j+1)=i+1+j by omega];exact p1
    ·rw [List.getElem_cons_succ];exact p2
  ·cases h
theorem walk_open {n p:Nat} {pat:Bool} {e:Nat} (h:bZ N D (n+1) p pat=some e):∃ v,N[p]?=some v∧bR v=true∧decide (v.x.k>20)=pat∧gA (bZ N D n) (fun i=>pat||(decide (v.x.k=11)&&decide (i % 2=1))) v.kids 0 (p+1)=some e∧(v.x.k=11→∀ i (hi:i<v.kids.length),i % 2=1→cW (bK N N.length v.kids[i])=false):=by
 rw [bZ] at h
 split at h
 ·cases h
 rename_i v hv
 split at h
 case isFalse=>cases h
 rename_i hc
 obtain ⟨e1,hk,h⟩:=aT h
 split at h
 ·cases h
 rename_i hno
 obtain rfl:=ofS h
 refine ⟨v,hv,hc.1,hc.2.1,hk,fun h11 i hi h2=>?_⟩
 cases ht:cW (bK N N.length v.kids[i]) with
 |false=>rfl
 |true=>exact absurd ⟨h11,i,hi,h2,by simpa [List.getD,hi] using ht⟩ hno
theorem pat_kids {v:NV} (h:bR v=true) (hk:v.x.k>20) (hl:v.kids≠[]):v.x.k=26:=by
 unfold bR at h
 simp only [Bool.and_eq_true,decide_eq_true_eq] at h
 obtain ⟨⟨⟨⟨⟨h1,h2⟩,h3⟩,_⟩,_⟩,_⟩:=h
 have hn:v.kids.length≠0:=fun h=>hl (List.eq_nil_of_length_eq_zero h)
 obtain ⟨i,hi⟩:∃ i:Nat,v.x.k=(i:Int):=⟨v.x.k.toNat,by omega⟩
 rw [hi] at h3 hk h2 ⊢
 unfold mA at h3
 rw [Int.toNat_natCast] at h3
 have:i=21∨i=22∨i=23∨i=24∨i=25∨i=26:=by omega
 rcases this with rfl|rfl|rfl|rfl|rfl|rfl
 all_goals first
  |rfl
  |(exfalso;apply hn;simpa [eY] using h3)
theorem binds_kid {p:Nat} {v:NV} (hv:N[p]?=some v) (hk:v.x.k=26) {k:Nat} (hm:k∈v.kids) (hp:p<k) (hN:k<N.length):(bK N N.length k).Sublist (bK N N.length p):=by
 obtain ⟨m,hm1⟩:∃ m,N.length=m+1:=⟨N.length - 1,by omega⟩
 have e:bK N N.length p=v.kids.flatMap fun k=>if p<k∧k<N.length∧v.x.k=26 then bK N m k else []:=by
  conv=>lhs;rw [hm1]
  rw [bK,hv]
  simp only
  rw [if_neg (by omega)]
 rw [e,binds_fuel N.length m k (by omega) (by omega)]
 have:=sub_flatMap (fun k=>if p<k∧k<N.length∧v.x.k=26 then bK N m k else []) hm
 rwa [if_pos ⟨hp,hN,hk⟩] at this
theorem walk_pat:∀ (n p e:Nat),bZ N D n p true=some e→∀ i,p≤i→i<e→(bK N N.length i).Sublist (bK N N.length p)
 |0,_,_,h,_,_,_=>by cases h
 |n+1,p,e,h,i,h1,h2=>by
  by_cases hi:i=p
  ·subst hi;exact .refl _
  have hlt:=gO h
  obtain ⟨v,hv,hs,hk,hkw,_⟩:=walk_open h
  obtain ⟨j,hj,e',p1,p2,p3⟩:=kidsW_idx (fun p b e h=>(gO h).1) _ _ _ _ _ hkw i (by omega) h2
  rw [Bool.true_or] at p1
  have hmem:=List.getElem_mem hj
  have hne:v.kids≠[]:=fun h=>by rw [h] at hj;exact absurd hj (Nat.not_lt_zero _)
  obtain ⟨v2,hv2,hkk⟩:=walk_node h
  rw [hv] at hv2
  cases hv2
  obtain ⟨q1,q2,_⟩:=hkk j hj
  exact (walk_pat n _ _ p1 i p2 p3).trans (binds_kid hv (pat_kids hs (by simpa using hk) hne) hmem q1 q2)
theorem walk_twice:∀ (n p e:Nat),bZ N D n p false=some e→∀ i,p≤i→i<e→∀ hN:i<N.length,20<N[i].x.k→cW (bK N N.length i)=false
 |0,_,_,h,_,_,_,_,_=>by cases h
 |n+1,p,e,h,i,h1,h2,hN,hk=>by
  obtain ⟨v,hv,hs,hkp,hkw,hno⟩:=walk_open h
  have hi:i≠p:=by
   rintro rfl
   rw [List.getElem?_eq_getElem hN] at hv
   rw [Option.some.inj hv] at hk
   simp at hkp
   omega
  obtain ⟨j,hj,e',p1,p2,p3⟩:=kidsW_idx (fun p b e h=>(gO h).1) _ _ _ _ _ hkw i (by omega) h2
  rw [Bool.false_or,Nat.zero_add] at p1
  cases hb:(decide (v.x.k=11)&&decide (j % 2=1)) with
  |false=>
   rw [hb] at p1
   exact walk_twice n _ _ p1 i p2 p3 hN hk
  |true=>
   rw [hb] at p1
   simp only [Bool.and_eq_true,decide_eq_true_eq] at hb
   have:=hno hb.1 j hj hb.2
   rw [tA] at this ⊢
   exact (walk_pat n _ _ p1 i p2 p3).nodup this
theorem cR.binds (g:cR N D) {i:Nat} (hi:i<N.length) (hk:20<N[i].x.k):cW (bK N N.length i)=false:=walk_twice _ _ _ g.walk i (Nat.zero_le _) hi hi hk
end
section
variable {σ σ':aC} {N:List NV} {D:List Dc} {Y:Nat→Prop} {pn pd:Option Addr} {cn cd:Nat}
theorem wp_Good21 (g:cR N D) (h:eP σ Y pn N pd D):WpF aF ovD 21 [trV pn N.length cn pd D.length cd] σ fun v σ'=>v=.bool true∧Frm σ σ' NoB:=by
 have hN:=g.most
 refine WpF.of (T21_eq _ _ _ _ _ _) rfl ?_
 rw [T21]
 refine aN fun σ1 hF1 hn1 hS1=>?_
 generalize hA:σ.n=A at hS1 hn1
 have h1:=h.frm hF1
 rw [aI,aE hS1 rfl]
 simp only [wpS]
 have hp:=g.pos
 rw [aB,if_pos (by simp;omega),aE hS1 rfl]
 simp only [wpS]
 rw [aB,if_pos (by simp;omega),aE hS1 rfl]
 simp only [wpS]
 rw [aD]
 refine WpF.mono (wp_decls31 (aQ.later h1.tree.decls (Frm.refl _ _):aQ σ1 Y 2 (dcR σ1 Y) pd D) g.types) ?_
 rintro _ σ2 ⟨rfl,hF2⟩
 have hS2:=hF2.stN hS1
 have h2:=h1.frm hF2
 simp only [wpS,T21k4,Bool.not_true]
 rw [aB,if_neg (by simp),aM hS2 2 rfl]
 simp only [wpS]
 refine aN fun σ3 hF3 hn3 hS3=>?_
 generalize hB:σ2.n=B at hS3 hn3
 have hS23:=hF3.stN hS2
 have h3:eP σ3 (· =B) pn N pd D:=h2.step (S:=NoB) hF3 (fun _ _ h=>h.elim) fun j hj h=>by omega
 have hA3:Ask σ3 B pn N cn pd D cd 0:=⟨hS3,h3.tree,h3.nl,h3.dl,h3.cl,h3.kl,h3.al⟩
 rw [aI,aD]
 refine WpF.mono (wp_walk32 hN 60 0 false N.length σ3 (Nat.le_refl _) g.walk hA3) ?_
 rintro _ σ4 ⟨rfl,hA4,hF4⟩
 have hF24:Frm σ2 σ4 NoB:=(hF3).fresh hF4 fun j hj h=>by omega
 have hS4:=hF24.stN hS2
 have h4:=h2.frm hF24
 simp only [wpS]
 rw [aB,if_pos (by rfl),aE hA4.st (i:=2) rfl]
 simp only [wpS]
 rw [aE hS4 (v:=.slice pn N.length cn) rfl]
 simp only [wpS,T21k3]
 rw [show (((N.length:Nat):Int) !=((N.length:Nat):Int))=false by simp,aB,if_neg (by simp),aE hS4 (v:=.slice pn N.length cn) rfl]
 simp only [wpS]
 have hF04:=(hF1.seq hF2).seq hF24
 refine Wp.count N.length (fun i st σ'=>st=[.int .i64 ((i:Nat):Int),.bool false]∧Frm σ4 σ' NoB) ⟨rfl,Frm.refl _ _⟩ ?_ ?_
 ·rintro i st σ5 hi ⟨rfl,hF5⟩
  have ei:aR ((i:Int)+1)=((i+1:Nat):Int):=by rw [aS (by omega)];omega
  have h5:=h4.frm hF5
  have hS5:=hF5.stN hS4
  unfold T21b0
  simp only [wpS]
  rw [aB,if_pos (by simp;omega),aI]
  refine dA h5.tree.nodes hi rfl fun cs hcs=>?_
  obtain ⟨q,k,rfl,hrow,_⟩:=hcs
  simp only [wpS]
  refine aN fun σ6 hF6 hn6 hS6=>?_
  refine bA hS6 rfl rfl fun σ7 hF7 hn7 hS7=>?_
  have hF57:Frm σ5 σ7 NoB:=hF6.fresh hF7 fun j hj h=>by omega
  have hS27:=hF57.stN hS5
  have h7:=h5.frm hF57
  rw [aI,aE hS7 (i:=0) rfl]
  simp only [wpS]
  rw [aD]
  refine WpF.mono (nF _) ?_
  rintro _ _ ⟨rfl,rfl⟩
  simp only [wpS]
  rw [aB]
  by_cases hk:21≤N[i].x.k∧N[i].x.k≤26
  case neg=>
   rw [if_neg (by simp;omega)]
   simp only [wpS,T21k0]
   rw [aB,if_neg (by simp)]
   simp only [wpS,T21k1,ei]
   exact ⟨trivial,hF5.seq hF57⟩
  rw [if_pos (by simp;omega),aM hS27 2 rfl]
  simp only [wpS]
  rw [aD]
  obtain ⟨m,b',e',_,hw⟩:=(walk_at _ _ _ _ g.walk).2 i (Nat.zero_le _) hi
  refine WpF.mono (wp_binds35 hN m i b' e' N.length _ hw (by omega) h7.tree) ?_
  rintro _ σ8 ⟨rb,q8,k8,rfl,hL8,_,hF8⟩
  simp only [wpS]
  rw [aD]
  have hbl:=mW _ _ _ _ hw N.length
  have hlt:=gO hw
  refine WpF.mono (rT (gK hL8) (by omega) (g.binds hi (by omega))) ?_
  rintro _ σ9 ⟨rfl,hF9⟩
  simp only [wpS,T21k0]
  rw [aB,if_neg (by simp)]
  simp only [wpS,T21k1,ei]
  exact ⟨trivial,hF5.seq (hF57.seq (hF8.seq hF9))⟩
 ·rintro st σ5 ⟨rfl,hF5⟩
  unfold T21b0
  simp only [wpS]
  rw [aB,if_neg (by simp)]
  simp only [wpS,T21k2]
  exact ⟨_,rfl,rfl,hF04.seq hF5⟩
end
end Go.Pg
namespace Go.Pg
open Go.Proofs Go.Utf8 Go.Lib
set_option linter.unusedSimpArgs false
section
variable {σ σ':aC} {Y:Nat→Prop} {N:List NV} {D:List Dc} {pn pd:Option Addr} {cn cd:Nat}
theorem cR.kidI {i:Nat} (h:cR N D) (hi:i<N.length) {j:Nat} (hj:j<N[i].kids.length):i<N[i].kids[j]∧N[i].kids[j]<N.length:=by
 obtain ⟨h1,u,h2,_⟩:=(h.node i hi).kid j hj
 exact ⟨h1,(List.getElem?_eq_some_iff.1 h2).1⟩
theorem keepN {β:Type} {c:Nat} {R:List Value→β→Prop} {p:Option Addr} {ts:List β} (h:aQ σ Y c R p ts) {i:Nat} (hi:i<ts.length):∃ x cs,p=some x∧R cs ts[i]∧∀ τ,Frm σ τ NoB→Go.Pg.ldN c (aadd x (i*c)) τ=some (.agg cs.toArray,τ):=by
 obtain ⟨x,cs,rfl,h1,h2,h3⟩:=h i hi
 refine ⟨x,cs,rfl,h3,fun τ f=>?_⟩
 unfold Go.Pg.ldN
 rw [oS f h1 fun _ _ h=>h.elim,h2]
theorem sF {a:Act} {v:Value} {l:List (Act × Value)} (h:a σ=some (v,σ)) (hl:chks l σ=true):chks ((a,v)::l) σ=true:=by
 unfold chks oZ
 rw [h,hl]
 simp [mR]
theorem wp_inner19 (hg:cR N D):∀ (m at_:Nat) (σ:aC) (Y:Nat→Prop),eP σ Y pn N pd D→N.length - at_≤m→at_<N.length→
  WpF aF ovD 19 [trV pn N.length cn pd D.length cd,.int .i64 ((at_:Nat):Int)] σ fun v σ'=>(∃ b,v=.bool b)∧Frm σ σ' NoB:=by
 intro m
 induction m with
 |zero=>intro at_ σ Y _ h1 h2;omega
 |succ m ih=>
 intro at_ σ Y h hm hat
 refine WpF.of (T19_eq _ _ _ _ _ _ _) rfl ?_
 rw [T19]
 refine aN fun σ1 hF1 hn1 hS1=>?_
 generalize hT:σ.n=T at hS1
 have h1:=h.frm hF1
 rw [aE hS1 (v:=.slice pn N.length cn) rfl]
 simp only [wpS]
 refine dA h1.tree.nodes hat rfl fun cs hcs=>?_
 have hkid:=fun j hj=>hg.kidI hat (j:=j) hj
 have hkl:=h.kl _ (List.getElem_mem hat)
 generalize hx:N[at_]=x at hcs hkid hkl
 obtain ⟨q,kq,rfl,hrow,_⟩:=hcs
 simp only [wpS]
 refine aN fun σ2 hF2 hn2 hS2=>?_
 generalize hX:σ1.n=X at hS2
 refine bA hS2 rfl rfl fun σ3 hF3 hn3 hS3=>?_
 have hF13:Frm σ1 σ3 NoB:=hF2.fresh hF3 fun j hj h=>by omega
 have hF03:=hF1.seq hF13
 have h3:=h.frm hF03
 have hT3:=hF13.stN hS1
 have hrow3:=hrow.later hF13
 rw [aE hS3 (v:=.int .i64 x.x.k) rfl]
 simp only [wpS]
 rw [aB]
 by_cases hk:x.x.k=26
 case neg=>
  rw [if_pos (by simpa using hk)]
  simp only [wpS]
  exact ⟨_,rfl,⟨_,rfl⟩,hF03⟩
 rw [if_neg (by simp [hk]),aM hT3 2 rfl]
 simp only [wpS]
 rw [aE hS3 (v:=.string (mkB x.x.nm)) rfl]
 simp only [wpS]
 rw [aD]
 refine WpF.mono (mY h3.tree.decls h3.dl h3.cl x.x.nm) ?_
 rintro _ σ4 ⟨rfl,hF4⟩
 have hF04:=hF03.seq hF4
 have hT4:=hF4.stN hT3
 have hS4:=hF4.stN hS3
 cases ho:ofD x.x.nm 0 D with
 |none=>
  simp only [ofV,wpS]
  rw [aB,if_neg (by simp)]
  simp only [wpS,T19k9]
  rw [aB,if_pos (by rfl)]
  simp only [wpS]
  exact ⟨_,rfl,⟨_,rfl⟩,hF04⟩
 |some y=>
 obtain ⟨d,c,w⟩:=y
 obtain ⟨_,hd,hc,hw⟩:=jK _ _ _ _ ho
 simp only [Nat.sub_zero] at hd hc hw
 simp only [ofV,wpS]
 have h4:=h.frm hF04
 obtain ⟨xd,csd,hxd,hcsd,hkd⟩:=Kp.ofRow h4.tree.decls hd
 obtain ⟨qd,kd,rfl,hrd⟩:=hcsd
 have hkd1:=hkd 1 _ (by decide) rfl
 obtain ⟨xc,csc,hxc,hcsc,hkc⟩:=Kp.ofRow hrd hc
 obtain ⟨qc,kc,rfl,hrc,_⟩:=hcsc
 have hkc1:=hkc 1 _ (by decide) rfl
 rw [hxc] at hkd1
 have hkT:Kp σ4 (aadd ⟨T,0,some 0⟩ 1) (.slice pd D.length cd):=Kp.st hT4 rfl
 rw [hxd] at hkT
 have gd:(decide (0≤((d:Nat):Int))&&decide (((d:Nat):Int)<((D.length:Nat):Int)))=true:=by simp;omega
 have gc:(decide (0≤((c:Nat):Int))&&decide (((c:Nat):Int)<((D[d].cons.length:Nat):Int)))=true:=by simp;omega
 rw [aB,if_pos (by rfl),dD hkT]
 simp only [wpS]
 rw [aP]
 refine ⟨gd,?_⟩
 rw [Int.toNat_natCast,dD hkd1]
 simp only [wpS]
 rw [aP]
 refine ⟨gc,?_⟩
 rw [Int.toNat_natCast,dD hkc1]
 simp only [wpS]
 rw [aE hS4 (v:=.slice q x.kids.length kq) rfl]
 simp only [wpS,T19k9]
 rw [aB]
 by_cases hlen:D[d].cons[c].args.length=x.kids.length
 case neg=>
  rw [if_pos (by simp;omega)]
  simp only [wpS]
  exact ⟨_,rfl,⟨_,rfl⟩,hF04⟩
 rw [if_neg (by simp [hlen])]
 have hX4:Frm σ1 σ4 NoB:=hF13.seq hF4
 refine Wp.count x.kids.length (fun i st σ'=>∃ b:Bool,st=[.int .i64 ((i:Nat):Int),.bool b]∧Frm σ4 σ' NoB) ⟨false,rfl,Frm.refl _ _⟩ ?_ ?_
 ·rintro i st σ5 hi ⟨b,rfl,hF5⟩
  have ei:aR ((i:Int)+1)=((i+1:Nat):Int):=by rw [aS (by omega)];omega
  have hS5:=hF5.stN hS4
  have hT5:=hF5.stN hT4
  have hF05:=hF04.seq hF5
  have h5:=h.frm hF05
  obtain ⟨hk1,hk2⟩:=hkid i hi
  have hrow5:=hrow3.later (hF4.seq hF5)
  obtain ⟨xk,csk,hxk,hcsk,hkk⟩:=Kp.ofRow hrow5 hi
  have hcsk':csk=[nC x.kids[i]]:=hcsk
  rw [hcsk'] at hkk
  have hkk0:=hkk 0 _ (by decide) rfl
  obtain ⟨xn,csn,hxn,hcsn,hkn⟩:=keepN h5.tree.nodes hk2
  generalize hkI:x.kids[i]=kid at hk1 hk2 hkk0 hkn hcsn
  have hkx:Kp σ5 (aadd ⟨X,0,some 0⟩ 4) (.slice q x.kids.length kq):=Kp.st hS5 rfl
  have hkt0:Kp σ5 (aadd ⟨T,0,some 0⟩ 0) (.slice pn N.length cn):=Kp.st hT5 rfl
  rw [hxk] at hkx
  rw [hxn] at hkt0
  have gi:(decide (0≤((i:Nat):Int))&&decide (((i:Nat):Int)<((x.kids.length:Nat):Int)))=true:=by simp;omega
  have gk:(decide (0≤((kid:Nat):Int))&&decide (((kid:Nat):Int)<((N.length:Nat):Int)))=true:=by simp;omega
  unfold T19b0
  simp only [wpS]
  rw [dD hkx]
  simp only [wpS]
  rw [aB,if_pos (by simp;omega),aI,dD hkt0]
  simp only [wpS]
  rw [dD hkx]
  simp only [wpS]
  rw [aP]
  refine ⟨gi,?_⟩
  have hkk0':Kp σ5 (aadd xk (Int.toNat ((i:Nat):Int)*1)) (nC kid):=hkk0
  rw [dD hkk0']
  simp only [wpS]
  rw [aP]
  refine ⟨gk,?_⟩
  have hkn':∀ τ,Frm σ5 τ NoB→Go.Pg.ldN 7 (aadd xn (Int.toNat ((kid:Nat):Int)*7)) τ=some (.agg csn.toArray,τ):=hkn
  rw [bB,hkn' σ5 (Frm.refl _ _)]
  have hkc2:N[kid].x.k=N[kid].x.k:=rfl
  generalize N[kid]=u at hcsn hkc2
  obtain ⟨qu,ku,rfl,_,_⟩:=hcsn
  simp only [wpS]
  refine aN fun σ6 hF6 hn6 hS6=>?_
  rw [cG,aP]
  refine ⟨sF (hkn' _ hF6) (eE (hkk0'.frm hF6) (eE (hkx.frm hF6) (eE (hkt0.frm hF6) rfl))),?_⟩
  generalize hZ:σ5.n=Z at hS6
  refine bA hS6 rfl rfl fun σ7 hF7 hn7 hS7=>?_
  have hF57:Frm σ5 σ7 NoB:=hF6.fresh hF7 fun j hj h=>by omega
  have hF47:=hF5.seq hF57
  rw [dD (hkT.frm hF47)]
  simp only [wpS]
  rw [aP]
  refine ⟨gd,?_⟩
  rw [Int.toNat_natCast,dD (hkd1.frm hF47)]
  simp only [wpS]
  rw [aP]
  refine ⟨gc,?_⟩
  rw [Int.toNat_natCast,dD (hkc1.frm hF47)]
  simp only [wpS]
  refine bS (hrc.later hF47) (by omega:i<D[d].cons[c].args.length) rfl fun cs hcs=>⟨_,hcs,?_⟩
  simp only [wpS]
  generalize D[d].cons[c].args[i]'_=want
  rw [aE hS7 (v:=.int .i64 u.x.k) rfl]
  simp only [wpS]
  have hF07:=hF05.seq hF57
  have h7:=h.frm hF07
  have hS7x:=hF57.stN hS5
  have hT7:=hF57.stN hT5
  have out:∀ τ,Frm σ τ NoB→Wp aF ovD (T19k7 ((i:Nat):Int) .ret [.bool false]) τ fun e st' σ'=>match e with
    | .normal=>∃ b:Bool,st'=[.int .i64 ((i+1:Nat):Int),.bool b]∧Frm σ4 σ' NoB
    |e=>Wp aF ovD (T19k8 e st') σ' fun _ vs σ'=>∃ v,vs=[v]∧(∃ b,v=.bool b)∧Frm σ σ' NoB:=by
   intro τ hτ
   simp only [wpS,T19k7,T19k8]
   exact ⟨_,rfl,⟨_,rfl⟩,hτ⟩
  have tail:∀ (b2:Bool) (s:ByteArray) (τ:aC),Frm σ7 τ NoB→Wp aF ovD (T19k6 (mkB want) ⟨T,0,some 0⟩ ⟨X,0,some 0⟩ ((i:Nat):Int) .normal [.bool b2,.string s]) τ fun e vs σ'=>Wp aF ovD (T19k7 ((i:Nat):Int) e vs) σ' fun e st' σ'=>match e with
    | .normal=>∃ b:Bool,st'=[.int .i64 ((i+1:Nat):Int),.bool b]∧Frm σ4 σ' NoB
    |e=>Wp aF ovD (T19k8 e st') σ' fun _ vs σ'=>∃ v,vs=[v]∧(∃ b,v=.bool b)∧Frm σ σ' NoB:=by
   intro b2 s τ hτ
   simp only [wpS,T19k6]
   rw [aB]
   by_cases hs:(s.toList==(mkB want).toList)=true
   ·rw [if_pos (by rw [hs];rfl),aM (hτ.stN hT7) 2 rfl]
    simp only [wpS]
    rw [dD (hkx.frm (hF57.seq hτ))]
    simp only [wpS]
    rw [aP]
    refine ⟨gi,?_⟩
    rw [dD (hkk0'.frm (hF57.seq hτ))]
    simp only [wpS]
    rw [aD]
    refine WpF.mono (ih kid τ Y (h7.frm hτ) (by omega) hk2) ?_
    rintro _ σ8 ⟨⟨b3,rfl⟩,hF8⟩
    simp only [wpS,T19k5]
    rw [aB]
    cases b3 with
    |true=>
     rw [if_neg (by simp)]
     simp only [wpS,T19k7,ei]
     exact ⟨_,rfl,(hF47.seq hτ).seq hF8⟩
    |false=>
     rw [if_pos (by rfl)]
     simp only [wpS]
     exact out _ ((hF07.seq hτ).seq hF8)
   ·rw [if_neg (by rw [Bool.eq_false_iff.2 hs];simp)]
    simp only [wpS,T19k5]
    rw [aB,if_pos rfl]
    simp only [wpS]
    exact out _ (hF07.seq hτ)
  rw [aB]
  by_cases c1:u.x.k=23
  ·rw [if_pos (by simpa using c1)]
   simp only [wpS]
   exact tail _ _ _ (Frm.refl _ _)
  rw [if_neg (by simpa using c1)]
  simp only [wpS]
  rw [aB]
  by_cases c2:u.x.k=24
  ·rw [if_pos (by simpa using c2)]
   simp only [wpS,T19k4]
   exact tail _ _ _ (Frm.refl _ _)
  rw [if_neg (by simpa using c2)]
  simp only [wpS]
  rw [aB]
  by_cases c3:u.x.k=25
  ·rw [if_pos (by simpa using c3)]
   simp only [wpS,T19k3,T19k4]
   exact tail _ _ _ (Frm.refl _ _)
  rw [if_neg (by simpa using c3)]
  simp only [wpS]
  rw [aB]
  by_cases c4:u.x.k=26
  case neg=>
   rw [if_neg (by simpa using c4)]
   simp only [wpS,T19k1,T19k2,T19k3,T19k4]
   exact tail _ _ _ (Frm.refl _ _)
  rw [if_pos (by simpa using c4),aM hT7 2 rfl]
  simp only [wpS]
  rw [aE hS7 (v:=.string (mkB u.x.nm)) rfl]
  simp only [wpS]
  rw [aD]
  refine WpF.mono (mY h7.tree.decls h7.dl h7.cl u.x.nm) ?_
  rintro _ σ8 ⟨rfl,hF8⟩
  have hT8:=hF8.stN hT7
  have h8:=h7.frm hF8
  have kind:∀ e:Nat,Wp aF ovD (.join (bif (decide (((e:Nat):Int)<0))==false then (.act (ld1 (aadd ⟨T,0,some 0⟩ 1)) fun v192=>aL v192 fun p193 n194 n195=>.ret .normal [(.bool (decide (((e:Nat):Int)≥((n194:Nat):Int))))]) else (.ret .normal [(.bool true)])) (T19k0 ⟨T,0,some 0⟩ ((e:Nat):Int) b)) σ8 fun e_1 vs σ'=>Wp aF ovD (T19k1 e_1 vs) σ' fun e_1 vs σ'=>Wp aF ovD (T19k2 e_1 vs) σ' fun e_1 vs σ'=>Wp aF ovD (T19k3 e_1 vs) σ' fun e_1 vs σ'=>Wp aF ovD (T19k4 e_1 vs) σ' fun e_1 vs σ'=>Wp aF ovD (T19k6 (mkB want) ⟨T,0,some 0⟩ ⟨X,0,some 0⟩ ((i:Nat):Int) e_1 vs) σ' fun e vs σ'=>Wp aF ovD (T19k7 ((i:Nat):Int) e vs) σ' fun e st' σ'=>match e with
    | .normal=>∃ b:Bool,st'=[.int .i64 ((i+1:Nat):Int),.bool b]∧Frm σ4 σ' NoB
    |e=>Wp aF ovD (T19k8 e st') σ' fun _ vs σ'=>∃ v,vs=[v]∧(∃ b,v=.bool b)∧Frm σ σ' NoB:=by
   intro e
   simp only [wpS]
   rw [aB,if_pos (by simp),aE hT8 (v:=.slice pd D.length cd) rfl]
   simp only [wpS,T19k0]
   rw [aB]
   by_cases he:e<D.length
   ·rw [if_neg (by simp;omega),aE hT8 (v:=.slice pd D.length cd) rfl]
    simp only [wpS]
    refine cA h8.tree.decls he rfl (o:=0) (by decide) fun cs hcs=>?_
    obtain ⟨qe,ke,rfl,_⟩:=hcs
    refine ⟨_,rfl,?_⟩
    simp only [wpS,T19k1,T19k2,T19k3,T19k4]
    exact tail _ _ _ hF8
   ·rw [if_pos (by simp;omega)]
    simp only [wpS,T19k1,T19k2,T19k3,T19k4,T19k6]
    exact out _ (hF07.seq hF8)
  cases ho2:ofD u.x.nm 0 D with
  |none=>
   simp only [ofV,wpS]
   have:=kind 0
   simp only [wpS] at this
   exact this
  |some z=>
   obtain ⟨d2,c2,w2⟩:=z
   simp only [ofV,wpS]
   have:=kind d2
   simp only [wpS] at this
   exact this
 ·rintro st σ5 ⟨b,rfl,hF5⟩
  unfold T19b0
  simp only [wpS]
  rw [aE (hF5.stN hS4) (v:=.slice q x.kids.length kq) rfl]
  simp only [wpS]
  rw [aB,if_neg (by simp)]
  simp only [wpS,T19k8]
  exact ⟨_,rfl,⟨_,rfl⟩,hF04.seq hF5⟩
end
end Go.Pg
namespace Go.Pg
def Tri.bnd:Tri→Nat
 | .nil=>0
 | .node _ l r=>max 1 (max (2*l.bnd) (bif Nat.beq r.bnd 0 then 0 else 2*r.bnd+1))
theorem Tri.bnd_ok:∀ (t:Tri) (j:Nat),t.bnd≤j→t.get j=none
 | .nil,j,_=>by cases j<;>rfl
 | .node v l r,j,h=>by
  unfold Tri.bnd at h
  cases j with
  |zero=>omega
  |succ m=>
   unfold Tri.get
   simp only
   cases hm:Nat.beq (m % 2) 0 with
   |true=>
    have:m % 2=0:=Nat.eq_of_beq_eq_true hm
    exact Tri.bnd_ok l _ (by omega)
   |false=>
    have hm':m % 2≠0:=fun e=>by rw [e] at hm;cases hm
    refine Tri.bnd_ok r _ ?_
    cases hr:Nat.beq r.bnd 0 with
    |true=>
     have:=Nat.eq_of_beq_eq_true hr
     omega
    |false=>
     rw [hr] at h
     simp only [cond_false] at h
     omega
def goodR:Option (Value × aC)→Bool
 |some (.bool b,σ)=>b&&Nat.ble σ.mem.bnd σ.n
 |_=>false
def oldR (old:Addr→Option Value):Option (Value × aC)→Addr→Option Value
 |some (_,σ)=>σ.old
 |none=>old
theorem WpF.tabQ {P:Program} {ov:Ov} {tab:Tab} (ht:mQ P tab) {f:FuncId} {args:List Value} {old:Addr→Option Value} (n:Nat) (h:goodR (jZ ov tab n f args (iN old))=true) (ho:oldR old (jZ ov tab n f args (iN old))=old):
  WpF P ov f args (iN old) fun v σ'=>v=.bool true∧σ'.old=old∧pC σ':=by
 cases hx:jZ ov tab n f args (iN old) with
 |none=>rw [hx] at h;cases h
 |some r=>
  obtain ⟨v,σ'⟩:=r
  rw [hx] at h ho
  refine ⟨v,σ',EvF.tab ht n hx,?_⟩
  unfold goodR at h
  split at h
  ·rename_i heq
   simp only [Option.some.injEq,Prod.mk.injEq] at heq
   obtain ⟨rfl,rfl⟩:=heq
   simp only [Bool.and_eq_true,Nat.ble_eq] at h
   exact ⟨by rw [h.1],ho,fun j hj=>Tri.bnd_ok _ _ (Nat.le_trans h.2 hj)⟩
  ·cases h
end Go.Pg
namespace Go.Pg
theorem awake8 (old:Addr→Option Value):WpF aF ovD 8 [] (iN old) fun v σ'=>v=.bool true∧σ'.old=old∧pC σ':=
 WpF.tabQ TAB_ok 1000000 (by kernel_rfl) (by kernel_rfl)
end Go.Pg
namespace Go.Pg
open Go.Proofs Go.Utf8 Go.Lib
set_option linter.unusedSimpArgs false
section
variable {σ:aC} {Y:Nat→Prop}
theorem wp_one {P:Program} {ov:Ov} (p:Int) {g:Option Addr→Nat→Nat→Pg} {Q:cK} (K:∀ σ',Frm σ σ' NoB→RI σ' (fun j=>j<σ.n) (some ⟨σ.n,0,some 1⟩) 1 [p]→Wp P ov (g (some ⟨σ.n,0,some 1⟩) 1 1) σ' Q):
  Wp P ov (.act (qW 1 1 [.int .i64 p]) fun v=>aL v g) σ Q:=by
 rw [bB,dB]
 simp only [bP]
 exact K _ (Frm.new _ _ _ _) (RI.own (b:=σ.n) (.inr ⟨0,1,rfl,Row.new σ 1 [.int .i64 p] 1 (by decide) rfl (by simp [one])⟩) fun _ h=>by omega)
end
theorem RI.low {σ:aC} {Y:Nat→Prop} {q:Option Addr} {k:Nat} {l:List Int} (h:RI σ Y q k l):RI σ NoB q k l:=h.step (S:=NoB) (Frm.refl _ _) (fun _ _ h=>h.elim) fun _ _ h=>h.elim
theorem eP.low {σ:aC} {Y:Nat→Prop} {pn pd:Option Addr} {N:List NV} {D:List Dc} (h:eP σ Y pn N pd D):eP σ NoB pn N pd D:=h.step (S:=NoB) (Frm.refl _ _) (fun _ _ h=>h.elim) fun _ _ h=>h.elim
theorem wp_useful1 {σ:aC} {N:List NV} {D:List Dc} {pn pd:Option Addr} {cn cd:Nat} {q:Option Addr} {k:Nat} {L:List (List Int)} (h:eP σ NoB pn N pd D) (hL:aQ σ NoB 1 (rwR σ NoB) q L) (hl:L.length≤1000000) (hw:∀ r∈L,r.length=1) {q2:Option Addr} {k2:Nat} {p:Int} (hR:RI σ NoB q2 k2 [p]):
  WpF aF ovD 17 [trV pn N.length cn pd D.length cd,.slice q L.length k,.slice q2 1 k2] σ fun v σ'=>v=.bool (bG N D 10001 L [p] 0).1∧Frm σ σ' NoB:=by
 have key:=wp_Useful17 (cn:=cn) (cd:=cd) (k:=k) h hL hl hR (by simp)
 rw [show [p].length=1 from rfl,wideC_same hw] at key
 exact key
end Go.Pg
namespace Go.Pg
open Go.Proofs Go.Utf8 Go.Lib
set_option linter.unusedSimpArgs false
section
variable (N:List NV) (D:List Dc)
def jU:Bool→List Nat→List (List Int)→Except Int (List (List Int))
 |_,[],L=>.ok L
 |false,_::r,L=>jU true r L
 |true,k::r,L=>if (bG N D 10001 L [((k:Nat):Int)] 0).1=true then jU false r (L++[[((k:Nat):Int)]]) else .error ((k:Nat):Int)
def armsR (i:Int):Except Int (List (List Int))→Int × Int
 | .error k=>(7,k)
 | .ok L=>if allC N D L=true then (0,0) else (7,i)
def mL (i:Int) (v:NV):Int × Int:=if v.x.k=11 then armsR N D i (jU N D false v.kids []) else (0,0)
def jR:Nat→List NV→Int × Int
 |_,[]=>(0,0)
 |i,v::r=>if (mL N D ((i:Nat):Int) v).1=0 then jR (i+1) r else mL N D ((i:Nat):Int) v
end
section
variable {σ:aC} {N:List NV} {D:List Dc} {pn pd:Option Addr} {cn cd:Nat}
theorem wp_match22 (g:cR N D) (h:eP σ NoB pn N pd D) {i:Nat} (hi:i<N.length) (hk:N[i].x.k=11):
  WpF aF ovD 22 [trV pn N.length cn pd D.length cd,.int .i64 ((i:Nat):Int)] σ fun v σ'=>v=.tuple #[.int .i64 (mL N D ((i:Nat):Int) N[i]).1,.int .i64 (mL N D ((i:Nat):Int) N[i]).2]∧Frm σ σ' NoB:=by
 have hN:=g.most
 have hNK:=g.node i hi
 have hnode:mL N D ((i:Nat):Int) N[i]=armsR N D ((i:Nat):Int) (jU N D false N[i].kids []):=by unfold mL;rw [if_pos hk]
 rw [hnode]
 have hkl:N[i].kids.length≤1000:=by
  obtain ⟨m,b',e',_,hw⟩:=(walk_at _ _ _ _ g.walk).2 i (Nat.zero_le _) hi
  cases m with
  |zero=>cases hw
  |succ m=>have:=nJ hw (List.getElem?_eq_getElem hi);omega
 refine WpF.of (T22_eq _ _ _ _ _ _ _) rfl ?_
 rw [T22]
 refine aN fun σ1 hF1 hn1 hS1=>?_
 generalize hA:σ.n=A at hS1 hn1
 have h1:=h.frm hF1
 rw [aE hS1 (v:=.slice pn N.length cn) rfl]
 simp only [wpS]
 refine cA h1.tree.nodes hi rfl (o:=4) (by decide) fun cs hcs=>?_
 obtain ⟨q,kq,rfl,hrow,_⟩:=hcs
 refine ⟨_,rfl,?_⟩
 simp only [wpS]
 generalize N[i].kids=kids at hrow hkl
 generalize hG:jU N D false kids []=G
 refine Wp.count kids.length (fun j st σ'=>∃ (L:List (List Int)) (p:Option Addr) (c rb:Nat) (css:List (List Value)),st=[.int .i64 ((j:Nat):Int),.slice p L.length c,.int .i64 0,.int .i64 0]∧Frm σ1 σ' NoB∧jU N D (decide (j % 2=1)) (kids.drop j) L=G∧GR rwR 1 σ' NoB rb L css p c∧(p≠none→σ1.n≤rb)∧(∀ r∈L,r.length=1)∧L.length≤j)
  ⟨[],none,0,0,[],rfl,Frm.refl _ _,by rw [List.drop_zero];exact hG,.zero,fun h=>absurd rfl h,(fun _ h=>by cases h),by simp⟩ ?_ ?_
 ·rintro j st σ2 hj ⟨L,p,c,rb,css,rfl,hF2,hGj,hGR,hrb,hL1,hLj⟩
  have ej:aR ((j:Int)+1)=((j+1:Nat):Int):=by rw [aS (by omega)];omega
  have h2:=h1.frm hF2
  have hS2:=hF2.stN hS1
  rw [List.drop_eq_getElem_cons hj] at hGj
  unfold T22b0
  simp only [wpS]
  rw [aB,if_pos (by simp;omega),aI]
  refine bS (hrow.later hF2) hj rfl fun cs hcs=>⟨_,hcs,?_⟩
  simp only [wpS]
  rw [aD]
  refine WpF.of (T36_eq _) rfl ?_
  rw [T36]
  simp only [wpS]
  refine ⟨_,rfl,?_⟩
  have htm:(Int.tmod ((j:Nat):Int) 2==1)=decide (j % 2=1):=by
   rw [Int.tmod_eq_emod_of_nonneg (by omega)]
   by_cases h2:j % 2=1
   ·rw [decide_eq_true h2,beq_iff_eq];omega
   ·rw [decide_eq_false h2,beq_eq_false_iff_ne];omega
  simp only [wpS,htm]
  rw [aB]
  by_cases ho:j % 2=1
  case neg=>
   have ho2:(j+1) % 2=1:=by omega
   rw [decide_eq_false ho,jU] at hGj
   rw [if_pos (by simp [ho])]
   simp only [wpS,T22k0,ej]
   exact ⟨L,p,c,rb,css,rfl,hF2,by rw [decide_eq_true ho2];exact hGj,hGR,hrb,hL1,by omega⟩
  have ho2:¬ (j+1) % 2=1:=by omega
  rw [decide_eq_true ho,jU] at hGj
  rw [if_neg (by simp [ho]),aM hS2 2 rfl]
  simp only [wpS]
  have hLR:=hGR.close aY (by decide)
  refine wp_one _ fun σ3 hF3 hR3=>?_
  rw [aD]
  refine WpF.mono (wp_useful1 (h2.frm hF3) (hLR.frmM aY hF3) (by omega) hL1 hR3.low) ?_
  rintro _ σ4 ⟨rfl,hF4⟩
  have hF24:=hF3.seq hF4
  simp only [wpS]
  rw [aB]
  by_cases hu:(bG N D 10001 L [((kids[j]:Nat):Int)] 0).1=true
  case neg=>
   rw [if_neg hu] at hGj
   rw [if_pos (by simpa using hu)]
   simp only [wpS,T22k0,T22k1]
   rw [←hGj]
   exact ⟨_,rfl,rfl,hF1.seq (hF2.seq hF24)⟩
  rw [if_pos hu] at hGj
  rw [if_neg (by simp [hu])]
  refine wp_one _ fun σ5 hF5 hR5=>?_
  have hF25:=hF24.seq hF5
  have hn25:=hF25.n
  have hb:rwR σ5 (fun j=>NoB j∨p≠none∧j=rb) [.slice (some ⟨σ4.n,0,some 1⟩) [((kids[j]:Nat):Int)].length 1] [((kids[j]:Nat):Int)]:=by
   refine ⟨_,_,rfl,hR5.step (S:=NoB) (Frm.refl _ _) (fun _ _ h=>h.elim) ?_⟩
   rintro j' _ (h1|⟨h1,h2⟩)
   ·exact h1.elim
   ·have:=hGR.lt h1;have:=hF24.n;show j'<σ4.n;omega
  refine fI aY (fun j h=>h.elim) (hGR.frmN aY hF25) (by decide) (by decide) rfl (by intro y hy;simp at hy;subst hy;rfl) hb (by omega) (by decide) fun σ6 rb2 p2 c2 hF6 hrb2 hG6=>?_
  have hl1:L.length+1=(L++[[((kids[j]:Nat):Int)]]).length:=by simp
  rw [hl1]
  have hF16:Frm σ1 σ6 NoB:=(hF2.seq hF25).trans hF6 (fun _ _ h=>h) fun j' hj' h=>by have:=hrb h.1;omega
  simp only [wpS,T22k0,ej]
  refine ⟨L++[[((kids[j]:Nat):Int)]],_,c2,rb2,_,rfl,hF16,by rw [decide_eq_false ho2];exact hGj,hG6,fun _=>?_,?_,by simp;omega⟩
  ·have:=hF2.n
   rcases hrb2 with ⟨h1,h2⟩|h1
   ·have:=hrb h1;omega
   ·omega
  ·intro r hr
   rcases List.mem_append.1 hr with hr|hr
   ·exact hL1 r hr
   ·rw [List.mem_singleton.1 hr];try rfl
 ·rintro st σ2 ⟨L,p,c,rb,css,rfl,hF2,hGj,hGR,hrb,hL1,hLj⟩
  rw [List.drop_length,jU] at hGj
  unfold T22b0
  simp only [wpS]
  rw [aB,if_neg (by simp)]
  simp only [wpS,T22k1]
  rw [aM (hF2.stN hS1) 2 rfl]
  simp only [wpS]
  rw [aD]
  refine WpF.mono (wp_All11 (h1.frm hF2) (hGR.close aY (by decide)) (by omega) fun r hr=>by rw [hL1 r hr];decide) ?_
  rintro _ σ3 ⟨rfl,hF3⟩
  simp only [wpS]
  rw [←hGj,armsR]
  rw [aB]
  cases hal:allC N D L with
  |false=>
   rw [if_pos (by rfl)]
   simp only [wpS]
   exact ⟨_,rfl,rfl,hF1.seq (hF2.seq hF3)⟩
  |true=>
   rw [if_neg (by simp)]
   simp only [wpS]
   exact ⟨_,rfl,rfl,hF1.seq (hF2.seq hF3)⟩
theorem wp_Check10 (g:cR N D) (h:eP σ NoB pn N pd D):WpF aF ovD 10 [trV pn N.length cn pd D.length cd] σ fun v σ'=>v=.tuple #[.int .i64 (jR N D 0 N).1,.int .i64 (jR N D 0 N).2]∧Frm σ σ' NoB:=by
 have hN:=g.most
 refine WpF.of (T10_eq _ _ _ _ _ _) rfl ?_
 rw [T10]
 refine aN fun σ1 hF1 hn1 hS1=>?_
 have h1:=h.frm hF1
 rw [aM hS1 2 rfl]
 simp only [wpS]
 rw [aD]
 refine WpF.mono (wp_Good21 g h1) ?_
 rintro _ σ2 ⟨rfl,hF2⟩
 have h2:=h1.frm hF2
 have hS2:=hF2.stN hS1
 have hF02:=hF1.seq hF2
 simp only [wpS,Bool.not_true]
 rw [aB,if_neg (by simp),aE hS2 (v:=.slice pn N.length cn) rfl]
 simp only [wpS]
 generalize hC:jR N D 0 N=C
 refine Wp.count N.length (fun i st σ'=>st=[.int .i64 ((i:Nat):Int),.int .i64 0,.int .i64 0]∧Frm σ2 σ' NoB∧jR N D i (N.drop i)=C) ⟨rfl,Frm.refl _ _,by rw [List.drop_zero];exact hC⟩ ?_ ?_
 ·rintro i st σ3 hi ⟨rfl,hF3,hCi⟩
  have ei:aR ((i:Int)+1)=((i+1:Nat):Int):=by rw [aS (by omega)];omega
  have h3:=h2.frm hF3
  have hS3:=hF3.stN hS2
  rw [List.drop_eq_getElem_cons hi,jR] at hCi
  unfold T10b0
  simp only [wpS]
  rw [aB,if_pos (by simp;omega),aI]
  refine dA h3.tree.nodes hi rfl fun cs hcs=>?_
  obtain ⟨q,k,rfl,_,_⟩:=hcs
  simp only [wpS]
  refine aN fun σ4 hF4 hn4 hS4=>?_
  refine bA hS4 rfl rfl fun σ5 hF5 hn5 hS5=>?_
  have hF35:Frm σ3 σ5 NoB:=hF4.fresh hF5 fun j hj h=>by omega
  rw [aE hS5 (i:=0) rfl]
  simp only [wpS]
  rw [aB]
  by_cases hk:N[i].x.k=11
  case neg=>
   rw [if_pos (by show (mL N D ((i:Nat):Int) N[i]).1=0;unfold mL;rw [if_neg hk])] at hCi
   rw [if_pos (by simpa using hk)]
   simp only [wpS,T10k0,ei]
   exact ⟨trivial,hF3.seq hF35,hCi⟩
  rw [if_neg (by simp [hk]),aM (hF35.stN hS3) 2 rfl]
  simp only [wpS]
  rw [aD]
  refine WpF.mono (wp_match22 g (h3.frm hF35) hi hk) ?_
  rintro _ σ6 ⟨rfl,hF6⟩
  simp only [wpS]
  rw [aB]
  by_cases hz:(mL N D ((i:Nat):Int) N[i]).1=0
  ·rw [if_pos hz] at hCi
   rw [if_neg (by simpa using hz)]
   simp only [wpS,T10k0,ei]
   exact ⟨trivial,hF3.seq (hF35.seq hF6),hCi⟩
  ·rw [if_neg hz] at hCi
   rw [if_pos (by simpa using hz)]
   simp only [wpS,T10k0,T10k1]
   rw [←hCi]
   exact ⟨_,rfl,rfl,hF02.seq (hF3.seq (hF35.seq hF6))⟩
 ·rintro st σ3 ⟨rfl,hF3,hCi⟩
  rw [List.drop_length,jR] at hCi
  unfold T10b0
  simp only [wpS]
  rw [aB,if_neg (by simp)]
  simp only [wpS,T10k1]
  rw [←hCi]
  exact ⟨_,rfl,rfl,hF02.seq hF3⟩
end
end Go.Pg
namespace Go.Pg
open Go.Proofs Go.Utf8 Go.Lib
set_option linter.unusedSimpArgs false
section
variable {σ:aC} {N:List NV} {D:List Dc} {pn pd:Option Addr} {cn cd U V W:Nat} {Y:Nat→Prop}
theorem wp_own_nodes (hU:U≠V) (hSU:St σ U [.slice pn N.length cn,.slice pd D.length cd]) (hSV:St σ V [.slice none 0 0,.slice none 0 0]) (hYV:Y V) (hYn:∀ j,Y j→j<σ.n) (hT:cU σ Y pn N pd D) (hN:N.length≤1000000) {K:Ex→List Value→Pg} {Q:cK}
  (k:∀ σ' p c rb css,Frm σ σ' (· =V)→St σ' V [.slice p N.length c,.slice none 0 0]→GR nvR 7 σ' Y rb N css p c→(p≠none→σ.n≤rb)→Wp aF ovD (K (.exit 0) [.int .i64 ((N.length:Nat):Int)]) σ' Q):
  Wp aF ovD (.loop [.int .i64 0] (T15b0 ⟨U,0,some 0⟩ ⟨V,0,some 0⟩) K) σ Q:=by
 have hUn:=hSU.1
 have hVn:=hSV.1
 refine Wp.count N.length (fun i st σ'=>∃ p c rb css,st=[.int .i64 ((i:Nat):Int)]∧Frm σ σ' (· =V)∧St σ' V [.slice p i c,.slice none 0 0]∧GR nvR 7 σ' Y rb (N.take i) css p c∧(p≠none→σ.n≤rb))
  ⟨none,0,0,[],rfl,Frm.refl _ _,hSV,.zero,fun h=>absurd rfl h⟩ ?_ ?_
 ·rintro i st σ1 hi ⟨p,c,rb,css,rfl,hF1,hS1,hG1,hrb⟩
  have ei:aR ((i:Int)+1)=((i+1:Nat):Int):=by rw [aS (by omega)];omega
  have hU1:=hF1.st hSU hU
  have hT1:cU σ1 (fun j=>Y j∨σ.n≤j) pn N pd D:=hT.step hF1 (fun j _ h=>by rw [h];exact hYV) fun j h1 h2=>h2.elim id fun h=>by omega
  have hn1:=hF1.n
  unfold T15b0
  simp only [wpS]
  rw [aE hU1 (v:=.slice pn N.length cn) rfl]
  simp only [wpS]
  rw [aB,if_pos (by simp;omega),aI,aE hU1 (v:=.slice pn N.length cn) rfl]
  simp only [wpS]
  refine dA hT1.nodes hi rfl fun cs hcs=>?_
  generalize hv:N[i]=v at hcs
  obtain ⟨q,kq,rfl,hrow,hemp⟩:=hcs
  simp only [wpS]
  refine aN fun σ2 hF2 hn2 hS2=>?_
  generalize hX:σ1.n=X at hS2
  refine bA hS2 rfl rfl fun σ3 hF3 hn3 hS3=>?_
  have hF13:Frm σ1 σ3 NoB:=hF2.fresh hF3 fun j hj h=>by omega
  have hV3:=hF13.stN hS1
  rw [aE hV3 (v:=.slice p i c) rfl]
  simp only [wpS]
  rw [aE hS3 (v:=.int .i64 v.x.k) rfl]
  simp only [wpS]
  rw [aE hS3 (v:=.int .i64 v.x.n) rfl]
  simp only [wpS]
  rw [aE hS3 (v:=.string (mkB v.x.nm)) rfl]
  simp only [wpS]
  rw [aE hS3 (v:=.string (mkB v.x.pm)) rfl]
  simp only [wpS]
  rw [aE hS3 (v:=.slice q v.kids.length kq) rfl]
  simp only [wpS]
  rw [aE hS3 (v:=.int .i64 v.x.fr) rfl]
  simp only [wpS]
  rw [aE hS3 (v:=.int .i64 v.x.to) rfl]
  simp only [wpS]
  have hn13:=hF13.n
  have hG3:=hG1.frmN bM hF13
  have hil:(N.take i).length=i:=by rw [List.length_take];omega
  have hsub:∀ j,j<σ1.n→(Y j∨p≠none∧j=rb)→(Y j∨σ.n≤j):=by
   rintro j _ (h|⟨h1,h2⟩)
   ·exact .inl h
   ·have:=hrb h1;exact .inr (by omega)
  have hb:nvR σ3 (fun j=>Y j∨p≠none∧j=rb) [.int .i64 v.x.k,.int .i64 v.x.n,.string (mkB v.x.nm),.string (mkB v.x.pm),.slice q v.kids.length kq,.int .i64 v.x.fr,.int .i64 v.x.to] v:=
   bM _ _ _ _ _ _ _ hF13 (fun _ _ h=>h.elim) hsub ⟨q,kq,rfl,hrow,hemp⟩
  have hadd:=fI (P:=aF) (ov:=ovD) (byt:=88) (Q:=fun e vs σ'=>Wp aF ovD (T15k0 ((i:Nat):Int) e vs) σ' fun e st' σ'=>match e with
    | .normal=>∃ p c rb css,st'=[.int .i64 ((i+1:Nat):Int)]∧Frm σ σ' (· =V)∧St σ' V [.slice p (i+1) c,.slice none 0 0]∧GR nvR 7 σ' Y rb (N.take (i+1)) css p c∧(p≠none→σ.n≤rb)
    |e=>Wp aF ovD (K e st') σ' Q) bM (fun j h=>by have:=hYn j h;omega) hG3 (by decide) (by decide) rfl (by intro y hy;simp at hy;rcases hy with rfl|rfl|rfl|rfl|rfl|rfl|rfl<;>rfl) hb (by omega) (by decide)
    (g:=fun p' n' c'=>.act (stC (aadd ⟨V,0,some 0⟩ 0) [.slice p' n' c']) fun v=>cE v fun l=>aA l (.ret .normal [])) fun σ5 rb5 p5 c5 hF5 hrb5 hG5=>by
   have hVr:¬ (p≠none∧V=rb):=fun h=>hG1.hr h.1 (by rw [←h.2];exact hYV)
   refine bN (hF5.st hV3 hVr) (by simp) rfl fun σ6 hF6 hn6 hS6=>?_
   simp only [List.set_cons_zero] at hS6
   simp only [wpS,T15k0,ei]
   rw [hil] at hS6
   have hF05:Frm σ σ5 (· =V):=(hF1.seq hF13.no).trans hF5 (fun _ _ h=>h) fun j hj h=>by have:=hrb h.1;omega
   rw [List.take_succ_eq_append_getElem hi,hv]
   refine ⟨_,_,rb5,_,trivial,hF05.seq hF6,hS6,hG5.frm bM hF6 fun j _ h=>by rw [h];exact hYV,fun _=>?_⟩
   rcases hrb5 with ⟨h1,h2⟩|h1
   ·have:=hrb h1;omega
   ·omega
  rw [hil] at hadd
  exact hadd
 ·rintro st σ1 ⟨p,c,rb,css,rfl,hF1,hS1,hG1,hrb⟩
  unfold T15b0
  simp only [wpS]
  rw [aE (hF1.st hSU hU) (v:=.slice pn N.length cn) rfl]
  simp only [wpS]
  rw [aB,if_neg (by simp)]
  simp only [wpS]
  rw [List.take_length] at hG1
  exact k σ1 p c rb css hF1 hS1 hG1 hrb
theorem wp_own_cons {j:Nat} (hj:j<D.length) (hU:U≠W) (hSU:St σ U [.slice pn N.length cn,.slice pd D.length cd]) {nm:List UInt8} (hSW:St σ W [.string (mkB nm),.slice none 0 0]) (hYW:Y W) (hYn:∀ j,Y j→j<σ.n) (hT:aQ σ Y 2 (dcR σ Y) pd D) (hC:D[j].cons.length≤1000000) {K:Ex→List Value→Pg} {Q:cK}
  (k:∀ σ' p c rb css,Frm σ σ' (· =W)→St σ' W [.string (mkB nm),.slice p D[j].cons.length c]→GR cnR 2 σ' Y rb D[j].cons css p c→(p≠none→σ.n≤rb)→Wp aF ovD (K (.exit 4) [.int .i64 ((D[j].cons.length:Nat):Int)]) σ' Q):
  Wp aF ovD (.loop [.int .i64 0] (T15b1 ⟨U,0,some 0⟩ ((j:Nat):Int) ⟨W,0,some 0⟩) K) σ Q:=by
 have hUn:=hSU.1
 have hWn:=hSW.1
 have hT':∀ {τ:aC},Frm σ τ (· =W)→aQ τ (fun j=>Y j∨σ.n≤j) 2 (dcR τ (fun j=>Y j∨σ.n≤j)) pd D:=fun f=>by
  have hy:∀ j,j<σ.n→(Y j∨σ.n≤j)→Y j:=fun j h1 h2=>h2.elim id fun h=>by omega
  exact aQ.step f (fun j _ h=>by rw [h];exact hYW) hy (fun _ _ h=>bT _ _ _ _ _ _ _ f (fun j _ h=>by rw [h];exact hYW) hy h) hT
 refine Wp.count D[j].cons.length (fun i st σ'=>∃ p c rb css,st=[.int .i64 ((i:Nat):Int)]∧Frm σ σ' (· =W)∧St σ' W [.string (mkB nm),.slice p i c]∧GR cnR 2 σ' Y rb (D[j].cons.take i) css p c∧(p≠none→σ.n≤rb))
  ⟨none,0,0,[],rfl,Frm.refl _ _,hSW,.zero,fun h=>absurd rfl h⟩ ?_ ?_
 ·rintro i st σ1 hi ⟨p,c,rb,css,rfl,hF1,hS1,hG1,hrb⟩
  have ei:aR ((i:Int)+1)=((i+1:Nat):Int):=by rw [aS (by omega)];omega
  have hU1:=hF1.st hSU hU
  obtain ⟨x,cs,hx,hcs,hkp⟩:=Kp.ofRow (hT' hF1) hj
  obtain ⟨q,kq,rfl,hrow⟩:=hcs
  have hk1:=hkp 1 _ (by decide) rfl
  obtain ⟨x2,cs2,hx2,hcs2,hkp2⟩:=Kp.ofRow hrow hi
  generalize hv:D[j].cons[i]=v at hcs2
  obtain ⟨q2,kq2,rfl,hrow2,hemp2⟩:=hcs2
  have hk2:=hkp2 0 _ (by decide) rfl
  have hk3:=hkp2 1 _ (by decide) rfl
  have hn1:=hF1.n
  have hkU:Kp σ1 (aadd ⟨U,0,some 0⟩ 1) (.slice pd D.length cd):=Kp.st hU1 rfl
  have hkW:Kp σ1 (aadd ⟨W,0,some 0⟩ 1) (.slice p i c):=Kp.st hS1 rfl
  rw [hx] at hkU
  rw [hx2] at hk1
  have gj:(decide (0≤((j:Nat):Int))&&decide (((j:Nat):Int)<((D.length:Nat):Int)))=true:=by simp;omega
  have gi:(decide (0≤((i:Nat):Int))&&decide (((i:Nat):Int)<((D[j].cons.length:Nat):Int)))=true:=by simp;omega
  unfold T15b1
  simp only [wpS]
  rw [dD hkU]
  simp only [wpS]
  rw [aP]
  refine ⟨gj,?_⟩
  rw [Int.toNat_natCast,dD hk1]
  simp only [wpS]
  rw [aB,if_pos (by simp;omega),aI,dD hkW]
  simp only [wpS]
  rw [dD hkU]
  simp only [wpS]
  rw [aP]
  refine ⟨gj,?_⟩
  rw [dD hk1]
  simp only [wpS]
  rw [aP]
  refine ⟨gi,?_⟩
  rw [Int.toNat_natCast,dD hk2]
  simp only [wpS]
  rw [dD hkU]
  simp only [wpS]
  rw [aP]
  refine ⟨gj,?_⟩
  rw [dD hk1]
  simp only [wpS]
  rw [aP]
  refine ⟨gi,?_⟩
  rw [dD hk3]
  simp only [wpS]
  have hil:(D[j].cons.take i).length=i:=by rw [List.length_take];omega
  refine wp_appD (len:=i) hG1.row (by rw [gI hG1.cl,hG1.len,hil]) (by decide) (by decide) rfl (by intro y hy;simp at hy;rcases hy with rfl|rfl<;>rfl) (by omega) (by omega) (fun τ f=>eE (hkW.frm f) rfl) fun σ6 rb6 off6 s6 c6 hF6 hrb6 hR6=>?_
  have hsub:∀ j,j<σ1.n→(Y j∨p≠none∧j=rb)→(Y j∨σ.n≤j):=by
   rintro j _ (h|⟨h1,h2⟩)
   ·exact .inl h
   ·have:=hrb h1;exact .inr (by omega)
  have hb:cnR σ1 (fun j=>Y j∨p≠none∧j=rb) [.string (mkB v.nm),.slice q2 v.args.length kq2] v:=
   dE _ _ _ _ _ _ _ (Frm.refl σ1 NoB) (fun _ _ h=>h.elim) hsub ⟨q2,kq2,rfl,hrow2,hemp2⟩
  have hG6:=hG1.more dE (fun j h=>by have:=hYn j h;omega) (b:=v) rfl hb hF6 hrb6 hR6
  have hWr:¬ (p≠none∧W=rb):=fun h=>hG1.hr h.1 (by rw [←h.2];exact hYW)
  refine bN (hF6.st hS1 hWr) (by simp) rfl fun σ7 hF7 hn7 hS7=>?_
  simp only [List.set_cons_succ,List.set_cons_zero] at hS7
  simp only [wpS,T15k1,ei]
  have hF16:Frm σ σ6 (· =W):=hF1.trans hF6 (fun _ _ h=>h) fun j hj h=>by have:=hrb h.1;omega
  rw [List.take_succ_eq_append_getElem hi,hv]
  refine ⟨_,_,rb6,_,trivial,hF16.seq hF7,hS7,hG6.frm dE hF7 fun j _ h=>by rw [h];exact hYW,fun _=>?_⟩
  rcases hrb6 with ⟨h1,h2⟩|h1
  ·have:=hrb h1;omega
  ·omega
 ·rintro st σ1 ⟨p,c,rb,css,rfl,hF1,hS1,hG1,hrb⟩
  unfold T15b1
  simp only [wpS]
  rw [aE (hF1.st hSU hU) (v:=.slice pd D.length cd) rfl]
  simp only [wpS]
  refine cA (hT' hF1) hj rfl (o:=1) (by decide) fun cs hcs=>?_
  obtain ⟨q,kq,rfl,_⟩:=hcs
  refine ⟨_,rfl,?_⟩
  simp only [wpS]
  rw [aB,if_neg (by simp)]
  simp only [wpS]
  rw [List.take_length] at hG1
  exact k σ1 p c rb css hF1 hS1 hG1 hrb
end
end Go.Pg
namespace Go.Pg
open Go.Proofs Go.Utf8 Go.Lib
set_option linter.unusedSimpArgs false
section
variable {σ:aC} {N:List NV} {D:List Dc} {pn pd:Option Addr} {cn cd U V A:Nat}
theorem wp_own_decls (hU:U≠V) (hSU:St σ U [.slice pn N.length cn,.slice pd D.length cd]) {v0:Value} (hSV:St σ V [v0,.slice none 0 0]) {Y:Nat→Prop} (hYV:Y V) (hYn0:∀ j,Y j→j<σ.n) (hT:aQ σ Y 2 (dcR σ Y) pd D) (hD:D.length≤1000000) (hC:∀ d∈D,d.cons.length≤1000000) {K:Ex→List Value→Pg} {Q:cK}
  (k:∀ σ' p c rb css,Frm σ σ' (· =V)→St σ' V [v0,.slice p D.length c]→GR dcR 2 σ' Y rb D css p c→(p≠none→σ.n≤rb)→Wp aF ovD (K (.exit 2) [.int .i64 ((D.length:Nat):Int)]) σ' Q):
  Wp aF ovD (.loop [.int .i64 0] (T15b2 ⟨U,0,some 0⟩ ⟨V,0,some 0⟩) K) σ Q:=by
 have hUn:=hSU.1
 have hVn:=hSV.1
 have hT':∀ {τ:aC},Frm σ τ (· =V)→aQ τ (fun j=>Y j∨σ.n≤j) 2 (dcR τ (fun j=>Y j∨σ.n≤j)) pd D:=fun f=>by
  have hy:∀ j,j<σ.n→(Y j∨σ.n≤j)→Y j:=fun j h1 h2=>h2.elim id fun h=>by omega
  exact aQ.step f (fun j _ h=>by rw [h];exact hYV) hy (fun _ _ h=>bT _ _ _ _ _ _ _ f (fun j _ h=>by rw [h];exact hYV) hy h) hT
 refine Wp.count D.length (fun i st σ'=>∃ p c rb css,st=[.int .i64 ((i:Nat):Int)]∧Frm σ σ' (· =V)∧St σ' V [v0,.slice p i c]∧GR dcR 2 σ' Y rb (D.take i) css p c∧(p≠none→σ.n≤rb))
  ⟨none,0,0,[],rfl,Frm.refl _ _,hSV,.zero,fun h=>absurd rfl h⟩ ?_ ?_
 ·rintro i st σ1 hi ⟨p,c,rb,css,rfl,hF1,hS1,hG1,hrb⟩
  have ei:aR ((i:Int)+1)=((i+1:Nat):Int):=by rw [aS (by omega)];omega
  have hU1:=hF1.st hSU hU
  have hn1:=hF1.n
  have hT1:=hT' hF1
  unfold T15b2
  simp only [wpS]
  rw [aE hU1 (v:=.slice pd D.length cd) rfl]
  simp only [wpS]
  rw [aB,if_pos (by simp;omega),aI,aE hU1 (v:=.slice pd D.length cd) rfl]
  simp only [wpS]
  refine cA hT1 hi rfl (o:=0) (by decide) fun cs hcs=>?_
  obtain ⟨q,kq,rfl,_⟩:=hcs
  refine ⟨_,rfl,?_⟩
  simp only [wpS]
  refine aN fun σ2 hF2 hn2 hS2=>?_
  generalize hW:σ1.n=W at hS2
  refine bA hS2 rfl rfl fun σ3 hF3 hn3 hS3=>?_
  have hF13:Frm σ1 σ3 NoB:=hF2.fresh hF3 fun j hj h=>by omega
  have hn13:=hF13.n
  have hU3:=hF13.stN hU1
  have hT3:aQ σ3 (fun j=>j=W∨Y j∨p≠none∧j=rb) 2 (dcR σ3 (fun j=>j=W∨Y j∨p≠none∧j=rb)) pd D:=by
   have hy:∀ j,j<σ1.n→(j=W∨Y j∨p≠none∧j=rb)→Y j∨σ.n≤j:=fun j h1 h2=>by
    rcases h2 with h2|h2|⟨h2,h3⟩
    ·omega
    ·exact .inl h2
    ·have:=hrb h2;exact .inr (by omega)
   exact aQ.step (S:=NoB) hF13 (fun _ _ h=>h.elim) hy (fun _ _ h=>bT _ _ _ _ _ _ _ hF13 (fun _ _ h=>h.elim) hy h) hT1
  have hWl:W<σ3.n:=hS3.1
  have hVW:V≠W:=by omega
  have hYn:∀ j,(j=W∨Y j∨p≠none∧j=rb)→j<σ3.n:=by
   rintro j (h|h|⟨h1,h2⟩)
   ·omega
   ·have:=hYn0 j h;omega
   ·have:=hG1.lt h1;omega
  refine wp_own_cons hi (by omega) hU3 hS3 (.inl rfl) hYn hT3 (hC _ (List.getElem_mem hi)) fun σ4 p4 c4 rb4 css4 hF4 hS4 hG4 _=>?_
  simp only [wpS,T15k2]
  have hV3:=hF13.stN hS1
  have hV4:=hF4.st hV3 hVW
  rw [aE hV4 (v:=.slice p i c) rfl]
  simp only [wpS]
  rw [aM hS4 2 rfl]
  simp only [wpS]
  have hF14:Frm σ1 σ4 NoB:=hF13.fresh hF4 fun j hj h=>by omega
  have hG14:=hG1.frmN bT hF14
  have hb:dcR σ4 (fun j=>Y j∨p≠none∧j=rb) [.string (mkB D[i].nm),.slice p4 D[i].cons.length c4] D[i]:=
   bT σ4 σ4 NoB (fun j=>j=W∨Y j∨p≠none∧j=rb) _ _ _ (Frm.refl _ _) (fun _ _ h=>h.elim) (fun _ _ h=>.inr h) ⟨p4,c4,rfl,hG4.close dE (by decide)⟩
  have hil:(D.take i).length=i:=by rw [List.length_take];omega
  have hadd:=fI (P:=aF) (ov:=ovD) (byt:=40) (Q:=fun e vs σ'=>Wp aF ovD (T15k3 ((i:Nat):Int) e vs) σ' fun e st' σ'=>match e with
    | .normal=>∃ p c rb css,st'=[.int .i64 ((i+1:Nat):Int)]∧Frm σ σ' (· =V)∧St σ' V [v0,.slice p (i+1) c]∧GR dcR 2 σ' Y rb (D.take (i+1)) css p c∧(p≠none→σ.n≤rb)
    |e=>Wp aF ovD (K e st') σ' Q) bT (fun j h=>by have:=hF14.n;have:=hYn0 j h;omega) hG14 (by decide) (by decide) rfl (by intro y hy;simp at hy;rcases hy with rfl|rfl<;>rfl) hb (by omega) (by decide)
    (g:=fun p' n' c'=>.act (stC (aadd ⟨V,0,some 0⟩ 1) [.slice p' n' c']) fun v=>cE v fun l=>aA l (.ret .normal [])) fun σ5 rb5 p5 c5 hF5 hrb5 hG5=>by
   have hVr:¬ (p≠none∧V=rb):=fun h=>hG1.hr h.1 (by rw [←h.2];exact hYV)
   refine bN (hF5.st hV4 hVr) (by simp) rfl fun σ6 hF6 hn6 hS6=>?_
   simp only [List.set_cons_succ,List.set_cons_zero] at hS6
   simp only [wpS,T15k3,ei]
   rw [hil] at hS6
   have hF05:Frm σ σ5 (· =V):=(hF1.seq hF14.no).trans hF5 (fun _ _ h=>h) fun j hj h=>by have:=hrb h.1;omega
   rw [List.take_succ_eq_append_getElem hi]
   refine ⟨_,_,rb5,_,trivial,hF05.seq hF6,hS6,hG5.frm bT hF6 fun j _ h=>by rw [h];exact hYV,fun _=>?_⟩
   rcases hrb5 with ⟨h1,h2⟩|h1
   ·have:=hrb h1;omega
   ·have:=hF14.n;omega
  rw [hil] at hadd
  exact hadd
 ·rintro st σ1 ⟨p,c,rb,css,rfl,hF1,hS1,hG1,hrb⟩
  unfold T15b2
  simp only [wpS]
  rw [aE (hF1.st hSU hU) (v:=.slice pd D.length cd) rfl]
  simp only [wpS]
  rw [aB,if_neg (by simp)]
  simp only [wpS]
  rw [List.take_length] at hG1
  exact k σ1 p c rb css hF1 hS1 hG1 hrb
theorem wp_own15 (h:eP σ NoB pn N pd D):
  WpF aF ovD 15 [trV pn N.length cn pd D.length cd] σ fun v σ'=>∃ pn' cn' pd' cd',v=trV pn' N.length cn' pd' D.length cd'∧eP σ' NoB pn' N pd' D∧Frm σ σ' NoB:=by
 refine WpF.of (T15_eq _ _ _ _ _ _) rfl ?_
 rw [T15]
 refine aN fun σ1 hF1 hn1 hS1=>?_
 refine aN fun σ2 hF2 hn2 hS2=>?_
 refine aN fun σ3 hF3 hn3 hS3=>?_
 generalize hU:σ.n=U at hS1
 generalize hR:σ1.n=R at hS2
 generalize hV:σ2.n=V at hS3
 refine bA hS3 rfl rfl fun σ4 hF4 hn4 hS4=>?_
 have hF04:Frm σ σ4 NoB:=((hF1.seq hF2).seq hF3).fresh hF4 fun j hj h=>by omega
 have hU4:St σ4 U [.slice pn N.length cn,.slice pd D.length cd]:=hF4.st (hF3.stN (hF2.stN hS1)) (by omega)
 have hR4:St σ4 R [.slice none 0 0,.slice none 0 0]:=hF4.st (hF3.stN hS2) (by omega)
 have hT4:cU σ4 (fun j=>j=V∨j=R) pn N pd D:=h.tree.step (S:=NoB) hF04 (fun _ _ h=>h.elim) fun j h1 h2=>by show False;omega
 have hUV:U≠V:=by omega
 have hVl:=hS4.1
 have hRl:=hR4.1
 have hYn:∀ j,(j=V∨j=R)→j<σ4.n:=fun j h=>by omega
 refine wp_own_nodes (Y:=fun j=>j=V∨j=R) hUV hU4 hS4 (.inl rfl) hYn hT4 h.nl fun σ5 p5 c5 rb5 css5 hF5 hS5 hG5 hrb5=>?_
 simp only [wpS,T15k5]
 have hT5:aQ σ5 (fun j=>j=V∨j=R) 2 (dcR σ5 (fun j=>j=V∨j=R)) pd D:=(hT4.step (Y':=fun j=>j=V∨j=R) hF5 (fun _ _ h=>.inl h) fun _ _ h=>h).decls
 have hn5:=hF5.n
 refine wp_own_decls (Y:=fun j=>j=V∨j=R) hUV (hF5.st hU4 hUV) hS5 (.inl rfl) (fun j h=>by have:=hYn j h;omega) hT5 h.dl h.cl fun σ6 p6 c6 rb6 css6 hF6 hS6 hG6 hrb6=>?_
 simp only [wpS,T15k4]
 rw [aM hS6 2 rfl]
 simp only [wpS]
 have hF46:=hF5.seq hF6
 refine bA (hF46.st hR4 (by omega)) rfl rfl fun σ7 hF7 hn7 hS7=>?_
 rw [aM hS7 2 rfl]
 simp only [wpS]
 have hF06:Frm σ σ6 NoB:=hF04.fresh hF46 fun j hj h=>by omega
 have hF07:Frm σ σ7 NoB:=hF06.fresh hF7 fun j hj h=>by omega
 refine ⟨_,rfl,p5,c5,p6,c6,rfl,⟨⟨?_,?_⟩,h.nl,h.dl,h.cl,h.kl,h.al⟩,hF07⟩
 ·have hG7:=(hG5.frm bM hF6 fun j _ h=>.inl h).frm bM hF7 fun j _ h=>.inr h
  exact (GR.step (S:=NoB) (Y':=NoB) bM hG7 (Frm.refl _ _) (fun _ _ h=>h.elim) fun _ _ h=>h.elim).close bM (by decide)
 ·have hG7:=hG6.frm bT hF7 fun j _ h=>.inr h
  exact (GR.step (S:=NoB) (Y':=NoB) bT hG7 (Frm.refl _ _) (fun _ _ h=>h.elim) fun _ _ h=>h.elim).close bT (by decide)
end
end Go.Pg
namespace Go.Pg
open Go.Proofs Go.Utf8 Go.Lib
set_option linter.unusedSimpArgs false
section
variable {N:List NV} {D:List Dc}
def iQ (N:List NV) (p:Int):Prop:=p= -1∨∃ i:Nat,p=(i:Int)∧∃ h:i<N.length,20<N[i].x.k
theorem cR.pat_at (g:cR N D) {i:Nat} (hi:i<N.length) (hk:20<N[i].x.k):cY N ((i:Nat):Int)=N[i]:=patN_at (List.getElem?_eq_getElem hi) hk (g.node i hi).shape
theorem cR.many (g:cR N D) {i:Nat} (hi:i<N.length) (hk:20<N[i].x.k):dO D (bQ N[i])=N[i].kids.length:=
 many_kids (g.node i hi).shape hk fun h=>(g.node i hi).con (.inr h)
theorem cR.kidP (g:cR N D) {i:Nat} (hi:i<N.length) (hk:20<N[i].x.k):∀ k∈N[i].kids,iQ N ((k:Nat):Int):=by
 intro k hk2
 obtain ⟨j,hj,rfl⟩:=List.getElem_of_mem hk2
 obtain ⟨h1,u,h2,h3⟩:=(g.node i hi).kid j hj
 obtain ⟨h4,h5⟩:=List.getElem?_eq_some_iff.1 h2
 refine .inr ⟨_,rfl,h4,?_⟩
 rw [h5]
 have:decide (N[i].x.k>20)=true:=by simpa using hk
 rw [this,Bool.true_or] at h3
 simpa using h3
theorem iW {v:NV} (h:bR v=true):kM v.x.k v.x.n=true∧iO v.x.k v.x.nm=true∧v.x.k≤26:=by
 unfold bR at h
 simp only [Bool.and_eq_true,decide_eq_true_eq] at h
 exact ⟨h.1.1.2,h.1.2,h.1.1.1.1.2⟩
theorem pV {v u:NV} (hv:bR v=true) (hu:bR u=true) (kv:22<v.x.k) (ku:20<u.x.k):(v.x.k=u.x.k∧v.x.n=u.x.n∧v.x.nm=u.x.nm)↔bQ u=bQ v:=by
 obtain ⟨n1,m1,b1⟩:=iW hv
 obtain ⟨n2,m2,b2⟩:=iW hu
 have cases4:v.x.k=23∨v.x.k=24∨v.x.k=25∨v.x.k=26:=by omega
 constructor
 ·rintro ⟨h1,h2,h3⟩
  unfold bQ
  rw [h1,h2,h3]
 ·intro h
  have key:∀ w:NV,20<w.x.k→w.x.k≤26→(bQ w).k=if 22<w.x.k then w.x.k else 0:=by
   intro w h1 h2
   unfold bQ
   split
   ·rw [if_pos (by omega)]
   ·split
    ·rw [if_pos (by omega)];show (25:Int)=_;omega
    ·split
     ·rw [if_pos (by omega)];show (26:Int)=_;omega
     ·rw [if_neg (by omega)]
  have hk:=congrArg Shp.k h
  rw [key u ku b2,key v (by omega) b1,if_pos kv] at hk
  have hk2:u.x.k=v.x.k:=by
   split at hk
   ·exact hk
   ·omega
  have hn0:v.x.k=25∨v.x.k=26→v.x.n=0∧u.x.n=0:=by
   intro h25
   unfold kM at n1 n2
   rw [if_neg (by omega),if_neg (by omega)] at n1 n2
   exact ⟨by simpa using n1,by simpa using n2⟩
  have hm0:v.x.k≠26→v.x.nm=[]∧u.x.nm=[]:=by
   intro h26
   unfold iO at m1 m2
   rw [if_neg (by omega),if_neg (by omega),if_neg (by omega)] at m1 m2
   exact ⟨by simpa using m1,by simpa using m2⟩
  unfold bQ at h
  rw [hk2] at h
  refine ⟨hk2.symm,?_,?_⟩
  ·rcases cases4 with e|e|e|e
   ·rw [if_pos (by omega),if_pos (by omega)] at h
    exact (congrArg Shp.n h).symm
   ·rw [if_pos (by omega),if_pos (by omega)] at h
    exact (congrArg Shp.n h).symm
   ·obtain ⟨h1,h2⟩:=hn0 (.inl e);omega
   ·obtain ⟨h1,h2⟩:=hn0 (.inr e);omega
  ·by_cases e:v.x.k=26
   ·rw [if_neg (by omega),if_neg (by omega),if_pos e,if_neg (by omega),if_neg (by omega),if_pos e] at h
    exact (congrArg Shp.nm h).symm
   ·obtain ⟨h1,h2⟩:=hm0 e
    rw [h1,h2]
theorem shp0_iff {v:NV} (h1:20<v.x.k) (h2:v.x.k≤26):(bQ v).k=0↔v.x.k=21∨v.x.k=22:=by
 unfold bQ
 split
 ·simp only;omega
 ·split
  ·simp only;omega
  ·split
   ·simp only;omega
   ·exact ⟨fun _=>by omega,fun _=>rfl⟩
theorem cR.shp0 (g:cR N D) {p:Int} (hp:iQ N p):(shp N p).k=0↔(cY N p).x.k=21∨(cY N p).x.k=22:=by
 rcases hp with rfl|⟨i,rfl,hi,hk⟩
 ·exact ⟨fun _=>.inl rfl,fun _=>rfl⟩
 ·unfold shp
  rw [g.pat_at hi hk]
  exact shp0_iff hk (iW (g.node i hi).shape).2.2
end
section
variable {σ:aC} {N:List NV} {D:List Dc} {pn pd:Option Addr} {cn cd A steps:Nat}
theorem pI (g:cR N D) (h:Ask σ A pn N cn pd D cd steps) {p:Int} (hp:iQ N p):
  WpF aF ovD 50 [bU A,.int .i64 p] σ fun v σ'=>∃ cs,v=.agg cs.toArray∧(∀ Y:Nat→Prop,cU σ Y pn N pd D→nvR σ' Y cs (cY N p))∧(∃ q k,cs=[.int .i64 (cY N p).x.k,.int .i64 (cY N p).x.n,.string (mkB (cY N p).x.nm),.string (mkB (cY N p).x.pm),.slice q (cY N p).kids.length k,.int .i64 (cY N p).x.fr,.int .i64 (cY N p).x.to])∧Frm σ σ' NoB:=by
 refine WpF.of (T50_eq _ _) rfl ?_
 rw [T50]
 refine aN fun σ1 hF1 hn1 hS1=>?_
 have h1:=h.frm hF1
 rw [aB]
 rcases hp with rfl|⟨i,rfl,hi,hk⟩
 ·rw [if_pos (by simp)]
  refine bA hS1 rfl rfl fun σ2 hF2 hn2 hS2=>?_
  rw [aM hS2 7 rfl]
  simp only [wpS]
  exact ⟨_,rfl,_,rfl,fun Y _=>nvR_any,⟨none,0,rfl⟩,hF1.fresh hF2 fun j hj h=>by omega⟩
 ·rw [if_neg (by simp)]
  simp only [wpS]
  rw [dI,aE h1.st (v:=.slice pn N.length cn) rfl]
  simp only [wpS,g.pat_at hi hk]
  obtain ⟨x,cs,hx,hvis,hrd,hcs⟩:=h.tree.nodes i hi
  subst hx
  have hrd1:σ1.rdN (aadd x (i*7)) 7=some cs:=by rw [oS hF1 hvis fun _ _ h=>h.elim];exact hrd
  have hall:∀ Y:Nat→Prop,cU σ Y (some x) N pd D→nvR σ Y cs N[i]:=fun Y hT=>by
   obtain ⟨x',cs',hx',_,hrd',hcs'⟩:=hT.nodes i hi
   cases hx'
   rw [hrd] at hrd'
   cases hrd'
   exact hcs'
  simp only [wpS]
  rw [aP]
  refine ⟨by simp;omega,?_⟩
  have e7:Go.Pg.ldN 7 (aadd x (Int.toNat ((i:Nat):Int)*7)) σ1=some (.agg cs.toArray,σ1):=by
   rw [Int.toNat_natCast]
   unfold Go.Pg.ldN
   rw [hrd1]
  rw [bB,e7]
  obtain ⟨q,k,hcs7,_,_⟩:=hcs
  subst hcs7
  simp only [wpS]
  refine bA hS1 rfl rfl fun σ2 hF2 hn2 hS2=>?_
  rw [aM hS2 7 rfl]
  simp only [wpS]
  have hF02:Frm σ σ2 NoB:=hF1.fresh hF2 fun j hj h=>by omega
  exact ⟨_,rfl,_,rfl,fun Y hT=>bM _ _ _ _ _ _ _ hF02 (fun _ _ h=>h.elim) (fun _ _ h=>h) (hall Y hT),⟨q,k,rfl⟩,hF02⟩
theorem tL (g:cR N D) (h:Ask σ A pn N cn pd D cd steps) {p:Int} (hp:iQ N p):
  WpF aF ovD 49 [bU A,.int .i64 p] σ fun v σ'=>v=.bool (decide ((shp N p).k=0))∧Frm σ σ' NoB:=by
 refine WpF.of (T49_eq _ _) rfl ?_
 rw [T49,aD]
 refine WpF.mono (pI g h hp) ?_
 rintro _ σ1 ⟨cs,rfl,_,⟨q,k,rfl⟩,hF1⟩
 simp only [wpS]
 refine ⟨_,rfl,?_,hF1⟩
 congr 1
 have:=g.shp0 hp
 by_cases h1:(cY N p).x.k=21<;>by_cases h2:(cY N p).x.k=22<;>simp_all
theorem wp_anys29 {Y:Nat→Prop} (n:Nat) (hn:n≤100000000000) {q:Option Addr} {k:Nat} {r:List Int} (hr:RI σ Y q k r) (hl:r.length≤100000000000):
  WpF aF ovD 29 [.int .i64 ((n:Nat):Int),.slice q r.length k] σ fun v σ'=>∃ q' k',v=.slice q' (List.replicate n (-1)++r).length k'∧RI σ' (fun j=>j<σ.n) q' k' (List.replicate n (-1)++r)∧Frm σ σ' NoB:=by
 refine WpF.of (T29_eq _ _ _ _) rfl ?_
 rw [T29]
 refine Wp.count n (fun i st σ'=>∃ b po c,st=[.int .i64 ((i:Nat):Int),.slice po i c]∧Frm σ σ' NoB∧SlV σ' b po c ((List.replicate i (-1)).map jY)∧(po≠none→σ.n≤b)) ⟨0,none,0,rfl,Frm.refl _ _,.inl ⟨rfl,rfl,by simp⟩,fun h=>absurd rfl h⟩ ?_ ?_
 ·rintro i st τ hi ⟨b,po,c,rfl,hF,hO,hb⟩
  have ei:aR ((i:Int)+1)=((i+1:Nat):Int):=by rw [aS (by omega)];omega
  unfold T29b0
  simp only [wpS]
  rw [aB,if_pos (by simp;omega),aI]
  refine wp_app1 hO (by rw [List.length_map,List.length_replicate]) rfl (by omega) (by omega) fun τ2 b2 off2 s2 c2 hF2 hb2 hO2=>?_
  simp only [wpS,T29k0,ei]
  refine ⟨b2,_,c2,rfl,hF.fresh hF2 fun j hj h=>by have:=hb h.1;omega,.inr ⟨off2,s2,rfl,?_⟩,fun _=>?_⟩
  ·rw [List.replicate_succ',List.map_append]
   exact hO2
  ·have:=hF.n
   rcases hb2 with ⟨h1,h2⟩|h1
   ·have:=hb h1;omega
   ·omega
 ·rintro st τ ⟨b,po,c,rfl,hF,hO,hb⟩
  unfold T29b0
  simp only [wpS]
  rw [aB,if_neg (by simp)]
  simp only [wpS,T29k1]
  have hrτ:=hr.frm hF
  refine jF (ys:=r.map jY) hO (by rw [List.length_map,List.length_replicate]) (hrτ.row.src (fun _ _ h=>h) hrτ.emp) (by simp) (by intro y hy;obtain ⟨z,_,rfl⟩:=List.mem_map.1 hy;rfl) (by omega) (by omega) fun σ7 b7 p7 c7 hF7 hb7 hO7=>?_
  simp only [wpS]
  refine ⟨_,rfl,p7,c7,by simp,RI.own (by simpa using hO7) ?_,hF.fresh hF7 fun j hj h=>by have:=hb h.1;omega⟩
  intro h1 h2
  have hnτ:=hF.n
  rcases hb7 with h3|⟨h3,h4⟩|h3
  ·exact h1 h3
  ·have:=hb h3;omega
  ·omega
theorem wp_alike81 {v u:NV} {q1 q2:Option Addr} {n1 k1 n2 k2:Nat}:
  WpF aF ovD 81 [.agg #[.int .i64 v.x.k,.int .i64 v.x.n,.string (mkB v.x.nm),.string (mkB v.x.pm),.slice q1 n1 k1,.int .i64 v.x.fr,.int .i64 v.x.to],.agg #[.int .i64 u.x.k,.int .i64 u.x.n,.string (mkB u.x.nm),.string (mkB u.x.pm),.slice q2 n2 k2,.int .i64 u.x.fr,.int .i64 u.x.to]] σ
   fun w σ'=>w=.bool (decide (v.x.k=u.x.k∧v.x.n=u.x.n∧v.x.nm=u.x.nm))∧Frm σ σ' NoB:=by
 refine WpF.of (T81_eq _ _ _ _ _ _ _ _ _ _ _ _ _ _ _ _ _ _) rfl ?_
 rw [T81]
 refine aN fun σ1 hF1 hn1 hS1=>?_
 refine aN fun σ2 hF2 hn2 hS2=>?_
 have hS12:=hF2.stN hS1
 have fin:∀ b:Bool,b=decide (v.x.k=u.x.k∧v.x.n=u.x.n∧v.x.nm=u.x.nm)→Wp aF ovD (T81k0 .normal [.bool b]) σ2 fun _ vs σ'=>∃ w,vs=[w]∧w=.bool (decide (v.x.k=u.x.k∧v.x.n=u.x.n∧v.x.nm=u.x.nm))∧Frm σ σ' NoB:=by
  rintro b rfl
  simp only [wpS,T81k0]
  exact ⟨_,rfl,rfl,hF1.seq hF2⟩
 rw [aI,aE hS12 (v:=.int .i64 v.x.k) rfl]
 simp only [wpS]
 rw [aE hS2 (v:=.int .i64 u.x.k) rfl]
 simp only [wpS]
 rw [aB]
 by_cases c1:v.x.k=u.x.k
 case neg=>
  rw [if_neg (by simpa using c1)]
  simp only [wpS]
  exact fin _ (by simp [c1])
 rw [if_pos (by simpa using c1),aE hS12 (v:=.int .i64 v.x.n) rfl]
 simp only [wpS]
 rw [aE hS2 (v:=.int .i64 u.x.n) rfl]
 simp only [wpS]
 rw [aB]
 by_cases c2:v.x.n=u.x.n
 case neg=>
  rw [if_neg (by simpa using c2)]
  simp only [wpS]
  exact fin _ (by simp [c2])
 rw [if_pos (by simpa using c2),aE hS12 (v:=.string (mkB v.x.nm)) rfl]
 simp only [wpS]
 rw [aE hS2 (v:=.string (mkB u.x.nm)) rfl]
 simp only [wpS,eR]
 exact fin _ (by simp [c1,c2])
end
end Go.Pg
namespace Go.Pg
open Go.Proofs Go.Utf8 Go.Lib
set_option linter.unusedSimpArgs false
section
variable {σ:aC} {N:List NV} {D:List Dc} {pn pd:Option Addr} {cn cd A steps:Nat} {q:Option Addr} {k:Nat} {L:List (List Int)}
abbrev ndC (v:NV) (q:Option Addr) (k:Nat):List Value:=[.int .i64 v.x.k,.int .i64 v.x.n,.string (mkB v.x.nm),.string (mkB v.x.pm),.slice q v.kids.length k,.int .i64 v.x.fr,.int .i64 v.x.to]
theorem wp_rest54 (g:cR N D) (h:Ask σ A pn N cn pd D cd steps) (hL:aQ σ (· =A) 1 (rwR σ (· =A)) q L) (hl:L.length≤1000000) (hw:∀ r∈L,1≤r.length) (hP:∀ r∈L,∀ p∈r,iQ N p):
  WpF aF ovD 54 [bU A,.slice q L.length k] σ fun v σ'=>∃ q' k',v=.slice q' (iS N L).length k'∧aQ σ' (· =A) 1 (rwR σ' (· =A)) q' (iS N L)∧Frm σ σ' NoB:=by
 refine WpF.of (T54_eq _ _ _ _) rfl ?_
 rw [T54]
 have hA:=h.st.1
 refine Wp.count L.length (fun i st σ'=>∃ pr c rb css,st=[.int .i64 ((i:Nat):Int),.slice pr (iS N (L.take i)).length c]∧Frm σ σ' NoB∧GR rwR 1 σ' (· =A) rb (iS N (L.take i)) css pr c∧(pr≠none→σ.n≤rb)) ⟨none,0,0,[],rfl,Frm.refl _ _,.zero,fun h=>absurd rfl h⟩ ?_ ?_
 ·rintro i st σ7 hi ⟨pr,c,rb,css,rfl,hF7,hG7,hrb7⟩
  have ei:aR ((i:Int)+1)=((i+1:Nat):Int):=by rw [aS (by omega)];omega
  have hlen:(iS N (L.take i)).length≤i:=by
   have:=tG (N:=N) (L.take i)
   rw [List.length_take] at this
   omega
  have hstep:=restC_take (N:=N) hi
  have hY:∀ j,j<σ.n→(j=A∨σ.n≤j)→j=A:=fun j h1 h2=>by omega
  have hL7:aQ σ7 (fun j=>j=A∨σ.n≤j) 1 (rwR σ7 (fun j=>j=A∨σ.n≤j)) q L:=aQ.step (S:=NoB) hF7 (fun _ _ h=>h.elim) hY (fun _ _ h=>aY _ _ _ _ _ _ _ hF7 (fun _ _ h=>h.elim) hY h) hL
  unfold T54b0
  simp only [wpS]
  rw [aB,if_pos (by simp;omega),aI]
  refine bS hL7 hi rfl fun cs hcs=>?_
  have hw1:=hw L[i] (List.getElem_mem hi)
  have hP1:=hP L[i] (List.getElem_mem hi)
  obtain ⟨qr,kr,rfl,hRI⟩:=hcs
  refine ⟨_,rfl,?_⟩
  simp only [wpS]
  cases hr:L[i] with
  |nil=>rw [hr] at hw1;simp at hw1
  |cons x y=>
  rw [hr] at hRI hP1 hstep
  have hhead:lC N (x::y)=shp N x:=rfl
  rw [hhead,List.drop_succ_cons,List.drop_zero] at hstep
  refine gP hRI rfl ?_
  simp only [wpS]
  rw [aD]
  refine WpF.mono (tL g (h.frm hF7) (hP1 x (by simp))) ?_
  rintro _ σ8 ⟨rfl,hF8⟩
  simp only [wpS]
  have hF68:=hF7.seq hF8
  have hG8:=hG7.frmN aY hF8
  have hn78:=hF8.n
  have hn67:=hF7.n
  rw [aB]
  by_cases ht:(shp N x).k=0
  ·rw [if_pos (by simpa using ht)]
   have hL8:aQ σ8 (fun j=>j=A∨σ.n≤j) 1 (rwR σ8 (fun j=>j=A∨σ.n≤j)) q L:=aQ.step (S:=NoB) hF8 (fun _ _ h=>h.elim) (fun _ _ h=>h) (fun _ _ h=>aY _ _ _ _ _ _ _ hF8 (fun _ _ h=>h.elim) (fun _ _ h=>h) h) hL7
   refine bS hL8 hi rfl fun cs hcs=>?_
   obtain ⟨qr2,kr2,rfl,hRI2⟩:=hcs
   rw [hr] at hRI2 ⊢
   refine ⟨_,rfl,?_⟩
   simp only [wpS]
   rw [aP]
   refine ⟨jW hRI2 rfl,?_⟩
   rw [if_pos ht] at hstep
   have hb:rwR σ8 (fun j=>j=A∨pr≠none∧j=rb) [.slice (qF qr2 1) ((x::y).length - 1) (kr2 - 1)] y:=by
    refine ⟨qF qr2 1,kr2 - 1,rfl,hRI2.cut.step (S:=NoB) (Frm.refl _ _) (fun _ _ h=>h.elim) ?_⟩
    rintro j _ (h1|⟨h1,h2⟩)
    ·exact .inl h1
    ·have:=hrb7 h1;exact .inr (by omega)
   refine fI aY (fun j h=>by omega) hG8 (by decide) (by decide) rfl (by intro y hy;simp at hy;subst hy;rfl) hb (by omega) (by decide) fun σ9 rb9 p9 c9 hF9 hrb9 hG9=>?_
   simp only [wpS,T54k0,T54k1,ei]
   rw [hstep]
   refine ⟨some p9,c9,rb9,_,by simp,hF68.fresh hF9 fun j hj h=>by have:=hrb7 h.1;omega,hG9,fun _=>?_⟩
   rcases hrb9 with ⟨h1,h2⟩|h1
   ·have:=hrb7 h1;omega
   ·omega
  ·rw [if_neg (by simpa using ht)]
   simp only [wpS,T54k0,T54k1,ei]
   rw [if_neg ht,List.append_nil] at hstep
   rw [hstep]
   exact ⟨pr,c,rb,_,rfl,hF68,hG8,hrb7⟩
 ·rintro st σ7 ⟨pr,c,rb,css,rfl,hF7,hG7,hrb7⟩
  rw [List.take_length] at hG7 ⊢
  unfold T54b0
  simp only [wpS]
  rw [aB,if_neg (by simp)]
  simp only [wpS,T54k2]
  exact ⟨_,rfl,pr,c,rfl,hG7.close aY (by decide),hF7⟩
theorem wp_by51 (g:cR N D) (h:Ask σ A pn N cn pd D cd steps) {v:NV} {qv:Option Addr} {kv:Nat} (hv:bR v=true) (hvk:22<v.x.k) (hmv:dO D (bQ v)=v.kids.length) (hL:aQ σ (· =A) 1 (rwR σ (· =A)) q L) (hl:L.length≤1000000) (hw:∀ r∈L,1≤r.length∧r.length≤100000000000) (hP:∀ r∈L,∀ p∈r,iQ N p):
  WpF aF ovD 51 [bU A,.slice q L.length k,.agg (ndC v qv kv).toArray] σ fun w σ'=>∃ q' k',w=.slice q' (bX N D (bQ v) L).length k'∧aQ σ' (fun j=>j<σ.n) 1 (rwR σ' (fun j=>j<σ.n)) q' (bX N D (bQ v) L)∧Frm σ σ' NoB:=by
 refine WpF.of (T51_eq _ _ _ _ _ _ _ _ _ _ _ _ _) rfl ?_
 rw [T51]
 refine aN fun σ1 hF1 hn1 hS1=>?_
 have hA:=h.st.1
 have hsk:(bQ v).k≠0:=fun h0=>by
  have:=(shp0_iff (by omega) (iW hv).2.2).1 h0
  omega
 have hml:=sZ h.al (bQ v)
 refine Wp.count L.length (fun i st σ'=>∃ p c rb css,st=[.int .i64 ((i:Nat):Int),.slice p (bX N D (bQ v) (L.take i)).length c]∧Frm σ1 σ' NoB∧GR rwR 1 σ' (fun j=>j<σ.n) rb (bX N D (bQ v) (L.take i)) css p c∧(p≠none→σ1.n≤rb))
  ⟨none,0,0,[],rfl,Frm.refl _ _,.zero,fun h=>absurd rfl h⟩ ?_ ?_
 ·rintro i st σ2 hi ⟨p,c,rb,css,rfl,hF2,hG2,hrb⟩
  have ei:aR ((i:Int)+1)=((i+1:Nat):Int):=by rw [aS (by omega)];omega
  have hF02:=hF1.seq hF2
  have hlen:(bX N D (bQ v) (L.take i)).length≤i:=by
   have:=List.length_filterMap_le (dG N D (bQ v)) (L.take i)
   rw [List.length_take] at this
   show (List.filterMap (dG N D (bQ v)) (L.take i)).length≤i
   omega
  have hstep:bX N D (bQ v) (L.take (i+1))=bX N D (bQ v) (L.take i)++(dG N D (bQ v) L[i]).toList:=pD _ hi
  have hL2:=hL.frmM aY hF02
  have gi:(decide (0≤((i:Nat):Int))&&decide (((i:Nat):Int)<((L.length:Nat):Int)))=true:=by simp;omega
  obtain ⟨xr,cs,hxr,hcs,hkr⟩:=Kp.ofRow hL2 hi
  obtain ⟨hw1,hw2⟩:=hw L[i] (List.getElem_mem hi)
  have hP1:=hP L[i] (List.getElem_mem hi)
  generalize hr:L[i]=r at hcs hw1 hw2 hP1 hstep
  obtain ⟨qr,kr,rfl,hRI⟩:=hcs
  have hkr0:Kp σ2 (aadd xr (Int.toNat ((i:Nat):Int)*1)) (.slice qr r.length kr):=hkr 0 _ (by decide) rfl
  subst hxr
  unfold T51b0
  simp only [wpS]
  rw [aB,if_pos (by simp;omega),aI,aP]
  refine ⟨gi,?_⟩
  rw [dD hkr0]
  simp only [wpS]
  cases r with
  |nil=>simp at hw1
  |cons x r=>
  have hpx:=hP1 x (by simp)
  refine gP hRI rfl ?_
  simp only [wpS]
  rw [aD]
  refine WpF.mono (pI g (h.frm hF02) hpx) ?_
  rintro _ σ3 ⟨cs,rfl,hnv,⟨qy,ky,rfl⟩,hF3⟩
  obtain ⟨qy',ky',he7,hrowy,hempy⟩:=hnv (· =A) (h.frm hF02).tree
  cases he7
  have hspec:=pO (N:=N) (D:=D) (bQ v) x r
  have hshp:shp N x=bQ (cY N x):=rfl
  have hyk:shp N x=bQ v→fO (cY N x) (dO D (bQ v))=(cY N x).kids.map fun (n:Nat)=>(n:Int):=by
   intro he
   rcases hpx with rfl|⟨ix,rfl,hix,hkx⟩
   ·exact absurd (congrArg Shp.k he).symm hsk
   ·rw [←he,hshp,g.pat_at hix hkx,g.many hix hkx,kidsC_all]
  have halike:(v.x.k=(cY N x).x.k∧v.x.n=(cY N x).x.n∧v.x.nm=(cY N x).x.nm)→(shp N x).k≠0→shp N x=bQ v:=by
   intro ha hk0
   rcases hpx with rfl|⟨ix,rfl,hix,hkx⟩
   ·exact absurd rfl hk0
   ·rw [hshp,g.pat_at hix hkx] at*
    exact (pV hv (g.node ix hix).shape hvk hkx).1 ha
  have halike2:shp N x=bQ v→(v.x.k=(cY N x).x.k∧v.x.n=(cY N x).x.n∧v.x.nm=(cY N x).x.nm):=by
   intro he
   rcases hpx with rfl|⟨ix,rfl,hix,hkx⟩
   ·exact absurd (congrArg Shp.k he).symm hsk
   ·rw [hshp,g.pat_at hix hkx] at*
    exact (pV hv (g.node ix hix).shape hvk hkx).2 he
  have hykl:(cY N x).kids.length≤1000000:=by
   rcases hpx with rfl|⟨ix,rfl,hix,hkx⟩
   ·exact Nat.zero_le _
   ·rw [g.pat_at hix hkx];exact h.kl _ (List.getElem_mem hix)
  generalize cY N x=u at hspec hyk halike halike2 hrowy hempy hykl
  simp only [wpS]
  have hF23:=hF3
  refine aN fun σ4 hF4 hn4 hS4=>?_
  generalize hZ:σ3.n=Z at hS4
  refine bA hS4 rfl rfl fun σ5 hF5 hn5 hS5=>?_
  have hF35:Frm σ3 σ5 NoB:=hF4.fresh hF5 fun j hj h=>by omega
  have hF25:=hF3.seq hF35
  have hF05:=hF02.seq hF25
  simp only [wpS]
  rw [aP]
  refine ⟨gi,?_⟩
  rw [dD (hkr0.frm hF25)]
  simp only [wpS]
  refine gP (hRI.frm hF25) rfl ?_
  simp only [wpS]
  rw [aD]
  refine WpF.mono (tL g (h.frm hF05) hpx) ?_
  rintro _ σ6 ⟨rfl,hF6⟩
  simp only [wpS]
  have hF26:=hF25.seq hF6
  have hF16:=hF2.seq hF26
  have hF06:=hF02.seq hF26
  have hn26:=hF26.n
  have hn12:=hF16.n
  have put:∀ (y:List Int) (q':Option Addr) (k':Nat) (τ:aC) (m:Nat),Frm σ2 τ NoB→σ2.n≤m→RI τ (fun j=>j<m) q' k' y→dG N D (bQ v) (x::r)=some y→∀ (Qn:cK),(∀ τ' p9 c9 rb9 css9,Frm σ1 τ' NoB→GR rwR 1 τ' (fun j=>j<σ.n) rb9 (bX N D (bQ v) (L.take (i+1))) css9 (some p9) c9→σ1.n≤rb9→Qn .normal [.slice (some p9) (bX N D (bQ v) (L.take (i+1))).length c9] τ')→
    Wp aF ovD (.act (qW 1 1 [.slice q' y.length k']) fun v86=>aL v86 fun p87 n88 n89=>.act (apS 1 24 p (bX N D (bQ v) (L.take i)).length c p87 n88 n89) fun v90=>aL v90 fun p91 n92 n93=>.ret .normal [.slice p91 n92 n93]) τ Qn:=by
   intro y q' k' τ m hF hm hRI' hsp Qn hQn
   have hFτ:=hF2.seq hF
   have hnτ:=hF.n
   have hG:=hG2.frmN aY hF
   have hb:rwR τ (fun j=>j<σ.n∨p≠none∧j=rb) [.slice q' y.length k'] y:=by
    refine ⟨q',k',rfl,hRI'.step (S:=NoB) (Frm.refl _ _) (fun _ _ h=>h.elim) ?_⟩
    rintro j _ (h1|⟨h1,h2⟩)
    ·have:=hF02.n;show j<m;omega
    ·have:=hG2.lt h1;show j<m;omega
   refine fI aY (fun j h=>by have:=hF02.n;omega) hG (by decide) (by decide) rfl (by intro y hy;simp at hy;subst hy;rfl) hb (by omega) (by decide) fun τ4 rb4 p4 c4 hF4 hrb4 hG4=>?_
   simp only [wpS]
   rw [hsp] at hstep
   simp only [Option.toList_some] at hstep
   have e1:(bX N D (bQ v) (L.take i)).length+1=(bX N D (bQ v) (L.take (i+1))).length:=by rw [hstep];simp
   rw [e1]
   refine hQn τ4 p4 c4 rb4 _ (hFτ.fresh hF4 fun j hj h=>by have:=hrb h.1;omega) (by rw [hstep];exact hG4) ?_
   have:=hFτ.n
   rcases hrb4 with ⟨h1,h2⟩|h1
   ·have:=hrb h1;omega
   ·omega
  rw [aB]
  by_cases ck:(shp N x).k=0
  ·rw [if_pos (by simpa using ck),aE ((hF2.seq hF26).stN hS1) (v:=.slice qv v.kids.length kv) rfl]
   simp only [wpS]
   rw [aP]
   refine ⟨gi,?_⟩
   rw [dD (hkr0.frm hF26)]
   simp only [wpS]
   have hRI6:=hRI.frm hF26
   rw [aP]
   refine ⟨jW hRI6 rfl,?_⟩
   rw [aD]
   have hx0:shp N x≠bQ v:=fun he=>hsk (by rw [←he];exact ck)
   rw [if_neg hx0,if_pos (shp_0.1 ck),hmv] at hspec
   refine WpF.mono (wp_anys29 v.kids.length (by omega) hRI6.cut (by simp at hw2;omega)) ?_
   rintro _ σ7 ⟨q7,k7,rfl,hRI7,hF7⟩
   simp only [wpS]
   refine put _ _ _ _ _ (hF26.seq hF7) (by omega) hRI7 hspec _ fun τ' p9 c9 rb9 css9 hF9 hG9 hrb9=>?_
   simp only [wpS,T51k2,T51k3,ei]
   exact ⟨some p9,c9,rb9,css9,rfl,hF9,hG9,fun _=>hrb9⟩
  ·rw [if_neg (by simpa using ck),aM (hF16.stN hS1) 7 rfl]
   simp only [wpS]
   rw [aM (hF6.stN hS5) 7 rfl]
   simp only [wpS]
   rw [aD]
   refine WpF.mono wp_alike81 ?_
   rintro _ σ7 ⟨rfl,hF7⟩
   simp only [wpS]
   have hF27:=hF26.seq hF7
   have hx0:shp N x≠⟨0,0,[]⟩:=fun he=>ck (by rw [he])
   rw [if_neg hx0] at hspec
   rw [aB]
   by_cases ca:v.x.k=u.x.k∧v.x.n=u.x.n∧v.x.nm=u.x.nm
   ·rw [if_pos (by simpa using ca)]
    have he:=halike ca ck
    rw [if_pos he,hyk he] at hspec
    have hS7:=hF7.stN (hF6.stN hS5)
    rw [cG,bB,dB]
    simp only [wpS]
    have hF8:Frm σ7 (σ7.newBlk [] 1) NoB:=Frm.new _ _ _ _
    have hR8:Row (σ7.newBlk [] 1) σ7.n 0 1 0 1 []:=Row.new σ7 1 [] 0 (by decide) rfl (by simp)
    generalize σ7.newBlk [] 1=σ8 at hF8 hR8 ⊢
    rw [aE (hF8.stN hS7) (v:=.slice qy u.kids.length ky) rfl,aP]
    refine ⟨mZ fun τ hτ=>by rw [List.mem_singleton.1 hτ];exact Kp.st hS7 rfl,?_⟩
    simp only [wpS]
    rw [cG]
    have hF38:Frm σ3 σ8 NoB:=hF35.seq (hF6.seq (hF7.seq hF8))
    have hrow8:=hrowy.later hF38
    have hemp8:Emp σ8 (· =A) qy:=hempy.step (Y':=(· =A)) hF38 (fun _ _ h=>h.elim) fun _ _ h=>h
    have hn27:=hF27.n
    have hn78:=hF8.n
    refine jF (b:=σ7.n) (xs:=[]) (ys:=u.kids.map nC) (.inr ⟨0,1,rfl,hR8⟩) rfl (hrow8.src (fun _ _ h=>h) hemp8) (by simp) (by intro y hy;obtain ⟨j,_,rfl⟩:=List.mem_map.1 hy;rfl) (by omega) (by omega) fun σ9 kb kp kc hF9 hkb hK9=>?_
    rw [Nat.zero_add]
    have hF79:Frm σ7 σ9 NoB:=hF8.fresh hF9 fun j hj h=>by omega
    have hF29:=hF27.seq hF79
    rw [aP]
    refine ⟨gi,?_⟩
    rw [dD (hkr0.frm hF29),aP]
    refine ⟨mZ fun τ hτ=>by
     simp only [List.mem_cons,List.mem_nil_iff,or_false] at hτ
     rcases hτ with rfl|rfl
     ·exact hkr0.frm (hF27.seq hF8)
     ·exact hkr0.frm hF27,?_⟩
    simp only [wpS]
    have hRI9:=hRI.frm hF29
    rw [aP]
    refine ⟨jW hRI9 rfl,?_⟩
    have hcut:=hRI9.cut
    have hkbn:kp≠none→σ7.n≤kb:=fun h=>by
     rcases hkb with h2|⟨_,h2⟩|h2
     ·exact absurd h2 h
     ·omega
     ·omega
    have hrl:r.length≤100000000000:=by simp at hw2;omega
    rw [show (x::r).length - 1=r.length from rfl]
    refine jF (ys:=r.map jY) (xs:=u.kids.map nC) (by simpa using hK9) (by simp) (hcut.row.src (fun _ _ h=>h) hcut.emp) (by simp) (by intro y hy;obtain ⟨z,_,rfl⟩:=List.mem_map.1 hy;rfl) (by omega) (by omega) fun σa ka qa ca' hFa hka hKa=>?_
    have hF2a:Frm σ2 σa NoB:=hF29.fresh hFa fun j hj h=>by have:=hkbn h.1;omega
    have hlen2:u.kids.length+r.length=(u.kids.map (fun (n:Nat)=>(n:Int))++r).length:=by simp
    rw [hlen2]
    have hRIa:RI σa (fun j=>j<σ7.n) qa ca' (u.kids.map (fun (n:Nat)=>(n:Int))++r):=by
     refine RI.own (b:=ka) ?_ fun h1 h2=>?_
     ·have e:(u.kids.map (fun (n:Nat)=>(n:Int))++r).map jY=u.kids.map nC++r.map jY:=by simp [jY,nC]
      rw [e];exact hKa
     ·have h2':ka<σ7.n:=h2
      have:=hF79.n
      rcases hka with h3|⟨h3,h4⟩|h3
      ·exact h1 h3
      ·have:=hkbn h3;omega
      ·omega
    refine put _ _ _ _ σ7.n hF2a (by omega) hRIa hspec _ fun τ' p9 c9 rb9 css9 hF9' hG9 hrb9=>?_
    simp only [wpS,T51k0,T51k1,T51k2,T51k3,ei]
    exact ⟨some p9,c9,rb9,css9,rfl,hF9',hG9,fun _=>hrb9⟩
   ·rw [if_neg (by simpa using ca)]
    have hne:shp N x≠bQ v:=fun he=>ca (halike2 he)
    rw [if_neg hne] at hspec
    rw [hspec] at hstep
    simp only [Option.toList_none,List.append_nil] at hstep
    simp only [wpS,T51k0,T51k1,T51k2,T51k3,ei]
    rw [hstep]
    exact ⟨p,c,rb,css,rfl,hF2.seq hF27,hG2.frmN aY hF27,hrb⟩
 ·rintro st σ2 ⟨p,c,rb,css,rfl,hF2,hG2,hrb⟩
  rw [List.take_length] at hG2 ⊢
  unfold T51b0
  simp only [wpS]
  rw [aB,if_neg (by simp)]
  simp only [wpS,T51k4]
  exact ⟨_,rfl,p,c,rfl,hG2.close aY (by decide),hF1.seq hF2⟩
end
end Go.Pg
namespace Go.Pg
open Go.Proofs Go.Utf8 Go.Lib
set_option linter.unusedSimpArgs false
def alikeV (v u:NV):Prop:=v.x.k=u.x.k∧v.x.n=u.x.n∧v.x.nm=u.x.nm
instance (v u:NV):Decidable (alikeV v u):=inferInstanceAs (Decidable (_∧_∧_))
def oldN' (l:List NV) (v:NV):Bool:=decide ((bQ v).k=0)||l.any fun u=>decide (alikeV u v)
def rK (l:List NV) (v:NV):List NV:=if oldN' l v=true then l else l++[v]
section
variable {N:List NV} {D:List Dc} {L:List (List Int)}
def NodeP (N:List NV) (v:NV):Prop:=∃ i,∃ h:i<N.length,v=N[i]∧22<v.x.k
variable (N) in
def iU (L:List (List Int)):List NV:=L.foldl (fun l r=>rK l (cY N (r.getD 0 (-1)))) []
theorem NodeP.shp (g:cR N D) {v:NV} (h:NodeP N v):bR v=true∧22<v.x.k∧dO D (bQ v)=v.kids.length∧(bQ v).k≠0:=by
 obtain ⟨i,hi,rfl,hk⟩:=h
 have hs:=(g.node i hi).shape
 refine ⟨hs,hk,g.many hi (by omega),fun h0=>?_⟩
 have:=(shp0_iff (by omega) (iW hs).2.2).1 h0
 omega
theorem headsC_take {i:Nat} (hi:i<L.length):iU N (L.take (i+1))=rK (iU N (L.take i)) (cY N (L[i].getD 0 (-1))):=by
 unfold iU
 rw [List.take_succ_eq_append_getElem hi,List.foldl_append]
 try rfl
theorem headsC_ok (g:cR N D) (hP:∀ r∈L,∀ p∈r,iQ N p):(∀ v∈iU N L,NodeP N v)∧cO N L=(iU N L).map bQ:=by
 have:∀ (l:List (List Int)) (a:List NV),(∀ r∈l,∀ p∈r,iQ N p)→(∀ v∈a,NodeP N v)→(∀ v∈l.foldl (fun l r=>rK l (cY N (r.getD 0 (-1)))) a,NodeP N v)∧l.foldl (fun l r=>pZ l (lC N r)) (a.map bQ)=(l.foldl (fun l r=>rK l (cY N (r.getD 0 (-1)))) a).map bQ:=by
  intro l
  induction l with
  |nil=>intro a _ h;exact ⟨h,rfl⟩
  |cons r l ih=>
   intro a hl ha
   have hp:iQ N (r.getD 0 (-1)):=by
    cases r with
    |nil=>exact .inl rfl
    |cons p r=>exact hl (p::r) (by simp) p (by simp)
   rw [List.foldl_cons,List.foldl_cons]
   have hh:lC N r=bQ (cY N (r.getD 0 (-1))):=rfl
   have h0:=g.shp0 hp
   have hs0:shp N (r.getD 0 (-1))=bQ (cY N (r.getD 0 (-1))):=rfl
   rw [hs0] at h0
   generalize hu:cY N (r.getD 0 (-1))=u at hh h0
   have hold:(oldN' a u=true)↔¬ ((bQ u).k≠0∧bQ u∉a.map bQ):=by
    unfold oldN'
    rw [Bool.or_eq_true,decide_eq_true_eq,List.any_eq_true]
    by_cases hk:(bQ u).k=0
    ·simp [hk]
    ·have hup:NodeP N u:=by
      rcases hp with hp|⟨i,hp,hi,hki⟩
      ·rw [hp] at hu
       rw [←hu] at hk
       exact absurd rfl hk
      ·rw [hp,g.pat_at hi hki] at hu
       refine ⟨i,hi,hu.symm,?_⟩
       rw [h0] at hk
       rw [←hu] at hk ⊢
       omega
     obtain ⟨q1,q2,_,_⟩:=hup.shp g
     constructor
     ·rintro (h|⟨w,hw,hw2⟩)
      ·exact absurd h hk
      ·intro h3
       obtain ⟨r1,r2,_,_⟩:=(ha w hw).shp g
       exact h3.2 (List.mem_map.2 ⟨w,hw,((pV r1 q1 r2 (by omega)).1 (of_decide_eq_true hw2)).symm⟩)
     ·intro h3
      right
      have h4:bQ u∈a.map bQ:=by
       by_cases h5:bQ u∈a.map bQ
       ·exact h5
       ·exact absurd ⟨hk,h5⟩ h3
      obtain ⟨w,hw,hw2⟩:=List.mem_map.1 h4
      obtain ⟨r1,r2,_,_⟩:=(ha w hw).shp g
      exact ⟨w,hw,decide_eq_true ((pV r1 q1 r2 (by omega)).2 hw2.symm)⟩
   have hadd:(pZ (a.map bQ) (lC N r))=(rK a u).map bQ:=by
    unfold pZ rK
    rw [hh]
    by_cases h:oldN' a u=true
    ·rw [if_pos h,if_neg (hold.1 h)]
    ·rw [if_neg h,if_pos (by rw [hold,Decidable.not_not] at h;exact h),List.map_append]
     try rfl
   rw [hadd]
   refine ih _ (fun r' hr'=>hl r' (by simp [hr'])) ?_
   intro v hv
   unfold rK at hv
   split at hv
   ·exact ha v hv
   ·rename_i hno
    rcases List.mem_append.1 hv with hv|hv
    ·exact ha v hv
    ·rw [List.mem_singleton.1 hv]
     have hk:¬ (bQ u).k=0:=fun h=>hno (by unfold oldN';rw [decide_eq_true h];rfl)
     rcases hp with hp|⟨i,hp,hi,hki⟩
     ·rw [hp] at hu
      rw [←hu] at hk
      exact absurd rfl hk
     ·rw [hp,g.pat_at hi hki] at hu
      refine ⟨i,hi,hu.symm,?_⟩
      rw [h0] at hk
      rw [←hu] at hk ⊢
      omega
 exact this L [] hP (fun _ h=>by cases h)
theorem headsC_len (L:List (List Int)):(iU N L).length≤L.length:=by
 have:∀ (l:List (List Int)) (a:List NV),(l.foldl (fun l r=>rK l (cY N (r.getD 0 (-1)))) a).length≤a.length+l.length:=by
  intro l
  induction l with
  |nil=>intro a;exact Nat.le_refl _
  |cons r l ih=>
   intro a
   have h1:=ih (rK a (cY N (r.getD 0 (-1))))
   have h2:(rK a (cY N (r.getD 0 (-1)))).length≤a.length+1:=by unfold rK;split<;>simp
   rw [List.foldl_cons,List.length_cons]
   omega
 have:=this L []
 rw [List.length_nil,Nat.zero_add] at this
 exact this
end
section
variable {σ:aC} {N:List NV} {D:List Dc} {pn pd:Option Addr} {cn cd A steps:Nat} {q:Option Addr} {k:Nat} {L:List (List Int)}
theorem wp_heads52 (g:cR N D) (h:Ask σ A pn N cn pd D cd steps) (hL:aQ σ (· =A) 1 (rwR σ (· =A)) q L) (hl:L.length≤1000000) (hw:∀ r∈L,1≤r.length) (hP:∀ r∈L,∀ p∈r,iQ N p):
  WpF aF ovD 52 [bU A,.slice q L.length k] σ fun v σ'=>∃ q' k',v=.slice q' (iU N L).length k'∧aQ σ' (· =A) 7 (nvR σ' (· =A)) q' (iU N L)∧Frm σ σ' NoB:=by
 refine WpF.of (T52_eq _ _ _ _) rfl ?_
 rw [T52]
 have hA:=h.st.1
 refine Wp.count L.length (fun i st σ'=>∃ p c rb css,st=[.int .i64 ((i:Nat):Int),.slice p (iU N (L.take i)).length c]∧Frm σ σ' NoB∧GR nvR 7 σ' (· =A) rb (iU N (L.take i)) css p c∧(p≠none→σ.n≤rb))
  ⟨none,0,0,[],rfl,Frm.refl _ _,.zero,fun h=>absurd rfl h⟩ ?_ ?_
 ·rintro i st σ2 hi ⟨p,c,rb,css,rfl,hF2,hG2,hrb⟩
  have ei:aR ((i:Int)+1)=((i+1:Nat):Int):=by rw [aS (by omega)];omega
  have hlen:(iU N (L.take i)).length≤i:=by
   have:=headsC_len (N:=N) (L.take i)
   rw [List.length_take] at this
   omega
  have hstep:=headsC_take (N:=N) hi
  have gi:(decide (0≤((i:Nat):Int))&&decide (((i:Nat):Int)<((L.length:Nat):Int)))=true:=by simp;omega
  have hL2:=hL.frmM aY hF2
  obtain ⟨xr,cs,hxr,hcs,hkr⟩:=Kp.ofRow hL2 hi
  have hw1:=hw L[i] (List.getElem_mem hi)
  have hP1:=hP L[i] (List.getElem_mem hi)
  generalize hr:L[i]=r at hcs hw1 hP1 hstep
  obtain ⟨qr,kr,rfl,hRI⟩:=hcs
  have hkr0:Kp σ2 (aadd xr (Int.toNat ((i:Nat):Int)*1)) (.slice qr r.length kr):=hkr 0 _ (by decide) rfl
  subst hxr
  generalize hl0:iU N (L.take i)=l at*
  unfold T52b1
  simp only [wpS]
  rw [aB,if_pos (by simp;omega),aI,aP]
  refine ⟨gi,?_⟩
  rw [dD hkr0]
  simp only [wpS]
  cases r with
  |nil=>simp at hw1
  |cons x r=>
  have hpx:=hP1 x (by simp)
  have hgx:(x::r).getD 0 (-1)=x:=rfl
  rw [hgx] at hstep
  refine gP hRI rfl ?_
  simp only [wpS]
  rw [aD]
  refine WpF.mono (pI g (h.frm hF2) hpx) ?_
  rintro _ σ3 ⟨cs,rfl,hnv,⟨qy,ky,rfl⟩,hF3⟩
  have hTy:cU σ2 (fun j=>j=A∨σ.n≤j) pn N pd D:=h.tree.step (S:=NoB) hF2 (fun _ _ h=>h.elim) fun j h1 h2=>by omega
  have hnv1:=hnv _ hTy
  have hshp:shp N x=bQ (cY N x):=rfl
  generalize cY N x=u at hstep hnv1 hshp
  simp only [wpS]
  have hn23:=hF3.n
  refine aN fun σ4 hF4 hn4 hS4=>?_
  generalize hZ:σ3.n=Z at hS4
  refine bA hS4 rfl rfl fun σ5 hF5 hn5 hS5=>?_
  have hF35:Frm σ3 σ5 NoB:=hF4.fresh hF5 fun j hj h=>by omega
  have hF25:=hF3.seq hF35
  have hF05:=hF2.seq hF25
  rw [aP]
  refine ⟨gi,?_⟩
  rw [dD (hkr0.frm hF25)]
  simp only [wpS]
  refine gP (hRI.frm hF25) rfl ?_
  simp only [wpS]
  rw [aD]
  refine WpF.mono (tL g (h.frm hF05) hpx) ?_
  rintro _ σ6 ⟨rfl,hF6⟩
  simp only [wpS]
  rw [hshp]
  have hF26:=hF25.seq hF6
  have hS6:=hF6.stN hS5
  have hG6:=hG2.frmN bM hF26
  refine Wp.loop (fun m st σ'=>∃ (j:Nat) (b:Bool),st=[.int .i64 ((j:Nat):Int),.bool b]∧Frm σ6 σ' NoB∧j+m=l.length∧b=(decide ((bQ u).k=0)||(l.take j).any fun w=>decide (alikeV w u))) l.length ⟨0,_,rfl,Frm.refl _ _,by omega,by simp⟩ ?_
  rintro m st σ7 ⟨j,b,rfl,hF7,hjm,hb⟩
  have ej:aR ((j:Int)+1)=((j+1:Nat):Int):=by rw [aS (by omega)];omega
  have hF27:=hF26.seq hF7
  have hG7:=hG6.frmN bM hF7
  unfold T52b0
  simp only [wpS]
  rw [aB]
  by_cases hc:j<l.length∧b=false
  ·obtain ⟨hj,rfl⟩:=hc
   rw [if_pos (by simp;omega),aI]
   refine dA (hG7.close bM (by decide)) hj rfl fun cs hcs=>?_
   obtain ⟨q1,k1,rfl,_,_⟩:=hcs
   simp only [wpS]
   rw [aM (hF7.stN hS6) 7 rfl]
   simp only [wpS]
   rw [aD]
   refine WpF.mono wp_alike81 ?_
   rintro _ σ8 ⟨rfl,hF8⟩
   simp only [wpS,T52k0,ej]
   refine ⟨m - 1,by omega,j+1,_,rfl,hF7.seq hF8,by omega,?_⟩
   rw [List.take_succ_eq_append_getElem hj,List.any_append,←Bool.or_assoc,←hb,Bool.false_or]
   simp only [List.any_cons,List.any_nil,Bool.or_false]
   exact decide_eq_decide.2 Iff.rfl
  ·rw [if_neg (by
    intro h
    simp only [Bool.and_eq_true,decide_eq_true_eq,Bool.not_eq_true'] at h
    exact hc ⟨by omega,h.2⟩)]
   simp only [wpS,T52k2]
   have hold:b=oldN' l u:=by
    unfold oldN'
    rw [hb]
    by_cases hj:j<l.length
    ·have hbt:b=true:=by
      cases b with
      |true=>rfl
      |false=>exact absurd ⟨hj,rfl⟩ hc
     rw [←hb,hbt]
     symm
     rw [hbt] at hb
     have hb':=hb.symm
     rw [Bool.or_eq_true] at hb' ⊢
     rcases hb' with h1|h1
     ·exact .inl h1
     ·right
      rw [List.any_eq_true] at h1 ⊢
      obtain ⟨w,h2,h3⟩:=h1
      exact ⟨w,List.mem_of_mem_take h2,h3⟩
    ·rw [List.take_of_length_le (by omega)]
   rw [hold,aB]
   by_cases ho:oldN' l u=true
   ·rw [if_neg (by simp [ho])]
    simp only [wpS,T52k1,T52k3,ei]
    have hadd:rK l u=l:=by unfold rK;rw [if_pos ho]
    rw [hadd] at hstep
    rw [hstep]
    exact ⟨p,c,rb,css,rfl,hF2.seq hF27,hG7,hrb⟩
   ·rw [if_pos (by simpa using ho),aM (hF7.stN hS6) 7 rfl]
    simp only [wpS]
    have hadd:rK l u=l++[u]:=by unfold rK;rw [if_neg ho]
    rw [hadd] at hstep
    have hF37:=hF35.seq (hF6.seq hF7)
    have hsub:∀ j,j<σ3.n→(j=A∨p≠none∧j=rb)→(j=A∨σ.n≤j):=by
     rintro j _ (h|⟨h1,h2⟩)
     ·exact .inl h
     ·have:=hrb h1;exact .inr (by omega)
    have hb2:nvR σ7 (fun j=>j=A∨p≠none∧j=rb) (ndC u qy ky) u:=bM _ _ _ _ _ _ _ hF37 (fun _ _ h=>h.elim) hsub hnv1
    refine fI bM (fun j h=>by have:=(hF2.seq hF27).n;omega) hG7 (by decide) (by decide) rfl (by intro y hy;simp at hy;rcases hy with rfl|rfl|rfl|rfl|rfl|rfl|rfl<;>rfl) hb2 (by omega) (by decide) fun σ8 rb8 p8 c8 hF8 hrb8 hG8=>?_
    simp only [wpS,T52k1,T52k3,ei]
    rw [hstep]
    refine ⟨some p8,c8,rb8,_,by simp,(hF2.seq hF27).fresh hF8 fun j hj h=>by have:=hrb h.1;omega,hG8,fun _=>?_⟩
    have:=(hF2.seq hF27).n
    rcases hrb8 with ⟨h1,h2⟩|h1
    ·have:=hrb h1;omega
    ·omega
 ·rintro st σ2 ⟨p,c,rb,css,rfl,hF2,hG2,hrb⟩
  rw [List.take_length] at hG2 ⊢
  unfold T52b1
  simp only [wpS]
  rw [aB,if_neg (by simp)]
  simp only [wpS,T52k4]
  exact ⟨_,rfl,p,c,rfl,hG2.close bM (by decide),hF2⟩
end
end Go.Pg
namespace Go.Pg
open Go.Proofs Go.Utf8 Go.Lib
set_option linter.unusedSimpArgs false
theorem newN_ok8 {σ:aC} {n0:Nat} {bs:List Nat} (hn:n0≤σ.n) (hf:pC σ) (hb:∀ b∈bs,b≠σ.n):newN n0 σ bs=true:=by
 unfold newN
 rw [hf σ.n (Nat.le_refl _)]
 simp only [noneB,Bool.and_true,Bool.and_eq_true,Nat.ble_eq,List.all_eq_true,Bool.not_eq_true']
 refine ⟨hn,fun b h=>?_⟩
 rw [Bool.eq_false_iff]
 intro e
 exact hb b h (Nat.eq_of_beq_eq_true e)
theorem chkO_same {σ:aC} {b:Nat} {o:Option eJ} (h:σ.get b=o):chkO [(b,o)] σ=true:=by
 unfold chkO chkO objEq
 rw [h]
 simp
section
variable {σ:aC} {N:List NV} {D:List Dc} {pn pd:Option Addr} {cn cd A steps:Nat} {q:Option Addr} {k:Nat} {L:List (List Int)}
theorem wp_cell0 {P:Program} {ov:Ov} {Y:Nat→Prop} {β:Type} {c:Nat} {R:List Value→β→Prop} {t:β} {ts:List β} (h:aQ σ Y c R q (t::ts)) {n o:Nat} (hn:n=ts.length+1) (ho:o<c) {f:Value→Pg} {Q:cK}
  (K:∀ cs,R cs t→∃ v,cs[o]?=some v∧Wp P ov (f v) σ Q):
  Wp P ov (aG q fun a=>grd (decide (0<((n:Nat):Int))) (.act (ld1 (aadd (aadd a 0) o)) f)) σ Q:=by
 subst hn
 obtain ⟨a,cs,rfl,_,h3,h4⟩:=h 0 (by simp)
 obtain ⟨v,h5,h6⟩:=K cs h4
 simp only [cP]
 rw [aP]
 refine ⟨by simp,?_⟩
 have hl:=(List.getElem?_eq_some_iff.1 h5).1
 have e:ld1 (aadd (aadd a 0) o) σ=some (v,σ):=by
  unfold ld1
  rw [show aadd a 0=aadd a (0*c) by rw [Nat.zero_mul],kQ (o:=o) (k:=1) h3 (by omega),List.drop_eq_getElem_cons hl,List.take_succ_cons,List.take_zero,(List.getElem?_eq_some_iff.1 h5).2]
 rw [bB,e]
 exact h6
theorem shpV_k {v:NV} (h1:22<v.x.k) (h2:v.x.k≤26):(bQ v).k=v.x.k:=by
 unfold bQ
 split
 ·rfl
 ·split
  ·show (25:Int)=_;omega
  ·rw [if_pos (by omega)];show (26:Int)=_;omega
theorem shpV_nm {v:NV} (h:v.x.k=26):(bQ v).nm=v.x.nm:=by
 unfold bQ
 rw [if_neg (by omega),if_neg (by omega),if_pos h]
theorem wp_whole53 (g:cR N D) (h:Ask σ A pn N cn pd D cd steps) {l:List NV} (hl:aQ σ (· =A) 7 (nvR σ (· =A)) q l) (hN:∀ v∈l,NodeP N v):
  WpF aF ovD 53 [bU A,.slice q l.length k] σ fun v σ'=>v=.bool (gC D (l.map bQ))∧Frm σ σ' NoB:=by
 refine WpF.of (T53_eq _ _ _ _) rfl ?_
 rw [T53,aB]
 cases l with
 |nil=>
  rw [if_pos (by rfl)]
  simp only [wpS]
  exact ⟨_,rfl,rfl,Frm.refl _ _⟩
 |cons v l=>
 obtain ⟨hs,hk22,_,_⟩:=(hN v (by simp)).shp g
 have hk26:=(iW hs).2.2
 have hkk:=shpV_k hk22 hk26
 rw [if_neg (by simp;omega)]
 refine wp_cell0 hl rfl (by decide) fun cs hcs=>?_
 obtain ⟨q1,k1,rfl,_,_⟩:=hcs
 refine ⟨_,rfl,?_⟩
 simp only [wpS]
 rw [aB,List.map_cons]
 by_cases c1:v.x.k=24
 ·rw [if_pos (by simpa using c1)]
  simp only [wpS,T53k1]
  refine ⟨_,rfl,?_,Frm.refl _ _⟩
  unfold gC
  simp only
  rw [if_pos (by omega),List.length_map]
  congr 1
  rw [List.length_cons]
  by_cases h2:l.length+1=2
  ·rw [decide_eq_true h2,h2];try rfl
  ·rw [decide_eq_false h2]
   rw [beq_eq_false_iff_ne]
   omega
 rw [if_neg (by simpa using c1),aB]
 by_cases c2:v.x.k=25
 ·rw [if_pos (by simpa using c2)]
  simp only [wpS,T53k1]
  refine ⟨_,rfl,?_,Frm.refl _ _⟩
  unfold gC
  simp only
  rw [if_neg (by omega),if_pos (by omega)]
 rw [if_neg (by simpa using c2),aB]
 by_cases c3:v.x.k=26
 case neg=>
  rw [if_neg (by simpa using c3)]
  simp only [wpS,T53k1]
  refine ⟨_,rfl,?_,Frm.refl _ _⟩
  unfold gC
  simp only
  rw [if_neg (by omega),if_neg (by omega),if_neg (by omega)]
 rw [if_pos (by simpa using c3)]
 rw [bB,show aadd ⟨A,0,some 0⟩ 0=⟨A,0,some 0⟩ from rfl,h.st.ldN (off:=0) (k:=2) (by simp)]
 simp only [wpS,List.drop_zero,List.take_succ_cons,List.take_zero]
 refine wp_cell0 hl rfl (by decide) fun cs hcs=>?_
 obtain ⟨q1,k1,rfl,_,_⟩:=hcs
 refine ⟨_,rfl,?_⟩
 simp only [wpS]
 rw [aD]
 refine WpF.mono (wp_Of79 h.tree.decls h.dl h.cl v.x.nm) ?_
 rintro _ σ2 ⟨rfl,hF2⟩
 have h2:=h.frm hF2
 have hw:gC D (bQ v::l.map bQ)=match ofD v.x.nm 0 D with
  |some x=>decide (l.length+1=(match D[x.1]? with
   |some d=>d.cons.length
   |none=>0))
  |none=>false:=by unfold gC;simp only;rw [if_neg (by omega),if_neg (by omega),if_pos (by omega),List.length_map,shpV_nm c3];try rfl
 cases ho:ofD v.x.nm 0 D with
 |none=>
  rw [ho] at hw
  simp only [ofV,wpS]
  rw [aB,if_neg (by simp)]
  simp only [wpS,T53k0,T53k1]
  exact ⟨_,rfl,by rw [hw],hF2⟩
 |some x=>
  rw [ho] at hw
  simp only at hw
  obtain ⟨d,c,w⟩:=x
  obtain ⟨_,hd,hc,_⟩:=jK _ _ _ _ ho
  simp only [Nat.sub_zero] at hd hc
  rw [List.getElem?_eq_getElem hd] at hw
  simp only at hw
  simp only [ofV,wpS]
  rw [aB,if_pos (by rfl),aE h2.st (v:=.slice pd D.length cd) rfl]
  simp only [wpS]
  refine cA h2.tree.decls hd rfl (o:=1) (by decide) fun cs hcs=>?_
  obtain ⟨q1,k1,rfl,_⟩:=hcs
  refine ⟨_,rfl,?_⟩
  simp only [wpS,T53k0,T53k1]
  refine ⟨_,rfl,?_,hF2⟩
  rw [hw,List.length_cons]
  congr 1
  by_cases h3:l.length+1=D[d].cons.length
  ·rw [decide_eq_true h3,h3,beq_self_eq_true]
  ·rw [decide_eq_false h3,beq_eq_false_iff_ne]
   omega
theorem patP_kids (g:cR N D) {p:Int} (hp:iQ N p):∀ x∈(cY N p).kids,iQ N ((x:Nat):Int):=by
 rcases hp with rfl|⟨i,rfl,hi,hk⟩
 ·intro x hx;cases hx
 ·rw [g.pat_at hi hk];exact g.kidP hi hk
theorem specC_P (g:cR N D) {s:Shp} {r y:List Int} (hr:∀ p∈r,iQ N p) (h:dG N D s r=some y):∀ p∈y,iQ N p:=by
 cases r with
 |nil=>cases h
 |cons p r=>
  rw [pO] at h
  split at h
  ·cases h
   intro x hx
   rcases List.mem_append.1 hx with hx|hx
   ·obtain ⟨i,_,rfl⟩:=List.mem_map.1 hx
    split
    ·rename_i hi
     refine patP_kids g (hr p (by simp)) _ ?_
     rw [List.getD_eq_getElem?_getD,List.getElem?_eq_getElem hi]
     exact List.getElem_mem hi
    ·exact .inl rfl
   ·exact hr x (by simp [hx])
  ·split at h
   ·cases h
    intro x hx
    rcases List.mem_append.1 hx with hx|hx
    ·rw [List.eq_of_mem_replicate hx];exact .inl rfl
    ·exact hr x (by simp [hx])
   ·cases h
theorem specsC_P (g:cR N D) {s:Shp} (hP:∀ r∈L,∀ p∈r,iQ N p):∀ r∈bX N D s L,∀ p∈r,iQ N p:=by
 intro r hr
 obtain ⟨r',h1,h2⟩:=List.mem_filterMap.1 hr
 exact specC_P g (hP r' h1) h2
theorem restC_P (hP:∀ r∈L,∀ p∈r,iQ N p):∀ r∈iS N L,∀ p∈r,iQ N p:=by
 intro r hr p hp
 obtain ⟨r',h1,rfl⟩:=List.mem_map.1 hr
 exact hP r' (List.mem_filter.1 h1).1 p (List.mem_of_mem_drop hp)
theorem patP_node (g:cR N D) {p:Int} (hp:iQ N p) (hk:(shp N p).k≠0):NodeP N (cY N p):=by
 rcases hp with rfl|⟨i,rfl,hi,hki⟩
 ·exact absurd rfl hk
 ·have h0:=g.shp0 (.inr ⟨i,rfl,hi,hki⟩)
  rw [ne_eq,h0,g.pat_at hi hki] at hk
  rw [g.pat_at hi hki]
  exact ⟨i,hi,rfl,by omega⟩
end
end Go.Pg
namespace Go.Pg
open Go.Proofs Go.Utf8 Go.Lib
set_option linter.unusedSimpArgs false
section
variable {N:List NV} {D:List Dc} {pn pd:Option Addr} {cn cd A:Nat}
theorem wp_useful28 (g:cR N D):∀ (f:Nat) (rows:List (List Int)) (row:List Int) (n:Nat) (σ:aC) (q1:Option Addr) (k1:Nat) (q4:Option Addr) (k4:Nat),10001≤f+n→1≤f→f≤10001→n≤20000000000→pC σ→Ask σ A pn N cn pd D cd n→aQ σ (· =A) 1 (rwR σ (· =A)) q1 rows→RI σ (· =A) q4 k4 row→rows.length≤1000000→(∀ r∈rows,r.length=row.length)→row.length≤1000000*(10002 - f)→(∀ r∈rows,∀ p∈r,iQ N p)→(∀ p∈row,iQ N p)→
  WpF aF ovD 28 [bU A,.slice q1 rows.length k1,.slice q4 row.length k4] σ fun v σ'=>v=.bool (bG N D f rows row n).1∧Ask σ' A pn N cn pd D cd (bG N D f rows row n).2∧Frm σ σ' (· =A):=by
 intro f
 induction f with
 |zero=>intro rows row n σ q1 k1 q4 k4 _ h;omega
 |succ f ih=>
 intro rows row n σ q1 k1 q4 k4 hfn _ hf hn hfr h hL hR hRl hw hwl hPL hPr
 refine WpF.of (T28_eq _ _ _ _ _ _ _) rfl ?_
 rw [T28]
 simp only [wpS]
 have en:aR (((n:Nat):Int)+1)=((n+1:Nat):Int):=by rw [aS (by omega)];omega
 rw [aE h.st (v:=.int .i64 ((n:Nat):Int)) rfl]
 simp only [wpS,en]
 refine bN h.st (by simp) rfl fun σ1 hF1 hn1 hS1=>?_
 simp only [List.set_cons_succ,List.set_cons_zero] at hS1
 have h1:=h.bump hF1 hS1
 have hfr1:=hF1.fr hfr
 rw [aE hS1 (v:=.int .i64 ((n+1:Nat):Int)) rfl]
 simp only [wpS]
 rw [aB]
 by_cases hst:10000<n+1
 ·rw [if_pos (by simp;omega)]
  simp only [wpS]
  have e:bG N D (f+1) rows row n=(false,n+1):=by unfold bG;rw [if_pos hst]
  rw [e]
  exact ⟨_,rfl,rfl,h1,hF1⟩
 rw [if_neg (by simp;omega),aB]
 cases row with
 |nil=>
  rw [if_pos (by rfl)]
  simp only [wpS]
  have e:bG N D (f+1) rows [] n=(rows.isEmpty,n+1):=by rw [bG,if_neg hst]
  rw [e]
  refine ⟨_,rfl,?_,h1,hF1⟩
  cases rows with
  |nil=>rfl
  |cons a l=>simp;omega
 |cons p r=>
 rw [List.length_cons] at hwl hw
 have hA1:=h1.st.1
 have hL1:=frmA aY hL hF1
 have hR1:RI σ1 (· =A) q4 k4 (p::r):=hR.step hF1 (fun _ _ h=>h) fun _ _ h=>h
 have hu:=tF (N:=N) (D:=D) f rows p r n (by omega)
 have hwl2:r.length+1≤1000000*10002:=Nat.le_trans hwl (Nat.mul_le_mul_left _ (by omega))
 have hrb:r.length≤100000000000:=by omega
 have hwS:∀ x∈rows,1≤x.length∧x.length≤100000000000:=fun x hx=>by have:=hw x hx;omega
 have hme:=sZ h.al
 have hfm:1000000*(10002 - f)=1000000*(10002 - (f+1))+1000000:=by omega
 have hpp:=hPr p (by simp)
 have hPr':∀ x∈r,iQ N x:=fun x hx=>hPr x (by simp [hx])
 rw [if_neg (by simp;omega)]
 refine gP hR1 rfl ?_
 simp only [wpS]
 rw [aD]
 refine WpF.mono (tL g h1 hpp) ?_
 rintro _ σ2 ⟨rfl,hF2⟩
 simp only [wpS]
 have h2:=h1.frm hF2
 have hL2:=hL1.frmM aY hF2
 have hR2:=hR1.frm hF2
 have hF02:Frm σ σ2 (· =A):=hF1.seq hF2.no
 have hfr2:=hF2.fr hfr1
 have hn2:=hF2.n
 rw [aB]
 by_cases hk:(shp N p).k=0
 case neg=>
  rw [if_pos (by simpa using hk)]
  rw [if_pos hk] at hu
  obtain ⟨hs,hk22,hmv,hsk⟩:=(patP_node g hpp hk).shp g
  have hshp:shp N p=bQ (cY N p):=rfl
  have hPk:=patP_kids g hpp
  refine gP hR2 rfl ?_
  simp only [wpS]
  rw [aD]
  refine WpF.mono (pI g h2 hpp) ?_
  rintro _ σ3 ⟨cs,rfl,hnv,⟨qy,ky,rfl⟩,hF3⟩
  obtain ⟨qy',ky',he7,hrowy,hempy⟩:=hnv (· =A) h2.tree
  cases he7
  have hsp:dG N D (shp N p) (p::r)=some ((cY N p).kids.map (fun (n:Nat)=>(n:Int))++r):=by
   rw [specC_same rfl,hshp,hmv,kidsC_all]
  rw [hsp,Option.getD_some,hshp] at hu
  have hkl:(cY N p).kids.length≤1000000:=by rw [←hmv];exact hme _
  have hspP:=specC_P g hPr hsp
  generalize cY N p=u at hs hk22 hmv hsk hu hrowy hempy hkl hPk hspP hsp hshp
  simp only [wpS]
  have hn3:=hF3.n
  refine aN fun σ4 hF4 hn4 hS4=>?_
  generalize hZ:σ3.n=Z at hS4
  refine bA hS4 rfl rfl fun σ5 hF5 hn5 hS5=>?_
  have hF35:Frm σ3 σ5 NoB:=hF4.fresh hF5 fun j hj h=>by omega
  have hF25:=hF3.seq hF35
  have hfr5:=hF25.fr hfr2
  rw [cG,aM hS5 7 rfl]
  simp only [wpS]
  rw [cG,aP]
  refine ⟨newN_ok8 (Nat.le_refl _) hfr5 (fun _ h=>by cases h),?_⟩
  rw [bB,dB]
  simp only [wpS]
  have hF6:Frm σ5 (σ5.newBlk [] 1) NoB:=Frm.new _ _ _ _
  have hR6:Row (σ5.newBlk [] 1) σ5.n 0 1 0 1 []:=Row.new σ5 1 [] 0 (by decide) rfl (by simp)
  have hn6:(σ5.newBlk [] 1).n=σ5.n+1:=rfl
  generalize σ5.newBlk [] 1=σ6 at hF6 hR6 hn6 ⊢
  have hS6:=hF6.stN hS5
  rw [cG,aE hS6 (v:=.slice qy u.kids.length ky) rfl]
  simp only [wpS]
  have hF26:=hF25.seq hF6
  have hR6':=hR2.frm hF26
  rw [aP]
  refine ⟨jW hR6' rfl,?_⟩
  rw [aD]
  refine WpF.mono (wp_by51 (v:=u) g (h2.frm hF26) hs hk22 hmv (hL2.frmM aY hF26) hRl hwS hPL) ?_
  rintro _ σ7 ⟨q7,k7,rfl,hL7,hF7⟩
  simp only [wpS]
  have hS7:=hF7.stN hS6
  rw [cG,aP]
  refine ⟨eE (Kp.st hS7 (i:=4) rfl) rfl,?_⟩
  rw [cG,aP]
  refine ⟨chkO_same (hF7.get _ (by omega) fun h=>h),?_⟩
  have hF37:Frm σ3 σ7 NoB:=hF35.seq (hF6.seq hF7)
  have hF27:=hF26.seq hF7
  have hrow7:=hrowy.later hF37
  have hemp7:Emp σ7 (· =A) qy:=hempy.step (Y':=(· =A)) hF37 (fun _ _ h=>h.elim) fun _ _ h=>h
  have hn25:=hF25.n
  have hn7:=hF7.n
  refine jF (b:=σ5.n) (xs:=[]) (ys:=u.kids.map nC) (.inr ⟨0,1,rfl,hF7.rowN hR6⟩) rfl (hrow7.src (fun _ _ h=>h) hemp7) (by simp) (by intro y hy;obtain ⟨j,_,rfl⟩:=List.mem_map.1 hy;rfl) (by omega) (by omega) fun σ9 kb kp kc hF9 hkb hK9=>?_
  rw [Nat.zero_add]
  have hF59:Frm σ5 σ9 NoB:=(hF6.seq hF7).fresh hF9 fun j hj h=>by omega
  have hF29:=hF25.seq hF59
  have hF7A:Frm σ7 σ9 (· =σ5.n):=hF9.mono fun _ _ h=>h.2
  have hcut:=(hR2.frm hF29).cut
  have hkbn:kp≠none→σ5.n≤kb:=fun h=>by
   rcases hkb with h2|⟨_,h2⟩|h2
   ·exact absurd h2 h
   ·omega
   ·omega
  rw [show (p::r).length - 1=r.length from rfl]
  refine jF (ys:=r.map jY) (xs:=u.kids.map nC) (by simpa using hK9) (by simp) (hcut.row.src (fun _ _ h=>h) hcut.emp) (by simp) (by intro y hy;obtain ⟨z,_,rfl⟩:=List.mem_map.1 hy;rfl) (by omega) (by omega) fun σa ka qa ca' hFa hka hKa=>?_
  have hF5a:Frm σ5 σa NoB:=hF59.fresh hFa fun j hj h=>by have:=hkbn h.1;omega
  have hF2a:=hF25.seq hF5a
  have hlen2:u.kids.length+r.length=(u.kids.map (fun (n:Nat)=>(n:Int))++r).length:=by simp
  have hRIa:RI σa (· =A) qa ca' (u.kids.map (fun (n:Nat)=>(n:Int))++r):=by
   refine RI.own (b:=ka) ?_ fun h1 h2=>?_
   ·have e:(u.kids.map (fun (n:Nat)=>(n:Int))++r).map jY=u.kids.map nC++r.map jY:=by simp [jY,nC]
    rw [e];exact hKa
   ·have h2':ka=A:=h2
    have:=hF59.n
    have hA5:A<σ5.n:=by omega
    rcases hka with h3|⟨h3,h4⟩|h3
    ·exact h1 h3
    ·have:=hkbn h3;omega
    ·omega
  have hLa:aQ σa (· =A) 1 (rwR σa (· =A)) q7 (bX N D (bQ u) rows):=by
   have hF7a:Frm σ7 σa (fun j=>j=σ5.n∨σ7.n≤j):=hF9.trans hFa (fun j _ h=>.inl h.2) fun j hj h=>by
    rcases hkb with h2|⟨_,h2⟩|h2
    ·exact absurd h2 h.1
    ·exact .inl (by omega)
    ·exact .inr (by omega)
   have hy:∀ j,j<σ7.n→j=A→j<σ6.n:=fun j _ h=>by omega
   have hs7:∀ j,j<σ7.n→(j=σ5.n∨σ7.n≤j)→j<σ6.n:=fun j h1 h2=>by omega
   exact aQ.step hF7a hs7 hy (fun _ _ h=>aY _ _ _ _ _ _ _ hF7a hs7 hy h) hL7
  rw [hlen2]
  have hlen:(u.kids.map (fun (n:Nat)=>(n:Int))++r).length=dO D (bQ u)+r.length:=by rw [List.length_append,List.length_map,hmv]
  rw [aD]
  refine WpF.mono (ih _ _ (n+1) σa q7 k7 qa ca' (by omega) (by omega) (by omega) (by omega) (hF2a.fr hfr2) (h2.frm hF2a) hLa hRIa (Nat.le_trans (List.length_filterMap_le _ _) hRl) (fun y hy=>by rw [hlen];exact nD hw y hy) (by rw [hlen];have:=hme (bQ u);omega) (specsC_P g hPL) hspP) ?_
  rintro _ σb ⟨rfl,hb,hFb⟩
  simp only [wpS]
  rw [hu]
  exact ⟨_,rfl,rfl,hb,(hF02.seq hF2a.no).seq hFb⟩
 rw [if_neg (by simp [hk])]
 rw [if_neg (by simpa using hk)] at hu
 rw [aD]
 refine WpF.mono (wp_heads52 g h2 hL2 hRl (fun x hx=>(hwS x hx).1) hPL) ?_
 rintro _ σ5 ⟨q5,k5,rfl,hl5,hF5⟩
 obtain ⟨hHN,hHS⟩:=headsC_ok g hPL
 have hll:=headsC_len (N:=N) rows
 generalize iU N rows=hs at hl5 hHN hHS hll
 simp only [wpS]
 rw [aD]
 refine WpF.mono (wp_whole53 g (h2.frm hF5) hl5 hHN) ?_
 rintro _ σ6 ⟨rfl,hF6⟩
 simp only [wpS]
 have hF26:=hF5.seq hF6
 have h6:=h2.frm hF26
 have hl6:=hl5.frmM bM hF6
 have hL6:=hL2.frmM aY hF26
 have hR6:=hR2.frm hF26
 have hF06:Frm σ σ6 (· =A):=hF02.seq hF26.no
 have hfr6:=hF26.fr hfr2
 have hA6:=h6.st.1
 rw [hHS] at hu
 rw [aB]
 by_cases hwh:gC D (hs.map bQ)=true
 case neg=>
  rw [if_pos (by simpa using hwh),aD]
  rw [if_neg hwh] at hu
  refine WpF.mono (wp_rest54 g h6 hL6 hRl (fun x hx=>(hwS x hx).1) hPL) ?_
  rintro _ σ7 ⟨q7,k7,rfl,hL7,hF7⟩
  simp only [wpS]
  rw [aP]
  refine ⟨jW hR6 rfl,?_⟩
  rw [aD,show (p::r).length - 1=r.length from rfl]
  refine WpF.mono (ih _ _ (n+1) σ7 q7 k7 (qF q4 1) (k4 - 1) (by omega) (by omega) (by omega) (by omega) (hF7.fr hfr6) (h6.frm hF7) hL7 (hR6.frm hF7).cut (Nat.le_trans (tG _) hRl) (restC_len hw) (by omega) (restC_P hPL) hPr') ?_
  rintro _ σ8 ⟨rfl,h8,hF8⟩
  simp only [wpS]
  rw [hu]
  exact ⟨_,rfl,rfl,h8,(hF06.seq hF7.no).seq hF8⟩
 rw [if_neg (by simp [hwh])]
 rw [if_pos hwh] at hu
 generalize hq:(fun (s:Shp) (n:Nat)=>bG N D f (bX N D s rows) ((dG N D s (p::r)).getD []) n)=q at hu
 refine Wp.count hs.length (fun i st σ'=>∃ m,st=[.int .i64 ((i:Nat):Int),.bool false]∧Frm σ6 σ' (· =A)∧Ask σ' A pn N cn pd D cd m∧qE q (hs.map bQ) (n+1)=qE q ((hs.drop i).map bQ) m∧n+1≤m∧m≤10000+f*(1000000+1)+i) ⟨n+1,rfl,Frm.refl _ _,h6,by rw [List.drop_zero],Nat.le_refl _,by omega⟩ ?_ ?_
 ·rintro i st σ7 hi ⟨m,rfl,hF7,h7,hany,hm1,hm2⟩
  have ei:aR ((i:Int)+1)=((i+1:Nat):Int):=by rw [aS (by omega)];omega
  have hmul:f*(1000000+1)≤10000*(1000000+1):=Nat.mul_le_mul_right _ (by omega)
  have hmb:m≤20000000000:=by omega
  have hl7:=frmA bM hl6 hF7
  have hL7:=frmA aY hL6 hF7
  have hR7:RI σ7 (· =A) q4 k4 (p::r):=hR6.step hF7 (fun _ _ h=>h) fun _ _ h=>h
  have hfr7:=hF7.fr hfr6
  rw [List.drop_eq_getElem_cons hi,List.map_cons,qE] at hany
  have gi:(decide (0≤((i:Nat):Int))&&decide (((i:Nat):Int)<((hs.length:Nat):Int)))=true:=by simp;omega
  obtain ⟨xh,csh,hxh,hcsh,hkh⟩:=keepN hl7 hi
  obtain ⟨xh2,csh2,hxh2,hcsh2,hkh2⟩:=Kp.ofRow hl7 hi
  obtain ⟨hs1,hk22,hmv,hsk⟩:=(hHN _ (List.getElem_mem hi)).shp g
  subst hxh
  cases hxh2
  generalize hs[i]=u at hcsh hcsh2 hany hs1 hk22 hmv hsk
  obtain ⟨qu,ku,rfl,_,_⟩:=hcsh
  obtain ⟨qu2,ku2,rfl,_,_⟩:=hcsh2
  have hkn:Go.Pg.ldN 7 (aadd xh (Int.toNat ((i:Nat):Int)*7)) σ7=some (.agg (ndC u qu ku).toArray,σ7):=hkh σ7 (Frm.refl _ _)
  have hk4:Kp σ7 (aadd (aadd xh (Int.toNat ((i:Nat):Int)*7)) 4) (.slice qu2 u.kids.length ku2):=hkh2 4 _ (by decide) rfl
  unfold T28b0
  simp only [wpS]
  rw [aB,if_pos (by simp;omega),aI,aP]
  refine ⟨gi,?_⟩
  rw [bB,hkn]
  simp only [wpS]
  rw [cG,aD]
  refine WpF.mono (wp_by51 (v:=u) g h7 hs1 hk22 hmv hL7 hRl hwS hPL) ?_
  rintro _ σ8 ⟨q8,k8,rfl,hL8,hF8⟩
  simp only [wpS]
  rw [aP]
  refine ⟨gi,?_⟩
  rw [dD (hk4.frm hF8),aP]
  refine ⟨mZ fun τ hτ=>by rw [List.mem_singleton.1 hτ];exact hk4,?_⟩
  simp only [wpS]
  have hR8:=hR7.frm hF8
  rw [aP]
  refine ⟨jW hR8 rfl,?_⟩
  have hkl:u.kids.length≤1000000:=by rw [←hmv];exact hme _
  rw [aD,show (p::r).length - 1=r.length from rfl]
  refine WpF.mono (wp_anys29 u.kids.length (by omega) hR8.cut hrb) ?_
  rintro _ σ9 ⟨q9,k9,rfl,hR9,hF9⟩
  simp only [wpS]
  have hF79:=hF8.seq hF9
  have hA7:=h7.st.1
  have hn8:=hF8.n
  have hsp:dG N D (bQ u) (p::r)=some (List.replicate u.kids.length (-1)++r):=by rw [specC_any hk hsk,hmv]
  have hspP:=specC_P g hPr hsp
  have hqt:q (bQ u) m=bG N D f (bX N D (bQ u) rows) (List.replicate u.kids.length (-1)++r) m:=by
   rw [←hq]
   simp only
   rw [hsp,Option.getD_some]
  have hlen:(List.replicate u.kids.length (-1)++r).length=dO D (bQ u)+r.length:=by rw [List.length_append,List.length_replicate,hmv]
  have hspl:(bX N D (bQ u) rows).length≤1000000:=Nat.le_trans (List.length_filterMap_le _ _) hRl
  have hL9:aQ σ9 (· =A) 1 (rwR σ9 (· =A)) q8 (bX N D (bQ u) rows):=by
   have hy:∀ j,j<σ8.n→j=A→j<σ7.n:=fun j _ h=>by omega
   exact aQ.step (S:=NoB) hF9 (fun _ _ h=>h.elim) hy (fun _ _ h=>aY _ _ _ _ _ _ _ hF9 (fun _ _ h=>h.elim) hy h) hL8
  rw [aD]
  refine WpF.mono (ih _ _ m σ9 q8 k8 q9 k9 (by omega) (by omega) (by omega) hmb (hF79.fr hfr7) (h7.frm hF79) hL9 (hR9.toA (by omega)) hspl (fun y hy=>by rw [hlen];exact nD hw y hy) (by rw [hlen];have:=hme (bQ u);omega) (specsC_P g hPL) hspP) ?_
  rintro _ σc ⟨rfl,hc,hFc⟩
  simp only [wpS]
  have hF6c:Frm σ6 σc (· =A):=(hF7.seq hF79.no).seq hFc
  have hle:=mM (N:=N) (D:=D) f 1000000 (bX N D (bQ u) rows) (List.replicate u.kids.length (-1)++r) m hspl
  have hge:=mI (N:=N) (D:=D) f (bX N D (bQ u) rows) (List.replicate u.kids.length (-1)++r) m
  rw [←hqt] at hc hle hge ⊢
  rw [aB]
  cases hb:(q (bQ u) m).1 with
  |true=>
   rw [if_pos rfl]
   simp only [wpS,T28k0,T28k1]
   rw [hb,if_pos rfl] at hany
   rw [hu,hany]
   exact ⟨_,rfl,rfl,hc,hF06.seq hF6c⟩
  |false=>
   rw [if_neg (by simp)]
   simp only [wpS,T28k0,ei]
   rw [hb,if_neg (by simp)] at hany
   refine ⟨(q (bQ u) m).2,trivial,hF6c,hc,hany,by omega,?_⟩
   by_cases h3:m+1≤10000
   ·have:=hle.1 h3;omega
   ·have:=hle.2 (by omega);omega
 ·rintro st σ7 ⟨m,rfl,hF7,h7,hany,hm1,hm2⟩
  unfold T28b0
  simp only [wpS]
  rw [aB,if_neg (by simp)]
  simp only [wpS,T28k1]
  rw [List.drop_length,List.map_nil,qE] at hany
  rw [hu,hany]
  exact ⟨_,rfl,rfl,h7,hF06.seq hF7⟩
end
end Go.Pg
namespace Go.Pg
open Go.Proofs Go.Utf8 Go.Lib
set_option linter.unusedSimpArgs false
section
variable {σ:aC} {Y:Nat→Prop} {N:List NV} {D:List Dc} {pn pd:Option Addr} {cn cd:Nat} {q:Option Addr} {k:Nat} {L:List (List Int)}
theorem wp_Useful16 (g:cR N D) (hf:pC σ) (h:eP σ Y pn N pd D) (hL:aQ σ Y 1 (rwR σ Y) q L) (hl:L.length≤1000000) {q2:Option Addr} {k2:Nat} {row:List Int} (hR:RI σ Y q2 k2 row) (hr:row.length≤1000000) (hw:∀ r∈L,r.length=row.length) (hPL:∀ r∈L,∀ p∈r,iQ N p) (hPr:∀ p∈row,iQ N p):
  WpF aF ovD 16 [trV pn N.length cn pd D.length cd,.slice q L.length k,.slice q2 row.length k2] σ fun v σ'=>v=.tuple #[.bool (bG N D 10001 L row 0).1,.bool (decide ((bG N D 10001 L row 0).2≤10000))]∧Frm σ σ' NoB:=by
 refine WpF.of (T16_eq _ _ _ _ _ _ _ _ _ _ _ _) rfl ?_
 rw [T16]
 refine aN fun σ1 hF1 hn1 hS1=>?_
 rw [aM hS1 2 rfl]
 simp only [wpS]
 refine aN fun σ2 hF2 hn2 hS2=>?_
 generalize hA:σ1.n=A at hS2
 have hF02:=hF1.seq hF2
 have h3:Ask σ2 A pn N cn pd D cd 0:=⟨hS2,h.tree.step (S:=NoB) hF02 (fun _ _ h=>h.elim) fun j hj h=>by omega,h.nl,h.dl,h.cl,h.kl,h.al⟩
 have hL3:aQ σ2 (· =A) 1 (rwR σ2 (· =A)) q L:=by
  have hy:∀ j,j<σ.n→j=A→Y j:=fun j _ h=>by omega
  exact aQ.step (S:=NoB) hF02 (fun _ _ h=>h.elim) hy (fun _ _ h=>aY _ _ _ _ _ _ _ hF02 (fun _ _ h=>h.elim) hy h) hL
 have hR3:RI σ2 (· =A) q2 k2 row:=hR.step (S:=NoB) hF02 (fun _ _ h=>h.elim) fun j hj h=>by omega
 rw [aD]
 refine WpF.mono (wp_useful28 g 10001 L row 0 σ2 q k q2 k2 (by omega) (by omega) (by omega) (by omega) (hF02.fr hf) h3 hL3 hR3 hl hw (by omega) hPL hPr) ?_
 rintro _ σ4 ⟨rfl,h4,hF4⟩
 generalize bG N D 10001 L row 0=u at h4
 simp only [wpS]
 rw [aE h4.st (v:=.int .i64 ((u.2:Nat):Int)) rfl]
 simp only [wpS]
 have e:decide (((u.2:Nat):Int)≤10000)=decide (u.2≤10000):=decide_eq_decide.2 (by omega)
 rw [e]
 exact ⟨_,rfl,rfl,hF02.fresh hF4 fun j hj h=>by omega⟩
theorem wp_All18 (g:cR N D) (hf:pC σ) (h:eP σ Y pn N pd D) {r:List Int} (hL:aQ σ Y 1 (rwR σ Y) q (r::L)) (hl:(r::L).length≤1000000) (hr:r.length≤1000000) (hw:∀ x∈r::L,x.length=r.length) (hPL:∀ x∈r::L,∀ p∈x,iQ N p):
  WpF aF ovD 18 [trV pn N.length cn pd D.length cd,.slice q (r::L).length k] σ fun v σ'=>v=.tuple #[.bool (!(bG N D 10001 (r::L) (List.replicate r.length (-1)) 0).1),.bool (decide ((bG N D 10001 (r::L) (List.replicate r.length (-1)) 0).2≤10000))]∧Frm σ σ' NoB:=by
 refine WpF.of (T18_eq _ _ _ _ _ _ _ _ _) rfl ?_
 rw [T18]
 refine aN fun σ1 hF1 hn1 hS1=>?_
 rw [aB,if_neg (by simp;omega),aM hS1 2 rfl]
 simp only [wpS]
 have hL1:=hL.frmM aY hF1
 obtain ⟨x,cs,rfl,_,h3,h4⟩:=hL1 0 (by simp)
 obtain ⟨qr,kr,rfl,hRI⟩:=h4
 simp only [wpS]
 rw [aP]
 refine ⟨by simp,?_⟩
 have e0:ld1 (aadd x 0) σ1=some (.slice qr r.length kr,σ1):=by
  unfold ld1
  rw [show aadd x 0=aadd x (0*1) from rfl,h3]
  try rfl
 rw [bB,e0]
 simp only [wpS]
 rw [aD]
 have ha:=wp_anys29 (σ:=σ1) (Y:=Y) (k:=0) r.length (by omega) RI.nil (by simp)
 rw [List.append_nil,List.length_nil] at ha
 refine WpF.mono ha ?_
 rintro _ σ2 ⟨q2,k2,rfl,hR2,hF2⟩
 simp only [wpS]
 have hS2:=hF2.stN hS1
 have hF02:=hF1.seq hF2
 rw [cG,aP]
 refine ⟨sF (hS2.ldAll 2 rfl) rfl,?_⟩
 rw [aD]
 have hlow:∀ j,j<σ.n→(Y j∧j<σ.n)→Y j:=fun _ _ h=>h.1
 have hB2:eP σ2 (fun j=>Y j∧j<σ.n) pn N pd D:=h.step (S:=NoB) hF02 (fun _ _ h=>h.elim) hlow
 have hL2:aQ σ2 (fun j=>Y j∧j<σ.n) 1 (rwR σ2 (fun j=>Y j∧j<σ.n)) (some x) (r::L):=aQ.step (S:=NoB) hF02 (fun _ _ h=>h.elim) hlow (fun _ _ h=>aY _ _ _ _ _ _ _ hF02 (fun _ _ h=>h.elim) hlow h) hL
 have hR2':RI σ2 (fun j=>Y j∧j<σ.n) q2 k2 (List.replicate r.length (-1)):=hR2.step (S:=NoB) (Frm.refl _ _) (fun _ _ h=>h.elim) fun j _ h=>by show j<σ1.n;have:=h.2;omega
 refine WpF.mono (wp_Useful16 g (hF02.fr hf) hB2 hL2 hl hR2' (by simpa using hr) (fun y hy=>by rw [List.length_replicate];exact hw y hy) hPL (fun p hp=>by rw [List.eq_of_mem_replicate hp];exact .inl rfl)) ?_
 rintro _ σ3 ⟨rfl,hF3⟩
 simp only [wpS]
 exact ⟨_,rfl,rfl,hF02.seq hF3⟩
theorem wp_fit26 (g:cR N D):∀ (m a b:Nat) (σ:aC),eP σ NoB pn N pd D→pC σ→N.length - a≤m→a<N.length→b<N.length→
  WpF aF ovD 26 [trV pn N.length cn pd D.length cd,.int .i64 ((a:Nat):Int),.int .i64 ((b:Nat):Int)] σ fun v σ'=>(∃ b,v=.bool b)∧Frm σ σ' NoB:=by
 intro m
 induction m with
 |zero=>intro a b σ _ _ h1 h2;omega
 |succ m ih=>
 intro a b σ h hf hm ha hb
 refine WpF.of (T26_eq _ _ _ _ _ _ _ _) rfl ?_
 rw [T26]
 refine aN fun σ1 hF1 hn1 hS1=>?_
 generalize hT:σ.n=T at hS1
 have h1:=h.frm hF1
 rw [cG,aE hS1 (v:=.slice pn N.length cn) rfl]
 simp only [wpS]
 obtain ⟨x,cs,hx,hcs,hkx⟩:=keepN h1.tree.nodes ha
 obtain ⟨x2,cs2,hx2,hcs2,hky⟩:=keepN h1.tree.nodes hb
 have hkid:=fun j hj=>g.kidI ha (j:=j) hj
 have hkid2:=fun j hj=>g.kidI hb (j:=j) hj
 have hkT:Kp σ1 (aadd ⟨T,0,some 0⟩ 0) (.slice pn N.length cn):=Kp.st hS1 rfl
 subst hx
 cases hx2
 have hkl:=h.kl _ (List.getElem_mem ha)
 generalize N[a]=u at hcs hkid hkl
 generalize N[b]=w at hcs2 hkid2
 obtain ⟨qu,ku,rfl,hru,_⟩:=hcs
 obtain ⟨qw,kw,rfl,hrw,_⟩:=hcs2
 simp only [wpS]
 rw [aP]
 refine ⟨by simp;omega,?_⟩
 have hkx1:∀ τ,Frm σ1 τ NoB→Go.Pg.ldN 7 (aadd x (Int.toNat ((a:Nat):Int)*7)) τ=some (.agg (ndC u qu ku).toArray,τ):=hkx
 have hky1:∀ τ,Frm σ1 τ NoB→Go.Pg.ldN 7 (aadd x (Int.toNat ((b:Nat):Int)*7)) τ=some (.agg (ndC w qw kw).toArray,τ):=hky
 rw [bB,hkx1 σ1 (Frm.refl _ _)]
 simp only [wpS]
 rw [dD hkT]
 simp only [wpS]
 rw [aP]
 refine ⟨by simp;omega,?_⟩
 rw [bB,hky1 σ1 (Frm.refl _ _)]
 simp only [wpS]
 have hf1:=hF1.fr hf
 rw [cG,aP]
 refine ⟨newN_ok8 (Nat.le_refl _) hf1 (fun _ h=>by cases h),?_⟩
 refine aN fun σ2 hF2 hn2 hS2=>?_
 rw [cG,cG,aP]
 refine ⟨newN_ok8 (by omega) (hF2.fr hf1) (fun j h=>by rw [List.mem_singleton.1 h];omega),?_⟩
 refine aN fun σ3 hF3 hn3 hS3=>?_
 generalize hX:σ1.n=X at hS2
 generalize hW:σ2.n=W at hS3
 rw [cG]
 have hXW:X≠W:=by omega
 refine bA (hF3.stN hS2) rfl rfl fun σ4 hF4 hn4 hS4=>?_
 have hF14:Frm σ1 σ4 NoB:=(hF2.seq hF3).fresh hF4 fun j hj h=>by omega
 rw [cG,aP]
 refine ⟨sF (hky1 σ4 hF14) (eE (hkT.frm hF14) rfl),?_⟩
 refine bA (hF4.st hS3 (Ne.symm hXW)) rfl rfl fun σ5 hF5 hn5 hS5=>?_
 have hF15:Frm σ1 σ5 NoB:=hF14.fresh hF5 fun j hj h=>by omega
 have hX5:=hF5.st hS4 hXW
 have hT5:=hF15.stN hS1
 have hF05:=hF1.seq hF15
 have h5:=h.frm hF05
 have hru5:=hru.later hF15
 have hrw5:=hrw.later hF15
 have inner:=fun (j:Nat) (hj:j<N.length) (τ:aC) (hτ:Frm σ5 τ NoB)=>wp_inner19 (cn:=cn) (cd:=cd) g N.length j τ NoB (h5.frm hτ) (by omega) hj
 have main:∀ b1:Bool,Wp aF ovD (T26k5 ⟨T,0,some 0⟩ ((a:Nat):Int) ((b:Nat):Int) ⟨X,0,some 0⟩ ⟨W,0,some 0⟩ .normal [.bool b1]) σ5 fun _ vs σ'=>∃ v,vs=[v]∧(∃ b,v=.bool b)∧Frm σ σ' NoB:=by
  intro b1
  simp only [wpS,T26k5]
  rw [aB]
  cases b1 with
  |true=>
   rw [if_pos rfl,aI,aM hT5 2 rfl]
   simp only [wpS]
   rw [aD]
   refine WpF.mono (inner a ha σ5 (Frm.refl _ _)) ?_
   rintro _ σ6 ⟨⟨b2,rfl⟩,hF6⟩
   simp only [wpS]
   rw [aB]
   cases b2 with
   |false=>
    rw [if_neg (by simp)]
    simp only [wpS,T26k0]
    exact ⟨_,rfl,⟨_,rfl⟩,hF05.seq hF6⟩
   |true=>
    rw [if_pos (by rfl),aM (hF6.stN hT5) 2 rfl]
    simp only [wpS]
    rw [aD]
    refine WpF.mono (inner b hb σ6 hF6) ?_
    rintro _ σ7 ⟨⟨b3,rfl⟩,hF7⟩
    simp only [wpS,T26k0]
    exact ⟨_,rfl,⟨_,rfl⟩,hF05.seq (hF6.seq hF7)⟩
  |false=>
  rw [if_neg (by simp),aE hX5 (v:=.int .i64 u.x.k) rfl]
  simp only [wpS]
  rw [aE hS5 (v:=.int .i64 w.x.k) rfl]
  simp only [wpS]
  rw [aB]
  by_cases c1:u.x.k=w.x.k
  case neg=>
   rw [if_pos (by simpa using c1)]
   simp only [wpS]
   exact ⟨_,rfl,⟨_,rfl⟩,hF05⟩
  rw [if_neg (by simp [c1]),aE hX5 (v:=.int .i64 u.x.k) rfl]
  simp only [wpS]
  rw [aB]
  by_cases c2:u.x.k=26
  case neg=>
   rw [if_pos (by simpa using c2)]
   simp only [wpS]
   exact ⟨_,rfl,⟨_,rfl⟩,hF05⟩
  rw [if_neg (by simp [c2]),aM hT5 2 rfl]
  simp only [wpS]
  rw [aE hX5 (v:=.string (mkB u.x.nm)) rfl]
  simp only [wpS]
  rw [aD]
  refine WpF.mono (mY h5.tree.decls h5.dl h5.cl u.x.nm) ?_
  rintro _ σ6 ⟨rfl,hF6⟩
  have hof:∀ o,∃ d c t,ofV o=.tuple #[.int .i64 d,.int .i64 c,.bool t]:=by
   intro o
   cases o with
   |none=>exact ⟨0,0,false,rfl⟩
   |some y=>exact ⟨_,_,true,rfl⟩
  obtain ⟨d1,e1,t1,ho1⟩:=hof (ofD u.x.nm 0 D)
  rw [ho1]
  simp only [wpS]
  rw [aM (hF6.stN hT5) 2 rfl]
  simp only [wpS]
  rw [aE (hF6.stN hS5) (v:=.string (mkB w.x.nm)) rfl]
  simp only [wpS]
  rw [aD]
  refine WpF.mono (mY (h5.frm hF6).tree.decls h5.dl h5.cl w.x.nm) ?_
  rintro _ σ7 ⟨rfl,hF7⟩
  obtain ⟨d2,e2,t2,ho2⟩:=hof (ofD w.x.nm 0 D)
  rw [ho2]
  simp only [wpS]
  have hF57:=hF6.seq hF7
  have rest:∀ (b2:Bool) (τ:aC),Frm σ5 τ NoB→Wp aF ovD (T26k4 ⟨X,0,some 0⟩ ⟨W,0,some 0⟩ ⟨T,0,some 0⟩ .normal [.bool b2]) τ fun _ vs σ'=>∃ v,vs=[v]∧(∃ b,v=.bool b)∧Frm σ σ' NoB:=by
   intro b2 τ hτ
   simp only [wpS,T26k4]
   rw [aB]
   cases b2 with
   |true=>
    rw [if_pos rfl]
    simp only [wpS]
    exact ⟨_,rfl,⟨_,rfl⟩,hF05.seq hτ⟩
   |false=>
   rw [if_neg (by simp)]
   refine Wp.loop (fun m st σ'=>∃ (i:Nat) (b:Bool),st=[.int .i64 ((i:Nat):Int),.bool b]∧Frm σ5 σ' NoB∧i+m=u.kids.length+1) (u.kids.length+1) ⟨0,false,rfl,hτ,by omega⟩ ?_
   rintro m' st σ8 ⟨i,b3,rfl,hF8,him⟩
   have ei:aR ((i:Int)+1)=((i+1:Nat):Int):=by rw [aS (by omega)];omega
   have hX8:=hF8.stN hX5
   have hW8:=hF8.stN hS5
   have hT8:=hF8.stN hT5
   unfold T26b0
   simp only [wpS]
   rw [aE hX8 (v:=.slice qu u.kids.length ku) rfl]
   simp only [wpS]
   rw [aB]
   by_cases hi:i<u.kids.length
   case neg=>
    rw [if_neg (by simp;omega)]
    simp only [wpS,T26k2]
    rw [aB,if_neg (by simp)]
    simp only [wpS,T26k3]
    exact ⟨_,rfl,⟨_,rfl⟩,hF05.seq hF8⟩
   rw [if_pos (by simp;omega),aE hW8 (v:=.slice qw w.kids.length kw) rfl]
   simp only [wpS]
   rw [aB]
   by_cases hi2:i<w.kids.length
   case neg=>
    rw [if_neg (by simp;omega)]
    simp only [wpS,T26k2]
    rw [aB,if_neg (by simp)]
    simp only [wpS,T26k3]
    exact ⟨_,rfl,⟨_,rfl⟩,hF05.seq hF8⟩
   rw [if_pos (by simp;omega),aE hX8 (v:=.string (mkB u.x.nm)) rfl]
   simp only [wpS]
   rw [aE hW8 (v:=.string (mkB w.x.nm)) rfl]
   simp only [wpS,T26k2]
   rw [aB]
   by_cases hs:((mkB u.x.nm).toList==(mkB w.x.nm).toList)=true
   case neg=>
    rw [if_neg hs]
    simp only [wpS,T26k3]
    exact ⟨_,rfl,⟨_,rfl⟩,hF05.seq hF8⟩
   rw [if_pos hs,aI,aM hT8 2 rfl]
   simp only [wpS]
   rw [aE hX8 (v:=.slice qu u.kids.length ku) rfl]
   simp only [wpS]
   refine bS (hru5.later hF8) hi rfl fun cs hcs=>⟨_,hcs,?_⟩
   simp only [wpS]
   rw [aE hW8 (v:=.slice qw w.kids.length kw) rfl]
   simp only [wpS]
   refine bS (hrw5.later hF8) hi2 rfl fun cs hcs=>⟨_,hcs,?_⟩
   simp only [wpS]
   obtain ⟨p1,p2⟩:=hkid i hi
   obtain ⟨p3,p4⟩:=hkid2 i hi2
   rw [aD]
   refine WpF.mono (ih _ _ σ8 (h5.frm hF8) ((hF05.seq hF8).fr hf) (by omega) p2 p4) ?_
   rintro _ σ9 ⟨⟨b4,rfl⟩,hF9⟩
   simp only [wpS]
   rw [aB]
   cases b4 with
   |false=>
    rw [if_pos (by rfl)]
    simp only [wpS,T26k1,T26k3]
    exact ⟨_,rfl,⟨_,rfl⟩,hF05.seq (hF8.seq hF9)⟩
   |true=>
    rw [if_neg (by simp)]
    simp only [wpS,T26k1,ei]
    exact ⟨m' - 1,by omega,i+1,b3,rfl,hF8.seq hF9,by omega⟩
  rw [aB]
  by_cases c3:(d1 !=d2)=true
  ·rw [if_neg (by rw [c3];simp)]
   simp only [wpS]
   exact rest _ _ hF57
  rw [if_pos (by rw [Bool.eq_false_iff.2 c3];rfl),aM (hF57.stN hT5) 2 rfl]
  simp only [wpS]
  rw [aD]
  refine WpF.mono (inner a ha σ7 hF57) ?_
  rintro _ σ8 ⟨⟨b2,rfl⟩,hF8⟩
  have hF58:=hF57.seq hF8
  simp only [wpS]
  rw [aB]
  cases b2 with
  |false=>
   rw [if_neg (by simp)]
   simp only [wpS]
   exact rest _ _ hF58
  |true=>
   rw [if_pos (by rfl),aM (hF58.stN hT5) 2 rfl]
   simp only [wpS]
   rw [aD]
   refine WpF.mono (inner b hb σ8 hF58) ?_
   rintro _ σ9 ⟨⟨b3,rfl⟩,hF9⟩
   simp only [wpS]
   exact rest _ _ (hF58.seq hF9)
 rw [aI,aE hX5 (v:=.int .i64 u.x.k) rfl]
 simp only [wpS]
 rw [aB]
 by_cases c0:u.x.k<23
 ·rw [if_neg (by simp;omega)]
  simp only [wpS]
  exact main true
 ·rw [if_pos (by simp;omega),aE hS5 (v:=.int .i64 w.x.k) rfl]
  simp only [wpS]
  exact main _
end
end Go.Pg
namespace Go.Pg
open Go.Proofs Go.Utf8 Go.Lib
set_option linter.unusedSimpArgs false
section
variable {σ:aC} {N:List NV} {D:List Dc} {pn pd:Option Addr} {cn cd:Nat}
theorem wi64_two {i:Nat} (h:i≤1000000000):aR (((i:Nat):Int)+2)=((i+2:Nat):Int):=by rw [aS (by omega)];omega
theorem wp_typed13 (g:cR N D) (hf:pC σ) (h:eP σ NoB pn N pd D):
  WpF aF ovD 13 [trV pn N.length cn pd D.length cd] σ fun v σ'=>(∃ b,v=.bool b)∧Frm σ σ' NoB:=by
 refine WpF.of (T13_eq _ _ _ _ _ _) rfl ?_
 rw [T13]
 refine aN fun σ1 hF1 hn1 hS1=>?_
 generalize hT:σ.n=T at hS1
 have hNl:=h.nl
 refine Wp.count N.length (fun i st σ'=>∃ b:Bool,st=[.int .i64 ((i:Nat):Int),.bool b]∧Frm σ1 σ' NoB) ⟨false,rfl,Frm.refl _ _⟩ ?_ ?_
 ·rintro i st σ2 hi ⟨b,rfl,hF2⟩
  have ei:aR ((i:Int)+1)=((i+1:Nat):Int):=by rw [aS (by omega)];omega
  have hF02:=hF1.seq hF2
  have h2:=h.frm hF02
  have hT2:=hF2.stN hS1
  have hkid:=fun j hj=>g.kidI hi (j:=j) hj
  have hkl:=h.kl _ (List.getElem_mem hi)
  unfold T13b2
  simp only [wpS]
  rw [aE hT2 (v:=.slice pn N.length cn) rfl]
  simp only [wpS]
  rw [aB,if_pos (by simp;omega),aI,aE hT2 (v:=.slice pn N.length cn) rfl]
  simp only [wpS]
  refine cA h2.tree.nodes hi rfl (o:=4) (by decide) fun cs hcs=>?_
  obtain ⟨q,kq,rfl,hrow,_⟩:=hcs
  refine ⟨_,rfl,?_⟩
  simp only [wpS]
  rw [aE hT2 (v:=.slice pn N.length cn) rfl]
  simp only [wpS]
  refine cA h2.tree.nodes hi rfl (o:=0) (by decide) fun cs hcs=>?_
  obtain ⟨q0,k0,rfl,_,_⟩:=hcs
  refine ⟨_,rfl,?_⟩
  simp only [wpS]
  rw [aB]
  by_cases hk:N[i].x.k=11
  case neg=>
   rw [if_pos (by simpa using hk)]
   simp only [wpS,T13k4,ei]
   exact ⟨b,rfl,hF2⟩
  rw [if_neg (by simp [hk])]
  generalize N[i].kids=kids at hrow hkid hkl
  refine Wp.loop (fun m st σ'=>∃ (a:Nat) (b:Bool),st=[.int .i64 ((a:Nat):Int),.bool b]∧Frm σ2 σ' NoB∧a+m=kids.length+2) (kids.length+1) ⟨1,b,rfl,Frm.refl _ _,by omega⟩ ?_
  rintro m st σ3 ⟨a,b2,rfl,hF3,ham⟩
  have ea:=wi64_two (i:=a) (by omega)
  have hF03:=hF02.seq hF3
  have hT3:=hF3.stN hT2
  have h3:=h.frm hF03
  unfold T13b1
  simp only [wpS]
  rw [aB]
  by_cases ha:a<kids.length
  case neg=>
   rw [if_neg (by simp;omega)]
   simp only [wpS,T13k3,T13k4,ei]
   exact ⟨b2,rfl,hF2.seq hF3⟩
  rw [if_pos (by simp;omega),aI,aM hT3 2 rfl]
  simp only [wpS]
  refine bS (hrow.later hF3) ha rfl fun cs hcs=>⟨_,hcs,?_⟩
  simp only [wpS]
  obtain ⟨p1,p2⟩:=hkid a ha
  rw [aD]
  refine WpF.mono (wp_inner19 g N.length _ σ3 NoB h3 (by omega) p2) ?_
  rintro _ σ4 ⟨⟨b3,rfl⟩,hF4⟩
  simp only [wpS]
  rw [aB]
  cases b3 with
  |false=>
   rw [if_pos (by rfl)]
   simp only [wpS,T13k2,T13k3,T13k4,T13k5]
   exact ⟨_,rfl,⟨_,rfl⟩,hF03.seq hF4⟩
  |true=>
  rw [if_neg (by simp)]
  refine Wp.loop (fun m st σ'=>∃ (c:Nat) (b:Bool),st=[.int .i64 ((c:Nat):Int),.bool b]∧Frm σ4 σ' NoB∧c+m=a+2) (a+1) ⟨1,b2,rfl,Frm.refl _ _,by omega⟩ ?_
  rintro m2 st σ5 ⟨c,b4,rfl,hF5,hcm⟩
  have ec:=wi64_two (i:=c) (by omega)
  have hF35:=hF4.seq hF5
  have hF05:=hF03.seq hF35
  have hT5:=hF35.stN hT3
  have hrow5:=hrow.later (hF3.seq hF35)
  unfold T13b0
  simp only [wpS]
  rw [aB]
  by_cases hc:c<a
  case neg=>
   rw [if_neg (by simp;omega)]
   simp only [wpS,T13k1,T13k2,ea]
   exact ⟨m - 2,by omega,a+2,b4,rfl,hF3.seq hF35,by omega⟩
  rw [if_pos (by simp;omega),aI,aM hT5 2 rfl]
  simp only [wpS]
  refine bS hrow5 ha rfl fun cs hcs=>⟨_,hcs,?_⟩
  simp only [wpS]
  refine bS hrow5 (by omega:c<kids.length) rfl fun cs hcs=>⟨_,hcs,?_⟩
  simp only [wpS]
  obtain ⟨p3,p4⟩:=hkid c (by omega)
  rw [aD]
  refine WpF.mono (wp_fit26 g N.length _ _ σ5 (h.frm hF05) (hF05.fr hf) (by omega) p2 p4) ?_
  rintro _ σ6 ⟨⟨b5,rfl⟩,hF6⟩
  simp only [wpS]
  rw [aB]
  cases b5 with
  |false=>
   rw [if_pos (by rfl)]
   simp only [wpS,T13k0,T13k1,T13k2,T13k3,T13k4,T13k5]
   exact ⟨_,rfl,⟨_,rfl⟩,hF05.seq hF6⟩
  |true=>
   rw [if_neg (by simp)]
   simp only [wpS,T13k0,ec]
   exact ⟨m2 - 2,by omega,c+2,b4,rfl,hF5.seq hF6,by omega⟩
 ·rintro st σ2 ⟨b,rfl,hF2⟩
  unfold T13b2
  simp only [wpS]
  rw [aE (hF2.stN hS1) (v:=.slice pn N.length cn) rfl]
  simp only [wpS]
  rw [aB,if_neg (by simp)]
  simp only [wpS,T13k5]
  exact ⟨_,rfl,⟨_,rfl⟩,hF1.seq hF2⟩
end
end Go.Pg
namespace Go.Pg
open Go.Proofs Go.Utf8 Go.Lib
set_option linter.unusedSimpArgs false
section
variable {σ:aC} {N:List NV} {D:List Dc} {pn pd:Option Addr} {cn cd:Nat}
theorem cR.good (g:cR N D):lQ N D=true:=by
 unfold lQ
 simp only [Bool.and_eq_true,decide_eq_true_eq]
 exact ⟨⟨⟨g.pos,g.most⟩,g.types⟩,g.walk⟩
theorem cR.cns (g:cR N D):(cZ D).length≤400:=by
 have ht:=g.types
 rw [pJ] at ht
 simp only [Bool.and_eq_true,decide_eq_true_eq,Bool.not_eq_true',List.all_eq_true] at ht
 obtain ⟨⟨⟨⟨hok,hD20⟩,_⟩,_⟩,_⟩:=ht
 refine Nat.le_trans (tR 20 D fun d hd=>?_) (by omega)
 have:=hok d hd
 unfold okD at this
 simp only [Bool.and_eq_true,decide_eq_true_eq] at this
 exact this.1.2
theorem cR.arm (g:cR N D) {i:Nat} (hi:i<N.length) (hk:N[i].x.k=11) {a:Nat} (ha:a<N[i].kids.length) (h2:a % 2=1):iQ N ((N[i].kids[a]:Nat):Int):=by
 obtain ⟨h1,u,h3,h4⟩:=(g.node i hi).kid a ha
 obtain ⟨h5,h6⟩:=List.getElem?_eq_some_iff.1 h3
 refine .inr ⟨_,rfl,h5,?_⟩
 rw [h6]
 rw [hk,decide_eq_true h2] at h4
 simpa using h4
theorem wp_Check14 (g:cR N D) (hf:pC σ) (h:eP σ NoB pn N pd D):WpF aF ovD 14 [trV pn N.length cn pd D.length cd] σ fun v σ'=>(∃ f to few,v=.tuple #[.int .i64 f,.int .i64 to,.bool few]∧(few=true→(f,to)=jR N D 0 N))∧Frm σ σ' NoB:=by
 have hN:=g.most
 refine WpF.of (T14_eq _ _ _ _ _ _) rfl ?_
 rw [T14]
 refine aN fun σ1 hF1 hn1 hS1=>?_
 generalize hW:σ.n=W at hS1
 have h1:=h.frm hF1
 rw [aM hS1 2 rfl]
 simp only [wpS]
 rw [aD]
 refine WpF.mono (wp_Good27 h1.kl h1.dl h1.cl h1.al (Nat.le_trans g.cns (by decide)) h1.tree) ?_
 rintro _ σ2 ⟨rfl,hF2⟩
 have h2:=h1.frm hF2
 have hS2:=hF2.stN hS1
 have hF02:=hF1.seq hF2
 have hf2:=hF02.fr hf
 simp only [wpS,g.good,Bool.not_true]
 rw [aB,if_neg (by simp)]
 generalize hC:jR N D 0 N=C
 refine Wp.count N.length (fun i st σ'=>∃ b x y,st=[.int .i64 ((i:Nat):Int),.bool b,.int .i64 x,.int .i64 y]∧Frm σ2 σ' NoB∧jR N D i (N.drop i)=C) ⟨_,_,_,rfl,Frm.refl _ _,by rw [List.drop_zero];exact hC⟩ ?_ ?_
 ·rintro i st σ3 hi ⟨b0,x0,y0,rfl,hF3,hCi⟩
  have ei:aR ((i:Int)+1)=((i+1:Nat):Int):=by rw [aS (by omega)];omega
  have h3:=h2.frm hF3
  have hS3:=hF3.stN hS2
  have hkl:N[i].kids.length≤1000:=by
   obtain ⟨m,b',e',_,hw⟩:=(walk_at _ _ _ _ g.walk).2 i (Nat.zero_le _) hi
   cases m with
   |zero=>cases hw
   |succ m=>have:=nJ hw (List.getElem?_eq_getElem hi);omega
  have harm:=fun hk a ha h2=>g.arm hi hk (a:=a) ha h2
  rw [List.drop_eq_getElem_cons hi,jR] at hCi
  unfold T14b1
  simp only [wpS]
  rw [aE hS3 (v:=.slice pn N.length cn) rfl]
  simp only [wpS]
  rw [aB,if_pos (by simp;omega),aI,aE hS3 (v:=.slice pn N.length cn) rfl]
  simp only [wpS]
  refine dA h3.tree.nodes hi rfl fun cs hcs=>?_
  obtain ⟨q,k,rfl,hrow,_⟩:=hcs
  simp only [wpS]
  refine aN fun σ4 hF4 hn4 hS4=>?_
  refine bA hS4 rfl rfl fun σ5 hF5 hn5 hS5=>?_
  have hF35:Frm σ3 σ5 NoB:=hF4.fresh hF5 fun j hj h=>by omega
  generalize hV:σ3.n=V at hS5
  rw [aE hS5 (i:=0) rfl]
  simp only [wpS]
  rw [aB]
  by_cases hk:N[i].x.k=11
  case neg=>
   rw [if_pos (by show (mL N D ((i:Nat):Int) N[i]).1=0;unfold mL;rw [if_neg hk])] at hCi
   rw [if_pos (by simpa using hk)]
   simp only [wpS,T14k2,ei]
   exact ⟨_,_,_,rfl,hF3.seq hF35,hCi⟩
  have harm:=harm hk
  have hnode:mL N D ((i:Nat):Int) N[i]=armsR N D ((i:Nat):Int) (jU N D false N[i].kids []):=by unfold mL;rw [if_pos hk]
  rw [hnode] at hCi
  rw [if_neg (by simp [hk])]
  generalize N[i].kids=kids at hrow hkl harm hS5 hCi
  have h5:=h3.frm hF35
  have hW5:=hF35.stN hS3
  have hf5:=(hF3.seq hF35).fr hf2
  have hrow5:=hrow.later hF35
  have hF25:=hF3.seq hF35
  generalize hG:jU N D false kids []=G at hCi
  have hG1:jU N D true (kids.drop 1) []=G:=by
   rw [←hG]
   cases kids with
   |nil=>rfl
   |cons a r=>rfl
  refine Wp.loop (fun m st σ'=>∃ (a:Nat) (L:List (List Int)) (p:Option Addr) (c rb:Nat) (css:List (List Value)) (b:Bool) (x y:Int),st=[.int .i64 ((a:Nat):Int),.slice p L.length c,.bool b,.int .i64 x,.int .i64 y]∧Frm σ5 σ' NoB∧a+m=kids.length+2∧a % 2=1∧jU N D true (kids.drop a) L=G∧GR rwR 1 σ' NoB rb L css p c∧(p≠none→σ5.n≤rb)∧(∀ r∈L,∃ x,r=[x]∧iQ N x)∧L.length≤a∧(kids.length≤a→1≤L.length∨kids.length≤1))
   (kids.length+1) ⟨1,[],none,0,0,[],_,_,_,rfl,Frm.refl _ _,by omega,rfl,hG1,.zero,fun h=>absurd rfl h,(fun _ h=>by cases h),by simp,fun h=>.inr h⟩ ?_
  rintro m st σ6 ⟨a,L,p,c,rb,css,b6,x6,y6,rfl,hF6,ham,hodd,hGa,hGR,hrb,hLP,hLa,hL0⟩
  have ea:=wi64_two (i:=a) (by omega)
  have h6:=h5.frm hF6
  have hS6:=hF6.stN hS5
  have hW6:=hF6.stN hW5
  have hf6:=hF6.fr hf5
  have hL6:=hGR.close aY (by decide)
  unfold T14b0
  simp only [wpS]
  rw [aE hS6 (i:=4) (v:=.slice q kids.length k) rfl]
  simp only [wpS]
  rw [aB]
  by_cases ha:a<kids.length
  case neg=>
   rw [List.drop_eq_nil_of_le (by omega),jU] at hGa
   rw [if_neg (by simp;omega)]
   simp only [wpS,T14k1]
   rw [aM hW6 2 rfl]
   simp only [wpS]
   rw [aD]
   have hwL:∀ r∈L,r.length=1:=fun r hr=>by obtain ⟨y,rfl,_⟩:=hLP r hr;try rfl
   have hPL:∀ r∈L,∀ p∈r,iQ N p:=fun r hr p hp=>by
    obtain ⟨y,rfl,hy⟩:=hLP r hr
    rw [List.mem_singleton.1 hp];exact hy
   have hall:∃ u:Bool × Bool,WpF aF ovD 18 [trV pn N.length cn pd D.length cd,.slice p L.length c] σ6 (fun v σ'=>v=.tuple #[.bool u.1,.bool u.2]∧Frm σ6 σ' NoB)∧(u.2=true→allC N D L=u.1):=by
    cases L with
    |nil=>
     refine ⟨(false,true),?_,fun _=>rfl⟩
     refine WpF.of (T18_eq _ _ _ _ _ _ _ _ _) rfl ?_
     rw [T18]
     first
      |(refine aN fun τ hτ _ _=>?_;rw [aB,if_pos (by rfl)];simp only [wpS];exact ⟨_,rfl,rfl,hτ⟩)
      |(rw [aB,if_pos (by rfl)];simp only [wpS];exact ⟨_,rfl,rfl,Frm.refl _ _⟩)
    |cons r0 M=>
     have hr0:=hwL r0 (by simp)
     refine ⟨(!(bG N D 10001 (r0::M) (List.replicate r0.length (-1)) 0).1,decide ((bG N D 10001 (r0::M) (List.replicate r0.length (-1)) 0).2≤10000)),wp_All18 g hf6 h6 hL6 (by omega) (by omega) (fun y hy=>by rw [hwL y hy,hr0]) hPL,?_⟩
     intro h
     unfold allC
     simp only
     rw [wideC_same fun y hy=>by rw [hwL y hy,hr0]]
     simp only at h
     rw [h,Bool.and_true]
   obtain ⟨⟨u1,u2⟩,hall1,hall2⟩:=hall
   refine WpF.mono hall1 ?_
   rintro _ σ7 ⟨rfl,hF7⟩
   have hF07:=hF02.seq (hF25.seq (hF6.seq hF7))
   simp only [wpS]
   rw [aB]
   cases u2 with
   |false=>
    rw [if_pos (by rfl)]
    simp only [wpS,T14k2,T14k3]
    exact ⟨_,rfl,⟨_,_,_,rfl,fun h=>by cases h⟩,hF07⟩
   |true=>
   have hal:=hall2 rfl
   simp only at hal
   rw [if_neg (by simp),aB]
   rw [←hGa,armsR,hal] at hCi
   cases u1 with
   |false=>
    rw [if_pos (by rfl)]
    rw [if_neg (by simp),if_neg (by simp)] at hCi
    simp only [wpS,T14k2,T14k3]
    exact ⟨_,rfl,⟨_,_,_,rfl,fun _=>hCi⟩,hF07⟩
   |true=>
    rw [if_neg (by simp)]
    rw [if_pos rfl,if_pos rfl] at hCi
    simp only [wpS,T14k2,ei]
    exact ⟨_,_,_,rfl,hF25.seq (hF6.seq hF7),hCi⟩
  rw [if_pos (by simp;omega),aI,aM hW6 2 rfl]
  simp only [wpS]
  rw [aE hS6 (i:=4) (v:=.slice q kids.length k) rfl]
  simp only [wpS]
  rw [List.drop_eq_getElem_cons ha,jU] at hGa
  have hx:=harm a ha hodd
  have hrow6:=hrow5.later hF6
  refine bS hrow6 ha rfl fun cs hcs=>⟨_,hcs,?_⟩
  simp only [wpS]
  refine wp_one _ fun σ7 hF7 hR7=>?_
  rw [cG,aP]
  refine ⟨sF ((hF7.stN hW6).ldAll 2 rfl) rfl,?_⟩
  rw [aD]
  generalize hxv:((kids[a]:Nat):Int)=x at hx hR7 hGa
  have hw1:∀ r∈L,r.length=[x].length:=fun r hr=>by obtain ⟨y,rfl,_⟩:=hLP r hr;try rfl
  have hPL:∀ r∈L,∀ p∈r,iQ N p:=fun r hr p hp=>by
   obtain ⟨y,rfl,hy⟩:=hLP r hr
   rw [List.mem_singleton.1 hp];exact hy
  refine WpF.mono (wp_Useful16 g (hF7.fr hf6) (h6.frm hF7) (hL6.frmM aY hF7) (by omega) hR7.low (by simp) hw1 hPL fun p hp=>by rw [List.mem_singleton.1 hp];exact hx) ?_
  rintro _ σ8 ⟨rfl,hF8⟩
  simp only [wpS]
  generalize bG N D 10001 L [x] 0=u at hGa
  have hF68:=hF7.seq hF8
  have hF08:=hF02.seq (hF25.seq (hF6.seq hF68))
  rw [aB]
  by_cases hfew:u.2≤10000
  case neg=>
   rw [if_pos (by simp;omega)]
   simp only [wpS,T14k0,T14k1,T14k2,T14k3]
   exact ⟨_,rfl,⟨_,_,_,rfl,fun h=>by cases h⟩,hF08⟩
  rw [if_neg (by simp;omega),aB]
  have hS8:=hF68.stN hS6
  have hrow8:=hrow6.later hF68
  by_cases hu:u.1=true
  case neg=>
   rw [if_neg hu] at hGa
   rw [←hGa,armsR,if_neg (show ¬ (7:Int)=0 by decide)] at hCi
   rw [if_pos (by simpa using hu),aE hS8 (i:=4) (v:=.slice q kids.length k) rfl]
   simp only [wpS]
   refine bS hrow8 ha rfl fun cs hcs=>⟨_,hcs,?_⟩
   simp only [wpS,T14k0,T14k1,T14k2,T14k3,hxv]
   exact ⟨_,rfl,⟨_,_,_,rfl,fun _=>hCi⟩,hF08⟩
  rw [if_pos hu] at hGa
  rw [if_neg (by simp [hu]),aE hS8 (i:=4) (v:=.slice q kids.length k) rfl]
  simp only [wpS]
  refine bS hrow8 ha rfl fun cs hcs=>⟨_,hcs,?_⟩
  simp only [wpS,hxv]
  refine wp_one _ fun σ9 hF9 hR9=>?_
  have hF69:=hF68.seq hF9
  have hb:rwR σ9 (fun j=>NoB j∨p≠none∧j=rb) [.slice (some ⟨σ8.n,0,some 1⟩) [x].length 1] [x]:=by
   refine ⟨_,_,rfl,hR9.step (S:=NoB) (Frm.refl _ _) (fun _ _ h=>h.elim) ?_⟩
   rintro j' _ (h1|⟨h1,h2⟩)
   ·exact h1.elim
   ·have:=hGR.lt h1;have:=hF68.n;show j'<σ8.n;omega
  refine fI aY (fun j h=>h.elim) (hGR.frmN aY hF69) (by decide) (by decide) rfl (by intro y hy;simp at hy;subst hy;rfl) hb (by omega) (by decide) fun σa rb2 p2 c2 hFa hrb2 hG2=>?_
  have hl1:L.length+1=(L++[[x]]).length:=by simp
  rw [hl1]
  have hF5a:Frm σ5 σa NoB:=(hF6.seq hF69).trans hFa (fun _ _ h=>h) fun j' hj' h=>by have:=hrb h.1;omega
  simp only [wpS,T14k0,ea]
  have hG2a:jU N D true (kids.drop (a+2)) (L++[[x]])=G:=by
   rw [←hGa]
   cases hd:kids.drop (a+1) with
   |nil=>
    have:kids.drop (a+2)=[]:=by
     have h:=congrArg List.length hd
     rw [List.length_drop,List.length_nil] at h
     exact List.drop_eq_nil_of_le (by omega)
    rw [this]
    try rfl
   |cons y r=>
    have:kids.drop (a+2)=r:=by
     rw [show a+2=(a+1)+1 by omega,←List.drop_drop,hd];try rfl
    rw [this]
    try rfl
  refine ⟨m - 2,by omega,a+2,L++[[x]],_,c2,rb2,_,_,_,_,rfl,hF5a,by omega,by omega,hG2a,hG2,fun _=>?_,?_,by simp;omega,fun _=>.inl (by simp)⟩
  ·have:=hF6.n
   have:=hF69.n
   rcases hrb2 with ⟨h1,h2⟩|h1
   ·have:=hrb h1;omega
   ·omega
  ·intro r hr
   rcases List.mem_append.1 hr with hr|hr
   ·exact hLP r hr
   ·rw [List.mem_singleton.1 hr];exact ⟨x,rfl,hx⟩
 ·rintro st σ3 ⟨b0,x0,y0,rfl,hF3,hCi⟩
  rw [List.drop_length,jR] at hCi
  unfold T14b1
  simp only [wpS]
  rw [aE (hF3.stN hS2) (v:=.slice pn N.length cn) rfl]
  simp only [wpS]
  rw [aB,if_neg (by simp)]
  simp only [wpS,T14k3]
  exact ⟨_,rfl,⟨_,_,_,rfl,fun _=>hCi⟩,hF02.seq hF3⟩
end
theorem coverChecks_true (s0:ByteArray) (_:s0.size≤maxLen):WpF aF ovD 4 [.string s0] (iN (rE tabsD)) fun v _=>v=.bool true:=by
 refine WpF.of (T4_eq _) rfl ?_
 rw [T4,aD]
 refine (awake8 _).mono ?_
 rintro v σ ⟨rfl,_,hfσ⟩
 rw [←mkB_self s0]
 generalize s0.data.toList=S
 simp only [wpS]
 rw [aB,if_neg (by simp),aD]
 refine wp_made12 S ?_ ?_
 ·intro _ pn cn pd cd σ1 hF1
  simp only [wpS]
  refine aN fun σ2 hF2 hn2 hS2=>?_
  refine bA hS2 rfl rfl fun σ3 hF3 hn3 hS3=>?_
  rw [aI,aB,if_neg (by simp)]
  simp only [wpS,T4k0]
  rw [aB,if_pos rfl]
  simp only [wpS]
  exact ⟨_,rfl,rfl⟩
 intro N D _ hdoc pn cn pd cd σ1 hF1 hT1 hK hD hC hA hcn
 have hg:cR N D:=docP_good hdoc
 have hNm:=hg.most
 have hB1:eP σ1 NoB pn N pd D:=(⟨hT1,by omega,hD,hC,hK,hA⟩:eP σ1 (fun j=>j<σ.n) pn N pd D).low
 simp only [wpS]
 refine aN fun σ2 hF2 hn2 hS2=>?_
 generalize hV:σ1.n=V at hS2
 refine bA hS2 rfl rfl fun σ3 hF3 hn3 hS3=>?_
 have hF13:Frm σ1 σ3 NoB:=hF2.fresh hF3 fun j hj h=>by omega
 have hB3:=hB1.frm hF13
 have hf3:=(hF1.seq hF13).fr hfσ
 rw [aI,aB,if_pos (by rfl),aE hS3 (v:=.slice pn N.length cn) rfl]
 simp only [wpS]
 rw [aB]
 by_cases h100:100<N.length
 ·rw [if_neg (by simp;omega)]
  simp only [wpS,T4k0]
  rw [aB,if_pos rfl]
  simp only [wpS]
  exact ⟨_,rfl,rfl⟩
 rw [if_pos (by simp;omega),aM hS3 2 rfl]
 simp only [wpS]
 rw [aD]
 refine WpF.mono (wp_typed13 hg hf3 hB3) ?_
 rintro _ σ4 ⟨⟨bt,rfl⟩,hF4⟩
 simp only [wpS,T4k0]
 rw [aB]
 cases bt with
 |false=>
  rw [if_pos (by rfl)]
  simp only [wpS]
  exact ⟨_,rfl,rfl⟩
 |true=>
 have hS4:=hF4.stN hS3
 have hB4:=hB3.frm hF4
 rw [if_neg (by simp),aM hS4 2 rfl]
 simp only [wpS]
 rw [aD]
 refine WpF.mono (wp_Check10 hg hB4) ?_
 rintro _ σ5 ⟨rfl,hF5⟩
 simp only [wpS]
 rw [aM (hF5.stN hS4) 2 rfl]
 simp only [wpS]
 rw [aD]
 refine WpF.mono (wp_own15 (hB4.frm hF5)) ?_
 rintro _ σ6 ⟨pu,cu,pe,ce,rfl,hU6,hF6⟩
 simp only [wpS]
 rw [aD]
 refine WpF.mono (wp_Check14 hg (((hF4.seq hF5).seq hF6).fr hf3) hU6) ?_
 rintro _ σ7 ⟨⟨f,to,few,rfl,he⟩,hF7⟩
 simp only [wpS]
 refine ⟨_,rfl,?_⟩
 cases few with
 |false=>rfl
 |true=>
  have he:=he rfl
  rw [←he]
  simp
end Go.Pg
namespace Go.Proofs
open Go.Shelf
def Tryz.laysLetter_ren:Go.Shelf.Ren:=⟨fun|200=>88|261=>97|311=>106|312=>107|n=>n,fun|21=>21|4=>4|51=>156|5=>5|119=>157|0=>0|141=>159|196=>166|193=>163|3=>3|198=>169|49=>167|194=>164|201=>172|226=>175|46=>176|227=>177|n=>n,fun|7=>0|8=>1|n=>n⟩
theorem Tryz.laysLetter:Go.Proofs.Lays.n200 Tryz.prog Tryz.laysLetter_ren:={
 mixed:=by kernel_rfl
 f200:=Tryz.func88.trans (congrArg some (by kernel_rfl))
 f261:=Tryz.func97.trans (congrArg some (by kernel_rfl))
 f311:=Tryz.func106.trans (congrArg some (by kernel_rfl))
 f312:=Tryz.func107.trans (congrArg some (by kernel_rfl))
 t0:=Tryz.underlying0
 a0:=Tryz.isAgg0
 z0:=Tryz.sizeOf0
 v0:=Tryz.zeroValue0
 t3:=Tryz.underlying3
 a3:=Tryz.isAgg3
 z3:=Tryz.sizeOf3
 v3:=Tryz.zeroValue3
 t4:=Tryz.underlying4
 a4:=Tryz.isAgg4
 z4:=Tryz.sizeOf4
 v4:=Tryz.zeroValue4
 t5:=Tryz.underlying5
 a5:=Tryz.isAgg5
 z5:=Tryz.sizeOf5
 v5:=Tryz.zeroValue5
 t21:=Tryz.underlying21
 a21:=Tryz.isAgg21
 z21:=Tryz.sizeOf21
 v21:=Tryz.zeroValue21
 t46:=Tryz.underlying176
 a46:=Tryz.isAgg176
 z46:=Tryz.sizeOf176
 v46:=Tryz.zeroValue176
 t49:=Tryz.underlying167
 a49:=Tryz.isAgg167
 z49:=Tryz.sizeOf167
 v49:=Tryz.zeroValue167
 t51:=Tryz.underlying156
 a51:=Tryz.isAgg156
 z51:=Tryz.sizeOf156
 v51:=Tryz.zeroValue156
 t119:=Tryz.underlying157
 a119:=Tryz.isAgg157
 z119:=Tryz.sizeOf157
 t141:=Tryz.underlying159
 a141:=Tryz.isAgg159
 z141:=Tryz.sizeOf159
 v141:=Tryz.zeroValue159
 t193:=Tryz.underlying163
 a193:=Tryz.isAgg163
 z193:=Tryz.sizeOf163
 v193:=Tryz.zeroValue163
 t194:=Tryz.underlying164
 a194:=Tryz.isAgg164
 z194:=Tryz.sizeOf164
 v194:=Tryz.zeroValue164
 t196:=Tryz.underlying166
 a196:=Tryz.isAgg166
 z196:=Tryz.sizeOf166
 v196:=Tryz.zeroValue166
 t198:=Tryz.underlying169
 a198:=Tryz.isAgg169
 z198:=Tryz.sizeOf169
 v198:=Tryz.zeroValue169
 t201:=Tryz.underlying172
 a201:=Tryz.isAgg172
 z201:=Tryz.sizeOf172
 v201:=Tryz.zeroValue172
 t226:=Tryz.underlying175
 a226:=Tryz.isAgg175
 z226:=Tryz.sizeOf175
 v226:=Tryz.zeroValue175
 t227:=Tryz.underlying177
 a227:=Tryz.isAgg177
 z227:=Tryz.sizeOf177
 v227:=Tryz.zeroValue177
 g7:=by kernel_rfl
 g8:=by kernel_rfl }
def Tryz.laysUpper_ren:Go.Shelf.Ren:=⟨fun|201=>90|261=>97|311=>106|312=>107|n=>n,fun|21=>21|4=>4|51=>156|5=>5|119=>157|0=>0|141=>159|196=>166|193=>163|3=>3|198=>169|49=>167|194=>164|201=>172|226=>175|46=>176|227=>177|n=>n,fun|7=>0|9=>2|n=>n⟩
theorem Tryz.laysUpper:Go.Proofs.Lays.n201 Tryz.prog Tryz.laysUpper_ren:={
 mixed:=by kernel_rfl
 f201:=Tryz.func90.trans (congrArg some (by kernel_rfl))
 f261:=Tryz.func97.trans (congrArg some (by kernel_rfl))
 f311:=Tryz.func106.trans (congrArg some (by kernel_rfl))
 f312:=Tryz.func107.trans (congrArg some (by kernel_rfl))
 t0:=Tryz.underlying0
 a0:=Tryz.isAgg0
 z0:=Tryz.sizeOf0
 v0:=Tryz.zeroValue0
 t3:=Tryz.underlying3
 a3:=Tryz.isAgg3
 z3:=Tryz.sizeOf3
 v3:=Tryz.zeroValue3
 t4:=Tryz.underlying4
 a4:=Tryz.isAgg4
 z4:=Tryz.sizeOf4
 v4:=Tryz.zeroValue4
 t5:=Tryz.underlying5
 a5:=Tryz.isAgg5
 z5:=Tryz.sizeOf5
 v5:=Tryz.zeroValue5
 t21:=Tryz.underlying21
 a21:=Tryz.isAgg21
 z21:=Tryz.sizeOf21
 v21:=Tryz.zeroValue21
 t46:=Tryz.underlying176
 a46:=Tryz.isAgg176
 z46:=Tryz.sizeOf176
 v46:=Tryz.zeroValue176
 t49:=Tryz.underlying167
 a49:=Tryz.isAgg167
 z49:=Tryz.sizeOf167
 v49:=Tryz.zeroValue167
 t51:=Tryz.underlying156
 a51:=Tryz.isAgg156
 z51:=Tryz.sizeOf156
 v51:=Tryz.zeroValue156
 t119:=Tryz.underlying157
 a119:=Tryz.isAgg157
 z119:=Tryz.sizeOf157
 t141:=Tryz.underlying159
 a141:=Tryz.isAgg159
 z141:=Tryz.sizeOf159
 v141:=Tryz.zeroValue159
 t193:=Tryz.underlying163
 a193:=Tryz.isAgg163
 z193:=Tryz.sizeOf163
 v193:=Tryz.zeroValue163
 t194:=Tryz.underlying164
 a194:=Tryz.isAgg164
 z194:=Tryz.sizeOf164
 v194:=Tryz.zeroValue164
 t196:=Tryz.underlying166
 a196:=Tryz.isAgg166
 z196:=Tryz.sizeOf166
 v196:=Tryz.zeroValue166
 t198:=Tryz.underlying169
 a198:=Tryz.isAgg169
 z198:=Tryz.sizeOf169
 v198:=Tryz.zeroValue169
 t201:=Tryz.underlying172
 a201:=Tryz.isAgg172
 z201:=Tryz.sizeOf172
 v201:=Tryz.zeroValue172
 t226:=Tryz.underlying175
 a226:=Tryz.isAgg175
 z226:=Tryz.sizeOf175
 v226:=Tryz.zeroValue175
 t227:=Tryz.underlying177
 a227:=Tryz.isAgg177
 z227:=Tryz.sizeOf177
 v227:=Tryz.zeroValue177
 g7:=by kernel_rfl
 g9:=by kernel_rfl }
def Tryz.laysDecode_ren:Go.Shelf.Ren:=⟨fun|197=>99|260=>109|n=>n,fun|9=>9|21=>21|3=>3|4=>4|5=>5|105=>128|119=>157|0=>0|46=>176|139=>180|138=>179|n=>n,fun|3=>3|4=>4|n=>n⟩
theorem Tryz.laysDecode:Go.Proofs.Lays.n197 Tryz.prog Tryz.laysDecode_ren:={
 mixed:=by kernel_rfl
 f197:=Tryz.func99.trans (congrArg some (by kernel_rfl))
 f260:=Tryz.func109.trans (congrArg some (by kernel_rfl))
 t0:=Tryz.underlying0
 a0:=Tryz.isAgg0
 z0:=Tryz.sizeOf0
 v0:=Tryz.zeroValue0
 t3:=Tryz.underlying3
 a3:=Tryz.isAgg3
 z3:=Tryz.sizeOf3
 v3:=Tryz.zeroValue3
 t4:=Tryz.underlying4
 a4:=Tryz.isAgg4
 z4:=Tryz.sizeOf4
 v4:=Tryz.zeroValue4
 t5:=Tryz.underlying5
 a5:=Tryz.isAgg5
 z5:=Tryz.sizeOf5
 v5:=Tryz.zeroValue5
 t9:=Tryz.underlying9
 a9:=Tryz.isAgg9
 z9:=Tryz.sizeOf9
 v9:=Tryz.zeroValue9
 t21:=Tryz.underlying21
 a21:=Tryz.isAgg21
 z21:=Tryz.sizeOf21
 v21:=Tryz.zeroValue21
 t46:=Tryz.underlying176
 a46:=Tryz.isAgg176
 z46:=Tryz.sizeOf176
 v46:=Tryz.zeroValue176
 t105:=Tryz.underlying128
 a105:=Tryz.isAgg128
 z105:=Tryz.sizeOf128
 v105:=Tryz.zeroValue128
 t119:=Tryz.underlying157
 a119:=Tryz.isAgg157
 z119:=Tryz.sizeOf157
 t138:=Tryz.underlying179
 a138:=Tryz.isAgg179
 z138:=Tryz.sizeOf179
 v138:=Tryz.zeroValue179
 t139:=Tryz.underlying180
 a139:=Tryz.isAgg180
 z139:=Tryz.sizeOf180
 v139:=Tryz.zeroValue180
 g3:=by kernel_rfl
 g4:=by kernel_rfl }
end Go.Proofs
