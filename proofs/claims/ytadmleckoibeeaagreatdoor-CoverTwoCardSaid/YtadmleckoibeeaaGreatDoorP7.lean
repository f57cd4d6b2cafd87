/- CvE, CvF, GdD, CvG, CovC, GdE, CvH, TabF, Awk, CoverAny, CkA, CtB, CtC, Shelf -/
import Derived.Ground.NamesProg
import Derived.Shelf.Unicode.PredsPay
import Derived.Shelf.Unicode.DecodeAny
import Derived.Test.YtadmleckoibeeaaGreatDoorProg
import Derived.Test.YtadmleckoibeeaaGreatDoorP6
set_option maxHeartbeats 1000000
namespace Go.Pg
open Go.Proofs Go.Utf8 Go.Lib
set_option linter.unusedSimpArgs false
section
variable {σ:aB} {N:List NV} {D:List Dc} {pn pd:Option Addr} {cn cd A steps:Nat} {q:Option Addr} {k:Nat}
theorem wp_shape0 {Y:Nat→Prop} {P:Program} {ov:Ov} {s:Shp} {l:List Shp} (h:aT σ Y 3 (shR σ Y) q (s::l)) {n o:Nat} (hn:n=l.length+1) (ho:o<3) {f:Value→Pg} {Q:cJ}
  (K:∀ v,[(.int .i64 s.k:Value),.int .i64 s.n,.string (mkB s.nm)][o]?=some v→Wp P ov (f v) σ Q):
  Wp P ov (aH q fun a=>grd (decide (0<((n:Nat):Int))) (.act (ld1 (aadd (aadd a 0) o)) f)) σ Q:=by
 subst hn
 obtain ⟨a,cs,rfl,_,h3,h4⟩:=h 0 (by simp)
 simp only [cH]
 rw [aV]
 refine ⟨by simp,?_⟩
 have h4':cs=[.int .i64 s.k,.int .i64 s.n,.string (mkB s.nm)]:=h4
 have hl:cs.length=3:=by rw [h4'];try rfl
 have e:ld1 (aadd (aadd a 0) o) σ=some (cs[o]'(by omega),σ):=by
  unfold ld1
  rw [show aadd a 0=aadd a (0*3) from rfl,mQ (o:=o) (k:=1) h3 (by omega),List.drop_eq_getElem_cons (by omega),List.take_succ_cons,List.take_zero]
 rw [aZ,e]
 refine K _ ?_
 rw [←h4']
 exact List.getElem?_eq_getElem (by omega)
theorem wp_whole41 (h:Ask σ A pn N cn pd D cd steps) {l:List Shp} (hl:aT σ (· =A) 3 (shR σ (· =A)) q l):
  WpF aF ovD 41 [bU A,.slice q l.length k] σ fun v σ'=>v=.bool (kH D l)∧Frm σ σ' NoB:=by
 refine WpF.of (T41_eq _ _ _ _) rfl ?_
 rw [T41,aC]
 cases l with
 |nil=>
  rw [if_pos (by rfl)]
  simp only [wpS]
  exact ⟨_,rfl,rfl,Frm.refl _ _⟩
 |cons s l=>
 rw [if_neg (by simp;omega)]
 refine wp_shape0 hl rfl (by decide) fun v hv=>?_
 cases hv
 simp only [wpS]
 rw [aC]
 by_cases c1:s.k=24
 ·rw [if_pos (by simpa using c1)]
  simp only [wpS,T41k1]
  refine ⟨_,rfl,?_,Frm.refl _ _⟩
  unfold kH
  simp only
  rw [if_pos c1]
  congr 1
  rw [List.length_cons]
  by_cases h2:l.length+1=2
  ·rw [decide_eq_true h2,h2];try rfl
  ·rw [decide_eq_false h2]
   rw [beq_eq_false_iff_ne]
   omega
 rw [if_neg (by simpa using c1),aC]
 by_cases c2:s.k=25
 ·rw [if_pos (by simpa using c2)]
  simp only [wpS,T41k1]
  refine ⟨_,rfl,?_,Frm.refl _ _⟩
  unfold kH
  simp only
  rw [if_neg c1,if_pos c2]
 rw [if_neg (by simpa using c2),aC]
 by_cases c3:s.k=26
 case neg=>
  rw [if_neg (by simpa using c3)]
  simp only [wpS,T41k1]
  refine ⟨_,rfl,?_,Frm.refl _ _⟩
  unfold kH
  simp only
  rw [if_neg c1,if_neg c2,if_neg c3]
 rw [if_pos (by simpa using c3)]
 rw [aZ,show aadd ⟨A,0,some 0⟩ 0=⟨A,0,some 0⟩ from rfl,h.st.ldN (off:=0) (k:=2) (by simp)]
 simp only [wpS,List.drop_zero,List.take_succ_cons,List.take_zero]
 refine wp_shape0 hl rfl (by decide) fun v hv=>?_
 cases hv
 simp only [wpS]
 rw [aD]
 refine WpF.mono (wp_Of30 h.tree.decls h.dl h.cl s.nm) ?_
 rintro _ σ2 ⟨rfl,hF2⟩
 have h2:=h.frm hF2
 have hw:kH D (s::l)=match ofD s.nm 0 D with
  |some x=>decide (l.length+1=(match D[x.1]? with
   |some d=>d.cons.length
   |none=>0))
  |none=>false:=by unfold kH;simp only;rw [if_neg c1,if_neg c2,if_pos c3];try rfl
 cases ho:ofD s.nm 0 D with
 |none=>
  rw [ho] at hw
  simp only [ofV,wpS]
  rw [aC,if_neg (by simp)]
  simp only [wpS,T41k0,T41k1]
  exact ⟨_,rfl,by rw [hw],hF2⟩
 |some x=>
  rw [ho] at hw
  simp only at hw
  obtain ⟨d,c,w⟩:=x
  obtain ⟨_,hd,hc,_⟩:=mC _ _ _ _ ho
  simp only [Nat.sub_zero] at hd hc
  rw [List.getElem?_eq_getElem hd] at hw
  simp only at hw
  simp only [ofV,wpS]
  rw [aC,if_pos (by rfl),aE h2.st (v:=.slice pd D.length cd) rfl]
  simp only [wpS]
  refine cO h2.tree.decls hd rfl (o:=1) (by decide) fun cs hcs=>?_
  obtain ⟨q1,k1,rfl,_⟩:=hcs
  refine ⟨_,rfl,?_⟩
  simp only [wpS,T41k0,T41k1]
  refine ⟨_,rfl,?_,hF2⟩
  rw [hw,List.length_cons]
  congr 1
  by_cases h3:l.length+1=D[d].cons.length
  ·rw [decide_eq_true h3,h3,beq_self_eq_true]
  ·rw [decide_eq_false h3,beq_eq_false_iff_ne]
   omega
end
section
variable {N:List NV} {D:List Dc}
theorem anyS_le {q:Shp→Nat→Bool × Nat} {B:Nat} (hq:∀ s n,n+1≤10000→(q s n).2≤B) (hq2:∀ s n,10000<n+1→(q s n).2≤n+1) (hB:10000≤B):∀ (l:List Shp) (n:Nat),n≤B→(anyS q l n).2≤B+l.length
 |[],n,h=>by rw [anyS];simpa using h
 |s::l,n,h=>by
  rw [anyS,List.length_cons]
  have h1:(q s n).2≤B+1:=by
   by_cases h2:n+1≤10000
   ·have:=hq s n h2;omega
   ·have:=hq2 s n (by omega);omega
  split
  ·simp only;omega
  ·have:=anyS_le (B:=B+1) (fun s n h=>Nat.le_trans (hq s n h) (Nat.le_succ _)) hq2 (by omega) l (q s n).2 h1
   omega
theorem pH:∀ (f R:Nat) (rows:List (List Int)) (row:List Int) (n:Nat),rows.length≤R→(n+1≤10000→(bQ N D f rows row n).2≤10000+f*(R+1))∧(10000<n+1→(bQ N D f rows row n).2≤n+1)
 |0,R,rows,row,n,_=>by rw [bQ];simp only;omega
 |f+1,R,rows,row,n,hR=>by
  have e:(f+1)*(R+1)=f*(R+1)+(R+1):=by rw [Nat.add_mul,Nat.one_mul]
  unfold bQ
  split
  ·simp only;omega
  ·have sub:∀ rows' row',rows'.length≤R→(bQ N D f rows' row' (n+1)).2≤10000+(f+1)*(R+1):=by
    intro rows' row' h
    obtain ⟨h1,h2⟩:=pH f R rows' row' (n+1) h
    by_cases h3:n+1+1≤10000
    ·have:=h1 h3;omega
    ·have:=h2 (by omega);omega
   have hsp:∀ s,(fE N D s rows).length≤R:=fun s=>Nat.le_trans (List.length_filterMap_le _ _) hR
   refine ⟨fun _=>?_,fun h=>by omega⟩
   split
   ·simp only;omega
   ·split
    ·exact sub _ _ (hsp _)
    ·split
     ·rename_i p r h1 h2
      have:=anyS_le (q:=fun s n=>bQ N D f (fE N D s rows) ((dX N D s (p::r)).getD []) n) (B:=10000+f*(R+1)) (fun s n h=>(pH f R _ _ n (hsp s)).1 h) (fun s n h=>(pH f R _ _ n (hsp s)).2 h) (by omega) (cC N rows) (n+1) (by omega)
      have h2:=oC (N:=N) rows
      exact Nat.le_trans this (by omega)
     ·exact sub _ _ (by
       unfold lN
       rw [List.length_map]
       exact Nat.le_trans (List.length_filter_le _ _) hR)
end
end Go.Pg
namespace Go.Pg
open Go.Proofs Go.Utf8 Go.Lib
set_option linter.unusedSimpArgs false
section
variable {N:List NV} {D:List Dc} {pn pd:Option Addr} {cn cd A:Nat}
theorem specC_len {s:Shp} {p:Int} {r y:List Int} (h:dX N D s (p::r)=some y):y.length=fH D s+r.length:=by
 rw [specC_def] at h
 split at h
 ·cases h;rw [List.length_append,jY]
 ·split at h
  ·cases h;rw [List.length_append,List.length_replicate]
  ·cases h
theorem specsC_len {s:Shp} {L:List (List Int)} {w:Nat} (h:∀ r∈L,r.length=w+1):∀ y∈fE N D s L,y.length=fH D s+w:=by
 intro y hy
 obtain ⟨r,hr,he⟩:=List.mem_filterMap.1 hy
 have:=h r hr
 cases r with
 |nil=>simp at this
 |cons p r=>rw [specC_len he];simp at this;omega
theorem restC_take {L:List (List Int)} {i:Nat} (hi:i<L.length):lN N (L.take (i+1))=lN N (L.take i)++if (jM N L[i]).k=0 then [L[i].drop 1] else []:=by
 unfold lN
 rw [List.take_succ_eq_append_getElem hi,List.filter_append,List.map_append]
 congr 1
 by_cases h:(jM N L[i]).k=0
 ·rw [if_pos h,List.filter_cons_of_pos (by simpa using h)]
  try rfl
 ·rw [if_neg h,List.filter_cons_of_neg (by simpa using h)]
  try rfl
theorem restC_le (L:List (List Int)):(lN N L).length≤L.length:=by
 unfold lN
 rw [List.length_map]
 exact List.length_filter_le _ _
theorem restC_len {L:List (List Int)} {w:Nat} (h:∀ r∈L,r.length=w+1):∀ y∈lN N L,y.length=w:=by
 intro y hy
 obtain ⟨r,hr,he⟩:=List.mem_map.1 hy
 rw [←he,List.length_drop,h r (List.mem_filter.1 hr).1]
 try rfl
theorem Ask.bump {σ σ':aB} {n n':Nat} (h:Ask σ A pn N cn pd D cd n) (f:Frm σ σ' (· =A)) (hS:St σ' A [.slice pn N.length cn,.slice pd D.length cd,.int .i64 ((n':Nat):Int)]):Ask σ' A pn N cn pd D cd n':=
 ⟨hS,h.tree.step (Y':=(· =A)) f (fun _ _ h=>h) fun _ _ h=>h,h.nl,h.dl,h.cl,h.kl,h.al⟩
theorem RI.toA {σ:aB} {q:Option Addr} {k m:Nat} {l:List Int} (h:RI σ (fun j=>j<m) q k l) (hA:A<m):RI σ (· =A) q k l:=
 h.step (S:=NoB) (Frm.refl _ _) (fun _ _ h=>h.elim) fun j _ h=>by show j<m;omega
theorem frmA {σ σ':aB} {c:Nat} {β:Type} {R:aB→(Nat→Prop)→List Value→β→Prop} (hM:rE R) {p:Option Addr} {ts:List β} (h:aT σ (· =A) c (R σ (· =A)) p ts) (f:Frm σ σ' (· =A)):aT σ' (· =A) c (R σ' (· =A)) p ts:=
 aT.step f (fun _ _ h=>h) (fun _ _ h=>h) (fun _ _ h=>hM _ _ _ _ _ _ _ f (fun _ _ h=>h) (fun _ _ h=>h) h) h
theorem usefulC_succ (f:Nat) (rows:List (List Int)) (p:Int) (r:List Int) (n:Nat) (h:n+1≤10000):bQ N D (f+1) rows (p::r) n=if (shp N p).k≠0 then bQ N D f (fE N D (shp N p) rows) ((dX N D (shp N p) (p::r)).getD []) (n+1)
   else if kH D (cC N rows)=true then anyS (fun s n=>bQ N D f (fE N D s rows) ((dX N D s (p::r)).getD []) n) (cC N rows) (n+1)
   else bQ N D f (lN N rows) r (n+1):=by
 rw [bQ,if_neg (by omega)]
theorem anyS_ge {q:Shp→Nat→Bool × Nat} (hq:∀ s n,n≤(q s n).2):∀ (l:List Shp) (n:Nat),n≤(anyS q l n).2
 |[],n=>Nat.le_refl _
 |s::l,n=>by
  rw [anyS]
  split
  ·exact hq s n
  ·exact Nat.le_trans (hq s n) (anyS_ge hq l _)
theorem pB:∀ (f:Nat) (rows:List (List Int)) (row:List Int) (n:Nat),n≤(bQ N D f rows row n).2
 |0,_,_,n=>Nat.le_refl _
 |f+1,rows,row,n=>by
  unfold bQ
  split
  ·exact Nat.le_succ _
  ·split
   ·exact Nat.le_succ _
   ·split
    ·exact Nat.le_trans (Nat.le_succ _) (pB f _ _ _)
    ·split
     ·exact Nat.le_trans (Nat.le_succ _) (anyS_ge (fun s n=>pB f _ _ n) _ _)
     ·exact Nat.le_trans (Nat.le_succ _) (pB f _ _ _)
theorem wp_useful24:∀ (f:Nat) (rows:List (List Int)) (row:List Int) (n:Nat) (σ:aB) (q1:Option Addr) (k1:Nat) (q4:Option Addr) (k4:Nat),10001≤f+n→1≤f→f≤10001→n≤20000000000→Ask σ A pn N cn pd D cd n→aT σ (· =A) 1 (rwR σ (· =A)) q1 rows→RI σ (· =A) q4 k4 row→rows.length≤1000000→(∀ r∈rows,r.length=row.length)→row.length≤1000000*(10002 - f)→
  WpF aF ovD 24 [bU A,.slice q1 rows.length k1,.slice q4 row.length k4] σ fun v σ'=>v=.bool (bQ N D f rows row n).1∧Ask σ' A pn N cn pd D cd (bQ N D f rows row n).2∧Frm σ σ' (· =A):=by
 intro f
 induction f with
 |zero=>intro rows row n σ q1 k1 q4 k4 _ h;omega
 |succ f ih=>
 intro rows row n σ q1 k1 q4 k4 hfn _ hf hn h hL hR hRl hw hwl
 refine WpF.of (T24_eq _ _ _ _ _ _ _) rfl ?_
 rw [T24]
 simp only [wpS]
 have en:aO (((n:Nat):Int)+1)=((n+1:Nat):Int):=by rw [aS (by omega)];omega
 rw [aE h.st (v:=.int .i64 ((n:Nat):Int)) rfl]
 simp only [wpS,en]
 refine bP h.st (by simp) rfl fun σ1 hF1 hn1 hS1=>?_
 simp only [List.set_cons_succ,List.set_cons_zero] at hS1
 have h1:=h.bump hF1 hS1
 rw [aE hS1 (v:=.int .i64 ((n+1:Nat):Int)) rfl]
 simp only [wpS]
 rw [aC]
 by_cases hst:10000<n+1
 ·rw [if_pos (by simp;omega)]
  simp only [wpS]
  have e:bQ N D (f+1) rows row n=(false,n+1):=by unfold bQ;rw [if_pos hst]
  rw [e]
  exact ⟨_,rfl,rfl,h1,hF1⟩
 rw [if_neg (by simp;omega),aC]
 cases row with
 |nil=>
  rw [if_pos (by rfl)]
  simp only [wpS]
  have e:bQ N D (f+1) rows [] n=(rows.isEmpty,n+1):=by rw [bQ,if_neg hst]
  rw [e]
  refine ⟨_,rfl,?_,h1,hF1⟩
  cases rows with
  |nil=>rfl
  |cons a l=>simp;omega
 |cons p r=>
 rw [List.length_cons] at hwl hw
 have hA1:=h1.st.1
 have hL1:=frmA bO hL hF1
 have hR1:RI σ1 (· =A) q4 k4 (p::r):=hR.step hF1 (fun _ _ h=>h) fun _ _ h=>h
 have hu:=usefulC_succ (N:=N) (D:=D) f rows p r n (by omega)
 have hwl2:r.length+1≤1000000*10002:=Nat.le_trans hwl (Nat.mul_le_mul_left _ (by omega))
 have hrb:r.length≤100000000000:=by omega
 have hwS:∀ x∈rows,1≤x.length∧x.length≤100000000000:=fun x hx=>by have:=hw x hx;omega
 have hme:=manyC_le h.al
 have hfm:1000000*(10002 - f)=1000000*(10002 - (f+1))+1000000:=by omega
 rw [if_neg (by simp;omega)]
 refine rV hR1 rfl ?_
 simp only [wpS]
 rw [aD]
 refine WpF.mono (nB h1 p) ?_
 rintro _ σ2 ⟨rfl,hF2⟩
 generalize hs:shp N p=s at hu
 unfold shV
 simp only [wpS]
 have hn2:=hF2.n
 refine aN fun σ3 hF3 hn3 hS3=>?_
 generalize hZ:σ2.n=Z at hS3
 refine bD hS3 rfl rfl fun σ4 hF4 hn4 hS4=>?_
 have hF24:Frm σ2 σ4 NoB:=hF3.fresh hF4 fun j hj h=>by omega
 have hF14:=hF2.seq hF24
 have h4:=h1.frm hF14
 have hL4:=hL1.frmM bO hF14
 have hR4:=hR1.frm hF14
 have hF04:Frm σ σ4 (· =A):=hF1.seq hF14.no
 have hn14:=hF14.n
 rw [aE hS4 (v:=.int .i64 s.k) rfl]
 simp only [wpS]
 rw [aC]
 by_cases hk:s.k=0
 case neg=>
  rw [if_pos (by simpa using hk),aP hS4 3 rfl]
  simp only [wpS]
  rw [if_pos hk] at hu
  rw [aD]
  refine WpF.mono (nL h4 s hR4 hrb) ?_
  rintro _ σ5 ⟨q5,k5,rfl,hR5,hF5⟩
  simp only [wpS]
  rw [aP (hF5.stN hS4) 3 rfl]
  simp only [wpS]
  rw [aD]
  refine WpF.mono (pU (h4.frm hF5) s (hL4.frmM bO hF5) hRl hwS) ?_
  rintro _ σ6 ⟨q6,k6,rfl,hL6,hF6⟩
  simp only [wpS]
  have hsp:dX N D s (p::r)=some (iO (nS N p) (fH D s)++r):=specC_same hs
  rw [hsp,Option.getD_some] at hR5 hu ⊢
  have hlen:(iO (nS N p) (fH D s)++r).length=fH D s+r.length:=by rw [List.length_append,jY]
  rw [aD]
  have hA5:A<σ4.n:=h4.st.1
  refine WpF.mono (ih _ _ (n+1) σ6 q6 k6 q5 k5 (by omega) (by omega) (by omega) (by omega) (h4.frm (hF5.seq hF6)) hL6 ((hR5.toA hA5).frm hF6) (Nat.le_trans (List.length_filterMap_le _ _) hRl) (fun y hy=>by rw [hlen];exact specsC_len hw y hy) (by rw [hlen];have:=hme s;omega)) ?_
  rintro _ σ7 ⟨rfl,h7,hF7⟩
  simp only [wpS]
  rw [hu]
  exact ⟨_,rfl,rfl,h7,(hF04.seq (hF5.seq hF6).no).seq hF7⟩
 rw [if_neg (by simp [hk])]
 rw [if_neg (by simpa using hk)] at hu
 rw [aD]
 refine WpF.mono (wp_shapes40 h4 hL4 hRl fun x hx=>(hwS x hx).1) ?_
 rintro _ σ5 ⟨q5,k5,rfl,hl5,hF5⟩
 simp only [wpS]
 rw [aD]
 refine WpF.mono (wp_whole41 (h4.frm hF5) hl5) ?_
 rintro _ σ6 ⟨rfl,hF6⟩
 simp only [wpS]
 have hF46:=hF5.seq hF6
 have h6:=h4.frm hF46
 have hl6:=hl5.frmM kX hF6
 have hL6:=hL4.frmM bO hF46
 have hR6:=hR4.frm hF46
 have hF06:Frm σ σ6 (· =A):=hF04.seq hF46.no
 have hA6:=h6.st.1
 have hll:=oC (N:=N) rows
 have hk0:(shp N p).k=0:=by rw [hs];exact hk
 rw [aC]
 by_cases hwh:kH D (cC N rows)=true
 ·rw [if_pos hwh]
  rw [if_pos hwh] at hu
  have hlk:=shapesC_k (N:=N) rows
  generalize hl:cC N rows=l at hu hl6 hll hlk ⊢
  generalize hq:(fun (s:Shp) (n:Nat)=>bQ N D f (fE N D s rows) ((dX N D s (p::r)).getD []) n)=q at hu
  refine Wp.count l.length (fun i st σ'=>∃ m,st=[.int .i64 ((i:Nat):Int),.bool false]∧Frm σ6 σ' (· =A)∧Ask σ' A pn N cn pd D cd m∧anyS q l (n+1)=anyS q (l.drop i) m∧n+1≤m∧m≤10000+f*(1000000+1)+i) ⟨n+1,rfl,Frm.refl _ _,h6,by rw [List.drop_zero],Nat.le_refl _,by omega⟩ ?_ ?_
  ·rintro i st σ7 hi ⟨m,rfl,hF7,h7,hany,hm1,hm2⟩
   have ei:aO ((i:Int)+1)=((i+1:Nat):Int):=by rw [aS (by omega)];omega
   have hmul:f*(1000000+1)≤10000*(1000000+1):=Nat.mul_le_mul_right _ (by omega)
   have hmb:m≤20000000000:=by omega
   have hl7:=frmA kX hl6 hF7
   have hL7:=frmA bO hL6 hF7
   have hR7:RI σ7 (· =A) q4 k4 (p::r):=hR6.step hF7 (fun _ _ h=>h) fun _ _ h=>h
   rw [List.drop_eq_getElem_cons hi,anyS] at hany
   unfold T24b0
   simp only [wpS]
   rw [aC,if_pos (by simp;omega),aK]
   refine dN hl7 hi rfl fun cs hcs=>?_
   have hsk:=hlk _ (List.getElem_mem hi)
   generalize l[i]=t at hcs hany hsk
   cases hcs
   simp only [wpS]
   refine aN fun σ8 hF8 hn8 hS8=>?_
   refine bD hS8 rfl rfl fun σ9 hF9 hn9 hS9=>?_
   have hF79:Frm σ7 σ9 NoB:=hF8.fresh hF9 fun j hj h=>by omega
   rw [aP hS9 3 rfl]
   simp only [wpS]
   rw [aD]
   have h9:=h7.frm hF79
   have hsp:dX N D t (p::r)=some (List.replicate (fH D t) (-1)++r):=specC_any hk0 hsk
   have hA9:=h9.st.1
   refine WpF.mono (nL h9 t (hR7.frm hF79) hrb) ?_
   rintro _ σa ⟨qa,ka,rfl,hRa,hFa⟩
   simp only [wpS]
   rw [aP (hFa.stN hS9) 3 rfl]
   simp only [wpS]
   rw [aD]
   refine WpF.mono (pU (h9.frm hFa) t ((hL7.frmM bO hF79).frmM bO hFa) hRl hwS) ?_
   rintro _ σb ⟨qb,kb,rfl,hLb,hFb⟩
   simp only [wpS]
   have hqt:q t m=bQ N D f (fE N D t rows) ((dX N D t (p::r)).getD []) m:=by rw [←hq]
   rw [hsp,Option.getD_some] at hRa hqt ⊢
   have hlen:(List.replicate (fH D t) (-1)++r).length=fH D t+r.length:=by rw [List.length_append,List.length_replicate]
   rw [aD]
   have hspl:(fE N D t rows).length≤1000000:=Nat.le_trans (List.length_filterMap_le _ _) hRl
   refine WpF.mono (ih _ _ m σb qb kb qa ka (by omega) (by omega) (by omega) hmb (h9.frm (hFa.seq hFb)) hLb ((hRa.toA hA9).frm hFb) hspl (fun y hy=>by rw [hlen];exact specsC_len hw y hy) (by rw [hlen];have:=hme t;omega)) ?_
   rintro _ σc ⟨rfl,hc,hFc⟩
   simp only [wpS]
   have hF6c:Frm σ6 σc (· =A):=(hF7.seq (hF79.seq (hFa.seq hFb)).no).seq hFc
   have hle:=pH (N:=N) (D:=D) f 1000000 (fE N D t rows) (List.replicate (fH D t) (-1)++r) m hspl
   rw [←hqt] at hc hle ⊢
   have hge:m≤(q t m).2:=by
    rw [hqt]
    exact pB _ _ _ _
   rw [aC]
   cases hb:(q t m).1 with
   |true=>
    rw [if_pos rfl]
    simp only [wpS,T24k0,T24k1]
    rw [hb,if_pos rfl] at hany
    rw [hu,hany]
    exact ⟨_,rfl,rfl,hc,hF06.seq hF6c⟩
   |false=>
    rw [if_neg (by simp)]
    simp only [wpS,T24k0,ei]
    rw [hb,if_neg (by simp)] at hany
    refine ⟨(q t m).2,trivial,hF6c,hc,hany,by omega,?_⟩
    by_cases h3:m+1≤10000
    ·have:=hle.1 h3;omega
    ·have:=hle.2 (by omega);omega
  ·rintro st σ7 ⟨m,rfl,hF7,h7,hany,hm1,hm2⟩
   unfold T24b0
   simp only [wpS]
   rw [aC,if_neg (by simp)]
   simp only [wpS,T24k1]
   rw [List.drop_length,anyS] at hany
   rw [hu,hany]
   exact ⟨_,rfl,rfl,h7,hF06.seq hF7⟩
 ·rw [if_neg hwh]
  rw [if_neg hwh] at hu
  refine Wp.count rows.length (fun i st σ'=>∃ pr c rb css,st=[.int .i64 ((i:Nat):Int),.slice pr (lN N (rows.take i)).length c]∧Frm σ6 σ' NoB∧GR rwR 1 σ' (· =A) rb (lN N (rows.take i)) css pr c∧(pr≠none→σ6.n≤rb)) ⟨none,0,0,[],rfl,Frm.refl _ _,.zero,fun h=>absurd rfl h⟩ ?_ ?_
  ·rintro i st σ7 hi ⟨pr,c,rb,css,rfl,hF7,hG7,hrb7⟩
   have ei:aO ((i:Int)+1)=((i+1:Nat):Int):=by rw [aS (by omega)];omega
   have hlen:(lN N (rows.take i)).length≤i:=by
    have:=restC_le (N:=N) (rows.take i)
    rw [List.length_take] at this
    omega
   have hstep:=restC_take (N:=N) hi
   unfold T24b1
   simp only [wpS]
   rw [aC,if_pos (by simp;omega),aK]
   have hY:∀ j,j<σ6.n→(j=A∨σ6.n≤j)→j=A:=fun j h1 h2=>by omega
   have hL7:aT σ7 (fun j=>j=A∨σ6.n≤j) 1 (rwR σ7 (fun j=>j=A∨σ6.n≤j)) q1 rows:=aT.step (S:=NoB) hF7 (fun _ _ h=>h.elim) hY (fun _ _ h=>bO _ _ _ _ _ _ _ hF7 (fun _ _ h=>h.elim) hY h) hL6
   refine cR hL7 hi rfl fun cs hcs=>?_
   have hw1:=hw rows[i] (List.getElem_mem hi)
   generalize hr:rows[i]=y at hcs hw1 hstep
   obtain ⟨qr,kr,rfl,hRI⟩:=hcs
   refine ⟨_,rfl,?_⟩
   simp only [wpS]
   cases y with
   |nil=>simp at hw1
   |cons x y=>
   have hhead:jM N (x::y)=shp N x:=rfl
   rw [hhead,List.drop_succ_cons,List.drop_zero] at hstep
   refine rV hRI rfl ?_
   simp only [wpS]
   rw [aD]
   refine WpF.mono (nB (h6.frm hF7) x) ?_
   rintro _ σ8 ⟨rfl,hF8⟩
   generalize shp N x=t at hstep
   unfold shV
   simp only [wpS]
   have hF68:=hF7.seq hF8
   have hG8:=hG7.frmN bO hF8
   have hn78:=hF8.n
   have hn67:=hF7.n
   rw [aC]
   by_cases ht:t.k=0
   ·rw [if_pos (by simpa using ht),aV]
    refine ⟨grd_cut hRI rfl,?_⟩
    rw [if_pos ht] at hstep
    have hb:rwR σ8 (fun j=>j=A∨pr≠none∧j=rb) [.slice (cutS qr 1) (y.length+1 - 1) (kr - 1)] y:=by
     refine ⟨cutS qr 1,kr - 1,rfl,(hRI.cut.frm hF8).step (S:=NoB) (Frm.refl _ _) (fun _ _ h=>h.elim) ?_⟩
     rintro j _ (h1|⟨h1,h2⟩)
     ·exact .inl h1
     ·have:=hrb7 h1;exact .inr (by omega)
    refine lF bO (fun j h=>by omega) hG8 (by decide) (by decide) rfl (by intro y hy;simp at hy;subst hy;rfl) hb (by omega) (by decide) fun σ9 rb9 p9 c9 hF9 hrb9 hG9=>?_
    simp only [wpS,T24k2,T24k3,ei]
    rw [hstep]
    refine ⟨some p9,c9,rb9,_,by simp,hF68.fresh hF9 fun j hj h=>by have:=hrb7 h.1;omega,hG9,fun _=>?_⟩
    rcases hrb9 with ⟨h1,h2⟩|h1
    ·have:=hrb7 h1;omega
    ·omega
   ·rw [if_neg (by simpa using ht)]
    simp only [wpS,T24k2,T24k3,ei]
    rw [if_neg ht,List.append_nil] at hstep
    rw [hstep]
    exact ⟨pr,c,rb,_,rfl,hF68,hG8,hrb7⟩
  ·rintro st σ7 ⟨pr,c,rb,css,rfl,hF7,hG7,hrb7⟩
   rw [List.take_length] at hG7 ⊢
   unfold T24b1
   simp only [wpS]
   rw [aC,if_neg (by simp)]
   simp only [wpS,T24k4]
   rw [aV]
   refine ⟨grd_cut hR6 rfl,?_⟩
   rw [aD,show (p::r).length - 1=r.length from rfl]
   refine WpF.mono (ih _ _ (n+1) σ7 pr c (cutS q4 1) (k4 - 1) (by omega) (by omega) (by omega) (by omega) (h6.frm hF7) (hG7.close bO (by decide)) (hR6.frm hF7).cut (Nat.le_trans (restC_le _) hRl) (restC_len hw) (by omega)) ?_
   rintro _ σ8 ⟨rfl,h8,hF8⟩
   simp only [wpS]
   rw [hu]
   exact ⟨_,rfl,rfl,h8,(hF06.seq hF7.no).seq hF8⟩
end
end Go.Pg
namespace Go.Pg
open Go.Proofs Go.Utf8 Go.Lib
set_option linter.unusedSimpArgs false
section
variable {σ σ':aB} {N:List NV} {D:List Dc} {Y:Nat→Prop} {pn pd:Option Addr} {cn cd A:Nat}
theorem qK {w p:Nat} {b:Bool} {e:Nat} (h:bT N D (w+1) p b=some e) {v:NV} (hv:N[p]?=some v):v.kids.length≤N.length:=by
 have hlt:=gJ h
 have hr:=h
 rw [bT,hv] at hr
 simp only at hr
 split at hr
 ·obtain ⟨a,h1,hr⟩:=aQ hr
  have:=pN (g:=fun _=>[()]) (fun p' b' e' h'=>by have:=gJ h';simp;omega) _ _ _ _ _ h1
  have h2:∀ l:List Nat,(l.flatMap fun _=>[()]).length=l.length:=fun l=>by
   induction l with
   |nil=>rfl
   |cons x l ih=>rw [List.flatMap_cons,List.length_append,ih];simp;omega
  have h2:=h2 v.kids
  split at hr
  ·cases hr
  ·cases ofS hr
   omega
 ·cases hr
theorem wp_binds35 (hN:N.length≤1000):∀ (w p:Nat) (b:Bool) (e m:Nat) (σ:aB),bT N D w p b=some e→N.length≤m+p→dF σ Y pn N pd D→
  WpF aF ovD 35 [trV pn N.length cn pd D.length cd,.int .i64 ((p:Nat):Int)] σ fun v σ'=>∃ rb q k,v=.slice q (bH N m p).length k∧SlV σ' rb q k ((bH N m p).map cW)∧(q≠none→σ.n≤rb)∧Frm σ σ' NoB:=by
 intro w
 induction w with
 |zero=>intro p b e m σ h;cases h
 |succ w ih=>
  intro p b e m σ h hm hT
  obtain ⟨v,hv,hkids⟩:=walk_node h
  have hbl:=mF _ _ _ _ h
  have hlt:=gJ h
  obtain ⟨m,rfl⟩:∃ m',m=m'+1:=⟨m - 1,by omega⟩
  have hpN:p<N.length:=by omega
  have hvN:N[p]=v:=by
   rw [List.getElem?_eq_getElem hpN] at hv
   exact Option.some.inj hv
  have hkl:=qK h hv
  refine WpF.of (T35_eq _ _ _ _ _ _ _) rfl ?_
  rw [T35]
  refine aN fun σ1 hF1 hn1 hS1=>?_
  generalize hA:σ.n=A at hS1
  rw [aE hS1 rfl]
  simp only [wpS]
  have hT1:=hT.frm hF1
  refine dN hT1.nodes hpN rfl fun cs hcs=>?_
  rw [hvN] at hcs
  obtain ⟨q,k,rfl,hrow,_⟩:=hcs
  simp only [wpS]
  refine aN fun σ2 hF2 hn2 hS2=>?_
  refine bD hS2 rfl rfl fun σ3 hF3 hn3 hS3=>?_
  generalize hC:σ1.n=C at hS2 hS3 hF3 hn2
  have hF13:Frm σ1 σ3 NoB:=hF2.fresh hF3 fun j hj h=>by omega
  have hF03:=hF1.seq hF13
  have hS13:=hF13.stN hS1
  have hT3:=hT1.frm hF13
  have hrow3:=hrow.later hF13
  have hS3':St σ3 C (nvC v q k):=hS3
  rw [aE hS3' rfl]
  simp only [wpS]
  rw [aC]
  have hb:=hbl (m+1)
  by_cases h22:v.x.k=22
  ·have eb:bH N (m+1) p=[v.x.nm]:=by
    rw [bH,hv]
    simp only
    rw [if_pos h22]
   rw [if_pos (by simpa using h22),aE hS3' rfl]
   simp only [wpS]
   rw [aZ,cV]
   simp only [wpS]
   rw [eb]
   refine ⟨_,rfl,σ3.n,_,1,rfl,.inr ⟨0,1,rfl,Row.new σ3 1 [cW v.x.nm] 1 (by decide) rfl (by intro y hy;simp at hy;subst hy;rfl)⟩,fun _=>by have:=hF03.n;omega,hF03.seq (Frm.new _ _ _ _)⟩
  have eb:bH N (m+1) p=v.kids.flatMap fun k=>if p<k∧k<N.length∧v.x.k=26 then bH N m k else []:=by
   rw [bH,hv]
   simp only
   rw [if_neg h22]
  rw [if_neg (by simpa using h22),eb,aE hS3' rfl]
  simp only [wpS]
  rw [eb] at hb
  rw [aC]
  by_cases h26:v.x.k=26
  case neg=>
   have e0:(v.kids.flatMap fun k=>if p<k∧k<N.length∧v.x.k=26 then bH N m k else [])=[]:=by
    rw [List.flatMap_eq_nil_iff]
    intro k _
    rw [if_neg fun h=>h26 h.2.2]
   rw [if_neg (by simpa using h26)]
   simp only [wpS,T35k2]
   rw [e0]
   exact ⟨_,rfl,0,none,0,rfl,.inl ⟨rfl,rfl,rfl⟩,fun h=>absurd rfl h,hF03⟩
  generalize hg:(fun k=>if p<k∧k<N.length∧v.x.k=26 then bH N m k else [])=g at hb
  have hpre:∀ j,((v.kids.take j).flatMap g).length≤(v.kids.flatMap g).length:=fun j=>by
   conv=>rhs;rw [←List.take_append_drop j v.kids,List.flatMap_append,List.length_append]
   omega
  rw [if_pos (by simpa using h26),aE hS3' (i:=4) rfl]
  simp only [wpS]
  refine Wp.count v.kids.length (fun j st σ'=>∃ rb qq kk,st=[.int .i64 ((j:Nat):Int),.slice qq ((v.kids.take j).flatMap g).length kk]∧SlV σ' rb qq kk (((v.kids.take j).flatMap g).map cW)∧(qq≠none→σ3.n≤rb)∧Frm σ3 σ' NoB)
   ⟨0,none,0,by simp,.inl ⟨rfl,rfl,by simp⟩,fun h=>absurd rfl h,Frm.refl _ _⟩ ?_ ?_
  ·rintro j st σ4 hj ⟨rb,qq,kk,rfl,hL,hrb,hF4⟩
   obtain ⟨k1,k2,b',e',k3⟩:=hkids j hj
   have ej:aO ((j:Int)+1)=((j+1:Nat):Int):=by rw [aS (by omega)];omega
   have hS14:=hF4.stN hS13
   have hT4:=hT3.frm hF4
   unfold T35b0
   simp only [wpS]
   rw [aC,if_pos (by simp;omega),aK]
   refine cR (hrow3.later hF4) hj rfl fun cs hcs=>⟨_,hcs,?_⟩
   simp only [wpS]
   have htk:(v.kids.take (j+1)).flatMap g=(v.kids.take j).flatMap g++g v.kids[j]:=by
    rw [List.take_succ_eq_append_getElem hj,List.flatMap_append]
    simp
   have eg:g v.kids[j]=bH N m v.kids[j]:=by rw [←hg];simp only;rw [if_pos ⟨k1,k2,h26⟩]
   rw [aP hS14 2 rfl]
   simp only [wpS]
   rw [aD]
   refine WpF.mono (ih v.kids[j] b' e' m σ4 k3 (by omega) hT4) ?_
   rintro _ σ5 ⟨rb2,q2,kk2,rfl,hL2,hrb2,hF5⟩
   simp only [wpS]
   have hL5:=hL.frm hF5 fun _ h=>h
   have p1:=hpre (j+1)
   rw [htk,eg,List.length_append] at p1
   rw [←eg] at hL2 ⊢
   refine wp_appR hL5 (by simp) hL2 (by simp) (by rw [eg];omega) (by rw [eg];omega) fun σ6 rb6 q6 kk6 hF6 hq6 hL6=>?_
   simp only [wpS,T35k0,ej]
   have hF46:Frm σ3 σ6 NoB:=(hF4.seq hF5).trans hF6 (fun _ _ h=>h) fun i hi h=>by have:=hrb h.1;omega
   refine ⟨rb6,q6,kk6,?_,?_,?_,hF46⟩
   ·rw [htk,List.length_append]
   ·rw [htk,List.map_append];exact hL6
   ·intro h
    have:=hF4.n
    have:=hF5.n
    rcases hq6 with h6|⟨h6,h7⟩|h6
    ·exact absurd h6 h
    ·have:=hrb h6;omega
    ·omega
  ·rintro st σ4 ⟨rb,qq,kk,rfl,hL,hrb,hF4⟩
   rw [List.take_length] at hL ⊢
   unfold T35b0
   simp only [wpS]
   rw [aC,if_neg (by simp)]
   simp only [wpS,T35k1,T35k2]
   exact ⟨_,rfl,rb,qq,kk,rfl,hL,fun h=>by have:=hrb h;have:=hF03.n;omega,hF03.seq hF4⟩
theorem wp_walk32 (hN:N.length≤1000):∀ (n p:Nat) (pat:Bool) (e:Nat) (σ:aB),n≤60→bT N D n p pat=some e→Ask σ A pn N cn pd D cd p→
  WpF aF ovD 32 [bU A,.bool pat,.int .i64 ((60 - n:Nat):Int)] σ fun v σ'=>v=.bool true∧Ask σ' A pn N cn pd D cd e∧Frm σ σ' (· =A):=by
 intro n
 induction n with
 |zero=>intro p pat e σ _ h;cases h
 |succ n ih=>
  intro p pat e σ hn h hA
  have hlt:=gJ h
  have hpN:p<N.length:=by omega
  obtain ⟨v,hv⟩:∃ v,N[p]?=some v:=⟨_,List.getElem?_eq_getElem hpN⟩
  have hvN:N[p]=v:=by
   rw [List.getElem?_eq_getElem hpN] at hv
   exact Option.some.inj hv
  have hkl:=qK h hv
  have hw:=h
  rw [bT,hv] at hw
  simp only at hw
  split at hw
  case isFalse=>cases hw
  rename_i hc
  obtain ⟨hsh,hpt,hcon⟩:=hc
  obtain ⟨e1,hkw,hw⟩:=aQ hw
  split at hw
  ·cases hw
  obtain rfl:=ofS hw
  refine WpF.of (T32_eq _ _ _) rfl ?_
  have hAn:=hA.st.1
  rw [T32]
  simp only [wpS]
  rw [aE hA.st (i:=2) rfl]
  simp only [wpS]
  rw [dC,aE hA.st (v:=.slice pn N.length cn) rfl]
  simp only [wpS]
  rw [aC,if_neg (by simp;omega),aE hA.st (v:=.slice pn N.length cn) rfl]
  simp only [wpS]
  refine dN hA.tree.nodes hpN rfl fun cs hcs=>?_
  rw [hvN] at hcs
  obtain ⟨q,k,rfl,hrow,_⟩:=hcs
  simp only [wpS]
  refine aN fun σ1 hF1 hn1 hS1=>?_
  refine bD hS1 rfl rfl fun σ2 hF2 hn2 hS2=>?_
  generalize hC:σ.n=C at hS1 hS2 hF2 hn1
  have hF02:Frm σ σ2 NoB:=hF1.fresh hF2 fun j hj h=>by omega
  have hS2:St σ2 C (nvC v q k):=hS2
  clear hS1 hF1 hF2
  have hA2:=hA.frm hF02
  rw [aK,aE hS2 (i:=0) rfl]
  simp only [wpS]
  rw [aD]
  refine WpF.mono (nJ _) ?_
  rintro _ _ ⟨rfl,rfl⟩
  simp only [wpS]
  have epat:decide (21≤v.x.k∧v.x.k≤26)=pat:=by
   have h26:v.x.k≤26:=by
    unfold bS at hsh
    simp only [Bool.and_eq_true,decide_eq_true_eq] at hsh
    exact hsh.1.1.1.1.2
   rw [←hpt]
   by_cases h21:v.x.k>20
   ·rw [decide_eq_true h21,decide_eq_true ⟨by omega,h26⟩]
   ·rw [decide_eq_false h21,decide_eq_false (by omega)]
  rw [epat]
  rw [aC,if_pos (by simp),aZ,show aadd ⟨A,0,some 0⟩ 0=⟨A,0,some 0⟩ from rfl,hA2.st.ldN (off:=0) (k:=2) (by simp)]
  simp only [wpS,List.drop_zero,List.take_succ_cons,List.take_zero]
  rw [aP hS2 7 rfl]
  simp only [nvC,wpS]
  rw [aD]
  refine WpF.mono (wp_alone62 hA2.tree hA2.dl hA2.cl q k hsh (by omega) hcon) ?_
  rintro _ σ3 ⟨rfl,hF3⟩
  have hS3:=hF3.stN hS2
  have hA3:=hA2.frm hF3
  have hF03:=hF02.seq hF3
  have hCA:C≠A:=by omega
  simp only [wpS,T32k3,Bool.not_true]
  rw [aC,if_neg (by simp),aE hA3.st (i:=2) rfl]
  simp only [wpS]
  have ep:aO (((p:Nat):Int)+1)=((p+1:Nat):Int):=by rw [aS (by omega)];omega
  have ed:aO (((60 - (n+1):Nat):Int)+1)=((60 - n:Nat):Int):=by rw [aS (by omega)];omega
  rw [ep]
  refine bP hA3.st (by simp) rfl fun σ4 hF4 hn4 hS4=>?_
  have hA4:Ask σ4 A pn N cn pd D cd (p+1):=hA3.bump hF4 hS4
  have hSC4:=hF4.st hS3 hCA
  have hrow4:aT σ4 (· =A) 1 natR q v.kids:=(hrow.later hF03).step (Y':=(· =A)) hF4 (fun _ _ h=>h) (fun _ _ h=>h) fun _ _ h=>h
  have hF04:Frm σ σ4 (· =A):=(hF03.mono fun _ _ h=>h.elim).trans hF4 (fun _ _ h=>h) fun _ _ h=>h
  clear hA3 hS3 hA2 hS2 hF3 hF4 hF03 hF02
  rw [aE hSC4 (i:=4) (v:=.slice q v.kids.length k) rfl]
  simp only [wpS]
  generalize hR:(fun i=>pat||(decide (v.x.k=11)&&decide (i % 2=1)))=pt at hkw
  refine Wp.count v.kids.length (fun j st σ'=>∃ next,st=[.int .i64 ((j:Nat):Int),.bool false]∧Ask σ' A pn N cn pd D cd next∧eV (bT N D n) pt (v.kids.drop j) j next=some e∧Frm σ4 σ' (· =A))
   ⟨p+1,rfl,hA4,by rw [List.drop_zero];exact hkw,Frm.refl _ _⟩ ?_ ?_
  ·rintro j st σ5 hj ⟨next,rfl,hA5,hk5,hF5⟩
   have ej:aO ((j:Int)+1)=((j+1:Nat):Int):=by rw [aS (by omega)];omega
   have hSC5:=hF5.st hSC4 hCA
   have hrow5:=hrow4.step (Y':=(· =A)) hF5 (fun _ _ h=>h) (fun _ _ h=>h) fun _ _ h=>h
   rw [List.drop_eq_getElem_cons hj,eV] at hk5
   split at hk5
   case isFalse=>cases hk5
   rename_i hnx
   obtain ⟨e2,hw2,hk5⟩:=aQ hk5
   unfold T32b0
   simp only [wpS]
   rw [aC,if_pos (by simp;omega),aK]
   refine cR hrow5 hj rfl fun cs hcs=>⟨_,hcs,?_⟩
   simp only [wpS]
   rw [aE hA5.st (i:=2) rfl]
   simp only [wpS]
   rw [aC,if_pos (by rw [hnx];simp),ed]
   have back:∀ (b:Bool),b=pt j→Wp aF ovD (.call 32 [.pointer (some ⟨A,0,some 0⟩),.bool b,.int .i64 ((60 - n:Nat):Int)] fun v=>eR v fun b124=>.ret .normal [.bool (!b124)]) σ5 fun e_1 vs σ'=>Wp aF ovD (T32k0 false e_1 vs) σ' fun e_1 vs σ'=>Wp aF ovD (T32k1 ((j:Nat):Int) e_1 vs) σ' fun e_1 st' σ'=>match e_1 with
     | .normal=>∃ next,st'=[.int .i64 ((j+1:Nat):Int),.bool false]∧Ask σ' A pn N cn pd D cd next∧eV (bT N D n) pt (v.kids.drop (j+1)) (j+1) next=some e∧Frm σ4 σ' (· =A)
     |e_2=>Wp aF ovD (T32k2 e_2 st') σ' fun _ vs σ'=>∃ w,vs=[w]∧w=.bool true∧Ask σ' A pn N cn pd D cd e∧Frm σ σ' (· =A):=by
    rintro b rfl
    rw [aD]
    refine WpF.mono (ih next (pt j) e2 σ5 (by omega) hw2 hA5) ?_
    rintro _ σ6 ⟨rfl,hA6,hF6⟩
    simp only [wpS,T32k0,Bool.not_true]
    rw [aC,if_neg (by simp)]
    simp only [wpS,T32k1,ej]
    exact ⟨e2,trivial,hA6,hk5,hF5.trans hF6 (fun _ _ h=>h) fun _ _ h=>h⟩
   rw [aC]
   cases pat with
   |true=>
    rw [if_neg (by simp)]
    exact back true (by rw [←hR];simp)
   |false=>
    rw [if_pos (by rfl),aE hSC5 (i:=0) rfl]
    simp only [wpS]
    rw [aC]
    by_cases h11:v.x.k=11
    ·rw [if_pos (by simpa using h11),aD]
     refine WpF.of (T36_eq _) rfl ?_
     rw [T36]
     simp only [wpS]
     refine ⟨_,rfl,?_⟩
     simp only [wpS]
     refine back _ ?_
     rw [←hR,Int.tmod_eq_emod_of_nonneg (by omega)]
     simp only [Bool.false_or,h11,decide_true,Bool.true_and]
     by_cases h2:j % 2=1
     ·rw [decide_eq_true h2,beq_iff_eq];omega
     ·rw [decide_eq_false h2,beq_eq_false_iff_ne];omega
    ·rw [if_neg (by simpa using h11)]
     exact back false (by rw [←hR];simp [h11])
  ·rintro st σ5 ⟨next,rfl,hA5,hk5,hF5⟩
   rw [List.drop_length,eV] at hk5
   obtain rfl:=ofS hk5
   unfold T32b0
   simp only [wpS]
   rw [aC,if_neg (by simp)]
   simp only [wpS,T32k2]
   exact ⟨_,rfl,rfl,hA5,hF04.trans hF5 (fun _ _ h=>h) fun _ _ h=>h⟩
end
end Go.Pg
namespace Go.Pg
open Go.Proofs Go.Utf8 Go.Lib
set_option linter.unusedSimpArgs false
def eK (n:Nat) (L:List (List Int)):List (List Int):=L.map fun r=>r.take n++List.replicate (n - r.length) (-1)
theorem wideC_len {n:Nat} {L:List (List Int)}:∀ y∈eK n L,y.length=n:=by
 intro y hy
 obtain ⟨r,_,rfl⟩:=List.mem_map.1 hy
 rw [List.length_append,List.length_take,List.length_replicate]
 omega
theorem wideC_same {n:Nat} {L:List (List Int)} (h:∀ r∈L,r.length=n):eK n L=L:=by
 unfold eK
 rw [List.map_congr_left (g:=id)]
 ·simp
 ·intro r hr
  rw [List.take_of_length_le (by rw [h r hr];exact Nat.le_refl _),h r hr,Nat.sub_self]
  simp
section
variable {σ σ':aB} {Y:Nat→Prop} {q:Option Addr} {k:Nat} {L:List (List Int)}
theorem RI.take {l:List Int} (h:RI σ Y q k l) (m:Nat):RI σ Y q k (l.take m):=
 ⟨fun i hi=>by
  have hi2:i<l.length:=by rw [List.length_take] at hi;omega
  obtain ⟨x,cs,h1,h2,h3,h4⟩:=h.row i hi2
  exact ⟨x,cs,h1,h2,h3,by rw [List.getElem_take];exact h4⟩,h.emp,by rw [List.length_take];have:=h.cap;omega,h.may⟩
theorem minV_nat (a b:Nat):minV ((a:Nat):Int) ((b:Nat):Int)=((min a b:Nat):Int):=by
 unfold minV
 by_cases h:a≤b
 ·rw [if_neg (by omega),Nat.min_eq_left h]
 ·rw [if_pos (by omega),Nat.min_eq_right (Nat.le_of_not_le h)]
theorem wp_wide23 (n:Nat) (hn:n≤1000000) (hL:aT σ Y 1 (rwR σ Y) q L) (hl:L.length≤1000000):
  WpF aF ovD 23 [.slice q L.length k,.int .i64 ((n:Nat):Int)] σ fun v σ'=>∃ q' k',v=.slice q' L.length k'∧aT σ' (fun j=>j<σ.n) 1 (rwR σ' (fun j=>j<σ.n)) q' (eK n L)∧Frm σ σ' NoB:=by
 refine WpF.of (T23_eq _ _ _ _) rfl ?_
 rw [T23]
 refine Wp.count L.length (fun i st σ'=>∃ p c rb css,st=[.int .i64 ((i:Nat):Int),.slice p i c]∧Frm σ σ' NoB∧GR rwR 1 σ' (fun j=>j<σ.n) rb (eK n (L.take i)) css p c)
  ⟨none,0,0,[],rfl,Frm.refl _ _,.zero⟩ ?_ ?_
 ·rintro i st σ1 hi ⟨p,c,rb,css,rfl,hF1,hG1⟩
  have ei:aO ((i:Int)+1)=((i+1:Nat):Int):=by rw [aS (by omega)];omega
  have hil:(eK n (L.take i)).length=i:=by unfold eK;rw [List.length_map,List.length_take];omega
  have hstep:eK n (L.take (i+1))=eK n (L.take i)++[L[i].take n++List.replicate (n - L[i].length) (-1)]:=by
   unfold eK
   rw [List.take_succ_eq_append_getElem hi,List.map_append]
   try rfl
  unfold T23b1
  simp only [wpS]
  rw [aC,if_pos (by simp;omega),aK]
  refine cR (hL.frmM bO hF1) hi rfl fun cs hcs=>?_
  generalize L[i]=r at hcs hstep
  obtain ⟨qr,kr,rfl,hRI⟩:=hcs
  have hcap:=hRI.cap
  refine ⟨_,rfl,?_⟩
  simp only [wpS]
  rw [aZ,cV]
  simp only [wpS,minV_nat]
  have hF2:Frm σ1 (σ1.newBlk [] 1) NoB:=Frm.new _ _ _ _
  have hR2:Row (σ1.newBlk [] 1) σ1.n 0 1 0 1 []:=Row.new σ1 1 [] 0 (by decide) rfl (by simp)
  generalize σ1.newBlk [] 1=σ2 at hF2 hR2 ⊢
  rw [aV]
  refine ⟨by simp;omega,?_⟩
  rw [Int.toNat_natCast]
  have hT:=(hRI.frm hF2).take (min r.length n)
  have hn1:=hF1.n
  have hn2:=hF2.n
  refine sJ (b:=σ1.n) (xs:=[]) (ys:=(r.take (min r.length n)).map sF) (.inr ⟨0,1,rfl,hR2⟩) rfl (hT.row.src (fun _ _ h=>h) hT.emp) (by rw [List.length_map,List.length_take];omega) (by intro y hy;obtain ⟨j,_,rfl⟩:=List.mem_map.1 hy;rfl) (by omega) (by omega) fun σ3 b3 p3 c3 hF3 hb3 hO3=>?_
  rw [Nat.zero_add]
  have etake:r.take (min r.length n)=r.take n:=by
   rw [←List.take_take]
   by_cases h:r.length≤n
   ·rw [List.take_of_length_le h,List.take_length]
   ·rw [List.take_take,Nat.min_eq_right (by omega)]
  have hF13:Frm σ1 σ3 NoB:=hF2.fresh hF3 fun j hj h=>by omega
  have hb3n:p3≠none→σ1.n≤b3:=fun h=>by
   rcases hb3 with h2|⟨_,h2⟩|h2
   ·exact absurd h2 h
   ·omega
   ·omega
  rw [List.nil_append,etake] at hO3
  refine Wp.count (n - r.length) (fun t st σ'=>∃ po c b,st=[.slice po (min r.length n+t) c]∧Frm σ3 σ' (fun j=>p3≠none∧j=b3)∧SlV σ' b po c ((r.take n++List.replicate t (-1)).map sF)∧(po≠none→σ1.n≤b)∧(po≠none→(p3≠none∧b=b3)∨σ3.n≤b)) ⟨p3,c3,b3,rfl,Frm.refl _ _,by simpa using hO3,hb3n,fun h=>.inl ⟨h,rfl⟩⟩ ?_ ?_
  ·rintro t st σ4 ht ⟨po,c4,b4,rfl,hF4,hO4,hb4,hb4'⟩
   unfold T23b0
   simp only [wpS]
   rw [aC,if_pos (by simp;omega),aK]
   refine wp_app1 hO4 (by rw [List.length_map,List.length_append,List.length_take,List.length_replicate];omega) rfl (by omega) (by omega) fun σ5 b5 off5 s5 c5 hF5 hb5 hO5=>?_
   simp only [wpS,T23k0]
   have hn4:=hF4.n
   refine ⟨_,c5,b5,by rw [Nat.add_assoc],hF4.trans hF5 (fun _ _ h=>h) ?_,.inr ⟨off5,s5,rfl,?_⟩,fun _=>?_,fun _=>?_⟩
   ·rintro j hj ⟨h1,h2⟩
    rcases hb4' h1 with ⟨h3,h4⟩|h3
    ·exact ⟨h3,by omega⟩
    ·omega
   ·rw [List.replicate_succ',←List.append_assoc,List.map_append]
    exact hO5
   ·have:=hF13.n
    rcases hb5 with ⟨h1,h2⟩|h1
    ·have:=hb4 h1;omega
    ·omega
   ·rcases hb5 with ⟨h1,h2⟩|h1
    ·rw [h2];exact hb4' h1
    ·exact .inr (by omega)
  ·rintro st σ4 ⟨po,c4,b4,rfl,hF4,hO4,hb4,_⟩
   unfold T23b0
   simp only [wpS]
   rw [aC,if_neg (by simp;omega)]
   simp only [wpS,T23k1]
   have hF14:Frm σ1 σ4 NoB:=hF13.fresh hF4 fun j hj h=>by have:=hb3n h.1;omega
   have hG4:=hG1.frmN bO hF14
   have hlen:min r.length n+(n - r.length)=(r.take n++List.replicate (n - r.length) (-1)).length:=by rw [List.length_append,List.length_take,List.length_replicate];omega
   rw [hlen]
   have hb:rwR σ4 (fun j=>j<σ.n∨p≠none∧j=rb) [.slice po (r.take n++List.replicate (n - r.length) (-1)).length c4] (r.take n++List.replicate (n - r.length) (-1)):=by
    refine ⟨po,c4,rfl,RI.own hO4 fun h h2=>?_⟩
    have h3:=hb4 h
    rcases h2 with h2|⟨h2,h4⟩
    ·omega
    ·have:=hG1.lt h2;omega
   have hadd:=lF (P:=aF) (ov:=ovD) (byt:=24) (Q:=fun e vs σ'=>Wp aF ovD (T23k2 ((i:Nat):Int) e vs) σ' fun e st' σ'=>match e with
    | .normal=>∃ p c rb css,st'=[.int .i64 ((i+1:Nat):Int),.slice p (i+1) c]∧Frm σ σ' NoB∧GR rwR 1 σ' (fun j=>j<σ.n) rb (eK n (L.take (i+1))) css p c
    |e=>Wp aF ovD (T23k3 e st') σ' fun _ vs σ'=>∃ v,vs=[v]∧∃ q' k',v=.slice q' L.length k'∧aT σ' (fun j=>j<σ.n) 1 (rwR σ' (fun j=>j<σ.n)) q' (eK n L)∧Frm σ σ' NoB) bO (fun j h=>by have:=hF14.n;omega) hG4 (by decide) (by decide) rfl (by intro y hy;simp at hy;subst hy;rfl) hb (by omega) (by decide)
    (g:=fun p' n' c'=>.ret .normal [.slice p' n' c']) fun σ5 rb5 p5 c5 hF5 hrb5 hG5=>by
     simp only [wpS,T23k2,ei]
     rw [hil,hstep]
     exact ⟨some p5,c5,rb5,_,rfl,(hF1.seq hF14).fresh hF5 fun j hj h=>absurd hj (hG1.hr h.1 |> fun h2=>by rw [h.2];exact h2),hG5⟩
   rw [hil] at hadd
   exact hadd
 ·rintro st σ1 ⟨p,c,rb,css,rfl,hF1,hG1⟩
  rw [List.take_length] at hG1
  unfold T23b1
  simp only [wpS]
  rw [aC,if_neg (by simp)]
  simp only [wpS,T23k3]
  exact ⟨_,rfl,p,c,rfl,hG1.close bO (by decide),hF1⟩
end
structure iL (σ:aB) (Y:Nat→Prop) (pn:Option Addr) (N:List NV) (pd:Option Addr) (D:List Dc):Prop where
 tree:dF σ Y pn N pd D
 nl:N.length≤1000000
 dl:D.length≤1000000
 cl:∀ d∈D,d.cons.length≤1000000
 kl:∀ v∈N,v.kids.length≤1000000
 al:∀ d∈D,∀ c∈d.cons,c.args.length≤1000000
section
variable {σ σ':aB} {Y:Nat→Prop} {N:List NV} {D:List Dc} {pn pd:Option Addr} {cn cd:Nat} {q:Option Addr} {k:Nat} {L:List (List Int)}
theorem iL.step {S Y':Nat→Prop} (h:iL σ Y pn N pd D) (f:Frm σ σ' S) (hS:∀ j,j<σ.n→S j→Y j) (hY:∀ j,j<σ.n→Y' j→Y j):iL σ' Y' pn N pd D:=⟨h.tree.step f hS hY,h.nl,h.dl,h.cl,h.kl,h.al⟩
theorem iL.frm (h:iL σ Y pn N pd D) (f:Frm σ σ' NoB):iL σ' Y pn N pd D:=⟨h.tree.frm f,h.nl,h.dl,h.cl,h.kl,h.al⟩
theorem wp_Useful17 (h:iL σ Y pn N pd D) (hL:aT σ Y 1 (rwR σ Y) q L) (hl:L.length≤1000000) {q2:Option Addr} {k2:Nat} {row:List Int} (hR:RI σ Y q2 k2 row) (hr:row.length≤1000000):
  WpF aF ovD 17 [trV pn N.length cn pd D.length cd,.slice q L.length k,.slice q2 row.length k2] σ fun v σ'=>v=.bool (bQ N D 10001 (eK row.length L) row 0).1∧Frm σ σ' NoB:=by
 refine WpF.of (T17_eq _ _ _ _ _ _ _ _ _ _ _ _) rfl ?_
 rw [T17]
 refine aN fun σ1 hF1 hn1 hS1=>?_
 rw [aP hS1 2 rfl]
 simp only [wpS]
 refine aN fun σ2 hF2 hn2 hS2=>?_
 generalize hA:σ1.n=A at hS2
 have hF02:=hF1.seq hF2
 rw [aD]
 refine WpF.mono (wp_wide23 row.length hr (hL.frmM bO hF02) hl) ?_
 rintro _ σ3 ⟨q3,k3,rfl,hL3,hF3⟩
 simp only [wpS]
 have hF03:=hF02.seq hF3
 have hA2:A<σ2.n:=hS2.1
 have h3:Ask σ3 A pn N cn pd D cd 0:=⟨hF3.stN hS2,h.tree.step (S:=NoB) hF03 (fun _ _ h=>h.elim) fun j hj h=>by omega,h.nl,h.dl,h.cl,h.kl,h.al⟩
 have hL3':aT σ3 (· =A) 1 (rwR σ3 (· =A)) q3 (eK row.length L):=by
  have hy:∀ j,j<σ3.n→j=A→j<σ2.n:=fun j _ h=>by omega
  exact aT.step (S:=NoB) (Frm.refl _ _) (fun _ _ h=>h.elim) hy (fun _ _ h=>bO _ _ _ _ _ _ _ (Frm.refl _ NoB) (fun _ _ h=>h.elim) hy h) hL3
 have hR3:RI σ3 (· =A) q2 k2 row:=hR.step (S:=NoB) hF03 (fun _ _ h=>h.elim) fun j hj h=>by omega
 have hwl:(eK row.length L).length=L.length:=by unfold eK;rw [List.length_map]
 rw [aD]
 have key:=wp_useful24 10001 (eK row.length L) row 0 σ3 q3 k3 q2 k2 (by omega) (by omega) (by omega) (by omega) h3 hL3' hR3 (by rw [hwl];exact hl) wideC_len (by omega)
 rw [hwl] at key
 refine WpF.mono key ?_
 rintro _ σ4 ⟨rfl,_,hF4⟩
 simp only [wpS]
 exact ⟨_,rfl,rfl,hF03.fresh hF4 fun j hj h=>by omega⟩
def allC (N:List NV) (D:List Dc) (L:List (List Int)):Bool:=match L with
 |[]=>false
 |r::_=>let u:=bQ N D 10001 (eK r.length L) (List.replicate r.length (-1)) 0;!u.1&&decide (u.2≤10000)
theorem wp_All11 (h:iL σ Y pn N pd D) (hL:aT σ Y 1 (rwR σ Y) q L) (hl:L.length≤1000000) (hr:∀ r∈L,r.length≤1000000):
  WpF aF ovD 11 [trV pn N.length cn pd D.length cd,.slice q L.length k] σ fun v σ'=>v=.bool (allC N D L)∧Frm σ σ' NoB:=by
 refine WpF.of (T11_eq _ _ _ _ _ _ _ _ _) rfl ?_
 rw [T11]
 refine aN fun σ1 hF1 hn1 hS1=>?_
 rw [aC]
 cases L with
 |nil=>
  rw [if_pos (by rfl)]
  simp only [wpS]
  exact ⟨_,rfl,rfl,hF1⟩
 |cons r L=>
 rw [if_neg (by simp;omega),aP hS1 2 rfl]
 simp only [wpS]
 refine aN fun σ2 hF2 hn2 hS2=>?_
 generalize hA:σ1.n=A at hS2
 have hF02:=hF1.seq hF2
 have hA2:A<σ2.n:=hS2.1
 have hL2:=hL.frmM bO hF02
 have hrl:=hr r (by simp)
 obtain ⟨x,cs,rfl,_,h3,h4⟩:=hL2 0 (by simp)
 obtain ⟨qr,kr,rfl,hRI⟩:=h4
 simp only [wpS]
 rw [aV]
 refine ⟨by simp,?_⟩
 have e0:ld1 (aadd x 0) σ2=some (.slice qr r.length kr,σ2):=by
  unfold ld1
  rw [show aadd x 0=aadd x (0*1) from rfl,h3]
  try rfl
 rw [aZ,e0]
 simp only [wpS]
 rw [aZ,cV]
 simp only [wpS]
 have hFn:Frm σ2 (σ2.newBlk [.slice none 0 0] 1) NoB:=Frm.new _ _ _ _
 have hRn:Row (σ2.newBlk [.slice none 0 0] 1) σ2.n 0 1 1 1 [.slice none 0 0]:=Row.new σ2 1 [.slice none 0 0] 1 (by decide) rfl (by simp [one])
 generalize σ2.newBlk [.slice none 0 0] 1=σ3 at hFn hRn ⊢
 have hL3:aT σ3 (fun j=>j<σ2.n) 1 (rwR σ3 (fun j=>j<σ2.n)) (some ⟨σ2.n,0,some 1⟩) [[]]:=
  aT.own (css:=[[.slice none 0 0]]) hRn (by omega) rfl (by simp) fun i h1 h2=>by
   have:i=0:=by simpa using h1
   subst this
   exact ⟨none,0,rfl,RI.nil⟩
 rw [aD]
 refine WpF.mono (wp_wide23 (L:=[[]]) r.length hrl hL3 (by simp)) ?_
 rintro _ σ4 ⟨q4,k4,rfl,hL4,hF4⟩
 simp only [wpS]
 have ew:eK r.length [[]]=[List.replicate r.length (-1)]:=by simp [eK]
 rw [ew] at hL4
 obtain ⟨x4,cs4,rfl,_,h5,h6⟩:=hL4 0 (by simp)
 simp only [List.getElem_cons_zero] at h6
 obtain ⟨q5,k5,rfl,hRI5⟩:=h6
 simp only [wpS]
 rw [aV]
 refine ⟨by simp,?_⟩
 have e5:ld1 (aadd x4 0) σ4=some (.slice q5 (List.replicate r.length (-1:Int)).length k5,σ4):=by
  unfold ld1
  rw [show aadd x4 0=aadd x4 (0*1) from rfl,h5]
 rw [aZ,e5]
 simp only [wpS]
 rw [aD]
 have hF04:=(hF02.seq hFn).seq hF4
 refine WpF.mono (wp_wide23 r.length hrl (hL.frmM bO hF04) hl) ?_
 rintro _ σ6 ⟨q6,k6,rfl,hL6,hF6⟩
 simp only [wpS]
 have hF06:=hF04.seq hF6
 have hF26:=(hFn.seq hF4).seq hF6
 have hn26:=hF26.n
 have hn24:=(hFn.seq hF4).n
 have h6a:Ask σ6 A pn N cn pd D cd 0:=⟨hF26.stN hS2,h.tree.step (S:=NoB) hF06 (fun _ _ h=>h.elim) fun j hj h=>by omega,h.nl,h.dl,h.cl,h.kl,h.al⟩
 have hL6':aT σ6 (· =A) 1 (rwR σ6 (· =A)) q6 (eK r.length (r::L)):=by
  have hy:∀ j,j<σ6.n→j=A→j<σ4.n:=fun j _ h=>by omega
  exact aT.step (S:=NoB) (Frm.refl _ _) (fun _ _ h=>h.elim) hy (fun _ _ h=>bO _ _ _ _ _ _ _ (Frm.refl _ NoB) (fun _ _ h=>h.elim) hy h) hL6
 have hR6:RI σ6 (· =A) q5 k5 (List.replicate r.length (-1)):=hRI5.step (S:=NoB) hF6 (fun _ _ h=>h.elim) fun j hj h=>by have:=hFn.n;show j<σ3.n;omega
 have hwl:(eK r.length (r::L)).length=(r::L).length:=by unfold eK;rw [List.length_map]
 rw [aD]
 have key:=wp_useful24 10001 (eK r.length (r::L)) (List.replicate r.length (-1)) 0 σ6 q6 k6 q5 k5 (by omega) (by omega) (by omega) (by omega) h6a hL6' hR6 (by rw [hwl];exact hl) (fun y hy=>by rw [List.length_replicate];exact wideC_len y hy) (by rw [List.length_replicate];omega)
 rw [hwl] at key
 refine WpF.mono key ?_
 rintro _ σ7 ⟨rfl,h7,hF7⟩
 simp only [wpS]
 have hF07:Frm σ σ7 NoB:=hF06.fresh hF7 fun j hj h=>by omega
 have ha:allC N D (r::L)=(!(bQ N D 10001 (eK r.length (r::L)) (List.replicate r.length (-1)) 0).1&&decide ((bQ N D 10001 (eK r.length (r::L)) (List.replicate r.length (-1)) 0).2≤10000)):=rfl
 generalize bQ N D 10001 (eK r.length (r::L)) (List.replicate r.length (-1)) 0=u at h7 ha
 obtain ⟨u1,u2⟩:=u
 rw [aC]
 cases u1 with
 |true=>
  rw [if_neg (by simp)]
  simp only [wpS,T11k0]
  exact ⟨_,rfl,by rw [ha];rfl,hF07⟩
 |false=>
  rw [if_pos (by rfl),aE h7.st (v:=.int .i64 ((u2:Nat):Int)) rfl]
  simp only [wpS,T11k0]
  refine ⟨_,rfl,?_,hF07⟩
  rw [ha]
  simp only [Bool.not_false,Bool.true_and]
  congr 1
  exact decide_eq_decide.2 (by omega)
end
end Go.Pg
namespace Go.Pg
section
variable {N:List NV} {D:List Dc}
theorem kidsW_at {q:Nat→Bool→Option Nat} {R:Nat→Nat→Prop} (hq:∀ p b e,q p b=some e→p<e∧∀ i,p≤i→i<e→R i e) (hR:∀ i a b,R i a→a≤b→R i b) (pat:Nat→Bool):
  ∀ (l:List Nat) (i next e:Nat),eV q pat l i next=some e→next≤e∧∀ j,next≤j→j<e→R j e
 |[],i,next,e,h=>by
  cases ofS h
  exact ⟨Nat.le_refl _,fun j h1 h2=>by omega⟩
 |k::l,i,next,e,h=>by
  rw [eV] at h
  split at h
  ·rename_i hk
   subst hk
   obtain ⟨a,h1,h⟩:=aQ h
   obtain ⟨p1,p2⟩:=hq _ _ _ h1
   obtain ⟨q1,q2⟩:=kidsW_at hq hR pat l (i+1) a e h
   refine ⟨by omega,fun j h3 h4=>?_⟩
   by_cases h5:j<a
   ·exact hR _ _ _ (p2 j h3 h5) q1
   ·exact q2 j (by omega) h4
  ·cases h
theorem walk_at:∀ (n p:Nat) (pat:Bool) (e:Nat),bT N D n p pat=some e→p<e∧∀ i,p≤i→i<e→∃ m b e',e'≤e∧bT N D m i b=some e'
 |0,_,_,_,h=>by cases h
 |n+1,p,pat,e,h=>by
  have h0:=h
  rw [bT] at h
  split at h
  ·cases h
  ·rename_i v hv
   split at h
   ·rename_i hs
    obtain ⟨a,h1,h⟩:=aQ h
    split at h
    ·cases h
    ·have hx:=ofS h
     subst hx
     obtain ⟨q1,q2⟩:=kidsW_at (R:=fun i e=>∃ m b e',e'≤e∧bT N D m i b=some e') (walk_at n) (fun i a b ⟨m,c,e',h1,h2⟩ h3=>⟨m,c,e',by omega,h2⟩) _ _ _ _ _ h1
     refine ⟨by omega,fun i h2 h3=>?_⟩
     by_cases h4:i=p
     ·subst h4
      exact ⟨n+1,pat,_,Nat.le_refl _,h0⟩
     ·exact q2 i (by omega) h3
   ·cases h
end
end Go.Pg
namespace Go.Pg
open Go.Proofs Go.Utf8 Go.Lib
set_option linter.unusedSimpArgs false
theorem tG:∀ l:List (List UInt8),cM l=false↔l.Nodup
 |[]=>by simp [cM]
 |s::l=>by
  rw [cM,Bool.or_eq_false_iff,tG l,List.nodup_cons]
  constructor
  ·rintro ⟨h1,h2⟩
   exact ⟨fun h=>(by rw [List.contains_iff_mem.2 h] at h1;cases h1),h2⟩
  ·rintro ⟨h1,h2⟩
   exact ⟨by rw [Bool.eq_false_iff];exact fun h=>h1 (List.contains_iff_mem.1 h),h2⟩
theorem sub_flatMap {α β:Type} (f:α→List β) {a:α}:∀ {l:List α},a∈l→(f a).Sublist (l.flatMap f)
 |x::l,h=>by
  rw [List.flatMap_cons]
  rcases List.mem_cons.1 h with rfl|h
  ·exact List.sublist_append_left _ _
  ·exact (sub_flatMap f h).trans (List.sublist_append_right _ _)
section
variable {N:List NV} {D:List Dc}
theorem binds_fuel:∀ (m m' p:Nat),N.length≤m+p→N.length≤m'+p→bH N m p=bH N m' p
 |0,0,_,_,_=>rfl
 |0,m'+1,p,h,_=>by rw [bH,bH,List.getElem?_eq_none (by omega)]
 |m+1,0,p,_,h=>by rw [bH,bH,List.getElem?_eq_none (by omega)]
 |m+1,m'+1,p,h,h'=>by
  rw [bH,bH]
  cases hv:N[p]? with
  |none=>rfl
  |some v=>
   simp only
   split
   ·rfl
   ·congr 1
    funext k
    split
    ·rename_i hk
     exact binds_fuel m m' k (by omega) (by omega)
    ·rfl
theorem kidsW_idx {q:Nat→Bool→Option Nat} (hq:∀ p b e,q p b=some e→p<e) (pat:Nat→Bool):∀ (l:List Nat) (i next e:Nat),eV q pat l i next=some e→∀ x,next≤x→x<e→∃ j,∃ hj:j<l.length,∃ e',q l[j] (pat (i+j))=some e'∧l[j]≤x∧x<e'
 |[],i,next,e,h,x,h1,h2=>by
  cases ofS h
  omega
 |k::l,i,next,e,h,x,h1,h2=>by
  rw [eV] at h
  split at h
  ·rename_i hk
   obtain ⟨a,ha,h⟩:=aQ h
   by_cases hx:x<a
   ·exact ⟨0,by simp,a,by rw [List.getElem_cons_zero,hk];exact ha,by rw [List.getElem_cons_zero];omega,hx⟩
   ·obtain ⟨j,hj,e',p1,p2,p3⟩:=kidsW_idx hq pat l (i+1) a e h x (by omega) h2
    refine ⟨j+1,by simpa using hj,e',?_,?_,p3⟩
    ·rw [List.getElem_cons_succ,show i+(j+1)=i+1+j by omega];exact p1
    ·rw [List.getElem_cons_succ];exact p2
  ·cases h
theorem walk_open {n p:Nat} {pat:Bool} {e:Nat} (h:bT N D (n+1) p pat=some e):∃ v,N[p]?=some v∧bS v=true∧decide (v.x.k>20)=pat∧eV (bT N D n) (fun i=>pat||(decide (v.x.k=11)&&decide (i % 2=1))) v.kids 0 (p+1)=some e∧(v.x.k=11→∀ i (hi:i<v.kids.length),i % 2=1→cM (bH N N.length v.kids[i])=false):=by
 rw [bT] at h
 split at h
 ·cases h
 rename_i v hv
 split at h
 case isFalse=>cases h
 rename_i hc
 obtain ⟨e1,hk,h⟩:=aQ h
 split at h
 ·cases h
 rename_i hno
 obtain rfl:=ofS h
 refine ⟨v,hv,hc.1,hc.2.1,hk,fun h11 i hi h2=>?_⟩
 cases ht:cM (bH N N.length v.kids[i]) with
 |false=>rfl
 |true=>exact absurd ⟨h11,i,hi,h2,by simpa [List.getD,hi] using ht⟩ hno
theorem pat_kids {v:NV} (h:bS v=true) (hk:v.x.k>20) (hl:v.kids≠[]):v.x.k=26:=by
 unfold bS at h
 simp only [Bool.and_eq_true,decide_eq_true_eq] at h
 obtain ⟨⟨⟨⟨⟨h1,h2⟩,h3⟩,_⟩,_⟩,_⟩:=h
 have hn:v.kids.length≠0:=fun h=>hl (List.eq_nil_of_length_eq_zero h)
 obtain ⟨i,hi⟩:∃ i:Nat,v.x.k=(i:Int):=⟨v.x.k.toNat,by omega⟩
 rw [hi] at h3 hk h2 ⊢
 unfold iJ at h3
 rw [Int.toNat_natCast] at h3
 have:i=21∨i=22∨i=23∨i=24∨i=25∨i=26:=by omega
 rcases this with rfl|rfl|rfl|rfl|rfl|rfl
 all_goals first
  |rfl
  |(exfalso;apply hn;simpa [fG] using h3)
theorem binds_kid {p:Nat} {v:NV} (hv:N[p]?=some v) (hk:v.x.k=26) {k:Nat} (hm:k∈v.kids) (hp:p<k) (hN:k<N.length):(bH N N.length k).Sublist (bH N N.length p):=by
 obtain ⟨m,hm1⟩:∃ m,N.length=m+1:=⟨N.length - 1,by omega⟩
 have e:bH N N.length p=v.kids.flatMap fun k=>if p<k∧k<N.length∧v.x.k=26 then bH N m k else []:=by
  conv=>lhs;rw [hm1]
  rw [bH,hv]
  simp only
  rw [if_neg (by omega)]
 rw [e,binds_fuel N.length m k (by omega) (by omega)]
 have:=sub_flatMap (fun k=>if p<k∧k<N.length∧v.x.k=26 then bH N m k else []) hm
 rwa [if_pos ⟨hp,hN,hk⟩] at this
theorem walk_pat:∀ (n p e:Nat),bT N D n p true=some e→∀ i,p≤i→i<e→(bH N N.length i).Sublist (bH N N.length p)
 |0,_,_,h,_,_,_=>by cases h
 |n+1,p,e,h,i,h1,h2=>by
  by_cases hi:i=p
  ·subst hi;exact .refl _
  have hlt:=gJ h
  obtain ⟨v,hv,hs,hk,hkw,_⟩:=walk_open h
  obtain ⟨j,hj,e',p1,p2,p3⟩:=kidsW_idx (fun p b e h=>(gJ h).1) _ _ _ _ _ hkw i (by omega) h2
  rw [Bool.true_or] at p1
  have hmem:=List.getElem_mem hj
  have hne:v.kids≠[]:=fun h=>by rw [h] at hj;exact absurd hj (Nat.not_lt_zero _)
  obtain ⟨v2,hv2,hkk⟩:=walk_node h
  rw [hv] at hv2
  cases hv2
  obtain ⟨q1,q2,_⟩:=hkk j hj
  exact (walk_pat n _ _ p1 i p2 p3).trans (binds_kid hv (pat_kids hs (by simpa using hk) hne) hmem q1 q2)
theorem walk_twice:∀ (n p e:Nat),bT N D n p false=some e→∀ i,p≤i→i<e→∀ hN:i<N.length,20<N[i].x.k→cM (bH N N.length i)=false
 |0,_,_,h,_,_,_,_,_=>by cases h
 |n+1,p,e,h,i,h1,h2,hN,hk=>by
  obtain ⟨v,hv,hs,hkp,hkw,hno⟩:=walk_open h
  have hi:i≠p:=by
   rintro rfl
   rw [List.getElem?_eq_getElem hN] at hv
   rw [Option.some.inj hv] at hk
   simp at hkp
   omega
  obtain ⟨j,hj,e',p1,p2,p3⟩:=kidsW_idx (fun p b e h=>(gJ h).1) _ _ _ _ _ hkw i (by omega) h2
  rw [Bool.false_or,Nat.zero_add] at p1
  cases hb:(decide (v.x.k=11)&&decide (j % 2=1)) with
  |false=>
   rw [hb] at p1
   exact walk_twice n _ _ p1 i p2 p3 hN hk
  |true=>
   rw [hb] at p1
   simp only [Bool.and_eq_true,decide_eq_true_eq] at hb
   have:=hno hb.1 j hj hb.2
   rw [tG] at this ⊢
   exact (walk_pat n _ _ p1 i p2 p3).nodup this
theorem GoodT.binds (g:GoodT N D) {i:Nat} (hi:i<N.length) (hk:20<N[i].x.k):cM (bH N N.length i)=false:=walk_twice _ _ _ g.walk i (Nat.zero_le _) hi hi hk
end
section
variable {σ σ':aB} {N:List NV} {D:List Dc} {Y:Nat→Prop} {pn pd:Option Addr} {cn cd:Nat}
theorem wp_Good21 (g:GoodT N D) (h:iL σ Y pn N pd D):WpF aF ovD 21 [trV pn N.length cn pd D.length cd] σ fun v σ'=>v=.bool true∧Frm σ σ' NoB:=by
 have hN:=g.most
 refine WpF.of (T21_eq _ _ _ _ _ _) rfl ?_
 rw [T21]
 refine aN fun σ1 hF1 hn1 hS1=>?_
 generalize hA:σ.n=A at hS1 hn1
 have h1:=h.frm hF1
 rw [aK,aE hS1 rfl]
 simp only [wpS]
 have hp:=g.pos
 rw [aC,if_pos (by simp;omega),aE hS1 rfl]
 simp only [wpS]
 rw [aC,if_pos (by simp;omega),aE hS1 rfl]
 simp only [wpS]
 rw [aD]
 refine WpF.mono (wp_decls31 (aT.later h1.tree.decls (Frm.refl _ _):aT σ1 Y 2 (dcR σ1 Y) pd D) g.types) ?_
 rintro _ σ2 ⟨rfl,hF2⟩
 have hS2:=hF2.stN hS1
 have h2:=h1.frm hF2
 simp only [wpS,T21k4,Bool.not_true]
 rw [aC,if_neg (by simp),aP hS2 2 rfl]
 simp only [wpS]
 refine aN fun σ3 hF3 hn3 hS3=>?_
 generalize hB:σ2.n=B at hS3 hn3
 have hS23:=hF3.stN hS2
 have h3:iL σ3 (· =B) pn N pd D:=h2.step (S:=NoB) hF3 (fun _ _ h=>h.elim) fun j hj h=>by omega
 have hA3:Ask σ3 B pn N cn pd D cd 0:=⟨hS3,h3.tree,h3.nl,h3.dl,h3.cl,h3.kl,h3.al⟩
 rw [aK,aD]
 refine WpF.mono (wp_walk32 hN 60 0 false N.length σ3 (Nat.le_refl _) g.walk hA3) ?_
 rintro _ σ4 ⟨rfl,hA4,hF4⟩
 have hF24:Frm σ2 σ4 NoB:=(hF3).fresh hF4 fun j hj h=>by omega
 have hS4:=hF24.stN hS2
 have h4:=h2.frm hF24
 simp only [wpS]
 rw [aC,if_pos (by rfl),aE hA4.st (i:=2) rfl]
 simp only [wpS]
 rw [aE hS4 (v:=.slice pn N.length cn) rfl]
 simp only [wpS,T21k3]
 rw [show (((N.length:Nat):Int) !=((N.length:Nat):Int))=false by simp,aC,if_neg (by simp),aE hS4 (v:=.slice pn N.length cn) rfl]
 simp only [wpS]
 have hF04:=(hF1.seq hF2).seq hF24
 refine Wp.count N.length (fun i st σ'=>st=[.int .i64 ((i:Nat):Int),.bool false]∧Frm σ4 σ' NoB) ⟨rfl,Frm.refl _ _⟩ ?_ ?_
 ·rintro i st σ5 hi ⟨rfl,hF5⟩
  have ei:aO ((i:Int)+1)=((i+1:Nat):Int):=by rw [aS (by omega)];omega
  have h5:=h4.frm hF5
  have hS5:=hF5.stN hS4
  unfold T21b0
  simp only [wpS]
  rw [aC,if_pos (by simp;omega),aK]
  refine dN h5.tree.nodes hi rfl fun cs hcs=>?_
  obtain ⟨q,k,rfl,hrow,_⟩:=hcs
  simp only [wpS]
  refine aN fun σ6 hF6 hn6 hS6=>?_
  refine bD hS6 rfl rfl fun σ7 hF7 hn7 hS7=>?_
  have hF57:Frm σ5 σ7 NoB:=hF6.fresh hF7 fun j hj h=>by omega
  have hS27:=hF57.stN hS5
  have h7:=h5.frm hF57
  rw [aK,aE hS7 (i:=0) rfl]
  simp only [wpS]
  rw [aD]
  refine WpF.mono (nJ _) ?_
  rintro _ _ ⟨rfl,rfl⟩
  simp only [wpS]
  rw [aC]
  by_cases hk:21≤N[i].x.k∧N[i].x.k≤26
  case neg=>
   rw [if_neg (by simp;omega)]
   simp only [wpS,T21k0]
   rw [aC,if_neg (by simp)]
   simp only [wpS,T21k1,ei]
   exact ⟨trivial,hF5.seq hF57⟩
  rw [if_pos (by simp;omega),aP hS27 2 rfl]
  simp only [wpS]
  rw [aD]
  obtain ⟨m,b',e',_,hw⟩:=(walk_at _ _ _ _ g.walk).2 i (Nat.zero_le _) hi
  refine WpF.mono (wp_binds35 hN m i b' e' N.length _ hw (by omega) h7.tree) ?_
  rintro _ σ8 ⟨rb,q8,k8,rfl,hL8,_,hF8⟩
  simp only [wpS]
  rw [aD]
  have hbl:=mF _ _ _ _ hw N.length
  have hlt:=gJ hw
  refine WpF.mono (qQ (gH hL8) (by omega) (g.binds hi (by omega))) ?_
  rintro _ σ9 ⟨rfl,hF9⟩
  simp only [wpS,T21k0]
  rw [aC,if_neg (by simp)]
  simp only [wpS,T21k1,ei]
  exact ⟨trivial,hF5.seq (hF57.seq (hF8.seq hF9))⟩
 ·rintro st σ5 ⟨rfl,hF5⟩
  unfold T21b0
  simp only [wpS]
  rw [aC,if_neg (by simp)]
  simp only [wpS,T21k2]
  exact ⟨_,rfl,rfl,hF04.seq hF5⟩
end
end Go.Pg
namespace Go.Pg
open Go.Proofs Go.Utf8 Go.Lib
set_option linter.unusedSimpArgs false
end Go.Pg
namespace Go.Pg
def Tri.bnd:Tri→Nat
 | .nil=>0
 | .node _ l r=>max 1 (max (2*l.bnd) (bif Nat.beq r.bnd 0 then 0 else 2*r.bnd+1))
theorem Tri.bnd_ok:∀ (t:Tri) (j:Nat),t.bnd≤j→t.get j=none
 | .nil,j,_=>by cases j<;>rfl
 | .node v l r,j,h=>by
  unfold Tri.bnd at h
  cases j with
  |zero=>omega
  |succ m=>
   unfold Tri.get
   simp only
   cases hm:Nat.beq (m % 2) 0 with
   |true=>
    have:m % 2=0:=Nat.eq_of_beq_eq_true hm
    exact Tri.bnd_ok l _ (by omega)
   |false=>
    have hm':m % 2≠0:=fun e=>by rw [e] at hm;cases hm
    refine Tri.bnd_ok r _ ?_
    cases hr:Nat.beq r.bnd 0 with
    |true=>
     have:=Nat.eq_of_beq_eq_true hr
     omega
    |false=>
     rw [hr] at h
     simp only [cond_false] at h
     omega
def goodR:Option (Value × aB)→Bool
 |some (.bool b,σ)=>b&&Nat.ble σ.mem.bnd σ.n
 |_=>false
def oldR (old:Addr→Option Value):Option (Value × aB)→Addr→Option Value
 |some (_,σ)=>σ.old
 |none=>old
theorem WpF.tabQ {P:Program} {ov:Ov} {tab:Tab} (ht:mJ P tab) {f:FuncId} {args:List Value} {old:Addr→Option Value} (n:Nat) (h:goodR (jU ov tab n f args (iP old))=true) (ho:oldR old (jU ov tab n f args (iP old))=old):
  WpF P ov f args (iP old) fun v σ'=>v=.bool true∧σ'.old=old∧Fresh σ':=by
 cases hx:jU ov tab n f args (iP old) with
 |none=>rw [hx] at h;cases h
 |some r=>
  obtain ⟨v,σ'⟩:=r
  rw [hx] at h ho
  refine ⟨v,σ',EvF.tab ht n hx,?_⟩
  unfold goodR at h
  split at h
  ·rename_i heq
   simp only [Option.some.injEq,Prod.mk.injEq] at heq
   obtain ⟨rfl,rfl⟩:=heq
   simp only [Bool.and_eq_true,Nat.ble_eq] at h
   exact ⟨by rw [h.1],ho,fun j hj=>Tri.bnd_ok _ _ (Nat.le_trans h.2 hj)⟩
  ·cases h
end Go.Pg
namespace Go.Pg
theorem awake8 (old:Addr→Option Value):WpF aF ovD 8 [] (iP old) fun v σ'=>v=.bool true∧σ'.old=old∧Fresh σ':=
 WpF.tabQ TAB_ok 1000000 (by kernel_rfl) (by kernel_rfl)
end Go.Pg
namespace Go.Pg
open Go.Proofs Go.Utf8 Go.Lib
set_option linter.unusedSimpArgs false
section
variable {σ:aB} {Y:Nat→Prop}
theorem wp_one {P:Program} {ov:Ov} (p:Int) {g:Option Addr→Nat→Nat→Pg} {Q:cJ} (K:∀ σ',Frm σ σ' NoB→RI σ' (fun j=>j<σ.n) (some ⟨σ.n,0,some 1⟩) 1 [p]→Wp P ov (g (some ⟨σ.n,0,some 1⟩) 1 1) σ' Q):
  Wp P ov (.act (rJ 1 1 [.int .i64 p]) fun v=>aM v g) σ Q:=by
 rw [aZ,cV]
 simp only [bK]
 exact K _ (Frm.new _ _ _ _) (RI.own (b:=σ.n) (.inr ⟨0,1,rfl,Row.new σ 1 [.int .i64 p] 1 (by decide) rfl (by simp [one])⟩) fun _ h=>by omega)
end
theorem RI.low {σ:aB} {Y:Nat→Prop} {q:Option Addr} {k:Nat} {l:List Int} (h:RI σ Y q k l):RI σ NoB q k l:=h.step (S:=NoB) (Frm.refl _ _) (fun _ _ h=>h.elim) fun _ _ h=>h.elim
theorem iL.low {σ:aB} {Y:Nat→Prop} {pn pd:Option Addr} {N:List NV} {D:List Dc} (h:iL σ Y pn N pd D):iL σ NoB pn N pd D:=h.step (S:=NoB) (Frm.refl _ _) (fun _ _ h=>h.elim) fun _ _ h=>h.elim
theorem wp_useful1 {σ:aB} {N:List NV} {D:List Dc} {pn pd:Option Addr} {cn cd:Nat} {q:Option Addr} {k:Nat} {L:List (List Int)} (h:iL σ NoB pn N pd D) (hL:aT σ NoB 1 (rwR σ NoB) q L) (hl:L.length≤1000000) (hw:∀ r∈L,r.length=1) {q2:Option Addr} {k2:Nat} {p:Int} (hR:RI σ NoB q2 k2 [p]):
  WpF aF ovD 17 [trV pn N.length cn pd D.length cd,.slice q L.length k,.slice q2 1 k2] σ fun v σ'=>v=.bool (bQ N D 10001 L [p] 0).1∧Frm σ σ' NoB:=by
 have key:=wp_Useful17 (cn:=cn) (cd:=cd) (k:=k) h hL hl hR (by simp)
 rw [show [p].length=1 from rfl,wideC_same hw] at key
 exact key
end Go.Pg
namespace Go.Pg
open Go.Proofs Go.Utf8 Go.Lib
set_option linter.unusedSimpArgs false
section
variable (N:List NV) (D:List Dc)
def mO:Bool→List Nat→List (List Int)→Except Int (List (List Int))
 |_,[],L=>.ok L
 |false,_::r,L=>mO true r L
 |true,k::r,L=>if (bQ N D 10001 L [((k:Nat):Int)] 0).1=true then mO false r (L++[[((k:Nat):Int)]]) else .error ((k:Nat):Int)
def armsR (i:Int):Except Int (List (List Int))→Int × Int
 | .error k=>(7,k)
 | .ok L=>if allC N D L=true then (0,0) else (7,i)
def nP (i:Int) (v:NV):Int × Int:=if v.x.k=11 then armsR N D i (mO N D false v.kids []) else (0,0)
def kP:Nat→List NV→Int × Int
 |_,[]=>(0,0)
 |i,v::r=>if (nP N D ((i:Nat):Int) v).1=0 then kP (i+1) r else nP N D ((i:Nat):Int) v
end
section
variable {σ:aB} {N:List NV} {D:List Dc} {pn pd:Option Addr} {cn cd:Nat}
theorem wp_match22 (g:GoodT N D) (h:iL σ NoB pn N pd D) {i:Nat} (hi:i<N.length) (hk:N[i].x.k=11):
  WpF aF ovD 22 [trV pn N.length cn pd D.length cd,.int .i64 ((i:Nat):Int)] σ fun v σ'=>v=.tuple #[.int .i64 (nP N D ((i:Nat):Int) N[i]).1,.int .i64 (nP N D ((i:Nat):Int) N[i]).2]∧Frm σ σ' NoB:=by
 have hN:=g.most
 have hNK:=g.node i hi
 have hnode:nP N D ((i:Nat):Int) N[i]=armsR N D ((i:Nat):Int) (mO N D false N[i].kids []):=by unfold nP;rw [if_pos hk]
 rw [hnode]
 have hkl:N[i].kids.length≤1000:=by
  obtain ⟨m,b',e',_,hw⟩:=(walk_at _ _ _ _ g.walk).2 i (Nat.zero_le _) hi
  cases m with
  |zero=>cases hw
  |succ m=>have:=qK hw (List.getElem?_eq_getElem hi);omega
 refine WpF.of (T22_eq _ _ _ _ _ _ _) rfl ?_
 rw [T22]
 refine aN fun σ1 hF1 hn1 hS1=>?_
 generalize hA:σ.n=A at hS1 hn1
 have h1:=h.frm hF1
 rw [aE hS1 (v:=.slice pn N.length cn) rfl]
 simp only [wpS]
 refine cO h1.tree.nodes hi rfl (o:=4) (by decide) fun cs hcs=>?_
 obtain ⟨q,kq,rfl,hrow,_⟩:=hcs
 refine ⟨_,rfl,?_⟩
 simp only [wpS]
 generalize N[i].kids=kids at hrow hkl
 generalize hG:mO N D false kids []=G
 refine Wp.count kids.length (fun j st σ'=>∃ (L:List (List Int)) (p:Option Addr) (c rb:Nat) (css:List (List Value)),st=[.int .i64 ((j:Nat):Int),.slice p L.length c,.int .i64 0,.int .i64 0]∧Frm σ1 σ' NoB∧mO N D (decide (j % 2=1)) (kids.drop j) L=G∧GR rwR 1 σ' NoB rb L css p c∧(p≠none→σ1.n≤rb)∧(∀ r∈L,r.length=1)∧L.length≤j)
  ⟨[],none,0,0,[],rfl,Frm.refl _ _,by rw [List.drop_zero];exact hG,.zero,fun h=>absurd rfl h,(fun _ h=>by cases h),by simp⟩ ?_ ?_
 ·rintro j st σ2 hj ⟨L,p,c,rb,css,rfl,hF2,hGj,hGR,hrb,hL1,hLj⟩
  have ej:aO ((j:Int)+1)=((j+1:Nat):Int):=by rw [aS (by omega)];omega
  have h2:=h1.frm hF2
  have hS2:=hF2.stN hS1
  rw [List.drop_eq_getElem_cons hj] at hGj
  unfold T22b0
  simp only [wpS]
  rw [aC,if_pos (by simp;omega),aK]
  refine cR (hrow.later hF2) hj rfl fun cs hcs=>⟨_,hcs,?_⟩
  simp only [wpS]
  rw [aD]
  refine WpF.of (T36_eq _) rfl ?_
  rw [T36]
  simp only [wpS]
  refine ⟨_,rfl,?_⟩
  have htm:(Int.tmod ((j:Nat):Int) 2==1)=decide (j % 2=1):=by
   rw [Int.tmod_eq_emod_of_nonneg (by omega)]
   by_cases h2:j % 2=1
   ·rw [decide_eq_true h2,beq_iff_eq];omega
   ·rw [decide_eq_false h2,beq_eq_false_iff_ne];omega
  simp only [wpS,htm]
  rw [aC]
  by_cases ho:j % 2=1
  case neg=>
   have ho2:(j+1) % 2=1:=by omega
   rw [decide_eq_false ho,mO] at hGj
   rw [if_pos (by simp [ho])]
   simp only [wpS,T22k0,ej]
   exact ⟨L,p,c,rb,css,rfl,hF2,by rw [decide_eq_true ho2];exact hGj,hGR,hrb,hL1,by omega⟩
  have ho2:¬ (j+1) % 2=1:=by omega
  rw [decide_eq_true ho,mO] at hGj
  rw [if_neg (by simp [ho]),aP hS2 2 rfl]
  simp only [wpS]
  have hLR:=hGR.close bO (by decide)
  refine wp_one _ fun σ3 hF3 hR3=>?_
  rw [aD]
  refine WpF.mono (wp_useful1 (h2.frm hF3) (hLR.frmM bO hF3) (by omega) hL1 hR3.low) ?_
  rintro _ σ4 ⟨rfl,hF4⟩
  have hF24:=hF3.seq hF4
  simp only [wpS]
  rw [aC]
  by_cases hu:(bQ N D 10001 L [((kids[j]:Nat):Int)] 0).1=true
  case neg=>
   rw [if_neg hu] at hGj
   rw [if_pos (by simpa using hu)]
   simp only [wpS,T22k0,T22k1]
   rw [←hGj]
   exact ⟨_,rfl,rfl,hF1.seq (hF2.seq hF24)⟩
  rw [if_pos hu] at hGj
  rw [if_neg (by simp [hu])]
  refine wp_one _ fun σ5 hF5 hR5=>?_
  have hF25:=hF24.seq hF5
  have hn25:=hF25.n
  have hb:rwR σ5 (fun j=>NoB j∨p≠none∧j=rb) [.slice (some ⟨σ4.n,0,some 1⟩) [((kids[j]:Nat):Int)].length 1] [((kids[j]:Nat):Int)]:=by
   refine ⟨_,_,rfl,hR5.step (S:=NoB) (Frm.refl _ _) (fun _ _ h=>h.elim) ?_⟩
   rintro j' _ (h1|⟨h1,h2⟩)
   ·exact h1.elim
   ·have:=hGR.lt h1;have:=hF24.n;show j'<σ4.n;omega
  refine lF bO (fun j h=>h.elim) (hGR.frmN bO hF25) (by decide) (by decide) rfl (by intro y hy;simp at hy;subst hy;rfl) hb (by omega) (by decide) fun σ6 rb2 p2 c2 hF6 hrb2 hG6=>?_
  have hl1:L.length+1=(L++[[((kids[j]:Nat):Int)]]).length:=by simp
  rw [hl1]
  have hF16:Frm σ1 σ6 NoB:=(hF2.seq hF25).trans hF6 (fun _ _ h=>h) fun j' hj' h=>by have:=hrb h.1;omega
  simp only [wpS,T22k0,ej]
  refine ⟨L++[[((kids[j]:Nat):Int)]],_,c2,rb2,_,rfl,hF16,by rw [decide_eq_false ho2];exact hGj,hG6,fun _=>?_,?_,by simp;omega⟩
  ·have:=hF2.n
   rcases hrb2 with ⟨h1,h2⟩|h1
   ·have:=hrb h1;omega
   ·omega
  ·intro r hr
   rcases List.mem_append.1 hr with hr|hr
   ·exact hL1 r hr
   ·rw [List.mem_singleton.1 hr];try rfl
 ·rintro st σ2 ⟨L,p,c,rb,css,rfl,hF2,hGj,hGR,hrb,hL1,hLj⟩
  rw [List.drop_length,mO] at hGj
  unfold T22b0
  simp only [wpS]
  rw [aC,if_neg (by simp)]
  simp only [wpS,T22k1]
  rw [aP (hF2.stN hS1) 2 rfl]
  simp only [wpS]
  rw [aD]
  refine WpF.mono (wp_All11 (h1.frm hF2) (hGR.close bO (by decide)) (by omega) fun r hr=>by rw [hL1 r hr];decide) ?_
  rintro _ σ3 ⟨rfl,hF3⟩
  simp only [wpS]
  rw [←hGj,armsR]
  rw [aC]
  cases hal:allC N D L with
  |false=>
   rw [if_pos (by rfl)]
   simp only [wpS]
   exact ⟨_,rfl,rfl,hF1.seq (hF2.seq hF3)⟩
  |true=>
   rw [if_neg (by simp)]
   simp only [wpS]
   exact ⟨_,rfl,rfl,hF1.seq (hF2.seq hF3)⟩
theorem wp_Check10 (g:GoodT N D) (h:iL σ NoB pn N pd D):WpF aF ovD 10 [trV pn N.length cn pd D.length cd] σ fun v σ'=>v=.tuple #[.int .i64 (kP N D 0 N).1,.int .i64 (kP N D 0 N).2]∧Frm σ σ' NoB:=by
 have hN:=g.most
 refine WpF.of (T10_eq _ _ _ _ _ _) rfl ?_
 rw [T10]
 refine aN fun σ1 hF1 hn1 hS1=>?_
 have h1:=h.frm hF1
 rw [aP hS1 2 rfl]
 simp only [wpS]
 rw [aD]
 refine WpF.mono (wp_Good21 g h1) ?_
 rintro _ σ2 ⟨rfl,hF2⟩
 have h2:=h1.frm hF2
 have hS2:=hF2.stN hS1
 have hF02:=hF1.seq hF2
 simp only [wpS,Bool.not_true]
 rw [aC,if_neg (by simp),aE hS2 (v:=.slice pn N.length cn) rfl]
 simp only [wpS]
 generalize hC:kP N D 0 N=C
 refine Wp.count N.length (fun i st σ'=>st=[.int .i64 ((i:Nat):Int),.int .i64 0,.int .i64 0]∧Frm σ2 σ' NoB∧kP N D i (N.drop i)=C) ⟨rfl,Frm.refl _ _,by rw [List.drop_zero];exact hC⟩ ?_ ?_
 ·rintro i st σ3 hi ⟨rfl,hF3,hCi⟩
  have ei:aO ((i:Int)+1)=((i+1:Nat):Int):=by rw [aS (by omega)];omega
  have h3:=h2.frm hF3
  have hS3:=hF3.stN hS2
  rw [List.drop_eq_getElem_cons hi,kP] at hCi
  unfold T10b0
  simp only [wpS]
  rw [aC,if_pos (by simp;omega),aK]
  refine dN h3.tree.nodes hi rfl fun cs hcs=>?_
  obtain ⟨q,k,rfl,_,_⟩:=hcs
  simp only [wpS]
  refine aN fun σ4 hF4 hn4 hS4=>?_
  refine bD hS4 rfl rfl fun σ5 hF5 hn5 hS5=>?_
  have hF35:Frm σ3 σ5 NoB:=hF4.fresh hF5 fun j hj h=>by omega
  rw [aE hS5 (i:=0) rfl]
  simp only [wpS]
  rw [aC]
  by_cases hk:N[i].x.k=11
  case neg=>
   rw [if_pos (by show (nP N D ((i:Nat):Int) N[i]).1=0;unfold nP;rw [if_neg hk])] at hCi
   rw [if_pos (by simpa using hk)]
   simp only [wpS,T10k0,ei]
   exact ⟨trivial,hF3.seq hF35,hCi⟩
  rw [if_neg (by simp [hk]),aP (hF35.stN hS3) 2 rfl]
  simp only [wpS]
  rw [aD]
  refine WpF.mono (wp_match22 g (h3.frm hF35) hi hk) ?_
  rintro _ σ6 ⟨rfl,hF6⟩
  simp only [wpS]
  rw [aC]
  by_cases hz:(nP N D ((i:Nat):Int) N[i]).1=0
  ·rw [if_pos hz] at hCi
   rw [if_neg (by simpa using hz)]
   simp only [wpS,T10k0,ei]
   exact ⟨trivial,hF3.seq (hF35.seq hF6),hCi⟩
  ·rw [if_neg hz] at hCi
   rw [if_pos (by simpa using hz)]
   simp only [wpS,T10k0,T10k1]
   rw [←hCi]
   exact ⟨_,rfl,rfl,hF02.seq (hF3.seq (hF35.seq hF6))⟩
 ·rintro st σ3 ⟨rfl,hF3,hCi⟩
  rw [List.drop_length,kP] at hCi
  unfold T10b0
  simp only [wpS]
  rw [aC,if_neg (by simp)]
  simp only [wpS,T10k1]
  rw [←hCi]
  exact ⟨_,rfl,rfl,hF02.seq hF3⟩
end
end Go.Pg
namespace Go.Pg
open Go.Proofs Go.Utf8 Go.Lib
set_option linter.unusedSimpArgs false
theorem leaf_eta {t:Tm} (h:t.args=[]):t=.mk t.a []:=by cases t;cases h;try rfl
theorem flL_leaves:∀ (l:List Tm) (p:Nat),(∀ t∈l,t.args=[])→flL p l=l.map (fun t=>⟨t.a,[]⟩)∧eM p l=List.range' p l.length∧szL l=l.length
 |[],_,_=>⟨rfl,rfl,rfl⟩
 |t::l,p,h=>by
  have e:=leaf_eta (h t (by simp))
  have hs:szT t=1:=by rw [e];try rfl
  obtain ⟨h1,h2,h3⟩:=flL_leaves l (p+1) fun x hx=>h x (by simp [hx])
  refine ⟨?_,?_,?_⟩
  ·rw [flL,hs,h1,List.map_cons]
   conv=>lhs;rw [e]
   rfl
  ·rw [eM,hs,h2,List.length_cons,List.range'_succ]
  ·rw [szL,hs,h3,List.length_cons,Nat.add_comm]
theorem dpL_leaves:∀ (l:List Tm) (p deep:Nat),(∀ t∈l,t.args=[])→p+l.length≤1000→deep≤60→dpL p deep (-1) l= -1
 |[],_,_,_,_,_=>rfl
 |t::l,p,deep,h,hp,hd=>by
  have e:=leaf_eta (h t (by simp))
  have hs:szT t=1:=by rw [e];try rfl
  have h1:dpT p deep (-1) t= -1:=by
   rw [e,dpT,dpL,if_neg]
   simp only [List.length_cons] at hp
   omega
  rw [dpL,h1,hs]
  exact dpL_leaves l (p+1) deep (fun x hx=>h x (by simp [hx])) (by simp only [List.length_cons] at hp;omega) hd
section
variable {ws:List Wd} {e:Nat}
def KidOK (i:Nat) (t:Tm):Prop:=t.args=[]∧bS ⟨t.a,[]⟩=true∧decide (t.a.k>20)=decide (i % 2=1)∧t.a.k≠5∧t.a.k≠11∧t.a.k≠22∧t.a.k≠26∧(i % 2=1→t.a.k=23)
def digs (ds:List UInt8):Prop:=∀ d∈ds,48≤d.toNat∧d.toNat≤57
theorem val_dig {d:UInt8} (_h:48≤d.toNat∧d.toNat≤57):0≤mW [d] 0∧mW [d] 0≤4611686018427387903:=by
 have e:mW [d] 0=(((d.toNat+208) % 256:Nat):Int):=by
  show aO (aO (10*0)+(((d.toNat+208) % 256:Nat):Int))=_
  rw [show aO (10*0)=0 by rfl,aS (by omega)]
  omega
 rw [e]
 omega
theorem kid_num {i p:Nat} {n:Int} (hi:i % 2=0) (h:0≤n∧n≤4611686018427387903):KidOK i (dV ws e 1 n [] ⟨p,false⟩):=by
 refine ⟨rfl,?_,?_,show (1:Int)≠5 by decide,show (1:Int)≠11 by decide,show (1:Int)≠22 by decide,show (1:Int)≠26 by decide,fun h=>by omega⟩
 ·have hn:gI 1 n=true:=by unfold gI;rw [if_pos (.inl rfl)];simp [h.1,h.2]
  show (decide ((1:Int)≤1)&&decide ((1:Int)≤26)&&iJ 1 0&&gI 1 n&&fY 1 []&&mG 1 [])=true
  rw [hn]
  decide
 ·show decide ((1:Int)>20)=_
  rw [decide_eq_false (by decide),decide_eq_false (by omega)]
theorem kid_pat {i p:Nat} {n:Int} (hi:i % 2=1) (h:0≤n∧n≤4611686018427387903):KidOK i (dV ws e 23 n [] ⟨p,false⟩):=by
 refine ⟨rfl,?_,?_,show (23:Int)≠5 by decide,show (23:Int)≠11 by decide,show (23:Int)≠22 by decide,show (23:Int)≠26 by decide,fun _=>rfl⟩
 ·have hn:gI 23 n=true:=by unfold gI;rw [if_pos (.inr rfl)];simp [h.1,h.2]
  show (decide ((1:Int)≤23)&&decide ((23:Int)≤26)&&iJ 23 0&&gI 23 n&&fY 23 []&&mG 23 [])=true
  rw [hn]
  decide
 ·show decide ((23:Int)>20)=_
  rw [decide_eq_true (by decide),decide_eq_true hi]
theorem kid_var {p:Nat}:KidOK 0 (dV ws e 4 0 [120] ⟨p,false⟩):=by
 refine ⟨rfl,?_,show decide ((4:Int)>20)=decide (0 % 2=1) by decide,show (4:Int)≠5 by decide,show (4:Int)≠11 by decide,show (4:Int)≠22 by decide,show (4:Int)≠26 by decide,fun h=>by omega⟩
 show (decide ((1:Int)≤4)&&decide ((4:Int)≤26)&&iJ 4 0&&gI 4 0&&fY 4 [120]&&mG 4 [])=true
 decide+kernel
theorem kids_arms:∀ (ds:List UInt8) (p i:Nat),digs ds→i % 2=1→∀ j (hj:j<(kM ws e p ds).length),KidOK (i+j) (kM ws e p ds)[j]
 |[],p,i,_,hi,j,hj=>by
  have hj:j<2:=hj
  have:j=0∨j=1:=by omega
  rcases this with rfl|rfl
  ·exact kid_pat (by omega) (val_dig (by decide))
  ·exact kid_num (by omega) (val_dig (by decide))
 |d::ds,p,i,hd,hi,j,hj=>by
  match j,hj with
  |0,_=>exact kid_pat (by omega) (val_dig (hd d (by simp)))
  |1,_=>exact kid_num (by omega) (val_dig (by decide))
  |j+2,hj=>
   have:=kids_arms ds (p+4) (i+2) (fun x hx=>hd x (by simp [hx])) (by omega) j (by simpa [kM] using hj)
   rw [show i+(j+2)=i+2+j by omega]
   exact this
theorem kids_all {ds:List UInt8} (hd:digs ds):∀ j (hj:j<(dV ws e 4 0 [120] ⟨1,false⟩::kM ws e 3 ds).length),KidOK j (dV ws e 4 0 [120] ⟨1,false⟩::kM ws e 3 ds)[j]:=by
 intro j hj
 cases j with
 |zero=>exact kid_var
 |succ j=>
  rw [List.getElem_cons_succ,Nat.add_comm]
  exact kids_arms ds 3 1 hd rfl j (by simpa using hj)
end
def mB (x:Nd) (l:List Tm):List NV:=⟨x,List.range' 1 l.length⟩::l.map fun t=>⟨t.a,[]⟩
section
variable {x:Nd} {l:List Tm}
theorem matN_at {j:Nat} (hj:j<l.length):(mB x l)[1+j]?=some ⟨l[j].a,[]⟩:=by
 unfold mB
 rw [Nat.add_comm,List.getElem?_cons_succ,List.getElem?_map,List.getElem?_eq_getElem hj]
 try rfl
theorem kidsW_range {q:Nat→Bool→Option Nat} {pat:Nat→Bool}:∀ (m p i:Nat),(∀ j,j<m→q (p+j) (pat (i+j))=some (p+j+1))→eV q pat (List.range' p m) i p=some (p+m)
 |0,p,i,_=>rfl
 |m+1,p,i,h=>by
  rw [List.range'_succ,eV,if_pos rfl]
  have h0:=h 0 (by omega)
  rw [Nat.add_zero,Nat.add_zero] at h0
  rw [h0,Option.bind_some,kidsW_range m (p+1) (i+1) fun j hj=>by
   have:=h (j+1) (by omega)
   rwa [show p+(j+1)=p+1+j by omega,show i+(j+1)=i+1+j by omega] at this]
  congr 1
  omega
theorem mat_good (hx:x.k=11∧x.n=0∧x.nm=[]∧x.pm=[]) (hk:∀ j (hj:j<l.length),KidOK j l[j]) (hl:3≤l.length) (hl2:l.length % 2=1) (hl3:l.length≤900):lH (mB x l) []=true:=by
 have hlen:(mB x l).length=l.length+1:=by simp [mB]
 have hwalk:bT (mB x l) [] 60 0 false=some (l.length+1):=by
  have h0:(mB x l)[0]?=some ⟨x,List.range' 1 l.length⟩:=rfl
  rw [bT,h0]
  simp only
  rw [if_pos]
  case hc=>
   refine ⟨?_,?_,?_⟩
   ·unfold bS gI fY mG
    simp only [hx.1,hx.2.1,hx.2.2.1,hx.2.2.2,List.length_range']
    have:iJ 11 l.length=true:=by
     unfold iJ
     rw [if_neg (by decide),if_pos (by decide)]
     simp [hl,hl2]
    rw [this]
    decide
   ·rw [hx.1];decide
   ·intro h;rw [hx.1] at h;exact absurd h (by decide)
  rw [kidsW_range l.length 1 0,Option.bind_some,if_neg]
  ·congr 1;omega
  ·rintro ⟨_,i,hi,h2,h3⟩
   simp only [List.length_range'] at hi
   have eg:(List.range' 1 l.length).getD i 0=1+i:=by simp [List.getD,hi]
   obtain ⟨k1,_,_,k4,k5,k6,k7,k8⟩:=hk i hi
   have eb:bH (mB x l) (mB x l).length (1+i)=[]:=by
    rw [hlen,bH,matN_at hi]
    simp only
    rw [if_neg k6]
    try rfl
   simp only [eg,eb] at h3
   cases h3
  ·intro j hj
   obtain ⟨k1,k2,k3,k4,k5,k6,k7,k8⟩:=hk j hj
   rw [bT,matN_at hj]
   simp only
   rw [if_pos ⟨k2,by rw [k3,hx.1];simp,fun h=>by rcases h with h|h;exact absurd h k4;exact absurd h k7⟩,eV,Option.bind_some,if_neg fun h=>k5 h.1]
 unfold lH
 rw [hwalk,hlen]
 simp only [Bool.and_eq_true,decide_eq_true_eq]
 exact ⟨⟨⟨by omega,by omega⟩,by decide⟩,trivial⟩
theorem shp_kid (hk:∀ j (hj:j<l.length),KidOK j l[j]) {j:Nat} (hj:j<l.length) (h2:j % 2=1):(shp (mB x l) (((1+j:Nat):Nat):Int)).k=23:=by
 obtain ⟨k1,k2,k3,k4,k5,k6,k7,k8⟩:=hk j hj
 have e:nS (mB x l) (((1+j:Nat):Nat):Int)=⟨l[j].a,[]⟩:=by
  unfold nS
  rw [if_neg (by omega),Int.toNat_natCast,matN_at hj]
  simp only
  rw [if_pos (by rw [k8 h2];decide)]
 unfold shp
 rw [e]
 unfold shpV
 rw [if_pos (.inl (k8 h2))]
 exact k8 h2
end
section
variable {N:List NV} {D:List Dc}
theorem shapesC_mem {L:List (List Int)} {s:Shp} (h:s∈cC N L):∃ r∈L,s=jM N r:=by
 have key:∀ (l:List (List Int)) (a:List Shp),s∈l.foldl (fun l r=>pP l (jM N r)) a→s∈a∨∃ r∈l,s=jM N r:=by
  intro l
  induction l with
  |nil=>intro a h;exact .inl h
  |cons r l ih=>
   intro a h
   rcases ih _ h with h|⟨r',h1,h2⟩
   ·have h:s∈pP a (jM N r):=h
    unfold pP at h
    split at h
    ·rcases List.mem_append.1 h with h|h
     ·exact .inl h
     ·exact .inr ⟨r,by simp,List.mem_singleton.1 h⟩
    ·exact .inl h
   ·exact .inr ⟨r',by simp [h1],h2⟩
 rcases key L [] h with h|h
 ·cases h
 ·exact h
theorem all_ints {L:List (List Int)} (h:∀ r∈L,∃ k,r=[k]∧(shp N k).k=23):allC N D L=false:=by
 cases L with
 |nil=>rfl
 |cons r L=>
  have hr:r.length=1:=by obtain ⟨k,rfl,_⟩:=h r (by simp);try rfl
  unfold allC
  simp only
  rw [hr,wideC_same fun y hy=>by obtain ⟨k,rfl,_⟩:=h y hy;rfl]
  generalize r::L=M at h
  have hh:∀ r∈M,(jM N r).k=23:=fun r hr=>by obtain ⟨k,rfl,hk⟩:=h r hr;exact hk
  have hw:kH D (cC N M)=false:=by
   cases hs:cC N M with
   |nil=>rfl
   |cons s l=>
    obtain ⟨r',h1,h2⟩:=shapesC_mem (s:=s) (L:=M) (by rw [hs];simp)
    have:=hh r' h1
    rw [←h2] at this
    unfold kH
    simp only
    rw [if_neg (by omega),if_neg (by omega),if_neg (by omega)]
  have hrest:lN N M=[]:=by
   unfold lN
   rw [List.filter_eq_nil_iff.2 fun r hr=>by rw [hh r hr];decide]
   try rfl
  have:(bQ N D 10001 M (List.replicate 1 (-1)) 0).1=true:=by
   rw [show List.replicate 1 (-1:Int)=[-1] from rfl,bQ,if_neg (by decide),if_neg (by rw [shp_neg];decide),if_neg (by rw [hw];decide),hrest,bQ,if_neg (by decide)]
   try rfl
  rw [this]
  try rfl
theorem arms_ints {i:Int}:∀ (l:List Nat) (b:Bool) (L:List (List Int)),(∀ j (hj:j<l.length),(if b=true then j % 2=0 else j % 2=1)→(shp N ((l[j]:Nat):Int)).k=23)→(∀ r∈L,∃ k,r=[k]∧(shp N k).k=23)→(armsR N D i (mO N D b l L)).1=7
 |[],b,L,_,hL=>by
  cases b<;>(rw [mO,armsR,all_ints hL];rfl)
 |k::r,false,L,h,hL=>by
  rw [mO]
  exact arms_ints r true L (fun j hj h2=>by
   have:=h (j+1) (by simpa using hj) (by rw [if_neg (by simp)];rw [if_pos rfl] at h2;omega)
   simpa using this) hL
 |k::r,true,L,h,hL=>by
  rw [mO]
  have hk:=h 0 (by simp) (by rw [if_pos rfl])
  rw [List.getElem_cons_zero] at hk
  split
  ·refine arms_ints r false _ (fun j hj h2=>by
    have:=h (j+1) (by simpa using hj) (by rw [if_pos rfl];rw [if_neg (by simp)] at h2;omega)
    simpa using this) fun y hy=>?_
   rcases List.mem_append.1 hy with hy|hy
   ·exact hL y hy
   ·rw [List.mem_singleton.1 hy];exact ⟨_,rfl,hk⟩
  ·rfl
end
theorem check_ints {x:Nd} {l:List Tm} (hx:x.k=11) (hk:∀ j (hj:j<l.length),KidOK j l[j]):(kP (mB x l) [] 0 (mB x l)).1=7:=by
 have h0:(nP (mB x l) [] ((0:Nat):Int) ⟨x,List.range' 1 l.length⟩).1=7:=by
  unfold nP
  rw [if_pos hx]
  refine arms_ints _ _ _ (fun j hj h2=>?_) (fun _ h=>by cases h)
  rw [if_neg (by simp)] at h2
  simp only [List.length_range'] at hj
  rw [List.getElem_range',Nat.one_mul]
  exact shp_kid hk hj h2
 have:kP (mB x l) [] 0 (mB x l)=nP (mB x l) [] ((0:Nat):Int) ⟨x,List.range' 1 l.length⟩:=by
  conv=>lhs;rhs;unfold mB
  rw [kP,if_neg (by rw [h0];decide)]
 rw [this]
 exact h0
def sayL (b:Bool):List UInt8:=if b then [116,114,117,101] else [102,97,108,115,101]
def S0:List UInt8:=[109,97,116,99,104,32,120,32,119,105,116,104,32]
def S1 (a b:Bool):List UInt8:=S0++sayL a++[32,45,62,32,49,32,124,32]++sayL b++[32,45,62,32,50,32,101,110,100]
def S2 (a:Bool):List UInt8:=S0++sayL a++[32,45,62,32,49,32,101,110,100]
def S3 (ds:List UInt8):List UInt8:=S0++ds.flatMap fun d=>[d]++[32,45,62,32,49,32,124,32]
def chkP (S:List UInt8):Option (Int × Int):=(docP S).map fun x=>kP x.1 x.2 0 x.1
theorem chk1:∀ a b:Bool,(match chkP (S1 a b) with
 |some x=>decide (x.1=0)==decide (a≠b)
 |none=>false)=true:=by decide+kernel
theorem chk2:∀ a:Bool,(match chkP (S2 a) with
 |some x=>decide (x.1=7)
 |none=>false)=true:=by decide+kernel
def S4 (ds:List UInt8):List UInt8:=S3 ds++[56,32,45,62,32,50,32,101,110,100]
theorem S4_glue (ds:List UInt8):S4 ds=glue1 (wsG ds):=by
 have key:∀ ds:List UInt8,(32::ds.flatMap fun d=>[d]++[32,45,62,32,49,32,124,32])++[56,32,45,62,32,50,32,101,110,100]=glue (ds.flatMap jT++kV):=by
  intro ds
  induction ds with
  |nil=>rfl
  |cons d ds ih=>
   rw [List.flatMap_cons,List.flatMap_cons,show jT d++ds.flatMap jT++kV=jT d++(ds.flatMap jT++kV) from List.append_assoc _ _ _]
   have e:glue (jT d++(ds.flatMap jT++kV))=[32,d,32,45,62,32,49,32,124]++glue (ds.flatMap jT++kV):=rfl
   rw [e,←ih]
   simp
 unfold S4 S3 S0 wsG
 have e:glue1 ([wW 4 iQ,wW 2 [120],wW 4 iN]++(ds.flatMap jT++kV))=[109,97,116,99,104,32,120,32,119,105,116,104]++glue (ds.flatMap jT++kV):=rfl
 rw [e,←key]
 simp
theorem dig_wrd:∀ i:Fin 10,cU [UInt8.ofNat (48+i.1)]=(1,[UInt8.ofNat (48+i.1)]):=by decide+kernel
theorem wsG_good {ds:List UInt8} (hd:digs ds):∀ w∈wsG ds,Good w:=by
 have hdig:∀ d:UInt8,48≤d.toNat∧d.toNat≤57→Good (wW 1 [d]):=by
  intro d h
  refine good_of_wrd ?_ (by decide) (by simp)
  have e:d=UInt8.ofNat (48+(d.toNat - 48)):=by
   apply UInt8.toNat_inj.1
   rw [UInt8.toNat_ofNat']
   omega
  have:=dig_wrd ⟨d.toNat - 48,by omega⟩
  simp only at this
  rw [←e] at this
  exact this
 have hw:∀ w∈[wW 4 iQ,wW 2 [120],wW 4 iN,wW 5 [45,62],wW 5 [124],wW 4 qU],Good w:=by
  have:∀ w∈[wW 4 iQ,wW 2 [120],wW 4 iN,wW 5 [45,62],wW 5 [124],wW 4 qU],cU w.t=(w.k,w.t)∧w.k≠0∧w.t≠[]∧w=wW w.k w.t:=by
   intro w hw
   simp only [List.mem_cons,List.not_mem_nil,or_false] at hw
   rcases hw with rfl|rfl|rfl|rfl|rfl|rfl<;>exact ⟨by decide+kernel,by decide,by decide,rfl⟩
  intro w hw
  obtain ⟨h1,h2,h3,h4⟩:=this w hw
  rw [h4]
  exact good_of_wrd h1 h2 h3
 intro w hw'
 unfold wsG at hw'
 rcases List.mem_append.1 hw' with h|h
 ·exact hw w (by
   simp only [List.mem_cons,List.not_mem_nil,or_false] at h ⊢
   rcases h with h|h|h<;>simp [h])
 ·rcases List.mem_append.1 h with h|h
  ·obtain ⟨d,h1,h2⟩:=List.mem_flatMap.1 h
   unfold jT at h2
   simp only [List.mem_cons,List.not_mem_nil,or_false] at h2
   rcases h2 with rfl|rfl|rfl|rfl
   ·exact hdig d (hd d h1)
   ·exact hw _ (by simp)
   ·exact hdig 49 (by decide)
   ·exact hw _ (by simp)
  ·unfold kV at h
   simp only [List.mem_cons,List.not_mem_nil,or_false] at h
   rcases h with rfl|rfl|rfl|rfl
   ·exact hdig 56 (by decide)
   ·exact hw _ (by simp)
   ·exact hdig 50 (by decide)
   ·exact hw _ (by simp)
theorem chk4 {ds:List UInt8} (hd:digs ds) (hl:ds.length≤10):∃ x,chkP (S4 ds)=some x∧x.1=7:=by
 have hlen:=wsG_len ds
 obtain ⟨ws,h1,h2⟩:=lexA_glue1 (wW 4 iQ) ([wW 2 [120],wW 4 iN]++(ds.flatMap jT++kV)) (wsG_good hd) (by show (wsG ds).length≤2000;omega)
 have h1:lexA (S4 ds)=.ok ws:=by rw [S4_glue];exact h1
 have h2:ws.map kt=(wsG ds).map kt:=h2
 have hwl:ws.length=(wsG ds).length:=by have:=congrArg List.length h2;simpa using this
 obtain ⟨e,he⟩:∃ e,e=(S4 ds).length:=⟨_,rfl⟩
 have hsuf:Suf ws e 0 (wsG ds):=fun i hi=>by rw [Nat.zero_add];exact at_map h2 hi
 have hat0:At ws e 0 4 iQ:=hsuf 0 (by omega)
 have hdecl:gP ws e (ws.length+2) [] ⟨0,false⟩=some ([],⟨0,false⟩):=by
  rw [gP,if_neg]
  unfold isM
  simp only [hat0.1,hat0.2]
  decide
 obtain ⟨fr,to,hp⟩:=parse_match (ws:=ws) (e:=e) (n:=(ws.length+2)*16 - (ds.length+30)) hsuf hwl
 rw [show (ws.length+2)*16 - (ds.length+30)+ds.length+30=(ws.length+2)*16 by omega] at hp
 have hk:=kids_all (ws:=ws) (e:=e) hd
 have hkl:(dV ws e 4 0 [120] ⟨1,false⟩::kM ws e 3 ds).length=2*ds.length+3:=by rw [List.length_cons,armsT_len]
 generalize dV ws e 4 0 [120] ⟨1,false⟩::kM ws e 3 ds=l at hp hk hkl
 have hleaf:∀ t∈l,t.args=[]:=fun t ht=>by
  obtain ⟨j,hj,rfl⟩:=List.mem_iff_getElem.1 ht
  exact (hk j hj).1
 obtain ⟨f1,f2,f3⟩:=flL_leaves l 1 hleaf
 have hfl:flT 0 (.mk ⟨11,0,[],[],fr,to⟩ l)=mB ⟨11,0,[],[],fr,to⟩ l:=by
  rw [flT,f1,f2]
  try rfl
 have hdp:dpT 0 1 (-1) (.mk ⟨11,0,[],[],fr,to⟩ l)= -1:=by
  rw [dpT,if_neg (by omega)]
  exact dpL_leaves l 1 2 hleaf (by omega) (by decide)
 have hgood:=mat_good (x:=⟨11,0,[],[],fr,to⟩) ⟨rfl,rfl,rfl,rfl⟩ hk (by omega) (by omega) (by omega)
 have hdoc:docP (S4 ds)=some (mB ⟨11,0,[],[],fr,to⟩ l,[]):=by
  unfold docP
  rw [h1]
  simp only
  rw [←he,hdecl,Option.bind_some]
  simp only
  rw [hp,Option.bind_some]
  simp only
  rw [if_neg (by simp),hdp,if_neg (by decide),hfl,if_pos hgood]
 refine ⟨_,by unfold chkP;rw [hdoc];rfl,check_ints rfl hk⟩
end Go.Pg
namespace Go.Pg
open Go.Proofs Go.Utf8 Go.Lib
set_option linter.unusedSimpArgs false
section
variable {σ:aB}
theorem wp_check9 {S:List UInt8} {x:Int × Int} (h:chkP S=some x) (hl:S.length≤1500) {Q:Value→aB→Prop} (hQ:∀ σ',Frm σ σ' NoB→Q (.tuple #[.int .i64 x.1,.int .i64 x.2]) σ'):WpF aF ovD 9 [.string (mkB S)] σ Q:=by
 unfold chkP at h
 refine WpF.of (T9_eq _) rfl ?_
 rw [T9,aD]
 refine wp_made12 S ?_ ?_
 ·intro hno
  rcases hno with hno|hno
  ·omega
  ·rw [hno] at h;cases h
 intro N D _ hdoc pn cn pd cd σ1 hF1 hT1 hK hD hC hA hcn
 have hg:GoodT N D:=docP_good hdoc
 have hNm:=hg.most
 have hB1:iL σ1 NoB pn N pd D:=(⟨hT1,by omega,hD,hC,hK,hA⟩:iL σ1 (fun j=>j<σ.n) pn N pd D).low
 rw [hdoc] at h
 obtain rfl:=ofS h
 simp only [wpS]
 refine aN fun σ2 hF2 hn2 hS2=>?_
 refine bD hS2 rfl rfl fun σ3 hF3 hn3 hS3=>?_
 have hF13:Frm σ1 σ3 NoB:=hF2.fresh hF3 fun j hj h=>by omega
 rw [aC,if_neg (by simp),aP hS3 2 rfl]
 simp only [wpS]
 rw [aD]
 refine WpF.mono (wp_Check10 hg (hB1.frm hF13)) ?_
 rintro _ σ4 ⟨rfl,hF4⟩
 simp only [wpS]
 exact ⟨_,rfl,hQ σ4 ((hF1.seq hF13).seq hF4)⟩
theorem ev_say (b:Bool):EvF aF ovD 20 [.bool b] σ (.string (mkB (sayL b))) σ:=by
 refine EvF.of (T20_eq _) rfl ?_
 rw [T20,aC]
 cases b with
 |true=>rw [if_pos rfl,wp_ret];exact ⟨rfl,rfl⟩
 |false=>rw [if_neg (by simp),wp_ret];exact ⟨rfl,rfl⟩
theorem wp_byteStr {P:Program} {ov:Ov} {x:Int} {g:ByteArray→Pg} {Q:cJ} (k:∀ σ',Frm σ σ' NoB→Wp P ov (g (mkB [UInt8.ofNat x.toNat])) σ' Q):
  Wp P ov (.act (rJ 1 1 [.int .u8 x]) fun v7=>aM v7 fun p8 n9 n10=>.act (bW (.slice p8 n9 n10)) fun v11=>jO v11 g) σ Q:=by
 rw [aZ,cV]
 simp only [bK]
 have hF:=Frm.new σ [.int .u8 x] 1 NoB
 have hN:=Row.new σ 1 [.int .u8 x] 1 (by decide) rfl (by intro y hy;simp at hy;subst hy;rfl)
 have hr:(σ.newBlk [.int .u8 x] 1).rdN ⟨σ.n,0,some 1⟩ 1=some [.int .u8 x]:=hN.rdN (i:=0) (k:=1) (by simp)
 rw [aZ]
 unfold bW
 simp only [hr,fR]
 exact k _ hF
end
theorem and7' (x:Int):andI .i64 x 7=x % 8:=andI_mask .i64 x 3 (by decide)
def dig8 (x:Int):UInt8:=UInt8.ofNat (wu8 (48+wu8 (andI .i64 x 7))).toNat
theorem dig8_ok (x:Int):48≤(dig8 x).toNat∧(dig8 x).toNat≤57:=by
 unfold dig8
 rw [and7',wu8_in (n:=x % 8) (by omega),wu8_in (by omega),UInt8.toNat_ofNat']
 omega
theorem digs_map (l:List Int):digs (l.map dig8):=by
 intro d hd
 obtain ⟨x,_,rfl⟩:=List.mem_map.1 hd
 exact dig8_ok x
theorem S3_len (ds:List UInt8):(S3 ds).length=13+9*ds.length:=by
 have:∀ ds:List UInt8,(ds.flatMap fun d=>[d]++[32,45,62,32,49,32,124,32]).length=9*ds.length:=by
  intro ds
  induction ds with
  |nil=>rfl
  |cons d ds ih=>rw [List.flatMap_cons,List.length_append,ih,List.length_cons];simp;omega
 unfold S3
 rw [List.length_append,this]
 try rfl
theorem sayL_len (b:Bool):(sayL b).length≤5:=by cases b<;>decide
theorem coverTwo_law (b0 b1:Bool) (p2:Option Addr) (c2:Nat) (l2:List Int) (old0:Addr→Option Value) (rd:RdR (unO tabsD old0) 1 (.int .i64) p2 l2) (_:(Sh.row 1 (.int .i64)).ok l2):
  WpF aF ovD 7 [.bool b0,.bool b1,.slice p2 l2.length c2] (iP (unO tabsD old0)) fun v _=>v=.bool true:=by
 refine WpF.of (T7_eq _ _ _ _ _) rfl ?_
 rw [T7,aD]
 refine (awake8 _).mono ?_
 rintro v σ ⟨rfl,hold,_⟩
 have hrd2:∀ σ',Frm σ σ' NoB→RdI σ' .i64 p2 l2:=fun σ' hF=>RdR.ints rd σ' (hF.old.trans hold)
 clear rd hold
 simp only [wpS]
 rw [aC,if_neg (by simp),aC]
 by_cases h10:10<l2.length
 ·rw [if_pos (by simp;omega)]
  simp only [wpS]
  exact ⟨_,rfl,rfl⟩
 rw [if_neg (by simp;omega),aD,WpF.eq (ev_say b0)]
 have hl0:=sayL_len b0
 have hl1:=sayL_len b1
 simp only [wpS,bs_mkB,pD]
 rw [aV]
 refine ⟨by rw [bJ];rw [Nat.ble_eq];omega,?_⟩
 rw [aV]
 refine ⟨by rw [bJ];simp only [List.length_append,List.length_cons,List.length_nil];rw [Nat.ble_eq];omega,?_⟩
 rw [aD,WpF.eq (ev_say b1)]
 simp only [wpS,pD]
 rw [aV]
 refine ⟨by rw [bJ,bJ];simp only [List.length_append,List.length_cons,List.length_nil];rw [Nat.ble_eq];omega,?_⟩
 rw [aV]
 refine ⟨by rw [bJ];simp only [List.length_append,List.length_cons,List.length_nil];rw [Nat.ble_eq];omega,?_⟩
 rw [aD]
 have c1:=chk1 b0 b1
 cases e1:chkP (S1 b0 b1) with
 |none=>rw [e1] at c1;cases c1
 |some x1=>
 rw [e1] at c1
 have c1:(x1.1==0)=!(b0==b1):=by
  have h:=beq_iff_eq.1 c1
  revert h
  cases b0<;>cases b1<;>by_cases hx:x1.1=0<;>simp [hx]
 refine wp_check9 (S:=S1 b0 b1) e1 (by unfold S1 S0;simp only [List.length_append,List.length_cons,List.length_nil];omega) fun σ1 hF1=>?_
 simp only [wpS]
 rw [aD,WpF.eq (ev_say b0)]
 simp only [wpS,pD]
 rw [aV]
 refine ⟨by rw [bJ];rw [Nat.ble_eq];omega,?_⟩
 rw [aV]
 refine ⟨by rw [bJ];simp only [List.length_append,List.length_cons,List.length_nil];rw [Nat.ble_eq];omega,?_⟩
 rw [aD]
 have c2':=chk2 b0
 cases e2:chkP (S2 b0) with
 |none=>rw [e2] at c2';cases c2'
 |some x2=>
 rw [e2] at c2'
 have c2':x2.1=7:=by simpa using c2'
 refine wp_check9 (S:=S2 b0) e2 (by unfold S2 S0;simp only [List.length_append,List.length_cons,List.length_nil];omega) fun σ2 hF2=>?_
 simp only [wpS]
 refine Wp.count l2.length (fun j st σ'=>st=[.int .i64 ((j:Nat):Int),.string (mkB (S3 ((l2.take j).map dig8)))]∧Frm σ2 σ' NoB) ⟨rfl,Frm.refl _ _⟩ ?_ ?_
 ·rintro j st σ3 hj ⟨rfl,hF3⟩
  have ej:aO ((j:Int)+1)=((j+1:Nat):Int):=by rw [aS (by omega)];omega
  have hl3:=S3_len ((l2.take j).map dig8)
  rw [List.length_map,List.length_take] at hl3
  have hgt:l2.getD (((j:Nat):Int)).toNat 0=l2[j]:=by simp [List.getD,hj]
  unfold T7b0
  simp only [wpS]
  rw [aC,if_pos (by simp;omega),aK,wp_rdI (hrd2 σ3 ((hF1.seq hF2).seq hF3)) (by omega) (by omega),hgt]
  refine wp_byteStr fun σ4 hF4=>?_
  rw [aV]
  refine ⟨by rw [bJ,bJ];simp only [List.length_cons,List.length_nil];rw [Nat.ble_eq];omega,?_⟩
  rw [pD,aV]
  refine ⟨by rw [bJ];simp only [List.length_append,List.length_cons,List.length_nil];rw [Nat.ble_eq];omega,?_⟩
  simp only [wpS,T7k0,ej,pD]
  refine ⟨?_,hF3.seq hF4⟩
  have e:S3 ((l2.take (j+1)).map dig8)=S3 ((l2.take j).map dig8)++[dig8 l2[j]]++[32,45,62,32,49,32,124,32]:=by
   rw [List.take_succ_eq_append_getElem hj,List.map_append]
   unfold S3
   rw [List.flatMap_append]
   simp
  rw [e]
  try rfl
 ·rintro st σ3 ⟨rfl,hF3⟩
  rw [List.take_length]
  have hl3:=S3_len (l2.map dig8)
  rw [List.length_map] at hl3
  unfold T7b0
  simp only [wpS]
  rw [aC,if_neg (by simp)]
  simp only [wpS,T7k1]
  rw [aV]
  refine ⟨by rw [bJ];rw [Nat.ble_eq];omega,?_⟩
  rw [bs_mkB,pD,aD]
  obtain ⟨x3,e3,c3⟩:=chk4 (digs_map l2) (by rw [List.length_map];omega)
  refine wp_check9 (S:=S4 (l2.map dig8)) e3 (by unfold S4;rw [List.length_append,hl3];simp only [List.length_cons,List.length_nil];omega) fun σ4 hF4=>?_
  simp only [wpS]
  refine ⟨_,rfl,?_⟩
  rw [c1,c2',c3]
  simp
end Go.Pg
namespace Go.Proofs
open Go.Shelf
def Tryz.laysLetter_ren:Go.Shelf.Ren:=⟨fun|200=>88|261=>97|311=>106|312=>107|n=>n,fun|21=>21|4=>4|51=>156|5=>5|119=>157|0=>0|141=>159|196=>166|193=>163|3=>3|198=>169|49=>167|194=>164|201=>172|226=>175|46=>176|227=>177|n=>n,fun|7=>0|8=>1|n=>n⟩
theorem Tryz.laysLetter:Go.Proofs.Lays.n200 Tryz.prog Tryz.laysLetter_ren:={
 mixed:=by kernel_rfl
 f200:=Tryz.func88.trans (congrArg some (by kernel_rfl))
 f261:=Tryz.func97.trans (congrArg some (by kernel_rfl))
 f311:=Tryz.func106.trans (congrArg some (by kernel_rfl))
 f312:=Tryz.func107.trans (congrArg some (by kernel_rfl))
 t0:=Tryz.underlying0
 a0:=Tryz.isAgg0
 z0:=Tryz.sizeOf0
 v0:=Tryz.zeroValue0
 t3:=Tryz.underlying3
 a3:=Tryz.isAgg3
 z3:=Tryz.sizeOf3
 v3:=Tryz.zeroValue3
 t4:=Tryz.underlying4
 a4:=Tryz.isAgg4
 z4:=Tryz.sizeOf4
 v4:=Tryz.zeroValue4
 t5:=Tryz.underlying5
 a5:=Tryz.isAgg5
 z5:=Tryz.sizeOf5
 v5:=Tryz.zeroValue5
 t21:=Tryz.underlying21
 a21:=Tryz.isAgg21
 z21:=Tryz.sizeOf21
 v21:=Tryz.zeroValue21
 t46:=Tryz.underlying176
 a46:=Tryz.isAgg176
 z46:=Tryz.sizeOf176
 v46:=Tryz.zeroValue176
 t49:=Tryz.underlying167
 a49:=Tryz.isAgg167
 z49:=Tryz.sizeOf167
 v49:=Tryz.zeroValue167
 t51:=Tryz.underlying156
 a51:=Tryz.isAgg156
 z51:=Tryz.sizeOf156
 v51:=Tryz.zeroValue156
 t119:=Tryz.underlying157
 a119:=Tryz.isAgg157
 z119:=Tryz.sizeOf157
 t141:=Tryz.underlying159
 a141:=Tryz.isAgg159
 z141:=Tryz.sizeOf159
 v141:=Tryz.zeroValue159
 t193:=Tryz.underlying163
 a193:=Tryz.isAgg163
 z193:=Tryz.sizeOf163
 v193:=Tryz.zeroValue163
 t194:=Tryz.underlying164
 a194:=Tryz.isAgg164
 z194:=Tryz.sizeOf164
 v194:=Tryz.zeroValue164
 t196:=Tryz.underlying166
 a196:=Tryz.isAgg166
 z196:=Tryz.sizeOf166
 v196:=Tryz.zeroValue166
 t198:=Tryz.underlying169
 a198:=Tryz.isAgg169
 z198:=Tryz.sizeOf169
 v198:=Tryz.zeroValue169
 t201:=Tryz.underlying172
 a201:=Tryz.isAgg172
 z201:=Tryz.sizeOf172
 v201:=Tryz.zeroValue172
 t226:=Tryz.underlying175
 a226:=Tryz.isAgg175
 z226:=Tryz.sizeOf175
 v226:=Tryz.zeroValue175
 t227:=Tryz.underlying177
 a227:=Tryz.isAgg177
 z227:=Tryz.sizeOf177
 v227:=Tryz.zeroValue177
 g7:=by kernel_rfl
 g8:=by kernel_rfl }
def Tryz.laysUpper_ren:Go.Shelf.Ren:=⟨fun|201=>90|261=>97|311=>106|312=>107|n=>n,fun|21=>21|4=>4|51=>156|5=>5|119=>157|0=>0|141=>159|196=>166|193=>163|3=>3|198=>169|49=>167|194=>164|201=>172|226=>175|46=>176|227=>177|n=>n,fun|7=>0|9=>2|n=>n⟩
theorem Tryz.laysUpper:Go.Proofs.Lays.n201 Tryz.prog Tryz.laysUpper_ren:={
 mixed:=by kernel_rfl
 f201:=Tryz.func90.trans (congrArg some (by kernel_rfl))
 f261:=Tryz.func97.trans (congrArg some (by kernel_rfl))
 f311:=Tryz.func106.trans (congrArg some (by kernel_rfl))
 f312:=Tryz.func107.trans (congrArg some (by kernel_rfl))
 t0:=Tryz.underlying0
 a0:=Tryz.isAgg0
 z0:=Tryz.sizeOf0
 v0:=Tryz.zeroValue0
 t3:=Tryz.underlying3
 a3:=Tryz.isAgg3
 z3:=Tryz.sizeOf3
 v3:=Tryz.zeroValue3
 t4:=Tryz.underlying4
 a4:=Tryz.isAgg4
 z4:=Tryz.sizeOf4
 v4:=Tryz.zeroValue4
 t5:=Tryz.underlying5
 a5:=Tryz.isAgg5
 z5:=Tryz.sizeOf5
 v5:=Tryz.zeroValue5
 t21:=Tryz.underlying21
 a21:=Tryz.isAgg21
 z21:=Tryz.sizeOf21
 v21:=Tryz.zeroValue21
 t46:=Tryz.underlying176
 a46:=Tryz.isAgg176
 z46:=Tryz.sizeOf176
 v46:=Tryz.zeroValue176
 t49:=Tryz.underlying167
 a49:=Tryz.isAgg167
 z49:=Tryz.sizeOf167
 v49:=Tryz.zeroValue167
 t51:=Tryz.underlying156
 a51:=Tryz.isAgg156
 z51:=Tryz.sizeOf156
 v51:=Tryz.zeroValue156
 t119:=Tryz.underlying157
 a119:=Tryz.isAgg157
 z119:=Tryz.sizeOf157
 t141:=Tryz.underlying159
 a141:=Tryz.isAgg159
 z141:=Tryz.sizeOf159
 v141:=Tryz.zeroValue159
 t193:=Tryz.underlying163
 a193:=Tryz.isAgg163
 z193:=Tryz.sizeOf163
 v193:=Tryz.zeroValue163
 t194:=Tryz.underlying164
 a194:=Tryz.isAgg164
 z194:=Tryz.sizeOf164
 v194:=Tryz.zeroValue164
 t196:=Tryz.underlying166
 a196:=Tryz.isAgg166
 z196:=Tryz.sizeOf166
 v196:=Tryz.zeroValue166
 t198:=Tryz.underlying169
 a198:=Tryz.isAgg169
 z198:=Tryz.sizeOf169
 v198:=Tryz.zeroValue169
 t201:=Tryz.underlying172
 a201:=Tryz.isAgg172
 z201:=Tryz.sizeOf172
 v201:=Tryz.zeroValue172
 t226:=Tryz.underlying175
 a226:=Tryz.isAgg175
 z226:=Tryz.sizeOf175
 v226:=Tryz.zeroValue175
 t227:=Tryz.underlying177
 a227:=Tryz.isAgg177
 z227:=Tryz.sizeOf177
 v227:=Tryz.zeroValue177
 g7:=by kernel_rfl
 g9:=by kernel_rfl }
def Tryz.laysDecode_ren:Go.Shelf.Ren:=⟨fun|197=>99|260=>109|n=>n,fun|9=>9|21=>21|3=>3|4=>4|5=>5|105=>128|119=>157|0=>0|46=>176|139=>180|138=>179|n=>n,fun|3=>3|4=>4|n=>n⟩
theorem Tryz.laysDecode:Go.Proofs.Lays.n197 Tryz.prog Tryz.laysDecode_ren:={
 mixed:=by kernel_rfl
 f197:=Tryz.func99.trans (congrArg some (by kernel_rfl))
 f260:=Tryz.func109.trans (congrArg some (by kernel_rfl))
 t0:=Tryz.underlying0
 a0:=Tryz.isAgg0
 z0:=Tryz.sizeOf0
 v0:=Tryz.zeroValue0
 t3:=Tryz.underlying3
 a3:=Tryz.isAgg3
 z3:=Tryz.sizeOf3
 v3:=Tryz.zeroValue3
 t4:=Tryz.underlying4
 a4:=Tryz.isAgg4
 z4:=Tryz.sizeOf4
 v4:=Tryz.zeroValue4
 t5:=Tryz.underlying5
 a5:=Tryz.isAgg5
 z5:=Tryz.sizeOf5
 v5:=Tryz.zeroValue5
 t9:=Tryz.underlying9
 a9:=Tryz.isAgg9
 z9:=Tryz.sizeOf9
 v9:=Tryz.zeroValue9
 t21:=Tryz.underlying21
 a21:=Tryz.isAgg21
 z21:=Tryz.sizeOf21
 v21:=Tryz.zeroValue21
 t46:=Tryz.underlying176
 a46:=Tryz.isAgg176
 z46:=Tryz.sizeOf176
 v46:=Tryz.zeroValue176
 t105:=Tryz.underlying128
 a105:=Tryz.isAgg128
 z105:=Tryz.sizeOf128
 v105:=Tryz.zeroValue128
 t119:=Tryz.underlying157
 a119:=Tryz.isAgg157
 z119:=Tryz.sizeOf157
 t138:=Tryz.underlying179
 a138:=Tryz.isAgg179
 z138:=Tryz.sizeOf179
 v138:=Tryz.zeroValue179
 t139:=Tryz.underlying180
 a139:=Tryz.isAgg180
 z139:=Tryz.sizeOf180
 v139:=Tryz.zeroValue180
 g3:=by kernel_rfl
 g4:=by kernel_rfl }
end Go.Proofs
